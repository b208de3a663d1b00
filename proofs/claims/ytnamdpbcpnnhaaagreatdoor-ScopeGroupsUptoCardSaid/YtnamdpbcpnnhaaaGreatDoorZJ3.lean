/- Part 3 of what the last text needs. No condition. -/
import Derived.Test.YtnamdpbcpnnhaaaGreatDoorZJ2
import Derived.WalkKit
import Derived.ProofKit
import Derived.OpenShut
import Derived.ShutString
import Derived.ChangeOld
import Derived.Below
import Derived.Carry
set_option linter.unusedVariables false
set_option linter.unusedSimpArgs false
set_option linter.unusedSectionVars false
set_option linter.defProp false
set_option maxHeartbeats 4000000
theorem eE{P:Prop}(h:P:=by simpa only[bdd]using hb):P:=h
theorem ek{P:Prop}(h:P:=by simp only[trO];exact h1):P:=h
theorem eK{P:Prop}(h:P:=by simp only[wfO,ec];decide):P:=h
theorem eZ{P:Prop}(h:P:=by cases a):P:=h
theorem eW{P:Prop}(h:P:=by rw[q.2];rintro⟨l,hl,_⟩;cases hl):P:=h
section
namespace Go.Den
open Go.Al
structure TyU where
 I:Type
 den:I->Type
 [deq:DecidableEq I]
attribute [instance] TyU.deq
inductive TM where
 |b (n:Bool)
 |dl
 |ow (t:Nat) (nb:Bool)
inductive T(U:TyU):Type where
 |any
 |int (k:IntKind) (n:Int)
 |bool (b:Bool)
 |str (s:List UInt8)
 |con (v:Value)
 |nil
 |agg (fs:List (T U))
 |tup (vs:List (T U))
 |lst (m:TM) (i:U.I) (xs:List (U.den i))
 |rptr (x:T U)
 |ptr (l:Nat) (o:Nat)
 |ptrE (l:Nat) (k:Nat) (o:Nat)
 |sl (l:Nat) (n:Nat)
 |clo (fn:Fn) (caps:List (T U))
 |ifx
 |hd (l:Nat)
 |sr (l:Nat)
 |lp (l:Nat)
 |cd (i:U.I) (x:U.den i)
 |slE (l a n:Nat)
instance{U:TyU}:Inhabited (T U):=⟨.any⟩
structure Cod(U:TyU) where
 enc:(i:U.I)->U.den i->T U
 encV:(i:U.I)->U.den i->V
 dec:(i:U.I)->{R:Type}->T U->(U.den i->Option R)->Option R
 dflt:(i:U.I)->U.den i
 cells:U.I->Nat
 agg:U.I->Bool
 plain:U.I->Bool
 ifv:(i:U.I)->U.den i->Value:=λ_ _=>.nilIface
 u8:(i:U.I)->Option (U.den i->Int):=λ_=>none
structure NM where
 bl:Nat->Nat
 cp:Nat->Nat
 sz:Nat->Nat
 tk:Nat->Nat
section
variable{U:TyU}(C:Cod U)
def trM(N:NM)(sz:Nat)(es:db V):TM->Tag
 |.b n=>if n then .nil else .no
 |.dl=>zx es
 |.ow t a=>.own (N.tk t) a sz
mutual
def trT(N:NM):T U->V
 |.any=>.any
 |.int k n=>.at (.int k n)
 |.bool b=>.at (.bool b)
 |.str s=>.at (.string ⟨s.toArray⟩)
 |.con v=>.at v
 |.nil=>.lst .nil []
 |.agg fs=>.agg (trTs N fs)
 |.tup vs=>.tup (trTs N vs)
 |.lst m i xs=>.lst (trM N (C.cells i) (xs.map (C.encV i)) m) (xs.map (C.encV i))
 |.rptr x=>.rptr (trT N x)
 |.ptr l o=>.at (.pointer (some ⟨N.bl l,o,none⟩))
 |.ptrE l k o=>.at (.pointer (some ⟨N.bl l,k*N.sz l+o,none⟩))
 |.sl l n=>.at (.slice (some ⟨N.bl l,0,none⟩) n (N.cp l))
 |.clo fn caps=>.clo fn (trTs N caps)
 |.ifx=>.ifx
 |.hd l=>.at (.map (if N.cp l=0 then none else some (N.bl l)))
 |.sr l=>.at (.slice (some ⟨N.bl l,0,none⟩) (N.sz l) (N.cp l))
 |.lp l=>.at (.pointer (if N.cp l=0 then none else some ⟨N.bl l,0,none⟩))
 |.cd i x=>.at (C.ifv i x)
 |.slE l a n=>.at (.slice (some ⟨N.bl l,if N.cp l=a then 0 else a*N.sz l,none⟩) n (N.cp l-a))
def trTs(N:NM):List (T U)->List V
 |[]=>[]
 |x::xs=>trT N x::trTs N xs
end
def xf(N:NM):∀l:db (T U),trTs C N l=l.map (trT C N)
 |[]=>rfl
 |x::r=>by simp[trTs,xf N r]
mutual
/-- Places and tokens that it names are there. -/
def bdd(nl nx:Nat):T U->Bool
 |.ptr l _=>Nat.blt l nl
 |.ptrE l _ _=>Nat.blt l nl
 |.sl l _=>Nat.blt l nl
 |.hd l=>Nat.blt l nl
 |.sr l=>Nat.blt l nl
 |.lp l=>Nat.blt l nl
 |.slE l _ _=>Nat.blt l nl
 |.lst m _ _=>(match m with|.ow t _=>Nat.blt t nx|_=>true)
 |.agg fs=>bdds nl nx fs
 |.tup fs=>bdds nl nx fs
 |.rptr x=>bdd nl nx x
 |.clo _ fs=>bdds nl nx fs
 |_=>true
def bdds(nl nx:Nat):List (T U)->Bool
 |[]=>true
 |x::xs=>bdd nl nx x&&bdds nl nx xs
end
structure Ext(nl nx:Nat)(N N':NM):Prop where
 bl:∀l,l<nl->N'.bl l=N.bl l
 cp:∀l,l<nl->N'.cp l=N.cp l
 sz:∀l,l<nl->N'.sz l=N.sz l
 tk:∀t,t<nx->N'.tk t=N.tk t
def Ext.refl(nl nx:Nat)(N:NM):Ext nl nx N N:=⟨λ_ _=>rfl,λ_ _=>rfl,λ_ _=>rfl,λ_ _=>rfl⟩
def Ext.trans{nl nx b c:Nat}{N e f:NM}(h:Ext nl nx N e)(d:Ext b c e f)(g:nl<=b)(i:nx<=c):Ext nl nx N f:=
 ⟨λl a=>(d.bl l dM).trans (h.bl l a),λl a=>(d.cp l dM).trans (h.cp l a),λl a=>(d.sz l dM).trans (h.sz l a),λl a=>(d.tk l dM).trans (h.tk l a)⟩
def Ext.less{nl nx a b:Nat}{N N':NM}(h:Ext nl nx N N')(d:a<=nl)(e:b<=nx):Ext a b N N':=
 ⟨λl c=>h.bl l dM,λl c=>h.cp l dM,λl c=>h.sz l dM,λl c=>h.tk l dM⟩
def xc{a b:Nat}(h:Nat.blt a b=true):a<b:=by simpa [zVc]using h
mutual
theorem zC8{nl nx:Nat}{N N':NM}(h:Ext nl nx N N'):∀x:T U,bdd nl nx x=true->trT C N' x=trT C N x
 |.any,_=>rfl
 |.cd _ _,_=>rfl
 |.ifx,_=>rfl
 |.int _ _,_=>rfl
 |.bool _,_=>rfl
 |.str _,_=>rfl
 |.con _,_=>rfl
 |.nil,_=>rfl
 |.agg fs,hb=>by simp only[trT];rw[zDJ h fs eE]
 |.tup fs,hb=>by simp only[trT];rw[zDJ h fs eE]
 |.lst m i xs,hb=>by
  simp only[trT];cases m with
  |b n=>rfl
  |dl=>rfl
  |ow t nb=>
   simp only[bdd]at hb;simp only[trM,h.tk t (xc hb)]
 |.rptr x,hb=>by simp only[trT];rw[zC8 h x eE]
 |.ptr l o,hb=>by simp only[bdd]at hb;simp only[trT,h.bl l (xc hb)]
 |.ptrE l k o,hb=>by simp only[bdd]at hb;simp only[trT,h.bl l (xc hb),h.sz l (xc hb)]
 |.sl l n,hb=>by simp only[bdd]at hb;simp only[trT,h.bl l (xc hb),h.cp l (xc hb)]
 |.hd l,hb=>by simp only[bdd]at hb;simp only[trT,h.bl l (xc hb),h.cp l (xc hb)]
 |.sr l,hb=>by simp only[bdd]at hb;simp only[trT,h.bl l (xc hb),h.cp l (xc hb),h.sz l (xc hb)]
 |.lp l,hb=>by simp only[bdd]at hb;simp only[trT,h.bl l (xc hb),h.cp l (xc hb)]
 |.slE l a n,hb=>by simp only[bdd]at hb;simp only[trT,h.bl l (xc hb),h.cp l (xc hb),h.sz l (xc hb)]
 |.clo fn fs,hb=>by simp only[trT];rw[zDJ h fs eE]
theorem zDJ{nl nx:Nat}{N N':NM}(h:Ext nl nx N N'):∀xs:List (T U),bdds nl nx xs=true->trTs C N' xs=trTs C N xs
 |[],_=>rfl
 |x::xs,hb=>by
  simp only[bdds,zUE]at hb;simp only[trTs];rw[zC8 h x hb.1,zDJ h xs hb.2]
end
def zAn{a b c:Nat}(h:Nat.blt a b=true)(d:b<=c):Nat.blt a c=true:=by
 have:=xc h;simp[zVc];omega
mutual
theorem zCG{nl nx nl' nx':Nat}(h1:nl<=nl')(h2:nx<=nx'):∀x:T U,bdd nl nx x=true->bdd nl' nx' x=true
 |.any,_=>rfl
 |.cd _ _,_=>rfl
 |.ifx,_=>rfl
 |.int _ _,_=>rfl
 |.bool _,_=>rfl
 |.str _,_=>rfl
 |.con _,_=>rfl
 |.nil,_=>rfl
 |.agg fs,hb=>by simp only[bdd]at hb ⊢;exact qZ h1 h2 fs hb
 |.tup fs,hb=>by simp only[bdd]at hb ⊢;exact qZ h1 h2 fs hb
 |.lst m i xs,hb=>by
  cases m with
  |b n=>rfl
  |dl=>rfl
  |ow t nb=>simp only[bdd]at hb ⊢;exact zAn hb h2
 |.rptr x,hb=>by simp only[bdd]at hb ⊢;exact zCG h1 h2 x hb
 |.ptr l o,hb=>by simp only[bdd]at hb ⊢;exact zAn hb h1
 |.ptrE l k o,hb=>by simp only[bdd]at hb ⊢;exact zAn hb h1
 |.sl l n,hb=>by simp only[bdd]at hb ⊢;exact zAn hb h1
 |.hd l,hb=>by simp only[bdd]at hb ⊢;exact zAn hb h1
 |.sr l,hb=>by simp only[bdd]at hb ⊢;exact zAn hb h1
 |.lp l,hb=>by simp only[bdd]at hb ⊢;exact zAn hb h1
 |.slE l _ _,hb=>by simp only[bdd]at hb ⊢;exact zAn hb h1
 |.clo fn fs,hb=>by simp only[bdd]at hb ⊢;exact qZ h1 h2 fs hb
theorem qZ{nl nx nl' nx':Nat}(h1:nl<=nl')(h2:nx<=nx'):∀xs:List (T U),bdds nl nx xs=true->bdds nl' nx' xs=true
 |[],_=>rfl
 |x::xs,hb=>by
  simp only[bdds,zUE]at hb ⊢;exact⟨zCG h1 h2 x hb.1,qZ h1 h2 xs hb.2⟩
end
structure CodOk:Prop where
 enc:∀N i x,trT C N (C.enc i x)=C.encV i x
 bd:∀i x,bdd 0 0 (C.enc i x)=true
 dec:∀i {R:Type} v (k:U.den i->Option R) r,C.dec i v k=some r->∃x,k x=some r/\∀N,(trT C N v).untag=C.encV i x
 decP:∀i {R:Type} v (k:U.den i->Option R) r,C.plain i=true->C.dec i v k=some r->∃x,k x=some r/\∀N,trT C N v=C.encV i x
 size:∀i x,(C.encV i x).size=C.cells i
 isAgg:∀i x,(C.encV i x).isAgg=C.agg i
 ones:∀i x,zM (C.encV i x).flat
 untag:∀i x,(C.encV i x).untag=C.encV i x
 one:∀i,C.agg i=false->C.cells i=1
 pos:∀i,0<C.cells i
 byt:∀i f,C.u8 i=some f->∀x,C.encV i x=.at (.int .u8 (f x))
def T.flat:T U->db (T U)
 |.agg fs=>fs
 |x=>[x]
def T.isOne:T U->dd
 |.any|.agg _|.tup _=>false
 |_=>true
def yz(l:db (T U)):dd:=l.all T.isOne
def jw(N:NM)(x:T U):(trT C N x).flat=x.flat.map (trT C N):=by
 cases x<;>simp[T.flat,trT,V.flat,xf]
def zMN(N:NM)(x:T U):(trT C N x).isOne=x.isOne:=by
 cases x<;>rfl
def qO(N:NM)(l:db (T U)):zM (l.map (trT C N))↔yz l=true:=by
 unfold zM yz;rw[List.all_map];have:(V.isOne∘trT C N)=T.isOne:=funext λx=>zMN C N x;rw[this]
def zLG(N:NM)(x:T U):(trT C N x).isAgg=(match x with|.agg _=>true|_=>false):=by
 cases x<;>rfl
def cT1:dh->T U
 |.slice none 0 0=>.nil
 |.agg _=>.any
 |.tuple _=>.any
 |.int k n=>.int k n
 |.bool b=>.bool b
 |.string s=>.str s.data.toList
 |v=>.con v
def cT:dh->T U
 |.agg cs=>if cs.toList.all one then .agg (cs.toList.map cT1)else .any
 |v=>cT1 v
def zKc(N:NM)(v:dh):trT C N (cT1 v)=cV1 v:=by
 unfold cT1;split<;>simp[trT,cV1]
def cT_tr(N:NM)(v:dh):trT C N (cT v)=cV v:=by
 unfold cT cV;cases v<;>simp only[zKc]
 split
 .simp only[trT,xf,zVr];congr 1;exact zVQ λv _=>zKc C N v
 .rfl
end
open Go.Al
inductive KQ where
 |i
 |b
 |s
def vkq:db KQ->db dh->db dh->dd
 |[],us,vs=>us.isEmpty&&vs.isEmpty
 |q::r,us,vs=>(match us,vs with
  |u::us,v::vs=>(match q,u,v with
   |.i,.int k _,.int a _=>decide (k=a)&&vkq r us vs
   |.b,.bool _,.bool _=>vkq r us vs
   |.s,.string _,.string _=>vkq r us vs
   |_,_,_=>false)
  |_,_=>false)
def eqVs:db dh->db dh->dd
 |u::us,v::vs=>eqAt (some u) (some v)&&eqVs us vs
 |_,_=>true
def zNt{r:db KQ}{us vs:db dh}(h:vkq (.i::r) us vs=true):∃k n m p q,us=.int k n::p/\vs=.int k m::q/\vkq r p q=true:=by
 cases us with
 |nil=>cases h
 |cons u p=>
  cases vs with
  |nil=>cases u<;>cases h
  |cons v q=>
   cases u<;>try(cases h;done)
   cases v<;>try(cases h;done)
   rename_i k n a m;simp only[vkq,zUE,zU7]at h;obtain⟨rfl,h⟩:=h;exact⟨_,_,_,_,_,rfl,rfl,h⟩
def vkq_b{r:db KQ}{us vs:db dh}(h:vkq (.b::r) us vs=true):∃n m p q,us=.bool n::p/\vs=.bool m::q/\vkq r p q=true:=by
 cases us with
 |nil=>cases h
 |cons u p=>
  cases vs with
  |nil=>cases u<;>cases h
  |cons v q=>
   cases u<;>try(cases h;done)
   cases v<;>try(cases h;done)
   exact⟨_,_,_,_,rfl,rfl,h⟩
def vkq_s{r:db KQ}{us vs:db dh}(h:vkq (.s::r) us vs=true):∃n m p q,us=.string n::p/\vs=.string m::q/\vkq r p q=true:=by
 cases us with
 |nil=>cases h
 |cons u p=>
  cases vs with
  |nil=>cases u<;>cases h
  |cons v q=>
   cases u<;>try(cases h;done)
   cases v<;>try(cases h;done)
   exact⟨_,_,_,_,rfl,rfl,h⟩
def zMs{us vs:db dh}(h:vkq [] us vs=true):us=[]/\vs=[]:=by
 cases us with
 |nil=>cases vs with
  |nil=>exact⟨rfl,rfl⟩
  |cons v q=>cases h
 |cons u q=>cases h
def zE9:∀{l:db KQ}{us vs:db dh},vkq l us vs=true->zB3 us vs=true
 |[],us,vs,h=>by obtain⟨rfl,rfl⟩:=zMs h;rfl
 |.i::r,us,vs,h=>by
  obtain⟨k,n,m,p,q,rfl,rfl,a⟩:=zNt h;simp only[zB3,decide_true,zUU];exact zE9 a
 |.b::r,us,vs,h=>by
  obtain⟨n,m,p,q,rfl,rfl,a⟩:=vkq_b h;simp only[zB3,zUU];exact zE9 a
 |.s::r,us,vs,h=>by
  obtain⟨n,m,p,q,rfl,rfl,a⟩:=vkq_s h;simp only[zB3,zUU];exact zE9 a
structure TD(U:TyU) where
 has:Bool:=false
 agg:Bool:=false
 cells:Nat:=0
 bytes:Nat:=0
 el:Option TypeId:=none
 code:Option U.I:=none
 flds:List (Nat×TypeId):=[]
 isStruct:Bool:=false
 isStr:Bool:=false
 isBool:Bool:=false
 isIfc:Bool:=false
 ik:Option IntKind:=none
 zero:Option (List (T U)):=none
 arr:Option (Nat×U.I):=none
 isByt:Bool:=false
 bpl:List (Nat×TypeId):=[]
 mki:{R:Type}->T U->((i:U.I)->U.den i->Option R)->Option R:=λ_ _=>none
 eqk:Option (List KQ):=none
 mpi:Bool:=false
def fieldsOf(P:di)(t:dg):db (Nat×dg):=match P.underlying t with|some (.struct fs)=>fs.toList.map λf=>(f.offset,f.type)|_=>[]
def zH8(P:di)(t:dg)(i:Nat):fieldAt P t i=(fieldsOf P t)[i]?:=by
 unfold fieldAt fieldsOf;cases P.underlying t with
 |none=>rfl
 |some d=>cases d<;>simp
def mkV(t:dg):V->da dh
 |.at v=>some (.iface t v)
 |.agg fs=>(atsV fs).map λus=>.iface t (.agg us.toArray)
 |_=>none
structure Facts{U:TyU}(C:Cod U)(P:Program)(t:TypeId)(d:TD U):Prop where
 has:hasT P t=true
 agg:xr P t=d.agg
 cells:P.cellsOf t=d.cells
 bytes:P.bytesOf t=d.bytes
 el:elT P t=d.el
 flds:fieldsOf P t=d.flds
 isStruct:zD9 P t=d.isStruct
 isStr:zBj P t=d.isStr
 isBool:zGt P t=d.isBool
 isIfc:zF4 P t=d.isIfc
 ik:intT P t=d.ik
 zero:∀N,xU P t=d.zero.map λl=>l.map (trT C N)
 code:∀i,d.code=some i->C.cells i=d.cells/\C.agg i=d.agg
 arr:∀n i,d.arr=some (n,i)->arrT P t=some n
 isByt:isBytT P t=d.isByt\/d.isByt=false
 bpl:zEt P t=d.bpl\/d.bpl=[]
 mki:∀{R:Type}(x:T U)(k:(i:U.I)->U.den i->Option R)(r:R),d.mki x k=some r->P.concrete t=true/\∃i v,k i v=some r/\∀N,mkV t (trT C N x)=some (C.ifv i v)
 eqs:∀l,d.eqk=some l->∀us vs,vkq l us vs=true->zFJ P t us vs=true/\zFA P t us vs=eqVs us vs
 mpi:d.mpi=true->∃e,mapT P t=some e/\zAk P e=some (.int .i64 0)
def yC{P:di}{t:dg}{l:db KQ}(h:(none:da (db KQ))=some l):∀us vs,vkq l us vs=true->zFJ P t us vs=true/\zFA P t us vs=eqVs us vs:=dU
inductive Bx(U:TyU) where
 |st (cs:List (T U))
 |ar (i:U.I) (xs:List (U.den i))
abbrev MT:=db (db UInt8×Int)
inductive TO where
 |mp (c:MT)
 |sc (xs:List MT)
 |lv (xs:List (MT×MT))
 |l1 (x:MT×MT)
structure St(U:TyU) where
 bx:List (Nat×Option (Bx U))
 tg:List Nat
 nl:Nat
 nx:Nat
 ob:List (Nat×Option TO)
abbrev En(U:TyU):=db (Nat×T U)
section
variable{U:TyU}
def lk:db (Nat×da (Bx U))->Nat->da (Bx U)
 |[],_=>none
 |(k,b)::r,l=>bif Nat.beq k l then b else lk r l
def lko:db (Nat×da TO)->Nat->da TO
 |[],_=>none
 |(k,b)::r,l=>bif Nat.beq k l then b else lko r l
def eget:En U->Nat->T U
 |[],_=>.any
 |(k,x)::r,j=>bif Nat.beq k j then x else eget r j
def eput(e:En U):da Nat->T U->En U
 |none,_=>e
 |some d,x=>(d,x)::e
def gT(g:Nat):T U:=match zGl zGr g with|some us=>.rptr (.agg (us.map cT1))|none=>.con (.pointer (some ⟨g,0,none⟩))
def evT(e:En U):dq->T U
 |.tmp t=>eget e t
 |.const v=>cT v
 |.global g=>gT g
 |.func f=>.clo (.func f) []
def hasN:db Nat->Nat->dd
 |[],_=>false
 |k::r,t=>bif Nat.beq k t then true else hasN r t
def rmN:db Nat->Nat->db Nat
 |[],_=>[]
 |k::r,t=>bif Nat.beq k t then rmN r t else k::rmN r t
def fe{R:Type}(x:T U)(k:T U->da R):da R:=
 match x with
 |.any=>k .any
 |.int a b=>k (.int a b)
 |.bool b=>k (.bool b)
 |.str s=>k (.str s)
 |.con v=>k (.con v)
 |.nil=>k .nil
 |.agg fs=>k (.agg fs)
 |.tup vs=>k (.tup vs)
 |.lst m i xs=>k (.lst m i xs)
 |.rptr x=>k (.rptr x)
 |.ptr l o=>k (.ptr l o)
 |.ptrE l a o=>k (.ptrE l a o)
 |.sl l n=>k (.sl l n)
 |.clo c caps=>k (.clo c caps)
 |.ifx=>k .ifx
 |.hd l=>k (.hd l)
 |.sr l=>k (.sr l)
 |.lp l=>k (.lp l)
 |.cd i x=>k (.cd i x)
 |.slE l a n=>k (.slE l a n)
def zDr{R:Type}(x:T U)(k:T U->da R):fe x k=k x:=by cases x<;>rfl
def feL{R:Type}:db (T U)->(db (T U)->da R)->da R
 |[],k=>k []
 |x::xs,k=>feL xs λys=>k (x::ys)
def zBo{R:Type}:∀(l:db (T U))(k:db (T U)->da R),feL l k=k l
 |[],_=>rfl
 |x::xs,k=>by simp[feL,zBo xs]
def fN{R:Type}(n:Nat)(k:Nat->da R):da R:=
 match n with
 |0=>k 0
 |m+1=>k (Nat.succ m)
def zKW{R:Type}(n:Nat)(k:Nat->da R):fN n k=k n:=by cases n<;>rfl
def feB{R:Type}:db (Nat×da (Bx U))->(db (Nat×da (Bx U))->da R)->da R
 |[],k=>k []
 |p::r,k=>match p with|(l,b)=>fN l λl=>feB r λa=>k ((l,b)::a)
def zPI{R:Type}:∀(l:db (Nat×da (Bx U)))(k:db (Nat×da (Bx U))->da R),feB l k=k l
 |[],_=>rfl
 |(l,b)::r,k=>by simp only[feB,zKW,zPI r]
def feO{R:Type}:db (Nat×da TO)->(db (Nat×da TO)->da R)->da R
 |[],k=>k []
 |p::r,k=>match p with|(l,b)=>fN l λl=>feO r λa=>k ((l,b)::a)
def zPY{R:Type}:∀(l:db (Nat×da TO))(k:db (Nat×da TO)->da R),feO l k=k l
 |[],_=>rfl
 |(l,b)::r,k=>by simp only[feO,zKW,zPY r]
def feS{R:Type}(st:St U)(k:St U->da R):da R:=
 match st with
 |⟨bx,tg,nl,nx,a⟩=>fN nl λnl=>fN nx λnx=>feB bx λbx=>feO a λa=>k ⟨bx,tg,nl,nx,a⟩
def jF{R:Type}(st:St U)(k:St U->da R):feS st k=k st:=by
 cases st;simp only[feS,zKW,zPI,zPY]
def zIc{R:Type}(e:En U)(d:da Nat)(x:T U)(k:En U->da R):da R:=
 match d with
 |none=>k e
 |some d=>k ((d,x)::e)
def zHD{R:Type}(e:En U)(d:da Nat)(x:T U)(k:En U->da R):zIc e d x k=k (eput e d x):=by cases d<;>rfl
def feA{R:Type}:db (T U)->(db (T U)->da R)->da R
 |[],k=>k []
 |x::xs,k=>fe x λx=>feA xs λys=>k (x::ys)
def zDM{R:Type}:∀(l:db (T U))(k:db (T U)->da R),feA l k=k l
 |[],_=>rfl
 |x::xs,k=>by simp only[feA,zDr,zDM xs]
def feP{R:Type}:db (Nat×T U)->(db (Nat×T U)->da R)->da R
 |[],k=>k []
 |p::xs,k=>match p with|(i,x)=>fe x λx=>feP xs λys=>k ((i,x)::ys)
def zMC{R:Type}:∀(l:db (Nat×T U))(k:db (Nat×T U)->da R),feP l k=k l
 |[],_=>rfl
 |(i,x)::xs,k=>by simp only[feP,zDr,zMC xs]
def inB(n:Int)(len:Nat):dd:=decide (0<=n)&&decide (n<(len:Int))
def inS(l h:Int)(len:Nat):dd:=decide (0<=l)&&decide (l<=h)&&decide (h<=(len:Int))
def okN(b n:Nat):dd:=decide (n*b<=140737488355328)&&decide (n<=maxLen)
def iadd(k:dm)(a b:Int):Int:=k.wrap (a+b)
def isub(k:dm)(a b:Int):Int:=k.wrap (a-b)
def imul(k:dm)(a b:Int):Int:=k.wrap (a*b)
def iquo(k:dm)(a b:Int):Int:=k.wrap (a.tdiv b)
def irem(a b:Int):Int:=a.tmod b
def jand(k:dm)(a b:Int):Int:=iand k a b
def jor(k:dm)(a b:Int):Int:=ior k a b
def jxor(k:dm)(a b:Int):Int:=ixor k a b
def jandn(k:dm)(a b:Int):Int:=zNx k a b
def jshl(k:dm)(a b:Int):Int:=ishl k a b
def jshr(k:dm)(a b:Int):Int:=ishr k a b
def jnot(k:dm)(a:Int):Int:=inot k a
def ieq(a b:Int):dd:=a==b
def ine(a b:Int):dd:=a != b
def ilt(a b:Int):dd:=decide (a<b)
def ile(a b:Int):dd:=decide (a<=b)
def seq(a b:db UInt8):dd:=a==b
def beqB(a b:dd):dd:=a==b
def okS(n:Nat):dd:=Nat.ble n 9223372036854775807
def okS_le{n:Nat}(h:okS n=true):(n:Int)<=IntKind.i64.max:=by
 have a:n<=9223372036854775807:=zV2 h;have b:IntKind.i64.max=9223372036854775807:=dP
 omega
def zGE(s:db UInt8)(n:Int):Int:=((s.getD n.toNat 0).toNat:Int)
def cutL{α:Type}(xs:db α)(l h:Int):db α:=(xs.take h.toNat).drop l.toNat
def qq{α:Type}(n:Nat)(xs:db α):db α:=xs.take n
def lenI{α:Type}(xs:db α):Int:=(xs.length:Int)
section ops
variable{R:Type}(C:Cod U)(Tb:dg->TD U)
def zNu(c a b:T U)(k:T U->da R):da R:=
 match c with
 |.bool t=>bif t then k a else k b
 |_=>none
def dInt(c:BinOp)(kk:dm)(a b:Int)(k:T U->da R):da R:=
 match c with
 |.add=>k (.int kk (iadd kk a b))
 |.sub=>k (.int kk (isub kk a b))
 |.mul=>k (.int kk (imul kk a b))
 |.quo=>bif ine b 0 then k (.int kk (iquo kk a b))else none
 |.rem=>bif ine b 0 then k (.int kk (irem a b))else none
 |.eql=>k (.bool (ieq a b))
 |.neq=>k (.bool (ine a b))
 |.lss=>k (.bool (ilt a b))
 |.leq=>k (.bool (ile a b))
 |.gtr=>k (.bool (ilt b a))
 |.geq=>k (.bool (ile b a))
 |.and=>k (.int kk (jand kk a b))
 |.or=>k (.int kk (jor kk a b))
 |.xor=>k (.int kk (jxor kk a b))
 |.andNot=>k (.int kk (jandn kk a b))
 |.shl=>bif ile 0 b then k (.int kk (jshl kk a b))else none
 |.shr=>bif ile 0 b then k (.int kk (jshr kk a b))else none
def dStr(c:BinOp)(a b:db UInt8)(k:T U->da R):da R:=
 match c with
 |.add=>bif okS (a.length+b.length)then k (.str (a++b))else none
 |.eql=>k (.bool (seq a b))
 |.neq=>k (.bool (!(seq a b)))
 |_=>none
def zOj(c:BinOp)(a b:dd)(k:T U->da R):da R:=
 match c with
 |.eql=>k (.bool (beqB a b))
 |.neq=>k (.bool (!(beqB a b)))
 |_=>none
def nilT{α:Type}:TM->db α->dd
 |.b n,_=>n
 |.dl,xs=>xs.isEmpty
 |.ow _ a,xs=>a&&xs.isEmpty
def dNil(a:BinOp)(b:dd)(k:T U->da R):da R:=
 match a with
 |.eql=>k (.bool b)
 |.neq=>k (.bool (!b))
 |_=>none
def zEP:dh->dd
 |.nilIface=>true
 |_=>false
def isSh:BinOp->dd
 |.shl=>true
 |.shr=>true
 |_=>false
def kqT:db KQ->db (T U)->db (T U)->dd
 |[],xs,ys=>(match xs with|[]=>(match ys with|[]=>true|_::_=>false)|_::_=>false)
 |q::r,xs,ys=>(match xs with
  |[]=>false
  |x::xs=>(match ys with
   |[]=>false
   |y::ys=>(match q with
    |.i=>(match x with|.int k _=>(match y with|.int a _=>decide (k=a)&&kqT r xs ys|_=>false)|_=>false)
    |.b=>(match x with|.bool _=>(match y with|.bool _=>kqT r xs ys|_=>false)|_=>false)
    |.s=>(match x with|.str _=>(match y with|.str _=>kqT r xs ys|_=>false)|_=>false))))
def dEqs:db (T U)->db (T U)->dd
 |[],_=>true
 |x::xs,ys=>(match ys with
  |[]=>true
  |y::ys=>(match x with
   |.int _ a=>(match y with|.int _ b=>cond (ieq a b) (dEqs xs ys) false|_=>false)
   |.bool a=>(match y with|.bool b=>cond (beqB a b) (dEqs xs ys) false|_=>false)
   |.str a=>(match y with|.str b=>cond (seq a b) (dEqs xs ys) false|_=>false)
   |_=>false))
def dBin(d:BinOp)(t:dg)(c:dd)(x y:T U)(k:T U->da R):da R:=
 match x with
 |.int e a=>(match y with|.int g b=>bif decide (e=g)||isSh d then dInt d e a b k else none|_=>none)
 |.bool a=>(match y with|.bool b=>bif (Tb t).isBool&&(Tb t).has then zOj d a b k else none|_=>none)
 |.str a=>(match y with|.str b=>dStr d a b k|_=>none)
 |.lst m i xs=>(match y with|.nil=>bif (Tb t).el.isSome&&(Tb t).has then dNil d (nilT m xs) k else none|_=>none)
 |.nil=>(match y with|.nil=>bif (Tb t).el.isSome&&(Tb t).has then dNil d true k else none|_=>none)
 |.ifx=>(match y with|.con v=>bif zEP v&&(Tb t).isIfc&&(Tb t).has then dNil d false k else none|_=>none)
 |.con u=>(match y with|.con v=>bif zEP u&&zEP v&&(Tb t).isIfc&&(Tb t).has&&c then dNil d true k else none|_=>none)
 |.agg fs=>(match y with|.agg f=>(match(Tb t).eqk with|some l=>bif (Tb t).has&&kqT l fs f then dNil d (dEqs fs f) k else none|none=>none)|_=>none)
 |_=>none
def dUn(a:UnOp)(x:T U)(k:T U->da R):da R:=
 match x with
 |.bool b=>(match a with|.not=>k (.bool !b)|_=>none)
 |.int kk n=>(match a with|.neg=>k (.int kk (isub kk 0 n))|.xor=>k (.int kk (jnot kk n))|_=>none)
 |_=>none
def zG8(x:T U)(i:Nat)(k:T U->da R):da R:=
 match x with
 |.tup vs=>bif Nat.blt i vs.length then k (vs.getD i .any)else none
 |_=>none
def zGe(fs:db (T U))(a:Nat)(d:TD U)(k:T U->da R):da R:=
 bif d.has&&Nat.ble (a+d.cells) fs.length&&(d.agg||Nat.beq d.cells 1)then
  bif d.agg then feL ((fs.drop a).take d.cells) λl=>k (.agg l)else k (fs.getD a .any)
 else none
def zFd(t:dg)(x:T U)(f:Nat)(k:T U->da R):da R:=
 match(Tb t).flds[f]? with
 |none=>none
 |some p=>
  bif (Tb t).has&&(Tb p.2).has&&Nat.blt 0 (Tb p.2).cells then
   match x with
   |.rptr y=>(match y with
    |.agg fs=>bif yz fs then zGe fs p.1 (Tb p.2) λv=>k (.rptr v)else none
    |_=>none)
   |.ptr l o=>k (.ptr l (o+p.1))
   |.ptrE l a o=>k (.ptrE l a (o+p.1))
   |_=>none
  else none
def zDP(t:dg)(k:U.I->dg->TD U->da R):da R:=
 match(Tb t).el with
 |none=>none
 |some el=>bif (Tb t).has&&(Tb el).has then(match(Tb el).code with|some i=>k i el (Tb el)|none=>none)else none
def zFT(st:St U)(t:dg)(x n:T U)(k:T U->da R):da R:=
 zDP Tb t λi _ _=>
 match n with
 |.int _ n=>
  (match x with
  |.lst _ j xs=>bif decide (j=i)&&inB n xs.length then k (.rptr (C.enc j (xs.getD n.toNat (C.dflt j))))else none
  |.sl l m=>(match lk st.bx l with
   |some (.ar j _)=>bif decide (j=i)&&inB n m then k (.ptrE l n.toNat 0)else none
   |_=>none)
  |_=>none)
 |_=>none
def zKI(i:U.I):db (T U)->(db (U.den i)->da R)->da R
 |[],k=>k []
 |x::r,k=>C.dec i x λy=>zKI i r λys=>k (y::ys)
def zKn(t:dg)(x n:T U)(k:T U->da R):da R:=
 match x with
 |.str s=>(match n with
  |.int _ n=>bif (Tb t).has&&(Tb t).isStr&&inB n s.length then k (.int .u8 (zGE s n))else none
  |_=>none)
 |.agg fs=>(match n with
  |.int _ n=>(match(Tb t).arr with
   |some (m,i)=>bif (Tb t).has&&C.plain i&&!C.agg i&&yz fs&&Nat.beq m fs.length&&inB n fs.length then zKI C i fs λxs=>k (C.enc i (xs.getD n.toNat (C.dflt i)))else none
   |none=>none)
  |_=>none)
 |_=>none
def zOc(d:TD U)(y:T U):dd:=
 match y with
 |.agg fs=>d.has&&d.agg&&yz fs&&Nat.beq fs.length d.cells
 |x=>d.has&&!d.agg&&x.isOne&&Nat.beq d.cells 1
def zKK(st:St U)(t:dg)(x:T U)(k:T U->da R):da R:=
 match x with
 |.rptr y=>bif zOc (Tb t) y then k y else none
 |.ptr l o=>(match lk st.bx l with
  |some (.st cs)=>zGe cs o (Tb t) k
  |_=>none)
 |.ptrE l a o=>(match lk st.bx l with
  |some (.ar i xs)=>bif Nat.ble (o+(Tb t).cells) (C.cells i)&&Nat.blt a xs.length then feL (C.enc i (xs.getD a (C.dflt i))).flat λl=>zGe l o (Tb t) k else none
  |_=>none)
 |_=>none
def splT(cs:db (T U))(o:Nat)(xs:db (T U)):db (T U):=cs.take o++xs++cs.drop (o+xs.length)
def asEl(a:dd)(l:db (T U)):T U:=bif a then .agg l else l.headD .any
def zL4(st:St U)(t:dg)(x y:T U)(k:St U->da R):da R:=
 feL y.flat λyf=>
 bif (Tb t).has&&Nat.beq yf.length (Tb t).cells&&yz yf then
  match x with
  |.ptr l o=>(match lk st.bx l with
   |some (.st cs)=>bif Nat.ble (o+yf.length) cs.length&&bdds st.nl st.nx yf then
    feL (splT cs o yf) λcs'=>k ⟨(l,some (.st cs'))::st.bx,st.tg,st.nl,st.nx,st.ob⟩else none
   |_=>none)
  |.ptrE l a o=>(match lk st.bx l with
   |some (.ar i xs)=>bif C.plain i&&Nat.ble (o+yf.length) (C.cells i)&&Nat.blt a xs.length then
    C.dec i (asEl (C.agg i) (splT (C.enc i (xs.getD a (C.dflt i))).flat o yf)) λb=>k ⟨(l,some (.ar i (xs.set a b)))::st.bx,st.tg,st.nl,st.nx,st.ob⟩else none
   |_=>none)
  |_=>none
 else none
def dNew(st:St U)(cs:db (T U))(k:T U->St U->da R):da R:=
 bif yz cs&&bdds st.nl st.nx cs then k (.ptr st.nl 0) ⟨(st.nl,some (.st cs))::st.bx,st.tg,st.nl+1,st.nx,st.ob⟩else none
def zP2(st:St U)(t:dg)(k:T U->St U->da R):da R:=
 bif (Tb t).has then(match(Tb t).zero with|some cs=>dNew st cs k|none=>none)else none
def zGq(a:db (Nat×dg)):db (T U)->db (Nat×T U)->(db (T U)->da R)->da R
 |cells,[],k=>k cells
 |cells,(i,x)::b,k=>
  match a[i]? with
  |none=>none
  |some p=>bif (Tb p.2).has&&Nat.beq x.flat.length (Tb p.2).cells&&Nat.ble (p.1+(Tb p.2).cells) cells.length&&yz x.flat then
   feL (splT cells p.1 x.flat) λcells'=>zGq a cells' b k else none
def zLK(t:dg)(parts:db (Nat×T U))(k:T U->da R):da R:=
 bif (Tb t).has&&(Tb t).isStruct then
  (match(Tb t).zero with
  |some cs=>zGq Tb (Tb t).flds cs parts λl=>k (.agg l)
  |none=>none)else
 match(Tb t).bpl with
 |[]=>none
 |p::ps=>bif (Tb t).has&&(Tb p.2).has then(match(Tb t).zero with
  |some cs=>zGq Tb (p::ps) cs parts λl=>k (.agg l)
  |none=>none)else none
def zIZ(i:U.I):db (Nat×T U)->(db (U.den i)->da R)->da R
 |[],k=>k []
 |p::r,k=>C.dec i p.2 λx=>zIZ i r λxs=>k (x::xs)
def zKJ:Nat->db (Nat×T U)->dd
 |_,[]=>true
 |n,(i,_)::r=>Nat.beq i n&&zKJ (n+1) r
def zC9:db (Nat×T U)->dd
 |[]=>true
 |p::r=>yz p.2.flat&&zC9 r
def wrD(a:Nat->dd):da Nat->dd
 |some d=>a d
 |none=>false
def zEL(c own:Nat->dd)(a:da Nat)(st:St U)(t:dg)(n:Nat)(parts:db (Nat×T U))(k:T U->St U->da R):da R:=
 zDP Tb t λi _ d=>
 bif (match d.zero with|some z=>Nat.beq z.length d.cells|none=>false)&&Nat.ble (n*d.cells) 16777216&&decide (n<=maxLen)&&Nat.beq parts.length n&&zKJ 0 parts&&zC9 parts then
  zIZ C i parts λxs=>
   bif wrD c a then
    bif C.plain i then k (.sl st.nl n) ⟨(st.nl,some (.ar i xs))::st.bx,st.tg,st.nl+1,st.nx,st.ob⟩else none
   else bif wrD own a then k (.lst (.ow st.nx false) i xs) ⟨st.bx,st.nx::st.tg,st.nl,st.nx+1,st.ob⟩
   else k (.lst (.b false) i xs) st
 else none
def dLen(t:dg)(x:T U)(k:T U->da R):da R:=
 match x with
 |.lst _ _ xs=>bif (Tb t).has&&(Tb t).el.isSome then k (.int .i64 (lenI xs))else none
 |.nil=>bif (Tb t).has&&(Tb t).el.isSome then k (.int .i64 0)else none
 |.sl _ n=>bif (Tb t).has&&(Tb t).el.isSome then k (.int .i64 (n:Int))else none
 |.str s=>bif (Tb t).has&&(Tb t).isStr then k (.int .i64 (lenI s))else none
 |_=>none
def zAX{i j:U.I}(h:j=i)(xs:db (U.den j)):db (U.den i):=h▸xs
def zAZ{R:Type}(i j:U.I)(xs:db (U.den j))(k:db (U.den i)->da R):da R:=
 if h:j=i then k (zAX h xs)else none
def zJE(f:Nat->dd)(b:da Nat)(st:St U)(t g:dg)(s x:T U)(k:T U->St U->da R):da R:=
 zDP Tb t λi _ d=>
 bif Nat.beq t g&&(match d.zero with|some z=>Nat.beq z.length d.cells|none=>false)then
  match x with
  |.lst _ j c=>zAZ i j c λys=>
   (match s with
   |.nil=>bif okN d.bytes ys.length then
    (bif wrD f b then
     bif !ys.isEmpty then k (.sl st.nl ys.length) ⟨(st.nl,some (.ar i ys))::st.bx,st.tg,st.nl+1,st.nx,st.ob⟩else none
    else k (.lst (.ow st.nx true) i ys) ⟨st.bx,st.nx::st.tg,st.nl,st.nx+1,st.ob⟩)else none
   |.lst m e a=>(match m with
    |.ow tk h=>zAZ i e a λxs=>bif hasN st.tg tk&&okN d.bytes (xs.length+ys.length)then
     k (.lst (.ow st.nx h) i (xs++ys)) ⟨st.bx,st.nx::rmN st.tg tk,st.nl,st.nx+1,st.ob⟩else none
    |_=>none)
   |.sl l n=>(match lk st.bx l with
    |some (.ar e a)=>zAZ i e a λxs=>bif wrD f b&&Nat.ble n xs.length&&okN d.bytes (n+ys.length)then
     k (.sl st.nl (n+ys.length)) ⟨(st.nl,some (.ar i (xs.take n++ys)))::(l,none)::st.bx,st.tg,st.nl+1,st.nx,st.ob⟩else none
    |_=>none)
   |_=>none)
  |_=>none
 else none
def zCl(x:da (T U))(d:Int)(k:Int->da R):da R:=
 match x with
 |none=>k d
 |some x=>(match x with|.int _ n=>k n|_=>none)
def cutM{α:Type}:TM->db α->TM
 |.b n,_=>.b n
 |.dl,xs=>.b xs.isEmpty
 |.ow _ a,xs=>bif a then .b xs.isEmpty else .b false
def zME(st:St U)(t:dg)(x:T U)(lo hi:da (T U))(k:T U->da R):da R:=
 match x with
 |.lst m j xs=>zDP Tb t λi _ _=>bif decide (j=i)then
  zCl lo 0 λl=>zCl hi (lenI xs) λh=>bif inS l h xs.length then k (.lst (cutM m xs) j (cutL xs l h))else none
  else none
 |.sl l0 n=>zDP Tb t λi _ _=>
  (match lo with
  |none=>(match lk st.bx l0 with
   |some (.ar j xs)=>bif decide (j=i)then zCl hi (n:Int) λh=>bif inS 0 h xs.length then k (.sl l0 h.toNat)else none else none
   |_=>none)
  |some lo=>(match lo with
   |.int _ a=>(match lk st.bx l0 with
    |some (.ar j xs)=>bif decide (j=i)then zCl hi (n:Int) λh=>bif inS a h xs.length then k (.slE l0 a.toNat (h.toNat-a.toNat))else none else none
    |_=>none)
   |_=>none))
 |.str s=>bif (Tb t).has&&(Tb t).isStr then
  zCl lo 0 λl=>zCl hi (lenI s) λh=>bif inS l h s.length then k (.str (cutL s l h))else none
  else none
 |.rptr x=>(match x with
  |.agg fs=>(match lo with
   |none=>(match hi with
    |none=>(match(Tb t).arr with
     |some (m,i)=>bif (Tb t).has&&C.plain i&&yz fs&&Nat.beq m fs.length&&!fs.isEmpty then zKI C i fs λxs=>k (.lst (.b false) i xs)else none
     |none=>none)
    |some _=>none)
   |some _=>none)
  |_=>none)
 |_=>none
def zFt(x:T U)(k:T U->da R):da R:=
 match x with
 |.rptr y=>k (.rptr y)
 |.ptr l o=>k (.ptr l o)
 |.ptrE l a o=>k (.ptrE l a o)
 |_=>none
def mIx(m:String):Nat:=bif decide (m = "emend/ifexpr.comes")then 1000000 else 1000001
def mIx_lt(m:String):mIx m<2000000:=by unfold mIx;cases decide (m = "emend/ifexpr.comes")<;>simp
def zPd(m:String):1000000<=mIx m:=by unfold mIx;cases decide (m = "emend/ifexpr.comes")<;>simp
abbrev Call(U:TyU)(R:Type):=Nat->db (T U)->db Nat->St U->(T U->St U->da R)->da R
def jT:db (T U)->dd
 |[]=>true
 |x::r=>yz x.flat&&jT r
abbrev KD:=db (Nat×Nat×Nat)
def ldD(kd:KD)(x:dq)(e:En U):dd:=
 match x with
 |.tmp u=>kd.all λp=>!(Nat.beq p.2.1 u)||(match eget e u with|.ptr l _=>Nat.beq l p.2.2|.rptr _=>true|_=>false)
 |_=>true
def ksD(kd:KD)(d:da Nat):db Nat:=
 match d with
 |none=>[]
 |some d=>kd.filterMap λp=>bif Nat.beq p.1 d then some p.2.2 else none
def kdOf{R:Type}:db (Nat×Nat×Nat)->En U->(KD->da R)->da R
 |[],_,k=>k []
 |p::r,e,k=>match eget e p.2.2 with
  |.ptr l _=>kdOf r e λkd=>k ((p.1,p.2.1,l)::kd)
  |_=>none
def zKR(st:St U)(l:Nat):dd:=match lk st.bx l with|some _=>true|none=>false
def stD(kd:KD)(x:dq)(e:En U)(st:St U):dd:=
 match x with
 |.tmp a=>kd.all λp=>!(Nat.beq p.1 (1000000+a))||(match eget e a with|.ptr l _=>!(Nat.beq l p.2.2)&&zKR st l&&zKR st p.2.2|_=>false)
 |_=>true
def zD6:db (T U)->dd
 |[]=>true
 |x::r=>(match x with|.ptr _ _=>zD6 r|_=>false)
def cIx(n:Nat):Nat:=2000000+n
def dCall(a:Call U R)(ks:db Nat)(f:T U)(args:db (T U))(st:St U)(k:T U->St U->da R):da R:=
 match f with
 |.clo b caps=>(match b with
  |.func n=>(match caps with
   |[]=>bif jT args&&bdds st.nl st.nx args&&Nat.blt n 1000000 then a n args ks st k else none
   |c::cs=>bif zD6 (c::cs)&&jT args&&bdds st.nl st.nx (args++c::cs)then a (cIx n) (args++c::cs) ks st k else none)
  |_=>none)
 |_=>none
def zLs(d:Nat->dd)(a:da Nat)(b:Builtin)(c:db dg)(args:db (T U))(st:St U)(k:T U->St U->da R):da R:=
 match b with
 |.len=>(match c with|t::_=>(match args with|[x]=>dLen Tb t x λv=>k v st|_=>none)|_=>none)
 |.append=>(match c with|[t,e]=>(match args with|[s,x]=>zJE Tb d a st t e s x k|_=>none)|_=>none)
 |_=>none
def evL(e:En U):db dq->db (T U)
 |[]=>[]
 |x::r=>evT e x::evL e r
def evP(e:En U):db (Nat×dq)->db (Nat×T U)
 |[]=>[]
 |x::r=>(x.1,evT e x.2)::evP e r
def evO(e:En U):da dq->da (T U)
 |none=>none
 |some x=>some (evT e x)
def mpG:MT->db UInt8->Int
 |[],_=>0
 |p::r,s=>cond (seq s p.1) p.2 (mpG r s)
def mpP:MT->db UInt8->Int->MT
 |[],s,v=>[(s,v)]
 |p::r,s,v=>cond (seq s p.1) ((s,v)::r) (p::mpP r s v)
def zIg(st:St U)(t:dg)(x i:T U)(c:dd)(k:T U->da R):da R:=
 match x with
 |.hd l=>(match i with
  |.str s=>(match lko st.ob l with
   |some o=>(match o with
    |.mp m=>bif (Tb t).mpi&&(Tb t).has&&!c then k (.int .i64 (mpG m s))else none
    |.sc _=>none|.lv _=>none|.l1 _=>none)
   |none=>none)
  |_=>none)
 |_=>none
def zOC(st:St U)(t:dg)(x i y:T U)(k:St U->da R):da R:=
 match x with
 |.hd l=>(match i with
  |.str s=>(match y with
   |.int kk z=>(match lko st.ob l with
    |some o=>(match o with
     |.mp m=>bif (Tb t).mpi&&(Tb t).has&&decide (kk=.i64)then k ⟨st.bx,st.tg,st.nl,st.nx,(l,some (.mp (mpP m s z)))::st.ob⟩else none
     |.sc _=>none|.lv _=>none|.l1 _=>none)
    |none=>none)
   |_=>none)
  |_=>none)
 |_=>none
def dop(g:Call U R)(j own:Nat->dd)(kd:KD)(e:En U)(st:St U)(o:dr)(k:T U->St U->da R):da R:=
 match o.op with
 |.move x=>k (evT e x) st
 |.assign x=>k (evT e x) st
 |.pick c a b=>zNu (evT e c) (evT e a) (evT e b) λv=>k v st
 |.binOp h t x y _=>dBin Tb h t (zGu y) (evT e x) (evT e y) λv=>k v st
 |.unOp h _ x=>dUn h (evT e x) λv=>k v st
 |.extract x i=>zG8 (evT e x) i λv=>k v st
 |.fieldAddr t x f=>zFd Tb t (evT e x) f λv=>k v st
 |.indexAddr t x i=>zFT C Tb st t (evT e x) (evT e i) λv=>k v st
 |.index t x i=>zKn C Tb t (evT e x) (evT e i) λv=>k v st
 |.load t x=>bif ldD kd x e then zKK C Tb st t (evT e x) λv=>k v st else none
 |.store t x y=>bif stD kd x e st then zL4 C Tb st t (evT e x) (evT e y) λd=>k .any d else none
 |.alloc t=>zP2 Tb st t k
 |.box _ x=>feL (evT e x).flat λcs=>dNew st cs k
 |.build t parts=>feP (evP e parts.toList) λps=>zLK Tb t ps λv=>k v st
 |.buildSlice t n parts=>feP (evP e parts.toList) λps=>zEL C Tb j own o.dst st t n ps k
 |.nilCheck x=>zFt (evT e x) λv=>k v st
 |.slice t x lo hi l=>(match l with|none=>zME C Tb st t (evT e x) (evO e lo) (evO e hi) λv=>k v st|some _=>none)
 |.call c=>(match c.callee with
  |.value f=>feA (evL e c.args.toList) λas=>dCall g (ksD kd o.dst) (evT e f) as st k
  |.builtin b=>feA (evL e c.args.toList) λas=>zLs Tb j o.dst b c.argTypes.toList as st k
  |.invoke _ _=>none)
 |.lookup t x i c=>zIg Tb st t (evT e x) (evT e i) c λv=>k v st
 |.mapUpdate t x i y=>zOC Tb st t (evT e x) (evT e i) (evT e y) λd=>k .any d
 |.makeMap _ n=>(match n with|none=>k (.hd st.nl) ⟨st.bx,st.tg,st.nl+1,st.nx,(st.nl,some (.mp []))::st.ob⟩|some _=>none)
 |_=>none
def zIe(b:Call U R)(c own:Nat->dd)(kd:KD)(e:En U)(st:St U)(o:dr)(k:En U->St U->da R):da R:=
 dop C Tb b c own kd e st o λv a=>feS a λa=>fe v λv=>bif bdd a.nl a.nx v then zIc e o.dst v λe'=>k e' a else none
def zN1(a:Call U R)(b own:Nat->dd)(kd:KD)(ds:db (da Nat))(o:dr)(e:En U)(st:St U)(k:En U->St U->da R):da R:=
 match o.guard with
 |none=>zIe C Tb a b own kd e st o k
 |some g=>
  match ds.getD g.1 none with
  |none=>none
  |some d=>(match eget e d with
   |.bool t=>bif g.2 then(bif t then zIe C Tb a b own kd ((d,.bool true)::e) st o k else zIc ((d,.bool false)::e) o.dst (.tup []) λe'=>k e' st)
    else(bif t then zIc ((d,.bool true)::e) o.dst (.tup []) λe'=>k e' st else zIe C Tb a b own kd ((d,.bool false)::e) st o k)
   |.tup vs=>(match vs with|[]=>zIc e o.dst (.tup []) λe'=>k e' st|_::_=>none)
   |_=>none)
def dops(a:Call U R)(c own:Nat->dd)(kd:KD)(ds:db (da Nat)):db dr->En U->St U->(En U->St U->da R)->da R
 |[],e,st,k=>k e st
 |o::d,e,st,k=>zN1 C Tb a c own kd ds o e st λe' b=>dops a c own kd ds d e' b k
end ops
end
open Go.Al
def VR{U:TyU}(C:Cod U)(N:NM)(x:T U)(v:V):Prop:=x=.any\/v=trT C N x
abbrev _root_.dK:=@Facts
def TbOk{U:TyU}(C:Cod U)(P:di)(Tb:dg->TD U):Prop:=∀t,(Tb t).has=true->dK C P t (Tb t)
section
variable{U:TyU}{C:Cod U}{P:di}{Tb:dg->TD U}{R:Type}{r:R}{N:NM}{K:V->Prop}{k:T U->da R}
def zP{c:dd}{x:da R}(h:(bif c then x else none)=some r):c=true/\x=some r:=by cases c<;>simp_all
def VR.get{x:T U}{v:V}(h:VR C N x v)(a:x≠.any):v=trT C N x:=h.resolve_left a
def VR.mk(x:T U):VR C N x (trT C N x):=.inr rfl
def zNq(b:dk):∀(n i:Nat)(a:db UInt8),b.size-i=n->ByteArray.toList.loop b i a=a.reverse++b.data.toList.drop i:=by
 have g:b.size=b.data.toList.length:=by rw[zVS];rfl
 intro n
 induction n with
 |zero=>
  intro i a d;unfold ByteArray.toList.loop;rw[if_neg dM,zWS dM,zUR]
 |succ n f=>
  intro i a d;unfold ByteArray.toList.loop;have hi:i<b.data.toList.length:=dM
  rw[if_pos dM,f _ _ dM,zVF hi];have e:b.get! i=b.data.toList[i]:=by
   show b.data[i]! = _;have c:i<b.data.size:=by rw[<-zVS];exact hi
   rw[getElem!_pos b.data i c,Array.getElem_toList]
  rw[e,List.reverse_cons,zVB];rfl
def j7(s:db UInt8):(⟨s.toArray⟩:dk).toList=s:=by
 have:=zNq ⟨s.toArray⟩ _ 0 [] rfl;rw[zUf,List.reverse_nil,zUQ]at this;exact this
def zRv{c a b:T U}{d e f:V}(i:VR C N c d)(j:VR C N a e)(l:VR C N b f)(h:zNu c a b k=some r)
 (g:∀v v',k v=some r->VR C N v v'->K v'):zCT d e f K:=by
 unfold zNu at h;split at h
 .rename_i t;rw[i.get dQ];cases t with
  |true=>exact g _ _ h j
  |false=>exact g _ _ h l
 .cases h
def zR9{f:BinOp}{kk:dm}{a b:Int}(h:dInt f kk a b k=some r)(e:∀v,k v=some r->K (trT C N v)):aInt f kk a b K:=by
 cases f<;>simp only[dInt]at h<;>first|exact e _ h|cases h|skip
 case quo=>
  obtain⟨c,d⟩:=zP h;exact⟨by simpa [ine]using c,e _ d⟩
 case rem=>
  obtain⟨c,d⟩:=zP h;exact⟨by simpa [ine]using c,e _ d⟩
 case shl=>
  obtain⟨c,d⟩:=zP h;exact⟨by simpa [ile]using c,e _ d⟩
 case shr=>
  obtain⟨c,d⟩:=zP h;exact⟨by simpa [ile]using c,e _ d⟩
def zSx{c:BinOp}{a b:db UInt8}(h:dStr c a b k=some r)(d:∀v,k v=some r->K (trT C N v)):aStr c ⟨a.toArray⟩ ⟨b.toArray⟩ K:=by
 cases c<;>simp only[dStr]at h<;>first|cases h|skip
 case add=>
  obtain⟨f,g⟩:=zP h;have f:=okS_le f;refine⟨by simpa [ByteArray.size]using f,?_⟩;have:=d _ g;simp only[trT]at this;have e:(⟨a.toArray⟩:dk)++⟨b.toArray⟩=⟨(a++b).toArray⟩:=by
   apply ByteArray.ext;simp
  rw[e];exact this
 case eql=>
  have:=d _ h;simp only[aStr,j7];exact this
 case neq=>
  have:=d _ h;simp only[aStr,j7];exact this
def zQs{c:BinOp}{a b:dd}(h:zOj c a b k=some r)(d:∀v,k v=some r->K (trT C N v)):kY c a b K:=by
 cases c<;>simp only[zOj]at h<;>first|cases h|exact d _ h
def zSD(m:TM){i:U.I}(xs:db (U.den i)):nilB (trM N (C.cells i) (xs.map (C.encV i)) m) (xs.map (C.encV i))=nilT m xs:=by
 cases m with
 |b n=>cases n<;>rfl
 |dl=>cases xs<;>rfl
 |ow t a=>cases xs<;>rfl
def zEp{a:BinOp}{b:dd}(h:dNil a b k=some r)(c:∀v,k v=some r->K (trT C N v)):kY a b true K:=by
 cases a<;>simp only[dNil]at h<;>first|cases h|skip
 .have:=c _ h;simp only[kY,beq_true];exact this
 .have:=c _ h;simp only[kY,beq_true];exact this
def zCZ{v:dh}(h:zEP v=true):v=.nilIface:=by
 unfold zEP at h;split at h
 .rfl
 .cases h
def zGY:∀{l:db KQ}{fs d:db (T U)},kqT l fs d=true->∃us vs:db dh,fs.map (trT C N)=us.map V.at/\d.map (trT C N)=vs.map V.at/\vkq l us vs=true/\eqVs us vs=dEqs fs d
 |[],fs,d,c=>by
  cases fs with
  |cons x xs=>cases c
  |nil=>
   cases d with
   |cons y ys=>cases c
   |nil=>exact⟨[],[],rfl,rfl,rfl,rfl⟩
 |q::e,fs,d,c=>by
  cases fs with
  |nil=>cases c
  |cons x xs=>
  cases d with
  |nil=>cases c
  |cons y ys=>
   cases q with
   |i=>
    cases x<;>try(cases c;done)
    case int n a=>
    cases y<;>try(cases c;done)
    case int o b=>
     simp only[kqT,zUE,zU7]at c;obtain⟨rfl,c⟩:=c;obtain⟨us,vs,f,g,j,m⟩:=zGY (l:=e) c;refine⟨.int n a::us,.int n b::vs,by simp only[zUC,f,trT],by simp only[zUC,g,trT],by simp only[vkq,decide_true,zUU];exact j,?_⟩;simp only[eqVs,eqAt,dEqs,m];unfold ieq;by_cases h:a=b<;>simp[h]
   |b=>
    cases x<;>try(cases c;done)
    case bool a=>
    cases y<;>try(cases c;done)
    case bool b=>
     obtain⟨us,vs,f,g,j,m⟩:=zGY (l:=e) (show kqT e xs ys=true from c);refine⟨.bool a::us,.bool b::vs,by simp only[zUC,f,trT],by simp only[zUC,g,trT],j,?_⟩;simp only[eqVs,eqAt,dEqs,m];cases a<;>cases b<;>rfl
   |s=>
    cases x<;>try(cases c;done)
    case str a=>
    cases y<;>try(cases c;done)
    case str b=>
     obtain⟨us,vs,f,g,j,m⟩:=zGY (l:=e) (show kqT e xs ys=true from c);refine⟨.string ⟨a.toArray⟩::us,.string ⟨b.toArray⟩::vs,by simp only[zUC,f,trT],by simp only[zUC,g,trT],j,?_⟩;simp only[eqVs,eqAt,dEqs,m,j7];unfold seq;by_cases h:a=b<;>simp[h]
def zR8(g:TbOk C P Tb){i:BinOp}{t:dg}{c:dd}{x y:T U}{m n:V}(d:VR C N x m)(e:VR C N y n)(h:dBin Tb i t c x y k=some r)
 (f:∀v,k v=some r->K (trT C N v)):zB1 P i t c m n K:=by
 unfold dBin at h;split at h
 .split at h
  .obtain⟨a,b⟩:=zP h;rw[d.get dQ,e.get dQ];rw[zVv,zU7]at a;refine⟨?_,zR9 b f⟩;rcases a with a|a
   .exact .inl a
   .cases i<;>first|exact .inr (.inl rfl)|exact .inr (.inr rfl)|cases a
  .cases h
 .split at h
  .obtain⟨a,b⟩:=zP h;rw[d.get dQ,e.get dQ];simp only[zUE]at a;exact⟨(g t a.2).isBool.trans a.1,zQs b f⟩
  .cases h
 .split at h
  .rw[d.get dQ,e.get dQ];exact zSx h f
  .cases h
 .split at h
  .obtain⟨a,b⟩:=zP h;rw[d.get dQ,e.get dQ];simp only[zUE]at a;refine⟨by rw[(g t a.2).el];exact a.1,?_⟩;rw[zSD];exact zEp b f
  .cases h
 .split at h
  .obtain⟨a,b⟩:=zP h;rw[d.get dQ,e.get dQ];simp only[zUE]at a;exact⟨by rw[(g t a.2).el];exact a.1,zEp b f⟩
  .cases h
 .split at h
  .rename_i v;obtain⟨a,b⟩:=zP h;rw[d.get dQ,e.get dQ];simp only[zUE]at a;have j:=zCZ a.1.1;subst j;exact⟨(g t a.2).isIfc.trans a.1.2,zEp b f⟩
  .cases h
 .split at h
  .rename_i u v;obtain⟨a,b⟩:=zP h;rw[d.get dQ,e.get dQ];simp only[zUE]at a;have j:=zCZ a.1.1.1.1;have p:=zCZ a.1.1.1.2;subst j;subst p;exact⟨(g t a.1.2).isIfc.trans a.1.1.2,a.2,zEp b f⟩
  .cases h
 .split at h
  .split at h
   .rename_i l q;obtain⟨a,b⟩:=zP h;simp only[zUE]at a;obtain⟨us,vs,s,w,o,z⟩:=zGY (C:=C) (N:=N) a.2;rw[d.get dQ,e.get dQ];simp only[trT,xf,s,w];obtain⟨A,B⟩:=(g t a.1).eqs l q us vs o;exact⟨us,vs,rfl,rfl,⟨A,zE9 o⟩,by rw[B,z];exact zEp b f⟩
   .cases h
  .cases h
 .cases h
def dUn_ok{a:UnOp}{x:T U}{b:V}(c:VR C N x b)(h:dUn a x k=some r)(d:∀v,k v=some r->K (trT C N v)):aUn a b K:=by
 unfold dUn at h;split at h
 .rw[c.get dQ];cases a<;>simp only at h<;>first|cases h|exact d _ h
 .rw[c.get dQ];cases a<;>simp only at h<;>first|cases h|exact d _ h
 .cases h
def zMW{x:T U}{b:V}{i:Nat}(c:VR C N x b)(h:zG8 x i k=some r)(d:∀v,k v=some r->K (trT C N v)):zAd b i K:=by
 unfold zG8 at h;split at h
 .rename_i vs;obtain⟨a,f⟩:=zP h;have a:=xc a;rw[c.get dQ];have e:(trTs C N vs).getD i .any=trT C N (vs.getD i .any):=by
   rw[xf];simp[a]
  refine⟨by rw[xf];simpa using a,?_⟩;rw[e];exact d _ f
 .cases h
def zHc{fs:db (T U)}{a:Nat}{t:dg}{d:TD U}(l:d.has=true->dK C P t d)(h:zGe fs a d k=some r)(g:∀v,k v=some r->K (trT C N v)) :
 z7 P t (fs.map (trT C N)) a/\K (yA P t (fs.map (trT C N)) a):=by
 unfold zGe at h;obtain⟨i,b⟩:=zP h;simp only[zUE,zVv,zV3,zVo]at i;obtain⟨⟨m,n⟩,j⟩:=i;have c:=l m;refine⟨⟨c.has,by rw[c.cells];simpa using n,λf=>by rw[c.agg]at f;rw[c.cells];simpa [f]using j⟩,?_⟩;unfold yA;rw[c.agg,c.cells];cases f:d.agg with
 |true=>
  rw[f]at b;simp only[zUi,zBo]at b;have:=g _ b;simp only[trT,xf,zWT,zWh]at this;simpa using this
 |false=>
  rw[f]at b;simp only[zUk]at b;have:=g _ b;have p:d.cells=1:=by simpa [f]using j
  have o:a<fs.length:=dM
  have e:(fs.map (trT C N)).getD a .any=trT C N (fs.getD a .any):=by simp[o]
  simp only[zUN,zUK];rw[e];exact this
def zKA(c:TbOk C P Tb){t:dg}{x:T U}{j:V}{f:Nat}(d:VR C N x j)(h:zFd Tb t x f k=some r)(e:∀v,k v=some r->K (trT C N v)):xR P t j f K:=by
 unfold zFd at h;split at h
 .cases h
 .rename_i p m;obtain⟨l,a⟩:=zP h;simp only[zUE]at l;obtain⟨⟨n,g⟩,o⟩:=l;have i:0<P.cellsOf p.2:=by rw[(c _ g).cells];exact xc o
  have b:fieldAt P t f=some (p.1,p.2):=by rw[zH8,(c t n).flds,m]
  split at a
  .split at a
   .obtain⟨q,s⟩:=zP a;rw[d.get dQ];simp only[trT,xf,xR,b];have:=zHc (C:=C) (P:=P) (t:=p.2) (N:=N) (K:=λv=>K (.rptr v)) (λu=>c _ u) s (λv w=>e _ w);exact⟨(qO C N _).2 q,this.1,i,this.2⟩
   .cases a
  .rw[d.get dQ];simp only[trT,xR,b];exact⟨(c _ g).has,i,e _ a⟩
  .rw[d.get dQ];simp only[trT,xR,b];have:=e _ a;simp only[trT,<-zWJ]at this;exact⟨(c _ g).has,i,this⟩
  .cases a
def zCm(e:TbOk C P Tb){t:dg}{kk:U.I->dg->TD U->da R}(h:zDP Tb t kk=some r) :
 ∃i el,kk i el (Tb el)=some r/\elT P t=some el/\dK C P el (Tb el)/\C.cells i=P.cellsOf el/\C.agg i=xr P el:=by
 unfold zDP at h;split at h
 .cases h
 .rename_i el b;obtain⟨c,d⟩:=zP h;simp only[zUE]at c;split at d
  .rename_i i hi;have a:=e el c.2;exact⟨i,el,d,by rw[(e t c.1).el,b],a,by rw[a.cells];exact(a.code i hi).1,by rw[a.agg];exact(a.code i hi).2⟩
  .cases d
def zFZ{n:Int}{len:Nat}(h:inB n len=true):0<=n/\n<(len:Int):=by
 simpa [inB]using h
def zFH{l h:Int}{len:Nat}(a:inS l h len=true):0<=l/\l<=h/\h<=(len:Int):=by
 simpa [inS,and_assoc]using a
def zNM{i:U.I}(xs:db (U.den i))(n:Nat)(h:n<xs.length)(d:U.den i):(xs.map (C.encV i)).getD n .any=C.encV i (xs.getD n d):=by
 simp[h]
def zHd(a:CodOk C){i:U.I}(b:C.plain i=true){r:R}:∀{l:db (T U)}{k:db (U.den i)->da R},zKI C i l k=some r->∃xs,k xs=some r/\∀N,l.map (trT C N)=xs.map (C.encV i)
 |[],k,h=>⟨[],h,λ_=>rfl⟩
 |x::l,k,h=>by
  obtain⟨y,c,d⟩:=a.decP i x _ r b h;obtain⟨ys,e,f⟩:=zHd a b c;exact⟨y::ys,e,λN=>by simp only[zUC,d N,f N]⟩
def zQH(f:TbOk C P Tb)(g:CodOk C){t:dg}{x n:T U}{j l:V}(o:VR C N x j)(p:VR C N n l)(h:zKn C Tb t x n k=some r)(q:∀v,k v=some r->K (trT C N v)):zAl P t j l K:=by
 unfold zKn at h;split at h
 .split at h
  .rename_i s _ _ u;obtain⟨a,c⟩:=zP h;simp only[zUE]at a;rw[o.get dQ,p.get dQ];have d:=zFZ a.2;refine⟨(f t a.1.1).isStr.trans a.1.2,by simpa [ByteArray.size]using d,?_⟩;have:=q _ c;simpa [trT,zGE]using this
  .cases h
 .split at h
  .rename_i fs _ _ u;split at h
   .rename_i m i y;obtain⟨a,c⟩:=zP h;simp only[zUE,zVo,zVU]at a;obtain⟨⟨⟨⟨⟨z,A⟩,G⟩,B⟩,D⟩,E⟩:=a;obtain⟨xs,F,b⟩:=zHd g A c;rw[o.get dQ,p.get dQ];have d:=zFZ E;have w:fs.length=xs.length:=by have:=zU1 List.length (b N);simpa using this
    have e:u.toNat<xs.length:=dM
    simp only[trT,zAl,xf];refine⟨by rw[zUZ,<-D];exact(f t z).arr m i y,(qO C N fs).2 B,by rw[zUZ];exact d,?_⟩;have:=q _ F;rw[g.enc]at this;rw[b N,zNM xs _ e (C.dflt i)];exact this
   .cases h
  .cases h
 .cases h
def zRz{t:dg}{d:TD U}(i:d.has=true->dK C P t d){y:T U}(h:zOc d y=true):fits P t (trT C N y):=by
 have e:d.has=true->(trT C N y).size=d.cells->(trT C N y).isAgg=d.agg->fits P t (trT C N y):=λa f g=>
  ⟨(i a).has,by rw[f,(i a).cells],by rw[g,(i a).agg]⟩
 have b:(∀fs,y≠.agg fs)->(d.has&&!d.agg&&y.isOne&&Nat.beq d.cells 1)=true->fits P t (trT C N y):=λc h=>by
  simp only[zUE,zVo,zVU]at h;obtain⟨⟨⟨a,f⟩,g⟩,j⟩:=h;refine e a ?_ ?_
  .rw[zDi (by rw[zMN];exact g)];exact j.symm
  .rw[zLG,f];cases y<;>first|rfl|exact absurd rfl (c _)
 unfold zOc at h;split at h
 .rename_i fs;simp only[zUE,zVo]at h;obtain⟨⟨⟨a,f⟩,g⟩,j⟩:=h;refine e a ?_ ?_
  .simp only[trT,V.size,xf];rw[xZ ((qO C N fs).2 g)];simpa using j
  .rw[zLG,f]
 .rename_i x c;exact b c h
def zTy(d:TbOk C P Tb){t:dg}{x:T U}{c:V}(e:VR C N x c)(h:dLen Tb t x k=some r)(f:∀v,k v=some r->K (trT C N v)):aLen P t c K:=by
 unfold dLen at h;split at h
 all_goals first|cases h|skip
 all_goals
  obtain⟨a,g⟩:=zP h;simp only[zUE]at a;have b:=d t a.1;rw[e.get dQ];have:=f _ g
 .exact⟨by rw[b.el];exact a.2,by simpa [trT,lenI]using this⟩
 .exact⟨by rw[b.el];exact a.2,by simpa [trT]using this⟩
 .exact⟨by rw[b.el];exact a.2,by simpa [trT]using this⟩
 .exact⟨b.isStr.trans a.2,by simpa [trT,lenI,ByteArray.size]using this⟩
def zMK{x:T U}{c:V}(a:VR C N x c)(h:zFt x k=some r)(b:∀v,k v=some r->K (trT C N v)):qn c K:=by
 unfold zFt at h;split at h
 .rw[a.get dQ];exact b _ h
 .rw[a.get dQ];exact b _ h
 .rw[a.get dQ];exact b _ h
 .cases h
def zI5(N:NM)(cs:db (T U))(o:Nat)(xs:db (T U)):(splT cs o xs).map (trT C N)=spl (cs.map (trT C N)) o (xs.map (trT C N)):=by
 simp[splT,spl,zWT,zWh]
def zFl(m:TbOk C P Tb){pl:Nat->da (Nat×Nat)}{d:db (Nat×dg)}(s:∀j p,d[j]?=some p->hasT P p.2=true->pl j=some (p.1,P.cellsOf p.2)){k:db (T U)->da R} :
 ∀(parts:db (Nat×T U))(vs:db (Nat×V))(c:db (T U)),zGq Tb d c parts k=some r->vs.map (·.1)=parts.map (·.1) ->
  (∀(j:Nat)(x:Nat×T U)(v:Nat×V),parts[j]?=some x->vs[j]?=some v->VR C N x.2 v.2)->∃l,zBh pl (c.map (trT C N)) vs=some (l.map (trT C N))/\k l=some r
 |[],vs,c,h,f,_=>by
  cases vs with
  |nil=>exact⟨c,rfl,h⟩
  |cons _ _=>simp at f
 |(i,x)::g,vs,c,h,f,t=>by
  cases vs with
  |nil=>simp at f
  |cons v vs=>
   obtain⟨j,v⟩:=v;simp only[zUC,zVq]at f;obtain⟨rfl,f⟩:=f;simp only[zGq]at h;split at h
   .cases h
   .rename_i p A;obtain⟨u,w⟩:=zP h;simp only[zUE,zVo,zV3]at u;obtain⟨⟨⟨n,B⟩,D⟩,y⟩:=u;rw[zBo]at w;have E:x≠.any:=λe=>by subst e;simp[T.flat,yz,T.isOne]at y
    have o:v=trT C N x:=(t 0 (j,x) (j,v) rfl rfl).get E;subst o;obtain⟨l,z,F⟩:=zFl m s g vs _ w f (λj x v a b=>t (j+1) x v eF eG);refine⟨l,?_,F⟩;have q:pl j=some (p.1,P.cellsOf p.2):=s j p A (m _ n).has;unfold zBh;simp only[q];rw[jw];simp only[zUZ];rw[if_pos ⟨by rw[(m _ n).cells];simpa using B,by rw[(m _ n).cells];simpa using D,(qO C N _).2 y⟩];rw[zI5]at z;exact z
def zQZ(c:TbOk C P Tb){t:dg}{b:db (Nat×dg)}(d:fieldsOf P t=b){k:db (T U)->da R}(parts:db (Nat×T U))(vs:db (Nat×V))(a:db (T U))(h:zGq Tb b a parts k=some r)(e:vs.map (·.1)=parts.map (·.1))
 (f:∀(j:Nat)(x:Nat×T U)(v:Nat×V),parts[j]?=some x->vs[j]?=some v->VR C N x.2 v.2):∃l,zBh (zCA P t) (a.map (trT C N)) vs=some (l.map (trT C N))/\k l=some r:=
 zFl c (λj p g i=>by unfold zCA;rw[zH8,d,g];simp[i]) parts vs a h e f
def zP5(i:TbOk C P Tb){t:dg}{parts:db (Nat×T U)}{vs:db (Nat×V)}(o:vs.map (·.1)=parts.map (·.1))(s:∀(j:Nat)(x:Nat×T U)(v:Nat×V),parts[j]?=some x->vs[j]?=some v->VR C N x.2 v.2)
 (h:zLK Tb t parts k=some r) (u:∀v,k v=some r->K (trT C N v)):zCM P t vs K:=by
 unfold zLK at h;cases m:((Tb t).has&&(Tb t).isStruct)with
 |false=>
  rw[m]at h;simp only[zUk]at h;split at h
  .cases h
  .rename_i p ps b;obtain⟨c,d⟩:=zP h;simp only[zUE]at c;have g:=i t c.1;have a:zEt P t=p::ps:=by
    rcases g.bpl with e|e
    .rw[e,b]
    .rw[e]at b;cases b
   split at d
   .rename_i cs f;obtain⟨l,e,n⟩:=zFl (N:=N) (pl:=zIF P t) i (λj q w y=>by unfold zIF;rw[a,w];simp[y]) parts vs cs d o s;refine .inr ⟨by rw[a];simp,by rw[a];exact(i _ c.2).has,?_⟩;rw[g.zero N,f];simp only[zVm];rw[e];have:=u _ n;simpa only[trT,xf]using this
   .cases d
 |true=>
 left;rw[m]at h;simp only[zUi]at h;have c:=m;have d:=h;simp only[zUE]at c;have g:=i t c.1;split at d
 .rename_i cs f;obtain⟨l,e,n⟩:=zQZ (N:=N) i g.flds parts vs cs d o s;refine⟨g.isStruct.trans c.2,?_⟩;rw[g.zero N,f];simp only[zVm];rw[e];have:=u _ n;simpa only[trT,xf]using this
 .cases d
def zBZ{x:da (T U)}{a:da V}(b:match x,a with|none,none=>True|some x,some v=>VR C N x v|_,_=>False){d:Int}{kk:Int->da R}{K:Int->Prop}(h:zCl x d kk=some r)(c:∀n,kk n=some r->K n) :
 jz a d K:=by
 unfold zCl at h;cases x with
 |none=>cases a with
  |none=>exact c _ h
  |some v=>exact b.elim
 |some x=>cases a with
  |none=>exact b.elim
  |some v=>
   simp only at h b;split at h
   .rw[b.get dQ];exact c _ h
   .cases h
def zS8(m:TM){i:U.I}(xs ys:db (U.den i)):zGh (trM N (C.cells i) (xs.map (C.encV i)) m) (xs.map (C.encV i))=trM N (C.cells i) (ys.map (C.encV i)) (cutM m xs):=by
 cases m with
 |b n=>cases n<;>rfl
 |dl=>cases xs<;>rfl
 |ow t a=>cases a<;>cases xs<;>rfl
end
open Go.Al
section
variable{U:TyU}{C:Cod U}{P:di}{Tb:dg->TD U}{R:Type}{r:R}{N:NM}
def trB(C:Cod U)(N:NM)(l:Nat):Bx U->db V×Nat
 |.st cs=>(cs.map (trT C N),cs.length)
 |.ar i xs=>(zp (xs.map (C.encV i)),N.cp l*C.cells i)
def wfB(C:Cod U)(N:NM)(nl nx l:Nat):Bx U->Prop
 |.st cs=>bdds nl nx cs=true/\yz cs=true
 |.ar i xs=>N.sz l=C.cells i/\xs.length<=N.cp l
def trMC(c:MT):MC:=c.map λp=>(⟨p.1.toArray⟩,.at (.int .i64 p.2))
def trO(N:NM)(l:Nat):TO->OV
 |.mp c=>.mp (trMC c)
 |.sc xs=>.sc (xs.map trMC) (N.cp l)
 |.lv xs=>.lv (xs.map λx=>(trMC x.1,trMC x.2))
 |.l1 x=>.l1 (trMC x.1,trMC x.2)
def wfO(N:NM)(l:Nat):TO->Prop
 |.mp _=>N.cp l≠0
 |.sc xs=>N.sz l=xs.length
 |.lv _=>True
 |.l1 _=>True
structure OSim(N:NM)(ob:List (Nat×Option TO))(nl:Nat)(sob:List (Nat×OV×List Nat)):Prop where
 look:∀l o,lko ob l=some o->∃fp,zE sob (N.bl l)=some (trO N l o,fp)
 lt:∀l o,lko ob l=some o->l<nl
 wf:∀l o,lko ob l=some o->wfO N l o
 inj:∀l l' o o',lko ob l=some o->lko ob l'=some o'->N.bl l=N.bl l'->l=l'
structure SSim(C:Cod U)(N:NM)(st:St U)(s:S):Prop where
 box:∀l b,lk st.bx l=some b->Al.look s.box (N.bl l)=some (trB C N l b)
 lt:∀l b,lk st.bx l=some b->l<st.nl
 wf:∀l b,lk st.bx l=some b->wfB C N st.nl st.nx l b
 inj:∀l l' b b',lk st.bx l=some b->lk st.bx l'=some b'->N.bl l=N.bl l'->l=l'
 tgIn:∀t∈st.tg,N.tk t∈s.tg
 tgInj:∀t∈st.tg,∀t'∈st.tg,N.tk t=N.tk t'->t=t'
 tgLt:∀t∈st.tg,t<st.nx
 nm:∀t∈st.tg,N.tk t<s.nx
 ob:OSim N st.ob st.nl s.ob
def OSim.ext{nl b nx:Nat}{N N':NM}{f:db (Nat×da TO)}{c:db (Nat×OV×db Nat)}(h:OSim N f nl c)(g:Ext nl nx N N')(n:nl<=b):OSim N' f b c:=by
 have d:∀l o,lko f l=some o->N'.bl l=N.bl l/\N'.cp l=N.cp l/\N'.sz l=N.sz l:=λl o a=>⟨g.bl l (h.lt l o a),g.cp l (h.lt l o a),g.sz l (h.lt l o a)⟩;refine⟨λl o a=>?_,λl o a=>zUo (h.lt l o a) n,λl o a=>?_,λl j o o' a e m=>?_⟩
 .obtain⟨fp,e⟩:=h.look l o a;obtain⟨p,i,_⟩:=d l o a;refine⟨fp,?_⟩;rw[p,e];cases o<;>simp only[trO,i]
 .have:=h.wf l o a;obtain⟨_,i,q⟩:=d l _ a;cases o
  .simp only[wfO,i]at this ⊢;exact this
  .simp only[wfO,q]at this ⊢;exact this
  .trivial
  .trivial
 .rw[(d l o a).1,(d j o' e).1]at m;exact h.inj l j o o' a e m
def kT(k:Nat)(b:da TO)(r:db (Nat×da TO))(l:Nat):lko ((k,b)::r) l=if k=l then b else lko r l:=by
 by_cases e:k=l
 .have:Nat.beq k l=true:=by simpa using e
  simp[lko,this,e]
 .have:Nat.beq k l=false:=by
   cases e':Nat.beq k l with
   |false=>rfl
   |true=>exact absurd (zVs e') e
  simp[lko,this,e]
def ESim(C:Cod U)(N:NM)(st:St U)(e:En U)(E:Env):Prop:=∀k,VR C N (eget e k) (E.get k)/\bdd st.nl st.nx (eget e k)=true
structure Turn(N:NM)(st:St U)(N':NM)(st':St U):Prop where
 ext:Ext st.nl st.nx N N'
 nl:st.nl<=st'.nl
 nx:st.nx<=st'.nx
def Turn.refl(N:NM)(st:St U):Turn N st N st:=⟨.refl _ _ _,zUB _,zUB _⟩
def Turn.trans{N d e:NM}{st a b:St U}(h:Turn N st d a)(c:Turn d a e b):Turn N st e b:=
 ⟨h.ext.trans c.ext h.nl h.nx,zU0 h.nl c.nl,zU0 h.nx c.nx⟩
abbrev _root_.dG:=@ESim
def ESim.turn{N N':NM}{st a:St U}{e:En U}{E:Env}(h:dG C N st e E)(t:Turn N st N' a):dG C N' a e E:=λk=>by
 obtain⟨c,b⟩:=h k;exact⟨c.imp id λh=>by rw[h,zC8 C t.ext _ b],zCG t.nl t.nx _ b⟩
def qN{a b:Nat}(h:a≠b):Nat.beq a b=false:=by
 cases e:Nat.beq a b with
 |false=>rfl
 |true=>exact absurd (zVs e) h
def ESim.put{st:St U}{e:En U}{E:Env}(h:dG C N st e E){v:T U}{v':V}(b:VR C N v v')(c:bdd st.nl st.nx v=true)(d:da Nat):dG C N st (eput e d v) (E.putO d v'):=λk=>by
 cases d with
 |none=>exact h k
 |some t=>
  simp only[eput,eget,Env.putO,Env.get_put];by_cases a:t=k
  .subst a;simpa using⟨b,c⟩
  .have:Nat.beq t k=false:=qN a;simpa [this,a]using h k
def ESim.ev{st:St U}{e:En U}{E:Env}(h:dG C N st e E)(x:dq):VR C N (evT e x) (E.ev x):=by
 cases x with
 |tmp t=>exact(h t).1
 |const v=>exact .inr (cT_tr C N v).symm
 |global g=>
  refine .inr ?_;show zIL g=trT C N (gT g);unfold zIL gT;cases zGl zGr g with
  |none=>rfl
  |some us=>
   simp only[trT,xf,zVr];congr 2;exact zVQ λv _=>(zKc C N v).symm
 |func f=>exact .inr rfl
abbrev _root_.dF:=@SSim
def Kok(C:Cod U)(N:NM)(st:St U)(K:V->S->Prop)(k:T U->St U->da R)(r:R):Prop:=
 ∀N' a s' v v',k v a=some r->Turn N st N' a->dF C N' a s'->VR C N' v v'->K v' s'
def zDZ:∀{l:db Nat}{t:Nat},hasN l t=true->t∈l
 |[],_,h=>by simp[hasN]at h
 |k::r,t,h=>by
  simp only[hasN]at h;by_cases e:k=t
  .subst e;simp
  .have:Nat.beq k t=false:=qN e;simp only[this,zUk]at h;exact zUW _ (zDZ h)
def kD:∀{l:db Nat}{t x:Nat},x∈rmN l t->x∈l/\x≠t
 |[],_,_,h=>by simp[rmN]at h
 |k::r,t,x,h=>by
  simp only[rmN]at h;by_cases e:k=t
  .have:Nat.beq k t=true:=by simpa using e
   simp only[this,zUi]at h;have:=kD h;exact⟨zUW _ this.1,this.2⟩
  .have a:Nat.beq k t=false:=qN e;simp only[a,zUk,zUG]at h;rcases h with rfl|h
   .exact⟨dQ,e⟩
   .have:=kD h;exact⟨zUW _ this.1,this.2⟩
def jB(k:Nat)(b:da (Bx U))(r:db (Nat×da (Bx U)))(l:Nat):lk ((k,b)::r) l=if k=l then b else lk r l:=by
 by_cases e:k=l
 .have:Nat.beq k l=true:=by simpa using e
  simp[lk,this,e]
 .have:Nat.beq k l=false:=qN e;simp[lk,this,e]
def NM.loc(N:NM)(l b c z:Nat):NM:=⟨λj=>if j=l then b else N.bl j,λj=>if j=l then c else N.cp j,λj=>if j=l then z else N.sz j,N.tk⟩
def NM.ext_loc(N:NM)(l nx b c z:Nat):Ext l nx N (N.loc l b c z):=
 ⟨λj a=>if_neg dM,λj a=>if_neg dM,λj a=>if_neg dM,λ_ _=>rfl⟩
def NM.tok(N:NM)(t n:Nat):NM:=⟨N.bl,N.cp,N.sz,λj=>if j=t then n else N.tk j⟩
def NM.ext_tok(N:NM)(nl t n:Nat):Ext nl t N (N.tok t n):=⟨λ_ _=>rfl,λ_ _=>rfl,λ_ _=>rfl,λj a=>if_neg dM⟩
def qe{nl nx:Nat}{N N':NM}(h:Ext nl nx N N'){l:db (T U)}(a:bdds nl nx l=true):l.map (trT C N')=l.map (trT C N):=by
 rw[<-xf,<-xf,zDJ C h l a]
def OSim.new{nl nx b c z:Nat}{N:NM}{n:db (Nat×da TO)}{f:db (Nat×OV×db Nat)}(h:OSim N n nl f){fp:db Nat}{o:TO}{v:OV}(u:Ext nl nx N (N.loc nl b c z))(g:(N.loc nl b c z).bl nl=b)(w:wfO (N.loc nl b c z) nl o)
 (p:zE f b=none) (x:v=trO (N.loc nl b c z) nl o):OSim (N.loc nl b c z) ((nl,some o)::n) (nl+1) ((b,v,fp)::f):=by
 subst x;have j:=h.ext u (zUn _);have i:∀l o',lko n l=some o'->(N.loc nl b c z).bl l≠b:=λl o' a e=>by
  obtain⟨fp,d⟩:=j.look l o' a;rw[e,p]at d;cases d
 refine⟨λl o' a=>?_,λl o' a=>?_,λl o' a=>?_,λl q s t a d m=>?_⟩
 .rw[kT]at a;split at a
  .rename_i e;injection a with a;subst e;subst a
   rw[g,zK,if_pos rfl];exact⟨fp,rfl⟩
  .rw[zK,if_neg (λe=>i l o' a e.symm)];exact j.look l o' a
 .rw[kT]at a;split at a
  .omega
  .exact j.lt l o' a
 .rw[kT]at a;split at a
  .rename_i e;injection a with a;subst e;subst a;exact w
  .exact j.wf l o' a
 .rw[kT]at a d;split at a
  .rename_i e;subst e;split at d
   .assumption
   .rw[g]at m;exact absurd m.symm (i q t d)
  .split at d
   .rename_i e;subst e;rw[g]at m;exact absurd m (i l s a)
   .exact j.inj l q s t a d m
def zDC{st:St U}{s:S}(a:dF C N st s){nl nx:Nat}{N':NM}(h:Ext nl nx N N')(d:st.nl<=nl)(e:st.nx<=nx){l:Nat}{b:Bx U}(c:lk st.bx l=some b):trB C N' l b=trB C N l b:=by
 have f:=a.lt l b c;have g:=a.wf l b c;cases b with
 |st cs=>simp only[trB];rw[qe (h.less d e) g.1]
 |ar i xs=>simp only[trB];rw[h.cp l dM]
def zDA{nl nx a c:Nat}{N N':NM}(h:Ext nl nx N N')(f:nl<=a)(g:nx<=c){l:Nat}(e:l<nl){b:Bx U}(d:wfB C N nl nx l b):wfB C N' a c l b:=by
 cases b with
 |st cs=>exact⟨qZ f g _ d.1,d.2⟩
 |ar i xs=>exact⟨(h.sz l e).trans d.1,by rw[h.cp l e];exact d.2⟩
def SSim.newBox{st:St U}{s:S}(d:dF C N st s){b c z:Nat}{bx:Bx U}(u:Al.look s.box b=none)(v:wfB C (N.loc st.nl b c z) (st.nl+1) st.nx st.nl bx) :
 dF C (N.loc st.nl b c z) ⟨(st.nl,some bx)::st.bx,st.tg,st.nl+1,st.nx,st.ob⟩ ⟨lay s.box b (trB C (N.loc st.nl b c z) st.nl bx),s.tg,s.nx,s.ob⟩:=by
 have f:=N.ext_loc st.nl st.nx b c z;have h:∀l,l<st.nl->(N.loc st.nl b c z).bl l=N.bl l:=f.bl;have j:(N.loc st.nl b c z).bl st.nl=b:=if_pos rfl;have m:∀l g,lk st.bx l=some g->b≠N.bl l:=λl g a e=>by
  have:=d.box l g a;rw[<-e,u]at this;cases this
 refine⟨?_,?_,?_,?_,d.tgIn,d.tgInj,d.tgLt,d.nm,d.ob.ext f (zUn _)⟩
 .intro l g a;rw[jB]at a;by_cases e:st.nl=l
  .rw[if_pos e]at a;injection a with a
   subst a;subst e;show Al.look (lay s.box b _) _=_;rw[j,zO,if_pos rfl]
  .rw[if_neg e]at a;have q:=d.lt l g a;show Al.look (lay s.box b _) _=_;rw[h l q,zO,if_neg (m l g a),d.box l g a,zDC d f (zUB _) (zUB _) a]
 .intro l g a;rw[jB]at a;by_cases e:st.nl=l
  .show l<st.nl+1;omega
  .rw[if_neg e]at a;have q:=d.lt l g a;show l<st.nl+1;omega
 .intro l g a;rw[jB]at a;by_cases e:st.nl=l
  .rw[if_pos e]at a;injection a with a
   subst a;subst e;exact v
  .rw[if_neg e]at a;exact zDA f (zUn _) (zUB _) (d.lt l g a) (d.wf l g a)
 .intro l i b1 t o n p;rw[jB]at o n;by_cases e:st.nl=l
  .by_cases e':st.nl=i
   .omega
   .rw[if_neg e']at n;subst e;rw[j,h i (d.lt i t n)]at p;exact absurd p (m i t n)
  .rw[if_neg e]at o;by_cases e':st.nl=i
   .subst e';rw[j,h l (d.lt l b1 o)]at p;exact absurd p.symm (m l b1 o)
   .rw[if_neg e']at n;rw[h l (d.lt l b1 o),h i (d.lt i t n)]at p;exact d.inj l i b1 t o n p
def SSim.drop{st:St U}{s:S}(d:dF C N st s)(l0:Nat){h:Bx U}(m:lk st.bx l0=some h):dF C N ⟨(l0,none)::st.bx,st.tg,st.nl,st.nx,st.ob⟩ ⟨wipe s.box (N.bl l0),s.tg,s.nx,s.ob⟩:=by
 have a:∀l b,lk ((l0,none)::st.bx) l=some b->l≠l0/\lk st.bx l=some b:=λl b c=>by
  rw[jB]at c;by_cases e:l0=l
  .rw[if_pos e]at c;cases c
  .rw[if_neg e]at c;exact⟨λe'=>e e'.symm,c⟩
 refine⟨λl b c=>?_,λl b c=>d.lt l b (a l b c).2,λl b c=>d.wf l b (a l b c).2,λl i b j g f n=>d.inj l i b j (a l b g).2 (a i j f).2 n,d.tgIn,d.tgInj,d.tgLt,d.nm,d.ob⟩;obtain⟨g,f⟩:=a l b c;show Al.look (wipe s.box _) _=_;rw[yR,if_neg (λe=>g (d.inj l l0 b h f m e.symm)),d.box l b f]
def SSim.setBox{st:St U}{s:S}(c:dF C N st s){l0:Nat}{m b1:Bx U}(n:lk st.bx l0=some m)(p:wfB C N st.nl st.nx l0 b1) :
 dF C N ⟨(l0,some b1)::st.bx,st.tg,st.nl,st.nx,st.ob⟩ ⟨lay s.box (N.bl l0) (trB C N l0 b1),s.tg,s.nx,s.ob⟩:=by
 have d:∀l b,lk ((l0,some b1)::st.bx) l=some b->(l=l0/\b=b1)\/(l≠l0/\lk st.bx l=some b):=λl b a=>by
  rw[jB]at a;by_cases e:l0=l
  .rw[if_pos e]at a;injection a with a;exact .inl ⟨e.symm,a.symm⟩
  .rw[if_neg e]at a;exact .inr ⟨λe'=>e e'.symm,a⟩
 have f:∀l b,lk ((l0,some b1)::st.bx) l=some b->∃i,lk st.bx l=some i:=λl b a=>by
  rcases d l b a with⟨rfl,_⟩|⟨_,h⟩
  .exact⟨_,n⟩
  .exact⟨_,h⟩
 refine⟨λl b a=>?_,λl b a=>?_,λl b a=>?_,λl o b i j g q=>?_,c.tgIn,c.tgInj,c.tgLt,c.nm,c.ob⟩
 .show Al.look (lay s.box _ _) _=_;rcases d l b a with⟨rfl,rfl⟩|⟨j,g⟩
  .rw[zO,if_pos rfl]
  .rw[zO,if_neg (λe=>j (c.inj l l0 b m g n e.symm)),c.box l b g]
 .obtain⟨i,h⟩:=f l b a;exact c.lt l i h
 .rcases d l b a with⟨rfl,rfl⟩|⟨j,g⟩
  .exact p
  .exact c.wf l b g
 .obtain⟨x,t⟩:=f l b j;obtain⟨y,u⟩:=f o i g;exact c.inj l o x y t u q
def SSim.newTok{st:St U}{s:S}(d:dF C N st s){n:Nat}{tg:db Nat}{tg':db Nat}{x:Nat}(g:∀t∈tg,t∈st.tg)(p:∀t∈tg,N.tk t∈tg')(o:∀t∈tg,N.tk t≠n)(z:s.nx<=x)(q:n<x) :
 dF C (N.tok st.nx n) ⟨st.bx,st.nx::tg,st.nl,st.nx+1,st.ob⟩ ⟨s.box,n::tg',x,s.ob⟩:=by
 have e:=N.ext_tok st.nl st.nx n;have f:∀t,t<st.nx->(N.tok st.nx n).tk t=N.tk t:=e.tk;have h:(N.tok st.nx n).tk st.nx=n:=if_pos rfl;refine⟨λl b m=>?_,d.lt,λl b m=>?_,λl u b v w y j=>d.inj l u b v w y j,?_,?_,?_,?_,d.ob.ext e (zUB _)⟩
 .rw[zDC d e (zUB _) (zUB _) m];exact d.box l b m
 .exact zDA e (zUB _) (zUn _) (d.lt l b m) (d.wf l b m)
 .intro t a;rcases zUG.1 a with rfl|a
  .rw[h];simp
  .rw[f t (d.tgLt t (g t a))];exact zUW _ (p t a)
 .intro t a i c j;rcases zUG.1 a with rfl|a
  .rcases zUG.1 c with rfl|c
   .rfl
   .rw[h,f i (d.tgLt i (g i c))]at j;exact absurd j.symm (o i c)
  .rcases zUG.1 c with rfl|c
   .rw[h,f t (d.tgLt t (g t a))]at j;exact absurd j (o t a)
   .rw[f t (d.tgLt t (g t a)),f i (d.tgLt i (g i c))]at j;exact d.tgInj t (g t a) i (g i c) j
 .intro t a;show t<st.nx+1;rcases zUG.1 a with rfl|a
  .omega
  .have:=d.tgLt t (g t a);omega
 .intro t a;show _<x;rcases zUG.1 a with rfl|a
  .rw[h];exact q
  .rw[f t (d.tgLt t (g t a))];have:=d.nm t (g t a);omega
def zCg(a:CodOk C)(i:U.I)(xs:db (U.den i)):qL (C.cells i) (xs.map (C.encV i)):=λx b=>by
 obtain⟨y,_,rfl⟩:=zVA.1 b;exact a.size i y
def kj(a:CodOk C)(i:U.I):∀xs:db (U.den i),(zp (xs.map (C.encV i))).length=xs.length*C.cells i
 |[]=>by simp[zp]
 |x::r=>by
  have c:=a.size i x;have b:=a.ones i x;have d:(C.encV i x).flat.length=C.cells i:=by
   rw[<-c];cases e:C.encV i x with
   |agg fs=>rw[e]at b;simp only[V.flat]at b ⊢;simp only[V.size,xZ b]
   |_=>simp[V.flat,V.size]
  simp only[zUC,zp,zUI,kj a i r,d,zUD,zVP];omega
def zBA(a:CodOk C)(i:U.I)(x:U.den i):(C.encV i x).flat.length=C.cells i:=by
 have:=kj a i [x];simpa [zp]using this
def zGM(a b:db V):zp (a++b)=zp a++zp b:=by
 induction a with
 |nil=>rfl
 |cons x r c=>simp[zp,c]
def zCw(a:CodOk C)(i:U.I):∀xs:db (U.den i),zM (zp (xs.map (C.encV i)))
 |[]=>rfl
 |x::r=>by
  simp only[zUC,zp];exact zFi (a.ones i x) (zCw a i r)
def zBx(a:CodOk C)(i:U.I):∀(xs:db (U.den i))(n:Nat),(zp (xs.map (C.encV i))).take (n*C.cells i)=zp ((xs.take n).map (C.encV i))
 |[],n=>by simp[zp]
 |x::r,0=>by simp[zp]
 |x::r,n+1=>by
  have h:=zBA a i x;have e:(n+1)*C.cells i=(C.encV i x).flat.length+n*C.cells i:=by rw[h,zVP];omega
  simp only[zUC,zp,zUS];rw[e,zWe,zBx a i r n]
def zBw(a:CodOk C)(i:U.I):∀(xs:db (U.den i))(n:Nat),(zp (xs.map (C.encV i))).drop (n*C.cells i)=zp ((xs.drop n).map (C.encV i))
 |[],n=>by simp[zp]
 |x::r,0=>by simp[zp]
 |x::r,n+1=>by
  have h:=zBA a i x;have e:(n+1)*C.cells i=(C.encV i x).flat.length+n*C.cells i:=by rw[h,zVP];omega
  simp only[zUC,zp,zUX];rw[e,zWf,zBw a i r n]
def zJy(A:TbOk C P Tb)(e:CodOk C){st:St U}{s:S}(B:dF C N st s){t:dg}{x n:T U}{f g:V}{K:V->Prop}{k:T U->da R}(o:VR C N x f)(p:VR C N n g)
 (h:zFT C Tb st t x n k=some r) (q:∀v,k v=some r->K (trT C N v)):xp P t f g K:=by
 unfold zFT at h;obtain⟨i,el,u,w,y,z,G⟩:=zCm A h;clear h;have h:=u;clear u;simp only at h;split at h
 .rename_i _ D;split at h
  .rename_i m j xs;obtain⟨a,b⟩:=zP h;simp only[zUE,zU7]at a;obtain⟨rfl,a⟩:=a;have c:=zFZ a;have d:D.toNat<xs.length:=dM
   rw[o.get dQ,p.get dQ];simp only[trT,xp,w,zUZ];rw[zNM xs _ d (C.dflt j)];refine⟨y.has,c,by rw[e.size,z],?_⟩;have:=q _ b;simp only[trT,e.enc]at this;exact this
  .rename_i l m;split at h
   .rename_i j ys E;obtain⟨a,b⟩:=zP h;simp only[zUE,zU7]at a;obtain⟨rfl,a⟩:=a;have c:=zFZ a;rw[o.get dQ,p.get dQ];simp only[trT,xp,w];refine⟨y.has,c,?_⟩;have:=q _ b;have F:=B.wf l _ E;simp only[trT,F.1,zVE,z]at this;simpa using this
   .cases h
  .cases h
 .cases h
def zHg(b:CodOk C)(i:U.I)(xs:db (U.den i))(a o z:Nat)(c:a<xs.length)(f:o+z<=C.cells i) :
 (((zp (xs.map (C.encV i))).drop (a*C.cells i+o)).take z=((C.encV i (xs.getD a (C.dflt i))).flat.drop o).take z) /\
 (o<C.cells i->(zp (xs.map (C.encV i))).getD (a*C.cells i+o) .any=(C.encV i (xs.getD a (C.dflt i))).flat.getD o .any):=by
 have d:(zp (xs.map (C.encV i))).drop (a*C.cells i)=(C.encV i (xs.getD a (C.dflt i))).flat++zp ((xs.drop (a+1)).map (C.encV i)):=by
  rw[zBw b,zVF c];simp only[zUC,zp,zUV,zUj c,zVl]
 have g:=zBA b i (xs.getD a (C.dflt i));refine⟨?_,λh=>?_⟩
 .rw[<-zWt,d,zWc dM,zV9 (by rw[zWU];omega)]
 .have e:(zp (xs.map (C.encV i))).getD (a*C.cells i+o) .any=((zp (xs.map (C.encV i))).drop (a*C.cells i)).getD o .any:=by
   simp only[zUV,zV1]
  rw[e,d];rw[zUV (l:=_++_),zWM dM,<-zUV]
def zHF(m:TbOk C P Tb)(n:CodOk C){st:St U}{s:S}(q:dF C N st s){t:dg}{x:T U}{y:V}{K:V->Prop}{k:T U->da R}(u:VR C N x y)
 (h:zKK C Tb st t x k=some r) (w:∀v,k v=some r->K (trT C N v)):qW P s t y K:=by
 unfold zKK at h;split at h
 .obtain⟨d,c⟩:=zP h;rw[u.get dQ];exact⟨zRz (λe=>m _ e) d,w _ c⟩
 .rename_i l o;split at h
  .rename_i cs p;rw[u.get dQ];simp only[trT,qW,q.box l _ p,trB];exact zHc (λe=>m _ e) h w
  .cases h
 .rename_i l a o;split at h
  .rename_i i xs p;obtain⟨d,c⟩:=zP h;simp only[zUE,zV3]at d;have z:=xc d.2;have E:=q.wf l _ p;rw[u.get dQ];simp only[trT,qW,q.box l _ p,trB,E.1];rw[zBo]at c;obtain⟨A,f⟩:=zHc (P:=P) (t:=t) (λe=>m _ e) c w;have e0:(C.enc i (xs.getD a (C.dflt i))).flat.map (trT C N)=(C.encV i (xs.getD a (C.dflt i))).flat:=by rw[<-jw,n.enc]
   rw[e0]at A f;obtain⟨F,I,B⟩:=A;have G:P.cellsOf t=(Tb t).cells:=by
    have:(Tb t).has=true:=by
     unfold zGe at c;have:=(zP c).1;simp only[zUE]at this;exact this.1.1
    exact(m t this).cells
   have H:=zBA n i (xs.getD a (C.dflt i));have D:=kj n i xs;have g:(a+1)*C.cells i<=xs.length*C.cells i:=zVV _ z;rw[zVP,zVz]at g;have j:=zHg n i xs a o (P.cellsOf t) z (by rw[G];exact d.1);refine⟨⟨F,dM,B⟩,?_⟩;unfold yA at f ⊢;split at f
   .rename_i b;rw[if_pos b,j.1];exact f
   .rename_i b;rw[if_neg b,j.2 (by have:=B eG;omega)];exact f
  .cases h
 .cases h
def zMy{st:St U}{s:S}(j:dF C N st s){cs:db (T U)}{g:db V}(f:cs.map (trT C N)=g){K:V->S->Prop}{k:T U->St U->da R}(h:dNew st cs k=some r)(l:Kok C N st K k r):aNew s g K:=by
 subst f;unfold dNew at h;obtain⟨d,m⟩:=zP h;simp only[zUE]at d;refine⟨(qO C N cs).2 d.1,λb n=>?_⟩;have i:=j.newBox (b:=b) (c:=0) (z:=0) (bx:=.st cs) n ⟨qZ (zUn _) (zUB _) _ d.2,d.1⟩;have a:=N.ext_loc st.nl st.nx b 0 0;simp only[trB,qe a d.2]at i;have:=l _ _ _ _ _ m ⟨a,zUn _,zUB _⟩ i (.inr rfl);simp only[trT]at this;have e:(N.loc st.nl b 0 0).bl st.nl=b:=if_pos rfl;rw[e]at this;simpa using this
def zOv(hT:TbOk C P Tb)(d:CodOk C){st:St U}{s:S}(A:dF C N st s){t:dg}{x y:T U}{xv yv:V}{K:S->Prop}{k:St U->da R}(hx:VR C N x xv)(hy:VR C N y yv)
 (h:zL4 C Tb st t x y k=some r) (hK:∀m s',k m=some r->Turn N st N m->dF C N m s'->K s'):jf P s t xv yv K:=by
 unfold zL4 at h;rw[zBo]at h;have J:=zP h;clear h;obtain⟨n,h⟩:=J;simp only[zUE,zVo]at n;obtain⟨⟨n,h2⟩,p⟩:=n;have H:=hT t n;have L:y≠.any:=λe=>by subst e;simp[T.flat,yz,T.isOne]at p
 have M:=hy.get L;subst M;split at h
 .rename_i l o;split at h
  .rename_i cs q;obtain⟨B,I⟩:=zP h;simp only[zUE,zV3]at B;rw[zBo]at I;rw[hx.get dQ];simp only[trT,jf,A.box l _ q,trB,jw,zUZ];refine⟨H.has,by rw[H.cells];exact h2,(qO C N _).2 p,B.1,?_⟩;have v:=A.wf l _ q;have g:(splT cs o y.flat).length=cs.length:=by simp[splT];omega
   have D:yz (splT cs o y.flat)=true:=by
    have n:=v.2;unfold yz at *;rw[zUb]at *;intro z c;simp only[splT,zUa]at c;rcases c with(c|c)|c
    .exact n z (zVG c)
    .exact p z c
    .exact n z (zVp c)
   have O:bdds st.nl st.nx (splT cs o y.flat)=true:=by
    have f:∀l:db (T U),bdds st.nl st.nx l=true↔∀z∈l,bdd st.nl st.nx z=true:=λl=>by
     induction l with
     |nil=>simp[bdds]
     |cons a r ih=>simp[bdds,ih]
    rw[f];intro z c;simp only[splT,zUa]at c;rcases c with(c|c)|c
    .exact(f _).1 v.1 z (zVG c)
    .exact(f _).1 B.2 z c
    .exact(f _).1 v.1 z (zVp c)
   have E:=A.setBox (b1:=.st (splT cs o y.flat)) q ⟨O,D⟩;simp only[trB,zI5,g]at E;exact hK _ _ I ⟨.refl _ _ _,zUB _,zUB _⟩ E
  .cases h
 .rename_i l a o;split at h
  .rename_i i xs q;obtain⟨B,I⟩:=zP h;simp only[zUE,zV3]at B;obtain⟨⟨hp,ho⟩,w⟩:=B;have w:=xc w;obtain⟨F,h6,h7⟩:=d.decP i _ _ _ hp I;have v:=A.wf l _ q;rw[hx.get dQ];simp only[trT,jf,A.box l _ q,trB,jw,zUZ,v.1];have g:=kj d i xs;have Q:=zBA d i (xs.getD a (C.dflt i));have G:(a+1)*C.cells i<=xs.length*C.cells i:=zVV _ w;rw[zVP,zVz]at G;refine⟨H.has,by rw[H.cells];exact h2,(qO C N _).2 p,dM,?_⟩;have E:=A.setBox (b1:=.ar i (xs.set a F)) q ⟨v.1,by rw[zWK];exact v.2⟩;simp only[trB]at E;have e:spl (zp (xs.map (C.encV i))) (a*C.cells i+o) (y.flat.map (trT C N))=zp ((xs.set a F).map (C.encV i)):=by
    have h8:=h7 N;have W:(C.enc i (xs.getD a (C.dflt i))).flat.map (trT C N)=(C.encV i (xs.getD a (C.dflt i))).flat:=by rw[<-jw,d.enc]
    have e2:(C.encV i F).flat=spl (C.encV i (xs.getD a (C.dflt i))).flat o (y.flat.map (trT C N)):=by
     rw[<-h8,jw,<-W,<-zI5];unfold asEl;cases X:C.agg i with
     |true=>rfl
     |false=>
      have h9:=d.one i X;have Y:(C.enc i (xs.getD a (C.dflt i))).flat.length=1:=by
       have:=zU1 List.length W;rw[zUZ,Q,h9]at this;exact this
      have Z:(splT (C.enc i (xs.getD a (C.dflt i))).flat o y.flat).length=1:=by rw[splT,zUI,zUI,zVH,zWU,Y];omega
      match J:splT (C.enc i (xs.getD a (C.dflt i))).flat o y.flat,Z with
      |[z],_=>
       simp only[zUk,List.headD_cons];have:yz [z]=true:=by
        rw[<-J];unfold yz;rw[zUb];intro u j;simp only[splT,zUa]at j;have b:yz (C.enc i (xs.getD a (C.dflt i))).flat=true:=(qO C N _).1 (by rw[W];exact d.ones i _);unfold yz at b p;rw[zUb]at b p;rcases j with(j|j)|j
        .exact b u (zVG j)
        .exact p u j
        .exact b u (zVp j)
       cases z<;>simp[yz,T.isOne]at this<;>rfl
    have ex:xs.set a F=xs.take a++F::xs.drop (a+1):=by rw[List.set_eq_take_append_cons_drop,if_pos w]
    rw[ex,zVa,zGM,zUC];simp only[zp];rw[e2];unfold spl;rw[<-zBx d,<-zBw d];have d1:(zp (xs.map (C.encV i))).take (a*C.cells i+o)=(zp (xs.map (C.encV i))).take (a*C.cells i)++(C.encV i (xs.getD a (C.dflt i))).flat.take o:=by
     rw[List.take_add];congr 1;have:=(zHg d i xs a 0 o w dM).1;simpa using this
    have d2:(zp (xs.map (C.encV i))).drop (a*C.cells i+o+(y.flat.map (trT C N)).length)=(C.encV i (xs.getD a (C.dflt i))).flat.drop (o+(y.flat.map (trT C N)).length)++(zp (xs.map (C.encV i))).drop ((a+1)*C.cells i):=by
     have hd:(zp (xs.map (C.encV i))).drop (a*C.cells i)=(C.encV i (xs.getD a (C.dflt i))).flat++zp ((xs.drop (a+1)).map (C.encV i)):=by
      rw[zBw d,zVF w];simp only[zUC,zp,zUV,zUj w,zVl]
     rw[zWJ,<-zWt,hd,zWc (by rw[zUZ];omega),zBw d]
    rw[d1,d2];simp
   rw[e];exact hK _ _ h6 ⟨.refl _ _ _,zUB _,zUB _⟩ E
  .cases h
 .cases h
def jH{i j:U.I}{xs:db (U.den j)}{k:db (U.den i)->da R}(h:zAZ i j xs k=some r):∃e:j=i,k (zAX e xs)=some r:=by
 unfold zAZ at h;split at h
 .rename_i e;exact⟨e,h⟩
 .cases h
def zG9{b n:Nat}(h:okN b n=true):n*b<=140737488355328/\n<=maxLen:=by
 simpa [okN]using h
def zNW(c:TbOk C P Tb){el:dg}(a:dK C P el (Tb el))(h:(match(Tb el).zero with|some z=>Nat.beq z.length (Tb el).cells|none=>false)=true) :
 (xU P el).isSome=true/\(xU P el).map List.length=some (P.cellsOf el):=by
 rw[a.zero ⟨id,id,id,id⟩,a.cells];split at h
 .rename_i z b;rw[b];simp only[zVo]at h;simp[h]
 .cases h
def zON(hT:TbOk C P Tb)(E:CodOk C){L:Pol}{st:St U}{s:S}(o:dF C N st s){f:da Nat}{t t2:dg}{x y:T U}{xv yv:V}{K:V->S->Prop}{k:T U->St U->da R}
 (Q:VR C N x xv) (hy:VR C N y yv) (h:zJE Tb L.wr f st t t2 x y k=some r) (M:Kok C N st K k r):qz P L f s t t2 xv yv K:=by
 unfold zJE at h;obtain⟨i,el,hh,h1,G,v,h4⟩:=zCm hT h;clear h;have h:=hh;clear hh;simp only at h;have d:=zP h;clear h;obtain⟨h5,h⟩:=d;simp only[zUE,zVo]at h5;obtain⟨rfl,W⟩:=h5;have W:=(zNW hT G W).2;have X:wrD L.wr f=(f.map L.wr).getD false:=by cases f<;>rfl
 rw[X]at h;split at h
 .rename_i m j g;have d:=jH h;clear h;obtain⟨rfl,h⟩:=d;simp only[zAX]at h;have Y:=hy.get dQ;subst Y;simp only[trT,qz,h1];refine⟨trivial,G.has,W,by rw[<-v];exact E.pos j,by rw[<-v];exact zCg E j g,?_⟩;split at h
  .have d:=zP h;clear h;obtain⟨p,h⟩:=d;have p:=zG9 p;rw[Q.get dQ];simp only[trT,zUZ];refine⟨by rw[G.bytes];exact p.1,p.2,?_⟩;split
   .rename_i A;rw[A]at h;simp only[zUi]at h;have d:=zP h;clear h;obtain⟨F,h⟩:=d;refine⟨by cases g<;>simp at F ⊢,zCw E j g,λb cap Z w=>?_⟩;have u:=o.newBox (b:=b) (c:=cap) (z:=C.cells j) (bx:=.ar j g) Z ⟨if_pos rfl,by show _<=if _ then _ else _;rw[if_pos rfl];exact w⟩;have q:=N.ext_loc st.nl st.nx b cap (C.cells j);have H:(N.loc st.nl b cap (C.cells j)).cp st.nl=cap:=if_pos rfl;have eb:(N.loc st.nl b cap (C.cells j)).bl st.nl=b:=if_pos rfl;simp only[trB,H]at u;have:=M _ _ _ _ _ h ⟨q,zUn _,zUB _⟩ u (.inr rfl);simp only[trT,H,eb]at this;rw[<-v];exact this
   .rename_i A;have A:(Option.map L.wr f).getD false=false:=by simpa using A
    rw[A]at h;simp only[zUk]at h;have u:=o.newTok (n:=s.nx) (tg:=st.tg) (tg':=s.tg) (x:=s.nx+1) (λ_ h=>h) o.tgIn (λt B=>zWB (o.nm t B)) (zUn _) (zVn _);have:=M _ _ _ _ _ h ⟨N.ext_tok st.nl st.nx s.nx,zUB _,zUn _⟩ u (.inr rfl);simp only[trT,trM]at this;have e:(N.tok st.nx s.nx).tk st.nx=s.nx:=if_pos rfl;rw[e,v]at this;exact this
  .rename_i m' D I;split at h
   .rename_i tk nb;have d:=jH h;clear h;obtain⟨rfl,h⟩:=d;simp only[zAX]at h;have d:=zP h;clear h;obtain⟨p,h⟩:=d;simp only[zUE]at p;have F:=zG9 p.2;have hm:=zDZ p.1;rw[Q.get dQ];simp only[trT,trM,zUZ];refine⟨o.tgIn _ hm,v,by rw[G.bytes];exact F.1,F.2,?_⟩;have u:=o.newTok (n:=s.nx) (tg:=rmN st.tg tk) (tg':=s.tg.erase (N.tk tk)) (x:=s.nx+1) (λt B=>(kD B).1) (λt B=>by
     obtain⟨q1,q2⟩:=kD B;exact(List.mem_erase_of_ne (λe=>q2 (o.tgInj t q1 tk hm e))).2 (o.tgIn t q1)) (λt B=>zWB (o.nm t (kD B).1)) (zUn _) (zVn _)
    have:=M _ _ _ _ _ h ⟨N.ext_tok st.nl st.nx s.nx,zUB _,zUn _⟩ u (.inr rfl);simp only[trT,trM]at this;have e:(N.tok st.nx s.nx).tk st.nx=s.nx:=if_pos rfl;rw[e,zVa]at this;exact this
   .cases h
  .rename_i l n;split at h
   .rename_i D I hl;have d:=jH h;clear h;obtain⟨rfl,h⟩:=d;simp only[zAX]at h;have d:=zP h;clear h;obtain⟨p,h⟩:=d;simp only[zUE,zV3]at p;obtain⟨⟨F,h8⟩,O⟩:=p;have O:=zG9 O;have A:=o.wf l _ hl;rw[Q.get dQ];simp only[trT,o.box l _ hl,trB,zUZ];refine⟨F,by rw[v],by have:=A.2;omega,by rw[kj E,<-v];exact zVV _ h8,by rw[G.bytes];exact O.1,O.2,zCw E D g,λJ a Z w=>?_⟩;have hd:=o.drop l hl;have u:=hd.newBox (b:=J) (c:=a) (z:=C.cells D) (bx:=.ar D (I.take n++g)) Z ⟨if_pos rfl,by
     show _<=if _ then _ else _
     rw[if_pos rfl,zUI,zVH];omega⟩
    have q:=N.ext_loc st.nl st.nx J a (C.cells D);have H:(N.loc st.nl J a (C.cells D)).cp st.nl=a:=if_pos rfl;have eb:(N.loc st.nl J a (C.cells D)).bl st.nl=J:=if_pos rfl;simp only[trB,H]at u;have:=M _ _ _ _ _ h ⟨q,zUn _,zUB _⟩ u (.inr rfl);simp only[trT,H,eb]at this;rw[zVa,zGM,<-zBx E]at this;rw[<-v];exact this
   .cases h
  .cases h
 .cases h
end
open Go.Al
section
variable{U:TyU}{C:Cod U}{P:di}{Tb:dg->TD U}{R:Type}{r:R}{N:NM}
def zOL(s:db UInt8)(a b:Nat):(⟨s.toArray⟩:dk).extract a b=⟨((s.take b).drop a).toArray⟩:=by
 apply ByteArray.ext;simp[ByteArray.data_extract,List.extract_toArray,zWi,List.drop_take]
def OR(C:Cod U)(N:NM)(x:da (T U))(v:da V):Prop:=match x,v with|none,none=>True|some x,some v=>VR C N x v|_,_=>False
def zO0(H:TbOk C P Tb)(X:CodOk C){st:St U}{s:S}(Y:dF C N st s){t:dg}{x:T U}{Z:V}{lo hi:da (T U)}{g B:da V}{K:V->Prop}{k:T U->da R}(E:VR C N x Z)
 (f:OR C N lo g) (o:OR C N hi B) (h:zME C Tb st t x lo hi k=some r) (F:∀v,k v=some r->K (trT C N v)):ja P t Z g B K:=by
 unfold zME at h;split at h
 .rename_i m j xs;obtain⟨i,el,b,p,z,G,J⟩:=zCm H h;clear h;have A:=zP b;clear b;obtain⟨q,h⟩:=A;simp only[zU7]at q;subst q;rw[E.get dQ];simp only[trT,ja,p];refine⟨z.has,.inr λy hy=>by rw[<-G];exact zCg X j xs y (zVG hy),?_⟩;refine zBZ f h λl D=>?_;rw[zUZ];refine zBZ o D λb c=>?_;obtain⟨u,w⟩:=zP c;refine⟨zFH u,?_⟩;have:=F _ w;simp only[trT,cutL,zWh,zWT]at this;rw[zS8 m xs (cutL xs l b)];simpa [cutL,zWh,zWT]using this
 .rename_i l0 n;obtain⟨i,el,b,p,z,G,J⟩:=zCm H h;clear h;split at b
  .split at b
   .rename_i j xs D;have A:=zP b;clear b;obtain⟨q,h⟩:=A;simp only[zU7]at q;subst q;cases g with
    |some _=>exact f.elim
    |none=>
     rw[E.get dQ];simp only[trT,ja,p];refine⟨z.has,?_⟩;have e0:∀(d:Int)(K:Int->Prop),jz none d K=K d:=λ_ _=>rfl;rw[e0];refine zBZ o h λb c=>?_;obtain⟨u,w⟩:=zP c;obtain⟨L,M,q3⟩:=zFH u;have I:=Y.wf l0 _ D;refine⟨⟨L,M,by have:=I.2;omega⟩,?_⟩;have:=F _ w;simp only[trT]at this;have O:(if((N.cp l0:Nat):Int)=0 then 0 else 0+(0:Int).toNat*P.cellsOf el)=0:=by split<;>simp
     rw[O];simpa using this
   .cases b
  .rename_i aa;split at b
   .rename_i Q a;split at b
    .rename_i j xs D;have A:=zP b;clear b;obtain⟨q,h⟩:=A;simp only[zU7]at q;subst q;cases g with
     |none=>exact f.elim
     |some lv=>
      have W:lv=.at (.int Q a):=(VR.get (C:=C) (N:=N) (x:=.int Q a) f dQ).trans rfl;subst W;rw[E.get dQ];simp only[trT,ja,p];refine⟨z.has,?_⟩;have e0:∀(d:Int)(K:Int->Prop),jz (some (.at (.int Q a))) d K=K a:=λ_ _=>rfl;rw[e0];refine zBZ o h λb c=>?_;obtain⟨u,w⟩:=zP c;obtain⟨L,M,q3⟩:=zFH u;have I:=Y.wf l0 _ D;refine⟨⟨L,M,by have:=I.2;omega⟩,?_⟩;have:=F _ w;simp only[trT]at this;have O:(if((N.cp l0:Nat):Int)=a then 0 else 0+a.toNat*P.cellsOf el)=(if N.cp l0=a.toNat then 0 else a.toNat*N.sz l0):=by
       rw[I.1,G];by_cases e:N.cp l0=a.toNat
       .rw[if_pos e,if_pos dM]
       .rw[if_neg e,if_neg dM,zUY]
      rw[O];exact this
    .cases b
   .cases b
 .rename_i s';obtain⟨p,z⟩:=zP h;simp only[zUE]at p;rw[E.get dQ];simp only[trT,ja];refine⟨(H t p.1).isStr.trans p.2,?_⟩;refine zBZ f z λl D=>?_;have e:((⟨s'.toArray⟩:dk).size:Int)=lenI s':=by simp[ByteArray.size,lenI]
  rw[e];refine zBZ o D λb c=>?_;obtain⟨u,w⟩:=zP c;refine⟨by have:=zFH u;simpa [lenI]using this,?_⟩;have:=F _ w;simp only[trT,cutL]at this;rw[zOL];exact this
 .split at h
  .rename_i fs;split at h
   .split at h
    .split at h
     .rename_i m i hr;obtain⟨p,z⟩:=zP h;simp only[zUE,zVo,zVU]at p;obtain⟨⟨⟨⟨G,J⟩,q⟩,u⟩,w⟩:=p;obtain⟨xs,h8,h9⟩:=zHd X J z;rw[E.get dQ];cases g with
      |some _=>exact f.elim
      |none=>
       cases B with
       |some _=>exact o.elim
       |none=>
        simp only[trT,ja,xf];have A:=F _ h8;simp only[trT,trM,zUN,zUK]at A;refine⟨by rw[zUZ,<-u];exact(H t G).arr m i hr,(qO C N fs).2 q,λe=>?_,trivial,trivial,by rw[h9 N];exact A⟩;have:fs=[]:=by simpa using e
        subst this;simp at w
     .cases h
    .cases h
   .cases h
  .cases h
 .cases h
def zF6(a:CodOk C){i:U.I}:∀{parts:db (Nat×T U)}{k:db (U.den i)->da R},zIZ C i parts k=some r ->
 ∃xs,k xs=some r/\(∀N,parts.map (λp=>(trT C N p.2).untag)=xs.map (C.encV i))/\(C.plain i=true->∀N,parts.map (λp=>trT C N p.2)=xs.map (C.encV i))
 |[],k,h=>⟨[],h,λ_=>rfl,λ_ _=>rfl⟩
 |p::j,k,h=>by
  simp only[zIZ]at h;by_cases b:C.plain i=true
  .obtain⟨x,d,c⟩:=a.decP i _ _ _ b h;obtain⟨xs,e,f,l⟩:=zF6 a d;exact⟨x::xs,e,λN=>by rw[zUC,zUC,f N,c N,a.untag],λb N=>by rw[zUC,zUC,l b N,c N]⟩
  .obtain⟨x,d,c⟩:=a.dec i _ _ _ h;obtain⟨xs,e,f,l⟩:=zF6 a d;exact⟨x::xs,e,λN=>by rw[zUC,zUC,f N,c N],λg=>absurd g b⟩
def PR(C:Cod U)(N:NM)(parts:db (Nat×T U))(vs:db (Nat×V)):Prop:=vs.map (·.1)=parts.map (·.1)/\∀(j:Nat)(x:Nat×T U)(v:Nat×V),parts[j]?=some x->vs[j]?=some v->VR C N x.2 v.2
def PR.exact:∀{parts:db (Nat×T U)}{vs:db (Nat×V)},PR C N parts vs->zC9 parts=true->vs=parts.map λp=>(p.1,trT C N p.2)
 |[],vs,h,_=>by have:=h.1;simpa using this
 |p::c,vs,h,d=>by
  simp only[zC9,zUE]at d;cases vs with
  |nil=>have:=h.1;simp at this
  |cons v vs=>
   have f:=h.1;simp only[zUC,zVq]at f;have i:=h.2 0 p v rfl rfl;have g:p.2≠.any:=λe=>by rw[e]at d;simp[T.flat,yz,T.isOne]at d
   have:=PR.exact (parts:=c) (vs:=vs) ⟨f.2,λj x v a b=>h.2 (j+1) x v eF eG⟩ d.2;rw[this];simp only[zUC,zVq];exact⟨by rw[<-f.1,<-i.get g],trivial⟩
def zLb{f:T U->V}:∀{n:Nat}{parts:db (Nat×T U)},zKJ n parts=true->kC n (parts.map λp=>(p.1,f p.2))=true
 |_,[],_=>rfl
 |n,p::a,h=>by
  simp only[zKJ,zUE,zVo]at h;simp only[zUC,kC,zUE,zWN];exact⟨h.1,zLb h.2⟩
def zHw(N:NM):∀{parts:db (Nat×T U)},zC9 parts=true->(parts.map λp=>(p.1,trT C N p.2)).all (λp=>p.2.flat.all V.isOne)=true
 |[],_=>rfl
 |p::a,h=>by
  simp only[zC9,zUE]at h;simp only[zUC,zUd,zUE];refine⟨?_,zHw N h.2⟩;have:=(qO C N p.2.flat).2 h.1;rw[<-jw]at this;exact this
def zIk(M:TbOk C P Tb)(w:CodOk C){L:Pol}{st:St U}{s:S}(f:dF C N st s){d:da Nat}{t:dg}{n:Nat}{parts:db (Nat×T U)}{vs:db (Nat×V)}{K:V->S->Prop}{k:T U->St U->da R}
 (X:PR C N parts vs) (h:zEL C Tb L.wr L.own d st t n parts k=some r) (y:Kok C N st K k r):xA P L d s t n vs K:=by
 unfold zEL at h;obtain⟨i,el,O,Y,A,B,h4⟩:=zCm M h;clear h;have Z:=zP O;clear O;obtain⟨Q,h⟩:=Z;simp only[zUE,zV3,zVo,zU7]at Q;obtain⟨⟨⟨⟨⟨u,h6⟩,h7⟩,h8⟩,h9⟩,g⟩:=Q;have u:=zNW M A u;have D:=X.exact g;subst D;obtain⟨xs,a,j,E⟩:=zF6 w h;clear h;have F:wrD L.wr d=(d.map L.wr).getD false:=by cases d<;>rfl
 have G:wrD L.own d=(d.map L.own).getD false:=by cases d<;>rfl
 rw[F,G]at a;have l:xs.length=n:=by
  have:=zU1 List.length (j N);simp only[zUZ]at this;omega
 have H:(List.map (λp=>(p.1,trT C N p.2)) parts).map (λp=>p.2.untag)=xs.map (C.encV i):=by
  rw[zVr];exact j N
 unfold xA;simp only[Y,H];refine⟨A.has,u.1,u.2,by rw[A.cells];exact h6,h7,by rw[zUZ];exact h8,zLb h9,by rw[<-B];exact zCg w i xs,zHw N g,?_⟩;split
 .rename_i m;rw[m]at a;simp only[zUi]at a;obtain⟨I,J⟩:=zP a;have e:(List.map (λp=>(p.1,trT C N p.2)) parts).map (·.2)=xs.map (C.encV i):=by
   rw[zVr];exact E I N
  rw[e];refine⟨zCw w i xs,λb hb=>?_⟩;have v:=f.newBox (b:=b) (c:=n) (z:=C.cells i) (bx:=.ar i xs) hb ⟨if_pos rfl,by show _<=if _ then _ else _;rw[if_pos rfl,l];exact zUB _⟩;have o:=N.ext_loc st.nl st.nx b n (C.cells i);have W:(N.loc st.nl b n (C.cells i)).cp st.nl=n:=if_pos rfl;have eb:(N.loc st.nl b n (C.cells i)).bl st.nl=b:=if_pos rfl;simp only[trB,W]at v;have:=y _ _ _ _ _ J ⟨o,zUn _,zUB _⟩ v (.inr rfl);simp only[trT,W,eb]at this;rw[<-B];exact this
 .rename_i m;have m:(Option.map L.wr d).getD false=false:=by simpa using m
  rw[m]at a;simp only[zUk]at a;split
  .rename_i q;rw[q]at a;simp only[zUi]at a;have v:=f.newTok (n:=s.nx) (tg:=st.tg) (tg':=s.tg) (x:=s.nx+1) (λ_ h=>h) f.tgIn (λt ht=>zWB (f.nm t ht)) (zUn _) (zVn _);have:=y _ _ _ _ _ a ⟨N.ext_tok st.nl st.nx s.nx,zUB _,zUn _⟩ v (.inr rfl);simp only[trT,trM]at this;have e:(N.tok st.nx s.nx).tk st.nx=s.nx:=if_pos rfl;rw[e,B]at this;exact this
  .rename_i q;have q:(Option.map L.own d).getD false=false:=by simpa using q
   rw[q]at a;simp only[zUk]at a;have:=y _ _ _ _ _ a ⟨.refl _ _ _,zUB _,zUB _⟩ f (.inr rfl);simpa [trT,trM]using this
def zEo(C:Cod U)(P:di)(L:Pol)(a:Call U R)(r:R)(PP:db dj->Prop):Prop:=
 ∀n args ks st k N s,dF C N st s->bdds st.nl st.nx args=true->jT args=true->a n args ks st k=some r ->
  ∀K KP d,(∀b∈d,∃l∈ks,N.bl l=b)->Kok C N st K k r->(∀c s,PP c->KP c s)->(n<1000000->zC0 P L d (.clo (.func n) []) (args.map (trT C N)) s K KP)/\(∀m,mIx m=n->∀x as,args=x::as->zMx P (trT C N x) m (as.map (trT C N)) s K) /\
   (∀m,cIx m=n->∀as caps,args=as++caps->jT as=true->zD6 caps=true->zC0 P L d (.clo (.func m) (caps.map (trT C N))) (as.map (trT C N)) s K KP)
structure KdOk(L:Pol)(kd:KD)(N:NM)(nl:Nat):Prop where
 kl:∀p∈L.kl,∃l,(p.1,p.2,l)∈kd
 kb:∀d b,b∈L.kb d->∃u l,(d,u,l)∈kd/\N.bl l=b
 kb2:∀d u l,(d,u,l)∈kd->N.bl l∈L.kb d/\l<nl
def KdOk.turn{L:Pol}{kd:KD}{N N':NM}{st a:St U}(h:KdOk L kd N st.nl)(t:Turn N st N' a):KdOk L kd N' a.nl:=
 ⟨h.kl,λd b f=>let⟨u,l,c,e⟩:=h.kb d b f;⟨u,l,c,(t.ext.bl l (h.kb2 d u l c).2).trans e⟩,λd u l g=>let⟨c,e⟩:=h.kb2 d u l g;⟨by rw[t.ext.bl l e];exact c,zUo e t.nl⟩⟩
def ldD_ok{L:Pol}{kd:KD}{st:St U}{e:En U}{E:Env}(g:KdOk L kd N st.nl)(j:dG C N st e E){x:dq}(h:ldD kd x e=true):ldK L x (E.ev x):=by
 cases x with
 |tmp u=>
  intro p m n b o d;subst n;obtain⟨l,i⟩:=g.kl p m;have a:=zUb.1 h _ i;have q:Nat.beq p.2 p.2=true:=dQ
  simp only[q,zV7,zWg]at a;have c:=(j p.2).1;have s:=g.kb2 p.1 p.2 l i;change E.get p.2=_ at d;split at a
  .rename_i t o' f;have:t=l:=by simpa using a
   subst this;rw[f]at c;have:=c.get dQ;rw[d]at this;simp only[trT]at this;injection this with this
   injection this with this
   injection this with this
   injection this with v _ _
   rw[v];exact s.1
  .rename_i y f;rw[f]at c;have:=c.get dQ;rw[d]at this;simp[trT]at this
  .cases a
 |_=>trivial
def stD_ok{L:Pol}{kd:KD}{st:St U}{s:S}{e:En U}{E:Env}(q:KdOk L kd N st.nl)(t:dF C N st s)(v:dG C N st e E){x:dq}(h:stD kd x e st=true):stK L x (E.ev x):=by
 cases x with
 |tmp a=>
  intro b o n f;obtain⟨u,w,y,g⟩:=q.kb _ b f;have d:=zUb.1 h _ y;have i:Nat.beq (1000000+a) (1000000+a)=true:=dQ
  simp only[i,zV7,zWg]at d;have p:=(v a).1;change E.get a=_ at n;split at d
  .rename_i l o' z;simp only[zUE,zVU]at d;rw[z]at p;have:=p.get dQ;rw[n]at this;simp only[trT]at this;injection this with this
   injection this with this
   injection this with this
   injection this with A _ _
   have c:∀j,zKR st j=true->∃bx,lk st.bx j=some bx:=λj m=>by
    unfold zKR at m;split at m
    .rename_i bx f;exact⟨bx,f⟩
    .cases m
   obtain⟨b1,k1⟩:=c _ d.1.2;obtain⟨B,k2⟩:=c _ d.2;have:=t.inj l w b1 B k1 k2 (A.symm.trans g.symm);subst this;simp at d
  .cases d
 |_=>trivial
def zR5{kd:KD}{d u l:Nat}(h:(d,u,l)∈kd):l∈ksD kd (some d):=zV8.2 ⟨_,h,dQ⟩
def zGG:∀{e:En U}{E:Env}{st:St U}(_:dG C N st e E){l:db dq},jT (evL e l)=true->l.map E.ev=(evL e l).map (trT C N)
 |_,_,_,_,[],_=>rfl
 |e,E,st,b,x::c,h=>by
  simp only[evL,jT,zUE]at h;simp only[evL,zUC];have a:evT e x≠.any:=λe'=>by rw[e']at h;simp[T.flat,yz,T.isOne]at h
  rw[(b.ev x).get a,zGG b h.2]
def zIX{x:T U}{r:db (T U)}(h:zD6 (x::r)=true):(∃l o,x=.ptr l o)/\zD6 r=true:=by
 cases x with
 |ptr l o=>exact⟨⟨l,o,rfl⟩,h⟩
 |_=>cases h
def zL3:∀{l:db (T U)},zD6 l=true->jT l=true
 |[],_=>rfl
 |x::r,h=>by
  obtain⟨⟨l,o,rfl⟩,a⟩:=zIX h;simp only[jT,zUE];exact⟨rfl,zL3 a⟩
def zIV:∀{as caps:db (T U)},jT as=true->jT caps=true->jT (as++caps)=true
 |[],_,_,h=>h
 |x::r,caps,a,b=>by
  simp only[jT,zUO,zUE]at a ⊢;exact⟨a.1,zIV a.2 b⟩
def zMj{as caps:db (T U)}(a:jT as=true)(b:zD6 caps=true):jT (as++caps)=true:=zIV a (zL3 b)
def zJc:∀{l:db (T U)},zD6 l=true->zM (l.map (trT C N))
 |[],_=>rfl
 |x::r,h=>by
  obtain⟨⟨l,o,rfl⟩,a⟩:=zIX h;have:=zJc a;unfold zM at this ⊢;simp only[zUC,zUd,this,zWH];rfl
def zMS{e:En U}{E:Env}{st:St U}(f:dG C N st e E)(l:db (Nat×dq)):PR C N (evP e l) (l.map λp=>(p.1,E.ev p.2)):=by
 have g:∀l:db (Nat×dq),evP e l=l.map λp=>(p.1,evT e p.2):=λl=>by
  induction l with
  |nil=>rfl
  |cons a r h=>simp[evP,h]
 rw[g];refine⟨dQ,λj x v b c=>?_⟩;rw[zUy]at b c;cases d:l[j]? with
 |none=>rw[d]at b;cases b
 |some p=>
  rw[d]at b c;injection b with b
  injection c with c
  subst b;subst c;exact f.ev p.2
def zP1{e:En U}{E:Env}{st:St U}(a:dG C N st e E)(x:da dq):OR C N (evO e x) (x.map E.ev):=by
 cases x with
 |none=>trivial
 |some x=>exact a.ev x
def zOs(s k:db UInt8):((⟨s.toArray⟩:dk)==⟨k.toArray⟩)=seq s k:=by
 rw[beq_toListBytes];have a:(⟨s.toArray⟩:dk).toList=s:=j7 s;have b:(⟨k.toArray⟩:dk).toList=k:=j7 k;rw[a,b];rfl
def zNH:∀(m:MT)(s:db UInt8),(mget (trMC m) ⟨s.toArray⟩=none/\mpG m s=0)\/mget (trMC m) ⟨s.toArray⟩=some (.at (.int .i64 (mpG m s)))
 |[],_=>.inl ⟨rfl,rfl⟩
 |(k,v)::r,s=>by
  have e:mget (trMC ((k,v)::r)) ⟨s.toArray⟩=if((⟨s.toArray⟩:dk)==⟨k.toArray⟩)=true then some (.at (.int .i64 v))else mget (trMC r) ⟨s.toArray⟩:=rfl
  rw[e,zOs];unfold mpG;cases seq s k
  .exact zNH r s
  .exact .inr rfl
def zNi:∀(m:MT)(s:db UInt8)(z:Int),mput (trMC m) ⟨s.toArray⟩ (.at (.int .i64 z))=trMC (mpP m s z)
 |[],_,_=>rfl
 |(k,v)::r,s,z=>by
  have e:mput (trMC ((k,v)::r)) ⟨s.toArray⟩ (.at (.int .i64 z))=if((⟨s.toArray⟩:dk)==⟨k.toArray⟩)=true then(⟨s.toArray⟩,.at (.int .i64 z))::trMC r else(⟨k.toArray⟩,.at (.int .i64 v))::mput (trMC r) ⟨s.toArray⟩ (.at (.int .i64 z)):=rfl
  have a:mpP ((k,v)::r) s z=cond (seq s k) ((s,z)::r) ((k,v)::mpP r s z):=rfl;rw[e,zOs,zNi r s z,a];cases seq s k<;>rfl
def zOl(u:TbOk C P Tb){st:St U}{s:S}(d:dF C N st s){t:dg}{x i:T U}{f g:V}{c:dd}{K:V->Prop}{k:T U->da R}(w:VR C N x f)(hi:VR C N i g)(h:zIg Tb st t x i c k=some r)
 (y:∀v,k v=some r->K (trT C N v)):zAO P s t f g c K:=by
 unfold zIg at h;split at h
 .rename_i l;split at h
  .rename_i z;split at h
   .rename_i o j;split at h
    .rename_i m;obtain⟨n,A⟩:=zP h;simp only[zUE,zVU]at n;obtain⟨⟨B,D⟩,rfl⟩:=n;obtain⟨e,E,F⟩:=(u t D).mpi B;have p:=d.ob.wf l _ j;obtain⟨fp,q⟩:=d.ob.look l _ j;simp only[wfO]at p;simp only[trO]at q;have a:=y _ A;rw[w.get dQ,hi.get dQ];simp only[trT,if_neg p,zAO,E,F,q];refine⟨rfl,?_⟩;rcases zNH m z with⟨b,G⟩|b
     .rw[b];rw[G]at a;exact a
     .rw[b];exact a
    .cases h
    .cases h
    .cases h
   .cases h
  .cases h
 .cases h
def OSim.reMp{c:db (Nat×da TO)}{nl:Nat}{d:db (Nat×OV×db Nat)}(h:OSim N c nl d){l:Nat}{m g:MT}(f:lko c l=some (.mp m)){fp:db Nat}:OSim N ((l,some (.mp g))::c) nl ((N.bl l,.mp (trMC g),fp)::d):=by
 have b:∀{j o},lko ((l,some (.mp g))::c) j=some o->(j=l/\o=.mp g)\/(j≠l/\lko c j=some o):=λ{j o} a=>by
  rw[kT]at a;split at a
  .rename_i e;injection a with a;exact .inl ⟨e.symm,a.symm⟩
  .rename_i e;exact .inr ⟨λe'=>e e'.symm,a⟩
 refine⟨λj o a=>?_,λj o a=>?_,λj o a=>?_,λj v o o' t i n=>?_⟩
 .rcases b a with⟨rfl,rfl⟩|⟨e,a⟩
  .exact⟨fp,by rw[zK,if_pos rfl];rfl⟩
  .obtain⟨p,i⟩:=h.look j o a;exact⟨p,by rw[zK,if_neg (λu=>e (h.inj l j _ _ f a u).symm)];exact i⟩
 .rcases b a with⟨rfl,rfl⟩|⟨e,a⟩
  .exact h.lt _ _ f
  .exact h.lt j o a
 .rcases b a with⟨rfl,rfl⟩|⟨e,a⟩
  .exact(h.wf _ _ f:N.cp _≠0)
  .exact h.wf j o a
 .rcases b t with⟨rfl,rfl⟩|⟨_,q⟩<;>rcases b i with⟨rfl,rfl⟩|⟨_,s⟩
  .rfl
  .exact h.inj _ _ _ _ f s n
  .exact h.inj _ _ _ _ q f n
  .exact h.inj _ _ _ _ q s n
def zRN(q:TbOk C P Tb){st:St U}{s:S}(a:dF C N st s){t:dg}{x i y:T U}{d f g:V}{K:S->Prop}{k:St U->da R}(u:VR C N x d)(hi:VR C N i f)(v:VR C N y g)(h:zOC Tb st t x i y k=some r)
 (w:∀b s',k b=some r->Turn N st N b->dF C N b s'->K s'):qd P s t d f g K:=by
 unfold zOC at h;split at h
 .rename_i l;split at h
  .rename_i F;split at h
   .rename_i kk z;split at h
    .rename_i o c;split at h
     .rename_i m;obtain⟨j,A⟩:=zP h;simp only[zUE,zU7]at j;obtain⟨⟨B,D⟩,rfl⟩:=j;obtain⟨e,E,G⟩:=(q t D).mpi B;have n:=a.ob.wf l _ c;obtain⟨fp,p⟩:=a.ob.look l _ c;simp only[wfO]at n;simp only[trO]at p;rw[u.get dQ,hi.get dQ,v.get dQ];simp only[trT,if_neg n,qd,E,p];refine⟨rfl,w _ _ A ⟨.refl _ _ _,zUB _,zUB _⟩ ?_⟩;rw[show(V.at (.int .i64 z)).untag=.at (.int .i64 z)from rfl,zNi];exact⟨a.box,a.lt,a.wf,a.inj,a.tgIn,a.tgInj,a.tgLt,a.nm,a.ob.reMp c⟩
     .cases h
     .cases h
     .cases h
    .cases h
   .cases h
  .cases h
 .cases h
def dop_ok(A:TbOk C P Tb)(I:CodOk C){L:Pol}{call:Call U R}{PP:db dj->Prop}(F:zEo C P L call r PP){st:St U}{s:S}{e:En U}{E:Env}(j:dF C N st s)(g:dG C N st e E){o:dr}{K:V->S->Prop}{KP:db dj->S->Prop}{k:T U->St U->da R}
 {kd:KD} (J:KdOk L kd N st.nl) (h:dop C Tb call L.wr L.own kd e st o k=some r) (Q:∀c s,PP c->KP c s) (D:Kok C N st K k r):aop P L E s o K KP:=by
 have pure:∀v,k v st=some r->K (trT C N v) s:=λv hv=>D _ _ _ _ _ hv (Turn.refl N st) j (.inr rfl);obtain⟨M,op,ty,ad,af,gd⟩:=o;cases op<;>simp only[dop]at h<;>simp only[aop]
 case move x=>exact D _ _ _ _ _ h (Turn.refl N st) j (g.ev x)
 case assign x=>exact D _ _ _ _ _ h (Turn.refl N st) j (g.ev x)
 case pick c a b=>exact zRv (g.ev c) (g.ev a) (g.ev b) h λv v' hv hr=>D _ _ _ _ _ hv (Turn.refl N st) j hr
 case alloc t=>
  unfold zP2 at h;obtain⟨z,B⟩:=zP h;split at B
  .rename_i cs aa;unfold zAL;rw[(A t z).zero N,aa];exact zMy j rfl B D
  .cases B
 case box t x=>
  rw[zBo]at h;have ab:evT e x≠.any:=λe'=>by
   rw[e']at h;simp[dNew,T.flat,yz,T.isOne]at h
  rw[(g.ev x).get ab,jw];exact zMy j rfl h D
 case build t parts=>
  rw[zMC]at h;exact zP5 A (zMS g _).1 (zMS g _).2 h pure
 case buildSlice t n parts=>
  rw[zMC]at h;exact zIk A I j (zMS g _) h D
 case load t x=>
  obtain⟨h0,z⟩:=zP h;exact⟨ldD_ok J g h0,zHF A I j (g.ev x) z pure⟩
 case store t x y=>
  obtain⟨h0,h⟩:=zP h;exact⟨stD_ok J j g h0,zOv A I j (g.ev x) (g.ev y) h λac s' z B G=>D _ _ _ _ _ z B G (.inl rfl)⟩
 case nilCheck x=>exact zMK (g.ev x) h pure
 case binOp op t x y t2=>exact zR8 A (g.ev x) (g.ev y) h pure
 case unOp op t x=>exact dUn_ok (g.ev x) h pure
 case slice t x lo hi mx=>
  cases mx with
  |some _=>cases h
  |none=>exact⟨rfl,zO0 A I j (g.ev x) (zP1 g lo) (zP1 g hi) h pure⟩
 case fieldAddr t x f=>exact zKA A (g.ev x) h pure
 case indexAddr t x i=>exact zJy A I j (g.ev x) (g.ev i) h pure
 case index t x i=>exact zQH A I (g.ev x) (g.ev i) h pure
 case extract x i=>exact zMW (g.ev x) h pure
 case lookup t x i c=>exact zOl A j (g.ev x) (g.ev i) h pure
 case mapUpdate t x i y=>exact zRN A j (g.ev x) (g.ev i) (g.ev y) h λac s' z B G=>D _ _ _ _ _ z B G (.inl rfl)
 case makeMap ty n=>
  cases n with
  |some _=>cases h
  |none=>
   refine⟨rfl,λb hb=>?_⟩;have p:=N.ext_loc st.nl st.nx b 1 0;have W:(N.loc st.nl b 1 0).bl st.nl=b:=if_pos rfl;have X:(N.loc st.nl b 1 0).cp st.nl=1:=if_pos rfl;have:=D (N.loc st.nl b 1 0) ⟨st.bx,st.tg,st.nl+1,st.nx,(st.nl,some (.mp []))::st.ob⟩ ⟨s.box,s.tg,s.nx,(b,.mp [],[b])::s.ob⟩ (.hd st.nl) (.at (.map (some b))) h ⟨p,zUn _,zUB _⟩
    ⟨λl bx q=>by rw[p.bl l (j.lt l bx q),zDC j p (zUB _) (zUB _) q];exact j.box l bx q,λl bx q=>Nat.lt_succ_of_lt (j.lt l bx q),λl bx q=>zDA p (zUn _) (zUB _) (j.lt l bx q) (j.wf l bx q),
     λl l' b1 b2 z B g=>by rw[p.bl l (j.lt l b1 z),p.bl l' (j.lt l' b2 B)]at g;exact j.inj l l' b1 b2 z B g,j.tgIn,j.tgInj,j.tgLt,j.nm,j.ob.new p W (by show wfO _ _ (.mp []);simp only[wfO,X];decide) hb rfl⟩ (.inr (by simp only[trT,W,X];rfl))
   exact this
 case call c=>
  obtain⟨H,args,ts⟩:=c;cases H with
  |invoke x m=>cases h
  |value f=>
   simp only[zDM]at h ⊢;unfold dCall at h;split at h
   .rename_i fn caps hf;split at h
    .rename_i n;have Y:=g.ev f;rw[hf]at Y;rw[Y.get dQ];have Z:∀b∈klb L M,∃l∈ksD kd M,N.bl l=b:=λb hb=>by
      cases M with
      |none=>cases hb
      |some d=>
       obtain⟨u,l,q1,q2⟩:=J.kb d b hb;exact⟨l,zR5 q1,q2⟩
     split at h
     .obtain⟨z,B⟩:=zP h;simp only[zUE]at z;obtain⟨⟨G,h4⟩,h5⟩:=z;rw[zGG g G];exact(F _ _ _ _ _ _ _ j h4 G B K KP _ Z D Q).1 (xc h5)
     .rename_i c cs;obtain⟨z,B⟩:=zP h;simp only[zUE]at z;obtain⟨⟨h5,G⟩,h4⟩:=z;rw[zGG g G];have h6:=(F _ _ _ _ _ _ _ j h4 (zMj G h5) B K KP _ Z D Q).2.2 n rfl _ _ rfl G h5;rw[show trT C N (.clo (.func n) (c::cs))=.clo (.func n) ((c::cs).map (trT C N))by simp only[trT,xf]];exact h6
    .cases h
   .cases h
  |builtin b=>
   simp only[zDM]at h ⊢;have e1:∀l:db dq,evL e l=l.map (evT e):=λl=>by
    induction l with
    |nil=>rfl
    |cons a r ih=>simp[evL,ih]
   rw[e1]at h;unfold zLs at h;cases b<;>simp only at h<;>try(cases h;done)
   case len=>
    split at h
    .rename_i t _ O;split at h
     .rename_i x w;cases q:args.toList with
      |nil=>rw[q]at w;cases w
      |cons a l2=>
       cases l2 with
       |cons _ _=>rw[q]at w;simp at w
       |nil=>
        rw[q]at w;simp only[zUC,zUL,zVq,zVx]at w;subst w;simp only[zAb,O,zUC,zUL];exact zTy A (g.ev a) h pure
     .cases h
    .cases h
   case append=>
    split at h
    .rename_i t t2 O;split at h
     .rename_i x y w;cases q:args.toList with
      |nil=>rw[q]at w;cases w
      |cons a l2=>
       cases l2 with
       |nil=>rw[q]at w;simp at w
       |cons b l3=>
        cases l3 with
        |cons _ _=>rw[q]at w;simp at w
        |nil=>
         rw[q]at w;simp only[zUC,zUL,zVq,zVx]at w;obtain⟨rfl,rfl⟩:=w;simp only[zAb,O,zUC,zUL];exact zON A I j (g.ev a) (g.ev b) h D
     .cases h
    .cases h
 all_goals cases h
def dstL:db dr->db Nat
 |[]=>[]
 |o::r=>(match o.dst with|some d=>d::dstL r|none=>dstL r)
def FrX(ds:db Nat)(e e':En U):Prop:=∀j,j∉ds->eget e' j=eget e j
def Kok2(C:Cod U)(N:NM)(st:St U)(e:En U)(ds:db Nat)(K:Env->S->Prop)(k:En U->St U->da R)(r:R):Prop:=
 ∀N' e' a b s',k e' a=some r->Turn N st N' a->dF C N' a s'->dG C N' a e' b->FrX ds e e'->K b s'
def FrX.put(e:En U)(o:dr)(v:T U):FrX (dstL [o]) e (eput e o.dst v):=λj a=>by
 cases b:o.dst with
 |none=>rfl
 |some d=>
  have:d≠j:=λe=>by subst e;apply a;simp[dstL,b]
  simp[eput,eget,qN this]
def zLe(l:TbOk C P Tb)(m:CodOk C){L:Pol}{a:Call U R}{PP:db dj->Prop}(b:zEo C P L a r PP){st:St U}{s:S}{e:En U}{E:Env}(n:dF C N st s)(g:dG C N st e E){o:dr}{K:Env->S->Prop}{KP:db dj->S->Prop}{k:En U->St U->da R}
 {kd:KD} (d:KdOk L kd N st.nl) (h:zIe C Tb a L.wr L.own kd e st o k=some r) (f:∀c s,PP c->KP c s) (p:Kok2 C N st e (dstL [o]) K k r):aop P L E s o (λv s'=>K (E.putO o.dst v) s') KP:=by
 unfold zIe at h;refine dop_ok l m b n g d h f ?_;intro N' q s' v v' i j t u;simp only[zDr,jF,zHD]at i;obtain⟨w,x⟩:=zP i;exact p _ _ _ _ _ x j t ((g.turn j).put u w o.dst) (FrX.put e o v)
def zQx(D:TbOk C P Tb)(F:CodOk C){L:Pol}{f:Call U R}{PP:db dj->Prop}(a:zEo C P L f r PP){st:St U}{s:S}{e:En U}{E:Env}(x:dF C N st s)(m:dG C N st e E){ds:db (da Nat)}{o:dr}{K:Env->S->Prop}{KP:db dj->S->Prop}{k:En U->St U->da R}
 {kd:KD} (n:KdOk L kd N st.nl) (h:zN1 C Tb f L.wr L.own kd ds o e st k=some r) (p:∀c s,PP c->KP c s) (y:Kok2 C N st e (dstL [o]) K k r):zv P L ds KP o K E s:=by
 unfold zN1 at h;unfold zv ji;split at h
 .rename_i z;rw[z];simp only[zUM];exact zLe D F a x m n h p y
 .rename_i g z;rw[z];obtain⟨j,b⟩:=g;simp only at h ⊢;split at h
  .cases h
  .rename_i d G;rw[G];simp only;split at h
   .rename_i t q;have u:=(m d).1;rw[q]at u;rw[u.get dQ];simp only[trT];have v:dG C N st (eput e (some d) (.bool t)) E:=λj=>by
     simp only[eput,eget];by_cases i:d=j
     .subst i;have:Nat.beq d d=true:=dQ
      simp only[this,zUi];rw[<-q];exact m d
     .simp only[qN i,zUk];exact m j
    have A:FrX [] e (eput e (some d) (.bool t)):=λj _=>by
     simp only[eput,eget];by_cases i:d=j
     .subst i;have:Nat.beq d d=true:=dQ
      simp only[this,zUi];exact q.symm
     .simp only[qN i,zUk]
    have w:Kok2 C N st (eput e (some d) (.bool t)) (dstL [o]) K k r:=λN' e' B H s' I J M O Q=>y N' e' B H s' I J M O λj i=>(Q j i).trans (A j dQ);have l:k (eput (eput e (some d) (.bool t)) o.dst (.tup [])) st=some r->K (E.putO o.dst (.tup [])) s:=λT=>w _ _ _ _ _ T (Turn.refl N st) x (v.put (.inr rfl) rfl o.dst) (FrX.put _ o (.tup []));simp only[zHD]at h;cases b<;>cases t<;>simp only[zUi,zUk]at h<;>first|exact zLe D F a x v n h p w|exact l h
   .rename_i vs q;split at h
    .have u:=(m d).1;rw[q]at u;rw[u.get dQ];simp only[zHD]at h;exact y _ _ _ _ _ h (Turn.refl N st) x (m.put (.inr rfl) rfl o.dst) (FrX.put e o (.tup []))
    .cases h
   .cases h
def zM8(q:TbOk C P Tb)(t:CodOk C){L:Pol}{b:Call U R}{PP:db dj->Prop}(a:zEo C P L b r PP){ds:db (da Nat)}{KP:db dj->S->Prop}(d:∀c s,PP c->KP c s){kd:KD}:∀{l:db dr}{N:NM}{st:St U}{s:S}{e:En U}{E:Env}{K:Env->S->Prop}{k:En U->St U->da R},
 dF C N st s->dG C N st e E->KdOk L kd N st.nl->dops C Tb b L.wr L.own kd ds l e st k=some r->Kok2 C N st e (dstL l) K k r->AL P L ds KP l K E s
 |[],N,st,s,e,E,K,k,i,m,_,h,n=>n _ _ _ _ _ h (Turn.refl N st) i m (λ_ _=>rfl)
 |o::w,N,st,s,e,E,K,k,i,m,f,h,n=>by
  simp only[dops]at h;show zv P L ds KP o (AL P L ds KP w K) E s;refine zQx q t a i m f h d ?_;intro N' e' x M s' y u z A B;refine zM8 q t a d z A (f.turn u) y λO Q D T V F G H I J=>n _ _ _ _ _ F (u.trans G) H I λj v=>?_;rw[J j λg=>v ?_,B j λg=>v ?_]
  .cases p:o.dst<;>simp only[dstL,p]at g ⊢<;>simp at g<;>simp[g]
  .cases p:o.dst<;>simp only[dstL,p]<;>simp[g]
end
end Go.Den
end
section
namespace Go.Den
open Go.Al
def Gst(X:Cx)(E:Env)(s:S)(b:Env)(s':S):Prop:=∀g a w,Rel X g E s a w->∃g',dB X.B g w g' w/\Rel X g' b s' a w
def Gst.refl(X:Cx)(E:Env)(s:S):Gst X E s E s:=λg a w h=>⟨g,.refl _ _ _,h⟩
def Gst.trans{X:Cx}{E b c:Env}{s d e:S}(h:Gst X E s b d)(f:Gst X b d c e):Gst X E s c e:=λg a w i=>by
 obtain⟨j,k1,k2⟩:=h g a w i;obtain⟨k,l,m⟩:=f j a w k2;exact⟨k,k1.trans l,m⟩
def zNT{P:di}{X:Cx}{Q:dA->Env->S->Prop}{c:dE}{E d:Env}{s s':S}(e:Gst X E s d s')(h:awp P X c Q d s'):awp P X c Q E s:=by
 intro g a w f;obtain⟨i,k1,k2⟩:=e g a w f;refine wpIn_mono (h i a w k2) ?_;rintro m n w' ⟨g',e',b,j,k,l⟩;exact⟨g',e',b,k1.trans j,k,l⟩
def Gs(s s':S):Prop:=∀B g w,Inv B g s w->∃g',dB B g w g' w/\Inv B g' s' w
def Gs.refl(s:S):Gs s s:=λB g w h=>⟨g,.refl _ _ _,h⟩
def Gs.trans{s a b:S}(h:Gs s a)(c:Gs a b):Gs s b:=λB g w hi=>by
 obtain⟨d,k1,k2⟩:=h B g w hi;obtain⟨e,f,i⟩:=c B d w k2;exact⟨e,k1.trans f,i⟩
def Gs.gst{X:Cx}{E:Env}{s s':S}(h:Gs s s'):Gst X E s E s':=λg a w b=>by
 obtain⟨g',k1,k2⟩:=h X.B g w b.inv;exact⟨g',k1,k2,λi=>(b.env i).later k1.later,b.size,b.df,b.gl.below k1.below k1.later.wm⟩
def FnC_gs{P:di}{f:dt}{as:db V}{Q:Outc->S->Prop}{s s':S}(b:Gs s s')(h:FnC P f as s' Q):FnC P f as s Q:=by
 intro B g w vs hi a c;obtain⟨g',k1,k2⟩:=b B g w hi;refine(h B g' w vs k2 (a.below (.refl _ _) k1.later.wm) (c.later k1.later)).mono ?_;rintro e w' ⟨d,i,j,k,l⟩;exact⟨d,i,k1.trans j,k,l⟩
def zO5{X:Cx}{E:Env}{s:S}(k sz:Nat)(f:E.get k=.lst .nil []):Gst X E s (E.put k (.lst (.own s.nx true sz) [])) ⟨s.box,s.nx::s.tg,s.nx+1,s.ob⟩:=by
 intro g a w b;obtain⟨h,c⟩:=b.inv.addTag rfl none (λ_ _ _ _ e=>fb);have d:=b.env k;rw[f]at d;have i:=zLE d;refine⟨⟨g.wm,λj=>if j=s.nx then some none else g.tb j,g.fr⟩,⟨c,.refl _ _,λ_ _=>⟨rfl,rfl⟩,λ_ _=>rfl,rfl⟩,h,λj=>?_,b.size,b.df,b.gl⟩;rw[Env.get_put];split
 .rename_i l;subst l;rw[i];refine qg ?_;simp only[RC];exact .inl ⟨trivial,trivial,if_pos rfl,rfl⟩
 .exact(b.env j).later c
def zHx{g:Gh}{w:de}{x y:V}(i:∀u,RC g w x u->RC g w y u):∀{cs:db V}{us:db dh}{j:Nat},cs[j]?=some x->RCs g w cs us->RCs g w (cs.set j y) us
 |[],us,j,a,_=>by simp at a
 |c::r,us,0,a,h=>by
  simp only[RCs]at h;obtain⟨b,d,rfl,e,f⟩:=h;simp only[zWp,Option.some.injEq]at a;subst a;simp only[List.set_cons_zero,RCs];exact⟨b,d,rfl,i _ e,f⟩
 |c::r,us,j+1,a,h=>by
  simp only[RCs]at h;obtain⟨b,d,rfl,e,f⟩:=h;simp only[List.getElem?_cons_succ]at a;simp only[List.set_cons_succ,RCs];exact⟨b,d,rfl,e,zHx i a f⟩
def zO6{s:S}(b j sz:Nat){cs:db V}{k:Nat}(f:Al.look s.box b=some (cs,k))(v:cs[j]?=some (.lst .nil [])) :
 Gs s ⟨lay s.box b (cs.set j (.lst (.own s.nx true sz) []),k),s.nx::s.tg,s.nx+1,s.ob⟩:=by
 intro B g w hi;obtain⟨i,x⟩:=hi.addTag rfl none (λ_ _ _ _ e=>fb);obtain⟨y,z,K,A,arr,el,us,D,E,F,G⟩:=i.box b cs k f;refine⟨⟨g.wm,λj=>if j=s.nx then some none else g.tb j,g.fr⟩,⟨x,.refl _ _,λ_ _=>⟨rfl,rfl⟩,λ_ _=>rfl,rfl⟩,?_⟩;have:=i.addBox (b:=b) (arr:=arr) (el:=el) (cs:=cs.set j (.lst (.own s.nx true sz) [])) (us:=us) y z D d4
  (λc H=>by
   rcases List.mem_or_eq_of_mem_set H with l|l
   .exact A c l
   .subst l;rfl)
  (zHx (λu h=>by
   simp only[RC]at h ⊢;rcases h with⟨_,h,_⟩|⟨b,o,cap,ds,_,_,m,_⟩
   .exact .inl ⟨trivial,h,if_pos rfl,rfl⟩
   .exact m.elim) v F) (by simpa using G) (λt m d I=>by
    obtain⟨a,J,n⟩:=d;obtain⟨L,M,N,O,q,Q⟩:=i.own t m b a J n I;have p:Al.look (⟨s.box,s.nx::s.tg,s.nx+1,s.ob⟩:S).box b=some (cs,k):=f;rw[p]at q;cases q) (hi.boxFr f).1 (hi.boxFr f).2
 rw[E]at this;exact this
def zRi{s:S}(b m:Nat){cs:db V}{k:Nat}(f:Al.look s.box b=some (cs,k)):Gs s ⟨lay s.box b (cs.take m,k),s.tg,s.nx,s.ob⟩:=by
 intro B g w hi;obtain⟨o,p,D,j,arr,el,us,q,u,l,v⟩:=hi.box b cs k f;refine⟨g,.refl _ _ _,?_⟩;have a:zM cs:=by unfold zM;rw[zUb];exact j
 have h:=yc g w cs us l;rw[xZ a]at h;have:=hi.addBox (b:=b) (arr:=arr) (el:=el) (cs:=cs.take m) (us:=us.take m) o p q d4
  (λc x=>j c (zVG x)) (xV a l m).1 (by
   rw[<-v,zWd,zVH]) (λt y d z=>by
    obtain⟨e,A,i⟩:=d;obtain⟨E,F,G,H,n,I⟩:=hi.own t y b e A i z;rw[f]at n;cases n) (hi.boxFr f).1 (hi.boxFr f).2
 rw[u]at this;exact this
inductive SK(U:TyU) where
 |int (k:IntKind)
 |bool
 |str
 |dl (i:U.I)
 |bl (i:U.I)
 |ow (nb:Bool) (i:U.I)
 |arr (i:U.I)
 |box (cs:List (SK U))
 |st (i:U.I)
 |scs
 |mpo
 |jm
 |mpj
 |lvs
 |lvj
 |mp1
 |ar1 (i:U.I)
 |lv1
 |jp
 |np
 |ag (cs:List (SK U))
mutual
def denK{U:TyU}:SK U->Type
 |.int _=>Int
 |.bool=>Bool
 |.str=>List UInt8
 |.dl i=>List (U.den i)
 |.bl i=>Bool×List (U.den i)
 |.ow _ i=>List (U.den i)
 |.arr i=>Option (List (U.den i))
 |.box cs=>zA cs
 |.st i=>U.den i
 |.scs=>List MT
 |.mpo=>Option MT
 |.jm=>Unit
 |.mpj=>Option (Option MT)
 |.mp1=>MT
 |.ar1 i=>List (U.den i)
 |.lv1=>MT×MT
 |.lvs=>List (MT×MT)
 |.lvj=>Option (Option (MT×MT))
 |.jp=>Unit
 |.np=>Unit
 |.ag cs=>zA cs
def zA{U:TyU}:List (SK U)->Type
 |[]=>Unit
 |k::r=>denK k×zA r
end
def zX{α β:Type}(o:da α)(a:β)(f:α->β):β:=
 match o with
 |none=>a
 |some x=>f x
def eqN(a b:Nat):dd:=Nat.beq a b
section
variable{U:TyU}(C:Cod U){R:Type}
mutual
def putK:(s:SK U)->denK s->St U->(T U->St U->Option R)->Option R
 |.int k,x,st,K=>K (.int k x) st
 |.bool,x,st,K=>K (.bool x) st
 |.str,x,st,K=>K (.str x) st
 |.dl i,x,st,K=>K (.lst .dl i x) st
 |.bl i,x,st,K=>K (.lst (.b x.1) i x.2) st
 |.ow nb i,x,st,K=>K (.lst (.ow st.nx nb) i x) ⟨st.bx,st.nx::st.tg,st.nl,st.nx+1,st.ob⟩
 |.arr i,x,st,K=>zX x (K .nil st) λys=>K (.sl st.nl ys.length) ⟨(st.nl,some (.ar i ys))::st.bx,st.tg,st.nl+1,st.nx,st.ob⟩
 |.box cs,x,st,K=>zAw cs x st λvs st'=>bif yz vs then K (.ptr st'.nl 0) ⟨(st'.nl,some (.st vs))::st'.bx,st'.tg,st'.nl+1,st'.nx,st'.ob⟩else none
 |.st i,x,st,K=>K (C.enc i x) st
 |.scs,x,st,K=>K (.sr st.nl) ⟨st.bx,st.tg,st.nl+1,st.nx,(st.nl,some (.sc x))::st.ob⟩
 |.mpo,x,st,K=>zX x (K (.con (.map none)) st) λc=>K (.hd st.nl) ⟨st.bx,st.tg,st.nl+1,st.nx,(st.nl,some (.mp c))::st.ob⟩
 |.jm,_,st,K=>K (.hd st.nl) ⟨st.bx,st.tg,st.nl+1,st.nx,st.ob⟩
 |.mpj,x,st,K=>zX x (K (.hd st.nl) ⟨st.bx,st.tg,st.nl+1,st.nx,st.ob⟩) λo=>zX o (K (.con (.map none)) st) λc=>K (.hd st.nl) ⟨st.bx,st.tg,st.nl+1,st.nx,(st.nl,some (.mp c))::st.ob⟩
 |.mp1,x,st,K=>K (.hd st.nl) ⟨st.bx,st.tg,st.nl+1,st.nx,(st.nl,some (.mp x))::st.ob⟩
 |.ar1 i,x,st,K=>K (.sl st.nl x.length) ⟨(st.nl,some (.ar i x))::st.bx,st.tg,st.nl+1,st.nx,st.ob⟩
 |.lv1,x,st,K=>K (.ptr st.nl 0) ⟨st.bx,st.tg,st.nl+1,st.nx,(st.nl,some (.l1 x))::st.ob⟩
 |.lvs,x,st,K=>K (.ptr st.nl 0) ⟨st.bx,st.tg,st.nl+1,st.nx,(st.nl,some (.lv x))::st.ob⟩
 |.lvj,x,st,K=>zX x (K (.lp st.nl) ⟨st.bx,st.tg,st.nl+1,st.nx,st.ob⟩) λo=>zX o (K (.con (.pointer none)) st) λc=>K (.ptr st.nl 0) ⟨st.bx,st.tg,st.nl+1,st.nx,(st.nl,some (.l1 c))::st.ob⟩
 |.jp,_,st,K=>K (.lp st.nl) ⟨st.bx,st.tg,st.nl+1,st.nx,st.ob⟩
 |.np,_,st,K=>K (.con (.pointer none)) st
 |.ag cs,x,st,K=>zAw cs x st λvs st'=>K (.agg vs) st'
def zAw:(l:List (SK U))->zA l->St U->(List (T U)->St U->Option R)->Option R
 |[],_,st,K=>K [] st
 |k::r,x,st,K=>putK k x.1 st λv st'=>feS st' λst'=>zAw r x.2 st' λvs st''=>K (v::vs) st''
end
def zIG:T U->dd
 |.lst m _ _=>(match m with|.ow _ _=>false|_=>true)
 |_=>true
def zMB:T U->dd
 |.agg fs=>fs.all zIG
 |x=>zIG x
mutual
def getK:(s:SK U)->T U->St U->(denK s->St U->Option R)->Option R
 |.int k,v,st,K=>(match v with|.int k' n=>bif decide (k'=k)then K n st else none|_=>none)
 |.bool,v,st,K=>(match v with|.bool b=>K b st|_=>none)
 |.str,v,st,K=>(match v with|.str s=>K s st|_=>none)
 |.dl i,v,st,K=>(match v with
  |.nil=>K [] st
  |.lst m j ys=>zAZ i j ys λxs=>(match m with
   |.dl=>K xs st
   |.b n=>bif (bif n then xs.isEmpty else !xs.isEmpty)then K xs st else none
   |.ow _ _=>none)
  |_=>none)
 |.bl i,v,st,K=>(match v with
  |.nil=>K (true,[]) st
  |.lst m j ys=>zAZ i j ys λxs=>(match m with
   |.dl=>K (xs.isEmpty,xs) st
   |.b n=>K (n,xs) st
   |.ow _ _=>none)
  |_=>none)
 |.ow nb i,v,st,K=>(match v with
  |.lst m j ys=>zAZ i j ys λxs=>(match m with
   |.ow t nb'=>bif beqB nb' nb&&hasN st.tg t then K xs ⟨st.bx,rmN st.tg t,st.nl,st.nx,st.ob⟩else none
   |_=>none)
  |_=>none)
 |.arr i,v,st,K=>(match v with
  |.nil=>K none st
  |.sl l n=>(match lk st.bx l with
   |some (.ar j ys)=>zAZ i j ys λxs=>bif eqN n xs.length then K (some xs) ⟨(l,none)::st.bx,st.tg,st.nl,st.nx,st.ob⟩else none
   |_=>none)
  |_=>none)
 |.box cs,v,st,K=>(match v with
  |.ptr l o=>bif Nat.beq o 0 then(match lk st.bx l with
   |some (.st vs)=>feS ⟨(l,none)::st.bx,st.tg,st.nl,st.nx,st.ob⟩ λst'=>qx cs vs st' K
   |_=>none)else none
  |_=>none)
 |.st i,v,st,K=>bif zMB v then C.dec i v λx=>K x st else none
 |.scs,v,st,K=>(match v with
  |.sr l=>(match lko st.ob l with
   |some o=>(match o with|.sc xs=>K xs ⟨st.bx,st.tg,st.nl,st.nx,(l,none)::st.ob⟩|.mp _=>none|.lv _=>none|.l1 _=>none)
   |none=>none)
  |_=>none)
 |.mpo,v,st,K=>(match v with
  |.con c=>(match c with|.map m=>(match m with|none=>K none st|some _=>none)|_=>none)
  |.hd l=>(match lko st.ob l with
   |some o=>(match o with|.mp c=>K (some c) ⟨st.bx,st.tg,st.nl,st.nx,(l,none)::st.ob⟩|.sc _=>none|.lv _=>none|.l1 _=>none)
   |none=>none)
  |_=>none)
 |.jm,v,st,K=>(match v with
  |.con c=>(match c with|.map _=>K () st|_=>none)
  |.hd _=>K () st
  |_=>none)
 |.mpj,v,st,K=>(match v with
  |.con c=>(match c with|.map m=>(match m with|none=>K (some none) st|some _=>none)|_=>none)
  |.hd l=>(match lko st.ob l with
   |some o=>(match o with|.mp c=>K (some (some c)) ⟨st.bx,st.tg,st.nl,st.nx,(l,none)::st.ob⟩|.sc _=>none|.lv _=>none|.l1 _=>none)
   |none=>K none st)
  |_=>none)
 |.mp1,v,st,K=>(match v with
  |.hd l=>(match lko st.ob l with
   |some o=>(match o with|.mp c=>K c ⟨st.bx,st.tg,st.nl,st.nx,(l,none)::st.ob⟩|.sc _=>none|.lv _=>none|.l1 _=>none)
   |none=>none)
  |_=>none)
 |.ar1 i,v,st,K=>(match v with
  |.sl l n=>(match lk st.bx l with
   |some (.ar j ys)=>zAZ i j ys λxs=>bif eqN n xs.length then K xs ⟨(l,none)::st.bx,st.tg,st.nl,st.nx,st.ob⟩else none
   |_=>none)
  |_=>none)
 |.lv1,v,st,K=>(match v with
  |.ptr l o=>bif Nat.beq o 0 then(match lko st.ob l with
   |some o=>(match o with|.l1 c=>K c ⟨st.bx,st.tg,st.nl,st.nx,(l,none)::st.ob⟩|.mp _=>none|.sc _=>none|.lv _=>none)
   |none=>none)else none
  |_=>none)
 |.lvs,v,st,K=>(match v with
  |.ptr l o=>bif Nat.beq o 0 then(match lko st.ob l with
   |some o=>(match o with|.lv xs=>K xs ⟨st.bx,st.tg,st.nl,st.nx,(l,none)::st.ob⟩|.mp _=>none|.sc _=>none|.l1 _=>none)
   |none=>none)else none
  |_=>none)
 |.lvj,v,st,K=>(match v with
  |.con c=>(match c with|.pointer m=>(match m with|none=>K (some none) st|some _=>none)|_=>none)
  |.ptr l o=>bif Nat.beq o 0 then(match lko st.ob l with
   |some o=>(match o with|.l1 c=>K (some (some c)) ⟨st.bx,st.tg,st.nl,st.nx,(l,none)::st.ob⟩|.mp _=>none|.sc _=>none|.lv _=>none)
   |none=>K none st)else none
  |.lp _=>K none st
  |_=>none)
 |.jp,v,st,K=>(match v with
  |.con c=>(match c with|.pointer m=>(match m with|none=>K () st|some _=>none)|_=>none)
  |.ptr _ o=>bif Nat.beq o 0 then K () st else none
  |.lp _=>K () st
  |_=>none)
 |.np,v,st,K=>(match v with
  |.con c=>(match c with|.pointer m=>(match m with|none=>K () st|some _=>none)|_=>none)
  |_=>none)
 |.ag cs,v,st,K=>(match v with|.agg vs=>qx cs vs st K|_=>none)
def qx:(l:List (SK U))->List (T U)->St U->(zA l->St U->Option R)->Option R
 |[],vs,st,K=>(match vs with|[]=>K () st|_::_=>none)
 |k::r,vs,st,K=>(match vs with
  |[]=>none
  |v::vs=>getK k v st λx st'=>feS st' λst'=>qx r vs st' λxs st''=>K (x,xs) st'')
end
inductive Res where
 |inl (n:Nat)
 |inr (b:Nat)
 |ob (b:Nat)
mutual
/-- An abstract value is of a kind;what it holds alone. -/
def VK(s:S):(k:SK U)->denK k->V->List Res->Prop
 |.int k,x,v,rs=>v=.at (.int k x)/\rs=[]
 |.bool,x,v,rs=>v=.at (.bool x)/\rs=[]
 |.str,x,v,rs=>v=trT C ⟨id,id,id,id⟩ (.str x)/\rs=[]
 |.dl i,x,v,rs=>v=.lst (zx (x.map (C.encV i))) (x.map (C.encV i))/\rs=[]
 |.bl i,x,v,rs=>v=.lst (if x.1 then .nil else .no) (x.2.map (C.encV i))/\rs=[]
 |.ow nb i,x,v,rs=>∃n,v=.lst (.own n nb (C.cells i)) (x.map (C.encV i))/\n∈s.tg/\n<s.nx/\rs=[.inl n]
 |.arr i,x,v,rs=>match x with
  |none=>v=.lst .nil []/\rs=[]
  |some xs=>∃b cap,v=.at (.slice (some ⟨b,0,none⟩) xs.length cap)/\xs.length<=cap/\Al.look s.box b=some (zp (xs.map (C.encV i)),cap*C.cells i)/\rs=[.inr b]
 |.box cs,x,v,rs=>∃b vs rs',v=.at (.pointer (some ⟨b,0,none⟩))/\Al.look s.box b=some (vs,vs.length)/\VKs s cs x vs rs'/\rs=.inr b::rs'
 |.st i,x,v,rs=>v=C.encV i x/\rs=[]
 |.scs,x,v,rs=>∃b cap fp,v=.at (.slice (some ⟨b,0,none⟩) x.length cap)/\zE s.ob b=some (.sc (x.map trMC) cap,fp)/\rs=[.ob b]
 |.mpo,x,v,rs=>match x with
  |none=>v=.at (.map none)/\rs=[]
  |some c=>∃b fp,v=.at (.map (some b))/\zE s.ob b=some (.mp (trMC c),fp)/\rs=[.ob b]
 |.jm,_,v,rs=>(∃m,v=.at (.map m))/\rs=[]
 |.mpj,x,v,rs=>match x with
  |none=>(∃m,v=.at (.map m))/\rs=[]
  |some o=>match o with
   |none=>v=.at (.map none)/\rs=[]
   |some c=>∃b fp,v=.at (.map (some b))/\zE s.ob b=some (.mp (trMC c),fp)/\rs=[.ob b]
 |.mp1,x,v,rs=>∃b fp,v=.at (.map (some b))/\zE s.ob b=some (.mp (trMC x),fp)/\rs=[.ob b]
 |.ar1 i,x,v,rs=>∃b cap,v=.at (.slice (some ⟨b,0,none⟩) x.length cap)/\x.length<=cap/\Al.look s.box b=some (zp (x.map (C.encV i)),cap*C.cells i)/\rs=[.inr b]
 |.lv1,x,v,rs=>∃b fp,v=.at (.pointer (some ⟨b,0,none⟩))/\zE s.ob b=some (.l1 (trMC x.1,trMC x.2),fp)/\rs=[.ob b]
 |.lvs,x,v,rs=>∃b fp,v=.at (.pointer (some ⟨b,0,none⟩))/\zE s.ob b=some (.lv (x.map λx=>(trMC x.1,trMC x.2)),fp)/\rs=[.ob b]
 |.lvj,x,v,rs=>match x with
  |none=>(∃m:Option Nat,v=.at (.pointer (m.map λb=>⟨b,0,none⟩)))/\rs=[]
  |some o=>match o with
   |none=>v=.at (.pointer none)/\rs=[]
   |some c=>∃b fp,v=.at (.pointer (some ⟨b,0,none⟩))/\zE s.ob b=some (.l1 (trMC c.1,trMC c.2),fp)/\rs=[.ob b]
 |.jp,_,v,rs=>(∃m:Option Nat,v=.at (.pointer (m.map λb=>⟨b,0,none⟩)))/\rs=[]
 |.np,_,v,rs=>v=.at (.pointer none)/\rs=[]
 |.ag cs,x,v,rs=>∃vs,v=.agg vs/\VKs s cs x vs rs
def VKs(s:S):(l:List (SK U))->zA l->List V->List Res->Prop
 |[],_,vs,rs=>vs=[]/\rs=[]
 |k::r,x,vs,rs=>∃v vs' r1 r2,vs=v::vs'/\rs=r1++r2/\VK s k x.1 v r1/\VKs s r x.2 vs' r2
end
def Has(N:NM)(st:St U):Res->Prop
 |.inl n=>∃t∈st.tg,N.tk t=n
 |.inr b=>∃l x,lk st.bx l=some x/\N.bl l=b
 |.ob b=>∃l x,lko st.ob l=some x/\N.bl l=b
variable{C}
def SSim.addBox{N:NM}{st:St U}{s:S}(d:dF C N st s){b c z:Nat}{bx:Bx U}(q:¬Has N st (.inr b))(t:Al.look s.box b=some (trB C (N.loc st.nl b c z) st.nl bx))(u:wfB C (N.loc st.nl b c z) (st.nl+1) st.nx st.nl bx) :
 dF C (N.loc st.nl b c z) ⟨(st.nl,some bx)::st.bx,st.tg,st.nl+1,st.nx,st.ob⟩ s:=by
 have f:=N.ext_loc st.nl st.nx b c z;have g:∀l,l<st.nl->(N.loc st.nl b c z).bl l=N.bl l:=f.bl;have j:(N.loc st.nl b c z).bl st.nl=b:=if_pos rfl;have o:∀l h,lk st.bx l=some h->b≠N.bl l:=λl h t e=>q ⟨l,h,t,e.symm⟩;refine⟨?_,?_,?_,?_,d.tgIn,d.tgInj,d.tgLt,d.nm,d.ob.ext f (zUn _)⟩
 .intro l h a;rw[jB]at a;by_cases e:st.nl=l
  .rw[if_pos e]at a;injection a with a
   subst a;subst e;rw[j];exact t
  .rw[if_neg e]at a;rw[g l (d.lt l h a),d.box l h a,zDC d f (zUB _) (zUB _) a]
 .intro l h a;rw[jB]at a;by_cases e:st.nl=l
  .show l<st.nl+1;omega
  .rw[if_neg e]at a;have v:=d.lt l h a;show l<st.nl+1;omega
 .intro l h a;rw[jB]at a;by_cases e:st.nl=l
  .rw[if_pos e]at a;injection a with a
   subst a;subst e;exact u
  .rw[if_neg e]at a;exact zDA f (zUn _) (zUB _) (d.lt l h a) (d.wf l h a)
 .intro l i b1 p m k n;rw[jB]at m k;by_cases e:st.nl=l
  .by_cases e':st.nl=i
   .omega
   .rw[if_neg e']at k;subst e;rw[j,g i (d.lt i p k)]at n;exact absurd n (o i p k)
  .rw[if_neg e]at m;by_cases e':st.nl=i
   .subst e';rw[j,g l (d.lt l b1 m)]at n;exact absurd n.symm (o l b1 m)
   .rw[if_neg e']at k;rw[g l (d.lt l b1 m),g i (d.lt i p k)]at n;exact d.inj l i b1 p m k n
def SSim.addTok{N:NM}{st:St U}{s:S}(c:dF C N st s){n:Nat}(o:¬Has N st (.inl n))(p:n∈s.tg)(q:n<s.nx) :
 dF C (N.tok st.nx n) ⟨st.bx,st.nx::st.tg,st.nl,st.nx+1,st.ob⟩ s:=by
 have f:=N.ext_tok st.nl st.nx n;have g:∀t,t<st.nx->(N.tok st.nx n).tk t=N.tk t:=f.tk;have h:(N.tok st.nx n).tk st.nx=n:=if_pos rfl;have k:∀t∈st.tg,N.tk t≠n:=λt a e=>o ⟨t,a,e⟩;refine⟨λl b m=>?_,c.lt,λl b m=>?_,λl u b v w x i=>c.inj l u b v w x i,?_,?_,?_,?_,c.ob.ext f (zUB _)⟩
 .rw[zDC c f (zUB _) (zUB _) m];exact c.box l b m
 .exact zDA f (zUB _) (zUn _) (c.lt l b m) (c.wf l b m)
 .intro t a;rcases zUG.1 a with rfl|a
  .rw[h];exact p
  .rw[g t (c.tgLt t a)];exact c.tgIn t a
 .intro t a j d i;rcases zUG.1 a with rfl|a
  .rcases zUG.1 d with rfl|d
   .rfl
   .rw[h,g j (c.tgLt j d)]at i;exact absurd i.symm (k j d)
  .rcases zUG.1 d with rfl|d
   .rw[h,g t (c.tgLt t a)]at i;exact absurd i (k t a)
   .rw[g t (c.tgLt t a),g j (c.tgLt j d)]at i;exact c.tgInj t a j d i
 .intro t a;show t<st.nx+1;rcases zUG.1 a with rfl|a
  .omega
  .have:=c.tgLt t a;omega
 .intro t a;rcases zUG.1 a with rfl|a
  .rw[h];exact q
  .rw[g t (c.tgLt t a)];exact c.nm t a
def SSim.more{N N':NM}{st:St U}{s:S}(c:dF C N st s){nl nx:Nat}(a:Ext nl nx N N')(g:st.nl<=nl)(i:st.nx<=nx):dF C N' ⟨st.bx,st.tg,nl,nx,st.ob⟩ s:=by
 have h:∀l b,lk st.bx l=some b->N'.bl l=N.bl l:=λl b e=>a.bl l (zUo (c.lt l b e) g);have f:∀t∈st.tg,N'.tk t=N.tk t:=λt d=>a.tk t (zUo (c.tgLt t d) i);refine⟨λl b e=>?_,λl b e=>zUo (c.lt l b e) g,λl b e=>?_,λl m b n o p j=>?_,λt d=>?_,λt d q k j=>?_,λt d=>zUo (c.tgLt t d) i,λt d=>?_,c.ob.ext (a.less g i) g⟩
 .rw[h l b e,zDC c a g i e];exact c.box l b e
 .exact zDA (a.less g i) g i (c.lt l b e) (c.wf l b e)
 .rw[h l b o,h m n p]at j;exact c.inj l m b n o p j
 .rw[f t d];exact c.tgIn t d
 .rw[f t d,f q k]at j;exact c.tgInj t d q k j
 .rw[f t d];exact c.nm t d
def SSim.addOb{N:NM}{st:St U}{s:S}(n:dF C N st s){b c z:Nat}{o:TO}{fp:db Nat}(m:¬Has N st (.ob b))(y:zE s.ob b=some (trO (N.loc st.nl b c z) st.nl o,fp))(A:wfO (N.loc st.nl b c z) st.nl o) :
 dF C (N.loc st.nl b c z) ⟨st.bx,st.tg,st.nl+1,st.nx,(st.nl,some o)::st.ob⟩ s:=by
 have f:=N.ext_loc st.nl st.nx b c z;have g:(N.loc st.nl b c z).bl st.nl=b:=if_pos rfl;have a:dF C (N.loc st.nl b c z) ⟨st.bx,st.tg,st.nl+1,st.nx,st.ob⟩ s:=by
  have:=n.more (N':=N.loc st.nl b c z) (nl:=st.nl) (nx:=st.nx) f (zUB _) (zUB _);exact this.more (N':=N.loc st.nl b c z) (nl:=st.nl+1) (nx:=st.nx) (.refl _ _ _) (zUn _) (zUB _)
 have i:∀l o',lko st.ob l=some o'->(N.loc st.nl b c z).bl l≠b:=λl o' j e=>m ⟨l,o',j,(f.bl l (n.ob.lt l o' j)).symm.trans e⟩;have d:∀{l o'},lko ((st.nl,some o)::st.ob) l=some o'->(l=st.nl/\o'=o)\/(l≠st.nl/\lko st.ob l=some o'):=λ{l o'} h=>by
  rw[kT]at h;split at h
  .rename_i e;injection h with h;exact .inl ⟨e.symm,h.symm⟩
  .rename_i e;exact .inr ⟨λe'=>e e'.symm,h⟩
 refine⟨a.box,a.lt,a.wf,a.inj,a.tgIn,a.tgInj,a.tgLt,a.nm,⟨λl o' h=>?_,λl o' h=>?_,λl o' h=>?_,λl p q t B D k=>?_⟩⟩
 .rcases d h with⟨rfl,rfl⟩|⟨_,h⟩
  .rw[g];exact⟨fp,y⟩
  .exact a.ob.look l o' h
 .rcases d h with⟨rfl,rfl⟩|⟨_,h⟩
  .exact zVn _
  .exact a.ob.lt l o' h
 .rcases d h with⟨rfl,rfl⟩|⟨_,h⟩
  .exact A
  .exact a.ob.wf l o' h
 .rcases d B with⟨u,E⟩|⟨_,v⟩<;>rcases d D with⟨w,F⟩|⟨_,x⟩
  .rw[u,w]
  .subst u;rw[g]at k;exact absurd k.symm (i p t x)
  .subst w;rw[g]at k;exact absurd k (i l q v)
  .exact a.ob.inj l p q t v x k
def zDW{N N':NM}{st:St U}{s:S}(f:dF C N st s){nl nx:Nat}(c:Ext nl nx N N')(g:st.nl<=nl)(j:st.nx<=nx){a b:Nat}{x:Res}(h:Has N' ⟨st.bx,st.tg,a,b,st.ob⟩ x):Has N st x:=by
 cases x with
 |inl n=>obtain⟨t,i,d⟩:=h;exact⟨t,i,(c.tk t (zUo (f.tgLt t i) j)).symm.trans d⟩
 |inr b=>obtain⟨l,y,e,d⟩:=h;exact⟨l,y,e,(c.bl l (zUo (f.lt l y e) g)).symm.trans d⟩
 |ob b=>obtain⟨l,y,e,d⟩:=h;exact⟨l,y,e,(c.bl l (zUo (f.ob.lt l y e) g)).symm.trans d⟩
def zDX{N:NM}{st:St U}{s:S}(i:dF C N st s){b c z:Nat}{o:da TO}{x:Res}(h:Has (N.loc st.nl b c z) ⟨st.bx,st.tg,st.nl+1,st.nx,(st.nl,o)::st.ob⟩ x):x=.ob b\/Has N st x:=by
 have f:=N.ext_loc st.nl st.nx b c z;cases x with
 |inl n=>exact .inr h
 |inr j=>exact .inr (zDW i f (zUB _) (zUB _) (x:=.inr j) (a:=0) (b:=0) h)
 |ob j=>
  obtain⟨l,y,k,g⟩:=h;have d:lko ((st.nl,o)::st.ob) l=some y:=k;rw[kT]at d;by_cases e:st.nl=l
  .subst e;have:(N.loc st.nl b c z).bl st.nl=b:=if_pos rfl;rw[this]at g;exact .inl (by rw[g])
  .rw[if_neg e]at d;rw[f.bl l (i.ob.lt l y d)]at g;exact .inr ⟨l,y,d,g⟩
def zJB{N:NM}{st:St U}{s:S}(i:dF C N st s){b c z:Nat}{bx:da (Bx U)}{x:Res}(h:Has (N.loc st.nl b c z) ⟨(st.nl,bx)::st.bx,st.tg,st.nl+1,st.nx,st.ob⟩ x):x=.inr b\/Has N st x:=by
 have d:=N.ext_loc st.nl st.nx b c z;cases x with
 |inl n=>exact .inr h
 |inr j=>
  obtain⟨l,y,g,f⟩:=h;have a:lk ((st.nl,bx)::st.bx) l=some y:=g;rw[jB]at a;by_cases e:st.nl=l
  .subst e;have:(N.loc st.nl b c z).bl st.nl=b:=if_pos rfl;rw[this]at f;exact .inl (by rw[f])
  .rw[if_neg e]at a;rw[d.bl l (i.lt l y a)]at f;exact .inr ⟨l,y,a,f⟩
 |ob j=>
  obtain⟨l,y,g,f⟩:=h;exact .inr ⟨l,y,g,(d.bl l (i.ob.lt l y g)).symm.trans f⟩
def zSn{N:NM}{st:St U}{s:S}(e:dF C N st s){n:Nat}{x:Res}(h:Has (N.tok st.nx n) ⟨st.bx,st.nx::st.tg,st.nl,st.nx+1,st.ob⟩ x):x=.inl n\/Has N st x:=by
 have a:=N.ext_tok st.nl st.nx n;cases x with
 |inr b=>exact .inr h
 |ob b=>exact .inr h
 |inl f=>
  obtain⟨t,c,d⟩:=h;rcases zUG.1 c with rfl|c
  .have:(N.tok st.nx n).tk st.nx=n:=if_pos rfl;rw[this]at d;exact .inl (by rw[d])
  .rw[a.tk t (e.tgLt t c)]at d;exact .inr ⟨t,c,d⟩
mutual
/-- LAID DOWN. -/
theorem zR4(hC:CodOk C){r:R}:∀(k:SK U)(x:denK k){N:NM}{st:St U}{s:S}{v:V}{rs:List Res}{K:T U->St U->Option R},SSim C N st s->VK C s k x v rs->rs.Nodup->(∀y∈rs,¬Has N st y)->putK C k x st K=some r ->
 ∃N' v' st',K v' st'=some r/\Turn N st N' st'/\SSim C N' st' s/\trT C N' v'=v/\bdd st'.nl st'.nx v'=true/\(∀y,Has N' st' y->Has N st y\/y∈rs)
 |.int k,x,N,st,s,v,rs,K,hs,hv,_,_,h=>by
  simp only[VK]at hv;simp only[putK]at h;exact⟨N,_,st,h,.refl _ _,hs,hv.1.symm,rfl,λy hy=>.inl hy⟩
 |.bool,x,N,st,s,v,rs,K,hs,hv,_,_,h=>by
  simp only[VK]at hv;simp only[putK]at h;exact⟨N,_,st,h,.refl _ _,hs,hv.1.symm,rfl,λy hy=>.inl hy⟩
 |.str,x,N,st,s,v,rs,K,hs,hv,_,_,h=>by
  simp only[VK]at hv;simp only[putK]at h;exact⟨N,_,st,h,.refl _ _,hs,hv.1.symm,rfl,λy hy=>.inl hy⟩
 |.dl i,x,N,st,s,v,rs,K,hs,hv,_,_,h=>by
  simp only[VK]at hv;simp only[putK]at h;exact⟨N,_,st,h,.refl _ _,hs,by rw[hv.1];rfl,rfl,λy hy=>.inl hy⟩
 |.bl i,x,N,st,s,v,rs,K,hs,hv,_,_,h=>by
  simp only[VK]at hv;simp only[putK]at h;exact⟨N,_,st,h,.refl _ _,hs,by rw[hv.1];rfl,rfl,λy hy=>.inl hy⟩
 |.st i,x,N,st,s,v,rs,K,hs,hv,_,_,h=>by
  simp only[VK]at hv;simp only[putK]at h;exact⟨N,_,st,h,.refl _ _,hs,(hC.enc N i x).trans hv.1.symm,zCG (zVI _) (zVI _) _ (hC.bd i x),λy hy=>.inl hy⟩
 |.ow nb i,x,N,st,s,v,rs,K,hs,hv,_,hd,h=>by
  simp only[VK]at hv;simp only[putK]at h;obtain⟨n,rfl,h1,h2,rfl⟩:=hv;refine⟨_,_,_,h,⟨N.ext_tok st.nl st.nx n,zUB _,zUn _⟩,hs.addTok (hd _ dQ) h1 h2,?_,?_,λy hy=>?_⟩
  .have e:(N.tok st.nx n).tk st.nx=n:=if_pos rfl;simp only[trT,trM,e]
  .simp[bdd,zVc]
  .rcases zSn hs hy with rfl|hy
   .exact .inr dQ
   .exact .inl hy
 |.arr i,x,N,st,s,v,rs,K,hs,hv,_,hd,h=>by
  cases x with
  |none=>
   simp only[VK]at hv;simp only[putK,zX]at h;exact⟨N,_,st,h,.refl _ _,hs,by rw[hv.1];rfl,rfl,λy hy=>.inl hy⟩
  |some xs=>
   simp only[VK]at hv;simp only[putK,zX]at h;obtain⟨b,cap,rfl,h1,h2,rfl⟩:=hv;have ec:(N.loc st.nl b cap (C.cells i)).cp st.nl=cap:=if_pos rfl;have eb:(N.loc st.nl b cap (C.cells i)).bl st.nl=b:=if_pos rfl;refine⟨_,_,_,h,⟨N.ext_loc st.nl st.nx b cap (C.cells i),zUn _,zUB _⟩,hs.addBox (bx:=.ar i xs) (hd _ dQ) (by simp only[trB,ec];exact h2) ⟨if_pos rfl,by rw[ec];exact h1⟩,?_,?_,λy hy=>?_⟩
   .simp only[trT,ec,eb]
   .simp[bdd,zVc]
   .rcases zJB hs hy with rfl|hy
    .exact .inr dQ
    .exact .inl hy
 |.box cs,x,N,st,s,v,rs,K,hs,hv,hn,hd,h=>by
  simp only[VK]at hv;simp only[putK]at h;obtain⟨b,vs,rs',rfl,h1,h2,rfl⟩:=hv;obtain⟨hn1,hn2⟩:=zUm.1 hn;obtain⟨N1,vs',st1,h3,h4,h5,h6,h7,h8⟩:=zAF hC cs x hs h2 hn2 (λy hy=>hd y (by simp[hy])) h;obtain⟨h9,h10⟩:=zP h3;have ext:=N1.ext_loc st1.nl st1.nx b 0 0;have eb:(N1.loc st1.nl b 0 0).bl st1.nl=b:=if_pos rfl;have hlen:vs'.length=vs.length:=by have:=zU1 List.length h6;simpa using this
  refine⟨_,_,_,h10,h4.trans ⟨ext,zUn _,zUB _⟩,h5.addBox (bx:=.st vs') (λhh=>?_) (by simp only[trB];rw[qe ext h7,h6,hlen];exact h1) ⟨qZ (zUn _) (zUB _) _ h7,h9⟩,?_,?_,λy hy=>?_⟩
  .rcases h8 _ hh with q|q
   .exact hd _ dQ q
   .exact hn1 q
  .simp only[trT,eb]
  .simp[bdd,zVc]
  .rcases zJB h5 hy with rfl|hy
   .exact .inr dQ
   .rcases h8 _ hy with q|q
    .exact .inl q
    .exact .inr eO
 |.scs,x,N,st,s,v,rs,K,hs,hv,_,hd,h=>by
  simp only[VK]at hv;simp only[putK]at h;obtain⟨b,cap,fp,rfl,h1,rfl⟩:=hv;have ec:(N.loc st.nl b cap x.length).cp st.nl=cap:=if_pos rfl;have eb:(N.loc st.nl b cap x.length).bl st.nl=b:=if_pos rfl;have ez:(N.loc st.nl b cap x.length).sz st.nl=x.length:=if_pos rfl;refine⟨_,_,_,h,⟨N.ext_loc st.nl st.nx b cap x.length,zUn _,zUB _⟩,hs.addOb (o:=.sc x) (hd _ dQ) (by simp only[trO,ec];exact h1) ez,?_,?_,λy hy=>?_⟩
  .simp only[trT,ec,eb,ez]
  .simp[bdd,zVc]
  .rcases zDX hs hy with rfl|hy
   .exact .inr dQ
   .exact .inl hy
 |.mpo,x,N,st,s,v,rs,K,hs,hv,_,hd,h=>by
  cases x with
  |none=>
   simp only[VK]at hv;simp only[putK,zX]at h;exact⟨N,_,st,h,.refl _ _,hs,by rw[hv.1];rfl,rfl,λy hy=>.inl hy⟩
  |some xs=>
   simp only[VK]at hv;simp only[putK,zX]at h;obtain⟨b,fp,rfl,h1,rfl⟩:=hv;have ec:(N.loc st.nl b 1 0).cp st.nl=1:=if_pos rfl;have eb:(N.loc st.nl b 1 0).bl st.nl=b:=if_pos rfl;refine⟨_,_,_,h,⟨N.ext_loc st.nl st.nx b 1 0,zUn _,zUB _⟩,hs.addOb (o:=.mp xs) (hd _ dQ) ek eK,?_,?_,λy hy=>?_⟩
   .simp only[trT,ec,eb];rfl
   .simp[bdd,zVc]
   .rcases zDX hs hy with rfl|hy
    .exact .inr dQ
    .exact .inl hy
 |.jm,x,N,st,s,v,rs,K,hs,hv,_,hd,h=>by
  simp only[VK]at hv;simp only[putK]at h;obtain⟨⟨m,rfl⟩,rfl⟩:=hv;have hext:=N.ext_loc st.nl st.nx (m.getD 0) (if m.isSome then 1 else 0) 0;have ec:(N.loc st.nl (m.getD 0) (if m.isSome then 1 else 0) 0).cp st.nl=(if m.isSome then 1 else 0):=if_pos rfl;have eb:(N.loc st.nl (m.getD 0) (if m.isSome then 1 else 0) 0).bl st.nl=m.getD 0:=if_pos rfl;refine⟨_,_,_,h,⟨hext,zUn _,zUB _⟩,(hs.more hext (zUB _) (zUB _)).more (.refl (st.nl+1) _ _) (zUn _) (zUB _),?_,?_,λy hy=>.inl (zDW hs hext (zUB _) (zUB _) hy)⟩
  .simp only[trT,ec,eb];cases m<;>rfl
  .simp[bdd,zVc]
 |.mpj,x,N,st,s,v,rs,K,hs,hv,_,hd,h=>by
  cases x with
  |none=>
   simp only[VK]at hv;simp only[putK,zX]at h;obtain⟨⟨m,rfl⟩,rfl⟩:=hv;have hext:=N.ext_loc st.nl st.nx (m.getD 0) (if m.isSome then 1 else 0) 0;have ec:(N.loc st.nl (m.getD 0) (if m.isSome then 1 else 0) 0).cp st.nl=(if m.isSome then 1 else 0):=if_pos rfl;have eb:(N.loc st.nl (m.getD 0) (if m.isSome then 1 else 0) 0).bl st.nl=m.getD 0:=if_pos rfl;refine⟨_,_,_,h,⟨hext,zUn _,zUB _⟩,(hs.more hext (zUB _) (zUB _)).more (.refl (st.nl+1) _ _) (zUn _) (zUB _),?_,?_,λy hy=>.inl (zDW hs hext (zUB _) (zUB _) hy)⟩
   .simp only[trT,ec,eb];cases m<;>rfl
   .simp[bdd,zVc]
  |some x=>
   cases x with
   |none=>
    simp only[VK]at hv;simp only[putK,zX]at h;exact⟨N,_,st,h,.refl _ _,hs,by rw[hv.1];rfl,rfl,λy hy=>.inl hy⟩
   |some xs=>
    simp only[VK]at hv;simp only[putK,zX]at h;obtain⟨b,fp,rfl,h1,rfl⟩:=hv;have ec:(N.loc st.nl b 1 0).cp st.nl=1:=if_pos rfl;have eb:(N.loc st.nl b 1 0).bl st.nl=b:=if_pos rfl;refine⟨_,_,_,h,⟨N.ext_loc st.nl st.nx b 1 0,zUn _,zUB _⟩,hs.addOb (o:=.mp xs) (hd _ dQ) ek eK,?_,?_,λy hy=>?_⟩
    .simp only[trT,ec,eb];rfl
    .simp[bdd,zVc]
    .rcases zDX hs hy with rfl|hy
     .exact .inr dQ
     .exact .inl hy
 |.mp1,xs,N,st,s,v,rs,K,hs,hv,_,hd,h=>by
  simp only[VK]at hv;simp only[putK]at h;obtain⟨b,fp,rfl,h1,rfl⟩:=hv;have ec:(N.loc st.nl b 1 0).cp st.nl=1:=if_pos rfl;have eb:(N.loc st.nl b 1 0).bl st.nl=b:=if_pos rfl;refine⟨_,_,_,h,⟨N.ext_loc st.nl st.nx b 1 0,zUn _,zUB _⟩,hs.addOb (o:=.mp xs) (hd _ dQ) ek eK,?_,?_,λy hy=>?_⟩
  .simp only[trT,ec,eb];rfl
  .simp[bdd,zVc]
  .rcases zDX hs hy with rfl|hy
   .exact .inr dQ
   .exact .inl hy
 |.ar1 i,xs,N,st,s,v,rs,K,hs,hv,_,hd,h=>by
  simp only[VK]at hv;simp only[putK]at h;obtain⟨b,cap,rfl,h1,h2,rfl⟩:=hv;have ec:(N.loc st.nl b cap (C.cells i)).cp st.nl=cap:=if_pos rfl;have eb:(N.loc st.nl b cap (C.cells i)).bl st.nl=b:=if_pos rfl;refine⟨_,_,_,h,⟨N.ext_loc st.nl st.nx b cap (C.cells i),zUn _,zUB _⟩,hs.addBox (bx:=.ar i xs) (hd _ dQ) (by simp only[trB,ec];exact h2) ⟨if_pos rfl,by rw[ec];exact h1⟩,?_,?_,λy hy=>?_⟩
  .simp only[trT,ec,eb]
  .simp[bdd,zVc]
  .rcases zJB hs hy with rfl|hy
   .exact .inr dQ
   .exact .inl hy
 |.lv1,xs,N,st,s,v,rs,K,hs,hv,_,hd,h=>by
  simp only[VK]at hv;simp only[putK]at h;obtain⟨b,fp,rfl,h1,rfl⟩:=hv;have eb:(N.loc st.nl b 1 0).bl st.nl=b:=if_pos rfl;refine⟨_,_,_,h,⟨N.ext_loc st.nl st.nx b 1 0,zUn _,zUB _⟩,hs.addOb (o:=.l1 xs) (hd _ dQ) ek trivial,?_,?_,λy hy=>?_⟩
  .simp only[trT,eb]
  .simp[bdd,zVc]
  .rcases zDX hs hy with rfl|hy
   .exact .inr dQ
   .exact .inl hy
 |.lvs,x,N,st,s,v,rs,K,hs,hv,_,hd,h=>by
  simp only[VK]at hv;simp only[putK]at h;obtain⟨b,fp,rfl,h1,rfl⟩:=hv;have eb:(N.loc st.nl b 1 0).bl st.nl=b:=if_pos rfl;refine⟨_,_,_,h,⟨N.ext_loc st.nl st.nx b 1 0,zUn _,zUB _⟩,hs.addOb (o:=.lv x) (hd _ dQ) ek trivial,?_,?_,λy hy=>?_⟩
  .simp only[trT,eb]
  .simp[bdd,zVc]
  .rcases zDX hs hy with rfl|hy
   .exact .inr dQ
   .exact .inl hy
 |.jp,x,N,st,s,v,rs,K,hs,hv,_,hd,h=>by
  simp only[VK]at hv;simp only[putK]at h;obtain⟨⟨m,rfl⟩,rfl⟩:=hv;have hext:=N.ext_loc st.nl st.nx (m.getD 0) (if m.isSome then 1 else 0) 0;have ec:(N.loc st.nl (m.getD 0) (if m.isSome then 1 else 0) 0).cp st.nl=(if m.isSome then 1 else 0):=if_pos rfl;have eb:(N.loc st.nl (m.getD 0) (if m.isSome then 1 else 0) 0).bl st.nl=m.getD 0:=if_pos rfl;refine⟨_,_,_,h,⟨hext,zUn _,zUB _⟩,(hs.more hext (zUB _) (zUB _)).more (.refl (st.nl+1) _ _) (zUn _) (zUB _),?_,?_,λy hy=>.inl (zDW hs hext (zUB _) (zUB _) hy)⟩
  .simp only[trT,ec,eb];cases m<;>rfl
  .simp[bdd,zVc]
 |.np,x,N,st,s,v,rs,K,hs,hv,_,_,h=>by
  simp only[VK]at hv;simp only[putK]at h;exact⟨N,_,st,h,.refl _ _,hs,by rw[hv.1];rfl,rfl,λy hy=>.inl hy⟩
 |.lvj,x,N,st,s,v,rs,K,hs,hv,_,hd,h=>by
  cases x with
  |none=>
   simp only[VK]at hv;simp only[putK,zX]at h;obtain⟨⟨m,rfl⟩,rfl⟩:=hv;have hext:=N.ext_loc st.nl st.nx (m.getD 0) (if m.isSome then 1 else 0) 0;have ec:(N.loc st.nl (m.getD 0) (if m.isSome then 1 else 0) 0).cp st.nl=(if m.isSome then 1 else 0):=if_pos rfl;have eb:(N.loc st.nl (m.getD 0) (if m.isSome then 1 else 0) 0).bl st.nl=m.getD 0:=if_pos rfl;refine⟨_,_,_,h,⟨hext,zUn _,zUB _⟩,(hs.more hext (zUB _) (zUB _)).more (.refl (st.nl+1) _ _) (zUn _) (zUB _),?_,?_,λy hy=>.inl (zDW hs hext (zUB _) (zUB _) hy)⟩
   .simp only[trT,ec,eb];cases m<;>rfl
   .simp[bdd,zVc]
  |some x=>
   cases x with
   |none=>
    simp only[VK]at hv;simp only[putK,zX]at h;exact⟨N,_,st,h,.refl _ _,hs,by rw[hv.1];rfl,rfl,λy hy=>.inl hy⟩
   |some xs=>
    simp only[VK]at hv;simp only[putK,zX]at h;obtain⟨b,fp,rfl,h1,rfl⟩:=hv;have eb:(N.loc st.nl b 1 0).bl st.nl=b:=if_pos rfl;refine⟨_,_,_,h,⟨N.ext_loc st.nl st.nx b 1 0,zUn _,zUB _⟩,hs.addOb (o:=.l1 xs) (hd _ dQ) ek trivial,?_,?_,λy hy=>?_⟩
    .simp only[trT,eb]
    .simp[bdd,zVc]
    .rcases zDX hs hy with rfl|hy
     .exact .inr dQ
     .exact .inl hy
 |.ag cs,x,N,st,s,v,rs,K,hs,hv,hn,hd,h=>by
  simp only[VK]at hv;simp only[putK]at h;obtain⟨vs,rfl,h2⟩:=hv;obtain⟨N1,vs',st1,h3,h4,h5,h6,h7,h8⟩:=zAF hC cs x hs h2 hn hd h;exact⟨N1,_,st1,h3,h4,h5,by simp only[trT,xf,h6],by simpa only[bdd]using h7,h8⟩
theorem zAF(hC:CodOk C){r:R}:∀(l:List (SK U))(x:zA l){N:NM}{st:St U}{s:S}{vs:List V}{rs:List Res}{K:List (T U)->St U->Option R},SSim C N st s->VKs C s l x vs rs->rs.Nodup->(∀y∈rs,¬Has N st y)->zAw C l x st K=some r ->
 ∃N' vs' st',K vs' st'=some r/\Turn N st N' st'/\SSim C N' st' s/\vs'.map (trT C N')=vs/\bdds st'.nl st'.nx vs'=true/\(∀y,Has N' st' y->Has N st y\/y∈rs)
 |[],x,N,st,s,vs,rs,K,hs,hv,_,_,h=>by
  simp only[VKs]at hv;simp only[zAw]at h;exact⟨N,_,st,h,.refl _ _,hs,by rw[hv.1];rfl,rfl,λy hy=>.inl hy⟩
 |k::rest,x,N,st,s,vs,rs,K,hs,hv,hn,hd,h=>by
  simp only[VKs]at hv;simp only[zAw,jF]at h;obtain⟨v,vs',r1,r2,rfl,rfl,h1,h2⟩:=hv;obtain⟨hn1,hn2,hn3⟩:=zUe.1 hn;obtain⟨N1,v1,st1,h3,h4,h5,h6,h7,h8⟩:=zR4 hC k x.1 hs h1 hn1 (λy hy=>hd y (by simp[hy])) h;obtain⟨N2,vs2,st2,q3,q4,q5,q6,q7,q8⟩:=zAF hC rest x.2 h5 h2 hn2 (λy hy hh=>by
   rcases h8 y hh with q|q
   .exact hd y (by simp[hy]) q
   .exact hn3 y q y hy rfl) h3
  refine⟨N2,_,st2,q3,h4.trans q4,q5,?_,?_,λy hy=>?_⟩
  .rw[zUC,q6,zC8 C q4.ext _ h7,h6]
  .simp only[bdds,q7,zCG q4.nl q4.nx _ h7,zUP]
  .rcases q8 y hy with q|q
   .rcases h8 y q with q'|q'
    .exact .inl q'
    .exact .inr (by simp[q'])
   .exact .inr eO
end
end
open Go.Al
section
variable{U:TyU}{C:Cod U}{R:Type}
def SSim.less{N:NM}{st:St U}{s:S}(d:dF C N st s)(l0:Nat):dF C N ⟨(l0,none)::st.bx,st.tg,st.nl,st.nx,st.ob⟩ s:=by
 have a:∀l b,lk ((l0,none)::st.bx) l=some b->lk st.bx l=some b:=λl b c=>by
  rw[jB]at c;by_cases e:l0=l
  .rw[if_pos e]at c;cases c
  .rw[if_neg e]at c;exact c
 exact⟨λl b c=>d.box l b (a l b c),λl b c=>d.lt l b (a l b c),λl b c=>d.wf l b (a l b c),λl f b g h i j=>d.inj l f b g (a l b h) (a f g i) j,d.tgIn,d.tgInj,d.tgLt,d.nm,d.ob⟩
def SSim.lessO{N:NM}{st:St U}{s:S}(a:dF C N st s)(l0:Nat):dF C N ⟨st.bx,st.tg,st.nl,st.nx,(l0,none)::st.ob⟩ s:=by
 have c:∀l b,lko ((l0,none)::st.ob) l=some b->lko st.ob l=some b:=λl b d=>by
  rw[kT]at d;by_cases e:l0=l
  .rw[if_pos e]at d;cases d
  .rw[if_neg e]at d;exact d
 exact⟨a.box,a.lt,a.wf,a.inj,a.tgIn,a.tgInj,a.tgLt,a.nm,⟨λl b d=>a.ob.look l b (c l b d),λl b d=>a.ob.lt l b (c l b d),λl b d=>a.ob.wf l b (c l b d),λl f b g h i j=>a.ob.inj l f b g (c l b h) (c f g i) j⟩⟩
def zAu{N:NM}{st:St U}{l0:Nat}{y:Res}(h:Has N ⟨st.bx,st.tg,st.nl,st.nx,(l0,none)::st.ob⟩ y):Has N st y:=by
 cases y with
 |inl n=>exact h
 |inr b=>exact h
 |ob b=>
  obtain⟨l,x,c,d⟩:=h;have a:lko ((l0,none)::st.ob) l=some x:=c;rw[kT]at a;by_cases e:l0=l
  .rw[if_pos e]at a;cases a
  .rw[if_neg e]at a;exact⟨l,x,a,d⟩
def zAj{N:NM}{st:St U}{s:S}(c:dF C N st s){l0:Nat}{b:TO}(d:lko st.ob l0=some b):¬Has N ⟨st.bx,st.tg,st.nl,st.nx,(l0,none)::st.ob⟩ (.ob (N.bl l0)):=by
 rintro⟨l,x,f,g⟩;have a:lko ((l0,none)::st.ob) l=some x:=f;rw[kT]at a;by_cases e:l0=l
 .rw[if_pos e]at a;cases a
 .rw[if_neg e]at a;exact e (c.ob.inj l0 l b x d a g.symm)
def SSim.lessT{N:NM}{st:St U}{s:S}(a:dF C N st s)(t:Nat):dF C N ⟨st.bx,rmN st.tg t,st.nl,st.nx,st.ob⟩ s:=
 ⟨a.box,a.lt,a.wf,a.inj,λt b=>a.tgIn t (kD b).1,λt b d c=>a.tgInj t (kD b).1 d (kD c).1,λt b=>a.tgLt t (kD b).1,λt b=>a.nm t (kD b).1,a.ob⟩
def zE1{N:NM}{st:St U}{l0:Nat}{y:Res}(h:Has N ⟨(l0,none)::st.bx,st.tg,st.nl,st.nx,st.ob⟩ y):Has N st y:=by
 cases y with
 |inl n=>exact h
 |ob b=>exact h
 |inr b=>
  obtain⟨l,x,c,d⟩:=h;have a:lk ((l0,none)::st.bx) l=some x:=c;rw[jB]at a;by_cases e:l0=l
  .rw[if_pos e]at a;cases a
  .rw[if_neg e]at a;exact⟨l,x,a,d⟩
def zEz{N:NM}{st:St U}{s:S}(c:dF C N st s){l0:Nat}{b:Bx U}(d:lk st.bx l0=some b):¬Has N ⟨(l0,none)::st.bx,st.tg,st.nl,st.nx,st.ob⟩ (.inr (N.bl l0)):=by
 rintro⟨l,x,f,g⟩;have a:lk ((l0,none)::st.bx) l=some x:=f;rw[jB]at a;by_cases e:l0=l
 .rw[if_pos e]at a;cases a
 .rw[if_neg e]at a;exact e (c.inj l0 l b x d a g.symm)
def zPO{N:NM}{st:St U}{t:Nat}{y:Res}(h:Has N ⟨st.bx,rmN st.tg t,st.nl,st.nx,st.ob⟩ y):Has N st y:=by
 cases y with
 |inl n=>obtain⟨a,c,d⟩:=h;exact⟨a,(kD c).1,d⟩
 |inr b=>exact h
 |ob b=>exact h
def zQS{N:NM}{st:St U}{s:S}(a:dF C N st s){t:Nat}(b:t∈st.tg):¬Has N ⟨st.bx,rmN st.tg t,st.nl,st.nx,st.ob⟩ (.inl (N.tk t)):=by
 rintro⟨c,d,e⟩;obtain⟨f,g⟩:=kD d;exact g (a.tgInj c f t b e)
def zJX{N:NM}{x:T U}(h:zIG x=true):xB (trT C N x)=trT C N x:=by
 cases x with
 |lst m i xs=>
  cases m with
  |b n=>cases n<;>rfl
  |dl=>simp only[trT,trM];exact zDb _
  |ow t a=>simp[zIG]at h
 |_=>rfl
def zO2{N:NM}{x:T U}(h:zMB x=true):(trT C N x).untag=trT C N x:=by
 cases x with
 |agg fs=>
  simp only[zMB,zUb]at h;simp only[trT,xf,V.untag,zVr];congr 1;exact zVQ λx a=>zJX (h x a)
 |lst m i xs=>exact zJX (x:=.lst m i xs) h
 |_=>rfl
def zTV{a b:dd}(h:beqB a b=true):a=b:=by simpa [beqB]using h
mutual
/-- READ OUT. -/
theorem zM5(hC:CodOk C){r:R}:∀(k:SK U){N:NM}{st:St U}{s:S}{v:T U}{v':V}{K:denK k->St U->Option R},SSim C N st s->VR C N v v'->getK C k v st K=some r ->
 ∃x st' rs,K x st'=some r/\SSim C N st' s/\st'.nl=st.nl/\st'.nx=st.nx/\VK C s k x v' rs/\rs.Nodup/\(∀y∈rs,Has N st y/\¬Has N st' y)/\(∀y,Has N st' y->Has N st y)
 |.int k,N,st,s,v,v',K,hs,hv,h=>by
  simp only[getK]at h;split at h
  .obtain⟨h1,h2⟩:=zP h;simp only[zU7]at h1;subst h1;exact⟨_,st,[],h2,hs,rfl,rfl,by simp only[VK];exact⟨hv.get dQ,trivial⟩,zUp,dQ,λy hy=>hy⟩
  .cases h
 |.bool,N,st,s,v,v',K,hs,hv,h=>by
  simp only[getK]at h;split at h
  .exact⟨_,st,[],h,hs,rfl,rfl,by simp only[VK];exact⟨hv.get dQ,trivial⟩,zUp,dQ,λy hy=>hy⟩
  .cases h
 |.str,N,st,s,v,v',K,hs,hv,h=>by
  simp only[getK]at h;split at h
  .exact⟨_,st,[],h,hs,rfl,rfl,by simp only[VK];exact⟨hv.get dQ,trivial⟩,zUp,dQ,λy hy=>hy⟩
  .cases h
 |.dl i,N,st,s,v,v',K,hs,hv,h=>by
  simp only[getK]at h;split at h
  .exact⟨_,st,[],h,hs,rfl,rfl,by simp only[VK];exact⟨hv.get dQ,trivial⟩,zUp,dQ,λy hy=>hy⟩
  .rename_i m j ys;have hq:=jH h;clear h;obtain⟨rfl,h⟩:=hq;simp only[zAX]at h;split at h
   .exact⟨_,st,[],h,hs,rfl,rfl,by simp only[VK];exact⟨hv.get dQ,trivial⟩,zUp,dQ,λy hy=>hy⟩
   .rename_i n;obtain⟨h1,h2⟩:=zP h;refine⟨_,st,[],h2,hs,rfl,rfl,?_,zUp,dQ,λy hy=>hy⟩;simp only[VK];refine⟨(hv.get dQ).trans ?_,trivial⟩;simp only[trT,trM];cases n<;>cases ys<;>simp at h1<;>rfl
   .cases h
  .cases h
 |.bl i,N,st,s,v,v',K,hs,hv,h=>by
  simp only[getK]at h;split at h
  .exact⟨_,st,[],h,hs,rfl,rfl,by simp only[VK];exact⟨hv.get dQ,trivial⟩,zUp,dQ,λy hy=>hy⟩
  .rename_i m j ys;have hq:=jH h;clear h;obtain⟨rfl,h⟩:=hq;simp only[zAX]at h;split at h
   .refine⟨_,st,[],h,hs,rfl,rfl,?_,zUp,dQ,λy hy=>hy⟩;simp only[VK];refine⟨(hv.get dQ).trans ?_,trivial⟩;simp only[trT,trM];cases ys<;>rfl
   .exact⟨_,st,[],h,hs,rfl,rfl,by simp only[VK];exact⟨hv.get dQ,trivial⟩,zUp,dQ,λy hy=>hy⟩
   .cases h
  .cases h
 |.ow nb i,N,st,s,v,v',K,hs,hv,h=>by
  simp only[getK]at h;split at h
  .rename_i m j ys;have hq:=jH h;clear h;obtain⟨rfl,h⟩:=hq;simp only[zAX]at h;split at h
   .rename_i t nb';obtain⟨h1,h2⟩:=zP h;simp only[zUE]at h1;have hnb:=zTV h1.1;subst hnb;have hm:=zDZ h1.2;refine⟨_,_,[.inl (N.tk t)],h2,hs.lessT t,rfl,rfl,?_,dQ,?_,λy hy=>zPO hy⟩
    .simp only[VK];exact⟨_,hv.get dQ,hs.tgIn t hm,hs.nm t hm,rfl⟩
    .intro y hy;simp only[zUJ]at hy;subst hy;exact⟨⟨t,hm,rfl⟩,zQS hs hm⟩
   .cases h
  .cases h
 |.arr i,N,st,s,v,v',K,hs,hv,h=>by
  simp only[getK]at h;split at h
  .exact⟨_,st,[],h,hs,rfl,rfl,by simp only[VK];exact⟨hv.get dQ,trivial⟩,zUp,dQ,λy hy=>hy⟩
  .rename_i l n;split at h
   .rename_i j ys hl;have hq:=jH h;clear h;obtain⟨rfl,h⟩:=hq;simp only[zAX]at h;obtain⟨h1,h2⟩:=zP h;simp only[eqN,zVo]at h1;have hw:=hs.wf l _ hl;refine⟨_,_,[.inr (N.bl l)],h2,hs.less l,rfl,rfl,?_,dQ,?_,λy hy=>zE1 hy⟩
    .simp only[VK];exact⟨N.bl l,N.cp l,by rw[hv.get dQ];simp only[trT,h1],hw.2,by rw[hs.box l _ hl];rfl,rfl⟩
    .intro y hy;simp only[zUJ]at hy;subst hy;exact⟨⟨l,_,hl,rfl⟩,zEz hs hl⟩
   .cases h
  .cases h
 |.box cs,N,st,s,v,v',K,hs,hv,h=>by
  simp only[getK]at h;split at h
  .rename_i l o;obtain⟨h1,h2⟩:=zP h;clear h;simp only[zVo]at h1;subst h1;split at h2
   .rename_i vs hl;rw[jF]at h2;obtain⟨x,st',rs,q1,q2,q3,q4,q5,q6,q7,q8⟩:=kV hC cs (vs:=vs) (vs':=vs.map (trT C N)) (hs.less l) dQ (λj x v a b=>by
     rw[zUy,a]at b;injection b with b
     exact .inr b.symm) h2
    have hbox:=hs.box l _ hl;refine⟨x,st',.inr (N.bl l)::rs,q1,q2,q3,q4,?_,?_,?_,λy hy=>zE1 (q8 y hy)⟩
    .simp only[VK];exact⟨N.bl l,vs.map (trT C N),rs,hv.get dQ,by rw[hbox];simp[trB],q5,rfl⟩
    .exact zUm.2 ⟨λhh=>zEz hs hl (q7 _ hh).1,q6⟩
    .intro y hy;rcases zUG.1 hy with rfl|hy
     .exact⟨⟨l,_,hl,rfl⟩,λhh=>zEz hs hl (q8 _ hh)⟩
     .exact⟨zE1 (q7 y hy).1,(q7 y hy).2⟩
   .cases h2
  .cases h
 |.st i,N,st,s,v,v',K,hs,hv,h=>by
  simp only[getK]at h;obtain⟨h1,h2⟩:=zP h;obtain⟨x,h3,h4⟩:=hC.dec i _ _ _ h2;refine⟨x,st,[],h3,hs,rfl,rfl,?_,zUp,dQ,λy hy=>hy⟩;simp only[VK];have hne:v≠.any:=λe=>by
   subst e;have:=h4 N;have h5:=hC.size i x;have h6:=hC.ones i x;simp only[trT,V.untag,xB]at this;rw[<-this]at h6;simp[zM,V.flat,V.isOne]at h6
  exact⟨by rw[hv.get hne,<-h4 N,zO2 h1],trivial⟩
 |.scs,N,st,s,v,v',K,hs,hv,h=>by
  simp only[getK]at h;split at h
  .rename_i l;split at h
   .rename_i o hl;split at h
    .rename_i xs;have hw:=hs.ob.wf l _ hl;obtain⟨fp,h1⟩:=hs.ob.look l _ hl;refine⟨_,_,[.ob (N.bl l)],h,hs.lessO l,rfl,rfl,?_,dQ,?_,λy hy=>zAu hy⟩
     .simp only[VK];exact⟨N.bl l,N.cp l,fp,by rw[hv.get dQ];simp only[wfO]at hw;simp only[trT,hw],h1,rfl⟩
     .intro y hy;simp only[zUJ]at hy;subst hy;exact⟨⟨l,_,hl,rfl⟩,zAj hs hl⟩
    .cases h
    .cases h
    .cases h
   .cases h
  .cases h
 |.mpo,N,st,s,v,v',K,hs,hv,h=>by
  simp only[getK]at h;split at h
  .split at h
   .split at h
    .exact⟨none,st,[],h,hs,rfl,rfl,by simp only[VK];exact⟨hv.get dQ,trivial⟩,zUp,dQ,λy hy=>hy⟩
    .cases h
   .cases h
  .rename_i l;split at h
   .rename_i o hl;split at h
    .rename_i c;have hw:=hs.ob.wf l _ hl;obtain⟨fp,h1⟩:=hs.ob.look l _ hl;refine⟨some c,_,[.ob (N.bl l)],h,hs.lessO l,rfl,rfl,?_,dQ,?_,λy hy=>zAu hy⟩
     .simp only[VK];exact⟨N.bl l,fp,by rw[hv.get dQ];simp only[wfO]at hw;simp only[trT,if_neg hw],h1,rfl⟩
     .intro y hy;simp only[zUJ]at hy;subst hy;exact⟨⟨l,_,hl,rfl⟩,zAj hs hl⟩
    .cases h
    .cases h
    .cases h
   .cases h
  .cases h
 |.jm,N,st,s,v,v',K,hs,hv,h=>by
  simp only[getK]at h;split at h
  .split at h
   .exact⟨(),st,[],h,hs,rfl,rfl,by simp only[VK];exact⟨⟨_,hv.get dQ⟩,trivial⟩,zUp,dQ,λy hy=>hy⟩
   .cases h
  .exact⟨(),st,[],h,hs,rfl,rfl,by simp only[VK];exact⟨⟨_,hv.get dQ⟩,trivial⟩,zUp,dQ,λy hy=>hy⟩
  .cases h
 |.mpj,N,st,s,v,v',K,hs,hv,h=>by
  simp only[getK]at h;split at h
  .split at h
   .split at h
    .exact⟨some none,st,[],h,hs,rfl,rfl,by simp only[VK];exact⟨hv.get dQ,trivial⟩,zUp,dQ,λy hy=>hy⟩
    .cases h
   .cases h
  .rename_i l;split at h
   .rename_i o hl;split at h
    .rename_i c;have hw:=hs.ob.wf l _ hl;obtain⟨fp,h1⟩:=hs.ob.look l _ hl;refine⟨some (some c),_,[.ob (N.bl l)],h,hs.lessO l,rfl,rfl,?_,dQ,?_,λy hy=>zAu hy⟩
     .simp only[VK];exact⟨N.bl l,fp,by rw[hv.get dQ];simp only[wfO]at hw;simp only[trT,if_neg hw],h1,rfl⟩
     .intro y hy;simp only[zUJ]at hy;subst hy;exact⟨⟨l,_,hl,rfl⟩,zAj hs hl⟩
    .cases h
    .cases h
    .cases h
   .exact⟨none,st,[],h,hs,rfl,rfl,by simp only[VK];exact⟨⟨_,hv.get dQ⟩,trivial⟩,zUp,dQ,λy hy=>hy⟩
  .cases h
 |.mp1,N,st,s,v,v',K,hs,hv,h=>by
  simp only[getK]at h;split at h
  .rename_i l;split at h
   .rename_i o hl;split at h
    .rename_i c;have hw:=hs.ob.wf l _ hl;obtain⟨fp,h1⟩:=hs.ob.look l _ hl;refine⟨c,_,[.ob (N.bl l)],h,hs.lessO l,rfl,rfl,?_,dQ,?_,λy hy=>zAu hy⟩
     .simp only[VK];exact⟨N.bl l,fp,by rw[hv.get dQ];simp only[wfO]at hw;simp only[trT,if_neg hw],h1,rfl⟩
     .intro y hy;simp only[zUJ]at hy;subst hy;exact⟨⟨l,_,hl,rfl⟩,zAj hs hl⟩
    .cases h
    .cases h
    .cases h
   .cases h
  .cases h
 |.ar1 i,N,st,s,v,v',K,hs,hv,h=>by
  simp only[getK]at h;split at h
  .rename_i l n;split at h
   .rename_i j ys hl;have hq:=jH h;clear h;obtain⟨rfl,h⟩:=hq;simp only[zAX]at h;obtain⟨h1,h2⟩:=zP h;simp only[eqN,zVo]at h1;have hw:=hs.wf l _ hl;refine⟨_,_,[.inr (N.bl l)],h2,hs.less l,rfl,rfl,?_,dQ,?_,λy hy=>zE1 hy⟩
    .simp only[VK];exact⟨N.bl l,N.cp l,by rw[hv.get dQ];simp only[trT,h1],hw.2,by rw[hs.box l _ hl];rfl,rfl⟩
    .intro y hy;simp only[zUJ]at hy;subst hy;exact⟨⟨l,_,hl,rfl⟩,zEz hs hl⟩
   .cases h
  .cases h
 |.lv1,N,st,s,v,v',K,hs,hv,h=>by
  simp only[getK]at h;split at h
  .rename_i l o;obtain⟨ho,h⟩:=zP h;have ho:o=0:=zVs ho;subst ho;split at h
   .rename_i o hl;split at h
    .rename_i c;obtain⟨fp,h1⟩:=hs.ob.look l _ hl;refine⟨c,_,[.ob (N.bl l)],h,hs.lessO l,rfl,rfl,?_,dQ,?_,λy hy=>zAu hy⟩
     .simp only[VK];exact⟨N.bl l,fp,by rw[hv.get dQ];simp only[trT],h1,rfl⟩
     .intro y hy;simp only[zUJ]at hy;subst hy;exact⟨⟨l,_,hl,rfl⟩,zAj hs hl⟩
    .cases h
    .cases h
    .cases h
   .cases h
  .cases h
 |.lvs,N,st,s,v,v',K,hs,hv,h=>by
  simp only[getK]at h;split at h
  .rename_i l o;obtain⟨ho,h⟩:=zP h;have ho:o=0:=zVs ho;subst ho;split at h
   .rename_i o hl;split at h
    .rename_i c;obtain⟨fp,h1⟩:=hs.ob.look l _ hl;refine⟨c,_,[.ob (N.bl l)],h,hs.lessO l,rfl,rfl,?_,dQ,?_,λy hy=>zAu hy⟩
     .simp only[VK];exact⟨N.bl l,fp,by rw[hv.get dQ];simp only[trT],h1,rfl⟩
     .intro y hy;simp only[zUJ]at hy;subst hy;exact⟨⟨l,_,hl,rfl⟩,zAj hs hl⟩
    .cases h
    .cases h
    .cases h
   .cases h
  .cases h
 |.lvj,N,st,s,v,v',K,hs,hv,h=>by
  simp only[getK]at h;split at h
  .split at h
   .split at h
    .exact⟨some none,st,[],h,hs,rfl,rfl,by simp only[VK];exact⟨hv.get dQ,trivial⟩,zUp,dQ,λy hy=>hy⟩
    .cases h
   .cases h
  .rename_i l o;obtain⟨ho,h⟩:=zP h;have ho:o=0:=zVs ho;subst ho;split at h
   .rename_i o hl;split at h
    .rename_i c;obtain⟨fp,h1⟩:=hs.ob.look l _ hl;refine⟨some (some c),_,[.ob (N.bl l)],h,hs.lessO l,rfl,rfl,?_,dQ,?_,λy hy=>zAu hy⟩
     .simp only[VK];exact⟨N.bl l,fp,by rw[hv.get dQ];simp only[trT],h1,rfl⟩
     .intro y hy;simp only[zUJ]at hy;subst hy;exact⟨⟨l,_,hl,rfl⟩,zAj hs hl⟩
    .cases h
    .cases h
    .cases h
   .exact⟨none,st,[],h,hs,rfl,rfl,by simp only[VK];exact⟨⟨some (N.bl l),by rw[hv.get dQ];rfl⟩,trivial⟩,zUp,dQ,λy hy=>hy⟩
  .rename_i l;exact⟨none,st,[],h,hs,rfl,rfl,by simp only[VK];exact⟨⟨if N.cp l=0 then none else some (N.bl l),by rw[hv.get dQ];simp only[trT];split<;>rfl⟩,trivial⟩,zUp,dQ,λy hy=>hy⟩
  .cases h
 |.jp,N,st,s,v,v',K,hs,hv,h=>by
  simp only[getK]at h;split at h
  .split at h
   .split at h
    .exact⟨(),st,[],h,hs,rfl,rfl,by simp only[VK];exact⟨⟨none,hv.get dQ⟩,trivial⟩,zUp,dQ,λy hy=>hy⟩
    .cases h
   .cases h
  .rename_i l o;obtain⟨ho,h⟩:=zP h;have ho:o=0:=zVs ho;subst ho;exact⟨(),st,[],h,hs,rfl,rfl,by simp only[VK];exact⟨⟨some (N.bl l),by rw[hv.get dQ];rfl⟩,trivial⟩,zUp,dQ,λy hy=>hy⟩
  .rename_i l;exact⟨(),st,[],h,hs,rfl,rfl,by simp only[VK];exact⟨⟨if N.cp l=0 then none else some (N.bl l),by rw[hv.get dQ];simp only[trT];split<;>rfl⟩,trivial⟩,zUp,dQ,λy hy=>hy⟩
  .cases h
 |.np,N,st,s,v,v',K,hs,hv,h=>by
  simp only[getK]at h;split at h
  .split at h
   .split at h
    .exact⟨(),st,[],h,hs,rfl,rfl,by simp only[VK];exact⟨hv.get dQ,trivial⟩,zUp,dQ,λy hy=>hy⟩
    .cases h
   .cases h
  .cases h
 |.ag cs,N,st,s,v,v',K,hs,hv,h=>by
  simp only[getK]at h;split at h
  .rename_i vs;obtain⟨x,st',rs,q1,q2,q3,q4,q5,q6,q7,q8⟩:=kV hC cs (vs:=vs) (vs':=vs.map (trT C N)) hs dQ (λj x v a b=>by
    rw[zUy,a]at b;injection b with b
    exact .inr b.symm) h
   exact⟨x,st',rs,q1,q2,q3,q4,by simp only[VK];exact⟨_,by rw[hv.get dQ];simp only[trT,xf],q5⟩,q6,q7,q8⟩
  .cases h
theorem kV(hC:CodOk C){r:R}:∀(l:List (SK U)){N:NM}{st:St U}{s:S}{vs:List (T U)}{vs':List V}{K:zA l->St U->Option R},SSim C N st s->vs'.length=vs.length->(∀(j:Nat)(x:T U)(v:V),vs[j]?=some x->vs'[j]?=some v->VR C N x v)->qx C l vs st K=some r ->
 ∃x st' rs,K x st'=some r/\SSim C N st' s/\st'.nl=st.nl/\st'.nx=st.nx/\VKs C s l x vs' rs/\rs.Nodup/\(∀y∈rs,Has N st y/\¬Has N st' y)/\(∀y,Has N st' y->Has N st y)
 |[],N,st,s,vs,vs',K,hs,hl,hv,h=>by
  simp only[qx]at h;cases vs with
  |cons _ _=>cases h
  |nil=>
   have:vs'=[]:=by cases vs'<;>simp at hl ⊢
   exact⟨_,st,[],h,hs,rfl,rfl,by simp only[VKs];exact⟨this,trivial⟩,zUp,dQ,λy hy=>hy⟩
 |k::rest,N,st,s,vs,vs',K,hs,hl,hv,h=>by
  simp only[qx,jF]at h;cases vs with
  |nil=>cases h
  |cons v vs=>
   cases vs' with
   |nil=>simp at hl
   |cons v' vs'=>
    simp only at h;obtain⟨x,st1,r1,q1,q2,q3,q4,q5,q6,q7,q8⟩:=zM5 hC k hs (hv 0 v v' rfl rfl) h;obtain⟨xs,st2,r2,p1,p2,p3,p4,p5,p6,p7,p8⟩:=kV hC rest (vs:=vs) (vs':=vs') q2 (by simpa using hl) (λj x v a b=>hv (j+1) x v eF eG) q1;refine⟨_,st2,r1++r2,p1,p2,p3.trans q3,p4.trans q4,?_,?_,?_,λy hy=>q8 y (p8 y hy)⟩
    .simp only[VKs];exact⟨v',vs',r1,r2,rfl,rfl,q5,p5⟩
    .refine zUe.2 ⟨q6,p6,λa ha b hb e=>?_⟩;subst e;exact(q7 a ha).2 (p7 a hb).1
    .intro y hy;rcases zUa.1 hy with hy|hy
     .exact⟨(q7 y hy).1,λhh=>(q7 y hy).2 (p8 y hh)⟩
     .exact⟨q8 y (p7 y hy).1,(p7 y hy).2⟩
end
def jC(l:Nat):db (SK U)->Nat->St U->(St U->da R)->da R
 |[],_,st,K=>K st
 |k::r,j,st,K=>
  match lk st.bx l with
  |some (.st vs)=>
   (match k with
   |.ow c i=>bif c then(match vs.getD j .any with
    |.nil=>feL (vs.set j (.lst (.ow st.nx true) i [])) λvs'=>bif yz vs'&&bdds st.nl (st.nx+1) vs'&&Nat.blt j vs.length then(feS ⟨(l,some (.st vs'))::st.bx,st.nx::st.tg,st.nl,st.nx+1,st.ob⟩ λa=>jC l r (j+1) a K)else none
    |_=>jC l r (j+1) st K)else jC l r (j+1) st K
   |.arr _=>(match vs.getD j .any with
    |.sl b n=>(match lk st.bx b with
     |some (.ar d xs)=>(feS ⟨(b,some (.ar d (qq n xs)))::st.bx,st.tg,st.nl,st.nx,st.ob⟩ λa=>jC l r (j+1) a K)
     |_=>jC l r (j+1) st K)
    |_=>jC l r (j+1) st K)
   |_=>jC l r (j+1) st K)
  |_=>none
def jK:db (Nat×SK U)->En U->St U->(En U->St U->da R)->da R
 |[],e,st,K=>K e st
 |p::r,e,st,K=>
  match p.2 with
  |.ow b i=>bif b then(match eget e p.1 with
   |.nil=>feS ⟨st.bx,st.nx::st.tg,st.nl,st.nx+1,st.ob⟩ λa=>jK r ((p.1,.lst (.ow st.nx true) i [])::e) a K
   |_=>jK r e st K)else jK r e st K
  |.arr _=>(match eget e p.1 with
   |.sl l n=>(match lk st.bx l with
    |some (.ar c xs)=>feS ⟨(l,some (.ar c (qq n xs)))::st.bx,st.tg,st.nl,st.nx,st.ob⟩ λa=>jK r e a K
    |_=>jK r e st K)
   |_=>jK r e st K)
  |.box cs=>(match eget e p.1 with
   |.ptr l _=>jC l cs 0 st λa=>feS a λa=>jK r e a K
   |_=>jK r e st K)
  |_=>jK r e st K
def zHT(d:CodOk C){N:NM}{st:St U}{s:S}(a:dF C N st s){l n:Nat}{i:U.I}{xs:db (U.den i)}(b:lk st.bx l=some (.ar i xs)) :
 ∃s',Gs s s'/\dF C N ⟨(l,some (.ar i (qq n xs)))::st.bx,st.tg,st.nl,st.nx,st.ob⟩ s':=by
 have c:=a.wf l _ b;have e:=a.setBox (b1:=.ar i (qq n xs)) b ⟨c.1,by unfold qq;rw[zVH];have:=c.2;omega⟩;refine⟨_,?_,e⟩;simp only[trB,qq,<-zBx d];exact zRi _ _ (a.box l _ b)
def zRY(m:CodOk C){X:Cx}{N:NM}{st:St U}{s:S}(b:dF C N st s){e:En U}{E:Env}(c:dG C N st e E)(k:Nat)(i:U.I)(g:eget e k=.nil) :
 ∃N' d s',Gst X E s d s'/\Turn N st N' ⟨st.bx,st.nx::st.tg,st.nl,st.nx+1,st.ob⟩/\dF C N' ⟨st.bx,st.nx::st.tg,st.nl,st.nx+1,st.ob⟩ s'/\dG C N' ⟨st.bx,st.nx::st.tg,st.nl,st.nx+1,st.ob⟩ (eput e (some k) (.lst (.ow st.nx true) i [])) d:=by
 have f:=(c k).1;rw[g]at f;have j:E.get k=.lst .nil []:=f.get dQ;have a:Turn N st (N.tok st.nx s.nx) ⟨st.bx,st.nx::st.tg,st.nl,st.nx+1,st.ob⟩:=⟨N.ext_tok st.nl st.nx s.nx,zUB _,zUn _⟩;refine⟨N.tok st.nx s.nx,_,_,zO5 k (C.cells i) j,a,b.newTok (n:=s.nx) (tg:=st.tg) (tg':=s.tg) (x:=s.nx+1) (λ_ h=>h) b.tgIn (λt a=>zWB (b.nm t a)) (zUn _) (zVn _),?_⟩;refine(c.turn a).put (.inr ?_) (by simp[bdd,zVc]) (some k);have l:(N.tok st.nx s.nx).tk st.nx=s.nx:=if_pos rfl;simp[trT,trM,l]
def zPS(z:CodOk C){N:NM}{st:St U}{s:S}(a:dF C N st s){e:En U}{E:Env}(m:dG C N st e E){l j:Nat}{i:U.I}{vs:db (T U)}(d:lk st.bx l=some (.st vs))(k:vs.getD j .any=.nil)(b:j<vs.length)
 (o:yz (vs.set j (.lst (.ow st.nx true) i []))=true) (p:bdds st.nl (st.nx+1) (vs.set j (.lst (.ow st.nx true) i []))=true) :
 ∃N' s',Gs s s'/\Turn N st N' ⟨(l,some (.st (vs.set j (.lst (.ow st.nx true) i []))))::st.bx,st.nx::st.tg,st.nl,st.nx+1,st.ob⟩ /\
  dF C N' ⟨(l,some (.st (vs.set j (.lst (.ow st.nx true) i []))))::st.bx,st.nx::st.tg,st.nl,st.nx+1,st.ob⟩ s'/\dG C N' ⟨(l,some (.st (vs.set j (.lst (.ow st.nx true) i []))))::st.bx,st.nx::st.tg,st.nl,st.nx+1,st.ob⟩ e E:=by
 have q:=a.box l _ d;have u:=a.wf l _ d;have f:vs[j]?=some .nil:=by
  rw[zUV,zUj b]at k;rw[zUj b];exact zU1 some k
 have c:Turn N st (N.tok st.nx s.nx) ⟨(l,some (.st (vs.set j (.lst (.ow st.nx true) i []))))::st.bx,st.nx::st.tg,st.nl,st.nx+1,st.ob⟩:=⟨N.ext_tok st.nl st.nx s.nx,zUB _,zUn _⟩;have v:=a.newTok (n:=s.nx) (tg:=st.tg) (tg':=s.tg) (x:=s.nx+1) (λ_ h=>h) a.tgIn (λt c=>zWB (a.nm t c)) (zUn _) (zVn _);have g:=v.setBox (l0:=l) (b1:=.st (vs.set j (.lst (.ow st.nx true) i []))) d ⟨p,o⟩;refine⟨N.tok st.nx s.nx,_,?_,c,g,m.turn c⟩;have w:(N.tok st.nx s.nx).tk st.nx=s.nx:=if_pos rfl;have y:(vs.set j (.lst (.ow st.nx true) i [])).map (trT C (N.tok st.nx s.nx))=(vs.map (trT C N)).set j (.lst (.own s.nx true (C.cells i)) []):=by
  rw[List.map_set,qe c.ext u.1];simp[trT,trM,w]
 simp only[trB,y,zWK];exact zO6 _ j (C.cells i) q (by rw[zUy,f];rfl)
end
open Go.Al
section
variable{U:TyU}{C:Cod U}{R:Type}{r:R}
def zAg(d:CodOk C){l:Nat}{e:En U}{E:Env}:∀(ks:db (SK U))(j:Nat){N:NM}{st:St U}{s:S}{K:St U->da R},dF C N st s->dG C N st e E->jC l ks j st K=some r ->
 ∃N' a s',K a=some r/\Gs s s'/\Turn N st N' a/\dF C N' a s'/\dG C N' a e E
 |[],j,N,st,s,K,f,g,h=>⟨N,st,s,h,.refl _,.refl _ _,f,g⟩
 |k::b,j,N,st,s,K,f,g,h=>by
  simp only[jC,jF]at h;have go:jC l b (j+1) st K=some r->∃N' a s',K a=some r/\Gs s s'/\Turn N st N' a/\dF C N' a s'/\dG C N' a e E:=λB=>zAg d b (j+1) f g B;split at h
  .rename_i vs D;split at h
   .rename_i F i;cases F with
    |false=>exact go h
    |true=>
     simp only[zUi]at h;split at h
     .rename_i G;rw[zBo]at h;obtain⟨m,H⟩:=zP h;simp only[zUE]at m;obtain⟨Q,I,o,p,J,L⟩:=zPS d f g D G (xc m.2) m.1.1 m.1.2;obtain⟨q,c,t,u,v,w,x,y⟩:=zAg d b (j+1) J L H;exact⟨q,c,t,u,o.trans v,p.trans w,x,y⟩
     .exact go h
   .split at h
    .rename_i M n _;split at h
     .rename_i O xs z;obtain⟨I,o,p⟩:=zHT d f (n:=n) z;have A:Turn N st N ⟨(M,some (.ar O (qq n xs)))::st.bx,st.tg,st.nl,st.nx,st.ob⟩:=⟨.refl _ _ _,zUB _,zUB _⟩;obtain⟨q,c,t,u,v,w,x,y⟩:=zAg d b (j+1) p (g.turn A) h;exact⟨q,c,t,u,o.trans v,A.trans w,x,y⟩
     .exact go h
    .exact go h
   .exact go h
  .cases h
def zA5(g:CodOk C){X:Cx}:∀(d:db (Nat×SK U)){e:En U}{E:Env}{N:NM}{st:St U}{s:S}{K:En U->St U->da R},dF C N st s->dG C N st e E->jK d e st K=some r ->
 ∃N' e' a k s',K e' a=some r/\Gst X E s k s'/\Turn N st N' a/\dF C N' a s'/\dG C N' a e' k/\∀j,(∀p∈d,p.1≠j)->eget e' j=eget e j
 |[],e,E,N,st,s,K,u,v,h=>⟨N,e,st,E,s,h,.refl _ _ _,.refl _ _,u,v,λ_ _=>rfl⟩
 |p::b,e,E,N,st,s,K,u,v,h=>by
  simp only[jK,jF]at h;have go:jK b e st K=some r->∃N' e' a k s',K e' a=some r/\Gst X E s k s'/\Turn N st N' a/\dF C N' a s'/\dG C N' a e' k/\∀j,(∀q∈p::b,q.1≠j)->eget e' j=eget e j:=λV=>by
   obtain⟨N',e',a,k,s',m,o,w,x,M,W⟩:=zA5 g b u v V;exact⟨N',e',a,k,s',m,o,w,x,M,λj f=>W j λq t=>f q fc⟩
  split at h
  .rename_i Y i _;cases Y with
   |false=>exact go h
   |true=>
    simp only[zUi]at h;split at h
    .rename_i Z;obtain⟨N1,E1,L,m,o,w,x⟩:=zRY (X:=X) g u v p.1 i Z;obtain⟨y,z,c,A,B,D,F,G,H,I,J⟩:=zA5 g b w x h;refine⟨y,z,c,A,B,D,m.trans F,o.trans G,H,I,λj f=>?_⟩;rw[J j λq t=>f q fc];have O:=f p dQ;simp[eput,eget,qN O]
    .exact go h
  .split at h
   .rename_i l n _;split at h
    .rename_i i' xs hl;obtain⟨L,Q,o⟩:=zHT g u (n:=n) hl;have m:Gst X E s E L:=Q.gst;have T:Turn N st N ⟨(l,some (.ar i' (qq n xs)))::st.bx,st.tg,st.nl,st.nx,st.ob⟩:=⟨.refl _ _ _,zUB _,zUB _⟩;obtain⟨y,z,c,A,B,D,F,G,H,I,J⟩:=zA5 g b o (v.turn T) h;exact⟨y,z,c,A,B,D,m.trans F,T.trans G,H,I,λj f=>J j λq t=>f q fc⟩
    .exact go h
   .exact go h
  .split at h
   .rename_i cs _ _ l _ _;obtain⟨N1,aa,L,m,Q,w,x,M⟩:=zAg g cs 0 u v h;have o:Gst X E s E L:=Q.gst;obtain⟨y,z,c,A,B,D,F,G,H,I,J⟩:=zA5 g b x M m;exact⟨y,z,c,A,B,D,o.trans F,w.trans G,H,I,λj f=>J j λq t=>f q fc⟩
   .exact go h
  .exact go h
variable(C)
def zDg{R:Type}:db (SK U)->db (T U)->St U->(St U->da R)->da R
 |[],_,st,K=>K st
 |k::r,b,st,K=>(match b with
  |[]=>none
  |t::b=>(match k with
   |.box cs=>(match t with
    |.ptr l _=>jC l cs 0 st λa=>feS a λa=>zDg r b a K
    |_=>none)
   |.arr _=>(match t with
    |.nil=>zDg r b st K
    |.sl l n=>(match lk st.bx l with
     |some (.ar c xs)=>feS ⟨(l,some (.ar c (qq n xs)))::st.bx,st.tg,st.nl,st.nx,st.ob⟩ λa=>zDg r b a K
     |_=>none)
    |_=>none)
   |_=>none))
def putB{R:Type}:(k:SK U)->denK k->T U->St U->(St U->da R)->da R
 |.box cs,x,t,st,K=>(match t with
  |.ptr l o=>zAw C cs x st λvs a=>bif yz vs&&Nat.beq o 0&&Nat.blt l st.nl then feS ⟨(l,some (.st vs))::a.bx,a.tg,a.nl,a.nx,a.ob⟩ K else none
  |_=>none)
 |_,_,_,_,_=>none
def zHr{R:Type}:(l:db (SK U))->zA l->db (T U)->St U->(St U->da R)->da R
 |[],_,a,st,K=>(match a with|[]=>K st|_::_=>none)
 |k::r,x,a,st,K=>(match a with
  |[]=>none
  |t::a=>putB C k x.1 t st λb=>zHr r x.2 a b K)
def putP{R:Type}:(k:SK U)->denK k->T U->St U->(St U->da R)->da R
 |.box cs,x,t,st,K=>putB C (.box cs) x t st K
 |.arr i,x,t,st,K=>(match t with
  |.nil=>zX x (K st) λ_=>none
  |.sl l _=>zX x none λys=>bif Nat.blt l st.nl then feS ⟨(l,some (.ar i ys))::st.bx,st.tg,st.nl,st.nx,st.ob⟩ K else none
  |_=>none)
 |_,_,_,_,_=>none
def zKZ{R:Type}:(l:db (SK U))->zA l->db (T U)->St U->(St U->da R)->da R
 |[],_,a,st,K=>(match a with|[]=>K st|_::_=>none)
 |k::r,x,a,st,K=>(match a with
  |[]=>none
  |t::a=>putP C k x.1 t st λb=>zKZ r x.2 a b K)
structure Head(U:TyU) where
 fixed:List Nat
 vars:List (Nat×SK U)
 ptrs:List (Nat×SK U):=[]
structure FI(U:TyU) where
 wr:Nat->Bool
 own:Nat->Bool
 kf:Nat->List Nat
 hd:Nat->Option (Head U)
 jn:Nat->Option (Head U)
 kl:Nat->List (Nat×Nat×Nat):=λ_=>[]
def hid:dE->Nat
 |.region id _ _=>id
 |.seq a _=>hid a
 |.cond _ a _=>hid a
 |.block _ b=>hid b
 |.loop b=>hid b
 |.scope b=>hid b
 |_=>0
def dsts(fi:FI U):dE->db Nat
 |.region _ ops _=>dstL ops.toList
 |.seq a b=>dsts fi a++((match fi.jn (hid b)with|some h=>h.vars.map (·.1)|none=>[])++dsts fi b)
 |.cond _ a b=>dsts fi a++dsts fi b
 |.block _ b=>dsts fi b
 |.scope b=>dsts fi b
 |.loop b=>(match fi.hd (hid b)with|some h=>h.vars.map (·.1)|none=>[])++dsts fi b
 |_=>[]
def zFe{R:Type}:db Nat->En U->(En U->da R)->da R
 |[],_,K=>K []
 |k::r,e,K=>fe (eget e k) λv=>zFe r e λl=>K ((k,v)::l)
def zFF{R:Type}:∀(ks:db Nat)(e:En U)(K:En U->da R),zFe ks e K=K (ks.map λk=>(k,eget e k))
 |[],_,_=>rfl
 |k::r,e,K=>by simp only[zFe,zDr,zFF r,zUC]
def isAny:T U->dd
 |.any=>true
 |_=>false
def zAo:db Nat->En U->dd
 |[],_=>true
 |k::r,e=>!(isAny (eget e k))&&zAo r e
def zA6:db Nat->db Nat->dd
 |[],_=>true
 |k::r,l=>!(hasN l k)&&zA6 r l
def zipV:db (Nat×SK U)->db (T U)->En U
 |p::r,v::vs=>(p.1,v)::zipV r vs
 |_,_=>[]
def kE:db (Nat×SK U)->En U->db (T U)
 |[],_=>[]
 |p::r,e=>eget e p.1::kE r e
def xJ:db (Nat×SK U)->db (SK U)
 |[]=>[]
 |p::r=>p.2::xJ r
def iter{σ R:Type}:Nat->((σ->da R)->σ->da R)->σ->da R
 |0,_,_=>none
 |n+1,F,s=>F (iter n F) s
def zg{σ R:Type}(F:(σ->da R)->da R)(j:σ->da R):da R:=F j
def zKL(a b:db Nat):dd:=a.all λk=>hasN b k
def je(fi:FI U):dE->dd
 |.seq a b=>(match fi.jn (hid b)with|some h=>zA6 h.fixed (h.vars.map (·.1)++dsts fi a)&&zKL (h.ptrs.map (·.1)) h.fixed|none=>true)&&(je fi a&&je fi b)
 |.cond _ a b=>je fi a&&je fi b
 |.block _ b=>je fi b
 |.scope b=>je fi b
 |.loop b=>(match fi.hd (hid b)with|some h=>zA6 h.fixed (h.vars.map (·.1)++dsts fi b)&&zKL (h.ptrs.map (·.1)) h.fixed|none=>true)&&je fi b
 |_=>true
def zEY{R:Type}(h:Head U)(e:En U)(st:St U)(j:zA (xJ h.vars)×zA (xJ h.ptrs)->da R):da R:=
 jK h.vars e st λd a=>feS a λa=>feA (kE h.ptrs d) λps=>zDg (xJ h.ptrs) ps a λc=>feA (kE h.vars d) λvs=>qx C (xJ h.vars) vs c λx b=>feS b λb=>qx C (xJ h.ptrs) ps b λy _=>j (x,y)
def zFv{R:Type}(h:Head U)(p:zA (xJ h.vars)×zA (xJ h.ptrs))(e:En U)(st:St U)(K:db (T U)->St U->da R):da R:=
 zAw C (xJ h.vars) p.1 ⟨[],[],st.nl,st.nx,[]⟩ λvs a=>feS a λa=>feA (kE h.ptrs e) λps=>zKZ C (xJ h.ptrs) p.2 ps a λb=>K vs b
variable(Tb:dg->TD U)
def feE{R:Type}:En U->(En U->da R)->da R
 |[],k=>k []
 |p::r,k=>match p with|(i,x)=>fN i λi=>feE r λa=>k ((i,x)::a)
def zLR{R:Type}:∀(l:En U)(k:En U->da R),feE l k=k l
 |[],_=>rfl
 |(i,x)::r,k=>by simp only[feE,zKW,zLR r]
def told(e:En U)(c:dq)(t:dd):En U:=
 match c with
 |.tmp d=>eput e (some d) (.bool t)
 |_=>e
def drun(fu:Nat)(g:Call U R)(fi:FI U):dE->En U->St U->(dA->En U->St U->da R)->da R
 |.skip,e,st,k=>k .normal e st
 |.region id ops d,e,st,k=>kdOf (bif d then fi.kl id else[]) e λkd=>dops C Tb g fi.wr fi.own kd (ops.toList.map (·.dst)) ops.toList e st λe' f=>zFe (fi.kf id) e' λe''=>k .normal e'' f
 |.seq a b,e,st,k=>
  match fi.jn (hid b)with
  |none=>drun fu g fi a e st λex e' f=>match ex with|.normal=>drun fu g fi b e' f k|ex=>k ex e' f
  |some h=>
   zFe h.fixed e λl=>bif zAo h.fixed l then
    zg (λj=>drun fu g fi a e st λex e' f=>match ex with
     |.normal=>bif zAo h.fixed e' then zEY C h e' f λx=>j x else none
     |ex=>k ex e' f)
     λx=>zFv C h x e st λvs i=>feE (l++zipV h.vars vs) λe0=>drun fu g fi b e0 i k
   else none
 |.cond c a b,e,st,k=>match evT e c with
  |.bool t=>bif t then drun fu g fi a (told e c true) st k else drun fu g fi b (told e c false) st k
  |_=>none
 |.block id b,e,st,k=>drun fu g fi b e st λex e' f=>match ex with
  |.exit m=>bif Nat.beq m id then k .normal e' f else k (.exit m) e' f
  |ex=>k ex e' f
 |.loop b,e,st,k=>
  match fi.hd (hid b)with
  |none=>none
  |some h=>
   zFe h.fixed e λl=>bif zAo h.fixed l then
    zEY C h e st λn=>
    iter fu (λrec x=>zFv C h x e st λvs i=>
     feE (l++zipV h.vars vs) λe0=>drun fu g fi b e0 i λex e' f=>match ex with
      |.normal=>bif zAo h.fixed e' then zEY C h e' f λx=>rec x else none
      |ex=>k ex e' f) n
   else none
 |.exit id,e,st,k=>k (.exit id) e st
 |.ret,e,st,k=>k .ret e st
 |.scope b,e,st,k=>drun fu g fi b e st λex e' f=>match ex with|.goto _=>none|ex=>k ex e' f
 |.label _,e,st,k=>k .normal e st
 |_,_,_,_=>none
end
open Go.Al
section
variable{U:TyU}{C:Cod U}{P:di}{Tb:dg->TD U}{R:Type}{r:R}
def zPZ{X:Cx}{Q:dA->Env->S->Prop}{c:dE}{α:Type}(I:α->Env->S->Prop)(μ:α->Nat){x₀:α}{E p:Env}{s q:S}(v:I x₀ p q)(y:Gst X E s p q)
 (d:∀x E s,I x E s->awp P X c (zC2 (λz s'=>∃t m o,I t m o/\μ t<μ x/\Gst X z s' m o) Q) E s):awp P X (.loop c) Q E s:=by
 refine zNT y ?_;intro g a w A;refine wpIn_loop_ghost (λn D w'=>∃x E s g',μ x=n/\I x E s/\dB X.B g w g' w'/\Rel X g' E s D w') (μ x₀) ⟨x₀,p,q,g,rfl,v,.refl _ _ _,A⟩ ?_;rintro n F G ⟨x,H,J,K,rfl,L,e,M⟩;refine wpIn_mono (d x H J L K F G M) ?_;rintro N O T ⟨f,k,b,h,i,j⟩;cases N with
 |normal=>
  obtain⟨u,m,o,V,W,Y⟩:=j;obtain⟨Z,r4,r5⟩:=Y f O T i;exact⟨μ u,W,u,m,o,Z,rfl,V,(e.trans h).trans r4,r5⟩
 |exit id=>exact⟨f,k,b,e.trans h,i,j⟩
 |goto l=>exact⟨f,k,b,e.trans h,i,j⟩
 |ret=>exact⟨f,k,b,e.trans h,i,j⟩
 |panic c=>exact⟨f,k,b,e.trans h,i,j⟩
 |outgrown=>exact⟨f,k,b,e.trans h,i,j⟩
def hasN_iff{l:db Nat}{t:Nat}:hasN l t=true↔t∈l:=by
 refine⟨zDZ,λh=>?_⟩
 induction l with
 |nil=>simp at h
 |cons k r a=>
  simp only[hasN];by_cases e:k=t
  .have:Nat.beq k t=true:=by simpa using e
   simp[this]
  .simp only[qN e,zUk];rcases zUG.1 h with h|h
   .exact absurd h.symm e
   .exact a h
def zA4:∀{a l:db Nat},zA6 a l=true->∀k∈a,k∉l
 |[],_,_,k,b=>by simp at b
 |x::r,l,h,k,b=>by
  simp only[zA6,zUE,zVU]at h;rcases zUG.1 b with rfl|b
  .intro c;have:=hasN_iff.2 c;rw[this]at h;simp at h
  .exact zA4 h.2 k b
def zEJ:∀{f v w:db Nat},zA6 f (v++w)=true->zA6 f v=true
 |[],_,_,_=>rfl
 |a::r,v,w,h=>by
  simp only[zA6,zUE,zVU]at h ⊢;refine⟨?_,zEJ h.2⟩;cases b:hasN v a with
  |false=>rfl
  |true=>
   have:=hasN_iff.2 (zUu w (hasN_iff.1 b));rw[this]at h;simp at h
def zBH:∀{a:db Nat}{e:En U},zAo a e=true->∀k∈a,eget e k≠.any
 |[],_,_,k,b=>by simp at b
 |x::r,e,h,k,b=>by
  simp only[zAo,zUE,zVU]at h;rcases zUG.1 b with rfl|b
  .intro c;rw[c]at h;simp[isAny]at h
  .exact zBH h.2 k b
def jq(ks:db Nat)(e:En U)(k:Nat):eget (ks.map λk=>(k,eget e k)) k=if k∈ks then eget e k else .any:=by
 induction ks with
 |nil=>rfl
 |cons x r b=>
  simp only[zUC,eget];by_cases a:x=k
  .subst a;have:Nat.beq x x=true:=dQ
   simp[this]
  .simp only[qN a,zUk,b,zUG];have:¬k=x:=λe=>a e.symm;simp[this]
def zPm(ks:db Nat)(E:Env)(k:Nat):(jE ks E).get k=if k∈ks then E.get k else .any:=by
 induction ks with
 |nil=>rfl
 |cons x r b=>
  simp only[jE,zUC,Env.get];by_cases a:x=k
  .subst a;simp
  .have c:¬k=x:=λe=>a e.symm;simp only[if_neg a,zUG,c,false_or];exact b
def ESim.keep{N:NM}{st:St U}{e:En U}{E:Env}(h:dG C N st e E)(ks:db Nat):dG C N st (ks.map λk=>(k,eget e k)) (jE ks E):=λk=>by
 rw[jq,zPm];split
 .exact h k
 .exact⟨.inl rfl,rfl⟩
def zEK(a b:En U)(k:Nat):eget (a++b) k=if k∈a.map (·.1)then eget a k else eget b k:=by
 induction a with
 |nil=>simp
 |cons p r d=>
  simp only[zUO,eget,zUC,zUG];by_cases c:p.1=k
  .have:Nat.beq p.1 k=true:=by simpa using c
   simp[this,c]
  .have f:¬k=p.1:=λe=>c e.symm;simp only[qN c,zUk,d,f,false_or]
def SSim.reBox{N:NM}{st:St U}{s:S}(c:dF C N st s){l:Nat}{bx:Bx U}(f:l<st.nl)(g:¬Has N st (.inr (N.bl l)))(t:Al.look s.box (N.bl l)=some (trB C N l bx))(u:wfB C N st.nl st.nx l bx) :
 dF C N ⟨(l,some bx)::st.bx,st.tg,st.nl,st.nx,st.ob⟩ s:=by
 have a:∀{j b},lk ((l,some bx)::st.bx) j=some b->(j=l/\b=bx)\/(j≠l/\lk st.bx j=some b):=λ{j b} h=>by
  rw[jB]at h;split at h
  .rename_i e;injection h with h;exact .inl ⟨e.symm,h.symm⟩
  .rename_i e;exact .inr ⟨λe'=>e e'.symm,h⟩
 have d:∀j b,lk st.bx j=some b->N.bl j≠N.bl l:=λj b h e=>g ⟨j,b,h,e⟩;refine⟨λj b h=>?_,λj b h=>?_,λj b h=>?_,λj k b m v w i=>?_,c.tgIn,c.tgInj,c.tgLt,c.nm,c.ob⟩
 .rcases a h with⟨rfl,rfl⟩|⟨_,h⟩
  .exact t
  .exact c.box j b h
 .rcases a h with⟨rfl,rfl⟩|⟨_,h⟩
  .exact f
  .exact c.lt j b h
 .rcases a h with⟨rfl,rfl⟩|⟨_,h⟩
  .exact u
  .exact c.wf j b h
 .rcases a v with⟨n,x⟩|⟨_,o⟩<;>rcases a w with⟨p,y⟩|⟨_,q⟩
  .rw[n,p]
  .subst n;exact absurd i.symm (d k m q)
  .subst p;exact absurd i (d j b o)
  .exact c.inj j k b m o q i
def zPN{N:NM}{st:St U}{l:Nat}{bx:Bx U}{y:Res}(h:Has N ⟨(l,some bx)::st.bx,st.tg,st.nl,st.nx,st.ob⟩ y):y=.inr (N.bl l)\/Has N st y:=by
 cases y with
 |inl n=>exact .inr h
 |ob b=>exact .inr h
 |inr b=>
  obtain⟨j,x,d,c⟩:=h;have a:lk ((l,some bx)::st.bx) j=some x:=d;rw[jB]at a;split at a
  .rename_i e;subst e;exact .inl (by rw[c])
  .exact .inr ⟨j,x,a,c⟩
def zNf(I:CodOk C){r:R}:∀(k:SK U)(x:denK k)(t:T U){N:NM}{st:St U}{s:S}{rs:db Res}{K:St U->da R},dF C N st s->VK C s k x (trT C N t) rs->rs.Nodup->(∀y∈rs,¬Has N st y)->bdd st.nl st.nx t=true->putB C k x t st K=some r ->
 ∃N' i,K i=some r/\Turn N st N' i/\dF C N' i s/\(∀y,Has N' i y->Has N st y\/y∈rs)
 |.box cs,x,t,N,st,s,rs,K,d,a,e,c,f,h=>by
  simp only[putB]at h;cases t with
  |ptr l o=>
   simp only at h;simp only[VK]at a;obtain⟨b,vs,J,g,L,M,rfl⟩:=a;obtain⟨v,w⟩:=zUm.1 e;obtain⟨D,vs',O,Q,m,V,E,W,F⟩:=zAF I cs x d M w (λy z=>c y (by simp[z])) h;obtain⟨G,n⟩:=zP Q;rw[jF]at n;simp only[zUE]at G;obtain⟨⟨A,X⟩,B⟩:=G;have p:=xc B;simp only[trT]at g;injection g with g
   injection g with g
   injection g with g
   injection g with Y _ _
   have j:D.bl l=b:=(m.ext.bl l p).trans Y;have u:vs'.length=vs.length:=by have:=zU1 List.length E;simpa using this
   refine⟨D,_,n,⟨m.ext,m.nl,m.nx⟩,V.reBox (zUo p m.nl) (λH=>?_) (by rw[j];simp only[trB];rw[E,u];exact L) ⟨W,A⟩,λy z=>?_⟩
   .rw[j]at H;rcases F _ H with q|q
    .exact c _ dQ q
    .exact v q
   .rcases zPN z with q|q
    .rw[j]at q;exact .inr (by rw[q];simp)
    .rcases F _ q with q|q
     .exact .inl q
     .exact .inr eO
  |_=>simp at h
 |.int _,x,t,N,st,s,rs,K,d,a,e,c,f,h=>by simp[putB]at h
 |.bool,x,t,N,st,s,rs,K,d,a,e,c,f,h=>by simp[putB]at h
 |.str,x,t,N,st,s,rs,K,d,a,e,c,f,h=>by simp[putB]at h
 |.dl _,x,t,N,st,s,rs,K,d,a,e,c,f,h=>by simp[putB]at h
 |.bl _,x,t,N,st,s,rs,K,d,a,e,c,f,h=>by simp[putB]at h
 |.ow _ _,x,t,N,st,s,rs,K,d,a,e,c,f,h=>by simp[putB]at h
 |.arr _,x,t,N,st,s,rs,K,d,a,e,c,f,h=>by simp[putB]at h
 |.st _,x,t,N,st,s,rs,K,d,a,e,c,f,h=>by simp[putB]at h
 |.scs,x,t,N,st,s,rs,K,d,a,e,c,f,h=>by simp[putB]at h
 |.mpo,x,t,N,st,s,rs,K,d,a,e,c,f,h=>by simp[putB]at h
 |.jm,x,t,N,st,s,rs,K,d,a,e,c,f,h=>by simp[putB]at h
 |.mpj,x,t,N,st,s,rs,K,d,a,e,c,f,h=>by simp[putB]at h
 |.mp1,x,t,N,st,s,rs,K,d,a,e,c,f,h=>by simp[putB]at h
 |.ar1 _,x,t,N,st,s,rs,K,d,a,e,c,f,h=>by simp[putB]at h
 |.lv1,x,t,N,st,s,rs,K,d,a,e,c,f,h=>by simp[putB]at h
 |.lvs,x,t,N,st,s,rs,K,d,a,e,c,f,h=>by simp[putB]at h
 |.lvj,x,t,N,st,s,rs,K,d,a,e,c,f,h=>by simp[putB]at h
 |.jp,x,t,N,st,s,rs,K,d,a,e,c,f,h=>by simp[putB]at h
 |.np,x,t,N,st,s,rs,K,d,a,e,c,f,h=>by simp[putB]at h
 |.ag _,x,t,N,st,s,rs,K,d,a,e,c,f,h=>by simp[putB]at h
def zLX(w:CodOk C){r:R}:∀(l:db (SK U))(x:zA l)(a:db (T U)){N:NM}{st:St U}{s:S}{rs:db Res}{K:St U->da R},dF C N st s->VKs C s l x (a.map (trT C N)) rs->rs.Nodup->(∀y∈rs,¬Has N st y)->bdds st.nl st.nx a=true->zHr C l x a st K=some r ->
 ∃N' b,K b=some r/\Turn N st N' b/\dF C N' b s/\(∀y,Has N' b y->Has N st y\/y∈rs)
 |[],x,a,N,st,s,rs,K,g,i,z,j,d,h=>by
  cases a with
  |nil=>exact⟨N,st,h,.refl _ _,g,λy c=>.inl c⟩
  |cons t a=>cases h
 |k::e,x,a,N,st,s,rs,K,g,i,z,j,d,h=>by
  cases a with
  |nil=>cases h
  |cons t a=>
   simp only[zHr]at h;simp only[VKs,zUC]at i;obtain⟨v,vs',Z,r2,B,rfl,D,E⟩:=i;injection B with F G
   subst F;simp only[bdds,zUE]at d;obtain⟨m,n,o⟩:=zUe.1 z;obtain⟨H,I,J,f,L,A⟩:=zNf w k x.1 t g D m (λy c=>j y eP) d.1 h;have M:a.map (trT C H)=a.map (trT C N):=qe f.ext d.2;obtain⟨O,p,Q,V,W,X⟩:=zLX w e x.2 a L (by rw[M,G];exact E) n (λy c Y=>by
    rcases A y Y with q|q
    .exact j y eP q
    .exact o y q y c rfl) (qZ f.nl f.nx _ d.2) J
   refine⟨O,p,Q,f.trans V,W,λy c=>?_⟩;rcases X y c with q|q
   .rcases A y q with u|u
    .exact .inl u
    .exact .inr (by simp[u])
   .exact .inr eO
def zLh{nl nx:Nat}:∀{vs:db (T U)},bdds nl nx vs=true->∀v∈vs,bdd nl nx v=true
 |[],_,v,a=>by simp at a
 |x::r,h,v,a=>by
  simp only[bdds,zUE]at h;rcases zUG.1 a with rfl|a
  .exact h.1
  .exact zLh h.2 v a
def szOk(C:Cod U)(N:NM):SK U->T U->Prop
 |.arr i,.sl l _=>N.sz l=C.cells i
 |_,_=>True
def zRw{N N':NM}{nl nx:Nat}(h:Ext nl nx N N'):∀(k:SK U)(t:T U),bdd nl nx t=true->szOk C N' k t->szOk C N k t:=λk t b a=>by
 unfold szOk at a ⊢;split
 .simp only[bdd]at b;simp only at a;rw[<-h.sz _ (xc b)];exact a
 .trivial
def zNb{N N':NM}{nl nx:Nat}(h:Ext nl nx N N'):∀(k:SK U)(t:T U),bdd nl nx t=true->szOk C N k t->szOk C N' k t:=λk t b a=>by
 unfold szOk at a ⊢;split
 .simp only[bdd]at b;simp only at a;rw[h.sz _ (xc b)];exact a
 .trivial
def zTZ(d:CodOk C){N:NM}{st:St U}{s:S}(a:dF C N st s):∀(k:SK U)(v:T U){K:denK k->St U->da R},getK C k v st K=some r->szOk C N k v:=λk v K h=>by
 unfold szOk;split
 .simp only[getK]at h;split at h
  .rename_i b;have c:=jH h;obtain⟨rfl,_⟩:=c;exact(a.wf _ _ b).1
  .cases h
 .trivial
def zLi(f:CodOk C):∀(l:db (SK U)){N:NM}{st:St U}{s:S}{vs:db (T U)}{vs':db V}{K:zA l->St U->da R},dF C N st s->vs'.length=vs.length->(∀(j:Nat)(x:T U)(v:V),vs[j]?=some x->vs'[j]?=some v->VR C N x v)->qx C l vs st K=some r ->
 ∀(j:Nat)(k:SK U)(v:T U),l[j]?=some k->vs[j]?=some v->szOk C N k v
 |[],N,st,s,vs,vs',K,g,i,m,h,j,k,v,c,_=>by simp at c
 |k0::d,N,st,s,vs,vs',K,g,i,m,h,j,k,v,c,e=>by
  simp only[qx,jF]at h;cases vs with
  |nil=>cases h
  |cons o vs=>
   cases vs' with
   |nil=>simp at i
   |cons n vs'=>
    simp only at h;cases j with
    |zero=>
     injection c with c
     injection e with e
     subst c e;exact zTZ f g k0 o h
    |succ j=>
     obtain⟨x,p,u,q,t,w,y,z,A,B,D⟩:=zM5 f k0 g (m 0 o n rfl rfl) h;exact zLi f d (vs:=vs) (vs':=vs') t (by simpa using i) (λj x v a b=>m (j+1) x v eF eG) q j k v (by simpa using c) (by simpa using e)
def zTP(w:CodOk C){r:R}:∀(k:SK U)(x:denK k)(t:T U){N:NM}{st:St U}{s:S}{rs:db Res}{K:St U->da R},dF C N st s->VK C s k x (trT C N t) rs->rs.Nodup->(∀y∈rs,¬Has N st y)->bdd st.nl st.nx t=true->szOk C N k t->putP C k x t st K=some r ->
 ∃N' g,K g=some r/\Turn N st N' g/\dF C N' g s/\(∀y,Has N' g y->Has N st y\/y∈rs)
 |.box cs,x,t,N,st,s,rs,K,a,c,e,d,f,_,h=>zNf w (.box cs) x t a c e d f h
 |.arr i,x,t,N,st,s,rs,K,a,c,e,d,f,z,h=>by
  simp only[putP]at h;cases t with
  |nil=>
   cases x with
   |none=>exact⟨N,st,h,.refl _ _,a,λy o=>.inl o⟩
   |some ys=>simp[zX]at h
  |sl l n=>
   cases x with
   |none=>simp[zX]at h
   |some ys=>
    simp only[zX]at h;obtain⟨A,u⟩:=zP h;rw[jF]at u;have p:=xc A;simp only[VK]at c;obtain⟨b,cap,j,B,D,rfl⟩:=c;simp only[trT]at j;injection j with j
    injection j with m F v
    injection m with m
    injection m with m _ _
    refine⟨N,_,u,⟨.refl _ _ _,zUB _,zUB _⟩,a.reBox p (λE=>d (.inr b) dQ (by rw[<-m];exact E)) (by rw[m];simp only[trB];rw[v];exact D) ⟨z,by rw[v];exact B⟩,λy o=>?_⟩;rcases zPN o with q|q
    .rw[m]at q;exact .inr (by rw[q];simp)
    .exact .inl q
  |_=>simp at h
 |.int _,x,t,N,st,s,rs,K,a,c,e,d,f,_,h=>by simp[putP]at h
 |.bool,x,t,N,st,s,rs,K,a,c,e,d,f,_,h=>by simp[putP]at h
 |.str,x,t,N,st,s,rs,K,a,c,e,d,f,_,h=>by simp[putP]at h
 |.dl _,x,t,N,st,s,rs,K,a,c,e,d,f,_,h=>by simp[putP]at h
 |.bl _,x,t,N,st,s,rs,K,a,c,e,d,f,_,h=>by simp[putP]at h
 |.ow _ _,x,t,N,st,s,rs,K,a,c,e,d,f,_,h=>by simp[putP]at h
 |.st _,x,t,N,st,s,rs,K,a,c,e,d,f,_,h=>by simp[putP]at h
 |.scs,x,t,N,st,s,rs,K,a,c,e,d,f,_,h=>by simp[putP]at h
 |.mpo,x,t,N,st,s,rs,K,a,c,e,d,f,_,h=>by simp[putP]at h
 |.jm,x,t,N,st,s,rs,K,a,c,e,d,f,_,h=>by simp[putP]at h
 |.mpj,x,t,N,st,s,rs,K,a,c,e,d,f,_,h=>by simp[putP]at h
 |.mp1,x,t,N,st,s,rs,K,a,c,e,d,f,_,h=>by simp[putP]at h
 |.ar1 _,x,t,N,st,s,rs,K,a,c,e,d,f,_,h=>by simp[putP]at h
 |.lv1,x,t,N,st,s,rs,K,a,c,e,d,f,_,h=>by simp[putP]at h
 |.lvs,x,t,N,st,s,rs,K,a,c,e,d,f,_,h=>by simp[putP]at h
 |.lvj,x,t,N,st,s,rs,K,a,c,e,d,f,_,h=>by simp[putP]at h
 |.jp,x,t,N,st,s,rs,K,a,c,e,d,f,_,h=>by simp[putP]at h
 |.np,x,t,N,st,s,rs,K,a,c,e,d,f,_,h=>by simp[putP]at h
 |.ag _,x,t,N,st,s,rs,K,a,c,e,d,f,_,h=>by simp[putP]at h
def zKo(B:CodOk C){r:R}:∀(l:db (SK U))(x:zA l)(a:db (T U)){N:NM}{st:St U}{s:S}{rs:db Res}{K:St U->da R},dF C N st s->VKs C s l x (a.map (trT C N)) rs->rs.Nodup->(∀y∈rs,¬Has N st y)->bdds st.nl st.nx a=true->(∀(j:Nat)(k:SK U)(v:T U),l[j]?=some k->a[j]?=some v->szOk C N k v)->zKZ C l x a st K=some r ->
 ∃N' b,K b=some r/\Turn N st N' b/\dF C N' b s/\(∀y,Has N' b y->Has N st y\/y∈rs)
 |[],x,a,N,st,s,rs,K,i,m,D,n,d,_,h=>by
  cases a with
  |nil=>exact⟨N,st,h,.refl _ _,i,λy c=>.inl c⟩
  |cons t a=>cases h
 |k::e,x,a,N,st,s,rs,K,i,m,D,n,d,E,h=>by
  cases a with
  |nil=>cases h
  |cons t a=>
   simp only[zKZ]at h;simp only[VKs,zUC]at m;obtain⟨v,vs',r1,r2,G,rfl,H,I⟩:=m;injection G with J L
   subst J;simp only[bdds,zUE]at d;obtain⟨o,p,u⟩:=zUe.1 D;obtain⟨M,O,Q,f,V,F⟩:=zTP B k x.1 t i H o (λy c=>n y eP) d.1 (E 0 k t rfl rfl) h;have W:a.map (trT C M)=a.map (trT C N):=qe f.ext d.2;obtain⟨X,w,Y,Z,q5,q6⟩:=zKo B e x.2 a V (by rw[W,L];exact I) p (λy c hh=>by
    rcases F y hh with q|q
    .exact n y eP q
    .exact u y q y c rfl) (qZ f.nl f.nx _ d.2) (λj k' v' hk g=>by
     have z:bdd st.nl st.nx v'=true:=zLh d.2 v' (zVe g);exact zNb f.ext _ _ z (E (j+1) k' v' (by simpa using hk) (by simpa using g))) Q
   refine⟨X,w,Y,f.trans Z,q5,λy c=>?_⟩;rcases q6 y c with q|q
   .rcases F y q with A|A
    .exact .inl A
    .exact .inr (by simp[A])
   .exact .inr eO
def zCd(d:CodOk C):∀(ks:db (SK U))(g:db (T U)){N:NM}{st:St U}{s:S}{K:St U->da R},dF C N st s->zDg ks g st K=some r ->
 ∃N' b s',K b=some r/\Gs s s'/\Turn N st N' b/\dF C N' b s'
 |[],g,N,st,s,K,f,h=>⟨N,st,s,h,.refl _,.refl _ _,f⟩
 |k::a,g,N,st,s,K,f,h=>by
  simp only[zDg]at h;split at h
  .cases h
  .split at h
   .split at h
    .simp only[jF]at h;obtain⟨I,p,q,t,u,v,w,_⟩:=zAg (e:=[]) (E:=[]) d _ 0 f (λk=>⟨.inl rfl,rfl⟩) h;obtain⟨i,c,j,m,o,x,y⟩:=zCd d a _ w t;exact⟨i,c,j,m,u.trans o,v.trans x,y⟩
    .cases h
   .split at h
    .exact zCd d a _ f h
    .rename_i l n;split at h
     .rename_i z xs A;rw[jF]at h;obtain⟨q,m,o⟩:=zHT d f (n:=n) A;have B:Turn N st N ⟨(l,some (.ar z (qq n xs)))::st.bx,st.tg,st.nl,st.nx,st.ob⟩:=⟨.refl _ _ _,zUB _,zUB _⟩;obtain⟨i,c,j,D,F,G,H⟩:=zCd d a _ o h;exact⟨i,c,j,D,m.trans F,B.trans G,H⟩
     .cases h
    .cases h
   .cases h
def zOG{a b:db Nat}(h:zKL a b=true):∀k∈a,k∈b:=λk c=>zDZ (zUb.1 h k c)
def HI(C:Cod U)(N0:NM)(h:Head U)(a:En U)(x:zA (xJ h.vars)×zA (xJ h.ptrs))(E:Env)(s:S):Prop:=
 (∃b c,VKs C s (xJ h.vars) x.1 (h.vars.map λp=>E.get p.1) b/\VKs C s (xJ h.ptrs) x.2 (h.ptrs.map λp=>E.get p.1) c/\(b++c).Nodup)/\(∀k∈h.fixed,E.get k=trT C N0 (eget a k))/\∀p∈h.ptrs,szOk C N0 p.2 (eget a p.1)
def kK:∀(a:db (Nat×SK U))(e:En U),kE a e=a.map λp=>eget e p.1
 |[],_=>rfl
 |p::r,e=>by simp[kE,kK r]
def zFw:∀(a:db (Nat×SK U)),xJ a=a.map λp=>p.2
 |[]=>rfl
 |p::r=>by simp[xJ,zFw r]
def zHa{N:NM}{st:St U}{e:En U}{E:Env}(f:dG C N st e E)(c:db (Nat×SK U)):∀(i:Nat)(x:T U)(v:V),(kE c e)[i]?=some x->(c.map λp=>E.get p.1)[i]?=some v->VR C N x v:=λi x v a b=>by
 rw[kK,zUy]at a;rw[zUy]at b;cases d:c[i]? with
 |none=>rw[d]at a;cases a
 |some p=>
  rw[d]at a b;injection a with a
  injection b with b
  subst a;subst b;exact(f p.1).1
def zHb(g:CodOk C){X:Cx}{N0 N:NM}{st0 st:St U}{e0 e:En U}{E:Env}{s:S}{h:Head U}(z:Turn N0 st0 N st)(O:dF C N st s)(Q:dG C N st e E)
 (n:∀k∈h.fixed,bdd st0.nl st0.nx (eget e0 k)=true) (t:∀k∈h.fixed,eget e k≠.any) (i:∀k∈h.fixed,eget e k=eget e0 k) (l:zA6 h.fixed (h.vars.map (·.1))=true) {j:zA (xJ h.vars)×zA (xJ h.ptrs)->da R}
 (A:zEY C h e st j=some r) :
 ∃x B D,j x=some r/\Gst X E s B D/\HI C N0 h (h.fixed.map λk=>(k,eget e0 k)) x B D:=by
 unfold zEY at A;obtain⟨N1,f,T,o,s1,F,V,G,W,Y,H⟩:=zA5 (X:=X) g h.vars O Q A;simp only[zDM,jF]at F;obtain⟨Z,I,u,n1,n2,v,n4⟩:=zCd g _ _ W F;have c:=Y.turn v;obtain⟨x,aa,r1,J,K,p3,p4,p5,p6,p7,p8⟩:=kV g (xJ h.vars) (vs:=kE h.vars f) (vs':=h.vars.map λp=>o.get p.1) n4 (by simp[kK]) (zHa c _) n1;obtain⟨y,ab,r2,k1,k2,k3,k4,k5,k6,k7,k8⟩:=kV g (xJ h.ptrs) (vs:=kE h.ptrs f) (vs':=h.ptrs.map λp=>o.get p.1) K (by simp[kK]) (zHa c _) J;have w:=zLi g (xJ h.ptrs) (vs:=kE h.ptrs f) (vs':=h.ptrs.map λp=>o.get p.1) K (by simp[kK]) (zHa c _) J;refine⟨(x,y),o,u,k1,V.trans n2.gst,⟨r1,r2,p5,k5,zUe.2 ⟨p6,k6,λa ha b n e=>by subst e;exact(p7 a ha).2 (k7 a n).1⟩⟩,λk d=>?_,λp m=>?_⟩
 rotate_left
 .rw[jq];split
  .rename_i d;have q:eget f p.1=eget e p.1:=H p.1 λp' m e'=>zA4 l p.1 d (zVA.2 ⟨p',m,e'⟩);obtain⟨j,L⟩:=List.getElem?_of_mem m;have M:=w j p.2 (eget f p.1) (by rw[zFw,zUy,L];rfl) (by rw[kK,zUy,L];rfl);rw[q,i p.1 d]at M;exact zRw (z.trans (G.trans v)).ext _ _ (n p.1 d) M
  .unfold szOk;split
   .rename_i h;cases h
   .trivial
 have q:eget f k=eget e k:=H k λp m e'=>zA4 l k d (zVA.2 ⟨p,m,e'⟩);rw[jq,if_pos d,<-zC8 C ((z.trans (G.trans v)).ext) _ (n k d),<-i k d,<-q];exact(c k).1.get (by rw[q];exact t k d)
def zNF{N:NM}{E:Env}:∀{a:db (Nat×SK U)}{vs:db (T U)},vs.map (trT C N)=a.map (λp=>E.get p.1)->∀k,VR C N (eget (zipV a vs) k) (E.get k)
 |[],vs,h,k=>by cases vs<;>exact .inl rfl
 |p::b,[],h,k=>.inl rfl
 |p::b,v::vs,h,k=>by
  simp only[zUC,zVq]at h;simp only[zipV,eget];by_cases c:p.1=k
  .have:Nat.beq p.1 k=true:=by simpa using c
   simp only[this,zUi];exact .inr (by rw[<-c,h.1])
  .simp only[qN c,zUk];exact zNF h.2 k
def zKr{nl nx:Nat}:∀{a:db (Nat×SK U)}{vs:db (T U)},bdds nl nx vs=true->∀k,bdd nl nx (eget (zipV a vs) k)=true
 |[],vs,h,k=>by cases vs<;>rfl
 |p::b,[],h,k=>rfl
 |p::b,v::vs,h,k=>by
  simp only[bdds,zUE]at h;simp only[zipV,eget];by_cases c:p.1=k
  .have:Nat.beq p.1 k=true:=by simpa using c
   simp only[this,zUi];exact h.1
  .simp only[qN c,zUk];exact zKr h.2 k
def SSim.empty(N:NM)(nl nx:Nat)(s:S):dF C N (⟨[],[],nl,nx,[]⟩:St U) s:=
 ⟨λl b h=>by simp[lk]at h,λl b h=>by simp[lk]at h,λl b h=>by simp[lk]at h,λl a b c h=>by simp[lk]at h,λt h=>by simp at h,λt h=>by simp at h,λt h=>by simp at h,λt h=>by simp at h,⟨λl o h=>by simp[lko]at h,λl o h=>by simp[lko]at h,λl o h=>by simp[lko]at h,λl a o o' h=>by simp[lko]at h⟩⟩
def zLT(W:CodOk C){N0:NM}{st0:St U}{e0:En U}{E:Env}{s:S}{h:Head U}{x:zA (xJ h.vars)×zA (xJ h.ptrs)}(hi:HI C N0 h (h.fixed.map λk=>(k,eget e0 k)) x E s)
 (G:∀k∈h.fixed,bdd st0.nl st0.nx (eget e0 k)=true) (z:zKL (h.ptrs.map (·.1)) h.fixed=true) {K:db (T U)->St U->da R} (f:zFv C h x e0 st0 K=some r) :
 ∃N vs st,K vs st=some r/\Turn N0 st0 N st/\dF C N st s/\dG C N st ((h.fixed.map λk=>(k,eget e0 k))++zipV h.vars vs) E:=by
 obtain⟨⟨r1,r2,h1,J,h2⟩,X,H⟩:=hi;obtain⟨L,M,O⟩:=zUe.1 h2;unfold zFv at f;have A:∀y,¬Has N0 (⟨[],[],st0.nl,st0.nx,[]⟩:St U) y:=λy f=>by
  cases y with
  |inl n=>obtain⟨t,u,_⟩:=f;simp at u
  |inr b=>obtain⟨l,b,w,_⟩:=f;simp[lk]at w
  |ob b=>obtain⟨l,b,w,_⟩:=f;simp[lko]at w
 obtain⟨Y,vs,i,Z,m,q3,q4,q5,q6⟩:=zAF W (xJ h.vars) x.1 (SSim.empty N0 st0.nl st0.nx s) h1 L (λy hy f=>A y f) f;simp only[zDM,jF]at Z;have e:∀p∈h.ptrs,p.1∈h.fixed:=λp c=>zOG z _ (zVA.2 ⟨p,c,rfl⟩);have B:bdds st0.nl st0.nx (kE h.ptrs e0)=true:=by
  rw[kK];have Q:∀l:db (Nat×SK U),(∀p∈l,bdd st0.nl st0.nx (eget e0 p.1)=true)->bdds st0.nl st0.nx (l.map λp=>eget e0 p.1)=true:=λl=>by
   induction l with
   |nil=>intro _;rfl
   |cons a l ih=>intro w;simp only[zUC,bdds,w a dQ,ih λp z=>w p (by simp[z]),zUP]
  exact Q _ λp c=>G _ (e p c)
 have D:bdds i.nl i.nx (kE h.ptrs e0)=true:=qZ m.nl m.nx _ B;have ev:(kE h.ptrs e0).map (trT C Y)=h.ptrs.map λp=>E.get p.1:=by
  rw[qe m.ext B,kK,zVr];exact zVQ λp c=>by
   have:=X p.1 (e p c);rw[jq,if_pos (e p c)]at this;exact this.symm
 obtain⟨N,st,p1,I,p3,p4⟩:=zKo W (xJ h.ptrs) x.2 (kE h.ptrs e0) q3 (by rw[ev];exact J) M (λy hy f=>by
  rcases q6 y f with q|q
  .exact A y q
  .exact O y q y hy rfl) D (λj k v g F=>by
   rw[zFw,zUy]at g;rw[kK,zUy]at F;cases o:h.ptrs[j]? with
   |none=>rw[o]at g;cases g
   |some p=>
    rw[o]at g F;injection g with g
    injection F with F
    subst g F;have V:=zVe o;have h5:=H p V;rw[jq,if_pos (e p V)]at h5;exact zNb m.ext _ _ (G _ (e p V)) h5) Z
 have u:Turn N0 st0 N st:=(⟨m.ext,m.nl,m.nx⟩:Turn N0 st0 Y i).trans I;refine⟨N,vs,st,p1,u,p3,λk=>?_⟩;rw[zEK];split
 .rename_i g;have d:k∈h.fixed:=by
   obtain⟨p,z,rfl⟩:=zVA.1 g;obtain⟨k',d,rfl⟩:=zVA.1 z;exact d
  have H:=X k d;rw[jq,if_pos d]at H ⊢;exact⟨.inr (by rw[H,zC8 C u.ext _ (G k d)]),zCG u.nl u.nx _ (G k d)⟩
 .exact⟨zNF (by rw[qe I.ext q5];exact q4) k,zKr (qZ I.nl I.nx _ q5) k⟩
def Fr(ds:db Nat)(e e':En U):Prop:=∀j,j∉ds->eget e' j=eget e j\/eget e' j=.any
def Fr.refl(ds:db Nat)(e:En U):Fr ds e e:=λ_ _=>.inl rfl
def Fr.trans{ds:db Nat}{e a b:En U}(h:Fr ds e a)(d:Fr ds a b):Fr ds e b:=λj c=>by
 rcases d j c with q|q
 .rw[q];exact h j c
 .exact .inr q
def Fr.mono{ds a:db Nat}{e e':En U}(h:Fr ds e e')(b:∀j∈ds,j∈a):Fr a e e':=λj c=>h j λd=>c (b j d)
def jY(pf rf:dt->dd)(fi:FI U)(n:NF):dE->dd
 |.region id ops d=>zDO n ops.toList&&(!d||(Region.lexB .any ops&&zFp ⟨pf,fi.wr,fi.own,rf,(fi.kl id).map λp=>(p.1,p.2.1),λ_=>[]⟩ ops.toList))
 |.seq a b=>jY pf rf fi n a&&jY pf rf fi n b
 |.cond _ a b=>jY pf rf fi n a&&jY pf rf fi n b
 |.block _ b=>jY pf rf fi n b
 |.loop b=>jY pf rf fi n b
 |.scope b=>jY pf rf fi n b
 |_=>true
def zNV{N:NM}{st:St U}{e:En U}{E:Env}(i:dG C N st e E):∀(l:db (Nat×Nat×Nat)){K:KD->da R},kdOf l e K=some r->∃kd,K kd=some r/\(∀p∈l,∃q,(p.1,p.2.1,q)∈kd)/\∀d u q,(d,u,q)∈kd->q<st.nl
 |[],K,h=>⟨[],h,λp j=>(by cases j),λd u q b=>(by cases b)⟩
 |p::l,K,h=>by
  simp only[kdOf]at h;split at h
  .rename_i q o k;obtain⟨kd,m,n,s⟩:=zNV i l h;refine⟨_,m,λt a=>?_,λd u f b=>?_⟩
   .rcases zUG.1 a with rfl|a
    .exact⟨q,zUz ..⟩
    .obtain⟨f,g⟩:=n t a;exact⟨f,zUW _ g⟩
   .rcases zUG.1 b with c|b
    .injection c with _ c
     injection c with _ c
     subst c;have:=(i p.2.2).2;rw[k]at this;exact xc this
    .exact s d u f b
  .cases h
def zM1{h:Head U}{e0:En U}{vs:db (T U)}{k:Nat}(c:k∉h.vars.map (·.1)):eget ((h.fixed.map λk=>(k,eget e0 k))++zipV h.vars vs) k=eget e0 k\/eget ((h.fixed.map λk=>(k,eget e0 k))++zipV h.vars vs) k=.any:=by
 rw[zEK];split
 .rename_i f;have b:k∈h.fixed:=by
   obtain⟨p,g,rfl⟩:=zVA.1 f;obtain⟨j,b,rfl⟩:=zVA.1 g;exact b
  rw[jq,if_pos b];exact .inl rfl
 .right;have:∀(a:db (Nat×SK U))(vs:db (T U)),k∉a.map (·.1)->eget (zipV a vs) k=.any:=λa=>by
   induction a with
   |nil=>intro vs _;cases vs<;>rfl
   |cons p d i=>
    intro vs c;simp only[zUC,zUG,not_or]at c;cases vs with
    |nil=>rfl
    |cons v vs=>
     simp only[zipV,eget,qN (λe=>c.1 e.symm),zUk];exact i vs c.2
  exact this _ _ c
def zND{N:NM}{st:St U}{e:En U}{E:Env}(a:dG C N st e E){c:dq}{t:dd}(i:evT e c=.bool t):dG C N st (told e c t) E/\∀j,eget (told e c t) j=eget e j:=by
 cases c with
 |tmp d=>
  have h:∀j,eget (told e (.tmp d) t) j=eget e j:=λj=>by
   simp only[told,eput,eget];by_cases b:d=j
   .subst b;have:Nat.beq d d=true:=dQ
    simp only[this,zUi];exact i.symm
   .simp only[qN b,zUk]
  exact⟨λj=>by rw[h j];exact a j,h⟩
 |const v=>exact⟨a,λ_=>rfl⟩
 |global g=>exact⟨a,λ_=>rfl⟩
 |func f=>exact⟨a,λ_=>rfl⟩
def kF(hT:TbOk C P Tb)(J:CodOk C)(I:P.follows .mixedOrders=true){X:Cx}{pf rf:dt->dd}{fi:FI U}{O:Call U R}{PP:db dj->Prop}(f:∀kl kb,zEo C P ⟨pf,fi.wr,fi.own,rf,kl,kb⟩ O r PP){fu:Nat} :
 ∀(c:dE){N:NM}{e:En U}{st:St U}{E:Env}{s:S}{k:dA->En U->St U->da R}{Q:dA->Env->S->Prop},dF C N st s->dG C N st e E->drun C Tb fu O fi c e st k=some r->jY pf rf fi X.N c=true->je fi c=true->(∀c s,PP c->Q (.panic c) [] s) ->
  (∀ex N' e' l K s',k ex e' l=some r->Turn N st N' l->dF C N' l s'->dG C N' l e' K->Fr (dsts fi c) e e'->Q ex K s')->awp P X c Q E s
 |.skip,N,e,st,E,s,k,Q,w,o,h,_,_,_,v=>zAE (v _ _ _ _ _ _ h (.refl _ _) w o (.refl _ _))
 |.exit id,N,e,st,E,s,k,Q,w,o,h,_,_,_,v=>zBM (v _ _ _ _ _ _ h (.refl _ _) w o (.refl _ _))
 |.ret,N,e,st,E,s,k,Q,w,o,h,_,_,_,v=>zIu (v _ _ _ _ _ _ h (.refl _ _) w o (.refl _ _))
 |.region id ops d,N,e,st,E,s,k,Q,w,o,h,g,_,m,v=>by
  simp only[drun]at h;simp only[jY,zUE]at g;obtain⟨ops⟩:=ops;have ag:∀(kd:KD) kl kb,dops C Tb O fi.wr fi.own kd (ops.map (·.dst)) ops e st (λe' l=>zFe (fi.kf id) e' λe''=>k .normal e'' l)=some r->(∀d u q,(d,u,q)∈kd->q<st.nl)->(∀p∈kl,∃q,(p.1,p.2,q)∈kd)->(∀d b,b∈kb d↔∃u q,(d,u,q)∈kd/\N.bl q=b)->AL P ⟨pf,fi.wr,fi.own,rf,kl,kb⟩ (ops.map (·.dst)) (λc s=>Q (.panic c) [] s) ops (λK s'=>Q .normal (jE (fi.kf id) K) s') E s:=λkd kl kb h0 ad z G=>by
   refine zM8 (L:=⟨pf,fi.wr,fi.own,rf,kl,kb⟩) hT J (f kl kb) m w o ⟨z,λd b hb=>(G d b).1 hb,λd u q I=>⟨(G d _).2 ⟨u,q,I,rfl⟩,ad d u q I⟩⟩ h0 ?_;intro N' e' l K s' A h2 V H h5;simp only[zFF]at A;refine v _ _ _ _ _ _ A h2 V (H.keep _) λj B=>?_;rw[jq];split
   .exact .inl (h5 j B)
   .exact .inr rfl
  cases d with
  |false=>
   exact zf ⟨pf,fi.wr,fi.own,rf,[],λ_=>[]⟩ fi.kf _ rfl g.1 (ag [] [] (λ_=>[]) h (λd u q I=>by cases I) (λp D=>by cases D) (λd b=>⟨λhb=>(by cases hb),λ⟨u,q,I,_⟩=>(by cases I)⟩))
  |true=>
   obtain⟨kd,h0,an,ad⟩:=zNV o _ h;have h2:=g.2;simp only[zV7,zWg,zUE]at h2;have ah:∀p∈(fi.kl id).map (λp=>(p.1,p.2.1)),∃q,(p.1,p.2,q)∈kd:=λp D=>by
    obtain⟨p',ao,rfl⟩:=zVA.1 D;exact an p' ao
   have ai:=h2.2;generalize(fi.kl id).map (λp=>(p.1,p.2.1))=klp at ah ai;obtain⟨W,ap⟩:∃W:Nat->db Nat,∀d b,b∈W d↔∃u q,(d,u,q)∈kd/\N.bl q=b:=by
    refine⟨λd=>kd.filterMap λp=>if p.1=d then some (N.bl p.2.2)else none,λd b=>?_⟩;show b∈(kd.filterMap λp=>if p.1=d then some (N.bl p.2.2)else none)↔_;rw[zV8];constructor
    .rintro⟨⟨d',u,q⟩,V,H⟩;simp only at H;split at H
     .rename_i e1;subst e1;injection H with H;exact⟨u,q,V,H⟩
     .cases H
    .rintro⟨u,q,V,H⟩;exact⟨_,V,by simp[H]⟩
   have aq:zFp ⟨pf,fi.wr,fi.own,rf,klp,W⟩ ops=true:=ai;exact zZ ⟨pf,fi.wr,fi.own,rf,klp,W⟩ I fi.kf _ rfl g.1 h2.1 aq (ag kd klp W h0 ad ah ap)
 |.seq a b,N,e,st,E,s,k,Q,w,o,h,g,i,m,v=>by
  simp only[drun]at h;simp only[jY,zUE]at g;simp only[je,zUE]at i;refine zh ?_;split at h
  .rename_i B;refine kF hT J I f a w o h g.1 i.2.1 (λc s D=>m c s D) ?_;intro ex N' e' l K s' A h2 V H h5;have aj:Fr (dsts fi (.seq a b)) e e':=h5.mono λj B=>by simp only[dsts];simp[B]
   cases ex<;>simp only at A<;>first|exact v _ _ _ _ _ _ A h2 V H aj|skip
   show awp P X b Q K s';refine kF hT J I f b V H A g.2 i.2.2 (λc s D=>m c s D) ?_;intro ex N2 e2 ac E2 s2 z G M Y Z;exact v _ _ _ _ _ _ z (h2.trans G) M Y (aj.trans (Z.mono λj B=>by simp only[dsts];simp[B]))
  .rename_i y B;have A:=i.1;rw[B]at A;simp only[zUE]at A;obtain⟨A,ae⟩:=A;rw[zFF]at h;obtain⟨V,H⟩:=zP h;clear h;unfold zg at H;have af:=zA4 A;have T:∀k∈y.fixed,bdd st.nl st.nx (eget e k)=true:=λk _=>(o k).2;refine kF hT J I f a w o H g.1 i.2.1 (λc s D=>m c s D) ?_;intro ex N' e' l K s' h5 h6 h7 h8 h9;have ar:Fr (dsts fi (.seq a b)) e e':=h9.mono λj B=>by simp only[dsts];simp[B]
   cases ex<;>simp only at h5<;>first|exact v _ _ _ _ _ _ h5 h6 h7 h8 ar|skip
   show awp P X b Q K s';obtain⟨au,av⟩:=zP h5;have aa:=zBH au;obtain⟨x,E2,s2,z,G,M⟩:=zHb (X:=X) (N0:=N) (st0:=st) (e0:=e) (h:=y) J h6 h7 h8 T aa (λk hk=>by
    rcases h9 k (λhh=>af k hk (by simp[hh]))with q|q
    .exact q
    .exact absurd q (aa k hk)) (zEJ A) av
   refine zNT G ?_;obtain⟨N2,vs,ac,p1,p2,p3,p4⟩:=zLT J M T ae z;rw[zLR]at p1;refine kF hT J I f b p3 p4 p1 g.2 i.2.2 (λc s D=>m c s D) ?_;intro ex N3 e3 aw E3 s3 r1 r2 r3 r4 r5;refine v _ _ _ _ _ _ r1 (p2.trans r2) r3 r4 λj ab=>?_;have hv:j∉y.vars.map (·.1):=λhh=>ab (by simp only[dsts,B];simp only[zUa];exact .inr (.inl hh));rcases r5 j (λhh=>ab (by simp only[dsts];simp[hh]))with q|q
   .rw[q];exact zM1 hv
   .exact .inr q
 |.cond c a b,N,e,st,E,s,k,Q,w,o,h,g,i,m,v=>by
  simp only[drun]at h;simp only[jY,zUE]at g;simp only[je,zUE]at i;split at h
  .rename_i t ht;have A:=o.ev c;rw[ht]at A;refine x8 (A.get dQ) (λe1=>?_) (λe1=>?_)
   .subst e1;obtain⟨t1,t2⟩:=zND o ht;exact kF hT J I f a w t1 h g.1 i.1 (λc s D=>m c s D) λex N' e' l K s' z G M Y Z=>v _ _ _ _ _ _ z G M Y λj B=>by
     rw[<-t2 j];exact(Z.mono λj B=>by simp only[dsts];simp[B]) j B
   .subst e1;obtain⟨t1,t2⟩:=zND o ht;exact kF hT J I f b w t1 h g.2 i.2 (λc s D=>m c s D) λex N' e' l K s' z G M Y Z=>v _ _ _ _ _ _ z G M Y λj B=>by
     rw[<-t2 j];exact(Z.mono λj B=>by simp only[dsts];simp[B]) j B
  .cases h
 |.block id b,N,e,st,E,s,k,Q,w,o,h,g,i,m,v=>by
  simp only[drun]at h;refine zT (kF hT J I f b w o h (by simpa only[jY]using g) (by simpa only[je]using i) (λc s D=>m c s D) ?_);intro ex N' e' l K s' z G M Y Z;cases ex<;>simp only at z<;>first|exact v _ _ _ _ _ _ z G M Y Z|skip
  rename_i ak;simp only[zDo];by_cases e1:ak=id
  .have:Nat.beq ak id=true:=by simpa using e1
   rw[if_pos e1];simp only[this,zUi]at z;exact v _ _ _ _ _ _ z G M Y Z
  .rw[if_neg e1];simp only[qN e1,zUk]at z;exact v _ _ _ _ _ _ z G M Y Z
 |.loop b,N,e,st,E,s,k,Q,w,o,h,g,i,m,v=>by
  simp only[drun]at h;simp only[jY]at g;simp only[je,zUE]at i;split at h
  .cases h
  .rename_i y B;have A:=i.1;rw[B]at A;simp only[zUE]at A;obtain⟨A,ae⟩:=A;rw[zFF]at h;obtain⟨V,H⟩:=zP h;clear h;have af:=zA4 A;have T:∀k∈y.fixed,bdd st.nl st.nx (eget e k)=true:=λk _=>(o k).2;have al:∀k∈y.fixed,eget e k≠.any:=λk hk=>by
    have:=zBH V k hk
    rwa [jq,if_pos hk]at this
   have am:zA6 y.fixed (y.vars.map (·.1))=true:=zEJ A;obtain⟨x,E2,s2,z,G,M⟩:=zHb (X:=X) (N0:=N) (st0:=st) (e0:=e) (h:=y) J (.refl _ _) w o T al (λ_ _=>rfl) am H;generalize hF:(λ(rec:zA (xJ y.vars)×zA (xJ y.ptrs)->da R)(x:zA (xJ y.vars)×zA (xJ y.ptrs))=>zFv C y x e st λvs ac=>
    feE ((y.fixed.map λk=>(k,eget e k))++zipV y.vars vs) λe0=>drun C Tb fu O fi b e0 ac λex e' l=>match ex with
     |.normal=>bif zAo y.fixed e' then zEY C y e' l λx=>rec x else none
     |ex=>k ex e' l)=F at z
   refine zPZ (λ(p:Nat×(zA (xJ y.vars)×zA (xJ y.ptrs))) K s'=>HI C N y (y.fixed.map λk=>(k,eget e k)) p.2 K s'/\iter p.1 F p.2=some r) (λp=>p.1) (x₀:=(fu,x)) ⟨M,z⟩ G ?_;rintro⟨n,x1⟩ E1 s1 ⟨hi,hr⟩;simp only at hi hr;cases n with
   |zero=>simp[iter]at hr
   |succ n=>
    simp only[iter]at hr;rw[<-hF]at hr;obtain⟨N2,vs,ac,p1,p2,p3,p4⟩:=zLT J hi T ae hr;rw[zLR]at p1;refine kF hT J I f b p3 p4 p1 g i.2 (λc s D=>m c s D) ?_;intro ex N3 e3 aw E3 s3 r1 r2 r3 r4 r5;have ax:Fr (dsts fi (.loop b)) e e3:=λj ab=>by
     have hv:j∉y.vars.map (·.1):=λhh=>ab (by simp only[dsts,B];simp only[zUa];exact .inl hh);rcases r5 j (λhh=>ab (by simp only[dsts];simp[hh]))with q|q
     .rw[q];exact zM1 hv
     .exact .inr q
    cases ex<;>simp only at r1<;>first|exact v _ _ _ _ _ _ r1 (p2.trans r2) r3 r4 ax|skip
    obtain⟨t1,t2⟩:=zP r1;have aa:=zBH t1;obtain⟨x3,E4,s4,u1,u2,u3⟩:=zHb (X:=X) (N0:=N) (st0:=st) (e0:=e) (h:=y) J (p2.trans r2) r3 r4 T aa (λk hk=>by
     rcases r5 k (λhh=>af k hk (by simp[hh]))with q|q
     .rw[q,zEK,if_pos (by simp[hk]),jq,if_pos hk]
     .exact absurd q (aa k hk)) am t2
    show∃x' E2 s2,_/\_/\_;exact⟨(n,x3),E4,s4,⟨u3,by rw[hF]at u1;exact u1⟩,zVn _,u2⟩
 |.rangeFunc _ _ _ _,N,e,st,E,s,k,Q,w,o,h,_,_,_,_=>by simp[drun]at h
 |.scope b,N,e,st,E,s,k,Q,w,o,h,g,i,m,v=>by
  simp only[drun]at h;refine zPs (kF hT J I f b w o h (by simpa only[jY]using g) (by simpa only[je]using i) (λc s D=>m c s D) ?_);intro ex N' e' l K s' z G M Y Z;cases ex<;>simp only at z<;>first|exact v _ _ _ _ _ _ z G M Y Z|cases z
 |.label _,N,e,st,E,s,k,Q,w,o,h,_,_,_,v=>by
  simp only[drun]at h;exact zPy (v _ _ _ _ _ _ h (.refl _ _) w o (.refl _ _))
 |.goto _,N,e,st,E,s,k,Q,w,o,h,_,_,_,_=>by simp[drun]at h
 |.refuse _,N,e,st,E,s,k,Q,w,o,h,_,_,_,_=>by simp[drun]at h
end
open Go.Al
inductive AK(U:TyU) where
 |int (k:IntKind)
 |bool
 |str
 |ls (i:U.I)
 |dl (i:U.I)
 |bl (i:U.I)
 |st (i:U.I)
 |err
def denA{U:TyU}:AK U->Type
 |.int _=>Int
 |.bool=>dd
 |.str=>db UInt8
 |.ls i=>db (U.den i)
 |.dl i=>db (U.den i)
 |.bl i=>dd×db (U.den i)
 |.st i=>U.den i
 |.err=>dd
def zj{U:TyU}:db (AK U)->Type
 |[]=>dc
 |a::r=>denA a×zj r
structure Con(U:TyU) where
 as:List (AK U)
 rs:List (AK U)
 fn:zj as->Option (zj rs)
structure FD(U:TyU) where
 fi:FI U
 body:Code
 n:Nat
 rs:List ResultVar
section
variable{U:TyU}(C:Cod U)(Tb:dg->TD U){R:Type}
def argT:(a:AK U)->dd->denA a->T U
 |.int k,_,x=>.int k x
 |.bool,_,x=>.bool x
 |.str,_,x=>.str x
 |.ls i,n,x=>.lst (.b n) i x
 |.dl i,_,x=>.lst .dl i x
 |.bl i,_,x=>.lst (.b x.1) i x.2
 |.st i,_,x=>C.enc i x
 |.err,_,x=>bif x then .ifx else .con .nilIface
def qV:(as:db (AK U))->(Nat->dd)->Nat->zj as->db (T U)
 |[],_,_,_=>[]
 |a::r,b,j,x=>argT C a (b j) x.1::qV r b (j+1) x.2
def argK{R:Type}:(as:db (AK U))->zj as->(db (T U)->da R)->da R
 |[],_,K=>K []
 |a::r,x,K=>match a,x with
  |.err,x=>bif x.1 then argK r x.2 λvs=>K (.ifx::vs)else argK r x.2 λvs=>K (.con .nilIface::vs)
  |.int k,x=>argK r x.2 λvs=>K (.int k x.1::vs)
  |.bool,x=>argK r x.2 λvs=>K (.bool x.1::vs)
  |.str,x=>argK r x.2 λvs=>K (.str x.1::vs)
  |.ls i,x=>argK r x.2 λvs=>K (.lst (.b false) i x.1::vs)
  |.dl i,x=>argK r x.2 λvs=>K (.lst .dl i x.1::vs)
  |.bl i,x=>argK r x.2 λvs=>K (.lst (.b x.1.1) i x.1.2::vs)
  |.st i,x=>argK r x.2 λvs=>K (C.enc i x.1::vs)
def zEd{R:Type}:∀(as:db (AK U))(x:zj as)(j:Nat)(K:db (T U)->da R),argK C as x K=K (qV C as (λ_=>false) j x)
 |[],_,_,_=>rfl
 |a::r,x,j,K=>by
  cases a with
  |err=>
   obtain⟨b,xs⟩:=x;cases b with
   |true=>simp only[argK,zUi,qV,argT,zEd r _ (j+1)]
   |false=>simp only[argK,zUk,qV,argT,zEd r _ (j+1)]
  |_=>simp only[argK,qV,argT,zEd r _ (j+1)]
def ArgV:(a:AK U)->denA a->V->Prop
 |.ls i,x,v=>∃n:dd,v=.lst (if n then .nil else .no) (x.map (C.encV i))
 |a,x,v=>v=trT C ⟨id,id,id,id⟩ (argT C a false x)
def zCX:(as:db (AK U))->zj as->db V->Prop
 |[],_,vs=>vs=[]
 |a::r,x,vs=>∃v vs',vs=v::vs'/\ArgV C a x.1 v/\zCX r x.2 vs'
def decA:(a:AK U)->T U->(denA a->da R)->da R
 |.int k,v,K=>(match v with|.int d n=>bif decide (d=k)then K n else none|_=>none)
 |.bool,v,K=>(match v with|.bool b=>K b|_=>none)
 |.str,v,K=>(match v with|.str s=>K s|_=>none)
 |.ls i,v,K=>(match v with
  |.nil=>K []
  |.lst m j ys=>zAZ i j ys K
  |_=>none)
 |.dl i,v,K=>(match v with
  |.nil=>K []
  |.lst m j ys=>zAZ i j ys λxs=>(match m with
   |.dl=>K xs
   |.b n=>bif (bif n then xs.isEmpty else !xs.isEmpty)then K xs else none
   |.ow _ c=>bif c then K xs else bif !xs.isEmpty then K xs else none)
  |_=>none)
 |.bl i,v,K=>(match v with
  |.nil=>K (true,[])
  |.lst m j ys=>zAZ i j ys λxs=>(match m with
   |.dl=>K (xs.isEmpty,xs)
   |.b n=>K (n,xs)
   |.ow _ c=>bif c then K (xs.isEmpty,xs)else K (false,xs))
  |_=>none)
 |.st i,v,K=>C.dec i v K
 |.err,v,K=>(match v with
  |.ifx=>K true
  |.con v=>bif zEP v then K false else none
  |_=>none)
def zD1:(as:db (AK U))->db (T U)->(zj as->da R)->da R
 |[],vs,K=>(match vs with|[]=>K ()|_::_=>none)
 |a::r,vs,K=>(match vs with
  |[]=>none
  |v::vs=>decA C a v λx=>zD1 r vs λxs=>K (x,xs))
def finT:db (T U)->T U
 |[]=>.tup []
 |x::r=>match r with
  |[]=>x
  |_::_=>.tup (x::r)
def dres(e:En U)(st:St U):db du->(db (T U)->da R)->da R
 |[],K=>K []
 |v::r,K=>match v with
  |.tmp t=>fe (eget e t) λv=>bif yz v.flat then dres e st r λvs=>K (v::vs)else none
  |.cell p t=>zKK C Tb st t (eget e p) λv=>fe v λv=>bif yz v.flat then dres e st r λvs=>K (v::vs)else none
def zFE:Nat->db (T U)->En U
 |_,[]=>[]
 |n,x::xs=>(n,x)::zFE (n+1) xs
def getR{R:Type}:(k:SK U)->T U->(denK k->da R)->da R
 |.int k,v,K=>decA C (.int k) v K
 |.bool,v,K=>decA C .bool v K
 |.str,v,K=>decA C .str v K
 |.dl i,v,K=>decA C (.dl i) v K
 |.bl i,v,K=>decA C (.bl i) v K
 |.st i,v,K=>decA C (.st i) v K
 |.ow _ _,_,_=>none
 |.arr _,_,_=>none
 |.box _,_,_=>none
 |.scs,_,_=>none
 |.mpo,_,_=>none
 |.jm,_,_=>none
 |.mpj,_,_=>none
 |.mp1,_,_=>none
 |.ar1 _,_,_=>none
 |.lv1,_,_=>none
 |.lvs,_,_=>none
 |.lvj,_,_=>none
 |.jp,_,_=>none
 |.np,_,_=>none
 |.ag _,_,_=>none
def zGm{R:Type}:(l:db (SK U))->db (T U)->(zA l->da R)->da R
 |[],vs,K=>(match vs with|[]=>K ()|_::_=>none)
 |k::r,vs,K=>(match vs with
  |[]=>none
  |v::vs=>getR C k v λx=>zGm r vs λxs=>K (x,xs))
def zCV{R:Type}:(l:db (SK U))->zA l->(db (T U)->da R)->da R
 |[],_,K=>K []
 |k::r,x,K=>match k,x with
  |.int k,x=>zCV r x.2 λvs=>K (.int k x.1::vs)
  |.bool,x=>zCV r x.2 λvs=>K (.bool x.1::vs)
  |.str,x=>zCV r x.2 λvs=>K (.str x.1::vs)
  |.dl i,x=>zCV r x.2 λvs=>K (.lst .dl i x.1::vs)
  |.bl i,x=>zCV r x.2 λvs=>K (.lst (.b x.1.1) i x.1.2::vs)
  |.st i,x=>zCV r x.2 λvs=>K (C.enc i x.1::vs)
  |_,_=>none
structure CP(U:TyU) where
 io:List (SK U)
 oo:List (SK U)
 as:List (SK U)
 rs:List (SK U)
 fn:{R:Type}->zA io->zA as->Option R->(zA oo->zA rs->Option R)->Option R
structure CR(U:TyU) where
 as:List (SK U)
 rs:List (SK U)
 fn:{R:Type}->zA as->(zA rs->Option R)->Option R
def zIP(st:St U):db Nat->dd
 |[]=>true
 |l::r=>(match lk st.bx l with|some _=>true|none=>false)&&zIP st r
def zOI(c:CP U)(args:db (T U))(ks:db Nat)(st:St U)(e:da R)(k:T U->St U->da R):da R:=
 feL (args.take c.io.length) λf=>feL (args.drop c.io.length) λi=>
 (bif ks.isEmpty then zDg c.io f st else λK=>K st) λst0=>
 qx C c.io f st0 λx d=>feS d λd=>qx C c.as i d λa b=>feS b λb=>
 bif zIP b ks then c.fn x a e λy z=>zHr C c.oo y f b λg=>zAw C c.rs z g λvs h=>k (finT vs) h else none
def zOF(c:CR U)(args:db (T U))(st:St U)(k:T U->St U->da R):da R:=
 qx C c.as args st λx _=>c.fn x λy=>zCV C c.rs y λvs=>k (finT vs) st
def zDx(fu:Nat)(inl:Nat->da (FD U))(orc:Nat->da (Con U))(orr:Nat->da (CR U))(orp:Nat->da (CP U))(e:da R):Nat->Call U R
 |0,_,_,_,_,_=>none
 |d+1,f,args,ks,st,k=>
  bif Nat.ble 1000000 f then bif Nat.ble 2000000 f then(match orc (f-2000000)with
   |some _=>none
   |none=>match orr (f-2000000)with
    |some _=>none
    |none=>match inl (f-2000000)with
     |some b=>bif Nat.ble args.length b.n&&ks.isEmpty then
      drun C Tb fu (zDx fu inl orc orr orp e d) b.fi b.body (zFE 0 args) st λg e' a=>match g with
       |.normal=>dres C Tb e' a b.rs λvs=>k (finT vs) a
       |.ret=>dres C Tb e' a b.rs λvs=>k (finT vs) a
       |_=>none
      else none
     |none=>none)else(match orc f with
   |some c=>zD1 C c.as args λx=>Option.bind (c.fn x) λy=>argK C c.rs y λvs=>k (finT vs) st
   |none=>none)else
  match orc f with
  |some c=>zD1 C c.as args λx=>Option.bind (c.fn x) λy=>argK C c.rs y λvs=>k (finT vs) st
  |none=>
   match orr f with
   |some c=>zOF C c args st k
   |none=>
    match orp f with
    |some c=>zOI C c args ks st e k
    |none=>
     match inl f with
     |some b=>bif Nat.ble args.length b.n&&ks.isEmpty then
      drun C Tb fu (zDx fu inl orc orr orp e d) b.fi b.body (zFE 0 args) st λg e' a=>match g with
       |.normal=>dres C Tb e' a b.rs λvs=>k (finT vs) a
       |.ret=>dres C Tb e' a b.rs λvs=>k (finT vs) a
       |_=>none
      else none
     |none=>none
def runP(fu d:Nat)(inl:Nat->da (FD U))(orc:Nat->da (Con U))(orr:Nat->da (CR U))(orp:Nat->da (CP U))(c:FD U)(f e as rs:db (SK U))(x:zA f)(a:zA as):da (da (zA e×zA rs)):=
 zAw C f x ⟨[],[],0,0,[]⟩ λvs st=>feS st λst=>zAw C as a st λg st=>feS st λst=>feA (vs++g) λh=>
 drun C Tb fu (zDx C Tb fu inl orc orr orp (some none) d) c.fi c.body (zFE 0 h) st λi e' b=>match i with
  |.normal=>dres C Tb e' b c.rs λus=>zGm C rs us λz=>qx C e vs b λy _=>some (some (y,z))
  |.ret=>dres C Tb e' b c.rs λus=>zGm C rs us λz=>qx C e vs b λy _=>some (some (y,z))
  |_=>none
variable{C Tb}{P:di}{r:R}
structure FDOk(P:Program)(pf rf:FuncId->Bool)(f:Nat)(fd:FD U):Prop where
 fn:∃fn,P.funcs[f]?=some fn/\fn.body=some fd.body/\fn.ntmps=fd.n/\fn.results=fd.rs.toArray
 code:xY P f=true
 ok:jY pf rf fd.fi ⟨fd.n,[]⟩ fd.body=true
 hok:je fd.fi fd.body=true
def ConOk(C:Cod U)(P:di)(f:Nat)(c:Con U):Prop:=∀x y,c.fn x=some y->∀vs,zCX C c.as x vs->jS P f vs (finV ((qV C c.rs (λ_=>false) 0 y).map (trT C ⟨id,id,id,id⟩)))
def MOk(C:Cod U)(P:di)(m:String)(c:Con U):Prop:=∀x y,c.fn x=some y->∀v vs,zCX C c.as x (v::vs)->∃t u g,v=.at (.iface t u)/\resM P t m=some g/\xY P g=true/\okV u=true/\jS P g (cV u::vs) (finV ((qV C c.rs (λ_=>false) 0 y).map (trT C ⟨id,id,id,id⟩)))
def OrcOk(C:Cod U)(P:di)(f:Nat)(c:Con U):Prop:=(f<1000000->xY P f=true/\ConOk C P f c)/\∀m,mIx m=f->MOk C P m c
def OrcOk.of{P:di}{f:Nat}{c:Con U}(h:xY P f=true/\ConOk C P f c)(a:Nat.blt f 1000000=true):OrcOk C P f c:=
 ⟨λ_=>h,λm b=>absurd (zPd m) (by have:=xc a;omega)⟩
def zRm(b:CodOk C)(a:AK U)(n:dd)(x:denA a):bdd 0 0 (argT C a n x)=true:=by
 cases a<;>first|rfl|exact b.bd _ _|(cases x<;>rfl)
def zDq(b:CodOk C):∀(as:db (AK U))(c:Nat->dd)(j:Nat)(x:zj as),bdds 0 0 (qV C as c j x)=true
 |[],_,_,_=>rfl
 |a::r,c,j,x=>by simp only[qV,bdds,zRm b,zDq b r,zUP]
def zPf(a:CodOk C)(N N':NM){l:db (T U)}(h:bdds 0 0 l=true):l.map (trT C N')=l.map (trT C N):=
 qe (nl:=0) (nx:=0) ⟨λ_ h=>dM,λ_ h=>dM,λ_ h=>dM,λ_ h=>dM⟩ h
def zB9(g:CodOk C):∀(a:AK U){v:T U}{K:denA a->da R},decA C a v K=some r->∃x,K x=some r/\∀N,ArgV C a x ((trT C N v).untag)
 |.int k,v,K,h=>by
  simp only[decA]at h;split at h
  .obtain⟨c,d⟩:=zP h;simp only[zU7]at c;subst c;exact⟨_,d,λN=>rfl⟩
  .cases h
 |.bool,v,K,h=>by
  simp only[decA]at h;split at h
  .exact⟨_,h,λN=>rfl⟩
  .cases h
 |.str,v,K,h=>by
  simp only[decA]at h;split at h
  .exact⟨_,h,λN=>rfl⟩
  .cases h
 |.ls i,v,K,h=>by
  simp only[decA]at h;split at h
  .exact⟨_,h,λN=>⟨true,rfl⟩⟩
  .rename_i m j ys;have e:=jH h;clear h;obtain⟨rfl,h⟩:=e;simp only[zAX]at h;refine⟨_,h,λN=>?_⟩;cases m with
   |b n=>cases n with
    |false=>exact⟨false,rfl⟩
    |true=>exact⟨true,rfl⟩
   |dl=>cases ys with
    |nil=>exact⟨true,rfl⟩
    |cons y ys=>exact⟨false,rfl⟩
   |ow t f=>cases f with
    |false=>exact⟨false,rfl⟩
    |true=>cases ys with
     |nil=>exact⟨true,rfl⟩
     |cons y ys=>exact⟨false,rfl⟩
  .cases h
 |.dl i,v,K,h=>by
  simp only[decA]at h;split at h
  .exact⟨_,h,λN=>rfl⟩
  .rename_i m j ys;have e:=jH h;clear h;obtain⟨rfl,h⟩:=e;simp only[zAX]at h;split at h
   .refine⟨_,h,λN=>?_⟩;cases ys<;>rfl
   .rename_i n;obtain⟨c,d⟩:=zP h;refine⟨_,d,λN=>?_⟩;cases n<;>cases ys<;>simp at c<;>rfl
   .rename_i t f;cases f with
    |true=>exact⟨_,h,λN=>rfl⟩
    |false=>
     simp only[zUk]at h;obtain⟨c,d⟩:=zP h;refine⟨_,d,λN=>?_⟩;cases ys<;>simp at c
     rfl
  .cases h
 |.bl i,v,K,h=>by
  simp only[decA]at h;split at h
  .exact⟨_,h,λN=>rfl⟩
  .rename_i m j ys;have e:=jH h;clear h;obtain⟨rfl,h⟩:=e;simp only[zAX]at h;split at h
   .refine⟨_,h,λN=>?_⟩;cases ys<;>rfl
   .rename_i n;refine⟨_,h,λN=>?_⟩;cases n<;>rfl
   .rename_i t f;cases f with
    |true=>refine⟨_,h,λN=>?_⟩;cases ys<;>rfl
    |false=>exact⟨_,h,λN=>rfl⟩
  .cases h
 |.st i,v,K,h=>by
  simp only[decA]at h;obtain⟨x,c,d⟩:=g.dec i _ _ _ h;exact⟨x,c,λN=>by show _=trT C _ (C.enc i x);rw[g.enc,d]⟩
 |.err,v,K,h=>by
  simp only[decA]at h;split at h
  .exact⟨true,h,λN=>rfl⟩
  .obtain⟨c,d⟩:=zP h;have l:=zCZ c;subst l;exact⟨false,d,λN=>rfl⟩
  .cases h
def zFQ(c:CodOk C):∀(as:db (AK U)){vs:db (T U)}{K:zj as->da R},zD1 C as vs K=some r->∃x,K x=some r/\∀N,zCX C as x ((vs.map (trT C N)).map V.untag)
 |[],vs,K,h=>by
  cases vs with
  |nil=>exact⟨_,h,λN=>rfl⟩
  |cons _ _=>cases h
 |a::b,vs,K,h=>by
  cases vs with
  |nil=>cases h
  |cons v vs=>
   simp only[zD1]at h;obtain⟨x,d,e⟩:=zB9 c a h;obtain⟨xs,f,g⟩:=zFQ c b d;exact⟨_,f,λN=>⟨_,_,rfl,e N,g N⟩⟩
def zDE(N:NM)(vs:db (T U)):finV (vs.map (trT C N))=trT C N (finT vs):=by
 match vs with
 |[]=>rfl
 |[x]=>rfl
 |x::y::r=>simp[finV,finT,trT,xf]
def zCf{st:St U}{N:NM}:∀(args:db (T U))(n:Nat),bdds st.nl st.nx args=true->dG C N st (zFE n args) (qJ n (args.map (trT C N)))
 |[],n,_,k=>⟨.inl rfl,rfl⟩
 |x::xs,n,h,k=>by
  simp only[bdds,zUE]at h;simp only[zFE,eget,zUC,qJ,Env.get];by_cases e:n=k
  .subst e;have:Nat.beq n n=true:=dQ
   simp only[this,zUi,zUM];exact⟨.inr rfl,h.1⟩
  .simp only[qN e,zUk,if_neg e];exact zCf xs (n+1) h.2 k
def zEy(g:TbOk C P Tb)(i:CodOk C){N:NM}{st:St U}{s:S}{e:En U}{E:Env}(j:dF C N st s)(d:dG C N st e E):∀(rs:db du){K:db (T U)->da R}{G:db V->Prop},dres C Tb e st rs K=some r ->
 (∀vs,K vs=some r->G (vs.map (trT C N)))->jD P rs E s G
 |[],K,G,h,f=>f [] h
 |v::a,K,G,h,f=>by
  cases v with
  |tmp t=>
   simp only[dres,zDr]at h;obtain⟨b,k⟩:=zP h;have l:eget e t≠.any:=λe'=>by rw[e']at b;simp[T.flat,yz,T.isOne]at b
   simp only[jD];rw[((d t).1).get l,jw];exact⟨(qO C N _).2 b,zEy g i j d a k λvs c=>f (_::vs) c⟩
  |cell p t=>
   simp only[dres,zDr]at h;simp only[jD];refine zHF g i j (d p).1 h λv c=>?_;obtain⟨b,k⟩:=zP c;rw[jw];exact⟨(qO C N _).2 b,zEy g i j d a k λvs c=>f (_::vs) c⟩
def zGi(g:TbOk C P Tb)(i:CodOk C){N:NM}{st:St U}{s:S}{e:En U}{E:Env}(j:dF C N st s)(d:dG C N st e E):∀(rs:db du){K:db (T U)->da R}{G:db V->Prop},dres C Tb e st rs K=some r ->
 (∀vs,K vs=some r->G ((vs.map (trT C N)).map V.untag))->yx P rs E s G
 |[],K,G,h,f=>f [] h
 |v::a,K,G,h,f=>by
  cases v with
  |tmp t=>
   simp only[dres,zDr]at h;obtain⟨b,k⟩:=zP h;have l:eget e t≠.any:=λe'=>by rw[e']at b;simp[T.flat,yz,T.isOne]at b
   simp only[yx];rw[((d t).1).get l,jw];exact⟨(qO C N _).2 b,zGi g i j d a k λvs c=>f (_::vs) c⟩
  |cell p t=>
   simp only[dres,zDr]at h;simp only[yx];refine zHF g i j (d p).1 h λv c=>?_;obtain⟨b,k⟩:=zP c;rw[jw];exact⟨(qO C N _).2 b,zGi g i j d a k λvs c=>f (_::vs) c⟩
def Sub.refl:∀l:db V,Sub l l
 |[]=>.nil
 |_::r=>.keep (Sub.refl r)
def zBK(N:NM):∀{l:db (T U)},jT l=true->((l.map (trT C N)).all λx=>x.flat.all V.isOne)=true
 |[],_=>rfl
 |x::r,h=>by
  simp only[jT,zUE]at h;simp only[zUC,zUd,zUE];refine⟨?_,zBK N h.2⟩;have:=(qO C N x.flat).2 h.1;rw[<-jw]at this;exact this
def zJm{nl nx:Nat}:∀{l:db (T U)},bdds nl nx l=true->∀n,bdds nl nx (l.take n)=true
 |[],_,n=>by simp[bdds]
 |x::r,h,0=>rfl
 |x::r,h,n+1=>by
  simp only[bdds,zUE,zUS]at h ⊢;exact⟨h.1,zJm h.2 n⟩
def zG4{nl nx:Nat}:∀{l a:db (T U)},bdds nl nx l=true->bdds nl nx a=true->bdds nl nx (l++a)=true
 |[],_,_,h=>h
 |x::r,a,h,b=>by
  simp only[bdds,zUE,zUO]at h ⊢;exact⟨h.1,zG4 h.2 b⟩
def zE3{s:S}:∀(l:db (SK U))(x:zA l){vs:db V}{rs:db Res},VKs C s l x vs rs->vs.length=l.length
 |[],x,vs,rs,h=>by simp only[VKs]at h;rw[h.1];rfl
 |k::r,x,vs,rs,h=>by
  simp only[VKs]at h;obtain⟨v,vs',b,c,rfl,rfl,d,a⟩:=h;simp[zE3 r x.2 a]
def resB(s:S):Res->da (Nat×db V×Nat)
 |.inr b=>(Al.look s.box b).map λc=>(b,c)
 |_=>none
def resT:Res->da Nat
 |.inl n=>some n
 |_=>none
def resO(s:S):Res->da (Nat×OV×db Nat)
 |.ob b=>(zE s.ob b).map λc=>(b,c)
 |_=>none
def subS(s:S)(rs:db Res):S:=⟨rs.filterMap (resB s),rs.filterMap resT,s.nx,rs.filterMap (resO s)⟩
def yS(s:S):∀(rs:db Res)(b:Nat),(.inr b∈rs->Al.look (subS s rs).box b=Al.look s.box b)/\(.inr b∉rs->Al.look (subS s rs).box b=none)
 |[],b=>⟨λh=>dU,λ_=>rfl⟩
 |y::r,b=>by
  obtain⟨d,f⟩:=yS s r b;have i:∀c,Al.look (subS s (.inr c::r)).box b=if c=b then(match Al.look s.box c with|some x=>some x|none=>Al.look (subS s r).box b)else Al.look (subS s r).box b:=λc=>by
   show Al.look (List.filterMap (resB s) (Res.inr c::r)) b=_;rw[zV6];simp only[resB];cases e:Al.look s.box c with
   |none=>simp only[zWq];split<;>rfl
   |some x=>simp only[zVm];rfl
  cases y with
  |inr c=>
   constructor
   .intro a;rw[i];by_cases e:c=b
    .subst e;rw[if_pos rfl];cases j:Al.look s.box c with
     |some x=>rfl
     |none=>
      by_cases g:Res.inr c∈r
      .simp only;rw[d g,j]
      .simp only;rw[f g]
    .rw[if_neg e];rcases zUG.1 a with q|q
     .injection q with q;exact absurd q.symm e
     .exact d q
   .intro a;have g:Res.inr b∉r:=λq=>a (zUW _ q);rw[i,if_neg (λe=>a (by rw[e];exact zUz ..))];exact f g
  |inl n=>exact⟨λa=>d ((zUG.1 a).resolve_left (λq=>by cases q)),λa=>f λq=>a (zUW _ q)⟩
  |ob n=>exact⟨λa=>d ((zUG.1 a).resolve_left (λq=>by cases q)),λa=>f λq=>a (zUW _ q)⟩
def yP(s:S):∀(rs:db Res)(b:Nat),(.ob b∈rs->zE (subS s rs).ob b=zE s.ob b)/\(.ob b∉rs->zE (subS s rs).ob b=none)
 |[],b=>⟨λh=>dU,λ_=>rfl⟩
 |y::r,b=>by
  obtain⟨d,f⟩:=yP s r b;have i:∀c,zE (subS s (.ob c::r)).ob b=if c=b then(match zE s.ob c with|some x=>some x|none=>zE (subS s r).ob b)else zE (subS s r).ob b:=λc=>by
   show zE (List.filterMap (resO s) (Res.ob c::r)) b=_;rw[zV6];simp only[resO];cases e:zE s.ob c with
   |none=>simp only[zWq];split<;>rfl
   |some x=>simp only[zVm];rfl
  cases y with
  |ob c=>
   constructor
   .intro a;rw[i];by_cases e:c=b
    .subst e;rw[if_pos rfl];cases j:zE s.ob c with
     |some x=>rfl
     |none=>
      by_cases g:Res.ob c∈r
      .simp only;rw[d g,j]
      .simp only;rw[f g]
    .rw[if_neg e];rcases zUG.1 a with q|q
     .injection q with q;exact absurd q.symm e
     .exact d q
   .intro a;have g:Res.ob b∉r:=λq=>a (zUW _ q);rw[i,if_neg (λe=>a (by rw[e];exact zUz ..))];exact f g
  |inl n=>exact⟨λa=>d ((zUG.1 a).resolve_left (λq=>by cases q)),λa=>f λq=>a (zUW _ q)⟩
  |inr n=>exact⟨λa=>d ((zUG.1 a).resolve_left (λq=>by cases q)),λa=>f λq=>a (zUW _ q)⟩
def zER(s:S)(rs:db Res)(n:Nat):n∈(subS s rs).tg↔.inl n∈rs:=by
 show n∈rs.filterMap resT↔_;simp only[zV8];constructor
 .rintro⟨y,b,a⟩;cases y<;>simp[resT]at a
  subst a;exact b
 .intro h;exact⟨_,h,rfl⟩
def InS(s:S):Res->Prop
 |.inl n=>n∈s.tg
 |.inr b=>∃c,Al.look s.box b=some c
 |.ob b=>∃c,zE s.ob b=some c
mutual
theorem VK_in{s:S}:∀(k:SK U)(x:denK k){v:V}{rs:List Res},VK C s k x v rs->∀y∈rs,InS s y
 |.int k,x,v,rs,h,y,hy=>by simp only[VK]at h;rw[h.2]at hy;cases hy
 |.bool,x,v,rs,h,y,hy=>by simp only[VK]at h;rw[h.2]at hy;cases hy
 |.str,x,v,rs,h,y,hy=>by simp only[VK]at h;rw[h.2]at hy;cases hy
 |.dl i,x,v,rs,h,y,hy=>by simp only[VK]at h;rw[h.2]at hy;cases hy
 |.bl i,x,v,rs,h,y,hy=>by simp only[VK]at h;rw[h.2]at hy;cases hy
 |.st i,x,v,rs,h,y,hy=>by simp only[VK]at h;rw[h.2]at hy;cases hy
 |.jm,x,v,rs,h,y,hy=>by simp only[VK]at h;rw[h.2]at hy;cases hy
 |.jp,x,v,rs,h,y,hy=>by simp only[VK]at h;rw[h.2]at hy;cases hy
 |.np,x,v,rs,h,y,hy=>by simp only[VK]at h;rw[h.2]at hy;cases hy
 |.mp1,x,v,rs,h,y,hy=>by
  simp only[VK]at h;obtain⟨b,fp,rfl,h1,rfl⟩:=h;simp only[zUJ]at hy;subst hy;exact⟨_,h1⟩
 |.ar1 i,x,v,rs,h,y,hy=>by
  simp only[VK]at h;obtain⟨b,cap,rfl,h1,h2,rfl⟩:=h;simp only[zUJ]at hy;subst hy;exact⟨_,h2⟩
 |.lv1,x,v,rs,h,y,hy=>by
  simp only[VK]at h;obtain⟨b,fp,rfl,h1,rfl⟩:=h;simp only[zUJ]at hy;subst hy;exact⟨_,h1⟩
 |.lvs,x,v,rs,h,y,hy=>by
  simp only[VK]at h;obtain⟨b,fp,rfl,h1,rfl⟩:=h;simp only[zUJ]at hy;subst hy;exact⟨_,h1⟩
 |.lvj,x,v,rs,h,y,hy=>by
  cases x with
  |none=>simp only[VK]at h;rw[h.2]at hy;cases hy
  |some x=>
   cases x with
   |none=>simp only[VK]at h;rw[h.2]at hy;cases hy
   |some c=>
    simp only[VK]at h;obtain⟨b,fp,rfl,h1,rfl⟩:=h;simp only[zUJ]at hy;subst hy;exact⟨_,h1⟩
 |.ow nb i,x,v,rs,h,y,hy=>by
  simp only[VK]at h;obtain⟨n,rfl,h1,h2,rfl⟩:=h;simp only[zUJ]at hy;subst hy;exact h1
 |.arr i,x,v,rs,h,y,hy=>by
  cases x with
  |none=>simp only[VK]at h;rw[h.2]at hy;cases hy
  |some xs=>
   simp only[VK]at h;obtain⟨b,cap,rfl,h1,h2,rfl⟩:=h;simp only[zUJ]at hy;subst hy;exact⟨_,h2⟩
 |.scs,x,v,rs,h,y,hy=>by
  simp only[VK]at h;obtain⟨b,cap,fp,rfl,h1,rfl⟩:=h;simp only[zUJ]at hy;subst hy;exact⟨_,h1⟩
 |.mpo,x,v,rs,h,y,hy=>by
  cases x with
  |none=>simp only[VK]at h;rw[h.2]at hy;cases hy
  |some c=>
   simp only[VK]at h;obtain⟨b,fp,rfl,h1,rfl⟩:=h;simp only[zUJ]at hy;subst hy;exact⟨_,h1⟩
 |.mpj,x,v,rs,h,y,hy=>by
  cases x with
  |none=>simp only[VK]at h;rw[h.2]at hy;cases hy
  |some x=>
   cases x with
   |none=>simp only[VK]at h;rw[h.2]at hy;cases hy
   |some c=>
    simp only[VK]at h;obtain⟨b,fp,rfl,h1,rfl⟩:=h;simp only[zUJ]at hy;subst hy;exact⟨_,h1⟩
 |.box cs,x,v,rs,h,y,hy=>by
  simp only[VK]at h;obtain⟨b,vs,rs',rfl,h1,h2,rfl⟩:=h;rcases zUG.1 hy with rfl|hy
  .exact⟨_,h1⟩
  .exact zAH cs x h2 y hy
 |.ag cs,x,v,rs,h,y,hy=>by
  simp only[VK]at h;obtain⟨vs,rfl,h2⟩:=h;exact zAH cs x h2 y hy
theorem zAH{s:S}:∀(l:List (SK U))(x:zA l){vs:List V}{rs:List Res},VKs C s l x vs rs->∀y∈rs,InS s y
 |[],x,vs,rs,h,y,hy=>by simp only[VKs]at h;rw[h.2]at hy;cases hy
 |k::r,x,vs,rs,h,y,hy=>by
  simp only[VKs]at h;obtain⟨v,vs',r1,r2,rfl,rfl,h1,h2⟩:=h;rcases zUa.1 hy with hy|hy
  .exact VK_in k x.1 h1 y hy
  .exact zAH r x.2 h2 y hy
end
structure Keeps(s s':S)(rs:List Res):Prop where
 box:∀b c,.inr b∈rs->Al.look s.box b=some c->Al.look s'.box b=some c
 ob:∀b c,.ob b∈rs->zE s.ob b=some c->zE s'.ob b=some c
 tg:∀n,.inl n∈rs->n∈s.tg->n∈s'.tg
 nx:s.nx<=s'.nx
def Keeps.mono{s s':S}{rs a:db Res}(h:Keeps s s' rs)(e:∀y∈a,y∈rs):Keeps s s' a:=
 ⟨λb c d=>h.box b c (e _ d),λb c d=>h.ob b c (e _ d),λn d=>h.tg n (e _ d),h.nx⟩
def zD7(s:S)(rs:db Res):Keeps s (subS s rs) rs:=
 ⟨λb c a d=>((yS s rs b).1 a).trans d,λb c a d=>((yP s rs b).1 a).trans d,λn a _=>(zER s rs n).2 a,zUB _⟩
def zCy(st0 st s:S)(rs:db Res):Keeps s (kZ st0 st s) rs:=
 ⟨λb c _ h=>by rw[zD3,h];rfl,λb c _ h=>by rw[zEv,h];rfl,λn _ h=>zUu _ h,zWZ _ _⟩
mutual
theorem zQp{s s':S}:∀(k:SK U)(x:denK k){v:V}{rs:List Res},VK C s k x v rs->Keeps s s' rs->VK C s' k x v rs
 |.int k,x,v,rs,h,_=>by simpa only[VK]using h
 |.bool,x,v,rs,h,_=>by simpa only[VK]using h
 |.str,x,v,rs,h,_=>by simpa only[VK]using h
 |.dl i,x,v,rs,h,_=>by simpa only[VK]using h
 |.bl i,x,v,rs,h,_=>by simpa only[VK]using h
 |.st i,x,v,rs,h,_=>by simpa only[VK]using h
 |.jm,x,v,rs,h,_=>by simpa only[VK]using h
 |.jp,x,v,rs,h,_=>by simpa only[VK]using h
 |.np,x,v,rs,h,_=>by simpa only[VK]using h
 |.mp1,x,v,rs,h,hk=>by
  simp only[VK]at h ⊢;obtain⟨b,fp,rfl,h1,rfl⟩:=h;exact⟨b,fp,rfl,hk.ob b _ dQ h1,rfl⟩
 |.ar1 i,x,v,rs,h,hk=>by
  simp only[VK]at h ⊢;obtain⟨b,cap,rfl,h1,h2,rfl⟩:=h;exact⟨b,cap,rfl,h1,hk.box b _ dQ h2,rfl⟩
 |.lv1,x,v,rs,h,hk=>by
  simp only[VK]at h ⊢;obtain⟨b,fp,rfl,h1,rfl⟩:=h;exact⟨b,fp,rfl,hk.ob b _ dQ h1,rfl⟩
 |.lvs,x,v,rs,h,hk=>by
  simp only[VK]at h ⊢;obtain⟨b,fp,rfl,h1,rfl⟩:=h;exact⟨b,fp,rfl,hk.ob b _ dQ h1,rfl⟩
 |.lvj,x,v,rs,h,hk=>by
  cases x with
  |none=>simpa only[VK]using h
  |some x=>
   cases x with
   |none=>simpa only[VK]using h
   |some c=>
    simp only[VK]at h ⊢;obtain⟨b,fp,rfl,h1,rfl⟩:=h;exact⟨b,fp,rfl,hk.ob b _ dQ h1,rfl⟩
 |.ow nb i,x,v,rs,h,hk=>by
  simp only[VK]at h ⊢;obtain⟨n,rfl,h1,h2,rfl⟩:=h;exact⟨n,rfl,hk.tg n dQ h1,zUo h2 hk.nx,rfl⟩
 |.arr i,x,v,rs,h,hk=>by
  cases x with
  |none=>simpa only[VK]using h
  |some xs=>
   simp only[VK]at h ⊢;obtain⟨b,cap,rfl,h1,h2,rfl⟩:=h;exact⟨b,cap,rfl,h1,hk.box b _ dQ h2,rfl⟩
 |.scs,x,v,rs,h,hk=>by
  simp only[VK]at h ⊢;obtain⟨b,cap,fp,rfl,h1,rfl⟩:=h;exact⟨b,cap,fp,rfl,hk.ob b _ dQ h1,rfl⟩
 |.mpo,x,v,rs,h,hk=>by
  cases x with
  |none=>simpa only[VK]using h
  |some c=>
   simp only[VK]at h ⊢;obtain⟨b,fp,rfl,h1,rfl⟩:=h;exact⟨b,fp,rfl,hk.ob b _ dQ h1,rfl⟩
 |.mpj,x,v,rs,h,hk=>by
  cases x with
  |none=>simpa only[VK]using h
  |some x=>
   cases x with
   |none=>simpa only[VK]using h
   |some c=>
    simp only[VK]at h ⊢;obtain⟨b,fp,rfl,h1,rfl⟩:=h;exact⟨b,fp,rfl,hk.ob b _ dQ h1,rfl⟩
 |.box cs,x,v,rs,h,hk=>by
  simp only[VK]at h ⊢;obtain⟨b,vs,rs',rfl,h1,h2,rfl⟩:=h;exact⟨b,vs,rs',rfl,hk.box b _ dQ h1,jU cs x h2 (hk.mono λy hy=>zUW _ hy),rfl⟩
 |.ag cs,x,v,rs,h,hk=>by
  simp only[VK]at h ⊢;obtain⟨vs,rfl,h2⟩:=h;exact⟨vs,rfl,jU cs x h2 hk⟩
theorem jU{s s':S}:∀(l:List (SK U))(x:zA l){vs:List V}{rs:List Res},VKs C s l x vs rs->Keeps s s' rs->VKs C s' l x vs rs
 |[],x,vs,rs,h,_=>by simpa only[VKs]using h
 |k::r,x,vs,rs,h,hk=>by
  simp only[VKs]at h ⊢;obtain⟨v,vs',r1,r2,rfl,rfl,h1,h2⟩:=h;exact⟨v,vs',r1,r2,rfl,rfl,zQp k x.1 h1 (hk.mono λy hy=>zUu _ hy),jU r x.2 h2 (hk.mono λy hy=>zU8 _ hy)⟩
end
def zED{s:S}{rs:db Res}(i:rs.Nodup)(hi:∀y∈rs,InS s y):PartS (subS s rs) s:=by
 refine⟨λb c h=>?_,λn h=>hi _ ((zER s rs n).1 h),?_,λb c h=>?_,rfl⟩
 .by_cases a:Res.inr b∈rs
  .rw[(yS s rs b).1 a]at h;exact h
  .rw[(yS s rs b).2 a]at h;cases h
 .have d:∀l:db Res,l.Nodup->(l.filterMap resT).Nodup:=λl=>by
   induction l with
   |nil=>intro _;exact zUp
   |cons y r e=>
    intro h;obtain⟨j,f⟩:=zUm.1 h;cases y with
    |inl n=>
     rw[zV6];refine zUm.2 ⟨λa=>?_,e f⟩;obtain⟨z,k,g⟩:=zV8.1 a;cases z<;>simp[resT]at g
     subst g;exact j k
    |inr n=>rw[zV6];exact e f
    |ob n=>rw[zV6];exact e f
  exact d rs i
 .by_cases a:Res.ob b∈rs
  .rw[(yP s rs b).1 a]at h;exact h
  .rw[(yP s rs b).2 a]at h;cases h
def zDz{s a:S}{rs:db Res}(f:ApartS (subS s rs) s a){b:Nat}{c:db V×Nat}(g:.inr b∉rs)(h:Al.look s.box b=some c):Al.look (kZ (subS s rs) s a).box b=some c/\Al.look a.box b=none:=by
 have d:Al.look (rbox (subS s rs) s) b=some c:=by rw[ky,(yS s rs b).2 g];simpa using h
 have e:=f.box b c d;exact⟨by rw[zD3,e,d];rfl,e⟩
def zE7{s a:S}{rs:db Res}(f:ApartS (subS s rs) s a){b:Nat}{c:OV×db Nat}(g:.ob b∉rs)(h:zE s.ob b=some c):zE (kZ (subS s rs) s a).ob b=some c/\zE a.ob b=none:=by
 have d:zE (rob (subS s rs) s) b=some c:=by rw[zAt,(yP s rs b).2 g];simpa using h
 have e:=f.ob b c d;exact⟨by rw[zEv,e,d];rfl,e⟩
def zM9{s a:S}{rs:db Res}(c:ApartS (subS s rs) s a){n:Nat}(d:.inl n∉rs)(h:n∈s.tg):n∈(kZ (subS s rs) s a).tg/\n∉a.tg:=by
 have b:n∈rtg (subS s rs) s:=rtg_iff.2 ⟨h,λq=>d ((zER s rs n).1 q)⟩;exact⟨zU8 _ b,c.tg n b⟩
def SSim.rest{N:NM}{st:St U}{s i:S}{rs:db Res}(a:dF C N st s)(e:ApartS (subS s rs) s i)(j:∀y∈rs,¬Has N st y):dF C N st (kZ (subS s rs) s i)/\∀y,Has N st y->¬InS i y:=by
 have m:∀l b,lk st.bx l=some b->.inr (N.bl l)∉rs:=λl b d f=>j _ f ⟨l,b,d,rfl⟩;have p:∀l o,lko st.ob l=some o->.ob (N.bl l)∉rs:=λl o d f=>j _ f ⟨l,o,d,rfl⟩;have q:∀t∈st.tg,.inl (N.tk t)∉rs:=λt h f=>j _ f ⟨t,h,rfl⟩;refine⟨⟨λl b d=>(zDz e (m l b d) (a.box l b d)).1,a.lt,a.wf,a.inj,λt h=>(zM9 e (q t h) (a.tgIn t h)).1,a.tgInj,a.tgLt,λt h=>zUo (a.nm t h) (Nat.le_max_right _ _),⟨λl o d=>?_,a.ob.lt,a.ob.wf,a.ob.inj⟩⟩,λy k hi=>?_⟩
 .obtain⟨fp,h⟩:=a.ob.look l o d;exact⟨fp,(zE7 e (p l o d) h).1⟩
 .cases y with
  |inl n=>obtain⟨t,h,rfl⟩:=k;exact(zM9 e (q t h) (a.tgIn t h)).2 hi
  |inr b=>obtain⟨l,x,d,rfl⟩:=k;obtain⟨c,g⟩:=hi;rw[(zDz e (m l x d) (a.box l x d)).2]at g;cases g
  |ob b=>
   obtain⟨l,x,d,rfl⟩:=k;obtain⟨c,g⟩:=hi;obtain⟨fp,h⟩:=a.ob.look l x d;rw[(zE7 e (p l x d) h).2]at g;cases g
def zTt(c:CodOk C):∀(k:SK U){v:T U}{K:denK k->da R},getR C k v K=some r->∃x,K x=some r/\∀N s,VK C s k x ((trT C N v).untag) []
 |.int k,v,K,h=>by
  obtain⟨x,a,b⟩:=zB9 c (.int k) h;exact⟨x,a,λN s=>by simp only[VK];exact⟨b N,trivial⟩⟩
 |.bool,v,K,h=>by
  obtain⟨x,a,b⟩:=zB9 c .bool h;exact⟨x,a,λN s=>by simp only[VK];exact⟨b N,trivial⟩⟩
 |.str,v,K,h=>by
  obtain⟨x,a,b⟩:=zB9 c .str h;exact⟨x,a,λN s=>by simp only[VK];exact⟨b N,trivial⟩⟩
 |.dl i,v,K,h=>by
  obtain⟨x,a,b⟩:=zB9 c (.dl i) h;exact⟨x,a,λN s=>by simp only[VK];exact⟨b N,trivial⟩⟩
 |.bl i,v,K,h=>by
  obtain⟨x,a,b⟩:=zB9 c (.bl i) h;exact⟨x,a,λN s=>by simp only[VK];exact⟨b N,trivial⟩⟩
 |.st i,v,K,h=>by
  obtain⟨x,a,b⟩:=zB9 c (.st i) h;exact⟨x,a,λN s=>by simp only[VK];exact⟨(b N).trans (c.enc _ i x),trivial⟩⟩
 |.ow _ _,v,K,h=>by simp[getR]at h
 |.arr _,v,K,h=>by simp[getR]at h
 |.box _,v,K,h=>by simp[getR]at h
 |.scs,v,K,h=>by simp[getR]at h
 |.mpo,v,K,h=>by simp[getR]at h
 |.jm,v,K,h=>by simp[getR]at h
 |.mpj,v,K,h=>by simp[getR]at h
 |.mp1,v,K,h=>by simp[getR]at h
 |.ar1 _,v,K,h=>by simp[getR]at h
 |.lv1,v,K,h=>by simp[getR]at h
 |.lvs,v,K,h=>by simp[getR]at h
 |.lvj,v,K,h=>by simp[getR]at h
 |.jp,v,K,h=>by simp[getR]at h
 |.np,v,K,h=>by simp[getR]at h
 |.ag _,v,K,h=>by simp[getR]at h
def zLd(b:CodOk C):∀(l:db (SK U)){vs:db (T U)}{K:zA l->da R},zGm C l vs K=some r->∃x,K x=some r/\∀N s,VKs C s l x ((vs.map (trT C N)).map V.untag) []
 |[],vs,K,h=>by
  cases vs with
  |nil=>exact⟨(),h,λN s=>by simp only[VKs];exact⟨rfl,trivial⟩⟩
  |cons _ _=>cases h
 |k::a,vs,K,h=>by
  cases vs with
  |nil=>cases h
  |cons v vs=>
   simp only[zGm]at h;obtain⟨x,c,d⟩:=zTt b k h;obtain⟨xs,e,f⟩:=zLd b a c;exact⟨(x,xs),e,λN s=>by
    simp only[VKs,zUC];exact⟨_,_,[],[],rfl,rfl,d N s,f N s⟩⟩
def zK6(f:CodOk C):∀(l:db (SK U))(x:zA l){K:db (T U)->da R},zCV C l x K=some r->∃c,K c=some r/\bdds 0 0 c=true/\∀N s d q,VKs C s l x d q->d=c.map (trT C N)
 |[],x,K,h=>⟨[],h,rfl,λN s d q a=>by simp only[VKs]at a;exact a.1⟩
 |k::b,x,K,h=>by
  have e:∀(t:T U),bdd 0 0 t=true->(∀N s w q,VK C s k x.1 w q->w=trT C N t)->(zCV C b x.2 λvs=>K (t::vs))=some r->∃c,K c=some r/\bdds 0 0 c=true/\∀N s d q,VKs C s (k::b) x d q->d=c.map (trT C N):=λt g i j=>by
   obtain⟨c,m,n,o⟩:=zK6 f b x.2 j;refine⟨t::c,m,by simp only[bdds,g,n,zUP],λN s d q a=>?_⟩;simp only[VKs]at a;obtain⟨v,vs',p,u,rfl,rfl,k1,k2⟩:=a;rw[zUC,i N s v p k1,o N s vs' u k2]
  cases k<;>simp only[zCV]at h<;>first
   |contradiction
   |exact e _ rfl (λN s w q a=>by simp only[VK]at a;exact a.1) h
   |exact e (C.enc _ x.1) (f.bd _ x.1) (λN s w q a=>by simp only[VK]at a;exact a.1.trans (f.enc N _ _).symm) h
variable(C)in
def jQ(syn:db dj)(a rs:db (SK U))(e:db V):da (zA a×zA rs)->Outc->S->Prop
 |none,.pan k,_=>k=syn
 |some y,.ret w,s'=>∃b c d,VKs C s' a y.1 e c/\VKs C s' rs y.2 b d/\(c++d).Nodup/\w=finV b
 |_,_,_=>False
def CPOk(C:Cod U)(P:Program)(syn:List PanicEntry)(f:Nat)(c:CP U):Prop:=∀(x:zA c.io)(a:zA c.as){R:Type}(b:Option R)(K:zA c.oo->zA c.rs->Option R)(r:R),c.fn x a b K=some r ->
 ∃oc:Option (zA c.oo×zA c.rs),(match oc with|none=>b=some r|some y=>K y.1 y.2=some r) /\
  ∀s d va e g,VKs C s c.io x d e->VKs C s c.as a va g->(e++g).Nodup->FnC P f (d++va) (subS s (e++g)) (jQ C syn c.oo c.rs d oc)
def CROk(C:Cod U)(P:di)(f:Nat)(c:CR U):Prop:=∀(x:zA c.as){R:Type}(K:zA c.rs->da R)(r:R),c.fn x K=some r ->
 ∃y,K y=some r/\∀s va q,VKs C s c.as x va q->q.Nodup->∃a,(∀s',VKs C s' c.rs y a [])/\FnC P f va (subS s q) λoc s'=>oc=.ret (finV a)/\s'=subS s q
def zL9{st:St U}:∀{ks:db Nat},zIP st ks=true->∀l∈ks,∃b,lk st.bx l=some b
 |[],_,l,a=>eZ
 |k::r,h,l,a=>by
  simp only[zIP,zUE]at h;rcases zUG.1 a with rfl|a
  .split at h
   .rename_i b c;exact⟨b,c⟩
   .exact absurd h.1 dQ
  .exact zL9 h.2 l a
abbrev _root_.dI:=@CPOk
def zQz(I:CodOk C){syn:db dj}{c:CP U}{f:Nat}(ab:dI C P syn f c){N:NM}{st:St U}{s:S}(hs:dF C N st s){args:db (T U)}(hb:bdds st.nl st.nx args=true){ks:db Nat}{pan:da R}{k:T U->St U->da R}
 (h:zOI C c args ks st pan k=some r) :
 FnC P f (args.map (trT C N)) s λoc s'=>match oc with
  |.ret w=>(∀l∈ks,Al.look s'.box (N.bl l)=Al.look s.box (N.bl l))/\∃N' B v,k v B=some r/\Turn N st N' B/\dF C N' B s'/\w=trT C N' v
  |.pan e=>e=syn/\pan=some r:=by
 unfold zOI at h;simp only[zBo]at h;have J:∃N0 st0 u,(qx C c.io (args.take c.io.length) st0 λx t=>feS t λt=>qx C c.as (args.drop c.io.length) t λa d=>feS d λd=>
  bif zIP d ks then c.fn x a pan λy z=>zHr C c.oo y (args.take c.io.length) d λK=>zAw C c.rs z K λvs D=>k (finT vs) D else none)=some r/\Gs s u/\Turn N st N0 st0/\dF C N0 st0 u/\(ks≠[]->u=s/\N0=N):=by
  cases hk:ks.isEmpty with
  |true=>
   rw[hk]at h;simp only[zUi]at h;obtain⟨N0,st0,u,h1,h2,h3,h4⟩:=zCd I _ _ hs h;refine⟨N0,st0,u,h1,h2,h3,h4,λac=>?_⟩;simp only[zWk]at hk;exact absurd hk ac
  |false=>
   rw[hk]at h;simp only[zUk]at h;exact⟨N,st,s,h,.refl _,.refl _ _,hs,λ_=>⟨rfl,rfl⟩⟩
 obtain⟨N0,st0,u,h1,hg,i,ad,E⟩:=J;clear h;refine FnC_gs hg ?_;have ae:bdds st0.nl st0.nx args=true:=qZ i.nl i.nx _ hb;have e0:args.map (trT C N0)=args.map (trT C N):=qe i.ext hb;have vr:∀(l:db (T U))(j:Nat)(x:T U)(v:V),l[j]?=some x->(l.map (trT C N0))[j]?=some v->VR C N0 x v:=λl j x v a b=>by
  rw[zUy,a]at b;injection b with b
  exact .inr b.symm
 obtain⟨x,t,r1,h2,af,e1,e2,L,ag,M,av⟩:=kV I c.io (vs:=args.take c.io.length) (vs':=(args.take c.io.length).map (trT C N0)) ad dQ (vr _) h1;rw[jF]at h2;obtain⟨a,d,r2,h3,F,e3,e4,O,ah,Q,ai⟩:=kV I c.as (vs:=args.drop c.io.length) (vs':=(args.drop c.io.length).map (trT C N0)) af dQ (vr _) h2;rw[jF]at h3;obtain⟨h4,h5⟩:=zP h3;have W:(r1++r2).Nodup:=zUe.2 ⟨ag,ah,λy m z n e=>by subst e;exact(M y m).2 (Q y n).1⟩;have p:∀y∈r1++r2,¬Has N0 d y:=λy m H=>by
  rcases zUa.1 m with m|m
  .exact(M y m).2 (ai y H)
  .exact(Q y m).2 H
 obtain⟨oc,h6,h7⟩:=ab x a pan _ r h5;have aj:∀y∈r1++r2,InS u y:=λy m=>by
  rcases zUa.1 m with m|m
  .exact zAH c.io x L y m
  .exact zAH c.as a O y m
 have hf:=zFu (h7 u _ _ r1 r2 L O W) (zED W aj);rw[<-zVa,zWV,e0]at hf;refine zHR hf ?_;rintro o s' ⟨s1,g,rfl,X⟩;cases oc with
 |none=>
  cases o with
  |ret w=>exact g.elim
  |pan e=>exact⟨g,h6⟩
 |some y=>
  cases o with
  |pan e=>exact g.elim
  |ret w=>
   obtain⟨ws,q1,q2,Y,Z,ak,rfl⟩:=g;obtain⟨hj,aa⟩:=F.rest X p;have al:bdds d.nl d.nx args=true:=by rw[e3,e4,e1,e2];exact ae
   have A:∀z∈q1++q2,InS s1 z:=λz n=>by
    rcases zUa.1 n with n|n
    .exact zAH c.oo y.1 Y z n
    .exact zAH c.rs y.2 Z z n
   obtain⟨am,an,ao⟩:=zUe.1 ak;have ap:bdds d.nl d.nx (args.take c.io.length)=true:=zJm al _;obtain⟨N3,K,h8,h9,aq,ar⟩:=zLX I c.oo y.1 (args.take c.io.length) hj (jU c.oo y.1 Y (zCy _ _ _ _)) am (λz n H=>aa z H (A z (by simp[n]))) ap h6;obtain⟨N4,aw,D,k1,k2,k3,k4,k5,k6⟩:=zAF I c.rs y.2 aq (jU c.rs y.2 Z (zCy _ _ _ _)) an (λz n H=>by
    rcases ar z H with q|q
    .exact aa z q (A z (by simp[n]))
    .exact ao z q z n rfl) h8
   have au:Turn N st N0 d:=⟨i.ext,by rw[e3,e1];exact i.nl,by rw[e4,e2];exact i.nx⟩;refine⟨λl hl=>?_,N4,D,_,k1,au.trans (h9.trans k2),k3,by rw[<-zDE,k4]⟩;obtain⟨es,eN⟩:=E (λe=>by rw[e]at hl;cases hl);subst es;subst eN;obtain⟨b,G⟩:=zL9 h4 l hl;rw[F.box l b G];exact(zDz X (λhm=>p _ hm ⟨l,b,G,rfl⟩) (F.box l b G)).1
def zRO{s:S}{q:db Res}(f:q.Nodup)(hi:∀y∈q,InS s y)(d:s.tg.Nodup):(kZ (subS s q) s (subS s q)).sub s:=by
 have i:=zED f hi;refine⟨λb c h=>?_,λt g=>?_,λ_=>d,λb h=>?_,?_,λb c h=>?_⟩
 .rw[zD3];by_cases a:Res.inr b∈q
  .rw[(yS s q b).1 a,h];rfl
  .rw[(yS s q b).2 a,ky,(yS s q b).2 a];simpa using h
 .by_cases a:Res.inl t∈q
  .exact zUu _ ((zER s q t).2 a)
  .exact zU8 _ (rtg_iff.2 ⟨g,λh=>a ((zER s q t).1 h)⟩)
 .rw[zD3]at h;by_cases a:Res.inr b∈q
  .rw[(yS s q b).1 a]at h;cases e:Al.look s.box b with
   |none=>rfl
   |some c=>rw[e]at h;cases h
  .rw[(yS s q b).2 a,ky,(yS s q b).2 a]at h;simpa using h
 .show max s.nx s.nx<=s.nx;omega
 .rw[zEv];by_cases a:Res.ob b∈q
  .rw[(yP s q b).1 a,h];rfl
  .rw[(yP s q b).2 a,zAt,(yP s q b).2 a];simpa using h
def zRa{P:di}{f:dt}{va:db V}{w:V}{s:S}{q:db Res}(k:q.Nodup)(hi:∀y∈q,InS s y)(h:FnC P f va (subS s q) λoc s'=>oc=.ret w/\s'=subS s q):FnC P f va s λoc s'=>oc=.ret w/\s'=s:=by
 intro B g w vs a d l;refine(zFu h (zED k hi) B g w vs a d l).mono ?_;rintro e w' ⟨g',s',m,n,i⟩;have b:=zRO k hi a.nodup;cases e with
 |returned v=>
  obtain⟨r,o,p,⟨j,rfl⟩,rfl,_⟩:=i;exact⟨g',s,m,n.weaken b,r,o,j,rfl⟩
 |panicked c=>obtain⟨p,⟨j,_⟩,_⟩:=i;cases j
 |outgrown=>exact i.elim
def zQY(e:CodOk C){c:CR U}{f:Nat}(d:CROk C P f c){N:NM}{st:St U}{s:S}(n:dF C N st s){args:db (T U)}{k:T U->St U->da R}
 (h:zOF C c args st k=some r):∃v,FnC P f (args.map (trT C N)) s (λoc s'=>oc=.ret (trT C N v)/\s'=s)/\k v st=some r/\bdd 0 0 v=true:=by
 unfold zOF at h;obtain⟨x,o,q,p,u,I,J,g,i,K,L⟩:=kV e c.as (vs:=args) (vs':=args.map (trT C N)) n dQ (λj x v a b=>by
  rw[zUy,a]at b;injection b with b
  exact .inr b.symm) h
 obtain⟨y,w,z⟩:=d x _ r p;obtain⟨l,A,m,B⟩:=zK6 e c.rs y w;obtain⟨D,E,F⟩:=z s _ q g i;have G:=B N s D [] (E s);refine⟨finT l,?_,A,?_⟩
 .rw[<-zDE,<-G];exact zRa i (λy H=>zAH c.as x g y H) F
 .cases l with
  |nil=>rfl
  |cons t r=>cases r with
   |nil=>simpa [bdds,finT]using m
   |cons M r=>simpa [finT,bdd]using m
def untag_at{x:V}{v:dh}(h:x.untag=.at v):x=.at v:=by
 cases x with
 |lst tg es=>cases tg<;>simp[V.untag,xB]at h
 |_=>first|exact h|(simp[V.untag,xB]at h;done)
def zDS(hT:TbOk C P Tb)(j:CodOk C)(G:P.follows .mixedOrders=true){syn:db dj}{pf rf:dt->dd}{fu:Nat}{inl:Nat->da (FD U)}{orc:Nat->da (Con U)}{orr:Nat->da (CR U)}{orp:Nat->da (CP U)}{pan:da R}
 (D:∀f,pf f=(orc f).isSome) (E:∀f,rf f=(orr f).isSome) (H:∀f a,inl f=some a->FDOk P pf rf f a) (I:∀f c,orc f=some c->OrcOk C P f c)
 (V:∀f c,orr f=some c->xY P f=true/\CROk C P f c) (W:∀f c,orp f=some c->xY P f=true/\dI C P syn f c) :
 ∀(d:Nat)(wr own:Nat->dd)(kl:db (Nat×Nat))(kb:Nat->db Nat),zEo C P ⟨pf,wr,own,rf,kl,kb⟩ (zDx C Tb fu inl orc orr orp pan d:Call U R) r (λe=>e=syn/\pan=some r)
 |0,wr,own,kl,kb,f,args,ks,st,k,N,s,_,_,_,h,_,_,_,_,_,_=>by simp[zDx]at h
 |d+1,wr,own,kl,kb,f,args,ks,st,k,N,s,Y,J,ha,h,K,KP,ad,Z,hK,aa=>by
  simp only[zDx]at h;cases L:Nat.ble 1000000 f with
  |true=>
   rw[L]at h;simp only[zUi]at h;have ai:1000000<=f:=zV2 L;cases M:Nat.ble 2000000 f with
   |true=>
    rw[M]at h;simp only[zUi]at h;have ag:2000000<=f:=zV2 M;refine⟨λF=>absurd F dM,λm O=>absurd (mIx_lt m) dM,λm O as0 caps he h5 h6=>?_⟩;have ae:f-2000000=m:=by unfold cIx at O;omega
    rw[ae]at h;subst he;split at h
    .cases h
    rename_i T;have hp:¬pf m=true:=by rw[D,T];simp
    split at h
    .cases h
    rename_i o;have p:¬rf m=true:=by rw[E,o];simp
    split at h
    .rename_i a ab;obtain⟨q,Q⟩:=zP h;simp only[zUE,zWk]at q;have i:=H m a ab;obtain⟨fn,q1,q2,q3,q4⟩:=i.fn;refine⟨i.code,zBK N h5,zJc h6,?_⟩;show(if pf m=true then _ else if rf m=true then _ else _);rw[if_neg hp,if_neg p];refine⟨_,Sub.refl _,?_⟩;rw[<-zVa];refine zJg q1 q2 q3 q4 (by simpa [zV3]using q.1) λB=>?_;refine kF (X:=⟨B,⟨a.n,[]⟩,none,[]⟩) (PP:=λe=>e=syn/\pan=some r) hT j G (zDS hT j G D E H I V W d a.fi.wr a.fi.own) a.body Y (zCf (as0++caps) 0 J) Q i.ok i.hok (λe s' hq=>aa e s' hq) ?_;intro ex N' e' z E' s' p1 p2 p3 p4 _;have ac:(dres C Tb e' z a.rs λvs=>k (finT vs) z)=some r->jD P a.rs E' s' λxs=>∃s0,s'.sub s0/\((∀b∈ad,Al.look s0.box b=Al.look s.box b)/\K (finV xs) s0):=λhh=>
      zEy hT j p3 p4 a.rs hh λvs hv=>⟨s',S.sub_refl _,⟨λb J=>absurd (Z b J) eW,hK _ _ _ _ _ hv p2 p3 (.inr (zDE N' vs))⟩⟩
     cases ex<;>simp only at p1<;>first|exact ac p1|cases p1
    .cases h
   |false=>
   rw[M]at h;simp only[zUk]at h;have ah:f<2000000:=by
    rcases zUx f 2000000 with h9|h9
    .exact h9
    .exact absurd (zWr h9) (by rw[M];simp)
   refine⟨λF=>absurd F dM,λm O a0 as0 he=>?_,λm O=>absurd O (by unfold cIx;omega)⟩;split at h
   .rename_i c T;subst he;obtain⟨x,A,h4⟩:=zFQ j c.as h;cases hx:c.fn x with
    |none=>rw[hx]at A;cases A
    |some y=>
     rw[hx]at A;simp only[zVY,zEd C c.rs y 0]at A;obtain⟨t,u,g,q1,q2,q3,q4,q5⟩:=(I f c T).2 m O x y hx _ _ (h4 N);have q6:trT C N a0=.at (.iface t u):=untag_at q1;rw[q6];simp only[zMx,q2];refine⟨q3,q4,(by have:=zBK (C:=C) N ha;simp only[zUC,zUd,zUE]at this;exact this.2),_,by simpa [zVr]using q5,hK _ _ _ _ _ A (.refl _ _) Y (.inr ?_)⟩;rw[zPf j N ⟨id,id,id,id⟩ (zDq j c.rs _ 0 y),zDE]
   .cases h
  |false=>
  rw[L]at h;simp only[zUk]at h;have F:f<1000000:=by
   rcases zUx f 1000000 with h9|h9
   .exact h9
   .exact absurd (zWr h9) (by rw[L];simp)
  refine⟨λ_=>?_,λm O=>absurd (zPd m) dM,λm O=>absurd O (by unfold cIx;omega)⟩;split at h
  .rename_i c T;obtain⟨q,Q⟩:=(I f c T).1 F;obtain⟨x,A,h4⟩:=zFQ j c.as h;cases hx:c.fn x with
   |none=>rw[hx]at A;cases A
   |some y=>
    rw[hx]at A;simp only[zVY,zEd C c.rs y 0]at A;refine⟨q,zBK N ha,rfl,?_⟩;have hp:pf f=true:=by rw[D,T];rfl
    show(if pf f=true then _ else _);rw[if_pos hp];refine⟨rfl,_,Q x y hx _ (h4 N),hK _ _ _ _ _ A (.refl _ _) Y (.inr ?_)⟩;rw[zPf j N ⟨id,id,id,id⟩ (zDq j c.rs _ 0 y),zDE]
  .rename_i T;have hp:¬pf f=true:=by rw[D,T];simp
   split at h
   .rename_i c o;obtain⟨q,Q⟩:=V f c o;obtain⟨v,A,h4,_⟩:=zQY j Q Y h;refine⟨q,zBK N ha,rfl,?_⟩;have p:rf f=true:=by rw[E,o];rfl
    show(if pf f=true then _ else if rf f=true then _ else _);rw[if_neg hp,if_pos p];exact⟨_,_,Sub.refl _,by rw[zUR];exact A,hK _ _ _ _ _ h4 (.refl _ _) Y (.inr rfl)⟩
   .rename_i o;have p:¬rf f=true:=by rw[E,o];simp
    split at h
    .rename_i c af;obtain⟨q,Q⟩:=W f c af;refine⟨q,zBK N ha,rfl,?_⟩;show(if pf f=true then _ else if rf f=true then _ else _);rw[if_neg hp,if_neg p];refine⟨_,Sub.refl _,?_⟩;rw[zUR];refine zHR (zQz j Q Y J h) ?_;intro oc s' hq;cases oc with
     |pan e=>exact aa e s' hq
     |ret w=>
      obtain⟨q1,N',z,v,q2,q3,q4,q5⟩:=hq;refine⟨λb J=>?_,hK _ _ _ _ _ q2 q3 q4 (.inr q5)⟩;obtain⟨l,hl,rfl⟩:=Z b J;exact q1 l hl
    .split at h
     .rename_i a ab;obtain⟨q,Q⟩:=zP h;simp only[zUE,zWk]at q;have i:=H f a ab;obtain⟨fn,q1,q2,q3,q4⟩:=i.fn;refine⟨i.code,zBK N ha,rfl,?_⟩;show(if pf f=true then _ else if rf f=true then _ else _);rw[if_neg hp,if_neg p];refine⟨_,Sub.refl _,?_⟩;rw[zUR];refine zJg q1 q2 q3 q4 (by simpa [zV3]using q.1) λB=>?_;refine kF (X:=⟨B,⟨a.n,[]⟩,none,[]⟩) (PP:=λe=>e=syn/\pan=some r) hT j G (zDS hT j G D E H I V W d a.fi.wr a.fi.own) a.body Y (zCf args 0 J) Q i.ok i.hok (λe s' hq=>aa e s' hq) ?_;intro ex N' e' z E' s' p1 p2 p3 p4 _;have ac:(dres C Tb e' z a.rs λvs=>k (finT vs) z)=some r->jD P a.rs E' s' λxs=>∃s0,s'.sub s0/\((∀b∈ad,Al.look s0.box b=Al.look s.box b)/\K (finV xs) s0):=λhh=>
       zEy hT j p3 p4 a.rs hh λvs hv=>⟨s',S.sub_refl _,⟨λb J=>absurd (Z b J) eW,hK _ _ _ _ _ hv p2 p3 (.inr (zDE N' vs))⟩⟩
      cases ex<;>simp only at p1<;>first|exact ac p1|cases p1
     .cases h
def fnP{c d as rs:db (SK U)}(f:zA c->zA as->da (da (zA d×zA rs))){R:Type}(x:zA c)(a:zA as)(b:da R)(K:zA d->zA rs->da R):da R:=
 Option.bind (f x a) λo=>zX o b λy=>K y.1 y.2
def xS{f:dt}{e:Func}{c:dE}{args:db V}{st:S}{Q:Outc->S->Prop}{N:Nat}{rs:db du}(p:P.funcs[f]?=some e)(q:e.body=some c)(s:e.ntmps=N)(k:e.results=rs.toArray)(t:args.length<=N)
 (h:∀B,awp P ⟨B,⟨N,[]⟩,none,[]⟩ c (retE P rs Q) (qJ 0 args) st):FnC P f args st Q:=by
 intro B g w vs hi m u;refine calls_of_wp p q ?_;have x:=zEB (N:=N) hi m u t;rw[s];refine wpIn_wide.1 (wpIn_mono (h B g _ w x) ?_);rintro y n w' ⟨g',e',a,o,i,b⟩;have j:e.results.toList=rs:=by rw[k]
 subst j;have d:yx P e.results.toList e' a (λxs=>Q (.ret (finV xs)) a)->n.defers=[]/\∃v,(results e n.tmps).run P w'=.ok v w' /\
  ∃g' a,dB B g w g' w'/\Inv B g' a w'/\∃r,RV g' w' r v/\Q (.ret r) a:=by
  intro b;obtain⟨xs,us,k1,k2,z⟩:=zAG b i;exact⟨i.df,_,zAQ z,g',a,o,i.inv,_,zEN (zJq k2),k1⟩
 cases y with
 |normal=>exact d b
 |ret=>exact d b
 |panic c=>exact⟨i.df,g',a,o,i.inv,b⟩
 |exit id=>exact b.elim
 |goto l=>exact b.elim
 |outgrown=>exact b.elim
def zM2(V:TbOk C P Tb)(A:CodOk C)(hm:P.follows .mixedOrders=true){syn:db dj}{pf rf:dt->dd}{fu d:Nat}{inl:Nat->da (FD U)}{orc:Nat->da (Con U)}{orr:Nat->da (CR U)}{orp:Nat->da (CP U)}
 (W:∀f,pf f=(orc f).isSome) (Y:∀f,rf f=(orr f).isSome) (Z:∀f i,inl f=some i->FDOk P pf rf f i) (aa:∀f c,orc f=some c->OrcOk C P f c)
 (ab:∀f c,orr f=some c->xY P f=true/\CROk C P f c) (ac:∀f c,orp f=some c->xY P f=true/\dI C P syn f c) {f:Nat} {i:FD U} (D:FDOk P pf rf f i) {o E as rs:db (SK U)} (H:o.length+as.length<=i.n)
 {fn:zA o->zA as->da (da (zA E×zA rs))} (h:∀x a,runP C Tb fu d inl orc orr orp i o E as rs x a=fn x a):dI C P syn f ⟨o,E,as,rs,fnP fn⟩:=by
 intro x a R ak K r F;unfold fnP at F;simp only at F;cases hx:fn x a with
 |none=>rw[hx]at F;cases F
 |some oc=>
  rw[hx]at F;simp only[zVY]at F;refine⟨oc,by cases oc<;>exact F,λs I va r1 r2 J L hn=>?_⟩;obtain⟨al,q1,q2,q3,q4⟩:=D.fn;have p:=(h x a).trans hx;unfold runP at p;have u:=jU o x J ((zD7 s (r1++r2)).mono λy m=>zUu _ m);have w:=jU as a L ((zD7 s (r1++r2)).mono λy m=>zU8 _ m);generalize subS s (r1++r2)=s0 at u w ⊢;obtain⟨ad,ae,af⟩:=zUe.1 hn;have M:∀y,¬Has ⟨id,id,id,id⟩ (⟨[],[],0,0,[]⟩:St U) y:=λy m=>by
   cases y with
   |inl n=>obtain⟨t,ht,_⟩:=m;cases ht
   |inr b=>obtain⟨l,b,hl,_⟩:=m;simp[lk]at hl
   |ob b=>obtain⟨l,b,hl,_⟩:=m;simp[lko]at hl
  obtain⟨N1,g,am,k1,k2,k3,k4,k5,k6⟩:=zAF A o x (SSim.empty ⟨id,id,id,id⟩ 0 0 s0) u ad (λy m N=>M y N) p;rw[jF]at k1;obtain⟨N2,G,O,p1,Q,p3,p4,p5,p6⟩:=zAF A as a k3 w ae (λy m N=>by
   rcases k6 y N with q|q
   .exact M y q
   .exact af y q y m rfl) k1
  rw[jF,zDM]at p1;have e1:g.map (trT C N2)=I:=by rw[qe Q.ext k5,k4]
  have ag:bdds O.nl O.nx (g++G)=true:=zG4 (qZ Q.nl Q.nx _ k5) p5;have k:I++va=(g++G).map (trT C N2):=by rw[zVa,e1,p4]
  have ah:I.length=o.length:=zE3 o x J;have ai:va.length=as.length:=zE3 as a L;rw[k];refine xS q1 q2 q3 q4 (by rw[<-k,zUI,ah,ai];exact H) λB=>?_;refine kF (X:=⟨B,⟨i.n,[]⟩,none,[]⟩) (PP:=λe=>e=syn/\(some none:da (da (zA E×zA rs)))=some oc) V A hm (zDS V A hm W Y Z aa ab ac d i.fi.wr i.fi.own) i.body p3 (zCf (g++G) 0 ag) p1 D.ok D.hok (λe s' hq=>by
   obtain⟨h1,S⟩:=hq;injection S with S
   subst S;exact h1) ?_
  intro ex N' e' T E' s' u1 u2 u3 u4 _;have aj:(dres C Tb e' T i.rs λus=>zGm C rs us λz=>qx C E g T λy _=>some (some (y,z)))=some oc->yx P i.rs E' s' λxs=>jQ C syn E rs I oc (.ret (finV xs)) s':=λN=>
   zGi V A u3 u4 i.rs N λus hv=>by
    obtain⟨z,h1,S⟩:=zLd A rs hv;obtain⟨y,an,q,h3,_,_,_,h4,h5,_,_⟩:=kV A E (vs:=g) (vs':=g.map (trT C N')) u3 dQ (λj x v a b=>by
     rw[zUy,a]at b;injection b with b
     exact .inr b.symm) h1
    injection h3 with h3
    subst h3;have e2:g.map (trT C N')=I:=by rw[qe u2.ext (qZ Q.nl Q.nx _ k5),e1]
    rw[e2]at h4;exact⟨_,q,[],h4,S N' s',by simpa using h5,rfl⟩
  cases ex<;>simp only at u1<;>first|exact aj u1|cases u1
end
open Go.Al
section
variable{U:TyU}{R:Type}{r:R}
def pInt(k:dm)(v:T U)(K:Int->da R):da R:=
 match v with
 |.int a n=>bif decide (a=k)then K n else none
 |_=>none
def zKP(v:T U)(K:dd->da R):da R:=
 match v with
 |.bool b=>K b
 |_=>none
def pStr(v:T U)(K:db UInt8->da R):da R:=
 match v with
 |.str s=>K s
 |_=>none
def pDl(i:U.I)(v:T U)(K:db (U.den i)->da R):da R:=
 match v with
 |.nil=>K []
 |.lst m j ys=>zAZ i j ys λxs=>(match m with
  |.dl=>K xs
  |.b n=>bif (bif n then xs.isEmpty else !xs.isEmpty)then K xs else none
  |.ow _ a=>bif a then K xs else bif !xs.isEmpty then K xs else none)
 |_=>none
variable{C:Cod U}
def xu{k:dm}{v:T U}{K:Int->da R}(h:pInt k v K=some r):∃x,K x=some r/\(∀N,trT C N v=.at (.int k x))/\∀N,xB (trT C N v)=.at (.int k x):=by
 unfold pInt at h;split at h
 .obtain⟨a,b⟩:=zP h;simp only[zU7]at a;subst a;exact⟨_,b,λ_=>rfl,λ_=>rfl⟩
 .cases h
def zEw{v:T U}{K:dd->da R}(h:zKP v K=some r):∃x,K x=some r/\(∀N,trT C N v=.at (.bool x))/\∀N,xB (trT C N v)=.at (.bool x):=by
 unfold zKP at h;split at h
 .exact⟨_,h,λ_=>rfl,λ_=>rfl⟩
 .cases h
def zGd{v:T U}{K:db UInt8->da R}(h:pStr v K=some r):∃x,K x=some r/\(∀N,trT C N v=.at (.string ⟨x.toArray⟩))/\∀N,xB (trT C N v)=.at (.string ⟨x.toArray⟩):=by
 unfold pStr at h;split at h
 .exact⟨_,h,λ_=>rfl,λ_=>rfl⟩
 .cases h
def pDl_ok{i:U.I}{v:T U}{K:db (U.den i)->da R}(h:pDl i v K=some r):∃x,K x=some r/\∀N,xB (trT C N v)=.lst (zx (x.map (C.encV i))) (x.map (C.encV i)):=by
 unfold pDl at h;split at h
 .exact⟨_,h,λN=>rfl⟩
 .rename_i m j ys;have c:=jH h;clear h;obtain⟨rfl,h⟩:=c;simp only[zAX]at h;split at h
  .refine⟨_,h,λN=>?_⟩;cases ys<;>rfl
  .rename_i n;obtain⟨a,b⟩:=zP h;refine⟨_,b,λN=>?_⟩;cases n<;>cases ys<;>simp at a<;>rfl
  .rename_i t d;cases d with
   |true=>exact⟨_,h,λN=>rfl⟩
   |false=>
    simp only[zUk]at h;obtain⟨a,b⟩:=zP h;refine⟨_,b,λN=>?_⟩;cases ys<;>simp at a
    rfl
 .cases h
def zDv(v:dh):xB (.at v)=.at v:=rfl
def zEA{x y:V}(h:xB x=y)(a:y.isAgg=false:=by rfl):x.untag=y:=by
 cases x<;>first|exact h|(subst h;cases a)
def zBO(es:db V):xB (.lst (zx es) es)=.lst (zx es) es:=zDb es
def zH7:db (Nat×TD U)->Nat->TD U
 |[],_=>{}
 |(k,d)::r,t=>bif Nat.beq k t then d else zH7 r t
def zLo{P:di}:∀{l:db (Nat×TD U)},(∀p∈l,dK C P p.1 p.2)->TbOk C P (zH7 l)
 |[],_,t,h=>by simp[zH7]at h
 |(k,d)::r,a,t,h=>by
  simp only[zH7]at h ⊢;by_cases e:k=t
  .subst e;have:Nat.beq k k=true:=dQ
   simp only[this,zUi]at h ⊢;exact a (k,d) dQ
  .simp only[qN e,zUk]at h ⊢;exact zLo (λp b=>a p (by simp[b])) t h
def jV(a:Func):dE:=a.body.getD .skip
def zG{α:Type _}:db (Nat×α)->Nat->da α
 |[],_=>none
 |(k,d)::r,t=>bif Nat.beq k t then some d else zG r t
def qw{α:Type _}:∀{l:db (Nat×α)}(f:Nat),(zG l f).isSome=hasN (l.map (·.1)) f
 |[],_=>rfl
 |(k,d)::r,f=>by
  simp only[zG,zUC,hasN];by_cases e:k=f
  .have:Nat.beq k f=true:=by simpa using e
   simp[this]
  .simp only[qN e,zUk];exact qw f
def noLs:db (AK U)->dd
 |[]=>true
 |a::r=>(match a with|.ls _=>false|_=>true)&&noLs r
def qj:∀{l:db (AK U)},noLs l=true->∀a∈l,∀i,a≠.ls i
 |[],_,a,c,_=>by simp at c
 |b::r,h,a,c,i=>by
  simp only[noLs,zUE]at h;rcases zUG.1 c with rfl|c
  .intro e;subst e;simp at h
  .exact qj h.2 a c i
def ConOk.sub{P:di}{f:Nat}{as rs:db (AK U)}{b a:zj as->da (zj rs)}(h:ConOk C P f ⟨as,rs,b⟩)(c:∀x y,a x=some y->b x=some y):ConOk C P f ⟨as,rs,a⟩:=
 λx y d=>h x y (c x y d)
def zC{α:Type _}{p:Nat->α->Prop}:∀f a,zG ([]:db (Nat×α)) f=some a->p f a:=λf a h=>by simp[zG]at h
def zD{α:Type _}{p:Nat->α->Prop}{k:Nat}{d:α}{r:db (Nat×α)}(b:p k d)(c:∀f a,zG r f=some a->p f a):∀f a,zG ((k,d)::r) f=some a->p f a:=λf a h=>by
 simp only[zG]at h;by_cases e:k=f
 .subst e;have:Nat.beq k k=true:=dQ
  simp only[this,zUi]at h;injection h with h
  subst h;exact b
 .simp only[qN e,zUk]at h;exact c f a h
def zHL{σ R:Type}{F:(σ->da R)->σ->da R}{r:R}(I:σ->Prop)(μ:σ->Nat)(step:∀(rec:σ->da R) s,I s->(∀s',I s'->μ s'<μ s->rec s'=some r)->F rec s=some r) :
 ∀(n:Nat)(s:σ),I s->μ s<n->iter n F s=some r:=by
 intro n
 induction n with
 |zero=>intro s _ h;omega
 |succ n a=>
  intro s b d;simp only[iter];exact step _ s b λs' hs' c=>a s' hs' dM
end
end Go.Den
end
namespace Go.Den
section
open Go.Al Go.ChangeShapes Go.WideShapes Go.ChangeAt Go.RowKit
def wmOf(w:de):Nat->Nat:=λb=>match w.heap[b]? with|some (.cells c _ _)=>c.size|_=>0
def zOg(w:de):∀b,w.heap.size<=b->wmOf w b=0:=λb a=>by
 unfold wmOf;rw[zVW a]
end
end Go.Den
