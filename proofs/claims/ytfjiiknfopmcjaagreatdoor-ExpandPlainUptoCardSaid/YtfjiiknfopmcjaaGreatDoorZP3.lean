/-
  Part 3 of what the last text needs: library, runs, contracts, plain laws. No condition of its own.
-/
import Derived.Test.YtfjiiknfopmcjaaGreatDoorZP2
import Derived.WalkKit
import Derived.ProofKit
import Derived.OpenShut
import Derived.ShutString
import Derived.ChangeOld
import Derived.Below
import Derived.Carry
set_option linter.unusedVariables false
set_option linter.unusedSimpArgs false
set_option linter.unusedSectionVars false
section
namespace Go.Den
open Go.Al
structure TyU where
 I:Type
 den:I->Type
 [deq:DecidableEq I]
attribute [instance] TyU.deq
inductive TM where
 |b (n:Bool)
 |dl
 |ow (t:Nat) (nb:Bool)
inductive T(U:TyU):Type where
 |any
 |int (k:IntKind) (n:Int)
 |bool (b:Bool)
 |str (s:List UInt8)
 |con (v:Value)
 |nil
 |agg (fs:List (T U))
 |tup (vs:List (T U))
 |lst (m:TM) (i:U.I) (xs:List (U.den i))
 |rptr (x:T U)
 |ptr (l:Nat) (o:Nat)
 |ptrE (l:Nat) (k:Nat) (o:Nat)
 |sl (l:Nat) (n:Nat)
 |clo (fn:Fn) (caps:List (T U))
 |ifx
 |hd (l:Nat)
 |sr (l:Nat)
 |lp (l:Nat)
 |cd (i:U.I) (x:U.den i)
 |slE (l a n:Nat)
instance{U:TyU}:Inhabited (T U):=⟨.any⟩
structure Cod(U:TyU) where
 enc:(i:U.I)->U.den i->T U
 encV:(i:U.I)->U.den i->V
 dec:(i:U.I)->{R:Type}->T U->(U.den i->Option R)->Option R
 dflt:(i:U.I)->U.den i
 cells:U.I->Nat
 agg:U.I->Bool
 plain:U.I->Bool
 ifv:(i:U.I)->U.den i->Value:=λ_ _=>.nilIface
 u8:(i:U.I)->Option (U.den i->Int):=λ_=>none
structure NM where
 bl:Nat->Nat
 cp:Nat->Nat
 sz:Nat->Nat
 tk:Nat->Nat
section
variable{U:TyU}(C:Cod U)
def trM(N:NM)(sz:Nat)(es:List V):TM->Tag
 |.b n=>if n then .nil else .no
 |.dl=>yL es
 |.ow t a=>.own (N.tk t) a sz
mutual
def trT(N:NM):T U->V
 |.any=>.any
 |.int k n=>.at (.int k n)
 |.bool b=>.at (.bool b)
 |.str s=>.at (.string ⟨s.toArray⟩)
 |.con v=>.at v
 |.nil=>.lst .nil []
 |.agg fs=>.agg (trTs N fs)
 |.tup vs=>.tup (trTs N vs)
 |.lst m i xs=>.lst (trM N (C.cells i) (xs.map (C.encV i)) m) (xs.map (C.encV i))
 |.rptr x=>.rptr (trT N x)
 |.ptr l o=>.at (.pointer (some ⟨N.bl l,o,none⟩))
 |.ptrE l k o=>.at (.pointer (some ⟨N.bl l,k*N.sz l+o,none⟩))
 |.sl l n=>.at (.slice (some ⟨N.bl l,0,none⟩) n (N.cp l))
 |.clo fn caps=>.clo fn (trTs N caps)
 |.ifx=>.ifx
 |.hd l=>.at (.map (if N.cp l=0 then none else some (N.bl l)))
 |.sr l=>.at (.slice (some ⟨N.bl l,0,none⟩) (N.sz l) (N.cp l))
 |.lp l=>.at (.pointer (if N.cp l=0 then none else some ⟨N.bl l,0,none⟩))
 |.cd i x=>.at (C.ifv i x)
 |.slE l a n=>.at (.slice (some ⟨N.bl l,if N.cp l=a then 0 else a*N.sz l,none⟩) n (N.cp l-a))
def trTs(N:NM):List (T U)->List V
 |[]=>[]
 |x::xs=>trT N x::trTs N xs
end
theorem yd(N:NM):∀l:List (T U),trTs C N l=l.map (trT C N)
 |[]=>rfl
 |x::r=>by simp[trTs,yd N r]
mutual
/-- Places and tokens that it names are there. -/
def bdd(nl nx:Nat):T U->Bool
 |.ptr l _=>Nat.blt l nl
 |.ptrE l _ _=>Nat.blt l nl
 |.sl l _=>Nat.blt l nl
 |.hd l=>Nat.blt l nl
 |.sr l=>Nat.blt l nl
 |.lp l=>Nat.blt l nl
 |.slE l _ _=>Nat.blt l nl
 |.lst m _ _=>(match m with|.ow t _=>Nat.blt t nx|_=>true)
 |.agg fs=>bdds nl nx fs
 |.tup fs=>bdds nl nx fs
 |.rptr x=>bdd nl nx x
 |.clo _ fs=>bdds nl nx fs
 |_=>true
def bdds(nl nx:Nat):List (T U)->Bool
 |[]=>true
 |x::xs=>bdd nl nx x&&bdds nl nx xs
end
structure Ext(nl nx:Nat)(N N':NM):Prop where
 bl:∀l,l<nl->N'.bl l=N.bl l
 cp:∀l,l<nl->N'.cp l=N.cp l
 sz:∀l,l<nl->N'.sz l=N.sz l
 tk:∀t,t<nx->N'.tk t=N.tk t
theorem Ext.refl(nl nx:Nat)(N:NM):Ext nl nx N N:=⟨λ_ _=>rfl,λ_ _=>rfl,λ_ _=>rfl,λ_ _=>rfl⟩
theorem Ext.trans{nl nx b c:Nat}{N d e:NM}(h:Ext nl nx N d)(h':Ext b c d e)(f:nl<=b)(g:nx<=c):Ext nl nx N e:=
 ⟨λl a=>(h'.bl l (by omega)).trans (h.bl l a),λl a=>(h'.cp l (by omega)).trans (h.cp l a),λl a=>(h'.sz l (by omega)).trans (h.sz l a),λl a=>(h'.tk l (by omega)).trans (h.tk l a)⟩
theorem Ext.less{nl nx a b:Nat}{N N':NM}(h:Ext nl nx N N')(d:a<=nl)(e:b<=nx):Ext a b N N':=
 ⟨λl c=>h.bl l (by omega),λl c=>h.cp l (by omega),λl c=>h.sz l (by omega),λl c=>h.tk l (by omega)⟩
theorem yh{a b:Nat}(h:Nat.blt a b=true):a<b:=by simpa [zYH]using h
mutual
theorem zC4{nl nx:Nat}{N N':NM}(h:Ext nl nx N N'):∀x:T U,bdd nl nx x=true->trT C N' x=trT C N x
 |.any,_=>rfl
 |.cd _ _,_=>rfl
 |.ifx,_=>rfl
 |.int _ _,_=>rfl
 |.bool _,_=>rfl
 |.str _,_=>rfl
 |.con _,_=>rfl
 |.nil,_=>rfl
 |.agg fs,hb=>by simp only[trT];rw[zDC h fs (by simpa only[bdd]using hb)]
 |.tup fs,hb=>by simp only[trT];rw[zDC h fs (by simpa only[bdd]using hb)]
 |.lst m i xs,hb=>by
  simp only[trT];cases m with
  |b n=>rfl
  |dl=>rfl
  |ow t nb=>
   simp only[bdd]at hb;simp only[trM,h.tk t (yh hb)]
 |.rptr x,hb=>by simp only[trT];rw[zC4 h x (by simpa only[bdd]using hb)]
 |.ptr l o,hb=>by simp only[bdd]at hb;simp only[trT,h.bl l (yh hb)]
 |.ptrE l k o,hb=>by simp only[bdd]at hb;simp only[trT,h.bl l (yh hb),h.sz l (yh hb)]
 |.sl l n,hb=>by simp only[bdd]at hb;simp only[trT,h.bl l (yh hb),h.cp l (yh hb)]
 |.hd l,hb=>by simp only[bdd]at hb;simp only[trT,h.bl l (yh hb),h.cp l (yh hb)]
 |.sr l,hb=>by simp only[bdd]at hb;simp only[trT,h.bl l (yh hb),h.cp l (yh hb),h.sz l (yh hb)]
 |.lp l,hb=>by simp only[bdd]at hb;simp only[trT,h.bl l (yh hb),h.cp l (yh hb)]
 |.slE l a n,hb=>by simp only[bdd]at hb;simp only[trT,h.bl l (yh hb),h.cp l (yh hb),h.sz l (yh hb)]
 |.clo fn fs,hb=>by simp only[trT];rw[zDC h fs (by simpa only[bdd]using hb)]
theorem zDC{nl nx:Nat}{N N':NM}(h:Ext nl nx N N'):∀xs:List (T U),bdds nl nx xs=true->trTs C N' xs=trTs C N xs
 |[],_=>rfl
 |x::xs,hb=>by
  simp only[bdds,zV5]at hb;simp only[trTs];rw[zC4 h x hb.1,zDC h xs hb.2]
end
theorem zAH{a b c:Nat}(h:Nat.blt a b=true)(d:b<=c):Nat.blt a c=true:=by
 have:=yh h;simp[zYH];omega
mutual
theorem zBu{nl nx nl' nx':Nat}(h1:nl<=nl')(h2:nx<=nx'):∀x:T U,bdd nl nx x=true->bdd nl' nx' x=true
 |.any,_=>rfl
 |.cd _ _,_=>rfl
 |.ifx,_=>rfl
 |.int _ _,_=>rfl
 |.bool _,_=>rfl
 |.str _,_=>rfl
 |.con _,_=>rfl
 |.nil,_=>rfl
 |.agg fs,hb=>by simp only[bdd]at hb ⊢;exact yr h1 h2 fs hb
 |.tup fs,hb=>by simp only[bdd]at hb ⊢;exact yr h1 h2 fs hb
 |.lst m i xs,hb=>by
  cases m with
  |b n=>rfl
  |dl=>rfl
  |ow t nb=>simp only[bdd]at hb ⊢;exact zAH hb h2
 |.rptr x,hb=>by simp only[bdd]at hb ⊢;exact zBu h1 h2 x hb
 |.ptr l o,hb=>by simp only[bdd]at hb ⊢;exact zAH hb h1
 |.ptrE l k o,hb=>by simp only[bdd]at hb ⊢;exact zAH hb h1
 |.sl l n,hb=>by simp only[bdd]at hb ⊢;exact zAH hb h1
 |.hd l,hb=>by simp only[bdd]at hb ⊢;exact zAH hb h1
 |.sr l,hb=>by simp only[bdd]at hb ⊢;exact zAH hb h1
 |.lp l,hb=>by simp only[bdd]at hb ⊢;exact zAH hb h1
 |.slE l _ _,hb=>by simp only[bdd]at hb ⊢;exact zAH hb h1
 |.clo fn fs,hb=>by simp only[bdd]at hb ⊢;exact yr h1 h2 fs hb
theorem yr{nl nx nl' nx':Nat}(h1:nl<=nl')(h2:nx<=nx'):∀xs:List (T U),bdds nl nx xs=true->bdds nl' nx' xs=true
 |[],_=>rfl
 |x::xs,hb=>by
  simp only[bdds,zV5]at hb ⊢;exact⟨zBu h1 h2 x hb.1,yr h1 h2 xs hb.2⟩
end
structure CodOk:Prop where
 enc:∀N i x,trT C N (C.enc i x)=C.encV i x
 bd:∀i x,bdd 0 0 (C.enc i x)=true
 dec:∀i {R:Type} v (k:U.den i->Option R) r,C.dec i v k=some r->∃x,k x=some r/\∀N,(trT C N v).untag=C.encV i x
 decP:∀i {R:Type} v (k:U.den i->Option R) r,C.plain i=true->C.dec i v k=some r->∃x,k x=some r/\∀N,trT C N v=C.encV i x
 size:∀i x,(C.encV i x).size=C.cells i
 isAgg:∀i x,(C.encV i x).isAgg=C.agg i
 ones:∀i x,zJ (C.encV i x).flat
 untag:∀i x,(C.encV i x).untag=C.encV i x
 one:∀i,C.agg i=false->C.cells i=1
 pos:∀i,0<C.cells i
 byt:∀i f,C.u8 i=some f->∀x,C.encV i x=.at (.int .u8 (f x))
def T.flat:T U->List (T U)
 |.agg fs=>fs
 |x=>[x]
def T.isOne:T U->Bool
 |.any|.agg _|.tup _=>false
 |_=>true
def yR(l:List (T U)):Bool:=l.all T.isOne
theorem qI(N:NM)(x:T U):(trT C N x).flat=x.flat.map (trT C N):=by
 cases x<;>simp[T.flat,trT,V.flat,yd]
theorem zE7(N:NM)(x:T U):(trT C N x).isOne=x.isOne:=by
 cases x<;>rfl
theorem y9(N:NM)(l:List (T U)):zJ (l.map (trT C N))↔yR l=true:=by
 unfold zJ yR;rw[List.all_map];have:(V.isOne∘trT C N)=T.isOne:=funext λx=>zE7 C N x;rw[this]
theorem zM8(N:NM)(x:T U):(trT C N x).isAgg=(match x with|.agg _=>true|_=>false):=by
 cases x<;>rfl
def cT1:Value->T U
 |.slice none 0 0=>.nil
 |.agg _=>.any
 |.tuple _=>.any
 |.int k n=>.int k n
 |.bool b=>.bool b
 |.string s=>.str s.data.toList
 |v=>.con v
def cT:Value->T U
 |.agg cs=>if cs.toList.all one then .agg (cs.toList.map cT1)else .any
 |v=>cT1 v
theorem zLn(N:NM)(v:Value):trT C N (cT1 v)=cV1 v:=by
 unfold cT1;split<;>simp[trT,cV1]
theorem cT_tr(N:NM)(v:Value):trT C N (cT v)=cV v:=by
 unfold cT cV;cases v<;>simp only[zLn]
 split
 .simp only[trT,yd,zXD];congr 1;exact zWx λv _=>zLn C N v
 .rfl
end
open Go.Al
inductive KQ where
 |i
 |b
 |s
def vkq:List KQ->List Value->List Value->Bool
 |[],us,vs=>us.isEmpty&&vs.isEmpty
 |q::r,us,vs=>(match us,vs with
  |u::us,v::vs=>(match q,u,v with
   |.i,.int k _,.int a _=>decide (k=a)&&vkq r us vs
   |.b,.bool _,.bool _=>vkq r us vs
   |.s,.string _,.string _=>vkq r us vs
   |_,_,_=>false)
  |_,_=>false)
def eqVs:List Value->List Value->Bool
 |u::us,v::vs=>eqAt (some u) (some v)&&eqVs us vs
 |_,_=>true
theorem zIV{r:List KQ}{us vs:List Value}(h:vkq (.i::r) us vs=true):∃k n m p q,us=.int k n::p/\vs=.int k m::q/\vkq r p q=true:=by
 cases us with
 |nil=>cases h
 |cons u p=>
  cases vs with
  |nil=>cases u<;>cases h
  |cons v q=>
   cases u<;>try(cases h;done)
   cases v<;>try(cases h;done)
   rename_i k n a m;simp only[vkq,zV5,zWV]at h;obtain⟨rfl,h⟩:=h;exact⟨_,_,_,_,_,rfl,rfl,h⟩
theorem vkq_b{r:List KQ}{us vs:List Value}(h:vkq (.b::r) us vs=true):∃n m p q,us=.bool n::p/\vs=.bool m::q/\vkq r p q=true:=by
 cases us with
 |nil=>cases h
 |cons u p=>
  cases vs with
  |nil=>cases u<;>cases h
  |cons v q=>
   cases u<;>try(cases h;done)
   cases v<;>try(cases h;done)
   exact⟨_,_,_,_,rfl,rfl,h⟩
theorem vkq_s{r:List KQ}{us vs:List Value}(h:vkq (.s::r) us vs=true):∃n m p q,us=.string n::p/\vs=.string m::q/\vkq r p q=true:=by
 cases us with
 |nil=>cases h
 |cons u p=>
  cases vs with
  |nil=>cases u<;>cases h
  |cons v q=>
   cases u<;>try(cases h;done)
   cases v<;>try(cases h;done)
   exact⟨_,_,_,_,rfl,rfl,h⟩
theorem zOR{us vs:List Value}(h:vkq [] us vs=true):us=[]/\vs=[]:=by
 cases us with
 |nil=>cases vs with
  |nil=>exact⟨rfl,rfl⟩
  |cons v q=>cases h
 |cons u q=>cases h
theorem zFM:∀{l:List KQ}{us vs:List Value},vkq l us vs=true->zBY us vs=true
 |[],us,vs,h=>by obtain⟨rfl,rfl⟩:=zOR h;rfl
 |.i::r,us,vs,h=>by
  obtain⟨k,n,m,p,q,rfl,rfl,a⟩:=zIV h;simp only[zBY,zZG,zWj];exact zFM a
 |.b::r,us,vs,h=>by
  obtain⟨n,m,p,q,rfl,rfl,a⟩:=vkq_b h;simp only[zBY,zWj];exact zFM a
 |.s::r,us,vs,h=>by
  obtain⟨n,m,p,q,rfl,rfl,a⟩:=vkq_s h;simp only[zBY,zWj];exact zFM a
structure TD(U:TyU) where
 has:Bool:=false
 agg:Bool:=false
 cells:Nat:=0
 bytes:Nat:=0
 el:Option TypeId:=none
 code:Option U.I:=none
 flds:List (Nat×TypeId):=[]
 isStruct:Bool:=false
 isStr:Bool:=false
 isBool:Bool:=false
 isIfc:Bool:=false
 ik:Option IntKind:=none
 zero:Option (List (T U)):=none
 arr:Option (Nat×U.I):=none
 isByt:Bool:=false
 bpl:List (Nat×TypeId):=[]
 mki:{R:Type}->T U->((i:U.I)->U.den i->Option R)->Option R:=λ_ _=>none
 eqk:Option (List KQ):=none
 mpi:Bool:=false
 mci:Option U.I:=none
def fieldsOf(P:Program)(t:TypeId):List (Nat×TypeId):=match P.underlying t with|some (.struct fs)=>fs.toList.map λf=>(f.offset,f.type)|_=>[]
theorem zIT(P:Program)(t:TypeId)(i:Nat):fieldAt P t i=(fieldsOf P t)[i]?:=by
 unfold fieldAt fieldsOf;cases P.underlying t with
 |none=>rfl
 |some d=>cases d<;>simp
def mkV(t:TypeId):V->Option Value
 |.at v=>some (.iface t v)
 |.agg fs=>(atsV fs).map λus=>.iface t (.agg us.toArray)
 |_=>none
structure Facts{U:TyU}(C:Cod U)(P:Program)(t:TypeId)(d:TD U):Prop where
 has:hasT P t=true
 agg:xD P t=d.agg
 cells:P.cellsOf t=d.cells
 bytes:P.bytesOf t=d.bytes
 el:elT P t=d.el
 flds:fieldsOf P t=d.flds
 isStruct:zDa P t=d.isStruct
 isStr:kN P t=d.isStr
 isBool:zGk P t=d.isBool
 isIfc:zFg P t=d.isIfc
 ik:intT P t=d.ik
 zero:∀N,yZ P t=d.zero.map λl=>l.map (trT C N)
 code:∀i,d.code=some i->C.cells i=d.cells/\C.agg i=d.agg
 arr:∀n i,d.arr=some (n,i)->arrT P t=some n
 isByt:zI2 P t=d.isByt\/d.isByt=false
 bpl:zFE P t=d.bpl\/d.bpl=[]
 mki:∀{R:Type}(x:T U)(k:(i:U.I)->U.den i->Option R)(r:R),d.mki x k=some r->P.concrete t=true/\∃i v,k i v=some r/\∀N,mkV t (trT C N x)=some (C.ifv i v)
 eqs:∀l,d.eqk=some l->∀us vs,vkq l us vs=true->zFL P t us vs=true/\zEv P t us vs=eqVs us vs
 mpi:d.mpi=true->∃e,mapT P t=some e/\zAM P e=some (.int .i64 0)
 mci:∀i,d.mci=some i->∃e z,mapT P t=some e/\zAM P e=some z/\zOk z=true/\zV z=C.encV i (C.dflt i)
theorem yC{P:Program}{t:TypeId}{l:List KQ}(h:(none:Option (List KQ))=some l):∀us vs,vkq l us vs=true->zFL P t us vs=true/\zEv P t us vs=eqVs us vs:=by cases h
inductive Bx(U:TyU) where
 |st (cs:List (T U))
 |ar (i:U.I) (xs:List (U.den i))
abbrev MT:=List (List UInt8×Int)
inductive TO(U:TyU) where
 |mp (c:MT)
 |sc (xs:List MT)
 |lv (xs:List (MT×MT))
 |l1 (x:MT×MT)
 |mc (i:U.I) (es:List (List UInt8×U.den i))
structure St(U:TyU) where
 bx:List (Nat×Option (Bx U))
 tg:List Nat
 nl:Nat
 nx:Nat
 ob:List (Nat×Option (TO U))
abbrev En(U:TyU):=List (Nat×T U)
section
variable{U:TyU}
def lk:List (Nat×Option (Bx U))->Nat->Option (Bx U)
 |[],_=>none
 |(k,b)::r,l=>bif Nat.beq k l then b else lk r l
def lko:List (Nat×Option (TO U))->Nat->Option (TO U)
 |[],_=>none
 |(k,b)::r,l=>bif Nat.beq k l then b else lko r l
def eget:En U->Nat->T U
 |[],_=>.any
 |(k,x)::r,j=>bif Nat.beq k j then x else eget r j
def eput(e:En U):Option Nat->T U->En U
 |none,_=>e
 |some d,x=>(d,x)::e
def gT(g:Nat):T U:=match zGu globA g with|some us=>.rptr (.agg (us.map cT1))|none=>.con (.pointer (some ⟨g,0,none⟩))
def evT(e:En U):Operand->T U
 |.tmp t=>eget e t
 |.const v=>cT v
 |.global g=>gT g
 |.func f=>.clo (.func f) []
def hasN:List Nat->Nat->Bool
 |[],_=>false
 |k::r,t=>bif Nat.beq k t then true else hasN r t
def rmN:List Nat->Nat->List Nat
 |[],_=>[]
 |k::r,t=>bif Nat.beq k t then rmN r t else k::rmN r t
def fe{R:Type}(x:T U)(k:T U->Option R):Option R:=
 match x with
 |.any=>k .any
 |.int a b=>k (.int a b)
 |.bool b=>k (.bool b)
 |.str s=>k (.str s)
 |.con v=>k (.con v)
 |.nil=>k .nil
 |.agg fs=>k (.agg fs)
 |.tup vs=>k (.tup vs)
 |.lst m i xs=>k (.lst m i xs)
 |.rptr x=>k (.rptr x)
 |.ptr l o=>k (.ptr l o)
 |.ptrE l a o=>k (.ptrE l a o)
 |.sl l n=>k (.sl l n)
 |.clo c caps=>k (.clo c caps)
 |.ifx=>k .ifx
 |.hd l=>k (.hd l)
 |.sr l=>k (.sr l)
 |.lp l=>k (.lp l)
 |.cd i x=>k (.cd i x)
 |.slE l a n=>k (.slE l a n)
theorem zB6{R:Type}(x:T U)(k:T U->Option R):fe x k=k x:=by cases x<;>rfl
def feL{R:Type}:List (T U)->(List (T U)->Option R)->Option R
 |[],k=>k []
 |x::xs,k=>feL xs λys=>k (x::ys)
theorem zBR{R:Type}:∀(l:List (T U))(k:List (T U)->Option R),feL l k=k l
 |[],_=>rfl
 |x::xs,k=>by simp[feL,zBR xs]
def fN{R:Type}(n:Nat)(k:Nat->Option R):Option R:=
 match n with
 |0=>k 0
 |m+1=>k (Nat.succ m)
theorem zy{R:Type}(n:Nat)(k:Nat->Option R):fN n k=k n:=by cases n<;>rfl
def feB{R:Type}:List (Nat×Option (Bx U))->(List (Nat×Option (Bx U))->Option R)->Option R
 |[],k=>k []
 |p::r,k=>match p with|(l,b)=>fN l λl=>feB r λa=>k ((l,b)::a)
theorem zRG{R:Type}:∀(l:List (Nat×Option (Bx U)))(k:List (Nat×Option (Bx U))->Option R),feB l k=k l
 |[],_=>rfl
 |(l,b)::r,k=>by simp only[feB,zy,zRG r]
def feO{R:Type}:List (Nat×Option (TO U))->(List (Nat×Option (TO U))->Option R)->Option R
 |[],k=>k []
 |p::r,k=>match p with|(l,b)=>fN l λl=>feO r λa=>k ((l,b)::a)
theorem zQd{R:Type}:∀(l:List (Nat×Option (TO U)))(k:List (Nat×Option (TO U))->Option R),feO l k=k l
 |[],_=>rfl
 |(l,b)::r,k=>by simp only[feO,zy,zQd r]
def feS{R:Type}(st:St U)(k:St U->Option R):Option R:=
 match st with
 |⟨bx,tg,nl,nx,ob⟩=>fN nl λnl=>fN nx λnx=>feB bx λbx=>feO ob λob=>k ⟨bx,tg,nl,nx,ob⟩
theorem xE{R:Type}(st:St U)(k:St U->Option R):feS st k=k st:=by
 cases st;simp only[feS,zy,zRG,zQd]
def zIC{R:Type}(e:En U)(d:Option Nat)(x:T U)(k:En U->Option R):Option R:=
 match d with
 |none=>k e
 |some d=>k ((d,x)::e)
theorem zHq{R:Type}(e:En U)(d:Option Nat)(x:T U)(k:En U->Option R):zIC e d x k=k (eput e d x):=by cases d<;>rfl
def feA{R:Type}:List (T U)->(List (T U)->Option R)->Option R
 |[],k=>k []
 |x::xs,k=>fe x λx=>feA xs λys=>k (x::ys)
theorem zB9{R:Type}:∀(l:List (T U))(k:List (T U)->Option R),feA l k=k l
 |[],_=>rfl
 |x::xs,k=>by simp only[feA,zB6,zB9 xs]
def feP{R:Type}:List (Nat×T U)->(List (Nat×T U)->Option R)->Option R
 |[],k=>k []
 |p::xs,k=>match p with|(i,x)=>fe x λx=>feP xs λys=>k ((i,x)::ys)
theorem zMP{R:Type}:∀(l:List (Nat×T U))(k:List (Nat×T U)->Option R),feP l k=k l
 |[],_=>rfl
 |(i,x)::xs,k=>by simp only[feP,zB6,zMP xs]
def inB(n:Int)(len:Nat):Bool:=decide (0<=n)&&decide (n<(len:Int))
def inS(l h:Int)(len:Nat):Bool:=decide (0<=l)&&decide (l<=h)&&decide (h<=(len:Int))
def okN(b n:Nat):Bool:=decide (n*b<=140737488355328)&&decide (n<=maxLen)
def iadd(k:IntKind)(a b:Int):Int:=k.wrap (a+b)
def isub(k:IntKind)(a b:Int):Int:=k.wrap (a-b)
def imul(k:IntKind)(a b:Int):Int:=k.wrap (a*b)
def iquo(k:IntKind)(a b:Int):Int:=k.wrap (a.tdiv b)
def iwrap(k:IntKind)(a:Int):Int:=k.wrap a
def irem(a b:Int):Int:=a.tmod b
def jand(k:IntKind)(a b:Int):Int:=iand k a b
def jor(k:IntKind)(a b:Int):Int:=ior k a b
def jxor(k:IntKind)(a b:Int):Int:=ixor k a b
def jandn(k:IntKind)(a b:Int):Int:=zPO k a b
def jshl(k:IntKind)(a b:Int):Int:=ishl k a b
def jshr(k:IntKind)(a b:Int):Int:=ishr k a b
def jnot(k:IntKind)(a:Int):Int:=inot k a
def zPP{α:Type}(f:α->Int)(xs:List α):List UInt8:=xs.map λx=>UInt8.ofNat (f x).toNat
def ieq(a b:Int):Bool:=a==b
def ine(a b:Int):Bool:=a != b
def ilt(a b:Int):Bool:=decide (a<b)
def ile(a b:Int):Bool:=decide (a<=b)
def seq(a b:List UInt8):Bool:=a==b
def beqB(a b:Bool):Bool:=a==b
def okS(n:Nat):Bool:=Nat.ble n 9223372036854775807
theorem okS_le{n:Nat}(h:okS n=true):(n:Int)<=IntKind.i64.max:=by
 have a:n<=9223372036854775807:=zWF h;have b:IntKind.i64.max=9223372036854775807:=by decide
 omega
def zFu(s:List UInt8)(n:Int):Int:=((s.getD n.toNat 0).toNat:Int)
def cutL{α:Type}(xs:List α)(l h:Int):List α:=(xs.take h.toNat).drop l.toNat
def zL{α:Type}(n:Nat)(xs:List α):List α:=xs.take n
def lenI{α:Type}(xs:List α):Int:=(xs.length:Int)
section ops
variable{R:Type}(C:Cod U)(Tb:TypeId->TD U)
def zPR(c a b:T U)(k:T U->Option R):Option R:=
 match c with
 |.bool t=>bif t then k a else k b
 |_=>none
def dInt(d:BinOp)(c:IntKind)(a b:Int)(k:T U->Option R):Option R:=
 match d with
 |.add=>k (.int c (iadd c a b))
 |.sub=>k (.int c (isub c a b))
 |.mul=>k (.int c (imul c a b))
 |.quo=>bif ine b 0 then k (.int c (iquo c a b))else none
 |.rem=>bif ine b 0 then k (.int c (irem a b))else none
 |.eql=>k (.bool (ieq a b))
 |.neq=>k (.bool (ine a b))
 |.lss=>k (.bool (ilt a b))
 |.leq=>k (.bool (ile a b))
 |.gtr=>k (.bool (ilt b a))
 |.geq=>k (.bool (ile b a))
 |.and=>k (.int c (jand c a b))
 |.or=>k (.int c (jor c a b))
 |.xor=>k (.int c (jxor c a b))
 |.andNot=>k (.int c (jandn c a b))
 |.shl=>bif ile 0 b then k (.int c (jshl c a b))else none
 |.shr=>bif ile 0 b then k (.int c (jshr c a b))else none
def dStr(c:BinOp)(a b:List UInt8)(k:T U->Option R):Option R:=
 match c with
 |.add=>bif okS (a.length+b.length)then k (.str (a++b))else none
 |.eql=>k (.bool (seq a b))
 |.neq=>k (.bool (!(seq a b)))
 |_=>none
def zO3(c:BinOp)(a b:Bool)(k:T U->Option R):Option R:=
 match c with
 |.eql=>k (.bool (beqB a b))
 |.neq=>k (.bool (!(beqB a b)))
 |_=>none
def nilT{α:Type}:TM->List α->Bool
 |.b n,_=>n
 |.dl,xs=>xs.isEmpty
 |.ow _ a,xs=>a&&xs.isEmpty
def dNil(a:BinOp)(b:Bool)(k:T U->Option R):Option R:=
 match a with
 |.eql=>k (.bool b)
 |.neq=>k (.bool (!b))
 |_=>none
def zD7:Value->Bool
 |.nilIface=>true
 |_=>false
def isSh:BinOp->Bool
 |.shl=>true
 |.shr=>true
 |_=>false
def kqT:List KQ->List (T U)->List (T U)->Bool
 |[],xs,ys=>(match xs with|[]=>(match ys with|[]=>true|_::_=>false)|_::_=>false)
 |q::r,xs,ys=>(match xs with
  |[]=>false
  |x::xs=>(match ys with
   |[]=>false
   |y::ys=>(match q with
    |.i=>(match x with|.int k _=>(match y with|.int a _=>decide (k=a)&&kqT r xs ys|_=>false)|_=>false)
    |.b=>(match x with|.bool _=>(match y with|.bool _=>kqT r xs ys|_=>false)|_=>false)
    |.s=>(match x with|.str _=>(match y with|.str _=>kqT r xs ys|_=>false)|_=>false))))
def dEqs:List (T U)->List (T U)->Bool
 |[],_=>true
 |x::xs,ys=>(match ys with
  |[]=>true
  |y::ys=>(match x with
   |.int _ a=>(match y with|.int _ b=>cond (ieq a b) (dEqs xs ys) false|_=>false)
   |.bool a=>(match y with|.bool b=>cond (beqB a b) (dEqs xs ys) false|_=>false)
   |.str a=>(match y with|.str b=>cond (seq a b) (dEqs xs ys) false|_=>false)
   |_=>false))
def dBin(d:BinOp)(t:TypeId)(c:Bool)(x y:T U)(k:T U->Option R):Option R:=
 match x with
 |.int e a=>(match y with|.int g b=>bif decide (e=g)||isSh d then dInt d e a b k else none|_=>none)
 |.bool a=>(match y with|.bool b=>bif (Tb t).isBool&&(Tb t).has then zO3 d a b k else none|_=>none)
 |.str a=>(match y with|.str b=>dStr d a b k|_=>none)
 |.lst m i xs=>(match y with|.nil=>bif (Tb t).el.isSome&&(Tb t).has then dNil d (nilT m xs) k else none|_=>none)
 |.nil=>(match y with|.nil=>bif (Tb t).el.isSome&&(Tb t).has then dNil d true k else none|_=>none)
 |.ifx=>(match y with|.con v=>bif zD7 v&&(Tb t).isIfc&&(Tb t).has then dNil d false k else none|_=>none)
 |.con u=>(match y with|.con v=>bif zD7 u&&zD7 v&&(Tb t).isIfc&&(Tb t).has&&c then dNil d true k else none|_=>none)
 |.agg fs=>(match y with|.agg f=>(match(Tb t).eqk with|some l=>bif (Tb t).has&&kqT l fs f then dNil d (dEqs fs f) k else none|none=>none)|_=>none)
 |_=>none
def zP1(f t:TypeId)(x:T U)(k:T U->Option R):Option R:=
 match x with
 |.int _ n=>(match(Tb t).ik with|some a=>bif (Tb t).has&&(Tb f).has then k (.int a (iwrap a n))else none|none=>none)
 |.str s=>bif (Tb t).has&&(Tb f).has&&(Tb t).isStr&&(Tb f).isStr then k (.str s)else none
 |.lst _ i xs=>bif (Tb t).has&&(Tb f).has&&(Tb t).isStr&&(Tb f).isByt then(match C.u8 i with|some g=>k (.str (zPP g xs))|none=>none)else none
 |_=>none
def dUn(c:UnOp)(x:T U)(k:T U->Option R):Option R:=
 match x with
 |.bool b=>(match c with|.not=>k (.bool !b)|_=>none)
 |.int a n=>(match c with|.neg=>k (.int a (isub a 0 n))|.xor=>k (.int a (jnot a n))|_=>none)
 |_=>none
def zHL(x:T U)(i:Nat)(k:T U->Option R):Option R:=
 match x with
 |.tup vs=>bif Nat.blt i vs.length then k (vs.getD i .any)else none
 |_=>none
def zGS(fs:List (T U))(a:Nat)(d:TD U)(k:T U->Option R):Option R:=
 bif d.has&&Nat.ble (a+d.cells) fs.length&&(d.agg||Nat.beq d.cells 1)then
  bif d.agg then feL ((fs.drop a).take d.cells) λl=>k (.agg l)else k (fs.getD a .any)
 else none
def zFF(t:TypeId)(x:T U)(f:Nat)(k:T U->Option R):Option R:=
 match(Tb t).flds[f]? with
 |none=>none
 |some p=>
  bif (Tb t).has&&(Tb p.2).has&&Nat.blt 0 (Tb p.2).cells then
   match x with
   |.rptr y=>(match y with
    |.agg fs=>bif yR fs then zGS fs p.1 (Tb p.2) λv=>k (.rptr v)else none
    |_=>none)
   |.ptr l o=>k (.ptr l (o+p.1))
   |.ptrE l a o=>k (.ptrE l a (o+p.1))
   |_=>none
  else none
def zCR(t:TypeId)(k:U.I->TypeId->TD U->Option R):Option R:=
 match(Tb t).el with
 |none=>none
 |some el=>bif (Tb t).has&&(Tb el).has then(match(Tb el).code with|some i=>k i el (Tb el)|none=>none)else none
def zE1(st:St U)(t:TypeId)(x n:T U)(k:T U->Option R):Option R:=
 zCR Tb t λi _ _=>
 match n with
 |.int _ n=>
  (match x with
  |.lst _ j xs=>bif decide (j=i)&&inB n xs.length then k (.rptr (C.enc j (xs.getD n.toNat (C.dflt j))))else none
  |.sl l m=>(match lk st.bx l with
   |some (.ar j _)=>bif decide (j=i)&&inB n m then k (.ptrE l n.toNat 0)else none
   |_=>none)
  |_=>none)
 |_=>none
def zK8(i:U.I):List (T U)->(List (U.den i)->Option R)->Option R
 |[],k=>k []
 |x::r,k=>C.dec i x λy=>zK8 i r λys=>k (y::ys)
def zLx(t:TypeId)(x n:T U)(k:T U->Option R):Option R:=
 match x with
 |.str s=>(match n with
  |.int _ n=>bif (Tb t).has&&(Tb t).isStr&&inB n s.length then k (.int .u8 (zFu s n))else none
  |_=>none)
 |.agg fs=>(match n with
  |.int _ n=>(match(Tb t).arr with
   |some (m,i)=>bif (Tb t).has&&C.plain i&&!C.agg i&&yR fs&&Nat.beq m fs.length&&inB n fs.length then zK8 C i fs λxs=>k (C.enc i (xs.getD n.toNat (C.dflt i)))else none
   |none=>none)
  |_=>none)
 |_=>none
def zPB(d:TD U)(y:T U):Bool:=
 match y with
 |.agg fs=>d.has&&d.agg&&yR fs&&Nat.beq fs.length d.cells
 |x=>d.has&&!d.agg&&x.isOne&&Nat.beq d.cells 1
def zK3(st:St U)(t:TypeId)(x:T U)(k:T U->Option R):Option R:=
 match x with
 |.rptr y=>bif zPB (Tb t) y then k y else none
 |.ptr l o=>(match lk st.bx l with
  |some (.st cs)=>zGS cs o (Tb t) k
  |_=>none)
 |.ptrE l a o=>(match lk st.bx l with
  |some (.ar i xs)=>bif Nat.ble (o+(Tb t).cells) (C.cells i)&&Nat.blt a xs.length then feL (C.enc i (xs.getD a (C.dflt i))).flat λl=>zGS l o (Tb t) k else none
  |_=>none)
 |_=>none
def splT(cs:List (T U))(o:Nat)(xs:List (T U)):List (T U):=cs.take o++xs++cs.drop (o+xs.length)
def asEl(a:Bool)(l:List (T U)):T U:=bif a then .agg l else l.headD .any
def noOw:T U->Bool
 |.lst m _ _=>(match m with|.ow _ _=>false|_=>true)
 |_=>true
def zGw:List (T U)->Bool
 |[]=>true
 |x::r=>noOw x&&zGw r
def zMI(st:St U)(t:TypeId)(x y:T U)(k:St U->Option R):Option R:=
 feL y.flat λb=>
 bif (Tb t).has&&Nat.beq b.length (Tb t).cells&&yR b then
  match x with
  |.ptr l o=>(match lk st.bx l with
   |some (.st cs)=>bif Nat.ble (o+b.length) cs.length&&bdds st.nl st.nx b then
    feL (splT cs o b) λcs'=>k ⟨(l,some (.st cs'))::st.bx,st.tg,st.nl,st.nx,st.ob⟩else none
   |_=>none)
  |.ptrE l a o=>(match lk st.bx l with
   |some (.ar i xs)=>bif (C.plain i||zGw b)&&Nat.ble (o+b.length) (C.cells i)&&Nat.blt a xs.length then
    C.dec i (asEl (C.agg i) (splT (C.enc i (xs.getD a (C.dflt i))).flat o b)) λc=>k ⟨(l,some (.ar i (xs.set a c)))::st.bx,st.tg,st.nl,st.nx,st.ob⟩else none
   |_=>none)
  |_=>none
 else none
def dNew(st:St U)(cs:List (T U))(k:T U->St U->Option R):Option R:=
 bif yR cs&&bdds st.nl st.nx cs then k (.ptr st.nl 0) ⟨(st.nl,some (.st cs))::st.bx,st.tg,st.nl+1,st.nx,st.ob⟩else none
def zQ7(st:St U)(t:TypeId)(k:T U->St U->Option R):Option R:=
 bif (Tb t).has then(match(Tb t).zero with|some cs=>dNew st cs k|none=>none)else none
def zGe(b:List (Nat×TypeId)):List (T U)->List (Nat×T U)->(List (T U)->Option R)->Option R
 |cells,[],k=>k cells
 |cells,(i,x)::c,k=>
  match b[i]? with
  |none=>none
  |some p=>bif (Tb p.2).has&&Nat.beq x.flat.length (Tb p.2).cells&&Nat.ble (p.1+(Tb p.2).cells) cells.length&&yR x.flat then
   feL (splT cells p.1 x.flat) λa=>zGe b a c k else none
def zMy(t:TypeId)(parts:List (Nat×T U))(k:T U->Option R):Option R:=
 bif (Tb t).has&&(Tb t).isStruct then
  (match(Tb t).zero with
  |some cs=>zGe Tb (Tb t).flds cs parts λl=>k (.agg l)
  |none=>none)else
 match(Tb t).bpl with
 |[]=>none
 |p::ps=>bif (Tb t).has&&(Tb p.2).has then(match(Tb t).zero with
  |some cs=>zGe Tb (p::ps) cs parts λl=>k (.agg l)
  |none=>none)else none
def zIL(i:U.I):List (Nat×T U)->(List (U.den i)->Option R)->Option R
 |[],k=>k []
 |p::r,k=>C.dec i p.2 λx=>zIL i r λxs=>k (x::xs)
def zLG:Nat->List (Nat×T U)->Bool
 |_,[]=>true
 |n,(i,_)::r=>Nat.beq i n&&zLG (n+1) r
def zCx:List (Nat×T U)->Bool
 |[]=>true
 |p::r=>yR p.2.flat&&zCx r
def wrD(wr:Nat->Bool):Option Nat->Bool
 |some d=>wr d
 |none=>false
def zDx(wr own:Nat->Bool)(a:Option Nat)(st:St U)(t:TypeId)(n:Nat)(parts:List (Nat×T U))(k:T U->St U->Option R):Option R:=
 zCR Tb t λi _ d=>
 bif (match d.zero with|some z=>Nat.beq z.length d.cells|none=>false)&&Nat.ble (n*d.cells) 16777216&&decide (n<=maxLen)&&Nat.beq parts.length n&&zLG 0 parts&&zCx parts then
  zIL C i parts λxs=>
   bif wrD wr a then
    bif C.plain i||parts.isEmpty then k (.sl st.nl n) ⟨(st.nl,some (.ar i xs))::st.bx,st.tg,st.nl+1,st.nx,st.ob⟩else none
   else bif wrD own a then k (.lst (.ow st.nx false) i xs) ⟨st.bx,st.nx::st.tg,st.nl,st.nx+1,st.ob⟩
   else k (.lst (.b false) i xs) st
 else none
def dLen(t:TypeId)(x:T U)(k:T U->Option R):Option R:=
 match x with
 |.lst _ _ xs=>bif (Tb t).has&&(Tb t).el.isSome then k (.int .i64 (lenI xs))else none
 |.nil=>bif (Tb t).has&&(Tb t).el.isSome then k (.int .i64 0)else none
 |.sl _ n=>bif (Tb t).has&&(Tb t).el.isSome then k (.int .i64 (n:Int))else none
 |.str s=>bif (Tb t).has&&(Tb t).isStr then k (.int .i64 (lenI s))else none
 |_=>none
def kZ{i j:U.I}(h:j=i)(xs:List (U.den j)):List (U.den i):=h▸xs
def castM{i j:U.I}(h:j=i)(xs:List (List UInt8×U.den j)):List (List UInt8×U.den i):=h▸xs
def sameM{R:Type}(i j:U.I)(xs:List (List UInt8×U.den j))(k:List (List UInt8×U.den i)->Option R):Option R:=
 if h:j=i then k (castM h xs)else none
def ke{R:Type}(i j:U.I)(xs:List (U.den j))(k:List (U.den i)->Option R):Option R:=
 if h:j=i then k (kZ h xs)else none
def zDH(wr:Nat->Bool)(b:Option Nat)(st:St U)(t g:TypeId)(s x:T U)(k:T U->St U->Option R):Option R:=
 zCR Tb t λi _ d=>
 bif Nat.beq t g&&(match d.zero with|some z=>Nat.beq z.length d.cells|none=>false)then
  match x with
  |.lst _ j c=>ke i j c λys=>
   (match s with
   |.nil=>bif okN d.bytes ys.length then
    (bif wrD wr b then
     bif !ys.isEmpty then k (.sl st.nl ys.length) ⟨(st.nl,some (.ar i ys))::st.bx,st.tg,st.nl+1,st.nx,st.ob⟩else none
    else k (.lst (.ow st.nx true) i ys) ⟨st.bx,st.nx::st.tg,st.nl,st.nx+1,st.ob⟩)else none
   |.lst m e a=>(match m with
    |.ow f h=>ke i e a λxs=>bif hasN st.tg f&&okN d.bytes (xs.length+ys.length)then
     k (.lst (.ow st.nx h) i (xs++ys)) ⟨st.bx,st.nx::rmN st.tg f,st.nl,st.nx+1,st.ob⟩else none
    |_=>none)
   |.sl l n=>(match lk st.bx l with
    |some (.ar e a)=>ke i e a λxs=>bif wrD wr b&&Nat.ble n xs.length&&okN d.bytes (n+ys.length)then
     k (.sl st.nl (n+ys.length)) ⟨(st.nl,some (.ar i (xs.take n++ys)))::(l,none)::st.bx,st.tg,st.nl+1,st.nx,st.ob⟩else none
    |_=>none)
   |_=>none)
  |_=>none
 else none
def zJj(wr:Nat->Bool)(a:Option Nat)(st:St U)(t b:TypeId)(s x:T U)(k:T U->St U->Option R):Option R:=
 match s with
 |.lst m j xs=>(match m with
  |.dl=>bif xs.isEmpty then zDH Tb wr a st t b .nil x k else none
  |m=>zDH Tb wr a st t b (.lst m j xs) x k)
 |s=>zDH Tb wr a st t b s x k
def zCP(x:Option (T U))(d:Int)(k:Int->Option R):Option R:=
 match x with
 |none=>k d
 |some x=>(match x with|.int _ n=>k n|_=>none)
def cutM{α:Type}:TM->List α->TM
 |.b n,_=>.b n
 |.dl,xs=>.b xs.isEmpty
 |.ow _ a,xs=>bif a then .b xs.isEmpty else .b false
def zLR(st:St U)(t:TypeId)(x:T U)(lo hi:Option (T U))(k:T U->Option R):Option R:=
 match x with
 |.lst m j xs=>zCR Tb t λi _ _=>bif decide (j=i)then
  zCP lo 0 λl=>zCP hi (lenI xs) λh=>bif inS l h xs.length then k (.lst (cutM m xs) j (cutL xs l h))else none
  else none
 |.sl l0 n=>zCR Tb t λi _ _=>
  (match lo with
  |none=>(match lk st.bx l0 with
   |some (.ar j xs)=>bif decide (j=i)then zCP hi (n:Int) λh=>bif inS 0 h xs.length then k (.sl l0 h.toNat)else none else none
   |_=>none)
  |some lo=>(match lo with
   |.int _ a=>(match lk st.bx l0 with
    |some (.ar j xs)=>bif decide (j=i)then zCP hi (n:Int) λh=>bif inS a h xs.length then k (.slE l0 a.toNat (h.toNat-a.toNat))else none else none
    |_=>none)
   |_=>none))
 |.str s=>bif (Tb t).has&&(Tb t).isStr then
  zCP lo 0 λl=>zCP hi (lenI s) λh=>bif inS l h s.length then k (.str (cutL s l h))else none
  else none
 |.rptr x=>(match x with
  |.agg fs=>(match lo with
   |none=>(match hi with
    |none=>(match(Tb t).arr with
     |some (m,i)=>bif (Tb t).has&&C.plain i&&yR fs&&Nat.beq m fs.length&&!fs.isEmpty then zK8 C i fs λxs=>k (.lst (.b false) i xs)else none
     |none=>none)
    |some _=>none)
   |some _=>none)
  |_=>none)
 |_=>none
def zGE(x:T U)(k:T U->Option R):Option R:=
 match x with
 |.rptr y=>k (.rptr y)
 |.ptr l o=>k (.ptr l o)
 |.ptrE l a o=>k (.ptrE l a o)
 |_=>none
def mIx(m:String):Nat:=bif decide (m = "emend/ifexpr.comes")then 1000000 else 1000001
theorem mIx_lt(m:String):mIx m<2000000:=by unfold mIx;cases decide (m = "emend/ifexpr.comes")<;>simp
theorem zQc(m:String):1000000<=mIx m:=by unfold mIx;cases decide (m = "emend/ifexpr.comes")<;>simp
abbrev Call(U:TyU)(R:Type):=Nat->List (T U)->List Nat->St U->(T U->St U->Option R)->Option R
def qG:List (T U)->Bool
 |[]=>true
 |x::r=>yR x.flat&&qG r
abbrev KD:=List (Nat×Nat×Nat)
def ldD(a:KD)(x:Operand)(e:En U):Bool:=
 match x with
 |.tmp u=>a.all λp=>!(Nat.beq p.2.1 u)||(match eget e u with|.ptr l _=>Nat.beq l p.2.2|.rptr _=>true|_=>false)
 |_=>true
def ksD(a:KD)(d:Option Nat):List Nat:=
 match d with
 |none=>[]
 |some d=>a.filterMap λp=>bif Nat.beq p.1 d then some p.2.2 else none
def kdOf{R:Type}:List (Nat×Nat×Nat)->En U->(KD->Option R)->Option R
 |[],_,k=>k []
 |p::r,e,k=>match eget e p.2.2 with
  |.ptr l _=>kdOf r e λa=>k ((p.1,p.2.1,l)::a)
  |_=>none
def zLD(st:St U)(l:Nat):Bool:=match lk st.bx l with|some _=>true|none=>false
def stD(b:KD)(x:Operand)(e:En U)(st:St U):Bool:=
 match x with
 |.tmp a=>b.all λp=>!(Nat.beq p.1 (1000000+a))||(match eget e a with|.ptr l _=>!(Nat.beq l p.2.2)&&zLD st l&&zLD st p.2.2|_=>false)
 |_=>true
def zDp:List (T U)->Bool
 |[]=>true
 |x::r=>(match x with|.ptr _ _=>zDp r|_=>false)
def cIx(n:Nat):Nat:=2000000+n
def dCall(a:Call U R)(b:List Nat)(f:T U)(args:List (T U))(st:St U)(k:T U->St U->Option R):Option R:=
 match f with
 |.clo d caps=>(match d with
  |.func n=>(match caps with
   |[]=>bif qG args&&bdds st.nl st.nx args&&Nat.blt n 1000000 then a n args b st k else none
   |c::cs=>bif zDp (c::cs)&&qG args&&bdds st.nl st.nx (args++c::cs)then a (cIx n) (args++c::cs) b st k else none)
  |_=>none)
 |_=>none
def zL2(st:St U)(t:TypeId)(x:T U)(k:St U->Option R):Option R:=
 match x with
 |.slE l a n=>(match lk st.bx l with
  |some (.ar j xs)=>zCR Tb t λi _ d=>bif decide (j=i)&&(match d.zero with|some z=>Nat.beq z.length d.cells|none=>false)&&Nat.ble (a+n) xs.length then
   bif Nat.beq n 0 then k st else k ⟨(l,some (.ar j (zL a xs)))::st.bx,st.tg,st.nl,st.nx,st.ob⟩else none
  |_=>none)
 |_=>none
def zMK(wr:Nat->Bool)(a:Option Nat)(b:Builtin)(c:List TypeId)(args:List (T U))(st:St U)(k:T U->St U->Option R):Option R:=
 match b with
 |.len=>(match c with|t::_=>(match args with|[x]=>dLen Tb t x λv=>k v st|_=>none)|_=>none)
 |.append=>(match c with|[t,e]=>(match args with|[s,x]=>zJj Tb wr a st t e s x k|_=>none)|_=>none)
 |.clear=>(match c with|t::_=>(match args with|[x]=>zL2 Tb st t x λd=>k (.tup []) d|_=>none)|_=>none)
 |_=>none
def evL(e:En U):List Operand->List (T U)
 |[]=>[]
 |x::r=>evT e x::evL e r
def evP(e:En U):List (Nat×Operand)->List (Nat×T U)
 |[]=>[]
 |x::r=>(x.1,evT e x.2)::evP e r
def evO(e:En U):Option Operand->Option (T U)
 |none=>none
 |some x=>some (evT e x)
def mpG:MT->List UInt8->Int
 |[],_=>0
 |p::r,s=>cond (seq s p.1) p.2 (mpG r s)
def mpP:MT->List UInt8->Int->MT
 |[],s,v=>[(s,v)]
 |p::r,s,v=>cond (seq s p.1) ((s,v)::r) (p::mpP r s v)
def mcV{α:Type}(d:α):List (List UInt8×α)->List UInt8->α
 |[],_=>d
 |p::r,s=>cond (seq s p.1) p.2 (mcV d r s)
def mcH{α:Type}:List (List UInt8×α)->List UInt8->Bool
 |[],_=>false
 |p::r,s=>cond (seq s p.1) true (mcH r s)
def mcP{α:Type}:List (List UInt8×α)->List UInt8->α->List (List UInt8×α)
 |[],s,v=>[(s,v)]
 |p::r,s,v=>cond (seq s p.1) ((s,v)::r) (p::mcP r s v)
def zJY(st:St U)(t:TypeId)(x i:T U)(c:Bool)(k:T U->Option R):Option R:=
 match x with
 |.hd l=>(match i with
  |.str s=>(match lko st.ob l with
   |some o=>(match o with
    |.mp m=>bif (Tb t).mpi&&(Tb t).has&&!c then k (.int .i64 (mpG m s))else none
    |.mc j es=>(match(Tb t).mci with
     |some i=>bif decide (i=j)&&(Tb t).has then(bif c then fe (C.enc j (mcV (C.dflt j) es s)) λx=>k (.tup [x,.bool (mcH es s)])else fe (C.enc j (mcV (C.dflt j) es s)) k)else none
     |none=>none)
    |.sc _=>none|.lv _=>none|.l1 _=>none)
   |none=>none)
  |_=>none)
 |_=>none
def zO1(st:St U)(t:TypeId)(x i y:T U)(k:St U->Option R):Option R:=
 match x with
 |.hd l=>(match i with
  |.str s=>(match lko st.ob l with
   |some o=>(match o with
    |.mp m=>(match y with
     |.int a z=>bif (Tb t).mpi&&(Tb t).has&&decide (a=.i64)then k ⟨st.bx,st.tg,st.nl,st.nx,(l,some (.mp (mpP m s z)))::st.ob⟩else none
     |_=>none)
    |.mc j es=>(match(Tb t).mci with
     |some i=>bif decide (i=j)&&(Tb t).has then C.dec j y λv=>k ⟨st.bx,st.tg,st.nl,st.nx,(l,some (.mc j (mcP es s v)))::st.ob⟩else none
     |none=>none)
    |.sc _=>none|.lv _=>none|.l1 _=>none)
   |none=>none)
  |_=>none)
 |_=>none
def dop(g:Call U R)(wr own:Nat->Bool)(h:KD)(e:En U)(st:St U)(o:Oper)(k:T U->St U->Option R):Option R:=
 match o.op with
 |.move x=>k (evT e x) st
 |.assign x=>k (evT e x) st
 |.pick c a b=>zPR (evT e c) (evT e a) (evT e b) λv=>k v st
 |.binOp j t x y _=>dBin Tb j t (zGo y) (evT e x) (evT e y) λv=>k v st
 |.convert f t x=>zP1 C Tb f t (evT e x) λv=>k v st
 |.unOp j _ x=>dUn j (evT e x) λv=>k v st
 |.extract x i=>zHL (evT e x) i λv=>k v st
 |.fieldAddr t x f=>zFF Tb t (evT e x) f λv=>k v st
 |.indexAddr t x i=>zE1 C Tb st t (evT e x) (evT e i) λv=>k v st
 |.index t x i=>zLx C Tb t (evT e x) (evT e i) λv=>k v st
 |.load t x=>bif ldD h x e then zK3 C Tb st t (evT e x) λv=>k v st else none
 |.store t x y=>bif stD h x e st then zMI C Tb st t (evT e x) (evT e y) λd=>k .any d else none
 |.alloc t=>zQ7 Tb st t k
 |.box _ x=>feL (evT e x).flat λcs=>dNew st cs k
 |.build t parts=>feP (evP e parts.toList) λps=>zMy Tb t ps λv=>k v st
 |.buildSlice t n parts=>feP (evP e parts.toList) λps=>zDx C Tb wr own o.dst st t n ps k
 |.nilCheck x=>zGE (evT e x) λv=>k v st
 |.slice t x lo hi mx=>(match mx with|none=>zLR C Tb st t (evT e x) (evO e lo) (evO e hi) λv=>k v st|some _=>none)
 |.call c=>(match c.callee with
  |.value f=>feA (evL e c.args.toList) λas=>dCall g (ksD h o.dst) (evT e f) as st k
  |.builtin b=>feA (evL e c.args.toList) λas=>zMK Tb wr o.dst b c.argTypes.toList as st k
  |.invoke _ _=>none)
 |.lookup t x i c=>zJY C Tb st t (evT e x) (evT e i) c λv=>k v st
 |.mapUpdate t x i y=>zO1 C Tb st t (evT e x) (evT e i) (evT e y) λd=>k .any d
 |.makeMap t n=>(match n with|none=>(match(Tb t).mci with|none=>k (.hd st.nl) ⟨st.bx,st.tg,st.nl+1,st.nx,(st.nl,some (.mp []))::st.ob⟩|some i=>k (.hd st.nl) ⟨st.bx,st.tg,st.nl+1,st.nx,(st.nl,some (.mc i []))::st.ob⟩)|some _=>none)
 |_=>none
def zIU(b:Call U R)(wr own:Nat->Bool)(c:KD)(e:En U)(st:St U)(o:Oper)(k:En U->St U->Option R):Option R:=
 dop C Tb b wr own c e st o λv a=>feS a λa=>fe v λv=>bif bdd a.nl a.nx v then zIC e o.dst v λe'=>k e' a else none
def zPk(a:Call U R)(wr own:Nat->Bool)(b:KD)(ds:List (Option Nat))(o:Oper)(e:En U)(st:St U)(k:En U->St U->Option R):Option R:=
 match o.guard with
 |none=>zIU C Tb a wr own b e st o k
 |some g=>
  match ds.getD g.1 none with
  |none=>none
  |some d=>(match eget e d with
   |.bool t=>bif g.2 then(bif t then zIU C Tb a wr own b ((d,.bool true)::e) st o k else zIC ((d,.bool false)::e) o.dst (.tup []) λe'=>k e' st)
    else(bif t then zIC ((d,.bool true)::e) o.dst (.tup []) λe'=>k e' st else zIU C Tb a wr own b ((d,.bool false)::e) st o k)
   |.tup vs=>(match vs with|[]=>zIC e o.dst (.tup []) λe'=>k e' st|_::_=>none)
   |_=>none)
def dops(a:Call U R)(wr own:Nat->Bool)(c:KD)(ds:List (Option Nat)):List Oper->En U->St U->(En U->St U->Option R)->Option R
 |[],e,st,k=>k e st
 |o::d,e,st,k=>zPk C Tb a wr own c ds o e st λe' b=>dops a wr own c ds d e' b k
end ops
end
open Go.Al
def VR{U:TyU}(C:Cod U)(N:NM)(x:T U)(v:V):Prop:=x=.any\/v=trT C N x
def TbOk{U:TyU}(C:Cod U)(P:Program)(Tb:TypeId->TD U):Prop:=∀t,(Tb t).has=true->Facts C P t (Tb t)
section
variable{U:TyU}{C:Cod U}{P:Program}{Tb:TypeId->TD U}{R:Type}{r:R}{N:NM}{K:V->Prop}{k:T U->Option R}
theorem zN{c:Bool}{x:Option R}(h:(bif c then x else none)=some r):c=true/\x=some r:=by cases c<;>simp_all
theorem VR.get{x:T U}{v:V}(h:VR C N x v)(a:x≠.any):v=trT C N x:=h.resolve_left a
theorem VR.mk(x:T U):VR C N x (trT C N x):=.inr rfl
theorem zFP(b:ByteArray):∀(n i:Nat)(a:List UInt8),b.size-i=n->ByteArray.toList.loop b i a=a.reverse++b.data.toList.drop i:=by
 have g:b.size=b.data.toList.length:=by rw[zWi];rfl
 intro n
 induction n with
 |zero=>
  intro i a d;unfold ByteArray.toList.loop;rw[if_neg (by omega),zYe (by omega),zWc]
 |succ n f=>
  intro i a d;unfold ByteArray.toList.loop;have hi:i<b.data.toList.length:=by omega
  rw[if_pos (by omega),f _ _ (by omega),zWn hi];have e:b.get! i=b.data.toList[i]:=by
   show b.data[i]! = _;have c:i<b.data.size:=by rw[<-zWi];exact hi
   rw[zYm b.data i c,Array.getElem_toList]
  rw[e,List.reverse_cons,zXT];rfl
theorem xM(s:List UInt8):(⟨s.toArray⟩:ByteArray).toList=s:=by
 have:=zFP ⟨s.toArray⟩ _ 0 [] rfl;rw[zWg,List.reverse_nil,zWR]at this;exact this
theorem zTr{c a b:T U}{d e f:V}(i:VR C N c d)(j:VR C N a e)(l:VR C N b f)(h:zPR c a b k=some r)
 (g:∀v v',k v=some r->VR C N v v'->K v'):zB4 d e f K:=by
 unfold zPR at h;split at h
 .rename_i t;rw[i.get (by simp)];cases t with
  |true=>exact g _ _ h j
  |false=>exact g _ _ h l
 .cases h
theorem zUm{f:BinOp}{g:IntKind}{a b:Int}(h:dInt f g a b k=some r)(e:∀v,k v=some r->K (trT C N v)):aInt f g a b K:=by
 cases f<;>simp only[dInt]at h<;>first|exact e _ h|cases h|skip
 case quo=>
  obtain⟨c,d⟩:=zN h;exact⟨by simpa [ine]using c,e _ d⟩
 case rem=>
  obtain⟨c,d⟩:=zN h;exact⟨by simpa [ine]using c,e _ d⟩
 case shl=>
  obtain⟨c,d⟩:=zN h;exact⟨by simpa [ile]using c,e _ d⟩
 case shr=>
  obtain⟨c,d⟩:=zN h;exact⟨by simpa [ile]using c,e _ d⟩
theorem zUp{c:BinOp}{a b:List UInt8}(h:dStr c a b k=some r)(d:∀v,k v=some r->K (trT C N v)):aStr c ⟨a.toArray⟩ ⟨b.toArray⟩ K:=by
 cases c<;>simp only[dStr]at h<;>first|cases h|skip
 case add=>
  obtain⟨f,g⟩:=zN h;have f:=okS_le f;refine⟨by simpa [ByteArray.size]using f,?_⟩;have:=d _ g;simp only[trT]at this;have e:(⟨a.toArray⟩:ByteArray)++⟨b.toArray⟩=⟨(a++b).toArray⟩:=by
   apply zYS;simp
  rw[e];exact this
 case eql=>
  have:=d _ h;simp only[aStr,xM];exact this
 case neq=>
  have:=d _ h;simp only[aStr,xM];exact this
theorem zTu{c:BinOp}{a b:Bool}(h:zO3 c a b k=some r)(d:∀v,k v=some r->K (trT C N v)):kW c a b K:=by
 cases c<;>simp only[zO3]at h<;>first|cases h|exact d _ h
theorem zUI(m:TM){i:U.I}(xs:List (U.den i)):nilB (trM N (C.cells i) (xs.map (C.encV i)) m) (xs.map (C.encV i))=nilT m xs:=by
 cases m with
 |b n=>cases n<;>rfl
 |dl=>cases xs<;>rfl
 |ow t a=>cases xs<;>rfl
theorem zEg{a:BinOp}{b:Bool}(h:dNil a b k=some r)(c:∀v,k v=some r->K (trT C N v)):kW a b true K:=by
 cases a<;>simp only[dNil]at h<;>first|cases h|skip
 .have:=c _ h;simp only[kW,beq_true];exact this
 .have:=c _ h;simp only[kW,beq_true];exact this
theorem zB1{v:Value}(h:zD7 v=true):v=.nilIface:=by
 unfold zD7 at h;split at h
 .rfl
 .cases h
theorem zGy:∀{l:List KQ}{fs d:List (T U)},kqT l fs d=true->∃us vs:List Value,fs.map (trT C N)=us.map V.at/\d.map (trT C N)=vs.map V.at/\vkq l us vs=true/\eqVs us vs=dEqs fs d
 |[],fs,d,c=>by
  cases fs with
  |cons x xs=>cases c
  |nil=>
   cases d with
   |cons y ys=>cases c
   |nil=>exact⟨[],[],rfl,rfl,rfl,rfl⟩
 |q::e,fs,d,c=>by
  cases fs with
  |nil=>cases c
  |cons x xs=>
  cases d with
  |nil=>cases c
  |cons y ys=>
   cases q with
   |i=>
    cases x<;>try(cases c;done)
    case int n a=>
    cases y<;>try(cases c;done)
    case int o b=>
     simp only[kqT,zV5,zWV]at c;obtain⟨rfl,c⟩:=c;obtain⟨us,vs,f,g,j,m⟩:=zGy (l:=e) c;refine⟨.int n a::us,.int n b::vs,by simp only[zV6,f,trT],by simp only[zV6,g,trT],by simp only[vkq,zZG,zWj];exact j,?_⟩;simp only[eqVs,eqAt,dEqs,m];unfold ieq;by_cases h:a=b<;>simp[h]
   |b=>
    cases x<;>try(cases c;done)
    case bool a=>
    cases y<;>try(cases c;done)
    case bool b=>
     obtain⟨us,vs,f,g,j,m⟩:=zGy (l:=e) (show kqT e xs ys=true from c);refine⟨.bool a::us,.bool b::vs,by simp only[zV6,f,trT],by simp only[zV6,g,trT],j,?_⟩;simp only[eqVs,eqAt,dEqs,m];cases a<;>cases b<;>rfl
   |s=>
    cases x<;>try(cases c;done)
    case str a=>
    cases y<;>try(cases c;done)
    case str b=>
     obtain⟨us,vs,f,g,j,m⟩:=zGy (l:=e) (show kqT e xs ys=true from c);refine⟨.string ⟨a.toArray⟩::us,.string ⟨b.toArray⟩::vs,by simp only[zV6,f,trT],by simp only[zV6,g,trT],j,?_⟩;simp only[eqVs,eqAt,dEqs,m,xM];unfold seq;by_cases h:a=b<;>simp[h]
theorem zUu(g:TbOk C P Tb){i:BinOp}{t:TypeId}{c:Bool}{x y:T U}{m n:V}(d:VR C N x m)(e:VR C N y n)(h:dBin Tb i t c x y k=some r)
 (f:∀v,k v=some r->K (trT C N v)):zB8 P i t c m n K:=by
 unfold dBin at h;split at h
 .split at h
  .obtain⟨a,b⟩:=zN h;rw[d.get (by simp),e.get (by simp)];rw[zXF,zWV]at a;refine⟨?_,zUm b f⟩;rcases a with a|a
   .exact .inl a
   .cases i<;>first|exact .inr (.inl rfl)|exact .inr (.inr rfl)|cases a
  .cases h
 .split at h
  .obtain⟨a,b⟩:=zN h;rw[d.get (by simp),e.get (by simp)];simp only[zV5]at a;exact⟨(g t a.2).isBool.trans a.1,zTu b f⟩
  .cases h
 .split at h
  .rw[d.get (by simp),e.get (by simp)];exact zUp h f
  .cases h
 .split at h
  .obtain⟨a,b⟩:=zN h;rw[d.get (by simp),e.get (by simp)];simp only[zV5]at a;refine⟨by rw[(g t a.2).el];exact a.1,?_⟩;rw[zUI];exact zEg b f
  .cases h
 .split at h
  .obtain⟨a,b⟩:=zN h;rw[d.get (by simp),e.get (by simp)];simp only[zV5]at a;exact⟨by rw[(g t a.2).el];exact a.1,zEg b f⟩
  .cases h
 .split at h
  .rename_i v;obtain⟨a,b⟩:=zN h;rw[d.get (by simp),e.get (by simp)];simp only[zV5]at a;have j:=zB1 a.1.1;subst j;exact⟨(g t a.2).isIfc.trans a.1.2,zEg b f⟩
  .cases h
 .split at h
  .rename_i u v;obtain⟨a,b⟩:=zN h;rw[d.get (by simp),e.get (by simp)];simp only[zV5]at a;have j:=zB1 a.1.1.1.1;have p:=zB1 a.1.1.1.2;subst j;subst p;exact⟨(g t a.1.2).isIfc.trans a.1.1.2,a.2,zEg b f⟩
  .cases h
 .split at h
  .split at h
   .rename_i l q;obtain⟨a,b⟩:=zN h;simp only[zV5]at a;obtain⟨us,vs,s,w,o,z⟩:=zGy (C:=C) (N:=N) a.2;rw[d.get (by simp),e.get (by simp)];simp only[trT,yd,s,w];obtain⟨A,B⟩:=(g t a.1).eqs l q us vs o;exact⟨us,vs,rfl,rfl,⟨A,zFM o⟩,by rw[B,z];exact zEg b f⟩
   .cases h
  .cases h
 .cases h
theorem zIF(a:CodOk C){i:U.I}{g:U.den i->Int}(b:C.u8 i=some g):∀xs:List (U.den i),zAX (xs.map (C.encV i))=some (xs.map g)
 |[]=>rfl
 |x::r=>by simp only[zV6,a.byt i g b x,zAX,zIF a b r,zXC]
theorem zNl(a:List Int):∀b:ByteArray,a.foldl (λr n=>r.push (UInt8.ofNat n.toNat)) b=⟨b.data++(a.map λn=>UInt8.ofNat n.toNat).toArray⟩:=by
 induction a with
 |nil=>intro b;simp
 |cons n r c=>intro b;rw[zYW,c];simp[ByteArray.push]
theorem zRM{α:Type}(g:α->Int)(xs:List α):zLj (xs.map g)=⟨(zPP g xs).toArray⟩:=by
 unfold zLj;rw[zNl];simp[zPP,zXD,zYz]
theorem zTz(c:TbOk C P Tb)(l:CodOk C){f t:TypeId}{x:T U}{j:V}(d:VR C N x j)(h:zP1 C Tb f t x k=some r)(e:∀v,k v=some r->K (trT C N v)):zFA P f t j K:=by
 unfold zP1 at h;split at h
 .split at h
  .rename_i o m;obtain⟨a,b⟩:=zN h;simp only[zV5]at a;rw[d.get (by simp)];unfold zFA;simp only[trT];rw[(c t a.1).ik,m];exact⟨(c f a.2).has,e _ b⟩
  .cases h
 .obtain⟨a,b⟩:=zN h;simp only[zV5]at a;rw[d.get (by simp)];exact⟨(c f a.1.1.2).isStr.trans a.2,(c t a.1.1.1).isStr.trans a.1.2,e _ b⟩
 .obtain⟨a,b⟩:=zN h;simp only[zV5]at a;split at b
  .rename_i g n;rw[d.get (by simp)];refine⟨?_,(c t a.1.1.1).isStr.trans a.1.2,?_⟩
   .rcases(c f a.1.1.2).isByt with i|i
    .exact i.trans a.2
    .rw[i]at a;exact absurd a.2 (by simp)
   .rw[zIF l n];simp only;rw[zRM];exact e _ b
  .cases b
 .cases h
theorem dUn_ok{a:UnOp}{x:T U}{b:V}(c:VR C N x b)(h:dUn a x k=some r)(d:∀v,k v=some r->K (trT C N v)):aUn a b K:=by
 unfold dUn at h;split at h
 .rw[c.get (by simp)];cases a<;>simp only at h<;>first|cases h|exact d _ h
 .rw[c.get (by simp)];cases a<;>simp only at h<;>first|cases h|exact d _ h
 .cases h
theorem zNW{x:T U}{b:V}{i:Nat}(c:VR C N x b)(h:zHL x i k=some r)(d:∀v,k v=some r->K (trT C N v)):kn b i K:=by
 unfold zHL at h;split at h
 .rename_i vs;obtain⟨a,f⟩:=zN h;have a:=yh a;rw[c.get (by simp)];have e:(trTs C N vs).getD i .any=trT C N (vs.getD i .any):=by
   rw[yd];simp[a]
  refine⟨by rw[yd];simpa using a,?_⟩;rw[e];exact d _ f
 .cases h
theorem zHm{fs:List (T U)}{a:Nat}{t:TypeId}{d:TD U}(l:d.has=true->Facts C P t d)(h:zGS fs a d k=some r)(g:∀v,k v=some r->K (trT C N v)) :
 yO P t (fs.map (trT C N)) a/\K (yN P t (fs.map (trT C N)) a):=by
 unfold zGS at h;obtain⟨i,b⟩:=zN h;simp only[zV5,zXF,zXw,zXm]at i;obtain⟨⟨m,n⟩,j⟩:=i;have c:=l m;refine⟨⟨c.has,by rw[c.cells];simpa using n,λf=>by rw[c.agg]at f;rw[c.cells];simpa [f]using j⟩,?_⟩;unfold yN;rw[c.agg,c.cells];cases f:d.agg with
 |true=>
  rw[f]at b;simp only[zWQ,zBR]at b;have:=g _ b;simp only[trT,yd,zXr,zX6]at this;simpa using this
 |false=>
  rw[f]at b;simp only[zWH]at b;have:=g _ b;have p:d.cells=1:=by simpa [f]using j
  have o:a<fs.length:=by omega
  have e:(fs.map (trT C N)).getD a .any=trT C N (fs.getD a .any):=by simp[o]
  simp only[zWO,zWA];rw[e];exact this
theorem zKv(c:TbOk C P Tb){t:TypeId}{x:T U}{j:V}{f:Nat}(d:VR C N x j)(h:zFF Tb t x f k=some r)(e:∀v,k v=some r->K (trT C N v)):yY P t j f K:=by
 unfold zFF at h;split at h
 .cases h
 .rename_i p m;obtain⟨l,a⟩:=zN h;simp only[zV5]at l;obtain⟨⟨n,g⟩,o⟩:=l;have i:0<P.cellsOf p.2:=by rw[(c _ g).cells];exact yh o
  have b:fieldAt P t f=some (p.1,p.2):=by rw[zIT,(c t n).flds,m]
  split at a
  .split at a
   .obtain⟨q,s⟩:=zN a;rw[d.get (by simp)];simp only[trT,yd,yY,b];have:=zHm (C:=C) (P:=P) (t:=p.2) (N:=N) (K:=λv=>K (.rptr v)) (λu=>c _ u) s (λv w=>e _ w);exact⟨(y9 C N _).2 q,this.1,i,this.2⟩
   .cases a
  .rw[d.get (by simp)];simp only[trT,yY,b];exact⟨(c _ g).has,i,e _ a⟩
  .rw[d.get (by simp)];simp only[trT,yY,b];have:=e _ a;simp only[trT,<-zX7]at this;exact⟨(c _ g).has,i,this⟩
  .cases a
theorem zA1(e:TbOk C P Tb){t:TypeId}{f:U.I->TypeId->TD U->Option R}(h:zCR Tb t f=some r) :
 ∃i el,f i el (Tb el)=some r/\elT P t=some el/\Facts C P el (Tb el)/\C.cells i=P.cellsOf el/\C.agg i=xD P el:=by
 unfold zCR at h;split at h
 .cases h
 .rename_i el b;obtain⟨c,d⟩:=zN h;simp only[zV5]at c;split at d
  .rename_i i hi;have a:=e el c.2;exact⟨i,el,d,by rw[(e t c.1).el,b],a,by rw[a.cells];exact(a.code i hi).1,by rw[a.agg];exact(a.code i hi).2⟩
  .cases d
theorem zEn{n:Int}{len:Nat}(h:inB n len=true):0<=n/\n<(len:Int):=by
 simpa [inB]using h
theorem zEy{l h:Int}{len:Nat}(a:inS l h len=true):0<=l/\l<=h/\h<=(len:Int):=by
 simpa [inS,and_assoc]using a
theorem zOH{i:U.I}(xs:List (U.den i))(n:Nat)(h:n<xs.length)(d:U.den i):(xs.map (C.encV i)).getD n .any=C.encV i (xs.getD n d):=by
 simp[h]
theorem zHg(a:CodOk C){i:U.I}(b:C.plain i=true){r:R}:∀{l:List (T U)}{k:List (U.den i)->Option R},zK8 C i l k=some r->∃xs,k xs=some r/\∀N,l.map (trT C N)=xs.map (C.encV i)
 |[],k,h=>⟨[],h,λ_=>rfl⟩
 |x::l,k,h=>by
  obtain⟨y,c,d⟩:=a.decP i x _ r b h;obtain⟨ys,e,f⟩:=zHg a b c;exact⟨y::ys,e,λN=>by simp only[zV6,d N,f N]⟩
theorem zRL(f:TbOk C P Tb)(g:CodOk C){t:TypeId}{x n:T U}{j l:V}(o:VR C N x j)(p:VR C N n l)(h:zLx C Tb t x n k=some r)(q:∀v,k v=some r->K (trT C N v)):kp P t j l K:=by
 unfold zLx at h;split at h
 .split at h
  .rename_i s _ _ u;obtain⟨a,c⟩:=zN h;simp only[zV5]at a;rw[o.get (by simp),p.get (by simp)];have d:=zEn a.2;refine⟨(f t a.1.1).isStr.trans a.1.2,by simpa [ByteArray.size]using d,?_⟩;have:=q _ c;simpa [trT,zFu]using this
  .cases h
 .split at h
  .rename_i fs _ _ u;split at h
   .rename_i m i y;obtain⟨a,c⟩:=zN h;simp only[zV5,zXm,zXE]at a;obtain⟨⟨⟨⟨⟨z,A⟩,G⟩,B⟩,D⟩,E⟩:=a;obtain⟨xs,F,b⟩:=zHg g A c;rw[o.get (by simp),p.get (by simp)];have d:=zEn E;have w:fs.length=xs.length:=by have:=zWp List.length (b N);simpa using this
    have e:u.toNat<xs.length:=by omega
    simp only[trT,kp,yd];refine⟨by rw[zWG,<-D];exact(f t z).arr m i y,(y9 C N fs).2 B,by rw[zWG];exact d,?_⟩;have:=q _ F;rw[g.enc]at this;rw[b N,zOH xs _ e (C.dflt i)];exact this
   .cases h
  .cases h
 .cases h
theorem zTd{t:TypeId}{d:TD U}(i:d.has=true->Facts C P t d){y:T U}(h:zPB d y=true):fits P t (trT C N y):=by
 have e:d.has=true->(trT C N y).size=d.cells->(trT C N y).isAgg=d.agg->fits P t (trT C N y):=λa f g=>
  ⟨(i a).has,by rw[f,(i a).cells],by rw[g,(i a).agg]⟩
 have b:(∀fs,y≠.agg fs)->(d.has&&!d.agg&&y.isOne&&Nat.beq d.cells 1)=true->fits P t (trT C N y):=λc h=>by
  simp only[zV5,zXm,zXE]at h;obtain⟨⟨⟨a,f⟩,g⟩,j⟩:=h;refine e a ?_ ?_
  .rw[zDI (by rw[zE7];exact g)];exact j.symm
  .rw[zM8,f];cases y<;>first|rfl|exact absurd rfl (c _)
 unfold zPB at h;split at h
 .rename_i fs;simp only[zV5,zXm]at h;obtain⟨⟨⟨a,f⟩,g⟩,j⟩:=h;refine e a ?_ ?_
  .simp only[trT,V.size,yd];rw[yV ((y9 C N fs).2 g)];simpa using j
  .rw[zM8,f]
 .rename_i x c;exact b c h
theorem zVW(d:TbOk C P Tb){t:TypeId}{x:T U}{c:V}(e:VR C N x c)(h:dLen Tb t x k=some r)(f:∀v,k v=some r->K (trT C N v)):aLen P t c K:=by
 unfold dLen at h;split at h
 all_goals first|cases h|skip
 all_goals
  obtain⟨a,g⟩:=zN h;simp only[zV5]at a;have b:=d t a.1;rw[e.get (by simp)];have:=f _ g
 .exact⟨by rw[b.el];exact a.2,by simpa [trT,lenI]using this⟩
 .exact⟨by rw[b.el];exact a.2,by simpa [trT]using this⟩
 .exact⟨by rw[b.el];exact a.2,by simpa [trT]using this⟩
 .exact⟨b.isStr.trans a.2,by simpa [trT,lenI,ByteArray.size]using this⟩
theorem zNN{x:T U}{c:V}(a:VR C N x c)(h:zGE x k=some r)(b:∀v,k v=some r->K (trT C N v)):xQ c K:=by
 unfold zGE at h;split at h
 .rw[a.get (by simp)];exact b _ h
 .rw[a.get (by simp)];exact b _ h
 .rw[a.get (by simp)];exact b _ h
 .cases h
theorem zJP(N:NM)(cs:List (T U))(o:Nat)(xs:List (T U)):(splT cs o xs).map (trT C N)=spl (cs.map (trT C N)) o (xs.map (trT C N)):=by
 simp[splT,spl,zXr,zX6]
theorem zFh(m:TbOk C P Tb){pl:Nat->Option (Nat×Nat)}{d:List (Nat×TypeId)}(s:∀j p,d[j]?=some p->hasT P p.2=true->pl j=some (p.1,P.cellsOf p.2)){k:List (T U)->Option R} :
 ∀(parts:List (Nat×T U))(vs:List (Nat×V))(c:List (T U)),zGe Tb d c parts k=some r->vs.map (·.1)=parts.map (·.1) ->
  (∀(j:Nat)(x:Nat×T U)(v:Nat×V),parts[j]?=some x->vs[j]?=some v->VR C N x.2 v.2)->∃l,zBS pl (c.map (trT C N)) vs=some (l.map (trT C N))/\k l=some r
 |[],vs,c,h,f,_=>by
  cases vs with
  |nil=>exact⟨c,rfl,h⟩
  |cons _ _=>simp at f
 |(i,x)::g,vs,c,h,f,t=>by
  cases vs with
  |nil=>simp at f
  |cons v vs=>
   obtain⟨j,v⟩:=v;simp only[zV6,zXe]at f;obtain⟨rfl,f⟩:=f;simp only[zGe]at h;split at h
   .cases h
   .rename_i p A;obtain⟨u,w⟩:=zN h;simp only[zV5,zXm,zXw]at u;obtain⟨⟨⟨n,B⟩,D⟩,y⟩:=u;rw[zBR]at w;have E:x≠.any:=λe=>by subst e;simp[T.flat,yR,T.isOne]at y
    have o:v=trT C N x:=(t 0 (j,x) (j,v) rfl rfl).get E;subst o;obtain⟨l,z,F⟩:=zFh m s g vs _ w f (λj x v a b=>t (j+1) x v (by simpa using a) (by simpa using b));refine⟨l,?_,F⟩;have q:pl j=some (p.1,P.cellsOf p.2):=s j p A (m _ n).has;unfold zBS;simp only[q];rw[qI];simp only[zWG];rw[if_pos ⟨by rw[(m _ n).cells];simpa using B,by rw[(m _ n).cells];simpa using D,(y9 C N _).2 y⟩];rw[zJP]at z;exact z
theorem zSw(c:TbOk C P Tb){t:TypeId}{b:List (Nat×TypeId)}(d:fieldsOf P t=b){k:List (T U)->Option R}(parts:List (Nat×T U))(vs:List (Nat×V))(a:List (T U))(h:zGe Tb b a parts k=some r)(e:vs.map (·.1)=parts.map (·.1))
 (f:∀(j:Nat)(x:Nat×T U)(v:Nat×V),parts[j]?=some x->vs[j]?=some v->VR C N x.2 v.2):∃l,zBS (zBa P t) (a.map (trT C N)) vs=some (l.map (trT C N))/\k l=some r:=
 zFh c (λj p g i=>by unfold zBa;rw[zIT,d,g];simp[i]) parts vs a h e f
theorem zSO(i:TbOk C P Tb){t:TypeId}{parts:List (Nat×T U)}{vs:List (Nat×V)}(o:vs.map (·.1)=parts.map (·.1))(s:∀(j:Nat)(x:Nat×T U)(v:Nat×V),parts[j]?=some x->vs[j]?=some v->VR C N x.2 v.2)
 (h:zMy Tb t parts k=some r) (u:∀v,k v=some r->K (trT C N v)):zCu P t vs K:=by
 unfold zMy at h;cases m:((Tb t).has&&(Tb t).isStruct)with
 |false=>
  rw[m]at h;simp only[zWH]at h;split at h
  .cases h
  .rename_i p ps b;obtain⟨c,d⟩:=zN h;simp only[zV5]at c;have g:=i t c.1;have a:zFE P t=p::ps:=by
    rcases g.bpl with e|e
    .rw[e,b]
    .rw[e]at b;cases b
   split at d
   .rename_i cs f;obtain⟨l,e,n⟩:=zFh (N:=N) (pl:=zH7 P t) i (λj q w y=>by unfold zH7;rw[a,w];simp[y]) parts vs cs d o s;refine .inr ⟨by rw[a];simp,by rw[a];exact(i _ c.2).has,?_⟩;rw[g.zero N,f];simp only[zXC];rw[e];have:=u _ n;simpa only[trT,yd]using this
   .cases d
 |true=>
 left;rw[m]at h;simp only[zWQ]at h;have c:=m;have d:=h;simp only[zV5]at c;have g:=i t c.1;split at d
 .rename_i cs f;obtain⟨l,e,n⟩:=zSw (N:=N) i g.flds parts vs cs d o s;refine⟨g.isStruct.trans c.2,?_⟩;rw[g.zero N,f];simp only[zXC];rw[e];have:=u _ n;simpa only[trT,yd]using this
 .cases d
theorem zA4{x:Option (T U)}{a:Option V}(b:match x,a with|none,none=>True|some x,some v=>VR C N x v|_,_=>False){d:Int}{c:Int->Option R}{K:Int->Prop}(h:zCP x d c=some r)(e:∀n,c n=some r->K n) :
 jR a d K:=by
 unfold zCP at h;cases x with
 |none=>cases a with
  |none=>exact e _ h
  |some v=>exact b.elim
 |some x=>cases a with
  |none=>exact b.elim
  |some v=>
   simp only at h b;split at h
   .rw[b.get (by simp)];exact e _ h
   .cases h
theorem zVV(m:TM){i:U.I}(xs ys:List (U.den i)):zGQ (trM N (C.cells i) (xs.map (C.encV i)) m) (xs.map (C.encV i))=trM N (C.cells i) (ys.map (C.encV i)) (cutM m xs):=by
 cases m with
 |b n=>cases n<;>rfl
 |dl=>cases xs<;>rfl
 |ow t a=>cases a<;>cases xs<;>rfl
end
open Go.Al
section
variable{U:TyU}{C:Cod U}{P:Program}{Tb:TypeId->TD U}{R:Type}{r:R}{N:NM}
def trB(C:Cod U)(N:NM)(l:Nat):Bx U->List V×Nat
 |.st cs=>(cs.map (trT C N),cs.length)
 |.ar i xs=>(zf (xs.map (C.encV i)),N.cp l*C.cells i)
def wfB(C:Cod U)(N:NM)(nl nx l:Nat):Bx U->Prop
 |.st cs=>bdds nl nx cs=true/\yR cs=true
 |.ar i xs=>N.sz l=C.cells i/\xs.length<=N.cp l
def trMC(c:MT):MC:=c.map λp=>(⟨p.1.toArray⟩,.at (.int .i64 p.2))
def trO(C:Cod U)(N:NM)(l:Nat):TO U->OV
 |.mp c=>.mp (trMC c)
 |.sc xs=>.sc (xs.map trMC) (N.cp l)
 |.lv xs=>.lv (xs.map λx=>(trMC x.1,trMC x.2))
 |.l1 x=>.l1 (trMC x.1,trMC x.2)
 |.mc i es=>.mp (es.map λp=>(⟨p.1.toArray⟩,C.encV i p.2))
def wfO(N:NM)(l:Nat):TO U->Prop
 |.mp _=>N.cp l≠0
 |.mc _ _=>N.cp l≠0
 |.sc xs=>N.sz l=xs.length
 |.lv _=>True
 |.l1 _=>True
structure OSim(C:Cod U)(N:NM)(ob:List (Nat×Option (TO U)))(nl:Nat)(sob:List (Nat×OV×List Nat)):Prop where
 look:∀l o,lko ob l=some o->∃fp,zQ sob (N.bl l)=some (trO C N l o,fp)
 lt:∀l o,lko ob l=some o->l<nl
 wf:∀l o,lko ob l=some o->wfO N l o
 inj:∀l l' o o',lko ob l=some o->lko ob l'=some o'->N.bl l=N.bl l'->l=l'
structure SSim(C:Cod U)(N:NM)(st:St U)(s:S):Prop where
 box:∀l b,lk st.bx l=some b->Al.look s.box (N.bl l)=some (trB C N l b)
 lt:∀l b,lk st.bx l=some b->l<st.nl
 wf:∀l b,lk st.bx l=some b->wfB C N st.nl st.nx l b
 inj:∀l l' b b',lk st.bx l=some b->lk st.bx l'=some b'->N.bl l=N.bl l'->l=l'
 tgIn:∀t∈st.tg,N.tk t∈s.tg
 tgInj:∀t∈st.tg,∀t'∈st.tg,N.tk t=N.tk t'->t=t'
 tgLt:∀t∈st.tg,t<st.nx
 nm:∀t∈st.tg,N.tk t<s.nx
 ob:OSim C N st.ob st.nl s.ob
theorem OSim.ext{nl b nx:Nat}{N N':NM}{ob:List (Nat×Option (TO U))}{c:List (Nat×OV×List Nat)}(h:OSim C N ob nl c)(g:Ext nl nx N N')(m:nl<=b):OSim C N' ob b c:=by
 have d:∀l o,lko ob l=some o->N'.bl l=N.bl l/\N'.cp l=N.cp l/\N'.sz l=N.sz l:=λl o a=>⟨g.bl l (h.lt l o a),g.cp l (h.lt l o a),g.sz l (h.lt l o a)⟩;refine⟨λl o a=>?_,λl o a=>zWN (h.lt l o a) m,λl o a=>?_,λl i o o' a e j=>?_⟩
 .obtain⟨n,e⟩:=h.look l o a;obtain⟨p,f,_⟩:=d l o a;refine⟨n,?_⟩;rw[p,e];cases o<;>simp only[trO,f]
 .have:=h.wf l o a;obtain⟨_,f,q⟩:=d l _ a;cases o
  case mc=>simp only[wfO,f]at this ⊢;exact this
  .simp only[wfO,f]at this ⊢;exact this
  .simp only[wfO,q]at this ⊢;exact this
  .trivial
  .trivial
 .rw[(d l o a).1,(d i o' e).1]at j;exact h.inj l i o o' a e j
theorem jA(k:Nat)(b:Option (TO U))(r:List (Nat×Option (TO U)))(l:Nat):lko ((k,b)::r) l=if k=l then b else lko r l:=by
 by_cases e:k=l
 .have:Nat.beq k l=true:=by simpa using e
  simp[lko,this,e]
 .have:Nat.beq k l=false:=by
   cases e':Nat.beq k l with
   |false=>rfl
   |true=>exact absurd (zYi e') e
  simp[lko,this,e]
def ESim(C:Cod U)(N:NM)(st:St U)(e:En U)(E:Env):Prop:=∀k,VR C N (eget e k) (E.get k)/\bdd st.nl st.nx (eget e k)=true
structure Turn(N:NM)(st:St U)(N':NM)(st':St U):Prop where
 ext:Ext st.nl st.nx N N'
 nl:st.nl<=st'.nl
 nx:st.nx<=st'.nx
theorem Turn.refl(N:NM)(st:St U):Turn N st N st:=⟨.refl _ _ _,zV7 _,zV7 _⟩
theorem Turn.trans{N c d:NM}{st a b:St U}(h:Turn N st c a)(h':Turn c a d b):Turn N st d b:=
 ⟨h.ext.trans h'.ext h.nl h.nx,zWv h.nl h'.nl,zWv h.nx h'.nx⟩
theorem ESim.turn{N N':NM}{st a:St U}{e:En U}{E:Env}(h:ESim C N st e E)(t:Turn N st N' a):ESim C N' a e E:=λk=>by
 obtain⟨c,b⟩:=h k;exact⟨c.imp id λh=>by rw[h,zC4 C t.ext _ b],zBu t.nl t.nx _ b⟩
theorem yy{a b:Nat}(h:a≠b):Nat.beq a b=false:=by
 cases e:Nat.beq a b with
 |false=>rfl
 |true=>exact absurd (zYi e) h
theorem ESim.put{st:St U}{e:En U}{E:Env}(h:ESim C N st e E){v:T U}{v':V}(b:VR C N v v')(c:bdd st.nl st.nx v=true)(d:Option Nat):ESim C N st (eput e d v) (E.putO d v'):=λk=>by
 cases d with
 |none=>exact h k
 |some t=>
  simp only[eput,eget,Env.putO,Env.get_put];by_cases a:t=k
  .subst a;simpa using⟨b,c⟩
  .have:Nat.beq t k=false:=yy a;simpa [this,a]using h k
theorem ESim.ev{st:St U}{e:En U}{E:Env}(h:ESim C N st e E)(x:Operand):VR C N (evT e x) (E.ev x):=by
 cases x with
 |tmp t=>exact(h t).1
 |const v=>exact .inr (cT_tr C N v).symm
 |global g=>
  refine .inr ?_;show zIQ g=trT C N (gT g);unfold zIQ gT;cases zGu globA g with
  |none=>rfl
  |some us=>
   simp only[trT,yd,zXD];congr 2;exact zWx λv _=>(zLn C N v).symm
 |func f=>exact .inr rfl
def Kok(C:Cod U)(N:NM)(st:St U)(K:V->S->Prop)(k:T U->St U->Option R)(r:R):Prop:=
 ∀N' a b v v',k v a=some r->Turn N st N' a->SSim C N' a b->VR C N' v v'->K v' b
theorem zDW:∀{l:List Nat}{t:Nat},hasN l t=true->t∈l
 |[],_,h=>by simp[hasN]at h
 |k::r,t,h=>by
  simp only[hasN]at h;by_cases e:k=t
  .subst e;simp
  .have:Nat.beq k t=false:=yy e;simp only[this,zWH]at h;exact zWU _ (zDW h)
theorem jJ:∀{l:List Nat}{t x:Nat},x∈rmN l t->x∈l/\x≠t
 |[],_,_,h=>by simp[rmN]at h
 |k::r,t,x,h=>by
  simp only[rmN]at h;by_cases e:k=t
  .have:Nat.beq k t=true:=by simpa using e
   simp only[this,zWQ]at h;have:=jJ h;exact⟨zWU _ this.1,this.2⟩
  .have a:Nat.beq k t=false:=yy e;simp only[a,zWH,zWB]at h;rcases h with rfl|h
   .exact⟨by simp,e⟩
   .have:=jJ h;exact⟨zWU _ this.1,this.2⟩
theorem xj(k:Nat)(b:Option (Bx U))(r:List (Nat×Option (Bx U)))(l:Nat):lk ((k,b)::r) l=if k=l then b else lk r l:=by
 by_cases e:k=l
 .have:Nat.beq k l=true:=by simpa using e
  simp[lk,this,e]
 .have:Nat.beq k l=false:=yy e;simp[lk,this,e]
def NM.loc(N:NM)(l b c z:Nat):NM:=⟨λj=>if j=l then b else N.bl j,λj=>if j=l then c else N.cp j,λj=>if j=l then z else N.sz j,N.tk⟩
theorem NM.ext_loc(N:NM)(l nx b c z:Nat):Ext l nx N (N.loc l b c z):=
 ⟨λj a=>if_neg (by omega),λj a=>if_neg (by omega),λj a=>if_neg (by omega),λ_ _=>rfl⟩
def NM.tok(N:NM)(t n:Nat):NM:=⟨N.bl,N.cp,N.sz,λj=>if j=t then n else N.tk j⟩
theorem NM.ext_tok(N:NM)(nl t n:Nat):Ext nl t N (N.tok t n):=⟨λ_ _=>rfl,λ_ _=>rfl,λ_ _=>rfl,λj a=>if_neg (by omega)⟩
theorem yx{nl nx:Nat}{N N':NM}(h:Ext nl nx N N'){l:List (T U)}(a:bdds nl nx l=true):l.map (trT C N')=l.map (trT C N):=by
 rw[<-yd,<-yd,zDC C h l a]
theorem OSim.new{nl nx b c z:Nat}{N:NM}{ob:List (Nat×Option (TO U))}{f:List (Nat×OV×List Nat)}(h:OSim C N ob nl f){m:List Nat}{o:TO U}{v:OV}(t:Ext nl nx N (N.loc nl b c z))(g:(N.loc nl b c z).bl nl=b)(u:wfO (N.loc nl b c z) nl o)
 (n:zQ f b=none) (w:v=trO C (N.loc nl b c z) nl o):OSim C (N.loc nl b c z) ((nl,some o)::ob) (nl+1) ((b,v,m)::f):=by
 subst w;have h':=h.ext t (zWh _);have i:∀l o',lko ob l=some o'->(N.loc nl b c z).bl l≠b:=λl o' a e=>by
  obtain⟨m,d⟩:=h'.look l o' a;rw[e,n]at d;cases d
 refine⟨λl o' a=>?_,λl o' a=>?_,λl o' a=>?_,λl p q s a d j=>?_⟩
 .rw[jA]at a;split at a
  .rename_i e;injection a with a;subst e;subst a
   rw[g,zw,if_pos rfl];exact⟨m,rfl⟩
  .rw[zw,if_neg (λe=>i l o' a e.symm)];exact h'.look l o' a
 .rw[jA]at a;split at a
  .omega
  .exact h'.lt l o' a
 .rw[jA]at a;split at a
  .rename_i e;injection a with a;subst e;subst a;exact u
  .exact h'.wf l o' a
 .rw[jA]at a d;split at a
  .rename_i e;subst e;split at d
   .assumption
   .rw[g]at j;exact absurd j.symm (i p s d)
  .split at d
   .rename_i e;subst e;rw[g]at j;exact absurd j (i l q a)
   .exact h'.inj l p q s a d j
theorem zC1{st:St U}{s:S}(a:SSim C N st s){nl nx:Nat}{N':NM}(h:Ext nl nx N N')(d:st.nl<=nl)(e:st.nx<=nx){l:Nat}{b:Bx U}(c:lk st.bx l=some b):trB C N' l b=trB C N l b:=by
 have f:=a.lt l b c;have g:=a.wf l b c;cases b with
 |st cs=>simp only[trB];rw[yx (h.less d e) g.1]
 |ar i xs=>simp only[trB];rw[h.cp l (by omega)]
theorem zCz{nl nx a c:Nat}{N N':NM}(h:Ext nl nx N N')(f:nl<=a)(g:nx<=c){l:Nat}(e:l<nl){b:Bx U}(d:wfB C N nl nx l b):wfB C N' a c l b:=by
 cases b with
 |st cs=>exact⟨yr f g _ d.1,d.2⟩
 |ar i xs=>exact⟨(h.sz l e).trans d.1,by rw[h.cp l e];exact d.2⟩
theorem SSim.newBox{st:St U}{s:S}(d:SSim C N st s){b c z:Nat}{bx:Bx U}(u:Al.look s.box b=none)(v:wfB C (N.loc st.nl b c z) (st.nl+1) st.nx st.nl bx) :
 SSim C (N.loc st.nl b c z) ⟨(st.nl,some bx)::st.bx,st.tg,st.nl+1,st.nx,st.ob⟩ ⟨lay s.box b (trB C (N.loc st.nl b c z) st.nl bx),s.tg,s.nx,s.ob⟩:=by
 have f:=N.ext_loc st.nl st.nx b c z;have h:∀l,l<st.nl->(N.loc st.nl b c z).bl l=N.bl l:=f.bl;have j:(N.loc st.nl b c z).bl st.nl=b:=if_pos rfl;have m:∀l g,lk st.bx l=some g->b≠N.bl l:=λl g a e=>by
  have:=d.box l g a;rw[<-e,u]at this;cases this
 refine⟨?_,?_,?_,?_,d.tgIn,d.tgInj,d.tgLt,d.nm,d.ob.ext f (zWh _)⟩
 .intro l g a;rw[xj]at a;by_cases e:st.nl=l
  .rw[if_pos e]at a;injection a with a
   subst a;subst e;show Al.look (lay s.box b _) _=_;rw[j,zR,if_pos rfl]
  .rw[if_neg e]at a;have q:=d.lt l g a;show Al.look (lay s.box b _) _=_;rw[h l q,zR,if_neg (m l g a),d.box l g a,zC1 d f (zV7 _) (zV7 _) a]
 .intro l g a;rw[xj]at a;by_cases e:st.nl=l
  .show l<st.nl+1;omega
  .rw[if_neg e]at a;have q:=d.lt l g a;show l<st.nl+1;omega
 .intro l g a;rw[xj]at a;by_cases e:st.nl=l
  .rw[if_pos e]at a;injection a with a
   subst a;subst e;exact v
  .rw[if_neg e]at a;exact zCz f (zWh _) (zV7 _) (d.lt l g a) (d.wf l g a)
 .intro l i b1 t o n p;rw[xj]at o n;by_cases e:st.nl=l
  .by_cases e':st.nl=i
   .omega
   .rw[if_neg e']at n;subst e;rw[j,h i (d.lt i t n)]at p;exact absurd p (m i t n)
  .rw[if_neg e]at o;by_cases e':st.nl=i
   .subst e';rw[j,h l (d.lt l b1 o)]at p;exact absurd p.symm (m l b1 o)
   .rw[if_neg e']at n;rw[h l (d.lt l b1 o),h i (d.lt i t n)]at p;exact d.inj l i b1 t o n p
theorem SSim.drop{st:St U}{s:S}(d:SSim C N st s)(l0:Nat){h:Bx U}(m:lk st.bx l0=some h):SSim C N ⟨(l0,none)::st.bx,st.tg,st.nl,st.nx,st.ob⟩ ⟨wipe s.box (N.bl l0),s.tg,s.nx,s.ob⟩:=by
 have a:∀l b,lk ((l0,none)::st.bx) l=some b->l≠l0/\lk st.bx l=some b:=λl b c=>by
  rw[xj]at c;by_cases e:l0=l
  .rw[if_pos e]at c;cases c
  .rw[if_neg e]at c;exact⟨λe'=>e e'.symm,c⟩
 refine⟨λl b c=>?_,λl b c=>d.lt l b (a l b c).2,λl b c=>d.wf l b (a l b c).2,λl i b j g f n=>d.inj l i b j (a l b g).2 (a i j f).2 n,d.tgIn,d.tgInj,d.tgLt,d.nm,d.ob⟩;obtain⟨g,f⟩:=a l b c;show Al.look (wipe s.box _) _=_;rw[xA,if_neg (λe=>g (d.inj l l0 b h f m e.symm)),d.box l b f]
theorem SSim.setBox{st:St U}{s:S}(c:SSim C N st s){l0:Nat}{j b1:Bx U}(m:lk st.bx l0=some j)(o:wfB C N st.nl st.nx l0 b1) :
 SSim C N ⟨(l0,some b1)::st.bx,st.tg,st.nl,st.nx,st.ob⟩ ⟨lay s.box (N.bl l0) (trB C N l0 b1),s.tg,s.nx,s.ob⟩:=by
 have d:∀l b,lk ((l0,some b1)::st.bx) l=some b->(l=l0/\b=b1)\/(l≠l0/\lk st.bx l=some b):=λl b a=>by
  rw[xj]at a;by_cases e:l0=l
  .rw[if_pos e]at a;injection a with a;exact .inl ⟨e.symm,a.symm⟩
  .rw[if_neg e]at a;exact .inr ⟨λe'=>e e'.symm,a⟩
 have any:∀l b,lk ((l0,some b1)::st.bx) l=some b->∃g,lk st.bx l=some g:=λl b a=>by
  rcases d l b a with⟨rfl,_⟩|⟨_,h⟩
  .exact⟨_,m⟩
  .exact⟨_,h⟩
 refine⟨λl b a=>?_,λl b a=>?_,λl b a=>?_,λl n b g i f p=>?_,c.tgIn,c.tgInj,c.tgLt,c.nm,c.ob⟩
 .show Al.look (lay s.box _ _) _=_;rcases d l b a with⟨rfl,rfl⟩|⟨i,f⟩
  .rw[zR,if_pos rfl]
  .rw[zR,if_neg (λe=>i (c.inj l l0 b j f m e.symm)),c.box l b f]
 .obtain⟨g,h⟩:=any l b a;exact c.lt l g h
 .rcases d l b a with⟨rfl,rfl⟩|⟨i,f⟩
  .exact o
  .exact c.wf l b f
 .obtain⟨x,q⟩:=any l b i;obtain⟨y,t⟩:=any n g f;exact c.inj l n x y q t p
theorem SSim.newTok{st:St U}{s:S}(d:SSim C N st s){n:Nat}{tg:List Nat}{tg':List Nat}{x:Nat}(g:∀t∈tg,t∈st.tg)(p:∀t∈tg,N.tk t∈tg')(o:∀t∈tg,N.tk t≠n)(z:s.nx<=x)(q:n<x) :
 SSim C (N.tok st.nx n) ⟨st.bx,st.nx::tg,st.nl,st.nx+1,st.ob⟩ ⟨s.box,n::tg',x,s.ob⟩:=by
 have e:=N.ext_tok st.nl st.nx n;have f:∀t,t<st.nx->(N.tok st.nx n).tk t=N.tk t:=e.tk;have h:(N.tok st.nx n).tk st.nx=n:=if_pos rfl;refine⟨λl b m=>?_,d.lt,λl b m=>?_,λl u b v w y j=>d.inj l u b v w y j,?_,?_,?_,?_,d.ob.ext e (zV7 _)⟩
 .rw[zC1 d e (zV7 _) (zV7 _) m];exact d.box l b m
 .exact zCz e (zV7 _) (zWh _) (d.lt l b m) (d.wf l b m)
 .intro t a;rcases zWB.1 a with rfl|a
  .rw[h];simp
  .rw[f t (d.tgLt t (g t a))];exact zWU _ (p t a)
 .intro t a i c j;rcases zWB.1 a with rfl|a
  .rcases zWB.1 c with rfl|c
   .rfl
   .rw[h,f i (d.tgLt i (g i c))]at j;exact absurd j.symm (o i c)
  .rcases zWB.1 c with rfl|c
   .rw[h,f t (d.tgLt t (g t a))]at j;exact absurd j (o t a)
   .rw[f t (d.tgLt t (g t a)),f i (d.tgLt i (g i c))]at j;exact d.tgInj t (g t a) i (g i c) j
 .intro t a;show t<st.nx+1;rcases zWB.1 a with rfl|a
  .omega
  .have:=d.tgLt t (g t a);omega
 .intro t a;show _<x;rcases zWB.1 a with rfl|a
  .rw[h];exact q
  .rw[f t (d.tgLt t (g t a))];have:=d.nm t (g t a);omega
theorem ky(a:CodOk C)(i:U.I)(xs:List (U.den i)):yw (C.cells i) (xs.map (C.encV i)):=λx b=>by
 obtain⟨y,_,rfl⟩:=zWa.1 b;exact a.size i y
theorem xZ(a:CodOk C)(i:U.I):∀xs:List (U.den i),(zf (xs.map (C.encV i))).length=xs.length*C.cells i
 |[]=>by simp[zf]
 |x::r=>by
  have c:=a.size i x;have b:=a.ones i x;have d:(C.encV i x).flat.length=C.cells i:=by
   rw[<-c];cases e:C.encV i x with
   |agg fs=>rw[e]at b;simp only[V.flat]at b ⊢;simp only[V.size,yV b]
   |_=>simp[V.flat,V.size]
  simp only[zV6,zf,zWD,xZ a i r,d,zWC,zWs];omega
theorem zAf(a:CodOk C)(i:U.I)(x:U.den i):(C.encV i x).flat.length=C.cells i:=by
 have:=xZ a i [x];simpa [zf]using this
theorem zFd(a b:List V):zf (a++b)=zf a++zf b:=by
 induction a with
 |nil=>rfl
 |cons x r c=>simp[zf,c]
theorem zCW(a:CodOk C)(i:U.I):∀xs:List (U.den i),zJ (zf (xs.map (C.encV i)))
 |[]=>rfl
 |x::r=>by
  simp only[zV6,zf];exact zFY (a.ones i x) (zCW a i r)
theorem j7(a:CodOk C)(i:U.I):∀(xs:List (U.den i))(n:Nat),(zf (xs.map (C.encV i))).take (n*C.cells i)=zf ((xs.take n).map (C.encV i))
 |[],n=>by simp[zf]
 |x::r,0=>by simp[zf]
 |x::r,n+1=>by
  have h:=zAf a i x;have e:(n+1)*C.cells i=(C.encV i x).flat.length+n*C.cells i:=by rw[h,zWs];omega
  simp only[zV6,zf,zWW];rw[e,zYt,j7 a i r n]
theorem zBV(a:CodOk C)(i:U.I):∀(xs:List (U.den i))(n:Nat),(zf (xs.map (C.encV i))).drop (n*C.cells i)=zf ((xs.drop n).map (C.encV i))
 |[],n=>by simp[zf]
 |x::r,0=>by simp[zf]
 |x::r,n+1=>by
  have h:=zAf a i x;have e:(n+1)*C.cells i=(C.encV i x).flat.length+n*C.cells i:=by rw[h,zWs];omega
  simp only[zV6,zf,zWl];rw[e,zYu,zBV a i r n]
theorem zKj(A:TbOk C P Tb)(e:CodOk C){st:St U}{s:S}(B:SSim C N st s){t:TypeId}{x n:T U}{f g:V}{K:V->Prop}{k:T U->Option R}(o:VR C N x f)(p:VR C N n g)
 (h:zE1 C Tb st t x n k=some r) (q:∀v,k v=some r->K (trT C N v)):ym P t f g K:=by
 unfold zE1 at h;obtain⟨i,el,u,w,y,z,G⟩:=zA1 A h;clear h;have h:=u;clear u;simp only at h;split at h
 .rename_i _ D;split at h
  .rename_i m j xs;obtain⟨a,b⟩:=zN h;simp only[zV5,zWV]at a;obtain⟨rfl,a⟩:=a;have c:=zEn a;have d:D.toNat<xs.length:=by omega
   rw[o.get (by simp),p.get (by simp)];simp only[trT,ym,w,zWG];rw[zOH xs _ d (C.dflt j)];refine⟨y.has,c,by rw[e.size,z],?_⟩;have:=q _ b;simp only[trT,e.enc]at this;exact this
  .rename_i l m;split at h
   .rename_i j ys E;obtain⟨a,b⟩:=zN h;simp only[zV5,zWV]at a;obtain⟨rfl,a⟩:=a;have c:=zEn a;rw[o.get (by simp),p.get (by simp)];simp only[trT,ym,w];refine⟨y.has,c,?_⟩;have:=q _ b;have F:=B.wf l _ E;simp only[trT,F.1,zW0,z]at this;simpa using this
   .cases h
  .cases h
 .cases h
theorem zI6(b:CodOk C)(i:U.I)(xs:List (U.den i))(a o z:Nat)(c:a<xs.length)(f:o+z<=C.cells i) :
 (((zf (xs.map (C.encV i))).drop (a*C.cells i+o)).take z=((C.encV i (xs.getD a (C.dflt i))).flat.drop o).take z) /\
 (o<C.cells i->(zf (xs.map (C.encV i))).getD (a*C.cells i+o) .any=(C.encV i (xs.getD a (C.dflt i))).flat.getD o .any):=by
 have d:(zf (xs.map (C.encV i))).drop (a*C.cells i)=(C.encV i (xs.getD a (C.dflt i))).flat++zf ((xs.drop (a+1)).map (C.encV i)):=by
  rw[zBV b,zWn c];simp only[zV6,zf,zWk,zWX c,zXB]
 have g:=zAf b i (xs.getD a (C.dflt i));refine⟨?_,λh=>?_⟩
 .rw[<-zZL,d,zYo (by omega),zYn (by rw[zXL];omega)]
 .have e:(zf (xs.map (C.encV i))).getD (a*C.cells i+o) .any=((zf (xs.map (C.encV i))).drop (a*C.cells i)).getD o .any:=by
   simp only[zWk,zXG]
  rw[e,d];rw[zWk (l:=_++_),zYB (by omega),<-zWk]
theorem zHl(m:TbOk C P Tb)(n:CodOk C){st:St U}{s:S}(q:SSim C N st s){t:TypeId}{x:T U}{y:V}{K:V->Prop}{k:T U->Option R}(u:VR C N x y)
 (h:zK3 C Tb st t x k=some r) (w:∀v,k v=some r->K (trT C N v)):xH P s t y K:=by
 unfold zK3 at h;split at h
 .obtain⟨d,c⟩:=zN h;rw[u.get (by simp)];exact⟨zTd (λe=>m _ e) d,w _ c⟩
 .rename_i l o;split at h
  .rename_i cs p;rw[u.get (by simp)];simp only[trT,xH,q.box l _ p,trB];exact zHm (λe=>m _ e) h w
  .cases h
 .rename_i l a o;split at h
  .rename_i i xs p;obtain⟨d,c⟩:=zN h;simp only[zV5,zXw]at d;have z:=yh d.2;have E:=q.wf l _ p;rw[u.get (by simp)];simp only[trT,xH,q.box l _ p,trB,E.1];rw[zBR]at c;obtain⟨A,f⟩:=zHm (P:=P) (t:=t) (λe=>m _ e) c w;have e0:(C.enc i (xs.getD a (C.dflt i))).flat.map (trT C N)=(C.encV i (xs.getD a (C.dflt i))).flat:=by rw[<-qI,n.enc]
   rw[e0]at A f;obtain⟨F,I,B⟩:=A;have G:P.cellsOf t=(Tb t).cells:=by
    have:(Tb t).has=true:=by
     unfold zGS at c;have:=(zN c).1;simp only[zV5]at this;exact this.1.1
    exact(m t this).cells
   have H:=zAf n i (xs.getD a (C.dflt i));have D:=xZ n i xs;have g:(a+1)*C.cells i<=xs.length*C.cells i:=zWt _ z;rw[zWs,zYC]at g;have j:=zI6 n i xs a o (P.cellsOf t) z (by rw[G];exact d.1);refine⟨⟨F,by omega,B⟩,?_⟩;unfold yN at f ⊢;split at f
   .rename_i b;rw[if_pos b,j.1];exact f
   .rename_i b;rw[if_neg b,j.2 (by have:=B (by simpa using b);omega)];exact f
  .cases h
 .cases h
theorem zOW{st:St U}{s:S}(j:SSim C N st s){cs:List (T U)}{g:List V}(f:cs.map (trT C N)=g){K:V->S->Prop}{k:T U->St U->Option R}(h:dNew st cs k=some r)(l:Kok C N st K k r):aNew s g K:=by
 subst f;unfold dNew at h;obtain⟨d,m⟩:=zN h;simp only[zV5]at d;refine⟨(y9 C N cs).2 d.1,λb n=>?_⟩;have i:=j.newBox (b:=b) (c:=0) (z:=0) (bx:=.st cs) n ⟨yr (zWh _) (zV7 _) _ d.2,d.1⟩;have a:=N.ext_loc st.nl st.nx b 0 0;simp only[trB,yx a d.2]at i;have:=l _ _ _ _ _ m ⟨a,zWh _,zV7 _⟩ i (.inr rfl);simp only[trT]at this;have e:(N.loc st.nl b 0 0).bl st.nl=b:=if_pos rfl;rw[e]at this;simpa using this
theorem zPb(N:NM){z:T U}(h:noOw z=true):zx (trT C N z)=trT C N z:=by
 cases z<;>try rfl
 rename_i m i xs;cases m with
 |b n=>cases n<;>rfl
 |dl=>exact zBB _
 |ow t a=>cases h
theorem zKQ:∀{l:List (T U)},zGw l=true->∀z∈l,noOw z=true
 |[],_,z,b=>by cases b
 |a::r,h,z,b=>by
  simp only[zGw,zV5]at h;rcases zWB.1 b with rfl|b
  .exact h.1
  .exact zKQ h.2 z b
theorem zQW{v:V}(h:v.isOne=true):v.untag=zx v:=by cases v<;>first|rfl|cases h
theorem zNn{v:V}(h:v.untag=v)(c:zJ v.flat):∀y∈v.flat,zx y=y:=by
 intro y a;cases v with
 |agg fs=>
  simp only[V.untag,V.agg.injEq]at h;simp only[V.flat]at a;obtain⟨j,b,rfl⟩:=List.getElem_of_mem a;have:=zWp (λl=>l[j]?) h;simp only[zWM,zWX b,zXC,zXo]at this;exact this
 |_=>
  simp only[V.flat,zW1]at a;subst a;exact h
theorem zPy{N:NM}(a:Bool){l:List (T U)}(h:∀z∈l,z.isOne=true/\zx (trT C N z)=trT C N z):(trT C N (asEl a l)).untag=trT C N (asEl a l):=by
 cases a with
 |true=>
  simp only[asEl,zWQ,trT,V.untag,yd,zXD];congr 1;exact zWx λz b=>(h z b).2
 |false=>
  cases l with
  |nil=>rfl
  |cons z r=>
   simp only[asEl,zWH,List.headD_cons];obtain⟨c,d⟩:=h z (zWr ..);rw[zQW (by rw[zE7];exact c),d]
theorem decS{i:U.I}(c:CodOk C){x:U.den i}{o:Nat}{d:List (T U)}{r:R}{k:U.den i->Option R}(e:(C.plain i||zGw d)=true)(j:yR d=true)(h:C.dec i (asEl (C.agg i) (splT (C.enc i x).flat o d)) k=some r) :
 ∃f,k f=some r/\∀N,trT C N (asEl (C.agg i) (splT (C.enc i x).flat o d))=C.encV i f:=by
 rcases(by simpa using e:C.plain i=true\/zGw d=true)with e|e
 .exact c.decP i _ _ _ e h
 .obtain⟨f,m,n⟩:=c.dec i _ _ _ h;refine⟨f,m,λN=>?_⟩;rw[<-n N];refine(zPy _ λz a=>?_).symm;have p:(C.enc i x).flat.map (trT C N)=(C.encV i x).flat:=by rw[<-qI,c.enc]
  have b:∀z∈(C.enc i x).flat,z.isOne=true/\zx (trT C N z)=trT C N z:=λz a=>by
   have l:trT C N z∈(C.encV i x).flat:=by rw[<-p];exact List.mem_map_of_mem a
   have g:=c.ones i x;refine⟨?_,zNn (c.untag i x) g _ l⟩;unfold zJ at g;rw[zWL]at g;rw[<-zE7 C N];exact g _ l
  simp only[splT,zWe]at a;rcases a with(a|a)|a
  .exact b z (zW2 a)
  .refine⟨?_,zPb N (zKQ e z a)⟩;unfold yR at j;rw[zWL]at j;exact j z a
  .exact b z (zXW a)
theorem zQp(hT:TbOk C P Tb)(d:CodOk C){st:St U}{s:S}(A:SSim C N st s){t:TypeId}{x y:T U}{xv yv:V}{K:S->Prop}{k:St U->Option R}(hx:VR C N x xv)(hy:VR C N y yv)
 (h:zMI C Tb st t x y k=some r) (hK:∀n s',k n=some r->Turn N st N n->SSim C N n s'->K s'):qS P s t xv yv K:=by
 unfold zMI at h;rw[zBR]at h;have J:=zN h;clear h;obtain⟨p,h⟩:=J;simp only[zV5,zXm]at p;obtain⟨⟨p,h2⟩,g⟩:=p;have H:=hT t p;have L:y≠.any:=λe=>by subst e;simp[T.flat,yR,T.isOne]at g
 have M:=hy.get L;subst M;split at h
 .rename_i l o;split at h
  .rename_i cs q;obtain⟨B,I⟩:=zN h;simp only[zV5,zXw]at B;rw[zBR]at I;rw[hx.get (by simp)];simp only[trT,qS,A.box l _ q,trB,qI,zWG];refine⟨H.has,by rw[H.cells];exact h2,(y9 C N _).2 g,B.1,?_⟩;have v:=A.wf l _ q;have j:(splT cs o y.flat).length=cs.length:=by simp[splT];omega
   have D:yR (splT cs o y.flat)=true:=by
    have p:=v.2;unfold yR at *;rw[zWL]at *;intro z c;simp only[splT,zWe]at c;rcases c with(c|c)|c
    .exact p z (zW2 c)
    .exact g z c
    .exact p z (zXW c)
   have O:bdds st.nl st.nx (splT cs o y.flat)=true:=by
    have f:∀l:List (T U),bdds st.nl st.nx l=true↔∀z∈l,bdd st.nl st.nx z=true:=λl=>by
     induction l with
     |nil=>simp[bdds]
     |cons a r ih=>simp[bdds,ih]
    rw[f];intro z c;simp only[splT,zWe]at c;rcases c with(c|c)|c
    .exact(f _).1 v.1 z (zW2 c)
    .exact(f _).1 B.2 z c
    .exact(f _).1 v.1 z (zXW c)
   have E:=A.setBox (b1:=.st (splT cs o y.flat)) q ⟨O,D⟩;simp only[trB,zJP,j]at E;exact hK _ _ I ⟨.refl _ _ _,zV7 _,zV7 _⟩ E
  .cases h
 .rename_i l a o;split at h
  .rename_i i xs q;obtain⟨B,I⟩:=zN h;simp only[zV5,zXw]at B;obtain⟨⟨hp,ho⟩,w⟩:=B;have w:=yh w;obtain⟨F,h6,h7⟩:=decS d hp g I;have v:=A.wf l _ q;rw[hx.get (by simp)];simp only[trT,qS,A.box l _ q,trB,qI,zWG,v.1];have j:=xZ d i xs;have Q:=zAf d i (xs.getD a (C.dflt i));have G:(a+1)*C.cells i<=xs.length*C.cells i:=zWt _ w;rw[zWs,zYC]at G;refine⟨H.has,by rw[H.cells];exact h2,(y9 C N _).2 g,by omega,?_⟩;have E:=A.setBox (b1:=.ar i (xs.set a F)) q ⟨v.1,by rw[zYI];exact v.2⟩;simp only[trB]at E;have e:spl (zf (xs.map (C.encV i))) (a*C.cells i+o) (y.flat.map (trT C N))=zf ((xs.set a F).map (C.encV i)):=by
    have h8:=h7 N;have W:(C.enc i (xs.getD a (C.dflt i))).flat.map (trT C N)=(C.encV i (xs.getD a (C.dflt i))).flat:=by rw[<-qI,d.enc]
    have e2:(C.encV i F).flat=spl (C.encV i (xs.getD a (C.dflt i))).flat o (y.flat.map (trT C N)):=by
     rw[<-h8,qI,<-W,<-zJP];unfold asEl;cases X:C.agg i with
     |true=>rfl
     |false=>
      have h9:=d.one i X;have Y:(C.enc i (xs.getD a (C.dflt i))).flat.length=1:=by
       have:=zWp List.length W;rw[zWG,Q,h9]at this;exact this
      have Z:(splT (C.enc i (xs.getD a (C.dflt i))).flat o y.flat).length=1:=by rw[splT,zWD,zWD,zWT,zXL,Y];omega
      match J:splT (C.enc i (xs.getD a (C.dflt i))).flat o y.flat,Z with
      |[z],_=>
       simp only[zWH,List.headD_cons];have:yR [z]=true:=by
        rw[<-J];unfold yR;rw[zWL];intro u m;simp only[splT,zWe]at m;have b:yR (C.enc i (xs.getD a (C.dflt i))).flat=true:=(y9 C N _).1 (by rw[W];exact d.ones i _);unfold yR at b g;rw[zWL]at b g;rcases m with(m|m)|m
        .exact b u (zW2 m)
        .exact g u m
        .exact b u (zXW m)
       cases z<;>simp[yR,T.isOne]at this<;>rfl
    have ex:xs.set a F=xs.take a++F::xs.drop (a+1):=by rw[List.set_eq_take_append_cons_drop,if_pos w]
    rw[ex,zWy,zFd,zV6];simp only[zf];rw[e2];unfold spl;rw[<-j7 d,<-zBV d];have d1:(zf (xs.map (C.encV i))).take (a*C.cells i+o)=(zf (xs.map (C.encV i))).take (a*C.cells i)++(C.encV i (xs.getD a (C.dflt i))).flat.take o:=by
     rw[List.take_add];congr 1;have:=(zI6 d i xs a 0 o w (by omega)).1;simpa using this
    have d2:(zf (xs.map (C.encV i))).drop (a*C.cells i+o+(y.flat.map (trT C N)).length)=(C.encV i (xs.getD a (C.dflt i))).flat.drop (o+(y.flat.map (trT C N)).length)++(zf (xs.map (C.encV i))).drop ((a+1)*C.cells i):=by
     have hd:(zf (xs.map (C.encV i))).drop (a*C.cells i)=(C.encV i (xs.getD a (C.dflt i))).flat++zf ((xs.drop (a+1)).map (C.encV i)):=by
      rw[zBV d,zWn w];simp only[zV6,zf,zWk,zWX w,zXB]
     rw[zX7,<-zZL,hd,zYo (by rw[zWG];omega),zBV d]
    rw[d1,d2];simp
   rw[e];exact hK _ _ h6 ⟨.refl _ _ _,zV7 _,zV7 _⟩ E
  .cases h
 .cases h
theorem xt{i j:U.I}{xs:List (U.den j)}{k:List (U.den i)->Option R}(h:ke i j xs k=some r):∃e:j=i,k (kZ e xs)=some r:=by
 unfold ke at h;split at h
 .rename_i e;exact⟨e,h⟩
 .cases h
theorem zHT{b n:Nat}(h:okN b n=true):n*b<=140737488355328/\n<=maxLen:=by
 simpa [okN]using h
theorem zOf(c:TbOk C P Tb){el:TypeId}(a:Facts C P el (Tb el))(h:(match(Tb el).zero with|some z=>Nat.beq z.length (Tb el).cells|none=>false)=true) :
 (yZ P el).isSome=true/\(yZ P el).map List.length=some (P.cellsOf el):=by
 rw[a.zero ⟨id,id,id,id⟩,a.cells];split at h
 .rename_i z b;rw[b];simp only[zXm]at h;simp[h]
 .cases h
theorem zDs(hT:TbOk C P Tb)(E:CodOk C){L:Pol}{st:St U}{s:S}(o:SSim C N st s){f:Option Nat}{t t2:TypeId}{x y:T U}{xv yv:V}{K:V->S->Prop}{k:T U->St U->Option R}
 (Q:VR C N x xv) (hy:VR C N y yv) (h:zDH Tb L.wr f st t t2 x y k=some r) (M:Kok C N st K k r):xS P L f s t t2 xv yv K:=by
 unfold zDH at h;obtain⟨i,el,hh,h1,G,v,h4⟩:=zA1 hT h;clear h;have h:=hh;clear hh;simp only at h;have d:=zN h;clear h;obtain⟨h5,h⟩:=d;simp only[zV5,zXm]at h5;obtain⟨rfl,W⟩:=h5;have W:=(zOf hT G W).2;have X:wrD L.wr f=(f.map L.wr).getD false:=by cases f<;>rfl
 rw[X]at h;split at h
 .rename_i m j g;have d:=xt h;clear h;obtain⟨rfl,h⟩:=d;simp only[kZ]at h;have Y:=hy.get (by simp);subst Y;simp only[trT,xS,h1];refine⟨trivial,G.has,W,by rw[<-v];exact E.pos j,by rw[<-v];exact ky E j g,?_⟩;split at h
  .have d:=zN h;clear h;obtain⟨p,h⟩:=d;have p:=zHT p;rw[Q.get (by simp)];simp only[trT,zWG];refine⟨by rw[G.bytes];exact p.1,p.2,?_⟩;split
   .rename_i A;rw[A]at h;simp only[zWQ]at h;have d:=zN h;clear h;obtain⟨F,h⟩:=d;refine⟨by cases g<;>simp at F ⊢,zCW E j g,λb cap Z w=>?_⟩;have u:=o.newBox (b:=b) (c:=cap) (z:=C.cells j) (bx:=.ar j g) Z ⟨if_pos rfl,by show _<=if _ then _ else _;rw[if_pos rfl];exact w⟩;have q:=N.ext_loc st.nl st.nx b cap (C.cells j);have H:(N.loc st.nl b cap (C.cells j)).cp st.nl=cap:=if_pos rfl;have eb:(N.loc st.nl b cap (C.cells j)).bl st.nl=b:=if_pos rfl;simp only[trB,H]at u;have:=M _ _ _ _ _ h ⟨q,zWh _,zV7 _⟩ u (.inr rfl);simp only[trT,H,eb]at this;rw[<-v];exact this
   .rename_i A;have A:(Option.map L.wr f).getD false=false:=by simpa using A
    rw[A]at h;simp only[zWH]at h;have u:=o.newTok (n:=s.nx) (tg:=st.tg) (tg':=s.tg) (x:=s.nx+1) (λ_ h=>h) o.tgIn (λt B=>zXp (o.nm t B)) (zWh _) (zXk _);have:=M _ _ _ _ _ h ⟨N.ext_tok st.nl st.nx s.nx,zV7 _,zWh _⟩ u (.inr rfl);simp only[trT,trM]at this;have e:(N.tok st.nx s.nx).tk st.nx=s.nx:=if_pos rfl;rw[e,v]at this;exact this
  .rename_i m' D I;split at h
   .rename_i tk nb;have d:=xt h;clear h;obtain⟨rfl,h⟩:=d;simp only[kZ]at h;have d:=zN h;clear h;obtain⟨p,h⟩:=d;simp only[zV5]at p;have F:=zHT p.2;have hm:=zDW p.1;rw[Q.get (by simp)];simp only[trT,trM,zWG];refine⟨o.tgIn _ hm,v,by rw[G.bytes];exact F.1,F.2,?_⟩;have u:=o.newTok (n:=s.nx) (tg:=rmN st.tg tk) (tg':=s.tg.erase (N.tk tk)) (x:=s.nx+1) (λt B=>(jJ B).1) (λt B=>by
     obtain⟨q1,q2⟩:=jJ B;exact(List.mem_erase_of_ne (λe=>q2 (o.tgInj t q1 tk hm e))).2 (o.tgIn t q1)) (λt B=>zXp (o.nm t (jJ B).1)) (zWh _) (zXk _)
    have:=M _ _ _ _ _ h ⟨N.ext_tok st.nl st.nx s.nx,zV7 _,zWh _⟩ u (.inr rfl);simp only[trT,trM]at this;have e:(N.tok st.nx s.nx).tk st.nx=s.nx:=if_pos rfl;rw[e,zWy]at this;exact this
   .cases h
  .rename_i l n;split at h
   .rename_i D I hl;have d:=xt h;clear h;obtain⟨rfl,h⟩:=d;simp only[kZ]at h;have d:=zN h;clear h;obtain⟨p,h⟩:=d;simp only[zV5,zXw]at p;obtain⟨⟨F,h8⟩,O⟩:=p;have O:=zHT O;have A:=o.wf l _ hl;rw[Q.get (by simp)];simp only[trT,o.box l _ hl,trB,zWG];refine⟨F,by rw[v],by have:=A.2;omega,by rw[xZ E,<-v];exact zWt _ h8,by rw[G.bytes];exact O.1,O.2,zCW E D g,λJ a Z w=>?_⟩;have hd:=o.drop l hl;have u:=hd.newBox (b:=J) (c:=a) (z:=C.cells D) (bx:=.ar D (I.take n++g)) Z ⟨if_pos rfl,by
     show _<=if _ then _ else _
     rw[if_pos rfl,zWD,zWT];omega⟩
    have q:=N.ext_loc st.nl st.nx J a (C.cells D);have H:(N.loc st.nl J a (C.cells D)).cp st.nl=a:=if_pos rfl;have eb:(N.loc st.nl J a (C.cells D)).bl st.nl=J:=if_pos rfl;simp only[trB,H]at u;have:=M _ _ _ _ _ h ⟨q,zWh _,zV7 _⟩ u (.inr rfl);simp only[trT,H,eb]at this;rw[zWy,zFd,<-j7 E]at this;rw[<-v];exact this
   .cases h
  .cases h
 .cases h
end
open Go.Al
section
variable{U:TyU}{C:Cod U}{P:Program}{Tb:TypeId->TD U}{R:Type}{r:R}{N:NM}
theorem zO7(b:TbOk C P Tb)(c:CodOk C){L:Pol}{st:St U}{s:S}(d:SSim C N st s){a:Option Nat}{t n:TypeId}{x y:T U}{e o:V}{K:V->S->Prop}{k:T U->St U->Option R}
 (f:VR C N x e) (g:VR C N y o) (h:zJj Tb L.wr a st t n x y k=some r) (i:Kok C N st K k r):xS P L a s t n e o K:=by
 unfold zJj at h;split at h
 .rename_i m j xs;split at h
  .have p:=zN h;clear h;obtain⟨q,h⟩:=p;have u:xs=[]:=by simpa using q
   subst u;have l:VR C N (.nil:T U) e:=.inr ((f.get (by simp)).trans rfl);exact zDs b c d l g h i
  .exact zDs b c d f g h i
 .exact zDs b c d f g h i
theorem zPd(s:List UInt8)(a b:Nat):(⟨s.toArray⟩:ByteArray).extract a b=⟨((s.take b).drop a).toArray⟩:=by
 apply zYS;simp[zZF,zYl,zX9,List.drop_take]
def OR(C:Cod U)(N:NM)(x:Option (T U))(v:Option V):Prop:=match x,v with|none,none=>True|some x,some v=>VR C N x v|_,_=>False
theorem zQX(H:TbOk C P Tb)(X:CodOk C){st:St U}{s:S}(Y:SSim C N st s){t:TypeId}{x:T U}{Z:V}{lo hi:Option (T U)}{g B:Option V}{K:V->Prop}{k:T U->Option R}(E:VR C N x Z)
 (f:OR C N lo g) (o:OR C N hi B) (h:zLR C Tb st t x lo hi k=some r) (F:∀v,k v=some r->K (trT C N v)):jo P t Z g B K:=by
 unfold zLR at h;split at h
 .rename_i m j xs;obtain⟨i,el,b,p,z,G,J⟩:=zA1 H h;clear h;have A:=zN b;clear b;obtain⟨q,h⟩:=A;simp only[zWV]at q;subst q;rw[E.get (by simp)];simp only[trT,jo,p];refine⟨z.has,.inr λy hy=>by rw[<-G];exact ky X j xs y (zW2 hy),?_⟩;refine zA4 f h λl D=>?_;rw[zWG];refine zA4 o D λb c=>?_;obtain⟨u,w⟩:=zN c;refine⟨zEy u,?_⟩;have:=F _ w;simp only[trT,cutL,zX6,zXr]at this;rw[zVV m xs (cutL xs l b)];simpa [cutL,zX6,zXr]using this
 .rename_i l0 n;obtain⟨i,el,b,p,z,G,J⟩:=zA1 H h;clear h;split at b
  .split at b
   .rename_i j xs D;have A:=zN b;clear b;obtain⟨q,h⟩:=A;simp only[zWV]at q;subst q;cases g with
    |some _=>exact f.elim
    |none=>
     rw[E.get (by simp)];simp only[trT,jo,p];refine⟨z.has,?_⟩;have e0:∀(d:Int)(K:Int->Prop),jR none d K=K d:=λ_ _=>rfl;rw[e0];refine zA4 o h λb c=>?_;obtain⟨u,w⟩:=zN c;obtain⟨L,M,q3⟩:=zEy u;have I:=Y.wf l0 _ D;refine⟨⟨L,M,by have:=I.2;omega⟩,?_⟩;have:=F _ w;simp only[trT]at this;have O:(if((N.cp l0:Nat):Int)=0 then 0 else 0+(0:Int).toNat*P.cellsOf el)=0:=by split<;>simp
     rw[O];simpa using this
   .cases b
  .rename_i aa;split at b
   .rename_i Q a;split at b
    .rename_i j xs D;have A:=zN b;clear b;obtain⟨q,h⟩:=A;simp only[zWV]at q;subst q;cases g with
     |none=>exact f.elim
     |some lv=>
      have W:lv=.at (.int Q a):=(VR.get (C:=C) (N:=N) (x:=.int Q a) f (by simp)).trans rfl;subst W;rw[E.get (by simp)];simp only[trT,jo,p];refine⟨z.has,?_⟩;have e0:∀(d:Int)(K:Int->Prop),jR (some (.at (.int Q a))) d K=K a:=λ_ _=>rfl;rw[e0];refine zA4 o h λb c=>?_;obtain⟨u,w⟩:=zN c;obtain⟨L,M,q3⟩:=zEy u;have I:=Y.wf l0 _ D;refine⟨⟨L,M,by have:=I.2;omega⟩,?_⟩;have:=F _ w;simp only[trT]at this;have O:(if((N.cp l0:Nat):Int)=a then 0 else 0+a.toNat*P.cellsOf el)=(if N.cp l0=a.toNat then 0 else a.toNat*N.sz l0):=by
       rw[I.1,G];by_cases e:N.cp l0=a.toNat
       .rw[if_pos e,if_pos (by omega)]
       .rw[if_neg e,if_neg (by omega),zWP]
      rw[O];exact this
    .cases b
   .cases b
 .rename_i s';obtain⟨p,z⟩:=zN h;simp only[zV5]at p;rw[E.get (by simp)];simp only[trT,jo];refine⟨(H t p.1).isStr.trans p.2,?_⟩;refine zA4 f z λl D=>?_;have e:((⟨s'.toArray⟩:ByteArray).size:Int)=lenI s':=by simp[ByteArray.size,lenI]
  rw[e];refine zA4 o D λb c=>?_;obtain⟨u,w⟩:=zN c;refine⟨by have:=zEy u;simpa [lenI]using this,?_⟩;have:=F _ w;simp only[trT,cutL]at this;rw[zPd];exact this
 .split at h
  .rename_i fs;split at h
   .split at h
    .split at h
     .rename_i m i hr;obtain⟨p,z⟩:=zN h;simp only[zV5,zXm,zXE]at p;obtain⟨⟨⟨⟨G,J⟩,q⟩,u⟩,w⟩:=p;obtain⟨xs,h8,h9⟩:=zHg X J z;rw[E.get (by simp)];cases g with
      |some _=>exact f.elim
      |none=>
       cases B with
       |some _=>exact o.elim
       |none=>
        simp only[trT,jo,yd];have A:=F _ h8;simp only[trT,trM,zWO,zWA]at A;refine⟨by rw[zWG,<-u];exact(H t G).arr m i hr,(y9 C N fs).2 q,λe=>?_,trivial,trivial,by rw[h9 N];exact A⟩;have:fs=[]:=by simpa using e
        subst this;simp at w
     .cases h
    .cases h
   .cases h
  .cases h
 .cases h
theorem zGK(a:CodOk C){i:U.I}:∀{parts:List (Nat×T U)}{k:List (U.den i)->Option R},zIL C i parts k=some r ->
 ∃xs,k xs=some r/\(∀N,parts.map (λp=>(trT C N p.2).untag)=xs.map (C.encV i))/\(C.plain i=true->∀N,parts.map (λp=>trT C N p.2)=xs.map (C.encV i))
 |[],k,h=>⟨[],h,λ_=>rfl,λ_ _=>rfl⟩
 |p::j,k,h=>by
  simp only[zIL]at h;by_cases b:C.plain i=true
  .obtain⟨x,d,c⟩:=a.decP i _ _ _ b h;obtain⟨xs,e,f,l⟩:=zGK a d;exact⟨x::xs,e,λN=>by rw[zV6,zV6,f N,c N,a.untag],λb N=>by rw[zV6,zV6,l b N,c N]⟩
  .obtain⟨x,d,c⟩:=a.dec i _ _ _ h;obtain⟨xs,e,f,l⟩:=zGK a d;exact⟨x::xs,e,λN=>by rw[zV6,zV6,f N,c N],λg=>absurd g b⟩
def PR(C:Cod U)(N:NM)(parts:List (Nat×T U))(vs:List (Nat×V)):Prop:=vs.map (·.1)=parts.map (·.1)/\∀(j:Nat)(x:Nat×T U)(v:Nat×V),parts[j]?=some x->vs[j]?=some v->VR C N x.2 v.2
theorem PR.exact:∀{parts:List (Nat×T U)}{vs:List (Nat×V)},PR C N parts vs->zCx parts=true->vs=parts.map λp=>(p.1,trT C N p.2)
 |[],vs,h,_=>by have:=h.1;simpa using this
 |p::c,vs,h,d=>by
  simp only[zCx,zV5]at d;cases vs with
  |nil=>have:=h.1;simp at this
  |cons v vs=>
   have f:=h.1;simp only[zV6,zXe]at f;have i:=h.2 0 p v rfl rfl;have g:p.2≠.any:=λe=>by rw[e]at d;simp[T.flat,yR,T.isOne]at d
   have:=PR.exact (parts:=c) (vs:=vs) ⟨f.2,λj x v a b=>h.2 (j+1) x v (by simpa using a) (by simpa using b)⟩ d.2;rw[this];simp only[zV6,zXe];exact⟨by rw[<-f.1,<-i.get g],trivial⟩
theorem zNA{f:T U->V}:∀{n:Nat}{parts:List (Nat×T U)},zLG n parts=true->jl n (parts.map λp=>(p.1,f p.2))=true
 |_,[],_=>rfl
 |n,p::a,h=>by
  simp only[zLG,zV5,zXm]at h;simp only[zV6,jl,zV5,zXq];exact⟨h.1,zNA h.2⟩
theorem zH5(N:NM):∀{parts:List (Nat×T U)},zCx parts=true->(parts.map λp=>(p.1,trT C N p.2)).all (λp=>p.2.flat.all V.isOne)=true
 |[],_=>rfl
 |p::a,h=>by
  simp only[zCx,zV5]at h;simp only[zV6,zWK,zV5];refine⟨?_,zH5 N h.2⟩;have:=(y9 C N p.2.flat).2 h.1;rw[<-qI]at this;exact this
theorem zJz(M:TbOk C P Tb)(w:CodOk C){L:Pol}{st:St U}{s:S}(g:SSim C N st s){d:Option Nat}{t:TypeId}{n:Nat}{parts:List (Nat×T U)}{vs:List (Nat×V)}{K:V->S->Prop}{k:T U->St U->Option R}
 (Y:PR C N parts vs) (h:zDx C Tb L.wr L.own d st t n parts k=some r) (y:Kok C N st K k r):yU P L d s t n vs K:=by
 unfold zDx at h;obtain⟨i,el,O,Z,A,B,h4⟩:=zA1 M h;clear h;have hq:=zN O;clear O;obtain⟨Q,h⟩:=hq;simp only[zV5,zXw,zXm,zWV]at Q;obtain⟨⟨⟨⟨⟨u,h6⟩,h7⟩,W⟩,h9⟩,j⟩:=Q;have u:=zOf M A u;have D:=Y.exact j;subst D;obtain⟨xs,a,l,E⟩:=zGK w h;clear h;have F:wrD L.wr d=(d.map L.wr).getD false:=by cases d<;>rfl
 have G:wrD L.own d=(d.map L.own).getD false:=by cases d<;>rfl
 rw[F,G]at a;have f:xs.length=n:=by
  have:=zWp List.length (l N);simp only[zWG]at this;omega
 have H:(List.map (λp=>(p.1,trT C N p.2)) parts).map (λp=>p.2.untag)=xs.map (C.encV i):=by
  rw[zXD];exact l N
 unfold yU;simp only[Z,H];refine⟨A.has,u.1,u.2,by rw[A.cells];exact h6,h7,by rw[zWG];exact W,zNA h9,by rw[<-B];exact ky w i xs,zH5 N j,?_⟩;split
 .rename_i m;rw[m]at a;simp only[zWQ]at a;obtain⟨I,J⟩:=zN a;have e:(List.map (λp=>(p.1,trT C N p.2)) parts).map (·.2)=xs.map (C.encV i):=by
   cases parts with
   |nil=>
    have:xs=[]:=zXa (f.trans W.symm);rw[this];rfl
   |cons p ps=>rw[zXD];exact E ((Bool.or_false _).symm.trans I) N
  rw[e];refine⟨zCW w i xs,λb hb=>?_⟩;have v:=g.newBox (b:=b) (c:=n) (z:=C.cells i) (bx:=.ar i xs) hb ⟨if_pos rfl,by show _<=if _ then _ else _;rw[if_pos rfl,f];exact zV7 _⟩;have o:=N.ext_loc st.nl st.nx b n (C.cells i);have X:(N.loc st.nl b n (C.cells i)).cp st.nl=n:=if_pos rfl;have eb:(N.loc st.nl b n (C.cells i)).bl st.nl=b:=if_pos rfl;simp only[trB,X]at v;have:=y _ _ _ _ _ J ⟨o,zWh _,zV7 _⟩ v (.inr rfl);simp only[trT,X,eb]at this;rw[<-B];exact this
 .rename_i m;have m:(Option.map L.wr d).getD false=false:=by simpa using m
  rw[m]at a;simp only[zWH]at a;split
  .rename_i q;rw[q]at a;simp only[zWQ]at a;have v:=g.newTok (n:=s.nx) (tg:=st.tg) (tg':=s.tg) (x:=s.nx+1) (λ_ h=>h) g.tgIn (λt ht=>zXp (g.nm t ht)) (zWh _) (zXk _);have:=y _ _ _ _ _ a ⟨N.ext_tok st.nl st.nx s.nx,zV7 _,zWh _⟩ v (.inr rfl);simp only[trT,trM]at this;have e:(N.tok st.nx s.nx).tk st.nx=s.nx:=if_pos rfl;rw[e,B]at this;exact this
  .rename_i q;have q:(Option.map L.own d).getD false=false:=by simpa using q
   rw[q]at a;simp only[zWH]at a;have:=y _ _ _ _ _ a ⟨.refl _ _ _,zV7 _,zV7 _⟩ g (.inr rfl);simpa [trT,trM]using this
def zD5(C:Cod U)(P:Program)(L:Pol)(a:Call U R)(r:R)(PP:List PanicEntry->Prop):Prop:=
 ∀n args e st k N s,SSim C N st s->bdds st.nl st.nx args=true->qG args=true->a n args e st k=some r ->
  ∀K KP d,(∀b∈d,∃l∈e,N.bl l=b)->Kok C N st K k r->(∀c s,PP c->KP c s)->(n<1000000->zCm P L d (.clo (.func n) []) (args.map (trT C N)) s K KP)/\(∀m,mIx m=n->∀x as,args=x::as->zOO P (trT C N x) m (as.map (trT C N)) s K) /\
   (∀m,cIx m=n->∀as caps,args=as++caps->qG as=true->zDp caps=true->zCm P L d (.clo (.func m) (caps.map (trT C N))) (as.map (trT C N)) s K KP)
structure KdOk(L:Pol)(kd:KD)(N:NM)(nl:Nat):Prop where
 kl:∀p∈L.kl,∃l,(p.1,p.2,l)∈kd
 kb:∀d b,b∈L.kb d->∃u l,(d,u,l)∈kd/\N.bl l=b
 kb2:∀d u l,(d,u,l)∈kd->N.bl l∈L.kb d/\l<nl
theorem KdOk.turn{L:Pol}{f:KD}{N N':NM}{st a:St U}(h:KdOk L f N st.nl)(t:Turn N st N' a):KdOk L f N' a.nl:=
 ⟨h.kl,λd b g=>let⟨u,l,c,e⟩:=h.kb d b g;⟨u,l,c,(t.ext.bl l (h.kb2 d u l c).2).trans e⟩,λd u l i=>let⟨c,e⟩:=h.kb2 d u l i;⟨by rw[t.ext.bl l e];exact c,zWN e t.nl⟩⟩
theorem ldD_ok{L:Pol}{g:KD}{st:St U}{e:En U}{E:Env}(i:KdOk L g N st.nl)(m:ESim C N st e E){x:Operand}(h:ldD g x e=true):ldK L x (E.ev x):=by
 cases x with
 |tmp u=>
  intro p n q b o d;subst q;obtain⟨l,j⟩:=i.kl p n;have a:=zWL.1 h _ j;have s:Nat.beq p.2 p.2=true:=by simp
  simp only[s,zYR,zYg]at a;have c:=(m p.2).1;have t:=i.kb2 p.1 p.2 l j;change E.get p.2=_ at d;split at a
  .rename_i v o' f;have:v=l:=by simpa using a
   subst this;rw[f]at c;have:=c.get (by simp);rw[d]at this;simp only[trT]at this;injection this with this
   injection this with this
   injection this with this
   injection this with w _ _
   rw[w];exact t.1
  .rename_i y f;rw[f]at c;have:=c.get (by simp);rw[d]at this;simp[trT]at this
  .cases a
 |_=>trivial
theorem stD_ok{L:Pol}{n:KD}{st:St U}{s:S}{e:En U}{E:Env}(t:KdOk L n N st.nl)(v:SSim C N st s)(w:ESim C N st e E){x:Operand}(h:stD n x e st=true):stK L x (E.ev x):=by
 cases x with
 |tmp a=>
  intro b o p f;obtain⟨u,y,z,g⟩:=t.kb _ b f;have d:=zWL.1 h _ z;have i:Nat.beq (1000000+a) (1000000+a)=true:=by simp
  simp only[i,zYR,zYg]at d;have q:=(w a).1;change E.get a=_ at p;split at d
  .rename_i l o' A;simp only[zV5,zXE]at d;rw[A]at q;have:=q.get (by simp);rw[p]at this;simp only[trT]at this;injection this with this
   injection this with this
   injection this with this
   injection this with B _ _
   have c:∀j,zLD st j=true->∃bx,lk st.bx j=some bx:=λj m=>by
    unfold zLD at m;split at m
    .rename_i bx f;exact⟨bx,f⟩
    .cases m
   obtain⟨b1,D⟩:=c _ d.1.2;obtain⟨F,G⟩:=c _ d.2;have:=v.inj l y b1 F D G (B.symm.trans g.symm);subst this;simp at d
  .cases d
 |_=>trivial
theorem zUK{a:KD}{d u l:Nat}(h:(d,u,l)∈a):l∈ksD a (some d):=zX1.2 ⟨_,h,by simp⟩
theorem zGF:∀{e:En U}{E:Env}{st:St U}(_:ESim C N st e E){l:List Operand},qG (evL e l)=true->l.map E.ev=(evL e l).map (trT C N)
 |_,_,_,_,[],_=>rfl
 |e,E,st,b,x::c,h=>by
  simp only[evL,qG,zV5]at h;simp only[evL,zV6];have a:evT e x≠.any:=λe'=>by rw[e']at h;simp[T.flat,yR,T.isOne]at h
  rw[(b.ev x).get a,zGF b h.2]
theorem zH2{x:T U}{r:List (T U)}(h:zDp (x::r)=true):(∃l o,x=.ptr l o)/\zDp r=true:=by
 cases x with
 |ptr l o=>exact⟨⟨l,o,rfl⟩,h⟩
 |_=>cases h
theorem zMB:∀{l:List (T U)},zDp l=true->qG l=true
 |[],_=>rfl
 |x::r,h=>by
  obtain⟨⟨l,o,rfl⟩,a⟩:=zH2 h;simp only[qG,zV5];exact⟨rfl,zMB a⟩
theorem zIg:∀{as caps:List (T U)},qG as=true->qG caps=true->qG (as++caps)=true
 |[],_,_,h=>h
 |x::r,caps,a,b=>by
  simp only[qG,zWY,zV5]at a ⊢;exact⟨a.1,zIg a.2 b⟩
theorem zNQ{as caps:List (T U)}(a:qG as=true)(b:zDp caps=true):qG (as++caps)=true:=zIg a (zMB b)
theorem zJ6:∀{l:List (T U)},zDp l=true->zJ (l.map (trT C N))
 |[],_=>rfl
 |x::r,h=>by
  obtain⟨⟨l,o,rfl⟩,a⟩:=zH2 h;have:=zJ6 a;unfold zJ at this ⊢;simp only[zV6,zWK,this,zZO];rfl
theorem zMQ{e:En U}{E:Env}{st:St U}(f:ESim C N st e E)(l:List (Nat×Operand)):PR C N (evP e l) (l.map λp=>(p.1,E.ev p.2)):=by
 have g:∀l:List (Nat×Operand),evP e l=l.map λp=>(p.1,evT e p.2):=λl=>by
  induction l with
  |nil=>rfl
  |cons a r h=>simp[evP,h]
 rw[g];refine⟨by simp,λj x v b c=>?_⟩;rw[zWM]at b c;cases d:l[j]? with
 |none=>rw[d]at b;cases b
 |some p=>
  rw[d]at b c;injection b with b
  injection c with c
  subst b;subst c;exact f.ev p.2
theorem zSD{e:En U}{E:Env}{st:St U}(a:ESim C N st e E)(x:Option Operand):OR C N (evO e x) (x.map E.ev):=by
 cases x with
 |none=>trivial
 |some x=>exact a.ev x
theorem zR7(J:TbOk C P Tb)(D:CodOk C){st:St U}{s:S}(p:SSim C N st s){t:TypeId}{x:T U}{E:V}{K:S->Prop}{k:St U->Option R}(L:VR C N x E)(h:zL2 Tb st t x k=some r)
 (F:∀c G,k c=some r->Turn N st N c->SSim C N c G->K G):zEZ P s t E K:=by
 unfold zL2 at h;split at h
 .rename_i l a n;split at h
  .rename_i j xs u;obtain⟨i,el,H,M,I,O,W⟩:=zA1 J h;clear h;obtain⟨q,e⟩:=zN H;clear H;simp only[zV5,zWV,zXw]at q;obtain⟨⟨q,f⟩,X⟩:=q;subst q;have d:=p.wf l _ u;rw[L.get (by simp)];have v:=I.zero N;cases g:(Tb el).zero with
   |none=>rw[g]at f;cases f
   |some z=>
    rw[g]at f v;simp only[zXm]at f;simp only[zXC]at v;simp only[trT,zEZ,M,p.box l _ u,trB,v,zWG];have b:=xZ D j xs;have w:z.length=C.cells j:=by rw[f,<-I.cells,O]
    have Q:=d.2;by_cases y:n=0
    .subst y;simp only[Nat.beq,zWQ]at e;refine⟨?_,?_,?_⟩
     .rw[b];split
      .exact zWd _
      .rw[d.1];exact zWt _ (by omega)
     .rw[zX2,zW0];split
      .exact zWd _
      .rw[<-d.1];exact zWt _ (by omega)
     .rw[if_pos rfl];exact F _ _ e ⟨.refl _ _ _,zV7 _,zV7 _⟩ p
    .have A:Nat.beq n 0=false:=by cases n with|zero=>exact absurd rfl y|succ m=>rfl
     rw[A]at e;simp only[zWH]at e;have B:N.cp l≠a:=by omega
     rw[if_neg B,if_neg y];refine⟨?_,?_,?_⟩
     .rw[b,d.1];exact zWt _ (by omega)
     .rw[w,<-d.1,<-zWs];exact zWt _ (by omega)
     .have o:=p.setBox (b1:=.ar j (zL a xs)) u ⟨d.1,by unfold zL;rw[zWT];omega⟩;simp only[trB]at o;rw[d.1,j7 D j xs a];exact F _ _ e ⟨.refl _ _ _,zV7 _,zV7 _⟩ o
  .cases h
 .cases h
theorem zFj(s k:List UInt8):((⟨s.toArray⟩:ByteArray)==⟨k.toArray⟩)=seq s k:=by
 rw[beq_toListBytes];have a:(⟨s.toArray⟩:ByteArray).toList=s:=xM s;have b:(⟨k.toArray⟩:ByteArray).toList=k:=xM k;rw[a,b];rfl
theorem zOC:∀(m:MT)(s:List UInt8),(mget (trMC m) ⟨s.toArray⟩=none/\mpG m s=0)\/mget (trMC m) ⟨s.toArray⟩=some (.at (.int .i64 (mpG m s)))
 |[],_=>.inl ⟨rfl,rfl⟩
 |(k,v)::r,s=>by
  have e:mget (trMC ((k,v)::r)) ⟨s.toArray⟩=if((⟨s.toArray⟩:ByteArray)==⟨k.toArray⟩)=true then some (.at (.int .i64 v))else mget (trMC r) ⟨s.toArray⟩:=rfl
  rw[e,zFj];unfold mpG;cases seq s k
  .exact zOC r s
  .exact .inr rfl
theorem zN5:∀(m:MT)(s:List UInt8)(z:Int),mput (trMC m) ⟨s.toArray⟩ (.at (.int .i64 z))=trMC (mpP m s z)
 |[],_,_=>rfl
 |(k,v)::r,s,z=>by
  have e:mput (trMC ((k,v)::r)) ⟨s.toArray⟩ (.at (.int .i64 z))=if((⟨s.toArray⟩:ByteArray)==⟨k.toArray⟩)=true then(⟨s.toArray⟩,.at (.int .i64 z))::trMC r else(⟨k.toArray⟩,.at (.int .i64 v))::mput (trMC r) ⟨s.toArray⟩ (.at (.int .i64 z)):=rfl
  have a:mpP ((k,v)::r) s z=cond (seq s k) ((s,z)::r) ((k,v)::mpP r s z):=rfl;rw[e,zFj,zN5 r s z,a];cases seq s k<;>rfl
theorem zJk(C:Cod U)(i:U.I):∀(m:List (List UInt8×U.den i))(s:List UInt8),(mget (m.map λp=>(⟨p.1.toArray⟩,C.encV i p.2)) ⟨s.toArray⟩=none/\mcH m s=false/\mcV (C.dflt i) m s=C.dflt i)\/(mget (m.map λp=>(⟨p.1.toArray⟩,C.encV i p.2)) ⟨s.toArray⟩=some (C.encV i (mcV (C.dflt i) m s))/\mcH m s=true)
 |[],_=>.inl ⟨rfl,rfl,rfl⟩
 |(k,v)::r,s=>by
  have e:mget (((k,v)::r).map λp=>(⟨p.1.toArray⟩,C.encV i p.2)) ⟨s.toArray⟩=if((⟨s.toArray⟩:ByteArray)==⟨k.toArray⟩)=true then some (C.encV i v)else mget (r.map λp=>(⟨p.1.toArray⟩,C.encV i p.2)) ⟨s.toArray⟩:=rfl
  rw[e,zFj];unfold mcV mcH;cases seq s k
  .exact zJk C i r s
  .exact .inr ⟨rfl,rfl⟩
theorem zN9(C:Cod U)(i:U.I):∀(m:List (List UInt8×U.den i))(s:List UInt8)(z:U.den i),mput (m.map λp=>(⟨p.1.toArray⟩,C.encV i p.2)) ⟨s.toArray⟩ (C.encV i z)=(mcP m s z).map λp=>(⟨p.1.toArray⟩,C.encV i p.2)
 |[],_,_=>rfl
 |(k,v)::r,s,z=>by
  have e:mput (((k,v)::r).map λp=>(⟨p.1.toArray⟩,C.encV i p.2)) ⟨s.toArray⟩ (C.encV i z)=if((⟨s.toArray⟩:ByteArray)==⟨k.toArray⟩)=true then(⟨s.toArray⟩,C.encV i z)::(r.map λp=>(⟨p.1.toArray⟩,C.encV i p.2))else(⟨k.toArray⟩,C.encV i v)::mput (r.map λp=>(⟨p.1.toArray⟩,C.encV i p.2)) ⟨s.toArray⟩ (C.encV i z):=rfl
  have a:mcP ((k,v)::r) s z=cond (seq s k) ((s,z)::r) ((k,v)::mcP r s z):=rfl;rw[e,zFj,zN9 C i r s z,a];cases seq s k<;>rfl
theorem zLm(x:V):(zx x).isOne=x.isOne:=by
 cases x with
 |lst tg es=>cases tg<;>rfl
 |_=>rfl
theorem zPI(x:V):zJ x.untag.flat->zJ x.flat:=by
 intro h;cases x with
 |agg fs=>
  unfold zJ at h ⊢;simp only[V.untag,V.flat]at h ⊢;rw[List.all_map]at h;have:(V.isOne∘zx)=V.isOne:=funext zLm
  rwa [this]at h
 |lst tg es=>cases tg<;>exact h
 |_=>exact h
theorem zPZ(G:TbOk C P Tb)(H:CodOk C){st:St U}{s:S}(q:SSim C N st s){t:TypeId}{x i:T U}{I J:V}{c:Bool}{K:V->Prop}{k:T U->Option R}(L:VR C N x I)(hi:VR C N i J)(h:zJY C Tb st t x i c k=some r)
 (w:∀v,k v=some r->K (trT C N v)):jK P s t I J c K:=by
 unfold zJY at h;split at h
 .rename_i l;split at h
  .rename_i y;split at h
   .rename_i o u;split at h
    .rename_i m;obtain⟨g,f⟩:=zN h;simp only[zV5,zXE]at g;obtain⟨⟨M,A⟩,rfl⟩:=g;obtain⟨e,B,D⟩:=(G t A).mpi M;have n:=q.ob.wf l _ u;obtain⟨O,p⟩:=q.ob.look l _ u;simp only[wfO]at n;simp only[trO]at p;have a:=w _ f;rw[L.get (by simp),hi.get (by simp)];simp only[trT,if_neg n,jK,B,D,p];refine⟨rfl,?_⟩;rcases zOC m y with⟨b,d⟩|b
     .rw[b];rw[d]at a;exact a
     .rw[b];exact a
    .rename_i j es;split at h
     case h_2=>cases h
     rename_i i E;obtain⟨g,f⟩:=zN h;simp only[zV5,zWV]at g;obtain⟨rfl,A⟩:=g;obtain⟨e,z,B,D,Q,W⟩:=(G t A).mci i E;have n:=q.ob.wf l _ u;obtain⟨O,p⟩:=q.ob.look l _ u;simp only[wfO]at n;simp only[trO]at p;rw[L.get (by simp),hi.get (by simp)];simp only[trT,if_neg n,jK,B,D,p];refine⟨Q,?_⟩;rw[W];cases c with
     |true=>
      rw[zWQ,zB6]at f;have a:=w _ f;simp only[trT,trTs,H.enc]at a;rcases zJk C i es y with⟨b,d,F⟩|⟨b,d⟩
      .rw[b];rw[d,F]at a;exact a
      .rw[b];rw[d]at a;exact a
     |false=>
      rw[zWH,zB6]at f;have a:=w _ f;rw[H.enc]at a;rcases zJk C i es y with⟨b,d,F⟩|⟨b,d⟩
      .rw[b];rw[F]at a;exact a
      .rw[b];exact a
    .cases h
    .cases h
    .cases h
   .cases h
  .cases h
 .cases h
theorem OSim.reMp{ob:List (Nat×Option (TO U))}{nl:Nat}{c:List (Nat×OV×List Nat)}(h:OSim C N ob nl c){l:Nat}{m f:MT}(d:lko ob l=some (.mp m)){p:List Nat}:OSim C N ((l,some (.mp f))::ob) nl ((N.bl l,.mp (trMC f),p)::c):=by
 have b:∀{j o},lko ((l,some (.mp f))::ob) j=some o->(j=l/\o=.mp f)\/(j≠l/\lko ob j=some o):=λ{j o} a=>by
  rw[jA]at a;split at a
  .rename_i e;injection a with a;exact .inl ⟨e.symm,a.symm⟩
  .rename_i e;exact .inr ⟨λe'=>e e'.symm,a⟩
 refine⟨λj o a=>?_,λj o a=>?_,λj o a=>?_,λj v o o' t g i=>?_⟩
 .rcases b a with⟨rfl,rfl⟩|⟨e,a⟩
  .exact⟨p,by rw[zw,if_pos rfl];rfl⟩
  .obtain⟨n,g⟩:=h.look j o a;exact⟨n,by rw[zw,if_neg (λu=>e (h.inj l j _ _ d a u).symm)];exact g⟩
 .rcases b a with⟨rfl,rfl⟩|⟨e,a⟩
  .exact h.lt _ _ d
  .exact h.lt j o a
 .rcases b a with⟨rfl,rfl⟩|⟨e,a⟩
  .exact(h.wf _ _ d:N.cp _≠0)
  .exact h.wf j o a
 .rcases b t with⟨rfl,rfl⟩|⟨_,q⟩<;>rcases b g with⟨rfl,rfl⟩|⟨_,s⟩
  .rfl
  .exact h.inj _ _ _ _ d s i
  .exact h.inj _ _ _ _ q d i
  .exact h.inj _ _ _ _ q s i
theorem OSim.reMc{ob:List (Nat×Option (TO U))}{nl:Nat}{c:List (Nat×OV×List Nat)}(h:OSim C N ob nl c){l:Nat}{i:U.I}{m f:List (List UInt8×U.den i)}(d:lko ob l=some (.mc i m)){s:List Nat}:OSim C N ((l,some (.mc i f))::ob) nl ((N.bl l,.mp (f.map λp=>(⟨p.1.toArray⟩,C.encV i p.2)),s)::c):=by
 have b:∀{j o},lko ((l,some (.mc i f))::ob) j=some o->(j=l/\o=.mc i f)\/(j≠l/\lko ob j=some o):=λ{j o} a=>by
  rw[jA]at a;split at a
  .rename_i e;injection a with a;exact .inl ⟨e.symm,a.symm⟩
  .rename_i e;exact .inr ⟨λe'=>e e'.symm,a⟩
 refine⟨λj o a=>?_,λj o a=>?_,λj o a=>?_,λj x o o' v g n=>?_⟩
 .rcases b a with⟨rfl,rfl⟩|⟨e,a⟩
  .exact⟨s,by rw[zw,if_pos rfl];rfl⟩
  .obtain⟨q,g⟩:=h.look j o a;exact⟨q,by rw[zw,if_neg (λw=>e (h.inj l j _ _ d a w).symm)];exact g⟩
 .rcases b a with⟨rfl,rfl⟩|⟨e,a⟩
  .exact h.lt _ _ d
  .exact h.lt j o a
 .rcases b a with⟨rfl,rfl⟩|⟨e,a⟩
  .exact(h.wf _ _ d:N.cp _≠0)
  .exact h.wf j o a
 .rcases b v with⟨rfl,rfl⟩|⟨_,t⟩<;>rcases b g with⟨rfl,rfl⟩|⟨_,u⟩
  .rfl
  .exact h.inj _ _ _ _ d u n
  .exact h.inj _ _ _ _ t d n
  .exact h.inj _ _ _ _ t u n
theorem zTm(F:TbOk C P Tb)(p:CodOk C){st:St U}{s:S}(a:SSim C N st s){t:TypeId}{x i y:T U}{G H q:V}{K:S->Prop}{k:St U->Option R}(I:VR C N x G)(hi:VR C N i H)(J:VR C N y q)(h:zO1 C Tb st t x i y k=some r)
 (L:∀b M,k b=some r->Turn N st N b->SSim C N b M->K M):x9 P s t G H q K:=by
 unfold zO1 at h;split at h
 .rename_i l;split at h
  .rename_i Y;split at h
   .rename_i o c;split at h
    .rename_i m;split at h
     case h_2=>cases h
     rename_i Z z;obtain⟨d,u⟩:=zN h;simp only[zV5,zWV]at d;obtain⟨⟨Q,w⟩,rfl⟩:=d;obtain⟨e,A,q2⟩:=(F t w).mpi Q;have f:=a.ob.wf l _ c;obtain⟨W,g⟩:=a.ob.look l _ c;simp only[wfO]at f;simp only[trO]at g;rw[I.get (by simp),hi.get (by simp),J.get (by simp)];simp only[trT,if_neg f,x9,A,g];refine⟨rfl,L _ _ u ⟨.refl _ _ _,zV7 _,zV7 _⟩ ?_⟩;rw[show(V.at (.int .i64 z)).untag=.at (.int .i64 z)from rfl,zN5];exact⟨a.box,a.lt,a.wf,a.inj,a.tgIn,a.tgInj,a.tgLt,a.nm,a.ob.reMp c⟩
    .rename_i j es;split at h
     case h_2=>cases h
     rename_i i B;obtain⟨d,u⟩:=zN h;simp only[zV5,zWV]at d;obtain⟨rfl,w⟩:=d;obtain⟨v,X,D⟩:=p.dec i y _ r u;obtain⟨e,z,A,_,_,_⟩:=(F t w).mci i B;have f:=a.ob.wf l _ c;obtain⟨W,g⟩:=a.ob.look l _ c;simp only[wfO]at f;simp only[trO]at g;have n:zJ (trT C N y).flat:=zPI _ (by rw[D N];exact p.ones i v);have E:q=trT C N y:=J.get (λe=>by
      subst e;have:=D N;have O:=p.ones i v;rw[<-this]at O;simp[trT,V.untag,zx,V.flat,zJ,V.isOne]at O)
     rw[I.get (by simp),hi.get (by simp),E];simp only[trT,if_neg f,x9,A,g];refine⟨n,L _ _ X ⟨.refl _ _ _,zV7 _,zV7 _⟩ ?_⟩;rw[D N,zN9];exact⟨a.box,a.lt,a.wf,a.inj,a.tgIn,a.tgInj,a.tgLt,a.nm,a.ob.reMc c⟩
    .cases h
    .cases h
    .cases h
   .cases h
  .cases h
 .cases h
theorem dop_ok(A:TbOk C P Tb)(G:CodOk C){L:Pol}{call:Call U R}{PP:List PanicEntry->Prop}(H:zD5 C P L call r PP){st:St U}{s:S}{e:En U}{E:Env}(j:SSim C N st s)(g:ESim C N st e E){o:Oper}{K:V->S->Prop}{KP:List PanicEntry->S->Prop}{k:T U->St U->Option R}
 {kd:KD} (M:KdOk L kd N st.nl) (h:dop C Tb call L.wr L.own kd e st o k=some r) (W:∀c s,PP c->KP c s) (D:Kok C N st K k r):aop P L E s o K KP:=by
 have pure:∀v,k v st=some r->K (trT C N v) s:=λv hv=>D _ _ _ _ _ hv (Turn.refl N st) j (.inr rfl);obtain⟨O,op,ty,ai,af,gd⟩:=o;cases op<;>simp only[dop]at h<;>simp only[aop]
 case move x=>exact D _ _ _ _ _ h (Turn.refl N st) j (g.ev x)
 case assign x=>exact D _ _ _ _ _ h (Turn.refl N st) j (g.ev x)
 case pick c a b=>exact zTr (g.ev c) (g.ev a) (g.ev b) h λv v' hv hr=>D _ _ _ _ _ hv (Turn.refl N st) j hr
 case alloc t=>
  unfold zQ7 at h;obtain⟨z,B⟩:=zN h;split at B
  .rename_i cs ad;unfold jk;rw[(A t z).zero N,ad];exact zOW j rfl B D
  .cases B
 case box t x=>
  rw[zBR]at h;have ae:evT e x≠.any:=λe'=>by
   rw[e']at h;simp[dNew,T.flat,yR,T.isOne]at h
  rw[(g.ev x).get ae,qI];exact zOW j rfl h D
 case build t parts=>
  rw[zMP]at h;exact zSO A (zMQ g _).1 (zMQ g _).2 h pure
 case buildSlice t n parts=>
  rw[zMP]at h;exact zJz A G j (zMQ g _) h D
 case load t x=>
  obtain⟨h0,z⟩:=zN h;exact⟨ldD_ok M g h0,zHl A G j (g.ev x) z pure⟩
 case store t x y=>
  obtain⟨h0,h⟩:=zN h;exact⟨stD_ok M j g h0,zQp A G j (g.ev x) (g.ev y) h λX s' z B F=>D _ _ _ _ _ z B F (.inl rfl)⟩
 case nilCheck x=>exact zNN (g.ev x) h pure
 case binOp op t x y t2=>exact zUu A (g.ev x) (g.ev y) h pure
 case unOp op t x=>exact dUn_ok (g.ev x) h pure
 case convert f t x=>exact zTz A G (g.ev x) h pure
 case slice t x lo hi mx=>
  cases mx with
  |some _=>cases h
  |none=>exact⟨rfl,zQX A G j (g.ev x) (zSD g lo) (zSD g hi) h pure⟩
 case fieldAddr t x f=>exact zKv A (g.ev x) h pure
 case indexAddr t x i=>exact zKj A G j (g.ev x) (g.ev i) h pure
 case index t x i=>exact zRL A G (g.ev x) (g.ev i) h pure
 case extract x i=>exact zNW (g.ev x) h pure
 case lookup t x i c=>exact zPZ A G j (g.ev x) (g.ev i) h pure
 case mapUpdate t x i y=>exact zTm A G j (g.ev x) (g.ev i) (g.ev y) h λX s' z B F=>D _ _ _ _ _ z B F (.inl rfl)
 case makeMap ty n=>
  cases n with
  |some _=>cases h
  |none=>
   refine⟨rfl,λb hb=>?_⟩;have q:=N.ext_loc st.nl st.nx b 1 0;have Y:(N.loc st.nl b 1 0).bl st.nl=b:=if_pos rfl;have Q:(N.loc st.nl b 1 0).cp st.nl=1:=if_pos rfl;have Z:∀o:TO U,wfO (N.loc st.nl b 1 0) st.nl o->OV.mp []=trO C (N.loc st.nl b 1 0) st.nl o->k (.hd st.nl) ⟨st.bx,st.tg,st.nl+1,st.nx,(st.nl,some o)::st.ob⟩=some r->K (.at (.map (some b))) ⟨s.box,s.tg,s.nx,(b,.mp [],[b])::s.ob⟩:=λo ag ah h=>
    D (N.loc st.nl b 1 0) ⟨st.bx,st.tg,st.nl+1,st.nx,(st.nl,some o)::st.ob⟩ ⟨s.box,s.tg,s.nx,(b,.mp [],[b])::s.ob⟩ (.hd st.nl) (.at (.map (some b))) h ⟨q,zWh _,zV7 _⟩
     ⟨λl bx w=>by rw[q.bl l (j.lt l bx w),zC1 j q (zV7 _) (zV7 _) w];exact j.box l bx w,λl bx w=>Nat.lt_succ_of_lt (j.lt l bx w),λl bx w=>zCz q (zWh _) (zV7 _) (j.lt l bx w) (j.wf l bx w),
      λl l' b1 b2 z B g=>by rw[q.bl l (j.lt l b1 z),q.bl l' (j.lt l' b2 B)]at g;exact j.inj l l' b1 b2 z B g,j.tgIn,j.tgInj,j.tgLt,j.nm,j.ob.new q Y ag hb ah⟩ (.inr (by simp only[trT,Y,Q];rfl))
   dsimp only at h;cases aa:(Tb ty).mci with
   |none=>
    rw[aa]at h;exact Z (.mp []) (by simp only[wfO,Q];decide) rfl h
   |some i=>
    rw[aa]at h;exact Z (.mc i []) (by simp only[wfO,Q];decide) rfl h
 case call c=>
  obtain⟨J,args,ts⟩:=c;cases J with
  |invoke x m=>cases h
  |value f=>
   simp only[zB9]at h ⊢;unfold dCall at h;split at h
   .rename_i fn caps hf;split at h
    .rename_i n;have ab:=g.ev f;rw[hf]at ab;rw[ab.get (by simp)];have ac:∀b∈klb L O,∃l∈ksD kd O,N.bl l=b:=λb hb=>by
      cases O with
      |none=>cases hb
      |some d=>
       obtain⟨u,l,q1,q2⟩:=M.kb d b hb;exact⟨l,zUK q1,q2⟩
     split at h
     .obtain⟨z,B⟩:=zN h;simp only[zV5]at z;obtain⟨⟨F,h4⟩,h5⟩:=z;rw[zGF g F];exact(H _ _ _ _ _ _ _ j h4 F B K KP _ ac D W).1 (yh h5)
     .rename_i c cs;obtain⟨z,B⟩:=zN h;simp only[zV5]at z;obtain⟨⟨h5,F⟩,h4⟩:=z;rw[zGF g F];have h6:=(H _ _ _ _ _ _ _ j h4 (zNQ F h5) B K KP _ ac D W).2.2 n rfl _ _ rfl F h5;rw[show trT C N (.clo (.func n) (c::cs))=.clo (.func n) ((c::cs).map (trT C N))by simp only[trT,yd]];exact h6
    .cases h
   .cases h
  |builtin b=>
   simp only[zB9]at h ⊢;have e1:∀l:List Operand,evL e l=l.map (evT e):=λl=>by
    induction l with
    |nil=>rfl
    |cons a r ih=>simp[evL,ih]
   rw[e1]at h;unfold zMK at h;cases b<;>simp only at h<;>try(cases h;done)
   case len=>
    split at h
    .rename_i t _ I;split at h
     .rename_i x p;cases w:args.toList with
      |nil=>rw[w]at p;cases p
      |cons a l2=>
       cases l2 with
       |cons _ _=>rw[w]at p;simp at p
       |nil=>
        rw[w]at p;simp only[zV6,zV9,zXe,zZN]at p;subst p;simp only[ju,I,zV6,zV9];exact zVW A (g.ev a) h pure
     .cases h
    .cases h
   case append=>
    split at h
    .rename_i t t2 I;split at h
     .rename_i x y p;cases w:args.toList with
      |nil=>rw[w]at p;cases p
      |cons a l2=>
       cases l2 with
       |nil=>rw[w]at p;simp at p
       |cons b l3=>
        cases l3 with
        |cons _ _=>rw[w]at p;simp at p
        |nil=>
         rw[w]at p;simp only[zV6,zV9,zXe,zZN]at p;obtain⟨rfl,rfl⟩:=p;simp only[ju,I,zV6,zV9];exact zO7 A G j (g.ev a) (g.ev b) h D
     .cases h
    .cases h
   case clear=>
    split at h
    .rename_i t _ I;split at h
     .rename_i x p;cases w:args.toList with
      |nil=>rw[w]at p;cases p
      |cons a l2=>
       cases l2 with
       |cons _ _=>rw[w]at p;simp at p
       |nil=>
        rw[w]at p;simp only[zV6,zV9,zXe,zZN]at p;subst p;simp only[ju,I,zV6,zV9];exact zR7 A G j (g.ev a) h λX s' z B F=>D _ _ _ _ _ z B F (.inr rfl)
     .cases h
    .cases h
 all_goals cases h
def dstL:List Oper->List Nat
 |[]=>[]
 |o::r=>(match o.dst with|some d=>d::dstL r|none=>dstL r)
def FrX(ds:List Nat)(e e':En U):Prop:=∀j,j∉ds->eget e' j=eget e j
def Kok2(C:Cod U)(N:NM)(st:St U)(e:En U)(ds:List Nat)(K:Env->S->Prop)(k:En U->St U->Option R)(r:R):Prop:=
 ∀N' e' a b c,k e' a=some r->Turn N st N' a->SSim C N' a c->ESim C N' a e' b->FrX ds e e'->K b c
theorem FrX.put(e:En U)(o:Oper)(v:T U):FrX (dstL [o]) e (eput e o.dst v):=λj a=>by
 cases b:o.dst with
 |none=>rfl
 |some d=>
  have:d≠j:=λe=>by subst e;apply a;simp[dstL,b]
  simp[eput,eget,yy this]
theorem zLT(n:TbOk C P Tb)(p:CodOk C){L:Pol}{a:Call U R}{PP:List PanicEntry->Prop}(b:zD5 C P L a r PP){st:St U}{s:S}{e:En U}{E:Env}(q:SSim C N st s)(g:ESim C N st e E){o:Oper}{K:Env->S->Prop}{KP:List PanicEntry->S->Prop}{k:En U->St U->Option R}
 {i:KD} (d:KdOk L i N st.nl) (h:zIU C Tb a L.wr L.own i e st o k=some r) (f:∀c s,PP c->KP c s) (t:Kok2 C N st e (dstL [o]) K k r):aop P L E s o (λv j=>K (E.putO o.dst v) j) KP:=by
 unfold zIU at h;refine dop_ok n p b q g d h f ?_;intro N' u j v v' l m w x;simp only[zB6,xE,zHq]at l;obtain⟨y,z⟩:=zN l;exact t _ _ _ _ _ z m w ((g.turn m).put x y o.dst) (FrX.put e o v)
theorem zTh(D:TbOk C P Tb)(F:CodOk C){L:Pol}{f:Call U R}{PP:List PanicEntry->Prop}(a:zD5 C P L f r PP){st:St U}{s:S}{e:En U}{E:Env}(x:SSim C N st s)(m:ESim C N st e E){ds:List (Option Nat)}{o:Oper}{K:Env->S->Prop}{KP:List PanicEntry->S->Prop}{k:En U->St U->Option R}
 {G:KD} (n:KdOk L G N st.nl) (h:zPk C Tb f L.wr L.own G ds o e st k=some r) (p:∀c s,PP c->KP c s) (y:Kok2 C N st e (dstL [o]) K k r):zt P L ds KP o K E s:=by
 unfold zPk at h;unfold zt jH;split at h
 .rename_i z;rw[z];simp only[zWE];exact zLT D F a x m n h p y
 .rename_i g z;rw[z];obtain⟨j,b⟩:=g;simp only at h ⊢;split at h
  .cases h
  .rename_i d H;rw[H];simp only;split at h
   .rename_i t q;have u:=(m d).1;rw[q]at u;rw[u.get (by simp)];simp only[trT];have v:ESim C N st (eput e (some d) (.bool t)) E:=λj=>by
     simp only[eput,eget];by_cases i:d=j
     .subst i;have:Nat.beq d d=true:=by simp
      simp only[this,zWQ];rw[<-q];exact m d
     .simp only[yy i,zWH];exact m j
    have A:FrX [] e (eput e (some d) (.bool t)):=λj _=>by
     simp only[eput,eget];by_cases i:d=j
     .subst i;have:Nat.beq d d=true:=by simp
      simp only[this,zWQ];exact q.symm
     .simp only[yy i,zWH]
    have w:Kok2 C N st (eput e (some d) (.bool t)) (dstL [o]) K k r:=λN' e' B I J M O Q T V=>y N' e' B I J M O Q T λj i=>(V j i).trans (A j (by simp));have l:k (eput (eput e (some d) (.bool t)) o.dst (.tup [])) st=some r->K (E.putO o.dst (.tup [])) s:=λW=>w _ _ _ _ _ W (Turn.refl N st) x (v.put (.inr rfl) rfl o.dst) (FrX.put _ o (.tup []));simp only[zHq]at h;cases b<;>cases t<;>simp only[zWQ,zWH]at h<;>first|exact zLT D F a x v n h p w|exact l h
   .rename_i vs q;split at h
    .have u:=(m d).1;rw[q]at u;rw[u.get (by simp)];simp only[zHq]at h;exact y _ _ _ _ _ h (Turn.refl N st) x (m.put (.inr rfl) rfl o.dst) (FrX.put e o (.tup []))
    .cases h
   .cases h
theorem zOY(q:TbOk C P Tb)(t:CodOk C){L:Pol}{b:Call U R}{PP:List PanicEntry->Prop}(a:zD5 C P L b r PP){ds:List (Option Nat)}{KP:List PanicEntry->S->Prop}(d:∀c s,PP c->KP c s){u:KD}:∀{l:List Oper}{N:NM}{st:St U}{s:S}{e:En U}{E:Env}{K:Env->S->Prop}{k:En U->St U->Option R},
 SSim C N st s->ESim C N st e E->KdOk L u N st.nl->dops C Tb b L.wr L.own u ds l e st k=some r->Kok2 C N st e (dstL l) K k r->AL P L ds KP l K E s
 |[],N,st,s,e,E,K,k,i,m,_,h,n=>n _ _ _ _ _ h (Turn.refl N st) i m (λ_ _=>rfl)
 |o::x,N,st,s,e,E,K,k,i,m,f,h,n=>by
  simp only[dops]at h;show zt P L ds KP o (AL P L ds KP x K) E s;refine zTh q t a i m f h d ?_;intro N' e' y O Q z v A B D;refine zOY q t a d A B (f.turn v) z λT V F W X G H I J M=>n _ _ _ _ _ G (v.trans H) I J λj w=>?_;rw[M j λg=>w ?_,D j λg=>w ?_]
  .cases p:o.dst<;>simp only[dstL,p]at g ⊢<;>simp at g<;>simp[g]
  .cases p:o.dst<;>simp only[dstL,p]<;>simp[g]
end
end Go.Den
end
section
namespace Go.Den
open Go.Al
def Gst(X:Cx)(E:Env)(s:S)(b:Env)(c:S):Prop:=∀g a w,Rel X g E s a w->∃g',Step X.B g w g' w/\Rel X g' b c a w
theorem Gst.refl(X:Cx)(E:Env)(s:S):Gst X E s E s:=λg a w h=>⟨g,.refl _ _ _,h⟩
theorem Gst.trans{X:Cx}{E b c:Env}{s d e:S}(h:Gst X E s b d)(h':Gst X b d c e):Gst X E s c e:=λg a w f=>by
 obtain⟨i,j,k⟩:=h g a w f;obtain⟨l,m,n⟩:=h' i a w k;exact⟨l,j.trans m,n⟩
theorem zJK{P:Program}{X:Cx}{Q:Exit->Env->S->Prop}{c:Code}{E d:Env}{s e:S}(f:Gst X E s d e)(h:awp P X c Q d e):awp P X c Q E s:=by
 intro g a w i;obtain⟨j,k,l⟩:=f g a w i;refine wpIn_mono (h j a w l) ?_;rintro ex a' w' ⟨g',e',b,m,n,o⟩;exact⟨g',e',b,k.trans m,n,o⟩
def Gs(s a:S):Prop:=∀B g w,Inv B g s w->∃g',Step B g w g' w/\Inv B g' a w
theorem Gs.refl(s:S):Gs s s:=λB g w h=>⟨g,.refl _ _ _,h⟩
theorem Gs.trans{s a b:S}(h:Gs s a)(h':Gs a b):Gs s b:=λB g w hi=>by
 obtain⟨c,d,e⟩:=h B g w hi;obtain⟨f,i,j⟩:=h' B c w e;exact⟨f,d.trans i,j⟩
theorem Gs.gst{X:Cx}{E:Env}{s d:S}(h:Gs s d):Gst X E s E d:=λg a w b=>by
 obtain⟨g',c,e⟩:=h X.B g w b.inv;exact⟨g',c,e,λi=>(b.env i).later c.later,b.size,b.df,b.gl.below c.below c.later.wm⟩
theorem FnC_gs{P:Program}{f:FuncId}{as:List V}{Q:Outc->S->Prop}{s c:S}(d:Gs s c)(h:FnC P f as c Q):FnC P f as s Q:=by
 intro B g w vs hi a i;obtain⟨g',b,j⟩:=d B g w hi;refine(h B g' w vs j (a.below (.refl _ _) b.later.wm) (i.later b.later)).mono ?_;rintro e w' ⟨k,l,m,n,o⟩;exact⟨k,l,b.trans m,n,o⟩
theorem zRq{X:Cx}{E:Env}{s:S}(k sz:Nat)(f:E.get k=.lst .nil []):Gst X E s (E.put k (.lst (.own s.nx true sz) [])) ⟨s.box,s.nx::s.tg,s.nx+1,s.ob⟩:=by
 intro g a w b;obtain⟨h,c⟩:=b.inv.addTag rfl none (λ_ _ _ _ e=>by cases e);have d:=b.env k;rw[f]at d;have i:=zEN d;refine⟨⟨g.wm,λj=>if j=s.nx then some none else g.tb j,g.fr⟩,⟨c,.refl _ _,λ_ _=>⟨rfl,rfl⟩,λ_ _=>rfl,rfl⟩,h,λj=>?_,b.size,b.df,b.gl⟩;rw[Env.get_put];split
 .rename_i l;subst l;rw[i];refine xR ?_;simp only[RC];exact .inl ⟨trivial,trivial,if_pos rfl,rfl⟩
 .exact(b.env j).later c
theorem zHA{X:Cx}{E:Env}{s:S}(t b n cap sz:Nat)(es:List V){d:List V}{kk:Nat}(F:E.get t=.at (.slice (some ⟨b,0,none⟩) n cap))
 (D:Al.look s.box b=some (d,kk)) (hn:es.length=n) (ab:n<=cap) (G:d.take (n*sz)=zf es) (ac:n*sz<=d.length) (H:yw sz es) (h1:∀x∈es,zJ x.flat) (hu:es.map V.untag=es) :
 Gst X E s (E.put t (.lst .no es)) ⟨wipe s.box b,s.tg,s.nx,s.ob⟩:=by
 intro g a w q;have hi:=q.inv;obtain⟨p1,p2,p3,p4,arr,el,us,p5,p6,p7,p8⟩:=hi.box b d kk D;have ae:b<w.heap.size:=(zV8.1 p5).1;have p:zJ d:=by unfold zJ;rw[zWL];exact p4
 have I:=yG g w d us p7;rw[yV p]at I;have f:Later g w ⟨λi=>if i=b then n*sz else g.wm i,g.tb,g.fr⟩ w:=⟨λi=>by
  show g.wm i<=if i=b then n*sz else g.wm i
  split
  .rename_i k;subst k;rw[p2];exact zWd _
  .exact zV7 _,λ_ _ k=>k,λ_ _ _=>rfl⟩
 have hs:Step X.B g w ⟨λi=>if i=b then n*sz else g.wm i,g.tb,g.fr⟩ w:=⟨f,.refl _ _,λi l=>⟨rfl,if_neg (λe=>by subst e;rw[(hi.boxFr D).1]at l;cases l)⟩,λi l=>if_neg (by omega),rfl⟩;have J:Inv X.B ⟨λi=>if i=b then n*sz else g.wm i,g.tb,g.fr⟩ ⟨wipe s.box b,s.tg,s.nx,s.ob⟩ w:=by
  refine⟨hi.base,?_,hi.tag,?_,hi.dist,hi.nodup,λi l=>?_,hi.names,hi.ex.step f (zV7 _) rfl rfl (λm o fp v j K=>⟨rfl,if_neg (λe=>by subst e;exact(hi.boxFr D).2 m o fp v K)⟩) (λj K _=>by rw[xA];split<;>first|rfl|exact K) (λj _ h=>h)⟩
  .intro m cs' k' v;simp only[xA]at v;split at v
   .cases v
   .rename_i k;obtain⟨L,M,N,O,arr',Q,T,y,W,r7,r8⟩:=hi.box m cs' k' v;exact⟨L,by show(if m=b then _ else g.wm m)=0;rw[if_neg (λe2=>k e2.symm)];exact M,N,O,arr',Q,T,y,W,zq f _ _ r7,r8⟩
  .intro t F m z n' Y Z;obtain⟨L,M,N,O,y,W⟩:=hi.own t F m z n' Y Z;have k:m≠b:=λk=>by subst k;rw[D]at y;cases y
   exact⟨L,by show(if m=b then _ else g.wm m)=_;rw[if_neg k];exact M,N,O,by rw[xA];split<;>first|rfl|exact y,W⟩
  .show(if i=b then _ else g.wm i)=0;rw[if_neg (by omega)];exact hi.fresh i l
 have aa:RCs g.bare w es (us.take (n*sz)):=by
  have h2:=(yW p p7 (n*sz)).1;rw[G]at h2;have h3:=zAW (zDR h1 h2) h1
  rwa [hu]at h3
 have A:RC ⟨λi=>if i=b then n*sz else g.wm i,g.tb,g.fr⟩ w (.lst .no es) [.slice (some ⟨b,0,none⟩) n cap]:=by
  simp only[RC];refine .inr ⟨b,0,cap,us.take (n*sz),by rw[hn],by omega,trivial,zq f.bare _ _ aa,⟨sz,H,λ_ _ _ k=>by cases k⟩,?_⟩;intro i u c;rw[zWb]at c;split at c
  .rename_i ad;refine⟨?_,?_⟩
   .rw[zWP,cell_of_row w b i arr el (0,0) p5];rw[<-p8,zWb]at c;split at c
    .simpa using c
    .cases c
   .show 0+i<if b=b then n*sz else g.wm b
    rw[if_pos rfl];omega
  .cases c
 refine⟨_,hs,J,λj=>?_,q.size,q.df,q.gl.below (.refl _ _) f.wm⟩;rw[Env.get_put];split
 .rename_i k;subst k;have h0:=q.env t;rw[F]at h0;rw[zr h0];exact xR A
 .exact(q.env j).later f
theorem zIh{g:Gh}{w:World}{x y:V}(i:∀u,RC g w x u->RC g w y u):∀{cs:List V}{us:List Value}{j:Nat},cs[j]?=some x->RCs g w cs us->RCs g w (cs.set j y) us
 |[],us,j,a,_=>by simp at a
 |c::r,us,0,a,h=>by
  simp only[RCs]at h;obtain⟨b,d,rfl,e,f⟩:=h;simp only[zXf,zXo]at a;subst a;simp only[zYs,RCs];exact⟨b,d,rfl,i _ e,f⟩
 |c::r,us,j+1,a,h=>by
  simp only[RCs]at h;obtain⟨b,d,rfl,e,f⟩:=h;simp only[zYa]at a;simp only[List.set_cons_succ,RCs];exact⟨b,d,rfl,e,zIh i a f⟩
theorem zQn{s:S}(b j sz:Nat){cs:List V}{k:Nat}(f:Al.look s.box b=some (cs,k))(v:cs[j]?=some (.lst .nil [])) :
 Gs s ⟨lay s.box b (cs.set j (.lst (.own s.nx true sz) []),k),s.nx::s.tg,s.nx+1,s.ob⟩:=by
 intro B g w hi;obtain⟨i,x⟩:=hi.addTag rfl none (λ_ _ _ _ e=>by cases e);obtain⟨y,z,K,A,arr,el,us,D,E,F,G⟩:=i.box b cs k f;refine⟨⟨g.wm,λj=>if j=s.nx then some none else g.tb j,g.fr⟩,⟨x,.refl _ _,λ_ _=>⟨rfl,rfl⟩,λ_ _=>rfl,rfl⟩,?_⟩;have:=i.addBox (b:=b) (arr:=arr) (el:=el) (cs:=cs.set j (.lst (.own s.nx true sz) [])) (us:=us) y z D (by simp;omega)
  (λc H=>by
   rcases zX8 H with l|l
   .exact A c l
   .subst l;rfl)
  (zIh (λu h=>by
   simp only[RC]at h ⊢;rcases h with⟨_,h,_⟩|⟨b,o,cap,ds,_,_,m,_⟩
   .exact .inl ⟨trivial,h,if_pos rfl,rfl⟩
   .exact m.elim) v F) (by simpa using G) (λt m d I=>by
    obtain⟨a,J,n⟩:=d;obtain⟨L,M,N,O,q,Q⟩:=i.own t m b a J n I;have p:Al.look (⟨s.box,s.nx::s.tg,s.nx+1,s.ob⟩:S).box b=some (cs,k):=f;rw[p]at q;cases q) (hi.boxFr f).1 (hi.boxFr f).2
 rw[E]at this;exact this
theorem zTx{s:S}(b m:Nat){cs:List V}{k:Nat}(f:Al.look s.box b=some (cs,k)):Gs s ⟨lay s.box b (cs.take m,k),s.tg,s.nx,s.ob⟩:=by
 intro B g w hi;obtain⟨o,p,D,j,arr,el,us,q,u,l,v⟩:=hi.box b cs k f;refine⟨g,.refl _ _ _,?_⟩;have a:zJ cs:=by unfold zJ;rw[zWL];exact j
 have h:=yG g w cs us l;rw[yV a]at h;have:=hi.addBox (b:=b) (arr:=arr) (el:=el) (cs:=cs.take m) (us:=us.take m) o p q (by simp;omega)
  (λc x=>j c (zW2 x)) (yW a l m).1 (by
   rw[<-v,zX0,zWT]) (λt y d z=>by
    obtain⟨e,A,i⟩:=d;obtain⟨E,F,G,H,n,I⟩:=hi.own t y b e A i z;rw[f]at n;cases n) (hi.boxFr f).1 (hi.boxFr f).2
 rw[u]at this;exact this
inductive SK(U:TyU) where
 |int (k:IntKind)
 |bool
 |str
 |dl (i:U.I)
 |bl (i:U.I)
 |ow (nb:Bool) (i:U.I)
 |arr (i:U.I)
 |box (cs:List (SK U))
 |st (i:U.I)
 |mc1 (i:U.I)
 |fn (n:Nat)
 |ag (cs:List (SK U))
mutual
def denK{U:TyU}:SK U->Type
 |.int _=>Int
 |.bool=>Bool
 |.str=>List UInt8
 |.dl i=>List (U.den i)
 |.bl i=>Bool×List (U.den i)
 |.ow _ i=>List (U.den i)
 |.arr i=>Option (List (U.den i))
 |.box cs=>zA cs
 |.st i=>U.den i
 |.mc1 i=>List (List UInt8×U.den i)
 |.fn _=>Unit
 |.ag cs=>zA cs
def zA{U:TyU}:List (SK U)->Type
 |[]=>Unit
 |k::r=>denK k×zA r
end
def z8{α β:Type}(o:Option α)(a:β)(f:α->β):β:=
 match o with
 |none=>a
 |some x=>f x
def eqN(a b:Nat):Bool:=Nat.beq a b
section
variable{U:TyU}(C:Cod U){R:Type}
mutual
def putK:(s:SK U)->denK s->St U->(T U->St U->Option R)->Option R
 |.int k,x,st,K=>K (.int k x) st
 |.bool,x,st,K=>K (.bool x) st
 |.str,x,st,K=>K (.str x) st
 |.dl i,x,st,K=>K (.lst .dl i x) st
 |.bl i,x,st,K=>K (.lst (.b x.1) i x.2) st
 |.ow nb i,x,st,K=>K (.lst (.ow st.nx nb) i x) ⟨st.bx,st.nx::st.tg,st.nl,st.nx+1,st.ob⟩
 |.arr i,x,st,K=>z8 x (K .nil st) λys=>K (.sl st.nl ys.length) ⟨(st.nl,some (.ar i ys))::st.bx,st.tg,st.nl+1,st.nx,st.ob⟩
 |.box cs,x,st,K=>jy cs x st λvs st'=>bif yR vs then K (.ptr st'.nl 0) ⟨(st'.nl,some (.st vs))::st'.bx,st'.tg,st'.nl+1,st'.nx,st'.ob⟩else none
 |.st i,x,st,K=>K (C.enc i x) st
 |.mc1 i,x,st,K=>K (.hd st.nl) ⟨st.bx,st.tg,st.nl+1,st.nx,(st.nl,some (.mc i x))::st.ob⟩
 |.fn n,_,st,K=>K (.clo (.func n) []) st
 |.ag cs,x,st,K=>jy cs x st λvs st'=>K (.agg vs) st'
def jy:(l:List (SK U))->zA l->St U->(List (T U)->St U->Option R)->Option R
 |[],_,st,K=>K [] st
 |k::r,x,st,K=>putK k x.1 st λv st'=>feS st' λst'=>jy r x.2 st' λvs st''=>K (v::vs) st''
end
def zI1:T U->Bool
 |.lst m _ _=>(match m with|.ow _ _=>false|_=>true)
 |_=>true
def zLl:T U->Bool
 |.agg fs=>fs.all zI1
 |x=>zI1 x
mutual
def getK:(s:SK U)->T U->St U->(denK s->St U->Option R)->Option R
 |.int k,v,st,K=>(match v with|.int k' n=>bif decide (k'=k)then K n st else none|_=>none)
 |.bool,v,st,K=>(match v with|.bool b=>K b st|_=>none)
 |.str,v,st,K=>(match v with|.str s=>K s st|_=>none)
 |.dl i,v,st,K=>(match v with
  |.nil=>K [] st
  |.lst m j ys=>ke i j ys λxs=>(match m with
   |.dl=>K xs st
   |.b n=>bif (bif n then xs.isEmpty else !xs.isEmpty)then K xs st else none
   |.ow _ _=>none)
  |_=>none)
 |.bl i,v,st,K=>(match v with
  |.nil=>K (true,[]) st
  |.lst m j ys=>ke i j ys λxs=>(match m with
   |.dl=>K (xs.isEmpty,xs) st
   |.b n=>K (n,xs) st
   |.ow _ _=>none)
  |_=>none)
 |.ow nb i,v,st,K=>(match v with
  |.lst m j ys=>ke i j ys λxs=>(match m with
   |.ow t nb'=>bif beqB nb' nb&&hasN st.tg t then K xs ⟨st.bx,rmN st.tg t,st.nl,st.nx,st.ob⟩else none
   |_=>none)
  |_=>none)
 |.arr i,v,st,K=>(match v with
  |.nil=>K none st
  |.sl l n=>(match lk st.bx l with
   |some (.ar j ys)=>ke i j ys λxs=>bif eqN n xs.length then K (some xs) ⟨(l,none)::st.bx,st.tg,st.nl,st.nx,st.ob⟩else none
   |_=>none)
  |_=>none)
 |.box cs,v,st,K=>(match v with
  |.ptr l o=>bif Nat.beq o 0 then(match lk st.bx l with
   |some (.st vs)=>feS ⟨(l,none)::st.bx,st.tg,st.nl,st.nx,st.ob⟩ λst'=>xI cs vs st' K
   |_=>none)else none
  |_=>none)
 |.st i,v,st,K=>bif zLl v then C.dec i v λx=>K x st else none
 |.mc1 i,v,st,K=>(match v with
  |.hd l=>(match lko st.ob l with
   |some o=>(match o with|.mc j c=>sameM i j c λc=>K c ⟨st.bx,st.tg,st.nl,st.nx,(l,none)::st.ob⟩|.sc _=>none|.lv _=>none|.l1 _=>none|.mp _=>none)
   |none=>none)
  |_=>none)
 |.fn n,v,st,K=>(match v with
  |.clo f caps=>(match f with|.func m=>(match caps with|[]=>bif Nat.beq m n then K () st else none|_::_=>none)|_=>none)
  |_=>none)
 |.ag cs,v,st,K=>(match v with|.agg vs=>xI cs vs st K|_=>none)
def xI:(l:List (SK U))->List (T U)->St U->(zA l->St U->Option R)->Option R
 |[],vs,st,K=>(match vs with|[]=>K () st|_::_=>none)
 |k::r,vs,st,K=>(match vs with
  |[]=>none
  |v::vs=>getK k v st λx st'=>feS st' λst'=>xI r vs st' λxs st''=>K (x,xs) st'')
end
inductive Res where
 |inl (n:Nat)
 |inr (b:Nat)
 |ob (b:Nat)
mutual
/-- An abstract value is of a kind;what it holds alone. -/
def VK(s:S):(k:SK U)->denK k->V->List Res->Prop
 |.int k,x,v,rs=>v=.at (.int k x)/\rs=[]
 |.bool,x,v,rs=>v=.at (.bool x)/\rs=[]
 |.str,x,v,rs=>v=trT C ⟨id,id,id,id⟩ (.str x)/\rs=[]
 |.dl i,x,v,rs=>v=.lst (yL (x.map (C.encV i))) (x.map (C.encV i))/\rs=[]
 |.bl i,x,v,rs=>v=.lst (if x.1 then .nil else .no) (x.2.map (C.encV i))/\rs=[]
 |.ow nb i,x,v,rs=>∃n,v=.lst (.own n nb (C.cells i)) (x.map (C.encV i))/\n∈s.tg/\n<s.nx/\rs=[.inl n]
 |.arr i,x,v,rs=>match x with
  |none=>v=.lst .nil []/\rs=[]
  |some xs=>∃b cap,v=.at (.slice (some ⟨b,0,none⟩) xs.length cap)/\xs.length<=cap/\Al.look s.box b=some (zf (xs.map (C.encV i)),cap*C.cells i)/\rs=[.inr b]
 |.box cs,x,v,rs=>∃b vs rs',v=.at (.pointer (some ⟨b,0,none⟩))/\Al.look s.box b=some (vs,vs.length)/\VKs s cs x vs rs'/\rs=.inr b::rs'
 |.st i,x,v,rs=>v=C.encV i x/\rs=[]
 |.mc1 i,x,v,rs=>∃b fp,v=.at (.map (some b))/\zQ s.ob b=some (.mp (x.map λp=>(⟨p.1.toArray⟩,C.encV i p.2)),fp)/\rs=[.ob b]
 |.fn n,_,v,rs=>v=.clo (.func n) []/\rs=[]
 |.ag cs,x,v,rs=>∃vs,v=.agg vs/\VKs s cs x vs rs
def VKs(s:S):(l:List (SK U))->zA l->List V->List Res->Prop
 |[],_,vs,rs=>vs=[]/\rs=[]
 |k::r,x,vs,rs=>∃v vs' r1 r2,vs=v::vs'/\rs=r1++r2/\VK s k x.1 v r1/\VKs s r x.2 vs' r2
end
def Has(N:NM)(st:St U):Res->Prop
 |.inl n=>∃t∈st.tg,N.tk t=n
 |.inr b=>∃l x,lk st.bx l=some x/\N.bl l=b
 |.ob b=>∃l x,lko st.ob l=some x/\N.bl l=b
variable{C}
theorem SSim.addBox{N:NM}{st:St U}{s:S}(d:SSim C N st s){b c z:Nat}{bx:Bx U}(q:¬Has N st (.inr b))(t:Al.look s.box b=some (trB C (N.loc st.nl b c z) st.nl bx))(u:wfB C (N.loc st.nl b c z) (st.nl+1) st.nx st.nl bx) :
 SSim C (N.loc st.nl b c z) ⟨(st.nl,some bx)::st.bx,st.tg,st.nl+1,st.nx,st.ob⟩ s:=by
 have f:=N.ext_loc st.nl st.nx b c z;have g:∀l,l<st.nl->(N.loc st.nl b c z).bl l=N.bl l:=f.bl;have j:(N.loc st.nl b c z).bl st.nl=b:=if_pos rfl;have o:∀l h,lk st.bx l=some h->b≠N.bl l:=λl h t e=>q ⟨l,h,t,e.symm⟩;refine⟨?_,?_,?_,?_,d.tgIn,d.tgInj,d.tgLt,d.nm,d.ob.ext f (zWh _)⟩
 .intro l h a;rw[xj]at a;by_cases e:st.nl=l
  .rw[if_pos e]at a;injection a with a
   subst a;subst e;rw[j];exact t
  .rw[if_neg e]at a;rw[g l (d.lt l h a),d.box l h a,zC1 d f (zV7 _) (zV7 _) a]
 .intro l h a;rw[xj]at a;by_cases e:st.nl=l
  .show l<st.nl+1;omega
  .rw[if_neg e]at a;have v:=d.lt l h a;show l<st.nl+1;omega
 .intro l h a;rw[xj]at a;by_cases e:st.nl=l
  .rw[if_pos e]at a;injection a with a
   subst a;subst e;exact u
  .rw[if_neg e]at a;exact zCz f (zWh _) (zV7 _) (d.lt l h a) (d.wf l h a)
 .intro l i b1 p m k n;rw[xj]at m k;by_cases e:st.nl=l
  .by_cases e':st.nl=i
   .omega
   .rw[if_neg e']at k;subst e;rw[j,g i (d.lt i p k)]at n;exact absurd n (o i p k)
  .rw[if_neg e]at m;by_cases e':st.nl=i
   .subst e';rw[j,g l (d.lt l b1 m)]at n;exact absurd n.symm (o l b1 m)
   .rw[if_neg e']at k;rw[g l (d.lt l b1 m),g i (d.lt i p k)]at n;exact d.inj l i b1 p m k n
theorem SSim.addTok{N:NM}{st:St U}{s:S}(c:SSim C N st s){n:Nat}(o:¬Has N st (.inl n))(p:n∈s.tg)(q:n<s.nx) :
 SSim C (N.tok st.nx n) ⟨st.bx,st.nx::st.tg,st.nl,st.nx+1,st.ob⟩ s:=by
 have f:=N.ext_tok st.nl st.nx n;have g:∀t,t<st.nx->(N.tok st.nx n).tk t=N.tk t:=f.tk;have h:(N.tok st.nx n).tk st.nx=n:=if_pos rfl;have k:∀t∈st.tg,N.tk t≠n:=λt a e=>o ⟨t,a,e⟩;refine⟨λl b m=>?_,c.lt,λl b m=>?_,λl u b v w x i=>c.inj l u b v w x i,?_,?_,?_,?_,c.ob.ext f (zV7 _)⟩
 .rw[zC1 c f (zV7 _) (zV7 _) m];exact c.box l b m
 .exact zCz f (zV7 _) (zWh _) (c.lt l b m) (c.wf l b m)
 .intro t a;rcases zWB.1 a with rfl|a
  .rw[h];exact p
  .rw[g t (c.tgLt t a)];exact c.tgIn t a
 .intro t a j d i;rcases zWB.1 a with rfl|a
  .rcases zWB.1 d with rfl|d
   .rfl
   .rw[h,g j (c.tgLt j d)]at i;exact absurd i.symm (k j d)
  .rcases zWB.1 d with rfl|d
   .rw[h,g t (c.tgLt t a)]at i;exact absurd i (k t a)
   .rw[g t (c.tgLt t a),g j (c.tgLt j d)]at i;exact c.tgInj t a j d i
 .intro t a;show t<st.nx+1;rcases zWB.1 a with rfl|a
  .omega
  .have:=c.tgLt t a;omega
 .intro t a;rcases zWB.1 a with rfl|a
  .rw[h];exact q
  .rw[g t (c.tgLt t a)];exact c.nm t a
theorem SSim.more{N N':NM}{st:St U}{s:S}(c:SSim C N st s){nl nx:Nat}(a:Ext nl nx N N')(g:st.nl<=nl)(i:st.nx<=nx):SSim C N' ⟨st.bx,st.tg,nl,nx,st.ob⟩ s:=by
 have h:∀l b,lk st.bx l=some b->N'.bl l=N.bl l:=λl b e=>a.bl l (zWN (c.lt l b e) g);have f:∀t∈st.tg,N'.tk t=N.tk t:=λt d=>a.tk t (zWN (c.tgLt t d) i);refine⟨λl b e=>?_,λl b e=>zWN (c.lt l b e) g,λl b e=>?_,λl m b n o p j=>?_,λt d=>?_,λt d q k j=>?_,λt d=>zWN (c.tgLt t d) i,λt d=>?_,c.ob.ext (a.less g i) g⟩
 .rw[h l b e,zC1 c a g i e];exact c.box l b e
 .exact zCz (a.less g i) g i (c.lt l b e) (c.wf l b e)
 .rw[h l b o,h m n p]at j;exact c.inj l m b n o p j
 .rw[f t d];exact c.tgIn t d
 .rw[f t d,f q k]at j;exact c.tgInj t d q k j
 .rw[f t d];exact c.nm t d
theorem SSim.addOb{N:NM}{st:St U}{s:S}(n:SSim C N st s){b c z:Nat}{o:TO U}{p:List Nat}(m:¬Has N st (.ob b))(A:zQ s.ob b=some (trO C (N.loc st.nl b c z) st.nl o,p))(B:wfO (N.loc st.nl b c z) st.nl o) :
 SSim C (N.loc st.nl b c z) ⟨st.bx,st.tg,st.nl+1,st.nx,(st.nl,some o)::st.ob⟩ s:=by
 have f:=N.ext_loc st.nl st.nx b c z;have g:(N.loc st.nl b c z).bl st.nl=b:=if_pos rfl;have a:SSim C (N.loc st.nl b c z) ⟨st.bx,st.tg,st.nl+1,st.nx,st.ob⟩ s:=by
  have:=n.more (N':=N.loc st.nl b c z) (nl:=st.nl) (nx:=st.nx) f (zV7 _) (zV7 _);exact this.more (N':=N.loc st.nl b c z) (nl:=st.nl+1) (nx:=st.nx) (.refl _ _ _) (zWh _) (zV7 _)
 have i:∀l o',lko st.ob l=some o'->(N.loc st.nl b c z).bl l≠b:=λl o' j e=>m ⟨l,o',j,(f.bl l (n.ob.lt l o' j)).symm.trans e⟩;have d:∀{l o'},lko ((st.nl,some o)::st.ob) l=some o'->(l=st.nl/\o'=o)\/(l≠st.nl/\lko st.ob l=some o'):=λ{l o'} h=>by
  rw[jA]at h;split at h
  .rename_i e;injection h with h;exact .inl ⟨e.symm,h.symm⟩
  .rename_i e;exact .inr ⟨λe'=>e e'.symm,h⟩
 refine⟨a.box,a.lt,a.wf,a.inj,a.tgIn,a.tgInj,a.tgLt,a.nm,⟨λl o' h=>?_,λl o' h=>?_,λl o' h=>?_,λl q t u D E k=>?_⟩⟩
 .rcases d h with⟨rfl,rfl⟩|⟨_,h⟩
  .rw[g];exact⟨p,A⟩
  .exact a.ob.look l o' h
 .rcases d h with⟨rfl,rfl⟩|⟨_,h⟩
  .exact zXk _
  .exact a.ob.lt l o' h
 .rcases d h with⟨rfl,rfl⟩|⟨_,h⟩
  .exact B
  .exact a.ob.wf l o' h
 .rcases d D with⟨v,F⟩|⟨_,w⟩<;>rcases d E with⟨x,G⟩|⟨_,y⟩
  .rw[v,x]
  .subst v;rw[g]at k;exact absurd k.symm (i q u y)
  .subst x;rw[g]at k;exact absurd k (i l t w)
  .exact a.ob.inj l q t u w y k
theorem zT2{N N':NM}{st:St U}{s:S}(f:SSim C N st s){nl nx:Nat}(c:Ext nl nx N N')(g:st.nl<=nl)(j:st.nx<=nx){a b:Nat}{x:Res}(h:Has N' ⟨st.bx,st.tg,a,b,st.ob⟩ x):Has N st x:=by
 cases x with
 |inl n=>obtain⟨t,i,d⟩:=h;exact⟨t,i,(c.tk t (zWN (f.tgLt t i) j)).symm.trans d⟩
 |inr b=>obtain⟨l,y,e,d⟩:=h;exact⟨l,y,e,(c.bl l (zWN (f.lt l y e) g)).symm.trans d⟩
 |ob b=>obtain⟨l,y,e,d⟩:=h;exact⟨l,y,e,(c.bl l (zWN (f.ob.lt l y e) g)).symm.trans d⟩
theorem has_ob{N:NM}{st:St U}{s:S}(i:SSim C N st s){b c z:Nat}{o:Option (TO U)}{x:Res}(h:Has (N.loc st.nl b c z) ⟨st.bx,st.tg,st.nl+1,st.nx,(st.nl,o)::st.ob⟩ x):x=.ob b\/Has N st x:=by
 have f:=N.ext_loc st.nl st.nx b c z;cases x with
 |inl n=>exact .inr h
 |inr j=>exact .inr (zT2 i f (zV7 _) (zV7 _) (x:=.inr j) (a:=0) (b:=0) h)
 |ob j=>
  obtain⟨l,y,k,g⟩:=h;have d:lko ((st.nl,o)::st.ob) l=some y:=k;rw[jA]at d;by_cases e:st.nl=l
  .subst e;have:(N.loc st.nl b c z).bl st.nl=b:=if_pos rfl;rw[this]at g;exact .inl (by rw[g])
  .rw[if_neg e]at d;rw[f.bl l (i.ob.lt l y d)]at g;exact .inr ⟨l,y,d,g⟩
theorem zOb{N:NM}{st:St U}{s:S}(i:SSim C N st s){b c z:Nat}{bx:Option (Bx U)}{x:Res}(h:Has (N.loc st.nl b c z) ⟨(st.nl,bx)::st.bx,st.tg,st.nl+1,st.nx,st.ob⟩ x):x=.inr b\/Has N st x:=by
 have d:=N.ext_loc st.nl st.nx b c z;cases x with
 |inl n=>exact .inr h
 |inr j=>
  obtain⟨l,y,g,f⟩:=h;have a:lk ((st.nl,bx)::st.bx) l=some y:=g;rw[xj]at a;by_cases e:st.nl=l
  .subst e;have:(N.loc st.nl b c z).bl st.nl=b:=if_pos rfl;rw[this]at f;exact .inl (by rw[f])
  .rw[if_neg e]at a;rw[d.bl l (i.lt l y a)]at f;exact .inr ⟨l,y,a,f⟩
 |ob j=>
  obtain⟨l,y,g,f⟩:=h;exact .inr ⟨l,y,g,(d.bl l (i.ob.lt l y g)).symm.trans f⟩
theorem zVQ{N:NM}{st:St U}{s:S}(e:SSim C N st s){n:Nat}{x:Res}(h:Has (N.tok st.nx n) ⟨st.bx,st.nx::st.tg,st.nl,st.nx+1,st.ob⟩ x):x=.inl n\/Has N st x:=by
 have a:=N.ext_tok st.nl st.nx n;cases x with
 |inr b=>exact .inr h
 |ob b=>exact .inr h
 |inl f=>
  obtain⟨t,c,d⟩:=h;rcases zWB.1 c with rfl|c
  .have:(N.tok st.nx n).tk st.nx=n:=if_pos rfl;rw[this]at d;exact .inl (by rw[d])
  .rw[a.tk t (e.tgLt t c)]at d;exact .inr ⟨t,c,d⟩
mutual
/-- LAID DOWN. -/
theorem zG1(hC:CodOk C){r:R}:∀(k:SK U)(x:denK k){N:NM}{st:St U}{s:S}{v:V}{rs:List Res}{K:T U->St U->Option R},SSim C N st s->VK C s k x v rs->rs.Nodup->(∀y∈rs,¬Has N st y)->putK C k x st K=some r ->
 ∃N' v' st',K v' st'=some r/\Turn N st N' st'/\SSim C N' st' s/\trT C N' v'=v/\bdd st'.nl st'.nx v'=true/\(∀y,Has N' st' y->Has N st y\/y∈rs)
 |.int k,x,N,st,s,v,rs,K,hs,hv,_,_,h=>by
  simp only[VK]at hv;simp only[putK]at h;exact⟨N,_,st,h,.refl _ _,hs,hv.1.symm,rfl,λy hy=>.inl hy⟩
 |.bool,x,N,st,s,v,rs,K,hs,hv,_,_,h=>by
  simp only[VK]at hv;simp only[putK]at h;exact⟨N,_,st,h,.refl _ _,hs,hv.1.symm,rfl,λy hy=>.inl hy⟩
 |.str,x,N,st,s,v,rs,K,hs,hv,_,_,h=>by
  simp only[VK]at hv;simp only[putK]at h;exact⟨N,_,st,h,.refl _ _,hs,hv.1.symm,rfl,λy hy=>.inl hy⟩
 |.dl i,x,N,st,s,v,rs,K,hs,hv,_,_,h=>by
  simp only[VK]at hv;simp only[putK]at h;exact⟨N,_,st,h,.refl _ _,hs,by rw[hv.1];rfl,rfl,λy hy=>.inl hy⟩
 |.bl i,x,N,st,s,v,rs,K,hs,hv,_,_,h=>by
  simp only[VK]at hv;simp only[putK]at h;exact⟨N,_,st,h,.refl _ _,hs,by rw[hv.1];rfl,rfl,λy hy=>.inl hy⟩
 |.st i,x,N,st,s,v,rs,K,hs,hv,_,_,h=>by
  simp only[VK]at hv;simp only[putK]at h;exact⟨N,_,st,h,.refl _ _,hs,(hC.enc N i x).trans hv.1.symm,zBu (zWd _) (zWd _) _ (hC.bd i x),λy hy=>.inl hy⟩
 |.ow nb i,x,N,st,s,v,rs,K,hs,hv,_,hd,h=>by
  simp only[VK]at hv;simp only[putK]at h;obtain⟨n,rfl,h1,h2,rfl⟩:=hv;refine⟨_,_,_,h,⟨N.ext_tok st.nl st.nx n,zV7 _,zWh _⟩,hs.addTok (hd _ (by simp)) h1 h2,?_,?_,λy hy=>?_⟩
  .have e:(N.tok st.nx n).tk st.nx=n:=if_pos rfl;simp only[trT,trM,e]
  .simp[bdd,zYH]
  .rcases zVQ hs hy with rfl|hy
   .exact .inr (by simp)
   .exact .inl hy
 |.arr i,x,N,st,s,v,rs,K,hs,hv,_,hd,h=>by
  cases x with
  |none=>
   simp only[VK]at hv;simp only[putK,z8]at h;exact⟨N,_,st,h,.refl _ _,hs,by rw[hv.1];rfl,rfl,λy hy=>.inl hy⟩
  |some xs=>
   simp only[VK]at hv;simp only[putK,z8]at h;obtain⟨b,cap,rfl,h1,h2,rfl⟩:=hv;have ec:(N.loc st.nl b cap (C.cells i)).cp st.nl=cap:=if_pos rfl;have eb:(N.loc st.nl b cap (C.cells i)).bl st.nl=b:=if_pos rfl;refine⟨_,_,_,h,⟨N.ext_loc st.nl st.nx b cap (C.cells i),zWh _,zV7 _⟩,hs.addBox (bx:=.ar i xs) (hd _ (by simp)) (by simp only[trB,ec];exact h2) ⟨if_pos rfl,by rw[ec];exact h1⟩,?_,?_,λy hy=>?_⟩
   .simp only[trT,ec,eb]
   .simp[bdd,zYH]
   .rcases zOb hs hy with rfl|hy
    .exact .inr (by simp)
    .exact .inl hy
 |.box cs,x,N,st,s,v,rs,K,hs,hv,hn,hd,h=>by
  simp only[VK]at hv;simp only[putK]at h;obtain⟨b,vs,rs',rfl,h1,h2,rfl⟩:=hv;obtain⟨hn1,hn2⟩:=zXx.1 hn;obtain⟨N1,vs',st1,h3,h4,h5,h6,h7,h8⟩:=qw hC cs x hs h2 hn2 (λy hy=>hd y (by simp[hy])) h;obtain⟨h9,h10⟩:=zN h3;have ext:=N1.ext_loc st1.nl st1.nx b 0 0;have eb:(N1.loc st1.nl b 0 0).bl st1.nl=b:=if_pos rfl;have hlen:vs'.length=vs.length:=by have:=zWp List.length h6;simpa using this
  refine⟨_,_,_,h10,h4.trans ⟨ext,zWh _,zV7 _⟩,h5.addBox (bx:=.st vs') (λhh=>?_) (by simp only[trB];rw[yx ext h7,h6,hlen];exact h1) ⟨yr (zWh _) (zV7 _) _ h7,h9⟩,?_,?_,λy hy=>?_⟩
  .rcases h8 _ hh with q|q
   .exact hd _ (by simp) q
   .exact hn1 q
  .simp only[trT,eb]
  .simp[bdd,zYH]
  .rcases zOb h5 hy with rfl|hy
   .exact .inr (by simp)
   .rcases h8 _ hy with q|q
    .exact .inl q
    .exact .inr (by simp[q])
 |.mc1 i,xs,N,st,s,v,rs,K,hs,hv,_,hd,h=>by
  simp only[VK]at hv;simp only[putK]at h;obtain⟨b,fp,rfl,h1,rfl⟩:=hv;have ec:(N.loc st.nl b 1 0).cp st.nl=1:=if_pos rfl;have eb:(N.loc st.nl b 1 0).bl st.nl=b:=if_pos rfl;refine⟨_,_,_,h,⟨N.ext_loc st.nl st.nx b 1 0,zWh _,zV7 _⟩,hs.addOb (o:=.mc i xs) (hd _ (by simp)) (by simp only[trO];exact h1) (by simp only[wfO,ec];decide),?_,?_,λy hy=>?_⟩
  .simp only[trT,ec,eb];rfl
  .simp[bdd,zYH]
  .rcases has_ob hs hy with rfl|hy
   .exact .inr (by simp)
   .exact .inl hy
 |.fn n,x,N,st,s,v,rs,K,hs,hv,_,_,h=>by
  simp only[VK]at hv;simp only[putK]at h;exact⟨N,_,st,h,.refl _ _,hs,by rw[hv.1];rfl,rfl,λy hy=>.inl hy⟩
 |.ag cs,x,N,st,s,v,rs,K,hs,hv,hn,hd,h=>by
  simp only[VK]at hv;simp only[putK]at h;obtain⟨vs,rfl,h2⟩:=hv;obtain⟨N1,vs',st1,h3,h4,h5,h6,h7,h8⟩:=qw hC cs x hs h2 hn hd h;exact⟨N1,_,st1,h3,h4,h5,by simp only[trT,yd,h6],by simpa only[bdd]using h7,h8⟩
theorem qw(hC:CodOk C){r:R}:∀(l:List (SK U))(x:zA l){N:NM}{st:St U}{s:S}{vs:List V}{rs:List Res}{K:List (T U)->St U->Option R},SSim C N st s->VKs C s l x vs rs->rs.Nodup->(∀y∈rs,¬Has N st y)->jy C l x st K=some r ->
 ∃N' vs' st',K vs' st'=some r/\Turn N st N' st'/\SSim C N' st' s/\vs'.map (trT C N')=vs/\bdds st'.nl st'.nx vs'=true/\(∀y,Has N' st' y->Has N st y\/y∈rs)
 |[],x,N,st,s,vs,rs,K,hs,hv,_,_,h=>by
  simp only[VKs]at hv;simp only[jy]at h;exact⟨N,_,st,h,.refl _ _,hs,by rw[hv.1];rfl,rfl,λy hy=>.inl hy⟩
 |k::rest,x,N,st,s,vs,rs,K,hs,hv,hn,hd,h=>by
  simp only[VKs]at hv;simp only[jy,xE]at h;obtain⟨v,vs',r1,r2,rfl,rfl,h1,h2⟩:=hv;obtain⟨hn1,hn2,hn3⟩:=zXI.1 hn;obtain⟨N1,v1,st1,h3,h4,h5,h6,h7,h8⟩:=zG1 hC k x.1 hs h1 hn1 (λy hy=>hd y (by simp[hy])) h;obtain⟨N2,vs2,st2,q3,q4,q5,q6,q7,q8⟩:=qw hC rest x.2 h5 h2 hn2 (λy hy hh=>by
   rcases h8 y hh with q|q
   .exact hd y (by simp[hy]) q
   .exact hn3 y q y hy rfl) h3
  refine⟨N2,_,st2,q3,h4.trans q4,q5,?_,?_,λy hy=>?_⟩
  .rw[zV6,q6,zC4 C q4.ext _ h7,h6]
  .simp only[bdds,q7,zBu q4.nl q4.nx _ h7,zWJ]
  .rcases q8 y hy with q|q
   .rcases h8 y q with q'|q'
    .exact .inl q'
    .exact .inr (by simp[q'])
   .exact .inr (by simp[q])
end
end
open Go.Al
section
variable{U:TyU}{C:Cod U}{R:Type}
theorem SSim.less{N:NM}{st:St U}{s:S}(d:SSim C N st s)(l0:Nat):SSim C N ⟨(l0,none)::st.bx,st.tg,st.nl,st.nx,st.ob⟩ s:=by
 have a:∀l b,lk ((l0,none)::st.bx) l=some b->lk st.bx l=some b:=λl b c=>by
  rw[xj]at c;by_cases e:l0=l
  .rw[if_pos e]at c;cases c
  .rw[if_neg e]at c;exact c
 exact⟨λl b c=>d.box l b (a l b c),λl b c=>d.lt l b (a l b c),λl b c=>d.wf l b (a l b c),λl f b g h i j=>d.inj l f b g (a l b h) (a f g i) j,d.tgIn,d.tgInj,d.tgLt,d.nm,d.ob⟩
theorem SSim.lessO{N:NM}{st:St U}{s:S}(a:SSim C N st s)(l0:Nat):SSim C N ⟨st.bx,st.tg,st.nl,st.nx,(l0,none)::st.ob⟩ s:=by
 have c:∀l b,lko ((l0,none)::st.ob) l=some b->lko st.ob l=some b:=λl b d=>by
  rw[jA]at d;by_cases e:l0=l
  .rw[if_pos e]at d;cases d
  .rw[if_neg e]at d;exact d
 exact⟨a.box,a.lt,a.wf,a.inj,a.tgIn,a.tgInj,a.tgLt,a.nm,⟨λl b d=>a.ob.look l b (c l b d),λl b d=>a.ob.lt l b (c l b d),λl b d=>a.ob.wf l b (c l b d),λl f b g h i j=>a.ob.inj l f b g (c l b h) (c f g i) j⟩⟩
theorem zRY{N:NM}{st:St U}{l0:Nat}{y:Res}(h:Has N ⟨st.bx,st.tg,st.nl,st.nx,(l0,none)::st.ob⟩ y):Has N st y:=by
 cases y with
 |inl n=>exact h
 |inr b=>exact h
 |ob b=>
  obtain⟨l,x,c,d⟩:=h;have a:lko ((l0,none)::st.ob) l=some x:=c;rw[jA]at a;by_cases e:l0=l
  .rw[if_pos e]at a;cases a
  .rw[if_neg e]at a;exact⟨l,x,a,d⟩
theorem zQt{N:NM}{st:St U}{s:S}(c:SSim C N st s){l0:Nat}{b:TO U}(d:lko st.ob l0=some b):¬Has N ⟨st.bx,st.tg,st.nl,st.nx,(l0,none)::st.ob⟩ (.ob (N.bl l0)):=by
 rintro⟨l,x,f,g⟩;have a:lko ((l0,none)::st.ob) l=some x:=f;rw[jA]at a;by_cases e:l0=l
 .rw[if_pos e]at a;cases a
 .rw[if_neg e]at a;exact e (c.ob.inj l0 l b x d a g.symm)
theorem SSim.lessT{N:NM}{st:St U}{s:S}(a:SSim C N st s)(t:Nat):SSim C N ⟨st.bx,rmN st.tg t,st.nl,st.nx,st.ob⟩ s:=
 ⟨a.box,a.lt,a.wf,a.inj,λt b=>a.tgIn t (jJ b).1,λt b d c=>a.tgInj t (jJ b).1 d (jJ c).1,λt b=>a.tgLt t (jJ b).1,λt b=>a.nm t (jJ b).1,a.ob⟩
theorem zHi{N:NM}{st:St U}{l0:Nat}{y:Res}(h:Has N ⟨(l0,none)::st.bx,st.tg,st.nl,st.nx,st.ob⟩ y):Has N st y:=by
 cases y with
 |inl n=>exact h
 |ob b=>exact h
 |inr b=>
  obtain⟨l,x,c,d⟩:=h;have a:lk ((l0,none)::st.bx) l=some x:=c;rw[xj]at a;by_cases e:l0=l
  .rw[if_pos e]at a;cases a
  .rw[if_neg e]at a;exact⟨l,x,a,d⟩
theorem zHf{N:NM}{st:St U}{s:S}(c:SSim C N st s){l0:Nat}{b:Bx U}(d:lk st.bx l0=some b):¬Has N ⟨(l0,none)::st.bx,st.tg,st.nl,st.nx,st.ob⟩ (.inr (N.bl l0)):=by
 rintro⟨l,x,f,g⟩;have a:lk ((l0,none)::st.bx) l=some x:=f;rw[xj]at a;by_cases e:l0=l
 .rw[if_pos e]at a;cases a
 .rw[if_neg e]at a;exact e (c.inj l0 l b x d a g.symm)
theorem zSK{N:NM}{st:St U}{t:Nat}{y:Res}(h:Has N ⟨st.bx,rmN st.tg t,st.nl,st.nx,st.ob⟩ y):Has N st y:=by
 cases y with
 |inl n=>obtain⟨a,c,d⟩:=h;exact⟨a,(jJ c).1,d⟩
 |inr b=>exact h
 |ob b=>exact h
theorem zRs{N:NM}{st:St U}{s:S}(a:SSim C N st s){t:Nat}(b:t∈st.tg):¬Has N ⟨st.bx,rmN st.tg t,st.nl,st.nx,st.ob⟩ (.inl (N.tk t)):=by
 rintro⟨c,d,e⟩;obtain⟨f,g⟩:=jJ d;exact g (a.tgInj c f t b e)
theorem zKC{N:NM}{x:T U}(h:zI1 x=true):zx (trT C N x)=trT C N x:=by
 cases x with
 |lst m i xs=>
  cases m with
  |b n=>cases n<;>rfl
  |dl=>simp only[trT,trM];exact zBB _
  |ow t a=>simp[zI1]at h
 |_=>rfl
theorem zQD{N:NM}{x:T U}(h:zLl x=true):(trT C N x).untag=trT C N x:=by
 cases x with
 |agg fs=>
  simp only[zLl,zWL]at h;simp only[trT,yd,V.untag,zXD];congr 1;exact zWx λx a=>zKC (h x a)
 |lst m i xs=>exact zKC (x:=.lst m i xs) h
 |_=>rfl
theorem zVY{a b:Bool}(h:beqB a b=true):a=b:=by simpa [beqB]using h
mutual
/-- READ OUT. -/
theorem zJh(hC:CodOk C){r:R}:∀(k:SK U){N:NM}{st:St U}{s:S}{v:T U}{v':V}{K:denK k->St U->Option R},SSim C N st s->VR C N v v'->getK C k v st K=some r ->
 ∃x st' rs,K x st'=some r/\SSim C N st' s/\st'.nl=st.nl/\st'.nx=st.nx/\VK C s k x v' rs/\rs.Nodup/\(∀y∈rs,Has N st y/\¬Has N st' y)/\(∀y,Has N st' y->Has N st y)
 |.int k,N,st,s,v,v',K,hs,hv,h=>by
  simp only[getK]at h;split at h
  .obtain⟨h1,h2⟩:=zN h;simp only[zWV]at h1;subst h1;exact⟨_,st,[],h2,hs,rfl,rfl,by simp only[VK];exact⟨hv.get (by simp),trivial⟩,zW7,(by simp),λy hy=>hy⟩
  .cases h
 |.bool,N,st,s,v,v',K,hs,hv,h=>by
  simp only[getK]at h;split at h
  .exact⟨_,st,[],h,hs,rfl,rfl,by simp only[VK];exact⟨hv.get (by simp),trivial⟩,zW7,(by simp),λy hy=>hy⟩
  .cases h
 |.str,N,st,s,v,v',K,hs,hv,h=>by
  simp only[getK]at h;split at h
  .exact⟨_,st,[],h,hs,rfl,rfl,by simp only[VK];exact⟨hv.get (by simp),trivial⟩,zW7,(by simp),λy hy=>hy⟩
  .cases h
 |.dl i,N,st,s,v,v',K,hs,hv,h=>by
  simp only[getK]at h;split at h
  .exact⟨_,st,[],h,hs,rfl,rfl,by simp only[VK];exact⟨hv.get (by simp),trivial⟩,zW7,(by simp),λy hy=>hy⟩
  .rename_i m j ys;have hq:=xt h;clear h;obtain⟨rfl,h⟩:=hq;simp only[kZ]at h;split at h
   .exact⟨_,st,[],h,hs,rfl,rfl,by simp only[VK];exact⟨hv.get (by simp),trivial⟩,zW7,(by simp),λy hy=>hy⟩
   .rename_i n;obtain⟨h1,h2⟩:=zN h;refine⟨_,st,[],h2,hs,rfl,rfl,?_,zW7,(by simp),λy hy=>hy⟩;simp only[VK];refine⟨(hv.get (by simp)).trans ?_,trivial⟩;simp only[trT,trM];cases n<;>cases ys<;>simp at h1<;>rfl
   .cases h
  .cases h
 |.bl i,N,st,s,v,v',K,hs,hv,h=>by
  simp only[getK]at h;split at h
  .exact⟨_,st,[],h,hs,rfl,rfl,by simp only[VK];exact⟨hv.get (by simp),trivial⟩,zW7,(by simp),λy hy=>hy⟩
  .rename_i m j ys;have hq:=xt h;clear h;obtain⟨rfl,h⟩:=hq;simp only[kZ]at h;split at h
   .refine⟨_,st,[],h,hs,rfl,rfl,?_,zW7,(by simp),λy hy=>hy⟩;simp only[VK];refine⟨(hv.get (by simp)).trans ?_,trivial⟩;simp only[trT,trM];cases ys<;>rfl
   .exact⟨_,st,[],h,hs,rfl,rfl,by simp only[VK];exact⟨hv.get (by simp),trivial⟩,zW7,(by simp),λy hy=>hy⟩
   .cases h
  .cases h
 |.ow nb i,N,st,s,v,v',K,hs,hv,h=>by
  simp only[getK]at h;split at h
  .rename_i m j ys;have hq:=xt h;clear h;obtain⟨rfl,h⟩:=hq;simp only[kZ]at h;split at h
   .rename_i t nb';obtain⟨h1,h2⟩:=zN h;simp only[zV5]at h1;have hnb:=zVY h1.1;subst hnb;have hm:=zDW h1.2;refine⟨_,_,[.inl (N.tk t)],h2,hs.lessT t,rfl,rfl,?_,by simp,?_,λy hy=>zSK hy⟩
    .simp only[VK];exact⟨_,hv.get (by simp),hs.tgIn t hm,hs.nm t hm,rfl⟩
    .intro y hy;simp only[zW1]at hy;subst hy;exact⟨⟨t,hm,rfl⟩,zRs hs hm⟩
   .cases h
  .cases h
 |.arr i,N,st,s,v,v',K,hs,hv,h=>by
  simp only[getK]at h;split at h
  .exact⟨_,st,[],h,hs,rfl,rfl,by simp only[VK];exact⟨hv.get (by simp),trivial⟩,zW7,(by simp),λy hy=>hy⟩
  .rename_i l n;split at h
   .rename_i j ys hl;have hq:=xt h;clear h;obtain⟨rfl,h⟩:=hq;simp only[kZ]at h;obtain⟨h1,h2⟩:=zN h;simp only[eqN,zXm]at h1;have hw:=hs.wf l _ hl;refine⟨_,_,[.inr (N.bl l)],h2,hs.less l,rfl,rfl,?_,by simp,?_,λy hy=>zHi hy⟩
    .simp only[VK];exact⟨N.bl l,N.cp l,by rw[hv.get (by simp)];simp only[trT,h1],hw.2,by rw[hs.box l _ hl];rfl,rfl⟩
    .intro y hy;simp only[zW1]at hy;subst hy;exact⟨⟨l,_,hl,rfl⟩,zHf hs hl⟩
   .cases h
  .cases h
 |.box cs,N,st,s,v,v',K,hs,hv,h=>by
  simp only[getK]at h;split at h
  .rename_i l o;obtain⟨h1,h2⟩:=zN h;clear h;simp only[zXm]at h1;subst h1;split at h2
   .rename_i vs hl;rw[xE]at h2;obtain⟨x,st',rs,q1,q2,q3,q4,q5,q6,q7,q8⟩:=jF hC cs (vs:=vs) (vs':=vs.map (trT C N)) (hs.less l) (by simp) (λj x v a b=>by
     rw[zWM,a]at b;injection b with b
     exact .inr b.symm) h2
    have hbox:=hs.box l _ hl;refine⟨x,st',.inr (N.bl l)::rs,q1,q2,q3,q4,?_,?_,?_,λy hy=>zHi (q8 y hy)⟩
    .simp only[VK];exact⟨N.bl l,vs.map (trT C N),rs,hv.get (by simp),by rw[hbox];simp[trB],q5,rfl⟩
    .exact zXx.2 ⟨λhh=>zHf hs hl (q7 _ hh).1,q6⟩
    .intro y hy;rcases zWB.1 hy with rfl|hy
     .exact⟨⟨l,_,hl,rfl⟩,λhh=>zHf hs hl (q8 _ hh)⟩
     .exact⟨zHi (q7 y hy).1,(q7 y hy).2⟩
   .cases h2
  .cases h
 |.st i,N,st,s,v,v',K,hs,hv,h=>by
  simp only[getK]at h;obtain⟨h1,h2⟩:=zN h;obtain⟨x,h3,h4⟩:=hC.dec i _ _ _ h2;refine⟨x,st,[],h3,hs,rfl,rfl,?_,zW7,(by simp),λy hy=>hy⟩;simp only[VK];have hne:v≠.any:=λe=>by
   subst e;have:=h4 N;have h5:=hC.size i x;have h6:=hC.ones i x;simp only[trT,V.untag,zx]at this;rw[<-this]at h6;simp[zJ,V.flat,V.isOne]at h6
  exact⟨by rw[hv.get hne,<-h4 N,zQD h1],trivial⟩
 |.mc1 i,N,st,s,v,v',K,hs,hv,h=>by
  simp only[getK]at h;split at h
  .rename_i l;split at h
   .rename_i o hl;split at h
    .rename_i j c;unfold sameM at h;split at h
     case isFalse=>cases h
     rename_i he;subst he;have hw:=hs.ob.wf l _ hl;obtain⟨fp,h1⟩:=hs.ob.look l _ hl;refine⟨c,_,[.ob (N.bl l)],h,hs.lessO l,rfl,rfl,?_,by simp,?_,λy hy=>zRY hy⟩
     .simp only[VK];exact⟨N.bl l,fp,by rw[hv.get (by simp)];simp only[wfO]at hw;simp only[trT,if_neg hw],h1,rfl⟩
     .intro y hy;simp only[zW1]at hy;subst hy;exact⟨⟨l,_,hl,rfl⟩,zQt hs hl⟩
    .cases h
    .cases h
    .cases h
    .cases h
   .cases h
  .cases h
 |.fn n,N,st,s,v,v',K,hs,hv,h=>by
  simp only[getK]at h;split at h
  .split at h
   .split at h
    .obtain⟨h1,h2⟩:=zN h;have h1:=zYi h1;subst h1;exact⟨(),st,[],h2,hs,rfl,rfl,by simp only[VK];exact⟨hv.get (by simp),trivial⟩,zW7,(by simp),λy hy=>hy⟩
    .cases h
   .cases h
  .cases h
 |.ag cs,N,st,s,v,v',K,hs,hv,h=>by
  simp only[getK]at h;split at h
  .rename_i vs;obtain⟨x,st',rs,q1,q2,q3,q4,q5,q6,q7,q8⟩:=jF hC cs (vs:=vs) (vs':=vs.map (trT C N)) hs (by simp) (λj x v a b=>by
    rw[zWM,a]at b;injection b with b
    exact .inr b.symm) h
   exact⟨x,st',rs,q1,q2,q3,q4,by simp only[VK];exact⟨_,by rw[hv.get (by simp)];simp only[trT,yd],q5⟩,q6,q7,q8⟩
  .cases h
theorem jF(hC:CodOk C){r:R}:∀(l:List (SK U)){N:NM}{st:St U}{s:S}{vs:List (T U)}{vs':List V}{K:zA l->St U->Option R},SSim C N st s->vs'.length=vs.length->(∀(j:Nat)(x:T U)(v:V),vs[j]?=some x->vs'[j]?=some v->VR C N x v)->xI C l vs st K=some r ->
 ∃x st' rs,K x st'=some r/\SSim C N st' s/\st'.nl=st.nl/\st'.nx=st.nx/\VKs C s l x vs' rs/\rs.Nodup/\(∀y∈rs,Has N st y/\¬Has N st' y)/\(∀y,Has N st' y->Has N st y)
 |[],N,st,s,vs,vs',K,hs,hl,hv,h=>by
  simp only[xI]at h;cases vs with
  |cons _ _=>cases h
  |nil=>
   have:vs'=[]:=by cases vs'<;>simp at hl ⊢
   exact⟨_,st,[],h,hs,rfl,rfl,by simp only[VKs];exact⟨this,trivial⟩,zW7,(by simp),λy hy=>hy⟩
 |k::rest,N,st,s,vs,vs',K,hs,hl,hv,h=>by
  simp only[xI,xE]at h;cases vs with
  |nil=>cases h
  |cons v vs=>
   cases vs' with
   |nil=>simp at hl
   |cons v' vs'=>
    simp only at h;obtain⟨x,st1,r1,q1,q2,q3,q4,q5,q6,q7,q8⟩:=zJh hC k hs (hv 0 v v' rfl rfl) h;obtain⟨xs,st2,r2,p1,p2,p3,p4,p5,p6,p7,p8⟩:=jF hC rest (vs:=vs) (vs':=vs') q2 (by simpa using hl) (λj x v a b=>hv (j+1) x v (by simpa using a) (by simpa using b)) q1;refine⟨_,st2,r1++r2,p1,p2,p3.trans q3,p4.trans q4,?_,?_,?_,λy hy=>q8 y (p8 y hy)⟩
    .simp only[VKs];exact⟨v',vs',r1,r2,rfl,rfl,q5,p5⟩
    .refine zXI.2 ⟨q6,p6,λa ha b hb e=>?_⟩;subst e;exact(q7 a ha).2 (p7 a hb).1
    .intro y hy;rcases zWe.1 hy with hy|hy
     .exact⟨(q7 y hy).1,λhh=>(q7 y hy).2 (p8 y hh)⟩
     .exact⟨q8 y (p7 y hy).1,(p7 y hy).2⟩
end
def xn(l:Nat):List (SK U)->Nat->St U->(St U->Option R)->Option R
 |[],_,st,K=>K st
 |k::r,j,st,K=>
  match lk st.bx l with
  |some (.st vs)=>
   (match k with
   |.ow c i=>bif c then(match vs.getD j .any with
    |.nil=>feL (vs.set j (.lst (.ow st.nx true) i [])) λvs'=>bif yR vs'&&bdds st.nl (st.nx+1) vs'&&Nat.blt j vs.length then(feS ⟨(l,some (.st vs'))::st.bx,st.nx::st.tg,st.nl,st.nx+1,st.ob⟩ λa=>xn l r (j+1) a K)else none
    |_=>xn l r (j+1) st K)else xn l r (j+1) st K
   |.arr _=>(match vs.getD j .any with
    |.sl b n=>(match lk st.bx b with
     |some (.ar d xs)=>(feS ⟨(b,some (.ar d (zL n xs)))::st.bx,st.tg,st.nl,st.nx,st.ob⟩ λa=>xn l r (j+1) a K)
     |_=>xn l r (j+1) st K)
    |_=>xn l r (j+1) st K)
   |_=>xn l r (j+1) st K)
  |_=>none
def xu:List (Nat×SK U)->En U->St U->(En U->St U->Option R)->Option R
 |[],e,st,K=>K e st
 |p::r,e,st,K=>
  match p.2 with
  |.ow b i=>bif b then(match eget e p.1 with
   |.nil=>feS ⟨st.bx,st.nx::st.tg,st.nl,st.nx+1,st.ob⟩ λa=>xu r ((p.1,.lst (.ow st.nx true) i [])::e) a K
   |_=>xu r e st K)else xu r e st K
  |.arr _=>(match eget e p.1 with
   |.sl l n=>(match lk st.bx l with
    |some (.ar c xs)=>feS ⟨(l,some (.ar c (zL n xs)))::st.bx,st.tg,st.nl,st.nx,st.ob⟩ λa=>xu r e a K
    |_=>xu r e st K)
   |_=>xu r e st K)
  |.box cs=>(match eget e p.1 with
   |.ptr l _=>xn l cs 0 st λa=>feS a λa=>xu r e a K
   |_=>xu r e st K)
  |_=>xu r e st K
theorem zHk(e:CodOk C){N:NM}{st:St U}{s:S}(a:SSim C N st s){l n:Nat}{i:U.I}{xs:List (U.den i)}(b:lk st.bx l=some (.ar i xs)) :
 ∃c,Gs s c/\SSim C N ⟨(l,some (.ar i (zL n xs)))::st.bx,st.tg,st.nl,st.nx,st.ob⟩ c:=by
 have d:=a.wf l _ b;have f:=a.setBox (b1:=.ar i (zL n xs)) b ⟨d.1,by unfold zL;rw[zWT];have:=d.2;omega⟩;refine⟨_,?_,f⟩;simp only[trB,zL,<-j7 e];exact zTx _ _ (a.box l _ b)
theorem zS7(o:CodOk C){X:Cx}{N:NM}{st:St U}{s:S}(b:SSim C N st s){e:En U}{E:Env}(c:ESim C N st e E)(k:Nat)(i:U.I)(j:eget e k=.nil) :
 ∃N' d f,Gst X E s d f/\Turn N st N' ⟨st.bx,st.nx::st.tg,st.nl,st.nx+1,st.ob⟩/\SSim C N' ⟨st.bx,st.nx::st.tg,st.nl,st.nx+1,st.ob⟩ f/\ESim C N' ⟨st.bx,st.nx::st.tg,st.nl,st.nx+1,st.ob⟩ (eput e (some k) (.lst (.ow st.nx true) i [])) d:=by
 have g:=(c k).1;rw[j]at g;have l:E.get k=.lst .nil []:=g.get (by simp);have a:Turn N st (N.tok st.nx s.nx) ⟨st.bx,st.nx::st.tg,st.nl,st.nx+1,st.ob⟩:=⟨N.ext_tok st.nl st.nx s.nx,zV7 _,zWh _⟩;refine⟨N.tok st.nx s.nx,_,_,zRq k (C.cells i) l,a,b.newTok (n:=s.nx) (tg:=st.tg) (tg':=s.tg) (x:=s.nx+1) (λ_ h=>h) b.tgIn (λt a=>zXp (b.nm t a)) (zWh _) (zXk _),?_⟩;refine(c.turn a).put (.inr ?_) (by simp[bdd,zYH]) (some k);have m:(N.tok st.nx s.nx).tk st.nx=s.nx:=if_pos rfl;simp[trT,trM,m]
theorem zR4(A:CodOk C){N:NM}{st:St U}{s:S}(a:SSim C N st s){e:En U}{E:Env}(o:ESim C N st e E){l j:Nat}{i:U.I}{vs:List (T U)}(d:lk st.bx l=some (.st vs))(k:vs.getD j .any=.nil)(b:j<vs.length)
 (p:yR (vs.set j (.lst (.ow st.nx true) i []))=true) (q:bdds st.nl (st.nx+1) (vs.set j (.lst (.ow st.nx true) i []))=true) :
 ∃N' m,Gs s m/\Turn N st N' ⟨(l,some (.st (vs.set j (.lst (.ow st.nx true) i []))))::st.bx,st.nx::st.tg,st.nl,st.nx+1,st.ob⟩ /\
  SSim C N' ⟨(l,some (.st (vs.set j (.lst (.ow st.nx true) i []))))::st.bx,st.nx::st.tg,st.nl,st.nx+1,st.ob⟩ m/\ESim C N' ⟨(l,some (.st (vs.set j (.lst (.ow st.nx true) i []))))::st.bx,st.nx::st.tg,st.nl,st.nx+1,st.ob⟩ e E:=by
 have u:=a.box l _ d;have v:=a.wf l _ d;have f:vs[j]?=some .nil:=by
  rw[zWk,zWX b]at k;rw[zWX b];exact zWp some k
 have c:Turn N st (N.tok st.nx s.nx) ⟨(l,some (.st (vs.set j (.lst (.ow st.nx true) i []))))::st.bx,st.nx::st.tg,st.nl,st.nx+1,st.ob⟩:=⟨N.ext_tok st.nl st.nx s.nx,zV7 _,zWh _⟩;have w:=a.newTok (n:=s.nx) (tg:=st.tg) (tg':=s.tg) (x:=s.nx+1) (λ_ h=>h) a.tgIn (λt c=>zXp (a.nm t c)) (zWh _) (zXk _);have g:=w.setBox (l0:=l) (b1:=.st (vs.set j (.lst (.ow st.nx true) i []))) d ⟨q,p⟩;refine⟨N.tok st.nx s.nx,_,?_,c,g,o.turn c⟩;have y:(N.tok st.nx s.nx).tk st.nx=s.nx:=if_pos rfl;have z:(vs.set j (.lst (.ow st.nx true) i [])).map (trT C (N.tok st.nx s.nx))=(vs.map (trT C N)).set j (.lst (.own s.nx true (C.cells i)) []):=by
  rw[zZQ,yx c.ext v.1];simp[trT,trM,y]
 simp only[trB,z,zYI];exact zQn _ j (C.cells i) u (by rw[zWM,f];rfl)
end
open Go.Al
section
variable{U:TyU}{C:Cod U}{R:Type}{r:R}
theorem zAE(d:CodOk C){l:Nat}{e:En U}{E:Env}:∀(D:List (SK U))(j:Nat){N:NM}{st:St U}{s:S}{K:St U->Option R},SSim C N st s->ESim C N st e E->xn l D j st K=some r ->
 ∃N' a f,K a=some r/\Gs s f/\Turn N st N' a/\SSim C N' a f/\ESim C N' a e E
 |[],j,N,st,s,K,g,m,h=>⟨N,st,s,h,.refl _,.refl _ _,g,m⟩
 |k::b,j,N,st,s,K,g,m,h=>by
  simp only[xn,xE]at h;have go:xn l b (j+1) st K=some r->∃N' a f,K a=some r/\Gs s f/\Turn N st N' a/\SSim C N' a f/\ESim C N' a e E:=λF=>zAE d b (j+1) g m F;split at h
  .rename_i vs G;split at h
   .rename_i H i;cases H with
    |false=>exact go h
    |true=>
     simp only[zWQ]at h;split at h
     .rename_i I;rw[zBR]at h;obtain⟨o,J⟩:=zN h;simp only[zV5]at o;obtain⟨V,L,p,q,M,O⟩:=zR4 d g m G I (yh o.2) o.1.1 o.1.2;obtain⟨t,c,u,v,w,x,y,z⟩:=zAE d b (j+1) M O J;exact⟨t,c,u,v,p.trans w,q.trans x,y,z⟩
     .exact go h
   .split at h
    .rename_i Q n _;split at h
     .rename_i T xs A;obtain⟨L,p,q⟩:=zHk d g (n:=n) A;have B:Turn N st N ⟨(Q,some (.ar T (zL n xs)))::st.bx,st.tg,st.nl,st.nx,st.ob⟩:=⟨.refl _ _ _,zV7 _,zV7 _⟩;obtain⟨t,c,u,v,w,x,y,z⟩:=zAE d b (j+1) q (m.turn B) h;exact⟨t,c,u,v,p.trans w,B.trans x,y,z⟩
     .exact go h
    .exact go h
   .exact go h
  .cases h
theorem zAZ(g:CodOk C){X:Cx}:∀(d:List (Nat×SK U)){e:En U}{E:Env}{N:NM}{st:St U}{s:S}{K:En U->St U->Option R},SSim C N st s->ESim C N st e E->xu d e st K=some r ->
 ∃N' e' a k m,K e' a=some r/\Gst X E s k m/\Turn N st N' a/\SSim C N' a m/\ESim C N' a e' k/\∀j,(∀p∈d,p.1≠j)->eget e' j=eget e j
 |[],e,E,N,st,s,K,v,w,h=>⟨N,e,st,E,s,h,.refl _ _ _,.refl _ _,v,w,λ_ _=>rfl⟩
 |p::b,e,E,N,st,s,K,v,w,h=>by
  simp only[xu,xE]at h;have go:xu b e st K=some r->∃N' e' a k m,K e' a=some r/\Gst X E s k m/\Turn N st N' a/\SSim C N' a m/\ESim C N' a e' k/\∀j,(∀q∈p::b,q.1≠j)->eget e' j=eget e j:=λW=>by
   obtain⟨N',e',a,k,m,o,t,x,y,O,Y⟩:=zAZ g b v w W;exact⟨N',e',a,k,m,o,t,x,y,O,λj f=>Y j λq u=>f q (by simp[u])⟩
  split at h
  .rename_i Z i _;cases Z with
   |false=>exact go h
   |true=>
    simp only[zWQ]at h;split at h
    .rename_i hk;obtain⟨N1,E1,M,o,t,x,y⟩:=zS7 (X:=X) g v w p.1 i hk;obtain⟨z,A,c,B,D,F,G,H,I,J,L⟩:=zAZ g b x y h;refine⟨z,A,c,B,D,F,o.trans G,t.trans H,I,J,λj f=>?_⟩;rw[L j λq u=>f q (by simp[u])];have Q:=f p (by simp);simp[eput,eget,yy Q]
    .exact go h
  .split at h
   .rename_i l n _;split at h
    .rename_i i' xs hl;obtain⟨M,T,t⟩:=zHk g v (n:=n) hl;have o:Gst X E s E M:=T.gst;have V:Turn N st N ⟨(l,some (.ar i' (zL n xs)))::st.bx,st.tg,st.nl,st.nx,st.ob⟩:=⟨.refl _ _ _,zV7 _,zV7 _⟩;obtain⟨z,A,c,B,D,F,G,H,I,J,L⟩:=zAZ g b t (w.turn V) h;exact⟨z,A,c,B,D,F,o.trans G,V.trans H,I,J,λj f=>L j λq u=>f q (by simp[u])⟩
    .exact go h
   .exact go h
  .split at h
   .rename_i cs _ _ l _ _;obtain⟨N1,aa,M,o,T,x,y,O⟩:=zAE g cs 0 v w h;have t:Gst X E s E M:=T.gst;obtain⟨z,A,c,B,D,F,G,H,I,J,L⟩:=zAZ g b y O o;exact⟨z,A,c,B,D,F,t.trans G,x.trans H,I,J,λj f=>L j λq u=>f q (by simp[u])⟩
   .exact go h
  .exact go h
variable(C)
def zDD{R:Type}:List (SK U)->List (T U)->St U->(St U->Option R)->Option R
 |[],_,st,K=>K st
 |k::r,b,st,K=>(match b with
  |[]=>none
  |t::b=>(match k with
   |.box cs=>(match t with
    |.ptr l _=>xn l cs 0 st λa=>feS a λa=>zDD r b a K
    |_=>none)
   |.arr _=>(match t with
    |.nil=>zDD r b st K
    |.sl l n=>(match lk st.bx l with
     |some (.ar c xs)=>feS ⟨(l,some (.ar c (zL n xs)))::st.bx,st.tg,st.nl,st.nx,st.ob⟩ λa=>zDD r b a K
     |_=>none)
    |_=>none)
   |_=>none))
def putB{R:Type}:(k:SK U)->denK k->T U->St U->(St U->Option R)->Option R
 |.box cs,x,t,st,K=>(match t with
  |.ptr l o=>jy C cs x st λvs a=>bif yR vs&&Nat.beq o 0&&Nat.blt l st.nl then feS ⟨(l,some (.st vs))::a.bx,a.tg,a.nl,a.nx,a.ob⟩ K else none
  |_=>none)
 |_,_,_,_,_=>none
def zIb{R:Type}:(l:List (SK U))->zA l->List (T U)->St U->(St U->Option R)->Option R
 |[],_,a,st,K=>(match a with|[]=>K st|_::_=>none)
 |k::r,x,a,st,K=>(match a with
  |[]=>none
  |t::a=>putB C k x.1 t st λb=>zIb r x.2 a b K)
def putP{R:Type}:(k:SK U)->denK k->T U->St U->(St U->Option R)->Option R
 |.box cs,x,t,st,K=>putB C (.box cs) x t st K
 |.arr i,x,t,st,K=>(match t with
  |.nil=>z8 x (K st) λ_=>none
  |.sl l _=>z8 x none λys=>bif Nat.blt l st.nl then feS ⟨(l,some (.ar i ys))::st.bx,st.tg,st.nl,st.nx,st.ob⟩ K else none
  |_=>none)
 |_,_,_,_,_=>none
def zLA{R:Type}:(l:List (SK U))->zA l->List (T U)->St U->(St U->Option R)->Option R
 |[],_,a,st,K=>(match a with|[]=>K st|_::_=>none)
 |k::r,x,a,st,K=>(match a with
  |[]=>none
  |t::a=>putP C k x.1 t st λb=>zLA r x.2 a b K)
structure Head(U:TyU) where
 fixed:List Nat
 vars:List (Nat×SK U)
 ptrs:List (Nat×SK U):=[]
structure FI(U:TyU) where
 wr:Nat->Bool
 own:Nat->Bool
 kf:Nat->List Nat
 hd:Nat->Option (Head U)
 jn:Nat->Option (Head U)
 kl:Nat->List (Nat×Nat×Nat):=λ_=>[]
 fz:Nat->List Nat:=λ_=>[]
def hid:Code->Nat
 |.region id _ _=>id
 |.seq a _=>hid a
 |.cond _ a _=>hid a
 |.block _ b=>hid b
 |.loop b=>hid b
 |.scope b=>hid b
 |_=>0
def dsts(c:FI U):Code->List Nat
 |.region id ops _=>c.fz id++dstL ops.toList
 |.seq a b=>dsts c a++((match c.jn (hid b)with|some h=>h.vars.map (·.1)|none=>[])++dsts c b)
 |.cond _ a b=>dsts c a++dsts c b
 |.block _ b=>dsts c b
 |.scope b=>dsts c b
 |.loop b=>(match c.hd (hid b)with|some h=>h.vars.map (·.1)|none=>[])++dsts c b
 |_=>[]
def zEs{R:Type}:List Nat->En U->(En U->Option R)->Option R
 |[],_,K=>K []
 |k::r,e,K=>fe (eget e k) λv=>zEs r e λl=>K ((k,v)::l)
theorem zE0{R:Type}:∀(a:List Nat)(e:En U)(K:En U->Option R),zEs a e K=K (a.map λk=>(k,eget e k))
 |[],_,_=>rfl
 |k::r,e,K=>by simp only[zEs,zB6,zE0 r,zV6]
def isAny:T U->Bool
 |.any=>true
 |_=>false
def kr:List Nat->En U->Bool
 |[],_=>true
 |k::r,e=>!(isAny (eget e k))&&kr r e
def zAY:List Nat->List Nat->Bool
 |[],_=>true
 |k::r,l=>!(hasN l k)&&zAY r l
def zipV:List (Nat×SK U)->List (T U)->En U
 |p::r,v::vs=>(p.1,v)::zipV r vs
 |_,_=>[]
def jQ:List (Nat×SK U)->En U->List (T U)
 |[],_=>[]
 |p::r,e=>eget e p.1::jQ r e
def yX:List (Nat×SK U)->List (SK U)
 |[]=>[]
 |p::r=>p.2::yX r
def iter{σ R:Type}:Nat->((σ->Option R)->σ->Option R)->σ->Option R
 |0,_,_=>none
 |n+1,F,s=>F (iter n F) s
def qU{σ R:Type}(F:(σ->Option R)->Option R)(j:σ->Option R):Option R:=F j
def zK6(a b:List Nat):Bool:=a.all λk=>hasN b k
def qT(c:FI U):Code->Bool
 |.seq a b=>(match c.jn (hid b)with|some h=>zAY h.fixed (h.vars.map (·.1)++dsts c a)&&zK6 (h.ptrs.map (·.1)) h.fixed|none=>true)&&(qT c a&&qT c b)
 |.cond _ a b=>qT c a&&qT c b
 |.block _ b=>qT c b
 |.scope b=>qT c b
 |.loop b=>(match c.hd (hid b)with|some h=>zAY h.fixed (h.vars.map (·.1)++dsts c b)&&zK6 (h.ptrs.map (·.1)) h.fixed|none=>true)&&qT c b
 |_=>true
def zEK{R:Type}(h:Head U)(e:En U)(st:St U)(j:zA (yX h.vars)×zA (yX h.ptrs)->Option R):Option R:=
 xu h.vars e st λd a=>feS a λa=>feA (jQ h.ptrs d) λps=>zDD (yX h.ptrs) ps a λc=>feA (jQ h.vars d) λvs=>xI C (yX h.vars) vs c λx b=>feS b λb=>xI C (yX h.ptrs) ps b λy _=>j (x,y)
def zF7{R:Type}(h:Head U)(p:zA (yX h.vars)×zA (yX h.ptrs))(e:En U)(st:St U)(K:List (T U)->St U->Option R):Option R:=
 jy C (yX h.vars) p.1 ⟨[],[],st.nl,st.nx,[]⟩ λvs a=>feS a λa=>feA (jQ h.ptrs e) λps=>zLA C (yX h.ptrs) p.2 ps a λb=>K vs b
variable(Tb:TypeId->TD U)
def feE{R:Type}:En U->(En U->Option R)->Option R
 |[],k=>k []
 |p::r,k=>match p with|(i,x)=>fN i λi=>feE r λa=>k ((i,x)::a)
theorem zM7{R:Type}:∀(l:En U)(k:En U->Option R),feE l k=k l
 |[],_=>rfl
 |(i,x)::r,k=>by simp only[feE,zy,zM7 r]
def told(e:En U)(c:Operand)(t:Bool):En U:=
 match c with
 |.tmp d=>eput e (some d) (.bool t)
 |_=>e
def frzL:List Nat->En U->St U->(En U->St U->Option R)->Option R
 |[],e,st,K=>K e st
 |t::r,e,st,K=>match eget e t with
  |.sl l n=>(match lk st.bx l with
   |some (.ar i xs)=>bif Nat.ble n xs.length then frzL r ((t,.lst (.b false) i (zL n xs))::e) ⟨(l,none)::st.bx,st.tg,st.nl,st.nx,st.ob⟩ K else none
   |_=>none)
  |_=>frzL r e st K
def drun(fu:Nat)(g:Call U R)(i:FI U):Code->En U->St U->(Exit->En U->St U->Option R)->Option R
 |.skip,e,st,k=>k .normal e st
 |.region id ops d,e,st,k=>frzL (i.fz id) e st λe st=>kdOf (bif d then i.kl id else[]) e λp=>dops C Tb g i.wr i.own p (ops.toList.map (·.dst)) ops.toList e st λe' f=>zEs (i.kf id) e' λo=>k .normal o f
 |.seq a b,e,st,k=>
  match i.jn (hid b)with
  |none=>drun fu g i a e st λex e' f=>match ex with|.normal=>drun fu g i b e' f k|ex=>k ex e' f
  |some h=>
   zEs h.fixed e λm=>bif kr h.fixed m then
    qU (λj=>drun fu g i a e st λex e' f=>match ex with
     |.normal=>bif kr h.fixed e' then zEK C h e' f λx=>j x else none
     |ex=>k ex e' f)
     λx=>zF7 C h x e st λvs l=>feE (m++zipV h.vars vs) λe0=>drun fu g i b e0 l k
   else none
 |.cond c a b,e,st,k=>match evT e c with
  |.bool t=>bif t then drun fu g i a (told e c true) st k else drun fu g i b (told e c false) st k
  |_=>none
 |.block id b,e,st,k=>drun fu g i b e st λex e' f=>match ex with
  |.exit n=>bif Nat.beq n id then k .normal e' f else k (.exit n) e' f
  |ex=>k ex e' f
 |.loop b,e,st,k=>
  match i.hd (hid b)with
  |none=>none
  |some h=>
   zEs h.fixed e λm=>bif kr h.fixed m then
    zEK C h e st λq=>
    iter fu (λrec x=>zF7 C h x e st λvs l=>
     feE (m++zipV h.vars vs) λe0=>drun fu g i b e0 l λex e' f=>match ex with
      |.normal=>bif kr h.fixed e' then zEK C h e' f λx=>rec x else none
      |ex=>k ex e' f) q
   else none
 |.exit id,e,st,k=>k (.exit id) e st
 |.ret,e,st,k=>k .ret e st
 |.scope b,e,st,k=>drun fu g i b e st λex e' f=>match ex with|.goto _=>none|ex=>k ex e' f
 |.label _,e,st,k=>k .normal e st
 |_,_,_,_=>none
end
open Go.Al
section
variable{U:TyU}{C:Cod U}{P:Program}{Tb:TypeId->TD U}{R:Type}{r:R}
theorem zSP{X:Cx}{Q:Exit->Env->S->Prop}{c:Code}{α:Type}(I:α->Env->S->Prop)(μ:α->Nat){x₀:α}{E p:Env}{s q:S}(v:I x₀ p q)(y:Gst X E s p q)
 (d:∀x E s,I x E s->awp P X c (zDm (λz A=>∃t m o,I t m o/\μ t<μ x/\Gst X z A m o) Q) E s):awp P X (.loop c) Q E s:=by
 refine zJK y ?_;intro g a w D;refine wpIn_loop_ghost (λn a' w'=>∃x E s g',μ x=n/\I x E s/\Step X.B g w g' w'/\Rel X g' E s a' w') (μ x₀) ⟨x₀,p,q,g,rfl,v,.refl _ _ _,D⟩ ?_;rintro n a1 w1 ⟨x,F,G,H,rfl,J,e,K⟩;refine wpIn_mono (d x F G J H a1 w1 K) ?_;rintro ex L M ⟨f,k,b,h,i,j⟩;cases ex with
 |normal=>
  obtain⟨u,m,o,N,O,T⟩:=j;obtain⟨V,W,Y⟩:=T f L M i;exact⟨μ u,O,u,m,o,V,rfl,N,(e.trans h).trans W,Y⟩
 |exit id=>exact⟨f,k,b,e.trans h,i,j⟩
 |goto l=>exact⟨f,k,b,e.trans h,i,j⟩
 |ret=>exact⟨f,k,b,e.trans h,i,j⟩
 |panic c=>exact⟨f,k,b,e.trans h,i,j⟩
 |outgrown=>exact⟨f,k,b,e.trans h,i,j⟩
theorem hasN_iff{l:List Nat}{t:Nat}:hasN l t=true↔t∈l:=by
 refine⟨zDW,λh=>?_⟩
 induction l with
 |nil=>simp at h
 |cons k r a=>
  simp only[hasN];by_cases e:k=t
  .have:Nat.beq k t=true:=by simpa using e
   simp[this]
  .simp only[yy e,zWH];rcases zWB.1 h with h|h
   .exact absurd h.symm e
   .exact a h
theorem zAh:∀{a l:List Nat},zAY a l=true->∀k∈a,k∉l
 |[],_,_,k,b=>by simp at b
 |x::r,l,h,k,b=>by
  simp only[zAY,zV5,zXE]at h;rcases zWB.1 b with rfl|b
  .intro c;have:=hasN_iff.2 c;rw[this]at h;simp at h
  .exact zAh h.2 k b
theorem zDt:∀{f v w:List Nat},zAY f (v++w)=true->zAY f v=true
 |[],_,_,_=>rfl
 |a::r,v,w,h=>by
  simp only[zAY,zV5,zXE]at h ⊢;refine⟨?_,zDt h.2⟩;cases b:hasN v a with
  |false=>rfl
  |true=>
   have:=hasN_iff.2 (zXV w (hasN_iff.1 b));rw[this]at h;simp at h
theorem zAn:∀{a:List Nat}{e:En U},kr a e=true->∀k∈a,eget e k≠.any
 |[],_,_,k,b=>by simp at b
 |x::r,e,h,k,b=>by
  simp only[kr,zV5,zXE]at h;rcases zWB.1 b with rfl|b
  .intro c;rw[c]at h;simp[isAny]at h
  .exact zAn h.2 k b
theorem qd(a:List Nat)(e:En U)(k:Nat):eget (a.map λk=>(k,eget e k)) k=if k∈a then eget e k else .any:=by
 induction a with
 |nil=>rfl
 |cons x r c=>
  simp only[zV6,eget];by_cases b:x=k
  .subst b;have:Nat.beq x x=true:=by simp
   simp[this]
  .simp only[yy b,zWH,c,zWB];have:¬k=x:=λe=>b e.symm;simp[this]
theorem zRJ(a:List Nat)(E:Env)(k:Nat):(ji a E).get k=if k∈a then E.get k else .any:=by
 induction a with
 |nil=>rfl
 |cons x r c=>
  simp only[ji,zV6,Env.get];by_cases b:x=k
  .subst b;simp
  .have d:¬k=x:=λe=>b e.symm;simp only[if_neg b,zWB,d,false_or];exact c
theorem ESim.keep{N:NM}{st:St U}{e:En U}{E:Env}(h:ESim C N st e E)(a:List Nat):ESim C N st (a.map λk=>(k,eget e k)) (ji a E):=λk=>by
 rw[qd,zRJ];split
 .exact h k
 .exact⟨.inl rfl,rfl⟩
theorem zDw(a b:En U)(k:Nat):eget (a++b) k=if k∈a.map (·.1)then eget a k else eget b k:=by
 induction a with
 |nil=>simp
 |cons p r d=>
  simp only[zWY,eget,zV6,zWB];by_cases c:p.1=k
  .have:Nat.beq p.1 k=true:=by simpa using c
   simp[this,c]
  .have f:¬k=p.1:=λe=>c e.symm;simp only[yy c,zWH,d,f,false_or]
theorem SSim.reBox{N:NM}{st:St U}{s:S}(c:SSim C N st s){l:Nat}{bx:Bx U}(f:l<st.nl)(g:¬Has N st (.inr (N.bl l)))(t:Al.look s.box (N.bl l)=some (trB C N l bx))(u:wfB C N st.nl st.nx l bx) :
 SSim C N ⟨(l,some bx)::st.bx,st.tg,st.nl,st.nx,st.ob⟩ s:=by
 have a:∀{j b},lk ((l,some bx)::st.bx) j=some b->(j=l/\b=bx)\/(j≠l/\lk st.bx j=some b):=λ{j b} h=>by
  rw[xj]at h;split at h
  .rename_i e;injection h with h;exact .inl ⟨e.symm,h.symm⟩
  .rename_i e;exact .inr ⟨λe'=>e e'.symm,h⟩
 have d:∀j b,lk st.bx j=some b->N.bl j≠N.bl l:=λj b h e=>g ⟨j,b,h,e⟩;refine⟨λj b h=>?_,λj b h=>?_,λj b h=>?_,λj k b m v w i=>?_,c.tgIn,c.tgInj,c.tgLt,c.nm,c.ob⟩
 .rcases a h with⟨rfl,rfl⟩|⟨_,h⟩
  .exact t
  .exact c.box j b h
 .rcases a h with⟨rfl,rfl⟩|⟨_,h⟩
  .exact f
  .exact c.lt j b h
 .rcases a h with⟨rfl,rfl⟩|⟨_,h⟩
  .exact u
  .exact c.wf j b h
 .rcases a v with⟨n,x⟩|⟨_,o⟩<;>rcases a w with⟨p,y⟩|⟨_,q⟩
  .rw[n,p]
  .subst n;exact absurd i.symm (d k m q)
  .subst p;exact absurd i (d j b o)
  .exact c.inj j k b m o q i
theorem zQR{N:NM}{st:St U}{l:Nat}{bx:Bx U}{y:Res}(h:Has N ⟨(l,some bx)::st.bx,st.tg,st.nl,st.nx,st.ob⟩ y):y=.inr (N.bl l)\/Has N st y:=by
 cases y with
 |inl n=>exact .inr h
 |ob b=>exact .inr h
 |inr b=>
  obtain⟨j,x,d,c⟩:=h;have a:lk ((l,some bx)::st.bx) j=some x:=d;rw[xj]at a;split at a
  .rename_i e;subst e;exact .inl (by rw[c])
  .exact .inr ⟨j,x,a,c⟩
theorem zOp(I:CodOk C){r:R}:∀(k:SK U)(x:denK k)(t:T U){N:NM}{st:St U}{s:S}{rs:List Res}{K:St U->Option R},SSim C N st s->VK C s k x (trT C N t) rs->rs.Nodup->(∀y∈rs,¬Has N st y)->bdd st.nl st.nx t=true->putB C k x t st K=some r ->
 ∃N' i,K i=some r/\Turn N st N' i/\SSim C N' i s/\(∀y,Has N' i y->Has N st y\/y∈rs)
 |.box cs,x,t,N,st,s,rs,K,e,c,f,d,g,h=>by
  simp only[putB]at h;cases t with
  |ptr l o=>
   simp only at h;simp only[VK]at c;obtain⟨b,vs,J,a,L,M,rfl⟩:=c;obtain⟨v,w⟩:=zXx.1 f;obtain⟨D,vs',O,Q,m,V,E,W,F⟩:=qw I cs x e M w (λy z=>d y (by simp[z])) h;obtain⟨G,n⟩:=zN Q;rw[xE]at n;simp only[zV5]at G;obtain⟨⟨A,X⟩,B⟩:=G;have p:=yh B;simp only[trT]at a;injection a with a
   injection a with a
   injection a with a
   injection a with Y _ _
   have j:D.bl l=b:=(m.ext.bl l p).trans Y;have u:vs'.length=vs.length:=by have:=zWp List.length E;simpa using this
   refine⟨D,_,n,⟨m.ext,m.nl,m.nx⟩,V.reBox (zWN p m.nl) (λH=>?_) (by rw[j];simp only[trB];rw[E,u];exact L) ⟨W,A⟩,λy z=>?_⟩
   .rw[j]at H;rcases F _ H with q|q
    .exact d _ (by simp) q
    .exact v q
   .rcases zQR z with q|q
    .rw[j]at q;exact .inr (by rw[q];simp)
    .rcases F _ q with q|q
     .exact .inl q
     .exact .inr (by simp[q])
  |_=>simp at h
 |.int _,x,t,N,st,s,rs,K,e,c,f,d,g,h=>by simp[putB]at h
 |.bool,x,t,N,st,s,rs,K,e,c,f,d,g,h=>by simp[putB]at h
 |.str,x,t,N,st,s,rs,K,e,c,f,d,g,h=>by simp[putB]at h
 |.dl _,x,t,N,st,s,rs,K,e,c,f,d,g,h=>by simp[putB]at h
 |.bl _,x,t,N,st,s,rs,K,e,c,f,d,g,h=>by simp[putB]at h
 |.ow _ _,x,t,N,st,s,rs,K,e,c,f,d,g,h=>by simp[putB]at h
 |.arr _,x,t,N,st,s,rs,K,e,c,f,d,g,h=>by simp[putB]at h
 |.st _,x,t,N,st,s,rs,K,e,c,f,d,g,h=>by simp[putB]at h
 |.mc1 _,x,t,N,st,s,rs,K,e,c,f,d,g,h=>by simp[putB]at h
 |.fn _,x,t,N,st,s,rs,K,e,c,f,d,g,h=>by simp[putB]at h
 |.ag _,x,t,N,st,s,rs,K,e,c,f,d,g,h=>by simp[putB]at h
theorem zMN(w:CodOk C){r:R}:∀(l:List (SK U))(x:zA l)(a:List (T U)){N:NM}{st:St U}{s:S}{rs:List Res}{K:St U->Option R},SSim C N st s->VKs C s l x (a.map (trT C N)) rs->rs.Nodup->(∀y∈rs,¬Has N st y)->bdds st.nl st.nx a=true->zIb C l x a st K=some r ->
 ∃N' b,K b=some r/\Turn N st N' b/\SSim C N' b s/\(∀y,Has N' b y->Has N st y\/y∈rs)
 |[],x,a,N,st,s,rs,K,g,i,z,j,d,h=>by
  cases a with
  |nil=>exact⟨N,st,h,.refl _ _,g,λy c=>.inl c⟩
  |cons t a=>cases h
 |k::e,x,a,N,st,s,rs,K,g,i,z,j,d,h=>by
  cases a with
  |nil=>cases h
  |cons t a=>
   simp only[zIb]at h;simp only[VKs,zV6]at i;obtain⟨v,vs',Z,r2,B,rfl,D,E⟩:=i;injection B with F G
   subst F;simp only[bdds,zV5]at d;obtain⟨m,n,o⟩:=zXI.1 z;obtain⟨H,I,J,f,L,A⟩:=zOp w k x.1 t g D m (λy c=>j y (by simp[c])) d.1 h;have M:a.map (trT C H)=a.map (trT C N):=yx f.ext d.2;obtain⟨O,p,Q,V,W,X⟩:=zMN w e x.2 a L (by rw[M,G];exact E) n (λy c Y=>by
    rcases A y Y with q|q
    .exact j y (by simp[c]) q
    .exact o y q y c rfl) (yr f.nl f.nx _ d.2) J
   refine⟨O,p,Q,f.trans V,W,λy c=>?_⟩;rcases X y c with q|q
   .rcases A y q with u|u
    .exact .inl u
    .exact .inr (by simp[u])
   .exact .inr (by simp[q])
theorem zMg{nl nx:Nat}:∀{vs:List (T U)},bdds nl nx vs=true->∀v∈vs,bdd nl nx v=true
 |[],_,v,a=>by simp at a
 |x::r,h,v,a=>by
  simp only[bdds,zV5]at h;rcases zWB.1 a with rfl|a
  .exact h.1
  .exact zMg h.2 v a
def szOk(C:Cod U)(N:NM):SK U->T U->Prop
 |.arr i,.sl l _=>N.sz l=C.cells i
 |_,_=>True
theorem zT3{N N':NM}{nl nx:Nat}(h:Ext nl nx N N'):∀(k:SK U)(t:T U),bdd nl nx t=true->szOk C N' k t->szOk C N k t:=λk t b a=>by
 unfold szOk at a ⊢;split
 .simp only[bdd]at b;simp only at a;rw[<-h.sz _ (yh b)];exact a
 .trivial
theorem zOX{N N':NM}{nl nx:Nat}(h:Ext nl nx N N'):∀(k:SK U)(t:T U),bdd nl nx t=true->szOk C N k t->szOk C N' k t:=λk t b a=>by
 unfold szOk at a ⊢;split
 .simp only[bdd]at b;simp only at a;rw[h.sz _ (yh b)];exact a
 .trivial
theorem zV2(d:CodOk C){N:NM}{st:St U}{s:S}(a:SSim C N st s):∀(k:SK U)(v:T U){K:denK k->St U->Option R},getK C k v st K=some r->szOk C N k v:=λk v K h=>by
 unfold szOk;split
 .simp only[getK]at h;split at h
  .rename_i b;have c:=xt h;obtain⟨rfl,_⟩:=c;exact(a.wf _ _ b).1
  .cases h
 .trivial
theorem zLP(f:CodOk C):∀(l:List (SK U)){N:NM}{st:St U}{s:S}{vs:List (T U)}{vs':List V}{K:zA l->St U->Option R},SSim C N st s->vs'.length=vs.length->(∀(j:Nat)(x:T U)(v:V),vs[j]?=some x->vs'[j]?=some v->VR C N x v)->xI C l vs st K=some r ->
 ∀(j:Nat)(k:SK U)(v:T U),l[j]?=some k->vs[j]?=some v->szOk C N k v
 |[],N,st,s,vs,vs',K,g,i,m,h,j,k,v,c,_=>by simp at c
 |k0::d,N,st,s,vs,vs',K,g,i,m,h,j,k,v,c,e=>by
  simp only[xI,xE]at h;cases vs with
  |nil=>cases h
  |cons o vs=>
   cases vs' with
   |nil=>simp at i
   |cons n vs'=>
    simp only at h;cases j with
    |zero=>
     injection c with c
     injection e with e
     subst c e;exact zV2 f g k0 o h
    |succ j=>
     obtain⟨x,p,u,q,t,w,y,z,A,B,D⟩:=zJh f k0 g (m 0 o n rfl rfl) h;exact zLP f d (vs:=vs) (vs':=vs') t (by simpa using i) (λj x v a b=>m (j+1) x v (by simpa using a) (by simpa using b)) q j k v (by simpa using c) (by simpa using e)
theorem zVA(w:CodOk C){r:R}:∀(k:SK U)(x:denK k)(t:T U){N:NM}{st:St U}{s:S}{rs:List Res}{K:St U->Option R},SSim C N st s->VK C s k x (trT C N t) rs->rs.Nodup->(∀y∈rs,¬Has N st y)->bdd st.nl st.nx t=true->szOk C N k t->putP C k x t st K=some r ->
 ∃N' g,K g=some r/\Turn N st N' g/\SSim C N' g s/\(∀y,Has N' g y->Has N st y\/y∈rs)
 |.box cs,x,t,N,st,s,rs,K,a,c,e,d,f,_,h=>zOp w (.box cs) x t a c e d f h
 |.arr i,x,t,N,st,s,rs,K,a,c,e,d,f,z,h=>by
  simp only[putP]at h;cases t with
  |nil=>
   cases x with
   |none=>exact⟨N,st,h,.refl _ _,a,λy o=>.inl o⟩
   |some ys=>simp[z8]at h
  |sl l n=>
   cases x with
   |none=>simp[z8]at h
   |some ys=>
    simp only[z8]at h;obtain⟨A,u⟩:=zN h;rw[xE]at u;have p:=yh A;simp only[VK]at c;obtain⟨b,cap,j,B,D,rfl⟩:=c;simp only[trT]at j;injection j with j
    injection j with m F v
    injection m with m
    injection m with m _ _
    refine⟨N,_,u,⟨.refl _ _ _,zV7 _,zV7 _⟩,a.reBox p (λE=>d (.inr b) (by simp) (by rw[<-m];exact E)) (by rw[m];simp only[trB];rw[v];exact D) ⟨z,by rw[v];exact B⟩,λy o=>?_⟩;rcases zQR o with q|q
    .rw[m]at q;exact .inr (by rw[q];simp)
    .exact .inl q
  |_=>simp at h
 |.int _,x,t,N,st,s,rs,K,a,c,e,d,f,_,h=>by simp[putP]at h
 |.bool,x,t,N,st,s,rs,K,a,c,e,d,f,_,h=>by simp[putP]at h
 |.str,x,t,N,st,s,rs,K,a,c,e,d,f,_,h=>by simp[putP]at h
 |.dl _,x,t,N,st,s,rs,K,a,c,e,d,f,_,h=>by simp[putP]at h
 |.bl _,x,t,N,st,s,rs,K,a,c,e,d,f,_,h=>by simp[putP]at h
 |.ow _ _,x,t,N,st,s,rs,K,a,c,e,d,f,_,h=>by simp[putP]at h
 |.st _,x,t,N,st,s,rs,K,a,c,e,d,f,_,h=>by simp[putP]at h
 |.mc1 _,x,t,N,st,s,rs,K,a,c,e,d,f,_,h=>by simp[putP]at h
 |.fn _,x,t,N,st,s,rs,K,a,c,e,d,f,_,h=>by simp[putP]at h
 |.ag _,x,t,N,st,s,rs,K,a,c,e,d,f,_,h=>by simp[putP]at h
theorem zMH(B:CodOk C){r:R}:∀(l:List (SK U))(x:zA l)(a:List (T U)){N:NM}{st:St U}{s:S}{rs:List Res}{K:St U->Option R},SSim C N st s->VKs C s l x (a.map (trT C N)) rs->rs.Nodup->(∀y∈rs,¬Has N st y)->bdds st.nl st.nx a=true->(∀(j:Nat)(k:SK U)(v:T U),l[j]?=some k->a[j]?=some v->szOk C N k v)->zLA C l x a st K=some r ->
 ∃N' b,K b=some r/\Turn N st N' b/\SSim C N' b s/\(∀y,Has N' b y->Has N st y\/y∈rs)
 |[],x,a,N,st,s,rs,K,i,m,D,n,d,_,h=>by
  cases a with
  |nil=>exact⟨N,st,h,.refl _ _,i,λy c=>.inl c⟩
  |cons t a=>cases h
 |k::e,x,a,N,st,s,rs,K,i,m,D,n,d,E,h=>by
  cases a with
  |nil=>cases h
  |cons t a=>
   simp only[zLA]at h;simp only[VKs,zV6]at m;obtain⟨v,vs',r1,r2,G,rfl,H,I⟩:=m;injection G with J L
   subst J;simp only[bdds,zV5]at d;obtain⟨o,p,u⟩:=zXI.1 D;obtain⟨M,O,Q,f,V,F⟩:=zVA B k x.1 t i H o (λy c=>n y (by simp[c])) d.1 (E 0 k t rfl rfl) h;have W:a.map (trT C M)=a.map (trT C N):=yx f.ext d.2;obtain⟨X,w,Y,Z,q5,q6⟩:=zMH B e x.2 a V (by rw[W,L];exact I) p (λy c hh=>by
    rcases F y hh with q|q
    .exact n y (by simp[c]) q
    .exact u y q y c rfl) (yr f.nl f.nx _ d.2) (λj k' v' hk g=>by
     have z:bdd st.nl st.nx v'=true:=zMg d.2 v' (zXy g);exact zOX f.ext _ _ z (E (j+1) k' v' (by simpa using hk) (by simpa using g))) Q
   refine⟨X,w,Y,f.trans Z,q5,λy c=>?_⟩;rcases q6 y c with q|q
   .rcases F y q with A|A
    .exact .inl A
    .exact .inr (by simp[A])
   .exact .inr (by simp[q])
theorem zCE(d:CodOk C):∀(q:List (SK U))(g:List (T U)){N:NM}{st:St U}{s:S}{K:St U->Option R},SSim C N st s->zDD q g st K=some r ->
 ∃N' b p,K b=some r/\Gs s p/\Turn N st N' b/\SSim C N' b p
 |[],g,N,st,s,K,f,h=>⟨N,st,s,h,.refl _,.refl _ _,f⟩
 |k::a,g,N,st,s,K,f,h=>by
  simp only[zDD]at h;split at h
  .cases h
  .split at h
   .split at h
    .simp only[xE]at h;obtain⟨L,t,u,v,w,x,y,_⟩:=zAE (e:=[]) (E:=[]) d _ 0 f (λk=>⟨.inl rfl,rfl⟩) h;obtain⟨i,c,j,m,o,z,A⟩:=zCE d a _ y v;exact⟨i,c,j,m,w.trans o,x.trans z,A⟩
    .cases h
   .split at h
    .exact zCE d a _ f h
    .rename_i l n;split at h
     .rename_i B xs D;rw[xE]at h;obtain⟨u,m,o⟩:=zHk d f (n:=n) D;have F:Turn N st N ⟨(l,some (.ar B (zL n xs)))::st.bx,st.tg,st.nl,st.nx,st.ob⟩:=⟨.refl _ _ _,zV7 _,zV7 _⟩;obtain⟨i,c,j,G,H,I,J⟩:=zCE d a _ o h;exact⟨i,c,j,G,m.trans H,F.trans I,J⟩
     .cases h
    .cases h
   .cases h
theorem zPa{a b:List Nat}(h:zK6 a b=true):∀k∈a,k∈b:=λk c=>zDW (zWL.1 h k c)
def HI(C:Cod U)(N0:NM)(h:Head U)(a:En U)(x:zA (yX h.vars)×zA (yX h.ptrs))(E:Env)(s:S):Prop:=
 (∃b c,VKs C s (yX h.vars) x.1 (h.vars.map λp=>E.get p.1) b/\VKs C s (yX h.ptrs) x.2 (h.ptrs.map λp=>E.get p.1) c/\(b++c).Nodup)/\(∀k∈h.fixed,E.get k=trT C N0 (eget a k))/\∀p∈h.ptrs,szOk C N0 p.2 (eget a p.1)
theorem jU:∀(a:List (Nat×SK U))(e:En U),jQ a e=a.map λp=>eget e p.1
 |[],_=>rfl
 |p::r,e=>by simp[jQ,jU r]
theorem zGG:∀(a:List (Nat×SK U)),yX a=a.map λp=>p.2
 |[]=>rfl
 |p::r=>by simp[yX,zGG r]
theorem zHe{N:NM}{st:St U}{e:En U}{E:Env}(f:ESim C N st e E)(c:List (Nat×SK U)):∀(i:Nat)(x:T U)(v:V),(jQ c e)[i]?=some x->(c.map λp=>E.get p.1)[i]?=some v->VR C N x v:=λi x v a b=>by
 rw[jU,zWM]at a;rw[zWM]at b;cases d:c[i]? with
 |none=>rw[d]at a;cases a
 |some p=>
  rw[d]at a b;injection a with a
  injection b with b
  subst a;subst b;exact(f p.1).1
theorem zHs(g:CodOk C){X:Cx}{N0 N:NM}{st0 st:St U}{e0 e:En U}{E:Env}{s:S}{h:Head U}(z:Turn N0 st0 N st)(O:SSim C N st s)(Q:ESim C N st e E)
 (n:∀k∈h.fixed,bdd st0.nl st0.nx (eget e0 k)=true) (t:∀k∈h.fixed,eget e k≠.any) (i:∀k∈h.fixed,eget e k=eget e0 k) (l:zAY h.fixed (h.vars.map (·.1))=true) {j:zA (yX h.vars)×zA (yX h.ptrs)->Option R}
 (A:zEK C h e st j=some r) :
 ∃x B D,j x=some r/\Gst X E s B D/\HI C N0 h (h.fixed.map λk=>(k,eget e0 k)) x B D:=by
 unfold zEK at A;obtain⟨N1,f,T,o,s1,F,V,G,W,Y,H⟩:=zAZ (X:=X) g h.vars O Q A;simp only[zB9,xE]at F;obtain⟨Z,I,u,n1,n2,v,n4⟩:=zCE g _ _ W F;have c:=Y.turn v;obtain⟨x,aa,r1,J,K,p3,p4,p5,p6,p7,p8⟩:=jF g (yX h.vars) (vs:=jQ h.vars f) (vs':=h.vars.map λp=>o.get p.1) n4 (by simp[jU]) (zHe c _) n1;obtain⟨y,ab,r2,k1,k2,k3,k4,k5,k6,k7,k8⟩:=jF g (yX h.ptrs) (vs:=jQ h.ptrs f) (vs':=h.ptrs.map λp=>o.get p.1) K (by simp[jU]) (zHe c _) J;have w:=zLP g (yX h.ptrs) (vs:=jQ h.ptrs f) (vs':=h.ptrs.map λp=>o.get p.1) K (by simp[jU]) (zHe c _) J;refine⟨(x,y),o,u,k1,V.trans n2.gst,⟨r1,r2,p5,k5,zXI.2 ⟨p6,k6,λa ha b n e=>by subst e;exact(p7 a ha).2 (k7 a n).1⟩⟩,λk d=>?_,λp m=>?_⟩
 rotate_left
 .rw[qd];split
  .rename_i d;have q:eget f p.1=eget e p.1:=H p.1 λp' m e'=>zAh l p.1 d (zWa.2 ⟨p',m,e'⟩);obtain⟨j,L⟩:=List.getElem?_of_mem m;have M:=w j p.2 (eget f p.1) (by rw[zGG,zWM,L];rfl) (by rw[jU,zWM,L];rfl);rw[q,i p.1 d]at M;exact zT3 (z.trans (G.trans v)).ext _ _ (n p.1 d) M
  .unfold szOk;split
   .rename_i h;cases h
   .trivial
 have q:eget f k=eget e k:=H k λp m e'=>zAh l k d (zWa.2 ⟨p,m,e'⟩);rw[qd,if_pos d,<-zC4 C ((z.trans (G.trans v)).ext) _ (n k d),<-i k d,<-q];exact(c k).1.get (by rw[q];exact t k d)
theorem zOy{N:NM}{E:Env}:∀{a:List (Nat×SK U)}{vs:List (T U)},vs.map (trT C N)=a.map (λp=>E.get p.1)->∀k,VR C N (eget (zipV a vs) k) (E.get k)
 |[],vs,h,k=>by cases vs<;>exact .inl rfl
 |p::b,[],h,k=>.inl rfl
 |p::b,v::vs,h,k=>by
  simp only[zV6,zXe]at h;simp only[zipV,eget];by_cases c:p.1=k
  .have:Nat.beq p.1 k=true:=by simpa using c
   simp only[this,zWQ];exact .inr (by rw[<-c,h.1])
  .simp only[yy c,zWH];exact zOy h.2 k
theorem zNF{nl nx:Nat}:∀{a:List (Nat×SK U)}{vs:List (T U)},bdds nl nx vs=true->∀k,bdd nl nx (eget (zipV a vs) k)=true
 |[],vs,h,k=>by cases vs<;>rfl
 |p::b,[],h,k=>rfl
 |p::b,v::vs,h,k=>by
  simp only[bdds,zV5]at h;simp only[zipV,eget];by_cases c:p.1=k
  .have:Nat.beq p.1 k=true:=by simpa using c
   simp only[this,zWQ];exact h.1
  .simp only[yy c,zWH];exact zNF h.2 k
theorem SSim.empty(N:NM)(nl nx:Nat)(s:S):SSim C N (⟨[],[],nl,nx,[]⟩:St U) s:=
 ⟨λl b h=>by simp[lk]at h,λl b h=>by simp[lk]at h,λl b h=>by simp[lk]at h,λl a b c h=>by simp[lk]at h,λt h=>by simp at h,λt h=>by simp at h,λt h=>by simp at h,λt h=>by simp at h,⟨λl o h=>by simp[lko]at h,λl o h=>by simp[lko]at h,λl o h=>by simp[lko]at h,λl a o o' h=>by simp[lko]at h⟩⟩
theorem zMq(W:CodOk C){N0:NM}{st0:St U}{e0:En U}{E:Env}{s:S}{h:Head U}{x:zA (yX h.vars)×zA (yX h.ptrs)}(hi:HI C N0 h (h.fixed.map λk=>(k,eget e0 k)) x E s)
 (G:∀k∈h.fixed,bdd st0.nl st0.nx (eget e0 k)=true) (z:zK6 (h.ptrs.map (·.1)) h.fixed=true) {K:List (T U)->St U->Option R} (f:zF7 C h x e0 st0 K=some r) :
 ∃N vs st,K vs st=some r/\Turn N0 st0 N st/\SSim C N st s/\ESim C N st ((h.fixed.map λk=>(k,eget e0 k))++zipV h.vars vs) E:=by
 obtain⟨⟨r1,r2,h1,J,h2⟩,X,H⟩:=hi;obtain⟨L,M,O⟩:=zXI.1 h2;unfold zF7 at f;have A:∀y,¬Has N0 (⟨[],[],st0.nl,st0.nx,[]⟩:St U) y:=λy f=>by
  cases y with
  |inl n=>obtain⟨t,u,_⟩:=f;simp at u
  |inr b=>obtain⟨l,b,w,_⟩:=f;simp[lk]at w
  |ob b=>obtain⟨l,b,w,_⟩:=f;simp[lko]at w
 obtain⟨Y,vs,i,Z,m,q3,q4,q5,q6⟩:=qw W (yX h.vars) x.1 (SSim.empty N0 st0.nl st0.nx s) h1 L (λy hy f=>A y f) f;simp only[zB9,xE]at Z;have e:∀p∈h.ptrs,p.1∈h.fixed:=λp c=>zPa z _ (zWa.2 ⟨p,c,rfl⟩);have B:bdds st0.nl st0.nx (jQ h.ptrs e0)=true:=by
  rw[jU];have Q:∀l:List (Nat×SK U),(∀p∈l,bdd st0.nl st0.nx (eget e0 p.1)=true)->bdds st0.nl st0.nx (l.map λp=>eget e0 p.1)=true:=λl=>by
   induction l with
   |nil=>intro _;rfl
   |cons a l ih=>intro w;simp only[zV6,bdds,w a (by simp),ih λp z=>w p (by simp[z]),zWJ]
  exact Q _ λp c=>G _ (e p c)
 have D:bdds i.nl i.nx (jQ h.ptrs e0)=true:=yr m.nl m.nx _ B;have ev:(jQ h.ptrs e0).map (trT C Y)=h.ptrs.map λp=>E.get p.1:=by
  rw[yx m.ext B,jU,zXD];exact zWx λp c=>by
   have:=X p.1 (e p c);rw[qd,if_pos (e p c)]at this;exact this.symm
 obtain⟨N,st,p1,I,p3,p4⟩:=zMH W (yX h.ptrs) x.2 (jQ h.ptrs e0) q3 (by rw[ev];exact J) M (λy hy f=>by
  rcases q6 y f with q|q
  .exact A y q
  .exact O y q y hy rfl) D (λj k v g F=>by
   rw[zGG,zWM]at g;rw[jU,zWM]at F;cases o:h.ptrs[j]? with
   |none=>rw[o]at g;cases g
   |some p=>
    rw[o]at g F;injection g with g
    injection F with F
    subst g F;have V:=zXy o;have h5:=H p V;rw[qd,if_pos (e p V)]at h5;exact zOX m.ext _ _ (G _ (e p V)) h5) Z
 have u:Turn N0 st0 N st:=(⟨m.ext,m.nl,m.nx⟩:Turn N0 st0 Y i).trans I;refine⟨N,vs,st,p1,u,p3,λk=>?_⟩;rw[zDw];split
 .rename_i g;have d:k∈h.fixed:=by
   obtain⟨p,z,rfl⟩:=zWa.1 g;obtain⟨k',d,rfl⟩:=zWa.1 z;exact d
  have H:=X k d;rw[qd,if_pos d]at H ⊢;exact⟨.inr (by rw[H,zC4 C u.ext _ (G k d)]),zBu u.nl u.nx _ (G k d)⟩
 .exact⟨zOy (by rw[yx I.ext q5];exact q4) k,zNF (yr I.nl I.nx _ q5) k⟩
def Fr(ds:List Nat)(e e':En U):Prop:=∀j,j∉ds->eget e' j=eget e j\/eget e' j=.any
theorem Fr.refl(ds:List Nat)(e:En U):Fr ds e e:=λ_ _=>.inl rfl
theorem Fr.trans{ds:List Nat}{e a b:En U}(h:Fr ds e a)(h':Fr ds a b):Fr ds e b:=λj c=>by
 rcases h' j c with q|q
 .rw[q];exact h j c
 .exact .inr q
theorem Fr.mono{ds a:List Nat}{e e':En U}(h:Fr ds e e')(b:∀j∈ds,j∈a):Fr a e e':=λj c=>h j λd=>c (b j d)
def qE(pf rf:FuncId->Bool)(c:FI U)(n:NF):Code->Bool
 |.region id ops d=>zEA n ops.toList&&(!d||(Region.lexB .any ops&&zF2 ⟨pf,c.wr,c.own,rf,(c.kl id).map λp=>(p.1,p.2.1),λ_=>[]⟩ ops.toList))
 |.seq a b=>qE pf rf c n a&&qE pf rf c n b
 |.cond _ a b=>qE pf rf c n a&&qE pf rf c n b
 |.block _ b=>qE pf rf c n b
 |.loop b=>qE pf rf c n b
 |.scope b=>qE pf rf c n b
 |_=>true
theorem zOe{N:NM}{st:St U}{e:En U}{E:Env}(j:ESim C N st e E):∀(l:List (Nat×Nat×Nat)){K:KD->Option R},kdOf l e K=some r->∃f,K f=some r/\(∀p∈l,∃q,(p.1,p.2.1,q)∈f)/\∀d u q,(d,u,q)∈f->q<st.nl
 |[],K,h=>⟨[],h,λp k=>(by cases k),λd u q b=>(by cases b)⟩
 |p::l,K,h=>by
  simp only[kdOf]at h;split at h
  .rename_i q o m;obtain⟨f,n,s,t⟩:=zOe j l h;refine⟨_,n,λv a=>?_,λd u g b=>?_⟩
   .rcases zWB.1 a with rfl|a
    .exact⟨q,zWr ..⟩
    .obtain⟨g,i⟩:=s v a;exact⟨g,zWU _ i⟩
   .rcases zWB.1 b with c|b
    .injection c with _ c
     injection c with _ c
     subst c;have:=(j p.2.2).2;rw[m]at this;exact yh this
    .exact t d u g b
  .cases h
theorem zN1{h:Head U}{e0:En U}{vs:List (T U)}{k:Nat}(c:k∉h.vars.map (·.1)):eget ((h.fixed.map λk=>(k,eget e0 k))++zipV h.vars vs) k=eget e0 k\/eget ((h.fixed.map λk=>(k,eget e0 k))++zipV h.vars vs) k=.any:=by
 rw[zDw];split
 .rename_i f;have b:k∈h.fixed:=by
   obtain⟨p,g,rfl⟩:=zWa.1 f;obtain⟨j,b,rfl⟩:=zWa.1 g;exact b
  rw[qd,if_pos b];exact .inl rfl
 .right;have:∀(a:List (Nat×SK U))(vs:List (T U)),k∉a.map (·.1)->eget (zipV a vs) k=.any:=λa=>by
   induction a with
   |nil=>intro vs _;cases vs<;>rfl
   |cons p d i=>
    intro vs c;simp only[zV6,zWB,not_or]at c;cases vs with
    |nil=>rfl
    |cons v vs=>
     simp only[zipV,eget,yy (λe=>c.1 e.symm),zWH];exact i vs c.2
  exact this _ _ c
theorem zN6{N:NM}{st:St U}{e:En U}{E:Env}(a:ESim C N st e E){c:Operand}{t:Bool}(i:evT e c=.bool t):ESim C N st (told e c t) E/\∀j,eget (told e c t) j=eget e j:=by
 cases c with
 |tmp d=>
  have h:∀j,eget (told e (.tmp d) t) j=eget e j:=λj=>by
   simp only[told,eput,eget];by_cases b:d=j
   .subst b;have:Nat.beq d d=true:=by simp
    simp only[this,zWQ];exact i.symm
   .simp only[yy b,zWH]
  exact⟨λj=>by rw[h j];exact a j,h⟩
 |const v=>exact⟨a,λ_=>rfl⟩
 |global g=>exact⟨a,λ_=>rfl⟩
 |func f=>exact⟨a,λ_=>rfl⟩
theorem zJ0(f:CodOk C){X:Cx}{N:NM}:∀(rs:List Nat){e:En U}{E:Env}{st:St U}{s:S}{K:En U->St U->Option R},SSim C N st s->ESim C N st e E->frzL rs e st K=some r ->
 ∃e' c a d,K e' a=some r/\Gst X E s c d/\Turn N st N a/\SSim C N a d/\ESim C N a e' c/\Fr rs e e'
 |[],e,E,st,s,K,g,k,h=>⟨e,E,st,s,h,.refl _ _ _,.refl _ _,g,k,.refl _ _⟩
 |t::rs,e,E,st,s,K,g,k,h=>by
  have go:frzL rs e st K=some r->∃e' c a d,K e' a=some r/\Gst X E s c d/\Turn N st N a/\SSim C N a d/\ESim C N a e' c/\Fr (t::rs) e e':=λu=>by
   obtain⟨e',c,a,d,w,z,m,A,B,D⟩:=zJ0 f rs g k u;exact⟨e',c,a,d,w,z,m,A,B,D.mono λj p=>zWU _ p⟩
  simp only[frzL]at h;split at h
  .rename_i l n M;split at h
   .rename_i i xs F;obtain⟨G,Q⟩:=zN h;have G:n<=xs.length:=by simpa [zXw]using G
    have V:=g.wf l _ F;have O:=((k t).1).get (by rw[M];simp);rw[M]at O;have o:=xZ f i xs;have H:(zL n xs).length=n:=by unfold zL;rw[zWT];omega
    have W:Gst X E s (E.put t (.lst .no ((zL n xs).map (C.encV i)))) ⟨wipe s.box (N.bl l),s.tg,s.nx,s.ob⟩:=by
     refine zHA t (N.bl l) n (N.cp l) (C.cells i) _ O (g.box l _ F) (by rw[zWG,H]) (by have:=V.2;omega) (j7 f i xs n) ?_ (ky f i _) ?_ ?_
     .rw[o];exact zWt _ G
     .intro x Y;obtain⟨y,_,rfl⟩:=zWa.1 Y;exact f.ones i y
     .rw[zXD];exact zWx λy _=>f.untag i y
    have I:=g.drop l F;have Z:bdd st.nl st.nx (T.lst (.b false) i (zL n xs):T U)=true:=rfl;have J:ESim C N ⟨(l,none)::st.bx,st.tg,st.nl,st.nx,st.ob⟩ ((t,.lst (.b false) i (zL n xs))::e) (E.put t (.lst .no ((zL n xs).map (C.encV i)))):=by
     have:=ESim.put (st:=⟨(l,none)::st.bx,st.tg,st.nl,st.nx,st.ob⟩) (e:=e) (E:=E) (v:=.lst (.b false) i (zL n xs)) (v':=.lst .no ((zL n xs).map (C.encV i))) k (.inr rfl) Z (some t);exact this
    obtain⟨e',c,a,d,w,z,m,A,B,D⟩:=zJ0 f rs I J Q;refine⟨e',c,a,d,w,W.trans z,⟨m.ext,m.nl,m.nx⟩,A,B,λj p=>?_⟩;rcases D j (λu=>p (zWU _ u))with q|q
    .refine .inl (q.trans ?_);have L:t≠j:=λe1=>p (by rw[e1];exact zWr ..);simp only[eget,yy L,zWH]
    .exact .inr q
   .cases h
  .exact go h
theorem qu(hT:TbOk C P Tb)(O:CodOk C)(M:P.follows .mixedOrders=true){X:Cx}{pf rf:FuncId->Bool}{v:FI U}{V:Call U R}{PP:List PanicEntry->Prop}(g:∀kl kb,zD5 C P ⟨pf,v.wr,v.own,rf,kl,kb⟩ V r PP){fu:Nat} :
 ∀(c:Code){N:NM}{e:En U}{st:St U}{E:Env}{s:S}{k:Exit->En U->St U->Option R}{Q:Exit->Env->S->Prop},SSim C N st s->ESim C N st e E->drun C Tb fu V v c e st k=some r->qE pf rf v X.N c=true->qT v c=true->(∀c s,PP c->Q (.panic c) [] s) ->
  (∀ex N' e' f H I,k ex e' f=some r->Turn N st N' f->SSim C N' f I->ESim C N' f e' H->Fr (dsts v c) e e'->Q ex H I)->awp P X c Q E s
 |.skip,N,e,st,E,s,k,Q,y,o,h,_,_,_,w=>zd (w _ _ _ _ _ _ h (.refl _ _) y o (.refl _ _))
 |.exit id,N,e,st,E,s,k,Q,y,o,h,_,_,_,w=>zh (w _ _ _ _ _ _ h (.refl _ _) y o (.refl _ _))
 |.ret,N,e,st,E,s,k,Q,y,o,h,_,_,_,w=>zo (w _ _ _ _ _ _ h (.refl _ _) y o (.refl _ _))
 |.region id ops d,N,e,st,E,s,k,Q,y,o,h,i,_,m,w=>by
  simp only[drun]at h;obtain⟨e0,E0,st0,s0,h,ah,ai,y,o,aj⟩:=zJ0 (X:=X) O (v.fz id) y o h;refine zJK ah ?_;replace w:∀ex N' e' f H I,k ex e' f=some r->Turn N st0 N' f->SSim C N' f I->ESim C N' f e' H->Fr (dstL ops.toList) e0 e'->Q ex H I:=λex N' e' f H I a1 a2 a3 a4 a5=>
   w ex N' e' f H I a1 (ai.trans a2) a3 a4 ((aj.mono λj z=>zXV _ z).trans (a5.mono λj z=>zXj _ z))
  clear ah ai aj;simp only[qE,zV5]at i;obtain⟨ops⟩:=ops;have ak:∀(Y:KD) kl kb,dops C Tb V v.wr v.own Y (ops.map (·.dst)) ops e0 st0 (λe' f=>zEs (v.kf id) e' λar=>k .normal ar f)=some r->(∀d u q,(d,u,q)∈Y->q<st0.nl)->(∀p∈kl,∃q,(p.1,p.2,q)∈Y)->(∀d b,b∈kb d↔∃u q,(d,u,q)∈Y/\N.bl q=b)->AL P ⟨pf,v.wr,v.own,rf,kl,kb⟩ (ops.map (·.dst)) (λc s=>Q (.panic c) [] s) ops (λH I=>Q .normal (ji (v.kf id) H) I) E0 s0:=λY kl kb h0 ae B J=>by
   refine zOY (L:=⟨pf,v.wr,v.own,rf,kl,kb⟩) hT O (g kl kb) m y o ⟨B,λd b hb=>(J d b).1 hb,λd u q M=>⟨(J d _).2 ⟨u,q,M,rfl⟩,ae d u q M⟩⟩ h0 ?_;intro N' e' f H I D h2 Z K h5;simp only[zE0]at D;refine w _ _ _ _ _ _ D h2 Z (K.keep _) λj z=>?_;rw[qd];split
   .exact .inl (h5 j z)
   .exact .inr rfl
  cases d with
  |false=>
   exact zp ⟨pf,v.wr,v.own,rf,[],λ_=>[]⟩ v.kf _ rfl i.1 (ak [] [] (λ_=>[]) h (λd u q M=>by cases M) (λp G=>by cases G) (λd b=>⟨λhb=>(by cases hb),λ⟨u,q,M,_⟩=>(by cases M)⟩))
  |true=>
   obtain⟨Y,h0,au,ae⟩:=zOe o _ h;have h2:=i.2;simp only[zYR,zYg,zV5]at h2;have al:∀p∈(v.kl id).map (λp=>(p.1,p.2.1)),∃q,(p.1,p.2,q)∈Y:=λp G=>by
    obtain⟨p',av,rfl⟩:=zWa.1 G;exact au p' av
   have am:=h2.2;generalize(v.kl id).map (λp=>(p.1,p.2.1))=klp at al am;obtain⟨aa,aw⟩:∃aa:Nat->List Nat,∀d b,b∈aa d↔∃u q,(d,u,q)∈Y/\N.bl q=b:=by
    refine⟨λd=>Y.filterMap λp=>if p.1=d then some (N.bl p.2.2)else none,λd b=>?_⟩;show b∈(Y.filterMap λp=>if p.1=d then some (N.bl p.2.2)else none)↔_;rw[zX1];constructor
    .rintro⟨⟨d',u,q⟩,Z,K⟩;simp only at K;split at K
     .rename_i e1;subst e1;injection K with K;exact⟨u,q,Z,K⟩
     .cases K
    .rintro⟨u,q,Z,K⟩;exact⟨_,Z,by simp[K]⟩
   have ax:zF2 ⟨pf,v.wr,v.own,rf,klp,aa⟩ ops=true:=am;exact zi ⟨pf,v.wr,v.own,rf,klp,aa⟩ M v.kf _ rfl i.1 h2.1 ax (ak Y klp aa h0 ae al aw)
 |.seq a b,N,e,st,E,s,k,Q,y,o,h,i,l,m,w=>by
  simp only[drun]at h;simp only[qE,zV5]at i;simp only[qT,zV5]at l;refine zn ?_;split at h
  .rename_i z;refine qu hT O M g a y o h i.1 l.2.1 (λc s G=>m c s G) ?_;intro ex N' e' f H I D h2 Z K h5;have an:Fr (dsts v (.seq a b)) e e':=h5.mono λj z=>by simp only[dsts];simp[z]
   cases ex<;>simp only at D<;>first|exact w _ _ _ _ _ _ D h2 Z K an|skip
   show awp P X b Q H I;refine qu hT O M g b Z K D i.2 l.2.2 (λc s G=>m c s G) ?_;intro ex N2 e2 ad E2 s2 B J T q4 q5;exact w _ _ _ _ _ _ B (h2.trans J) T q4 (an.trans (q5.mono λj z=>by simp only[dsts];simp[z]))
  .rename_i A z;have D:=l.1;rw[z]at D;simp only[zV5]at D;obtain⟨D,af⟩:=D;rw[zE0]at h;obtain⟨Z,K⟩:=zN h;clear h;unfold qU at K;have ag:=zAh D;have W:∀k∈A.fixed,bdd st.nl st.nx (eget e k)=true:=λk _=>(o k).2;refine qu hT O M g a y o K i.1 l.2.1 (λc s G=>m c s G) ?_;intro ex N' e' f H I h5 h6 h7 h8 h9;have ay:Fr (dsts v (.seq a b)) e e':=h9.mono λj z=>by simp only[dsts];simp[z]
   cases ex<;>simp only at h5<;>first|exact w _ _ _ _ _ _ h5 h6 h7 h8 ay|skip
   show awp P X b Q H I;obtain⟨az,aA⟩:=zN h5;have ab:=zAn az;obtain⟨x,E2,s2,B,J,T⟩:=zHs (X:=X) (N0:=N) (st0:=st) (e0:=e) (h:=A) O h6 h7 h8 W ab (λk hk=>by
    rcases h9 k (λhh=>ag k hk (by simp[hh]))with q|q
    .exact q
    .exact absurd q (ab k hk)) (zDt D) aA
   refine zJK J ?_;obtain⟨N2,vs,ad,p1,p2,p3,p4⟩:=zMq O T W af B;rw[zM7]at p1;refine qu hT O M g b p3 p4 p1 i.2 l.2.2 (λc s G=>m c s G) ?_;intro ex N3 e3 aB E3 s3 r1 r2 r3 r4 r5;refine w _ _ _ _ _ _ r1 (p2.trans r2) r3 r4 λj ac=>?_;have hv:j∉A.vars.map (·.1):=λhh=>ac (by simp only[dsts,z];simp only[zWe];exact .inr (.inl hh));rcases r5 j (λhh=>ac (by simp only[dsts];simp[hh]))with q|q
   .rw[q];exact zN1 hv
   .exact .inr q
 |.cond c a b,N,e,st,E,s,k,Q,y,o,h,i,l,m,w=>by
  simp only[drun]at h;simp only[qE,zV5]at i;simp only[qT,zV5]at l;split at h
  .rename_i t ht;have D:=o.ev c;rw[ht]at D;refine qP (D.get (by simp)) (λe1=>?_) (λe1=>?_)
   .subst e1;obtain⟨t1,t2⟩:=zN6 o ht;exact qu hT O M g a y t1 h i.1 l.1 (λc s G=>m c s G) λex N' e' f H I B J T q4 q5=>w _ _ _ _ _ _ B J T q4 λj z=>by
     rw[<-t2 j];exact(q5.mono λj z=>by simp only[dsts];simp[z]) j z
   .subst e1;obtain⟨t1,t2⟩:=zN6 o ht;exact qu hT O M g b y t1 h i.2 l.2 (λc s G=>m c s G) λex N' e' f H I B J T q4 q5=>w _ _ _ _ _ _ B J T q4 λj z=>by
     rw[<-t2 j];exact(q5.mono λj z=>by simp only[dsts];simp[z]) j z
  .cases h
 |.block id b,N,e,st,E,s,k,Q,y,o,h,i,l,m,w=>by
  simp only[drun]at h;refine zZ (qu hT O M g b y o h (by simpa only[qE]using i) (by simpa only[qT]using l) (λc s G=>m c s G) ?_);intro ex N' e' f H I B J T q4 q5;cases ex<;>simp only at B<;>first|exact w _ _ _ _ _ _ B J T q4 q5|skip
  rename_i ao;simp only[zDG];by_cases e1:ao=id
  .have:Nat.beq ao id=true:=by simpa using e1
   rw[if_pos e1];simp only[this,zWQ]at B;exact w _ _ _ _ _ _ B J T q4 q5
  .rw[if_neg e1];simp only[yy e1,zWH]at B;exact w _ _ _ _ _ _ B J T q4 q5
 |.loop b,N,e,st,E,s,k,Q,y,o,h,i,l,m,w=>by
  simp only[drun]at h;simp only[qE]at i;simp only[qT,zV5]at l;split at h
  .cases h
  .rename_i A z;have D:=l.1;rw[z]at D;simp only[zV5]at D;obtain⟨D,af⟩:=D;rw[zE0]at h;obtain⟨Z,K⟩:=zN h;clear h;have ag:=zAh D;have W:∀k∈A.fixed,bdd st.nl st.nx (eget e k)=true:=λk _=>(o k).2;have ap:∀k∈A.fixed,eget e k≠.any:=λk hk=>by
    have:=zAn Z k hk
    rwa [qd,if_pos hk]at this
   have aq:zAY A.fixed (A.vars.map (·.1))=true:=zDt D;obtain⟨x,E2,s2,B,J,T⟩:=zHs (X:=X) (N0:=N) (st0:=st) (e0:=e) (h:=A) O (.refl _ _) y o W ap (λ_ _=>rfl) aq K;generalize hF:(λ(rec:zA (yX A.vars)×zA (yX A.ptrs)->Option R)(x:zA (yX A.vars)×zA (yX A.ptrs))=>zF7 C A x e st λvs ad=>
    feE ((A.fixed.map λk=>(k,eget e k))++zipV A.vars vs) λe0=>drun C Tb fu V v b e0 ad λex e' f=>match ex with
     |.normal=>bif kr A.fixed e' then zEK C A e' f λx=>rec x else none
     |ex=>k ex e' f)=F at B
   refine zSP (λ(p:Nat×(zA (yX A.vars)×zA (yX A.ptrs))) H I=>HI C N A (A.fixed.map λk=>(k,eget e k)) p.2 H I/\iter p.1 F p.2=some r) (λp=>p.1) (x₀:=(fu,x)) ⟨T,B⟩ J ?_;rintro⟨n,x1⟩ E1 s1 ⟨hi,hr⟩;simp only at hi hr;cases n with
   |zero=>simp[iter]at hr
   |succ n=>
    simp only[iter]at hr;rw[<-hF]at hr;obtain⟨N2,vs,ad,p1,p2,p3,p4⟩:=zMq O hi W af hr;rw[zM7]at p1;refine qu hT O M g b p3 p4 p1 i l.2 (λc s G=>m c s G) ?_;intro ex N3 e3 aB E3 s3 r1 r2 r3 r4 r5;have aC:Fr (dsts v (.loop b)) e e3:=λj ac=>by
     have hv:j∉A.vars.map (·.1):=λhh=>ac (by simp only[dsts,z];simp only[zWe];exact .inl hh);rcases r5 j (λhh=>ac (by simp only[dsts];simp[hh]))with q|q
     .rw[q];exact zN1 hv
     .exact .inr q
    cases ex<;>simp only at r1<;>first|exact w _ _ _ _ _ _ r1 (p2.trans r2) r3 r4 aC|skip
    obtain⟨t1,t2⟩:=zN r1;have ab:=zAn t1;obtain⟨x3,E4,s4,u1,u2,u3⟩:=zHs (X:=X) (N0:=N) (st0:=st) (e0:=e) (h:=A) O (p2.trans r2) r3 r4 W ab (λk hk=>by
     rcases r5 k (λhh=>ag k hk (by simp[hh]))with q|q
     .rw[q,zDw,if_pos (by simp[hk]),qd,if_pos hk]
     .exact absurd q (ab k hk)) aq t2
    show∃x' E2 s2,_/\_/\_;exact⟨(n,x3),E4,s4,⟨u3,by rw[hF]at u1;exact u1⟩,zXk _,u2⟩
 |.rangeFunc _ _ _ _,N,e,st,E,s,k,Q,y,o,h,_,_,_,_=>by simp[drun]at h
 |.scope b,N,e,st,E,s,k,Q,y,o,h,i,l,m,w=>by
  simp only[drun]at h;refine zSE (qu hT O M g b y o h (by simpa only[qE]using i) (by simpa only[qT]using l) (λc s G=>m c s G) ?_);intro ex N' e' f H I B J T q4 q5;cases ex<;>simp only at B<;>first|exact w _ _ _ _ _ _ B J T q4 q5|cases B
 |.label _,N,e,st,E,s,k,Q,y,o,h,_,_,_,w=>by
  simp only[drun]at h;exact zR3 (w _ _ _ _ _ _ h (.refl _ _) y o (.refl _ _))
 |.goto _,N,e,st,E,s,k,Q,y,o,h,_,_,_,_=>by simp[drun]at h
 |.refuse _,N,e,st,E,s,k,Q,y,o,h,_,_,_,_=>by simp[drun]at h
end
open Go.Al
inductive AK(U:TyU) where
 |int (k:IntKind)
 |bool
 |str
 |ls (i:U.I)
 |dl (i:U.I)
 |bl (i:U.I)
 |st (i:U.I)
 |err
def denA{U:TyU}:AK U->Type
 |.int _=>Int
 |.bool=>Bool
 |.str=>List UInt8
 |.ls i=>List (U.den i)
 |.dl i=>List (U.den i)
 |.bl i=>Bool×List (U.den i)
 |.st i=>U.den i
 |.err=>Bool
def zS{U:TyU}:List (AK U)->Type
 |[]=>Unit
 |a::r=>denA a×zS r
structure Con(U:TyU) where
 as:List (AK U)
 rs:List (AK U)
 fn:zS as->Option (zS rs)
structure FD(U:TyU) where
 fi:FI U
 body:Code
 n:Nat
 rs:List ResultVar
section
variable{U:TyU}(C:Cod U)(Tb:TypeId->TD U){R:Type}
def argT:(a:AK U)->Bool->denA a->T U
 |.int k,_,x=>.int k x
 |.bool,_,x=>.bool x
 |.str,_,x=>.str x
 |.ls i,n,x=>.lst (.b n) i x
 |.dl i,_,x=>.lst .dl i x
 |.bl i,_,x=>.lst (.b x.1) i x.2
 |.st i,_,x=>C.enc i x
 |.err,_,x=>bif x then .ifx else .con .nilIface
def xh:(as:List (AK U))->(Nat->Bool)->Nat->zS as->List (T U)
 |[],_,_,_=>[]
 |a::r,b,j,x=>argT C a (b j) x.1::xh r b (j+1) x.2
def argK{R:Type}:(as:List (AK U))->zS as->(List (T U)->Option R)->Option R
 |[],_,K=>K []
 |a::r,x,K=>match a,x with
  |.err,x=>bif x.1 then argK r x.2 λvs=>K (.ifx::vs)else argK r x.2 λvs=>K (.con .nilIface::vs)
  |.int k,x=>argK r x.2 λvs=>K (.int k x.1::vs)
  |.bool,x=>argK r x.2 λvs=>K (.bool x.1::vs)
  |.str,x=>argK r x.2 λvs=>K (.str x.1::vs)
  |.ls i,x=>argK r x.2 λvs=>K (.lst (.b false) i x.1::vs)
  |.dl i,x=>argK r x.2 λvs=>K (.lst .dl i x.1::vs)
  |.bl i,x=>argK r x.2 λvs=>K (.lst (.b x.1.1) i x.1.2::vs)
  |.st i,x=>argK r x.2 λvs=>K (C.enc i x.1::vs)
theorem zEY{R:Type}:∀(as:List (AK U))(x:zS as)(j:Nat)(K:List (T U)->Option R),argK C as x K=K (xh C as (λ_=>false) j x)
 |[],_,_,_=>rfl
 |a::r,x,j,K=>by
  cases a with
  |err=>
   obtain⟨b,xs⟩:=x;cases b with
   |true=>simp only[argK,zWQ,xh,argT,zEY r _ (j+1)]
   |false=>simp only[argK,zWH,xh,argT,zEY r _ (j+1)]
  |_=>simp only[argK,xh,argT,zEY r _ (j+1)]
def ArgV:(a:AK U)->denA a->V->Prop
 |.ls i,x,v=>∃n:Bool,v=.lst (if n then .nil else .no) (x.map (C.encV i))
 |a,x,v=>v=trT C ⟨id,id,id,id⟩ (argT C a false x)
def zDn:(as:List (AK U))->zS as->List V->Prop
 |[],_,vs=>vs=[]
 |a::r,x,vs=>∃v vs',vs=v::vs'/\ArgV C a x.1 v/\zDn r x.2 vs'
def decA:(a:AK U)->T U->(denA a->Option R)->Option R
 |.int k,v,K=>(match v with|.int d n=>bif decide (d=k)then K n else none|_=>none)
 |.bool,v,K=>(match v with|.bool b=>K b|_=>none)
 |.str,v,K=>(match v with|.str s=>K s|_=>none)
 |.ls i,v,K=>(match v with
  |.nil=>K []
  |.lst m j ys=>ke i j ys K
  |_=>none)
 |.dl i,v,K=>(match v with
  |.nil=>K []
  |.lst m j ys=>ke i j ys λxs=>(match m with
   |.dl=>K xs
   |.b n=>bif (bif n then xs.isEmpty else !xs.isEmpty)then K xs else none
   |.ow _ c=>bif c then K xs else bif !xs.isEmpty then K xs else none)
  |_=>none)
 |.bl i,v,K=>(match v with
  |.nil=>K (true,[])
  |.lst m j ys=>ke i j ys λxs=>(match m with
   |.dl=>K (xs.isEmpty,xs)
   |.b n=>K (n,xs)
   |.ow _ c=>bif c then K (xs.isEmpty,xs)else K (false,xs))
  |_=>none)
 |.st i,v,K=>C.dec i v K
 |.err,v,K=>(match v with
  |.ifx=>K true
  |.con v=>bif zD7 v then K false else none
  |_=>none)
def zDj:(as:List (AK U))->List (T U)->(zS as->Option R)->Option R
 |[],vs,K=>(match vs with|[]=>K ()|_::_=>none)
 |a::r,vs,K=>(match vs with
  |[]=>none
  |v::vs=>decA C a v λx=>zDj r vs λxs=>K (x,xs))
def finT:List (T U)->T U
 |[]=>.tup []
 |x::r=>match r with
  |[]=>x
  |_::_=>.tup (x::r)
def dres(e:En U)(st:St U):List ResultVar->(List (T U)->Option R)->Option R
 |[],K=>K []
 |v::r,K=>match v with
  |.tmp t=>fe (eget e t) λv=>bif yR v.flat then dres e st r λvs=>K (v::vs)else none
  |.cell p t=>zK3 C Tb st t (eget e p) λv=>fe v λv=>bif yR v.flat then dres e st r λvs=>K (v::vs)else none
def zDo:Nat->List (T U)->En U
 |_,[]=>[]
 |n,x::xs=>(n,x)::zDo (n+1) xs
def getR{R:Type}:(k:SK U)->T U->(denK k->Option R)->Option R
 |.int k,v,K=>decA C (.int k) v K
 |.bool,v,K=>decA C .bool v K
 |.str,v,K=>decA C .str v K
 |.dl i,v,K=>decA C (.dl i) v K
 |.bl i,v,K=>decA C (.bl i) v K
 |.st i,v,K=>decA C (.st i) v K
 |.ow _ _,_,_=>none
 |.arr _,_,_=>none
 |.box _,_,_=>none
 |.mc1 _,_,_=>none
 |.fn _,_,_=>none
 |.ag _,_,_=>none
def zGf{R:Type}:(l:List (SK U))->List (T U)->(zA l->Option R)->Option R
 |[],vs,K=>(match vs with|[]=>K ()|_::_=>none)
 |k::r,vs,K=>(match vs with
  |[]=>none
  |v::vs=>getR C k v λx=>zGf r vs λxs=>K (x,xs))
def zBz{R:Type}:(l:List (SK U))->zA l->(List (T U)->Option R)->Option R
 |[],_,K=>K []
 |k::r,x,K=>match k,x with
  |.int k,x=>zBz r x.2 λvs=>K (.int k x.1::vs)
  |.bool,x=>zBz r x.2 λvs=>K (.bool x.1::vs)
  |.str,x=>zBz r x.2 λvs=>K (.str x.1::vs)
  |.dl i,x=>zBz r x.2 λvs=>K (.lst .dl i x.1::vs)
  |.bl i,x=>zBz r x.2 λvs=>K (.lst (.b x.1.1) i x.1.2::vs)
  |.st i,x=>zBz r x.2 λvs=>K (C.enc i x.1::vs)
  |_,_=>none
structure CP(U:TyU) where
 io:List (SK U)
 oo:List (SK U)
 as:List (SK U)
 rs:List (SK U)
 fn:{R:Type}->zA io->zA as->Option R->(zA oo->zA rs->Option R)->Option R
structure CR(U:TyU) where
 as:List (SK U)
 rs:List (SK U)
 fn:{R:Type}->zA as->(zA rs->Option R)->Option R
def zID(st:St U):List Nat->Bool
 |[]=>true
 |l::r=>(match lk st.bx l with|some _=>true|none=>false)&&zID st r
def zQC(c:CP U)(args:List (T U))(h:List Nat)(st:St U)(e:Option R)(k:T U->St U->Option R):Option R:=
 feL (args.take c.io.length) λa1=>feL (args.drop c.io.length) λi=>
 (bif h.isEmpty then zDD c.io a1 st else λK=>K st) λst0=>
 xI C c.io a1 st0 λx d=>feS d λd=>xI C c.as i d λa b=>feS b λb=>
 bif zID b h then c.fn x a e λy z=>zIb C c.oo y a1 b λf=>jy C c.rs z f λvs g=>k (finT vs) g else none
def zPh(c:CR U)(args:List (T U))(st:St U)(k:T U->St U->Option R):Option R:=
 xI C c.as args st λx _=>c.fn x λy=>zBz C c.rs y λvs=>k (finT vs) st
def zCe(fu:Nat)(inl:Nat->Option (FD U))(orc:Nat->Option (Con U))(orr:Nat->Option (CR U))(orp:Nat->Option (CP U))(e:Option R):Nat->Call U R
 |0,_,_,_,_,_=>none
 |d+1,f,args,g,st,k=>
  bif Nat.ble 1000000 f then bif Nat.ble 2000000 f then(match orc (f-2000000)with
   |some _=>none
   |none=>match orr (f-2000000)with
    |some _=>none
    |none=>match inl (f-2000000)with
     |some b=>bif Nat.ble args.length b.n&&g.isEmpty then
      drun C Tb fu (zCe fu inl orc orr orp e d) b.fi b.body (zDo 0 args) st λex e' a=>match ex with
       |.normal=>dres C Tb e' a b.rs λvs=>k (finT vs) a
       |.ret=>dres C Tb e' a b.rs λvs=>k (finT vs) a
       |_=>none
      else none
     |none=>none)else(match orc f with
   |some c=>zDj C c.as args λx=>Option.bind (c.fn x) λy=>argK C c.rs y λvs=>k (finT vs) st
   |none=>none)else
  match orc f with
  |some c=>zDj C c.as args λx=>Option.bind (c.fn x) λy=>argK C c.rs y λvs=>k (finT vs) st
  |none=>
   match orr f with
   |some c=>zPh C c args st k
   |none=>
    match orp f with
    |some c=>zQC C c args g st e k
    |none=>
     match inl f with
     |some b=>bif Nat.ble args.length b.n&&g.isEmpty then
      drun C Tb fu (zCe fu inl orc orr orp e d) b.fi b.body (zDo 0 args) st λex e' a=>match ex with
       |.normal=>dres C Tb e' a b.rs λvs=>k (finT vs) a
       |.ret=>dres C Tb e' a b.rs λvs=>k (finT vs) a
       |_=>none
      else none
     |none=>none
def runP(fu d:Nat)(inl:Nat->Option (FD U))(orc:Nat->Option (Con U))(orr:Nat->Option (CR U))(orp:Nat->Option (CP U))(c:FD U)(f e as rs:List (SK U))(x:zA f)(a:zA as):Option (Option (zA e×zA rs)):=
 jy C f x ⟨[],[],0,0,[]⟩ λvs st=>feS st λst=>jy C as a st λg st=>feS st λst=>feA (vs++g) λh=>
 drun C Tb fu (zCe C Tb fu inl orc orr orp (some none) d) c.fi c.body (zDo 0 h) st λex e' b=>match ex with
  |.normal=>dres C Tb e' b c.rs λus=>zGf C rs us λz=>xI C e vs b λy _=>some (some (y,z))
  |.ret=>dres C Tb e' b c.rs λus=>zGf C rs us λz=>xI C e vs b λy _=>some (some (y,z))
  |_=>none
variable{C Tb}{P:Program}{r:R}
structure FDOk(P:Program)(pf rf:FuncId->Bool)(f:Nat)(fd:FD U):Prop where
 fn:∃fn,P.funcs[f]?=some fn/\fn.body=some fd.body/\fn.ntmps=fd.n/\fn.results=fd.rs.toArray
 code:zU P f=true
 ok:qE pf rf fd.fi ⟨fd.n,[]⟩ fd.body=true
 hok:qT fd.fi fd.body=true
def ConOk(C:Cod U)(P:Program)(f:Nat)(c:Con U):Prop:=∀x y,c.fn x=some y->∀vs,zDn C c.as x vs->PureF P f vs (finV ((xh C c.rs (λ_=>false) 0 y).map (trT C ⟨id,id,id,id⟩)))
def MOk(C:Cod U)(P:Program)(m:String)(c:Con U):Prop:=∀x y,c.fn x=some y->∀v vs,zDn C c.as x (v::vs)->∃t u g,v=.at (.iface t u)/\resM P t m=some g/\zU P g=true/\okV u=true/\PureF P g (cV u::vs) (finV ((xh C c.rs (λ_=>false) 0 y).map (trT C ⟨id,id,id,id⟩)))
def OrcOk(C:Cod U)(P:Program)(f:Nat)(c:Con U):Prop:=(f<1000000->zU P f=true/\ConOk C P f c)/\∀m,mIx m=f->MOk C P m c
theorem OrcOk.of{P:Program}{f:Nat}{c:Con U}(h:zU P f=true/\ConOk C P f c)(a:Nat.blt f 1000000=true):OrcOk C P f c:=
 ⟨λ_=>h,λm b=>absurd (zQc m) (by have:=yh a;omega)⟩
theorem zTJ(b:CodOk C)(a:AK U)(n:Bool)(x:denA a):bdd 0 0 (argT C a n x)=true:=by
 cases a<;>first|rfl|exact b.bd _ _|(cases x<;>rfl)
theorem zDe(b:CodOk C):∀(as:List (AK U))(c:Nat->Bool)(j:Nat)(x:zS as),bdds 0 0 (xh C as c j x)=true
 |[],_,_,_=>rfl
 |a::r,c,j,x=>by simp only[xh,bdds,zTJ b,zDe b r,zWJ]
theorem zR6(a:CodOk C)(N N':NM){l:List (T U)}(h:bdds 0 0 l=true):l.map (trT C N')=l.map (trT C N):=
 yx (nl:=0) (nx:=0) ⟨λ_ h=>by omega,λ_ h=>by omega,λ_ h=>by omega,λ_ h=>by omega⟩ h
theorem zBy(g:CodOk C):∀(a:AK U){v:T U}{K:denA a->Option R},decA C a v K=some r->∃x,K x=some r/\∀N,ArgV C a x ((trT C N v).untag)
 |.int k,v,K,h=>by
  simp only[decA]at h;split at h
  .obtain⟨c,d⟩:=zN h;simp only[zWV]at c;subst c;exact⟨_,d,λN=>rfl⟩
  .cases h
 |.bool,v,K,h=>by
  simp only[decA]at h;split at h
  .exact⟨_,h,λN=>rfl⟩
  .cases h
 |.str,v,K,h=>by
  simp only[decA]at h;split at h
  .exact⟨_,h,λN=>rfl⟩
  .cases h
 |.ls i,v,K,h=>by
  simp only[decA]at h;split at h
  .exact⟨_,h,λN=>⟨true,rfl⟩⟩
  .rename_i m j ys;have e:=xt h;clear h;obtain⟨rfl,h⟩:=e;simp only[kZ]at h;refine⟨_,h,λN=>?_⟩;cases m with
   |b n=>cases n with
    |false=>exact⟨false,rfl⟩
    |true=>exact⟨true,rfl⟩
   |dl=>cases ys with
    |nil=>exact⟨true,rfl⟩
    |cons y ys=>exact⟨false,rfl⟩
   |ow t f=>cases f with
    |false=>exact⟨false,rfl⟩
    |true=>cases ys with
     |nil=>exact⟨true,rfl⟩
     |cons y ys=>exact⟨false,rfl⟩
  .cases h
 |.dl i,v,K,h=>by
  simp only[decA]at h;split at h
  .exact⟨_,h,λN=>rfl⟩
  .rename_i m j ys;have e:=xt h;clear h;obtain⟨rfl,h⟩:=e;simp only[kZ]at h;split at h
   .refine⟨_,h,λN=>?_⟩;cases ys<;>rfl
   .rename_i n;obtain⟨c,d⟩:=zN h;refine⟨_,d,λN=>?_⟩;cases n<;>cases ys<;>simp at c<;>rfl
   .rename_i t f;cases f with
    |true=>exact⟨_,h,λN=>rfl⟩
    |false=>
     simp only[zWH]at h;obtain⟨c,d⟩:=zN h;refine⟨_,d,λN=>?_⟩;cases ys<;>simp at c
     rfl
  .cases h
 |.bl i,v,K,h=>by
  simp only[decA]at h;split at h
  .exact⟨_,h,λN=>rfl⟩
  .rename_i m j ys;have e:=xt h;clear h;obtain⟨rfl,h⟩:=e;simp only[kZ]at h;split at h
   .refine⟨_,h,λN=>?_⟩;cases ys<;>rfl
   .rename_i n;refine⟨_,h,λN=>?_⟩;cases n<;>rfl
   .rename_i t f;cases f with
    |true=>refine⟨_,h,λN=>?_⟩;cases ys<;>rfl
    |false=>exact⟨_,h,λN=>rfl⟩
  .cases h
 |.st i,v,K,h=>by
  simp only[decA]at h;obtain⟨x,c,d⟩:=g.dec i _ _ _ h;exact⟨x,c,λN=>by show _=trT C _ (C.enc i x);rw[g.enc,d]⟩
 |.err,v,K,h=>by
  simp only[decA]at h;split at h
  .exact⟨true,h,λN=>rfl⟩
  .obtain⟨c,d⟩:=zN h;have l:=zB1 c;subst l;exact⟨false,d,λN=>rfl⟩
  .cases h
theorem zEl(c:CodOk C):∀(as:List (AK U)){vs:List (T U)}{K:zS as->Option R},zDj C as vs K=some r->∃x,K x=some r/\∀N,zDn C as x ((vs.map (trT C N)).map V.untag)
 |[],vs,K,h=>by
  cases vs with
  |nil=>exact⟨_,h,λN=>rfl⟩
  |cons _ _=>cases h
 |a::b,vs,K,h=>by
  cases vs with
  |nil=>cases h
  |cons v vs=>
   simp only[zDj]at h;obtain⟨x,d,e⟩:=zBy c a h;obtain⟨xs,f,g⟩:=zEl c b d;exact⟨_,f,λN=>⟨_,_,rfl,e N,g N⟩⟩
theorem zCt(N:NM)(vs:List (T U)):finV (vs.map (trT C N))=trT C N (finT vs):=by
 match vs with
 |[]=>rfl
 |[x]=>rfl
 |x::y::r=>simp[finV,finT,trT,yd]
theorem zA7{st:St U}{N:NM}:∀(args:List (T U))(n:Nat),bdds st.nl st.nx args=true->ESim C N st (zDo n args) (jh n (args.map (trT C N)))
 |[],n,_,k=>⟨.inl rfl,rfl⟩
 |x::xs,n,h,k=>by
  simp only[bdds,zV5]at h;simp only[zDo,eget,zV6,jh,Env.get];by_cases e:n=k
  .subst e;have:Nat.beq n n=true:=by simp
   simp only[this,zWQ,zWE];exact⟨.inr rfl,h.1⟩
  .simp only[yy e,zWH,if_neg e];exact zA7 xs (n+1) h.2 k
theorem zE3(g:TbOk C P Tb)(i:CodOk C){N:NM}{st:St U}{s:S}{e:En U}{E:Env}(j:SSim C N st s)(d:ESim C N st e E):∀(rs:List ResultVar){K:List (T U)->Option R}{G:List V->Prop},dres C Tb e st rs K=some r ->
 (∀vs,K vs=some r->G (vs.map (trT C N)))->xo P rs E s G
 |[],K,G,h,f=>f [] h
 |v::a,K,G,h,f=>by
  cases v with
  |tmp t=>
   simp only[dres,zB6]at h;obtain⟨b,k⟩:=zN h;have l:eget e t≠.any:=λe'=>by rw[e']at b;simp[T.flat,yR,T.isOne]at b
   simp only[xo];rw[((d t).1).get l,qI];exact⟨(y9 C N _).2 b,zE3 g i j d a k λvs c=>f (_::vs) c⟩
  |cell p t=>
   simp only[dres,zB6]at h;simp only[xo];refine zHl g i j (d p).1 h λv c=>?_;obtain⟨b,k⟩:=zN c;rw[qI];exact⟨(y9 C N _).2 b,zE3 g i j d a k λvs c=>f (_::vs) c⟩
theorem zD6(g:TbOk C P Tb)(i:CodOk C){N:NM}{st:St U}{s:S}{e:En U}{E:Env}(j:SSim C N st s)(d:ESim C N st e E):∀(rs:List ResultVar){K:List (T U)->Option R}{G:List V->Prop},dres C Tb e st rs K=some r ->
 (∀vs,K vs=some r->G ((vs.map (trT C N)).map V.untag))->yk P rs E s G
 |[],K,G,h,f=>f [] h
 |v::a,K,G,h,f=>by
  cases v with
  |tmp t=>
   simp only[dres,zB6]at h;obtain⟨b,k⟩:=zN h;have l:eget e t≠.any:=λe'=>by rw[e']at b;simp[T.flat,yR,T.isOne]at b
   simp only[yk];rw[((d t).1).get l,qI];exact⟨(y9 C N _).2 b,zD6 g i j d a k λvs c=>f (_::vs) c⟩
  |cell p t=>
   simp only[dres,zB6]at h;simp only[yk];refine zHl g i j (d p).1 h λv c=>?_;obtain⟨b,k⟩:=zN c;rw[qI];exact⟨(y9 C N _).2 b,zD6 g i j d a k λvs c=>f (_::vs) c⟩
theorem Sub.refl:∀l:List V,Sub l l
 |[]=>.nil
 |_::r=>.keep (Sub.refl r)
theorem zAt(N:NM):∀{l:List (T U)},qG l=true->((l.map (trT C N)).all λx=>x.flat.all V.isOne)=true
 |[],_=>rfl
 |x::r,h=>by
  simp only[qG,zV5]at h;simp only[zV6,zWK,zV5];refine⟨?_,zAt N h.2⟩;have:=(y9 C N x.flat).2 h.1;rw[<-qI]at this;exact this
theorem zKV{nl nx:Nat}:∀{l:List (T U)},bdds nl nx l=true->∀n,bdds nl nx (l.take n)=true
 |[],_,n=>by simp[bdds]
 |x::r,h,0=>rfl
 |x::r,h,n+1=>by
  simp only[bdds,zV5,zWW]at h ⊢;exact⟨h.1,zKV h.2 n⟩
theorem zDz{nl nx:Nat}:∀{l a:List (T U)},bdds nl nx l=true->bdds nl nx a=true->bdds nl nx (l++a)=true
 |[],_,_,h=>h
 |x::r,a,h,h'=>by
  simp only[bdds,zV5,zWY]at h ⊢;exact⟨h.1,zDz h.2 h'⟩
theorem zBL{s:S}:∀(l:List (SK U))(x:zA l){vs:List V}{rs:List Res},VKs C s l x vs rs->vs.length=l.length
 |[],x,vs,rs,h=>by simp only[VKs]at h;rw[h.1];rfl
 |k::r,x,vs,rs,h=>by
  simp only[VKs]at h;obtain⟨v,vs',b,c,rfl,rfl,d,a⟩:=h;simp[zBL r x.2 a]
def resB(s:S):Res->Option (Nat×List V×Nat)
 |.inr b=>(Al.look s.box b).map λc=>(b,c)
 |_=>none
def resT:Res->Option Nat
 |.inl n=>some n
 |_=>none
def resO(s:S):Res->Option (Nat×OV×List Nat)
 |.ob b=>(zQ s.ob b).map λc=>(b,c)
 |_=>none
def subS(s:S)(rs:List Res):S:=⟨rs.filterMap (resB s),rs.filterMap resT,s.nx,rs.filterMap (resO s)⟩
theorem xp(s:S):∀(rs:List Res)(b:Nat),(.inr b∈rs->Al.look (subS s rs).box b=Al.look s.box b)/\(.inr b∉rs->Al.look (subS s rs).box b=none)
 |[],b=>⟨λh=>(by cases h),λ_=>rfl⟩
 |y::r,b=>by
  obtain⟨d,f⟩:=xp s r b;have i:∀c,Al.look (subS s (.inr c::r)).box b=if c=b then(match Al.look s.box c with|some x=>some x|none=>Al.look (subS s r).box b)else Al.look (subS s r).box b:=λc=>by
   show Al.look (List.filterMap (resB s) (Res.inr c::r)) b=_;rw[zYF];simp only[resB];cases e:Al.look s.box c with
   |none=>simp only[zYJ];split<;>rfl
   |some x=>simp only[zXC];rfl
  cases y with
  |inr c=>
   constructor
   .intro a;rw[i];by_cases e:c=b
    .subst e;rw[if_pos rfl];cases j:Al.look s.box c with
     |some x=>rfl
     |none=>
      by_cases g:Res.inr c∈r
      .simp only;rw[d g,j]
      .simp only;rw[f g]
    .rw[if_neg e];rcases zWB.1 a with q|q
     .injection q with q;exact absurd q.symm e
     .exact d q
   .intro a;have g:Res.inr b∉r:=λq=>a (zWU _ q);rw[i,if_neg (λe=>a (by rw[e];exact zWr ..))];exact f g
  |inl n=>exact⟨λa=>d ((zWB.1 a).resolve_left (λq=>by cases q)),λa=>f λq=>a (zWU _ q)⟩
  |ob n=>exact⟨λa=>d ((zWB.1 a).resolve_left (λq=>by cases q)),λa=>f λq=>a (zWU _ q)⟩
theorem jO(s:S):∀(rs:List Res)(b:Nat),(.ob b∈rs->zQ (subS s rs).ob b=zQ s.ob b)/\(.ob b∉rs->zQ (subS s rs).ob b=none)
 |[],b=>⟨λh=>(by cases h),λ_=>rfl⟩
 |y::r,b=>by
  obtain⟨d,f⟩:=jO s r b;have i:∀c,zQ (subS s (.ob c::r)).ob b=if c=b then(match zQ s.ob c with|some x=>some x|none=>zQ (subS s r).ob b)else zQ (subS s r).ob b:=λc=>by
   show zQ (List.filterMap (resO s) (Res.ob c::r)) b=_;rw[zYF];simp only[resO];cases e:zQ s.ob c with
   |none=>simp only[zYJ];split<;>rfl
   |some x=>simp only[zXC];rfl
  cases y with
  |ob c=>
   constructor
   .intro a;rw[i];by_cases e:c=b
    .subst e;rw[if_pos rfl];cases j:zQ s.ob c with
     |some x=>rfl
     |none=>
      by_cases g:Res.ob c∈r
      .simp only;rw[d g,j]
      .simp only;rw[f g]
    .rw[if_neg e];rcases zWB.1 a with q|q
     .injection q with q;exact absurd q.symm e
     .exact d q
   .intro a;have g:Res.ob b∉r:=λq=>a (zWU _ q);rw[i,if_neg (λe=>a (by rw[e];exact zWr ..))];exact f g
  |inl n=>exact⟨λa=>d ((zWB.1 a).resolve_left (λq=>by cases q)),λa=>f λq=>a (zWU _ q)⟩
  |inr n=>exact⟨λa=>d ((zWB.1 a).resolve_left (λq=>by cases q)),λa=>f λq=>a (zWU _ q)⟩
theorem zD3(s:S)(rs:List Res)(n:Nat):n∈(subS s rs).tg↔.inl n∈rs:=by
 show n∈rs.filterMap resT↔_;simp only[zX1];constructor
 .rintro⟨y,b,a⟩;cases y<;>simp[resT]at a
  subst a;exact b
 .intro h;exact⟨_,h,rfl⟩
def InS(s:S):Res->Prop
 |.inl n=>n∈s.tg
 |.inr b=>∃c,Al.look s.box b=some c
 |.ob b=>∃c,zQ s.ob b=some c
mutual
theorem VK_in{s:S}:∀(k:SK U)(x:denK k){v:V}{rs:List Res},VK C s k x v rs->∀y∈rs,InS s y
 |.int k,x,v,rs,h,y,hy=>by simp only[VK]at h;rw[h.2]at hy;cases hy
 |.bool,x,v,rs,h,y,hy=>by simp only[VK]at h;rw[h.2]at hy;cases hy
 |.str,x,v,rs,h,y,hy=>by simp only[VK]at h;rw[h.2]at hy;cases hy
 |.dl i,x,v,rs,h,y,hy=>by simp only[VK]at h;rw[h.2]at hy;cases hy
 |.bl i,x,v,rs,h,y,hy=>by simp only[VK]at h;rw[h.2]at hy;cases hy
 |.st i,x,v,rs,h,y,hy=>by simp only[VK]at h;rw[h.2]at hy;cases hy
 |.fn _,x,v,rs,h,y,hy=>by simp only[VK]at h;rw[h.2]at hy;cases hy
 |.mc1 i,x,v,rs,h,y,hy=>by
  simp only[VK]at h;obtain⟨b,fp,rfl,h1,rfl⟩:=h;simp only[zW1]at hy;subst hy;exact⟨_,h1⟩
 |.ow nb i,x,v,rs,h,y,hy=>by
  simp only[VK]at h;obtain⟨n,rfl,h1,h2,rfl⟩:=h;simp only[zW1]at hy;subst hy;exact h1
 |.arr i,x,v,rs,h,y,hy=>by
  cases x with
  |none=>simp only[VK]at h;rw[h.2]at hy;cases hy
  |some xs=>
   simp only[VK]at h;obtain⟨b,cap,rfl,h1,h2,rfl⟩:=h;simp only[zW1]at hy;subst hy;exact⟨_,h2⟩
 |.box cs,x,v,rs,h,y,hy=>by
  simp only[VK]at h;obtain⟨b,vs,rs',rfl,h1,h2,rfl⟩:=h;rcases zWB.1 hy with rfl|hy
  .exact⟨_,h1⟩
  .exact jN cs x h2 y hy
 |.ag cs,x,v,rs,h,y,hy=>by
  simp only[VK]at h;obtain⟨vs,rfl,h2⟩:=h;exact jN cs x h2 y hy
theorem jN{s:S}:∀(l:List (SK U))(x:zA l){vs:List V}{rs:List Res},VKs C s l x vs rs->∀y∈rs,InS s y
 |[],x,vs,rs,h,y,hy=>by simp only[VKs]at h;rw[h.2]at hy;cases hy
 |k::r,x,vs,rs,h,y,hy=>by
  simp only[VKs]at h;obtain⟨v,vs',r1,r2,rfl,rfl,h1,h2⟩:=h;rcases zWe.1 hy with hy|hy
  .exact VK_in k x.1 h1 y hy
  .exact jN r x.2 h2 y hy
end
structure Keeps(s s':S)(rs:List Res):Prop where
 box:∀b c,.inr b∈rs->Al.look s.box b=some c->Al.look s'.box b=some c
 ob:∀b c,.ob b∈rs->zQ s.ob b=some c->zQ s'.ob b=some c
 tg:∀n,.inl n∈rs->n∈s.tg->n∈s'.tg
 nx:s.nx<=s'.nx
theorem Keeps.mono{s f:S}{rs a:List Res}(h:Keeps s f rs)(e:∀y∈a,y∈rs):Keeps s f a:=
 ⟨λb c d=>h.box b c (e _ d),λb c d=>h.ob b c (e _ d),λn d=>h.tg n (e _ d),h.nx⟩
theorem zCF(s:S)(rs:List Res):Keeps s (subS s rs) rs:=
 ⟨λb c a d=>((xp s rs b).1 a).trans d,λb c a d=>((jO s rs b).1 a).trans d,λn a _=>(zD3 s rs n).2 a,zV7 _⟩
theorem zAQ(st0 st s:S)(rs:List Res):Keeps s (jj st0 st s) rs:=
 ⟨λb c _ h=>by rw[zDh,h];rfl,λb c _ h=>by rw[zFI,h];rfl,λn _ h=>zXV _ h,zZC _ _⟩
mutual
theorem zT0{s s':S}:∀(k:SK U)(x:denK k){v:V}{rs:List Res},VK C s k x v rs->Keeps s s' rs->VK C s' k x v rs
 |.int k,x,v,rs,h,_=>by simpa only[VK]using h
 |.bool,x,v,rs,h,_=>by simpa only[VK]using h
 |.str,x,v,rs,h,_=>by simpa only[VK]using h
 |.dl i,x,v,rs,h,_=>by simpa only[VK]using h
 |.bl i,x,v,rs,h,_=>by simpa only[VK]using h
 |.st i,x,v,rs,h,_=>by simpa only[VK]using h
 |.fn _,x,v,rs,h,_=>by simpa only[VK]using h
 |.mc1 i,x,v,rs,h,hk=>by
  simp only[VK]at h ⊢;obtain⟨b,fp,rfl,h1,rfl⟩:=h;exact⟨b,fp,rfl,hk.ob b _ (by simp) h1,rfl⟩
 |.ow nb i,x,v,rs,h,hk=>by
  simp only[VK]at h ⊢;obtain⟨n,rfl,h1,h2,rfl⟩:=h;exact⟨n,rfl,hk.tg n (by simp) h1,zWN h2 hk.nx,rfl⟩
 |.arr i,x,v,rs,h,hk=>by
  cases x with
  |none=>simpa only[VK]using h
  |some xs=>
   simp only[VK]at h ⊢;obtain⟨b,cap,rfl,h1,h2,rfl⟩:=h;exact⟨b,cap,rfl,h1,hk.box b _ (by simp) h2,rfl⟩
 |.box cs,x,v,rs,h,hk=>by
  simp only[VK]at h ⊢;obtain⟨b,vs,rs',rfl,h1,h2,rfl⟩:=h;exact⟨b,vs,rs',rfl,hk.box b _ (by simp) h1,xG cs x h2 (hk.mono λy hy=>zWU _ hy),rfl⟩
 |.ag cs,x,v,rs,h,hk=>by
  simp only[VK]at h ⊢;obtain⟨vs,rfl,h2⟩:=h;exact⟨vs,rfl,xG cs x h2 hk⟩
theorem xG{s s':S}:∀(l:List (SK U))(x:zA l){vs:List V}{rs:List Res},VKs C s l x vs rs->Keeps s s' rs->VKs C s' l x vs rs
 |[],x,vs,rs,h,_=>by simpa only[VKs]using h
 |k::r,x,vs,rs,h,hk=>by
  simp only[VKs]at h ⊢;obtain⟨v,vs',r1,r2,rfl,rfl,h1,h2⟩:=h;exact⟨v,vs',r1,r2,rfl,rfl,zT0 k x.1 h1 (hk.mono λy hy=>zXV _ hy),xG r x.2 h2 (hk.mono λy hy=>zXj _ hy)⟩
end
theorem zCD{s:S}{rs:List Res}(i:rs.Nodup)(hi:∀y∈rs,InS s y):PartS (subS s rs) s:=by
 refine⟨λb c h=>?_,λn h=>hi _ ((zD3 s rs n).1 h),?_,λb c h=>?_,rfl⟩
 .by_cases a:Res.inr b∈rs
  .rw[(xp s rs b).1 a]at h;exact h
  .rw[(xp s rs b).2 a]at h;cases h
 .have d:∀l:List Res,l.Nodup->(l.filterMap resT).Nodup:=λl=>by
   induction l with
   |nil=>intro _;exact zW7
   |cons y r e=>
    intro h;obtain⟨j,f⟩:=zXx.1 h;cases y with
    |inl n=>
     rw[zYF];refine zXx.2 ⟨λa=>?_,e f⟩;obtain⟨z,k,g⟩:=zX1.1 a;cases z<;>simp[resT]at g
     subst g;exact j k
    |inr n=>rw[zYF];exact e f
    |ob n=>rw[zYF];exact e f
  exact d rs i
 .by_cases a:Res.ob b∈rs
  .rw[(jO s rs b).1 a]at h;exact h
  .rw[(jO s rs b).2 a]at h;cases h
theorem zCB{s a:S}{rs:List Res}(f:ApartS (subS s rs) s a){b:Nat}{c:List V×Nat}(g:.inr b∉rs)(h:Al.look s.box b=some c):Al.look (jj (subS s rs) s a).box b=some c/\Al.look a.box b=none:=by
 have d:Al.look (rbox (subS s rs) s) b=some c:=by rw[js,(xp s rs b).2 g];simpa using h
 have e:=f.box b c d;exact⟨by rw[zDh,e,d];rfl,e⟩
theorem zE2{s a:S}{rs:List Res}(f:ApartS (subS s rs) s a){b:Nat}{c:OV×List Nat}(g:.ob b∉rs)(h:zQ s.ob b=some c):zQ (jj (subS s rs) s a).ob b=some c/\zQ a.ob b=none:=by
 have d:zQ (rob (subS s rs) s) b=some c:=by rw[kx,(jO s rs b).2 g];simpa using h
 have e:=f.ob b c d;exact⟨by rw[zFI,e,d];rfl,e⟩
theorem zGl{s a:S}{rs:List Res}(c:ApartS (subS s rs) s a){n:Nat}(d:.inl n∉rs)(h:n∈s.tg):n∈(jj (subS s rs) s a).tg/\n∉a.tg:=by
 have b:n∈rtg (subS s rs) s:=rtg_iff.2 ⟨h,λq=>d ((zD3 s rs n).1 q)⟩;exact⟨zXj _ b,c.tg n b⟩
theorem SSim.rest{N:NM}{st:St U}{s i:S}{rs:List Res}(a:SSim C N st s)(e:ApartS (subS s rs) s i)(j:∀y∈rs,¬Has N st y):SSim C N st (jj (subS s rs) s i)/\∀y,Has N st y->¬InS i y:=by
 have m:∀l b,lk st.bx l=some b->.inr (N.bl l)∉rs:=λl b d f=>j _ f ⟨l,b,d,rfl⟩;have p:∀l o,lko st.ob l=some o->.ob (N.bl l)∉rs:=λl o d f=>j _ f ⟨l,o,d,rfl⟩;have q:∀t∈st.tg,.inl (N.tk t)∉rs:=λt h f=>j _ f ⟨t,h,rfl⟩;refine⟨⟨λl b d=>(zCB e (m l b d) (a.box l b d)).1,a.lt,a.wf,a.inj,λt h=>(zGl e (q t h) (a.tgIn t h)).1,a.tgInj,a.tgLt,λt h=>zWN (a.nm t h) (Nat.le_max_right _ _),⟨λl o d=>?_,a.ob.lt,a.ob.wf,a.ob.inj⟩⟩,λy k hi=>?_⟩
 .obtain⟨u,h⟩:=a.ob.look l o d;exact⟨u,(zE2 e (p l o d) h).1⟩
 .cases y with
  |inl n=>obtain⟨t,h,rfl⟩:=k;exact(zGl e (q t h) (a.tgIn t h)).2 hi
  |inr b=>obtain⟨l,x,d,rfl⟩:=k;obtain⟨c,g⟩:=hi;rw[(zCB e (m l x d) (a.box l x d)).2]at g;cases g
  |ob b=>
   obtain⟨l,x,d,rfl⟩:=k;obtain⟨c,g⟩:=hi;obtain⟨u,h⟩:=a.ob.look l x d;rw[(zE2 e (p l x d) h).2]at g;cases g
theorem zN7(c:CodOk C):∀(k:SK U){v:T U}{K:denK k->Option R},getR C k v K=some r->∃x,K x=some r/\∀N s,VK C s k x ((trT C N v).untag) []
 |.int k,v,K,h=>by
  obtain⟨x,a,b⟩:=zBy c (.int k) h;exact⟨x,a,λN s=>by simp only[VK];exact⟨b N,trivial⟩⟩
 |.bool,v,K,h=>by
  obtain⟨x,a,b⟩:=zBy c .bool h;exact⟨x,a,λN s=>by simp only[VK];exact⟨b N,trivial⟩⟩
 |.str,v,K,h=>by
  obtain⟨x,a,b⟩:=zBy c .str h;exact⟨x,a,λN s=>by simp only[VK];exact⟨b N,trivial⟩⟩
 |.dl i,v,K,h=>by
  obtain⟨x,a,b⟩:=zBy c (.dl i) h;exact⟨x,a,λN s=>by simp only[VK];exact⟨b N,trivial⟩⟩
 |.bl i,v,K,h=>by
  obtain⟨x,a,b⟩:=zBy c (.bl i) h;exact⟨x,a,λN s=>by simp only[VK];exact⟨b N,trivial⟩⟩
 |.st i,v,K,h=>by
  obtain⟨x,a,b⟩:=zBy c (.st i) h;exact⟨x,a,λN s=>by simp only[VK];exact⟨(b N).trans (c.enc _ i x),trivial⟩⟩
 |.ow _ _,v,K,h=>by simp[getR]at h
 |.arr _,v,K,h=>by simp[getR]at h
 |.box _,v,K,h=>by simp[getR]at h
 |.mc1 _,v,K,h=>by simp[getR]at h
 |.fn _,v,K,h=>by simp[getR]at h
 |.ag _,v,K,h=>by simp[getR]at h
theorem zMS(b:CodOk C):∀(l:List (SK U)){vs:List (T U)}{K:zA l->Option R},zGf C l vs K=some r->∃x,K x=some r/\∀N s,VKs C s l x ((vs.map (trT C N)).map V.untag) []
 |[],vs,K,h=>by
  cases vs with
  |nil=>exact⟨(),h,λN s=>by simp only[VKs];exact⟨rfl,trivial⟩⟩
  |cons _ _=>cases h
 |k::a,vs,K,h=>by
  cases vs with
  |nil=>cases h
  |cons v vs=>
   simp only[zGf]at h;obtain⟨x,c,d⟩:=zN7 b k h;obtain⟨xs,e,f⟩:=zMS b a c;exact⟨(x,xs),e,λN s=>by
    simp only[VKs,zV6];exact⟨_,_,[],[],rfl,rfl,d N s,f N s⟩⟩
theorem zMi(f:CodOk C):∀(l:List (SK U))(x:zA l){K:List (T U)->Option R},zBz C l x K=some r->∃c,K c=some r/\bdds 0 0 c=true/\∀N s d q,VKs C s l x d q->d=c.map (trT C N)
 |[],x,K,h=>⟨[],h,rfl,λN s d q a=>by simp only[VKs]at a;exact a.1⟩
 |k::b,x,K,h=>by
  have e:∀(t:T U),bdd 0 0 t=true->(∀N s w q,VK C s k x.1 w q->w=trT C N t)->(zBz C b x.2 λvs=>K (t::vs))=some r->∃c,K c=some r/\bdds 0 0 c=true/\∀N s d q,VKs C s (k::b) x d q->d=c.map (trT C N):=λt g i j=>by
   obtain⟨c,m,n,o⟩:=zMi f b x.2 j;refine⟨t::c,m,by simp only[bdds,g,n,zWJ],λN s d q a=>?_⟩;simp only[VKs]at a;obtain⟨v,vs',p,u,rfl,rfl,y,z⟩:=a;rw[zV6,i N s v p y,o N s vs' u z]
  cases k<;>simp only[zBz]at h<;>first
   |contradiction
   |exact e _ rfl (λN s w q a=>by simp only[VK]at a;exact a.1) h
   |exact e (C.enc _ x.1) (f.bd _ x.1) (λN s w q a=>by simp only[VK]at a;exact a.1.trans (f.enc N _ _).symm) h
variable(C)in
def qW(syn:List PanicEntry)(a rs:List (SK U))(f:List V):Option (zA a×zA rs)->Outc->S->Prop
 |none,.pan k,_=>k=syn
 |some y,.ret w,b=>∃c d e,VKs C b a y.1 f d/\VKs C b rs y.2 c e/\(d++e).Nodup/\w=finV c
 |_,_,_=>False
def CPOk(C:Cod U)(P:Program)(syn:List PanicEntry)(f:Nat)(c:CP U):Prop:=∀(x:zA c.io)(a:zA c.as){R:Type}(b:Option R)(K:zA c.oo->zA c.rs->Option R)(r:R),c.fn x a b K=some r ->
 ∃oc:Option (zA c.oo×zA c.rs),(match oc with|none=>b=some r|some y=>K y.1 y.2=some r) /\
  ∀s d h e g,VKs C s c.io x d e->VKs C s c.as a h g->(e++g).Nodup->FnC P f (d++h) (subS s (e++g)) (qW C syn c.oo c.rs d oc)
def CROk(C:Cod U)(P:Program)(f:Nat)(c:CR U):Prop:=∀(x:zA c.as){R:Type}(K:zA c.rs->Option R)(r:R),c.fn x K=some r ->
 ∃y,K y=some r/\∀s b q,VKs C s c.as x b q->q.Nodup->∃d,(∀a,VKs C a c.rs y d [])/\FnC P f b (subS s q) λoc a=>oc=.ret (finV d)/\a=subS s q
theorem zLY{st:St U}:∀{c:List Nat},zID st c=true->∀l∈c,∃b,lk st.bx l=some b
 |[],_,l,a=>by cases a
 |k::r,h,l,a=>by
  simp only[zID,zV5]at h;rcases zWB.1 a with rfl|a
  .split at h
   .rename_i b d;exact⟨b,d⟩
   .exact absurd h.1 (by simp)
  .exact zLY h.2 l a
theorem zSb(I:CodOk C){syn:List PanicEntry}{c:CP U}{f:Nat}(ac:CPOk C P syn f c){N:NM}{st:St U}{s:S}(hs:SSim C N st s){args:List (T U)}(hb:bdds st.nl st.nx args=true){J:List Nat}{pan:Option R}{k:T U->St U->Option R}
 (h:zQC C c args J st pan k=some r) :
 FnC P f (args.map (trT C N)) s λoc s'=>match oc with
  |.ret w=>(∀l∈J,Al.look s'.box (N.bl l)=Al.look s.box (N.bl l))/\∃N' B v,k v B=some r/\Turn N st N' B/\SSim C N' B s'/\w=trT C N' v
  |.pan e=>e=syn/\pan=some r:=by
 unfold zQC at h;simp only[zBR]at h;have K:∃N0 st0 u,(xI C c.io (args.take c.io.length) st0 λx t=>feS t λt=>xI C c.as (args.drop c.io.length) t λa d=>feS d λd=>
  bif zID d J then c.fn x a pan λy z=>zIb C c.oo y (args.take c.io.length) d λL=>jy C c.rs z L λvs D=>k (finT vs) D else none)=some r/\Gs s u/\Turn N st N0 st0/\SSim C N0 st0 u/\(J≠[]->u=s/\N0=N):=by
  cases hk:J.isEmpty with
  |true=>
   rw[hk]at h;simp only[zWQ]at h;obtain⟨N0,st0,u,h1,h2,h3,h4⟩:=zCE I _ _ hs h;refine⟨N0,st0,u,h1,h2,h3,h4,λad=>?_⟩;simp only[zY4]at hk;exact absurd hk ad
  |false=>
   rw[hk]at h;simp only[zWH]at h;exact⟨N,st,s,h,.refl _,.refl _ _,hs,λ_=>⟨rfl,rfl⟩⟩
 obtain⟨N0,st0,u,h1,hg,i,ae,E⟩:=K;clear h;refine FnC_gs hg ?_;have af:bdds st0.nl st0.nx args=true:=yr i.nl i.nx _ hb;have e0:args.map (trT C N0)=args.map (trT C N):=yx i.ext hb;have vr:∀(l:List (T U))(j:Nat)(x:T U)(v:V),l[j]?=some x->(l.map (trT C N0))[j]?=some v->VR C N0 x v:=λl j x v a b=>by
  rw[zWM,a]at b;injection b with b
  exact .inr b.symm
 obtain⟨x,t,r1,h2,ag,e1,e2,M,ah,O,aw⟩:=jF I c.io (vs:=args.take c.io.length) (vs':=(args.take c.io.length).map (trT C N0)) ae (by simp) (vr _) h1;rw[xE]at h2;obtain⟨a,d,r2,h3,F,e3,e4,Q,ai,W,aj⟩:=jF I c.as (vs:=args.drop c.io.length) (vs':=(args.drop c.io.length).map (trT C N0)) ag (by simp) (vr _) h2;rw[xE]at h3;obtain⟨h4,h5⟩:=zN h3;have X:(r1++r2).Nodup:=zXI.2 ⟨ah,ai,λy m z n e=>by subst e;exact(O y m).2 (W y n).1⟩;have p:∀y∈r1++r2,¬Has N0 d y:=λy m H=>by
  rcases zWe.1 m with m|m
  .exact(O y m).2 (aj y H)
  .exact(W y m).2 H
 obtain⟨oc,h6,h7⟩:=ac x a pan _ r h5;have ak:∀y∈r1++r2,InS u y:=λy m=>by
  rcases zWe.1 m with m|m
  .exact jN c.io x M y m
  .exact jN c.as a Q y m
 have hf:=zDb (h7 u _ _ r1 r2 M Q X) (zCD X ak);rw[<-zWy,zZI,e0]at hf;refine zHb hf ?_;rintro o s' ⟨s1,g,rfl,Y⟩;cases oc with
 |none=>
  cases o with
  |ret w=>exact g.elim
  |pan e=>exact⟨g,h6⟩
 |some y=>
  cases o with
  |pan e=>exact g.elim
  |ret w=>
   obtain⟨ws,q1,q2,Z,aa,al,rfl⟩:=g;obtain⟨hj,ab⟩:=F.rest Y p;have am:bdds d.nl d.nx args=true:=by rw[e3,e4,e1,e2];exact af
   have A:∀z∈q1++q2,InS s1 z:=λz n=>by
    rcases zWe.1 n with n|n
    .exact jN c.oo y.1 Z z n
    .exact jN c.rs y.2 aa z n
   obtain⟨an,ao,ap⟩:=zXI.1 al;have aq:bdds d.nl d.nx (args.take c.io.length)=true:=zKV am _;obtain⟨N3,L,h8,h9,ar,au⟩:=zMN I c.oo y.1 (args.take c.io.length) hj (xG c.oo y.1 Z (zAQ _ _ _ _)) an (λz n H=>ab z H (A z (by simp[n]))) aq h6;obtain⟨N4,ax,D,k1,k2,k3,k4,k5,k6⟩:=qw I c.rs y.2 ar (xG c.rs y.2 aa (zAQ _ _ _ _)) ao (λz n H=>by
    rcases au z H with q|q
    .exact ab z q (A z (by simp[n]))
    .exact ap z q z n rfl) h8
   have av:Turn N st N0 d:=⟨i.ext,by rw[e3,e1];exact i.nl,by rw[e4,e2];exact i.nx⟩;refine⟨λl hl=>?_,N4,D,_,k1,av.trans (h9.trans k2),k3,by rw[<-zCt,k4]⟩;obtain⟨es,eN⟩:=E (λe=>by rw[e]at hl;cases hl);subst es;subst eN;obtain⟨b,G⟩:=zLY h4 l hl;rw[F.box l b G];exact(zCB Y (λhm=>p _ hm ⟨l,b,G,rfl⟩) (F.box l b G)).1
theorem zTV{s:S}{q:List Res}(f:q.Nodup)(hi:∀y∈q,InS s y)(d:s.tg.Nodup):(jj (subS s q) s (subS s q)).sub s:=by
 have i:=zCD f hi;refine⟨λb c h=>?_,λt g=>?_,λ_=>d,λb h=>?_,?_,λb c h=>?_⟩
 .rw[zDh];by_cases a:Res.inr b∈q
  .rw[(xp s q b).1 a,h];rfl
  .rw[(xp s q b).2 a,js,(xp s q b).2 a];simpa using h
 .by_cases a:Res.inl t∈q
  .exact zXV _ ((zD3 s q t).2 a)
  .exact zXj _ (rtg_iff.2 ⟨g,λh=>a ((zD3 s q t).1 h)⟩)
 .rw[zDh]at h;by_cases a:Res.inr b∈q
  .rw[(xp s q b).1 a]at h;cases e:Al.look s.box b with
   |none=>rfl
   |some c=>rw[e]at h;cases h
  .rw[(xp s q b).2 a,js,(xp s q b).2 a]at h;simpa using h
 .show max s.nx s.nx<=s.nx;omega
 .rw[zFI];by_cases a:Res.ob b∈q
  .rw[(jO s q b).1 a,h];rfl
  .rw[(jO s q b).2 a,kx,(jO s q b).2 a];simpa using h
theorem zTb{P:Program}{f:FuncId}{l:List V}{w:V}{s:S}{q:List Res}(m:q.Nodup)(hi:∀y∈q,InS s y)(h:FnC P f l (subS s q) λoc d=>oc=.ret w/\d=subS s q):FnC P f l s λoc d=>oc=.ret w/\d=s:=by
 intro B g w vs a i n;refine(zDb h (zCD m hi) B g w vs a i n).mono ?_;rintro e w' ⟨g',d,o,p,j⟩;have b:=zTV m hi a.nodup;cases e with
 |returned v=>
  obtain⟨r,t,u,⟨k,rfl⟩,rfl,_⟩:=j;exact⟨g',s,o,p.weaken b,r,t,k,rfl⟩
 |panicked c=>obtain⟨u,⟨k,_⟩,_⟩:=j;cases k
 |outgrown=>exact j.elim
theorem zSk(e:CodOk C){c:CR U}{f:Nat}(d:CROk C P f c){N:NM}{st:St U}{s:S}(n:SSim C N st s){args:List (T U)}{k:T U->St U->Option R}
 (h:zPh C c args st k=some r):∃v,FnC P f (args.map (trT C N)) s (λoc o=>oc=.ret (trT C N v)/\o=s)/\k v st=some r/\bdd 0 0 v=true:=by
 unfold zPh at h;obtain⟨x,p,q,u,w,J,K,g,i,L,M⟩:=jF e c.as (vs:=args) (vs':=args.map (trT C N)) n (by simp) (λj x v a b=>by
  rw[zWM,a]at b;injection b with b
  exact .inr b.symm) h
 obtain⟨y,z,A⟩:=d x _ r u;obtain⟨l,B,m,D⟩:=zMi e c.rs y z;obtain⟨E,F,G⟩:=A s _ q g i;have H:=D N s E [] (F s);refine⟨finT l,?_,B,?_⟩
 .rw[<-zCt,<-H];exact zTb i (λy I=>jN c.as x g y I) G
 .cases l with
  |nil=>rfl
  |cons t r=>cases r with
   |nil=>simpa [bdds,finT]using m
   |cons O r=>simpa [finT,bdd]using m
theorem untag_at{x:V}{v:Value}(h:x.untag=.at v):x=.at v:=by
 cases x with
 |lst tg es=>cases tg<;>simp[V.untag,zx]at h
 |_=>first|exact h|(simp[V.untag,zx]at h;done)
theorem zBf(hT:TbOk C P Tb)(j:CodOk C)(H:P.follows .mixedOrders=true){syn:List PanicEntry}{pf rf:FuncId->Bool}{fu:Nat}{inl:Nat->Option (FD U)}{orc:Nat->Option (Con U)}{orr:Nat->Option (CR U)}{orp:Nat->Option (CP U)}{pan:Option R}
 (E:∀f,pf f=(orc f).isSome) (F:∀f,rf f=(orr f).isSome) (I:∀f a,inl f=some a->FDOk P pf rf f a) (J:∀f c,orc f=some c->OrcOk C P f c)
 (W:∀f c,orr f=some c->zU P f=true/\CROk C P f c) (Y:∀f c,orp f=some c->zU P f=true/\CPOk C P syn f c) :
 ∀(d:Nat)(wr own:Nat->Bool)(kl:List (Nat×Nat))(kb:Nat->List Nat),zD5 C P ⟨pf,wr,own,rf,kl,kb⟩ (zCe C Tb fu inl orc orr orp pan d:Call U R) r (λe=>e=syn/\pan=some r)
 |0,wr,own,kl,kb,f,args,ks,st,k,N,s,_,_,_,h,_,_,_,_,_,_=>by simp[zCe]at h
 |d+1,wr,own,kl,kb,f,args,ks,st,k,N,s,Z,L,ha,h,K,KP,ae,aa,hK,ab=>by
  simp only[zCe]at h;cases M:Nat.ble 1000000 f with
  |true=>
   rw[M]at h;simp only[zWQ]at h;have ak:1000000<=f:=zWF M;cases O:Nat.ble 2000000 f with
   |true=>
    rw[O]at h;simp only[zWQ]at h;have ai:2000000<=f:=zWF O;refine⟨λG=>absurd G (by omega),λm Q=>absurd (mIx_lt m) (by omega),λm Q af caps he h5 h6=>?_⟩;have ag:f-2000000=m:=by unfold cIx at Q;omega
    rw[ag]at h;subst he;split at h
    .cases h
    rename_i V;have hp:¬pf m=true:=by rw[E,V];simp
    split at h
    .cases h
    rename_i o;have p:¬rf m=true:=by rw[F,o];simp
    split at h
    .rename_i a ac;obtain⟨q,T⟩:=zN h;simp only[zV5,zY4]at q;have i:=I m a ac;obtain⟨fn,q1,q2,q3,q4⟩:=i.fn;refine⟨i.code,zAt N h5,zJ6 h6,?_⟩;show(if pf m=true then _ else if rf m=true then _ else _);rw[if_neg hp,if_neg p];refine⟨_,Sub.refl _,?_⟩;rw[<-zWy];refine zKi q1 q2 q3 q4 (by simpa [zXw]using q.1) λB=>?_;refine qu (X:=⟨B,⟨a.n,[]⟩,none,[]⟩) (PP:=λe=>e=syn/\pan=some r) hT j H (zBf hT j H E F I J W Y d a.fi.wr a.fi.own) a.body Z (zA7 (af++caps) 0 L) T i.ok i.hok (λe z hq=>ab e z hq) ?_;intro ex N' e' A E' z p1 p2 p3 p4 _;have ad:(dres C Tb e' A a.rs λvs=>k (finT vs) A)=some r->xo P a.rs E' z λxs=>∃s0,z.sub s0/\((∀b∈ae,Al.look s0.box b=Al.look s.box b)/\K (finV xs) s0):=λhh=>
      zE3 hT j p3 p4 a.rs hh λvs hv=>⟨z,S.sub_refl _,⟨λb L=>absurd (aa b L) (by rw[q.2];rintro⟨l,hl,_⟩;cases hl),hK _ _ _ _ _ hv p2 p3 (.inr (zCt N' vs))⟩⟩
     cases ex<;>simp only at p1<;>first|exact ad p1|cases p1
    .cases h
   |false=>
   rw[O]at h;simp only[zWH]at h;have aj:f<2000000:=by
    rcases zW5 f 2000000 with h9|h9
    .exact h9
    .exact absurd (zYN h9) (by rw[O];simp)
   refine⟨λG=>absurd G (by omega),λm Q a0 af he=>?_,λm Q=>absurd Q (by unfold cIx;omega)⟩;split at h
   .rename_i c V;subst he;obtain⟨x,D,h4⟩:=zEl j c.as h;cases hx:c.fn x with
    |none=>rw[hx]at D;cases D
    |some y=>
     rw[hx]at D;simp only[zXg,zEY C c.rs y 0]at D;obtain⟨t,u,g,q1,q2,q3,q4,q5⟩:=(J f c V).2 m Q x y hx _ _ (h4 N);have q6:trT C N a0=.at (.iface t u):=untag_at q1;rw[q6];simp only[zOO,q2];refine⟨q3,q4,(by have:=zAt (C:=C) N ha;simp only[zV6,zWK,zV5]at this;exact this.2),_,by simpa [zXD]using q5,hK _ _ _ _ _ D (.refl _ _) Z (.inr ?_)⟩;rw[zR6 j N ⟨id,id,id,id⟩ (zDe j c.rs _ 0 y),zCt]
   .cases h
  |false=>
  rw[M]at h;simp only[zWH]at h;have G:f<1000000:=by
   rcases zW5 f 1000000 with h9|h9
   .exact h9
   .exact absurd (zYN h9) (by rw[M];simp)
  refine⟨λ_=>?_,λm Q=>absurd (zQc m) (by omega),λm Q=>absurd Q (by unfold cIx;omega)⟩;split at h
  .rename_i c V;obtain⟨q,T⟩:=(J f c V).1 G;obtain⟨x,D,h4⟩:=zEl j c.as h;cases hx:c.fn x with
   |none=>rw[hx]at D;cases D
   |some y=>
    rw[hx]at D;simp only[zXg,zEY C c.rs y 0]at D;refine⟨q,zAt N ha,rfl,?_⟩;have hp:pf f=true:=by rw[E,V];rfl
    show(if pf f=true then _ else _);rw[if_pos hp];refine⟨rfl,_,T x y hx _ (h4 N),hK _ _ _ _ _ D (.refl _ _) Z (.inr ?_)⟩;rw[zR6 j N ⟨id,id,id,id⟩ (zDe j c.rs _ 0 y),zCt]
  .rename_i V;have hp:¬pf f=true:=by rw[E,V];simp
   split at h
   .rename_i c o;obtain⟨q,T⟩:=W f c o;obtain⟨v,D,h4,_⟩:=zSk j T Z h;refine⟨q,zAt N ha,rfl,?_⟩;have p:rf f=true:=by rw[F,o];rfl
    show(if pf f=true then _ else if rf f=true then _ else _);rw[if_neg hp,if_pos p];exact⟨_,_,Sub.refl _,by rw[zWc];exact D,hK _ _ _ _ _ h4 (.refl _ _) Z (.inr rfl)⟩
   .rename_i o;have p:¬rf f=true:=by rw[F,o];simp
    split at h
    .rename_i c ah;obtain⟨q,T⟩:=Y f c ah;refine⟨q,zAt N ha,rfl,?_⟩;show(if pf f=true then _ else if rf f=true then _ else _);rw[if_neg hp,if_neg p];refine⟨_,Sub.refl _,?_⟩;rw[zWc];refine zHb (zSb j T Z L h) ?_;intro oc z hq;cases oc with
     |pan e=>exact ab e z hq
     |ret w=>
      obtain⟨q1,N',A,v,q2,q3,q4,q5⟩:=hq;refine⟨λb L=>?_,hK _ _ _ _ _ q2 q3 q4 (.inr q5)⟩;obtain⟨l,hl,rfl⟩:=aa b L;exact q1 l hl
    .split at h
     .rename_i a ac;obtain⟨q,T⟩:=zN h;simp only[zV5,zY4]at q;have i:=I f a ac;obtain⟨fn,q1,q2,q3,q4⟩:=i.fn;refine⟨i.code,zAt N ha,rfl,?_⟩;show(if pf f=true then _ else if rf f=true then _ else _);rw[if_neg hp,if_neg p];refine⟨_,Sub.refl _,?_⟩;rw[zWc];refine zKi q1 q2 q3 q4 (by simpa [zXw]using q.1) λB=>?_;refine qu (X:=⟨B,⟨a.n,[]⟩,none,[]⟩) (PP:=λe=>e=syn/\pan=some r) hT j H (zBf hT j H E F I J W Y d a.fi.wr a.fi.own) a.body Z (zA7 args 0 L) T i.ok i.hok (λe z hq=>ab e z hq) ?_;intro ex N' e' A E' z p1 p2 p3 p4 _;have ad:(dres C Tb e' A a.rs λvs=>k (finT vs) A)=some r->xo P a.rs E' z λxs=>∃s0,z.sub s0/\((∀b∈ae,Al.look s0.box b=Al.look s.box b)/\K (finV xs) s0):=λhh=>
       zE3 hT j p3 p4 a.rs hh λvs hv=>⟨z,S.sub_refl _,⟨λb L=>absurd (aa b L) (by rw[q.2];rintro⟨l,hl,_⟩;cases hl),hK _ _ _ _ _ hv p2 p3 (.inr (zCt N' vs))⟩⟩
      cases ex<;>simp only at p1<;>first|exact ad p1|cases p1
     .cases h
def fnP{c d as rs:List (SK U)}(f:zA c->zA as->Option (Option (zA d×zA rs))){R:Type}(x:zA c)(a:zA as)(b:Option R)(K:zA d->zA rs->Option R):Option R:=
 Option.bind (f x a) λo=>z8 o b λy=>K y.1 y.2
theorem zAU{f:FuncId}{e:Func}{c:Code}{args:List V}{st:S}{Q:Outc->S->Prop}{N:Nat}{rs:List ResultVar}(o:P.funcs[f]?=some e)(p:e.body=some c)(q:e.ntmps=N)(k:e.results=rs.toArray)(s:args.length<=N)
 (h:∀B,awp P ⟨B,⟨N,[]⟩,none,[]⟩ c (retE P rs Q) (jh 0 args) st):FnC P f args st Q:=by
 intro B g w vs hi m t;refine calls_of_wp o p ?_;have u:=zDi (N:=N) hi m t s;rw[q];refine wpIn_wide.1 (wpIn_mono (h B g _ w u) ?_);rintro ex a' w' ⟨g',e',a,n,i,b⟩;have j:e.results.toList=rs:=by rw[k]
 subst j;have d:yk P e.results.toList e' a (λxs=>Q (.ret (finV xs)) a)->a'.defers=[]/\∃v,(results e a'.tmps).run P w'=.ok v w' /\
  ∃g' a,Step B g w g' w'/\Inv B g' a w'/\∃r,RV g' w' r v/\Q (.ret r) a:=by
  intro b;obtain⟨xs,us,x,y,z⟩:=kH b i;exact⟨i.df,_,jd z,g',a,n,i.inv,_,zFf (zKO y),x⟩
 cases ex with
 |normal=>exact d b
 |ret=>exact d b
 |panic c=>exact⟨i.df,g',a,n,i.inv,b⟩
 |exit id=>exact b.elim
 |goto l=>exact b.elim
 |outgrown=>exact b.elim
theorem zVN(W:TbOk C P Tb)(A:CodOk C)(hm:P.follows .mixedOrders=true){syn:List PanicEntry}{pf rf:FuncId->Bool}{fu d:Nat}{inl:Nat->Option (FD U)}{orc:Nat->Option (Con U)}{orr:Nat->Option (CR U)}{orp:Nat->Option (CP U)}
 (Y:∀f,pf f=(orc f).isSome) (Z:∀f,rf f=(orr f).isSome) (aa:∀f i,inl f=some i->FDOk P pf rf f i) (ab:∀f c,orc f=some c->OrcOk C P f c)
 (ac:∀f c,orr f=some c->zU P f=true/\CROk C P f c) (ad:∀f c,orp f=some c->zU P f=true/\CPOk C P syn f c) {f:Nat} {i:FD U} (D:FDOk P pf rf f i) {o E as rs:List (SK U)} (H:o.length+as.length<=i.n)
 {fn:zA o->zA as->Option (Option (zA E×zA rs))} (h:∀x a,runP C Tb fu d inl orc orr orp i o E as rs x a=fn x a):CPOk C P syn f ⟨o,E,as,rs,fnP fn⟩:=by
 intro x a R al K r F;unfold fnP at F;simp only at F;cases hx:fn x a with
 |none=>rw[hx]at F;cases F
 |some oc=>
  rw[hx]at F;simp only[zXg]at F;refine⟨oc,by cases oc<;>exact F,λs I va r1 r2 J L hn=>?_⟩;obtain⟨am,q1,q2,q3,q4⟩:=D.fn;have p:=(h x a).trans hx;unfold runP at p;have u:=xG o x J ((zCF s (r1++r2)).mono λy m=>zXV _ m);have w:=xG as a L ((zCF s (r1++r2)).mono λy m=>zXj _ m);generalize subS s (r1++r2)=s0 at u w ⊢;obtain⟨ae,af,ag⟩:=zXI.1 hn;have M:∀y,¬Has ⟨id,id,id,id⟩ (⟨[],[],0,0,[]⟩:St U) y:=λy m=>by
   cases y with
   |inl n=>obtain⟨t,ht,_⟩:=m;cases ht
   |inr b=>obtain⟨l,b,hl,_⟩:=m;simp[lk]at hl
   |ob b=>obtain⟨l,b,hl,_⟩:=m;simp[lko]at hl
  obtain⟨N1,g,an,k1,k2,k3,k4,k5,k6⟩:=qw A o x (SSim.empty ⟨id,id,id,id⟩ 0 0 s0) u ae (λy m N=>M y N) p;rw[xE]at k1;obtain⟨N2,G,O,p1,Q,p3,p4,p5,p6⟩:=qw A as a k3 w af (λy m N=>by
   rcases k6 y N with q|q
   .exact M y q
   .exact ag y q y m rfl) k1
  rw[xE,zB9]at p1;have e1:g.map (trT C N2)=I:=by rw[yx Q.ext k5,k4]
  have ah:bdds O.nl O.nx (g++G)=true:=zDz (yr Q.nl Q.nx _ k5) p5;have k:I++va=(g++G).map (trT C N2):=by rw[zWy,e1,p4]
  have ai:I.length=o.length:=zBL o x J;have aj:va.length=as.length:=zBL as a L;rw[k];refine zAU q1 q2 q3 q4 (by rw[<-k,zWD,ai,aj];exact H) λB=>?_;refine qu (X:=⟨B,⟨i.n,[]⟩,none,[]⟩) (PP:=λe=>e=syn/\(some none:Option (Option (zA E×zA rs)))=some oc) W A hm (zBf W A hm Y Z aa ab ac ad d i.fi.wr i.fi.own) i.body p3 (zA7 (g++G) 0 ah) p1 D.ok D.hok (λe V hq=>by
   obtain⟨h1,S⟩:=hq;injection S with S
   subst S;exact h1) ?_
  intro ex N' e' T E' V u1 u2 u3 u4 _;have ak:(dres C Tb e' T i.rs λus=>zGf C rs us λz=>xI C E g T λy _=>some (some (y,z)))=some oc->yk P i.rs E' V λxs=>qW C syn E rs I oc (.ret (finV xs)) V:=λN=>
   zD6 W A u3 u4 i.rs N λus hv=>by
    obtain⟨z,h1,S⟩:=zMS A rs hv;obtain⟨y,ao,q,h3,_,_,_,h4,h5,_,_⟩:=jF A E (vs:=g) (vs':=g.map (trT C N')) u3 (by simp) (λj x v a b=>by
     rw[zWM,a]at b;injection b with b
     exact .inr b.symm) h1
    injection h3 with h3
    subst h3;have e2:g.map (trT C N')=I:=by rw[yx u2.ext (yr Q.nl Q.nx _ k5),e1]
    rw[e2]at h4;exact⟨_,q,[],h4,S N' V,by simpa using h5,rfl⟩
  cases ex<;>simp only at u1<;>first|exact ak u1|cases u1
end
open Go.Al
section
variable{U:TyU}{R:Type}{r:R}
def pInt(k:IntKind)(v:T U)(K:Int->Option R):Option R:=
 match v with
 |.int a n=>bif decide (a=k)then K n else none
 |_=>none
def zCq(v:T U)(K:Bool->Option R):Option R:=
 match v with
 |.bool b=>K b
 |_=>none
def pStr(v:T U)(K:List UInt8->Option R):Option R:=
 match v with
 |.str s=>K s
 |_=>none
def pDl(i:U.I)(v:T U)(K:List (U.den i)->Option R):Option R:=
 match v with
 |.nil=>K []
 |.lst m j ys=>ke i j ys λxs=>(match m with
  |.dl=>K xs
  |.b n=>bif (bif n then xs.isEmpty else !xs.isEmpty)then K xs else none
  |.ow _ a=>bif a then K xs else bif !xs.isEmpty then K xs else none)
 |_=>none
def pBl(i:U.I)(v:T U)(K:Bool×List (U.den i)->Option R):Option R:=
 match v with
 |.nil=>K (true,[])
 |.lst m j ys=>ke i j ys λxs=>(match m with
  |.dl=>K (xs.isEmpty,xs)
  |.b n=>K (n,xs)
  |.ow _ a=>bif a then K (xs.isEmpty,xs)else K (false,xs))
 |_=>none
variable{C:Cod U}
theorem yz{k:IntKind}{v:T U}{K:Int->Option R}(h:pInt k v K=some r):∃x,K x=some r/\(∀N,trT C N v=.at (.int k x))/\∀N,zx (trT C N v)=.at (.int k x):=by
 unfold pInt at h;split at h
 .obtain⟨a,b⟩:=zN h;simp only[zWV]at a;subst a;exact⟨_,b,λ_=>rfl,λ_=>rfl⟩
 .cases h
theorem j8{v:T U}{K:Bool->Option R}(h:zCq v K=some r):∃x,K x=some r/\(∀N,trT C N v=.at (.bool x))/\∀N,zx (trT C N v)=.at (.bool x):=by
 unfold zCq at h;split at h
 .exact⟨_,h,λ_=>rfl,λ_=>rfl⟩
 .cases h
theorem zC8{v:T U}{K:List UInt8->Option R}(h:pStr v K=some r):∃x,K x=some r/\(∀N,trT C N v=.at (.string ⟨x.toArray⟩))/\∀N,zx (trT C N v)=.at (.string ⟨x.toArray⟩):=by
 unfold pStr at h;split at h
 .exact⟨_,h,λ_=>rfl,λ_=>rfl⟩
 .cases h
theorem zRl{i:U.I}{v:T U}{K:List (U.den i)->Option R}(h:pDl i v K=some r):∃x,K x=some r/\∀N,zx (trT C N v)=.lst (yL (x.map (C.encV i))) (x.map (C.encV i)):=by
 unfold pDl at h;split at h
 .exact⟨_,h,λN=>rfl⟩
 .rename_i m j ys;have c:=xt h;clear h;obtain⟨rfl,h⟩:=c;simp only[kZ]at h;split at h
  .refine⟨_,h,λN=>?_⟩;cases ys<;>rfl
  .rename_i n;obtain⟨a,b⟩:=zN h;refine⟨_,b,λN=>?_⟩;cases n<;>cases ys<;>simp at a<;>rfl
  .rename_i t d;cases d with
   |true=>exact⟨_,h,λN=>rfl⟩
   |false=>
    simp only[zWH]at h;obtain⟨a,b⟩:=zN h;refine⟨_,b,λN=>?_⟩;cases ys<;>simp at a
    rfl
 .cases h
theorem zNB{i:U.I}{v:T U}{K:Bool×List (U.den i)->Option R}(h:pBl i v K=some r):∃x,K x=some r/\∀N,zx (trT C N v)=.lst (if x.1 then .nil else .no) (x.2.map (C.encV i)):=by
 unfold pBl at h;split at h
 .exact⟨_,h,λN=>rfl⟩
 .rename_i m j ys;have a:=xt h;clear h;obtain⟨rfl,h⟩:=a;simp only[kZ]at h;split at h
  .refine⟨_,h,λN=>?_⟩;cases ys<;>rfl
  .rename_i n;refine⟨_,h,λN=>?_⟩;cases n<;>rfl
  .rename_i t b;cases b with
   |true=>refine⟨_,h,λN=>?_⟩;cases ys<;>rfl
   |false=>exact⟨_,h,λN=>rfl⟩
 .cases h
theorem zBj(b:Bool)(es:List V):zx (.lst (if b then .nil else .no) es)=.lst (if b then .nil else .no) es:=by cases b<;>rfl
theorem zDq(v:Value):zx (.at v)=.at v:=rfl
theorem zA9{x y:V}(h:zx x=y)(a:y.isAgg=false:=by rfl):x.untag=y:=by
 cases x<;>first|exact h|(subst h;cases a)
theorem zE6(es:List V):zx (.lst (yL es) es)=.lst (yL es) es:=zBB es
def zH6:List (Nat×TD U)->Nat->TD U
 |[],_=>{}
 |(k,d)::r,t=>bif Nat.beq k t then d else zH6 r t
theorem zLg{P:Program}:∀{l:List (Nat×TD U)},(∀p∈l,Facts C P p.1 p.2)->TbOk C P (zH6 l)
 |[],_,t,h=>by simp[zH6]at h
 |(k,d)::r,a,t,h=>by
  simp only[zH6]at h ⊢;by_cases e:k=t
  .subst e;have:Nat.beq k k=true:=by simp
   simp only[this,zWQ]at h ⊢;exact a (k,d) (by simp)
  .simp only[yy e,zWH]at h ⊢;exact zLg (λp b=>a p (by simp[b])) t h
def ze(a:Func):Code:=a.body.getD .skip
def zB{α:Type _}:List (Nat×α)->Nat->Option α
 |[],_=>none
 |(k,d)::r,t=>bif Nat.beq k t then some d else zB r t
theorem yT{α:Type _}:∀{l:List (Nat×α)}(f:Nat),(zB l f).isSome=hasN (l.map (·.1)) f
 |[],_=>rfl
 |(k,d)::r,f=>by
  simp only[zB,zV6,hasN];by_cases e:k=f
  .have:Nat.beq k f=true:=by simpa using e
   simp[this]
  .simp only[yy e,zWH];exact yT f
def noLs:List (AK U)->Bool
 |[]=>true
 |a::r=>(match a with|.ls _=>false|_=>true)&&noLs r
theorem ya:∀{l:List (AK U)},noLs l=true->∀a∈l,∀i,a≠.ls i
 |[],_,a,c,_=>by simp at c
 |b::r,h,a,c,i=>by
  simp only[noLs,zV5]at h;rcases zWB.1 c with rfl|c
  .intro e;subst e;simp at h
  .exact ya h.2 a c i
theorem ConOk.sub{P:Program}{f:Nat}{as rs:List (AK U)}{b a:zS as->Option (zS rs)}(h:ConOk C P f ⟨as,rs,b⟩)(c:∀x y,a x=some y->b x=some y):ConOk C P f ⟨as,rs,a⟩:=
 λx y d=>h x y (c x y d)
theorem zD{α:Type _}{p:Nat->α->Prop}:∀f a,zB ([]:List (Nat×α)) f=some a->p f a:=λf a h=>by simp[zB]at h
theorem zK{α:Type _}{p:Nat->α->Prop}{k:Nat}{d:α}{r:List (Nat×α)}(b:p k d)(c:∀f a,zB r f=some a->p f a):∀f a,zB ((k,d)::r) f=some a->p f a:=λf a h=>by
 simp only[zB]at h;by_cases e:k=f
 .subst e;have:Nat.beq k k=true:=by simp
  simp only[this,zWQ]at h;injection h with h
  subst h;exact b
 .simp only[yy e,zWH]at h;exact c f a h
theorem xy{σ R:Type}{F:(σ->Option R)->σ->Option R}{r:R}(I:σ->Prop)(μ:σ->Nat)(step:∀(rec:σ->Option R) s,I s->(∀a,I a->μ a<μ s->rec a=some r)->F rec s=some r) :
 ∀(n:Nat)(s:σ),I s->μ s<n->iter n F s=some r:=by
 intro n
 induction n with
 |zero=>intro s _ h;omega
 |succ n c=>
  intro s d f;simp only[iter];exact step _ s d λa b e=>c a b (by omega)
end
end Go.Den
end
namespace Go.Den
section
open Go.Al Go.ChangeShapes Go.WideShapes Go.ChangeAt Go.RowKit
def wmOf(w:World):Nat->Nat:=λb=>match w.heap[b]? with|some (.cells c _ _)=>c.size|_=>0
theorem zPN(w:World):∀b,w.heap.size<=b->wmOf w b=0:=λb a=>by
 unfold wmOf;rw[zXH a]
end
end Go.Den
