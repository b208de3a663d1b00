/-
  Part 6 of what the last text needs: library, runs, contracts, plain laws. No condition of its own.
-/
import Derived.Test.YtfjiiknfopmcjaaGreatDoorZP5
import Derived.IntWalk
import Derived.Laws.Pointers
import Derived.Laws.BytesString
import Derived.Laws.Append
import Derived.Laws.MakeOwn
import Derived.Laws.AppendOwn
import Derived.Lib.UnsafeStr
import Derived.Lib.Builder
import Derived.Lib.MakeNoZero
import Derived.Lib.Bytealg
import Derived.RangeFuncLeaves
import Derived.RangeFuncCalls
import Derived.LoopNIn
import Derived.OrdersIn
import Derived.RecoverIn
import Derived.RangeFuncNested
import Derived.Scope
set_option linter.unusedVariables false
set_option linter.unusedSimpArgs false
set_option linter.unusedSectionVars false
namespace Go.Cx
section
open Go.RowKit
def wr(k:IntKind)(n:Int):Int:=
 match k with
 |.i64=>(match n with
  |.ofNat m=>bif Nat.blt m 9223372036854775808 then .ofNat m else IntKind.wrap .i64 n
  |.negSucc m=>bif Nat.blt m 9223372036854775808 then .negSucc m else IntKind.wrap .i64 n)
 |.u8=>(match n with
  |.ofNat m=>.ofNat (Nat.mod m 256)
  |.negSucc _=>IntKind.wrap .u8 n)
 |.u64=>(match n with
  |.ofNat m=>.ofNat (Nat.mod m 18446744073709551616)
  |.negSucc _=>IntKind.wrap .u64 n)
 |.u32=>(match n with
  |.ofNat m=>.ofNat (Nat.mod m 4294967296)
  |.negSucc _=>IntKind.wrap .u32 n)
 |.i32=>(match n with
  |.ofNat m=>bif Nat.blt m 2147483648 then .ofNat m else IntKind.wrap .i32 n
  |.negSucc m=>bif Nat.blt m 2147483648 then .negSucc m else IntKind.wrap .i32 n)
 |k=>k.wrap n
theorem zGv{α:Type}(c m:Nat)(x y:α)(h:m<c->x=y):(bif Nat.blt m c then x else y)=y:=by
 cases a:Nat.blt m c with
 |false=>rfl
 |true=>exact h (blt_iff.1 a)
theorem zO6(k:IntKind)(n:Int):wr k n=k.wrap n:=by
 cases k<;>simp only[wr]
 case i64=>
  cases n with
  |ofNat m=>exact zGv _ m _ _ λh=>(IntWalk.i64_in _ (by simp only[zXn];omega)).symm
  |negSucc m=>exact zGv _ m _ _ λh=>(IntWalk.i64_in _ (by omega)).symm
 case i32=>
  cases n with
  |ofNat m=>exact zGv _ m _ _ λh=>(IntWalk.i32_in _ (by simp only[zXn];omega)).symm
  |negSucc m=>exact zGv _ m _ _ λh=>(IntWalk.i32_in _ (by omega)).symm
 case u8=>
  cases n with
  |negSucc m=>rfl
  |ofNat m=>rw[IntKind.wrap_u8];show((m % 256:Nat):Int)=(m:Int) % 256;omega
 case u32=>
  cases n with
  |negSucc m=>rfl
  |ofNat m=>rw[IntKind.wrap_u32];show((m % 4294967296:Nat):Int)=(m:Int) % 4294967296;omega
 case u64=>
  cases n with
  |negSucc m=>rfl
  |ofNat m=>rw[IntKind.wrap_u64];show((m % 18446744073709551616:Nat):Int)=(m:Int) % 18446744073709551616;omega
def iltB(a b:Int):Bool:=
 match a with
 |.ofNat x=>(match b with|.ofNat y=>Nat.blt x y|.negSucc _=>false)
 |.negSucc x=>(match b with|.ofNat _=>true|.negSucc y=>Nat.blt y x)
theorem zI8(a b:Nat):Nat.blt a b=decide (a<b):=by
 cases h:Nat.blt a b with
 |true=>simp[blt_iff.1 h]
 |false=>
  have:¬a<b:=λh'=>by rw[blt_iff.2 h']at h;cases h
  simp[this]
theorem zBo(a b:Int):iltB a b=decide (a<b):=by
 cases a<;>cases b<;>simp only[iltB,zI8]
 .simp only[zXn];congr 1;simp
 .symm;simp only[zYb];simp only[zXn];omega
 .symm;simp only[zWV];simp only[zXn];omega
 .congr 1;simp;omega
def ieqB(a b:Int):Bool:=
 match a with
 |.ofNat x=>(match b with|.ofNat y=>Nat.beq x y|.negSucc _=>false)
 |.negSucc x=>(match b with|.ofNat _=>false|.negSucc y=>Nat.beq x y)
theorem zIl(a b:Nat):Nat.beq a b=decide (a=b):=by
 cases h:Nat.beq a b with
 |true=>simp[beq_iff.1 h]
 |false=>
  have:¬a=b:=λh'=>by rw[beq_iff.2 h']at h;cases h
  simp[this]
theorem zCw(a b:Int):ieqB a b=(a==b):=by
 have:(a==b)=decide (a=b):=by rw[zYV];simp
 rw[this];cases a<;>cases b<;>simp only[ieqB,zIl]
 .rename_i a b;by_cases h:a=b
  .subst h;simp
  .simp only[h,zY5];symm;rw[zYb];exact λe=>h (Int.ofNat.inj e)
 .symm;simp
 .symm;simp
 .rename_i a b;by_cases h:a=b
  .subst h;simp
  .simp only[h,zY5];symm;rw[zYb];exact λe=>h (Int.negSucc.inj e)
def Kd:IntKind->Nat
 |.i8=>0|.i16=>1|.i32=>2|.i64=>3|.u8=>4|.u16=>5|.u32=>6|.u64=>7
theorem zH3{a b:IntKind}(h:Nat.beq (Kd a) (Kd b)=true):a=b:=by
 have:=beq_iff.1 h;cases a<;>cases b<;>first|rfl|(simp[Kd]at this)
noncomputable def seqB(a:List Nat):List Nat->Bool:=
 List.rec (motive:=λ_=>List Nat->Bool) (λb=>List.casesOn (motive:=λ_=>Bool) b true (λ_ _=>false))
  (λx _ c b=>List.casesOn (motive:=λ_=>Bool) b false (λy t=>bif Nat.beq (Nat.mod x 256) (Nat.mod y 256)then c t else false)) a
theorem u8_eq(x y:Nat):Nat.beq (Nat.mod x 256) (Nat.mod y 256)=decide (UInt8.ofNat x=UInt8.ofNat y):=by
 rw[zIl];congr 1;rw[<-UInt8.toNat_inj];simp[zYK]
 all_goals rfl
theorem kU:∀(a b:List Nat),seqB a b=decide (a.map UInt8.ofNat=b.map UInt8.ofNat)
 |[],[]=>rfl
 |[],y::b=>by simp[seqB]
 |x::a,[]=>by simp[seqB]
 |x::a,y::b=>by
  show(bif Nat.beq (Nat.mod x 256) (Nat.mod y 256)then seqB a b else false)=_;rw[u8_eq,kU a b,zV6,zV6];simp only[zXe];by_cases h:UInt8.ofNat x=UInt8.ofNat y<;>simp[h]
noncomputable def sltB(a:List Nat):List Nat->Bool:=
 List.rec (motive:=λ_=>List Nat->Bool) (λb=>List.casesOn (motive:=λ_=>Bool) b false (λ_ _=>true))
  (λx _ c b=>List.casesOn (motive:=λ_=>Bool) b false (λy t=>bif Nat.blt (Nat.mod x 256) (Nat.mod y 256)then true else bif Nat.beq (Nat.mod x 256) (Nat.mod y 256)then c t else false)) a
theorem u8_lt(x y:Nat):Nat.blt (Nat.mod x 256) (Nat.mod y 256)=decide (UInt8.ofNat x<UInt8.ofNat y):=by
 rw[zI8];congr 1
theorem zOE:∀(a b:List Nat),sltB a b=Op.bytesLess (a.map UInt8.ofNat) (b.map UInt8.ofNat)
 |[],[]=>rfl
 |[],y::b=>rfl
 |x::a,[]=>rfl
 |x::a,y::b=>by
  show(bif Nat.blt (Nat.mod x 256) (Nat.mod y 256)then true else bif Nat.beq (Nat.mod x 256) (Nat.mod y 256)then sltB a b else false)=_;rw[u8_lt,u8_eq,zOE a b];simp only[zV6,Op.bytesLess];by_cases h:UInt8.ofNat x<UInt8.ofNat y
  .simp[h]
  .by_cases h':UInt8.ofNat x=UInt8.ofNat y<;>simp[h,h']
theorem zFP(b:ByteArray):∀(n i:Nat)(a:List UInt8),b.size-i=n->ByteArray.toList.loop b i a=a.reverse++b.data.toList.drop i:=by
 have g:b.size=b.data.toList.length:=by rw[zWi];rfl
 intro n
 induction n with
 |zero=>
  intro i a d;unfold ByteArray.toList.loop;rw[if_neg (by omega),zYe (by omega),zWc]
 |succ n f=>
  intro i a d;unfold ByteArray.toList.loop;have hi:i<b.data.toList.length:=by omega
  rw[if_pos (by omega),f _ _ (by omega),zWn hi];have e:b.get! i=b.data.toList[i]:=by
   show b.data[i]! = _;have c:i<b.data.size:=by rw[<-zWi];exact hi
   rw[zYm b.data i c,Array.getElem_toList]
  rw[e,List.reverse_cons,zXT];rfl
theorem zCc(s:List Nat):(bts s).toList=s.map UInt8.ofNat:=by
 have:=zFP (bts s) _ 0 [] rfl;rw[zWg,List.reverse_nil,zWR]at this;exact this
theorem zP5(a b:List Nat):bts a++bts b=bts (a++b):=by
 apply zYS;simp[bts,ByteArray.data_append]
theorem ki(a:List Nat):(bts a).size=a.length:=by simp[bts,ByteArray.size]
section
variable{P:Program}{B:Bs}{N:NM}{S:XS}{w:World}{D:Dat}
def mkI(k:IntKind)(n:Int)(K:T->Bool):Bool:=fI n λn=>K (.int k n)
def mkB(b:Bool)(K:T->Bool):Bool:=fB b λb=>K (.bool b)
def xInt(c:BinOp)(k:IntKind)(a b:Int)(K:T->Bool):Bool:=
 match c with
 |.add=>mkI k (wr k (Int.add a b)) K
 |.sub=>mkI k (wr k (Int.sub a b)) K
 |.mul=>mkI k (wr k (Int.mul a b)) K
 |.quo=>bif ieqB b 0 then false else mkI k (wr k (Int.tdiv a b)) K
 |.rem=>bif ieqB b 0 then false else mkI k (Int.tmod a b) K
 |.eql=>mkB (ieqB a b) K
 |.neq=>mkB (!ieqB a b) K
 |.lss=>mkB (iltB a b) K
 |.leq=>mkB (!iltB b a) K
 |.gtr=>mkB (iltB b a) K
 |.geq=>mkB (!iltB a b) K
 |.and=>mkI k (k.wrap ((BitVec.ofInt k.bits a &&& BitVec.ofInt k.bits b).toNat)) K
 |.or=>mkI k (k.wrap ((BitVec.ofInt k.bits a ||| BitVec.ofInt k.bits b).toNat)) K
 |.xor=>mkI k (k.wrap ((BitVec.ofInt k.bits a ^^^ BitVec.ofInt k.bits b).toNat)) K
 |.andNot=>mkI k (k.wrap ((BitVec.ofInt k.bits a &&& ~~~ (BitVec.ofInt k.bits b)).toNat)) K
 |.shl=>bif iltB b 0 then false else mkI k (wr k (Int.mul a (Int.ofNat (Nat.pow 2 (min b.toNat k.bits))))) K
 |.shr=>bif iltB b 0 then false else mkI k (Int.fdiv a (Int.ofNat (Nat.pow 2 (min b.toNat k.bits)))) K
theorem zAJ(k:IntKind)(n:Int)(K:T->Bool):mkI k n K=K (.int k n):=by unfold mkI;rw[zK0]
theorem zEG(b:Bool)(K:T->Bool):mkB b K=K (.bool b):=by unfold mkB;rw[zBU]
def zPf:BinOp->Bool
 |.shl=>true
 |.shr=>true
 |_=>false
theorem zDg{b c:Bool}(h:(bif b then false else c)=true):b=false/\c=true:=by cases b<;>simp_all
theorem zVi{f:BinOp}{k g:IntKind}{a b:Int}{K:T->Bool}(h:xInt f k a b K=true)(j:Nat.beq (Kd k) (Kd g)=true\/zPf f=true)(t:TypeId) :
 ∃x,K x=true/\(Go.binOp f t (.int k a) (.int g b)).run P w=.ok (tr N x) w/\bd 0 x/\T.one x=true:=by
 have i:zPf f=false->k=g:=λl=>by
  rcases j with h|h
  .exact zH3 h
  .rw[l]at h;cases h
 have m:∀x y:Int,Int.add x y=x+y:=λ_ _=>rfl;have o:∀x y:Int,Int.sub x y=x-y:=λ_ _=>rfl;have p:∀x y:Int,Int.mul x y=x*y:=λ_ _=>rfl;have q:∀n:Nat,Int.ofNat (Nat.pow 2 n)=(2:Int) ^ n:=λn=>by
  show((2 ^ n:Nat):Int)=_;simp
 cases f<;>simp only[xInt,zAJ,zEG,zO6,m,o,p,q]at h
 case shl=>
  obtain⟨c,d⟩:=zDg h;rw[zBo]at c;have e:¬b<0:=by simpa using c
  exact⟨_,d,by simp[Go.binOp,Op.shift,e,tr],trivial,rfl⟩
 case shr=>
  obtain⟨c,d⟩:=zDg h;rw[zBo]at c;have e:¬b<0:=by simpa using c
  exact⟨_,d,by simp[Go.binOp,Op.shift,e,tr],trivial,rfl⟩
 all_goals obtain rfl:=i rfl
 case quo=>
  obtain⟨c,d⟩:=zDg h;rw[zCw]at c;have e:¬b=0:=by simpa using c
  exact⟨_,d,by simp[Go.binOp,Op.intDiv,e,tr],trivial,rfl⟩
 case rem=>
  obtain⟨c,d⟩:=zDg h;rw[zCw]at c;have e:¬b=0:=by simpa using c
  exact⟨_,d,by simp[Go.binOp,Op.intDiv,e,tr],trivial,rfl⟩
 case leq=>refine⟨_,h,?_,trivial,rfl⟩;simp only[zBo,Go.binOp,Op.intCmp,tr];simp[<-decide_not]
 case geq=>refine⟨_,h,?_,trivial,rfl⟩;simp only[zBo,Go.binOp,Op.intCmp,tr];simp[<-decide_not]
 all_goals exact⟨_,h,by simp[Go.binOp,Op.intArith,Op.intBits,Op.intCmp,zBo,zCw,tr,bne],trivial,rfl⟩
noncomputable def xStr(c:BinOp)(a b:List Nat)(K:T->Bool):Bool:=
 match c with
 |.add=>bif Nat.ble (a.length+b.length) 9223372036854775807 then appK a b λl=>K (.str l)else false
 |.eql=>mkB (seqB a b) K
 |.neq=>mkB (!seqB a b) K
 |.lss=>mkB (sltB a b) K
 |.leq=>mkB (sltB a b||seqB a b) K
 |.gtr=>mkB (!(sltB a b||seqB a b)) K
 |.geq=>mkB (!sltB a b) K
 |_=>false
theorem zVz{c:BinOp}{a b:List Nat}{K:T->Bool}(h:xStr c a b K=true)(t:TypeId) :
 ∃x,K x=true/\(Go.binOp c t (.string (bts a)) (.string (bts b))).run P w=.ok (tr N x) w/\bd 0 x/\T.one x=true:=by
 have e:((bts a).toList==(bts b).toList)=seqB a b:=by
  rw[kU,zCc,zCc,zYV];simp
 have f:Op.bytesLess (bts a).toList (bts b).toList=sltB a b:=by rw[zOE,zCc,zCc]
 cases c<;>simp only[xStr,zEG]at h
 case add=>
  obtain⟨g,d⟩:=zO h;rw[qh]at d;refine⟨_,d,?_,trivial,rfl⟩;have i:=zWF g;have:¬((((bts a).size+(bts b).size:Nat):Int) > IntKind.i64.max):=by
   rw[ki,ki];have:IntKind.i64.max=9223372036854775807:=by decide
   omega
  simp only[Go.binOp,Op.stringOp,if_neg this,tr,zP5];rfl
 all_goals first
  |cases h
  |exact⟨_,h,by simp[Go.binOp,Op.stringOp,e,f,tr],trivial,rfl⟩
noncomputable def zF9(D:Dat)(t:TypeId)(x i:T)(K:T->Bool):Bool:=
 match D.tt.get t with
 |some d=>(match d.u with
  |.string=>(match x with
   |.str s=>(match i with
    |.int _ m=>(match m with
     |.ofNat j=>nthK j s λb=>fN (Nat.mod b 256) λb=>K (.int .u8 (.ofNat b))
     |.negSucc _=>false)
    |_=>false)
   |_=>false)
  |.array n el=>(match D.tt.get el with
   |some e=>(match x with
    |.agg cs=>ixK i n λj=>zHy D el cs (j*e.sz) K
    |_=>false)
   |none=>false)
  |_=>false)
 |none=>false
theorem zKL(g:DOk P D)(G:HSim B N S w){t:TypeId}{x i:T}{K:T->Bool}(h:zF9 D t x i K=true)(o:bd S.nl x):FinS P N S w K (Instr.index t (tr N x) (tr N i)):=by
 unfold zF9 at h;split at h
 .rename_i d q;have p:=g.tt _ _ q;split at h
  .rename_i l;split at h
   .rename_i s;split at h
    .rename_i k m;split at h
     .rename_i j;obtain⟨b,c,f⟩:=zBw h;rw[zy]at f;refine finS  f ?_ trivial;have r:j<(bts s).size:=by rw[ki];exact(zW9.1 c).1
      have:(bts s)[j]?=some (UInt8.ofNat b):=by
       rw[getElem?_pos (bts s) j r];congr 1;obtain⟨H,u⟩:=zW9.1 c;show(bts s).data[j]'_=_;simp[bts,u]
      have v:(0:Int)<=Int.ofNat j:=by simp
      simp only[tr,Instr.index,asIntOf,Sem.run_bind,Sem.run_pure,Result.andThen_ok,p.run_und,l,if_pos v];show Sem.run P (match(bts s)[j]? with|some b=>_|none=>_) w=_;rw[this];simp[zYK];rfl
     .cases h
    .cases h
   .cases h
  .rename_i n el l;split at h
   .rename_i e z;have a:=g.tt _ _ z;split at h
    .rename_i cs;obtain⟨k,j,rfl,c,f⟩:=zDU h;obtain⟨y,e',A,C,E,F⟩:=zHV g f o.1 o.2 N;refine finS  A ?_ C;have:=zKA (P:=P) (w:=w) E F;simp only[tr,yQ,Instr.index,asIntOf,Sem.run_bind,Sem.run_pure,Result.andThen_ok,p.run_und,l,a.run_sz];rw[if_pos ⟨by simp,by simpa using c⟩];simp only[Sem.run_bind,a.run_sz,Result.andThen_ok];exact this
    .cases h
   .cases h
  .cases h
 .cases h
noncomputable def zDQ(x:T)(i:Nat)(K:T->Bool):Bool:=
 match x with
 |.tup vs=>nthK i vs K
 |_=>false
theorem zHE(d:HSim B N S w){x:T}{i:Nat}{K:T->Bool}(h:zDQ x i K=true)(b:bd S.nl x):FinS P N S w K (Instr.extract (tr N x) i):=by
 unfold zDQ at h;split at h
 .rename_i vs;obtain⟨y,a,c⟩:=zBw h;refine finS  c ?_ (zLo b a);simp[tr,yQ,Instr.extract,a]
 .cases h
noncomputable def zDX(D:Dat)(t:TypeId)(x:T)(K:T->Bool):Bool:=
 match D.tt.get t with
 |some d=>(match d.u with
  |.interface _=>false
  |_=>K (.ifc t x))
 |none=>false
theorem zG9(a:DOk P D)(f:HSim B N S w){t:TypeId}{x:T}{K:T->Bool}(h:zDX D t x K=true)(b:bd S.nl x):FinS P N S w K (Instr.makeInterface t (tr N x)):=by
 unfold zDX at h;split at h
 .rename_i d c;have e:=a.tt _ _ c;split at h
  .cases h
  .rename_i g;refine finS  h ?_ b;simp only[Instr.makeInterface,Sem.run_bind,e.run_und,Result.andThen_ok,tr];rfl
 .cases h
def xUn(a:UnOp)(x:T)(K:T->Bool):Bool:=
 match x with
 |.bool b=>(match a with|.not=>mkB (!b) K|_=>false)
 |.int k n=>(match a with
  |.neg=>mkI k (wr k (Int.sub 0 n)) K
  |.xor=>mkI k (k.wrap ((BitVec.ofInt k.bits (if k.signed then -1 else k.max) ^^^ BitVec.ofInt k.bits n).toNat)) K
  |_=>false)
 |_=>false
theorem zSL(b:HSim B N S w){a:UnOp}{x:T}{K:T->Bool}(h:xUn a x K=true):FinS P N S w K (Op.unary a (tr N x)):=by
 unfold xUn at h;split at h
 .split at h
  .rw[zEG]at h;exact finS  h (by simp[Op.unary,tr]) trivial
  .cases h
 .split at h
  .rw[zAJ,zO6]at h;refine finS  h ?_ trivial;have:∀x y:Int,Int.sub x y=x-y:=λ_ _=>rfl;simp[Op.unary,Op.intArith,tr,this]
  .rw[zAJ]at h;exact finS  h (by simp[Op.unary,Op.intBits,tr]) trivial
  .cases h
 .cases h
end
end
section
open Go.RowKit
section
variable{P:Program}{B:Bs}{N:NM}{S:XS}{w:World}{D:Dat}
def nlT:T->Nat×Bool
 |.sl _ _ _ _ _=>(1,false)
 |.slc _ _ _ _=>(1,false)
 |.ptr _ _=>(2,false)
 |.mp _=>(3,false)
 |.fn _ _ _=>(4,false)
 |.yl _=>(4,false)
 |.ifc _ _=>(5,false)
 |.atm v=>(match v with
  |.slice a _ _=>(match a with|none=>(1,true)|some _=>(0,false))
  |.pointer a=>(match a with|none=>(2,true)|some _=>(0,false))
  |.map a=>(match a with|none=>(3,true)|some _=>(0,false))
  |.nilFunc=>(4,true)
  |.nilIface=>(5,true)
  |_=>(0,false))
 |_=>(0,false)
def nlD:TypeDesc->Nat
 |.slice _=>1
 |.pointer _=>2
 |.map _ _=>3
 |.func _ _ _=>4
 |.interface _=>5
 |_=>9
noncomputable def xNil(D:Dat)(t:TypeId)(c:Bool)(x y:T)(κ:Bool->Bool):Bool:=
 match D.tt.get t with
 |some d=>(match nlT x,nlT y with
  |(k,a),(e,b)=>bif Nat.beq k e&&Nat.beq k (nlD d.u)&&(a||b)&&(c||!(a&&b))then fB (a&&b) κ else false)
 |none=>false
theorem zSQ{t:TypeId}{d:TypeDesc}(K:P.underlying t=some d){x y:T}{k:Nat}{a b:Bool}(o:nlT x=(k,a))(L:nlT y=(k,b))(j:k=nlD d)(M:(a||b)=true):(Op.equal t (tr N x) (tr N y)).run P w=.ok (a&&b) w:=by
 show(Op.equalIn (9999+1) t (tr N x) (tr N y)).run P w=_;generalize 9999=n;have p:∀(z:T)(q:Nat×Bool),nlT z=q->q.1≠0->q.1≠9->(q.1=1/\∃i l c,tr N z=.slice i l c/\i.isNone=q.2)\/(q.1=2/\∃i,tr N z=.pointer i/\i.isNone=q.2)\/(q.1=3/\∃i,tr N z=.map i/\i.isNone=q.2) \/
  (q.1=4/\((q.2=true/\tr N z=.nilFunc)\/(q.2=false/\∃f g h,tr N z=.func f g h)))\/(q.1=5/\((q.2=true/\tr N z=.nilIface)\/(q.2=false/\∃f g,tr N z=.iface f g))):=by
  intro z q O R U;subst O;cases z with
  |atm v=>
   cases v with
   |slice i _ _=>cases i<;>simp_all [nlT,tr]
   |pointer i=>cases i<;>simp_all [nlT,tr]
   |map i=>cases i<;>simp_all [nlT,tr]
   |_=>simp_all [nlT,tr]
  |_=>simp_all [nlT,tr]
 have s:k≠0:=by rw[j];cases d<;>simp[nlD]
 have u:k≠9:=by
  intro e;subst e;cases x with
  |atm v=>
   cases v with
   |slice i _ _=>cases i<;>simp[nlT]at o
   |pointer i=>cases i<;>simp[nlT]at o
   |map i=>cases i<;>simp[nlT]at o
   |_=>simp[nlT]at o
  |_=>simp[nlT]at o
 have G:=p x _ o s u;have H:=p y _ L s u;simp only at G H;unfold Op.equalIn;simp only[Sem.run_bind,run_underlying K,Result.andThen_ok];rcases G with⟨e,i,l,c,A,I⟩|⟨e,i,A,I⟩|⟨e,i,A,I⟩|⟨e,q⟩|⟨e,q⟩ <;>
  rcases H with⟨e',m,V,W,C,J⟩|⟨e',m,C,J⟩|⟨e',m,C,J⟩|⟨e',r⟩|⟨e',r⟩<;>try(rw[e]at e';simp at e';done)
 .rw[e]at j;cases d<;>simp[nlD]at j
  rw[A,C];cases i<;>cases m<;>simp_all
 .rw[e]at j;cases d<;>simp[nlD]at j
  rw[A,C];cases i<;>cases m<;>simp_all
 .rw[e]at j;cases d<;>simp[nlD]at j
  rw[A,C];cases i<;>cases m<;>simp_all
 .rw[e]at j;cases d<;>simp[nlD]at j
  rcases q with⟨E,q⟩|⟨E,f,g,h,q⟩<;>rcases r with⟨F,r⟩|⟨F,Q,g',h',r⟩<;>rw[q,r]<;>simp_all
 .rw[e]at j;cases d<;>simp[nlD]at j
  rcases q with⟨E,q⟩|⟨E,f,g,q⟩<;>rcases r with⟨F,r⟩|⟨F,Q,g',r⟩<;>rw[q,r]<;>simp_all
def zAg:Operand->Bool
 |.const _=>true
 |_=>false
theorem zJE{b:BinOp}{t:TypeId}{ox oy:Operand}{u v:Value}(h:Al.one u=true)(a:zAg oy=true\/¬(u=.nilIface/\v=.nilIface)):(eqGuard b t ox oy u v).run P w=.ok () w:=by
 by_cases c:u=.nilIface
 .subst c;by_cases d:v=.nilIface
  .subst d;rcases a with a|a
   .cases oy<;>first|cases a|skip
    unfold eqGuard;cases b<;>simp
   .exact absurd ⟨rfl,rfl⟩ a
  .unfold eqGuard;cases b<;>simp<;>cases v<;>first|(exact absurd rfl d)|simp
 .cases u<;>first|(exact absurd rfl c)|(simp[Al.one]at h;done)|skip
  all_goals
   unfold eqGuard;cases b<;>simp
def xBoo(c:BinOp)(a b:Bool)(K:T->Bool):Bool:=
 match c with
 |.eql=>mkB (a==b) K
 |.neq=>mkB (!(a==b)) K
 |_=>false
noncomputable def xCmp(D:Dat)(a:BinOp)(t:TypeId)(c:Bool)(x y:T)(K:T->Bool):Bool:=
 match a with
 |.eql=>xNil D t c x y λb=>K (.bool b)
 |.neq=>xNil D t c x y λb=>mkB (!b) K
 |_=>false
noncomputable def xBin(D:Dat)(e:BinOp)(t:TypeId)(c:Bool)(x y:T)(K:T->Bool):Bool:=
 match x with
 |.int k a=>(match y with
  |.int f b=>bif Nat.beq (Kd k) (Kd f)||zPf e then xInt e k a b K else false
  |_=>false)
 |.str a=>(match y with
  |.str b=>xStr e a b K
  |_=>false)
 |.bool a=>(match y with
  |.bool b=>(match D.tt.get t with
   |some d=>(match d.u with
    |.bool=>xBoo e a b K
    |_=>false)
   |none=>false)
  |_=>false)
 |x=>xCmp D e t c x y K
theorem zN3(n:DOk P D){t:TypeId}{c:Bool}{x y:T}{κ:Bool->Bool}(h:xNil D t c x y κ=true):∃b,κ b=true/\(∀(N:NM)(w:World),(Op.equal t (tr N x) (tr N y)).run P w=.ok b w)/\((nlT x).1≠0/\(nlT y).1=(nlT x).1)/\(c=true\/((nlT x).2&&(nlT y).2)=false):=by
 unfold xNil at h;split at h
 .rename_i d o;have p:=n.tt _ _ o;split at h;rename_i k a r b f g;obtain⟨j,l⟩:=zO h;rw[zBU]at l;simp only[zV5]at j;obtain⟨⟨⟨i,e⟩,q⟩,m⟩:=j;replace i:=beq_iff.1 i;replace e:=beq_iff.1 e;subst i;refine⟨_,l,λN w=>zSQ p.und f g e q,?_,?_⟩
  .rw[f,g];refine⟨?_,rfl⟩;show k≠0;rw[e];cases d.u<;>simp[nlD]
  .rw[f,g];rw[zXF,zXE]at m;exact m
 .cases h
theorem zSY{e:BinOp}{t:TypeId}{x y:T}(j:(nlT x).1≠0)(k:(nlT y).1≠0)(m:e=.eql\/e=.neq){b:Bool}(h:(Op.equal t (tr N x) (tr N y)).run P w=.ok b w):(Go.binOp e t (tr N x) (tr N y)).run P w=.ok (.bool (if e=.eql then b else !b)) w:=by
 have d:∀z:T,(nlT z).1≠0->(∃a l c,tr N z=.slice a l c)\/(∃a,tr N z=.pointer a)\/(∃a,tr N z=.map a)\/(∃f g h,tr N z=.func f g h)\/tr N z=.nilFunc\/(∃f g,tr N z=.iface f g)\/tr N z=.nilIface:=by
  intro z u;cases z with
  |atm v=>
   cases v with
   |slice i _ _=>simp[tr]
   |pointer i=>simp[tr]
   |map i=>simp[tr]
   |_=>simp_all [nlT,tr]
  |_=>simp_all [nlT,tr]
 have n:=d x j;have o:=d y k;rcases n with⟨a,l,c,q⟩|⟨a,q⟩|⟨a,q⟩|⟨f,g,A,q⟩|q|⟨f,g,q⟩|q<;>rw[q]at h ⊢ <;>
  rcases o with⟨a',C,E,r⟩|⟨a',r⟩|⟨a',r⟩|⟨p,g',s,r⟩|r|⟨p,g',r⟩|r<;>rw[r]at h ⊢ <;>
   rcases m with rfl|rfl<;>simp[Go.binOp,h]
theorem zBm{a:BinOp}{t:TypeId}{ox oy:Operand}{u v:Value}(b:Al.one u=true)(c:u≠.nilIface){s:Sem Value}{r:Result Value}(h:s.run P w=r):(do eqGuard a t ox oy u v;s:Sem Value).run P w=r:=by
 rw[Sem.run_bind,zJE b (.inr λe=>c e.1),Result.andThen_ok,h]
theorem zN8{c:BinOp}{t:TypeId}{x y:T}{ox oy:Operand}{b:Bool}(g:(Op.equal t (tr N x) (tr N y)).run P w=.ok b w)(a:(nlT x).1≠0/\(nlT y).1=(nlT x).1)(d:zAg oy=true\/((nlT x).2&&(nlT y).2)=false)(h:c=.eql\/c=.neq) :
 (do eqGuard c t ox oy (tr N x) (tr N y);Go.binOp c t (tr N x) (tr N y):Sem Value).run P w=.ok (.bool (if c=.eql then b else !b)) w:=by
 have i:Al.one (tr N x)=true:=by
  cases x with
  |atm v=>cases v<;>first|rfl|(simp[nlT]at a)
  |_=>first|rfl|(simp[nlT]at a)
 have j:zAg oy=true\/¬(tr N x=.nilIface/\tr N y=.nilIface):=by
  rcases d with d|d
  .exact .inl d
  .right;rintro⟨k,l⟩;have f:∀z:T,(nlT z).1≠0->tr N z=.nilIface->(nlT z).2=true:=by
    intro z m e;cases z with
    |atm v=>cases v<;>simp_all [tr,nlT]
    |_=>simp_all [tr,nlT]
   have:=f x a.1 k;have:=f y (by rw[a.2];exact a.1) l
   simp_all
 rw[Sem.run_bind,zJE i j,Result.andThen_ok];exact zSY a.1 (by rw[a.2];exact a.1) h g
theorem zV1(g:DOk P D)(i:HSim B N S w){c:BinOp}{t:TypeId}{x y:T}{ox oy:Operand}{K:T->Bool}(h:xCmp D c t (zAg oy) x y K=true):FinS P N S w K (do eqGuard c t ox oy (tr N x) (tr N y);Go.binOp c t (tr N x) (tr N y)):=by
 unfold xCmp at h;split at h
 .obtain⟨b,a,d,e,f⟩:=zN3 g h;exact finS  a (zN8 (d N w) e f (.inl rfl)) trivial
 .obtain⟨b,a,d,e,f⟩:=zN3 g h;rw[zEG]at a;exact finS  a (zN8 (d N w) e f (.inr rfl)) trivial
 .cases h
theorem zVj{t:TypeId}(e:P.underlying t=some .bool)(f:HSim B N S w){c:BinOp}{a b:Bool}{ox oy:Operand}{K:T->Bool}(h:xBoo c a b K=true):FinS P N S w K (do eqGuard c t ox oy (.bool a) (.bool b);Go.binOp c t (.bool a) (.bool b)):=by
 have d:(Op.equal t (.bool a) (.bool b)).run P w=.ok (a==b) w:=by
  show(Op.equalIn (9999+1) t (.bool a) (.bool b)).run P w=_;generalize 9999=n;unfold Op.equalIn;simp only[Sem.run_bind,run_underlying e,Result.andThen_ok,Sem.run_pure]
 unfold xBoo at h;split at h
 .rw[zEG]at h;exact finS  h (zBm rfl (by simp) (by simp only[Go.binOp,Sem.run_bind,d,Result.andThen_ok,Sem.run_pure,tr])) trivial
 .rw[zEG]at h;exact finS  h (zBm rfl (by simp) (by simp only[Go.binOp,Sem.run_bind,d,Result.andThen_ok,Sem.run_pure,tr])) trivial
 .cases h
theorem zOv(g:DOk P D)(i:HSim B N S w){c:BinOp}{t:TypeId}{x y:T}{ox oy:Operand}{K:T->Bool}(h:xBin D c t (zAg oy) x y K=true):FinS P N S w K (do eqGuard c t ox oy (tr N x) (tr N y);Go.binOp c t (tr N x) (tr N y)):=by
 cases x with
 |int k a=>
  simp only[xBin]at h;split at h
  .rename_i p b;obtain⟨j,l⟩:=zO h;rw[zXF]at j;obtain⟨z,d,e,f,_⟩:=zVi (P:=P) (N:=N) (w:=w) l j t;exact finS  d (zBm rfl (by simp[tr]) e) (qi (zWd _) _ f)
  .cases h
 |str a=>
  simp only[xBin]at h;split at h
  .rename_i b;obtain⟨z,d,e,f,_⟩:=zVz (P:=P) (N:=N) (w:=w) h t;exact finS  d (zBm rfl (by simp[tr]) e) (qi (zWd _) _ f)
  .cases h
 |bool a=>
  simp only[xBin]at h;split at h
  .rename_i b;split at h
   .rename_i q m;have n:=g.tt _ _ m;split at h
    .rename_i o;have:=n.und;rw[o]at this;exact zVj this i h
    .cases h
   .cases h
  .cases h
 |_=>exact zV1 g i h
end
end
section
open Go.RowKit
section
variable{P:Program}{B:Bs}{N:NM}{S:XS}{w:World}{D:Dat}
noncomputable def bndK(x:Option T)(d:Nat)(κ:Nat->Bool):Bool:=
 match x with
 |none=>κ d
 |some x=>(match x with
  |.int _ m=>(match m with
   |.ofNat j=>κ j
   |.negSucc _=>false)
  |_=>false)
theorem xl{x:Option T}{d:Nat}{κ:Nat->Bool}(h:bndK x d κ=true):∃j,κ j=true/\((x=none/\j=d)\/∃k,x=some (.int k (.ofNat j))):=by
 unfold bndK at h;split at h
 .exact⟨_,h,.inl ⟨rfl,rfl⟩⟩
 .split at h
  .split at h
   .exact⟨_,h,.inr ⟨_,rfl⟩⟩
   .cases h
  .cases h
theorem jM{k:IntKind}{j y:Nat}{c:BoundsCode}(h:j<=y):(Instr.sliceBound (.int k (Int.ofNat j)) y c).run P w=.ok j w:=by
 simp[Instr.sliceBound,asIntOf,h]
theorem zAS{b:Bool}{len cap:Nat}{lo hi mx:Option T}{q h m:Nat}(f:(lo=none/\q=0)\/∃k,lo=some (.int k (.ofNat q)))(g:(hi=none/\h=len)\/∃k,hi=some (.int k (.ofNat h)))(i:(mx=none/\m=cap)\/∃k,mx=some (.int k (.ofNat m)))
 (a:hi=none->mx=none) (d:q<=h) (c:hi≠none->h<=m) (e:m<=cap):(Instr.sliceBounds b len cap (lo.map (tr N)) (hi.map (tr N)) (mx.map (tr N))).run P w=.ok (q,h,m) w:=by
 unfold Instr.sliceBounds;rcases i with⟨rfl,rfl⟩|⟨j,rfl⟩<;>rcases g with⟨rfl,rfl⟩|⟨l,rfl⟩<;>rcases f with⟨rfl,rfl⟩|⟨n,rfl⟩ <;>
  simp only[zYJ,zXC,tr,Sem.run_bind,Sem.run_pure,Result.andThen_ok]
 .rw[jM d];simp
 .rw[jM (c (by simp))];simp
 .rw[jM (c (by simp))];simp only[Result.andThen_ok];rw[jM d];simp
 .exact absurd (a rfl) (by simp)
 .exact absurd (a rfl) (by simp)
 .rw[jM e];simp only[Result.andThen_ok];rw[jM (c (by simp))];simp
 .rw[jM e];simp only[Result.andThen_ok];rw[jM (c (by simp))];simp only[Result.andThen_ok];rw[jM d];simp
noncomputable def grK(S:XS)(l z:Nat)(κ:List T->Nat->Nat->Bool):Bool:=
 match S.h.get l with
 |some ob=>(match ob with
  |.row g cs a el=>bif Nat.blt 0 g&&Nat.beq g z then κ cs a el else false
  |_=>false)
 |none=>false
theorem zCH(e:HSim B N S w){l z:Nat}{κ:List T->Nat->Nat->Bool}(h:grK S l z κ=true):∃cs a arr el hi,κ cs a el=true/\S.h.get l=some (.row z cs a el)/\0<z/\w.heap[N.bl l]?=some (.cells arr el (0,hi))/\hi<=a/\cs.length<=arr.size/\arr.toList.take cs.length=cs.map (tr N)/\bds S.nl cs/\ones cs/\arr.size=N.cp l*z:=by
 unfold grK at h;split at h
 .rename_i ob c;split at h
  .rename_i g cs a el;obtain⟨b,f⟩:=zO h;simp only[zV5]at b;have i:=blt_iff.1 b.1;have j:=beq_iff.1 b.2;subst j;obtain⟨arr,hi,k,m,n,o,⟨p,q⟩,d⟩:=e.ok l _ c;rw[if_neg (by omega)]at d;exact⟨cs,a,arr,el,hi,f,c,i,k,m,n,o,p,q,d⟩
  .cases h
 .cases h
noncomputable def zGI(D:Dat)(S:XS)(t:TypeId)(x:T)(lo hi mx:Option T)(K:T->Bool):Bool:=
 match D.tt.get t with
 |some d=>(match d.u with
  |.string=>(match x with
   |.str s=>(match mx with
    |none=>bndK lo 0 λq=>bndK hi s.length λh=>bif Nat.ble q h&&Nat.ble h s.length then zBI (h-q) (drpL q s) λr=>K (.str r)else false
    |some _=>false)
   |_=>false)
  |.slice el=>(match D.tt.get el with
   |some e=>(match x with
    |.slc l o n c=>bif hi.isSome||mx.isNone then bndK mx c λm=>bndK hi n λh=>bndK lo 0 λq=>bif Nat.ble m c&&Nat.ble h m&&Nat.ble q h then fN (bif Nat.beq m q then o else o+q*e.sz) λo'=>fN (h-q) λb=>fN (m-q) λf=>K (.slc l o' b f)else false else false
    |.sl l z a p n=>(match mx with
     |none=>bndK hi n λh=>bndK lo 0 λq=>grK S l z λcs _ _=>bif Nat.beq z e.sz&&Nat.ble ((a+h)*z) cs.length&&Nat.ble q h then fN (a+q) λa'=>fN (bif Nat.beq q 0 then p else a) λg=>fN (h-q) λb=>K (.sl l z a' g b)else false
     |some m=>bif hi.isSome then bndK (some m) 0 λm=>bndK hi n λh=>bndK lo 0 λq=>grK S l z λcs _ _=>bif Nat.beq z e.sz&&Nat.ble ((a+m)*z) cs.length&&Nat.ble h m&&Nat.ble q h&&(Nat.blt 0 m||Nat.beq a p)then fN (bif Nat.beq m q then a*z else a*z+q*z) λo'=>fN (h-q) λb=>fN (m-q) λf=>K (.slc l o' b f)else false else false)
    |.atm v=>(match v with
     |.slice none 0 0=>bif hi.isSome||mx.isNone then bndK mx 0 λm=>bndK hi 0 λh=>bndK lo 0 λq=>bif Nat.beq m 0&&Nat.beq h 0&&Nat.beq q 0 then K (.atm (.slice none 0 0))else false else false
     |_=>false)
    |_=>false)
   |none=>false)
  |.array n el=>(match D.tt.get el with
   |some e=>(match x with
    |.ptr l o=>bif hi.isSome||mx.isNone then bndK mx n λm=>bndK hi n λh=>bndK lo 0 λq=>bif Nat.ble m n&&Nat.ble h m&&Nat.ble q h then fN (bif Nat.beq m q then o else o+q*e.sz) λo'=>fN (h-q) λb=>fN (m-q) λf=>K (.slc l o' b f)else false else false
    |_=>false)
   |none=>false)
  |_=>false)
 |none=>false
theorem zGY(a b x y:Nat):(bif Nat.beq a b then x else y)=if a=b then x else y:=by
 by_cases h:a=b
 .subst h;have:Nat.beq a a=true:=beq_iff.2 rfl;rw[this,if_pos rfl];rfl
 .rw[zKJ h,if_neg h];rfl
theorem zLM{hi mx:Option T}(h:(hi.isSome||mx.isNone)=true):hi=none->mx=none:=by
 intro e;subst e;simpa using h
theorem zNO(s:List Nat)(q h:Nat):(bts s).extract q h=bts ((s.drop q).take (h-q)):=by
 apply zYS;simp only[bts,zZF];apply zXK;simp[zX6,zXr,zX9]
theorem zKU(W:DOk P D)(hs:HSim B N S w){t:TypeId}{x:T}{lo hi mx:Option T}{K:T->Bool}(h:zGI D S t x lo hi mx K=true)(V:bd S.nl x) :
 FinS P N S w K (Instr.sliceAt t (tr N x) (lo.map (tr N)) (hi.map (tr N)) (mx.map (tr N))):=by
 unfold zGI at h;split at h
 .rename_i d hd;have L:=W.tt _ _ hd;split at h
  .rename_i H;split at h
   .rename_i s;split at h
    .obtain⟨q,y,A⟩:=xl h;obtain⟨e,C,O⟩:=xl y;obtain⟨F,g⟩:=zO C;simp only[zV5]at F;have j:=zWF F.1;have h6:=zWF F.2;obtain⟨_,h8⟩:=jC _ _ _ g;rw[jp]at h8;refine finS  h8 ?_ trivial;have f:=zAS (P:=P) (N:=N) (w:=w) (b:=false) (len:=s.length) (cap:=s.length) (mx:=none) (m:=s.length) A O (.inl ⟨rfl,rfl⟩) (λ_=>rfl) j (λ_=>h6) (zV7 _);simp only[Instr.sliceAt,Sem.run_bind,L.run_und,Result.andThen_ok,H,tr,Instr.slice,zYJ,Option.isSome_none,zWO,zWA,ki];simp only[zYJ]at f;rw[f];simp[zNO]
    .cases h
   .cases h
  .rename_i el H;split at h
   .rename_i e O;have u:=W.tt _ _ O;split at h
    .rename_i l o n c;obtain⟨r,h⟩:=zO h;obtain⟨m,y,G⟩:=xl h;obtain⟨M,C,i⟩:=xl y;obtain⟨q,F,A⟩:=xl C;obtain⟨g,j⟩:=zO F;simp only[zV5]at g;simp only[zy,zGY]at j;have f:=zAS (P:=P) (N:=N) (w:=w) (b:=true) A i G (zLM r) (zWF g.2) (λ_=>zWF g.1.2) (zWF g.1.1);refine finS  j ?_ V;simp only[Instr.sliceAt,Sem.run_bind,L.run_und,Result.andThen_ok,H,tr,Instr.slice,f,u.run_sz,Sem.run_pure];congr 2;split<;>simp[z7]
    .rename_i l z a p n;split at h
     .obtain⟨M,y,i⟩:=xl h;obtain⟨q,C,A⟩:=xl y;obtain⟨cs,fz,arr,X,Y,Z,g2,g3,g4,g5,g6,g7,g8,g9,aa⟩:=zCH hs C;obtain⟨g,j⟩:=zO Z;simp only[zV5]at g;simp only[zy,zGY]at j;have Q:=beq_iff.1 g.1.1;have I:=zWF g.1.2;have E:=zWF g.2;have ab:a+M<=N.cp l:=zXh (by omega:(a+M)*z<=N.cp l*z) g3;have f:=zAS (P:=P) (N:=N) (w:=w) (b:=true) (len:=n) (cap:=N.cp l-a) (mx:=none) A i (.inl ⟨rfl,rfl⟩) (λ_=>rfl) E (λ_=>by omega) (zV7 _);refine finS  j ?_ V;simp only[zYJ]at f ⊢;simp only[Instr.sliceAt,Sem.run_bind,L.run_und,Result.andThen_ok,H,tr,Instr.slice,f,u.run_sz,Sem.run_pure];congr 2
      .by_cases R:q=0
       .subst R;simp only[zX2,zW0,zWE,z7];split<;>simp[z7]
       .have ac:¬N.cp l=a:=by omega
        rw[if_neg ac,if_neg R];by_cases hc:N.cp l=a+q
        .rw[if_pos hc,if_pos (by omega)]
        .rw[if_neg hc,if_neg (by omega)];simp[z7,<-Q,zWs]
      .omega
     .rename_i mm;obtain⟨r,h⟩:=zO h;obtain⟨m,h0,G⟩:=xl h;obtain⟨M,y,i⟩:=xl h0;obtain⟨q,C,A⟩:=xl y;obtain⟨cs,fz,arr,X,Y,Z,g2,g3,g4,g5,g6,g7,g8,g9,aa⟩:=zCH hs C;obtain⟨g,j⟩:=zO Z;simp only[zV5]at g;simp only[zy,zGY]at j;obtain⟨⟨⟨⟨Q,I⟩,J⟩,E⟩,v⟩:=g;replace Q:=beq_iff.1 Q;replace I:=zWF I;replace J:=zWF J;replace E:=zWF E;have ab:a+m<=N.cp l:=zXh (by omega:(a+m)*z<=N.cp l*z) g3;have ad:(some mm=none/\m=N.cp l-a)\/∃k,some mm=some (.int k (.ofNat m)):=by
       rcases G with⟨e,_⟩|G
       .cases e
       .exact .inr G
      have f:=zAS (P:=P) (N:=N) (w:=w) (b:=true) (len:=n) (cap:=N.cp l-a) (mx:=some mm) A i ad (λe=>by subst e;simp at r) E (λ_=>J) (by omega);refine finS  j ?_ V;simp only[Instr.sliceAt,Sem.run_bind,L.run_und,Result.andThen_ok,H,tr,Instr.slice,f,u.run_sz,Sem.run_pure];congr 2;have U:(if N.cp l=a then p*z else a*z)=a*z:=by
       split
       .rename_i e1;rw[zXF]at v;rcases v with v|v
        .have:=blt_iff.1 v;omega
        .rw[beq_iff.1 v]
       .rfl
      rw[U];split<;>simp[z7,<-Q]
    .split at h
     .obtain⟨r,h⟩:=zO h;obtain⟨m,y,G⟩:=xl h;obtain⟨M,C,i⟩:=xl y;obtain⟨q,F,A⟩:=xl C;obtain⟨g,j⟩:=zO F;simp only[zV5]at g;have e1:=beq_iff.1 g.1.1;have e2:=beq_iff.1 g.1.2;have e3:=beq_iff.1 g.2;subst e1;subst e2;subst e3;have f:=zAS (P:=P) (N:=N) (w:=w) (b:=true) (len:=0) (cap:=0) A i G (zLM r) (zV7 _) (λ_=>zV7 _) (zV7 _);refine finS  j ?_ rfl;simp only[Instr.sliceAt,Sem.run_bind,L.run_und,Result.andThen_ok,H,tr,Instr.slice,f,u.run_sz,Sem.run_pure];simp
     .cases h
    .cases h
   .cases h
  .rename_i n el H;split at h
   .rename_i e O;have u:=W.tt _ _ O;split at h
    .rename_i l o;obtain⟨r,h⟩:=zO h;obtain⟨m,y,G⟩:=xl h;obtain⟨M,C,i⟩:=xl y;obtain⟨q,F,A⟩:=xl C;obtain⟨g,j⟩:=zO F;simp only[zV5]at g;simp only[zy,zGY]at j;have f:=zAS (P:=P) (N:=N) (w:=w) (b:=false) A i G (zLM r) (zWF g.2) (λ_=>zWF g.1.2) (zWF g.1.1);refine finS  j ?_ V;simp only[Instr.sliceAt,Sem.run_bind,L.run_und,Result.andThen_ok,H,tr,f,u.run_sz,Sem.run_pure,Instr.sureAddr];congr 2;split<;>simp[z7]
    .cases h
   .cases h
  .cases h
 .cases h
end
end
section
open Go.RowKit
section
variable{P:Program}{B:Bs}{N:NM}{S:XS}{w:World}{D:Dat}
noncomputable def bytK(s:List Nat):(List T->Bool)->Bool:=
 List.rec (motive:=λ_=>(List T->Bool)->Bool) (λκ=>κ []) (λb _ a κ=>fN (Nat.mod b 256) λn=>a λr=>κ (.int .u8 (.ofNat n)::r)) s
theorem zOU:∀(s:List Nat)(κ:List T->Bool),bytK s κ=κ (s.map λb=>.int .u8 (.ofNat (b % 256)))
 |[],_=>rfl
 |b::r,κ=>by
  show(fN (Nat.mod b 256) λn=>bytK r λq=>κ (.int .u8 (.ofNat n)::q))=_;rw[zy,zOU r];rfl
noncomputable def srcK(S:XS)(sz:Nat)(x:T)(κ:Nat->List T->Bool):Bool:=
 match x with
 |.atm v=>(match v with
  |.slice none 0 _=>κ 0 []
  |_=>false)
 |.slc l o n _=>rdK S l λcs=>zBI (n*sz) (drpL o cs) λr=>κ n r
 |.sl l z a _ n=>bif Nat.beq z sz then(bif Nat.beq n 0 then κ 0 []else grK S l z λcs _ _=>zBI (n*z) (drpL (a*z) cs) λr=>κ n r)else false
 |_=>false
theorem zUW(v:HSim B N S w){sz:Nat}{x:T}{κ:Nat->List T->Bool}(h:srcK S sz x κ=true){y e':TypeId}(q:P.underlying y=some (.slice e')):∃n cs,κ n cs=true/\bds S.nl cs/\ones cs/\Src P sz y (tr N x) n (cs.map (tr N)) w:=by
 unfold srcK at h;split at h
 .split at h
  .exact⟨0,[],h,trivial,rfl,Src.ofNil w q _⟩
  .cases h
 .rename_i l o n c;obtain⟨cs,arr,el,m,F,_,G,Y,A,H,I⟩:=zF5 v h;obtain⟨r,g⟩:=jC _ _ _ F;rw[jp]at r g;have i:=jz (zAD H o) (n*sz);have d:=jT (jr I o) (n*sz);refine⟨n,_,g,i,d,Src.ofSlice w q ⟨N.bl l,o,none⟩ n c _ (by rw[zWG,zWT];omega) (λj u b=>?_) (zGW i d)⟩;rw[z7];have f:(cs.map (tr N)).length=cs.length:=by simp
  rw[<-f]at A;refine zAT G A _ ?_;rw[zWM,zWb]at b;split at b
  .rw[zXG]at b;rw[zWM];exact b
  .cases b
 .rename_i l z a p n;obtain⟨s,h'⟩:=zO h;clear h;replace s:=beq_iff.1 s;subst s;have h:=h';clear h';cases k:Nat.beq n 0 with
  |true=>
   rw[k,zWQ]at h;have:=beq_iff.1 k;subst this;exact⟨0,[],h,trivial,rfl,Src.ofSlice w q _ 0 _ [] (by simp) (λj u b=>by simp at b) (λu J=>by cases J)⟩
  |false=>
   rw[k,zWH]at h;have K:n≠0:=λe=>by rw[beq_iff.2 e]at k;cases k
   obtain⟨cs,Z,arr,L,M,O,g2,Q,R,g5,g6,C,U,V,W⟩:=zCH v h;obtain⟨r,g⟩:=jC _ _ _ O;rw[jp]at r g;have i:=jz (zAD U (a*z)) (n*z);have d:=jT (jr V (a*z)) (n*z);have E:0<n*z:=Nat.mul_pos (by omega) Q;rw[zXL]at r;have X:a<N.cp l:=zXs (by omega:a*z<N.cp l*z);have t:¬N.cp l=a:=by omega
   refine⟨n,_,g,i,d,?_⟩;simp only[tr,if_neg t];refine Src.ofSlice w q ⟨N.bl l,a*z,none⟩ n _ _ (by rw[zWG,zWT,zXL];omega) (λj u b=>?_) (zGW i d);rw[z7];have f:(cs.map (tr N)).length=cs.length:=by simp
   rw[<-f]at C;refine zAT R C _ ?_;rw[zWM,zWb]at b;split at b
   .rw[zXG]at b;rw[zWM];exact b
   .cases b
 .cases h
theorem zVS{a:TypeId}(c:P.underlying a=some .string)(s:List Nat):Src P 1 a (.string (bts s)) s.length ((s.map λb=>T.int .u8 (.ofNat (b % 256))).map (tr N)) w:=by
 have:=Src.ofString (P:=P) w c (bts s);rw[ki]at this;have e:byteCells (bts s)=(s.map λb=>T.int .u8 (.ofNat (b % 256))).map (tr N):=by
  unfold byteCells;simp only[bts,zXD];apply zWx;intro b _;simp only[Function.comp,tr,zYK];rfl
 rw[e]at this;exact this
noncomputable def zP0(D:Dat)(S:XS)(sz:Nat)(a:TypeId)(x:T)(κ:Nat->List T->Bool):Bool:=
 match D.tt.get a with
 |some d=>(match d.u with
  |.slice _=>srcK S sz x κ
  |.string=>(match x with
   |.str s=>bif Nat.beq sz 1 then bytK s λr=>κ s.length r else false
   |_=>false)
  |_=>false)
 |none=>false
theorem zTE(i:DOk P D)(j:HSim B N S w){sz:Nat}{f:TypeId}{x:T}{κ:Nat->List T->Bool}(h:zP0 D S sz f x κ=true):∃n cs,κ n cs=true/\bds S.nl cs/\ones cs/\Src P sz f (tr N x) n (cs.map (tr N)) w:=by
 unfold zP0 at h;split at h
 .rename_i d k;have a:=(i.tt _ _ k).und;split at h
  .rename_i e' c;rw[c]at a;exact zUW j h a
  .rename_i c;rw[c]at a;split at h
   .rename_i s;obtain⟨l,g⟩:=zO h;have:=beq_iff.1 l;subst this;rw[zOU]at g;refine⟨_,_,g,?_,?_,zVS a s⟩
    .rw[zAu];intro y e;obtain⟨b,_,rfl⟩:=zWa.1 e;trivial
    .unfold ones;rw[zWL];intro y e;obtain⟨b,_,rfl⟩:=zWa.1 e;rfl
   .cases h
  .cases h
 .cases h
def okSz(n bytes:Nat):Bool:=Nat.ble (n*bytes) 140737488355328&&Nat.ble n 9223372036854775807
noncomputable def zEt(S:XS)(sz bytes n:Nat)(cs:List T)(a el:Nat)(K:T->XS->Bool):Bool:=
 bif okSz n bytes then newK S (.row sz cs a el) λl S=>K (.sl l sz 0 0 n) S else false
noncomputable def zerK(e:TD)(κ:Bool):Bool:=
 match e.zs with
 |some a=>bif Nat.beq a.length e.sz&&Nat.blt 0 e.sz then κ else false
 |none=>false
noncomputable def xApp(D:Dat)(S:XS)(t j:TypeId)(s x:T)(K:T->XS->Bool):Bool:=
 match D.tt.get t with
 |some d=>(match d.u with
  |.slice el=>(match D.tt.get el with
   |some e=>zerK e (zP0 D S e.sz j x λm b=>(match s with
    |.atm v=>(match v with
     |.slice none 0 0=>bif Nat.beq m 0 then K (.atm (.slice none 0 0)) S else zEt S e.sz e.bytes m b 0 el K
     |_=>false)
    |.slc l o n c=>bif Nat.ble (n+m) c then
     (match S.h.get l with
     |some ob=>(match ob with
      |.row g cs i f=>bif Nat.ble i (o+n*e.sz)then splK b (o+n*e.sz) cs λcs'=>Tr.setK (.row g cs' i f) 40 S.h l λh=>fN (n+m) λq=>K (.slc l o q c) ⟨h,S.nl⟩else false
      |_=>false)
     |none=>false)
     else rdK S l λcs=>zBI (n*e.sz) (drpL o cs) λold=>appK old b λr=>fN (n+m) λq=>zEt S e.sz e.bytes q r 0 el K
    |.sl l z a p n=>grK S l z λcs i f=>bif Nat.beq z e.sz&&Nat.ble (n*z) cs.length then
     (bif Nat.ble ((a+n+m)*z) cs.length&&Nat.blt 0 m then
      (bif Nat.ble i ((a+n)*z)then splK b ((a+n)*z) cs λcs'=>Tr.setK (.row z cs' i f) 40 S.h l λh=>fN (n+m) λq=>K (.sl l z a p q) ⟨h,S.nl⟩else false)
     else bif Nat.beq m 0 then(bif Nat.ble ((a+n)*z) cs.length then K (.sl l z a p n) S else false)
     else bif Nat.beq a 0&&Nat.beq p 0&&Nat.ble i (n*z)&&Nat.beq f el then zBI (n*z) cs λold=>appK old b λr=>Tr.setK .dead 40 S.h l λh=>fN (n+m) λq=>zEt ⟨h,S.nl⟩ z e.bytes q r i el K
     else false)else false
    |_=>false))
   |none=>false)
  |_=>false)
 |none=>false
theorem zUR{t:TypeId}{e:TD}(b:TOk P t e){κ:Bool}(h:zerK e κ=true):κ=true/\0<e.sz/\∃z,e.i.zero=some z/\z.cells.size=e.sz:=by
 unfold zerK at h;split at h
 .rename_i c d;obtain⟨a,f⟩:=zO h;simp only[zV5]at a;obtain⟨z,g,j,_,_⟩:=b.zs c d;have:=beq_iff.1 a.1;have:=blt_iff.1 a.2;have:=zWp List.length (j ⟨λ_=>0,λ_=>0⟩);simp at this;exact⟨f,by omega,z,g,by omega⟩
 .cases h
theorem zVJ{n bytes:Nat}(h:okSz n bytes=true):n*bytes<=140737488355328/\n<=9223372036854775807:=by
 unfold okSz at h;rw[zV5]at h;exact⟨zWF h.1,zWF h.2⟩
theorem zFr(w:World):w.drew.heap=w.heap:=rfl
theorem HSim.drew(h:HSim B N S w):HSim B N S w.drew:=h.same (λ_ _=>rfl) (zV7 _)
theorem zE9(h:HSim B N S w):Stp B N S w N S w.drew:=.stay h.drew (λ_ _=>rfl) ⟨rfl,rfl,rfl,zV7 _,λ_ _=>rfl⟩
theorem zC3{t el ty u:TypeId}{e:TD}(J:P.underlying t=some (.slice el))(f:TOk P el e){z:Value}(L:e.i.zero=some z)(v:z.cells.size=e.sz){base:Option Addr}{n m cap:Nat}{old a:List T}{x:Value}(c:Src P e.sz u x m (a.map (tr N)) w)
 (j:(Builtin.firstCells e.sz n (.slice base n cap)).run P w.drew=.ok (old.map (tr N)).toArray w.drew) (y:old.length=n*e.sz) (F:cap<n+m) {k:XS} (p:HSim B N k w) (q:k.nl=S.nl) (d:∀l o,k.h.get l=some o->xL o=false->S.h.get l=some o) {M:Nat} {K:T->XS->Bool} (h:zEt k e.sz e.bytes (n+m) (old++a) M el K=true) (A:bds k.nl (old++a)) (O:ones (old++a)) (G:0<e.sz) :
 Fin P B N S w K (Builtin.append_ #[t,u] ty #[.slice base n cap,x]):=by
 unfold zEt at h;obtain⟨Q,R⟩:=zO h;obtain⟨U,h5⟩:=zVJ Q;have r:=f.sz;have C:=f.bytes;have V:=run_append_grow_src (P:=P) w t u ty el e.i z J f.info L base n cap (old.map (tr N)) (by rw[r];exact j) x m (a.map (tr N)) (by rw[r];exact c) F (by omega) (by rw[C];exact growslice_fits F U);have W:=grownCap_ge w (n+m) cap el;obtain⟨X,Y,g,Z⟩:=zBp (p.drew) R A O (Builtin.zeroCells z.cells (grownCap w (n+m) cap el-(n+m))).toList (grownCap w (n+m) cap el) (by
  rw[if_neg (by omega)];have e1:(Builtin.zeroCells z.cells (grownCap w (n+m) cap el-(n+m))).toList.length=(grownCap w (n+m) cap el-(n+m))*e.sz:=by rw[zWi,size_zeroCells,v]
  show(old++a).length+(Builtin.zeroCells z.cells (grownCap w (n+m) cap el-(n+m))).toList.length=grownCap w (n+m) cap el*e.sz;rw[e1,zWD,y];have:=c.newsLen;rw[zWG]at this;rw[this,<-zWs,<-zWs];congr 1;omega)
 refine⟨_,_,X,_,Y,?_,⟨by rw[<-q];exact g.ext,by rw[<-q];exact g.nl,g.sim,(zE9 p).bel.trans g.bel,λb A hn=>g.frm b A λl o E s=>hn l o (d l o E s) s,λl o E s=>(g.prov l o E s).imp id λ⟨H,o',a1,I,a3⟩=>⟨H,o',d H o' a1 I,I,a3⟩⟩,by simp only[bd,Z];omega⟩;rw[V];simp only[tr,NM.add_bl,NM.add_cp,zX2,zZR,zFr,ite_self];congr 2;congr 1;apply zXK;simp
end
end
section
open Go.RowKit
section
variable{P:Program}{B:Bs}{N:NM}{S:XS}{w:World}{D:Dat}
theorem zDy{t el ty h:TypeId}{e:TD}(k:P.underlying t=some (.slice el))(f:TOk P el e){i:Value}{m n cap:Nat}{c:List Value}(a:Src P e.sz h i m c w){b o:Nat}{w':World}(d:n+m<=cap)
 (g:(storeCells ⟨b,o+n*e.sz,none⟩ c).run P w=.ok () w'):(Builtin.append_ #[t,h] ty #[.slice (some ⟨b,o,none⟩) n cap,i]).run P w=.ok (.slice (some ⟨b,o,none⟩) (n+m) cap) w':=by
 rcases a.kind with⟨e',j⟩|j<;>simp[Builtin.append_,run_underlying k,run_underlying j,f.run_sz,a.len,d,a.cells,z7,g]
theorem zIp{t el ty d:TypeId}{e:TD}(h:P.underlying t=some (.slice el))(c:TOk P el e){f:Value}{m n cap:Nat}(a:Src P e.sz d f m [] w){base:Option Addr}(i:m=0)(b:n<=cap):(Builtin.append_ #[t,d] ty #[.slice base n cap,f]).run P w=.ok (.slice base n cap) w:=by
 subst i;rcases a.kind with⟨e',g⟩|g<;>cases base<;>simp[Builtin.append_,run_underlying h,run_underlying g,c.run_sz,a.len,b,a.cells,storeCells]
theorem Src.nil{sz:Nat}{b:TypeId}{c:Value}{a:List Value}(h:Src P sz b c 0 a w):a=[]:=zXa (by rw[h.newsLen];simp)
theorem zVb(A:HSim B N S w){t el ty t2:TypeId}{e:TD}(hu:P.underlying t=some (.slice el))(C:TOk P el e){z0:Value}(hz:e.i.zero=some z0)(V:z0.cells.size=e.sz)(s:0<e.sz){l n m O:Nat}{cs d:List T}(u:S.h.get l=some (.row e.sz cs O el))(ae:n*e.sz<=cs.length)(af:O<=n*e.sz)
 {ux:Value} (f:Src P e.sz t2 ux m (d.map (tr N)) w) (E:bds S.nl d) (F:ones d) {x:Tr HO} (G:∀j,x.get j=if j=l then some .dead else S.h.get j) {K:T->XS->Bool} (h:zEt ⟨x,S.nl⟩ e.sz e.bytes (n+m) (cs.take (n*e.sz)++d) O el K=true) :
 Fin P B N S w K (Builtin.append_ #[t,t2] ty #[tr N (.sl l e.sz 0 0 n),ux]):=by
 obtain⟨arr,hi,W,k2,k3,X,⟨k5,k6⟩,Y⟩:=A.ok l _ u;rw[if_neg (by omega)]at Y;have g:=A.low l _ u rfl;simp only[isRo,zWO,zWA]at g;have ag:n<=N.cp l:=zXh (by omega:n*e.sz<=N.cp l*e.sz) s;have Z:HSim B N ⟨x,S.nl⟩ w:=A.upd (o':=.dead) u rfl rfl rfl (λ_ _=>rfl) rfl trivial G;have y:bds S.nl (cs.take (n*e.sz)++d):=xC (jz k5 _) E;have H:ones (cs.take (n*e.sz)++d):=jf (jT k6 _) F;have ah:d.length=m*e.sz:=by have:=f.newsLen;simpa using this
 have r:tr N (.sl l e.sz 0 0 n)=.slice (some ⟨N.bl l,0,none⟩) n (N.cp l):=by simp[tr]
 rw[r];by_cases p:n+m<=N.cp l
 . -- in its place
   unfold zEt at h;obtain⟨h2,h3⟩:=zO h;unfold newK at h3;rw[zy]at h3;obtain⟨h',h4,h5⟩:=Tr.setK_ok _ _ _ _ _ h3;rw[zy]at h4;have ad:n*e.sz+m*e.sz<=arr.size:=by rw[Y,<-zWs];exact zWt _ p
   have I:=run_storeCells_atF P (N.bl l) (n*e.sz) el (0,hi) (d.map (tr N)) 0 arr w W (by simp;omega) (by simp;omega) (zGW E F);simp only[zW0]at I
   let arr':=(arr.toList.take (n*e.sz)++d.map (tr N)++arr.toList.drop (n*e.sz+(d.map (tr N)).length)).toArray
   have q:arr'.size=arr.size:=by simp[arr'];omega
   have J:=zDy (ty:=ty) hu C f (b:=N.bl l) (o:=0) p (by rw[zWP];exact I);have aa:HSim B N ⟨x,S.nl⟩ (w.setRow (N.bl l) arr'):=A.upd (o':=.dead) u rfl rfl rfl (λb hb=>setRow_other w _ b _ hb) (by simp) trivial G;have z:=setRow_heap w (N.bl l) arr arr' el (0,hi) W;have ab:=aa.name (b:=N.bl l) (c:=N.cp l) (o:=.row e.sz (cs.take (n*e.sz)++d) O el) g.1 (by simpa using g.2) rfl (λj o a Q e1=>by
    have ai:=a;replace a:x.get j=some o:=a;rw[G]at a;split at a
    .injection a with a;subst a;cases Q
    .rename_i L;exact L (A.inj j l o _ a u Q rfl e1)) (by
    rw[z];refine⟨arr',hi,rfl,k2,?_,?_,⟨yS (zWh _) _ y,H⟩,?_⟩
    .rw[q];simp;omega
    .rw[zC7 (N.ext_add _ _ _) y];have e2:(cs.take (n*e.sz)).map (tr N)=arr.toList.take (n*e.sz):=by rw[zXr,<-X,zX0];congr 1;omega
     rw[zWy,e2];have e3:(cs.take (n*e.sz)++d).length=(arr.toList.take (n*e.sz)++d.map (tr N)).length:=by simp;omega
     rw[e3];show(arr.toList.take (n*e.sz)++d.map (tr N)++arr.toList.drop (n*e.sz+(d.map (tr N)).length)).take _=_;rw[zYr]
    .rw[if_neg (by omega),NM.add_cp,q];exact Y) h5
   refine⟨_,_,_,_,h4,?_,⟨N.ext_add _ _ _,zWh _,ab,⟨rfl,rfl,rfl,by simp,λk hk=>setRow_other w _ k _ (by omega)⟩,λb _ hn=>setRow_other w _ b _ λe=>hn l _ u rfl e.symm,λj R a M=>by
    replace a:h'.get j=some R:=a;rw[h5]at a;split at a
    .rename_i e;subst e;exact .inr ⟨l,_,u,rfl,(NM.add_bl _ _ _ _).symm⟩
    .rename_i L;replace a:x.get j=some R:=a;have aj:=a;rw[G]at a;split at a
     .injection a with a;subst a;cases M
     .exact .inr ⟨j,R,a,M,((N.ext_add S.nl (N.bl l) (N.cp l)).bl j (A.lt j R a)).symm⟩⟩,by show S.nl<S.nl+1;omega⟩
   rw[J];simp[tr,NM.add_bl,NM.add_cp,arr']
 .refine zC3 (S:=S) hu C hz V f ?_ (by rw[zWT];omega) (by omega) Z rfl (λj o a Q=>by
   replace a:x.get j=some o:=a;rw[G]at a;split at a
   .injection a with a;subst a;cases Q
   .exact a) h y H s
  refine run_firstCells_some w.drew e.sz n ⟨N.bl l,0,none⟩ n (N.cp l) _ (by rw[zWG,zWT];omega) (λj v U=>?_);rw[z7,zWP];show w.cell? _=_;have ac:(cs.map (tr N)).length=cs.length:=by simp
  rw[<-ac]at X;refine zAT W X _ ?_;rw[zWM,zWb]at U;split at U
  .rw[zWM];exact U
  .cases U
theorem zVs(U:DOk P D)(E:HSim B N S w){t t2 ty:TypeId}{s x:T}{K:T->XS->Bool}(h:xApp D S t t2 s x K=true)(V:bd S.nl s):Fin P B N S w K (Builtin.append_ #[t,t2] ty #[tr N s,tr N x]):=by
 unfold xApp at h;split at h
 .rename_i d hd;have ht:=U.tt _ _ hd;split at h
  .rename_i el hu;have k:P.underlying t=some (.slice el):=by rw[ht.und,hu]
   split at h
   .rename_i e he;have f:=U.tt _ _ he;obtain⟨h0,H,z0,W,L⟩:=zUR f h;clear h;obtain⟨m,X,i,r,u,b⟩:=zTE U E h0;clear h0;have ai:X.length=m*e.sz:=by have:=b.newsLen;simpa using this
    split at i
    . -- nil
      split at i
      .cases G:Nat.beq m 0 with
       |true=>
        rw[G,zWQ]at i;have:=beq_iff.1 G;subst this;rw[Src.nil b]at b;exact qb E i (zIp k f b rfl (zV7 _)) rfl
       |false=>
        rw[G,zWH]at i;have Y:m≠0:=λe=>by rw[beq_iff.2 e]at G;cases G
        exact zC3 (S:=S) (n:=0) (old:=[]) k f W L b (run_firstCells_none _ _ _ _ _) (by simp) (by omega) E rfl (λ_ _ Z _=>Z) (by simpa using i) r u H
      .cases i
    . -- known
      rename_i l o n c;cases y:Nat.ble (n+m) c with
      |true=>
       rw[y,zWQ]at i;have A:=zWF y;split at i
       .rename_i ob ho;split at i
        .rename_i g cs fz aj;obtain⟨M,C⟩:=zO i;obtain⟨q,F⟩:=zAv _ _ _ _ C;obtain⟨h',I,J⟩:=Tr.setK_ok _ _ _ _ _ F;rw[zy]at I;obtain⟨w',r1,r2⟩:=zC6 (P:=P) E ho r u (zWF M) q J;exact⟨_,N,_,w',I,zDy k f b A r1,r2,V⟩
        .cases i
       .cases i
      |false=>
       rw[y,zWH]at i;have ak:¬n+m<=c:=λh'=>by rw[show Nat.ble (n+m) c=true from by simpa using h']at y;cases y
       obtain⟨cs,arr,aa,mm,M,_,C,q,F,I,J⟩:=zF5 E i;obtain⟨O,Q⟩:=jC _ _ _ M;rw[jp]at O Q;rw[qh,zy]at Q;have ab:=jz (zAD I o) (n*e.sz);have ac:=jT (jr J o) (n*e.sz);refine zC3 (S:=S) k f W L b ?_ (by rw[zWT];omega) (by omega) E rfl (λ_ _ Z _=>Z) Q (xC ab r) (jf ac u) H;refine run_firstCells_some w.drew e.sz n ⟨N.bl l,o,none⟩ n c _ (by rw[zWG,zWT];omega) (λj v R=>?_);rw[z7];show w.cell? _=_;have ad:(cs.map (tr N)).length=cs.length:=by simp
       rw[<-ad]at F;refine zAT C F _ ?_;rw[zWM,zWb]at R;split at R
       .rw[zXG]at R;rw[zWM];exact R
       .cases R
    . -- growing
      rename_i l z a p n;obtain⟨cs,fz,arr,aa,al,g1,g2,g3,g4,g5,g6,g7,g8,g9,am⟩:=zCH E i;obtain⟨M,C⟩:=zO g1;rw[zV5]at M;have ae:=beq_iff.1 M.1;have af:=zWF M.2;subst ae;cases y:(Nat.ble ((a+n+m)*e.sz) cs.length&&Nat.blt 0 m)with
      |true=>
       rw[y,zWQ]at C;rw[zV5]at y;have A:=zWF y.1;have Y:=blt_iff.1 y.2;obtain⟨q,F⟩:=zO C;obtain⟨I,J⟩:=zAv _ _ _ _ F;obtain⟨h',O,Q⟩:=Tr.setK_ok _ _ _ _ _ J;rw[zy]at O;obtain⟨w',r1,r2⟩:=zC6 (P:=P) E g2 r u (zWF q) I Q;have ag:a+n+m<=N.cp l:=zXh (by omega:(a+n+m)*e.sz<=N.cp l*e.sz) g3;have ah:¬N.cp l=a:=by omega
       refine⟨_,N,_,w',O,?_,r2,V⟩;simp only[tr,if_neg ah];exact zDy k f b (by omega) (by rw[<-zWs];exact r1)
      |false=>
       rw[y,zWH]at C;cases G:Nat.beq m 0 with
       |true=>
        rw[G,zWQ]at C;have:=beq_iff.1 G;subst this;rw[Src.nil b]at b;obtain⟨q,F⟩:=zO C;have I:=zWF q;have ag:a+n<=N.cp l:=zXh (by omega:(a+n)*e.sz<=N.cp l*e.sz) g3;exact qb E F (zIp k f b rfl (by omega)) V
       |false=>
        rw[G,zWH]at C;obtain⟨q,F⟩:=zO C;simp only[zV5]at q;have ea:=beq_iff.1 q.1.1.1;have ep:=beq_iff.1 q.1.1.2;have et:=beq_iff.1 q.2;subst ea;subst ep;subst et;obtain⟨I,J⟩:=jC _ _ _ F;rw[qh]at J;obtain⟨an,O,Q⟩:=Tr.setK_ok _ _ _ _ _ J;rw[zy]at O;exact zVb E k f W L g3 g2 af (zWF q.1.2) b r u Q O
    .cases i
   .cases h
  .cases h
 .cases h
end
end
section
open Go.RowKit
section
variable{P:Program}{B:Bs}{N:NM}{S:XS}{w:World}{D:Dat}
noncomputable def wrK(S:XS)(l o:Nat)(xs:List T)(K:XS->Bool):Bool:=
 match S.h.get l with
 |some ob=>(match ob with
  |.row g cs a el=>bif Nat.ble a o then splK xs o cs λcs'=>Tr.setK (.row g cs' a el) 40 S.h l λh=>K ⟨h,S.nl⟩else false
  |_=>false)
 |none=>false
theorem zRP(b:HSim B N S w){l o:Nat}{xs:List T}{K:XS->Bool}(h:wrK S l o xs K=true)(c:bds S.nl xs)(d:ones xs):∃a w',K a=true/\(storeCells ⟨N.bl l,o,none⟩ (xs.map (tr N))).run P w=.ok () w'/\Stp B N S w N a w'/\a.nl=S.nl:=by
 unfold wrK at h;split at h
 .rename_i ob e;split at h
  .rename_i g cs r el;obtain⟨f,i⟩:=zO h;obtain⟨j,k⟩:=zAv _ _ _ _ i;obtain⟨h',m,n⟩:=Tr.setK_ok _ _ _ _ _ k;obtain⟨w',p,q⟩:=zC6 (P:=P) b e c d (zWF f) j n;exact⟨_,w',m,p,q,rfl⟩
  .cases h
 .cases h
def lenT:T->Option Nat
 |.atm v=>(match v with|.slice none n _=>some n|_=>none)
 |.slc _ _ n _=>some n
 |.sl _ _ _ _ n=>some n
 |_=>none
theorem zCs{x:T}{n:Nat}(h:lenT x=some n):∃a c,tr N x=.slice a n c:=by
 unfold lenT at h;split at h
 .split at h
  .injection h with h;subst h;exact⟨_,_,rfl⟩
  .cases h
 .injection h with h;subst h;exact⟨_,_,rfl⟩
 .injection h with h;subst h;exact⟨_,_,rfl⟩
 .cases h
noncomputable def xLen(D:Dat)(S:XS)(t:TypeId)(x:T)(K:T->Bool):Bool:=
 match D.tt.get t with
 |some d=>(match d.u with
  |.string=>(match x with|.str s=>mkI .i64 (.ofNat s.length) K|_=>false)
  |.slice _=>(match lenT x with|some n=>mkI .i64 (.ofNat n) K|none=>false)
  |.array n _=>mkI .i64 (.ofNat n) K
  |.map _ _=>(match x with
   |.atm v=>(match v with|.map none=>K (.int .i64 0)|_=>false)
   |.mp l=>(match S.h.get l with
    |some ob=>(match ob with|.mp es _=>mkI .i64 (.ofNat es.length) K|_=>false)
    |none=>false)
   |_=>false)
  |_=>false)
 |none=>false
theorem zOw(i:DOk P D)(j:HSim B N S w){t:TypeId}{x:T}{K:T->Bool}(h:xLen D S t x K=true)(b:List TypeId)(ty:TypeId):FinS P N S w K (Builtin.len_ (t::b).toArray ty #[tr N x]):=by
 unfold xLen at h;split at h
 .rename_i d m;have f:=i.tt _ _ m;split at h
  .rename_i a;split at h
   .rename_i s;rw[zAJ]at h;exact finS  h (by simp[Builtin.len_,f.run_und,a,goInt,tr,ki]) trivial
   .cases h
  .rename_i el a;split at h
   .rename_i n o;rw[zAJ]at h;obtain⟨u,c,e⟩:=zCs (N:=N) o;exact finS  h (by rw[e];simp[Builtin.len_,f.run_und,a,goInt,tr]) trivial
   .cases h
  .rename_i n el a;rw[zAJ]at h;exact finS  h (by simp[Builtin.len_,f.run_und,a,goInt,tr]) trivial
  .rename_i k el a;split at h
   .split at h
    .exact finS  h (by simp[Builtin.len_,f.run_und,a,goInt,tr]) trivial
    .cases h
   .rename_i l;split at h
    .rename_i ob p;split at h
     .rename_i es g;rw[zAJ]at h;obtain⟨arr,q,r,v⟩:=j.ok l _ p;refine finS  h ?_ trivial;have e:arr.size=es.length:=by rw[<-zWi,r];simp
      simp[Builtin.len_,f.run_und,a,goInt,tr,getObj,Sem.run,q,e]
     .cases h
    .cases h
   .cases h
  .cases h
 .cases h
noncomputable def celK(S:XS)(sz n:Nat)(x:T)(κ:List T->Bool):Bool:=
 bif Nat.beq n 0 then κ []else
 match x with
 |.slc l o _ _=>rdK S l λcs=>zBI (n*sz) (drpL o cs) κ
 |.sl l z a _ _=>bif Nat.beq z sz then grK S l z λcs _ _=>zBI (n*z) (drpL (a*z) cs) κ else false
 |_=>false
theorem zOc(t:HSim B N S w){sz n m:Nat}{x:T}{κ:List T->Bool}(h:celK S sz n x κ=true)(C:lenT x=some m):∃cs,κ cs=true/\bds S.nl cs/\ones cs/\cs.length=n*sz/\(Builtin.firstCells sz n (tr N x)).run P w=.ok (cs.map (tr N)).toArray w:=by
 unfold celK at h;cases f:Nat.beq n 0 with
 |true=>
  rw[f,zWQ]at h;have:=beq_iff.1 f;subst this;refine⟨[],h,trivial,rfl,by simp,?_⟩;obtain⟨q,c,e⟩:=zCs (N:=N) C;rw[e];cases q with
  |none=>exact run_firstCells_none _ _ _ _ _
  |some q=>exact run_firstCells_some w sz 0 q m c [] (by simp) (λj v E=>by simp at E)
 |false=>
  rw[f,zWH]at h;have F:n≠0:=λe=>by rw[beq_iff.2 e]at f;cases f
  split at h
  .rename_i l o k c;obtain⟨cs,arr,el,X,G,_,H,Y,u,I,J⟩:=zF5 t h;obtain⟨i,g⟩:=jC _ _ _ G;rw[jp]at i g;refine⟨_,g,jz (zAD I o) _,jT (jr J o) _,by rw[zWT];omega,?_⟩;refine run_firstCells_some w sz n ⟨N.bl l,o,none⟩ k c _ (by rw[zWG,zWT];omega) (λj v b=>?_);rw[z7];have d:(cs.map (tr N)).length=cs.length:=by simp
   rw[<-d]at u;refine zAT H u _ ?_;rw[zWM,zWb]at b;split at b
   .rw[zXG]at b;rw[zWM];exact b
   .cases b
  .rename_i l z a p k;obtain⟨r,h'⟩:=zO h;clear h;have r:=beq_iff.1 r;subst r;obtain⟨cs,Z,arr,K,L,M,g2,O,Q,g5,g6,y,R,U,V⟩:=zCH t h';obtain⟨i,g⟩:=jC _ _ _ M;rw[jp]at i g;have A:0<n*z:=Nat.mul_pos (by omega) O;refine⟨_,g,jz (zAD R _) _,jT (jr U _) _,by rw[zWT];omega,?_⟩;rw[zXL]at i;have W:a<N.cp l:=zXs (by omega:a*z<N.cp l*z);have s:¬N.cp l=a:=by omega
   simp only[tr,if_neg s];refine run_firstCells_some w z n ⟨N.bl l,a*z,none⟩ k _ _ (by rw[zWG,zWT,zXL];omega) (λj v b=>?_);rw[z7];have d:(cs.map (tr N)).length=cs.length:=by simp
   rw[<-d]at y;refine zAT Q y _ ?_;rw[zWM,zWb]at b;split at b
   .rw[zXG]at b;rw[zWM];exact b
   .cases b
  .cases h
noncomputable def wrsK(S:XS)(sz:Nat)(x:T)(xs:List T)(K:XS->Bool):Bool:=
 match xs with
 |[]=>K S
 |_::_=>(match x with
  |.slc l o _ _=>wrK S l o xs K
  |.sl l z a _ _=>bif Nat.beq z sz then grK S l z λcs _ _=>bif Nat.ble (a*z+xs.length) cs.length then wrK S l (a*z) xs K else false else false
  |_=>false)
theorem zUJ(f:HSim B N S w){sz:Nat}{x:T}{xs:List T}{K:XS->Bool}(h:wrsK S sz x xs K=true)(u:bds S.nl xs)(v:ones xs):∃b w',K b=true/\Stp B N S w N b w'/\b.nl=S.nl/\(∀d n c,tr N x=.slice (some d) n c->(storeCells d (xs.map (tr N))).run P w=.ok () w')/\(∀n c,tr N x=.slice none n c->w'=w/\xs=[]):=by
 unfold wrsK at h;split at h
 .exact⟨S,w,h,.refl f,rfl,λd n c e=>by simp[storeCells],λn c e=>⟨rfl,rfl⟩⟩
 .rename_i y ys;split at h
  .rename_i l o n c;obtain⟨b,w',g,i,j,k⟩:=zRP (P:=P) f h u v;refine⟨b,w',g,j,k,λd m q e=>?_,λm q e=>by simp[tr]at e⟩;simp only[tr]at e;injection e with e _ _
   injection e with e
   subst e;exact i
  .rename_i l z a p n;obtain⟨r,h'⟩:=zO h;clear h;have r:=beq_iff.1 r;subst r;obtain⟨cs,J,arr,A,C,E,L,M,O,Q,R,U,V,W,F⟩:=zCH f h';obtain⟨G,H⟩:=zO E;have s:=zWF G;obtain⟨b,w',g,i,j,k⟩:=zRP (P:=P) f H u v;refine⟨b,w',g,j,k,λd m q e=>?_,λm q e=>by simp[tr]at e⟩;have I:a<N.cp l:=zXs (by simp at s;omega:a*z<N.cp l*z);have t:¬N.cp l=a:=by omega
   simp only[tr,if_neg t]at e;injection e with e _ _
   injection e with e
   subst e;exact i
  .cases h
noncomputable def zPU(D:Dat)(S:XS)(t:TypeId)(x y:T)(K:T->XS->Bool):Bool:=
 match D.tt.get t with
 |some d=>(match d.u with
  |.slice el=>(match D.tt.get el with
   |some e=>(match lenT x,lenT y with
    |some n,some m=>celK S e.sz (min m n) y λcs=>wrsK S e.sz x cs λa=>mkI .i64 (.ofNat (min m n)) λv=>K v a
    |_,_=>false)
   |none=>false)
  |_=>false)
 |none=>false
theorem zTM(j:DOk P D)(k:HSim B N S w){t:TypeId}{x y:T}{K:T->XS->Bool}(h:zPU D S t x y K=true)(b:List TypeId)(ty:TypeId):Fin P B N S w K (Builtin.copy_ (t::b).toArray ty #[tr N x,tr N y]):=by
 unfold zPU at h;split at h
 .rename_i d r;have l:=j.tt _ _ r;split at h
  .rename_i el o;split at h
   .rename_i e s;have f:=j.tt _ _ s;split at h
    .rename_i n m u p;obtain⟨cs,v,z,A,J,g⟩:=zOc (P:=P) k h p;obtain⟨C,w',q,E,L,F,G⟩:=zUJ (P:=P) k v z A;rw[zAJ]at q;refine⟨_,N,C,w',q,?_,E,trivial⟩;obtain⟨i,c,ex⟩:=zCs (N:=N) u;obtain⟨H,M,I⟩:=zCs (N:=N) p;rw[I]at g ⊢;have a:Nat.min m n=min m n:=rfl;cases i with
     |some i=>
      have:=F i n c ex;rw[ex];simp[Builtin.copy_,l.run_und,o,Builtin.lenOf,f.run_sz,a,g,this,goInt,tr]
     |none=>
      obtain⟨rfl,rfl⟩:=G n c ex;rw[ex];simp[Builtin.copy_,l.run_und,o,Builtin.lenOf,f.run_sz,a,g,goInt,tr]
    .cases h
   .cases h
  .cases h
 .cases h
def xMin(x y:T)(K:T->Bool):Bool:=
 match x with
 |.int k a=>(match y with|.int _ b=>(bif iltB b a then K (.int k b)else K (.int k a))|_=>false)
 |_=>false
def xMax(x y:T)(K:T->Bool):Bool:=
 match x with
 |.int k a=>(match y with|.int _ b=>(bif iltB a b then K (.int k b)else K (.int k a))|_=>false)
 |_=>false
theorem zNy(e:HSim B N S w){x y:T}{K:T->Bool}(h:xMin x y K=true)(d:Array TypeId)(ty:TypeId):FinS P N S w K (Builtin.min_ d ty #[tr N x,tr N y]):=by
 unfold xMin at h;split at h
 .split at h
  .rename_i k a _ f b;rw[zBo]at h;by_cases c:b<a
   .simp only[c,zZG,zWQ]at h;exact finS  h (by simp[Builtin.min_,Builtin.min2,tr,c]) trivial
   .simp only[c,zY5,zWH]at h;exact finS  h (by simp[Builtin.min_,Builtin.min2,tr,c]) trivial
  .cases h
 .cases h
theorem zNr(e:HSim B N S w){x y:T}{K:T->Bool}(h:xMax x y K=true)(d:Array TypeId)(ty:TypeId):FinS P N S w K (Builtin.max_ d ty #[tr N x,tr N y]):=by
 unfold xMax at h;split at h
 .split at h
  .rename_i k a _ f b;rw[zBo]at h;by_cases c:a<b
   .simp only[c,zZG,zWQ]at h;exact finS  h (by simp[Builtin.max_,Builtin.max2,tr,c]) trivial
   .simp only[c,zY5,zWH]at h;exact finS  h (by simp[Builtin.max_,Builtin.max2,tr,c]) trivial
  .cases h
 .cases h
theorem zPK(vs:List Value):∀(a:Nat)(k:Nat)(b:Array Value),a+k+vs.length<=b.size ->
 ((vs.zipIdx k).foldl (λcs (c,j)=>cs.setIfInBounds (a+j) c) b).toList=b.toList.take (a+k)++vs++b.toList.drop (a+k+vs.length):=by
 induction vs with
 |nil=>intro a k b h;simp
 |cons v vs g=>
  intro a k b h;simp only[List.zipIdx_cons,zYW,zWC]at h ⊢;rw[g a (k+1) _ (by simp;omega)];apply zXz;intro j;simp only[zYv,zYA,zWD,zWT,zWb,zXG,zY0,zWi,zYI,zWC];have i:min (a+(k+1)) b.size=a+(k+1):=by omega
  have l:min (a+k) b.size=a+k:=by omega
  rw[i,l];by_cases d:j<a+k
  .simp[d,show j<a+(k+1)by omega,show j<a+(k+1)+vs.length by omega,show a+k≠j by omega,show j<a+k+(vs.length+1)by omega]
  .by_cases m:j=a+k
   .subst m;simp[show a+k<a+(k+1)by omega,show a+k<a+(k+1)+vs.length by omega,show a+k<b.size by omega]
   .by_cases f:j<a+(k+1)+vs.length
    .have e:j-(a+k)=(j-(a+(k+1)))+1:=by omega
     simp[d,f,show ¬j<a+(k+1)by omega,e,show j<a+k+(vs.length+1)by omega]
    .simp[d,f,show ¬j<a+(k+1)by omega,show ¬j<a+k+(vs.length+1)by omega,show a+k≠a+(k+1)+vs.length+(j-(a+(k+1)+vs.length))by omega];congr 1;omega
noncomputable def filK(pl:Nat->(Nat->Nat->Bool)->Bool)(ps:List (Nat×T)):List T->(List T->Bool)->Bool:=
 List.rec (motive:=λ_=>List T->(List T->Bool)->Bool) (λcs κ=>κ cs) (λp _ c cs κ=>pl p.1 λb a=>zGV p.2 λxs=>bif Nat.beq xs.length a then splK xs b cs λcs'=>c cs' κ else false) ps
theorem zEj{nl:Nat}{pl:Nat->(Nat->Nat->Bool)->Bool}{place:Nat->Option (Nat×Nat)}(a:∀i κ,pl i κ=true->∃o s,place i=some (o,s)/\κ o s=true)(N:NM):∀{ps:List (Nat×T)}{cs:List T}{κ:List T->Bool},filK pl ps cs κ=true->(∀p∈ps,bd nl p.2)->bds nl cs->ones cs ->
 ∃cs',κ cs'=true/\bds nl cs'/\ones cs'/\Instr.fill place (cs.map (tr N)).toArray (ps.map λp=>(p.1,tr N p.2))=some (cs'.map (tr N)).toArray
 |[],cs,κ,h,_,c,d=>⟨cs,h,c,d,rfl⟩
 |p::ps,cs,κ,h,j,c,d=>by
  obtain⟨o,s,k,l⟩:=a _ _ (show pl p.1 (λe b=>zGV p.2 λxs=>bif Nat.beq xs.length b then splK xs e cs λcs'=>filK pl ps cs' κ else false)=true from h);obtain⟨xs,m,n,r,t⟩:=zEw l (j p (by simp)) N;obtain⟨u,v⟩:=zO m;obtain⟨x,f⟩:=zAv _ _ _ _ v;obtain⟨cs',y,z,A,C⟩:=zEj a N f (λq E=>j q (by simp[E])) (xC (xC (jz c _) r) (zAD c _)) (jf (jf (jT d _) t) (jr d _));refine⟨cs',y,z,A,?_⟩;simp only[zV6,Instr.fill,k,n];have F:=beq_iff.1 u;have g:(decide ((xs.map (tr N)).toArray.size≠s)||decide (o+(xs.map (tr N)).toArray.size > (cs.map (tr N)).toArray.size))=false:=by simp;omega
  simp only[g,zWO,zWA];rw[<-C];congr 1;apply zXK;have:=zPK (xs.map (tr N)) o 0 (cs.map (tr N)).toArray (by simp;omega);simp only[zW0]at this;simp only[zWy,zXr,zX6];rw[zWG]at this;rw[<-this];simp
noncomputable def zGM(D:Dat)(t:TypeId)(ps:List (Nat×T))(K:T->Bool):Bool:=
 match D.tt.get t with
 |some d=>(match d.zs with
  |some a=>(match d.u with
   |.struct _=>bif d.fl.all (λp=>(D.tt.get p.2).isSome)then filK (λi κ=>nthK i d.fl λp=>(match D.tt.get p.2 with|some e=>κ p.1 e.sz|none=>false)) ps a λcs=>K (.agg cs)else false
   |.array _ el=>(match D.tt.get el with
    |some e=>filK (λi κ=>κ (i*e.sz) e.sz) ps a λcs=>K (.agg cs)
    |none=>false)
   |_=>false)
  |none=>false)
 |none=>false
theorem zKR{α β:Type}(f:α->Option β)(g:α->β):∀(l:List α),(∀x∈l,f x=some (g x))->l.mapM f=some (l.map g)
 |[],_=>rfl
 |x::r,a=>by
  simp only[zXu,a x (by simp),zKR f g r λy b=>a y (by simp[b])];rfl
theorem zJ9(k:DOk P D)(O:HSim B N S w){t:TypeId}{ps:List (Nat×T)}{K:T->Bool}(h:zGM D t ps K=true)(v:∀p∈ps,bd S.nl p.2):FinS P N S w K (Instr.build t (ps.map λp=>(p.1,tr N p.2)).toArray):=by
 unfold zGM at h;split at h
 .rename_i d A;have b:=k.tt _ _ A;split at h
  .rename_i x C;obtain⟨z,z1,z2,z3,z4⟩:=b.zs x C;have y:z.cells=(x.map (tr N)).toArray:=by apply zXK;simp[z2]
   split at h
   .rename_i fs g;obtain⟨E,F⟩:=zO h;have j:∀f∈fs.toList,∃e,TOk P f.type e:=λf l=>by
     have:=zWL.1 E (f.offset,f.type) (by rw[<-b.fl fs g];exact zWa.2 ⟨f,l,rfl⟩);obtain⟨e,c⟩:=zXd.1 this;exact⟨e,k.tt _ _ c⟩
    have G:fs.toList.mapM (λf=>(P.info? f.type).map λi=>(f.offset,i.size))=some (fs.toList.map λf=>(f.offset,P.cellsOf f.type)):=zKR _ _ _ λf l=>by
     obtain⟨e,c⟩:=j f l;simp[c.info,Program.cellsOf]
    obtain⟨cs',m,o,q,r⟩:=zEj (place:=λi=>(fs.toList.map λf=>(f.offset,P.cellsOf f.type)).toArray[i]?) (λi κ s=>by
     obtain⟨p,H,u⟩:=zBw s;obtain⟨I,J,L,M⟩:=zM0 b g H;split at u
     .rename_i e c;have a:=k.tt _ _ c;refine⟨_,_,?_,u⟩;have:P.cellsOf I.type=e.sz:=by rw[M];simp[Program.cellsOf,a.info,a.sz]
      simp[J,this,L]
     .cases u) N F v (yS (zWd _) _ z3) z4
    refine finS  m ?_ ⟨o,q⟩;simp only[tr,yQ];refine run_build w t _ _ ?_;unfold Program.built;simp only[b.info,b.und,g,z1,G,y];exact r
   .rename_i n el g;split at h
    .rename_i e c;have a:=k.tt _ _ c;obtain⟨cs',m,o,q,r⟩:=zEj (place:=λi=>some (i*e.sz,e.sz)) (λi κ s=>⟨_,_,rfl,s⟩) N h v (yS (zWd _) _ z3) z4;refine finS  m ?_ ⟨o,q⟩;simp only[tr,yQ];refine run_build w t _ _ ?_;unfold Program.built;simp only[b.info,b.und,g,z1,a.info,a.sz,y];exact r
    .cases h
   .cases h
  .cases h
 .cases h
noncomputable def repK(a:List T)(n:Nat):(List T->Bool)->Bool:=
 Nat.rec (motive:=λ_=>(List T->Bool)->Bool) (λκ=>κ []) (λ_ b κ=>b λr=>appK a r κ) n
theorem zBv(a:List T):∀(n:Nat)(κ:List T->Bool),repK a n κ=κ (List.replicate n a).flatten
 |0,κ=>rfl
 |n+1,κ=>by
  show(repK a n λr=>appK a r κ)=_;rw[zBv a n,qh,zYG,zYL]
theorem zOj{α:Type}(a:List α):∀(n i:Nat),i<n*a.length->(List.replicate n a).flatten[i]?=a[i % a.length]?
 |0,i,h=>by omega
 |n+1,i,h=>by
  rw[zYG,zYL,zYA];split
  .rename_i hi;rw[Nat.mod_eq_of_lt hi]
  .rename_i hi;rw[zWs]at h;rw[zOj a n (i-a.length) (by omega)];have:i=(i-a.length)+a.length:=by omega
   rw[this,Nat.add_mod_right];simp
theorem zCU{n sz:Nat}{z:Array Value}{b:List T}(f:b.map (tr N)=z.toList)(a:b.length=sz)(c:0<sz):((Array.range (n*sz)).map (z[· % z.size]!)).toList=(List.replicate n b).flatten.map (tr N):=by
 have g:z.size=sz:=by rw[<-zWi,<-f,zWG,a]
 apply zXz;intro i;rw[zWM];by_cases hi:i<n*sz
 .rw[zOj b n i (by rw[a];exact hi),a];have d:i % sz<z.size:=by rw[g];exact Nat.mod_lt _ c
  have e:(b[i % sz]?).map (tr N)=some (z[i % sz]'d):=by
   rw[<-zWM,f];simp[d]
  rw[e];simp[hi,g];exact zYm z (i % sz) d
 .have:(List.replicate n b).flatten.length=n*sz:=by simp[a]
  rw[zX4 (by simp;omega),zX4 (by omega)];rfl
noncomputable def zB5(D:Dat)(S:XS)(t:TypeId)(n:Nat)(ps:List (Nat×T))(K:T->XS->Bool):Bool:=
 match D.tt.get t with
 |some d=>(match d.u with
  |.slice el=>(match D.tt.get el with
   |some e=>(match e.zs with
    |some a=>bif Nat.beq a.length e.sz&&Nat.blt 0 e.sz&&Nat.ble (n*e.sz) 16777216 then repK a n λcs=>filK (λi κ=>κ (i*e.sz) e.sz) ps cs λcs'=>newK S (.row 0 cs' 0 el) λl S=>K (.slc l 0 n n) S else false
    |none=>false)
   |none=>false)
  |_=>false)
 |none=>false
theorem zAr{nl:Nat}{a:List T}(h:bds nl a):∀n,bds nl (List.replicate n a).flatten
 |0=>trivial
 |n+1=>by rw[zYG,zYL];exact xC h (zAr h n)
theorem zAL{a:List T}(h:ones a):∀n,ones (List.replicate n a).flatten
 |0=>rfl
 |n+1=>by rw[zYG,zYL];exact jf h (zAL h n)
theorem zJt(j:DOk P D)(m:HSim B N S w){t:TypeId}{n:Nat}{ps:List (Nat×T)}{K:T->XS->Bool}(h:zB5 D S t n ps K=true)(o:∀p∈ps,bd S.nl p.2):Fin P B N S w K (Instr.buildSlice t n (ps.map λp=>(p.1,tr N p.2)).toArray):=by
 unfold zB5 at h;split at h
 .rename_i d q;have r:=j.tt _ _ q;split at h
  .rename_i el s;split at h
   .rename_i e u;have a:=j.tt _ _ u;split at h
    .rename_i k v;obtain⟨z,z1,z2,z3,z4⟩:=a.zs k v;obtain⟨f,l⟩:=zO h;simp only[zV5]at f;have x:=beq_iff.1 f.1.1;have y:=blt_iff.1 f.1.2;have Q:=zWF f.2;rw[zBv]at l;obtain⟨cs',A,C,E,g⟩:=zEj (place:=λi=>some (i*e.sz,e.sz)) (λi κ F=>⟨_,_,rfl,F⟩) N l o (yS (zWd _) _ (zAr z3 n)) (zAL z4 n);obtain⟨G,H,I,J⟩:=zBp m A C E [] 0 (by simp);refine⟨_,_,G,_,H,?_,I,by simp only[bd,J];omega⟩;have b:P.underlying t=some (.slice el):=by rw[r.und,s]
     rw[zWc];by_cases c:n*e.sz=0
     .have L:n=0:=by
       rcases Nat.mul_eq_zero.1 c with h|h
       .exact h
       .omega
      subst L;have M:Instr.fill (λi=>some (i*e.sz,e.sz)) #[] (ps.map λp=>(p.1,tr N p.2))=some (cs'.map (tr N)).toArray:=by simpa using g
      simp[Instr.buildSlice,run_underlying b,a.run_sz,M,newRow,tr,NM.add_bl,show(Array.range 0:Array Nat)=#[]from rfl]
     .have O:(Array.range (n*e.sz)).map (z.cells[· % z.cells.size]!)=((List.replicate n k).flatten.map (tr N)).toArray:=by
       apply zXK;rw[zCU (N:=N) (z2 N) x y]
      rw[<-O]at g;simp[Instr.buildSlice,run_underlying b,a.run_sz,c,show ¬(16777216<n*e.sz)by omega,zeroValue,typeInfo,a.info,z1,g,newRow,tr,NM.add_bl]
    .cases h
   .cases h
  .cases h
 .cases h
noncomputable def zCf(D:Dat)(S:XS)(t:TypeId)(x y:T)(K:T->XS->Bool):Bool:=
 match D.tt.get t with
 |some d=>(match d.u with
  |.slice el=>(match D.tt.get el with
   |some e=>(match e.zs with
    |some a=>ixK x 4611686018427387904 λn=>ixK y 4611686018427387904 λc=>bif Nat.beq a.length e.sz&&Nat.blt 0 e.sz&&Nat.ble n c&&Nat.ble (e.bytes*c) 281474976710656 then repK a c λcs=>newK S (.row 0 cs 0 el) λl S=>K (.slc l 0 n c) S else false
    |none=>false)
   |none=>false)
  |_=>false)
 |none=>false
theorem zKl(j:DOk P D)(o:HSim B N S w){t:TypeId}{x y:T}{K:T->XS->Bool}(h:zCf D S t x y K=true):Fin P B N S w K (Instr.makeSlice t (tr N x) (tr N y)):=by
 unfold zCf at h;split at h
 .rename_i d p;have q:=j.tt _ _ p;split at h
  .rename_i el r;split at h
   .rename_i e s;have a:=j.tt _ _ s;split at h
    .rename_i l u;obtain⟨z,z1,z2,z3,z4⟩:=a.zs l u;obtain⟨k,n,rfl,Q,v⟩:=zDU h;obtain⟨A,c,rfl,R,C⟩:=zDU v;obtain⟨b,m⟩:=zO C;simp only[zV5]at b;have E:=beq_iff.1 b.1.1.1;have F:=blt_iff.1 b.1.1.2;have G:=zWF b.1.2;have U:=zWF b.2;rw[zBv]at m;obtain⟨H,I,J,L⟩:=zBp o m (yS (zWd _) _ (zAr z3 c)) (zAL z4 c) [] 0 (by simp);refine⟨_,_,H,_,I,?_,J,by simp only[bd,L];omega⟩;have f:P.underlying t=some (.slice el):=by rw[q.und,r]
     rw[zWc];have g:(e.i.bytes:Int)*(Int.ofNat c)<=281474976710656:=by
      rw[a.bytes];have h:((e.bytes*c:Nat):Int)<=281474976710656:=by omega
      rwa [Int.natCast_mul]at h
     have M:=run_make (P:=P) w t el e.i z f a.info z1 k A (Int.ofNat n) (Int.ofNat c) (by simp) (by simpa using G) g (by simp only[zXn];omega);simp only[tr,NM.add_bl];rw[M];have O:madeCells z.cells ((Int.ofNat c).toNat*e.i.size)=((List.replicate c l).flatten.map (tr N)).toArray:=by
      apply zXK;rw[a.sz];exact zCU (N:=N) (z2 N) E F
     rw[O];rfl
    .cases h
   .cases h
  .cases h
 .cases h
end
end
section
open Go.RowKit
section
variable{P:Program}{B:Bs}{N:NM}{S:XS}{w:World}{D:Dat}
def byT(x:T)(κ:Nat->Bool):Bool:=
 match x with
 |.int k n=>(match k with
  |.u8=>(match n with
   |.ofNat m=>κ m
   |.negSucc _=>false)
  |_=>false)
 |_=>false
noncomputable def zIj(l:List T):(List Nat->Bool)->Bool:=
 List.rec (motive:=λ_=>(List Nat->Bool)->Bool) (λκ=>κ []) (λx _ a κ=>byT x λm=>a λr=>κ (m::r)) l
theorem zGA:∀{l:List T}{κ:List Nat->Bool},zIj l κ=true->∃a,κ a=true/\l=a.map λn=>.int .u8 (.ofNat n)
 |[],κ,h=>⟨[],h,rfl⟩
 |x::r,κ,h=>by
  replace h:byT x (λm=>zIj r λq=>κ (m::q))=true:=h;unfold byT at h;split at h
  .split at h
   .split at h
    .rename_i m;obtain⟨a,b,c⟩:=zGA h;exact⟨m::a,b,by rw[c];rfl⟩
    .cases h
   .cases h
  .cases h
noncomputable def zP8(D:Dat)(S:XS)(f t:TypeId)(x:T)(K:T->Bool):Bool:=
 match D.tt.get f with
 |some df=>(match D.tt.get t with
  |some a=>(match x with
   |.int _ n=>(match a.u with
    |.int k=>mkI k (wr k n) K
    |.string=>(match n with
     |.ofNat m=>bif Nat.blt m 128 then K (.str [m])else false
     |.negSucc _=>false)
    |_=>false)
   |.str s=>(match a.u with
    |.string=>K (.str s)
    |_=>false)
   |x=>(match a.u with
    |.string=>(match df.u with
     |.slice e=>(match D.tt.get e with
      |some b=>(match b.u with
       |.int .u8=>(match lenT x with
        |some n=>celK S 1 n x λcs=>zIj cs λs=>K (.str s)
        |none=>false)
       |_=>false)
      |none=>false)
     |_=>false)
    |_=>false))
  |none=>false)
 |none=>false
theorem zLr{x:T}{n:Nat}(j:lenT x=some n){d:List Nat}(h:(Builtin.firstCells 1 n (tr N x)).run P w=.ok ((d.map λn=>T.int .u8 (.ofNat n)).map (tr N)).toArray w)(p:d.length=n):(Conv.bytesToString (tr N x)).run P w=.ok (.string (bts d)) w:=by
 obtain⟨g,c,e⟩:=zCs (N:=N) j;rw[e]at h ⊢;cases g with
 |none=>
  simp only[Builtin.firstCells,Sem.run_pure]at h;injection h with h
  have:d=[]:=by
   cases d with
   |nil=>rfl
   |cons a b=>have:=zWp Array.size h;simp at this
  subst this;simp[Conv.bytesToString,bts];rfl
 |some g=>
  simp only[Builtin.firstCells,Nat.mul_one]at h;have k:(d.map λn=>T.int .u8 (.ofNat n)).map (tr N)=(d.map Int.ofNat).map (Value.int .u8):=by simp[tr]
  rw[k]at h;have:=run_bytesToString (P:=P) w g n c (d.map Int.ofNat) h;rw[this];congr 2;have i:∀(l:List Nat)(f:ByteArray),(l.map Int.ofNat).foldl (λs n=>s.push (UInt8.ofNat n.toNat)) f=⟨f.data++(l.map UInt8.ofNat).toArray⟩:=by
   intro l
   induction l with
   |nil=>intro f;simp
   |cons a l m=>
    intro f;rw[zV6,zYW,m];simp[ByteArray.push]
  have o:=i d ByteArray.empty;rw[o];apply zYS;show #[]++(d.map UInt8.ofNat).toArray=(d.map UInt8.ofNat).toArray;simp
theorem zS3(g:DOk P D)(A:HSim B N S w){f t:TypeId}{x:T}{K:T->Bool}(h:zP8 D S f t x K=true):FinS P N S w K (Go.convert f t (tr N x)):=by
 unfold zP8 at h;split at h
 .rename_i df i;have a:=g.tt _ _ i;split at h
  .rename_i O j;have b:=g.tt _ _ j;split at h
   .rename_i k n;split at h
    .rename_i Q d;rw[zAJ,zO6]at h;refine finS  h ?_ trivial;unfold Go.convert;simp only[Sem.run_bind,a.run_und,b.run_und,d,Result.andThen_ok,tr];rfl
    .rename_i d;split at h
     .rename_i m;obtain⟨l,y⟩:=zO h;have C:=blt_iff.1 l;refine finS  y ?_ trivial;unfold Go.convert;simp only[Sem.run_bind,a.run_und,b.run_und,d,Result.andThen_ok,tr,Conv.intToString,Sem.run_pure];have E:Utf8.valid (Int.ofNat m)=true:=by
       unfold Utf8.valid;rw[zXF,zV5];left;constructor<;>(rw[zWV];simp only[zXn];omega)
      have F:Utf8.encode (Int.ofNat m)=bts [m]:=by
       unfold Utf8.encode;simp only[E,zWE];rw[if_pos (show(Int.ofNat m).toNat<128 from C)];rfl
      rw[F]
     .cases h
    .cases h
   .rename_i s;split at h
    .rename_i d;refine finS  h ?_ trivial;unfold Go.convert;simp only[Sem.run_bind,a.run_und,b.run_und,d,Result.andThen_ok,tr];cases df.u<;>rfl
    .cases h
   .rename_i G H;split at h
    .rename_i d;split at h
     .rename_i e o;split at h
      .rename_i R p;have q:=g.tt _ _ p;split at h
       .rename_i r;split at h
        .rename_i n v;obtain⟨cs,l,y,U,I,J⟩:=zOc (P:=P) A h v;obtain⟨V,L,rfl⟩:=zGA l;refine finS  L ?_ trivial;have z:=zLr v J (by simpa using I);obtain⟨M,c,ex⟩:=zCs (N:=N) v;rw[ex]at z ⊢;unfold Go.convert;simp only[Sem.run_bind,a.run_und,b.run_und,d,o,Result.andThen_ok,q.run_und,r,tr];cases M<;>exact z
        .cases h
       .cases h
      .cases h
     .cases h
    .cases h
  .cases h
 .cases h
noncomputable def keqK(d:TypeDesc)(k e:T)(κ:Bool->Bool):Bool:=
 match d with
 |.string=>(match k with
  |.str a=>(match e with|.str b=>fB (seqB a b) κ|_=>false)
  |_=>false)
 |.int _=>(match k with
  |.int f a=>(match e with|.int c b=>bif Nat.beq (Kd f) (Kd c)then fB (ieqB a b) κ else false|_=>false)
  |_=>false)
 |_=>false
theorem zIt(a b:List Nat):(bts a==bts b)=seqB a b:=by
 rw[kU,zYV,zWV];constructor
 .intro h;have h':bts a=bts b:=by
   have c:((bts a).data==(bts b).data)=true:=h;apply zYS;exact eq_of_beq c
  have:=zWp (λb=>b.data.toList) h';simpa [bts]using this
 .intro h;have h':bts a=bts b:=by unfold bts;rw[h]
  rw[h'];show((bts b).data==(bts b).data)=true;simp
theorem zNv{d:TypeDesc}{k c:T}{κ:Bool->Bool}(h:keqK d k c κ=true)(N:NM):∃b,κ b=true/\Instr.sameNow d (tr N k) (tr N c)=some b/\((d=.string/\∃a a',k=.str a/\c=.str a'/\b=seqB a a')\/(∃q,d=.int q)/\∃e a a',k=.int e a/\c=.int e a'/\b=(a==a')):=by
 unfold keqK at h;split at h
 .split at h
  .split at h
   .rename_i a _ b;rw[zBU]at h;exact⟨_,h,by simp[Instr.sameNow,tr,zIt],.inl ⟨rfl,_,_,rfl,rfl,rfl⟩⟩
   .cases h
  .cases h
 .split at h
  .split at h
   .rename_i e a _ g b;obtain⟨i,f⟩:=zO h;have:=zH3 i;subst this;rw[zBU,zCw]at f;exact⟨_,f,by simp[Instr.sameNow,tr],.inr ⟨⟨_,rfl⟩,_,_,_,rfl,rfl,rfl⟩⟩
   .cases h
  .cases h
 .cases h
def trE(N:NM)(p:T×T×Nat):MapEntry:=⟨tr N p.1,tr N p.2.1,p.2.2⟩
noncomputable def zKz(d:TypeDesc)(k:T)(es:List (T×T×Nat))(κ:Option T->Bool):Bool:=
 List.rec (motive:=λ_=>Bool) (κ none) (λe _ a=>keqK d k e.1 λb=>bif b then κ (some e.2.1)else a) es
theorem zMv{d:TypeDesc}{k:T}(N:NM):∀{es:List (T×T×Nat)}{κ:Option T->Bool},zKz d k es κ=true->∀i,∃r,κ r=true/\(match r with
 |none=>Instr.findNow d (tr N k) (es.map (trE N)) i=some none
 |some v=>∃j p,es[j]?=some p/\p.2.1=v/\Instr.findNow d (tr N k) (es.map (trE N)) i=some (some (i+j,tr N v)))
 |[],κ,h,i=>⟨none,h,rfl⟩
 |e::es,κ,h,i=>by
  obtain⟨b,c,a,_⟩:=zNv (show keqK d k e.1 (λb=>bif b then κ (some e.2.1)else zKz d k es κ)=true from h) N;cases b with
  |true=>
   refine⟨some e.2.1,c,0,e,rfl,rfl,?_⟩;simp only[zV6,Instr.findNow,trE,a];rfl
  |false=>
   obtain⟨r,g,f⟩:=zMv N (show zKz d k es κ=true from c) (i+1);refine⟨r,g,?_⟩;cases r with
   |none=>simpa only[zV6,Instr.findNow,trE,a]using f
   |some v=>
    obtain⟨j,p,l,m,n⟩:=f;refine⟨j+1,p,l,m,?_⟩;simp only[zV6,Instr.findNow,trE,a];rw[n];congr 3;omega
noncomputable def zKy(d:TypeDesc)(k v:T)(a:Nat)(es:List (T×T×Nat)):(List (T×T×Nat)->Nat->Bool)->Bool:=
 List.rec (motive:=λ_=>(List (T×T×Nat)->Nat->Bool)->Bool) (λκ=>fN (a+1) λc=>κ [(k,v,a)] c)
  (λe r f κ=>keqK d k e.1 λb=>bif b then κ ((k,v,e.2.2)::r) a else f λes c=>κ (e::es) c) es
theorem zM1{d:TypeDesc}{k v:T}{f:Nat}(N:NM):∀{es:List (T×T×Nat)}{κ:List (T×T×Nat)->Nat->Bool},zKy d k v f es κ=true->∀i,∃g c,κ g c=true /\
 ((∃j p u,es[j]?=some p/\g=es.set j (k,v,p.2.2)/\c=f/\Instr.findNow d (tr N k) (es.map (trE N)) i=some (some (i+j,u))/\Instr.sameNow d (tr N k) (tr N p.1)=some true/\((∃a b,k=.str a/\p.1=.str b/\seqB a b=true)\/(∃o a,k=.int o a/\p.1=.int o a))) \/
  (g=es++[(k,v,f)]/\c=f+1/\Instr.findNow d (tr N k) (es.map (trE N)) i=some none))
 |[],κ,h,i=>⟨_,_,by have h:(fN (f+1) λc=>κ [(k,v,f)] c)=true:=h;rw[zy]at h;exact h,.inr ⟨rfl,rfl,rfl⟩⟩
 |e::es,κ,h,i=>by
  obtain⟨b,r,q,s⟩:=zNv (show keqK d k e.1 (λb=>bif b then κ ((k,v,e.2.2)::es) f else zKy d k v f es λes c=>κ (e::es) c)=true from h) N;cases b with
  |true=>
   refine⟨_,_,r,.inl ⟨0,e,tr N e.2.1,rfl,rfl,rfl,?_,q,?_⟩⟩
   .simp only[zV6,Instr.findNow,trE,q];rfl
   .rcases s with⟨_,a,a',l,m,n⟩|⟨_,o,a,a',l,m,n⟩
    .exact .inl ⟨a,a',l,m,n.symm⟩
    .have:a=a':=by simpa using n.symm
     subst this;exact .inr ⟨o,a,l,m⟩
  |false=>
   obtain⟨g,c,t,x⟩:=zM1 N (show zKy d k v f es (λes c=>κ (e::es) c)=true from r) (i+1);refine⟨_,c,t,?_⟩;rcases x with⟨j,p,u,l,m,n,y,z,A⟩|⟨l,m,n⟩
   .refine .inl ⟨j+1,p,u,l,by rw[m];rfl,n,?_,z,A⟩;simp only[zV6,Instr.findNow,trE,q];rw[y];congr 3;omega
   .refine .inr ⟨by rw[l];rfl,m,?_⟩;simpa only[zV6,Instr.findNow,trE,q]using n
theorem zEQ{a:TypeId}{d:TypeDesc}(c:P.underlying a=some d)(e:d=.string\/∃q,d=.int q)(b:Bool)(n:Nat)(v:Value):(Instr.checkKey b (n+1) a v).run P w=.ok () w:=by
 unfold Instr.checkKey;rcases e with rfl|⟨q,rfl⟩<;>simp[Sem.run_bind,run_underlying c]
theorem zET{a:TypeId}{d:TypeDesc}(b:P.underlying a=some d){v:Value}{es:List MapEntry}{r:Option (Nat×Value)}(h:Instr.findNow d v es 0=some r):(Instr.findKey a v es).run P w=.ok r w:=by
 unfold Instr.findKey;simp[Sem.run_bind,run_underlying b,h]
def keyD(d:TypeDesc):Bool:=
 match d with
 |.string=>true
 |.int _=>true
 |_=>false
theorem zON{d:TypeDesc}(h:keyD d=true):d=.string\/∃q,d=.int q:=by
 unfold keyD at h;split at h
 .exact .inl rfl
 .exact .inr ⟨_,rfl⟩
 .cases h
noncomputable def zroK(e:TD)(κ:T->Bool):Bool:=
 match e.zs with
 |some a=>bif e.ag then κ (.agg a)else(match a with
  |[z]=>κ z
  |_=>false)
 |none=>false
def aggV:Value->Bool
 |.agg _=>true
 |_=>false
theorem zGX{t:TypeId}{e:TD}(c:TOk P t e){κ:T->Bool}(h:zroK e κ=true)(d:∀z,e.i.zero=some z->aggV z=e.ag)(N:NM):∃x,κ x=true/\bd 0 x/\∀w,(zeroValue t).run P w=.ok (tr N x) w:=by
 unfold zroK at h;split at h
 .rename_i f g;obtain⟨z,z1,z2,z3,z4⟩:=c.zs f g;have a:=d z z1;cases b:e.ag with
  |true=>
   rw[b,zWQ]at h;rw[b]at a;refine⟨_,h,⟨z3,z4⟩,λw=>?_⟩;cases z<;>simp[aggV]at a
   rename_i cs;have:cs=(f.map (tr N)).toArray:=by apply zXK;simp[z2,Value.cells]
   simp[zeroValue,typeInfo,c.info,z1,tr,yQ,this]
  |false=>
   rw[b,zWH]at h;rw[b]at a;split at h
   .rename_i x;refine⟨x,h,z3.1,λw=>?_⟩;have:=z2 N;cases z<;>simp[aggV]at a<;>simp[Value.cells]at this<;>simp[zeroValue,typeInfo,c.info,z1,this]
   .cases h
 .cases h
def zagB(e:TD):Bool:=match e.i.zero with|some z=>(match z with|.agg _=>e.ag|_=>!e.ag)|none=>false
theorem zOT{e:TD}(h:zagB e=true):∀z,e.i.zero=some z->aggV z=e.ag:=λz a=>by
 unfold zagB at h;rw[a]at h;cases z<;>simp_all [aggV]
noncomputable def outK(c:Bool)(x:T)(a:Bool)(K:T->Bool):Bool:=bif c then K (.tup [x,.bool a])else K x
noncomputable def zP4(D:Dat)(S:XS)(t:TypeId)(m k:T)(c:Bool)(K:T->Bool):Bool:=
 match D.tt.get t with
 |some d=>(match d.u with
  |.map b el=>(match D.tt.get b with
   |some a=>(match D.tt.get el with
    |some e=>bif keyD a.u&&zagB e then(match m with
     |.atm v=>(match v with
      |.map none=>zroK e λx=>outK c x false K
      |_=>false)
     |.mp l=>(match S.h.get l with
      |some ob=>(match ob with
       |.mp es _=>zKz a.u k es λr=>(match r with
        |some x=>outK c x true K
        |none=>zroK e λx=>outK c x false K)
       |_=>false)
      |none=>false)
     |_=>false)else false
    |none=>false)
   |none=>false)
  |_=>false)
 |none=>false
theorem zC0{c a:Bool}{x:T}{K:T->Bool}(h:outK c x a K=true)(b:bd S.nl x):∃y,K y=true/\bd S.nl y/\tr N y=(if c=true then .tuple #[tr N x,.bool a]else tr N x):=by
 unfold outK at h;cases c with
 |true=>exact⟨_,h,⟨b,trivial,trivial⟩,by simp[tr,trs]⟩
 |false=>exact⟨_,h,b,by simp⟩
theorem zSt(C:DOk P D)(L:HSim B N S w){t:TypeId}{m k:T}{c:Bool}{K:T->Bool}(h:zP4 D S t m k c K=true):FinS P N S w K (Instr.lookup t (tr N m) (tr N k) c):=by
 unfold zP4 at h;split at h
 .rename_i d M;have E:=C.tt _ _ M;split at h
  .rename_i O el F;split at h
   .rename_i dk G;have a:=C.tt _ _ G;split at h
    .rename_i e Q;have n:=C.tt _ _ Q;obtain⟨H,b⟩:=zO h;rw[zV5]at H;have g:=zON H.1;have o:=zOT H.2;clear h;split at b
     .split at b
      .obtain⟨x,z,A,I⟩:=zGX n b o N;obtain⟨y,q,s,u⟩:=zC0 (S:=S) (N:=N) z (qi (zWd _) _ A);refine finS  q ?_ s;have R:(Instr.findKey O (tr N k) []).run P w=.ok none w:=zET a.und rfl;rw[u];simp only[Instr.lookup,Sem.run_bind,E.run_und,F,Result.andThen_ok,tr,Sem.run_pure];rw[zEQ a.und g];simp only[Result.andThen_ok,R,Sem.run_bind,I,Sem.run_pure]
       all_goals (cases c<;>rfl)
      .cases b
     .rename_i l;split at b
      .rename_i ob U;split at b
       .rename_i es i;obtain⟨arr,V,W,X⟩:=L.ok l _ U;have v:arr.toList=es.map (trE N):=W;obtain⟨r,z,A⟩:=zMv N b 0;have f:(getObj (N.bl l)).run P w=.ok (.map arr i) w:=by simp[getObj,Sem.run,V]
        cases r with
        |some x=>
         obtain⟨j,p,Y,Z,p3⟩:=A;have J:bd S.nl x:=by rw[<-Z];exact(X p (zXy Y)).2
         obtain⟨y,q,s,u⟩:=zC0 (S:=S) (N:=N) z J;refine finS  q ?_ s;rw[u];simp only[Instr.lookup,Sem.run_bind,E.run_und,F,Result.andThen_ok,tr,f,Sem.run_pure];rw[zEQ a.und g];simp only[Result.andThen_ok,v,zET a.und p3,Sem.run_pure,Sem.run_bind]
         all_goals (cases c<;>rfl)
        |none=>
         obtain⟨x,I,q4,q5⟩:=zGX n z o N;obtain⟨y,q,s,u⟩:=zC0 (S:=S) (N:=N) I (qi (zWd _) _ q4);refine finS  q ?_ s;rw[u];simp only[Instr.lookup,Sem.run_bind,E.run_und,F,Result.andThen_ok,tr,f,Sem.run_pure];rw[zEQ a.und g];simp only[Result.andThen_ok,v,zET a.und A,Sem.run_bind,q5,Sem.run_pure]
         all_goals (cases c<;>rfl)
       .cases b
      .cases b
     .cases b
    .cases h
   .cases h
  .cases h
 .cases h
end
end
section
open Go.RowKit
section
variable{P:Program}{B:Bs}{N:NM}{S:XS}{w:World}{D:Dat}
theorem kT{w:World}{b:Nat}{o:Obj}(o':Obj)(h:w.heap[b]?=some o):(w.putObj b o').heap[b]?=some o':=by
 have a:=(zV8.1 h).1;simp[World.putObj,a]
theorem zAy(i:HSim B N S w){l:Nat}{o o':HO}(d:S.h.get l=some o)(f:xL o=false)(m:isRo o=false)(g:isRo o'=false){ob ob':Obj}(a:w.heap[N.bl l]?=some ob)(n:ObOk N S.nl l (some ob') o'){h':Tr HO}(p:∀j,h'.get j=if j=l then some o' else S.h.get j) :
 Stp B N S w N ⟨h',S.nl⟩ (w.putObj (N.bl l) ob'):=by
 have c:(w.putObj (N.bl l) ob').heap.size=w.heap.size:=by simp[World.putObj]
 refine .set d f p (i.upd d f m g (λb a=>World.putObj_heap_other a) c (by rw[kT _ a];exact n) p) ⟨rfl,rfl,rfl,by rw[c];exact zV7 _,λk n=>World.putObj_heap_other (λe=>?_)⟩ (λb a=>World.putObj_heap_other a);have:=(i.low l o d f).1;rw[m]at this;simp only[zWO,zWA]at this;omega
noncomputable def zHQ(S:XS)(K:T->XS->Bool):Bool:=newK S (.mp [] 0) λl S=>K (.mp l) S
theorem zNh(a:HSim B N S w){K:T->XS->Bool}(h:zHQ S K=true)(t:TypeId):Fin P B N S w K (Instr.makeMap t none):=by
 obtain⟨b,c,d,e⟩:=zGJ a h rfl 0 (ob:=.map #[] 0) ⟨#[],rfl,rfl,λ_ f=>by cases f⟩;refine⟨_,_,b,_,c,?_,d,by simp only[bd,e];omega⟩;simp only[tr,NM.add_bl];simp[Instr.makeMap]
noncomputable def zLJ(D:Dat)(S:XS)(t:TypeId)(m k v:T)(K:XS->Bool):Bool:=
 match D.tt.get t with
 |some d=>(match d.u with
  |.map f _=>(match D.tt.get f with
   |some e=>bif keyD e.u then(match m with
    |.mp l=>(match S.h.get l with
     |some ob=>(match ob with
      |.mp es a=>zKy e.u k v a es λb c=>Tr.setK (.mp b c) 40 S.h l λh=>K ⟨h,S.nl⟩
      |_=>false)
     |none=>false)
    |_=>false)else false
   |none=>false)
  |_=>false)
 |none=>false
theorem zOr{u v:Value}(h:Instr.sameBits 10000 u v=true):(Instr.keyThatStays u v).run P w=.ok v w:=by
 unfold Instr.keyThatStays;simp[h]
theorem zJH(arr:Array MapEntry)(i:Nat)(f:MapEntry->MapEntry){e:MapEntry}(h:arr.toList[i]?=some e):(arr.modify i f).toList=arr.toList.set i (f e):=by
 apply zXz;intro j;rw[zW3,zYj,zY0];obtain⟨hi,b⟩:=zW9.1 h;by_cases a:i=j
 .subst a;rw[if_pos rfl,if_pos rfl,if_pos hi];rw[<-zW3,h];rfl
 .rw[if_neg a,if_neg a];simp
theorem zQP(U:DOk P D)(G:HSim B N S w){t:TypeId}{m k v:T}{K:XS->Bool}(h:zLJ D S t m k v K=true)(V:bd S.nl k)(W:bd S.nl v):Fin0 P B N S w K (Instr.mapUpdate t (tr N m) (tr N k) (tr N v)):=by
 unfold zLJ at h;split at h
 .rename_i d hd;have X:=U.tt _ _ hd;split at h
  .rename_i kt el Y;split at h
   .rename_i dk H;have r:=U.tt _ _ H;obtain⟨h1,y⟩:=zO h;have A:=zON h1;clear h;split at y
    .rename_i l;split at y
     .rename_i ob I;split at y
      .rename_i es f;obtain⟨arr,F,k2,Z⟩:=G.ok l _ I;have g:arr.toList=es.map (trE N):=k2;have s:(getObj (N.bl l)).run P w=.ok (.map arr f) w:=by simp[getObj,Sem.run,F]
       have x:∀o,(setObj (N.bl l) o).run P w=.ok () (w.putObj (N.bl l) o):=λo=>by
        simp[setObj,Sem.run,World.putObj,F]
       obtain⟨C,c,q1,q2⟩:=zM1 N y 0;obtain⟨h',q3,q4⟩:=Tr.setK_ok _ _ _ _ _ q1;rcases q2 with⟨j,p,u,J,L,M,r4,r5,r6⟩|⟨J,L,M⟩
       .rw[zWP]at r4;have E:arr.toList[j]?=some (trE N p):=by rw[g,zWM,J];rfl
        have O:arr[j]?=some (trE N p):=by rw[<-zW3];exact E
        have z:Instr.sameBits 10000 (tr N p.1) (tr N k)=true:=by
         rcases r6 with⟨a,b,Q,R,e3⟩|⟨kk,a,Q,R⟩
         .rw[Q,R];show(bts b==bts a)=true;rw[kU,zWV]at e3;rw[zIt,kU,zWV,e3]
         .rw[Q,R];show(kk==kk&&a==a)=true;simp
        have i:ObOk N S.nl l (some (.map (arr.modify j λe=>{ e with key:=tr N k,val:=tr N v }) f)) (.mp C c):=by
         subst L;subst M;refine⟨_,rfl,?_,λq n=>?_⟩
         .rw[zJH arr j _ E,g,zZQ];rfl
         .rcases zX8 n with n|rfl
          .exact Z q n
          .exact⟨V,W⟩
        refine⟨N,_,_,q3,?_,zAy G I rfl rfl rfl F i q4⟩;unfold Instr.mapUpdate;simp only[Sem.run_bind,X.run_und,Y,Result.andThen_ok,tr,s];rw[zEQ r.und A];simp only[Result.andThen_ok,g,zET r.und r4,Sem.run_bind,O,zXC,zXB];rw[show(trE N p).key=tr N p.1 from rfl,zOr z];simp only[Result.andThen_ok];exact x _
       .have i:ObOk N S.nl l (some (.map (arr.push { key:=tr N k,val:=tr N v,born:=f }) (f+1))) (.mp C c):=by
         subst J;subst L;refine⟨_,rfl,?_,λq n=>?_⟩
         .rw[Array.toList_push,g];simp[trE]
         .rcases zWe.1 n with n|n
          .exact Z q n
          .simp at n;subst n;exact⟨V,W⟩
        refine⟨N,_,_,q3,?_,zAy G I rfl rfl rfl F i q4⟩;unfold Instr.mapUpdate;simp only[Sem.run_bind,X.run_und,Y,Result.andThen_ok,tr,s];rw[zEQ r.und A];simp only[Result.andThen_ok,g,zET r.und M];exact x _
      .cases y
     .cases y
    .cases y
   .cases h
  .cases h
 .cases h
noncomputable def zIk(D:Dat)(S:XS)(t:TypeId)(x:T)(K:T->XS->Bool):Bool:=
 match D.tt.get t with
 |some d=>(match d.u with
  |.string=>(match x with
   |.str s=>newK S (.sit s 0) λl S=>K (.ptr l 0) S
   |_=>false)
  |_=>false)
 |none=>false
theorem zRv(a:DOk P D)(b:HSim B N S w){t:TypeId}{x:T}{K:T->XS->Bool}(h:zIk D S t x K=true):Fin P B N S w K (Instr.range t (tr N x)):=by
 unfold zIk at h;split at h
 .rename_i d c;have e:=a.tt _ _ c;split at h
  .rename_i f;split at h
   .rename_i s;obtain⟨g,i,j,k⟩:=zGJ b h rfl 0 (ob:=.stringIter (bts s) 0) rfl;refine⟨_,_,g,_,i,?_,j,by simp only[bd,k];omega⟩;simp only[tr,NM.add_bl];simp[Instr.range,e.run_und,f]
   .cases h
  .cases h
 .cases h
noncomputable def zK5(S:XS)(x:T)(c:Bool)(K:T->XS->Bool):Bool:=
 match x with
 |.ptr l o=>bif Nat.beq o 0&&c then(match S.h.get l with
  |some ob=>(match ob with
   |.sit s a=>(match drpL a s with
    |[]=>K (.tup [.bool false]) S
    |b::_=>bif Nat.blt b 128 then fN (a+1) λp=>fN a λq=>fN b λb=>Tr.setK (.sit s p) 40 S.h l λh=>K (.tup [.bool true,.int .i64 (.ofNat q),.int .i32 (.ofNat b)]) ⟨h,S.nl⟩else false)
   |_=>false)
  |none=>false)else false
 |_=>false
theorem zTw(p:HSim B N S w){x:T}{f:Bool}{K:T->XS->Bool}(h:zK5 S x f K=true)(t:TypeId):Fin P B N S w K (Instr.next (tr N x) f t):=by
 unfold zK5 at h;split at h
 .rename_i l o;obtain⟨q,e⟩:=zO h;rw[zV5]at q;have A:=beq_iff.1 q.1;have u:=q.2;subst A;subst u;split at e
  .rename_i ob g;split at e
   .rename_i s a;have v:w.heap[N.bl l]?=some (.stringIter (bts s) a):=p.ok l _ g;have d:(getObj (N.bl l)).run P w=.ok (.stringIter (bts s) a) w:=by simp[getObj,Sem.run,v]
    split at e
    .rename_i i;rw[jp]at i;have c:¬a<(bts s).size:=by rw[ki];have:=List.drop_eq_nil_iff.1 i;omega
     refine qb p e ?_ ⟨trivial,trivial⟩;simp only[tr,Instr.next,Sem.run_bind,d,Result.andThen_ok,if_neg c,Sem.run_pure,trs]
    .rename_i b r i;rw[jp]at i;obtain⟨C,z⟩:=zO e;simp only[zy]at z;obtain⟨h',E,F⟩:=Tr.setK_ok _ _ _ _ _ z;have G:=blt_iff.1 C;have j:s[a]?=some b:=by
      have:=zWp (λl=>l[0]?) i;simpa using this
     have k:a<s.length:=(zW9.1 j).1;have c:a<(bts s).size:=by rw[ki];exact k
     have m:∀o,(setObj (N.bl l) o).run P w=.ok () (w.putObj (N.bl l) o):=λo=>by simp[setObj,Sem.run,World.putObj,v]
     have n:Utf8.decode (bts s) a=(b,1):=by
      have H:((bts s).get! (a+0)).toNat=b:=by
       show((bts s).data[a+0]!).toNat=b;have y:a+0<(bts s).data.size:=by simpa [bts]using k
       rw[zYm (bts s).data (a+0) y];have:(bts s).data[a+0]=UInt8.ofNat b:=by
        obtain⟨J,I⟩:=zW9.1 j;simp[bts,I]
       rw[this,zYK];omega
      unfold Utf8.decode;simp only[H];rw[if_pos G]
     refine⟨_,N,_,_,E,?_,zAy p g rfl rfl rfl v (o':=.sit s (a+1)) rfl F,⟨trivial,trivial,trivial,trivial⟩⟩;simp only[tr,Instr.next,Sem.run_bind,d,Result.andThen_ok,if_pos c,n,m,Sem.run_pure,trs,goInt];rfl
   .cases e
  .cases e
 .cases h
end
end
section
open Go.RowKit
section
variable{P:Program}{B:Bs}{N:NM}{S:XS}{w:World}{D:Dat}
theorem zTa{t el ty b:TypeId}{e k:IntKind}{i:TypeInfo}{z:Value}{m:Nat}(f:P.underlying t=some (.slice el))(a:P.underlying b=some (.int e))(hi:P.info? el=some i)(g:i.zero=some z)(j:0<m)(x:0<i.size)(l:m*i.bytes<=140737488355328)(n:m<=4611686018427387904) :
 (Builtin.append_ #[t,b] ty #[.slice none 0 0,.int k (m:Nat)]).run P w=.ok (.slice (some ⟨w.heap.size,0,none⟩) m (grownCap w m 0 el)) (w.drew.alloc (.cells (Builtin.zeroCells z.cells m++Builtin.zeroCells z.cells (grownCap w m 0 el-m)) el)):=by
 have o:IntKind.i64.wrap (m:Int)=m:=by rw[IntKind.wrap_i64];omega
 have p:¬((m:Int)<0):=by omega
 have q:¬((m:Int)*(i.bytes:Int) > 2 ^ 48):=by
  have:((m*i.bytes:Nat):Int)<=140737488355328:=by omega
  rw[Int.natCast_mul]at this;omega
 have r:¬(281474976710656<Builtin.nextslicecap m 0*i.bytes):=by rw[nextslicecap_zero j];omega
 have c:m≠0:=by omega
 have d:i.size≠0:=by omega
 have s:¬(9223372036854775807<(m:Int)):=by omega
 have u:¬((m:Int)<=0):=by omega
 have v:¬((281474976710656:Int)<(m:Int)*(i.bytes:Int)):=by simpa using q
 simp[Builtin.append_,run_underlying f,run_underlying a,sizeOf,typeInfo,zeroValue,hi,g,asInt,asIntOf,o,p,r,c,d,s,v,u,Question.forced,run_firstCells_none,newRow,grownCap];intro h;exact absurd h (Nat.mul_ne_zero c d)
theorem zHR(a:List T):∀n,((List.replicate n a).flatten).length=n*a.length
 |0=>by simp
 |n+1=>by rw[zYG,zYL,zWD,zHR a n,Nat.succ_mul];omega
noncomputable def zP6(D:Dat)(S:XS)(t b:TypeId)(s x:T)(K:T->XS->Bool):Bool:=
 match s with
 |.atm v=>(match v with
  |.slice none 0 0=>(match D.tt.get b with
   |some c=>(match c.u with
    |.int _=>(match D.tt.get t with
     |some d=>(match d.u with
      |.slice el=>(match D.tt.get el with
       |some e=>(match e.zs with
        |some a=>ixK x 4611686018427387904 λm=>bif Nat.beq a.length e.sz&&Nat.blt 0 e.sz&&Nat.blt 0 m&&Nat.ble (m*e.bytes) 140737488355328 then repK a m λcs=>newK S (.row e.sz cs 0 el) λl S=>K (.sl l e.sz 0 0 m) S else false
        |none=>false)
       |none=>false)
      |_=>false)
     |none=>false)
    |_=>false)
   |none=>false)
  |_=>false)
 |_=>false
theorem zTi(g:DOk P D)(q:HSim B N S w){t i ty:TypeId}{s x:T}{K:T->XS->Bool}(h:zP6 D S t i s x K=true):Fin P B N S w K (Builtin.append_ #[t,i] ty #[tr N s,tr N x]):=by
 unfold zP6 at h;split at h
 case h_2=>cases h
 split at h
 case h_2=>cases h
 split at h
 case h_2=>cases h
 rename_i V j;split at h
 case h_2=>cases h
 rename_i W l;split at h
 case h_2=>cases h
 rename_i d y;split at h
 case h_2=>cases h
 rename_i el A;split at h
 case h_2=>cases h
 rename_i e C;split at h
 case h_2=>cases h
 rename_i f E;have F:=g.tt _ _ y;have o:=g.tt _ _ j;have a:=g.tt _ _ C;obtain⟨z,z1,z2,z3,z4⟩:=a.zs f E;obtain⟨k,m,rfl,X,G⟩:=zDU h;obtain⟨b,r⟩:=zO G;simp only[zV5]at b;have u:=beq_iff.1 b.1.1.1;have v:=blt_iff.1 b.1.1.2;have H:=blt_iff.1 b.1.2;have I:=zWF b.2;rw[zBv]at r;have J:=zTa (P:=P) (w:=w) (ty:=ty) (k:=k) (by rw[F.und,A]) (by rw[o.und,l]) a.info z1 H (by rw[a.sz];exact v) (by rw[a.bytes];exact I) (by omega);have c:z.cells.size=e.sz:=by
  have:=zWp List.length (z2 N);simp at this;omega
 have L:=grownCap_ge w m 0 el;have p:((List.replicate m f).flatten).length=m*e.sz:=by rw[<-u];exact zHR f m
 obtain⟨M,O,Q,R⟩:=zBp (q.drew) r (yS (zWd _) _ (zAr z3 m)) (zAL z4 m) (Builtin.zeroCells z.cells (grownCap w m 0 el-m)).toList (grownCap w m 0 el) (by
  rw[if_neg (by omega),p,zWi,size_zeroCells,c,<-zWs];congr 1;omega)
 refine⟨_,_,M,_,O,?_,(zE9 q).trans Q,by simp only[bd,R];omega⟩;have U:((Builtin.zeroCells z.cells m).toList)=(List.replicate m f).flatten.map (tr N):=by
  have:=zCU (N:=N) (n:=m) (z2 N) u v;rw[<-this];unfold Builtin.zeroCells;rw[c]
 simp only[tr,NM.add_bl,NM.add_cp,zX2,zZR,zFr,ite_self];show(Builtin.append_ #[t,i] ty #[.slice none 0 0,.int k (m:Nat)]).run P w=_;rw[J];congr 2;congr 1;apply zXK;rw[zYp,U]
noncomputable def xCap(D:Dat)(t:TypeId)(x:T)(K:T->Bool):Bool:=
 match D.tt.get t with
 |some d=>(match d.u with
  |.slice _=>(match x with
   |.atm v=>(match v with
    |.slice none _ c=>mkI .i64 (.ofNat c) K
    |_=>false)
   |.slc _ _ _ c=>mkI .i64 (.ofNat c) K
   |_=>false)
  |_=>false)
 |none=>false
theorem zOz(e:DOk P D)(g:HSim B N S w){t:TypeId}{x:T}{K:T->Bool}(h:xCap D t x K=true)(a:List TypeId)(ty:TypeId):FinS P N S w K (Builtin.cap_ (t::a).toArray ty #[tr N x]):=by
 unfold xCap at h;split at h
 case h_2=>cases h
 rename_i d f;have b:=e.tt _ _ f;split at h
 case h_2=>cases h
 rename_i el c;split at h
 .split at h
  .rw[zAJ]at h;exact finS  h (by simp[Builtin.cap_,b.run_und,c,goInt,tr]) trivial
  .cases h
 .rw[zAJ]at h;exact finS  h (by simp[Builtin.cap_,b.run_und,c,goInt,tr]) trivial
 .cases h
noncomputable def zMm(D:Dat)(S:XS)(t:TypeId)(x:T)(K:T->XS->Bool):Bool:=
 match D.tt.get t with
 |some d=>(match d.u with
  |.slice el=>(match x with
   |.atm v=>(match v with
    |.slice none _ _=>K (.tup []) S
    |_=>false)
   |.slc l o n _=>bif Nat.beq n 0 then K (.tup []) S else(match D.tt.get el with
    |some e=>(match e.zs with
     |some c=>bif Nat.beq c.length e.sz&&Nat.blt 0 e.sz then repK c n λxs=>(match S.h.get l with
      |some ob=>(match ob with
       |.row g cs f b=>bif Nat.ble f o then splK xs o cs λcs'=>Tr.setK (.row g cs' f b) 40 S.h l λh=>K (.tup []) ⟨h,S.nl⟩else false
       |_=>false)
      |none=>false)else false
     |none=>false)
    |none=>false)
   |.sl l z a _ n=>bif Nat.beq n 0 then K (.tup []) S else(match D.tt.get el with
    |some e=>(match e.zs with
     |some c=>bif Nat.beq c.length e.sz&&Nat.blt 0 e.sz&&Nat.beq z e.sz then repK c n λxs=>grK S l z λcs f b=>bif Nat.ble f (a*z)then splK xs (a*z) cs λcs'=>Tr.setK (.row z cs' f b) 40 S.h l λh=>K (.tup []) ⟨h,S.nl⟩else false else false
     |none=>false)
    |none=>false)
   |_=>false)
  |_=>false)
 |none=>false
theorem zKb{t el:TypeId}{e:TD}{ty:TypeId}{j:List TypeId}(k:P.underlying t=some (.slice el))(a:TOk P el e){d:List T}(l:e.zs=some d)(f:d.length=e.sz)(p:0<e.sz){b o n c:Nat}{w':World}(r:n≠0)
 (g:(storeCells ⟨b,o,none⟩ ((List.replicate n d).flatten.map (tr N))).run P w=.ok () w'):(Builtin.clear_ (t::j).toArray ty #[.slice (some ⟨b,o,none⟩) n c]).run P w=.ok (.tuple #[]) w':=by
 obtain⟨z,z1,z2,z3,z4⟩:=a.zs d l;have h:z.cells.size=e.sz:=by
  have:=zWp List.length (z2 N);simp at this;omega
 have q:((Builtin.zeroCells z.cells n).toList)=(List.replicate n d).flatten.map (tr N):=by
  have:=zCU (N:=N) (n:=n) (z2 N) f p;rw[<-this];unfold Builtin.zeroCells;rw[h]
 have i:(zeroValue el).run P w=.ok z w:=by simp[zeroValue,typeInfo,a.info,z1]
 obtain⟨m,rfl⟩:∃m,n=m+1:=⟨n-1,by omega⟩;unfold Builtin.clear_;simp only[zXv,zXf,Sem.run_bind,run_underlying k,Result.andThen_ok,i,q,g];rfl
theorem zRe(C:DOk P D)(r:HSim B N S w){t:TypeId}{x:T}{K:T->XS->Bool}(h:zMm D S t x K=true)(k:List TypeId)(ty:TypeId):Fin P B N S w K (Builtin.clear_ (t::k).toArray ty #[tr N x]):=by
 unfold zMm at h;split at h
 case h_2=>cases h
 rename_i d V;have W:=C.tt _ _ V;split at h
 case h_2=>cases h
 rename_i el X;have i:P.underlying t=some (.slice el):=by rw[W.und,X]
 have zero:∀{E:Option Addr}{c:Nat},K (.tup []) S=true->Fin P B N S w K (Builtin.clear_ (t::k).toArray ty #[.slice E 0 c]):=λ{E c} Y=>
  qb (x:=.tup []) r Y (by
   unfold Builtin.clear_;simp only[zXv,zXf,Sem.run_bind,run_underlying i,Result.andThen_ok];cases E<;>rfl) trivial
 split at h
 .split at h
  .exact qb (x:=.tup []) r h (by
    unfold Builtin.clear_;simp only[zXv,zXf,Sem.run_bind,run_underlying i,Result.andThen_ok];rfl) trivial
  .cases h
 .rename_i l o n c;cases b:Nat.beq n 0 with
  |true=>
   rw[b,zWQ]at h;have:=beq_iff.1 b;subst this;exact zero h
  |false=>
   rw[b,zWH]at h;have q:n≠0:=λe=>by rw[beq_iff.2 e]at b;cases b
   split at h
   case h_2=>cases h
   rename_i e F;have f:=C.tt _ _ F;split at h
   case h_2=>cases h
   rename_i s u;obtain⟨m,j⟩:=zO h;simp only[zV5]at m;have v:=beq_iff.1 m.1;have y:=blt_iff.1 m.2;rw[zBv]at j;split at j
   case h_2=>cases j
   rename_i ob Z;split at j
   case h_2=>cases j
   rename_i g cs fz aa;obtain⟨G,H⟩:=zO j;obtain⟨A,I⟩:=zAv _ _ _ _ H;obtain⟨h',J,L⟩:=Tr.setK_ok _ _ _ _ _ I;obtain⟨z,z1,z2,z3,z4⟩:=f.zs s u;obtain⟨w',M,O⟩:=zC6 (P:=P) r Z (yS (zWd _) _ (zAr z3 n)) (zAL z4 n) (zWF G) A L;exact⟨_,N,_,w',J,zKb (N:=N) i f u v y q M,O,trivial⟩
 .rename_i l z' a p n;cases b:Nat.beq n 0 with
  |true=>
   rw[b,zWQ]at h;have:=beq_iff.1 b;subst this;exact zero h
  |false=>
   rw[b,zWH]at h;have q:n≠0:=λe=>by rw[beq_iff.2 e]at b;cases b
   split at h
   case h_2=>cases h
   rename_i e F;have f:=C.tt _ _ F;split at h
   case h_2=>cases h
   rename_i s u;obtain⟨m,j⟩:=zO h;simp only[zV5]at m;have v:=beq_iff.1 m.1.1;have y:=blt_iff.1 m.1.2;have k3:=beq_iff.1 m.2;subst k3;rw[zBv]at j;obtain⟨cs,fz,arr,ab,ac,g1,g2,g3,g4,g5,g6,g7,g8,g9,ae⟩:=zCH r j;obtain⟨G,H⟩:=zO g1;obtain⟨A,I⟩:=zAv _ _ _ _ H;obtain⟨h',J,L⟩:=Tr.setK_ok _ _ _ _ _ I;obtain⟨z,z1,z2,z3,z4⟩:=f.zs s u;obtain⟨w',M,O⟩:=zC6 (P:=P) r g2 (yS (zWd _) _ (zAr z3 n)) (zAL z4 n) (zWF G) A L;have Q:((List.replicate n s).flatten).length=n*e.sz:=by rw[<-v];exact zHR s n
   rw[Q]at A;have U:0<n*e.sz:=Nat.mul_pos (by omega) y;have af:a<N.cp l:=zXs (by omega:a*e.sz<N.cp l*e.sz);have R:¬N.cp l=a:=by omega
   refine⟨_,N,_,w',J,?_,O,trivial⟩;simp only[tr,if_neg R];exact zKb (N:=N) i f u v y q M
 .cases h
end
end
section
open Go.RowKit
section
variable{P:Program}{B:Bs}{N:NM}{S:XS}{w:World}{D:Dat}
theorem zS2{e:TypeId}(h:P.cellsOf e≠0){c a n:Nat}(i:a % P.cellsOf e=0)(j:a / P.cellsOf e+n<=c):liesAt P P.depth e c a e n=true:=by
 obtain⟨d,g⟩:∃d,P.depth=d+1:=⟨_,rfl⟩;rw[g];unfold liesAt;rw[g];have b:sameLayout P (d+1) e e=true:=by
  unfold sameLayout;simp
 have f:rowAt P (sameLayout P (d+1) · e) (d+1) e c a n=true:=by
  unfold rowAt;simp[h,i,j,b]
 rw[f];rfl
theorem zML{b:Nat}{arr:Array Value}{el:TypeId}{m:Nat×Nat}(h:w.heap[b]?=some (.cells arr el m)):w.shape? b=some (el,arr.size):=by
 unfold World.shape?;rw[h]
theorem TOk.cellsOf{t:TypeId}{d:TD}(h:TOk P t d):P.cellsOf t=d.sz:=by
 unfold Program.cellsOf;rw[h.info,zXC,zXB,h.sz]
noncomputable def zPx(D:Dat)(S:XS)(df b:TD)(x:T)(K:T->Bool):Bool:=
 match x with
 |.ptr l o=>(match S.h.get l with
  |some ob=>(match ob with
   |.row _ cs _ el=>(match df.u with
    |.pointer e0=>(match b.u with
     |.unsafePointer=>(match D.tt.get e0 with
      |some a=>bif Nat.blt 0 a.sz&&Nat.blt o cs.length then K x else false
      |none=>false)
     |_=>false)
    |.unsafePointer=>(match b.u with
     |.pointer u=>(match D.tt.get u with
      |some a=>bif Nat.beq u el&&Nat.beq o 0&&Nat.blt 0 a.sz&&Nat.ble a.sz cs.length then K x else false
      |none=>false)
     |_=>false)
    |_=>false)
   |_=>false)
  |none=>false)
 |_=>false
theorem zSh(k:DOk P D)(y:HSim B N S w){f t:TypeId}{df m:TD}(n:TOk P f df)(p:TOk P t m){x:T}{K:T->Bool}(h:zPx D S df m x K=true)(q:bd S.nl x):FinS P N S w K (Go.convert f t (tr N x)):=by
 unfold zPx at h;split at h
 case h_2=>cases h
 rename_i l o;split at h
 case h_2=>cases h
 rename_i ob z;split at h
 case h_2=>cases h
 rename_i g cs E el;obtain⟨arr,hi,A,F,G,H,I,J⟩:=y.ok l _ z;have i:=zML A;split at h
 .rename_i e0 c;split at h
  case h_2=>cases h
  rename_i d;split at h
  case h_2=>cases h
  rename_i r e;obtain⟨b,j⟩:=zO h;rw[zV5]at b;have s:=blt_iff.1 b.1;have v:=blt_iff.1 b.2;have a:=k.tt _ _ e;refine finS j ?_ q;exact Lib.run_to_unsafe w ⟨N.bl l,o,none⟩ (by rw[n.und,c]) (by rw[p.und,d]) a.info (by rw[a.sz];omega) i (by show o<arr.size;omega)
 .rename_i c;split at h
  case h_2=>cases h
  rename_i u d;split at h
  case h_2=>cases h
  rename_i r e;obtain⟨b,j⟩:=zO h;simp only[zV5]at b;have s:=beq_iff.1 b.1.1.1;have v:=beq_iff.1 b.1.1.2;have C:=blt_iff.1 b.1.2;have L:=zWF b.2;subst s;subst v;have a:=k.tt _ _ e;refine finS j ?_ q;refine Lib.run_from_unsafe w ⟨N.bl l,0,none⟩ (by rw[n.und,c]) (by rw[p.und,d]) a.info i ?_;rw[a.cellsOf];refine zS2 (by rw[a.cellsOf];omega) (by simp) ?_;rw[a.cellsOf];have:1<=arr.size / r.sz:=(Nat.one_le_div_iff C).2 (by omega);simp only[Nat.zero_div];omega
 .cases h
noncomputable def zFc(D:Dat)(S:XS)(f t:TypeId)(x:T)(K:T->Bool):Bool:=
 match x with
 |.ptr l o=>(match D.tt.get f with
  |some df=>(match D.tt.get t with
   |some a=>zPx D S df a (.ptr l o) K
   |none=>false)
  |none=>false)
 |x=>zP8 D S f t x K
theorem zKN(a:DOk P D)(d:HSim B N S w){f t:TypeId}{x:T}{K:T->Bool}(h:zFc D S f t x K=true)(e:bd S.nl x):FinS P N S w K (Go.convert f t (tr N x)):=by
 unfold zFc at h;split at h
 .split at h
  case h_2=>cases h
  rename_i df b;split at h
  case h_2=>cases h
  rename_i g c;exact zSh a d (a.tt _ _ b) (a.tt _ _ c) h e
 .exact zS3 a d h
noncomputable def zO8(D:Dat)(a:BinOp)(t:TypeId)(c:Bool)(x y:T)(K:T->Bool):Bool:=
 match x with
 |.ptr l o=>(match y with
  |.ptr b o'=>bif Nat.beq l b&&Nat.beq o o' then(match D.tt.get t with
   |some d=>(match d.u with
    |.pointer e=>(match D.tt.get e with
     |some _=>(match a with
      |.eql=>K (.bool true)
      |.neq=>K (.bool false)
      |_=>false)
     |none=>false)
    |_=>false)
   |none=>false)else false
  |y=>xBin D a t c (.ptr l o) y K)
 |x=>xBin D a t c x y K
theorem zSd(c:DOk P D)(i:HSim B N S w){e:BinOp}{t:TypeId}{x y:T}{ox oy:Operand}{K:T->Bool}(h:zO8 D e t (zAg oy) x y K=true):FinS P N S w K (do eqGuard e t ox oy (tr N x) (tr N y);Go.binOp e t (tr N x) (tr N y)):=by
 unfold zO8 at h;split at h
 .rename_i l o;split at h
  .rename_i q o';obtain⟨f,a⟩:=zO h;rw[zV5]at f;have m:=beq_iff.1 f.1;have n:=beq_iff.1 f.2;subst m;subst n;split at a
   case h_2=>cases a
   rename_i d p;have j:=c.tt _ _ p;split at a
   case h_2=>cases a
   rename_i r k;split at a
   case h_2=>cases a
   rename_i s g;have b:=c.tt _ _ g;split at a
   .exact finS a (zBm rfl (by simp[tr]) (run_eql_ptr_same w ⟨N.bl l,o,none⟩ (by rw[j.und,k]) b.info)) trivial
   .exact finS a (zBm rfl (by simp[tr]) (Lib.run_neq_ptr_same w ⟨N.bl l,o,none⟩ (by rw[j.und,k]) b.info)) trivial
   .cases a
  .exact zOv c i h
 .exact zOv c i h
noncomputable def xUSD(S:XS)(x:T)(K:T->Bool):Bool:=
 match x with
 |.slc l o _ c=>bif Nat.blt 0 c then K (.ptr l o)else false
 |.sl l z a _ _=>grK S l z λcs _ _=>bif Nat.ble ((a+1)*z) cs.length then fN (a*z) λo=>K (.ptr l o)else false
 |.atm v=>(match v with
  |.slice none _ _=>K (.atm (.pointer none))
  |_=>false)
 |_=>false
theorem zOn(i:HSim B N S w){x:T}{K:T->Bool}(h:xUSD S x K=true)(g:bd S.nl x)(b:Array TypeId)(ty:TypeId):FinS P N S w K (Builtin.unsafeSliceData_ b ty #[tr N x]):=by
 unfold xUSD at h;split at h
 .rename_i l o n c;obtain⟨e,d⟩:=zO h;have j:=blt_iff.1 e;exact finS d (Lib.run_unsafeSliceData_row w b ty ⟨N.bl l,o,none⟩ n c (by omega)) g
 .rename_i l z a p n;obtain⟨cs,u,arr,k,m,q,v,r,y,A,C,E,F,G,s⟩:=zCH i h;obtain⟨e,d⟩:=zO q;rw[zy]at d;have j:=zWF e;have t:a+1<=N.cp l:=zXh (by omega:(a+1)*z<=N.cp l*z) r;refine finS d ?_ g;have f:¬N.cp l=a:=by omega
  simp only[tr,if_neg f];exact Lib.run_unsafeSliceData_row w b ty ⟨N.bl l,a*z,none⟩ n (N.cp l-a) (by omega)
 .split at h
  .exact finS h (Lib.run_unsafeSliceData_nil w b ty _ _) rfl
  .cases h
 .cases h
noncomputable def u8K(l:List Nat):Bool:=List.rec (motive:=λ_=>Bool) true (λb _ a=>bif Nat.blt b 256 then a else false) l
theorem zQN:∀{l:List Nat},u8K l=true->∀b∈l,b<256
 |[],_,b,a=>by cases a
 |c::l,h,b,a=>by
  have h:(bif Nat.blt c 256 then u8K l else false)=true:=h;obtain⟨d,e⟩:=zO h;rcases zWB.1 a with rfl|a
  .exact blt_iff.1 d
  .exact zQN e b a
noncomputable def zPL(D:Dat)(S:XS)(b:List TypeId)(x y:T)(K:T->XS->Bool):Bool:=
 match b with
 |[c,_]=>(match y with
  |.int .i64 n=>(match n with
   |.ofNat n=>bif Nat.beq n 0 then(match x with
    |.ptr _ _=>K (.str []) S
    |.atm v=>(match v with
     |.pointer none=>K (.str []) S
     |_=>false)
    |_=>false)else(match x with
    |.ptr l o=>(match D.tt.get c with
     |some d=>(match d.u with
      |.pointer e=>(match D.tt.get e with
       |some f=>(match S.h.get l with
        |some ob=>(match ob with
         |.row g cs a el=>bif Nat.beq o 0&&Nat.beq el e&&Nat.beq f.sz 1&&Nat.ble n 9223372036854775807 then zBI n cs λr=>zIj r λs=>bif u8K s then fN (bif Nat.ble a n then n else a) λa=>Tr.setK (.row g cs a el) 40 S.h l λh=>K (.str s) ⟨h,S.nl⟩else false else false
         |_=>false)
        |none=>false)
       |none=>false)
      |_=>false)
     |none=>false)
    |_=>false)
   |.negSucc _=>false)
  |_=>false)
 |_=>false
theorem zNb{b:Nat}{arr:Array Value}{el:TypeId}{hi n:Nat}(h:w.heap[b]?=some (.cells arr el (0,hi)))(a:n≠0):(w.freeze ⟨b,0,none⟩ n).heap[b]?=some (.cells arr el (0,max hi n)):=by
 unfold World.freeze;rw[if_neg a];simp only[zYj,zWE,h,zXC];congr 2;by_cases e:(0==hi)=true
 .rw[if_pos e];have:0=hi:=by simpa using e
  subst this;simp
 .rw[if_neg e];simp
theorem zFb{b c n:Nat}(h:c≠b):(w.freeze ⟨b,0,none⟩ n).heap[c]?=w.heap[c]?:=by
 unfold World.freeze;split
 .rfl
 .simp only[zYj];rw[if_neg (zW8 h)]
theorem zNY{b n:Nat}:(w.freeze ⟨b,0,none⟩ n).heap.size=w.heap.size:=by
 unfold World.freeze;split
 .rfl
 .simp
theorem zMl{b n B:Nat}(h:B<=b):Below B w (w.freeze ⟨b,0,none⟩ n):=Lib.below_freeze (Below.refl B w) (p:=⟨b,0,none⟩) h n
theorem zTQ(U:DOk P D)(p:HSim B N S w){V:List TypeId}{x y:T}{K:T->XS->Bool}(h:zPL D S V x y K=true)(ty:TypeId):Fin P B N S w K (Builtin.unsafeString_ V.toArray ty #[tr N x,tr N y]):=by
 unfold zPL at h;split at h
 case h_2=>cases h
 rename_i C E;split at h
 case h_2=>cases h
 rename_i n;split at h
 case h_2=>cases h
 rename_i n;cases r:Nat.beq n 0 with
 |true=>
  rw[r,zWQ]at h;have:=beq_iff.1 r;subst this;split at h
  .exact qb (x:=.str []) p h (Lib.run_unsafeString_none w C E ty _) trivial
  .split at h
   .exact qb (x:=.str []) p h (Lib.run_unsafeString_none w C E ty _) trivial
   .cases h
  .cases h
 |false=>
  rw[r,zWH]at h;have s:n≠0:=λe=>by rw[beq_iff.2 e]at r;cases r
  split at h
  case h_2=>cases h
  rename_i l o;split at h
  case h_2=>cases h
  rename_i dp F;split at h
  case h_2=>cases h
  rename_i e G;split at h
  case h_2=>cases h
  rename_i de H;split at h
  case h_2=>cases h
  rename_i ob A;split at h
  case h_2=>cases h
  rename_i g cs t el;obtain⟨u,Z⟩:=zO h;simp only[zV5]at u;have e1:=beq_iff.1 u.1.1.1;have e2:=beq_iff.1 u.1.1.2;have e3:=beq_iff.1 u.1.2;have e4:=zWF u.2;subst e1;subst e2;obtain⟨h3,h4⟩:=jC _ _ _ Z;obtain⟨v,h5,W⟩:=zGA h4;obtain⟨h7,X⟩:=zO h5;rw[zy]at X;obtain⟨h',h9,k⟩:=Tr.setK_ok _ _ _ _ _ X;have z:=zQN h7;obtain⟨arr,hi,I,k2,k3,J,⟨k5,k6⟩,k7⟩:=p.ok l _ A;have f:=p.low l _ A rfl;simp only[isRo,zWO,zWA]at f;have L:v.length=n:=by
   have:=zWp List.length W;simp at this;omega
  have M:=U.tt _ _ F;have O:=U.tt _ _ H;have Q:(bif Nat.ble t n then n else t)=max t n:=by
   cases a:Nat.ble t n with
   |true=>rw[zWQ];have:=zWF a;omega
   |false=>
    rw[zWH];have:¬t<=n:=λq=>by rw[zYN q]at a;cases a
    omega
  rw[Q]at k;have i:(v.map UInt8.ofNat).length=n:=by simpa using L
  have Y:=Lib.run_unsafeString_row (P:=P) w C E ty el (by rw[M.und,G]) (by rw[O.cellsOf,e3]) (N.bl l) arr.size (zML I) (v.map UInt8.ofNat) (λq=>s (by rw[<-i,q];rfl)) (by omega) (by omega) (λj x m=>by
   rw[z7,zWP];have R:(cs.map (tr N)).length=cs.length:=by simp
   rw[<-R]at J;refine zAT I J _ ?_;rw[zWM]at m;cases c:v[j]? with
   |none=>rw[c]at m;cases m
   |some b=>
    rw[c]at m;injection m with m
    subst m;have d:(cs.take n)[j]?=some (.int .u8 (.ofNat b)):=by rw[W,zWM,c];rfl
    rw[zWb]at d;split at d
    .rw[zWM,d];have a:=z b (zXy c);simp only[zXC,tr];congr 2;simp only[zYK];show Int.ofNat b=Int.ofNat (b % 256);rw[Nat.mod_eq_of_lt a]
    .cases d)
  rw[i]at Y;refine⟨.str v,N,_,_,h9,Y,.set A rfl k ?_ (zMl f.1) (λb a=>zFb a),trivial⟩;refine p.upd A rfl rfl rfl (λb a=>zFb a) zNY ?_ k;rw[zNb I s];exact⟨arr,max hi n,rfl,by omega,k3,J,⟨k5,k6⟩,k7⟩
noncomputable def cntK(c:Nat)(l:List Nat):Nat->(Nat->Bool)->Bool:=
 List.rec (motive:=λ_=>Nat->(Nat->Bool)->Bool) (λi κ=>κ i) (λb _ a i κ=>bif Nat.beq (Nat.mod b 256) c then fN (i+1) λj=>a j κ else a i κ) l
theorem zUz(a:HSim B N S w){ps:Array TypeId}{t e:TypeId}(b:P.underlying t=some (.slice e)){n:Nat}(c:n<=281474976710656){K:T->XS->Bool}(h:(newK S (.row 1 [] 0 e) λl S=>K (.sl l 1 0 0 n) S)=true):Fin P B N S w K (Extern.BytealgMakeNoZero.makeNoZero ps #[t] #[.int .i64 n]):=by
 obtain⟨cs,d,k,m⟩:=Lib.run_makeNoZero (P:=P) w ps t e b n c;obtain⟨f,g,i,j⟩:=zBp (a.drew.drew) (cs:=[]) h trivial rfl cs.toList cs.size (by simp);refine⟨_,_,f,_,g,?_,((zE9 a).trans (zE9 a.drew)).trans i,by simp only[bd,j];omega⟩;rw[d];simp only[tr,NM.add_bl,NM.add_cp,zX2,zZR,zFr,ite_self];congr 2
end
end
section
open Go.RowKit
section
variable{P:Program}{B:Bs}{N:NM}{S:XS}{w:World}{D:Dat}
noncomputable def ekK(k:EK)(x y:T)(κ:Bool->Bool):Bool:=
 match k with
 |.i=>(match x with
  |.int a m=>(match y with|.int b n=>bif Nat.beq (Kd a) (Kd b)then fB (ieqB m n) κ else false|_=>false)
  |_=>false)
 |.b=>(match x with
  |.bool a=>(match y with|.bool b=>fB (a==b) κ|_=>false)
  |_=>false)
 |.s=>(match x with
  |.str a=>(match y with|.str b=>fB (seqB a b) κ|_=>false)
  |_=>false)
theorem ekK_ok{k:EK}{x y:T}{κ:Bool->Bool}(h:ekK k x y κ=true){t:TypeId}(c:EkOk P t k)(N:NM):∃b,κ b=true/\(∀d w,(Op.equalIn (d+1) t (tr N x) (tr N y)).run P w=.ok b w)/\(b=true->tr N x=tr N y)/\∀m,Instr.sameBits m (tr N x) (tr N x)=true:=by
 unfold ekK at h;split at h
 .obtain⟨q,g⟩:=c;split at h
  .split at h
   .obtain⟨i,f⟩:=zO h;have:=zH3 i;subst this;rw[zBU,zCw]at f;refine⟨_,f,λd w=>by simp only[tr];rw[run_equalIn_int w d t _ _ _ _ g],λe=>?_,λm=>?_⟩
    .rw[zXq]at e;rw[e]
    .cases m<;>simp[tr,Instr.sameBits]
   .cases h
  .cases h
 .split at h
  .split at h
   .rw[zBU]at h;refine⟨_,h,λd w=>by simp only[tr];exact run_equalIn_bool w d t _ _ c,λe=>?_,λm=>?_⟩
    .rw[zXq]at e;rw[e]
    .cases m<;>simp[tr,Instr.sameBits]
   .cases h
  .cases h
 .split at h
  .split at h
   .rename_i a _ b;rw[zBU]at h;refine⟨_,h,λd w=>?_,λe=>?_,λm=>?_⟩
    .simp only[tr];rw[run_equalIn_string w d t _ _ c,<-beq_toListBytes,zIt]
    .rw[kU,zWV]at e;simp only[tr,bts,e]
    .have:(bts a==bts a)=true:=by rw[zIt,kU,zWV]
     cases m<;>simp[tr,Instr.sameBits,this]
   .cases h
  .cases h
noncomputable def eqCK(fs:List EK):List T->List T->(Bool->Bool)->Bool:=
 List.rec (motive:=λ_=>List T->List T->(Bool->Bool)->Bool) (λxs ys κ=>List.casesOn (motive:=λ_=>Bool) xs (List.casesOn (motive:=λ_=>Bool) ys (κ true) λ_ _=>false) λ_ _=>false)
  (λk _ a xs ys κ=>List.casesOn (motive:=λ_=>Bool) xs false λx xs=>List.casesOn (motive:=λ_=>Bool) ys false λy ys=>ekK k x y λb=>bif b then a xs ys κ else κ false) fs
theorem zHP{t:TypeId}{vs:List Value}{n:Nat}{v:Value}(a:(isAgg t).run P w=.ok false w)(b:vs[n]?=some v):(part t vs.toArray n).run P w=.ok v w:=by
 unfold part;simp[a,b]
theorem zN4:∀{fs:List EK}{a:List Field}{n:Nat}{pre pre' xs ys:List T}{κ:Bool->Bool},eqCK fs xs ys κ=true->FsOk P n a fs->pre.length=n->pre'.length=n->∃b,κ b=true /\
 (∀d w,(Op.eqFields (d+1) ((pre++xs).map (tr N)).toArray ((pre'++ys).map (tr N)).toArray a).run P w=.ok b w)/\(b=true->xs.map (tr N)=ys.map (tr N)/\∀x∈xs,∀m,Instr.sameBits m (tr N x) (tr N x)=true)
 |[],[],n,pre,pre',xs,ys,κ,h,g,_,_=>by
  cases xs with
  |nil=>cases ys with
   |nil=>exact⟨true,h,λd w=>rfl,λ_=>⟨rfl,λx s=>by cases s⟩⟩
   |cons _ _=>cases h
  |cons _ _=>cases h
 |[],_::_,_,_,_,_,_,_,_,g,_,_=>by cases g
 |_::_,[],_,_,_,_,_,_,_,g,_,_=>by cases g
 |k::fs,f::a,n,pre,pre',xs,ys,κ,h,g,o,j=>by
  obtain⟨t,u,i,v⟩:=g;cases xs with
  |nil=>cases h
  |cons x xs=>cases ys with
   |nil=>cases h
   |cons y ys=>
    have h:(ekK k x y λb=>bif b then eqCK fs xs ys κ else κ false)=true:=h;obtain⟨b,p,A,C,E⟩:=ekK_ok h i N;have r:∀w,(isAgg f.type).run P w=.ok false w:=λw=>by
     unfold EkOk at i;split at i
     .obtain⟨q,F⟩:=i;simp[isAgg,run_underlying F]
     .simp[isAgg,run_underlying i]
     .simp[isAgg,run_underlying i]
    have G:((pre++x::xs).map (tr N))[n]?=some (tr N x):=by subst o;simp
    have H:((pre'++y::ys).map (tr N))[n]?=some (tr N y):=by subst j;simp
    have c:∀d w,(Op.eqFields (d+1) ((pre++x::xs).map (tr N)).toArray ((pre'++y::ys).map (tr N)).toArray (f::a)).run P w=(if(!b)=true then(pure false:Sem Bool)else Op.eqFields (d+1) ((pre++x::xs).map (tr N)).toArray ((pre'++y::ys).map (tr N)).toArray a).run P w:=λd w=>by
     simp only[Op.eqFields];rw[if_pos t,u];simp only[Sem.run_bind];rw[zHP (r w) G];simp only[Result.andThen_ok,Sem.run_bind];rw[zHP (r w) H];simp only[Result.andThen_ok,Sem.run_bind];rw[A d w];rfl
    cases b with
    |false=>
     refine⟨false,p,λd w=>?_,λe=>by cases e⟩;rw[c];rfl
    |true=>
     have I:=zN4 (pre:=pre++[x]) (pre':=pre'++[y]) (n:=n+1) (show eqCK fs xs ys κ=true from p) v (by simp[o]) (by simp[j]);obtain⟨J,K,L,M⟩:=I;refine⟨J,K,λd w=>?_,λe=>?_⟩
     .rw[c];have:=L d w;simp only[zXT,zZH]at this;simpa using this
     .obtain⟨O,Q⟩:=M e;refine⟨by rw[zV6,zV6,C rfl,O],λz l=>?_⟩;rcases zWB.1 l with rfl|l
      .exact E
      .exact Q z l
theorem zHu{t:TypeId}{fs:List EK}(a:EqT P t fs){xs ys:List T}{κ:Bool->Bool}(h:eqCK fs xs ys κ=true)(N:NM):∃b,κ b=true/\(∀w,(Op.equalIn 10000 t (.agg (xs.map (tr N)).toArray) (.agg (ys.map (tr N)).toArray)).run P w=.ok b w)/\(b=true->xs.map (tr N)=ys.map (tr N)/\∀x∈xs,∀m,Instr.sameBits m (tr N x) (tr N x)=true):=by
 obtain⟨b,c,d,e⟩:=zN4 (N:=N) (pre:=[]) (pre':=[]) h a.fs rfl rfl;refine⟨b,c,λw=>?_,e⟩;rw[run_equalIn_struct w 9999 t _ _ a.und a.held];exact d 9998 w
noncomputable def eqtK(D:Dat)(t:TypeId)(κ:List EK->Bool):Bool:=
 match D.ex.get (1000000+t)with
 |some k=>(match k with
  |.eqt fs=>κ fs
  |_=>false)
 |none=>false
theorem zJr(a:DOk P D){t:TypeId}{κ:List EK->Bool}(h:eqtK D t κ=true):∃fs,κ fs=true/\EqT P t fs:=by
 unfold eqtK at h;split at h
 .rename_i k b;split at h
  .rename_i fs;have:=a.ex _ _ b;have e:1000000+t-1000000=t:=Nat.add_sub_cancel_left _ _;have:EqT P (1000000+t-1000000) fs:=this;rw[e]at this;exact⟨fs,h,this⟩
  .cases h
 .cases h
noncomputable def zIS(D:Dat)(a:BinOp)(t:TypeId)(c:Bool)(x y:T)(K:T->Bool):Bool:=
 match x with
 |.agg xs=>(match y with
  |.agg ys=>eqtK D t λfs=>eqCK fs xs ys λb=>(match a with
   |.eql=>K (.bool b)
   |.neq=>fB (!b) λb=>K (.bool b)
   |_=>false)
  |_=>false)
 |x=>zO8 D a t c x y K
theorem zLX(d:DOk P D)(i:HSim B N S w){c:BinOp}{t:TypeId}{x y:T}{ox oy:Operand}{K:T->Bool}(h:zIS D c t (zAg oy) x y K=true):FinS P N S w K (do eqGuard c t ox oy (tr N x) (tr N y);Go.binOp c t (tr N x) (tr N y)):=by
 unfold zIS at h;split at h
 .split at h
  case h_2=>cases h
  rename_i xs _ ys;obtain⟨fs,j,e⟩:=zJr d h;obtain⟨b,a,f,_⟩:=zHu e j N;have g:=run_eqGuard_agg (P:=P) w c t ox oy (xs.map (tr N)).toArray (ys.map (tr N)).toArray e.grd;split at a
  .refine finS a ?_ trivial;simp only[tr,yQ,Sem.run_bind,g,Result.andThen_ok];rw[run_eql_struct,f];rfl
  .rw[zBU]at a;refine finS a ?_ trivial;simp only[tr,yQ,Sem.run_bind,g,Result.andThen_ok];rw[run_neq_struct,f];rfl
  .cases a
 .exact zSd d i h
theorem zH9{t:TypeId}{fs:List EK}(e:EqT P t fs){vs:List Value}(u:vs.length=fs.length)(b:Bool)(n:Nat):(Instr.checkKey b (n+2) t (.agg vs.toArray)).run P w=.ok () w:=by
 unfold Instr.checkKey;simp only[Sem.run_bind,run_underlying e.und,Result.andThen_ok];rw[<-Array.forIn_toList];have c:∀(l:List Field)(q:List EK)(i:Nat),FsOk P i l q->i+q.length=vs.length->(forIn l PUnit.unit λf _=>if f.name ≠ "_" then(do
  let v <-part f.type vs.toArray f.offset
  Instr.checkKey b (n+1) f.type v
  pure (ForInStep.yield PUnit.unit))else pure (ForInStep.yield PUnit.unit):Sem PUnit).run P w=.ok () w:=by
  intro l
  induction l with
  |nil=>intro q i _ _;rfl
  |cons f l h=>
   intro q i g hi;cases q with
   |nil=>cases g
   |cons k q=>
    obtain⟨j,m,a,o⟩:=g;have p:(isAgg f.type).run P w=.ok false w:=by
     unfold EkOk at a;split at a
     .obtain⟨q,d⟩:=a;simp[isAgg,run_underlying d]
     .simp[isAgg,run_underlying a]
     .simp[isAgg,run_underlying a]
    have r:vs[f.offset]?=some (vs[i]'(by simp at hi;omega)):=by rw[m];simp
    have s:∀v,(Instr.checkKey b (n+1) f.type v).run P w=.ok () w:=λv=>by
     unfold Instr.checkKey;unfold EkOk at a;split at a
     .obtain⟨q,d⟩:=a;simp[run_underlying d]
     .simp[run_underlying a]
     .simp[run_underlying a]
    rw[List.forIn_cons];simp only[if_pos j,Sem.run_bind];rw[zHP p r];simp only[Result.andThen_ok,s,Sem.run_pure];exact h q (i+1) o (by simp at hi;omega)
 have:=c _ fs 0 e.fs (by omega);rw[this];rfl
noncomputable def zLC(fs:List EK)(k:List T)(es:List (T×T×Nat))(κ:Option T->Bool):Bool:=
 List.rec (motive:=λ_=>Bool) (κ none) (λe _ a=>(match e.1 with
  |.agg c=>eqCK fs k c λb=>bif b then κ (some e.2.1)else a
  |_=>false)) es
theorem zI7{t:TypeId}{fs:List EK}(d:EqT P t fs){k:List T}:∀{es:List (T×T×Nat)}{κ:Option T->Bool},zLC fs k es κ=true->∀i,∃r,κ r=true/\(match r with
 |none=>∀w,(Instr.findAsking t (tr N (.agg k)) (es.map (trE N)) i).run P w=.ok none w
 |some v=>∃j p,es[j]?=some p/\p.2.1=v/\∀w,(Instr.findAsking t (tr N (.agg k)) (es.map (trE N)) i).run P w=.ok (some (i+j,tr N v)) w)
 |[],κ,h,i=>⟨none,h,λw=>rfl⟩
 |e::es,κ,h,i=>by
  have h:(match e.1 with
   |.agg c=>eqCK fs k c λb=>bif b then κ (some e.2.1)else zLC fs k es κ
   |_=>false)=true:=h
  split at h
  case h_2=>cases h
  rename_i c l;obtain⟨b,f,m,_⟩:=zHu d h N;have a:∀w,(Instr.findAsking t (tr N (.agg k)) ((e::es).map (trE N)) i).run P w=(if b=true then(pure (some (i,tr N e.2.1)):Sem (Option (Nat×Value)))else Instr.findAsking t (tr N (.agg k)) (es.map (trE N)) (i+1)).run P w:=λw=>by
   simp only[zV6,Instr.findAsking,Sem.run_bind,trE,l];have:(Op.equal t (tr N (.agg k)) (tr N (.agg c))).run P w=.ok b w:=by
    simp only[tr,yQ];exact m w
   rw[this];rfl
  cases b with
  |true=>
   exact⟨some e.2.1,f,0,e,rfl,rfl,λw=>by rw[a w];rfl⟩
  |false=>
   obtain⟨r,n,g⟩:=zI7 d (show zLC fs k es κ=true from f) (i+1);refine⟨r,n,?_⟩;cases r with
   |none=>exact λw=>by rw[a w];exact g w
   |some v=>
    obtain⟨j,p,o,q,s⟩:=g;refine⟨j+1,p,o,q,λw=>?_⟩;rw[a w,if_neg (by simp),s w];congr 3;omega
theorem zDA{t:TypeId}{fs:List EK}(a:EqT P t fs){k:Value}{es:List MapEntry}{r:Option (Nat×Value)}(h:∀w,(Instr.findAsking t k es 0).run P w=.ok r w):(Instr.findKey t k es).run P w=.ok r w:=by
 unfold Instr.findKey;simp only[Sem.run_bind,run_underlying a.und,Result.andThen_ok];cases es with
 |nil=>
  have:=h w;simp only[Instr.findNow];exact this
 |cons e es=>
  have:Instr.findNow (.struct (P.fieldsOf t)) k (e::es) 0=none:=by
   simp only[Instr.findNow];have:Instr.sameNow (.struct (P.fieldsOf t)) k e.key=none:=by
    unfold Instr.sameNow;split<;>first|rfl|simp_all
   rw[this]
  rw[this];exact h w
noncomputable def zFx(D:Dat)(S:XS)(t:TypeId)(m k:T)(c:Bool)(K:T->Bool):Bool:=
 match k with
 |.agg a=>(match D.tt.get t with
  |some d=>(match d.u with
   |.map b el=>(match D.tt.get el with
    |some e=>eqtK D b λfs=>bif zagB e&&Nat.beq a.length fs.length then(match m with
     |.atm v=>(match v with
      |.map none=>zroK e λx=>outK c x false K
      |_=>false)
     |.mp l=>(match S.h.get l with
      |some ob=>(match ob with
       |.mp es _=>zLC fs a es λr=>(match r with
        |some x=>outK c x true K
        |none=>zroK e λx=>outK c x false K)
       |_=>false)
      |none=>false)
     |_=>false)else false
    |none=>false)
   |_=>false)
  |none=>false)
 |k=>zP4 D S t m k c K
theorem zKh(C:DOk P D)(Q:HSim B N S w){t:TypeId}{m k:T}{c:Bool}{K:T->Bool}(h:zFx D S t m k c K=true):FinS P N S w K (Instr.lookup t (tr N m) (tr N k) c):=by
 unfold zFx at h;split at h
 case h_2=>exact zSt C Q h
 rename_i E;split at h
 case h_2=>cases h
 rename_i d U;have J:=C.tt _ _ U;split at h
 case h_2=>cases h
 rename_i F el L;split at h
 case h_2=>cases h
 rename_i e V;have o:=C.tt _ _ V;obtain⟨fs,R,q⟩:=zJr C h;obtain⟨G,f⟩:=zO R;rw[zV5]at G;have s:=zOT G.1;have W:=beq_iff.1 G.2;clear h R G;have a:∀b,(Instr.checkKey b 10000 F (tr N (.agg E))).run P w=.ok () w:=λb=>by
  simp only[tr,yQ];exact zH9 q (by simpa using W) b 9998
 split at f
 .split at f
  .obtain⟨x,H,I,M⟩:=zGX o f s N;obtain⟨y,u,v,z⟩:=zC0 (S:=S) (N:=N) H (qi (zWd _) _ I);refine finS  u ?_ v;have n:(Instr.findKey F (tr N (.agg E)) []).run P w=.ok none w:=zDA q λw=>rfl;rw[z];simp only[Instr.lookup,Sem.run_bind,J.run_und,L,Result.andThen_ok,Sem.run_pure];simp only[tr]at n a ⊢;simp only[Sem.run_bind,Sem.run_pure,Result.andThen_ok];rw[a];simp only[Result.andThen_ok,n,Sem.run_bind,M,Sem.run_pure]
   all_goals (cases c<;>rfl)
  .cases f
 .rename_i l;split at f
  case h_2=>cases f
  rename_i ob X;split at f
  case h_2=>cases f
  rename_i es i;obtain⟨arr,Y,Z,k3⟩:=Q.ok l _ X;have A:arr.toList=es.map (trE N):=Z;obtain⟨r,H,I⟩:=zI7 (N:=N) q f 0;have g:(getObj (N.bl l)).run P w=.ok (.map arr i) w:=by simp[getObj,Sem.run,Y]
  cases r with
  |some x=>
   obtain⟨j,p,p1,p2,p3⟩:=I;have O:bd S.nl x:=by rw[<-p2];exact(k3 p (zXy p1)).2
   obtain⟨y,u,v,z⟩:=zC0 (S:=S) (N:=N) H O;refine finS  u ?_ v;have n:(Instr.findKey F (tr N (.agg E)) (es.map (trE N))).run P w=.ok (some (0+j,tr N x)) w:=zDA q p3;rw[z];simp only[Instr.lookup,Sem.run_bind,J.run_und,L,Result.andThen_ok,Sem.run_pure];rw[show tr N (.mp l)=.map (some (N.bl l))from rfl];simp only[Sem.run_bind,g,Sem.run_pure,Result.andThen_ok];rw[a];simp only[Result.andThen_ok,A,n,Sem.run_pure,Sem.run_bind]
   all_goals (cases c<;>rfl)
  |none=>
   obtain⟨x,M,q4,q5⟩:=zGX o H s N;obtain⟨y,u,v,z⟩:=zC0 (S:=S) (N:=N) M (qi (zWd _) _ q4);refine finS  u ?_ v;have n:(Instr.findKey F (tr N (.agg E)) (es.map (trE N))).run P w=.ok none w:=zDA q I;rw[z];simp only[Instr.lookup,Sem.run_bind,J.run_und,L,Result.andThen_ok,Sem.run_pure];rw[show tr N (.mp l)=.map (some (N.bl l))from rfl];simp only[Sem.run_bind,g,Sem.run_pure,Result.andThen_ok];rw[a];simp only[Result.andThen_ok,A,n,Sem.run_bind,q5,Sem.run_pure]
   all_goals (cases c<;>rfl)
 .cases f
noncomputable def zK1(fs:List EK)(k:List T)(v:T)(a:Nat)(es:List (T×T×Nat)):(List (T×T×Nat)->Nat->Bool)->Bool:=
 List.rec (motive:=λ_=>(List (T×T×Nat)->Nat->Bool)->Bool) (λκ=>fN (a+1) λc=>κ [(.agg k,v,a)] c)
  (λe r d κ=>(match e.1 with
   |.agg c=>eqCK fs k c λb=>bif b then κ ((.agg k,v,e.2.2)::r) a else d λes c=>κ (e::es) c
   |_=>false)) es
theorem zMU{t:TypeId}{fs:List EK}(u:EqT P t fs){k:List T}{v:T}{a:Nat}:∀{es:List (T×T×Nat)}{κ:List (T×T×Nat)->Nat->Bool},zK1 fs k v a es κ=true->∀i,∃f c,κ f c=true /\
 ((∃j p,es[j]?=some p/\f=es.set j (.agg k,v,p.2.2)/\c=a/\(∀w,(Instr.findAsking t (tr N (.agg k)) (es.map (trE N)) i).run P w=.ok (some (i+j,tr N p.2.1)) w)/\Instr.sameBits 10000 (tr N p.1) (tr N (.agg k))=true) \/
  (f=es++[(.agg k,v,a)]/\c=a+1/\∀w,(Instr.findAsking t (tr N (.agg k)) (es.map (trE N)) i).run P w=.ok none w))
 |[],κ,h,i=>⟨_,_,by have h:(fN (a+1) λc=>κ [(.agg k,v,a)] c)=true:=h;rw[zy]at h;exact h,.inr ⟨rfl,rfl,λ_=>rfl⟩⟩
 |e::es,κ,h,i=>by
  have h:(match e.1 with
   |.agg c=>eqCK fs k c λb=>bif b then κ ((.agg k,v,e.2.2)::es) a else zK1 fs k v a es λes c=>κ (e::es) c
   |_=>false)=true:=h
  split at h
  case h_2=>cases h
  rename_i c z;obtain⟨b,A,E,F⟩:=zHu u h N;have d:∀w,(Instr.findAsking t (tr N (.agg k)) ((e::es).map (trE N)) i).run P w=(if b=true then(pure (some (i,tr N e.2.1)):Sem (Option (Nat×Value)))else Instr.findAsking t (tr N (.agg k)) (es.map (trE N)) (i+1)).run P w:=λw=>by
   simp only[zV6,Instr.findAsking,Sem.run_bind,trE,z];have:(Op.equal t (tr N (.agg k)) (tr N (.agg c))).run P w=.ok b w:=by
    simp only[tr,yQ];exact E w
   rw[this];rfl
  cases b with
  |true=>
   obtain⟨n,o⟩:=F rfl;refine⟨_,_,A,.inl ⟨0,e,rfl,rfl,rfl,λw=>by rw[d w];rfl,?_⟩⟩;rw[z];simp only[tr,yQ,<-n];have g:∀l:List T,(∀x∈l,∀m,Instr.sameBits m (tr N x) (tr N x)=true)->((l.map (tr N)).zip (l.map (tr N))).all (λ(x,y)=>Instr.sameBits 9999 x y)=true:=by
    intro l C
    induction l with
    |nil=>rfl
    |cons x l G=>
     simp only[zV6,List.zip_cons_cons,zWK,zV5];exact⟨C x (by simp) 9999,G λy H=>C y (zWU _ H)⟩
   show((k.map (tr N)).toArray.size==(k.map (tr N)).toArray.size&&((k.map (tr N)).toArray.toList.zip (k.map (tr N)).toArray.toList).all λ(x,y)=>Instr.sameBits 9999 x y)=true;rw[zV5];exact⟨by simp,g k o⟩
  |false=>
   obtain⟨f,I,n,o⟩:=zMU u (show zK1 fs k v a es (λes c=>κ (e::es) c)=true from A) (i+1);refine⟨_,I,n,?_⟩;rcases o with⟨j,p,q,r,s,J,K⟩|⟨q,r,s⟩
   .refine .inl ⟨j+1,p,q,by rw[r];rfl,s,λw=>?_,K⟩;rw[d w,if_neg (by simp),J w];congr 3;omega
   .exact .inr ⟨by rw[q];rfl,r,λw=>by rw[d w,if_neg (by simp),s w]⟩
noncomputable def zCv(D:Dat)(S:XS)(t:TypeId)(m k v:T)(K:XS->Bool):Bool:=
 match k with
 |.agg e=>(match D.tt.get t with
  |some d=>(match d.u with
   |.map f _=>eqtK D f λfs=>bif Nat.beq e.length fs.length then(match m with
    |.mp l=>(match S.h.get l with
     |some ob=>(match ob with
      |.mp es a=>zK1 fs e v a es λb c=>Tr.setK (.mp b c) 40 S.h l λh=>K ⟨h,S.nl⟩
      |_=>false)
     |none=>false)
    |_=>false)else false
   |_=>false)
  |none=>false)
 |k=>zLJ D S t m k v K
theorem zIq(E:DOk P D)(A:HSim B N S w){t:TypeId}{m k v:T}{K:XS->Bool}(h:zCv D S t m k v K=true)(F:bd S.nl k)(G:bd S.nl v):Fin0 P B N S w K (Instr.mapUpdate t (tr N m) (tr N k) (tr N v)):=by
 unfold zCv at h;split at h
 case h_2=>exact zQP E A h F G
 rename_i x;split at h
 case h_2=>cases h
 rename_i d hd;have R:=E.tt _ _ hd;split at h
 case h_2=>cases h
 rename_i H el U;obtain⟨fs,V,f⟩:=zJr E h;obtain⟨W,u⟩:=zO V;have hl:=beq_iff.1 W;clear h V W;have n:∀b,(Instr.checkKey b 10000 H (tr N (.agg x))).run P w=.ok () w:=λb=>by
  simp only[tr,yQ];exact zH9 f (by simpa using hl) b 9998
 split at u
 case h_2=>cases u
 rename_i l;split at u
 case h_2=>cases u
 rename_i ob I;split at u
 case h_2=>cases u
 rename_i es a;obtain⟨arr,C,k2,X⟩:=A.ok l _ I;have g:arr.toList=es.map (trE N):=k2;have r:(getObj (N.bl l)).run P w=.ok (.map arr a) w:=by simp[getObj,Sem.run,C]
 have s:∀o,(setObj (N.bl l) o).run P w=.ok () (w.putObj (N.bl l) o):=λo=>by
  simp[setObj,Sem.run,World.putObj,C]
 obtain⟨y,c,q1,q2⟩:=zMU (N:=N) f u 0;obtain⟨h',Y,Z⟩:=Tr.setK_ok _ _ _ _ _ q1;rcases q2 with⟨j,p,J,L,M,r4,r5⟩|⟨J,L,M⟩
 .rw[zWP]at r4;have z:arr.toList[j]?=some (trE N p):=by rw[g,zWM,J];rfl
  have O:arr[j]?=some (trE N p):=by rw[<-zW3];exact z
  have i:ObOk N S.nl l (some (.map (arr.modify j λe=>{ e with key:=tr N (.agg x),val:=tr N v }) a)) (.mp y c):=by
   subst L;subst M;refine⟨_,rfl,?_,λq f=>?_⟩
   .rw[zJH arr j _ z,g,zZQ];rfl
   .rcases zX8 f with f|rfl
    .exact X q f
    .exact⟨F,G⟩
  refine⟨N,_,_,Y,?_,zAy A I rfl rfl rfl C i Z⟩;have Q:(Instr.findKey H (tr N (.agg x)) (es.map (trE N))).run P w=.ok (some (j,tr N p.2.1)) w:=zDA f r4;unfold Instr.mapUpdate;simp only[Sem.run_bind,R.run_und,U,Result.andThen_ok];rw[show tr N (.mp l)=.map (some (N.bl l))from rfl];simp only[Sem.run_bind,r,Result.andThen_ok];rw[n];simp only[Result.andThen_ok,g,Q,Sem.run_bind,O,zXC,zXB];rw[show(trE N p).key=tr N p.1 from rfl,zOr r5];simp only[Result.andThen_ok];exact s _
 .have i:ObOk N S.nl l (some (.map (arr.push { key:=tr N (.agg x),val:=tr N v,born:=a }) (a+1))) (.mp y c):=by
   subst J;subst L;refine⟨_,rfl,?_,λq f=>?_⟩
   .rw[Array.toList_push,g];simp[trE]
   .rcases zWe.1 f with f|f
    .exact X q f
    .simp at f;subst f;exact⟨F,G⟩
  refine⟨N,_,_,Y,?_,zAy A I rfl rfl rfl C i Z⟩;have Q:(Instr.findKey H (tr N (.agg x)) (es.map (trE N))).run P w=.ok none w:=zDA f M;unfold Instr.mapUpdate;simp only[Sem.run_bind,R.run_und,U,Result.andThen_ok];rw[show tr N (.mp l)=.map (some (N.bl l))from rfl];simp only[Sem.run_bind,r,Result.andThen_ok];rw[n];simp only[Result.andThen_ok,g,Q];exact s _
end
end
section
open Go.RowKit Go.Lib
inductive Out where
 |v (x:T)
 |sk
 |ent (f:FuncId) (args:List T)
 |rnd (l:Nat) (args:List T)
 |pan (x:T)
 |dfr (f:FuncId) (args caps:List T)
 |rcv
def OutR(P:Program)(D:Dat)(N:NM)(S:XS)(w:World)(r:Result Next):Out->Prop
 |.v x=>r=.ok (.value (tr N x)) w/\bd S.nl x
 |.sk=>r=.ok .skip w
 |.ent f args=>r=.ok (.enter f (args.map (tr N)).toArray) w/\bds S.nl args/\∃d,D.ft.get f=some d
 |.rnd l args=>bds S.nl args/\∃e i ps b g j st k,S.h.get l=some (.loop st k i e ps b g j)/\ps.length=args.length/\∃m c,w.heap[N.bl l]?=some (.loop ⟨st,k,m,c,ps.toArray,b,g,N.bl j⟩)/\ESim N S.nl i e c /\
  r=.ok (.round (N.bl l) m ((ps.toArray.zip (args.map (tr N)).toArray).foldl (λc (t,a)=>c.setIfInBounds t a) c) b g) w
 |.pan x=>r=.halt (.panic (tr N x)) w/\bd S.nl x
 |.dfr f args caps=>r=.ok (.defer { target:=.fn (.func f) (trs N caps).toArray,args:=(trs N args).toArray }) w/\bds S.nl args/\bds S.nl caps
 |.rcv=>r=.ok .recover w
def OFin(P:Program)(D:Dat)(B:Bs)(N:NM)(S:XS)(w:World)(K:Out->XS->Bool)(s:Sem Next):Prop:=
 ∃a N' b w',K a b=true/\Stp B N S w N' b w'/\OutR P D N' b w' (s.run P w) a
section
variable{P:Program}{B:Bs}{N:NM}{S:XS}{w:World}{D:Dat}
theorem xJ{s:Sem Value}{u:Value}{w':World}(h:s.run P w=.ok u w'):((do pure (Next.value (<-s))):Sem Next).run P w=.ok (.value u) w':=by simp[Sem.run_bind,h]
theorem zK2{s:Sem Unit}{w':World}(h:s.run P w=.ok () w'):((do s;pure Next.skip):Sem Next).run P w=.ok .skip w':=by simp[Sem.run_bind,h]
theorem Fin.out{K:Out->XS->Bool}{s:Sem Value}(h:Fin P B N S w (λx S=>K (.v x) S) s):OFin P D B N S w K (do pure (Next.value (<-s))):=by
 obtain⟨x,N',a,w',b,c,d,e⟩:=h;exact⟨.v x,N',a,w',b,d,xJ c,e⟩
theorem FinS.out{K:Out->XS->Bool}{s:Sem Value}(h:FinS P N S w (λx=>K (.v x) S) s)(a:HSim B N S w):OFin P D B N S w K (do pure (Next.value (<-s))):=Fin.out (FinS.fin (K:=λx S=>K (.v x) S) a h)
theorem Fin0.out{K:Out->XS->Bool}{s:Sem Unit}(h:Fin0 P B N S w (λS=>K .sk S) s):OFin P D B N S w K (do s;pure Next.skip):=by
 obtain⟨N',a,w',b,c,d⟩:=h;exact⟨.sk,N',a,w',b,d,zK2 c⟩
noncomputable def xBi(D:Dat)(S:XS)(b:Builtin)(a:List TypeId)(args:List T)(K:T->XS->Bool):Bool:=
 match args with
 |[x]=>(match b with
  |.len=>(match a with|t::_=>xLen D S t x λy=>K y S|[]=>false)
  |.cap=>(match a with|t::_=>xCap D t x λy=>K y S|[]=>false)
  |.clear=>(match a with|t::_=>zMm D S t x K|[]=>false)
  |.unsafeSliceData=>xUSD S x λy=>K y S
  |_=>false)
 |[x,y]=>(match b with
  |.append=>(match a with
   |[t,c]=>(match y with
    |.int _ _=>zP6 D S t c x y K
    |y=>xApp D S t c x y K)
   |_=>false)
  |.copy=>(match a with|t::_=>zPU D S t x y K|[]=>false)
  |.min=>xMin x y λz=>K z S
  |.max=>xMax x y λz=>K z S
  |.unsafeString=>zPL D S a x y K
  |_=>false)
 |_=>false
theorem xBi_ok(c:DOk P D)(a:HSim B N S w){b:Builtin}{d:List TypeId}{args:List T}{K:Out->XS->Bool}(h:xBi D S b d args (λx S=>K (.v x) S)=true)(e:bds S.nl args)(ty:TypeId)(cs:Array Bool):OFin P D B N S w K (Go.builtin b d.toArray ty cs (args.map (tr N)).toArray):=by
 unfold xBi at h;split at h
 .rename_i x;split at h
  .split at h
   .rename_i t r;exact(zOw (K:=λx=>K (.v x) S) c a h r ty).out a
   .cases h
  .split at h
   .rename_i t r;exact(zOz (K:=λx=>K (.v x) S) c a h r ty).out a
   .cases h
  .split at h
   .rename_i t r;exact(zRe (K:=λx S=>K (.v x) S) c a h r ty).out
   .cases h
  .exact(zOn (K:=λx=>K (.v x) S) a h e.1 d.toArray ty).out a
  .cases h
 .rename_i x y;split at h
  .split at h
   .rename_i t f;split at h
    .exact(zTi (ty:=ty) (K:=λx S=>K (.v x) S) c a h).out
    .exact(zVs (ty:=ty) (K:=λx S=>K (.v x) S) c a h e.1).out
   .cases h
  .split at h
   .rename_i t r;exact(zTM (K:=λx S=>K (.v x) S) c a h r ty).out
   .cases h
  .exact(zNy (K:=λx=>K (.v x) S) a h d.toArray ty).out a
  .exact(zNr (K:=λx=>K (.v x) S) a h d.toArray ty).out a
  .exact(zTQ (K:=λx S=>K (.v x) S) c a h ty).out
  .cases h
 .cases h
def refB:T->Bool
 |.ptr _ _=>true
 |.mp _=>true
 |.ifc _ _=>true
 |.yl _=>true
 |.fn f _ _=>(match f with|.func _=>true|_=>false)
 |_=>false
noncomputable def idxK(c:Nat)(l:List Nat):Nat->(Int->Bool)->Bool:=
 List.rec (motive:=λ_=>Nat->(Int->Bool)->Bool) (λ_ κ=>κ (-1)) (λb _ a i κ=>bif Nat.beq (Nat.mod b 256) c then fI (Int.ofNat i) κ else fN (i+1) λj=>a j κ) l
noncomputable def xExt(k:EX)(args:List T)(K:T->Bool):Bool:=
 match k with
 |.eqt _=>false
 |.idxB=>(match args with
  |[.str s,.int .u8 c]=>(match c with
   |.ofNat c=>bif Nat.blt c 256 then idxK c s 0 λi=>K (.int .i64 i)else false
   |_=>false)
  |_=>false)
 |.same=>(match args with
  |[x]=>K x
  |_=>false)
 |.cntB=>(match args with
  |[.str s,.int .u8 c]=>(match c with
   |.ofNat c=>bif Nat.blt c 256 then cntK c s 0 λn=>fI (Int.ofNat n) λi=>K (.int .i64 i)else false
   |_=>false)
  |_=>false)
 |.mnz _=>false
noncomputable def zPQ(D:Dat)(S:XS)(k:EX)(args:List T)(K:T->XS->Bool):Bool:=
 match k with
 |.mnz t=>(match args with
  |[.int .i64 n]=>(match n with
   |.ofNat n=>(match D.tt.get t with
    |some d=>(match d.u with
     |.slice e=>bif Nat.ble n 281474976710656 then newK S (.row 1 [] 0 e) λl S=>K (.sl l 1 0 0 n) S else false
     |_=>false)
    |none=>false)
   |.negSucc _=>false)
  |_=>false)
 |k=>xExt k args λx=>K x S
noncomputable def zGT(D:Dat)(S:XS)(f:T)(args:List T)(K:Out->XS->Bool):Bool:=
 match f with
 |.fn a first caps=>(match a with
  |.func n=>(match D.ft.get n with
   |some _=>appK first args λq=>appK q caps λr=>K (.ent n r) S
   |none=>(match D.ex.get n with
    |some k=>appK first args λq=>appK q caps λr=>zPQ D S k r λx S=>K (.v x) S
    |none=>false))
  |_=>false)
 |.yl l=>(match S.h.get l with
  |some o=>(match o with
   |.loop _ _ _ _ ps _ _ _=>bif Nat.beq ps.length args.length then K (.rnd l args) S else false
   |_=>false)
  |none=>false)
 |_=>false
noncomputable def xop(D:Dat)(e:Tr T)(S:XS)(o:Oper)(K:Out->XS->Bool):Bool:=
 match o.op with
 |.move x=>evK D.ng e x λx=>K (.v x) S
 |.assign x=>evK D.ng e x λx=>K (.v x) S
 |.pick c a b=>evK D.ng e c λc=>(match c with
  |.bool t=>(match t with
   |true=>evK D.ng e a λx=>K (.v x) S
   |false=>evK D.ng e b λx=>K (.v x) S)
  |_=>false)
 |.alloc t=>zIs D S t λx S=>K (.v x) S
 |.box t x=>evK D.ng e x λx=>xBox S t x λy S=>K (.v y) S
 |.build t ps=>(match ps with|⟨l⟩=>evpK D.ng e l λps=>zGM D t ps λy=>K (.v y) S)
 |.buildSlice t n ps=>(match ps with|⟨l⟩=>evpK D.ng e l λps=>fN n λn=>zB5 D S t n ps λy S=>K (.v y) S)
 |.load t a=>evK D.ng e a λa=>zCr D S t a λy S=>K (.v y) S
 |.store t a x=>evK D.ng e a λa=>evK D.ng e x λx=>zIY D S t a x λS=>K .sk S
 |.nilCheck x=>evK D.ng e x λx=>bif refB x then K (.v x) S else false
 |.binOp d t x y _=>evK D.ng e x λa=>evK D.ng e y λb=>zIS D d t (zAg y) a b λz=>K (.v z) S
 |.unOp d _ x=>evK D.ng e x λa=>xUn d a λz=>K (.v z) S
 |.convert f t x=>evK D.ng e x λa=>zFc D S f t a λz=>K (.v z) S
 |.makeInterface t x=>evK D.ng e x λa=>zDX D t a λz=>K (.v z) S
 |.makeFunc g a b=>(match a,b with|⟨a⟩,⟨b⟩=>evsK D.ng e a λa=>evsK D.ng e b λb=>K (.v (.fn g a b)) S)
 |.makeMap _ r=>(match r with
  |none=>zHQ S λy S=>K (.v y) S
  |some _=>false)
 |.makeSlice t l c=>evK D.ng e l λa=>evK D.ng e c λb=>zCf D S t a b λy S=>K (.v y) S
 |.slice t x lo hi mx=>evK D.ng e x λx=>evoK D.ng e lo λlo=>evoK D.ng e hi λhi=>evoK D.ng e mx λmx=>zGI D S t x lo hi mx λy=>K (.v y) S
 |.fieldAddr t x f=>evK D.ng e x λx=>zBX D t x f λy=>K (.v y) S
 |.field t x f=>evK D.ng e x λx=>zGN D t x f λy=>K (.v y) S
 |.indexAddr t x i=>evK D.ng e x λx=>evK D.ng e i λi=>zBH D S t x i λy=>K (.v y) S
 |.index t x i=>evK D.ng e x λx=>evK D.ng e i λi=>zF9 D t x i λy=>K (.v y) S
 |.lookup t x i c=>evK D.ng e x λx=>evK D.ng e i λi=>zFx D S t x i c λy=>K (.v y) S
 |.mapUpdate t m k x=>evK D.ng e m λm=>evK D.ng e k λk=>evK D.ng e x λx=>zCv D S t m k x λS=>K .sk S
 |.insert t m k x=>evK D.ng e m λm=>evK D.ng e k λk=>evK D.ng e x λx=>zCv D S t m k x λS=>K .sk S
 |.range t x=>evK D.ng e x λx=>zIk D S t x λy S=>K (.v y) S
 |.next x b=>evK D.ng e x λx=>zK5 S x b λy S=>K (.v y) S
 |.extract x i=>evK D.ng e x λx=>zDQ x i λy=>K (.v y) S
 |.panic x=>evK D.ng e x λx=>(match x with
  |.ifc _ _=>K (.pan x) S
  |_=>false)
 |.call c=>(match c.args with
  |⟨l⟩=>(match c.callee with
   |.builtin b=>evsK D.ng e l λargs=>(match c.argTypes with|⟨h⟩=>xBi D S b h args λy S=>K (.v y) S)
   |.value f=>evK D.ng e f λf=>evsK D.ng e l λargs=>zGT D S f args K
   |.invoke _ _=>false))
 |.defer c=>(match c.args with
  |⟨l⟩=>(match c.callee with
   |.value f=>evK D.ng e f λf=>evsK D.ng e l λargs=>(match f with
    |.fn g first caps=>(match g with
     |.func n=>appK first args λq=>K (.dfr n q caps) S
     |_=>false)
    |_=>false)
   |_=>false))
 |_=>false
abbrev OpK:=Dat->Tr T->XS->(Out->XS->Bool)->Bool
def zAj:OpK:=λ_ _ _ _=>false
noncomputable def zVh(x:Operand):OpK:=λD e S K=>evK D.ng e x λx=>K (.v x) S
noncomputable def zQY(x:Operand):OpK:=λD e S K=>evK D.ng e x λx=>K (.v x) S
noncomputable def zUS(c:Operand)(a:Operand)(b:Operand):OpK:=λD e S K=>evK D.ng e c λc=>(match c with
 |.bool t=>(match t with
  |true=>evK D.ng e a λx=>K (.v x) S
  |false=>evK D.ng e b λx=>K (.v x) S)
 |_=>false)
noncomputable def zTf(t:TypeId):OpK:=λD e S K=>zIs D S t λx S=>K (.v x) S
noncomputable def fo_box(t:TypeId)(x:Operand):OpK:=λD e S K=>evK D.ng e x λx=>xBox S t x λy S=>K (.v y) S
noncomputable def zS0(t:TypeId)(ps:Array (Nat×Operand)):OpK:=λD e S K=>(match ps with|⟨l⟩=>evpK D.ng e l λps=>zGM D t ps λy=>K (.v y) S)
noncomputable def zKp(t:TypeId)(n:Nat)(ps:Array (Nat×Operand)):OpK:=λD e S K=>(match ps with|⟨l⟩=>evpK D.ng e l λps=>fN n λn=>zB5 D S t n ps λy S=>K (.v y) S)
noncomputable def zQu(t:TypeId)(m:Operand)(k:Operand)(x:Operand):OpK:=λD e S K=>evK D.ng e m λm=>evK D.ng e k λk=>evK D.ng e x λx=>zCv D S t m k x λS=>K .sk S
noncomputable def zUg(t:TypeId)(a:Operand):OpK:=λD e S K=>evK D.ng e a λa=>zCr D S t a λy S=>K (.v y) S
noncomputable def zSc(t:TypeId)(a:Operand)(x:Operand):OpK:=λD e S K=>evK D.ng e a λa=>evK D.ng e x λx=>zIY D S t a x λS=>K .sk S
noncomputable def zNP(x:Operand):OpK:=λD e S K=>evK D.ng e x λx=>bif refB x then K (.v x) S else false
noncomputable def zTT(c:BinOp)(t:TypeId)(x:Operand)(y:Operand)(d:TypeId):OpK:=λD e S K=>evK D.ng e x λa=>evK D.ng e y λb=>zIS D c t (zAg y) a b λz=>K (.v z) S
noncomputable def zVF(b:UnOp)(c:TypeId)(x:Operand):OpK:=λD e S K=>evK D.ng e x λa=>xUn b a λz=>K (.v z) S
noncomputable def zPM(f:TypeId)(t:TypeId)(x:Operand):OpK:=λD e S K=>evK D.ng e x λa=>zFc D S f t a λz=>K (.v z) S
noncomputable def zHN(t:TypeId)(x:Operand):OpK:=λD e S K=>evK D.ng e x λa=>zDX D t a λz=>K (.v z) S
noncomputable def zNp(c:Fn)(a:Array Operand)(b:Array Operand):OpK:=λD e S K=>(match a,b with|⟨a⟩,⟨b⟩=>evsK D.ng e a λa=>evsK D.ng e b λb=>K (.v (.fn c a b)) S)
noncomputable def zPW(a:TypeId)(r:Option Operand):OpK:=λD e S K=>(match r with
 |none=>zHQ S λy S=>K (.v y) S
 |some _=>false)
noncomputable def zMp(t:TypeId)(l:Operand)(c:Operand):OpK:=λD e S K=>evK D.ng e l λa=>evK D.ng e c λb=>zCf D S t a b λy S=>K (.v y) S
noncomputable def zTl(t:TypeId)(x:Operand)(lo:Option Operand)(hi:Option Operand)(mx:Option Operand):OpK:=λD e S K=>evK D.ng e x λx=>evoK D.ng e lo λlo=>evoK D.ng e hi λhi=>evoK D.ng e mx λmx=>zGI D S t x lo hi mx λy=>K (.v y) S
noncomputable def zL4(t:TypeId)(x:Operand)(f:Nat):OpK:=λD e S K=>evK D.ng e x λx=>zBX D t x f λy=>K (.v y) S
noncomputable def zS8(t:TypeId)(x:Operand)(f:Nat):OpK:=λD e S K=>evK D.ng e x λx=>zGN D t x f λy=>K (.v y) S
noncomputable def zMJ(t:TypeId)(x:Operand)(i:Operand):OpK:=λD e S K=>evK D.ng e x λx=>evK D.ng e i λi=>zBH D S t x i λy=>K (.v y) S
noncomputable def zTv(t:TypeId)(x:Operand)(i:Operand):OpK:=λD e S K=>evK D.ng e x λx=>evK D.ng e i λi=>zF9 D t x i λy=>K (.v y) S
noncomputable def zRg(t:TypeId)(x:Operand)(i:Operand)(c:Bool):OpK:=λD e S K=>evK D.ng e x λx=>evK D.ng e i λi=>zFx D S t x i c λy=>K (.v y) S
noncomputable def zMY(t:TypeId)(m:Operand)(k:Operand)(x:Operand):OpK:=λD e S K=>evK D.ng e m λm=>evK D.ng e k λk=>evK D.ng e x λx=>zCv D S t m k x λS=>K .sk S
noncomputable def zSi(t:TypeId)(x:Operand):OpK:=λD e S K=>evK D.ng e x λx=>zIk D S t x λy S=>K (.v y) S
noncomputable def zUO(x:Operand)(b:Bool):OpK:=λD e S K=>evK D.ng e x λx=>zK5 S x b λy S=>K (.v y) S
noncomputable def zPi(x:Operand)(i:Nat):OpK:=λD e S K=>evK D.ng e x λx=>zDQ x i λy=>K (.v y) S
noncomputable def zUv(c:Call):OpK:=λD e S K=>(match c.args with
 |⟨l⟩=>(match c.callee with
  |.builtin b=>evsK D.ng e l λargs=>(match c.argTypes with|⟨a⟩=>xBi D S b a args λy S=>K (.v y) S)
  |.value f=>evK D.ng e f λf=>evsK D.ng e l λargs=>zGT D S f args K
  |.invoke _ _=>false))
noncomputable def zTo(c:Call):OpK:=λD e S K=>(match c.args with
 |⟨l⟩=>(match c.callee with
  |.value f=>evK D.ng e f λf=>evsK D.ng e l λargs=>(match f with
   |.fn a first caps=>(match a with
    |.func n=>appK first args λq=>K (.dfr n q caps) S
    |_=>false)
   |_=>false)
  |_=>false))
noncomputable def zTs(x:Operand):OpK:=λD e S K=>evK D.ng e x λx=>(match x with
 |.ifc _ _=>K (.pan x) S
 |_=>false)
noncomputable def foK(o:Op):OpK:=Op.casesOn (motive:=λ_=>OpK) o zVh zQY zUS zTf fo_box zS0 zKp zQu zUg zSc (λ_=>zAj) (λ_=>zAj) zNP zTT zVF zPM (λ_ _=>zAj) zHN zNp zPW (λ_ _=>zAj) zMp zTl zL4 zS8 zMJ zTv zRg zMY (λ_ _ _=>zAj) (λ_ _ _ _=>zAj) zSi zUO (λ_=>zAj) (λ_ _ _ _=>zAj) zPi zUv (λ_=>zAj) zTo zTs (λ_ _=>zAj) (λ_ _ _=>zAj) (λ_ _=>zAj)
noncomputable def xopF(D:Dat)(e:Tr T)(S:XS)(o:Oper)(K:Out->XS->Bool):Bool:=foK o.op D e S K
theorem zOl(D:Dat)(e:Tr T)(S:XS)(o:Oper)(K:Out->XS->Bool):xopF D e S o K=xop D e S o K:=by
 unfold xopF xop;cases o.op<;>rfl
theorem zQz(b c:Nat)(d:c<256):(UInt8.ofNat b==UInt8.ofNat c)=Nat.beq (Nat.mod b 256) c:=by
 have a:Nat.mod b 256=b % 256:=rfl;rw[a,zYV,beq_iff,zXq];constructor
 .intro h;have:=zWp UInt8.toNat h;simp at this;omega
 .intro h;apply UInt8.toNat_inj.1;simp;omega
theorem zNz{c:Nat}(d:c<256):∀{l:List Nat}{i:Nat}{κ:Int->Bool},idxK c l i κ=true->κ (if indexByte (l.map UInt8.ofNat) (UInt8.ofNat c) = -1 then -1 else indexByte (l.map UInt8.ofNat) (UInt8.ofNat c)+i)=true
 |[],i,κ,h=>by
  have h:κ (-1)=true:=h;simpa [indexByte]using h
 |b::l,i,κ,h=>by
  have h:(bif Nat.beq (Nat.mod b 256) c then fI (Int.ofNat i) κ else fN (i+1) λj=>idxK c l j κ)=true:=h;have g:=indexByte_ge (l.map UInt8.ofNat) (UInt8.ofNat c);simp only[zV6,indexByte,zQz b c d];cases f:Nat.beq (Nat.mod b 256) c with
  |true=>
   rw[f,zWQ,zK0]at h;simp only[zWE];rw[if_neg (by omega)];simpa using h
  |false=>
   rw[f,zWH,zy]at h;have a:=zNz d h;simp only[zWO,zWA,zXq];by_cases e:indexByte (l.map UInt8.ofNat) (UInt8.ofNat c) = -1
   .rw[if_pos e]at a;rw[if_pos e,if_pos rfl];exact a
   .rw[if_neg e]at a;rw[if_neg e,if_neg (by omega)];have k:indexByte (l.map UInt8.ofNat) (UInt8.ofNat c)+1+(i:Int)=indexByte (l.map UInt8.ofNat) (UInt8.ofNat c)+((i+1:Nat):Int):=by omega
    rw[k];exact a
theorem zJw{c:Nat}(e:c<256):∀{l:List Nat}{i:Nat}{κ:Nat->Bool},cntK c l i κ=true->κ (i+countByte (l.map UInt8.ofNat) (UInt8.ofNat c))=true
 |[],i,κ,h=>h
 |b::l,i,κ,h=>by
  have h:(bif Nat.beq (Nat.mod b 256) c then fN (i+1) λj=>cntK c l j κ else cntK c l i κ)=true:=h;have a:=zQz b c e;cases d:Nat.beq (Nat.mod b 256) c with
  |true=>
   rw[d,zWQ,zy]at h;rw[d]at a;have:=zJw e h;unfold countByte at this ⊢;rw[zV6,List.count_cons,a,if_pos rfl]
   rwa [show i+((l.map UInt8.ofNat).count (UInt8.ofNat c)+1)=i+1+(l.map UInt8.ofNat).count (UInt8.ofNat c)from by omega]
  |false=>
   rw[d,zWH]at h;rw[d]at a;have:=zJw e h;unfold countByte at this ⊢;rw[zV6,List.count_cons,a,if_neg (by simp)];exact this
theorem zVp{k:EX}{args:List T}{K:T->Bool}(h:xExt k args K=true)(l:bds S.nl args):∃x,K x=true/\(zGj k (args.map (tr N)).toArray).run P w=.ok (tr N x) w/\bd S.nl x:=by
 unfold xExt at h;split at h
 .cases h
 .split at h
  .rename_i s c;split at h
   .rename_i c;obtain⟨b,d⟩:=zO h;have f:=blt_iff.1 b;have a:=zNz f d;refine⟨_,a,?_,trivial⟩;have e:=run_indexByteString (P:=P) (bts s) (Int.ofNat c) w;have g:(zGj .idxB (List.map (tr N) [.str s,.int .u8 (Int.ofNat c)]).toArray)=Extern.BytealgIndexByte.indexByte #[.string (bts s),.int .u8 (Int.ofNat c)]:=rfl;rw[g,e];have i:(bts s).data.toList=s.map UInt8.ofNat:=by simp[bts]
    have j:((Int.ofNat c).toNat).toUInt8=UInt8.ofNat c:=rfl;rw[i,j];simp only[tr];congr 2;split
    .rename_i m;exact m
    .simp
   .cases h
  .cases h
 .split at h
  .rename_i x;exact⟨x,h,rfl,l.1⟩
  .cases h
 .split at h
  .rename_i s c;split at h
   .rename_i c;obtain⟨b,d⟩:=zO h;have f:=blt_iff.1 b;have a:=zJw f d;rw[zK0]at a;refine⟨_,a,?_,trivial⟩;have e:=run_countString (P:=P) (bts s) (Int.ofNat c) w;have g:(zGj .cntB (List.map (tr N) [.str s,.int .u8 (Int.ofNat c)]).toArray)=Extern.BytealgCount.count #[.string (bts s),.int .u8 (Int.ofNat c)]:=rfl;rw[g,e];have i:(bts s).data.toList=s.map UInt8.ofNat:=by simp[bts]
    have j:((Int.ofNat c).toNat).toUInt8=UInt8.ofNat c:=rfl;rw[i,j];simp only[tr,zWP];rfl
   .cases h
  .cases h
 .cases h
theorem zSS(f:DOk P D)(c:HSim B N S w){k:EX}{args:List T}{K:T->XS->Bool}(h:zPQ D S k args K=true)(g:bds S.nl args):Fin P B N S w K (zGj k (args.map (tr N)).toArray):=by
 unfold zPQ at h;split at h
 .rename_i t;split at h
  case h_2=>cases h
  rename_i n;split at h
  case h_2=>cases h
  rename_i n;split at h
  case h_2=>cases h
  rename_i d i;split at h
  case h_2=>cases h
  rename_i e j;obtain⟨a,b⟩:=zO h;exact zUz (ps:=#[]) c (by rw[(f.tt _ _ i).und,j]) (zWF a) b
 .obtain⟨x,a,b,l⟩:=zVp (P:=P) (N:=N) (S:=S) (w:=w) h g;exact qb c a b l
theorem zBZ{n:FuncId}{d:FD}(h:FOk P n d)(args:Array Value):(callFunc n args).run P w=.ok (.enter n args) w:=by
 obtain⟨e,a,b,f,g,c⟩:=h.fn;simp only[callFunc,program,Sem.run,Sem.run_bind];simp[a,b,c]
theorem zLK(j:DOk P D)(g:HSim B N S w){f:T}{args:List T}{K:Out->XS->Bool}(h:zGT D S f args K=true)(i:bd S.nl f)(m:bds S.nl args):OFin P D B N S w K (do let d <-Deferred.ofValue (tr N f) (args.map (tr N)).toArray;invoke d.target d.args):=by
 unfold zGT at h;split at h
 .rename_i t first caps;split at h
  .rename_i n;split at h
   .rename_i d u;rw[qh,qh]at h;refine⟨_,N,S,w,h,.refl g,?_,xC (xC i.1 m) i.2,d,u⟩;simp only[tr,Deferred.ofValue,Sem.run_bind,Sem.run_pure,Result.andThen_ok,invoke];rw[zBZ (j.ft _ _ u)];simp[yQ]
   .split at h
    .rename_i k C;rw[qh,qh]at h;have p:∀args w,(callFunc n args).run P w=((do pure (Next.value (<-zGj k args))):Sem Next).run P w:=by
      have:=j.ex _ _ C;cases k with
      |eqt fs=>cases h
      |_=>exact this
     obtain⟨x,N',E,w',q,r,F,G⟩:=zSS (P:=P) (N:=N) (S:=S) (w:=w) (K:=λx S=>K (.v x) S) j g h (xC (xC i.1 m) i.2);refine⟨.v x,N',E,w',q,F,?_,G⟩;simp only[tr,Deferred.ofValue,Sem.run_bind,Sem.run_pure,Result.andThen_ok,invoke];rw[p];have s:((trs N first).toArray++(args.map (tr N)).toArray++(trs N caps).toArray)=((first++args++caps).map (tr N)).toArray:=by simp[yQ]
     rw[s,Sem.run_bind,r];rfl
    .cases h
  .cases h
 .rename_i l;split at h
  .rename_i o y;split at h
   .rename_i st H I e ps a b J;obtain⟨q,r⟩:=zO h;have z:=beq_iff.1 q;obtain⟨t,c,A,L,M⟩:=g.ok l _ y;refine⟨_,N,S,w,r,.refl g,m,e,I,ps,a,b,J,st,H,y,z,t,c,A,L,?_⟩;simp only[tr,Deferred.ofValue,Sem.run_bind,Sem.run_pure,Result.andThen_ok,invoke];have s:(#[]++(args.map (tr N)).toArray)=(args.map (tr N)).toArray:=by simp
    rw[s];exact run_yield A (by simp[z])
   .cases h
  .cases h
 .cases h
theorem zRR(A:DOk P D)(M:D.ng=B.ng)(d:HSim B N S w){nt:Nat}{e:Tr T}{a:Act}(m:ESim N S.nl nt e a.tmps){o:Oper}{K:Out->XS->Bool}(h:xop D e S o K=true):OFin P D B N S w K (execOp a.eval o):=by
 unfold xop at h;rw[M]at h;unfold execOp;have G:∀{u:Value}{x:T},K (.v x) S=true->u=tr N x->bd S.nl x->OFin P D B N S w K (pure (.value u)):=λ{u x} g j k=>⟨.v x,N,S,w,g,.refl d,by rw[j];rfl,k⟩;split at h<;>(try(rename_i O;rw[O]))<;>(try simp only)
 .obtain⟨x,g,j,k⟩:=zc d m h;exact G g j k
 .obtain⟨x,g,j,k⟩:=zc d m h;exact G g j k
 .rename_i c x y;obtain⟨c',g,j,k⟩:=zc d m h;split at g
  .rename_i t;have ht:a.eval c=.bool t:=j;have F:∀u v:Value,((do pure (.value (if <-asBool (a.eval c)then u else v))):Sem Next).run P w=.ok (.value (if t then u else v)) w:=λu v=>by
    rw[ht];simp[asBool]
   cases t with
   |true=>
    obtain⟨Q,R,U,V⟩:=zc d m g;exact⟨.v Q,N,S,w,R,.refl d,by rw[F];simp[U],V⟩
   |false=>
    obtain⟨Q,R,U,V⟩:=zc d m g;exact⟨.v Q,N,S,w,R,.refl d,by rw[F];simp[U],V⟩
  .cases g
 .exact(zQL (K:=λx S=>K (.v x) S) A d h _).out
 .obtain⟨x,g,j,k⟩:=zc d m h;rw[j];exact(zUf (K:=λx S=>K (.v x) S) d g k).out
 .split at h;rename_i l;obtain⟨ps,g,j,k⟩:=zD8 d m h;have E:((l.toArray).map λ(i,x)=>(i,a.eval x))=(ps.map λp=>(p.1,tr N p.2)).toArray:=by
   rw[<-j];simp
  rw[show(Array.map (λx=>match x with|(i,x)=>(i,a.eval x)) (Array.mk l))=(ps.map λp=>(p.1,tr N p.2)).toArray from E];exact(zJ9 (K:=λx=>K (.v x) S) A d g k).out d
 .split at h;rename_i l;obtain⟨ps,g,j,k⟩:=zD8 d m h;rw[zy]at g;have E:((l.toArray).map λ(i,x)=>(i,a.eval x))=(ps.map λp=>(p.1,tr N p.2)).toArray:=by
   rw[<-j];simp
  rw[show(Array.map (λx=>match x with|(i,x)=>(i,a.eval x)) (Array.mk l))=(ps.map λp=>(p.1,tr N p.2)).toArray from E];exact(zJt (K:=λx S=>K (.v x) S) A d g k).out
 .obtain⟨x,g,j,k⟩:=zc d m h;rw[j];exact(zTe (K:=λx S=>K (.v x) S) A d g).out
 .obtain⟨x,g,j,k⟩:=zc d m h;obtain⟨y,r,s,C⟩:=zc d m g;rw[j,s];exact(zQj (K:=λS=>K .sk S) A d r C).out
 .obtain⟨x,g,j,k⟩:=zc d m h;obtain⟨r,s⟩:=zO g;rw[j];refine⟨.v x,N,S,w,s,.refl d,?_,k⟩;cases x<;>first|rfl|(simp[refB]at r)
  rename_i f p q;cases f<;>first|rfl|(simp[refB]at r)
 .obtain⟨x,g,j,k⟩:=zc d m h;obtain⟨y,r,s,C⟩:=zc d m g;rw[j,s];exact(zLX (K:=λx=>K (.v x) S) A d r).out d
 .obtain⟨x,g,j,k⟩:=zc d m h;rw[j];exact(zSL (K:=λx=>K (.v x) S) d g).out d
 .obtain⟨x,g,j,k⟩:=zc d m h;rw[j];exact(zKN (K:=λx=>K (.v x) S) A d g k).out d
 .obtain⟨x,g,j,k⟩:=zc d m h;rw[j];exact(zG9 (K:=λx=>K (.v x) S) A d g k).out d
 .split at h;rename_i la lb;obtain⟨x,g,j,k⟩:=zBt d m h;obtain⟨y,r,s,C⟩:=zBt d m g;refine⟨_,N,S,w,r,.refl d,?_,k,C⟩;have E:Array.map a.eval (Array.mk la)=(x.map (tr N)).toArray:=by rw[<-j];simp
  have e2:Array.map a.eval (Array.mk lb)=(y.map (tr N)).toArray:=by rw[<-s];simp
  rw[E,e2];simp[Instr.makeFunc,tr,yQ]
 .split at h
  .exact(zNh (K:=λx S=>K (.v x) S) d h _).out
  .cases h
 .obtain⟨x,g,j,k⟩:=zc d m h;obtain⟨y,r,s,C⟩:=zc d m g;rw[j,s];exact(zKl (K:=λx S=>K (.v x) S) A d r).out
 .obtain⟨x,g,j,k⟩:=zc d m h;obtain⟨lo,r,s,C⟩:=zC5 d m g;obtain⟨hi,H,I,L⟩:=zC5 d m r;obtain⟨mx,W,X,aa⟩:=zC5 d m H;rw[j,s,I,X];exact(zKU (K:=λx=>K (.v x) S) A d W k).out d
 .obtain⟨x,g,j,k⟩:=zc d m h;rw[j];exact(zFS (K:=λx=>K (.v x) S) A d g k).out d
 .obtain⟨x,g,j,k⟩:=zc d m h;rw[j];exact(zKK (K:=λx=>K (.v x) S) A d g k).out d
 .obtain⟨x,g,j,k⟩:=zc d m h;obtain⟨y,r,s,C⟩:=zc d m g;rw[j,s];exact(zFX (K:=λx=>K (.v x) S) A d r k).out d
 .obtain⟨x,g,j,k⟩:=zc d m h;obtain⟨y,r,s,C⟩:=zc d m g;rw[j,s];exact(zKL (K:=λx=>K (.v x) S) A d r k).out d
 .obtain⟨x,g,j,k⟩:=zc d m h;obtain⟨y,r,s,C⟩:=zc d m g;rw[j,s];exact(zKh (K:=λx=>K (.v x) S) A d r).out d
 .obtain⟨x,g,j,k⟩:=zc d m h;obtain⟨y,r,s,C⟩:=zc d m g;obtain⟨z,H,I,L⟩:=zc d m r;rw[j,s,I];exact(zIq (K:=λS=>K .sk S) A d H C L).out
 .obtain⟨x,g,j,k⟩:=zc d m h;obtain⟨y,r,s,C⟩:=zc d m g;obtain⟨z,H,I,L⟩:=zc d m r;rw[j,s,I];exact(zIq (K:=λS=>K .sk S) A d H C L).out
 .obtain⟨x,g,j,k⟩:=zc d m h;rw[j];exact(zRv (K:=λx S=>K (.v x) S) A d g).out
 .obtain⟨x,g,j,k⟩:=zc d m h;rw[j];exact(zTw (K:=λx S=>K (.v x) S) d g _).out
 .obtain⟨x,g,j,k⟩:=zc d m h;rw[j];exact(zHE (K:=λx=>K (.v x) S) d g k).out d
 .obtain⟨x,g,j,k⟩:=zc d m h;split at g
  .rename_i t y;rw[j];refine⟨_,N,S,w,g,.refl d,?_,k⟩;simp only[tr,Instr.panic,Sem.run_bind];rfl
  .cases g
 .rename_i c;split at h;rename_i l Y;have E:∀ys:List T,l.map a.eval=ys.map (tr N)->Array.map a.eval c.args=(ys.map (tr N)).toArray:=λys h=>by rw[Y,<-h];simp
  split at h
  .rename_i b J;obtain⟨ys,g,j,k⟩:=zBt d m h;split at g;rename_i ts Z;unfold resolve;simp only[J,E ys j,Z,pure_bind];exact xBi_ok A d g k _ _
  .rename_i f J;obtain⟨f',g,j,k⟩:=zc d m h;obtain⟨ys,r,s,C⟩:=zBt d m g;unfold resolve;simp only[J,E ys s,j];exact zLK A d r k C
  .cases h
 .rename_i c;split at h;rename_i l Y;split at h
  .rename_i f J;obtain⟨f',g,j,k⟩:=zc d m h;obtain⟨ys,r,s,C⟩:=zBt d m g;have E:Array.map a.eval c.args=(ys.map (tr N)).toArray:=by rw[Y,<-s];simp
   split at r
   .rename_i fn first caps;split at r
    .rename_i n;rw[qh]at r;refine⟨_,N,S,w,r,.refl d,?_,xC k.1 C,k.2⟩;unfold resolve;simp only[J,E,j,tr,Deferred.ofValue,Sem.run_bind,Sem.run_pure,Result.andThen_ok];simp[yQ]
    .cases r
   .cases r
  .cases h
 .cases h
end
end
section
open Go.RowKit
inductive XE where
 |n
 |e (id:Nat)
 |g (l:Nat)
 |r
 |p (x:T)
inductive Res where
 |ret (x:T)
 |pan (x:T)
inductive DE where
 |mk (l:Nat)
 |fn (f:FuncId) (args caps:List T)
abbrev XK:=XE->Tr T->XS->List DE->Bool
abbrev XC:=Option Nat->Nat->Code->Tr T->XS->List DE->XK->Bool
noncomputable def putE(a:Nat)(d:Option Nat)(x:T)(e:Tr T)(κ:Tr T->Bool):Bool:=
 match d with
 |none=>κ e
 |some t=>bif Nat.blt t a then Tr.setK x 40 e t κ else false
noncomputable def kX(a:Nat)(dsts:List (Option Nat))(e:Tr T)(g:Option (Nat×Bool))(κ:Bool->Bool):Bool:=
 match g with
 |none=>κ true
 |some p=>nthK p.1 dsts λd=>(match d with
  |some t=>bif Nat.blt t a then(match e.get t with
   |some x=>(match x with
    |.bool c=>fB (c==p.2) κ
    |.tup _=>κ false
    |_=>false)
   |none=>false)else false
  |none=>false)
noncomputable def argK(args:List T):Nat->Tr T->(Tr T->Bool)->Bool:=
 List.rec (motive:=λ_=>Nat->Tr T->(Tr T->Bool)->Bool) (λ_ e κ=>κ e) (λx _ a i e κ=>Tr.setK x 40 e i λe=>fN (i+1) λj=>a j e κ) args
noncomputable def resK(D:Dat)(S:XS)(e:Tr T)(rs:List ResultVar):(List T->Bool)->Bool:=
 List.rec (motive:=λ_=>(List T->Bool)->Bool) (λκ=>κ []) (λr _ a κ=>(match r with
  |.tmp t=>(match e.get t with
   |some x=>a λxs=>κ (x::xs)
   |none=>a λxs=>κ (.tup []::xs))
  |.cell p t=>(match e.get p with
   |some x=>zCr D S t x λy _=>a λxs=>κ (y::xs)
   |none=>false))) rs
def oneK(xs:List T)(κ:T->Bool):Bool:=
 match xs with
 |[x]=>κ x
 |xs=>κ (.tup xs)
def recB(o:Oper):Bool:=
 match o.op with
 |.call c=>(match c.callee with
  |.builtin .recover=>(match o.guard with
   |none=>(match c.args with
    |⟨[]⟩=>true
    |_=>false)
   |_=>false)
  |_=>false)
 |_=>false
def rcV(u:Option T):T:=
 match u with
 |none=>.atm .nilIface
 |some x=>x
noncomputable def xdf(b:XC)(D:Dat)(f:FuncId)(args:List T)(u:Option T)(S:XS)(K:XS->Bool):Bool:=
 match D.ft.get f with
 |some d=>(match d.body with
  |.seq c a=>(match c with
   |.region _ ops g=>(match g with
    |false=>(match ops with
     |⟨l⟩=>(match l with
      |o::l=>(match l with
       |[]=>bif recB o&&Nat.ble args.length d.nt then argK args 0 .lf λe=>putE d.nt o.dst (rcV u) e λe=>b none d.nt a e S [] λex e S ds=>(match ds with
        |[]=>(match ex with
         |.n=>resK D S e d.rs λ_=>K S
         |.r=>resK D S e d.rs λ_=>K S
         |_=>false)
        |_=>false)else false
       |_=>false)
      |_=>false))
    |_=>false)
   |_=>false)
  |_=>false)
 |none=>false
noncomputable def leaK(b:XC)(D:Dat)(ds:List DE):Option T->XS->(Option T->XS->Bool)->Bool:=
 List.rec (motive:=λ_=>Option T->XS->(Option T->XS->Bool)->Bool) (λu S κ=>κ u S) (λd _ a u S κ=>(match d with
  |.mk l=>(match S.h.get l with
   |some o=>(match o with
    |.dfr=>Tr.setK .dead 40 S.h l λh=>a u ⟨h,S.nl⟩ κ
    |_=>false)
   |none=>false)
  |.fn f args caps=>appK args caps λq=>xdf b D f q u S λS=>a none S κ)) ds
noncomputable def xfn0(a:XC)(D:Dat)(f:FuncId)(args:List T)(S:XS)(K:Res->XS->Bool):Bool:=
 match D.ft.get f with
 |some d=>bif Nat.ble args.length d.nt then argK args 0 .lf λe=>a none d.nt d.body e S [] λex e S ds=>(match ex with
  |.n=>leaK a D ds none S λu S=>(match u with
   |none=>resK D S e d.rs λxs=>oneK xs λx=>K (.ret x) S
   |some x=>K (.pan x) S)
  |.r=>leaK a D ds none S λu S=>(match u with
   |none=>resK D S e d.rs λxs=>oneK xs λx=>K (.ret x) S
   |some x=>K (.pan x) S)
  |.p x=>leaK a D ds (some x) S λu S=>(match u with
   |none=>resK D S e d.rs λxs=>oneK xs λx=>K (.ret x) S
   |some x=>K (.pan x) S)
  |_=>false)else false
 |none=>false
noncomputable def xfn(a:XC)(D:Dat)(f:FuncId)(args:List T)(S:XS)(K:Res->XS->Bool):Bool:=
 match D.sm.get f with
 |some g=>g args S λx S=>K (.ret x) S
 |none=>xfn0 a D f args S K
noncomputable def psK(a:Nat)(args:List T):List Nat->Tr T->(Tr T->Bool)->Bool:=
 List.rec (motive:=λ_=>List Nat->Tr T->(Tr T->Bool)->Bool) (λps e κ=>List.casesOn (motive:=λ_=>Bool) ps (κ e) (λ_ _=>false))
  (λx _ b ps e κ=>List.casesOn (motive:=λ_=>Bool) ps false (λp q=>bif Nat.blt p a then Tr.setK x 40 e p λe=>b q e κ else false)) args
noncomputable def lpK(S:XS)(l:Nat)(st:LoopState)(c:Option Code)(κ:XS->Bool):Bool:=
 match S.h.get l with
 |some o=>(match o with
  |.loop _ _ d e ps a b f=>Tr.setK (.loop st c d e ps a b f) 40 S.h l λh=>κ ⟨h,S.nl⟩
  |_=>false)
 |none=>false
def zMM:LoopState->Bool
 |.ready=>true
 |_=>false
def zPH:LoopState->Bool
 |.busy=>true
 |_=>false
noncomputable def endK(S:XS)(l:Nat)(ds:List DE)(a:Option Code)(K:Res->XS->Bool):Bool:=
 match ds with
 |[]=>lpK S l (match a with|none=>.ready|some _=>.done) a λS=>K (.ret (.bool (match a with|none=>true|some _=>false))) S
 |_::_=>false
noncomputable def xrnd(d:XC)(l:Nat)(args:List T)(S:XS)(K:Res->XS->Bool):Bool:=
 match S.h.get l with
 |some o=>(match o with
  |.loop st _ c e ps a b _=>bif zMM st then psK c args ps e λe=>d (some l) c a e S [] λex e S ds=>(match ex with
   |.n=>(match S.h.get l with
    |some o=>(match o with
     |.loop st f _ _ _ _ _ _=>bif zMM st then lpK S l .busy f λS=>d (some l) c b e S ds λex _ S ds=>(match ex with
      |.n=>endK S l ds none K
      |.r=>endK S l ds (some .ret) K
      |.e id=>endK S l ds (some (.exit id)) K
      |.g t=>endK S l ds (some (.goto t)) K
      |.p _=>false)else false
     |_=>false)
    |none=>false)
   |_=>false)else false
  |_=>false)
 |none=>false
def noRo(a:Option Nat):Bool:=
 match a with
 |none=>true
 |some _=>false
noncomputable def zIE(b:Nat)(a:Option Nat)(e:Tr T)(c:Tr T->XS->List DE->XK->Bool)(ds:List DE)(K:XK)(x:T)(S:XS):Bool:=putE b a x e λe=>c e S ds K
noncomputable def xret(b:Nat)(a:Option Nat)(e:Tr T)(c:Tr T->XS->List DE->XK->Bool)(ds:List DE)(K:XK)(r:Res)(S:XS):Bool:=
 match r with
 |.ret x=>zIE b a e c ds K x S
 |.pan x=>K (.p x) e S ds
noncomputable def xcont(g:XC)(D:Dat)(h:Option Nat)(b:Nat)(a:Option Nat)(e:Tr T)(c:Tr T->XS->List DE->XK->Bool)(ds:List DE)(K:XK)(d:Out)(S:XS):Bool:=
 match d with
 |.v x=>zIE b a e c ds K x S
 |.sk=>zIE b a e c ds K (.tup []) S
 |.ent f args=>xfn g D f args S (xret b a e c ds K)
 |.rnd l args=>xrnd g l args S (xret b a e c ds K)
 |.dfr f args caps=>bif noRo h then zIE b a e c (.fn f args caps::ds) K (.tup []) S else false
 |.rcv=>false
 |.pan x=>K (.p x) e S ds
noncomputable def xops(c:XC)(D:Dat)(d:Option Nat)(a:Nat)(dsts:List (Option Nat))(l:List Oper):Tr T->XS->List DE->XK->Bool:=
 List.rec (motive:=λ_=>Tr T->XS->List DE->XK->Bool) (λe S ds K=>K .n e S ds)
  (λo _ b e S ds K=>kX a dsts e o.guard λf=>bif f then xopF D e S o (xcont c D d a o.dst e b ds K)else zIE a o.dst e b ds K (.tup []) S) l
noncomputable def dlOf(S:XS)(a:Option Nat)(κ:Nat->XS->List DE->Bool):Bool:=
 match a with
 |none=>newK S .dfr λl S=>κ l S [.mk l]
 |some l=>(match S.h.get l with
  |some o=>(match o with
   |.loop _ _ _ _ _ _ _ b=>κ b S []
   |_=>false)
  |none=>false)
noncomputable def zNG(i:XC)(D:Dat)(j:Option Nat)(k:Nat)(g:Operand)(ps:List Nat)(a b:Code)(e:Tr T)(S:XS)(ds:List DE)(K:XK):Bool:=
 dlOf S j λm S mk=>newK S (.loop .ready none k e ps a b m) λl S=>evK D.ng e g λg=>zGT D S g [.yl l] λd S=>(match d with
  |.ent f args=>xfn i D f args S λr S=>appK mk ds λds=>(match r with
   |.ret _=>(match S.h.get l with
    |some o=>(match o with
     |.loop st q _ _ _ _ _ _=>bif zPH st then false else Tr.setK .dead 40 S.h l λh=>(match q with
      |none=>K .n e ⟨h,S.nl⟩ ds
      |some c=>i j k c e ⟨h,S.nl⟩ ds K)
     |_=>false)
    |none=>false)
   |.pan x=>K (.p x) e S ds)
  |_=>false)
noncomputable def zK7(D:Dat)(xd:XC->Option Nat->Nat->List Oper->Tr T->XS->List DE->XK->Bool)(f:XC):XC:=λh j c e S ds K=>
 match c with
 |.skip=>K .n e S ds
 |.region _ ops d=>(match ops with
  |⟨l⟩=>(match d with
   |false=>xops f D h j (l.map (·.dst)) l e S ds K
   |true=>xd f h j l e S ds K))
 |.seq a b=>f h j a e S ds λex e S ds=>(match ex with
  |.n=>f h j b e S ds K
  |ex=>K ex e S ds)
 |.cond c a b=>evK D.ng e c λc=>(match c with
  |.bool t=>(match t with
   |true=>f h j a e S ds K
   |false=>f h j b e S ds K)
  |_=>false)
 |.block id b=>f h j b e S ds λex e S ds=>(match ex with
  |.e i=>bif Nat.beq i id then K .n e S ds else K (.e i) e S ds
  |ex=>K ex e S ds)
 |.loop b=>f h j b e S ds λex e S ds=>(match ex with
  |.n=>f h j (.loop b) e S ds K
  |ex=>K ex e S ds)
 |.rangeFunc g ps a b=>(match ps with|⟨ps⟩=>zNG f D h j g ps a b e S ds K)
 |.scope b=>f h j b e S ds λex e S ds=>(match ex with
  |.g _=>false
  |ex=>K ex e S ds)
 |.exit id=>K (.e id) e S ds
 |.label _=>K .n e S ds
 |.goto l=>K (.g l) e S ds
 |.ret=>K .r e S ds
 |_=>false
noncomputable def xc(D:Dat)(xd:XC->Option Nat->Nat->List Oper->Tr T->XS->List DE->XK->Bool)(fu:Nat):XC:=
 Nat.rec (motive:=λ_=>XC) (λ_ _ _ _ _ _ _=>false) (λ_ a=>zK7 D xd a) fu
def mkD(N:NM):DE->Deferred
 |.mk l=>{ target:=.collected (N.bl l),args:=#[] }
 |.fn f args caps=>{ target:=.fn (.func f) (trs N caps).toArray,args:=(trs N args).toArray }
def bdE(nl:Nat):DE->Prop
 |.mk l=>l<nl
 |.fn _ args caps=>bds nl args/\bds nl caps
structure Sm(B:Bs)(nt:Nat)(N:NM)(e:Tr T)(S:XS)(ds:List DE)(a:Act)(w:World):Prop where
 env:ESim N S.nl nt e a.tmps
 sim:HSim B N S w
 df:a.defers=ds.map (mkD N)
 lt:∀d∈ds,bdE S.nl d
def XR(N:NM)(nl:Nat):XE->Exit->Prop
 |.n,ex=>ex=.normal
 |.e id,ex=>ex=.exit id
 |.g l,ex=>ex=.goto l
 |.r,ex=>ex=.ret
 |.p x,ex=>ex=.panic [{ v:=tr N x,recovered:=false }]/\bd nl x
def Post(B:Bs)(c:Nat)(N:NM)(S:XS)(w:World)(K:XK):Exit->Act->World->Prop:=λex a' w'=>
 ∃x N' e' b a,K x e' b a=true/\XR N' b.nl x ex/\Sm B c N' e' b a a' w'/\Stp B N S w N' b w'
def CodeOk(P:Program)(B:Bs)(f:XC):Prop:=∀(b:Option Nat)(d:Nat)(c:Code)(e:Tr T)(S:XS)(ds:List DE)(K:XK)(N:NM)(a:Act)(w:World),
 f b d c e S ds K=true->Sm B d N e S ds a w->(∀l,b=some l->l<S.nl)->c.wpIn (fen (b.map N.bl)) 0 P (Post B d N S w K) a w
section
variable{P:Program}{B:Bs}{N:NM}{S:XS}{w:World}{D:Dat}
theorem Post.trans{b:Nat}{K:XK}{c:NM}{d:XS}{w1:World}(h:Stp B N S w c d w1){ex:Exit}{a':Act}{w':World}(e:Post B b c d w1 K ex a' w'):Post B b N S w K ex a' w':=by
 obtain⟨x,N',e',f,a,g,i,j,k⟩:=e;exact⟨x,N',e',f,a,g,i,j,h.trans k⟩
theorem zGs{a:NM}{nl:Nat}(h:Ext nl N a){ds:List DE}(b:∀d∈ds,bdE nl d):ds.map (mkD a)=ds.map (mkD N):=zWx λd c=>by
 have:=b d c;cases d with
 |mk l=>simp only[mkD];rw[h.bl l this]
 |fn f args caps=>simp only[mkD];rw[zA3 h _ this.1,zA3 h _ this.2]
theorem zEp{nl a:Nat}(h:nl<=a){d:DE}(b:bdE nl d):bdE a d:=by
 cases d with
 |mk l=>exact zWN b h
 |fn f args caps=>exact⟨yS h _ b.1,yS h _ b.2⟩
theorem Sm.later{c:Nat}{e:Tr T}{ds:List DE}{a:Act}(h:Sm B c N e S ds a w){f:NM}{g:XS}{w1:World}(b:Stp B N S w f g w1):Sm B c f e g ds a w1:=
 ⟨h.env.ext b.ext b.nl,b.sim,by rw[zGs b.ext h.lt];exact h.df,λd i=>zEp b.nl (h.lt d i)⟩
theorem zBr{e e':Tr T}{t:Nat}{x:T}(h:∀j,e'.get j=if j=t then some x else e.get j)(j:Nat):eget e' j=if j=t then x else eget e j:=by
 unfold eget;rw[h j];split<;>rfl
theorem zJN{b:Nat}{e:Tr T}{ds:List DE}{a:Act}(h:Sm B b N e S ds a w){d:Option Nat}{x:T}{κ:Tr T->Bool}(c:putE b d x e κ=true)(i:bd S.nl x):∃e',κ e'=true/\Sm B b N e' S ds (a.put d (tr N x)) w:=by
 unfold putE at c;cases d with
 |none=>exact⟨e,c,h⟩
 |some t=>
  obtain⟨j,l⟩:=zO c;have m:=blt_iff.1 j;obtain⟨e',n,g⟩:=Tr.setK_ok _ _ _ _ _ l;refine⟨e',n,⟨⟨by simp[Act.put,h.env.size],λk=>?_,λk=>?_⟩,h.sim,h.df,h.lt⟩⟩
  .rw[zBr g];simp only[Act.put];have o:t<a.tmps.size:=by rw[h.env.size];exact m
   split
   .rename_i f;subst f;simp[zWS,o]
   .rename_i f;have:=h.env.val k;rw[<-this];simp[zWS,zXY (zW8 f)]
  .rw[zBr g];split
   .exact i
   .exact h.env.bd k
theorem zAs{m:Nat}{e:Tr T}{a:Array Value}(n:ESim N S.nl m e a){ops:Array Oper}{o:Oper}{κ:Bool->Bool}(h:kX m (ops.toList.map (·.dst)) e o.guard κ=true):κ (Region.wanted o (yielded ops a))=true:=by
 unfold kX at h;unfold Region.wanted;split at h
 .rename_i j;rw[j];exact h
 .rename_i p j;rw[j];obtain⟨d,b,k⟩:=zBw h;split at k
  .rename_i t;obtain⟨s,f⟩:=zO k;have u:=blt_iff.1 s;split at f
   .rename_i x v;have g:=n.val t;have q:t<a.size:=by rw[n.size];exact u
    unfold eget at g;rw[v]at g;have l:a[t]?=some (tr N x):=by
     rw[zWw q];simp only[zWS,zWw q,zXB,Option.elim]at g;rw[g]
    have r:∀z,(match tr N x with|.bool c=>some c|_=>none)=z->yielded ops a p.1=z:=by
     intro z y;unfold yielded;rw[zWM]at b;cases i:ops.toList[p.1]? with
     |none=>rw[i]at b;cases b
     |some o'=>
      rw[i]at b;injection b with b
      rw[zW3]at i;rw[<-y];simp[i,b,l]
      try(split<;>simp_all)
    split at f
    .rename_i c;rw[zBU]at f;simp only[r (some c) rfl];have:(some c==some p.2)=(c==p.2):=rfl;rw[this];exact f
    .simp only[r none rfl];exact f
    .cases f
   .cases f
  .cases k
def ResR(N:NM)(nl:Nat):Res->Ending->Prop
 |.ret x,a=>a=.returned (tr N x)/\bd nl x
 |.pan x,a=>a=.panicked [{ v:=tr N x,recovered:=false }]/\bd nl x
def qW(B:Bs)(N:NM)(S:XS)(w:World)(K:Res->XS->Bool):Ending->World->Prop:=λb w'=>∃r N' a,K r a=true/\ResR N' a.nl r b/\Stp B N S w N' a w'
theorem zJo:∀{args:List T}{i:Nat}{e:Tr T}{κ:Tr T->Bool},argK args i e κ=true->∃e',κ e'=true/\∀j,e'.get j=if i<=j/\j<i+args.length then args[j-i]? else e.get j
 |[],i,e,κ,h=>⟨e,h,λj=>by rw[if_neg];simp⟩
 |x::r,i,e,κ,h=>by
  obtain⟨l,a,d⟩:=Tr.setK_ok _ _ _ _ _ (show Tr.setK x 40 e i (λe=>fN (i+1) λj=>argK r j e κ)=true from h);rw[zy]at a;obtain⟨f,g,k⟩:=zJo a;refine⟨f,g,λj=>?_⟩;rw[k,d];by_cases b:j=i
  .subst b;rw[if_neg (by omega),if_pos rfl,if_pos (by simp)];simp
  .by_cases c:i+1<=j/\j<i+1+r.length
   .rw[if_pos c,if_pos (by simp;omega)];have:j-i=(j-(i+1))+1:=by omega
    rw[this];rfl
   .rw[if_neg c,if_neg b,if_neg (by simp;omega)]
def qY(a:Array Value):ResultVar->Sem Value
 |.tmp t=>pure (a.getD t undef)
 |.cell p t=>do loadVar t (<-asAddr (a.getD p undef))
theorem zGR(k:DOk P D){r:Nat}{e:Tr T}{a:Array Value}(m:HSim B N S w)(c:ESim N S.nl r e a):∀{rs:List ResultVar}{κ:List T->Bool},resK D S e rs κ=true->∃xs,κ xs=true/\bds S.nl xs/\(rs.mapM (qY a)).run P w=.ok (xs.map (tr N)) w
 |[],κ,h=>⟨[],h,trivial,by simp⟩
 |.tmp t::rs,κ,h=>by
  have h:(match e.get t with
   |some x=>resK D S e rs λxs=>κ (x::xs)
   |none=>resK D S e rs λxs=>κ (.tup []::xs))=true:=h
  have b:=c.val t;have d:=c.bd t;unfold eget at b d;split at h
  .rename_i x f;rw[f]at b d;obtain⟨xs,g,i,j⟩:=zGR k m c h;refine⟨x::xs,g,⟨d,i⟩,?_⟩;simp only[zXu,Sem.run_bind,qY,Sem.run_pure,Result.andThen_ok,j];rw[b];rfl
  .rename_i f;rw[f]at b d;obtain⟨xs,g,i,j⟩:=zGR k m c h;refine⟨_,g,⟨d,i⟩,?_⟩;simp only[zXu,Sem.run_bind,qY,Sem.run_pure,Result.andThen_ok,j];rw[b];rfl
 |.cell p t::rs,κ,h=>by
  have h:(match e.get p with
   |some x=>zCr D S t x λy _=>resK D S e rs λxs=>κ (y::xs)
   |none=>false)=true:=h
  have b:=c.val p;unfold eget at b;split at h
  .rename_i x f;rw[f]at b;have s:∃l o,x=.ptr l o:=by
    unfold zCr at h;split at h
    .exact⟨_,_,rfl⟩
    .cases h
   obtain⟨l,o,rfl⟩:=s;obtain⟨y,g,n,i⟩:=zDu k m h;have j:(loadVar t ⟨N.bl l,o,none⟩).run P w=.ok (tr N y) w:=by
    simpa only[tr,Instr.loadAt,Instr.sureAddr,Sem.run_bind,Sem.run_pure,Result.andThen_ok]using n
   obtain⟨xs,u,v,z⟩:=zGR k m c g;refine⟨y::xs,u,⟨i,v⟩,?_⟩;have q:a.getD p undef=.pointer (some ⟨N.bl l,o,none⟩):=b;simp only[zXu,Sem.run_bind,qY,q,asAddr,Sem.run_pure,Result.andThen_ok,j,z];rfl
  .cases h
end
end
section
open Go.RowKit
section
variable{P:Program}{B:Bs}{N:NM}{S:XS}{w:World}{D:Dat}{rc:XC}
def oneT:List T->T
 |[x]=>x
 |xs=>.tup xs
theorem zU4(xs:List T)(κ:T->Bool):oneK xs κ=κ (oneT xs):=by
 cases xs with
 |nil=>rfl
 |cons x r=>cases r<;>rfl
theorem zU1{nl:Nat}{xs:List T}(h:bds nl xs):bd nl (oneT xs):=by
 unfold oneT;split
 .exact h.1
 .exact h
theorem zT9(N:NM)(xs:List T):tr N (oneT xs)=if h:(xs.map (tr N)).toArray.size=1 then(xs.map (tr N)).toArray[0]else .tuple (xs.map (tr N)).toArray:=by
 cases xs with
 |nil=>simp[oneT,tr,trs]
 |cons x r=>
  cases r with
  |nil=>simp[oneT]
  |cons y r=>simp[oneT,tr,trs,yQ]
theorem jd{b:Func}{a:Array Value}{us:List Value}(h:(b.results.toList.mapM (qY a)).run P w=.ok us w) :
 (results b a).run P w=.ok (if h:us.toArray.size=1 then us.toArray[0]else .tuple us.toArray) w:=by
 have e:results b a=(do let vs <-b.results.mapM (qY a);pure (if h:vs.size=1 then vs[0]else .tuple vs)):=by
  unfold results;congr 1
 rw[e,zY1];have:(Functor.map List.toArray (b.results.toList.mapM (qY a))).run P w=.ok us.toArray w:=by
  rw[<-bind_pure_comp,Sem.run_bind,h];rfl
 rw[Sem.run_bind,this];rfl
theorem zQl(d:DOk P D)(f:HSim B N S w){g:Nat}{e:Tr T}{a:Array Value}(i:ESim N S.nl g e a){b:Func}{rs:List ResultVar}(c:b.results=rs.toArray){κ:List T->Bool}(h:resK D S e rs κ=true) :
 ∃xs,κ xs=true/\bd S.nl (oneT xs)/\(results b a).run P w=.ok (tr N (oneT xs)) w:=by
 obtain⟨xs,j,k,l⟩:=zGR d f i h;refine⟨xs,j,zU1 k,?_⟩;have m:(b.results.toList.mapM (qY a)).run P w=.ok (xs.map (tr N)) w:=by rw[c];exact l
 rw[jd m,zT9]
theorem zKZ{args:List T}{b:Nat}{e:Tr T}(g:args.length<=b)(d:bds S.nl args)(f:∀j,e.get j=if 0<=j/\j<0+args.length then args[j-0]? else(Tr.lf:Tr T).get j) :
 ESim N S.nl b e ((args.map (tr N)).toArray++Array.replicate (b-(args.map (tr N)).toArray.size) undef):=by
 have c:∀k,eget e k=if k<args.length then args.getD k (.tup [])else .tup []:=λk=>by
  unfold eget;rw[f k];by_cases a:k<args.length
  .rw[if_pos (by omega),if_pos a];simp[List.getD,a]
  .rw[if_neg (by omega),if_neg a,Tr.get_lf];rfl
 refine⟨by simp;omega,λk=>?_,λk=>?_⟩
 .rw[c,zWS];split
  .rename_i a;rw[zYw (by simpa using a)];simp[List.getD,a]
  .rename_i a;rw[Array.getElem?_append_right (by simp;omega)];rw[zY6];split<;>rfl
 .rw[c];split
  .rename_i a;have:=zLo d (zWX a);simpa [List.getD,a]using this
  .trivial
def zG0(N:NM):Option T->FrameMode
 |none=>.returning
 |some x=>.panicking [{ v:=tr N x,recovered:=false }]
def bdO(nl:Nat)(u:Option T):Prop:=∀x,u=some x->bd nl x
theorem zTn{o:Oper}(h:recB o=true)(ρ:Operand->Value)(w:World):o.guard=none/\(execOp ρ o).run P w=.ok .recover w:=by
 unfold recB at h;split at h
 .rename_i c a;split at h
  .rename_i b;split at h
   .rename_i d;split at h
    .rename_i e;refine⟨d,?_⟩;unfold execOp;rw[a];simp only[resolve,b,e];rfl
    .cases h
   .cases h
  .cases h
 .cases h
theorem xdf_ok(I:CodeOk P B rc)(U:DOk P D){f:FuncId}{args:List T}{u:Option T}{K:XS->Bool}(h:xdf rc D f args u S K=true)(hs:HSim B N S w)(ha:bds S.nl args)(hu:bdO S.nl u) :
 (∃d,D.ft.get f=some d)/\CallsDIn (fen none) 0 P f (args.map (tr N)).toArray (zG0 N u) w λJ n w'=>(∃v,J=.returned v)/\settle n=.returning/\∃N' g,K g=true/\Stp B N S w N' g w':=by
 unfold xdf at h;split at h
 case h_2=>cases h
 rename_i d G;refine⟨⟨d,G⟩,?_⟩;obtain⟨V,hf,hb,hn,hr,_⟩:=U.ft f d G;split at h
 case h_2=>cases h
 rename_i c r j;split at h
 case h_2=>cases h
 rename_i id ops dr;split at h
 case h_2=>cases h
 split at h;rename_i l;split at h
 case h_2=>cases h
 rename_i o l';split at h
 case h_2=>cases h
 obtain⟨L,h2⟩:=zO h;rw[zV5]at L;obtain⟨e0,W,h4⟩:=zJo h2;have s:=zWF L.2;have t:=zKZ (N:=N) s ha h4;refine callsDIn_of_wpSIn hf hb trivial λb cs X=>?_;rw[j,hn];obtain⟨hg,A⟩:=zTn (P:=P) L.1 (Act.eval { tmps:=(args.map (tr N)).toArray++Array.replicate (d.nt-(args.map (tr N)).toArray.size) undef,defers:=[] }) w;have M:Sm B d.nt N e0 S [] { tmps:=(args.map (tr N)).toArray++Array.replicate (d.nt-(args.map (tr N)).toArray.size) undef,defers:=[] } w:=⟨t,hs,rfl,λ_ G=>by cases G⟩;obtain⟨z,i,hz,a,C,O⟩:∃z i,z=rcV u/\(match recoverD (b::cs)with|some (v,cs')=>v=tr N z/\cs'={ b with mode:=i }::cs|none=>tr N z=.nilIface/\b={ b with mode:=i })/\settle i=.returning/\bd S.nl z:=by
  cases u with
  |none=>
   refine⟨_,.returning,rfl,?_,rfl,rfl⟩;have H:b.mode=.returning:=X;simp only[recoverD,H];refine⟨rfl,?_⟩;rw[<-H]
  |some x=>
   refine⟨_,.panicking [{ v:=tr N x,recovered:=true }],rfl,?_,rfl,hu x rfl⟩;have H:b.mode=.panicking [{ v:=tr N x,recovered:=false }]:=X;simp only[recoverD,H];exact⟨rfl,trivial⟩
 rw[<-hz]at W;obtain⟨e1,h5,h6⟩:=zJN M W O;have k:=I _ _ _ _ _ _ _ _ _ _ h5 h6 (λ_ e=>by cases e);refine wpSIn_seq (wpSIn_region ?_);have E:r.wpSIn (fen none) 0 P (bodyPostS P V b cs λJ n w'=>(∃v,J=.returned v)/\settle n=.returning/\∃N' g,K g=true/\Stp B N S w N' g w') ((Act.mk ((args.map (tr N)).toArray++Array.replicate (d.nt-(args.map (tr N)).toArray.size) undef) []).put o.dst (tr N z)) ({ b with mode:=i }::cs) w:=by
  refine wpSIn_of_wpIn rfl (wpIn_mono k ?_);rintro ex a' w' ⟨x,N',e',g,aa,m,Y,Q,k4⟩;dsimp only at m;split at m
  case h_2=>cases m
  have F:∀{κ:XS->Bool},(resK D g e' d.rs λ_=>κ g)=true->κ=K->(a'.defers=[]/\∃n,{ b with mode:=i }::cs={ b with mode:=n }::cs/\∃v,(results V a'.tmps).run P w'=.ok v w'/\((∃v',Ending.returned v=.returned v')/\settle n=.returning/\∃N' g,K g=true/\Stp B N S w N' g w')):=λ{κ} q eκ=>by
   obtain⟨xs,q1,_,q2⟩:=zQl U Q.sim Q.env hr q;exact⟨Q.df,i,rfl,_,q2,⟨_,rfl⟩,C,N',g,by rw[<-eκ];exact q1,k4⟩
  split at m
  .cases Y;exact F m rfl
  .cases Y;exact F m rfl
  .cases m
 show wpOpsSIn (fen none) 0 P #[o] _ (List.range 1) _ _ _;have R:List.range 1=[0]:=rfl;rw[R];simp only[wpOpsSIn,zXv,zXf];refine⟨λ_ _=>trivial,?_⟩;have hw:∀y,Region.wanted o y=true:=λy=>by unfold Region.wanted;rw[hg]
 rw[if_pos (hw _)];rw[A];simp only;cases Z:recoverD (b::cs)with
 |none=>
  rw[Z]at a;simp only;rw[<-a.1];have:(b::cs)={ b with mode:=i }::cs:=by rw[<-a.2]
  rw[this];exact E
 |some p=>
  obtain⟨v,cs'⟩:=p;rw[Z]at a;simp only;rw[a.1,a.2];exact E
theorem zKn{F:Fence}{n:Nat}{f:FuncId}{args:Array Value}{u:FrameMode}{R b:Ending->FrameMode->World->Prop}(h:CallsDIn F n P f args u w R)(d:∀e u w,R e u w->b e u w):CallsDIn F n P f args u w b:=
 ⟨h.1,λc cs g a=>let⟨e,u',w',fr,r,x⟩:=h.2 c cs g a;⟨e,u',w',fr,d _ _ _ r,x⟩⟩
theorem zJ1(b:CodeOk P B rc)(r:DOk P D){G:Func}{a:Array Value}{R:Ending->World->Prop}:∀{ds:List DE}{u:Option T}{N:NM}{S:XS}{w:World}{κ:Option T->XS->Bool},leaK rc D ds u S κ=true->HSim B N S w->(∀d∈ds,bdE S.nl d)->bdO S.nl u ->
 (∀c N' g w',κ c g=true->Stp B N S w N' g w'->bdO g.nl c->LeavesInM (fen none) 0 P G a R [] (zG0 N' c) w')->LeavesInM (fen none) 0 P G a R (ds.map (mkD N)) (zG0 N u) w
 |[],u,N,S,w,κ,h,i,_,j,k=>k u N S w h (.refl i) j
 |.mk l::ds,u,N,S,w,κ,h,i,m,j,k=>by
  have h:(match S.h.get l with
   |some o=>(match o with
    |.dfr=>Tr.setK .dead 40 S.h l λh=>leaK rc D ds u ⟨h,S.nl⟩ κ
    |_=>false)
   |none=>false)=true:=h
  split at h
  .rename_i o H;split at h
   .obtain⟨h',J,K⟩:=Tr.setK_ok _ _ _ _ _ h;have s:w.heap[N.bl l]?=some (.deferred (some [])):=i.ok l _ H;have st:=zAy i H rfl rfl rfl s (ob':=.deferred none) (o':=.dead) trivial K;simp only[zV6];refine⟨by cases u<;>simp[zG0],.inl ⟨N.bl l,_,rfl,run_takeDeferred s,?_⟩⟩;exact zJ1 b r J st.sim (λq n=>m q (by simp[n])) j λc N' g w' x y z=>k c N' g w' x (st.trans y) z
   .cases h
  .cases h
 |.fn f args caps::ds,u,N,S,w,κ,h,i,m,j,k=>by
  have h:(appK args caps λq=>xdf rc D f q u S λS=>leaK rc D ds none S κ)=true:=h;rw[qh]at h;have I:=m (.fn f args caps) (by simp);obtain⟨⟨d,L⟩,M⟩:=xdf_ok b r h i (xC I.1 I.2) j;simp only[zV6];refine⟨by cases u<;>simp[zG0],.inr ⟨λe=>(by cases e),.func f,(trs N caps).toArray,f,_,rfl,?_,λ_ _=>trivial,zKn M ?_⟩⟩
  .simp only[mkD,invoke];rw[zBZ (r.ft _ _ L)];simp[yQ]
  .rintro O c w' ⟨⟨v,rfl⟩,p,N',g,s,t⟩;simp only;rw[p];have:=zJ1 (u:=none) b r s t.sim (λq n=>zEp t.nl (m q (by simp[n]))) (λ_ e=>by cases e) (λA C E F x y z=>k A C E F x (t.trans y) z);rw[zGs t.ext (λq n=>m q (by simp[n]))]at this;exact this
theorem zUd(c:CodeOk P B rc)(l:DOk P D){f:FuncId}{args:List T}{K:Res->XS->Bool}(h:xfn0 rc D f args S K=true)(C:HSim B N S w)(E:bds S.nl args)(F:Option Nat):CallsIn (fen F) 0 P f (args.map (tr N)).toArray w (qW B N S w K):=by
 show CallsIn (fen none) 0 P f (args.map (tr N)).toArray w (qW B N S w K);unfold xfn0 at h;split at h
 case h_2=>cases h
 rename_i d m;obtain⟨G,H,I,J,L,_⟩:=l.ft f d m;obtain⟨M,O⟩:=zO h;obtain⟨e0,Q,R⟩:=zJo O;have g:=zKZ (N:=N) (zWF M) E R;refine callsIn_of_wp_marks H I trivial ?_;rw[J];have n:Sm B d.nt N e0 S [] { tmps:=(args.map (tr N)).toArray++Array.replicate (d.nt-(args.map (tr N)).toArray.size) undef,defers:=[] } w:=⟨g,C,rfl,λ_ m=>by cases m⟩;refine wpIn_mono (c _ _ _ _ _ _ _ _ _ _ Q n (λ_ e=>by cases e)) ?_;rintro ex a' w' ⟨x,N',e',p,o,b,i,k,r⟩;have a:∀(u:Option T),bdO p.nl u->(leaK rc D o u p λu S=>(match u with
  |none=>resK D S e' d.rs λxs=>oneK xs λx=>K (.ret x) S
  |some x=>K (.pan x) S))=true->LeavesInM (fen none) 0 P G a'.tmps (qW B N S w K) a'.defers (zG0 N' u) w':=λu U q=>by
  rw[k.df];refine zJ1 c l q k.sim k.lt U λV s t Z v j W=>?_;cases V with
  |none=>
   obtain⟨xs,A,X,Y⟩:=zQl l j.sim (k.env.ext j.ext j.nl) L v;rw[zU4]at A;exact⟨_,Y,_,s,t,A,⟨rfl,X⟩,r.trans j⟩
  |some x=>exact⟨_,s,t,v,⟨rfl,W x rfl⟩,r.trans j⟩
 dsimp only at b;split at b
 .cases i;exact a none (λ_ e=>by cases e) b
 .cases i;exact a none (λ_ e=>by cases e) b
 .rename_i y;obtain⟨rfl,i⟩:=i;exact a (some y) (λz e=>by injection e with e;subst e;exact i) b
 .cases b
theorem zIu(a:CodeOk P B rc)(c:DOk P D)(b:D.ng=B.ng){f:FuncId}{args:List T}{K:Res->XS->Bool}(h:xfn rc D f args S K=true)(d:HSim B N S w)(e:bds S.nl args)(i:Option Nat):CallsIn (fen i) 0 P f (args.map (tr N)).toArray w (qW B N S w K):=by
 unfold xfn at h;split at h
 .rename_i g j;show CallsIn (fen none) 0 P f (args.map (tr N)).toArray w (qW B N S w K);refine CallsIn.mono (c.sm f g j B N S w args _ b.symm d e h) ?_;rintro o w' ⟨x,N',k,l,rfl,m,n⟩;exact⟨.ret x,N',k,l,⟨rfl,m⟩,n⟩
 .exact zUd a c h d e i
end
end
section
open Go.RowKit
section
variable{P:Program}{B:Bs}{N:NM}{S:XS}{w:World}{D:Dat}{rc:XC}
def RoOk(N:NM)(nl:Nat)(a fr:Option Nat):Prop:=(∀l,a=some l->l<nl)/\a.map N.bl=fr
theorem RoOk.ext{N':NM}{nl a:Nat}{b fr:Option Nat}(h:RoOk N nl b fr)(c:Ext nl N N')(d:nl<=a):RoOk N' a b fr:=by
 refine⟨λl e=>zWN (h.1 l e) d,?_⟩;rw[<-h.2];cases b with
 |none=>rfl
 |some l=>simp only[zXC,c.bl l (h.1 l rfl)]
theorem CodeOk.at(b:CodeOk P B rc){f fr:Option Nat}{d:Nat}{c:Code}{e:Tr T}{ds:List DE}{K:XK}{a:Act}(h:rc f d c e S ds K=true)(i:Sm B d N e S ds a w)(g:RoOk N S.nl f fr):c.wpIn (fen fr) 0 P (Post B d N S w K) a w:=by
 rw[<-g.2];exact b _ _ _ _ _ _ _ _ _ _ h i g.1
theorem zRz{b:Nat}:∀{args:List T}{ps:List Nat}{e:Tr T}{a:Array Value}{κ:Tr T->Bool},psK b args ps e κ=true->ESim N S.nl b e a->bds S.nl args->ps.length=args.length /\
 ∃e',κ e'=true/\ESim N S.nl b e' ((ps.zip (args.map (tr N))).foldl (λa (p:Nat×Value)=>a.setIfInBounds p.1 p.2) a)
 |[],ps,e,a,κ,h,c,_=>by
  cases ps with
  |nil=>exact⟨rfl,e,h,c⟩
  |cons p q=>cases h
 |x::r,ps,e,a,κ,h,c,g=>by
  cases ps with
  |nil=>cases h
  |cons p q=>
   have h:(bif Nat.blt p b then Tr.setK x 40 e p λe=>psK b r q e κ else false)=true:=h;obtain⟨j,l⟩:=zO h;have m:=blt_iff.1 j;obtain⟨d,n,i⟩:=Tr.setK_ok _ _ _ _ _ l;have f:ESim N S.nl b d (a.setIfInBounds p (tr N x)):=by
    refine⟨by simp[c.size],λk=>?_,λk=>?_⟩
    .rw[zBr i];have o:p<a.size:=by rw[c.size];exact m
     split
     .rename_i d;subst d;simp[zWS,o]
     .rename_i d;have:=c.val k;rw[<-this];simp[zWS,zXY (zW8 d)]
    .rw[zBr i];split
     .exact g.1
     .exact c.bd k
   obtain⟨s,e',t,u⟩:=zRz n f g.2;exact⟨by simp[s],e',t,u⟩
theorem zRp(k:HSim B N S w){l:Nat}{st c:LoopState}{m d:Option Code}{g f:Nat}{e:Tr T}{ps:List Nat}{a b:Code}(j:S.h.get l=some (.loop st m g e ps a b f)){κ:XS->Bool}(h:lpK S l c d κ=true){r:Loop}(n:w.heap[N.bl l]?=some (.loop r))(o:r.params=ps.toArray)(p:r.assign=a)(q:r.body=b)(s:r.defers=N.bl f)(t:ESim N S.nl g e r.tmps)(u:f<S.nl) :
 ∃i,κ i=true/\Stp B N S w N i (w.putObj (N.bl l) (.loop { r with state:=c,pending:=d }))/\i.nl=S.nl:=by
 unfold lpK at h;rw[j]at h;obtain⟨h',v,x⟩:=Tr.setK_ok _ _ _ _ _ h;refine⟨_,v,zAy k j rfl rfl rfl n (ob':=.loop { r with state:=c,pending:=d }) (o':=.loop c d g e ps a b f) ⟨r.fn,r.tmps,by rw[o,p,q,s],t,u⟩ x,rfl⟩
theorem zUx(f:HSim B N S w){l:Nat}{ds:List DE}{a:Option Code}{K:Res->XS->Bool}(h:endK S l ds a K=true)(s:∃o,S.h.get l=some o) :
 ∃v w',(Instr.endRound (N.bl l) a).run P w=.ok v w'/\qW B N S w K (.returned v) w':=by
 unfold endK at h;split at h
 .have b:=h;unfold lpK at b;split at b
  .rename_i o g;split at b
   .rename_i st t u e ps d i x;obtain⟨y,j,k,q,r⟩:=f.ok l _ g;obtain⟨m,n,p,_⟩:=zRp f g h k rfl rfl rfl rfl q r;refine⟨_,_,run_endRound a k,?_⟩;cases a with
    |none=>exact⟨_,N,m,n,⟨rfl,trivial⟩,p⟩
    |some c=>exact⟨_,N,m,n,⟨rfl,trivial⟩,p⟩
   .cases b
  .cases b
 .cases h
theorem zR8{st:LoopState}(h:zMM st=true):st=.ready:=by cases st<;>first|rfl|cases h
theorem zVH(m:CodeOk P B rc){l:Nat}{args:List T}{K:Res->XS->Bool}(h:xrnd rc l args S K=true)(O:HSim B N S w)(ha:bds S.nl args)(Q:Option Nat){e:Tr T}{E dl:Nat}{ps:List Nat}{b c:Code}{st:LoopState}{pd:Option Code}
 (y:S.h.get l=some (.loop st pd E e ps b c dl)) {R:FuncId} {tmps:Array Value} (he:ESim N S.nl E e tmps) :
 RoundIn (fen Q) 0 P (N.bl l) R ((ps.toArray.zip (args.map (tr N)).toArray).foldl (λtmps (t,a)=>tmps.setIfInBounds t a) tmps) b c w (qW B N S w K):=by
 unfold xrnd at h;rw[y]at h;obtain⟨h1,h2⟩:=zO h;obtain⟨h3,e1,h4,h5⟩:=zRz h2 he ha;have z:=O.lt l _ y;have eq1:(ps.toArray.zip (args.map (tr N)).toArray).foldl (λtmps (x:Nat×Value)=>tmps.setIfInBounds x.1 x.2) tmps=(ps.zip (args.map (tr N))).foldl (λtmps (p:Nat×Value)=>tmps.setIfInBounds p.1 p.2) tmps:=by
  simp
 have F:Sm B E N e1 S [] { tmps:=(ps.zip (args.map (tr N))).foldl (λtmps (p:Nat×Value)=>tmps.setIfInBounds p.1 p.2) tmps,defers:=[] } w:=⟨h5,O,rfl,λ_ hd=>by cases hd⟩;have ra:=m.at h4 F (fr:=some (N.bl l)) ⟨λl' e=>by injection e with e;subst e;exact z,rfl⟩;show RoundIn (fen Q) 0 P (N.bl l) R ((ps.toArray.zip (args.map (tr N)).toArray).foldl (λtmps (x:Nat×Value)=>tmps.setIfInBounds x.1 x.2) tmps) b c w (qW B N S w K);rw[eq1];refine roundIn_of_wpIn trivial ?_;show b.wpIn (fen (some (N.bl l))) 0 P _ _ w;refine wpIn_mono ra ?_;rintro ex a1 w1 ⟨x,N1,e2,S1,aa,g,k2,G,A⟩;dsimp only at g;split at g
 case h_2=>cases g
 cases k2;split at g
 case h_2=>cases g
 rename_i o n;split at g
 case h_2=>cases g
 rename_i ab ac ad e3 ae af ag ah;obtain⟨k5,k6⟩:=zO g;obtain⟨ai,H,U,q2,q3⟩:=G.sim.ok l _ n;have i:N1.bl l=N.bl l:=A.ext.bl l z;obtain⟨S2,r1,V,W⟩:=zRp G.sim n k6 U rfl rfl rfl rfl q2 q3;have I:=zR8 k5;subst I;show∃X,(Instr.beginRound (N.bl l)).run P w1=.ok () X/\c.wpIn (fen (some (N.bl l))) 0 P (roundPost P (N.bl l) (qW B N S w K)) a1 X;refine⟨_,by rw[<-i];exact run_beginRound U rfl,?_⟩;have rb:=m.at r1 (G.later V) (fr:=some (N.bl l)) ⟨λl' e=>by injection e with e;subst e;rw[W];exact zWN z A.nl,by rw[<-i];rfl⟩;refine wpIn_mono rb ?_;rintro ex a2 w2 ⟨x,N2,e4,Y,J,j,C,j3,Z⟩;have L:l<S1.nl:=zWN z A.nl;have s:N2.bl l=N.bl l:=(Z.ext.bl l (by rw[W];exact L)).trans i;have u:=A.trans (V.trans Z);have f:∀{d:Option Code},endK Y l J d K=true->∃v w',(Instr.endRound (N.bl l) d).run P w2=.ok v w'/\qW B N S w K (.returned v) w':=λ{d} q=>by
  have M:∃o,Y.h.get l=some o:=by
   have k:=q;unfold endK at k;split at k
   .unfold lpK at k;split at k
    .rename_i o y;exact⟨o,y⟩
    .cases k
   .cases k
  obtain⟨v,w',t1,r,N',S',t2,t3,t4⟩:=zUx (P:=P) j3.sim q M;rw[s]at t1;exact⟨v,w',t1,r,N',S',t2,t3,u.trans t4⟩
 dsimp only at j;split at j
 .cases C;exact f j
 .cases C;exact f j
 .cases C;exact f j
 .cases C;exact f j
 .cases j
theorem zSA{e:Tr T}{o:Oper}{c:Call}(j:o.op=.defer c){K:Out->XS->Bool}(h:xop D e S o K=true):∃n q caps,K (.dfr n q caps) S=true:=by
 unfold xop at h;rw[j]at h;simp only at h;split at h
 .rename_i f _;have b:∀{ng:Nat}{x:Operand}{κ:T->Bool},evK ng e x κ=true->∃y,κ y=true:=λ{ng x κ} h=>by
   cases x with
   |tmp t=>simp only[evK]at h;split at h<;>exact⟨_,h⟩
   |const v=>obtain⟨y,d,_⟩:=zQU (show cvK v κ=true from h);exact⟨y,d⟩
   |global g=>obtain⟨_,a⟩:=zO (show(bif Nat.blt g ng then fN g λg=>κ (.ptr g 0)else false)=true from h);rw[zy]at a;exact⟨_,a⟩
   |func f=>exact⟨_,h⟩
  have i:∀{ng:Nat}{l:List Operand}{κ:List T->Bool},evsK ng e l κ=true->∃ys,κ ys=true:=λ{ng l}=>by
   induction l with
   |nil=>intro κ h;exact⟨[],h⟩
   |cons x r k=>
    intro κ h;obtain⟨y,d⟩:=b (show evK ng e x (λy=>evsK ng e r λq=>κ (y::q))=true from h);obtain⟨ys,a⟩:=k d;exact⟨_,a⟩
  obtain⟨y,d⟩:=b h;obtain⟨ys,a⟩:=i d;split at a
  .split at a
   .rw[qh]at a;exact⟨_,_,_,a⟩
   .cases a
  .cases a
 .cases h
theorem zJm(q:CodeOk P B rc)(L:DOk P D)(s:D.ng=B.ng){i:Nat}{ops:Array Oper}{z fr:Option Nat}{K:XK}{N0:NM}{S0:XS}{w0:World}:∀{l:List Oper}{e:Tr T}{ds:List DE}{N:NM}{S:XS}{a:Act}{w:World},
 xops rc D z i (ops.toList.map (·.dst)) l e S ds K=true->Stp B N0 S0 w0 N S w->Sm B i N e S ds a w->RoOk N S.nl z fr->wpListIn (fen fr) 0 P ops (Post B i N0 S0 w0 K) l a w
 |[],e,ds,N,S,a,w,h,E,t,_=>⟨.n,N,e,S,ds,h,rfl,t,E⟩
 |o::l,e,ds,N,S,a,w,h,E,t,O=>by
  have h:(kX i (ops.toList.map (·.dst)) e o.guard λZ=>bif Z then
   xopF D e S o (xcont rc D z i o.dst e (xops rc D z i (ops.toList.map (·.dst)) l) ds K)
   else putE i o.dst (.tup []) e λe=>xops rc D z i (ops.toList.map (·.dst)) l e S ds K)=true:=h
  have F:=zAs t.env h;unfold wpListIn;have next:∀{k:NM}{m:XS}{w1:World}{x:T},Stp B N S w k m w1->bd m.nl x->(putE i o.dst x e λe=>xops rc D z i (ops.toList.map (·.dst)) l e m ds K)=true->wpListIn (fen fr) 0 P ops (Post B i N0 S0 w0 K) l (a.put o.dst (tr k x)) w1:=λ{k m w1 x} A Q R=>by
   obtain⟨e',u,b⟩:=zJN (t.later A) R Q;exact zJm q L s u (E.trans A) b (O.ext A.ext A.nl)
  have pan:∀{k:NM}{m:XS}{w1:World}{x:T},Stp B N S w k m w1->bd m.nl x->K (.p x) e m ds=true->Post B i N0 S0 w0 K (.panic [{ v:=tr k x,recovered:=false }]) a w1:=λ{k m w1 x} A Q R=>
   ⟨.p x,k,e,m,ds,R,⟨rfl,Q⟩,t.later A,E.trans A⟩
  cases G:Region.wanted o (yielded ops a.tmps)with
  |false=>
   rw[G,zWH]at F;simp only[zWO,zWA];exact⟨λ_ _=>trivial,next (x:=.tup []) (.refl t.sim) trivial F⟩
  |true=>
   rw[G,zWQ,zOl]at F;simp only[zWE];refine⟨λ_ _=>trivial,?_⟩;have H:Oper.semAt (fen fr).round a.eval o=execOp a.eval o:=by
    cases z with
    |none=>
     have:fr=none:=O.2.symm;subst this;rfl
    |some l0=>
     refine Oper.semAt_eq _ _ _ λc hc=>?_;obtain⟨_,_,_,hh⟩:=zSA hc F;cases hh
   rw[H];obtain⟨U,k,m,w1,C,j,g⟩:=zRR L s t.sim t.env F;cases U with
   |v x=>
    rw[g.1,Oper.uponIn_value];exact next j g.2 C
   |sk=>
    have g:(execOp a.eval o).run P w=.ok .skip w1:=g;rw[g,Oper.uponIn_skip];exact next (x:=.tup []) j trivial C
   |ent f args=>
    obtain⟨g,I,M⟩:=g;rw[g,Oper.uponIn_enter];refine⟨λe=>(by cases e),CallsIn.mono (zIu q L s C j.sim I fr) ?_⟩;rintro en w2 ⟨r,N2,S2,u,b,J⟩;cases r with
    |ret x=>obtain⟨rfl,b⟩:=b;exact next (j.trans J) b u
    |pan x=>obtain⟨rfl,b⟩:=b;exact pan (j.trans J) b u
   |rnd l' args=>
    obtain⟨I,e1,aa,ps,ab,ac,ad,st,pd,M,k6,fn,X,Y,k8,k9⟩:=g;rw[k9,Oper.uponIn_round];refine⟨λe=>(by cases e),RoundIn.mono (zVH q C j.sim I fr M k8) ?_⟩;rintro en w2 ⟨r,N2,S2,u,b,J⟩;cases r with
    |ret x=>obtain⟨rfl,b⟩:=b;exact next (j.trans J) b u
    |pan x=>obtain⟨rfl,b⟩:=b;exact pan (j.trans J) b u
   |dfr f args caps=>
    obtain⟨g,I,M⟩:=g;rw[g,Oper.uponIn_defer];obtain⟨k6,Y⟩:=zO C;have y:=t.later j;have V:Sm B i k e m (.fn f args caps::ds) { a with defers:={ target:=.fn (.func f) (trs k caps).toArray,args:=(trs k args).toArray }::a.defers } w1:=by
     refine⟨y.env,y.sim,?_,λd W=>?_⟩
     .simp only[zV6,mkD];rw[<-y.df]
     .rcases zWB.1 W with rfl|W
      .exact⟨I,M⟩
      .exact y.lt d W
    obtain⟨e',u,b⟩:=zJN V Y trivial;exact zJm q L s u (E.trans j) b (O.ext j.ext j.nl)
   |rcv=>cases C
   |pan x=>
    rw[g.1,Oper.uponIn_panic];exact pan j g.2 C
end
end
section
open Go.RowKit
section
variable{P:Program}{B:Bs}{N:NM}{S:XS}{w:World}{D:Dat}{rc:XC}
theorem yn{b:Frame}{a:Act}{k:List Item}{cs:List Frame}{w:World}{c:Code}:step P (lone (b.atR a (.code (.scope c)::k)) cs w)=.next (lone (b.atR a (.code c::.inScope c::k)) cs w):=
 step_lone_go (by simp[stepG,stepG.exec,Frame.atR])
theorem zCV{b:Frame}{a:Act}{k:List Item}{cs:List Frame}{w:World}{c:Code}:step P (lone (b.atR a (.inScope c::k)) cs w)=.next (lone (b.atR a k) cs w):=
 step_lone_go (by simp[stepG,stepG.exec,Frame.atR])
theorem zEq{F:Fence}{n:Nat}{Q:Exit->Act->World->Prop}{a:Act}{w:World}{c:Code}(h:c.wpIn F n P (Exit.noGoto Q) a w):(Code.scope c).wpIn F n P Q a w:=by
 intro b k cs o p q;have g:(lone (b.atR a (.code (.scope c)::k)) cs w).fenced P F:=fenced_calm p q rfl;obtain⟨e,j,m,i,d⟩:=h b (.inScope c::k) cs o p q;cases e with
 |normal=>exact⟨.normal,j,m,i,.head g yn (StepsIn.trans d (.one (fenced_calm p q rfl) zCV))⟩
 |exit f=>
  have t:exitTo f (.inScope c::k)=exitTo f k:=by simp[exitTo]
  exact⟨.exit f,j,m,i,λu r=>.head g yn (d.1 u (by rw[t];exact r)),
   λs r=>let⟨k₁,h1,h2⟩:=d.2 s (by rw[t];exact r);⟨k₁,h1,.head g yn h2⟩⟩
 |goto l=>exact i.elim
 |ret=>exact⟨_,j,m,i,.of_steps (.one g yn) d⟩
 |panic v=>exact⟨_,j,m,i,.of_steps (.one g yn) d⟩
 |outgrown=>exact⟨_,j,m,i,.of_steps (.one g yn) d⟩
def zLv(P:Program)(B:Bs)(D:Dat)(xd:XC->Option Nat->Nat->List Oper->Tr T->XS->List DE->XK->Bool):Prop:=∀(rc:XC),CodeOk P B rc->∀(c fr:Option Nat)(b id:Nat)(l:List Oper)(e:Tr T)(S:XS)(ds:List DE)(K:XK)(N:NM)(a:Act)(w:World),
 xd rc c b l e S ds K=true->Sm B b N e S ds a w->RoOk N S.nl c fr->(Code.region id ⟨l⟩ true).wpIn (fen fr) 0 P (Post B b N S w K) a w
theorem zRX(R:CodeOk P B rc)(hD:DOk P D)(U:D.ng=B.ng){ro fr:Option Nat}{L:Nat}{g:Operand}{ps:List Nat}{assign body:Code}{e:Tr T}{ds:List DE}{K:XK}{a:Act}(h:zNG rc D ro L g ps assign body e S ds K=true)(M:Sm B L N e S ds a w)(hr:RoOk N S.nl ro fr) :
 (Code.rangeFunc g ⟨ps⟩ assign body).wpIn (fen fr) 0 P (Post B L N S w K) a w:=by
 unfold zNG at h;refine wpIn_rangeFunc λfn _=>?_;obtain⟨u,i,mk,t,w1,mark,k1,k2,k3,k4,k5⟩:∃u i mk t w1 mark,(newK i (.loop .ready none L e ps assign body u) λl S=>evK D.ng e g λg=>zGT D S g [.yl l] λC S=>(match C with
  |.ent f args=>xfn rc D f args S λr S=>appK mk ds λds=>(match r with
   |.ret _=>(match S.h.get l with
    |some o=>(match o with
     |.loop st O _ _ _ _ _ _=>bif zPH st then false else Tr.setK .dead 40 S.h l λh=>(match O with
      |none=>K .n e ⟨h,S.nl⟩ ds
      |some c=>rc ro L c e ⟨h,S.nl⟩ ds K)
     |_=>false)
    |none=>false)
   |.pan x=>K (.p x) e S ds)
  |_=>false))=true/\Stp B N S w t i w1/\u<i.nl/\((Instr.enterLoop fn a.tmps ⟨ps⟩ assign body (fen fr).round).run P w=.ok (w1.heap.size,mark) (w1.alloc (.loop { state:=.ready,pending:=none,fn,tmps:=a.tmps,params:=⟨ps⟩,assign,body,defers:=t.bl u })))/\(mark=mk.map (mkD t)/\∀d∈mk,bdE i.nl d):=by
  unfold dlOf at h;cases ro with
  |none=>
   have:fr=none:=hr.2.symm;subst this;simp only at h;obtain⟨i,q1,q2,q3⟩:=zGJ M.sim h rfl 0 (ob:=.deferred (some [])) rfl;refine⟨S.nl,i,_,_,_,_,q1,q2,by omega,?_,rfl,λd k=>?_⟩
   .have:=run_enterLoop_outer (P:=P) (w:=w) fn a.tmps ⟨ps⟩ assign body;rw[NM.add_bl];show(Instr.enterLoop fn a.tmps ⟨ps⟩ assign body none).run P w=_;simpa [mkD,NM.add_bl]using this
   .rcases zW1.1 k with rfl
    show S.nl<i.nl;omega
  |some l0=>
   have af:fr=some (N.bl l0):=hr.2.symm;subst af;simp only at h;split at h
   .rename_i o ho;split at h
    .rename_i st0 ak al e0 am an ao u;obtain⟨ap,ag,j,Q,E⟩:=M.sim.ok l0 _ ho;exact⟨u,S,[],N,w,[],h,.refl M.sim,E,run_enterLoop_inner j _ _ _ _ _,rfl,λ_ k=>by cases k⟩
    .cases h
   .cases h
 have F:=M.later k2;obtain⟨S2,q1,q2,q3⟩:=zGJ F.sim k1 rfl 0 (ob:=.loop { state:=.ready,pending:=none,fn,tmps:=a.tmps,params:=⟨ps⟩,assign,body,defers:=t.bl u })
  ⟨fn,a.tmps,by rw[(t.ext_add i.nl w1.heap.size 0).bl u k3],F.env.ext (t.ext_add _ _ _) (by omega),by omega⟩
 have G:=F.later q2;rw[U]at q1;obtain⟨g',r1,r2,r3⟩:=zc G.sim G.env q1;have ah:bds S2.nl [T.yl i.nl]:=⟨by show i.nl<S2.nl;omega,trivial⟩;obtain⟨C,N3,S3,w3,H,V,A⟩:=zLK (P:=P) hD G.sim r1 r3 ah;cases C with
 |ent f args=>
  obtain⟨A,r7,r8⟩:=A;rw[Sem.run_bind]at A;have hy:(List.map (tr (t.add i.nl w1.heap.size 0)) [T.yl i.nl]).toArray=#[.func (.yield w1.heap.size) #[] #[]]:=by simp[tr,NM.add_bl]
  rw[hy,<-r2]at A;cases k:(Deferred.ofValue (a.eval g) #[.func (.yield w1.heap.size) #[] #[]]).run P (w1.alloc (.loop { state:=.ready,pending:=none,fn,tmps:=a.tmps,params:=⟨ps⟩,assign,body,defers:=t.bl u }))with
  |halt x w'=>rw[k]at A;cases A
  |ok d ai=>
   rw[k,Result.andThen_ok]at A;refine⟨w1.heap.size,mark,_,d,ai,f,_,w3,k4,?_,λ_ _=>trivial,A,λe=>(by cases e),?_⟩
   .show(resolve a.eval (rangeCall g w1.heap.size) 0).run P _=_;unfold resolve;simp only[rangeCall];have ea:Array.map a.eval #[Operand.const (.func (.yield w1.heap.size) #[] #[])]=#[.func (.yield w1.heap.size) #[] #[]]:=by simp[Act.eval]
    rw[ea];exact k
   .refine CallsIn.mono (zIu R hD U H V.sim r7 fr) ?_;rintro en w4 ⟨r,W,I,j,Q,E⟩;dsimp only at j;rw[qh]at j;have m:=q2.trans (V.trans E);have y:=k2.trans m;have aq:=M.later y;have X:∀{h':Tr HO}{N5:NM}{w5:World},Stp B N S w N5 ⟨h',I.nl⟩ w5->Ext i.nl t N5->Sm B L N5 e ⟨h',I.nl⟩ (mk++ds) { a with defers:=mark++a.defers } w5:=λ{h' N5 w5} q qx=>by
     have:=M.later q;refine⟨this.env,this.sim,?_,λd k=>?_⟩
     .simp only[zWy];rw[<-this.df,k5.1,zGs qx k5.2]
     .rcases zWe.1 k with k|k
      .exact zEp (zWv (by omega) (zWv V.nl E.nl)) (k5.2 d k)
      .exact this.lt d k
    cases r with
    |pan x=>
     obtain⟨rfl,Q⟩:=Q;have h4:I=⟨I.h,I.nl⟩:=rfl;exact⟨.p x,W,e,I,mk++ds,j,⟨rfl,Q⟩,X (h':=I.h) y m.ext,y⟩
    |ret x=>
     obtain⟨rfl,Q⟩:=Q;dsimp only at j;split at j
     case h_2=>cases j
     rename_i o ho;split at j
     case h_2=>cases j
     rename_i st O ar e5 Y Z aa ab;obtain⟨ac,s,u1,u2,u3⟩:=E.sim.ok i.nl _ ho;cases hb:zPH st with
     |true=>rw[hb,zWQ]at j;cases j
     |false=>
      rw[hb,zWH]at j;obtain⟨h5,u4,u5⟩:=Tr.setK_ok _ _ _ _ _ j;have z:W.bl i.nl=w1.heap.size:=by
       rw[E.ext.bl _ (zWN (by omega) V.nl),V.ext.bl _ (by omega),NM.add_bl]
      have aj:(Loop.mk st O ac s Y.toArray Z aa (W.bl ab)).state≠.busy:=by
       intro e;dsimp only at e;subst e;cases hb
      have ad:=run_endLoop (P:=P) u1 aj;rw[z]at ad;rw[z]at u1;have J:=zAy E.sim ho rfl rfl rfl (by rw[z];exact u1) (ob':=.loop { (Loop.mk st O ac s Y.toArray Z aa (W.bl ab))with state:=.exhausted }) (o':=.dead) trivial u5;rw[z]at J;refine⟨O,_,ad,?_⟩;have b:=y.trans J;have ae:=X b (m.trans J).ext;cases O with
      |none=>exact⟨.n,W,e,_,mk++ds,u4,rfl,ae,b⟩
      |some c=>exact wpIn_mono (R.at u4 ae (hr.ext b.ext b.nl)) λ_ _ _ q=>q.trans b
 |v x=>cases H
 |sk=>cases H
 |rnd l' args=>cases H
 |dfr f args caps=>cases H
 |rcv=>cases H
 |pan x=>cases H
def zJG(P:Program)(B:Bs)(rc:XC)(n:Nat):Prop:=∀(d fr:Option Nat)(b:Nat)(c:Code)(e:Tr T)(S:XS)(ds:List DE)(K:XK)(N:NM)(a:Act)(w:World)(N0:NM)(S0:XS)(w0:World),
 rc d b (.loop c) e S ds K=true->Stp B N0 S0 w0 N S w->Sm B b N e S ds a w->RoOk N S.nl d fr->Code.roundsIn (fen fr) 0 P c (Post B b N0 S0 w0 K) n a w
variable{xd:XC->Option Nat->Nat->List Oper->Tr T->XS->List DE->XK->Bool}
theorem zIa(o:CodeOk P B rc){n:Nat}(u:zJG P B rc n):zJG P B (zK7 D xd rc) (n+1):=by
 intro q fr s c e S ds K N a w N0 S0 w0 h i v t;have h:rc q s c e S ds (λex e S ds=>(match ex with
  |.n=>rc q s (.loop c) e S ds K
  |ex=>K ex e S ds))=true:=h
 rw[roundsIn_succ];refine wpIn_mono (o.at h v t) ?_;rintro ex a' w' ⟨x,N',e',j,b,k,d,m,f⟩;cases x with
 |n=>cases d;exact u q fr s c e' j b K N' a' w' N0 S0 w0 k (i.trans f) m (t.ext f.ext f.nl)
 |e id=>cases d;exact⟨.e id,N',e',j,b,k,rfl,m,i.trans f⟩
 |g l=>cases d;exact⟨.g l,N',e',j,b,k,rfl,m,i.trans f⟩
 |r=>cases d;exact⟨.r,N',e',j,b,k,rfl,m,i.trans f⟩
 |p y=>obtain⟨rfl,d⟩:=d;exact⟨.p y,N',e',j,b,k,⟨rfl,d⟩,m,i.trans f⟩
theorem zSm(m:CodeOk P B rc)(G:DOk P D)(C:D.ng=B.ng)(E:zLv P B D xd){n:Nat}(I:zJG P B rc n):CodeOk P B (zK7 D xd rc):=by
 intro H J c e S ds K N a w h k F;have A:RoOk N S.nl H (H.map N.bl):=⟨F,rfl⟩;have o:=h;unfold zK7 at o;split at o
 .exact wpIn_skip ⟨.n,N,e,S,ds,o,rfl,k,.refl k.sim⟩
 .split at o;rename_i l;split at o
  .exact wpIn_region_list (ops:=⟨l⟩) (zJm (ops:=⟨l⟩) m G C o (.refl k.sim) k A)
  .exact E rc m _ _ _ _ _ _ _ _ _ _ _ _ o k A
 .rename_i x y;refine wpIn_seq (wpIn_mono (m.at o k A) ?_);rintro ex a' w' ⟨x,N',e',v,d,f,j,u,s⟩;cases x with
  |n=>cases j;exact wpIn_mono (m.at f u (A.ext s.ext s.nl)) λ_ _ _ q=>q.trans s
  |e id=>cases j;exact⟨.e id,N',e',v,d,f,rfl,u,s⟩
  |g l=>cases j;exact⟨.g l,N',e',v,d,f,rfl,u,s⟩
  |r=>cases j;exact⟨.r,N',e',v,d,f,rfl,u,s⟩
  |p y=>obtain⟨rfl,j⟩:=j;exact⟨.p y,N',e',v,d,f,⟨rfl,j⟩,u,s⟩
 .rename_i g x y;rw[C]at o;obtain⟨z,f,j,u⟩:=zc k.sim k.env o;split at f
  .rename_i t;cases t with
   |true=>exact wpIn_cond_true j (m.at f k A)
   |false=>exact wpIn_cond_false j (m.at f k A)
  .cases f
 .rename_i id b;refine wpIn_block (wpIn_mono (m.at o k A) ?_);rintro ex a' w' ⟨x,N',e',v,d,f,j,u,s⟩;cases x with
  |n=>cases j;exact⟨.n,N',e',v,d,f,rfl,u,s⟩
  |e i=>
   cases j;show(if i=id then _ else _);dsimp only at f;by_cases hi:i=id
   .rw[if_pos hi];rw[beq_iff.2 hi,zWQ]at f;exact⟨.n,N',e',v,d,f,rfl,u,s⟩
   .rw[if_neg hi];rw[zKJ hi,zWH]at f;exact⟨.e i,N',e',v,d,f,rfl,u,s⟩
  |g l=>cases j;exact⟨.g l,N',e',v,d,f,rfl,u,s⟩
  |r=>cases j;exact⟨.r,N',e',v,d,f,rfl,u,s⟩
  |p y=>obtain⟨rfl,j⟩:=j;exact⟨.p y,N',e',v,d,f,⟨rfl,j⟩,u,s⟩
 .rename_i b;exact wpIn_loop_rounds (n+1) (zIa (D:=D) (xd:=xd) m I _ _ _ _ _ _ _ _ _ _ _ _ _ _ h (.refl k.sim) k A)
 .rename_i g ps x y;split at o;rename_i ps;exact zRX m G C o k A
 .rename_i b;refine zEq (wpIn_mono (m.at o k A) ?_);rintro ex a' w' ⟨x,N',e',v,d,f,j,u,s⟩;cases x with
  |n=>cases j;exact⟨.n,N',e',v,d,f,rfl,u,s⟩
  |e id=>cases j;exact⟨.e id,N',e',v,d,f,rfl,u,s⟩
  |g l=>cases f
  |r=>cases j;exact⟨.r,N',e',v,d,f,rfl,u,s⟩
  |p y=>obtain⟨rfl,j⟩:=j;exact⟨.p y,N',e',v,d,f,⟨rfl,j⟩,u,s⟩
 .exact wpIn_exit ⟨.e _,N,e,S,ds,o,rfl,k,.refl k.sim⟩
 .exact wpIn_label ⟨.n,N,e,S,ds,o,rfl,k,.refl k.sim⟩
 .exact wpIn_goto ⟨.g _,N,e,S,ds,o,rfl,k,.refl k.sim⟩
 .exact wpIn_ret ⟨.r,N,e,S,ds,o,rfl,k,.refl k.sim⟩
 .cases o
theorem xc_ok(c:DOk P D)(a:D.ng=B.ng)(b:zLv P B D xd):∀n,CodeOk P B (xc D xd n)/\zJG P B (xc D xd n) n
 |0=>⟨λ_ _ _ _ _ _ _ _ _ _ h=>(by cases h),λ_ _ _ _ _ _ _ _ _ _ _ _ _ _ h=>(by cases h)⟩
 |n+1=>by
  obtain⟨d,e⟩:=xc_ok c a b n;exact⟨zSm d c a b e,zIa d e⟩
end
end
section
open Go.RowKit
inductive Bef(ops:Array Oper)(i:Nat):Nat->Prop
 |one {j:Nat} {o:Oper} {ed:Edge}:ops[j]?=some o->ed∈o.after->Region.binds .any ed=true->ed.on=i->Bef ops i j
 |more {m j:Nat} {o:Oper} {ed:Edge}:ops[j]?=some o->ed∈o.after->Region.binds .any ed=true->ed.on=m->Bef ops i m->Bef ops i j
def kJ(ops:Array Oper)(M:Nat->Prop):Prop:=∀j o,ops[j]?=some o->M j->∀a∈o.after,Region.binds .any a=true->M a.on
def PreIn(ops:Array Oper)(M:Nat->Prop)(j:Nat):Prop:=∀o,ops[j]?=some o->∀a∈o.after,Region.binds .any a=true->M a.on
section
variable{P:Program}{ops:Array Oper}{Q:Exit->Act->World->Prop}
theorem Bef.closed{i j:Nat}{M:Nat->Prop}(h:Bef ops i j)(e:kJ ops M)(f:M j):M i:=by
 induction h with
 |one b c d a=>exact a▸e _ _ b f _ c d
 |more b c d a _ g=>exact g (a▸e _ _ b f _ c d)
theorem Bef.pre{i j:Nat}{M:Nat->Prop}(h:Bef ops i j)(f:kJ ops M)(e:PreIn ops M j):M i:=by
 cases h with
 |one b c d a=>exact a▸e _ b _ c d
 |more b c d a h=>exact h.closed f (a▸e _ b _ c d)
def yD(ops:Array Oper)(k:Nat):Option Tmp:=(ops[k]?).bind (·.dst)
structure Static(ops:Array Oper):Prop where
 nodup:∀(i j:Nat)(t:Tmp),yD ops i=some t->yD ops j=some t->i=j
 nosel:∀(k:Nat)(o:Oper),ops[k]?=some o->(∀cs b,o.op≠Op.select cs b)/\(∀c,o.op≠Op.defer c)
 back:∀(k:Nat)(o:Oper),ops[k]?=some o->∀ed∈o.after,Region.binds .any ed=true->ed.on<k
structure LookEq(ops:Array Oper)(o:Oper)(a a':Act):Prop where
 size:a'.tmps.size=a.tmps.size
 val:∀t∈o.looksAt ops,a'.tmps.getD t undef=a.tmps.getD t undef
theorem zFv{o:Oper}{a a':Act}(c:∀cs b,o.op≠.select cs b)(h:LookEq ops o a a'):execOp a'.eval o=execOp a.eval o:=
 execOp_congr o c λx d=>by
  cases x with
  |tmp t=>exact h.val t (zXV _ (zX1.2 ⟨.tmp t,by simpa using d,rfl⟩))
  |_=>rfl
theorem zFi{a a':Array Value}(d:a'.size=a.size){t:Nat}(h:a'.getD t undef=a.getD t undef):a'[t]?=a[t]?:=by
 by_cases c:t<a.size
 .have b:t<a'.size:=by omega
  simp only[zWS,zWw c,zWw b,zXB]at h;rw[zWw c,zWw b,h]
 .rw[zXH (by omega),zXH (by omega)]
theorem zAb{o:Oper}{a a':Act}(h:LookEq ops o a a'):Region.wanted o (yielded ops a'.tmps)=Region.wanted o (yielded ops a.tmps):=by
 unfold Region.wanted;cases c:o.guard with
 |none=>rfl
 |some d=>
  obtain⟨g,b⟩:=d;have e:yielded ops a'.tmps g=yielded ops a.tmps g:=by
   unfold yielded;cases f:(ops[g]?).bind (·.dst)with
   |none=>rfl
   |some t=>
    have:=zFi h.size (h.val t (by unfold Oper.looksAt;rw[c];simp[f]));simp[this]
  simp only[e]
def Yld(P:Program)(ops:Array Oper)(k:Nat)(v:Value)(a:Act)(w:World):Prop:=
 ∃o,ops[k]?=some o/\((Region.wanted o (yielded ops a.tmps)=true/\(execOp a.eval o).run P w=.ok (.value v) w)\/(Region.wanted o (yielded ops a.tmps)=false/\v=undef))
theorem Yld.look{k:Nat}{v:Value}{a a':Act}{w:World}(st:Static ops)(h:Yld P ops k v a w)(c:∀o,ops[k]?=some o->LookEq ops o a a'):Yld P ops k v a' w:=by
 obtain⟨o,b,h⟩:=h;refine⟨o,b,?_⟩;rw[zAb (c o b),zFv (st.nosel k o b).1 (c o b)];exact h
theorem Yld.wp{k:Nat}{v:Value}{a:Act}{w:World}{fr:Option Nat}{n:Nat}{K:Act->World->Prop}(st:Static ops)(h:Yld P ops k v a w)(b:K (a.put (yD ops k) v) w):wpOpIn (fen fr) n P ops Q k K a w:=by
 obtain⟨o,c,h⟩:=h;have e:yD ops k=o.dst:=by simp[yD,c]
 rw[e]at b;unfold wpOpIn;simp only[c];rcases h with⟨d,f⟩|⟨d,rfl⟩
 .simp only[d,zWE];refine⟨λ_ _=>trivial,?_⟩;rw[Oper.semAt_eq _ _ _ (st.nosel k o c).2,f];exact b
 .simp only[d,zWO,zWA];exact⟨λ_ _=>trivial,b⟩
theorem zQo{i:Nat}{a a':Act}{w:World}{fr:Option Nat}{n:Nat}{K:Act->World->Prop}(st:Static ops)(j:∀c a w,¬Q (.panic c) a w)(q:¬LetsOut Q)(hi:i<ops.size)(m:∀o,ops[i]?=some o->LookEq ops o a a')(h:wpOpIn (fen fr) n P ops Q i K a w) :
 wpOpIn (fen fr) n P ops Q i (λa1 w1=>∃v ds,K (Act.put { a with defers:=ds++a.defers } (yD ops i) v) w1/\a1=Act.put { a' with defers:=ds++a'.defers } (yD ops i) v) a' w:=by
 obtain⟨o,g⟩:∃o,ops[i]?=some o:=⟨_,zWw hi⟩;have p:yD ops i=o.dst:=by simp[yD,g]
 have d:=st.nosel i o g;have f:=m o g;clear m st;rw[p];unfold wpOpIn at *;simp only[g]at *;rw[zAb f];split
 .rename_i k;rw[if_pos k]at h;unfold Oper.wpIn at *;refine⟨λ_ _=>trivial,?_⟩;have h:=h.2;rw[Oper.semAt_eq _ _ _ d.2]at h ⊢;rw[zFv d.1 f];generalize(execOp a.eval o).run P w=r at *;cases r with
  |ok x w'=>
   cases x<;>simp only[Oper.uponIn]at h ⊢ <;>
    first
     |exact⟨_,[],h,rfl⟩
     |exact⟨_,[_],h,rfl⟩
     |exact⟨h.1,CallsIn.mono h.2 (λe l b=>by
      cases e with
      |returned v=>exact⟨_,[],b,rfl⟩
      |panicked c=>exact absurd b (j _ _ _)
      |outgrown=>exact b)⟩
     |exact⟨h.1,RowsIn.mono h.2 (λ_ _ b=>⟨_,[],b,rfl⟩)⟩
     |exact⟨h.1,RoundIn.mono h.2 (λe l b=>by
      cases e with
      |returned v=>exact⟨_,[],b,rfl⟩
      |panicked c=>exact absurd b (j _ _ _)
      |outgrown=>exact b)⟩
  |halt x w'=>cases x<;>simp only[Oper.uponIn]at h ⊢<;>first|exact h|exact absurd h (j _ _ _)
 .rename_i k;rw[if_neg k]at h;exact⟨λ_ _=>trivial,_,[],h.2,rfl⟩
theorem xO{a:Act}{d:Option Tmp}{v:Value}{t:Nat}:(a.put d v).tmps.getD t undef=if d=some t/\t<a.tmps.size then v else a.tmps.getD t undef:=by
 cases d with
 |none=>simp[Act.put]
 |some d=>
  simp only[Act.put,zXo];by_cases e:d=t
  .subst e;by_cases b:d<a.tmps.size
   .simp[zWS,b]
   .simp[zWS,b]
  .rw[if_neg (λh=>e h.1)];simp[zWS,zXY e]
theorem xg{a:Act}{d:Option Tmp}{v:Value}:(a.put d v).tmps.size=a.tmps.size:=by cases d<;>simp[Act.put]
theorem zEc{a:Act}{d:Option Tmp}{v:Value}:(a.put d v).defers=a.defers:=by cases d<;>rfl
theorem zOG{a a':Act}(b:a'.tmps.size=a.tmps.size)(c:a'.defers=a.defers)(h:∀t,a'.tmps.getD t undef=a.tmps.getD t undef):a'=a:=by
 obtain⟨t,d⟩:=a;obtain⟨e,f⟩:=a';dsimp only at b c h;subst c;congr;exact Array.ext_getElem? λi=>zFi b (h i)
def zFO(ops:Array Oper)(a:Array Bool):List Nat:=(List.range ops.size).filter λk=>!a.getD k true
theorem zQQ{a:Array Bool}{j:Nat}(d:j<ops.size)(h:a.getD j true=false):(zFO ops (a.setIfInBounds j true)).length<(zFO ops a).length:=by
 unfold zFO;have e:((List.range ops.size).filter λk=>!(a.setIfInBounds j true).getD k true)=((List.range ops.size).filter λk=>!a.getD k true).filter λk=>k != j:=by
  rw[List.filter_filter];refine List.filter_congr λk _=>?_;by_cases b:j=k
  .subst b;have c:j<a.size:=by
    rcases zW5 j a.size with h'|h'
    .exact h'
    .simp[zXH h']at h
   simp[c]
  .rw[getD_set_ne true b];simp[zW8 b]
 rw[e];exact zYT.2 ⟨j,zXP.2 ⟨zYO.2 d,by rw[h];rfl⟩,by simp⟩
theorem zFK{a:Array Bool}{j k:Nat}(b:j<a.size)(d:Bool):(a.setIfInBounds j true).getD k d=if k=j then true else a.getD k d:=by
 by_cases e:j=k
 .subst e;simp[b]
 .rw[getD_set_ne d e,if_neg (zW8 e)]
theorem zES{a:Array Bool}{k:Nat}(h:k<a.size):a.getD k true=a.getD k false:=by simp[h]
theorem zRw(st:Static ops){a:Array Bool}(c:a.size=ops.size)(h:Region.ready .any ops a=[]):∀k,k<ops.size->a.getD k true=true:=by
 intro k
 induction k using Nat.strongRecOn with
 |ind k e=>
  intro d;cases f:a.getD k true with
  |true=>rfl
  |false=>
   have:k∈Region.ready .any ops a:=by
    rw[mem_ready];refine⟨f,ops[k],zWw d,λg i j=>?_⟩;have b:=st.back k _ (zWw d) g i j;rw[<-zES (by omega)];exact e _ b (by omega)
   rw[h]at this;cases this
end
end
section
open Go.RowKit
section
variable{P:Program}{B:Bs}{N:NM}{S:XS}{w:World}{D:Dat}{rc:XC}
noncomputable def xst(D:Dat)(e:Tr T)(S:XS)(o:Oper)(K:T->Bool):Bool:=
 match o.op with
 |.move x=>evK D.ng e x K
 |.assign x=>evK D.ng e x K
 |.pick c a b=>evK D.ng e c λc=>(match c with
  |.bool t=>(match t with
   |true=>evK D.ng e a K
   |false=>evK D.ng e b K)
  |_=>false)
 |.load t a=>evK D.ng e a λa=>zCr D S t a λy _=>K y
 |.nilCheck x=>evK D.ng e x λx=>bif refB x then K x else false
 |.binOp d t x y _=>evK D.ng e x λa=>evK D.ng e y λb=>zIS D d t (zAg y) a b K
 |.unOp d _ x=>evK D.ng e x λa=>xUn d a K
 |.convert f t x=>evK D.ng e x λa=>zFc D S f t a K
 |.makeInterface t x=>evK D.ng e x λa=>zDX D t a K
 |.slice t x lo hi mx=>evK D.ng e x λx=>evoK D.ng e lo λlo=>evoK D.ng e hi λhi=>evoK D.ng e mx λmx=>zGI D S t x lo hi mx K
 |.fieldAddr t x f=>evK D.ng e x λx=>zBX D t x f K
 |.field t x f=>evK D.ng e x λx=>zGN D t x f K
 |.indexAddr t x i=>evK D.ng e x λx=>evK D.ng e i λi=>zBH D S t x i K
 |.index t x i=>evK D.ng e x λx=>evK D.ng e i λi=>zF9 D t x i K
 |.lookup t x i c=>evK D.ng e x λx=>evK D.ng e i λi=>zFx D S t x i c K
 |.extract x i=>evK D.ng e x λx=>zDQ x i K
 |.build t ps=>(match ps with|⟨l⟩=>evpK D.ng e l λps=>zGM D t ps K)
 |.call c=>(match c.args with
  |⟨l⟩=>(match c.callee with
   |.builtin b=>evsK D.ng e l λargs=>(match c.argTypes with
    |⟨g⟩=>(match args with
     |[x]=>(match b with
      |.len=>(match g with|t::_=>xLen D S t x K|[]=>false)
      |.cap=>(match g with|t::_=>xCap D t x K|[]=>false)
      |.unsafeSliceData=>xUSD S x K
      |_=>false)
     |[x,y]=>(match b with
      |.min=>xMin x y K
      |.max=>xMax x y K
      |_=>false)
     |_=>false))
   |_=>false))
 |_=>false
def zIG(o:Oper):Bool:=
 match o.op with
 |.move _=>true
 |.assign _=>true
 |.pick _ _ _=>true
 |.load _ _=>true
 |.nilCheck _=>true
 |.binOp _ _ _ _ _=>true
 |.unOp _ _ _=>true
 |.convert _ _ _=>true
 |.makeInterface _ _=>true
 |.slice _ _ _ _ _=>true
 |.fieldAddr _ _ _=>true
 |.field _ _ _=>true
 |.indexAddr _ _ _=>true
 |.index _ _ _=>true
 |.lookup _ _ _ _=>true
 |.extract _ _=>true
 |.build _ _=>true
 |.call c=>(match c.callee with
  |.builtin .len=>true
  |.builtin .cap=>true
  |.builtin .unsafeSliceData=>true
  |.builtin .min=>true
  |.builtin .max=>true
  |_=>false)
 |_=>false
theorem FinS.val{K:T->Bool}{s:Sem Value}(h:FinS P N S w K s):∃x,K x=true/\((do pure (Next.value (<-s))):Sem Next).run P w=.ok (.value (tr N x)) w/\bd S.nl x:=by
 obtain⟨x,a,b,c⟩:=h;exact⟨x,a,xJ b,c⟩
theorem zLq(n:DOk P D)(I:D.ng=B.ng)(g:HSim B N S w){U:Nat}{e:Tr T}{a:Act}(m:ESim N S.nl U e a.tmps){o:Oper}{K:T->Bool}(h:xst D e S o K=true):∃x,K x=true/\(execOp a.eval o).run P w=.ok (.value (tr N x)) w/\bd S.nl x:=by
 unfold xst at h;rw[I]at h;unfold execOp;have C:∀{u:Value}{x:T},K x=true->u=tr N x->bd S.nl x->∃x,K x=true/\(pure (.value u):Sem Next).run P w=.ok (.value (tr N x)) w/\bd S.nl x:=λ{u x} d j k=>⟨x,d,by rw[j];rfl,k⟩;split at h<;>(try(rename_i J;rw[J]))<;>(try simp only)
 .obtain⟨x,d,j,k⟩:=zc g m h;exact C d j k
 .obtain⟨x,d,j,k⟩:=zc g m h;exact C d j k
 .rename_i c x y;obtain⟨c',d,j,k⟩:=zc g m h;split at d
  .rename_i t;have V:a.eval c=.bool t:=j;have A:∀u v:Value,((do pure (.value (if <-asBool (a.eval c)then u else v))):Sem Next).run P w=.ok (.value (if t then u else v)) w:=λu v=>by
    rw[V];simp[asBool]
   cases t with
   |true=>
    obtain⟨L,E,F,G⟩:=zc g m d;exact⟨L,E,by rw[A];simp[F],G⟩
   |false=>
    obtain⟨L,E,F,G⟩:=zc g m d;exact⟨L,E,by rw[A];simp[F],G⟩
  .cases d
 .obtain⟨x,d,j,k⟩:=zc g m h;rw[j];obtain⟨y,E,F,G⟩:=zDu n g d;exact⟨y,E,xJ F,G⟩
 .obtain⟨x,d,j,k⟩:=zc g m h;obtain⟨s,z⟩:=zO d;rw[j];refine⟨x,z,?_,k⟩;cases x<;>first|rfl|(simp[refB]at s)
  rename_i f p q;cases f<;>first|rfl|(simp[refB]at s)
 .obtain⟨x,d,j,k⟩:=zc g m h;obtain⟨y,s,z,H⟩:=zc g m d;rw[j,z];exact(zLX n g s).val
 .obtain⟨x,d,j,k⟩:=zc g m h;rw[j];exact(zSL g d).val
 .obtain⟨x,d,j,k⟩:=zc g m h;rw[j];exact(zKN n g d k).val
 .obtain⟨x,d,j,k⟩:=zc g m h;rw[j];exact(zG9 n g d k).val
 .obtain⟨x,d,j,k⟩:=zc g m h;obtain⟨lo,s,z,H⟩:=zC5 g m d;obtain⟨hi,W,X,h9⟩:=zC5 g m s;obtain⟨mx,M,O,Y⟩:=zC5 g m W;rw[j,z,X,O];exact(zKU n g M k).val
 .obtain⟨x,d,j,k⟩:=zc g m h;rw[j];exact(zFS n g d k).val
 .obtain⟨x,d,j,k⟩:=zc g m h;rw[j];exact(zKK n g d k).val
 .obtain⟨x,d,j,k⟩:=zc g m h;obtain⟨y,s,z,H⟩:=zc g m d;rw[j,z];exact(zFX n g s k).val
 .obtain⟨x,d,j,k⟩:=zc g m h;obtain⟨y,s,z,H⟩:=zc g m d;rw[j,z];exact(zKL n g s k).val
 .obtain⟨x,d,j,k⟩:=zc g m h;obtain⟨y,s,z,H⟩:=zc g m d;rw[j,z];exact(zKh n g s).val
 .obtain⟨x,d,j,k⟩:=zc g m h;rw[j];exact(zHE g d k).val
 .split at h;rename_i l;obtain⟨ps,d,j,k⟩:=zD8 g m h;have Q:((l.toArray).map λ(i,x)=>(i,a.eval x))=(ps.map λp=>(p.1,tr N p.2)).toArray:=by
   rw[<-j];simp
  rw[show(Array.map (λx=>match x with|(i,x)=>(i,a.eval x)) (Array.mk l))=(ps.map λp=>(p.1,tr N p.2)).toArray from Q];exact(zJ9 n g d k).val
 .rename_i c;split at h;rename_i l Z;have Q:∀ys:List T,l.map a.eval=ys.map (tr N)->Array.map a.eval c.args=(ys.map (tr N)).toArray:=λys h=>by rw[Z,<-h];simp
  split at h
  .rename_i b hc;obtain⟨ys,d,j,k⟩:=zBt g m h;split at d;rename_i ts R;unfold resolve;simp only[hc,Q ys j,R,pure_bind];split at d
   .rename_i x;split at d
    .split at d
     .rename_i t r;exact(zOw n g d r _).val
     .cases d
    .split at d
     .rename_i t r;exact(zOz n g d r _).val
     .cases d
    .exact(zOn g d k.1 _ _).val
    .cases d
   .rename_i x y;split at d
    .exact(zNy g d _ _).val
    .exact(zNr g d _ _).val
    .cases d
   .cases d
  .cases h
 .cases h
def eqV(u v:Value):Bool:=
 match u,v with
 |.nilIface,.nilIface=>true
 |.pointer none,.pointer none=>true
 |.map none,.map none=>true
 |.slice none n c,.slice none a b=>Nat.beq n a&&Nat.beq c b
 |_,_=>false
theorem eqV_ok{u v:Value}(h:eqV u v=true):u=v:=by
 unfold eqV at h;split at h
 .rfl
 .rfl
 .rfl
 .rw[zV5]at h;rw[beq_iff.1 h.1,beq_iff.1 h.2]
 .cases h
noncomputable def eq0(x y:T):Bool:=
 match x with
 |.atm u=>(match y with|.atm v=>eqV u v|_=>false)
 |.int k n=>(match y with|.int f e=>Nat.beq (Kd k) (Kd f)&&ieqB n e|_=>false)
 |.bool b=>(match y with|.bool c=>b==c|_=>false)
 |.str s=>(match y with|.str g=>seqB s g|_=>false)
 |.ptr l o=>(match y with|.ptr d o'=>Nat.beq l d&&Nat.beq o o'|_=>false)
 |.sl l z a p n=>(match y with|.sl d h a' i e=>Nat.beq l d&&Nat.beq z h&&Nat.beq a a'&&Nat.beq p i&&Nat.beq n e|_=>false)
 |.slc l o n c=>(match y with|.slc d o' e j=>Nat.beq l d&&Nat.beq o o'&&Nat.beq n e&&Nat.beq c j|_=>false)
 |.mp l=>(match y with|.mp d=>Nat.beq l d|_=>false)
 |.yl l=>(match y with|.yl d=>Nat.beq l d|_=>false)
 |_=>false
theorem zIN{x y:T}(h:eq0 x y=true)(N:NM):tr N x=tr N y:=by
 unfold eq0 at h;split at h<;>(try split at h)<;>try(cases h;done)
 .simp only[tr];exact eqV_ok h
 .simp only[zV5,zCw,zXq]at h;rw[zH3 h.1,h.2]
 .rw[zXq]at h;rw[h]
 .rw[kU,zWV]at h;simp only[tr,bts,h]
 .simp only[zV5,beq_iff]at h;rw[h.1,h.2]
 .simp only[zV5,beq_iff]at h;rw[h.1.1.1.1,h.1.1.1.2,h.1.1.2,h.1.2,h.2]
 .simp only[zV5,beq_iff]at h;rw[h.1.1.1,h.1.1.2,h.1.2,h.2]
 .rw[beq_iff.1 h]
 .rw[beq_iff.1 h]
noncomputable def eqs0(a:List T):List T->Bool:=
 List.rec (motive:=λ_=>List T->Bool) (λb=>List.casesOn (motive:=λ_=>Bool) b true λ_ _=>false)
  (λx _ c b=>List.casesOn (motive:=λ_=>Bool) b false λy r=>eq0 x y&&c r) a
theorem zBn(N:NM):∀{a b:List T},eqs0 a b=true->trs N a=trs N b
 |[],[],_=>rfl
 |[],_::_,h=>by cases h
 |_::_,[],h=>by cases h
 |x::a,y::b,h=>by
  have h:(eq0 x y&&eqs0 a b)=true:=h;rw[zV5]at h;simp only[trs];rw[zIN h.1 N,zBn N h.2]
noncomputable def eq1(x y:T):Bool:=
 match x with
 |.agg a=>(match y with|.agg b=>eqs0 a b|_=>false)
 |x=>eq0 x y
theorem eq1_ok{x y:T}(h:eq1 x y=true)(N:NM):tr N x=tr N y:=by
 unfold eq1 at h;split at h
 .split at h
  .simp only[tr];rw[zBn N h]
  .cases h
 .exact zIN h N
noncomputable def eqs1(a:List T):List T->Bool:=
 List.rec (motive:=λ_=>List T->Bool) (λb=>List.casesOn (motive:=λ_=>Bool) b true λ_ _=>false)
  (λx _ c b=>List.casesOn (motive:=λ_=>Bool) b false λy r=>eq1 x y&&c r) a
theorem zO0(N:NM):∀{a b:List T},eqs1 a b=true->trs N a=trs N b
 |[],[],_=>rfl
 |[],_::_,h=>by cases h
 |_::_,[],h=>by cases h
 |x::a,y::b,h=>by
  have h:(eq1 x y&&eqs1 a b)=true:=h;rw[zV5]at h;simp only[trs];rw[eq1_ok h.1 N,zO0 N h.2]
noncomputable def eqT(x y:T):Bool:=
 match x with
 |.agg a=>(match y with|.agg b=>eqs0 a b|_=>false)
 |.tup a=>(match y with|.tup b=>eqs1 a b|_=>false)
 |.ifc t x=>(match y with|.ifc c y=>Nat.beq t c&&eq0 x y|_=>false)
 |.fn f a b=>(match y with
  |.fn d a' e=>(match f with
   |.func n=>(match d with
    |.func g=>Nat.beq n g&&eqs0 a a'&&eqs0 b e
    |_=>false)
   |_=>false)
  |_=>false)
 |x=>eq0 x y
theorem zLN{x y:T}(h:eqT x y=true)(N:NM):tr N x=tr N y:=by
 unfold eqT at h;split at h
 .split at h
  .simp only[tr];rw[zBn N h]
  .cases h
 .split at h
  .simp only[tr];rw[zO0 N h]
  .cases h
 .split at h
  .rw[zV5]at h;simp only[tr];rw[beq_iff.1 h.1,zIN h.2 N]
  .cases h
 .split at h
  .split at h
   .split at h
    .simp only[zV5]at h;simp only[tr];rw[beq_iff.1 h.1.1,zBn N h.1.2,zBn N h.2]
    .cases h
   .cases h
  .cases h
 .exact zIN h N
noncomputable def bitB(m k:Nat):Bool:=Nat.beq (Nat.land (Nat.shiftRight m k) 1) 1
noncomputable def addB(m k:Nat):Nat:=Nat.lor m (Nat.shiftLeft 1 k)
noncomputable def subB(m a:Nat):Bool:=Nat.beq (Nat.land m a) m
theorem zAw(m k:Nat):bitB m k=m.testBit k:=by
 unfold bitB;rw[zYV,beq_iff];show(m >>> k) &&& 1=1↔_;unfold Nat.testBit;rw[Nat.and_comm];simp only[Nat.one_and_eq_mod_two,bne_iff_ne,ne_eq];omega
theorem kv(m k j:Nat):(addB m k).testBit j=(m.testBit j||decide (k=j)):=by
 unfold addB;show(m ||| (1 <<< k)).testBit j=_;rw[Nat.testBit_or,Nat.one_shiftLeft,Nat.testBit_two_pow]
theorem zNM{m a:Nat}(h:subB m a=true){k:Nat}(c:m.testBit k=true):a.testBit k=true:=by
 have h:=beq_iff.1 h;have b:(m &&& a).testBit k=true:=by rw[show m &&& a=m from h];exact c
 rw[Nat.testBit_and,zV5]at b;exact b.2
end
end
section
open Go.RowKit
noncomputable def edgK(i:Nat)(mt:Tr Nat)(es:List Edge):Nat->(Nat->Bool)->Bool:=
 List.rec (motive:=λ_=>Nat->(Nat->Bool)->Bool) (λm κ=>κ m) (λa _ b m κ=>bif Region.binds .any a then(bif Nat.blt a.on i then(match mt.get a.on with
  |some t=>fN (Nat.lor (addB m a.on) t) λm=>b m κ
  |none=>false)else false)else b m κ) es
def zFD(o:Oper):Bool:=
 match o.op with
 |.select _ _=>false
 |.defer _=>false
 |_=>true
noncomputable def mskK(l:List Oper):Nat->Tr Nat->Tr Nat->(Tr Nat->Tr Nat->Bool)->Bool:=
 List.rec (motive:=λ_=>Nat->Tr Nat->Tr Nat->(Tr Nat->Tr Nat->Bool)->Bool) (λ_ mt a κ=>κ mt a)
  (λo _ b i mt a κ=>bif zFD o then edgK i mt o.after.toList 0 λm=>Tr.setK m 40 mt i λmt=>(match o.dst with
   |none=>fN (i+1) λj=>b j mt a κ
   |some d=>(match a.get d with
    |none=>Tr.setK i 40 a d λa=>fN (i+1) λj=>b j mt a κ
    |some _=>false))else false) l
noncomputable def dirT(b:Tr Nat)(m:Nat)(c:List Tmp):Nat->(Nat->Bool)->Bool:=
 List.rec (motive:=λ_=>Nat->(Nat->Bool)->Bool) (λd κ=>κ d) (λt _ a d κ=>(match b.get t with
  |none=>a d κ
  |some p=>bif bitB m p then a d κ else fN (addB d p) λd=>a d κ)) c
noncomputable def dirK(ops:Array Oper)(mt a:Tr Nat)(l:List Oper):Nat->Nat->(Nat->Bool)->Bool:=
 List.rec (motive:=λ_=>Nat->Nat->(Nat->Bool)->Bool) (λ_ d κ=>κ d) (λo _ b i d κ=>(match mt.get i with
  |some m=>dirT a m (o.looksAt ops) d λd=>fN (i+1) λj=>b j d κ
  |none=>false)) l
noncomputable def zAk(p:Nat->Oper->Bool)(l:List Oper):Nat->(Nat->Oper->Bool)->Bool->Bool:=
 List.rec (motive:=λ_=>Nat->(Nat->Oper->Bool)->Bool->Bool) (λ_ _ a=>a) (λo _ b i κ a=>bif p i o then κ i o else fN (i+1) λj=>b j κ a) l
noncomputable def mB(mt:Tr Nat)(i:Nat)(κ:Nat->Bool):Bool:=
 match mt.get i with
 |some m=>κ m
 |none=>false
def isT0(x:T):Bool:=
 match x with
 |.tup l=>(match l with|[]=>true|_=>false)
 |_=>false
noncomputable def rchF(D:Dat)(b:Nat)(dsts:List (Option Nat))(m:Nat)(e:Tr T)(S:XS)(l:List (Nat×Oper×T)):(List (Nat×Oper×T)->Bool)->Bool:=
 List.rec (motive:=λ_=>(List (Nat×Oper×T)->Bool)->Bool) (λκ=>κ []) (λp _ a κ=>bif bitB m p.1 then a κ else bif (kX b dsts e p.2.1.guard λc=>bif c then xst D e S p.2.1 (eqT p.2.2)else isT0 p.2.2)then a (λr=>κ (p::r))else false) l
section
variable{P:Program}{B:Bs}{N:NM}{S:XS}{w:World}{D:Dat}{rc:XC}
theorem zJS{i:Nat}{mt:Tr Nat}:∀{es:List Edge}{m:Nat}{κ:Nat->Bool},edgK i mt es m κ=true->∃e,κ e=true /\
 (∀p,e.testBit p=true->m.testBit p=true\/∃ed∈es,Region.binds .any ed=true/\(p=ed.on\/∃t,mt.get ed.on=some t/\t.testBit p=true)) /\
 (∀p,m.testBit p=true->e.testBit p=true)/\(∀ed∈es,Region.binds .any ed=true->ed.on<i/\e.testBit ed.on=true)
 |[],m,κ,h=>⟨m,h,λp c=>.inl c,λp c=>c,λ_ d=>by cases d⟩
 |ed::es,m,κ,h=>by
  have h:(bif Region.binds .any ed then(bif Nat.blt ed.on i then(match mt.get ed.on with
   |some t=>fN (Nat.lor (addB m ed.on) t) λm=>edgK i mt es m κ
   |none=>false)else false)else edgK i mt es m κ)=true:=h
  cases g:Region.binds .any ed with
  |false=>
   rw[g,zWH]at h;obtain⟨e,k,l,j,n⟩:=zJS h;refine⟨e,k,λp c=>?_,j,λa d b=>?_⟩
   .rcases l p c with q|⟨a,o,r⟩
    .exact .inl q
    .exact .inr ⟨a,zWU _ o,r⟩
   .rcases zWB.1 d with rfl|d
    .rw[g]at b;cases b
    .exact n a d b
  |true=>
   rw[g,zWQ]at h;obtain⟨s,h⟩:=zO h;split at h
   .rename_i t u;rw[zy]at h;obtain⟨e,k,l,j,n⟩:=zJS h;have f:∀p,(Nat.lor (addB m ed.on) t).testBit p=(m.testBit p||decide (ed.on=p)||t.testBit p):=λp=>by
     show((addB m ed.on) ||| t).testBit p=_;rw[Nat.testBit_or,kv]
    refine⟨e,k,λp c=>?_,λp c=>j p (by rw[f,c];rfl),λa d b=>?_⟩
    .rcases l p c with q|⟨a,o,r⟩
     .rw[f]at q;simp only[zXF,zWV]at q;rcases q with(q|q)|q
      .exact .inl q
      .exact .inr ⟨ed,zWr ..,g,.inl q.symm⟩
      .exact .inr ⟨ed,zWr ..,g,.inr ⟨t,u,q⟩⟩
     .exact .inr ⟨a,zWU _ o,r⟩
    .rcases zWB.1 d with rfl|d
     .exact⟨blt_iff.1 s,j _ (by rw[f];simp)⟩
     .exact n a d b
   .cases h
structure MOk(ops:Array Oper)(n:Nat)(mt:Tr Nat):Prop where
 ex:∀j,j<n->∃m,mt.get j=some m
 bef:∀j m,j<n->mt.get j=some m->∀p,m.testBit p=true->Bef ops p j
 dir:∀j m o,j<n->mt.get j=some m->ops[j]?=some o->∀ed∈o.after,Region.binds .any ed=true->ed.on<j/\m.testBit ed.on=true
theorem zJe{ops:Array Oper}:∀{l:List Oper}{i:Nat}{mt g:Tr Nat}{κ:Tr Nat->Tr Nat->Bool},(∀k,l[k]?=ops[i+k]?)->i<=ops.size->MOk ops i mt->(∀(j:Nat)(o:Oper),j<i->ops[j]?=some o->zFD o=true)->(∀t p,g.get t=some p↔p<i/\yD ops p=some t)->mskK l i mt g κ=true ->
 ∃n s,κ n s=true/\MOk ops ops.size n/\(∀(j:Nat)(o:Oper),ops[j]?=some o->zFD o=true)/\(∀t p,s.get t=some p↔yD ops p=some t)
 |[],i,mt,g,κ,I,hi,x,J,z,h=>by
  have r:i=ops.size:=by
   have:=I 0;simp at this;omega
  subst r;refine⟨mt,g,h,x,λj o f=>J j o (zV8.1 f).1 f,λt p=>?_⟩;rw[z];refine⟨λq=>q.2,λq=>⟨?_,q⟩⟩;unfold yD at q;cases f:ops[p]? with
  |none=>rw[f]at q;cases q
  |some o=>exact(zV8.1 f).1
 |o::l,i,mt,g,κ,I,hi,x,J,z,h=>by
  have h:(bif zFD o then edgK i mt o.after.toList 0 λm=>Tr.setK m 40 mt i λmt=>(match o.dst with
   |none=>fN (i+1) λj=>mskK l j mt g κ
   |some d=>(match g.get d with
    |none=>Tr.setK i 40 g d λg=>fN (i+1) λj=>mskK l j mt g κ
    |some _=>false))else false)=true:=h
  have f:ops[i]?=some o:=by simpa using(I 0).symm
  have r:i<ops.size:=(zV8.1 f).1;obtain⟨Y,h⟩:=zO h;obtain⟨m,Z,h2,_,T⟩:=zJS h;obtain⟨n,y,K⟩:=Tr.setK_ok _ _ _ _ _ Z;have A:∀k,l[k]?=ops[i+1+k]?:=λk=>by have:=I (k+1);simpa [zX7,zYZ 1 k]using this
  have C:MOk ops (i+1) n:=by
   refine⟨λj L=>?_,λj M L c p U=>?_,λj M o' L c a E V W=>?_⟩
   .rw[K];split
    .exact⟨_,rfl⟩
    .exact x.ex j (by omega)
   .rw[K]at c;split at c
    .rename_i e;subst e;injection c with c;subst c
     rcases h2 p U with q|⟨E,O,F,Q⟩
     .simp at q
     .have G:E∈o.after:=by simpa using O
      rcases Q with rfl|⟨t,Q,q4⟩
      .exact .one f G F rfl
      .exact .more f G F rfl (x.bef _ t (T E O F).1 Q p q4)
    .exact x.bef j M (by omega) c p U
   .rw[K]at c;split at c
    .rename_i e;subst e;injection c with c;subst c
     rw[f]at a;injection a with a;subst a
     exact T E (by simpa using V) W
    .exact x.dir j M o' (by omega) c a E V W
  have H:∀j o,j<i+1->ops[j]?=some o->zFD o=true:=λj o' L a=>by
   by_cases e:j=i
   .subst e;rw[f]at a;injection a with a;subst a;exact Y
   .exact J j o' (by omega) a
  have u:yD ops i=o.dst:=by simp[yD,f]
  split at y
  .rename_i b;rw[zy]at y;refine zJe A r C H (λt p=>?_) y;rw[z];refine⟨λq=>⟨by omega,q.2⟩,λq=>⟨?_,q.2⟩⟩;by_cases e:p=i
   .subst e;rw[u,b]at q;cases q.2
   .omega
  .rename_i d b;split at y
   .rename_i v;obtain⟨s,X,h8⟩:=Tr.setK_ok _ _ _ _ _ y;rw[zy]at X;refine zJe A r C H (λt p=>?_) X;rw[h8];by_cases e:t=d
    .subst e;rw[if_pos rfl];constructor
     .intro q;injection q with q;subst q;exact⟨by omega,by rw[u,b]⟩
     .rintro⟨O,F⟩;by_cases R:p=i
      .rw[R]
      .have:=(z t p).2 ⟨by omega,F⟩;rw[v]at this;cases this
    .rw[if_neg e,z];refine⟨λq=>⟨by omega,q.2⟩,λq=>⟨?_,q.2⟩⟩;by_cases R:p=i
     .subst R;rw[u,b]at q;have:=q.2;injection this with this;exact absurd this.symm e
     .omega
   .cases y
theorem zGa{e:Tr Nat}{m:Nat}:∀{f:List Tmp}{d:Nat}{κ:Nat->Bool},dirT e m f d κ=true->∃c,κ c=true/\(∀p,d.testBit p=true->c.testBit p=true)/\∀t∈f,∀p,e.get t=some p->m.testBit p=true\/c.testBit p=true
 |[],d,κ,h=>⟨d,h,λ_ h=>h,λ_ n=>by cases n⟩
 |t::f,d,κ,h=>by
  have h:(match e.get t with
   |none=>dirT e m f d κ
   |some p=>bif bitB m p then dirT e m f d κ else fN (addB d p) λd=>dirT e m f d κ)=true:=h
  split at h
  .rename_i o;obtain⟨c,i,g,j⟩:=zGa h;refine⟨c,i,g,λu b p a=>?_⟩;rcases zWB.1 b with rfl|b
   .rw[o]at a;cases a
   .exact j u b p a
  .rename_i q l;cases k:bitB m q with
   |true=>
    rw[k,zWQ]at h;obtain⟨c,i,g,j⟩:=zGa h;refine⟨c,i,g,λu b p a=>?_⟩;rcases zWB.1 b with rfl|b
    .rw[l]at a;injection a with a;subst a
     rw[zAw]at k;exact .inl k
    .exact j u b p a
   |false=>
    rw[k,zWH,zy]at h;obtain⟨c,i,g,j⟩:=zGa h;refine⟨c,i,λp a=>g p (by rw[kv,a];rfl),λu b p a=>?_⟩;rcases zWB.1 b with rfl|b
    .rw[l]at a;injection a with a;subst a
     exact .inr (g _ (by rw[kv];simp))
    .exact j u b p a
theorem zOD{ops:Array Oper}{mt c:Tr Nat}:∀{l:List Oper}{i d:Nat}{κ:Nat->Bool},(∀k,l[k]?=ops[i+k]?)->dirK ops mt c l i d κ=true->∃b,κ b=true/\(∀p,d.testBit p=true->b.testBit p=true)/\∀k o,i<=k->ops[k]?=some o->∀t∈o.looksAt ops,∀p,c.get t=some p->(∃m,mt.get k=some m/\m.testBit p=true)\/b.testBit p=true
 |[],i,d,κ,f,h=>⟨d,h,λ_ h=>h,λk o v g=>by
  exfalso;have:=f (k-i);rw[show i+(k-i)=k from by omega,g]at this;cases this⟩
 |o0::l,i,d,κ,f,h=>by
  have h:(match mt.get i with
   |some m=>dirT c m (o0.looksAt ops) d λd=>fN (i+1) λj=>dirK ops mt c l j d κ
   |none=>false)=true:=h
  split at h
  case h_2=>cases h
  rename_i m x;obtain⟨E,r,y,z⟩:=zGa h;rw[zy]at r;obtain⟨b,A,s,C⟩:=zOD (λk=>by have:=f (k+1);simpa [zX7,zYZ 1 k]using this) r;refine⟨b,A,λp n=>s p (y p n),λk o v g t u p n=>?_⟩;by_cases e:k=i
  .subst e;have a:ops[k]?=some o0:=by simpa using(f 0).symm
   rw[g]at a;injection a with a;subst a
   rcases z t u p n with q|q
   .exact .inl ⟨m,x,q⟩
   .exact .inr (s p q)
  .exact C k o (by omega) g t u p n
theorem zR9{ops:Array Oper}{mt n:Tr Nat}(g:MOk ops ops.size mt)(q:∀(j:Nat)(o:Oper),ops[j]?=some o->zFD o=true)(h:∀t p,n.get t=some p↔yD ops p=some t):Static ops where
 nodup:=λi j t f r=>by
  have a:=(h t i).2 f;have b:=(h t j).2 r;rw[a]at b;injection b
 nosel:=λk o d=>by
  have:=q k o d;unfold zFD at this;exact⟨λcs b e=>(by rw[e]at this;cases this),λc e=>(by rw[e]at this;cases this)⟩
 back:=λk o d s u v=>by
  have l:=(zV8.1 d).1;obtain⟨m,f⟩:=g.ex k l;exact(g.dir k m o l f d s u v).1
theorem zDE{p:Nat->Oper->Bool}:∀{l:List Oper}{i:Nat}{κ:Nat->Oper->Bool}{a:Bool},zAk p l i κ a=true->(∃k o,l[k]?=some o/\p (i+k) o=true/\κ (i+k) o=true)\/((∀k o,l[k]?=some o->p (i+k) o=false)/\a=true)
 |[],i,κ,a,h=>.inr ⟨λk o b=>(by simp at b),h⟩
 |o::l,i,κ,a,h=>by
  have h:(bif p i o then κ i o else fN (i+1) λj=>zAk p l j κ a)=true:=h;cases c:p i o with
  |true=>rw[c,zWQ]at h;exact .inl ⟨0,o,rfl,c,h⟩
  |false=>
   rw[c,zWH,zy]at h;rcases zDE h with⟨k,o',f,d,g⟩|⟨f,d⟩
   .have e:i+1+k=i+(k+1):=by omega
    rw[e]at d g;exact .inl ⟨k+1,o',by simpa using f,d,g⟩
   .refine .inr ⟨λk o' b=>?_,d⟩;cases k with
    |zero=>simp at b;subst b;exact c
    |succ k=>have:=f k o' (by simpa using b);rwa [show i+1+k=i+(k+1)from by omega]at this
theorem zVE{x:T}(h:isT0 x=true):x=.tup []:=by
 unfold isT0 at h;split at h
 .split at h
  .rfl
  .cases h
 .cases h
theorem zGq(k:DOk P D)(b:D.ng=B.ng)(n:HSim B N S w){d:Nat}{e:Tr T}{a:Act}(i:ESim N S.nl d e a.tmps){ops:Array Oper}{m:Nat}:∀{l:List (Nat×Oper×T)}{κ:List (Nat×Oper×T)->Bool},rchF D d (ops.toList.map (·.dst)) m e S l κ=true->κ (l.filter λp=>!m.testBit p.1)=true/\∀p∈l.filter (λp=>!m.testBit p.1),ops[p.1]?=some p.2.1->Yld P ops p.1 (tr N p.2.2) a w
 |[],κ,h=>⟨h,λ_ f=>by cases f⟩
 |q::l,κ,h=>by
  have h:(bif bitB m q.1 then rchF D d (ops.toList.map (·.dst)) m e S l κ else bif (kX d (ops.toList.map (·.dst)) e q.2.1.guard λs=>bif s then xst D e S q.2.1 (eqT q.2.2)else isT0 q.2.2)then rchF D d (ops.toList.map (·.dst)) m e S l (λr=>κ (q::r))else false)=true:=h;cases c:bitB m q.1 with
  |true=>
   rw[c,zWQ]at h;rw[zAw]at c;rw[zZA (by rw[c];simp)];exact zGq k b n i h
  |false=>
   rw[c,zWH]at h;rw[zAw]at c;obtain⟨t,u⟩:=zO h;obtain⟨v,y⟩:=zGq k b n i u;rw[zZB (by rw[c];simp)];refine⟨v,λp f o=>?_⟩;rcases zWB.1 f with rfl|f
   .have j:=zAs i t;refine⟨p.2.1,o,?_⟩;cases g:Region.wanted p.2.1 (yielded ops a.tmps)with
    |true=>
     rw[g,zWQ]at j;obtain⟨x,z,A,C⟩:=zLq k b n i j;exact .inl ⟨rfl,by rw[A,zLN z N]⟩
    |false=>
     rw[g,zWH]at j;exact .inr ⟨rfl,by rw[zVE j];rfl⟩
   .exact y p f o
theorem zFQ(M i:Nat):(λk=>(addB M i).testBit k=true)=λk=>M.testBit k=true\/k=i:=by
 funext k
 rw[kv];simp only[zXF,zWV,eq_iff_iff];exact⟨λh=>h.imp id Eq.symm,λh=>h.imp id Eq.symm⟩
def DQ(B:Bs)(b:Nat)(N0:NM)(S0:XS)(w0:World)(ds:List DE)(K:Tr T->XS->Bool):Exit->Act->World->Prop:=λex a' w'=>
 ex=.normal/\∃N' e' a,K e' a=true/\Sm B b N' e' a ds a' w'/\Stp B N0 S0 w0 N' a w'
end
end
section
open Go.RowKit
abbrev Fam:=(Nat->Prop)->Act->World->Prop
def zBO(I:Fam):Prop:=∀X a w ob,I X a w->I (λb=>X b\/b=w.heap.size) a (w.alloc ob)
def Fam.put(I:Fam)(d:Option Tmp)(v:Value):Fam:=λX a w=>∃b,a=b.put d v/\I X b w
theorem Fam.put_ok{I:Fam}(h:zBO I)(d:Option Tmp)(v:Value):zBO (I.put d v):=λX _ w ob ⟨b,e,q⟩=>⟨b,e,h X b w ob q⟩
section
variable{P:Program}{ops:Array Oper}{Q:Exit->Act->World->Prop}
def Alc(P:Program)(ops:Array Oper)(k:Nat)(mk:Nat->Value)(ob:Obj)(a:Act)(w:World):Prop:=
 ∃o,ops[k]?=some o/\Region.wanted o (yielded ops a.tmps)=true/\(execOp a.eval o).run P w=.ok (.value (mk w.heap.size)) (w.alloc ob)
theorem Alc.look{k:Nat}{mk:Nat->Value}{ob:Obj}{a a':Act}{w:World}(st:Static ops)(h:Alc P ops k mk ob a w)(c:∀o,ops[k]?=some o->LookEq ops o a a'):Alc P ops k mk ob a' w:=by
 obtain⟨o,b,d,e⟩:=h;refine⟨o,b,?_⟩;rw[zAb (c o b),zFv (st.nosel k o b).1 (c o b)];exact⟨d,e⟩
theorem Alc.wp{k:Nat}{mk:Nat->Value}{ob:Obj}{a:Act}{w:World}{fr:Option Nat}{n:Nat}{K:Act->World->Prop}(st:Static ops)(h:Alc P ops k mk ob a w)(c:K (a.put (yD ops k) (mk w.heap.size)) (w.alloc ob)):wpOpIn (fen fr) n P ops Q k K a w:=by
 obtain⟨o,b,d,e⟩:=h;have f:yD ops k=o.dst:=by simp[yD,b]
 rw[f]at c;unfold wpOpIn;simp only[b,d,zWE];refine⟨λ_ _=>trivial,?_⟩;rw[Oper.semAt_eq _ _ _ (st.nosel k o b).2,e];exact c
def zCl(ops:Array Oper)(i:Nat):Prop:=∀(k:Nat)(o:Oper)(t:Tmp),ops[k]?=some o->t∈o.looksAt ops->yD ops i=some t->Bef ops i k
def CanF(P:Program)(ops:Array Oper)(fr:Option Nat)(Q:Exit->Act->World->Prop):Nat->(Nat->Prop)->List (Nat×Value)->List (Nat×(Nat->Value)×Obj)->Fam->Prop
 |0,M,_,_,I=>(∀k,k<ops.size->M k)/\∀X a w,I X a w->Q .normal a w
 |f+1,M,pend,preps,I=>CanF P ops fr Q f M pend preps I\/((∀k,k<ops.size->M k)/\∀X a w,I X a w->Q .normal a w) \/
  (∃i,i<ops.size/\¬M i/\PreIn ops M i/\(∀q∈preps,q.1≠i) /\
   ((∃v,zCl ops i/\(∀X a w,I X a w->Yld P ops i v a w)/\CanF P ops fr Q f (λk=>M k\/k=i) ((i,v)::pend) preps (I.put (yD ops i) v)) \/
    (∃(mk:Nat->Value)(ob:Obj)(d:Fam),zCl ops i/\zBO d/\(∀X a w,I X a w->d X a w)/\(∀p∈pend,∀X a w,d X a w->Yld P ops p.1 p.2 a w)/\(∀q∈(i,mk,ob)::preps,∀X a w,d X a w->Alc P ops q.1 q.2.1 q.2.2 a w)/\CanF P ops fr Q f M pend ((i,mk,ob)::preps) d) \/
    ((∀k,k<ops.size->¬M k->(∀q∈preps,q.1≠k)->k≠i->Bef ops i k) /\
     ∀X a w,I X a w->wpOpIn (fen fr) 0 P ops Q i (λa1 w1=>∃(d:Fam)(e:List (Nat×Value)),(preps≠[]->zBO d)/\d X a1 w1/\(∀b,X b->w1.heap[b]?=w.heap[b]?) /\
      (∀p∈pend,Bef ops p.1 i\/(p∈e/\∀X a w,d X a w->Yld P ops p.1 p.2 a w))/\(∀q∈preps,∀X a w,d X a w->Alc P ops q.1 q.2.1 q.2.2 a w) /\
      CanF P ops fr Q f (λk=>M k\/k=i) e preps d) a w))) \/
  (∃i mk ob,(i,mk,ob)∈preps/\¬M i/\(∀k,k<ops.size->¬M k->(∀q∈preps,q.1≠k)->Bef ops i k) /\
   ∀X a w b,I X a w->X b->w.heap[b]?=some ob->∃d:Fam,((preps.filter λq=>q.1 != i)≠[]->zBO d)/\d (λc=>X c/\c≠b) (a.put (yD ops i) (mk b)) w /\
    (∀p∈pend,∀X a w,d X a w->Yld P ops p.1 p.2 a w)/\(∀q∈preps,q.1≠i->∀X a w,d X a w->Alc P ops q.1 q.2.1 q.2.2 a w) /\
    CanF P ops fr Q f (λk=>M k\/k=i) pend (preps.filter λq=>q.1 != i) d)
theorem CanF.mono{fr:Option Nat}:∀{f:Nat}{M:Nat->Prop}{pend:List (Nat×Value)}{preps:List (Nat×(Nat->Value)×Obj)}{I g:Fam},(∀X a w,g X a w->I X a w)->CanF P ops fr Q f M pend preps I->CanF P ops fr Q f M pend preps g
 |0,M,pend,preps,I,g,c,h=>⟨h.1,λX a w q=>h.2 X a w (c _ _ _ q)⟩
 |f+1,M,pend,preps,I,g,c,h=>by
  rcases h with h|h|⟨i,j,k,l,m,d⟩|⟨i,mk,ob,j,k,l,m⟩
  .exact .inl (CanF.mono c h)
  .exact .inr (.inl ⟨h.1,λX a w q=>h.2 X a w (c _ _ _ q)⟩)
  .refine .inr (.inr (.inl ⟨i,j,k,l,m,?_⟩));rcases d with⟨v,n,d,o⟩|⟨mk,ob,p,n,r,s,t⟩|⟨d,o⟩
   .refine .inl ⟨v,n,λX a w q=>d X a w (c _ _ _ q),CanF.mono ?_ o⟩;rintro X a w ⟨u,e,q⟩;exact⟨u,e,c _ _ _ q⟩
   .exact .inr (.inl ⟨mk,ob,p,n,r,λX a w q=>s X a w (c _ _ _ q),t⟩)
   .exact .inr (.inr ⟨d,λX a w q=>o X a w (c _ _ _ q)⟩)
  .exact .inr (.inr (.inr ⟨i,mk,ob,j,k,l,λX a w b q=>m X a w b (c _ _ _ q)⟩))
structure CanJ(P:Program)(ops:Array Oper)(M U:Nat->Prop)(E:Nat->Option Nat)(pend:List (Nat×Value))(preps:List (Nat×(Nat->Value)×Obj))(listed:Array Bool)(X:Nat->Prop)(a a':Act)(w:World)(I:Fam):Prop where
 mem:I X a w
 fok:preps≠[]->zBO I
 lst:∀k,k<ops.size->(listed.getD k true=true↔(M k/\¬U k)\/∃b,E k=some b)
 len:listed.size=ops.size
 clM:kJ ops M
 clL:kJ ops λk=>listed.getD k false=true
 sub:∀k,U k->M k/\k<ops.size
 size:a'.tmps.size=a.tmps.size
 df:a'.defers=a.defers
 agr:∀t,(∀k,U k->yD ops k≠some t)->(∀k b,E k=some b->yD ops k≠some t)->a'.tmps.getD t undef=a.tmps.getD t undef
 yld:∀k,U k->∃v,(k,v)∈pend/\(∀X a w,I X a w->Yld P ops k v a w)/\∀t,yD ops k=some t->t<a.tmps.size->a.tmps.getD t undef=v
 pre:∀q∈preps,q.1<ops.size/\¬M q.1/\PreIn ops M q.1
 dis:∀q∈preps,∀q'∈preps,q.1=q'.1->q=q'
 cln:∀k,U k->zCl ops k
 cle:∀q∈preps,zCl ops q.1
 alc:∀q∈preps,∀X a w,I X a w->Alc P ops q.1 q.2.1 q.2.2 a w
 ear:∀k b,E k=some b->∃mk ob,(k,mk,ob)∈preps/\X b/\w.heap[b]?=some ob/\∀t,yD ops k=some t->t<a.tmps.size->a'.tmps.getD t undef=mk b
 one:∀k k' b,E k=some b->E k'=some b->k=k'
section
variable{M U:Nat->Prop}{E:Nat->Option Nat}{pend:List (Nat×Value)}{preps:List (Nat×(Nat->Value)×Obj)}{listed:Array Bool}{X:Nat->Prop}{a a':Act}{w:World}{I:Fam}
theorem CanJ.eM(h:CanJ P ops M U E pend preps listed X a a' w I){k b:Nat}(c:E k=some b):k<ops.size/\¬M k/\PreIn ops M k:=by
 obtain⟨mk,ob,d,_⟩:=h.ear k b c;exact h.pre _ d
theorem CanJ.nU(h:CanJ P ops M U E pend preps listed X a a' w I){k:Nat}(c:U k):listed.getD k false=false:=by
 obtain⟨e,d⟩:=h.sub k c;rw[<-zES (by rw[h.len];exact d)];cases f:listed.getD k true with
 |false=>rfl
 |true=>
  rcases(h.lst k d).1 f with q|⟨b,q⟩
  .exact absurd c q.2
  .exact absurd e (h.eM q).2.1
theorem CanJ.look(h:CanJ P ops M U E pend preps listed X a a' w I){j:Nat}(g:PreIn ops (λk=>listed.getD k false=true) j)(i:PreIn ops M j):∀o,ops[j]?=some o->LookEq ops o a a':=λo d=>
 ⟨h.size,λt f=>h.agr t (λk c e=>by
  have:=(h.cln k c j o t d f e).pre h.clL g;rw[h.nU c]at this;cases this) (λk b c e=>(h.eM c).2.1 (by
   obtain⟨_,_,l,_⟩:=h.ear k b c;exact(h.cle _ l j o t d f e).pre h.clM i))⟩
theorem setL(d:kJ ops λk=>listed.getD k false=true){j:Nat}{l:Oper}(f:ops[j]?=some l)(g:j<listed.size)(h:∀b∈l.after,Region.binds .any b=true->listed.getD b.on false=true):kJ ops λk=>(listed.setIfInBounds j true).getD k false=true:=by
 intro k o c i b m n;rw[zFK g]at i ⊢;split at i
 .rename_i e;subst e;rw[f]at c;injection c with c;subst c
  split
  .rfl
  .exact h b m n
 .split
  .rfl
  .exact d k o c i b m n
theorem CanJ.runU(st:Static ops)(h:CanJ P ops M U E pend preps listed X a a' w I){j:Nat}{fr:Option Nat}{n:Nat}{K:Act->World->Prop}(y:U j)(l:kJ ops λk=>(listed.setIfInBounds j true).getD k false=true)(z:PreIn ops (λk=>listed.getD k false=true) j)
 (c:∀v,CanJ P ops M (λk=>U k/\k≠j) E pend preps (listed.setIfInBounds j true) X a (a'.put (yD ops j) v) w I->K (a'.put (yD ops j) v) w):wpOpIn (fen fr) n P ops Q j K a' w:=by
 obtain⟨m,p⟩:=h.sub j y;obtain⟨v,O,A,B⟩:=h.yld j y;have r:j<listed.size:=by rw[h.len];exact p
 have s:PreIn ops M j:=λo C D g F=>h.clM j o C m D g F;refine((A _ _ _ h.mem).look st (h.look z s)).wp st (c v ⟨h.mem,h.fok,λk c=>?_,by simp[h.len],h.clM,l,λk c=>h.sub k c.1,by rw[xg];exact h.size,by rw[zEc];exact h.df,λt G u=>?_,λk c=>h.yld k c.1,h.pre,h.dis,λk c=>h.cln k c.1,h.cle,h.alc,λk b d=>?_,h.one⟩)
 .rw[zFK r];split
  .rename_i e;subst e;exact⟨λ_=>.inl ⟨m,λe=>e.2 rfl⟩,λ_=>rfl⟩
  .rename_i e;rw[h.lst k c];exact⟨λq=>q.imp (λq=>⟨q.1,λe'=>q.2 e'.1⟩) id,λq=>q.imp (λq=>⟨q.1,λe'=>q.2 ⟨e',e⟩⟩) id⟩
 .rw[xO];split
  .rename_i e;exact(B t e.1 (by rw[<-h.size];exact e.2)).symm
  .rename_i e;by_cases g:yD ops j=some t
   .have i:¬t<a'.tmps.size:=λq=>e ⟨g,q⟩;have x:¬t<a.tmps.size:=by rw[<-h.size];exact i
    simp[zWS,i,x]
   .exact h.agr t (λk c e'=>by
     by_cases f:k=j
     .subst f;exact g e'
     .exact G k ⟨c,f⟩ e') u
 .obtain⟨mk,ob,H,J,L,N⟩:=h.ear k b d;refine⟨mk,ob,H,J,L,λt e i=>?_⟩;rw[xO,if_neg]
  .exact N t e i
  .rintro⟨e',_⟩;have:=st.nodup _ _ _ e e';exact(h.eM d).2.1 (this▸m)
theorem CanJ.runE(st:Static ops)(h:CanJ P ops M U E pend preps listed X a a' w I){j:Nat}{fr:Option Nat}{n:Nat}{K:Act->World->Prop}{mk:Nat->Value}{ob:Obj}(m:(j,mk,ob)∈preps)(F:E j=none)(o:kJ ops λk=>(listed.setIfInBounds j true).getD k false=true)(B:PreIn ops (λk=>listed.getD k false=true) j)
 (c:CanJ P ops M U (λk=>if k=j then some w.heap.size else E k) pend preps (listed.setIfInBounds j true) (λb=>X b\/b=w.heap.size) a (a'.put (yD ops j) (mk w.heap.size)) (w.alloc ob) I->K (a'.put (yD ops j) (mk w.heap.size)) (w.alloc ob)):wpOpIn (fen fr) n P ops Q j K a' w:=by
 obtain⟨p,G,r⟩:=h.pre _ m;have s:j<listed.size:=by rw[h.len];exact p
 have g:∀{b ob'},w.heap[b]?=some ob'->(w.alloc ob).heap[b]?=some ob':=λ{b ob'} q=>by
  have y:=(zV8.1 q).1;show(w.heap.push ob)[b]?=_;rw[Array.getElem?_push_lt y,<-q,zWw y]
 have i:(w.alloc ob).heap[w.heap.size]?=some ob:=by
  show(w.heap.push ob)[w.heap.size]?=_;simp
 refine((h.alc _ m _ _ _ h.mem).look st (h.look B r)).wp st (c ⟨h.fok (List.ne_nil_of_mem m) _ _ _ ob h.mem,h.fok,λk c=>?_,by simp[h.len],h.clM,o,h.sub,by rw[xg];exact h.size,by rw[zEc];exact h.df,λt C l=>?_,h.yld,h.pre,h.dis,h.cln,h.cle,h.alc,λk b c=>?_,λk z b d f=>?_⟩)
 .rw[zFK s];by_cases e:k=j
  .subst e;simp
  .simp only[e,zWA];exact h.lst k c
 .rw[xO,if_neg]
  .refine h.agr t C λk b c=>l k (if k=j then w.heap.size else b) ?_;by_cases e:k=j
   .simp[e]
   .simp[e,c]
  .rintro⟨e,_⟩;exact l j w.heap.size (by simp) e
 .by_cases e:k=j
  .subst e;simp only[zWE,zXo]at c;subst c;refine⟨mk,ob,m,.inr rfl,i,λt e u=>?_⟩;rw[xO,if_pos ⟨e,by rw[h.size];exact u⟩]
  .simp only[e,zWA]at c;obtain⟨v,ob',d,f,x,D⟩:=h.ear k b c;refine⟨v,ob',d,.inl f,g x,λt A u=>?_⟩;rw[xO,if_neg]
   .exact D t A u
   .rintro⟨e',_⟩;exact e (st.nodup _ _ _ A e')
 .have lt:∀{k},E k=some w.heap.size->False:=λ{k} q=>by
   obtain⟨_,_,_,_,x,_⟩:=h.ear k _ q;have:=(zV8.1 x).1;omega
  by_cases e:k=j<;>by_cases e':z=j
  .rw[e,e']
  .simp only[e,e',zWE,zWA,zXo]at d f;subst d;exact(lt f).elim
  .simp only[e,e',zWE,zWA,zXo]at d f;subst f;exact(lt d).elim
  .simp only[e,e',zWA]at d f;exact h.one k z b d f
theorem zJQ(g:kJ ops M){i:Nat}(h:PreIn ops M i):kJ ops λk=>M k\/k=i:=by
 intro k o c b d e f;rcases b with b|rfl
 .exact .inl (g k o c b d e f)
 .exact .inl (h o c d e f)
theorem zJx{i j:Nat}(b:PreIn ops M j):PreIn ops (λk=>M k\/k=i) j:=λo c d e f=>.inl (b o c d e f)
theorem PreIn.closed{i:Nat}(b:kJ ops M)(c:M i):PreIn ops M i:=λo d e f g=>b i o d c e f g
theorem CanJ.still(st:Static ops)(h:CanJ P ops M U E pend preps listed X a a' w I){i:Nat}{v:Value}(F:i<ops.size)(l:¬M i)(B:PreIn ops M i)(C:∀q∈preps,q.1≠i)(D:zCl ops i)(G:∀X a w,I X a w->Yld P ops i v a w) :
 CanJ P ops (λk=>M k\/k=i) (λk=>U k\/k=i) E ((i,v)::pend) preps listed X (a.put (yD ops i) v) a' w (I.put (yD ops i) v):=by
 have x:¬U i:=λq=>l (h.sub i q).1;have H:∀b,E i≠some b:=λb q=>by
  obtain⟨_,_,d,_⟩:=h.ear i b q;exact C _ d rfl
 have lk:∀{k:Nat}(a:Act)(o:Oper),ops[k]?=some o->¬Bef ops i k->LookEq ops o a (a.put (yD ops i) v):=λ{k} a o g y=>⟨xg,λt s=>by
  rw[xO,if_neg];rintro⟨e,_⟩;exact y (D k o t g s e)⟩
 refine⟨⟨a,rfl,h.mem⟩,λy=>Fam.put_ok (h.fok y) _ _,λk c=>?_,h.len,zJQ h.clM B,h.clL,λk c=>?_,by rw[xg];exact h.size,by rw[zEc];exact h.df,λt s z=>?_,λk c=>?_,λq j=>⟨(h.pre q j).1,λe=>e.elim (h.pre q j).2.1 (C q j),zJx (h.pre q j).2.2⟩,h.dis,λk c=>c.elim (h.cln k) (λe=>e▸D),h.cle,λq j=>?_,λk b c=>?_,h.one⟩
 .rw[h.lst k c];constructor
  .rintro(⟨d,f⟩|q)
   .exact .inl ⟨.inl d,λq=>q.elim f λe=>l (e▸d)⟩
   .exact .inr q
  .rintro(⟨d,f⟩|q)
   .exact .inl ⟨d.resolve_right λe=>f (.inr e),λq=>f (.inl q)⟩
   .exact .inr q
 .rcases c with c|rfl
  .exact⟨.inl (h.sub k c).1,(h.sub k c).2⟩
  .exact⟨.inr rfl,F⟩
 .rw[xO,if_neg (λe=>s i (.inr rfl) e.1)];exact h.agr t (λk c=>s k (.inl c)) z
 .rcases c with c|rfl
  .obtain⟨u,d,f,A⟩:=h.yld k c;refine⟨u,zWU _ d,?_,λt e m=>?_⟩
   .rintro X _ w ⟨n,rfl,p⟩;exact(f _ _ _ p).look st λo g=>lk n o g λr=>l (r.closed h.clM (h.sub k c).1)
   .rw[xO,if_neg]
    .exact A t e (by rwa [xg]at m)
    .rintro⟨e',_⟩;have:=st.nodup _ _ _ e e';subst this;exact x c
  .refine⟨v,zWr ..,?_,λt e m=>?_⟩
   .rintro X _ w ⟨n,rfl,p⟩;exact(G _ _ _ p).look st λo g=>lk n o g λr=>l (r.pre h.clM B)
   .rw[xO,if_pos ⟨e,by rwa [xg]at m⟩]
 .rintro X _ w ⟨n,rfl,p⟩;exact(h.alc q j _ _ _ p).look st λo g=>lk n o g λr=>l (r.pre h.clM (h.pre q j).2.2)
 .obtain⟨mk,ob,d,f,A,J⟩:=h.ear k b c;exact⟨mk,ob,d,f,A,λt e m=>J t e (by rwa [xg]at m)⟩
theorem CanJ.prep(h:CanJ P ops M U E pend preps listed X a a' w I){i:Nat}{mk:Nat->Value}{ob:Obj}(r:i<ops.size)(s:¬M i)(t:PreIn ops M i)(n:∀q∈preps,q.1≠i)(u:zCl ops i){f:Fam}(j:zBO f)(x:∀X a w,I X a w->f X a w)
 (y:∀p∈pend,∀X a w,f X a w->Yld P ops p.1 p.2 a w) (c:∀q∈(i,mk,ob)::preps,∀X a w,f X a w->Alc P ops q.1 q.2.1 q.2.2 a w) :
 CanJ P ops M U E pend ((i,mk,ob)::preps) listed X a a' w f where
 mem:=x _ _ _ h.mem
 fok:=λ_=>j
 lst:=h.lst
 len:=h.len
 clM:=h.clM
 clL:=h.clL
 sub:=h.sub
 size:=h.size
 df:=h.df
 agr:=h.agr
 yld:=λk l=>by
  obtain⟨v,g,_,z⟩:=h.yld k l;exact⟨v,g,y _ g,z⟩
 pre:=λq c=>by
  rcases zWB.1 c with rfl|c
  .exact⟨r,s,t⟩
  .exact h.pre q c
 dis:=λq c o d e=>by
  rcases zWB.1 c with rfl|c<;>rcases zWB.1 d with rfl|d
  .rfl
  .exact absurd e.symm (n o d)
  .exact absurd e (n q c)
  .exact h.dis q c o d e
 cln:=h.cln
 cle:=λq c=>by
  rcases zWB.1 c with rfl|c
  .exact u
  .exact h.cle q c
 alc:=c
 ear:=λk b l=>by
  obtain⟨m,ob',g,q⟩:=h.ear k b l;exact⟨m,ob',zWU _ g,q⟩
 one:=h.one
theorem CanJ.commit(st:Static ops)(h:CanJ P ops M U E pend preps listed X a a' w I){i b:Nat}{mk:Nat->Value}{ob:Obj}(hi:(i,mk,ob)∈preps)(x:E i=some b){o:Fam}(y:(preps.filter λq=>q.1 != i)≠[]->zBO o)(r:o (λc=>X c/\c≠b) (a.put (yD ops i) (mk b)) w)
 (K:∀p∈pend,∀X a w,o X a w->Yld P ops p.1 p.2 a w) (m:∀q∈preps,q.1≠i->∀X a w,o X a w->Alc P ops q.1 q.2.1 q.2.2 a w) :
 CanJ P ops (λk=>M k\/k=i) U (λk=>if k=i then none else E k) pend (preps.filter λq=>q.1 != i) listed (λc=>X c/\c≠b) (a.put (yD ops i) (mk b)) a' w o:=by
 obtain⟨h1,L,N⟩:=h.eM x;have s:¬U i:=λq=>L (h.sub i q).1;have f:∀{q},q∈preps.filter (λq=>q.1 != i)->q∈preps/\q.1≠i:=λ{q} m=>by
  obtain⟨j,l⟩:=zXP.1 m;exact⟨j,by simpa using l⟩
 obtain⟨z,O,A,e2,e3,R⟩:=h.ear i b x;have B:z=mk:=by
  have:=h.dis _ A _ hi rfl;injection this with _ this;injection this
 subst B;refine⟨r,y,λk d=>?_,h.len,zJQ h.clM N,h.clL,λk d=>⟨.inl (h.sub k d).1,(h.sub k d).2⟩,by rw[xg];exact h.size,by rw[zEc];exact h.df,λt S C=>?_,λk d=>?_,λq m=>?_,λq m T g=>h.dis q (f m).1 T (f g).1,h.cln,λq g=>h.cle q (f g).1,λq g=>m q (f g).1 (f g).2,λk c d=>?_,λk H c j l=>?_⟩
 .rw[h.lst k d];by_cases e:k=i
  .subst e;exact⟨λ_=>.inl ⟨.inr rfl,s⟩,λ_=>.inr ⟨b,x⟩⟩
  .simp only[e,zXc,zWA]
 .rw[xO];split
  .rename_i e;exact R t e.1 e.2
  .rename_i e;by_cases J:yD ops i=some t
   .have n:¬t<a.tmps.size:=λq=>e ⟨J,q⟩;have D:¬t<a'.tmps.size:=by rw[h.size];exact n
    simp[zWS,n,D]
   .exact h.agr t S λk c d e'=>by
     by_cases v:k=i
     .subst v;exact J e'
     .exact C k c (by simp[v,d]) e'
 .obtain⟨u,j,l,F⟩:=h.yld k d;refine⟨u,j,K _ j,λt e n=>?_⟩;rw[xO,if_neg]
  .exact F t e (by rwa [xg]at n)
  .rintro⟨e',_⟩;have:=st.nodup _ _ _ e e';subst this;exact s d
 .obtain⟨j,l⟩:=f m;obtain⟨V,W,Y⟩:=h.pre q j;exact⟨V,λe=>e.elim W l,zJx Y⟩
 .by_cases e:k=i
  .simp[e]at d
  .simp only[e,zWA]at d;obtain⟨G,ob',j,l,F,Z⟩:=h.ear k c d;refine⟨G,ob',zXP.2 ⟨j,by simpa using e⟩,⟨l,λec=>?_⟩,F,λt A n=>Z t A (by rwa [xg]at n)⟩;subst ec;exact e (h.one k i _ d x)
 .by_cases e:k=i
  .simp[e]at j
  .by_cases e':H=i
   .simp[e']at l
   .simp only[e,e',zWA]at j l;exact h.one k H c j l
theorem CanJ.eff(st:Static ops)(h:CanJ P ops M U E pend preps listed X a a' w I){i:Nat}{w1:World}{v:Value}{ds:List Deferred}{f:Fam}{c:List (Nat×Value)}(D:i<ops.size)(F:¬M i)(G:PreIn ops M i)(C:∀q∈preps,q.1≠i)(o:kJ ops λk=>(listed.setIfInBounds i true).getD k false=true)(H:PreIn ops (λk=>listed.getD k false=true) i)
 (r:preps≠[]->zBO f) (g:f X (Act.put { a with defers:=ds++a.defers } (yD ops i) v) w1) (j:∀b,X b->w1.heap[b]?=w.heap[b]?)
 (J:∀p∈pend,Bef ops p.1 i\/(p∈c/\∀X a w,f X a w->Yld P ops p.1 p.2 a w)) (m:∀q∈preps,∀X a w,f X a w->Alc P ops q.1 q.2.1 q.2.2 a w) :
 CanJ P ops (λk=>M k\/k=i) U E c preps (listed.setIfInBounds i true) X (Act.put { a with defers:=ds++a.defers } (yD ops i) v) (Act.put { a' with defers:=ds++a'.defers } (yD ops i) v) w1 f:=by
 have s:i<listed.size:=by rw[h.len];exact D
 have l:¬U i:=λq=>F (h.sub i q).1;refine⟨g,r,λk d=>?_,by simp[h.len],zJQ h.clM G,o,λk d=>⟨.inl (h.sub k d).1,(h.sub k d).2⟩,by rw[xg,xg];exact h.size,by rw[zEc,zEc];simp[h.df],λt K x=>?_,λk d=>?_,λq m=>?_,h.dis,h.cln,h.cle,m,λk b d=>?_,h.one⟩
 .rw[zFK s];split
  .rename_i e;subst e;exact⟨λ_=>.inl ⟨.inr rfl,l⟩,λ_=>rfl⟩
  .rename_i e;rw[h.lst k d];exact⟨λq=>q.imp (λq=>⟨.inl q.1,q.2⟩) id,λq=>q.imp (λq=>⟨q.1.resolve_right e,q.2⟩) id⟩
 .rw[xO,xO];simp only[h.size];split
  .rfl
  .exact h.agr t K x
 .obtain⟨u,n,y,z⟩:=h.yld k d;obtain⟨A,L⟩:=(J _ n).resolve_left λN=>by
   have:=N.pre h.clL H;rw[h.nU d]at this;cases this
  refine⟨u,A,L,λt e B=>?_⟩
  .rw[xO,if_neg]
   .exact z t e (by rwa [xg]at B)
   .rintro⟨e',_⟩;have:=st.nodup _ _ _ e e';subst this;exact l d
 .obtain⟨O,R,S⟩:=h.pre q m;exact⟨O,λe=>e.elim R (C q m),zJx S⟩
 .obtain⟨mk,ob,n,y,z,A⟩:=h.ear k b d;refine⟨mk,ob,n,y,(j b y).trans z,λt e B=>?_⟩;rw[xO,if_neg]
  .exact A t e (by rwa [xg]at B)
  .rintro⟨e',_⟩;have:=st.nodup _ _ _ e e';subst this;exact C _ n rfl
end
theorem zM9(st:Static ops){fr:Option Nat}:∀{f:Nat}{M U:Nat->Prop}{E:Nat->Option Nat}{pend:List (Nat×Value)}{preps:List (Nat×(Nat->Value)×Obj)}{listed:Array Bool}{X:Nat->Prop}{a a':Act}{w:World}{I:Fam},
 CanJ P ops M U E pend preps listed X a a' w I->(∀k,k<ops.size->listed.getD k true=true)->CanF P ops fr Q f M pend preps I->Q .normal a' w:=by
 have j:∀{M U:Nat->Prop}{E:Nat->Option Nat}{pend:List (Nat×Value)}{preps:List (Nat×(Nat->Value)×Obj)}{listed:Array Bool}{X:Nat->Prop}{a a':Act}{w:World}{I:Fam},
  CanJ P ops M U E pend preps listed X a a' w I->(∀k,k<ops.size->listed.getD k true=true)->(∀k,k<ops.size->M k)->(∀X a w,I X a w->Q .normal a w)->Q .normal a' w:=λ{M U E pend preps listed X a a' w I} hi c o h=>by
  have p:∀k,¬U k:=λk d=>by
   have:=hi.nU d;rw[<-zES (by rw[hi.len];exact(hi.sub k d).2),c k (hi.sub k d).2]at this;cases this
  have r:∀k b,E k≠some b:=λk b d=>(hi.eM d).2.1 (o k (hi.eM d).1);have:a'=a:=zOG hi.size hi.df λt=>hi.agr t (λk d=>absurd d (p k)) (λk b d=>absurd d (r k b));rw[this];exact h _ _ _ hi.mem
 intro f
 induction f with
 |zero=>intro M U E pend preps listed X a a' w I hi c h;exact j hi c h.1 h.2
 |succ f m=>
  intro M U E pend preps listed X a a' w I hi c h;rcases h with h|h|⟨i,g,l,_,s,_⟩|⟨i,mk,ob,g,l,_,u⟩
  .exact m hi c h
  .exact j hi c h.1 h.2
  .rcases(hi.lst i g).1 (c i g)with q|⟨b,q⟩
   .exact absurd q.1 l
   .obtain⟨_,_,v,_⟩:=hi.ear i b q;exact absurd rfl (s _ v)
  .have n:=(hi.pre _ g).1;rcases(hi.lst i n).1 (c i n)with q|⟨b,q⟩
   .exact absurd q.1 l
   .obtain⟨x,y,z,A,B,_⟩:=hi.ear i b q;have e:=hi.dis _ z _ g rfl;injection e with _ e;injection e with C D
    subst C;subst D;obtain⟨L,F,G,H,J,K⟩:=u _ _ _ b hi.mem A B;exact m (hi.commit st g q F G H J) c K
theorem zOu(st:Static ops)(hQ:∀c a w,¬Q (.panic c) a w)(hL:¬LetsOut Q){fr:Option Nat}:∀(g f:Nat)(M U:Nat->Prop)(E:Nat->Option Nat)(pend:List (Nat×Value))(preps:List (Nat×(Nat->Value)×Obj))(listed:Array Bool)(X:Nat->Prop)(a a':Act)(w:World)(I:Fam),(zFO ops listed).length<=g ->
 CanJ P ops M U E pend preps listed X a a' w I->CanF P ops fr Q f M pend preps I->wpAnyIn (fen fr) 0 P .any ops Q g listed a' w
 |0,f,M,U,E,pend,preps,listed,X,a,a',w,I,hg,hi,h=>by
  have L:zFO ops listed=[]:=zXa (by omega);have z:∀k,k<ops.size->listed.getD k true=true:=λk hk=>by
   cases hl:listed.getD k true with
   |true=>rfl
   |false=>
    have:k∈zFO ops listed:=zXP.2 ⟨zYO.2 hk,by rw[hl];rfl⟩;rw[L]at this;cases this
  refine⟨?_,zM9 st hi z h⟩;cases hr:Region.ready .any ops listed with
  |nil=>rfl
  |cons j r=>
   have hj:j∈Region.ready .any ops listed:=by rw[hr];simp
   obtain⟨n,o,A,_⟩:=mem_ready.1 hj;rw[z j (zV8.1 A).1]at n;cases n
 |g+1,f,M,U,E,pend,preps,listed,X,a,a',w,I,hg,hi,h=>by
  refine⟨λhr=>zM9 st hi (zRw st hi.len hr) h,λj hj=>?_⟩;have ih:=zOu st hQ hL (fr:=fr) g;obtain⟨s,oj,B,N⟩:=mem_ready.1 hj;have l:j<ops.size:=(zV8.1 B).1;have aa:j<listed.size:=by rw[hi.len];exact l
  have t:(zFO ops (listed.setIfInBounds j true)).length<=g:=by have:=zQQ l s;omega
  have m:=setL hi.clL B aa N;have d:PreIn ops (λk=>listed.getD k false=true) j:=λo A ed he C=>by
   rw[B]at A;injection A with A;subst A;exact N ed he C
  have ab:∀{E:Nat->Option Nat}{M U:Nat->Prop},(listed.getD j true=true↔(M j/\¬U j)\/∃b,E j=some b)->E j=none:=λ{E M U} hl=>by
   cases he:E j with
   |none=>rfl
   |some b=>have:=hl.2 (.inr ⟨b,he⟩);rw[s]at this;cases this
  clear hg
  induction f generalizing M U E pend preps X a I with
  |zero=>
   have hM:=h.1 j l;have u:U j:=zY2 λhn=>by
    have:=(hi.lst j l).2 (.inl ⟨hM,hn⟩);rw[s]at this;cases this
   exact hi.runU st u m d λv p=>ih 0 M _ E pend preps _ X a _ w I t p h
  |succ f x=>
   by_cases u:U j
   .exact hi.runU st u m d λv p=>ih (f+1) M _ E pend preps _ X a _ w I t p h
   by_cases y:∃mk ob,(j,mk,ob)∈preps
   .obtain⟨mk,ob,y⟩:=y;exact hi.runE st y (ab (hi.lst j l)) m d λp=>ih (f+1) M U _ pend preps _ _ a _ _ I t p h
   have D:¬M j:=λq=>by
    have:=(hi.lst j l).2 (.inl ⟨q,u⟩);rw[s]at this;cases this
   have O:∀q∈preps,q.1≠j:=λq hq e=>y ⟨q.2.1,q.2.2,by rw[<-e];exact hq⟩;rcases h with h|h|⟨i,n,H,J,K,R⟩|⟨i,mk,ob,n,H,J,K⟩
   .exact x M U E pend preps X a I hi h
   .exact absurd (h.1 j l) D
   .rcases R with⟨v,hc,R,h6⟩|⟨mk,ob,S,hc,T,V,W,Y,Z⟩|⟨R,h6⟩
    .exact x _ _ E _ preps X _ _ (hi.still st n H J K hc R) h6
    .exact x M U E pend _ X a S (hi.prep n H J K hc T V W Y) Z
    .have ac:j=i:=zY2 λad=>by
      have C:=(R j l D O ad).pre hi.clL d;rw[<-zES (by rw[hi.len];exact n)]at C;rcases(hi.lst i n).1 C with q|⟨b,q⟩
      .exact H q.1
      .obtain⟨_,_,q1,_⟩:=hi.ear i b q;exact K _ q1 rfl
     subst ac;refine wpOpIn_mono ?_ (zQo st hQ hL l (hi.look d J) (h6 _ _ _ hi.mem));rintro a1 w1 ⟨v,ds,⟨S,F,T,V,W,Y,Z,k6⟩,rfl⟩;exact ih f _ U E F preps _ X _ _ w1 S t (hi.eff st n H J K m d T V W Y Z) k6
   .obtain⟨hs,_,_⟩:=hi.pre _ n;have C:=(J j l D O).pre hi.clL d;rw[<-zES (by rw[hi.len];exact hs)]at C;rcases(hi.lst i hs).1 C with q|⟨b,q⟩
    .exact absurd q.1 H
    .obtain⟨ae,af,e1,e2,e3,_⟩:=hi.ear i b q;have G:=hi.dis _ e1 _ n rfl;injection G with _ G;injection G with hm A
     subst hm;subst A;obtain⟨S,T,V,W,Y,Z⟩:=K _ _ _ b hi.mem e2 e3;exact x _ U _ pend _ _ _ S (hi.commit st n q T V W Y) Z
theorem zIy{id:Nat}{a:Act}{w:World}{fr:Option Nat}(e:P.follows .mixedOrders=true)(st:Static ops)(g:∀c a w,¬Q (.panic c) a w)(i:¬LetsOut Q){f:Nat}{I:Fam}(j:I (λ_=>False) a { w with drawn:=w.drawn+1 })(h:CanF P ops fr Q f (λ_=>False) [] [] I):(Code.region id ops true).wpIn (fen fr) 0 P Q a w:=by
 refine wpIn_region_any e (zOu st g i _ f (λ_=>False) (λ_=>False) (λ_=>none) [] [] _ (λ_=>False) a a _ I ?_ ⟨j,λq=>absurd rfl q,λk b=>?_,by simp,λ_ _ _ b=>b.elim,λk o l b=>?_,λ_ b=>b.elim,rfl,rfl,λ_ _ _=>rfl,λ_ b=>b.elim,λ_ d=>(by cases d),λ_ d=>(by cases d),λ_ b=>b.elim,λ_ d=>(by cases d),λ_ d=>(by cases d),λ_ _ b=>(by cases b),λ_ _ _ b=>(by cases b)⟩ h)
 .exact zWv (zZM _ _) (by simp)
 .simp[b]
 .dsimp only at b;rw[Array.getD_eq_getD_getElem?,Array.getElem?_replicate]at b;split at b<;>simp at b
end
end
end Go.Cx
