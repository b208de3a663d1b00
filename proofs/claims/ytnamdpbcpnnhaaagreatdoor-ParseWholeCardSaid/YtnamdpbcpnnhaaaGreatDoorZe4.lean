/-
  Part 4 of what the last text needs: library, runs, contracts, plain laws. No condition of its own.
-/
import Derived.Test.YtnamdpbcpnnhaaaGreatDoorZe3
import Derived.Test.YtnamdpbcpnnhaaaGreatDoorRows
section
set_option linter.unusedVariables false
set_option linter.unusedSimpArgs false
namespace Go.Proofs.YtnamdpbcpnnhaaaGreatDoor
open Go.Al
theorem zF3:hasT Tryz.prog 3=true:=by kernel_rfl
theorem zGN:xM Tryz.prog 3=false:=by kernel_rfl
theorem zEF:Tryz.prog.cellsOf 3=1:=by kernel_rfl
theorem zHv:hasT Tryz.prog 4=true:=by kernel_rfl
theorem aggT4:xM Tryz.prog 4=false:=by kernel_rfl
theorem zGF:Tryz.prog.cellsOf 4=1:=by kernel_rfl
theorem zLO:hasT Tryz.prog 9=true:=by kernel_rfl
theorem zLv:xM Tryz.prog 9=false:=by kernel_rfl
theorem zIZ:Tryz.prog.cellsOf 9=1:=by kernel_rfl
theorem strT9:kF Tryz.prog 9=true:=by kernel_rfl
theorem hasT24:hasT Tryz.prog 24=true:=by kernel_rfl
theorem aggT24:xM Tryz.prog 24=false:=by kernel_rfl
theorem zQt:Tryz.prog.cellsOf 24=1:=by kernel_rfl
theorem elT24:elT Tryz.prog 24=some 26:=by kernel_rfl
theorem hasT26:hasT Tryz.prog 26=true:=by kernel_rfl
theorem zPl:Tryz.prog.cellsOf 26=6:=by kernel_rfl
theorem zPu:fieldAt Tryz.prog 26 1=some (1,9):=by kernel_rfl
theorem zEK:hasT Tryz.prog 27=true:=by kernel_rfl
theorem zIj:xM Tryz.prog 27=false:=by kernel_rfl
theorem zCg:Tryz.prog.cellsOf 27=1:=by kernel_rfl
theorem elT27:elT Tryz.prog 27=some 29:=by kernel_rfl
theorem zDy:hasT Tryz.prog 29=true:=by kernel_rfl
theorem zEL:xM Tryz.prog 29=true:=by kernel_rfl
theorem zBg:Tryz.prog.cellsOf 29=3:=by kernel_rfl
theorem zKS:Tryz.prog.bytesOf 29=40:=by kernel_rfl
theorem zKf:fieldAt Tryz.prog 29 0=some (0,3):=by kernel_rfl
theorem zJJ:yb Tryz.prog 29=some [.at (.int .i64 0),.at (.int .i64 0),.lst .nil []]:=by kernel_rfl
theorem hasT30:hasT Tryz.prog 30=true:=by kernel_rfl
theorem aggT30:xM Tryz.prog 30=false:=by kernel_rfl
theorem zP6:Tryz.prog.cellsOf 30=1:=by kernel_rfl
theorem zMz:zBN Tryz.prog 61=true:=by kernel_rfl
theorem zero61:yb Tryz.prog 61=some []:=by kernel_rfl
theorem hasT62:hasT Tryz.prog 62=true:=by kernel_rfl
theorem aggT62:xM Tryz.prog 62=false:=by kernel_rfl
theorem zQV:Tryz.prog.cellsOf 62=1:=by kernel_rfl
theorem zBm:hasT Tryz.prog 63=true:=by kernel_rfl
theorem zJU:xM Tryz.prog 63=false:=by kernel_rfl
theorem zAN:Tryz.prog.cellsOf 63=1:=by kernel_rfl
theorem zQf:Tryz.prog.bytesOf 63=8:=by kernel_rfl
theorem zero63:yb Tryz.prog 63=some [.at (.map none)]:=by kernel_rfl
theorem zCn:hasT Tryz.prog 64=true:=by kernel_rfl
theorem zD3:xM Tryz.prog 64=false:=by kernel_rfl
theorem zBe:Tryz.prog.cellsOf 64=1:=by kernel_rfl
theorem zGC:elT Tryz.prog 64=some 63:=by kernel_rfl
theorem zPk:fieldAt Tryz.prog 66 0=some (0,24):=by kernel_rfl
theorem zQX:fieldAt Tryz.prog 66 1=some (1,3):=by kernel_rfl
theorem zCz:fieldAt Tryz.prog 66 2=some (2,64):=by kernel_rfl
theorem zPp:fieldAt Tryz.prog 68 0=some (0,27):=by kernel_rfl
theorem zIK:fieldAt Tryz.prog 104 0=some (0,9):=by kernel_rfl
theorem zJi:fieldAt Tryz.prog 104 1=some (1,3):=by kernel_rfl
theorem code14:zQ Tryz.prog 14=true:=by kernel_rfl
theorem zN6:zQ Tryz.prog 15=true:=by kernel_rfl
theorem zH8:zQ Tryz.prog 17=true:=by kernel_rfl
theorem zJb:zQ Tryz.prog 18=true:=by kernel_rfl
theorem code23:zQ Tryz.prog 23=true:=by kernel_rfl
theorem code31:zQ Tryz.prog 31=true:=by kernel_rfl
theorem code32:zQ Tryz.prog 32=true:=by kernel_rfl
theorem zFu:zQ Tryz.prog 33=true:=by kernel_rfl
theorem zJG:zQ Tryz.prog 37=true:=by kernel_rfl
theorem xB:zQ Tryz.prog 38=true:=by kernel_rfl
theorem code39:zQ Tryz.prog 39=true:=by kernel_rfl
theorem code41:zQ Tryz.prog 41=true:=by kernel_rfl
theorem code42:zQ Tryz.prog 42=true:=by kernel_rfl
theorem zNR:zQ Tryz.prog 50=true:=by kernel_rfl
theorem zFd:zQ Tryz.prog 53=true:=by kernel_rfl
theorem xG:zQ Tryz.prog 54=true:=by kernel_rfl
theorem code55:zQ Tryz.prog 55=true:=by kernel_rfl
theorem zF6:zQ Tryz.prog 56=true:=by kernel_rfl
theorem zMY:zQ Tryz.prog 57=true:=by kernel_rfl
theorem zFc:zQ Tryz.prog 58=true:=by kernel_rfl
theorem zFl:zQ Tryz.prog 59=true:=by kernel_rfl
theorem zMg:zQ Tryz.prog 60=true:=by kernel_rfl
theorem zFf:zQ Tryz.prog 61=true:=by kernel_rfl
theorem code62:zQ Tryz.prog 62=true:=by kernel_rfl
theorem code63:zQ Tryz.prog 63=true:=by kernel_rfl
theorem code64:zQ Tryz.prog 64=true:=by kernel_rfl
theorem code65:zQ Tryz.prog 65=true:=by kernel_rfl
theorem zAS:zQ Tryz.prog 72=true:=by kernel_rfl
theorem yu:zQ Tryz.prog 73=true:=by kernel_rfl
theorem code74:zQ Tryz.prog 74=true:=by kernel_rfl
theorem code75:zQ Tryz.prog 75=true:=by kernel_rfl
theorem zJe:zQ Tryz.prog 76=true:=by kernel_rfl
theorem zBw:zQ Tryz.prog 77=true:=by kernel_rfl
theorem x8:zQ Tryz.prog 78=true:=by kernel_rfl
theorem zMo:zQ Tryz.prog 79=true:=by kernel_rfl
theorem zGV:zQ Tryz.prog 80=true:=by kernel_rfl
theorem zNU:zQ Tryz.prog 81=true:=by kernel_rfl
theorem zNo:zQ Tryz.prog 82=true:=by kernel_rfl
theorem zMl:zQ Tryz.prog 83=true:=by kernel_rfl
theorem zGD:zQ Tryz.prog 84=true:=by kernel_rfl
theorem zBl:zQ Tryz.prog 85=true:=by kernel_rfl
theorem zIu:zQ Tryz.prog 86=true:=by kernel_rfl
theorem zGW:zQ Tryz.prog 88=true:=by kernel_rfl
theorem zIp:zQ Tryz.prog 89=true:=by kernel_rfl
theorem zNz:zQ Tryz.prog 90=true:=by kernel_rfl
theorem code92:zQ Tryz.prog 92=true:=by kernel_rfl
theorem code93:zQ Tryz.prog 93=true:=by kernel_rfl
theorem code94:zQ Tryz.prog 94=true:=by kernel_rfl
theorem code95:zQ Tryz.prog 95=true:=by kernel_rfl
theorem zPX:zQ Tryz.prog 107=true:=by kernel_rfl
theorem zP8:zQ Tryz.prog 108=true:=by kernel_rfl
theorem zPV:zQ Tryz.prog 110=true:=by kernel_rfl
theorem zCf:zQ Tryz.prog 111=true:=by kernel_rfl
theorem zKH:zQ Tryz.prog 112=true:=by kernel_rfl
theorem zBd:zQ Tryz.prog 113=true:=by kernel_rfl
theorem zEZ:zQ Tryz.prog 114=true:=by kernel_rfl
theorem zKG:zQ Tryz.prog 115=true:=by kernel_rfl
theorem zQo:zQ Tryz.prog 116=true:=by kernel_rfl
theorem zKa:zQ Tryz.prog 117=true:=by kernel_rfl
theorem zGp:zQ Tryz.prog 130=true:=by kernel_rfl
theorem zKT:zQ Tryz.prog 131=true:=by kernel_rfl
theorem zGa:zQ Tryz.prog 142=true:=by kernel_rfl
theorem zQl:zQ Tryz.prog 143=true:=by kernel_rfl
theorem zKK:zQ Tryz.prog 150=true:=by kernel_rfl
theorem zKm:zQ Tryz.prog 151=true:=by kernel_rfl
theorem zQC:zQ Tryz.prog 154=true:=by kernel_rfl
theorem zPx:zQ Tryz.prog 155=true:=by kernel_rfl
def ks38:Nat->List Nat
 | 0=>[0,1,4]
 | 1=>[4]
 | _=>[]
def ks58:Nat->List Nat
 | 0=>[0,1,2,8]
 | 1=>[0,1,2,6]
 | 2=>[0,1,6,9]
 | 3=>[0,1,6]
 | 4=>[]
 | _=>[]
def ks59:Nat->List Nat
 | 0=>[]
 | _=>[]
def ks61:Nat->List Nat
 | 0=>[0]
 | 1=>[0,3]
 | 2=>[3]
 | 3=>[2]
 | _=>[]
def ks77:Nat->List Nat
 | 0=>[3]
 | 1=>[]
 | _=>[]
def ks88:Nat->List Nat
 | 0=>[0,1]
 | 1=>[0,1,16]
 | 2=>[4]
 | 3=>[4]
 | _=>[]
theorem mixed:Tryz.prog.follows .mixedOrders=true:=by kernel_rfl
end Go.Proofs.YtnamdpbcpnnhaaaGreatDoor
end
section
set_option linter.unusedVariables false
set_option linter.unusedSimpArgs false
namespace Go.Proofs.YtnamdpbcpnnhaaaGreatDoor
open Go.Al Go.Den
def Nd.kind:Nd->Int
 | .mk k _ _=>k
def Nd.tok:Nd->Int
 | .mk _ a _=>a
def Nd.kids:Nd->List Nd
 | .mk _ _ l=>l
structure TokT where
 kind:Int
 text:List UInt8
 file:Int
 ffrom:Int
 fto:Int
 blank:Bool
structure CharT where
 b:Int
 fat:Int
structure BindT where
 space:Int
 fto:Int
inductive TI where
 | int
 | bool
 | u8
 | str
 | tok
 | char
 | bind
 | node
def TI.no:TI->Nat
 | .int=>0
 | .bool=>1
 | .u8=>2
 | .str=>3
 | .tok=>4
 | .char=>5
 | .bind=>6
 | .node=>7
theorem TI.no_inj:∀ a b:TI,a.no=b.no->a=b:=by intro a b h; cases a <;> cases b <;> first | rfl | (simp [TI.no] at h)
instance:DecidableEq TI:=fun a b=>if h:a.no=b.no then isTrue (TI.no_inj a b h) else isFalse (fun e=>h (by rw [e]))
def denI:TI->Type
 | .int=>Int
 | .bool=>Bool
 | .u8=>Int
 | .str=>(List UInt8)
 | .tok=>TokT
 | .char=>CharT
 | .bind=>BindT
 | .node=>Nd
abbrev UU:TyU:={ I:=TI,den:=denI }
def zCp {R:Type} (v:T UU) (K:TokT->Option R):Option R:=
 match v with
 | .agg fs=>(match fs with
  | [v0,v1,v2,v3,v4,v5]=>pInt .i64 v0 fun x0=>pStr v1 fun x1=>pInt .i64 v2 fun x2=>pInt .i64 v3 fun x3=>pInt .i64 v4 fun x4=>zHq v5 fun x5=>K (TokT.mk x0 x1 x2 x3 x4 x5)
  | _=>none)
 | _=>none
def tokD:TokT:=TokT.mk 0 [] 0 0 0 false
def zBo {R:Type} (v:T UU) (K:CharT->Option R):Option R:=
 match v with
 | .agg fs=>(match fs with
  | [v0,v1]=>pInt .u8 v0 fun x0=>pInt .i64 v1 fun x1=>K (CharT.mk x0 x1)
  | _=>none)
 | _=>none
def zBW:CharT:=CharT.mk 0 0
def zBj {R:Type} (v:T UU) (K:BindT->Option R):Option R:=
 match v with
 | .agg fs=>(match fs with
  | [v0,v1]=>pInt .i64 v0 fun x0=>pInt .i64 v1 fun x1=>K (BindT.mk x0 x1)
  | _=>none)
 | _=>none
def bindD:BindT:=BindT.mk 0 0
def zFO {R:Type} (v:T UU) (K:Nd->Option R):Option R:=
 match v with
 | .agg fs=>(match fs with
  | [v0,v1,v2]=>pInt .i64 v0 fun x0=>pInt .i64 v1 fun x1=>pDl (U:=UU) TI.node v2 fun x2=>K (Nd.mk x0 x1 x2)
  | _=>none)
 | _=>none
def zHs:Nd:=Nd.mk 0 0 []
def zCs (x:Int):V:=.at (.int .i64 x)
def zQO (x:Bool):V:=.at (.bool x)
def eV_u8 (x:Int):V:=.at (.int .u8 x)
def eV_str (x:(List UInt8)):V:=.at (.string ⟨List.toArray x⟩)
def zAU (x:TokT):V:=.agg [.at (.int .i64 (TokT.kind x)),.at (.string ⟨List.toArray (TokT.text x)⟩),.at (.int .i64 (TokT.file x)),.at (.int .i64 (TokT.ffrom x)),.at (.int .i64 (TokT.fto x)),.at (.bool (TokT.blank x))]
def yy (x:CharT):V:=.agg [.at (.int .u8 (CharT.b x)),.at (.int .i64 (CharT.fat x))]
def ki (x:BindT):V:=.agg [.at (.int .i64 (BindT.space x)),.at (.int .i64 (BindT.fto x))]
def zAJ (x:Nd):V:=zx x
def zMG:(i:TI)->denI i->V
 | .int,x=>zCs x
 | .bool,x=>zQO x
 | .u8,x=>eV_u8 x
 | .str,x=>eV_str x
 | .tok,x=>zAU x
 | .char,x=>yy x
 | .bind,x=>ki x
 | .node,x=>zAJ x
def encI:(i:TI)->denI i->T UU
 | .int,x=>.int .i64 x
 | .bool,x=>.bool x
 | .u8,x=>.int .u8 x
 | .str,x=>.str x
 | .tok,x=>.agg [(.int .i64 (TokT.kind x)),(.str (TokT.text x)),(.int .i64 (TokT.file x)),(.int .i64 (TokT.ffrom x)),(.int .i64 (TokT.fto x)),(.bool (TokT.blank x))]
 | .char,x=>.agg [(.int .u8 (CharT.b x)),(.int .i64 (CharT.fat x))]
 | .bind,x=>.agg [(.int .i64 (BindT.space x)),(.int .i64 (BindT.fto x))]
 | .node,x=>.agg [(.int .i64 (Nd.kind x)),(.int .i64 (Nd.tok x)),(.lst .dl TI.node (Nd.kids x))]
def decI:(i:TI)->{R:Type}->T UU->(denI i->Option R)->Option R
 | .int,_,v,K=>pInt .i64 v K
 | .bool,_,v,K=>zHq v K
 | .u8,_,v,K=>pInt .u8 v K
 | .str,_,v,K=>pStr v K
 | .tok,_,v,K=>zCp v K
 | .char,_,v,K=>zBo v K
 | .bind,_,v,K=>zBj v K
 | .node,_,v,K=>zFO v K
def dfltI:(i:TI)->denI i
 | .int=>(0:Int)
 | .bool=>false
 | .u8=>(0:Int)
 | .str=>([]:List UInt8)
 | .tok=>tokD
 | .char=>zBW
 | .bind=>bindD
 | .node=>zHs
def cellsI:TI->Nat
 | .int=>1
 | .bool=>1
 | .u8=>1
 | .str=>1
 | .tok=>6
 | .char=>2
 | .bind=>2
 | .node=>3
def aggI:TI->Bool
 | .int=>false
 | .bool=>false
 | .u8=>false
 | .str=>false
 | .tok=>true
 | .char=>true
 | .bind=>true
 | .node=>true
def plainI:TI->Bool
 | .int=>true
 | .bool=>true
 | .u8=>true
 | .str=>true
 | .tok=>true
 | .char=>true
 | .bind=>true
 | .node=>false
def CC:Cod UU:=⟨encI,zMG,decI,dfltI,cellsI,aggI,plainI⟩
theorem zLa {R:Type} {v:T UU} {K:TokT->Option R} {r:R} (h:zCp v K=some r):∃ x,K x=some r/\∀ N,(trT CC N v).untag=zAU x:=by
 unfold zCp at h
 split at h
 · split at h
   · obtain ⟨x0,h,_,e0⟩:=yn (C:=CC) h
     obtain ⟨x1,h,_,e1⟩:=zEW (C:=CC) h
     obtain ⟨x2,h,_,e2⟩:=yn (C:=CC) h
     obtain ⟨x3,h,_,e3⟩:=yn (C:=CC) h
     obtain ⟨x4,h,_,e4⟩:=yn (C:=CC) h
     obtain ⟨x5,h,_,e5⟩:=zDG (C:=CC) h
     refine ⟨_,h,fun N=>?_⟩
     simp only [trT,trTs,V.untag,List.map_cons,List.map_nil,e0 N,e1 N,e2 N,e3 N,e4 N,e5 N]
     rfl
   · cases h
 · cases h
theorem zJt {R:Type} {v:T UU} {K:TokT->Option R} {r:R} (h:zCp v K=some r):∃ x,K x=some r/\∀ N,trT CC N v=zAU x:=by
 unfold zCp at h
 split at h
 · split at h
   · obtain ⟨x0,h,e0,_⟩:=yn (C:=CC) h
     obtain ⟨x1,h,e1,_⟩:=zEW (C:=CC) h
     obtain ⟨x2,h,e2,_⟩:=yn (C:=CC) h
     obtain ⟨x3,h,e3,_⟩:=yn (C:=CC) h
     obtain ⟨x4,h,e4,_⟩:=yn (C:=CC) h
     obtain ⟨x5,h,e5,_⟩:=zDG (C:=CC) h
     refine ⟨_,h,fun N=>?_⟩
     simp only [trT,trTs,e0 N,e1 N,e2 N,e3 N,e4 N,e5 N]
     rfl
   · cases h
 · cases h
theorem zBG (x:TokT):zAU x = .agg [.at (.int .i64 (TokT.kind x)),.at (.string ⟨List.toArray (TokT.text x)⟩),.at (.int .i64 (TokT.file x)),.at (.int .i64 (TokT.ffrom x)),.at (.int .i64 (TokT.fto x)),.at (.bool (TokT.blank x))]:=by
 rfl
theorem zJ6 {R:Type} {v:T UU} {K:CharT->Option R} {r:R} (h:zBo v K=some r):∃ x,K x=some r/\∀ N,(trT CC N v).untag=yy x:=by
 unfold zBo at h
 split at h
 · split at h
   · obtain ⟨x0,h,_,e0⟩:=yn (C:=CC) h
     obtain ⟨x1,h,_,e1⟩:=yn (C:=CC) h
     refine ⟨_,h,fun N=>?_⟩
     simp only [trT,trTs,V.untag,List.map_cons,List.map_nil,e0 N,e1 N]
     rfl
   · cases h
 · cases h
theorem zJH {R:Type} {v:T UU} {K:CharT->Option R} {r:R} (h:zBo v K=some r):∃ x,K x=some r/\∀ N,trT CC N v=yy x:=by
 unfold zBo at h
 split at h
 · split at h
   · obtain ⟨x0,h,e0,_⟩:=yn (C:=CC) h
     obtain ⟨x1,h,e1,_⟩:=yn (C:=CC) h
     refine ⟨_,h,fun N=>?_⟩
     simp only [trT,trTs,e0 N,e1 N]
     rfl
   · cases h
 · cases h
theorem zAc (x:CharT):yy x = .agg [.at (.int .u8 (CharT.b x)),.at (.int .i64 (CharT.fat x))]:=by
 rfl
theorem zJp {R:Type} {v:T UU} {K:BindT->Option R} {r:R} (h:zBj v K=some r):∃ x,K x=some r/\∀ N,(trT CC N v).untag=ki x:=by
 unfold zBj at h
 split at h
 · split at h
   · obtain ⟨x0,h,_,e0⟩:=yn (C:=CC) h
     obtain ⟨x1,h,_,e1⟩:=yn (C:=CC) h
     refine ⟨_,h,fun N=>?_⟩
     simp only [trT,trTs,V.untag,List.map_cons,List.map_nil,e0 N,e1 N]
     rfl
   · cases h
 · cases h
theorem zJh {R:Type} {v:T UU} {K:BindT->Option R} {r:R} (h:zBj v K=some r):∃ x,K x=some r/\∀ N,trT CC N v=ki x:=by
 unfold zBj at h
 split at h
 · split at h
   · obtain ⟨x0,h,e0,_⟩:=yn (C:=CC) h
     obtain ⟨x1,h,e1,_⟩:=yn (C:=CC) h
     refine ⟨_,h,fun N=>?_⟩
     simp only [trT,trTs,e0 N,e1 N]
     rfl
   · cases h
 · cases h
theorem zAR (x:BindT):ki x = .agg [.at (.int .i64 (BindT.space x)),.at (.int .i64 (BindT.fto x))]:=by
 rfl
theorem zJr {R:Type} {v:T UU} {K:Nd->Option R} {r:R} (h:zFO v K=some r):∃ x,K x=some r/\∀ N,(trT CC N v).untag=zAJ x:=by
 unfold zFO at h
 split at h
 · split at h
   · obtain ⟨x0,h,_,e0⟩:=yn (C:=CC) h
     obtain ⟨x1,h,_,e1⟩:=yn (C:=CC) h
     obtain ⟨x2,h,e2⟩:=pDl_ok (C:=CC) h
     refine ⟨_,h,fun N=>?_⟩
     simp only [trT,trTs,V.untag,List.map_cons,List.map_nil,e0 N,e1 N,e2 N]
     exact (kK x0 x1 x2).symm
   · cases h
 · cases h
theorem zAh (x:Nd):zAJ x = .agg [.at (.int .i64 (Nd.kind x)),.at (.int .i64 (Nd.tok x)),.lst (zi ((Nd.kids x).map (zMG TI.node))) ((Nd.kids x).map (zMG TI.node))]:=by
 cases x; exact kK _ _ _
theorem sz_tok (x:TokT):(zAU x).size=6:=by rw [zBG]; rfl
theorem ag_tok (x:TokT):(zAU x).isAgg=true:=by rw [zBG]; rfl
theorem on_tok (x:TokT):zK (zAU x).flat:=by rw [zBG]; rfl
theorem un_tok (x:TokT):(zAU x).untag=zAU x:=by rw [zBG]; simp only [V.untag,List.map_cons,List.map_nil,zCR,zAv]
theorem zGt (x:CharT):(yy x).size=2:=by rw [zAc]; rfl
theorem zQb (x:CharT):(yy x).isAgg=true:=by rw [zAc]; rfl
theorem zQ2 (x:CharT):zK (yy x).flat:=by rw [zAc]; rfl
theorem zRN (x:CharT):(yy x).untag=yy x:=by rw [zAc]; simp only [V.untag,List.map_cons,List.map_nil,zCR,zAv]
theorem zRJ (x:BindT):(ki x).size=2:=by rw [zAR]; rfl
theorem zQd (x:BindT):(ki x).isAgg=true:=by rw [zAR]; rfl
theorem zQM (x:BindT):zK (ki x).flat:=by rw [zAR]; rfl
theorem zP4 (x:BindT):(ki x).untag=ki x:=by rw [zAR]; simp only [V.untag,List.map_cons,List.map_nil,zCR,zAv]
theorem zPe (x:Nd):(zAJ x).size=3:=by rw [zAh]; rfl
theorem zRF (x:Nd):(zAJ x).isAgg=true:=by rw [zAh]; rfl
theorem zPw (x:Nd):zK (zAJ x).flat:=by rw [zAh]; rfl
theorem zQ3 (x:Nd):(zAJ x).untag=zAJ x:=by rw [zAh]; simp only [V.untag,List.map_cons,List.map_nil,zCR,zAv]
theorem CCok:CodOk CC:=by
 refine ⟨?_,?_,?_,?_,?_,?_,?_,?_,?_,?_⟩
 · intro N i x
   cases i with
   | int=>rfl
   | bool=>rfl
   | u8=>rfl
   | str=>rfl
   | tok=>exact (zBG x).symm
   | char=>exact (zAc x).symm
   | bind=>exact (zAR x).symm
   | node=>exact (zAh x).symm
 · intro i x
   cases i <;> rfl
 · intro i R v k r h
   cases i with
   | int=>obtain ⟨x,h1,_,h2⟩:=yn (C:=CC) h; exact ⟨x,h1,fun N=>by have:=h2 N; exact zCW this⟩
   | bool=>obtain ⟨x,h1,_,h2⟩:=zDG (C:=CC) h; exact ⟨x,h1,fun N=>by have:=h2 N; exact zCW this⟩
   | u8=>obtain ⟨x,h1,_,h2⟩:=yn (C:=CC) h; exact ⟨x,h1,fun N=>by have:=h2 N; exact zCW this⟩
   | str=>obtain ⟨x,h1,_,h2⟩:=zEW (C:=CC) h; exact ⟨x,h1,fun N=>by have:=h2 N; exact zCW this⟩
   | tok=>exact zLa h
   | char=>exact zJ6 h
   | bind=>exact zJp h
   | node=>exact zJr h
 · intro i R v k r hp h
   cases i with
   | int=>obtain ⟨x,h1,h2,_⟩:=yn (C:=CC) h; exact ⟨x,h1,h2⟩
   | bool=>obtain ⟨x,h1,h2,_⟩:=zDG (C:=CC) h; exact ⟨x,h1,h2⟩
   | u8=>obtain ⟨x,h1,h2,_⟩:=yn (C:=CC) h; exact ⟨x,h1,h2⟩
   | str=>obtain ⟨x,h1,h2,_⟩:=zEW (C:=CC) h; exact ⟨x,h1,h2⟩
   | tok=>exact zJt h
   | char=>exact zJH h
   | bind=>exact zJh h
   | node=>cases hp
 · intro i x
   cases i with
   | int=>rfl
   | bool=>rfl
   | u8=>rfl
   | str=>rfl
   | tok=>exact sz_tok x
   | char=>exact zGt x
   | bind=>exact zRJ x
   | node=>exact zPe x
 · intro i x
   cases i with
   | int=>rfl
   | bool=>rfl
   | u8=>rfl
   | str=>rfl
   | tok=>exact ag_tok x
   | char=>exact zQb x
   | bind=>exact zQd x
   | node=>exact zRF x
 · intro i x
   cases i with
   | int=>rfl
   | bool=>rfl
   | u8=>rfl
   | str=>rfl
   | tok=>exact on_tok x
   | char=>exact zQ2 x
   | bind=>exact zQM x
   | node=>exact zPw x
 · intro i x
   cases i with
   | int=>rfl
   | bool=>rfl
   | u8=>rfl
   | str=>rfl
   | tok=>exact un_tok x
   | char=>exact zRN x
   | bind=>exact zP4 x
   | node=>exact zQ3 x
 · intro i h
   cases i <;> first | rfl | cases h
 · intro i
   cases i <;> decide
def td3:TD UU:={ has:=true,agg:=false,cells:=1,bytes:=8,code:=some TI.int,ik:=some .i64,zero:=some [.int .i64 0] }
theorem td3_ok:Facts CC Tryz.prog 3 td3:=⟨by kernel_rfl,by kernel_rfl,by kernel_rfl,by kernel_rfl,by kernel_rfl,by kernel_rfl,by kernel_rfl,by kernel_rfl,by kernel_rfl,by kernel_rfl,by kernel_rfl,fun N=>by kernel_rfl,fun i h=>(by first | (injection h with h; subst h; exact ⟨rfl,rfl⟩) | cases h),fun n i h=>(by cases h)⟩
def td4:TD UU:={ has:=true,agg:=false,cells:=1,bytes:=1,code:=some TI.bool,isBool:=true,zero:=some [.bool false] }
theorem td4_ok:Facts CC Tryz.prog 4 td4:=⟨by kernel_rfl,by kernel_rfl,by kernel_rfl,by kernel_rfl,by kernel_rfl,by kernel_rfl,by kernel_rfl,by kernel_rfl,by kernel_rfl,by kernel_rfl,by kernel_rfl,fun N=>by kernel_rfl,fun i h=>(by first | (injection h with h; subst h; exact ⟨rfl,rfl⟩) | cases h),fun n i h=>(by cases h)⟩
def td5:TD UU:={ has:=true,agg:=false,cells:=1,bytes:=1,code:=some TI.u8,ik:=some .u8,zero:=some [.int .u8 0] }
theorem td5_ok:Facts CC Tryz.prog 5 td5:=⟨by kernel_rfl,by kernel_rfl,by kernel_rfl,by kernel_rfl,by kernel_rfl,by kernel_rfl,by kernel_rfl,by kernel_rfl,by kernel_rfl,by kernel_rfl,by kernel_rfl,fun N=>by kernel_rfl,fun i h=>(by first | (injection h with h; subst h; exact ⟨rfl,rfl⟩) | cases h),fun n i h=>(by cases h)⟩
def td9:TD UU:={ has:=true,agg:=false,cells:=1,bytes:=16,code:=some TI.str,isStr:=true,zero:=some [.str []] }
theorem td9_ok:Facts CC Tryz.prog 9 td9:=⟨by kernel_rfl,by kernel_rfl,by kernel_rfl,by kernel_rfl,by kernel_rfl,by kernel_rfl,by kernel_rfl,by kernel_rfl,by kernel_rfl,by kernel_rfl,by kernel_rfl,fun N=>by kernel_rfl,fun i h=>(by first | (injection h with h; subst h; exact ⟨rfl,rfl⟩) | cases h),fun n i h=>(by cases h)⟩
def td20:TD UU:={ has:=true,agg:=false,cells:=1,bytes:=16,isIfc:=true,zero:=some [.con .nilIface] }
theorem zPn:Facts CC Tryz.prog 20 td20:=⟨by kernel_rfl,by kernel_rfl,by kernel_rfl,by kernel_rfl,by kernel_rfl,by kernel_rfl,by kernel_rfl,by kernel_rfl,by kernel_rfl,by kernel_rfl,by kernel_rfl,fun N=>by kernel_rfl,fun i h=>(by first | (injection h with h; subst h; exact ⟨rfl,rfl⟩) | cases h),fun n i h=>(by cases h)⟩
def td24:TD UU:={ has:=true,agg:=false,cells:=1,bytes:=24,el:=some 26,zero:=some [.nil] }
theorem zRK:Facts CC Tryz.prog 24 td24:=⟨by kernel_rfl,by kernel_rfl,by kernel_rfl,by kernel_rfl,by kernel_rfl,by kernel_rfl,by kernel_rfl,by kernel_rfl,by kernel_rfl,by kernel_rfl,by kernel_rfl,fun N=>by kernel_rfl,fun i h=>(by first | (injection h with h; subst h; exact ⟨rfl,rfl⟩) | cases h),fun n i h=>(by cases h)⟩
def td26:TD UU:={ has:=true,agg:=true,cells:=6,bytes:=56,code:=some TI.tok,flds:=[(0,3),(1,9),(2,3),(3,3),(4,3),(5,4)],isStruct:=true,zero:=some [.int .i64 0,.str [],.int .i64 0,.int .i64 0,.int .i64 0,.bool false] }
theorem zPZ:Facts CC Tryz.prog 26 td26:=⟨by kernel_rfl,by kernel_rfl,by kernel_rfl,by kernel_rfl,by kernel_rfl,by kernel_rfl,by kernel_rfl,by kernel_rfl,by kernel_rfl,by kernel_rfl,by kernel_rfl,fun N=>by kernel_rfl,fun i h=>(by first | (injection h with h; subst h; exact ⟨rfl,rfl⟩) | cases h),fun n i h=>(by cases h)⟩
def td27:TD UU:={ has:=true,agg:=false,cells:=1,bytes:=24,el:=some 29,zero:=some [.nil] }
theorem zQa:Facts CC Tryz.prog 27 td27:=⟨by kernel_rfl,by kernel_rfl,by kernel_rfl,by kernel_rfl,by kernel_rfl,by kernel_rfl,by kernel_rfl,by kernel_rfl,by kernel_rfl,by kernel_rfl,by kernel_rfl,fun N=>by kernel_rfl,fun i h=>(by first | (injection h with h; subst h; exact ⟨rfl,rfl⟩) | cases h),fun n i h=>(by cases h)⟩
def td29:TD UU:={ has:=true,agg:=true,cells:=3,bytes:=40,code:=some TI.node,flds:=[(0,3),(1,3),(2,27)],isStruct:=true,zero:=some [.int .i64 0,.int .i64 0,.nil] }
theorem zQU:Facts CC Tryz.prog 29 td29:=⟨by kernel_rfl,by kernel_rfl,by kernel_rfl,by kernel_rfl,by kernel_rfl,by kernel_rfl,by kernel_rfl,by kernel_rfl,by kernel_rfl,by kernel_rfl,by kernel_rfl,fun N=>by kernel_rfl,fun i h=>(by first | (injection h with h; subst h; exact ⟨rfl,rfl⟩) | cases h),fun n i h=>(by cases h)⟩
def td30:TD UU:={ has:=true,agg:=false,cells:=1,bytes:=8,code:=some TI.int,ik:=some .i64,zero:=some [.int .i64 0] }
theorem zPr:Facts CC Tryz.prog 30 td30:=⟨by kernel_rfl,by kernel_rfl,by kernel_rfl,by kernel_rfl,by kernel_rfl,by kernel_rfl,by kernel_rfl,by kernel_rfl,by kernel_rfl,by kernel_rfl,by kernel_rfl,fun N=>by kernel_rfl,fun i h=>(by first | (injection h with h; subst h; exact ⟨rfl,rfl⟩) | cases h),fun n i h=>(by cases h)⟩
def td44:TD UU:={ has:=true,agg:=false,cells:=1,bytes:=24,el:=some 47,zero:=some [.nil] }
theorem zQE:Facts CC Tryz.prog 44 td44:=⟨by kernel_rfl,by kernel_rfl,by kernel_rfl,by kernel_rfl,by kernel_rfl,by kernel_rfl,by kernel_rfl,by kernel_rfl,by kernel_rfl,by kernel_rfl,by kernel_rfl,fun N=>by kernel_rfl,fun i h=>(by first | (injection h with h; subst h; exact ⟨rfl,rfl⟩) | cases h),fun n i h=>(by cases h)⟩
def td47:TD UU:={ has:=true,agg:=true,cells:=2,bytes:=16,code:=some TI.bind,flds:=[(0,3),(1,3)],isStruct:=true,zero:=some [.int .i64 0,.int .i64 0] }
theorem zPf:Facts CC Tryz.prog 47 td47:=⟨by kernel_rfl,by kernel_rfl,by kernel_rfl,by kernel_rfl,by kernel_rfl,by kernel_rfl,by kernel_rfl,by kernel_rfl,by kernel_rfl,by kernel_rfl,by kernel_rfl,fun N=>by kernel_rfl,fun i h=>(by first | (injection h with h; subst h; exact ⟨rfl,rfl⟩) | cases h),fun n i h=>(by cases h)⟩
def td49:TD UU:={ has:=true,agg:=false,cells:=1,bytes:=24,el:=some 3,zero:=some [.nil] }
theorem zQH:Facts CC Tryz.prog 49 td49:=⟨by kernel_rfl,by kernel_rfl,by kernel_rfl,by kernel_rfl,by kernel_rfl,by kernel_rfl,by kernel_rfl,by kernel_rfl,by kernel_rfl,by kernel_rfl,by kernel_rfl,fun N=>by kernel_rfl,fun i h=>(by first | (injection h with h; subst h; exact ⟨rfl,rfl⟩) | cases h),fun n i h=>(by cases h)⟩
def td57:TD UU:={ has:=true,agg:=false,cells:=1,bytes:=24,el:=some 9,zero:=some [.nil] }
theorem zQy:Facts CC Tryz.prog 57 td57:=⟨by kernel_rfl,by kernel_rfl,by kernel_rfl,by kernel_rfl,by kernel_rfl,by kernel_rfl,by kernel_rfl,by kernel_rfl,by kernel_rfl,by kernel_rfl,by kernel_rfl,fun N=>by kernel_rfl,fun i h=>(by first | (injection h with h; subst h; exact ⟨rfl,rfl⟩) | cases h),fun n i h=>(by cases h)⟩
def td58:TD UU:={ has:=true,agg:=true,cells:=33,bytes:=528,zero:=some [.str [],.str [],.str [],.str [],.str [],.str [],.str [],.str [],.str [],.str [],.str [],.str [],.str [],.str [],.str [],.str [],.str [],.str [],.str [],.str [],.str [],.str [],.str [],.str [],.str [],.str [],.str [],.str [],.str [],.str [],.str [],.str [],.str []],arr:=some (33,TI.str) }
set_option maxRecDepth 100000 in
theorem zP3:Facts CC Tryz.prog 58 td58:=⟨by kernel_rfl,by kernel_rfl,by kernel_rfl,by kernel_rfl,by kernel_rfl,by kernel_rfl,by kernel_rfl,by kernel_rfl,by kernel_rfl,by kernel_rfl,by kernel_rfl,fun N=>by kernel_rfl,fun i h=>(by first | (injection h with h; subst h; exact ⟨rfl,rfl⟩) | cases h),fun n i h=>(by injection h with h; injection h with h _; subst h; kernel_rfl)⟩
def td61:TD UU:={ has:=true,agg:=true,cells:=0,bytes:=0,flds:=[],isStruct:=true,zero:=some [] }
theorem zQW:Facts CC Tryz.prog 61 td61:=⟨by kernel_rfl,by kernel_rfl,by kernel_rfl,by kernel_rfl,by kernel_rfl,by kernel_rfl,by kernel_rfl,by kernel_rfl,by kernel_rfl,by kernel_rfl,by kernel_rfl,fun N=>by kernel_rfl,fun i h=>(by first | (injection h with h; subst h; exact ⟨rfl,rfl⟩) | cases h),fun n i h=>(by cases h)⟩
def td62:TD UU:={ has:=true,agg:=false,cells:=1,bytes:=8,zero:=some [.con (.pointer none)] }
theorem zP1:Facts CC Tryz.prog 62 td62:=⟨by kernel_rfl,by kernel_rfl,by kernel_rfl,by kernel_rfl,by kernel_rfl,by kernel_rfl,by kernel_rfl,by kernel_rfl,by kernel_rfl,by kernel_rfl,by kernel_rfl,fun N=>by kernel_rfl,fun i h=>(by first | (injection h with h; subst h; exact ⟨rfl,rfl⟩) | cases h),fun n i h=>(by cases h)⟩
def td63:TD UU:={ has:=true,agg:=false,cells:=1,bytes:=8,zero:=some [.con (.map none)] }
theorem zQ7:Facts CC Tryz.prog 63 td63:=⟨by kernel_rfl,by kernel_rfl,by kernel_rfl,by kernel_rfl,by kernel_rfl,by kernel_rfl,by kernel_rfl,by kernel_rfl,by kernel_rfl,by kernel_rfl,by kernel_rfl,fun N=>by kernel_rfl,fun i h=>(by first | (injection h with h; subst h; exact ⟨rfl,rfl⟩) | cases h),fun n i h=>(by cases h)⟩
def td64:TD UU:={ has:=true,agg:=false,cells:=1,bytes:=24,el:=some 63,zero:=some [.nil] }
theorem zRB:Facts CC Tryz.prog 64 td64:=⟨by kernel_rfl,by kernel_rfl,by kernel_rfl,by kernel_rfl,by kernel_rfl,by kernel_rfl,by kernel_rfl,by kernel_rfl,by kernel_rfl,by kernel_rfl,by kernel_rfl,fun N=>by kernel_rfl,fun i h=>(by first | (injection h with h; subst h; exact ⟨rfl,rfl⟩) | cases h),fun n i h=>(by cases h)⟩
def td66:TD UU:={ has:=true,agg:=true,cells:=4,bytes:=64,flds:=[(0,24),(1,3),(2,64),(3,63)],isStruct:=true,zero:=some [.nil,.int .i64 0,.nil,.con (.map none)] }
theorem zRH:Facts CC Tryz.prog 66 td66:=⟨by kernel_rfl,by kernel_rfl,by kernel_rfl,by kernel_rfl,by kernel_rfl,by kernel_rfl,by kernel_rfl,by kernel_rfl,by kernel_rfl,by kernel_rfl,by kernel_rfl,fun N=>by kernel_rfl,fun i h=>(by first | (injection h with h; subst h; exact ⟨rfl,rfl⟩) | cases h),fun n i h=>(by cases h)⟩
def td68:TD UU:={ has:=true,agg:=true,cells:=1,bytes:=24,flds:=[(0,27)],isStruct:=true,zero:=some [.nil] }
theorem zQI:Facts CC Tryz.prog 68 td68:=⟨by kernel_rfl,by kernel_rfl,by kernel_rfl,by kernel_rfl,by kernel_rfl,by kernel_rfl,by kernel_rfl,by kernel_rfl,by kernel_rfl,by kernel_rfl,by kernel_rfl,fun N=>by kernel_rfl,fun i h=>(by first | (injection h with h; subst h; exact ⟨rfl,rfl⟩) | cases h),fun n i h=>(by cases h)⟩
def td76:TD UU:={ has:=true,agg:=false,cells:=1,bytes:=8,zero:=some [.con (.pointer none)] }
theorem zQ0:Facts CC Tryz.prog 76 td76:=⟨by kernel_rfl,by kernel_rfl,by kernel_rfl,by kernel_rfl,by kernel_rfl,by kernel_rfl,by kernel_rfl,by kernel_rfl,by kernel_rfl,by kernel_rfl,by kernel_rfl,fun N=>by kernel_rfl,fun i h=>(by first | (injection h with h; subst h; exact ⟨rfl,rfl⟩) | cases h),fun n i h=>(by cases h)⟩
def td77:TD UU:={ has:=true,agg:=false,cells:=1,bytes:=8,zero:=some [.con (.pointer none)] }
theorem zP0:Facts CC Tryz.prog 77 td77:=⟨by kernel_rfl,by kernel_rfl,by kernel_rfl,by kernel_rfl,by kernel_rfl,by kernel_rfl,by kernel_rfl,by kernel_rfl,by kernel_rfl,by kernel_rfl,by kernel_rfl,fun N=>by kernel_rfl,fun i h=>(by first | (injection h with h; subst h; exact ⟨rfl,rfl⟩) | cases h),fun n i h=>(by cases h)⟩
def td79:TD UU:={ has:=true,agg:=true,cells:=6,bytes:=80,flds:=[(0,24),(1,44),(2,77),(3,63),(4,63),(5,77)],isStruct:=true,zero:=some [.nil,.nil,.con (.pointer none),.con (.map none),.con (.map none),.con (.pointer none)] }
theorem zPt:Facts CC Tryz.prog 79 td79:=⟨by kernel_rfl,by kernel_rfl,by kernel_rfl,by kernel_rfl,by kernel_rfl,by kernel_rfl,by kernel_rfl,by kernel_rfl,by kernel_rfl,by kernel_rfl,by kernel_rfl,fun N=>by kernel_rfl,fun i h=>(by first | (injection h with h; subst h; exact ⟨rfl,rfl⟩) | cases h),fun n i h=>(by cases h)⟩
def td88:TD UU:={ has:=true,agg:=false,cells:=1,bytes:=8,zero:=some [.con (.pointer none)] }
theorem zQS:Facts CC Tryz.prog 88 td88:=⟨by kernel_rfl,by kernel_rfl,by kernel_rfl,by kernel_rfl,by kernel_rfl,by kernel_rfl,by kernel_rfl,by kernel_rfl,by kernel_rfl,by kernel_rfl,by kernel_rfl,fun N=>by kernel_rfl,fun i h=>(by first | (injection h with h; subst h; exact ⟨rfl,rfl⟩) | cases h),fun n i h=>(by cases h)⟩
def td99:TD UU:={ has:=true,agg:=false,cells:=1,bytes:=24,el:=some 108,zero:=some [.nil] }
theorem zPz:Facts CC Tryz.prog 99 td99:=⟨by kernel_rfl,by kernel_rfl,by kernel_rfl,by kernel_rfl,by kernel_rfl,by kernel_rfl,by kernel_rfl,by kernel_rfl,by kernel_rfl,by kernel_rfl,by kernel_rfl,fun N=>by kernel_rfl,fun i h=>(by first | (injection h with h; subst h; exact ⟨rfl,rfl⟩) | cases h),fun n i h=>(by cases h)⟩
def td101:TD UU:={ has:=true,agg:=false,cells:=1,bytes:=8,zero:=some [.con (.pointer none)] }
theorem zOx:Facts CC Tryz.prog 101 td101:=⟨by kernel_rfl,by kernel_rfl,by kernel_rfl,by kernel_rfl,by kernel_rfl,by kernel_rfl,by kernel_rfl,by kernel_rfl,by kernel_rfl,by kernel_rfl,by kernel_rfl,fun N=>by kernel_rfl,fun i h=>(by first | (injection h with h; subst h; exact ⟨rfl,rfl⟩) | cases h),fun n i h=>(by cases h)⟩
def td104:TD UU:={ has:=true,agg:=true,cells:=2,bytes:=24,flds:=[(0,9),(1,3)],isStruct:=true,zero:=some [.str [],.int .i64 0] }
theorem zPI:Facts CC Tryz.prog 104 td104:=⟨by kernel_rfl,by kernel_rfl,by kernel_rfl,by kernel_rfl,by kernel_rfl,by kernel_rfl,by kernel_rfl,by kernel_rfl,by kernel_rfl,by kernel_rfl,by kernel_rfl,fun N=>by kernel_rfl,fun i h=>(by first | (injection h with h; subst h; exact ⟨rfl,rfl⟩) | cases h),fun n i h=>(by cases h)⟩
def td108:TD UU:={ has:=true,agg:=true,cells:=2,bytes:=16,code:=some TI.char,flds:=[(0,5),(1,3)],isStruct:=true,zero:=some [.int .u8 0,.int .i64 0] }
theorem zPM:Facts CC Tryz.prog 108 td108:=⟨by kernel_rfl,by kernel_rfl,by kernel_rfl,by kernel_rfl,by kernel_rfl,by kernel_rfl,by kernel_rfl,by kernel_rfl,by kernel_rfl,by kernel_rfl,by kernel_rfl,fun N=>by kernel_rfl,fun i h=>(by first | (injection h with h; subst h; exact ⟨rfl,rfl⟩) | cases h),fun n i h=>(by cases h)⟩
def td109:TD UU:={ has:=true,agg:=false,cells:=1,bytes:=8,ik:=some .u64,zero:=some [.int .u64 0] }
theorem zOF:Facts CC Tryz.prog 109 td109:=⟨by kernel_rfl,by kernel_rfl,by kernel_rfl,by kernel_rfl,by kernel_rfl,by kernel_rfl,by kernel_rfl,by kernel_rfl,by kernel_rfl,by kernel_rfl,by kernel_rfl,fun N=>by kernel_rfl,fun i h=>(by first | (injection h with h; subst h; exact ⟨rfl,rfl⟩) | cases h),fun n i h=>(by cases h)⟩
def td114:TD UU:={ has:=true,agg:=true,cells:=2,bytes:=16,flds:=[(0,63),(1,63)],isStruct:=true,zero:=some [.con (.map none),.con (.map none)] }
theorem zOq:Facts CC Tryz.prog 114 td114:=⟨by kernel_rfl,by kernel_rfl,by kernel_rfl,by kernel_rfl,by kernel_rfl,by kernel_rfl,by kernel_rfl,by kernel_rfl,by kernel_rfl,by kernel_rfl,by kernel_rfl,fun N=>by kernel_rfl,fun i h=>(by first | (injection h with h; subst h; exact ⟨rfl,rfl⟩) | cases h),fun n i h=>(by cases h)⟩
def td116:TD UU:={ has:=true,agg:=true,cells:=3,bytes:=24,flds:=[(0,114),(2,77)],isStruct:=true,zero:=some [.con (.map none),.con (.map none),.con (.pointer none)] }
theorem zO2:Facts CC Tryz.prog 116 td116:=⟨by kernel_rfl,by kernel_rfl,by kernel_rfl,by kernel_rfl,by kernel_rfl,by kernel_rfl,by kernel_rfl,by kernel_rfl,by kernel_rfl,by kernel_rfl,by kernel_rfl,fun N=>by kernel_rfl,fun i h=>(by first | (injection h with h; subst h; exact ⟨rfl,rfl⟩) | cases h),fun n i h=>(by cases h)⟩
def td118:TD UU:={ has:=true,agg:=true,cells:=8,bytes:=128,zero:=some [.str [],.str [],.str [],.str [],.str [],.str [],.str [],.str []],arr:=some (8,TI.str) }
set_option maxRecDepth 100000 in
theorem zPE:Facts CC Tryz.prog 118 td118:=⟨by kernel_rfl,by kernel_rfl,by kernel_rfl,by kernel_rfl,by kernel_rfl,by kernel_rfl,by kernel_rfl,by kernel_rfl,by kernel_rfl,by kernel_rfl,by kernel_rfl,fun N=>by kernel_rfl,fun i h=>(by first | (injection h with h; subst h; exact ⟨rfl,rfl⟩) | cases h),fun n i h=>(by injection h with h; injection h with h _; subst h; kernel_rfl)⟩
def td119:TD UU:={ has:=true,agg:=true,cells:=9,bytes:=144,zero:=some [.str [],.str [],.str [],.str [],.str [],.str [],.str [],.str [],.str []],arr:=some (9,TI.str) }
set_option maxRecDepth 100000 in
theorem zOQ:Facts CC Tryz.prog 119 td119:=⟨by kernel_rfl,by kernel_rfl,by kernel_rfl,by kernel_rfl,by kernel_rfl,by kernel_rfl,by kernel_rfl,by kernel_rfl,by kernel_rfl,by kernel_rfl,by kernel_rfl,fun N=>by kernel_rfl,fun i h=>(by first | (injection h with h; subst h; exact ⟨rfl,rfl⟩) | cases h),fun n i h=>(by injection h with h; injection h with h _; subst h; kernel_rfl)⟩
def td125:TD UU:={ has:=true,agg:=false,cells:=1,bytes:=24,el:=some 5,zero:=some [.nil] }
theorem zOS:Facts CC Tryz.prog 125 td125:=⟨by kernel_rfl,by kernel_rfl,by kernel_rfl,by kernel_rfl,by kernel_rfl,by kernel_rfl,by kernel_rfl,by kernel_rfl,by kernel_rfl,by kernel_rfl,by kernel_rfl,fun N=>by kernel_rfl,fun i h=>(by first | (injection h with h; subst h; exact ⟨rfl,rfl⟩) | cases h),fun n i h=>(by cases h)⟩
def td146:TD UU:={ has:=true,agg:=true,cells:=48,bytes:=768,zero:=some [.str [],.str [],.str [],.str [],.str [],.str [],.str [],.str [],.str [],.str [],.str [],.str [],.str [],.str [],.str [],.str [],.str [],.str [],.str [],.str [],.str [],.str [],.str [],.str [],.str [],.str [],.str [],.str [],.str [],.str [],.str [],.str [],.str [],.str [],.str [],.str [],.str [],.str [],.str [],.str [],.str [],.str [],.str [],.str [],.str [],.str [],.str [],.str []],arr:=some (48,TI.str) }
set_option maxRecDepth 100000 in
theorem zOk:Facts CC Tryz.prog 146 td146:=⟨by kernel_rfl,by kernel_rfl,by kernel_rfl,by kernel_rfl,by kernel_rfl,by kernel_rfl,by kernel_rfl,by kernel_rfl,by kernel_rfl,by kernel_rfl,by kernel_rfl,fun N=>by kernel_rfl,fun i h=>(by first | (injection h with h; subst h; exact ⟨rfl,rfl⟩) | cases h),fun n i h=>(by injection h with h; injection h with h _; subst h; kernel_rfl)⟩
def tdL:List (Nat×TD UU):=[(3,td3),(4,td4),(5,td5),(9,td9),(20,td20),(24,td24),(26,td26),(27,td27),(29,td29),(30,td30),(44,td44),(47,td47),(49,td49),(57,td57),(58,td58),(61,td61),(62,td62),(63,td63),(64,td64),(66,td66),(68,td68),(76,td76),(77,td77),(79,td79),(88,td88),(99,td99),(101,td101),(104,td104),(108,td108),(109,td109),(114,td114),(116,td116),(118,td118),(119,td119),(125,td125),(146,td146)]
def Tb:Nat->TD UU:=zGA tdL
theorem zl:TbOk CC Tryz.prog Tb:=zIS (by
 intro p hp
 simp only [tdL,List.mem_cons,List.not_mem_nil,or_false] at hp
 rcases hp with rfl | rfl | rfl | rfl | rfl | rfl | rfl | rfl | rfl | rfl | rfl | rfl | rfl | rfl | rfl | rfl | rfl | rfl | rfl | rfl | rfl | rfl | rfl | rfl | rfl | rfl | rfl | rfl | rfl | rfl | rfl | rfl | rfl | rfl | rfl | rfl
 · exact td3_ok
 · exact td4_ok
 · exact td5_ok
 · exact td9_ok
 · exact zPn
 · exact zRK
 · exact zPZ
 · exact zQa
 · exact zQU
 · exact zPr
 · exact zQE
 · exact zPf
 · exact zQH
 · exact zQy
 · exact zP3
 · exact zQW
 · exact zP1
 · exact zQ7
 · exact zRB
 · exact zRH
 · exact zQI
 · exact zQ0
 · exact zP0
 · exact zPt
 · exact zQS
 · exact zPz
 · exact zOx
 · exact zPI
 · exact zPM
 · exact zOF
 · exact zOq
 · exact zO2
 · exact zPE
 · exact zOQ
 · exact zOS
 · exact zOk)
end Go.Proofs.YtnamdpbcpnnhaaaGreatDoor
end
section
set_option linter.unusedVariables false
set_option linter.unusedSimpArgs false
namespace Go.Den
def zf (l:List (Nat×List (Nat×Nat×Nat))) (n:Nat):List (Nat×Nat×Nat):=(zB l n).getD []
end Go.Den
namespace Go.Proofs.YtnamdpbcpnnhaaaGreatDoor
open Go.Al Go.Den
abbrev PSt:=Int×List MT
abbrev MM (α:Type):=List TokT->PSt->Option (Option (α×PSt))
abbrev LK:=List (SK UU)
abbrev Str:=List UInt8
abbrev NdsT:=List Nd×Unit
abbrev k0:LK:=[]
abbrev kN:LK:=[.st TI.node]
abbrev kB:LK:=[.bool]
abbrev kS:LK:=[.str]
abbrev kI:LK:=[.int .i64]
abbrev kL:LK:=[.dl TI.str]
abbrev kM:LK:=[.mpo]
abbrev JT:=Int×(Int×NdsT)
abbrev LT:=List TokT
abbrev ck {ρ:Type} (n:Nat) (x:Option ρ):Option ρ:=cond (okN 40 n) x none
abbrev bo {α ρ:Type} (x:Option (Option α)) (f:α->Option (Option ρ)):Option (Option ρ):=Option.bind x fun o=>zJ o (some none) f
def ndE (x:Nd):Nd:=Nd.mk (Nd.kind x) (Nd.tok x) (Nd.kids x)
theorem yP (x:Nd):ndE x=x:=by cases x; rfl
abbrev parK:SK UU:=.box [.dl TI.tok,.int .i64,.scs,.jm]
abbrev parL:SK UU:=.box [.dl TI.tok,.int .i64,.scs,.mpo]
abbrev ptsK:SK UU:=.box [.ow true TI.node]
def syn:List PanicEntry:=[{ v:=.iface 61 (.agg #[]),recovered:=false }]
abbrev ParT:=List TokT×Int×List MT×Unit×Unit
abbrev zA9:=List TokT×Int×List MT×Option MT×Unit
def fM {aa rs:List (SK UU)} (m:zA aa->MM (zA rs)) {R:Type} (x:ParT×Unit) (a:zA aa) (pan:Option R) (K:ParT×Unit->zA rs->Option R):Option R:=
 Option.bind (m a x.1.1 (x.1.2.1,x.1.2.2.1)) fun o=>zJ o pan fun y=>K ((x.1.1,y.2.1,y.2.2,(),()),()) y.1
abbrev cM (aa rs:List (SK UU)) (m:zA aa->MM (zA rs)):CP UU:=⟨[parK],[parK],aa,rs,fun x a pan K=>fM m x a pan K⟩
def fX {aa rs:List (SK UU)} (m:zA aa->List Nd->MM (zA rs×List Nd)) {R:Type} (x:ParT×(List Nd×Unit)×Unit) (a:zA aa) (pan:Option R) (K:ParT×(List Nd×Unit)×Unit->zA rs->Option R):Option R:=
 Option.bind (m a x.2.1.1 x.1.1 (x.1.2.1,x.1.2.2.1)) fun o=>zJ o pan fun y=>K ((x.1.1,y.2.1,y.2.2,(),()),(y.1.2,()),()) y.1.1
abbrev cX (aa rs:List (SK UU)) (m:zA aa->List Nd->MM (zA rs×List Nd)):CP UU:=⟨[parK,ptsK],[parK,ptsK],aa,rs,fun x a pan K=>fX m x a pan K⟩
def fL {aa rs:List (SK UU)} (m:zA aa->MM (zA rs×Option MT)) {R:Type} (x:ParT×Unit) (a:zA aa) (pan:Option R) (K:zA9×Unit->zA rs->Option R):Option R:=
 Option.bind (m a x.1.1 (x.1.2.1,x.1.2.2.1)) fun o=>zJ o pan fun y=>K ((x.1.1,y.2.1,y.2.2,y.1.2,()),()) y.1.1
abbrev cL (aa rs:List (SK UU)) (m:zA aa->MM (zA rs×Option MT)):CP UU:=⟨[parK],[parL],aa,rs,fun x a pan K=>fL m x a pan K⟩
def fLj {aa rs:List (SK UU)} (m:zA aa->MM (zA rs×Option MT)) {R:Type} (x:ParT×Unit) (a:zA aa) (pan:Option R) (K:ParT×Unit->zA rs->Option R):Option R:=
 Option.bind (m a x.1.1 (x.1.2.1,x.1.2.2.1)) fun o=>zJ o pan fun y=>K ((x.1.1,y.2.1,y.2.2,(),()),()) y.1.1
abbrev cLj (aa rs:List (SK UU)) (m:zA aa->MM (zA rs×Option MT)):CP UU:=⟨[parK],[parK],aa,rs,fun x a pan K=>fLj m x a pan K⟩
abbrev parJ:SK UU:=.box [.dl TI.tok,.int .i64,.scs,.mpj]
abbrev xd:=List TokT×Int×List MT×Option (Option MT)×Unit
def fJ {aa rs:List (SK UU)} (m:zA aa->MM (zA rs)) {R:Type} (x:xd×Unit) (a:zA aa) (pan:Option R) (K:xd×Unit->zA rs->Option R):Option R:=
 Option.bind (m a x.1.1 (x.1.2.1,x.1.2.2.1)) fun o=>zJ o pan fun y=>K ((x.1.1,y.2.1,y.2.2,x.1.2.2.2.1,()),()) y.1
abbrev cJ (aa rs:List (SK UU)) (m:zA aa->MM (zA rs)):CP UU:=⟨[parJ],[parJ],aa,rs,fun x a pan K=>fJ m x a pan K⟩
def fN {aa rs:List (SK UU)} (m:zA aa->MM (zA rs×Option (Option MT))) {R:Type} (x:ParT×Unit) (a:zA aa) (pan:Option R) (K:xd×Unit->zA rs->Option R):Option R:=
 Option.bind (m a x.1.1 (x.1.2.1,x.1.2.2.1)) fun o=>zJ o pan fun y=>K ((x.1.1,y.2.1,y.2.2,y.1.2,()),()) y.1.1
abbrev cN (aa rs:List (SK UU)) (m:zA aa->MM (zA rs×Option (Option MT))):CP UU:=⟨[parK],[parJ],aa,rs,fun x a pan K=>fN m x a pan K⟩
def fNj {aa rs:List (SK UU)} (m:zA aa->MM (zA rs×Option (Option MT))) {R:Type} (x:ParT×Unit) (a:zA aa) (pan:Option R) (K:ParT×Unit->zA rs->Option R):Option R:=
 Option.bind (m a x.1.1 (x.1.2.1,x.1.2.2.1)) fun o=>zJ o pan fun y=>K ((x.1.1,y.2.1,y.2.2,(),()),()) y.1.1
abbrev cNj (aa rs:List (SK UU)) (m:zA aa->MM (zA rs×Option (Option MT))):CP UU:=⟨[parK],[parK],aa,rs,fun x a pan K=>fNj m x a pan K⟩
abbrev xq:CP UU:=⟨[],[],[.bool],[],fun x a pan K=>cond (show Bool×Unit from a).1 (K () ()) pan⟩
abbrev zO:CR UU:=⟨[ptsK,.int .i64],[.st TI.node],fun x K=>K (Nd.mk (show (List Nd×Unit)×Int×Unit from x).2.1 0 (show (List Nd×Unit)×Int×Unit from x).1.1,())⟩
abbrev rdK:SK UU:=.box [.str,.int .i64]
abbrev RdT:=Str×Int×Unit
abbrev DD (α:Type):=Str->Int->Option (α×Int)
def fD {aa rs:List (SK UU)} (m:zA aa->DD (zA rs)) {R:Type} (x:RdT×Unit) (a:zA aa) (K:RdT×Unit->zA rs->Option R):Option R:=
 Option.bind (m a x.1.1 x.1.2.1) fun y=>K ((x.1.1,y.2,()),()) y.1
abbrev cD (aa rs:List (SK UU)) (m:zA aa->DD (zA rs)):CP UU:=⟨[rdK],[rdK],aa,rs,fun x a _ K=>fD m x a K⟩
def fRD {aa rs:List (SK UU)} (m:zA aa->Str->Int->Option (zA rs)) {R:Type} (x:RdT×zA aa) (K:zA rs->Option R):Option R:=
 Option.bind (m x.2 x.1.1 x.1.2.1) fun y=>K y
abbrev cRD (aa rs:List (SK UU)) (m:zA aa->Str->Int->Option (zA rs)):CR UU:=⟨rdK::aa,rs,fun x K=>fRD m x K⟩
end Go.Proofs.YtnamdpbcpnnhaaaGreatDoor
end
section
set_option linter.unusedVariables false
set_option linter.unusedSimpArgs false
namespace Go.Proofs.YtnamdpbcpnnhaaaGreatDoor
open Go.Al Go.Den
abbrev as15:List (AK UU):=[.str]
abbrev rs15:List (AK UU):=[.bool]
abbrev as33:List (AK UU):=[.dl TI.str,.str]
abbrev rs33:List (AK UU):=[.bool]
def kf40:Nat->List Nat
 | 0=>[0,2]
 | 1=>[2]
 | _=>[]
def hd40:List (Nat×Head UU):=[]
def jn40:List (Nat×Head UU):=[]
noncomputable def fd40:FD UU:=⟨⟨fun d=>hasN [] d,fun d=>hasN [] d,kf40,zB hd40,zB jn40,zf []⟩,zZ Tryz.f40,5,[.cell 2 29]⟩
def kf54:Nat->List Nat
 | 0=>[0,1]
 | 1=>[0,1,5]
 | 2=>[0,4]
 | _=>[]
def hd54:List (Nat×Head UU):=[]
def jn54:List (Nat×Head UU):=[]
noncomputable def fd54:FD UU:=⟨⟨fun d=>hasN [] d,fun d=>hasN [] d,kf54,zB hd54,zB jn54,zf []⟩,zZ Tryz.f54,15,[.tmp 4]⟩
def kf72:Nat->List Nat
 | 0=>[0,1]
 | 1=>[0,1,17]
 | 2=>[0,4]
 | 3=>[0,5]
 | 4=>[0,5,37]
 | 5=>[0,4]
 | 6=>[0,4]
 | _=>[]
def hd72:List (Nat×Head UU):=[]
def jn72:List (Nat×Head UU):=[]
noncomputable def fd72:FD UU:=⟨⟨fun d=>hasN [] d,fun d=>hasN [] d,kf72,zB hd72,zB jn72,zf []⟩,zZ Tryz.f72,40,[.tmp 4]⟩
def kf73:Nat->List Nat
 | 0=>[0,2]
 | 1=>[0,2]
 | 2=>[0,2]
 | 3=>[0,2]
 | _=>[]
def hd73:List (Nat×Head UU):=[]
def jn73:List (Nat×Head UU):=[]
noncomputable def fd73:FD UU:=⟨⟨fun d=>hasN [] d,fun d=>hasN [] d,kf73,zB hd73,zB jn73,zf []⟩,zZ Tryz.f73,27,[.cell 2 29]⟩
def kf78:Nat->List Nat
 | 0=>[0,1,4]
 | 1=>[0,4]
 | 2=>[0,4]
 | _=>[]
def hd78:List (Nat×Head UU):=[]
def jn78:List (Nat×Head UU):=[]
noncomputable def fd78:FD UU:=⟨⟨fun d=>hasN [] d,fun d=>hasN [] d,kf78,zB hd78,zB jn78,zf []⟩,zZ Tryz.f78,12,[.cell 4 29]⟩
def kf80:Nat->List Nat
 | 0=>[0,2]
 | 1=>[0,2]
 | 2=>[0,2]
 | _=>[]
def hd80:List (Nat×Head UU):=[]
def jn80:List (Nat×Head UU):=[]
noncomputable def fd80:FD UU:=⟨⟨fun d=>hasN [] d,fun d=>hasN [] d,kf80,zB hd80,zB jn80,zf []⟩,zZ Tryz.f80,8,[.cell 2 29]⟩
def kf84:Nat->List Nat
 | 0=>[0,1]
 | 1=>[0,1,5]
 | 2=>[0,4]
 | _=>[]
def hd84:List (Nat×Head UU):=[]
def jn84:List (Nat×Head UU):=[]
noncomputable def fd84:FD UU:=⟨⟨fun d=>hasN [] d,fun d=>hasN [] d,kf84,zB hd84,zB jn84,zf []⟩,zZ Tryz.f84,34,[.tmp 4]⟩
def kf85:Nat->List Nat
 | 0=>[0,1]
 | 1=>[0,4]
 | _=>[]
def hd85:List (Nat×Head UU):=[]
def jn85:List (Nat×Head UU):=[]
noncomputable def fd85:FD UU:=⟨⟨fun d=>hasN [] d,fun d=>hasN [] d,kf85,zB hd85,zB jn85,zf []⟩,zZ Tryz.f85,50,[.tmp 4]⟩
def kf112:Nat->List Nat
 | 0=>[0,1]
 | 1=>[0,4]
 | _=>[]
def hd112:List (Nat×Head UU):=[]
def jn112:List (Nat×Head UU):=[]
noncomputable def fd112:FD UU:=⟨⟨fun d=>hasN [] d,fun d=>hasN [] d,kf112,zB hd112,zB jn112,zf []⟩,zZ Tryz.f112,30,[.tmp 4]⟩
noncomputable def run72 (fu:Nat) (x:zA [parJ]) (a:zA ([.int .i64]:LK)):Option (Option (zA [parJ]×zA ([.str]:LK))):=
 runP CC Tb fu 2 (zB []) (zB []) (zB []) (zB []) fd72 [parJ] [parJ] ([.int .i64]:LK) ([.str]:LK) x a
theorem fdok72:FDOk Tryz.prog (hasN []) (hasN []) 72 fd72:=⟨⟨Tryz.f72,Tryz.func72,by kernel_rfl,Tryz.ntmps72,Tryz.results72⟩,by kernel_rfl,by kernel_rfl,by kernel_rfl⟩
noncomputable def run54 (fu:Nat) (c33:List (List UInt8)×List UInt8×Unit->Option (Bool×Unit)) (c72:zA ([.int .i64]:LK)->MM (zA ([.str]:LK))) (x:zA [parJ]) (a:zA ([.dl TI.str]:LK)):Option (Option (zA [parJ]×zA ([.bool]:LK))):=
 runP CC Tb fu 2 (zB []) (zB [(33,(⟨as33,rs33,c33⟩:Con UU))]) (zB []) (zB [(72,cJ ([.int .i64]:LK) ([.str]:LK) c72)]) fd54 [parJ] [parJ] ([.dl TI.str]:LK) ([.bool]:LK) x a
theorem fdok54:FDOk Tryz.prog (hasN [33]) (hasN []) 54 fd54:=⟨⟨Tryz.f54,Tryz.func54,by kernel_rfl,Tryz.ntmps54,Tryz.results54⟩,by kernel_rfl,by kernel_rfl,by kernel_rfl⟩
noncomputable def run85 (fu:Nat) (c15:List UInt8×Unit->Option (Bool×Unit)) (x:zA [parK]) (a:zA ([.int .i64]:LK)):Option (Option (zA [parK]×zA ([.bool]:LK))):=
 runP CC Tb fu 2 (zB []) (zB [(15,(⟨as15,rs15,c15⟩:Con UU))]) (zB []) (zB []) fd85 [parK] [parK] ([.int .i64]:LK) ([.bool]:LK) x a
theorem fdok85:FDOk Tryz.prog (hasN [15]) (hasN []) 85 fd85:=⟨⟨Tryz.f85,Tryz.func85,by kernel_rfl,Tryz.ntmps85,Tryz.results85⟩,by kernel_rfl,by kernel_rfl,by kernel_rfl⟩
noncomputable def run112 (fu:Nat) (x:zA [parK]) (a:zA ([.int .i64]:LK)):Option (Option (zA [parK]×zA ([.bool]:LK))):=
 runP CC Tb fu 2 (zB []) (zB []) (zB []) (zB []) fd112 [parK] [parK] ([.int .i64]:LK) ([.bool]:LK) x a
theorem zQc:FDOk Tryz.prog (hasN []) (hasN []) 112 fd112:=⟨⟨Tryz.f112,Tryz.func112,by kernel_rfl,Tryz.ntmps112,Tryz.results112⟩,by kernel_rfl,by kernel_rfl,by kernel_rfl⟩
noncomputable def run73 (fu:Nat) (x:zA [parK]) (a:zA ([]:LK)):Option (Option (zA [parK]×zA ([.st TI.node]:LK))):=
 runP CC Tb fu 3 (zB [(40,fd40)]) (zB []) (zB []) (zB [(77,xq)]) fd73 [parK] [parK] ([]:LK) ([.st TI.node]:LK) x a
theorem fdok73:FDOk Tryz.prog (hasN []) (hasN []) 73 fd73:=⟨⟨Tryz.f73,Tryz.func73,by kernel_rfl,Tryz.ntmps73,Tryz.results73⟩,by kernel_rfl,by kernel_rfl,by kernel_rfl⟩
theorem zNt:FDOk Tryz.prog (hasN []) (hasN []) 40 fd40:=⟨⟨Tryz.f40,Tryz.func40,by kernel_rfl,Tryz.ntmps40,Tryz.results40⟩,by kernel_rfl,by kernel_rfl,by kernel_rfl⟩
noncomputable def run78 (fu:Nat) (c54:zA ([.dl TI.str]:LK)->MM (zA ([.bool]:LK))) (c73:zA ([]:LK)->MM (zA ([.st TI.node]:LK))) (x:zA [parK]) (a:zA ([.str]:LK)):Option (Option (zA [parK]×zA ([.st TI.node]:LK))):=
 runP CC Tb fu 2 (zB []) (zB []) (zB []) (zB [(54,cJ ([.dl TI.str]:LK) ([.bool]:LK) c54),(73,cM ([]:LK) ([.st TI.node]:LK) c73),(77,xq)]) fd78 [parK] [parK] ([.str]:LK) ([.st TI.node]:LK) x a
theorem fdok78:FDOk Tryz.prog (hasN []) (hasN []) 78 fd78:=⟨⟨Tryz.f78,Tryz.func78,by kernel_rfl,Tryz.ntmps78,Tryz.results78⟩,by kernel_rfl,by kernel_rfl,by kernel_rfl⟩
noncomputable def run80 (fu:Nat) (c73:zA ([]:LK)->MM (zA ([.st TI.node]:LK))) (c85:zA ([.int .i64]:LK)->MM (zA ([.bool]:LK))) (x:zA [parK]) (a:zA ([]:LK)):Option (Option (zA [parK]×zA ([.st TI.node]:LK))):=
 runP CC Tb fu 2 (zB []) (zB []) (zB []) (zB [(73,cM ([]:LK) ([.st TI.node]:LK) c73),(77,xq),(85,cM ([.int .i64]:LK) ([.bool]:LK) c85)]) fd80 [parK] [parK] ([]:LK) ([.st TI.node]:LK) x a
theorem fdok80:FDOk Tryz.prog (hasN []) (hasN []) 80 fd80:=⟨⟨Tryz.f80,Tryz.func80,by kernel_rfl,Tryz.ntmps80,Tryz.results80⟩,by kernel_rfl,by kernel_rfl,by kernel_rfl⟩
noncomputable def run84 (fu:Nat) (c33:List (List UInt8)×List UInt8×Unit->Option (Bool×Unit)) (c72:zA ([.int .i64]:LK)->MM (zA ([.str]:LK))) (c76:zA ([.int .i64]:LK)->MM (zA ([.bool]:LK))) (x:zA [parK]) (a:zA ([.int .i64]:LK)):Option (Option (zA [parK]×zA ([.bool]:LK))):=
 runP CC Tb fu 2 (zB []) (zB [(33,(⟨as33,rs33,c33⟩:Con UU))]) (zB []) (zB [(72,cJ ([.int .i64]:LK) ([.str]:LK) c72),(76,cM ([.int .i64]:LK) ([.bool]:LK) c76)]) fd84 [parK] [parK] ([.int .i64]:LK) ([.bool]:LK) x a
theorem fdok84:FDOk Tryz.prog (hasN [33]) (hasN []) 84 fd84:=⟨⟨Tryz.f84,Tryz.func84,by kernel_rfl,Tryz.ntmps84,Tryz.results84⟩,by kernel_rfl,by kernel_rfl,by kernel_rfl⟩
end Go.Proofs.YtnamdpbcpnnhaaaGreatDoor
end
section
set_option linter.unusedVariables false
set_option linter.unusedSimpArgs false
namespace Go.Proofs.YtnamdpbcpnnhaaaGreatDoor
open Go.Al Go.Den
instance:DecidableEq TokT:=fun a b=>
 if h:a.kind=b.kind/\a.text=b.text/\a.file=b.file/\a.ffrom=b.ffrom/\a.fto=b.fto/\a.blank=b.blank then
  isTrue (by obtain ⟨_,_,_,_,_,_⟩:=a; obtain ⟨_,_,_,_,_,_⟩:=b; simp only at h; obtain ⟨rfl,rfl,rfl,rfl,rfl,rfl⟩:=h; rfl)
 else isFalse fun e=>h (by subst e; exact ⟨rfl,rfl,rfl,rfl,rfl,rfl⟩)
theorem zCG {P:Program} {f:Nat} {io oo aa rs:List (SK UU)} {sh:zA io->zA aa->Option (Option (zA oo×zA rs))} (h:CPOk CC P syn f ⟨io,oo,aa,rs,fnP sh⟩) (x:zA io) (a:zA aa) (oc:Option (zA oo×zA rs)) (hx:sh x a=some oc) :
 ∀ s vx va r1 r2,VKs CC s io x vx r1->VKs CC s aa a va r2->(r1++r2).Nodup->FnC P f (vx++va) (subS s (r1++r2)) (jZ CC syn oo rs vx oc):=by
 cases oc with
 | none=>
  obtain ⟨oc,h1,h2⟩:=h x a (R:=Unit) (some ()) (fun _ _=>none) () (by simp only [fnP,hx]; rfl)
  cases oc with
  | none=>exact h2
  | some y=>cases h1
 | some y=>
  obtain ⟨oc,h1,h2⟩:=h x a (R:=zA oo×zA rs) none (fun u v=>some (u,v)) y (by simp only [fnP,hx]; rfl)
  cases oc with
  | none=>cases h1
  | some y'=>
   injection h1 with h1
   have:y' = y:=h1
   subst this
   exact h2
def outM {β:Type} (l:List TokT):Option (Option ((ParT×Unit)×β))->Option (Option (β×PSt))
 | none=>none
 | some none=>some none
 | some (some y)=>if y.1.1.1=l then some (some (y.2,y.1.1.2.1,y.1.1.2.2.1)) else none
def outX {β:Type} (l:List TokT):Option (Option ((ParT×NdsT×Unit)×β))->Option (Option ((β×List Nd)×PSt))
 | none=>none
 | some none=>some none
 | some (some y)=>if y.1.1.1=l then some (some ((y.2,y.1.2.1.1),y.1.1.2.1,y.1.1.2.2.1)) else none
def outL {β:Type} (l:List TokT):Option (Option ((zA9×Unit)×β))->Option (Option ((β×Option MT)×PSt))
 | none=>none
 | some none=>some none
 | some (some y)=>if y.1.1.1=l then some (some ((y.2,y.1.1.2.2.2.1),y.1.1.2.1,y.1.1.2.2.1)) else none
noncomputable def mM {aa rs:LK} (sh:ParT×Unit->zA aa->Option (Option ((ParT×Unit)×zA rs))):zA aa->MM (zA rs):=fun a l s=>outM l (sh ((l,s.1,s.2,(),()),()) a)
noncomputable def mX {aa rs:LK} (sh:ParT×NdsT×Unit->zA aa->Option (Option ((ParT×NdsT×Unit)×zA rs))):zA aa->List Nd->MM (zA rs×List Nd):=fun a pts l s=>outX l (sh ((l,s.1,s.2,(),()),(pts,()),()) a)
noncomputable def mL {aa rs:LK} (sh:ParT×Unit->zA aa->Option (Option ((zA9×Unit)×zA rs))):zA aa->MM (zA rs×Option MT):=fun a l s=>outL l (sh ((l,s.1,s.2,(),()),()) a)
theorem zEH {P:Program} {f:Nat} {aa rs:List (SK UU)} {m:zA aa->MM (zA rs)} (h:∀ l i xs a o,m a l (i,xs)=some o->∀ (st:S) vx va r1 r2,VKs CC st [parK] ((l,i,xs,(),()),()) vx r1->VKs CC st aa a va r2->(r1++r2).Nodup ->
 FnC P f (vx++va) (subS st (r1++r2)) (jZ CC syn [parK] rs vx (o.map fun y=>(((l,y.2.1,y.2.2,(),()),()),y.1)))):CPOk CC P syn f (cM aa rs m):=by
 intro x a R pan K r hr
 obtain ⟨⟨l,i,xs,u,u'⟩,u''⟩:=x
 replace hr:fM m ((l,i,xs,u,u'),u'') a pan K=some r:=hr
 simp only [fM] at hr
 cases hm:m a l (i,xs) with
 | none=>rw [hm] at hr; cases hr
 | some o=>
  rw [hm] at hr
  refine ⟨_,?_,fun s vx va r1 r2 h1 h2 h3=>h l i xs a o hm s vx va r1 r2 h1 h2 h3⟩
  cases o <;> exact hr
theorem xC {P:Program} {f:Nat} {aa rs:LK} {sh:zA ([parK]:LK)->zA aa->Option (Option (zA ([parK]:LK)×zA rs))} (h:CPOk CC P syn f ⟨[parK],[parK],aa,rs,fnP sh⟩):CPOk CC P syn f (cM aa rs (mM sh)):=by
 refine zEH fun l i xs a o ho st vx va r1 r2 h1 h2 hn=>?_
 have key:∀ oo:Option (Option ((ParT×Unit)×zA rs)),sh ((l,i,xs,(),()),()) a=oo->outM l oo=some o->FnC P f (vx++va) (subS st (r1++r2)) (jZ CC syn [parK] rs vx (o.map fun y=>(((l,y.2.1,y.2.2,(),()),()),y.1))):=by
  intro oo hs ho
  cases oo with
  | none=>cases ho
  | some oc=>
   have hh:=zCG h ((l,i,xs,(),()),()) a oc hs st vx va r1 r2 h1 h2 hn
   cases oc with
   | none=>injection ho with ho; subst ho; exact hh
   | some y=>
    obtain ⟨⟨⟨l',i',xs',u,u'⟩,u''⟩,z⟩:=y
    unfold outM at ho
    simp only at ho
    split at ho
    · rename_i hy
      injection ho with ho
      subst ho
      subst hy
      exact hh
    · cases ho
 exact key _ rfl ho
theorem zHw {P:Program} {f:Nat} {aa rs:LK} {sh:zA ([parK,ptsK]:LK)->zA aa->Option (Option (zA ([parK,ptsK]:LK)×zA rs))} (h:CPOk CC P syn f ⟨[parK,ptsK],[parK,ptsK],aa,rs,fnP sh⟩):CPOk CC P syn f (cX aa rs (mX sh)):=by
 intro x a R pan K r hr
 obtain ⟨⟨l,i,xs,u,u'⟩,⟨pts,v⟩,v'⟩:=x
 have key:∀ oo:Option (Option ((ParT×NdsT×Unit)×zA rs)),sh ((l,i,xs,(),()),(pts,()),()) a=oo->(Option.bind (outX l oo) fun o=>zJ o pan fun y=>K ((l,y.2.1,y.2.2,(),()),(y.1.2,()),()) y.1.1)=some r ->
  ∃ oc:Option (zA ([parK,ptsK]:LK)×zA rs),(match oc with | none=>pan=some r | some y=>K y.1 y.2=some r)/\∀ s vx va r1 r2,VKs CC s [parK,ptsK] ((l,i,xs,u,u'),(pts,v),v') vx r1->VKs CC s aa a va r2->(r1++r2).Nodup->FnC P f (vx++va) (subS s (r1++r2)) (jZ CC syn [parK,ptsK] rs vx oc):=by
  intro oo hs hr
  cases oo with
  | none=>cases hr
  | some oc=>
   have hh:=zCG h ((l,i,xs,(),()),(pts,()),()) a oc hs
   cases oc with
   | none=>exact ⟨none,hr,hh⟩
   | some y=>
    obtain ⟨⟨⟨l',i',xs',w,w'⟩,⟨pts',v1⟩,v2⟩,z⟩:=y
    unfold outX at hr
    simp only at hr
    split at hr
    · rename_i hy
      subst hy
      exact ⟨some (((l',i',xs',(),()),(pts',()),()),z),hr,hh⟩
    · cases hr
 obtain ⟨oc,h1,h2⟩:=key _ rfl hr
 exact ⟨oc,by cases oc <;> exact h1,h2⟩
theorem cL_of {P:Program} {f:Nat} {aa rs:LK} {sh:zA ([parK]:LK)->zA aa->Option (Option (zA ([parL]:LK)×zA rs))} (h:CPOk CC P syn f ⟨[parK],[parL],aa,rs,fnP sh⟩):CPOk CC P syn f (cL aa rs (mL sh)):=by
 intro x a R pan K r hr
 obtain ⟨⟨l,i,xs,u,u'⟩,u''⟩:=x
 have key:∀ oo:Option (Option ((zA9×Unit)×zA rs)),sh ((l,i,xs,(),()),()) a=oo->(Option.bind (outL l oo) fun o=>zJ o pan fun y=>K ((l,y.2.1,y.2.2,y.1.2,()),()) y.1.1)=some r ->
  ∃ oc:Option (zA ([parL]:LK)×zA rs),(match oc with | none=>pan=some r | some y=>K y.1 y.2=some r)/\∀ s vx va r1 r2,VKs CC s [parK] ((l,i,xs,u,u'),u'') vx r1->VKs CC s aa a va r2->(r1++r2).Nodup->FnC P f (vx++va) (subS s (r1++r2)) (jZ CC syn [parL] rs vx oc):=by
  intro oo hs hr
  cases oo with
  | none=>cases hr
  | some oc=>
   have hh:=zCG h ((l,i,xs,(),()),()) a oc hs
   cases oc with
   | none=>exact ⟨none,hr,hh⟩
   | some y=>
    obtain ⟨⟨⟨l',i',xs',m,w'⟩,v2⟩,z⟩:=y
    unfold outL at hr
    simp only at hr
    split at hr
    · rename_i hy
      subst hy
      exact ⟨some (((l',i',xs',m,()),()),z),hr,hh⟩
    · cases hr
 obtain ⟨oc,h1,h2⟩:=key _ rfl hr
 exact ⟨oc,by cases oc <;> exact h1,h2⟩
theorem cLj_of {P:Program} {f:Nat} {aa rs:LK} {m:zA aa->MM (zA rs×Option MT)} (h:CPOk CC P syn f (cL aa rs m)):CPOk CC P syn f (cLj aa rs m):=by
 intro x a R pan K r hr
 obtain ⟨oc,h1,h2⟩:=h x a (R:=R) pan (fun y z=>K ((y.1.1,y.1.2.1,y.1.2.2.1,(),()),()) z) r hr
 cases oc with
 | none=>exact ⟨none,h1,h2⟩
 | some y=>
  obtain ⟨⟨⟨l',i',xs',mm,w'⟩,v2⟩,z⟩:=y
  refine ⟨some (((l',i',xs',(),()),()),z),h1,fun s vx va r1 r2 k1 k2 k3=>?_⟩
  have hh:=h2 s vx va r1 r2 k1 k2 k3
  intro B g w vs hi hgl hv
  refine (hh B g w vs hi hgl hv).mono ?_
  rintro e w' ⟨g',s1,q1,q2,q3⟩
  cases e with
  | outgrown=>exact q3.elim
  | panicked c=>exact ⟨g',s1,q1,q2,q3⟩
  | returned v=>
   obtain ⟨ru,q4,q5⟩:=q3
   refine ⟨g',s1,q1,q2,ru,q4,?_⟩
   obtain ⟨ws,p1,p2,p3,p4,p5,p6⟩:=q5
   simp only [VKs,VK] at p3
   obtain ⟨v0,vs0,t1,t2,rfl,rfl,⟨b0,cs,t3,rfl,e1,e2,rfl⟩,rfl,rfl⟩:=p3
   obtain ⟨v1,w1,a1,a2,rfl,rfl,⟨rfl,rfl⟩,v2,w2,a3,a4,rfl,rfl,⟨rfl,rfl⟩,v3,w3,a5,a6,rfl,rfl,⟨b,cap,fp,rfl,e3,rfl⟩,v4,w4,a7,a8,rfl,rfl,e4,rfl,rfl⟩:=e2
   have hv4:∃ m,v4 = .at (.map m):=by
    cases mm with
    | none=>exact ⟨none,e4.1⟩
    | some c=>obtain ⟨bm,_,rfl,_⟩:=e4; exact ⟨some bm,rfl⟩
   refine ⟨ws,[.inr b0,.ob b],p2,?_,p4,?_,p6⟩
   · simp only [VKs,VK]
     exact ⟨_,[],_,[],rfl,rfl,⟨b0,_,[.ob b],rfl,e1,⟨_,_,[],[.ob b],rfl,rfl,⟨rfl,rfl⟩,_,_,[],[.ob b],rfl,rfl,⟨rfl,rfl⟩,_,_,[.ob b],[],rfl,rfl,⟨b,cap,fp,rfl,e3,rfl⟩,_,_,[],[],rfl,rfl,⟨hv4,rfl⟩,rfl,rfl⟩,rfl⟩,rfl,rfl⟩
   · simp only [List.nil_append,List.append_nil,List.cons_append] at p5 ⊢
     refine p5.sublist ?_
     refine List.Sublist.cons_cons _ (List.Sublist.cons_cons _ ?_)
     exact List.sublist_append_right a7 p2
def outN {β:Type} (l:List TokT):Option (Option ((xd×Unit)×β))->Option (Option ((β×Option (Option MT))×PSt))
 | none=>none
 | some none=>some none
 | some (some y)=>if y.1.1.1=l then some (some ((y.2,y.1.1.2.2.2.1),y.1.1.2.1,y.1.1.2.2.1)) else none
noncomputable def mN {aa rs:LK} (sh:ParT×Unit->zA aa->Option (Option ((xd×Unit)×zA rs))):zA aa->MM (zA rs×Option (Option MT)):=fun a l s=>outN l (sh ((l,s.1,s.2,(),()),()) a)
theorem cN_of {P:Program} {f:Nat} {aa rs:LK} {sh:zA ([parK]:LK)->zA aa->Option (Option (zA ([parJ]:LK)×zA rs))} (h:CPOk CC P syn f ⟨[parK],[parJ],aa,rs,fnP sh⟩):CPOk CC P syn f (cN aa rs (mN sh)):=by
 intro x a R pan K r hr
 obtain ⟨⟨l,i,xs,u,u'⟩,u''⟩:=x
 have key:∀ oo:Option (Option ((xd×Unit)×zA rs)),sh ((l,i,xs,(),()),()) a=oo->(Option.bind (outN l oo) fun o=>zJ o pan fun y=>K ((l,y.2.1,y.2.2,y.1.2,()),()) y.1.1)=some r ->
  ∃ oc:Option (zA ([parJ]:LK)×zA rs),(match oc with | none=>pan=some r | some y=>K y.1 y.2=some r)/\∀ s vx va r1 r2,VKs CC s [parK] ((l,i,xs,u,u'),u'') vx r1->VKs CC s aa a va r2->(r1++r2).Nodup->FnC P f (vx++va) (subS s (r1++r2)) (jZ CC syn [parJ] rs vx oc):=by
  intro oo hs hr
  cases oo with
  | none=>cases hr
  | some oc=>
   have hh:=zCG h ((l,i,xs,(),()),()) a oc hs
   cases oc with
   | none=>exact ⟨none,hr,hh⟩
   | some y=>
    obtain ⟨⟨⟨l',i',xs',m,w'⟩,v2⟩,z⟩:=y
    unfold outN at hr
    simp only at hr
    split at hr
    · rename_i hy
      subst hy
      exact ⟨some (((l',i',xs',m,()),()),z),hr,hh⟩
    · cases hr
 obtain ⟨oc,h1,h2⟩:=key _ rfl hr
 exact ⟨oc,by cases oc <;> exact h1,h2⟩
theorem zJI {P:Program} {f:Nat} {aa rs:LK} {m:zA aa->MM (zA rs×Option (Option MT))} (h:CPOk CC P syn f (cN aa rs m)):CPOk CC P syn f (cNj aa rs m):=by
 intro x a R pan K r hr
 obtain ⟨oc,h1,h2⟩:=h x a (R:=R) pan (fun y z=>K ((y.1.1,y.1.2.1,y.1.2.2.1,(),()),()) z) r hr
 cases oc with
 | none=>exact ⟨none,h1,h2⟩
 | some y=>
  obtain ⟨⟨⟨l',i',xs',mm,w'⟩,v2⟩,z⟩:=y
  refine ⟨some (((l',i',xs',(),()),()),z),h1,fun s vx va r1 r2 k1 k2 k3=>?_⟩
  have hh:=h2 s vx va r1 r2 k1 k2 k3
  intro B g w vs hi hgl hv
  refine (hh B g w vs hi hgl hv).mono ?_
  rintro e w' ⟨g',s1,q1,q2,q3⟩
  cases e with
  | outgrown=>exact q3.elim
  | panicked c=>exact ⟨g',s1,q1,q2,q3⟩
  | returned v=>
   obtain ⟨ru,q4,q5⟩:=q3
   refine ⟨g',s1,q1,q2,ru,q4,?_⟩
   obtain ⟨ws,p1,p2,p3,p4,p5,p6⟩:=q5
   simp only [VKs,VK] at p3
   obtain ⟨v0,vs0,t1,t2,rfl,rfl,⟨b0,cs,t3,rfl,e1,e2,rfl⟩,rfl,rfl⟩:=p3
   obtain ⟨v1,w1,a1,a2,rfl,rfl,⟨rfl,rfl⟩,v2,w2,a3,a4,rfl,rfl,⟨rfl,rfl⟩,v3,w3,a5,a6,rfl,rfl,⟨b,cap,fp,rfl,e3,rfl⟩,v4,w4,a7,a8,rfl,rfl,e4,rfl,rfl⟩:=e2
   have hv4:∃ m,v4 = .at (.map m):=by
    cases mm with
    | none=>exact e4.1
    | some mm=>
     cases mm with
     | none=>exact ⟨none,e4.1⟩
     | some c=>obtain ⟨bm,_,rfl,_⟩:=e4; exact ⟨some bm,rfl⟩
   refine ⟨ws,[.inr b0,.ob b],p2,?_,p4,?_,p6⟩
   · simp only [VKs,VK]
     exact ⟨_,[],_,[],rfl,rfl,⟨b0,_,[.ob b],rfl,e1,⟨_,_,[],[.ob b],rfl,rfl,⟨rfl,rfl⟩,_,_,[],[.ob b],rfl,rfl,⟨rfl,rfl⟩,_,_,[.ob b],[],rfl,rfl,⟨b,cap,fp,rfl,e3,rfl⟩,_,_,[],[],rfl,rfl,⟨hv4,rfl⟩,rfl,rfl⟩,rfl⟩,rfl,rfl⟩
   · simp only [List.nil_append,List.append_nil,List.cons_append] at p5 ⊢
     refine p5.sublist ?_
     refine List.Sublist.cons_cons _ (List.Sublist.cons_cons _ ?_)
     exact List.sublist_append_right a7 p2
def outJ {β:Type} (l:List TokT):Option (Option ((xd×Unit)×β))->Option (Option (β×PSt))
 | none=>none
 | some none=>some none
 | some (some y)=>if y.1.1.1=l then some (some (y.2,y.1.1.2.1,y.1.1.2.2.1)) else none
noncomputable def mJ {aa rs:LK} (sh:xd×Unit->zA aa->Option (Option ((xd×Unit)×zA rs))):zA aa->MM (zA rs):=fun a l s=>outJ l (sh ((l,s.1,s.2,none,()),()) a)
def putJ {β:Type} (m:Option (Option MT)) (o:Option (Option ((xd×Unit)×β))):Option (Option ((xd×Unit)×β)):=o.map fun o=>o.map fun y=>(((y.1.1.1,y.1.1.2.1,y.1.1.2.2.1,m,()),()),y.2)
section
variable {β γ:Type} (m:Option (Option MT))
theorem zNS:putJ m (none:Option (Option ((xd×Unit)×β)))=none:=rfl
theorem zO1:putJ m (some none:Option (Option ((xd×Unit)×β)))=some none:=rfl
theorem zMf (l:List TokT) (i:Int) (xs:List MT) (m':Option (Option MT)) (u u':Unit) (z:β):putJ m (some (some (((l,i,xs,m',u),u'),z)))=some (some (((l,i,xs,m,()),()),z)):=rfl
theorem zNk (b:Bool) (x y:Option (Option ((xd×Unit)×β))):putJ m (cond b x y)=cond b (putJ m x) (putJ m y):=by cases b <;> rfl
theorem zNZ (o:Option γ) (f:γ->Option (Option ((xd×Unit)×β))):putJ m (Option.bind o f)=Option.bind o fun y=>putJ m (f y):=by cases o <;> rfl
theorem zLs (o:Option γ) (p:Option (Option ((xd×Unit)×β))) (f:γ->Option (Option ((xd×Unit)×β))):putJ m (zJ o p f)=zJ o (putJ m p) fun y=>putJ m (f y):=by cases o <;> rfl
theorem zX {R:Type} (p:R) (f:γ->R):zJ none p f=p:=rfl
theorem zY {R:Type} (x:γ) (p:R) (f:γ->R):zJ (some x) p f=f x:=rfl
end
theorem cJ_of {P:Program} {f:Nat} {aa rs:LK} {sh:zA ([parJ]:LK)->zA aa->Option (Option (zA ([parJ]:LK)×zA rs))} (h:CPOk CC P syn f ⟨[parJ],[parJ],aa,rs,fnP sh⟩)
 (hsh:∀ l i xs m a,sh ((l,i,xs,m,()),()) a=putJ m (sh ((l,i,xs,none,()),()) a)):CPOk CC P syn f (cJ aa rs (mJ sh)):=by
 intro x a R pan K r hr
 obtain ⟨⟨l,i,xs,m,u'⟩,u''⟩:=x
 have key:∀ oo:Option (Option ((xd×Unit)×zA rs)),sh ((l,i,xs,none,()),()) a=oo->(Option.bind (outJ l oo) fun o=>zJ o pan fun y=>K ((l,y.2.1,y.2.2,m,()),()) y.1)=some r ->
  ∃ oc:Option (zA ([parJ]:LK)×zA rs),(match oc with | none=>pan=some r | some y=>K y.1 y.2=some r)/\∀ s vx va r1 r2,VKs CC s [parJ] ((l,i,xs,m,u'),u'') vx r1->VKs CC s aa a va r2->(r1++r2).Nodup->FnC P f (vx++va) (subS s (r1++r2)) (jZ CC syn [parJ] rs vx oc):=by
  intro oo hs hr
  have hm:=hsh l i xs m a
  rw [hs] at hm
  cases oo with
  | none=>cases hr
  | some oc=>
   cases oc with
   | none=>exact ⟨none,hr,zCG h ((l,i,xs,m,()),()) a none hm⟩
   | some y=>
    obtain ⟨⟨⟨l',i',xs',m',w'⟩,v2⟩,z⟩:=y
    have hh:=zCG h ((l,i,xs,m,()),()) a (some (((l',i',xs',m,()),()),z)) hm
    unfold outJ at hr
    simp only at hr
    split at hr
    · rename_i hy
      subst hy
      exact ⟨some (((l',i',xs',m,()),()),z),hr,hh⟩
    · cases hr
 obtain ⟨oc,h1,h2⟩:=key _ rfl hr
 exact ⟨oc,by cases oc <;> exact h1,h2⟩
def outD {β:Type} (l:Str):Option (Option ((RdT×Unit)×β))->Option (β×Int)
 | some (some y)=>if y.1.1.1=l then some (y.2,y.1.1.2.1) else none
 | _=>none
noncomputable def mD {aa rs:LK} (sh:RdT×Unit->zA aa->Option (Option ((RdT×Unit)×zA rs))):zA aa->DD (zA rs):=fun a l i=>outD l (sh ((l,i,()),()) a)
theorem zDT {P:Program} {f:Nat} {aa rs:LK} {sh:zA ([rdK]:LK)->zA aa->Option (Option (zA ([rdK]:LK)×zA rs))} (h:CPOk CC P syn f ⟨[rdK],[rdK],aa,rs,fnP sh⟩):CPOk CC P syn f (cD aa rs (mD sh)):=by
 intro x a R pan K r hr
 obtain ⟨⟨l,i,u⟩,u'⟩:=x
 have key:∀ oo:Option (Option ((RdT×Unit)×zA rs)),sh ((l,i,()),()) a=oo->(Option.bind (outD l oo) fun y=>K ((l,y.2,()),()) y.1)=some r ->
  ∃ oc:Option (zA ([rdK]:LK)×zA rs),(match oc with | none=>pan=some r | some y=>K y.1 y.2=some r)/\∀ s vx va r1 r2,VKs CC s [rdK] ((l,i,u),u') vx r1->VKs CC s aa a va r2->(r1++r2).Nodup->FnC P f (vx++va) (subS s (r1++r2)) (jZ CC syn [rdK] rs vx oc):=by
  intro oo hs hr
  cases oo with
  | none=>cases hr
  | some oc=>
   have hh:=zCG h ((l,i,()),()) a oc hs
   cases oc with
   | none=>cases hr
   | some y=>
    obtain ⟨⟨⟨l',i',w⟩,v2⟩,z⟩:=y
    unfold outD at hr
    simp only at hr
    split at hr
    · rename_i hy
      subst hy
      exact ⟨some (((l',i',()),()),z),hr,hh⟩
    · cases hr
 obtain ⟨oc,h1,h2⟩:=key _ rfl hr
 exact ⟨oc,by cases oc <;> exact h1,h2⟩
end Go.Proofs.YtnamdpbcpnnhaaaGreatDoor
end
section
set_option linter.unusedVariables false
set_option linter.unusedSimpArgs false
namespace Go.Proofs.YtnamdpbcpnnhaaaGreatDoor
open Go.Al Go.Den
def sh72 (fu:Nat) (x:((LT×(Int×((List MT)×((Option (Option MT))×Unit))))×Unit)) (a:(Int×Unit)):(Option (Option (((LT×(Int×((List MT)×((Option (Option MT))×Unit))))×Unit)×(Str×Unit)))):=zJ x.1.2.2.2.1 (cond (ile (lenI x.1.1) (iadd .i64 x.1.2.1 a.1)) (some (some (((x.1.1,(x.1.2.1,(x.1.2.2.1,(none,())))),()),([],())))) (cond (inB (iadd .i64 x.1.2.1 a.1) (List.length x.1.1)) (cond (ine (TokT.kind (List.getD x.1.1 (Int.toNat (iadd .i64 x.1.2.1 a.1)) tokD)) 1) (cond (ine (TokT.kind (List.getD x.1.1 (Int.toNat (iadd .i64 x.1.2.1 a.1)) tokD)) 5) (some (some (((x.1.1,(x.1.2.1,(x.1.2.2.1,(none,())))),()),([],())))) (some (some (((x.1.1,(x.1.2.1,(x.1.2.2.1,(none,())))),()),((TokT.text (List.getD x.1.1 (Int.toNat (iadd .i64 x.1.2.1 a.1)) tokD)),()))))) (some (some (((x.1.1,(x.1.2.1,(x.1.2.2.1,(none,())))),()),((TokT.text (List.getD x.1.1 (Int.toNat (iadd .i64 x.1.2.1 a.1)) tokD)),()))))) (none))) fun y0=>zJ y0 (cond (ile (lenI x.1.1) (iadd .i64 x.1.2.1 a.1)) (some (some (((x.1.1,(x.1.2.1,(x.1.2.2.1,((some none),())))),()),([],())))) (cond (inB (iadd .i64 x.1.2.1 a.1) (List.length x.1.1)) (cond (ine (TokT.kind (List.getD x.1.1 (Int.toNat (iadd .i64 x.1.2.1 a.1)) tokD)) 1) (cond (ine (TokT.kind (List.getD x.1.1 (Int.toNat (iadd .i64 x.1.2.1 a.1)) tokD)) 5) (some (some (((x.1.1,(x.1.2.1,(x.1.2.2.1,((some none),())))),()),([],())))) (some (some (((x.1.1,(x.1.2.1,(x.1.2.2.1,((some none),())))),()),((TokT.text (List.getD x.1.1 (Int.toNat (iadd .i64 x.1.2.1 a.1)) tokD)),()))))) (some (some (((x.1.1,(x.1.2.1,(x.1.2.2.1,((some none),())))),()),((TokT.text (List.getD x.1.1 (Int.toNat (iadd .i64 x.1.2.1 a.1)) tokD)),()))))) (none))) fun y1=>cond (ile (lenI x.1.1) (iadd .i64 x.1.2.1 a.1)) (some (some (((x.1.1,(x.1.2.1,(x.1.2.2.1,((some (some y1)),())))),()),([],())))) (cond (inB (iadd .i64 x.1.2.1 a.1) (List.length x.1.1)) (cond (ine (TokT.kind (List.getD x.1.1 (Int.toNat (iadd .i64 x.1.2.1 a.1)) tokD)) 1) (cond (ine (TokT.kind (List.getD x.1.1 (Int.toNat (iadd .i64 x.1.2.1 a.1)) tokD)) 5) (some (some (((x.1.1,(x.1.2.1,(x.1.2.2.1,((some (some y1)),())))),()),([],())))) (some (some (((x.1.1,(x.1.2.1,(x.1.2.2.1,((some (some y1)),())))),()),((TokT.text (List.getD x.1.1 (Int.toNat (iadd .i64 x.1.2.1 a.1)) tokD)),()))))) (some (some (((x.1.1,(x.1.2.1,(x.1.2.2.1,((some (some y1)),())))),()),((TokT.text (List.getD x.1.1 (Int.toNat (iadd .i64 x.1.2.1 a.1)) tokD)),()))))) (none))
theorem eq72:@run72 = @sh72:=by kernel_rfl
def sh54 (fu:Nat) (c33:((List Str)×(Str×Unit))->(Option (Bool×Unit))) (c72:(Int×Unit)->MM (Str×Unit)) (x:((LT×(Int×((List MT)×((Option (Option MT))×Unit))))×Unit)) (a:((List Str)×Unit)):(Option (Option (((LT×(Int×((List MT)×((Option (Option MT))×Unit))))×Unit)×(Bool×Unit)))):=zJ x.1.2.2.2.1 (bo (c72 (0,()) x.1.1 (x.1.2.1,x.1.2.2.1)) fun y1=>cond (!(seq y1.1.1 [])) (Option.bind (c33 (a.1,(y1.1.1,()))) fun y2=>some (some (((x.1.1,(y1.2.1,(y1.2.2,(none,())))),()),(y2.1,())))) (some (some (((x.1.1,(y1.2.1,(y1.2.2,(none,())))),()),(false,()))))) fun y0=>zJ y0 (bo (c72 (0,()) x.1.1 (x.1.2.1,x.1.2.2.1)) fun y2=>cond (!(seq y2.1.1 [])) (Option.bind (c33 (a.1,(y2.1.1,()))) fun y3=>some (some (((x.1.1,(y2.2.1,(y2.2.2,((some none),())))),()),(y3.1,())))) (some (some (((x.1.1,(y2.2.1,(y2.2.2,((some none),())))),()),(false,()))))) fun y1=>bo (c72 (0,()) x.1.1 (x.1.2.1,x.1.2.2.1)) fun y3=>cond (!(seq y3.1.1 [])) (Option.bind (c33 (a.1,(y3.1.1,()))) fun y4=>some (some (((x.1.1,(y3.2.1,(y3.2.2,((some (some y1)),())))),()),(y4.1,())))) (some (some (((x.1.1,(y3.2.1,(y3.2.2,((some (some y1)),())))),()),(false,()))))
theorem eq54:@run54 = @sh54:=by kernel_rfl
def sh85 (fu:Nat) (c15:(Str×Unit)->(Option (Bool×Unit))) (x:(ParT×Unit)) (a:(Int×Unit)):(Option (Option ((ParT×Unit)×(Bool×Unit)))):=cond (ilt (iadd .i64 x.1.2.1 a.1) (lenI x.1.1)) (cond (inB (iadd .i64 x.1.2.1 a.1) (List.length x.1.1)) (cond (ieq (TokT.kind (List.getD x.1.1 (Int.toNat (iadd .i64 x.1.2.1 a.1)) tokD)) 1) (cond (inB (iadd .i64 x.1.2.1 a.1) (List.length x.1.1)) (Option.bind (c15 ((TokT.text (List.getD x.1.1 (Int.toNat (iadd .i64 x.1.2.1 a.1)) tokD)),())) fun y0=>some (some (((x.1.1,(x.1.2.1,(x.1.2.2.1,((),())))),()),((!y0.1),())))) (none)) (some (some (((x.1.1,(x.1.2.1,(x.1.2.2.1,((),())))),()),(false,()))))) (none)) (some (some (((x.1.1,(x.1.2.1,(x.1.2.2.1,((),())))),()),(false,()))))
theorem eq85:@run85 = @sh85:=by kernel_rfl
def sh112 (fu:Nat) (x:(ParT×Unit)) (a:(Int×Unit)):(Option (Option ((ParT×Unit)×(Bool×Unit)))):=cond (ilt x.1.2.1 (lenI x.1.1)) (cond (inB x.1.2.1 (List.length x.1.1)) (some (some (((x.1.1,(x.1.2.1,(x.1.2.2.1,((),())))),()),((ieq (TokT.kind (List.getD x.1.1 (Int.toNat x.1.2.1) tokD)) a.1),())))) (none)) (some (some (((x.1.1,(x.1.2.1,(x.1.2.2.1,((),())))),()),(false,()))))
theorem eq112:@run112 = @sh112:=by kernel_rfl
def sh73 (fu:Nat) (x:(ParT×Unit)) (a:Unit):(Option (Option ((ParT×Unit)×(Nd×Unit)))):=cond (ilt x.1.2.1 (lenI x.1.1)) (some (some (((x.1.1,((iadd .i64 x.1.2.1 1),(x.1.2.2.1,((),())))),()),((Nd.mk 0 (isub .i64 (iadd .i64 x.1.2.1 1) 1) []),())))) (some none)
theorem eq73:@run73 = @sh73:=by kernel_rfl
def sh78 (fu:Nat) (c54:((List Str)×Unit)->MM (Bool×Unit)) (c73:Unit->MM (Nd×Unit)) (x:(ParT×Unit)) (a:(Str×Unit)):(Option (Option ((ParT×Unit)×(Nd×Unit)))):=bo (c54 ([a.1],()) x.1.1 (x.1.2.1,x.1.2.2.1)) fun y1=>cond y1.1.1 (bo (c73 () x.1.1 (y1.2.1,y1.2.2)) fun y3=>some (some (((x.1.1,(y3.2.1,(y3.2.2,((),())))),()),((ndE y3.1.1),())))) (some none)
theorem eq78:@run78 = @sh78:=by kernel_rfl
def sh80 (fu:Nat) (c73:Unit->MM (Nd×Unit)) (c85:(Int×Unit)->MM (Bool×Unit)) (x:(ParT×Unit)) (a:Unit):(Option (Option ((ParT×Unit)×(Nd×Unit)))):=bo (c85 (0,()) x.1.1 (x.1.2.1,x.1.2.2.1)) fun y1=>cond y1.1.1 (bo (c73 () x.1.1 (y1.2.1,y1.2.2)) fun y3=>some (some (((x.1.1,(y3.2.1,(y3.2.2,((),())))),()),((ndE y3.1.1),())))) (some none)
theorem eq80:@run80 = @sh80:=by kernel_rfl
def sh84 (fu:Nat) (c33:((List Str)×(Str×Unit))->(Option (Bool×Unit))) (c72:(Int×Unit)->MM (Str×Unit)) (c76:(Int×Unit)->MM (Bool×Unit)) (x:(ParT×Unit)) (a:(Int×Unit)):(Option (Option ((ParT×Unit)×(Bool×Unit)))):=bo (c72 (a.1,()) x.1.1 (x.1.2.1,x.1.2.2.1)) fun y1=>bo (c76 (a.1,()) x.1.1 (y1.2.1,y1.2.2)) fun y3=>cond y3.1.1 (some (some (((x.1.1,(y3.2.1,(y3.2.2,((),())))),()),(true,())))) (Option.bind (c33 ([[99,111,110,115,116],[101,120,116,101,114,110],[105,110,108,105,110,101],[114,101,103,105,115,116,101,114],[115,116,97,116,105,99],[97,117,116,111],[116,121,112,101,100,101,102],[118,111,108,97,116,105,108,101]],(y1.1.1,()))) fun y4=>cond y4.1 (some (some (((x.1.1,(y3.2.1,(y3.2.2,((),())))),()),(true,())))) (Option.bind (c33 ([[99,104,97,114],[100,111,117,98,108,101],[102,108,111,97,116],[105,110,116],[108,111,110,103],[115,104,111,114,116],[115,105,103,110,101,100],[117,110,115,105,103,110,101,100],[118,111,105,100]],(y1.1.1,()))) fun y5=>cond y5.1 (some (some (((x.1.1,(y3.2.1,(y3.2.2,((),())))),()),(true,())))) (cond (seq y1.1.1 [101,110,117,109]) (some (some (((x.1.1,(y3.2.1,(y3.2.2,((),())))),()),(true,())))) (cond (seq y1.1.1 [115,116,114,117,99,116]) (some (some (((x.1.1,(y3.2.1,(y3.2.2,((),())))),()),(true,())))) (some (some (((x.1.1,(y3.2.1,(y3.2.2,((),())))),()),((seq y1.1.1 [117,110,105,111,110]),()))))))))
theorem eq84:@run84 = @sh84:=by kernel_rfl
theorem hj72 (fu:Nat)  (l:List TokT) (i:Int) (xs:List MT) (m:Option (Option MT)) (a:zA ([.int .i64]:LK)):sh72 fu ((l,i,xs,m,()),()) a=putJ m (sh72 fu ((l,i,xs,none,()),()) a):=by
 unfold sh72
 rcases m with _ | _ | c <;> simp only [zX,zY,zNk,zNZ,zLs,zNS,zO1,zMf]
theorem con72 (fu:Nat) :CPOk CC Tryz.prog syn 72 (cJ kI kS (mJ (sh72 fu))):=
 cJ_of (zh (syn:=syn) (fu:=fu) (d:=2) (inl:=zB []) (orc:=zB []) (orr:=zB []) (orp:=zB []) (pf:=hasN []) (rf:=hasN []) zl CCok mixed (fun g=>(zF (α:=Con UU) (l:=[]) g).symm) (fun g=>(zF (α:=CR UU) (l:=[]) g).symm) (zD) (zD) (zD) (zD) fdok72 (by show ([parJ]:LK).length+(kI:LK).length<=40; decide) (fun x a=>by show run72 fu x a=sh72 fu x a; rw [eq72])) (hj72 fu )
theorem hj54 (fu:Nat) (c33:zS as33->Option (zS rs33)) (h33:ConOk CC Tryz.prog 33 ⟨as33,rs33,c33⟩) (c72:zA ([.int .i64]:LK)->MM (zA ([.str]:LK))) (h72:CPOk CC Tryz.prog syn 72 (cJ ([.int .i64]:LK) ([.str]:LK) c72)) (l:List TokT) (i:Int) (xs:List MT) (m:Option (Option MT)) (a:zA ([.dl TI.str]:LK)):sh54 fu c33 c72 ((l,i,xs,m,()),()) a=putJ m (sh54 fu c33 c72 ((l,i,xs,none,()),()) a):=by
 unfold sh54
 have key:∀ (m:Option (Option MT)) (o:Option (Option ((Str×Unit)×PSt))) (f:Str->Option (Bool×Unit)),(Option.bind o fun y0=>zJ y0 (some none) fun y1=>cond (!(seq y1.1.1 [])) (Option.bind (f y1.1.1) fun y2=>some (some (((l,(y1.2.1,(y1.2.2,(m,())))),()),(y2.1,())))) (some (some (((l,(y1.2.1,(y1.2.2,(m,())))),()),(false,()))))) =
  putJ m (Option.bind o fun y0=>zJ y0 (some none) fun y1=>cond (!(seq y1.1.1 [])) (Option.bind (f y1.1.1) fun y2=>some (some (((l,(y1.2.1,(y1.2.2,(none,())))),()),(y2.1,())))) (some (some (((l,(y1.2.1,(y1.2.2,(none,())))),()),(false,()))))):=by
  intro m o f
  rcases o with _ | _ | y
  · rfl
  · rfl
  · show cond (!(seq y.1.1 [])) _ _=putJ m (cond (!(seq y.1.1 [])) _ _)
    cases (!(seq y.1.1 [])) with
    | false=>rfl
    | true=>
     show Option.bind (f y.1.1) _=putJ m (Option.bind (f y.1.1) _)
     cases f y.1.1 <;> rfl
 rcases m with _ | _ | c
 · exact key none (c72 (show Int×Unit from (0,())) l (i,xs)) fun s=>c33 (a.1,(s,()))
 · exact key (some none) (c72 (show Int×Unit from (0,())) l (i,xs)) fun s=>c33 (a.1,(s,()))
 · exact key (some (some c)) (c72 (show Int×Unit from (0,())) l (i,xs)) fun s=>c33 (a.1,(s,()))
theorem con54 (fu:Nat) (c33:zS as33->Option (zS rs33)) (h33:ConOk CC Tryz.prog 33 ⟨as33,rs33,c33⟩) (c72:zA kI->MM (zA kS)) (h72:CPOk CC Tryz.prog syn 72 (cJ kI kS c72)):CPOk CC Tryz.prog syn 54 (cJ kL kB (mJ (sh54 fu c33 c72))):=
 cJ_of (zh (syn:=syn) (fu:=fu) (d:=2) (inl:=zB []) (orc:=zB [(33,(⟨as33,rs33,c33⟩:Con UU))]) (orr:=zB []) (orp:=zB [(72,cJ kI kS c72)]) (pf:=hasN [33]) (rf:=hasN []) zl CCok mixed (fun g=>(zF (α:=Con UU) (l:=[(33,(⟨as33,rs33,c33⟩:Con UU))]) g).symm) (fun g=>(zF (α:=CR UU) (l:=[]) g).symm) (zD) (zC ⟨zFu,h33⟩ (zD)) (zD) (zC ⟨zAS,h72⟩ (zD)) fdok54 (by show ([parJ]:LK).length+(kL:LK).length<=15; decide) (fun x a=>by show run54 fu c33 c72 x a=sh54 fu c33 c72 x a; rw [eq54])) (hj54 fu c33 h33 c72 h72)
theorem con85 (fu:Nat) (c15:zS as15->Option (zS rs15)) (h15:ConOk CC Tryz.prog 15 ⟨as15,rs15,c15⟩):CPOk CC Tryz.prog syn 85 (cM kI kB (mM (sh85 fu c15))):=
 xC (zh (syn:=syn) (fu:=fu) (d:=2) (inl:=zB []) (orc:=zB [(15,(⟨as15,rs15,c15⟩:Con UU))]) (orr:=zB []) (orp:=zB []) (pf:=hasN [15]) (rf:=hasN []) zl CCok mixed (fun g=>(zF (α:=Con UU) (l:=[(15,(⟨as15,rs15,c15⟩:Con UU))]) g).symm) (fun g=>(zF (α:=CR UU) (l:=[]) g).symm) (zD) (zC ⟨zN6,h15⟩ (zD)) (zD) (zD) fdok85 (by show ([parK]:LK).length+(kI:LK).length<=50; decide) (fun x a=>by show run85 fu c15 x a=sh85 fu c15 x a; rw [eq85]))
theorem con112 (fu:Nat) :CPOk CC Tryz.prog syn 112 (cM kI kB (mM (sh112 fu))):=
 xC (zh (syn:=syn) (fu:=fu) (d:=2) (inl:=zB []) (orc:=zB []) (orr:=zB []) (orp:=zB []) (pf:=hasN []) (rf:=hasN []) zl CCok mixed (fun g=>(zF (α:=Con UU) (l:=[]) g).symm) (fun g=>(zF (α:=CR UU) (l:=[]) g).symm) (zD) (zD) (zD) (zD) zQc (by show ([parK]:LK).length+(kI:LK).length<=30; decide) (fun x a=>by show run112 fu x a=sh112 fu x a; rw [eq112]))
theorem con73 (fu:Nat) (h77:CPOk CC Tryz.prog syn 77 (xq)):CPOk CC Tryz.prog syn 73 (cM k0 kN (mM (sh73 fu))):=
 xC (zh (syn:=syn) (fu:=fu) (d:=3) (inl:=zB [(40,fd40)]) (orc:=zB []) (orr:=zB []) (orp:=zB [(77,xq)]) (pf:=hasN []) (rf:=hasN []) zl CCok mixed (fun g=>(zF (α:=Con UU) (l:=[]) g).symm) (fun g=>(zF (α:=CR UU) (l:=[]) g).symm) (zC zNt (zD)) (zD) (zD) (zC ⟨zBw,h77⟩ (zD)) fdok73 (by show ([parK]:LK).length+(k0:LK).length<=27; decide) (fun x a=>by show run73 fu x a=sh73 fu x a; rw [eq73]))
theorem con78 (fu:Nat) (c54:zA kL->MM (zA kB)) (h54:CPOk CC Tryz.prog syn 54 (cJ kL kB c54)) (c73:zA k0->MM (zA kN)) (h73:CPOk CC Tryz.prog syn 73 (cM k0 kN c73)) (h77:CPOk CC Tryz.prog syn 77 (xq)):CPOk CC Tryz.prog syn 78 (cM kS kN (mM (sh78 fu c54 c73))):=
 xC (zh (syn:=syn) (fu:=fu) (d:=2) (inl:=zB []) (orc:=zB []) (orr:=zB []) (orp:=zB [(54,cJ kL kB c54),(73,cM k0 kN c73),(77,xq)]) (pf:=hasN []) (rf:=hasN []) zl CCok mixed (fun g=>(zF (α:=Con UU) (l:=[]) g).symm) (fun g=>(zF (α:=CR UU) (l:=[]) g).symm) (zD) (zD) (zD) (zC ⟨xG,h54⟩ (zC ⟨yu,h73⟩ (zC ⟨zBw,h77⟩ (zD)))) fdok78 (by show ([parK]:LK).length+(kS:LK).length<=12; decide) (fun x a=>by show run78 fu c54 c73 x a=sh78 fu c54 c73 x a; rw [eq78]))
theorem con80 (fu:Nat) (c73:zA k0->MM (zA kN)) (h73:CPOk CC Tryz.prog syn 73 (cM k0 kN c73)) (h77:CPOk CC Tryz.prog syn 77 (xq)) (c85:zA kI->MM (zA kB)) (h85:CPOk CC Tryz.prog syn 85 (cM kI kB c85)):CPOk CC Tryz.prog syn 80 (cM k0 kN (mM (sh80 fu c73 c85))):=
 xC (zh (syn:=syn) (fu:=fu) (d:=2) (inl:=zB []) (orc:=zB []) (orr:=zB []) (orp:=zB [(73,cM k0 kN c73),(77,xq),(85,cM kI kB c85)]) (pf:=hasN []) (rf:=hasN []) zl CCok mixed (fun g=>(zF (α:=Con UU) (l:=[]) g).symm) (fun g=>(zF (α:=CR UU) (l:=[]) g).symm) (zD) (zD) (zD) (zC ⟨yu,h73⟩ (zC ⟨zBw,h77⟩ (zC ⟨zBl,h85⟩ (zD)))) fdok80 (by show ([parK]:LK).length+(k0:LK).length<=8; decide) (fun x a=>by show run80 fu c73 c85 x a=sh80 fu c73 c85 x a; rw [eq80]))
theorem con84 (fu:Nat) (c33:zS as33->Option (zS rs33)) (h33:ConOk CC Tryz.prog 33 ⟨as33,rs33,c33⟩) (c72:zA kI->MM (zA kS)) (h72:CPOk CC Tryz.prog syn 72 (cJ kI kS c72)) (c76:zA kI->MM (zA kB)) (h76:CPOk CC Tryz.prog syn 76 (cM kI kB c76)):CPOk CC Tryz.prog syn 84 (cM kI kB (mM (sh84 fu c33 c72 c76))):=
 xC (zh (syn:=syn) (fu:=fu) (d:=2) (inl:=zB []) (orc:=zB [(33,(⟨as33,rs33,c33⟩:Con UU))]) (orr:=zB []) (orp:=zB [(72,cJ kI kS c72),(76,cM kI kB c76)]) (pf:=hasN [33]) (rf:=hasN []) zl CCok mixed (fun g=>(zF (α:=Con UU) (l:=[(33,(⟨as33,rs33,c33⟩:Con UU))]) g).symm) (fun g=>(zF (α:=CR UU) (l:=[]) g).symm) (zD) (zC ⟨zFu,h33⟩ (zD)) (zD) (zC ⟨zAS,h72⟩ (zC ⟨zJe,h76⟩ (zD))) fdok84 (by show ([parK]:LK).length+(kI:LK).length<=34; decide) (fun x a=>by show run84 fu c33 c72 c76 x a=sh84 fu c33 c72 c76 x a; rw [eq84]))
end Go.Proofs.YtnamdpbcpnnhaaaGreatDoor
end
section
set_option linter.unusedVariables false
set_option linter.unusedSimpArgs false
namespace Go.Proofs.YtnamdpbcpnnhaaaGreatDoor
open Go.Al Go.Den
abbrev zBX:List (AK UU):=[.str]
abbrev zA1:List (AK UU):=[.int .i64]
def kf36:Nat->List Nat
 | 0=>[]
 | _=>[]
def hd36:List (Nat×Head UU):=[]
def jn36:List (Nat×Head UU):=[]
noncomputable def fd36:FD UU:=⟨⟨fun d=>hasN [] d,fun d=>hasN [] d,kf36,zB hd36,zB jn36,zf []⟩,zZ Tryz.f36,13,[]⟩
def kf37:Nat->List Nat
 | 0=>[0,1,4]
 | 1=>[0,1,4,5]
 | 2=>[0,1,4,5,6,7]
 | 3=>[0,1,4,5,7]
 | 4=>[0,1,4,5,7,22]
 | 5=>[0,4]
 | 6=>[0,1,4,5,7,8,9,10]
 | 7=>[0,4,5,7,8,9,47]
 | 8=>[0,4,5,7]
 | 9=>[0,4]
 | 10=>[0,4,5,8,9,11]
 | 11=>[0,4,5,8,11]
 | 12=>[0,4,5,8]
 | 13=>[0,4,5]
 | 14=>[0,4,5]
 | 15=>[0,4]
 | _=>[]
def hd37:List (Nat×Head UU):=[]
def jn37:List (Nat×Head UU):=[]
noncomputable def fd37:FD UU:=⟨⟨fun d=>hasN [] d,fun d=>hasN [] d,kf37,zB hd37,zB jn37,zf [(13,[(71,8,8)])]⟩,zZ Tryz.f37,77,[.cell 4 29]⟩
def kf41:Nat->List Nat
 | 0=>[0,1,4]
 | 1=>[4]
 | _=>[]
def hd41:List (Nat×Head UU):=[]
def jn41:List (Nat×Head UU):=[]
noncomputable def fd41:FD UU:=⟨⟨fun d=>hasN [] d,fun d=>hasN [] d,kf41,zB hd41,zB jn41,zf []⟩,zZ Tryz.f41,8,[.cell 4 29]⟩
def kf53:Nat->List Nat
 | 0=>[0,2,3]
 | 1=>[0,2,3,4]
 | 2=>[0,2,3,4,5,6]
 | 3=>[0,2,3,4,5,6,7]
 | 4=>[0,2,3,4,5,6,7,10]
 | 5=>[0,2,3,4,5,6]
 | 6=>[0,2,3,4,5,6]
 | 7=>[0,2,3,4,5,6,7,23]
 | 8=>[0,2,3,4,5,6]
 | 9=>[0,2,3,4,5,6]
 | 10=>[0,2,3,4,5,7,35]
 | 11=>[0,2,3,4,5,7,40]
 | 12=>[0,2,3,4,5]
 | 13=>[0,2,3,4,5,6]
 | 14=>[0,2,3,4,5,51]
 | 15=>[0,2,3,4,5]
 | 16=>[0,2,3,4,5,6]
 | 17=>[0,2,3,4,5,58]
 | 18=>[0,2,3,4,5]
 | 19=>[0,2,3,4,5,6]
 | 20=>[0,2,3,4]
 | 21=>[0,2,3]
 | _=>[]
def hd53:List (Nat×Head UU):=[(3,⟨[0,2,4],[(3,.bool),(5,.bool),(6,.bool)],[(0,parK),(2,.box [.int .i64,.int .i64,.dl TI.node]),(4,ptsK)]⟩)]
def jn53:List (Nat×Head UU):=[(20,⟨[0,2,4],[(3,.bool)],[(0,parK),(2,.box [.int .i64,.int .i64,.dl TI.node]),(4,ptsK)]⟩)]
noncomputable def fd53:FD UU:=⟨⟨fun d=>hasN [] d,fun d=>hasN [] d,kf53,zB hd53,zB jn53,zf []⟩,zZ Tryz.f53,72,[.cell 2 29,.tmp 3]⟩
def kf55:Nat->List Nat
 | 0=>[0,2,4,6]
 | 1=>[0,2,4,6,12]
 | 2=>[0,2,4,6]
 | 3=>[0,2,4,6,7,8]
 | 4=>[0,2,4,6]
 | 5=>[0,4,6]
 | 6=>[0,6]
 | _=>[]
def hd55:List (Nat×Head UU):=[(1,⟨[0,2,4,6],[],[(0,parK),(4,ptsK),(6,.box [.int .i64,.int .i64,.dl TI.node])]⟩)]
def jn55:List (Nat×Head UU):=[]
noncomputable def fd55:FD UU:=⟨⟨fun d=>hasN [] d,fun d=>hasN [] d,kf55,zB hd55,zB jn55,zf []⟩,zZ Tryz.f55,35,[.cell 6 29]⟩
def kf56:Nat->List Nat
 | 0=>[0,2,4]
 | 1=>[0,2,4,5]
 | 2=>[0,2,4,5]
 | 3=>[0,2,4,5,14]
 | 4=>[0,2,3,4,5]
 | 5=>[0,2,3,4,5]
 | 6=>[0,2,3,4,5,6]
 | 7=>[0,2,3,4,5,6,23]
 | 8=>[0,2,3,5]
 | 9=>[0,2,3,4,5,6]
 | 10=>[0,2,3,4,5,6]
 | 11=>[0,2,3,4,5]
 | 12=>[0,2,3,4]
 | 13=>[0,2,5]
 | 14=>[0,2,3,5,7]
 | 15=>[0,2,3,5]
 | 16=>[0,2,3,5]
 | 17=>[0,2,3,4]
 | _=>[]
def hd56:List (Nat×Head UU):=[]
def jn56:List (Nat×Head UU):=[(10,⟨[0,2,3,5],[(4,.bool),(6,.mpo)],[(0,parK),(2,.box [.int .i64,.int .i64,.dl TI.node]),(5,ptsK)]⟩)]
noncomputable def fd56:FD UU:=⟨⟨fun d=>hasN [] d,fun d=>hasN [] d,kf56,zB hd56,zB jn56,zf [(15,[(53,7,7)])]⟩,zZ Tryz.f56,60,[.cell 2 29,.tmp 3,.tmp 4]⟩
def kf57:Nat->List Nat
 | 0=>[0,2,3,5,8]
 | 1=>[0,2,3,5,8,9]
 | 2=>[0,2,3,8,9]
 | 3=>[0,8,9]
 | 4=>[0,8,9,19]
 | 5=>[0,8,9]
 | 6=>[0,8]
 | _=>[]
def hd57:List (Nat×Head UU):=[]
def jn57:List (Nat×Head UU):=[]
noncomputable def fd57:FD UU:=⟨⟨fun d=>hasN [] d,fun d=>hasN [] d,kf57,zB hd57,zB jn57,zf []⟩,zZ Tryz.f57,27,[.cell 8 29]⟩
def kf60:Nat->List Nat
 | 0=>[0,2]
 | 1=>[0,2,3]
 | 2=>[0,2,3]
 | 3=>[0,2,3,11]
 | 4=>[0,2,3,23]
 | 5=>[0,2,3]
 | 6=>[0,2,3]
 | 7=>[0,2,3]
 | 8=>[0,2]
 | _=>[]
def hd60:List (Nat×Head UU):=[(3,⟨[0,2,3],[],[(0,parK),(2,.box [.int .i64,.int .i64,.dl TI.node]),(3,ptsK)]⟩)]
def jn60:List (Nat×Head UU):=[]
noncomputable def fd60:FD UU:=⟨⟨fun d=>hasN [] d,fun d=>hasN [] d,kf60,zB hd60,zB jn60,zf []⟩,zZ Tryz.f60,37,[.cell 2 29]⟩
def kf74:Nat->List Nat
 | 0=>[0,2]
 | 1=>[0,2,3]
 | 2=>[0,2,3]
 | 3=>[0,2,3]
 | 4=>[0,2,3,17]
 | 5=>[0,2,3]
 | 6=>[0,2,3,25]
 | 7=>[0,2]
 | 8=>[0,2,3]
 | 9=>[0,2,3,34]
 | 10=>[0,2,3]
 | 11=>[0,2,3]
 | 12=>[0,2]
 | _=>[]
def hd74:List (Nat×Head UU):=[(9,⟨[0,2,3],[],[(0,parK),(2,.box [.int .i64,.int .i64,.dl TI.node]),(3,ptsK)]⟩)]
def jn74:List (Nat×Head UU):=[(6,⟨[0,2,3],[],[(0,parK),(2,.box [.int .i64,.int .i64,.dl TI.node]),(3,ptsK)]⟩)]
noncomputable def fd74:FD UU:=⟨⟨fun d=>hasN [] d,fun d=>hasN [] d,kf74,zB hd74,zB jn74,zf []⟩,zZ Tryz.f74,44,[.cell 2 29]⟩
def kf75:Nat->List Nat
 | 0=>[0,2]
 | 1=>[0,2,3]
 | 2=>[0,2,3]
 | 3=>[0,2,3]
 | 4=>[0,2,3,17]
 | 5=>[0,2,3]
 | 6=>[0,2,3,25]
 | 7=>[0,2]
 | 8=>[0,2,3]
 | 9=>[0,2,3]
 | 10=>[0,2,3,37]
 | 11=>[0,2,3]
 | 12=>[0,2,3,45]
 | 13=>[0,2,3]
 | 14=>[0,2]
 | _=>[]
def hd75:List (Nat×Head UU):=[(9,⟨[0,2,3],[],[(0,parK),(2,.box [.int .i64,.int .i64,.dl TI.node]),(3,ptsK)]⟩)]
def jn75:List (Nat×Head UU):=[(13,⟨[0,2,3],[],[(0,parK),(2,.box [.int .i64,.int .i64,.dl TI.node]),(3,ptsK)]⟩),(6,⟨[0,2,3],[],[(0,parK),(2,.box [.int .i64,.int .i64,.dl TI.node]),(3,ptsK)]⟩)]
noncomputable def fd75:FD UU:=⟨⟨fun d=>hasN [] d,fun d=>hasN [] d,kf75,zB hd75,zB jn75,zf []⟩,zZ Tryz.f75,51,[.cell 2 29]⟩
def kf79:Nat->List Nat
 | 0=>[0,1,6]
 | 1=>[0,1]
 | 2=>[0,1,14]
 | 3=>[0,1]
 | _=>[]
def hd79:List (Nat×Head UU):=[(0,⟨[0,1],[],[(0,parK),(1,ptsK)]⟩),(2,⟨[0,1],[],[(0,parK),(1,ptsK)]⟩)]
def jn79:List (Nat×Head UU):=[]
noncomputable def fd79:FD UU:=⟨⟨fun d=>hasN [] d,fun d=>hasN [] d,kf79,zB hd79,zB jn79,zf []⟩,zZ Tryz.f79,20,[]⟩
def kf81:Nat->List Nat
 | 0=>[0,2]
 | 1=>[0,2,3]
 | 2=>[0,2,3]
 | 3=>[0,2,3]
 | 4=>[0,2,3,4]
 | 5=>[0,2,3,16]
 | 6=>[0,2,3,4]
 | 7=>[0,2,3,23]
 | 8=>[0,2,3]
 | 9=>[0,2,3,30]
 | 10=>[0,2,3]
 | 11=>[0,2,3]
 | 12=>[0,2,3]
 | 13=>[0,2,3]
 | 14=>[0,2]
 | _=>[]
def hd81:List (Nat×Head UU):=[(5,⟨[0,2,3],[(4,.bool)],[(0,parK),(2,.box [.int .i64,.int .i64,.dl TI.node]),(3,ptsK)]⟩)]
def jn81:List (Nat×Head UU):=[]
noncomputable def fd81:FD UU:=⟨⟨fun d=>hasN [] d,fun d=>hasN [] d,kf81,zB hd81,zB jn81,zf []⟩,zZ Tryz.f81,49,[.cell 2 29]⟩
def kf82:Nat->List Nat
 | 0=>[0,1,6]
 | 1=>[0,1,9]
 | 2=>[0,1]
 | 3=>[0,1]
 | 4=>[0,1,23]
 | 5=>[0,1]
 | 6=>[0,1]
 | _=>[]
def hd82:List (Nat×Head UU):=[(0,⟨[0,1],[],[(0,parK),(1,ptsK)]⟩)]
def jn82:List (Nat×Head UU):=[]
noncomputable def fd82:FD UU:=⟨⟨fun d=>hasN [] d,fun d=>hasN [] d,kf82,zB hd82,zB jn82,zf []⟩,zZ Tryz.f82,34,[]⟩
def kf83:Nat->List Nat
 | 0=>[0,2]
 | 1=>[0,2,7]
 | 2=>[0,2]
 | 3=>[0,2,3]
 | 4=>[0,2,3]
 | 5=>[0,2,3,17]
 | 6=>[0,2,3]
 | 7=>[0,2,3,25]
 | 8=>[0,2,3]
 | 9=>[0,2,3]
 | 10=>[0,2]
 | _=>[]
def hd83:List (Nat×Head UU):=[(5,⟨[0,2,3],[],[(0,parK),(2,.box [.int .i64,.int .i64,.dl TI.node]),(3,ptsK)]⟩)]
def jn83:List (Nat×Head UU):=[]
noncomputable def fd83:FD UU:=⟨⟨fun d=>hasN [] d,fun d=>hasN [] d,kf83,zB hd83,zB jn83,zf []⟩,zZ Tryz.f83,35,[.cell 2 29]⟩
def kf86:Nat->List Nat
 | 0=>[0,2]
 | 1=>[0,2,3]
 | 2=>[0,2,3,4]
 | 3=>[0,2,3,4,8]
 | 4=>[0,2]
 | 5=>[0,2,5]
 | 6=>[0,2,5]
 | 7=>[0,2]
 | 8=>[0,2,3,4,19]
 | 9=>[0,2,3]
 | 10=>[0,2]
 | 11=>[0,2,3,4,27]
 | 12=>[0,2,3]
 | 13=>[0,2]
 | 14=>[0,2,3,4,44]
 | 15=>[0,2,3]
 | 16=>[0,2]
 | 17=>[0,2,3,4]
 | 18=>[0,2,3,4,67]
 | 19=>[0,2,3,4,67,68]
 | 20=>[0,2,3]
 | 21=>[0,2]
 | 22=>[0,2,3,4,67,79]
 | 23=>[0,2,3]
 | 24=>[0,2]
 | 25=>[0,2,3,4,67,88]
 | 26=>[0,2,3]
 | 27=>[0,2,3]
 | 28=>[0,2,3,98]
 | 29=>[0,2,3]
 | 30=>[0,2]
 | 31=>[0,2,3,4,67,106]
 | 32=>[0,2,3,4,67,106]
 | 33=>[0,2,3,4]
 | 34=>[0,2,3,4]
 | 35=>[0,2,3,116]
 | 36=>[0,2]
 | 37=>[0,2]
 | 38=>[0,2,3,4,67,119]
 | 39=>[0,2,3]
 | 40=>[0,2,3]
 | 41=>[0,2,3]
 | 42=>[0,2]
 | 43=>[0,2,3,4,67,134]
 | 44=>[0,2]
 | 45=>[0,2,3,4,67,139]
 | 46=>[0,2,3]
 | 47=>[0,2]
 | 48=>[0,2,3,4,67,144]
 | 49=>[0,2,3,4,144]
 | 50=>[0,2,3]
 | 51=>[0,2]
 | 52=>[0,2,3]
 | 53=>[0,2,3]
 | 54=>[0,2]
 | _=>[]
def hd86:List (Nat×Head UU):=[]
def jn86:List (Nat×Head UU):=[(50,⟨[0,2,3,4],[(144,.bool)],[(0,parK),(2,.box [.int .i64,.int .i64,.dl TI.node]),(3,ptsK)]⟩),(33,⟨[0,2,3,4,67],[(106,.bool)],[(0,parK),(2,.box [.int .i64,.int .i64,.dl TI.node]),(3,ptsK)]⟩),(52,⟨[0,2,3,4],[],[(0,parK),(2,.box [.int .i64,.int .i64,.dl TI.node]),(3,ptsK)]⟩)]
noncomputable def fd86:FD UU:=⟨⟨fun d=>hasN [] d,fun d=>hasN [] d,kf86,zB hd86,zB jn86,zf []⟩,zZ Tryz.f86,162,[.cell 2 29]⟩
def kf107:Nat->List Nat
 | 0=>[0,2]
 | 1=>[0,2,3]
 | 2=>[0,2,3,4]
 | 3=>[0,2,3]
 | 4=>[0,2,3,6]
 | 5=>[0,2,3,22]
 | 6=>[0,2,3,6]
 | 7=>[0,2,3,29]
 | 8=>[0,2,3]
 | 9=>[0,2,3,7]
 | 10=>[0,2,3]
 | 11=>[0,2,3]
 | 12=>[0,2]
 | _=>[]
def hd107:List (Nat×Head UU):=[(5,⟨[0,2,3],[(6,.bool)],[(0,parK),(2,.box [.int .i64,.int .i64,.dl TI.node]),(3,ptsK)]⟩)]
def jn107:List (Nat×Head UU):=[(9,⟨[0,2,3],[],[(0,parK),(2,.box [.int .i64,.int .i64,.dl TI.node]),(3,ptsK)]⟩)]
noncomputable def fd107:FD UU:=⟨⟨fun d=>hasN [] d,fun d=>hasN [] d,kf107,zB hd107,zB jn107,zf []⟩,zZ Tryz.f107,48,[.cell 2 29]⟩
def kf108:Nat->List Nat
 | 0=>[0,2]
 | 1=>[0,2,3]
 | 2=>[0,2,3,4]
 | 3=>[0,2,3,4]
 | 4=>[0,2,3,4,13]
 | 5=>[0,2,3,4]
 | 6=>[0,2,3]
 | 7=>[0,2]
 | _=>[]
def hd108:List (Nat×Head UU):=[]
def jn108:List (Nat×Head UU):=[]
noncomputable def fd108:FD UU:=⟨⟨fun d=>hasN [] d,fun d=>hasN [] d,kf108,zB hd108,zB jn108,zf []⟩,zZ Tryz.f108,24,[.cell 2 29]⟩
def kf110:Nat->List Nat
 | 0=>[0,2]
 | 1=>[0,2,3]
 | 2=>[0,2,3,4,5]
 | 3=>[0,2,3,5]
 | 4=>[0,2,3,5,6,7,8]
 | 5=>[0,2,3,5,6,7,23]
 | 6=>[0,2,3,5,7]
 | 7=>[0,2,3]
 | 8=>[0,2]
 | _=>[]
def hd110:List (Nat×Head UU):=[]
def jn110:List (Nat×Head UU):=[(7,⟨[0,2,3,5,7],[],[(0,parK),(2,.box [.int .i64,.int .i64,.dl TI.node]),(3,ptsK)]⟩)]
noncomputable def fd110:FD UU:=⟨⟨fun d=>hasN [] d,fun d=>hasN [] d,kf110,zB hd110,zB jn110,zf []⟩,zZ Tryz.f110,32,[.cell 2 29]⟩
def kf111:Nat->List Nat
 | 0=>[0,2]
 | 1=>[0,2,3]
 | 2=>[0,2,3,10]
 | 3=>[0,2]
 | 4=>[0,2,3,4]
 | 5=>[0,2]
 | _=>[]
def hd111:List (Nat×Head UU):=[]
def jn111:List (Nat×Head UU):=[]
noncomputable def fd111:FD UU:=⟨⟨fun d=>hasN [] d,fun d=>hasN [] d,kf111,zB hd111,zB jn111,zf [(5,[(17,3,3),(17,4,4)])]⟩,zZ Tryz.f111,20,[.cell 2 29]⟩
def kf113:Nat->List Nat
 | 0=>[0,2]
 | 1=>[0,2,3]
 | 2=>[0,2,3,10]
 | 3=>[0,2]
 | 4=>[0,2,3,4]
 | 5=>[0,2]
 | _=>[]
def hd113:List (Nat×Head UU):=[]
def jn113:List (Nat×Head UU):=[]
noncomputable def fd113:FD UU:=⟨⟨fun d=>hasN [] d,fun d=>hasN [] d,kf113,zB hd113,zB jn113,zf [(5,[(17,3,3),(17,4,4)])]⟩,zZ Tryz.f113,20,[.cell 2 29]⟩
def kf114:Nat->List Nat
 | 0=>[0,2]
 | 1=>[0,2,3]
 | 2=>[0,2,3,10]
 | 3=>[0,2]
 | 4=>[0,2,3,4]
 | 5=>[0,2,4]
 | 6=>[0,2]
 | _=>[]
def hd114:List (Nat×Head UU):=[]
def jn114:List (Nat×Head UU):=[]
noncomputable def fd114:FD UU:=⟨⟨fun d=>hasN [] d,fun d=>hasN [] d,kf114,zB hd114,zB jn114,zf [(5,[(14,3,3),(16,3,3),(18,3,3),(20,3,3)])]⟩,zZ Tryz.f114,24,[.cell 2 29]⟩
def kf115:Nat->List Nat
 | 0=>[0,1]
 | _=>[]
def hd115:List (Nat×Head UU):=[]
def jn115:List (Nat×Head UU):=[]
noncomputable def fd115:FD UU:=⟨⟨fun d=>hasN [] d,fun d=>hasN [] d,kf115,zB hd115,zB jn115,zf []⟩,zZ Tryz.f115,13,[]⟩
def kf116:Nat->List Nat
 | 0=>[0,3,4]
 | 1=>[0,3,4]
 | 2=>[0,3,4]
 | 3=>[0,3,4,13]
 | 4=>[0,3,4]
 | 5=>[0,3,4]
 | 6=>[0,3,4]
 | 7=>[0,3,4]
 | 8=>[0,3,4]
 | 9=>[0,3,4]
 | 10=>[0,4]
 | _=>[]
def hd116:List (Nat×Head UU):=[]
def jn116:List (Nat×Head UU):=[(6,⟨[0,3,4],[],[(0,parK),(3,ptsK),(4,.box [.int .i64,.int .i64,.dl TI.node])]⟩)]
noncomputable def fd116:FD UU:=⟨⟨fun d=>hasN [] d,fun d=>hasN [] d,kf116,zB hd116,zB jn116,zf []⟩,zZ Tryz.f116,31,[.cell 4 29]⟩
def kf117:Nat->List Nat
 | 0=>[0,1,2,10]
 | 1=>[0,1,2]
 | 2=>[0,1]
 | _=>[]
def hd117:List (Nat×Head UU):=[]
def jn117:List (Nat×Head UU):=[(2,⟨[0,1,2],[],[(0,parK),(1,ptsK)]⟩)]
noncomputable def fd117:FD UU:=⟨⟨fun d=>hasN [] d,fun d=>hasN [] d,kf117,zB hd117,zB jn117,zf []⟩,zZ Tryz.f117,22,[]⟩
def kf130:Nat->List Nat
 | 0=>[0,1,4,5]
 | 1=>[0,1,4,5,7]
 | 2=>[0,1,4,5,7]
 | 3=>[0,1,4,5,7,8]
 | 4=>[0,1,4,5,7,8,16]
 | 5=>[0,4,5,7]
 | 6=>[0,4,5,7]
 | 7=>[0,1,4,5,7,28]
 | 8=>[0,1,4,7]
 | 9=>[0,4,7,9,10,11]
 | 10=>[0,4,7,9,10,67]
 | 11=>[0,4,7,10]
 | 12=>[0,4,5,7]
 | 13=>[0,4,5,7]
 | 14=>[0,4,5,7]
 | 15=>[0,4,5,6]
 | _=>[]
def hd130:List (Nat×Head UU):=[]
def jn130:List (Nat×Head UU):=[(12,⟨[0,4,7,10],[],[(0,parK),(4,.box [.int .i64,.int .i64,.dl TI.node]),(7,ptsK)]⟩),(14,⟨[0,4,7],[(5,.str)],[(0,parK),(4,.box [.int .i64,.int .i64,.dl TI.node]),(7,ptsK)]⟩)]
noncomputable def fd130:FD UU:=⟨⟨fun d=>hasN [] d,fun d=>hasN [] d,kf130,zB hd130,zB jn130,zf [(15,[(1000004,80,7)])]⟩,zZ Tryz.f130,84,[.cell 4 29,.tmp 5,.tmp 6]⟩
def kf131:Nat->List Nat
 | 0=>[0,1,4]
 | 1=>[0,1,4,5]
 | 2=>[0,1,4,5,6]
 | 3=>[0,1,4,5,6,19]
 | 4=>[0,4]
 | 5=>[0,1,4,5,6,7]
 | 6=>[0,1,4,5]
 | _=>[]
def hd131:List (Nat×Head UU):=[(2,⟨[0,1,4,5],[],[(0,parK),(4,.box [.int .i64,.int .i64,.dl TI.node]),(5,.box [.int .i64,.int .i64,.dl TI.node])]⟩)]
def jn131:List (Nat×Head UU):=[]
noncomputable def fd131:FD UU:=⟨⟨fun d=>hasN [] d,fun d=>hasN [] d,kf131,zB hd131,zB jn131,zf [(6,[(28,5,5),(28,7,7)])]⟩,zZ Tryz.f131,31,[.cell 4 29]⟩
def kf142:Nat->List Nat
 | 0=>[0,2]
 | 1=>[0,2,12]
 | 2=>[0,2]
 | 3=>[0,2,3]
 | 4=>[0,2,3]
 | 5=>[0,2]
 | _=>[]
def hd142:List (Nat×Head UU):=[]
def jn142:List (Nat×Head UU):=[]
noncomputable def fd142:FD UU:=⟨⟨fun d=>hasN [] d,fun d=>hasN [] d,kf142,zB hd142,zB jn142,zf []⟩,zZ Tryz.f142,26,[.cell 2 29]⟩
def kf143:Nat->List Nat
 | 0=>[0]
 | 1=>[3]
 | 2=>[3,4]
 | 3=>[2]
 | 4=>[3,6]
 | 5=>[2]
 | 6=>[3,8]
 | 7=>[2]
 | 8=>[3,10]
 | 9=>[2]
 | 10=>[3,12]
 | 11=>[2]
 | 12=>[3,14]
 | 13=>[3,14]
 | 14=>[2]
 | 15=>[3,17]
 | 16=>[3,17]
 | 17=>[3,17]
 | 18=>[3,17]
 | 19=>[2]
 | 20=>[3,22]
 | 21=>[3,22]
 | 22=>[2]
 | 23=>[3,25]
 | 24=>[3,25]
 | 25=>[2]
 | 26=>[3,28]
 | 27=>[3,28]
 | 28=>[28]
 | 29=>[2]
 | 30=>[2]
 | _=>[]
def hd143:List (Nat×Head UU):=[]
def jn143:List (Nat×Head UU):=[]
noncomputable def fd143:FD UU:=⟨⟨fun d=>hasN [] d,fun d=>hasN [] d,kf143,zB hd143,zB jn143,zf []⟩,zZ Tryz.f143,32,[.tmp 2]⟩
def kf150:Nat->List Nat
 | 0=>[0,2]
 | 1=>[0,2,3]
 | 2=>[0,2,3,4]
 | 3=>[0,2,3]
 | 4=>[0,2]
 | 5=>[0,2,3,15]
 | 6=>[0,2,3]
 | 7=>[0,2]
 | 8=>[0,2,3,26]
 | 9=>[0,2,3]
 | 10=>[0,2,3,40]
 | 11=>[0,2,3]
 | 12=>[0,2,3]
 | 13=>[0,2]
 | 14=>[0,2]
 | _=>[]
def hd150:List (Nat×Head UU):=[]
def jn150:List (Nat×Head UU):=[]
noncomputable def fd150:FD UU:=⟨⟨fun d=>hasN [] d,fun d=>hasN [] d,kf150,zB hd150,zB jn150,zf []⟩,zZ Tryz.f150,58,[.cell 2 29]⟩
def kf151:Nat->List Nat
 | 0=>[0,2]
 | 1=>[0,2,3]
 | 2=>[0,2,3,4]
 | 3=>[0,2,3]
 | 4=>[0,2,3,6,8]
 | 5=>[0,2,3,6,23]
 | 6=>[0,2,3]
 | 7=>[0,2]
 | _=>[]
def hd151:List (Nat×Head UU):=[]
def jn151:List (Nat×Head UU):=[]
noncomputable def fd151:FD UU:=⟨⟨fun d=>hasN [] d,fun d=>hasN [] d,kf151,zB hd151,zB jn151,zf []⟩,zZ Tryz.f151,28,[.cell 2 29]⟩
def kf154:Nat->List Nat
 | 0=>[0,3,4]
 | 1=>[0,3,4,5]
 | 2=>[0,3,4,5]
 | 3=>[0,4]
 | 4=>[0,3,4,5,11]
 | 5=>[0,3,4,5]
 | 6=>[0,3,4]
 | 7=>[0,3,4,5,24]
 | 8=>[0,3,4,5]
 | 9=>[0,3,4,5,6]
 | 10=>[0,3,4,5,36]
 | 11=>[0,3,4,5,6]
 | 12=>[0,3,4,5,43]
 | 13=>[0,3,4,5]
 | 14=>[0,3,4,5]
 | 15=>[0,3,4,5]
 | 16=>[0,3,4]
 | 17=>[0,3,4,5,57]
 | 18=>[0,3,4,5]
 | 19=>[0,3,4]
 | 20=>[0,3,4,5,68]
 | 21=>[0,3,4,5]
 | 22=>[0,3,4]
 | _=>[]
def hd154:List (Nat×Head UU):=[(1,⟨[0,3,4],[],[(0,parK),(3,.box [.int .i64,.int .i64,.dl TI.node]),(4,.box [.int .i64,.int .i64,.dl TI.node])]⟩),(10,⟨[0,3,4,5],[(6,.bool)],[(0,parK),(3,.box [.int .i64,.int .i64,.dl TI.node]),(4,.box [.int .i64,.int .i64,.dl TI.node]),(5,ptsK)]⟩)]
def jn154:List (Nat×Head UU):=[]
noncomputable def fd154:FD UU:=⟨⟨fun d=>hasN [] d,fun d=>hasN [] d,kf154,zB hd154,zB jn154,zf []⟩,zZ Tryz.f154,77,[.cell 4 29]⟩
def kf155:Nat->List Nat
 | 0=>[0,2]
 | 1=>[0,2,3]
 | 2=>[0,2,3,4]
 | 3=>[0,2,3]
 | 4=>[0,2]
 | 5=>[0,2,3,12]
 | 6=>[0,2,3]
 | 7=>[0,2]
 | 8=>[0,2,3,24]
 | 9=>[0,2,3,28]
 | 10=>[0,2,3]
 | 11=>[0,2]
 | 12=>[0,2,3]
 | 13=>[0,2]
 | _=>[]
def hd155:List (Nat×Head UU):=[(9,⟨[0,2,3],[],[(0,parK),(2,.box [.int .i64,.int .i64,.dl TI.node]),(3,ptsK)]⟩)]
def jn155:List (Nat×Head UU):=[]
noncomputable def fd155:FD UU:=⟨⟨fun d=>hasN [] d,fun d=>hasN [] d,kf155,zB hd155,zB jn155,zf []⟩,zZ Tryz.f155,37,[.cell 2 29]⟩
noncomputable def run53 (fu:Nat) (c33:List (List UInt8)×List UInt8×Unit->Option (Bool×Unit)) (c72:zA ([.int .i64]:LK)->MM (zA ([.str]:LK))) (c73:zA ([]:LK)->MM (zA ([.st TI.node]:LK))) (c74:zA ([]:LK)->MM (zA ([.st TI.node]:LK))) (c75:zA ([]:LK)->MM (zA ([.st TI.node]:LK))) (c76:zA ([.int .i64]:LK)->MM (zA ([.bool]:LK))) (x:zA [parK]) (a:zA ([]:LK)):Option (Option (zA [parK]×zA ([.st TI.node,.bool]:LK))):=
 runP CC Tb fu 3 (zB [(36,fd36)]) (zB [(33,(⟨as33,rs33,c33⟩:Con UU))]) (zB [(38,zO)]) (zB [(72,cJ ([.int .i64]:LK) ([.str]:LK) c72),(73,cM ([]:LK) ([.st TI.node]:LK) c73),(74,cM ([]:LK) ([.st TI.node]:LK) c74),(75,cM ([]:LK) ([.st TI.node]:LK) c75),(76,cM ([.int .i64]:LK) ([.bool]:LK) c76),(77,xq)]) fd53 [parK] [parK] ([]:LK) ([.st TI.node,.bool]:LK) x a
theorem fdok53:FDOk Tryz.prog (hasN [33]) (hasN [38]) 53 fd53:=⟨⟨Tryz.f53,Tryz.func53,by kernel_rfl,Tryz.ntmps53,Tryz.results53⟩,by kernel_rfl,by kernel_rfl,by kernel_rfl⟩
theorem zMw:FDOk Tryz.prog (hasN [33]) (hasN [38]) 36 fd36:=⟨⟨Tryz.f36,Tryz.func36,by kernel_rfl,Tryz.ntmps36,Tryz.results36⟩,by kernel_rfl,by kernel_rfl,by kernel_rfl⟩
noncomputable def run74 (fu:Nat) (c54:zA ([.dl TI.str]:LK)->MM (zA ([.bool]:LK))) (c73:zA ([]:LK)->MM (zA ([.st TI.node]:LK))) (c85:zA ([.int .i64]:LK)->MM (zA ([.bool]:LK))) (c107:zA ([]:LK)->MM (zA ([.st TI.node]:LK))) (x:zA [parK]) (a:zA ([]:LK)):Option (Option (zA [parK]×zA ([.st TI.node]:LK))):=
 runP CC Tb fu 3 (zB [(36,fd36)]) (zB []) (zB [(38,zO)]) (zB [(54,cJ ([.dl TI.str]:LK) ([.bool]:LK) c54),(73,cM ([]:LK) ([.st TI.node]:LK) c73),(77,xq),(85,cM ([.int .i64]:LK) ([.bool]:LK) c85),(107,cM ([]:LK) ([.st TI.node]:LK) c107)]) fd74 [parK] [parK] ([]:LK) ([.st TI.node]:LK) x a
theorem fdok74:FDOk Tryz.prog (hasN []) (hasN [38]) 74 fd74:=⟨⟨Tryz.f74,Tryz.func74,by kernel_rfl,Tryz.ntmps74,Tryz.results74⟩,by kernel_rfl,by kernel_rfl,by kernel_rfl⟩
theorem zNG:FDOk Tryz.prog (hasN []) (hasN [38]) 36 fd36:=⟨⟨Tryz.f36,Tryz.func36,by kernel_rfl,Tryz.ntmps36,Tryz.results36⟩,by kernel_rfl,by kernel_rfl,by kernel_rfl⟩
noncomputable def run107 (fu:Nat) (c53:zA ([]:LK)->MM (zA ([.st TI.node,.bool]:LK))) (c54:zA ([.dl TI.str]:LK)->MM (zA ([.bool]:LK))) (c56:zA ([]:LK)->MM (zA ([.st TI.node,.str,.bool]:LK)×Option (Option MT))) (c73:zA ([]:LK)->MM (zA ([.st TI.node]:LK))) (c78:zA ([.str]:LK)->MM (zA ([.st TI.node]:LK))) (x:zA [parK]) (a:zA ([]:LK)):Option (Option (zA [parK]×zA ([.st TI.node]:LK))):=
 runP CC Tb fu 3 (zB [(36,fd36)]) (zB []) (zB [(38,zO)]) (zB [(53,cM ([]:LK) ([.st TI.node,.bool]:LK) c53),(54,cJ ([.dl TI.str]:LK) ([.bool]:LK) c54),(56,cNj ([]:LK) ([.st TI.node,.str,.bool]:LK) c56),(73,cM ([]:LK) ([.st TI.node]:LK) c73),(78,cM ([.str]:LK) ([.st TI.node]:LK) c78)]) fd107 [parK] [parK] ([]:LK) ([.st TI.node]:LK) x a
theorem zQq:FDOk Tryz.prog (hasN []) (hasN [38]) 107 fd107:=⟨⟨Tryz.f107,Tryz.func107,by kernel_rfl,Tryz.ntmps107,Tryz.results107⟩,by kernel_rfl,by kernel_rfl,by kernel_rfl⟩
theorem zLy:FDOk Tryz.prog (hasN []) (hasN [38]) 36 fd36:=⟨⟨Tryz.f36,Tryz.func36,by kernel_rfl,Tryz.ntmps36,Tryz.results36⟩,by kernel_rfl,by kernel_rfl,by kernel_rfl⟩
noncomputable def run75 (fu:Nat) (c54:zA ([.dl TI.str]:LK)->MM (zA ([.bool]:LK))) (c73:zA ([]:LK)->MM (zA ([.st TI.node]:LK))) (c78:zA ([.str]:LK)->MM (zA ([.st TI.node]:LK))) (c85:zA ([.int .i64]:LK)->MM (zA ([.bool]:LK))) (c108:zA ([]:LK)->MM (zA ([.st TI.node]:LK))) (x:zA [parK]) (a:zA ([]:LK)):Option (Option (zA [parK]×zA ([.st TI.node]:LK))):=
 runP CC Tb fu 3 (zB [(36,fd36)]) (zB []) (zB [(38,zO)]) (zB [(54,cJ ([.dl TI.str]:LK) ([.bool]:LK) c54),(73,cM ([]:LK) ([.st TI.node]:LK) c73),(77,xq),(78,cM ([.str]:LK) ([.st TI.node]:LK) c78),(85,cM ([.int .i64]:LK) ([.bool]:LK) c85),(108,cM ([]:LK) ([.st TI.node]:LK) c108)]) fd75 [parK] [parK] ([]:LK) ([.st TI.node]:LK) x a
theorem fdok75:FDOk Tryz.prog (hasN []) (hasN [38]) 75 fd75:=⟨⟨Tryz.f75,Tryz.func75,by kernel_rfl,Tryz.ntmps75,Tryz.results75⟩,by kernel_rfl,by kernel_rfl,by kernel_rfl⟩
theorem zNQ:FDOk Tryz.prog (hasN []) (hasN [38]) 36 fd36:=⟨⟨Tryz.f36,Tryz.func36,by kernel_rfl,Tryz.ntmps36,Tryz.results36⟩,by kernel_rfl,by kernel_rfl,by kernel_rfl⟩
noncomputable def run108 (fu:Nat) (c54:zA ([.dl TI.str]:LK)->MM (zA ([.bool]:LK))) (c58:zA ([.str,.bool]:LK)->MM (zA ([]:LK))) (c72:zA ([.int .i64]:LK)->MM (zA ([.str]:LK))) (c73:zA ([]:LK)->MM (zA ([.st TI.node]:LK))) (c80:zA ([]:LK)->MM (zA ([.st TI.node]:LK))) (c114:zA ([]:LK)->MM (zA ([.st TI.node]:LK))) (x:zA [parK]) (a:zA ([]:LK)):Option (Option (zA [parK]×zA ([.st TI.node]:LK))):=
 runP CC Tb fu 3 (zB [(36,fd36)]) (zB []) (zB [(38,zO)]) (zB [(54,cJ ([.dl TI.str]:LK) ([.bool]:LK) c54),(58,cM ([.str,.bool]:LK) ([]:LK) c58),(72,cJ ([.int .i64]:LK) ([.str]:LK) c72),(73,cM ([]:LK) ([.st TI.node]:LK) c73),(80,cM ([]:LK) ([.st TI.node]:LK) c80),(114,cM ([]:LK) ([.st TI.node]:LK) c114)]) fd108 [parK] [parK] ([]:LK) ([.st TI.node]:LK) x a
theorem zRI:FDOk Tryz.prog (hasN []) (hasN [38]) 108 fd108:=⟨⟨Tryz.f108,Tryz.func108,by kernel_rfl,Tryz.ntmps108,Tryz.results108⟩,by kernel_rfl,by kernel_rfl,by kernel_rfl⟩
theorem zLp:FDOk Tryz.prog (hasN []) (hasN [38]) 36 fd36:=⟨⟨Tryz.f36,Tryz.func36,by kernel_rfl,Tryz.ntmps36,Tryz.results36⟩,by kernel_rfl,by kernel_rfl,by kernel_rfl⟩
noncomputable def run79 (fu:Nat) (c54:zA ([.dl TI.str]:LK)->MM (zA ([.bool]:LK))) (c73:zA ([]:LK)->MM (zA ([.st TI.node]:LK))) (x:zA [parK,ptsK]) (a:zA ([]:LK)):Option (Option (zA [parK,ptsK]×zA ([]:LK))):=
 runP CC Tb fu 3 (zB [(36,fd36)]) (zB []) (zB []) (zB [(54,cJ ([.dl TI.str]:LK) ([.bool]:LK) c54),(73,cM ([]:LK) ([.st TI.node]:LK) c73)]) fd79 [parK,ptsK] [parK,ptsK] ([]:LK) ([]:LK) x a
theorem fdok79:FDOk Tryz.prog (hasN []) (hasN []) 79 fd79:=⟨⟨Tryz.f79,Tryz.func79,by kernel_rfl,Tryz.ntmps79,Tryz.results79⟩,by kernel_rfl,by kernel_rfl,by kernel_rfl⟩
theorem zNm:FDOk Tryz.prog (hasN []) (hasN []) 36 fd36:=⟨⟨Tryz.f36,Tryz.func36,by kernel_rfl,Tryz.ntmps36,Tryz.results36⟩,by kernel_rfl,by kernel_rfl,by kernel_rfl⟩
noncomputable def run82 (fu:Nat) (c54:zA ([.dl TI.str]:LK)->MM (zA ([.bool]:LK))) (c73:zA ([]:LK)->MM (zA ([.st TI.node]:LK))) (c78:zA ([.str]:LK)->MM (zA ([.st TI.node]:LK))) (c81:zA ([]:LK)->MM (zA ([.st TI.node]:LK)×Option MT)) (c111:zA ([]:LK)->MM (zA ([.st TI.node]:LK))) (x:zA [parK,ptsK]) (a:zA ([]:LK)):Option (Option (zA [parK,ptsK]×zA ([]:LK))):=
 runP CC Tb fu 3 (zB [(36,fd36)]) (zB []) (zB []) (zB [(54,cJ ([.dl TI.str]:LK) ([.bool]:LK) c54),(73,cM ([]:LK) ([.st TI.node]:LK) c73),(78,cM ([.str]:LK) ([.st TI.node]:LK) c78),(81,cLj ([]:LK) ([.st TI.node]:LK) c81),(111,cM ([]:LK) ([.st TI.node]:LK) c111)]) fd82 [parK,ptsK] [parK,ptsK] ([]:LK) ([]:LK) x a
theorem fdok82:FDOk Tryz.prog (hasN []) (hasN []) 82 fd82:=⟨⟨Tryz.f82,Tryz.func82,by kernel_rfl,Tryz.ntmps82,Tryz.results82⟩,by kernel_rfl,by kernel_rfl,by kernel_rfl⟩
theorem zN2:FDOk Tryz.prog (hasN []) (hasN []) 36 fd36:=⟨⟨Tryz.f36,Tryz.func36,by kernel_rfl,Tryz.ntmps36,Tryz.results36⟩,by kernel_rfl,by kernel_rfl,by kernel_rfl⟩
noncomputable def run56 (fu:Nat) (c54:zA ([.dl TI.str]:LK)->MM (zA ([.bool]:LK))) (c56:zA ([]:LK)->MM (zA ([.st TI.node,.str,.bool]:LK)×Option (Option MT))) (c72:zA ([.int .i64]:LK)->MM (zA ([.str]:LK))) (c73:zA ([]:LK)->MM (zA ([.st TI.node]:LK))) (c78:zA ([.str]:LK)->MM (zA ([.st TI.node]:LK))) (c79:zA ([]:LK)->List Nd->MM (zA ([]:LK)×List Nd)) (c80:zA ([]:LK)->MM (zA ([.st TI.node]:LK))) (c81:zA ([]:LK)->MM (zA ([.st TI.node]:LK)×Option MT)) (c82:zA ([]:LK)->List Nd->MM (zA ([]:LK)×List Nd)) (x:zA [parK]) (a:zA ([]:LK)):Option (Option (zA [parJ]×zA ([.st TI.node,.str,.bool]:LK))):=
 runP CC Tb fu 3 (zB [(36,fd36)]) (zB []) (zB [(38,zO)]) (zB [(54,cJ ([.dl TI.str]:LK) ([.bool]:LK) c54),(56,cNj ([]:LK) ([.st TI.node,.str,.bool]:LK) c56),(72,cJ ([.int .i64]:LK) ([.str]:LK) c72),(73,cM ([]:LK) ([.st TI.node]:LK) c73),(78,cM ([.str]:LK) ([.st TI.node]:LK) c78),(79,cX ([]:LK) ([]:LK) c79),(80,cM ([]:LK) ([.st TI.node]:LK) c80),(81,cL ([]:LK) ([.st TI.node]:LK) c81),(82,cX ([]:LK) ([]:LK) c82)]) fd56 [parK] [parJ] ([]:LK) ([.st TI.node,.str,.bool]:LK) x a
theorem fdok56:FDOk Tryz.prog (hasN []) (hasN [38]) 56 fd56:=⟨⟨Tryz.f56,Tryz.func56,by kernel_rfl,Tryz.ntmps56,Tryz.results56⟩,by kernel_rfl,by kernel_rfl,by kernel_rfl⟩
theorem zNh:FDOk Tryz.prog (hasN []) (hasN [38]) 36 fd36:=⟨⟨Tryz.f36,Tryz.func36,by kernel_rfl,Tryz.ntmps36,Tryz.results36⟩,by kernel_rfl,by kernel_rfl,by kernel_rfl⟩
noncomputable def run130 (fu:Nat) (c54:zA ([.dl TI.str]:LK)->MM (zA ([.bool]:LK))) (c72:zA ([.int .i64]:LK)->MM (zA ([.str]:LK))) (c73:zA ([]:LK)->MM (zA ([.st TI.node]:LK))) (c76:zA ([.int .i64]:LK)->MM (zA ([.bool]:LK))) (c78:zA ([.str]:LK)->MM (zA ([.st TI.node]:LK))) (c79:zA ([]:LK)->List Nd->MM (zA ([]:LK)×List Nd)) (c82:zA ([]:LK)->List Nd->MM (zA ([]:LK)×List Nd)) (c85:zA ([.int .i64]:LK)->MM (zA ([.bool]:LK))) (c130:zA ([.bool]:LK)->MM (zA ([.st TI.node,.str,.bool]:LK))) (x:zA [parK]) (a:zA ([.bool]:LK)):Option (Option (zA [parK]×zA ([.st TI.node,.str,.bool]:LK))):=
 runP CC Tb fu 3 (zB [(36,fd36)]) (zB []) (zB [(38,zO)]) (zB [(54,cJ ([.dl TI.str]:LK) ([.bool]:LK) c54),(72,cJ ([.int .i64]:LK) ([.str]:LK) c72),(73,cM ([]:LK) ([.st TI.node]:LK) c73),(76,cM ([.int .i64]:LK) ([.bool]:LK) c76),(78,cM ([.str]:LK) ([.st TI.node]:LK) c78),(79,cX ([]:LK) ([]:LK) c79),(82,cX ([]:LK) ([]:LK) c82),(85,cM ([.int .i64]:LK) ([.bool]:LK) c85),(130,cM ([.bool]:LK) ([.st TI.node,.str,.bool]:LK) c130)]) fd130 [parK] [parK] ([.bool]:LK) ([.st TI.node,.str,.bool]:LK) x a
theorem zQD:FDOk Tryz.prog (hasN []) (hasN [38]) 130 fd130:=⟨⟨Tryz.f130,Tryz.func130,by kernel_rfl,Tryz.ntmps130,Tryz.results130⟩,by kernel_rfl,by kernel_rfl,by kernel_rfl⟩
theorem zLe:FDOk Tryz.prog (hasN []) (hasN [38]) 36 fd36:=⟨⟨Tryz.f36,Tryz.func36,by kernel_rfl,Tryz.ntmps36,Tryz.results36⟩,by kernel_rfl,by kernel_rfl,by kernel_rfl⟩
noncomputable def run81 (fu:Nat) (c54:zA ([.dl TI.str]:LK)->MM (zA ([.bool]:LK))) (c59:zA ([.mpo]:LK)->MM (zA ([]:LK))) (c61:zA ([]:LK)->MM (zA ([.mpo]:LK))) (c73:zA ([]:LK)->MM (zA ([.st TI.node]:LK))) (c78:zA ([.str]:LK)->MM (zA ([.st TI.node]:LK))) (c110:zA ([]:LK)->MM (zA ([.st TI.node]:LK))) (x:zA [parK]) (a:zA ([]:LK)):Option (Option (zA [parL]×zA ([.st TI.node]:LK))):=
 runP CC Tb fu 3 (zB [(36,fd36)]) (zB []) (zB [(38,zO)]) (zB [(54,cJ ([.dl TI.str]:LK) ([.bool]:LK) c54),(59,cM ([.mpo]:LK) ([]:LK) c59),(61,cM ([]:LK) ([.mpo]:LK) c61),(73,cM ([]:LK) ([.st TI.node]:LK) c73),(78,cM ([.str]:LK) ([.st TI.node]:LK) c78),(110,cM ([]:LK) ([.st TI.node]:LK) c110)]) fd81 [parK] [parL] ([]:LK) ([.st TI.node]:LK) x a
theorem fdok81:FDOk Tryz.prog (hasN []) (hasN [38]) 81 fd81:=⟨⟨Tryz.f81,Tryz.func81,by kernel_rfl,Tryz.ntmps81,Tryz.results81⟩,by kernel_rfl,by kernel_rfl,by kernel_rfl⟩
theorem zMt:FDOk Tryz.prog (hasN []) (hasN [38]) 36 fd36:=⟨⟨Tryz.f36,Tryz.func36,by kernel_rfl,Tryz.ntmps36,Tryz.results36⟩,by kernel_rfl,by kernel_rfl,by kernel_rfl⟩
noncomputable def run110 (fu:Nat) (c53:zA ([]:LK)->MM (zA ([.st TI.node,.bool]:LK))) (c58:zA ([.str,.bool]:LK)->MM (zA ([]:LK))) (c130:zA ([.bool]:LK)->MM (zA ([.st TI.node,.str,.bool]:LK))) (x:zA [parK]) (a:zA ([]:LK)):Option (Option (zA [parK]×zA ([.st TI.node]:LK))):=
 runP CC Tb fu 3 (zB [(36,fd36)]) (zB []) (zB [(38,zO)]) (zB [(53,cM ([]:LK) ([.st TI.node,.bool]:LK) c53),(58,cM ([.str,.bool]:LK) ([]:LK) c58),(130,cM ([.bool]:LK) ([.st TI.node,.str,.bool]:LK) c130)]) fd110 [parK] [parK] ([]:LK) ([.st TI.node]:LK) x a
theorem zQ6:FDOk Tryz.prog (hasN []) (hasN [38]) 110 fd110:=⟨⟨Tryz.f110,Tryz.func110,by kernel_rfl,Tryz.ntmps110,Tryz.results110⟩,by kernel_rfl,by kernel_rfl,by kernel_rfl⟩
theorem zLx:FDOk Tryz.prog (hasN []) (hasN [38]) 36 fd36:=⟨⟨Tryz.f36,Tryz.func36,by kernel_rfl,Tryz.ntmps36,Tryz.results36⟩,by kernel_rfl,by kernel_rfl,by kernel_rfl⟩
noncomputable def run151 (fu:Nat) (c53:zA ([]:LK)->MM (zA ([.st TI.node,.bool]:LK))) (c130:zA ([.bool]:LK)->MM (zA ([.st TI.node,.str,.bool]:LK))) (x:zA [parK]) (a:zA ([]:LK)):Option (Option (zA [parK]×zA ([.st TI.node]:LK))):=
 runP CC Tb fu 3 (zB [(36,fd36)]) (zB []) (zB [(38,zO)]) (zB [(53,cM ([]:LK) ([.st TI.node,.bool]:LK) c53),(130,cM ([.bool]:LK) ([.st TI.node,.str,.bool]:LK) c130)]) fd151 [parK] [parK] ([]:LK) ([.st TI.node]:LK) x a
theorem zQG:FDOk Tryz.prog (hasN []) (hasN [38]) 151 fd151:=⟨⟨Tryz.f151,Tryz.func151,by kernel_rfl,Tryz.ntmps151,Tryz.results151⟩,by kernel_rfl,by kernel_rfl,by kernel_rfl⟩
theorem zLX:FDOk Tryz.prog (hasN []) (hasN [38]) 36 fd36:=⟨⟨Tryz.f36,Tryz.func36,by kernel_rfl,Tryz.ntmps36,Tryz.results36⟩,by kernel_rfl,by kernel_rfl,by kernel_rfl⟩
noncomputable def run83 (fu:Nat) (c54:zA ([.dl TI.str]:LK)->MM (zA ([.bool]:LK))) (c73:zA ([]:LK)->MM (zA ([.st TI.node]:LK))) (c78:zA ([.str]:LK)->MM (zA ([.st TI.node]:LK))) (c83:zA ([]:LK)->MM (zA ([.st TI.node]:LK))) (c111:zA ([]:LK)->MM (zA ([.st TI.node]:LK))) (x:zA [parK]) (a:zA ([]:LK)):Option (Option (zA [parK]×zA ([.st TI.node]:LK))):=
 runP CC Tb fu 3 (zB [(36,fd36)]) (zB []) (zB [(38,zO)]) (zB [(54,cJ ([.dl TI.str]:LK) ([.bool]:LK) c54),(73,cM ([]:LK) ([.st TI.node]:LK) c73),(78,cM ([.str]:LK) ([.st TI.node]:LK) c78),(83,cM ([]:LK) ([.st TI.node]:LK) c83),(111,cM ([]:LK) ([.st TI.node]:LK) c111)]) fd83 [parK] [parK] ([]:LK) ([.st TI.node]:LK) x a
theorem fdok83:FDOk Tryz.prog (hasN []) (hasN [38]) 83 fd83:=⟨⟨Tryz.f83,Tryz.func83,by kernel_rfl,Tryz.ntmps83,Tryz.results83⟩,by kernel_rfl,by kernel_rfl,by kernel_rfl⟩
theorem zM8:FDOk Tryz.prog (hasN []) (hasN [38]) 36 fd36:=⟨⟨Tryz.f36,Tryz.func36,by kernel_rfl,Tryz.ntmps36,Tryz.results36⟩,by kernel_rfl,by kernel_rfl,by kernel_rfl⟩
noncomputable def run57 (fu:Nat) (c54:zA ([.dl TI.str]:LK)->MM (zA ([.bool]:LK))) (c58:zA ([.str,.bool]:LK)->MM (zA ([]:LK))) (c73:zA ([]:LK)->MM (zA ([.st TI.node]:LK))) (c83:zA ([]:LK)->MM (zA ([.st TI.node]:LK))) (x:zA [parK]) (a:zA ([.st TI.node,.str,.bool]:LK)):Option (Option (zA [parK]×zA ([.st TI.node]:LK))):=
 runP CC Tb fu 3 (zB [(36,fd36)]) (zB []) (zB [(38,zO)]) (zB [(54,cJ ([.dl TI.str]:LK) ([.bool]:LK) c54),(58,cM ([.str,.bool]:LK) ([]:LK) c58),(73,cM ([]:LK) ([.st TI.node]:LK) c73),(83,cM ([]:LK) ([.st TI.node]:LK) c83)]) fd57 [parK] [parK] ([.st TI.node,.str,.bool]:LK) ([.st TI.node]:LK) x a
theorem fdok57:FDOk Tryz.prog (hasN []) (hasN [38]) 57 fd57:=⟨⟨Tryz.f57,Tryz.func57,by kernel_rfl,Tryz.ntmps57,Tryz.results57⟩,by kernel_rfl,by kernel_rfl,by kernel_rfl⟩
theorem zN9:FDOk Tryz.prog (hasN []) (hasN [38]) 36 fd36:=⟨⟨Tryz.f36,Tryz.func36,by kernel_rfl,Tryz.ntmps36,Tryz.results36⟩,by kernel_rfl,by kernel_rfl,by kernel_rfl⟩
noncomputable def run55 (fu:Nat) (c54:zA ([.dl TI.str]:LK)->MM (zA ([.bool]:LK))) (c56:zA ([]:LK)->MM (zA ([.st TI.node,.str,.bool]:LK)×Option (Option MT))) (c57:zA ([.st TI.node,.str,.bool]:LK)->MM (zA ([.st TI.node]:LK))) (c73:zA ([]:LK)->MM (zA ([.st TI.node]:LK))) (c78:zA ([.str]:LK)->MM (zA ([.st TI.node]:LK))) (x:zA [parK]) (a:zA ([.ag [.ow true TI.node],.bool]:LK)):Option (Option (zA [parK]×zA ([.st TI.node]:LK))):=
 runP CC Tb fu 3 (zB [(36,fd36)]) (zB []) (zB [(38,zO)]) (zB [(54,cJ ([.dl TI.str]:LK) ([.bool]:LK) c54),(56,cNj ([]:LK) ([.st TI.node,.str,.bool]:LK) c56),(57,cM ([.st TI.node,.str,.bool]:LK) ([.st TI.node]:LK) c57),(73,cM ([]:LK) ([.st TI.node]:LK) c73),(78,cM ([.str]:LK) ([.st TI.node]:LK) c78)]) fd55 [parK] [parK] ([.ag [.ow true TI.node],.bool]:LK) ([.st TI.node]:LK) x a
theorem fdok55:FDOk Tryz.prog (hasN []) (hasN [38]) 55 fd55:=⟨⟨Tryz.f55,Tryz.func55,by kernel_rfl,Tryz.ntmps55,Tryz.results55⟩,by kernel_rfl,by kernel_rfl,by kernel_rfl⟩
theorem zOC:FDOk Tryz.prog (hasN []) (hasN [38]) 36 fd36:=⟨⟨Tryz.f36,Tryz.func36,by kernel_rfl,Tryz.ntmps36,Tryz.results36⟩,by kernel_rfl,by kernel_rfl,by kernel_rfl⟩
noncomputable def run37 (fu:Nat) (c53:zA ([]:LK)->MM (zA ([.st TI.node,.bool]:LK))) (c54:zA ([.dl TI.str]:LK)->MM (zA ([.bool]:LK))) (c55:zA ([.ag [.ow true TI.node],.bool]:LK)->MM (zA ([.st TI.node]:LK))) (c56:zA ([]:LK)->MM (zA ([.st TI.node,.str,.bool]:LK)×Option (Option MT))) (c57:zA ([.st TI.node,.str,.bool]:LK)->MM (zA ([.st TI.node]:LK))) (c58:zA ([.str,.bool]:LK)->MM (zA ([]:LK))) (c59:zA ([.mpo]:LK)->MM (zA ([]:LK))) (c60:zA ([]:LK)->MM (zA ([.st TI.node]:LK))) (c61:zA ([]:LK)->MM (zA ([.mpo]:LK))) (x:zA [parK]) (a:zA ([.bool]:LK)):Option (Option (zA [parK]×zA ([.st TI.node]:LK))):=
 runP CC Tb fu 3 (zB [(36,fd36)]) (zB []) (zB [(38,zO)]) (zB [(53,cM ([]:LK) ([.st TI.node,.bool]:LK) c53),(54,cJ ([.dl TI.str]:LK) ([.bool]:LK) c54),(55,cM ([.ag [.ow true TI.node],.bool]:LK) ([.st TI.node]:LK) c55),(56,cN ([]:LK) ([.st TI.node,.str,.bool]:LK) c56),(57,cM ([.st TI.node,.str,.bool]:LK) ([.st TI.node]:LK) c57),(58,cM ([.str,.bool]:LK) ([]:LK) c58),(59,cM ([.mpo]:LK) ([]:LK) c59),(60,cM ([]:LK) ([.st TI.node]:LK) c60),(61,cM ([]:LK) ([.mpo]:LK) c61)]) fd37 [parK] [parK] ([.bool]:LK) ([.st TI.node]:LK) x a
theorem fdok37:FDOk Tryz.prog (hasN []) (hasN [38]) 37 fd37:=⟨⟨Tryz.f37,Tryz.func37,by kernel_rfl,Tryz.ntmps37,Tryz.results37⟩,by kernel_rfl,by kernel_rfl,by kernel_rfl⟩
theorem zMy:FDOk Tryz.prog (hasN []) (hasN [38]) 36 fd36:=⟨⟨Tryz.f36,Tryz.func36,by kernel_rfl,Tryz.ntmps36,Tryz.results36⟩,by kernel_rfl,by kernel_rfl,by kernel_rfl⟩
noncomputable def run60 (fu:Nat) (c37:zA ([.bool]:LK)->MM (zA ([.st TI.node]:LK))) (c54:zA ([.dl TI.str]:LK)->MM (zA ([.bool]:LK))) (c72:zA ([.int .i64]:LK)->MM (zA ([.str]:LK))) (c73:zA ([]:LK)->MM (zA ([.st TI.node]:LK))) (c78:zA ([.str]:LK)->MM (zA ([.st TI.node]:LK))) (c84:zA ([.int .i64]:LK)->MM (zA ([.bool]:LK))) (c85:zA ([.int .i64]:LK)->MM (zA ([.bool]:LK))) (c86:zA ([]:LK)->MM (zA ([.st TI.node]:LK))) (x:zA [parK]) (a:zA ([]:LK)):Option (Option (zA [parK]×zA ([.st TI.node]:LK))):=
 runP CC Tb fu 3 (zB [(36,fd36)]) (zB []) (zB [(38,zO)]) (zB [(37,cM ([.bool]:LK) ([.st TI.node]:LK) c37),(54,cJ ([.dl TI.str]:LK) ([.bool]:LK) c54),(72,cJ ([.int .i64]:LK) ([.str]:LK) c72),(73,cM ([]:LK) ([.st TI.node]:LK) c73),(78,cM ([.str]:LK) ([.st TI.node]:LK) c78),(84,cM ([.int .i64]:LK) ([.bool]:LK) c84),(85,cM ([.int .i64]:LK) ([.bool]:LK) c85),(86,cM ([]:LK) ([.st TI.node]:LK) c86)]) fd60 [parK] [parK] ([]:LK) ([.st TI.node]:LK) x a
theorem fdok60:FDOk Tryz.prog (hasN []) (hasN [38]) 60 fd60:=⟨⟨Tryz.f60,Tryz.func60,by kernel_rfl,Tryz.ntmps60,Tryz.results60⟩,by kernel_rfl,by kernel_rfl,by kernel_rfl⟩
theorem zMb:FDOk Tryz.prog (hasN []) (hasN [38]) 36 fd36:=⟨⟨Tryz.f36,Tryz.func36,by kernel_rfl,Tryz.ntmps36,Tryz.results36⟩,by kernel_rfl,by kernel_rfl,by kernel_rfl⟩
noncomputable def run86 (fu:Nat) (c54:zA ([.dl TI.str]:LK)->MM (zA ([.bool]:LK))) (c59:zA ([.mpo]:LK)->MM (zA ([]:LK))) (c60:zA ([]:LK)->MM (zA ([.st TI.node]:LK))) (c61:zA ([]:LK)->MM (zA ([.mpo]:LK))) (c72:zA ([.int .i64]:LK)->MM (zA ([.str]:LK))) (c73:zA ([]:LK)->MM (zA ([.st TI.node]:LK))) (c78:zA ([.str]:LK)->MM (zA ([.st TI.node]:LK))) (c80:zA ([]:LK)->MM (zA ([.st TI.node]:LK))) (c85:zA ([.int .i64]:LK)->MM (zA ([.bool]:LK))) (c86:zA ([]:LK)->MM (zA ([.st TI.node]:LK))) (c112:zA ([.int .i64]:LK)->MM (zA ([.bool]:LK))) (c113:zA ([]:LK)->MM (zA ([.st TI.node]:LK))) (c114:zA ([]:LK)->MM (zA ([.st TI.node]:LK))) (c115:zA ([]:LK)->List Nd->MM (zA ([]:LK)×List Nd)) (c116:zA ([.ag [.ow true TI.node]]:LK)->MM (zA ([.st TI.node]:LK))) (c117:zA ([.str]:LK)->List Nd->MM (zA ([]:LK)×List Nd)) (x:zA [parK]) (a:zA ([]:LK)):Option (Option (zA [parK]×zA ([.st TI.node]:LK))):=
 runP CC Tb fu 3 (zB [(36,fd36)]) (zB []) (zB [(38,zO)]) (zB [(54,cJ ([.dl TI.str]:LK) ([.bool]:LK) c54),(59,cM ([.mpo]:LK) ([]:LK) c59),(60,cM ([]:LK) ([.st TI.node]:LK) c60),(61,cM ([]:LK) ([.mpo]:LK) c61),(72,cJ ([.int .i64]:LK) ([.str]:LK) c72),(73,cM ([]:LK) ([.st TI.node]:LK) c73),(77,xq),(78,cM ([.str]:LK) ([.st TI.node]:LK) c78),(80,cM ([]:LK) ([.st TI.node]:LK) c80),(85,cM ([.int .i64]:LK) ([.bool]:LK) c85),(86,cM ([]:LK) ([.st TI.node]:LK) c86),(112,cM ([.int .i64]:LK) ([.bool]:LK) c112),(113,cM ([]:LK) ([.st TI.node]:LK) c113),(114,cM ([]:LK) ([.st TI.node]:LK) c114),(115,cX ([]:LK) ([]:LK) c115),(116,cM ([.ag [.ow true TI.node]]:LK) ([.st TI.node]:LK) c116),(117,cX ([.str]:LK) ([]:LK) c117)]) fd86 [parK] [parK] ([]:LK) ([.st TI.node]:LK) x a
theorem fdok86:FDOk Tryz.prog (hasN []) (hasN [38]) 86 fd86:=⟨⟨Tryz.f86,Tryz.func86,by kernel_rfl,Tryz.ntmps86,Tryz.results86⟩,by kernel_rfl,by kernel_rfl,by kernel_rfl⟩
theorem zNF:FDOk Tryz.prog (hasN []) (hasN [38]) 36 fd36:=⟨⟨Tryz.f36,Tryz.func36,by kernel_rfl,Tryz.ntmps36,Tryz.results36⟩,by kernel_rfl,by kernel_rfl,by kernel_rfl⟩
noncomputable def run116 (fu:Nat) (c37:zA ([.bool]:LK)->MM (zA ([.st TI.node]:LK))) (c59:zA ([.mpo]:LK)->MM (zA ([]:LK))) (c61:zA ([]:LK)->MM (zA ([.mpo]:LK))) (c78:zA ([.str]:LK)->MM (zA ([.st TI.node]:LK))) (c84:zA ([.int .i64]:LK)->MM (zA ([.bool]:LK))) (c86:zA ([]:LK)->MM (zA ([.st TI.node]:LK))) (c117:zA ([.str]:LK)->List Nd->MM (zA ([]:LK)×List Nd)) (x:zA [parK]) (a:zA ([.ag [.ow true TI.node]]:LK)):Option (Option (zA [parK]×zA ([.st TI.node]:LK))):=
 runP CC Tb fu 3 (zB [(36,fd36)]) (zB []) (zB [(38,zO)]) (zB [(37,cM ([.bool]:LK) ([.st TI.node]:LK) c37),(59,cM ([.mpo]:LK) ([]:LK) c59),(61,cM ([]:LK) ([.mpo]:LK) c61),(78,cM ([.str]:LK) ([.st TI.node]:LK) c78),(84,cM ([.int .i64]:LK) ([.bool]:LK) c84),(86,cM ([]:LK) ([.st TI.node]:LK) c86),(117,cX ([.str]:LK) ([]:LK) c117)]) fd116 [parK] [parK] ([.ag [.ow true TI.node]]:LK) ([.st TI.node]:LK) x a
theorem zPv:FDOk Tryz.prog (hasN []) (hasN [38]) 116 fd116:=⟨⟨Tryz.f116,Tryz.func116,by kernel_rfl,Tryz.ntmps116,Tryz.results116⟩,by kernel_rfl,by kernel_rfl,by kernel_rfl⟩
theorem zLg:FDOk Tryz.prog (hasN []) (hasN [38]) 36 fd36:=⟨⟨Tryz.f36,Tryz.func36,by kernel_rfl,Tryz.ntmps36,Tryz.results36⟩,by kernel_rfl,by kernel_rfl,by kernel_rfl⟩
noncomputable def run115 (fu:Nat) (c78:zA ([.str]:LK)->MM (zA ([.st TI.node]:LK))) (c113:zA ([]:LK)->MM (zA ([.st TI.node]:LK))) (x:zA [parK,ptsK]) (a:zA ([]:LK)):Option (Option (zA [parK,ptsK]×zA ([]:LK))):=
 runP CC Tb fu 3 (zB [(36,fd36)]) (zB []) (zB []) (zB [(78,cM ([.str]:LK) ([.st TI.node]:LK) c78),(113,cM ([]:LK) ([.st TI.node]:LK) c113)]) fd115 [parK,ptsK] [parK,ptsK] ([]:LK) ([]:LK) x a
theorem zPg:FDOk Tryz.prog (hasN []) (hasN []) 115 fd115:=⟨⟨Tryz.f115,Tryz.func115,by kernel_rfl,Tryz.ntmps115,Tryz.results115⟩,by kernel_rfl,by kernel_rfl,by kernel_rfl⟩
theorem zLR:FDOk Tryz.prog (hasN []) (hasN []) 36 fd36:=⟨⟨Tryz.f36,Tryz.func36,by kernel_rfl,Tryz.ntmps36,Tryz.results36⟩,by kernel_rfl,by kernel_rfl,by kernel_rfl⟩
noncomputable def run117 (fu:Nat) (c54:zA ([.dl TI.str]:LK)->MM (zA ([.bool]:LK))) (c78:zA ([.str]:LK)->MM (zA ([.st TI.node]:LK))) (c113:zA ([]:LK)->MM (zA ([.st TI.node]:LK))) (x:zA [parK,ptsK]) (a:zA ([.str]:LK)):Option (Option (zA [parK,ptsK]×zA ([]:LK))):=
 runP CC Tb fu 3 (zB [(36,fd36)]) (zB []) (zB []) (zB [(54,cJ ([.dl TI.str]:LK) ([.bool]:LK) c54),(78,cM ([.str]:LK) ([.st TI.node]:LK) c78),(113,cM ([]:LK) ([.st TI.node]:LK) c113)]) fd117 [parK,ptsK] [parK,ptsK] ([.str]:LK) ([]:LK) x a
theorem zP5:FDOk Tryz.prog (hasN []) (hasN []) 117 fd117:=⟨⟨Tryz.f117,Tryz.func117,by kernel_rfl,Tryz.ntmps117,Tryz.results117⟩,by kernel_rfl,by kernel_rfl,by kernel_rfl⟩
theorem zME:FDOk Tryz.prog (hasN []) (hasN []) 36 fd36:=⟨⟨Tryz.f36,Tryz.func36,by kernel_rfl,Tryz.ntmps36,Tryz.results36⟩,by kernel_rfl,by kernel_rfl,by kernel_rfl⟩
noncomputable def run113 (fu:Nat) (c54:zA ([.dl TI.str]:LK)->MM (zA ([.bool]:LK))) (c73:zA ([]:LK)->MM (zA ([.st TI.node]:LK))) (c111:zA ([]:LK)->MM (zA ([.st TI.node]:LK))) (c113:zA ([]:LK)->MM (zA ([.st TI.node]:LK))) (x:zA [parK]) (a:zA ([]:LK)):Option (Option (zA [parK]×zA ([.st TI.node]:LK))):=
 runP CC Tb fu 3 (zB [(41,fd41)]) (zB []) (zB []) (zB [(54,cJ ([.dl TI.str]:LK) ([.bool]:LK) c54),(73,cM ([]:LK) ([.st TI.node]:LK) c73),(111,cM ([]:LK) ([.st TI.node]:LK) c111),(113,cM ([]:LK) ([.st TI.node]:LK) c113)]) fd113 [parK] [parK] ([]:LK) ([.st TI.node]:LK) x a
theorem zPh:FDOk Tryz.prog (hasN []) (hasN []) 113 fd113:=⟨⟨Tryz.f113,Tryz.func113,by kernel_rfl,Tryz.ntmps113,Tryz.results113⟩,by kernel_rfl,by kernel_rfl,by kernel_rfl⟩
theorem zLB:FDOk Tryz.prog (hasN []) (hasN []) 41 fd41:=⟨⟨Tryz.f41,Tryz.func41,by kernel_rfl,Tryz.ntmps41,Tryz.results41⟩,by kernel_rfl,by kernel_rfl,by kernel_rfl⟩
noncomputable def run111 (fu:Nat) (c54:zA ([.dl TI.str]:LK)->MM (zA ([.bool]:LK))) (c73:zA ([]:LK)->MM (zA ([.st TI.node]:LK))) (c111:zA ([]:LK)->MM (zA ([.st TI.node]:LK))) (c114:zA ([]:LK)->MM (zA ([.st TI.node]:LK))) (x:zA [parK]) (a:zA ([]:LK)):Option (Option (zA [parK]×zA ([.st TI.node]:LK))):=
 runP CC Tb fu 3 (zB [(41,fd41)]) (zB []) (zB []) (zB [(54,cJ ([.dl TI.str]:LK) ([.bool]:LK) c54),(73,cM ([]:LK) ([.st TI.node]:LK) c73),(111,cM ([]:LK) ([.st TI.node]:LK) c111),(114,cM ([]:LK) ([.st TI.node]:LK) c114)]) fd111 [parK] [parK] ([]:LK) ([.st TI.node]:LK) x a
theorem zQ4:FDOk Tryz.prog (hasN []) (hasN []) 111 fd111:=⟨⟨Tryz.f111,Tryz.func111,by kernel_rfl,Tryz.ntmps111,Tryz.results111⟩,by kernel_rfl,by kernel_rfl,by kernel_rfl⟩
theorem zLQ:FDOk Tryz.prog (hasN []) (hasN []) 41 fd41:=⟨⟨Tryz.f41,Tryz.func41,by kernel_rfl,Tryz.ntmps41,Tryz.results41⟩,by kernel_rfl,by kernel_rfl,by kernel_rfl⟩
noncomputable def run114 (fu:Nat) (c54:zA ([.dl TI.str]:LK)->MM (zA ([.bool]:LK))) (c73:zA ([]:LK)->MM (zA ([.st TI.node]:LK))) (c78:zA ([.str]:LK)->MM (zA ([.st TI.node]:LK))) (c113:zA ([]:LK)->MM (zA ([.st TI.node]:LK))) (c114:zA ([]:LK)->MM (zA ([.st TI.node]:LK))) (c131:zA ([.int .i64]:LK)->MM (zA ([.st TI.node]:LK))) (x:zA [parK]) (a:zA ([]:LK)):Option (Option (zA [parK]×zA ([.st TI.node]:LK))):=
 runP CC Tb fu 3 (zB [(36,fd36)]) (zB []) (zB [(38,zO)]) (zB [(54,cJ ([.dl TI.str]:LK) ([.bool]:LK) c54),(73,cM ([]:LK) ([.st TI.node]:LK) c73),(78,cM ([.str]:LK) ([.st TI.node]:LK) c78),(113,cM ([]:LK) ([.st TI.node]:LK) c113),(114,cM ([]:LK) ([.st TI.node]:LK) c114),(131,cM ([.int .i64]:LK) ([.st TI.node]:LK) c131)]) fd114 [parK] [parK] ([]:LK) ([.st TI.node]:LK) x a
theorem zQm:FDOk Tryz.prog (hasN []) (hasN [38]) 114 fd114:=⟨⟨Tryz.f114,Tryz.func114,by kernel_rfl,Tryz.ntmps114,Tryz.results114⟩,by kernel_rfl,by kernel_rfl,by kernel_rfl⟩
theorem zMC:FDOk Tryz.prog (hasN []) (hasN [38]) 36 fd36:=⟨⟨Tryz.f36,Tryz.func36,by kernel_rfl,Tryz.ntmps36,Tryz.results36⟩,by kernel_rfl,by kernel_rfl,by kernel_rfl⟩
noncomputable def run131 (fu:Nat) (c143:List UInt8×Unit->Option (Int×Unit)) (c72:zA ([.int .i64]:LK)->MM (zA ([.str]:LK))) (c73:zA ([]:LK)->MM (zA ([.st TI.node]:LK))) (c131:zA ([.int .i64]:LK)->MM (zA ([.st TI.node]:LK))) (c142:zA ([]:LK)->MM (zA ([.st TI.node]:LK))) (x:zA [parK]) (a:zA ([.int .i64]:LK)):Option (Option (zA [parK]×zA ([.st TI.node]:LK))):=
 runP CC Tb fu 3 (zB [(41,fd41)]) (zB [(143,(⟨zBX,zA1,c143⟩:Con UU))]) (zB []) (zB [(72,cJ ([.int .i64]:LK) ([.str]:LK) c72),(73,cM ([]:LK) ([.st TI.node]:LK) c73),(131,cM ([.int .i64]:LK) ([.st TI.node]:LK) c131),(142,cM ([]:LK) ([.st TI.node]:LK) c142)]) fd131 [parK] [parK] ([.int .i64]:LK) ([.st TI.node]:LK) x a
theorem zPo:FDOk Tryz.prog (hasN [143]) (hasN []) 131 fd131:=⟨⟨Tryz.f131,Tryz.func131,by kernel_rfl,Tryz.ntmps131,Tryz.results131⟩,by kernel_rfl,by kernel_rfl,by kernel_rfl⟩
theorem zLI:FDOk Tryz.prog (hasN [143]) (hasN []) 41 fd41:=⟨⟨Tryz.f41,Tryz.func41,by kernel_rfl,Tryz.ntmps41,Tryz.results41⟩,by kernel_rfl,by kernel_rfl,by kernel_rfl⟩
noncomputable def run142 (fu:Nat) (c54:zA ([.dl TI.str]:LK)->MM (zA ([.bool]:LK))) (c73:zA ([]:LK)->MM (zA ([.st TI.node]:LK))) (c78:zA ([.str]:LK)->MM (zA ([.st TI.node]:LK))) (c84:zA ([.int .i64]:LK)->MM (zA ([.bool]:LK))) (c142:zA ([]:LK)->MM (zA ([.st TI.node]:LK))) (c150:zA ([]:LK)->MM (zA ([.st TI.node]:LK))) (c151:zA ([]:LK)->MM (zA ([.st TI.node]:LK))) (x:zA [parK]) (a:zA ([]:LK)):Option (Option (zA [parK]×zA ([.st TI.node]:LK))):=
 runP CC Tb fu 3 (zB [(36,fd36)]) (zB []) (zB [(38,zO)]) (zB [(54,cJ ([.dl TI.str]:LK) ([.bool]:LK) c54),(73,cM ([]:LK) ([.st TI.node]:LK) c73),(78,cM ([.str]:LK) ([.st TI.node]:LK) c78),(84,cM ([.int .i64]:LK) ([.bool]:LK) c84),(142,cM ([]:LK) ([.st TI.node]:LK) c142),(150,cM ([]:LK) ([.st TI.node]:LK) c150),(151,cM ([]:LK) ([.st TI.node]:LK) c151)]) fd142 [parK] [parK] ([]:LK) ([.st TI.node]:LK) x a
theorem zQu:FDOk Tryz.prog (hasN []) (hasN [38]) 142 fd142:=⟨⟨Tryz.f142,Tryz.func142,by kernel_rfl,Tryz.ntmps142,Tryz.results142⟩,by kernel_rfl,by kernel_rfl,by kernel_rfl⟩
theorem zL9:FDOk Tryz.prog (hasN []) (hasN [38]) 36 fd36:=⟨⟨Tryz.f36,Tryz.func36,by kernel_rfl,Tryz.ntmps36,Tryz.results36⟩,by kernel_rfl,by kernel_rfl,by kernel_rfl⟩
noncomputable def run150 (fu:Nat) (c54:zA ([.dl TI.str]:LK)->MM (zA ([.bool]:LK))) (c73:zA ([]:LK)->MM (zA ([.st TI.node]:LK))) (c78:zA ([.str]:LK)->MM (zA ([.st TI.node]:LK))) (c84:zA ([.int .i64]:LK)->MM (zA ([.bool]:LK))) (c142:zA ([]:LK)->MM (zA ([.st TI.node]:LK))) (c150:zA ([]:LK)->MM (zA ([.st TI.node]:LK))) (c151:zA ([]:LK)->MM (zA ([.st TI.node]:LK))) (c154:zA ([.st TI.node]:LK)->MM (zA ([.st TI.node]:LK))) (c155:zA ([]:LK)->MM (zA ([.st TI.node]:LK))) (x:zA [parK]) (a:zA ([]:LK)):Option (Option (zA [parK]×zA ([.st TI.node]:LK))):=
 runP CC Tb fu 3 (zB [(36,fd36)]) (zB []) (zB [(38,zO)]) (zB [(54,cJ ([.dl TI.str]:LK) ([.bool]:LK) c54),(73,cM ([]:LK) ([.st TI.node]:LK) c73),(78,cM ([.str]:LK) ([.st TI.node]:LK) c78),(84,cM ([.int .i64]:LK) ([.bool]:LK) c84),(142,cM ([]:LK) ([.st TI.node]:LK) c142),(150,cM ([]:LK) ([.st TI.node]:LK) c150),(151,cM ([]:LK) ([.st TI.node]:LK) c151),(154,cM ([.st TI.node]:LK) ([.st TI.node]:LK) c154),(155,cM ([]:LK) ([.st TI.node]:LK) c155)]) fd150 [parK] [parK] ([]:LK) ([.st TI.node]:LK) x a
theorem zPq:FDOk Tryz.prog (hasN []) (hasN [38]) 150 fd150:=⟨⟨Tryz.f150,Tryz.func150,by kernel_rfl,Tryz.ntmps150,Tryz.results150⟩,by kernel_rfl,by kernel_rfl,by kernel_rfl⟩
theorem zLG:FDOk Tryz.prog (hasN []) (hasN [38]) 36 fd36:=⟨⟨Tryz.f36,Tryz.func36,by kernel_rfl,Tryz.ntmps36,Tryz.results36⟩,by kernel_rfl,by kernel_rfl,by kernel_rfl⟩
noncomputable def run154 (fu:Nat) (c54:zA ([.dl TI.str]:LK)->MM (zA ([.bool]:LK))) (c73:zA ([]:LK)->MM (zA ([.st TI.node]:LK))) (c78:zA ([.str]:LK)->MM (zA ([.st TI.node]:LK))) (c80:zA ([]:LK)->MM (zA ([.st TI.node]:LK))) (c111:zA ([]:LK)->MM (zA ([.st TI.node]:LK))) (c113:zA ([]:LK)->MM (zA ([.st TI.node]:LK))) (x:zA [parK]) (a:zA ([.st TI.node]:LK)):Option (Option (zA [parK]×zA ([.st TI.node]:LK))):=
 runP CC Tb fu 3 (zB [(36,fd36)]) (zB []) (zB [(38,zO)]) (zB [(54,cJ ([.dl TI.str]:LK) ([.bool]:LK) c54),(73,cM ([]:LK) ([.st TI.node]:LK) c73),(78,cM ([.str]:LK) ([.st TI.node]:LK) c78),(80,cM ([]:LK) ([.st TI.node]:LK) c80),(111,cM ([]:LK) ([.st TI.node]:LK) c111),(113,cM ([]:LK) ([.st TI.node]:LK) c113)]) fd154 [parK] [parK] ([.st TI.node]:LK) ([.st TI.node]:LK) x a
theorem zPT:FDOk Tryz.prog (hasN []) (hasN [38]) 154 fd154:=⟨⟨Tryz.f154,Tryz.func154,by kernel_rfl,Tryz.ntmps154,Tryz.results154⟩,by kernel_rfl,by kernel_rfl,by kernel_rfl⟩
theorem zLu:FDOk Tryz.prog (hasN []) (hasN [38]) 36 fd36:=⟨⟨Tryz.f36,Tryz.func36,by kernel_rfl,Tryz.ntmps36,Tryz.results36⟩,by kernel_rfl,by kernel_rfl,by kernel_rfl⟩
noncomputable def run155 (fu:Nat) (c73:zA ([]:LK)->MM (zA ([.st TI.node]:LK))) (c85:zA ([.int .i64]:LK)->MM (zA ([.bool]:LK))) (c112:zA ([.int .i64]:LK)->MM (zA ([.bool]:LK))) (c115:zA ([]:LK)->List Nd->MM (zA ([]:LK)×List Nd)) (x:zA [parK]) (a:zA ([]:LK)):Option (Option (zA [parK]×zA ([.st TI.node]:LK))):=
 runP CC Tb fu 3 (zB [(36,fd36)]) (zB []) (zB [(38,zO)]) (zB [(73,cM ([]:LK) ([.st TI.node]:LK) c73),(85,cM ([.int .i64]:LK) ([.bool]:LK) c85),(112,cM ([.int .i64]:LK) ([.bool]:LK) c112),(115,cX ([]:LK) ([]:LK) c115)]) fd155 [parK] [parK] ([]:LK) ([.st TI.node]:LK) x a
theorem zQQ:FDOk Tryz.prog (hasN []) (hasN [38]) 155 fd155:=⟨⟨Tryz.f155,Tryz.func155,by kernel_rfl,Tryz.ntmps155,Tryz.results155⟩,by kernel_rfl,by kernel_rfl,by kernel_rfl⟩
theorem zLb:FDOk Tryz.prog (hasN []) (hasN [38]) 36 fd36:=⟨⟨Tryz.f36,Tryz.func36,by kernel_rfl,Tryz.ntmps36,Tryz.results36⟩,by kernel_rfl,by kernel_rfl,by kernel_rfl⟩
noncomputable def run143 (fu:Nat) (nf:Nat->Bool) (x0:List UInt8):Option (zS zA1):=
 kc CC Tb fu 2 (zB []) (zB []) (zB []) (zB []) fd143 zBX zA1 nf (x0,())
theorem zQ5:FDOk Tryz.prog (hasN []) (hasN []) 143 fd143:=⟨⟨Tryz.f143,Tryz.func143,by kernel_rfl,Tryz.ntmps143,Tryz.results143⟩,by kernel_rfl,by kernel_rfl,by kernel_rfl⟩
end Go.Proofs.YtnamdpbcpnnhaaaGreatDoor
end
section
set_option linter.unusedVariables false
set_option linter.unusedSimpArgs false
namespace Go.Proofs.YtnamdpbcpnnhaaaGreatDoor
open Go.Al Go.Den
def sh53 (fu:Nat) (c33:((List Str)×(Str×Unit))->(Option (Bool×Unit))) (c72:(Int×Unit)->MM (Str×Unit)) (c73:Unit->MM (Nd×Unit)) (c74:Unit->MM (Nd×Unit)) (c75:Unit->MM (Nd×Unit)) (c76:(Int×Unit)->MM (Bool×Unit)) (x:(ParT×Unit)) (a:Unit):(Option (Option ((ParT×Unit)×(Nd×(Bool×Unit))))):=iter fu (fun (rec1:((Bool×(Bool×(Bool×Unit)))×(ParT×(JT×(NdsT×Unit))))->Option (Option ((ParT×Unit)×(Nd×(Bool×Unit))))) (s1:((Bool×(Bool×(Bool×Unit)))×(ParT×(JT×(NdsT×Unit)))))=>bo (c72 (0,()) s1.2.1.1 (s1.2.1.2.1,s1.2.1.2.2.1)) fun y1=>zR (fun (join0:((Bool×Unit)×(ParT×(JT×(NdsT×Unit))))->Option (Option ((ParT×Unit)×(Nd×(Bool×Unit)))))=>Option.bind (c33 ([[99,111,110,115,116],[101,120,116,101,114,110],[105,110,108,105,110,101],[114,101,103,105,115,116,101,114],[115,116,97,116,105,99],[97,117,116,111],[116,121,112,101,100,101,102],[118,111,108,97,116,105,108,101]],(y1.1.1,()))) fun y2=>cond y2.1 (cond s1.1.1 (bo (c73 () s1.2.1.1 (y1.2.1,y1.2.2)) fun y4=>ck ((List.length s1.2.2.2.1.1)+(List.length [(ndE y4.1.1)])) (rec1 ((true,(s1.1.2.1,(s1.1.2.2.1,()))),((s1.2.1.1,(y4.2.1,(y4.2.2,((),())))),((s1.2.2.1.1,(s1.2.2.1.2.1,(s1.2.2.1.2.2.1,()))),(((s1.2.2.2.1.1++[(ndE y4.1.1)]),()),())))))) (bo (c73 () s1.2.1.1 (y1.2.1,y1.2.2)) fun y4=>ck ((List.length s1.2.2.2.1.1)+(List.length [(ndE y4.1.1)])) (rec1 (((seq y1.1.1 [116,121,112,101,100,101,102]),(s1.1.2.1,(s1.1.2.2.1,()))),((s1.2.1.1,(y4.2.1,(y4.2.2,((),())))),((s1.2.2.1.1,(s1.2.2.1.2.1,(s1.2.2.1.2.2.1,()))),(((s1.2.2.2.1.1++[(ndE y4.1.1)]),()),()))))))) (Option.bind (c33 ([[99,104,97,114],[100,111,117,98,108,101],[102,108,111,97,116],[105,110,116],[108,111,110,103],[115,104,111,114,116],[115,105,103,110,101,100],[117,110,115,105,103,110,101,100],[118,111,105,100]],(y1.1.1,()))) fun y3=>cond y3.1 (cond (!s1.1.2.2.1) (bo (c73 () s1.2.1.1 (y1.2.1,y1.2.2)) fun y5=>ck ((List.length s1.2.2.2.1.1)+(List.length [(ndE y5.1.1)])) (rec1 ((s1.1.1,(true,(s1.1.2.2.1,()))),((s1.2.1.1,(y5.2.1,(y5.2.2,((),())))),((s1.2.2.1.1,(s1.2.2.1.2.1,(s1.2.2.1.2.2.1,()))),(((s1.2.2.2.1.1++[(ndE y5.1.1)]),()),())))))) (cond s1.1.2.1 (join0 ((s1.1.1,()),((s1.2.1.1,(y1.2.1,(y1.2.2,((),())))),((s1.2.2.1.1,(s1.2.2.1.2.1,(s1.2.2.1.2.2.1,()))),((s1.2.2.2.1.1,()),()))))) (cond s1.1.2.2.1 (join0 ((s1.1.1,()),((s1.2.1.1,(y1.2.1,(y1.2.2,((),())))),((s1.2.2.1.1,(s1.2.2.1.2.1,(s1.2.2.1.2.2.1,()))),((s1.2.2.2.1.1,()),()))))) (cond (seq y1.1.1 [115,116,114,117,99,116]) (bo (c74 () s1.2.1.1 (y1.2.1,y1.2.2)) fun y5=>ck ((List.length s1.2.2.2.1.1)+(List.length [(ndE y5.1.1)])) (rec1 ((s1.1.1,(s1.1.2.1,(true,()))),((s1.2.1.1,(y5.2.1,(y5.2.2,((),())))),((s1.2.2.1.1,(s1.2.2.1.2.1,(s1.2.2.1.2.2.1,()))),(((s1.2.2.2.1.1++[(ndE y5.1.1)]),()),())))))) (cond (seq y1.1.1 [117,110,105,111,110]) (bo (c74 () s1.2.1.1 (y1.2.1,y1.2.2)) fun y5=>ck ((List.length s1.2.2.2.1.1)+(List.length [(ndE y5.1.1)])) (rec1 ((s1.1.1,(s1.1.2.1,(true,()))),((s1.2.1.1,(y5.2.1,(y5.2.2,((),())))),((s1.2.2.1.1,(s1.2.2.1.2.1,(s1.2.2.1.2.2.1,()))),(((s1.2.2.2.1.1++[(ndE y5.1.1)]),()),())))))) (cond (seq y1.1.1 [101,110,117,109]) (bo (c75 () s1.2.1.1 (y1.2.1,y1.2.2)) fun y5=>ck ((List.length s1.2.2.2.1.1)+(List.length [(ndE y5.1.1)])) (rec1 ((s1.1.1,(s1.1.2.1,(true,()))),((s1.2.1.1,(y5.2.1,(y5.2.2,((),())))),((s1.2.2.1.1,(s1.2.2.1.2.1,(s1.2.2.1.2.2.1,()))),(((s1.2.2.2.1.1++[(ndE y5.1.1)]),()),())))))) (bo (c76 (0,()) s1.2.1.1 (y1.2.1,y1.2.2)) fun y5=>cond y5.1.1 (bo (c73 () s1.2.1.1 (y5.2.1,y5.2.2)) fun y7=>ck ((List.length s1.2.2.2.1.1)+(List.length [(ndE y7.1.1)])) (rec1 ((s1.1.1,(s1.1.2.1,(true,()))),((s1.2.1.1,(y7.2.1,(y7.2.2,((),())))),((s1.2.2.1.1,(s1.2.2.1.2.1,(s1.2.2.1.2.2.1,()))),(((s1.2.2.2.1.1++[(ndE y7.1.1)]),()),())))))) (join0 ((s1.1.1,()),((s1.2.1.1,(y5.2.1,(y5.2.2,((),())))),((s1.2.2.1.1,(s1.2.2.1.2.1,(s1.2.2.1.2.2.1,()))),((s1.2.2.2.1.1,()),())))))))))))) (cond s1.1.2.1 (join0 ((s1.1.1,()),((s1.2.1.1,(y1.2.1,(y1.2.2,((),())))),((s1.2.2.1.1,(s1.2.2.1.2.1,(s1.2.2.1.2.2.1,()))),((s1.2.2.2.1.1,()),()))))) (cond s1.1.2.2.1 (join0 ((s1.1.1,()),((s1.2.1.1,(y1.2.1,(y1.2.2,((),())))),((s1.2.2.1.1,(s1.2.2.1.2.1,(s1.2.2.1.2.2.1,()))),((s1.2.2.2.1.1,()),()))))) (cond (seq y1.1.1 [115,116,114,117,99,116]) (bo (c74 () s1.2.1.1 (y1.2.1,y1.2.2)) fun y5=>ck ((List.length s1.2.2.2.1.1)+(List.length [(ndE y5.1.1)])) (rec1 ((s1.1.1,(s1.1.2.1,(true,()))),((s1.2.1.1,(y5.2.1,(y5.2.2,((),())))),((s1.2.2.1.1,(s1.2.2.1.2.1,(s1.2.2.1.2.2.1,()))),(((s1.2.2.2.1.1++[(ndE y5.1.1)]),()),())))))) (cond (seq y1.1.1 [117,110,105,111,110]) (bo (c74 () s1.2.1.1 (y1.2.1,y1.2.2)) fun y5=>ck ((List.length s1.2.2.2.1.1)+(List.length [(ndE y5.1.1)])) (rec1 ((s1.1.1,(s1.1.2.1,(true,()))),((s1.2.1.1,(y5.2.1,(y5.2.2,((),())))),((s1.2.2.1.1,(s1.2.2.1.2.1,(s1.2.2.1.2.2.1,()))),(((s1.2.2.2.1.1++[(ndE y5.1.1)]),()),())))))) (cond (seq y1.1.1 [101,110,117,109]) (bo (c75 () s1.2.1.1 (y1.2.1,y1.2.2)) fun y5=>ck ((List.length s1.2.2.2.1.1)+(List.length [(ndE y5.1.1)])) (rec1 ((s1.1.1,(s1.1.2.1,(true,()))),((s1.2.1.1,(y5.2.1,(y5.2.2,((),())))),((s1.2.2.1.1,(s1.2.2.1.2.1,(s1.2.2.1.2.2.1,()))),(((s1.2.2.2.1.1++[(ndE y5.1.1)]),()),())))))) (bo (c76 (0,()) s1.2.1.1 (y1.2.1,y1.2.2)) fun y5=>cond y5.1.1 (bo (c73 () s1.2.1.1 (y5.2.1,y5.2.2)) fun y7=>ck ((List.length s1.2.2.2.1.1)+(List.length [(ndE y7.1.1)])) (rec1 ((s1.1.1,(s1.1.2.1,(true,()))),((s1.2.1.1,(y7.2.1,(y7.2.2,((),())))),((s1.2.2.1.1,(s1.2.2.1.2.1,(s1.2.2.1.2.2.1,()))),(((s1.2.2.2.1.1++[(ndE y7.1.1)]),()),())))))) (join0 ((s1.1.1,()),((s1.2.1.1,(y5.2.1,(y5.2.2,((),())))),((s1.2.2.1.1,(s1.2.2.1.2.1,(s1.2.2.1.2.2.1,()))),((s1.2.2.2.1.1,()),()))))))))))))) (fun (t0:((Bool×Unit)×(ParT×(JT×(NdsT×Unit)))))=>cond (ilt 0 (lenI t0.2.2.2.1.1)) (some (some (((t0.2.1.1,(t0.2.1.2.1,(t0.2.1.2.2.1,((),())))),()),((ndE (Nd.mk 4 0 t0.2.2.2.1.1)),(t0.1.1,()))))) (some none))) ((false,(false,(false,()))),((x.1.1,(x.1.2.1,(x.1.2.2.1,((),())))),((0,(0,([],()))),(([],()),()))))
theorem eq53:@run53 = @sh53:=by kernel_rfl
def sh74 (fu:Nat) (c54:((List Str)×Unit)->MM (Bool×Unit)) (c73:Unit->MM (Nd×Unit)) (c85:(Int×Unit)->MM (Bool×Unit)) (c107:Unit->MM (Nd×Unit)) (x:(ParT×Unit)) (a:Unit):(Option (Option ((ParT×Unit)×(Nd×Unit)))):=bo (c73 () x.1.1 (x.1.2.1,x.1.2.2.1)) fun y1=>ck (List.length [(ndE y1.1.1)]) (bo (c85 (0,()) x.1.1 (y1.2.1,y1.2.2)) fun y3=>cond y3.1.1 (zR (fun (join0:(Unit×(ParT×(JT×(NdsT×Unit))))->Option (Option ((ParT×Unit)×(Nd×Unit))))=>bo (c85 (0,()) x.1.1 (y3.2.1,y3.2.2)) fun y5=>cond y5.1.1 (bo (c73 () x.1.1 (y5.2.1,y5.2.2)) fun y7=>ck ((List.length [(ndE y1.1.1)])+(List.length [(ndE y7.1.1)])) (join0 ((),((x.1.1,(y7.2.1,(y7.2.2,((),())))),((0,(0,([],()))),((([(ndE y1.1.1)]++[(ndE y7.1.1)]),()),())))))) (join0 ((),((x.1.1,(y5.2.1,(y5.2.2,((),())))),((0,(0,([],()))),(([(ndE y1.1.1)],()),())))))) (fun (t0:(Unit×(ParT×(JT×(NdsT×Unit)))))=>bo (c54 ([[123]],()) t0.2.1.1 (t0.2.1.2.1,t0.2.1.2.2.1)) fun y5=>cond (!y5.1.1) (some (some (((t0.2.1.1,(y5.2.1,(y5.2.2,((),())))),()),((ndE (Nd.mk 5 0 t0.2.2.2.1.1)),())))) (bo (c73 () t0.2.1.1 (y5.2.1,y5.2.2)) fun y7=>ck ((List.length t0.2.2.2.1.1)+(List.length [(ndE y7.1.1)])) (iter fu (fun (rec1:(Unit×(ParT×(JT×(NdsT×Unit))))->Option (Option ((ParT×Unit)×(Nd×Unit)))) (s1:(Unit×(ParT×(JT×(NdsT×Unit)))))=>bo (c54 ([[125]],()) s1.2.1.1 (s1.2.1.2.1,s1.2.1.2.2.1)) fun y9=>cond (!y9.1.1) (bo (c107 () s1.2.1.1 (y9.2.1,y9.2.2)) fun y11=>ck ((List.length s1.2.2.2.1.1)+(List.length [(ndE y11.1.1)])) (rec1 ((),((s1.2.1.1,(y11.2.1,(y11.2.2,((),())))),((s1.2.2.1.1,(s1.2.2.1.2.1,(s1.2.2.1.2.2.1,()))),(((s1.2.2.2.1.1++[(ndE y11.1.1)]),()),())))))) (bo (c73 () s1.2.1.1 (y9.2.1,y9.2.2)) fun y11=>ck ((List.length s1.2.2.2.1.1)+(List.length [(ndE y11.1.1)])) (some (some (((s1.2.1.1,(y11.2.1,(y11.2.2,((),())))),()),((ndE (Nd.mk 5 0 (s1.2.2.2.1.1++[(ndE y11.1.1)]))),())))))) ((),((t0.2.1.1,(y7.2.1,(y7.2.2,((),())))),((t0.2.2.1.1,(t0.2.2.1.2.1,(t0.2.2.1.2.2.1,()))),(((t0.2.2.2.1.1++[(ndE y7.1.1)]),()),())))))))) (bo (c54 ([[123]],()) x.1.1 (y3.2.1,y3.2.2)) fun y5=>cond y5.1.1 (zR (fun (join0:(Unit×(ParT×(JT×(NdsT×Unit))))->Option (Option ((ParT×Unit)×(Nd×Unit))))=>bo (c85 (0,()) x.1.1 (y5.2.1,y5.2.2)) fun y7=>cond y7.1.1 (bo (c73 () x.1.1 (y7.2.1,y7.2.2)) fun y9=>ck ((List.length [(ndE y1.1.1)])+(List.length [(ndE y9.1.1)])) (join0 ((),((x.1.1,(y9.2.1,(y9.2.2,((),())))),((0,(0,([],()))),((([(ndE y1.1.1)]++[(ndE y9.1.1)]),()),())))))) (join0 ((),((x.1.1,(y7.2.1,(y7.2.2,((),())))),((0,(0,([],()))),(([(ndE y1.1.1)],()),())))))) (fun (t0:(Unit×(ParT×(JT×(NdsT×Unit)))))=>bo (c54 ([[123]],()) t0.2.1.1 (t0.2.1.2.1,t0.2.1.2.2.1)) fun y7=>cond (!y7.1.1) (some (some (((t0.2.1.1,(y7.2.1,(y7.2.2,((),())))),()),((ndE (Nd.mk 5 0 t0.2.2.2.1.1)),())))) (bo (c73 () t0.2.1.1 (y7.2.1,y7.2.2)) fun y9=>ck ((List.length t0.2.2.2.1.1)+(List.length [(ndE y9.1.1)])) (iter fu (fun (rec1:(Unit×(ParT×(JT×(NdsT×Unit))))->Option (Option ((ParT×Unit)×(Nd×Unit)))) (s1:(Unit×(ParT×(JT×(NdsT×Unit)))))=>bo (c54 ([[125]],()) s1.2.1.1 (s1.2.1.2.1,s1.2.1.2.2.1)) fun y11=>cond (!y11.1.1) (bo (c107 () s1.2.1.1 (y11.2.1,y11.2.2)) fun y13=>ck ((List.length s1.2.2.2.1.1)+(List.length [(ndE y13.1.1)])) (rec1 ((),((s1.2.1.1,(y13.2.1,(y13.2.2,((),())))),((s1.2.2.1.1,(s1.2.2.1.2.1,(s1.2.2.1.2.2.1,()))),(((s1.2.2.2.1.1++[(ndE y13.1.1)]),()),())))))) (bo (c73 () s1.2.1.1 (y11.2.1,y11.2.2)) fun y13=>ck ((List.length s1.2.2.2.1.1)+(List.length [(ndE y13.1.1)])) (some (some (((s1.2.1.1,(y13.2.1,(y13.2.2,((),())))),()),((ndE (Nd.mk 5 0 (s1.2.2.2.1.1++[(ndE y13.1.1)]))),())))))) ((),((t0.2.1.1,(y9.2.1,(y9.2.2,((),())))),((t0.2.2.1.1,(t0.2.2.1.2.1,(t0.2.2.1.2.2.1,()))),(((t0.2.2.2.1.1++[(ndE y9.1.1)]),()),())))))))) (some none)))
theorem eq74:@run74 = @sh74:=by kernel_rfl
def sh107 (fu:Nat) (c53:Unit->MM (Nd×(Bool×Unit))) (c54:((List Str)×Unit)->MM (Bool×Unit)) (c56:Unit->MM ((Nd×(Str×(Bool×Unit)))×(Option (Option MT)))) (c73:Unit->MM (Nd×Unit)) (c78:(Str×Unit)->MM (Nd×Unit)) (x:(ParT×Unit)) (a:Unit):(Option (Option ((ParT×Unit)×(Nd×Unit)))):=bo (c53 () x.1.1 (x.1.2.1,x.1.2.2.1)) fun y1=>ck (List.length [(ndE y1.1.1)]) (bo (c54 ([[59]],()) x.1.1 (y1.2.1,y1.2.2)) fun y3=>iter fu (fun (rec1:((Bool×Unit)×(ParT×(JT×(NdsT×Unit))))->Option (Option ((ParT×Unit)×(Nd×Unit)))) (s1:((Bool×Unit)×(ParT×(JT×(NdsT×Unit)))))=>cond s1.1.1 (zR (fun (join0:(Unit×(ParT×(JT×(NdsT×Unit))))->Option (Option ((ParT×Unit)×(Nd×Unit))))=>cond (ilt 1 (lenI s1.2.2.2.1.1)) (bo (c73 () s1.2.1.1 (s1.2.1.2.1,s1.2.1.2.2.1)) fun y5=>ck ((List.length s1.2.2.2.1.1)+(List.length [(ndE y5.1.1)])) (join0 ((),((s1.2.1.1,(y5.2.1,(y5.2.2,((),())))),((s1.2.2.1.1,(s1.2.2.1.2.1,(s1.2.2.1.2.2.1,()))),(((s1.2.2.2.1.1++[(ndE y5.1.1)]),()),())))))) (join0 ((),((s1.2.1.1,(s1.2.1.2.1,(s1.2.1.2.2.1,((),())))),((s1.2.2.1.1,(s1.2.2.1.2.1,(s1.2.2.1.2.2.1,()))),((s1.2.2.2.1.1,()),())))))) (fun (t0:(Unit×(ParT×(JT×(NdsT×Unit)))))=>bo (c56 () t0.2.1.1 (t0.2.1.2.1,t0.2.1.2.2.1)) fun y5=>ck ((List.length t0.2.2.2.1.1)+(List.length [(ndE y5.1.1.1)])) (bo (c54 ([[44]],()) t0.2.1.1 (y5.2.1,y5.2.2)) fun y7=>rec1 ((y7.1.1,()),((t0.2.1.1,(y7.2.1,(y7.2.2,((),())))),((t0.2.2.1.1,(t0.2.2.1.2.1,(t0.2.2.1.2.2.1,()))),(((t0.2.2.2.1.1++[(ndE y5.1.1.1)]),()),()))))))) (bo (c78 ([59],()) s1.2.1.1 (s1.2.1.2.1,s1.2.1.2.2.1)) fun y5=>ck ((List.length s1.2.2.2.1.1)+(List.length [(ndE y5.1.1)])) (some (some (((s1.2.1.1,(y5.2.1,(y5.2.2,((),())))),()),((ndE (Nd.mk 7 0 (s1.2.2.2.1.1++[(ndE y5.1.1)]))),())))))) (((!y3.1.1),()),((x.1.1,(y3.2.1,(y3.2.2,((),())))),((0,(0,([],()))),(([(ndE y1.1.1)],()),())))))
theorem eq107:@run107 = @sh107:=by kernel_rfl
def sh75 (fu:Nat) (c54:((List Str)×Unit)->MM (Bool×Unit)) (c73:Unit->MM (Nd×Unit)) (c78:(Str×Unit)->MM (Nd×Unit)) (c85:(Int×Unit)->MM (Bool×Unit)) (c108:Unit->MM (Nd×Unit)) (x:(ParT×Unit)) (a:Unit):(Option (Option ((ParT×Unit)×(Nd×Unit)))):=bo (c73 () x.1.1 (x.1.2.1,x.1.2.2.1)) fun y1=>ck (List.length [(ndE y1.1.1)]) (bo (c85 (0,()) x.1.1 (y1.2.1,y1.2.2)) fun y3=>cond y3.1.1 (zR (fun (join0:(Unit×(ParT×(JT×(NdsT×Unit))))->Option (Option ((ParT×Unit)×(Nd×Unit))))=>bo (c85 (0,()) x.1.1 (y3.2.1,y3.2.2)) fun y5=>cond y5.1.1 (bo (c73 () x.1.1 (y5.2.1,y5.2.2)) fun y7=>ck ((List.length [(ndE y1.1.1)])+(List.length [(ndE y7.1.1)])) (join0 ((),((x.1.1,(y7.2.1,(y7.2.2,((),())))),((0,(0,([],()))),((([(ndE y1.1.1)]++[(ndE y7.1.1)]),()),())))))) (join0 ((),((x.1.1,(y5.2.1,(y5.2.2,((),())))),((0,(0,([],()))),(([(ndE y1.1.1)],()),())))))) (fun (t0:(Unit×(ParT×(JT×(NdsT×Unit)))))=>bo (c54 ([[123]],()) t0.2.1.1 (t0.2.1.2.1,t0.2.1.2.2.1)) fun y5=>cond (!y5.1.1) (some (some (((t0.2.1.1,(y5.2.1,(y5.2.2,((),())))),()),((ndE (Nd.mk 6 0 t0.2.2.2.1.1)),())))) (bo (c73 () t0.2.1.1 (y5.2.1,y5.2.2)) fun y7=>ck ((List.length t0.2.2.2.1.1)+(List.length [(ndE y7.1.1)])) (iter fu (fun (rec1:(Unit×(ParT×(JT×(NdsT×Unit))))->Option (Option ((ParT×Unit)×(Nd×Unit)))) (s1:(Unit×(ParT×(JT×(NdsT×Unit)))))=>bo (c108 () s1.2.1.1 (s1.2.1.2.1,s1.2.1.2.2.1)) fun y9=>ck ((List.length s1.2.2.2.1.1)+(List.length [(ndE y9.1.1)])) (zR (fun (join0:(Unit×(ParT×(JT×(NdsT×Unit))))->Option (Option ((ParT×Unit)×(Nd×Unit))))=>bo (c54 ([[44]],()) s1.2.1.1 (y9.2.1,y9.2.2)) fun y11=>cond y11.1.1 (bo (c73 () s1.2.1.1 (y11.2.1,y11.2.2)) fun y13=>ck ((List.length (s1.2.2.2.1.1++[(ndE y9.1.1)]))+(List.length [(ndE y13.1.1)])) (bo (c54 ([[125]],()) s1.2.1.1 (y13.2.1,y13.2.2)) fun y15=>cond (!y15.1.1) (rec1 ((),((s1.2.1.1,(y15.2.1,(y15.2.2,((),())))),((s1.2.2.1.1,(s1.2.2.1.2.1,(s1.2.2.1.2.2.1,()))),((((s1.2.2.2.1.1++[(ndE y9.1.1)])++[(ndE y13.1.1)]),()),()))))) (join0 ((),((s1.2.1.1,(y15.2.1,(y15.2.2,((),())))),((s1.2.2.1.1,(s1.2.2.1.2.1,(s1.2.2.1.2.2.1,()))),((((s1.2.2.2.1.1++[(ndE y9.1.1)])++[(ndE y13.1.1)]),()),()))))))) (join0 ((),((s1.2.1.1,(y11.2.1,(y11.2.2,((),())))),((s1.2.2.1.1,(s1.2.2.1.2.1,(s1.2.2.1.2.2.1,()))),(((s1.2.2.2.1.1++[(ndE y9.1.1)]),()),())))))) (fun (t1:(Unit×(ParT×(JT×(NdsT×Unit)))))=>bo (c78 ([125],()) t1.2.1.1 (t1.2.1.2.1,t1.2.1.2.2.1)) fun y11=>ck ((List.length t1.2.2.2.1.1)+(List.length [(ndE y11.1.1)])) (some (some (((t1.2.1.1,(y11.2.1,(y11.2.2,((),())))),()),((ndE (Nd.mk 6 0 (t1.2.2.2.1.1++[(ndE y11.1.1)]))),()))))))) ((),((t0.2.1.1,(y7.2.1,(y7.2.2,((),())))),((t0.2.2.1.1,(t0.2.2.1.2.1,(t0.2.2.1.2.2.1,()))),(((t0.2.2.2.1.1++[(ndE y7.1.1)]),()),())))))))) (bo (c54 ([[123]],()) x.1.1 (y3.2.1,y3.2.2)) fun y5=>cond y5.1.1 (zR (fun (join0:(Unit×(ParT×(JT×(NdsT×Unit))))->Option (Option ((ParT×Unit)×(Nd×Unit))))=>bo (c85 (0,()) x.1.1 (y5.2.1,y5.2.2)) fun y7=>cond y7.1.1 (bo (c73 () x.1.1 (y7.2.1,y7.2.2)) fun y9=>ck ((List.length [(ndE y1.1.1)])+(List.length [(ndE y9.1.1)])) (join0 ((),((x.1.1,(y9.2.1,(y9.2.2,((),())))),((0,(0,([],()))),((([(ndE y1.1.1)]++[(ndE y9.1.1)]),()),())))))) (join0 ((),((x.1.1,(y7.2.1,(y7.2.2,((),())))),((0,(0,([],()))),(([(ndE y1.1.1)],()),())))))) (fun (t0:(Unit×(ParT×(JT×(NdsT×Unit)))))=>bo (c54 ([[123]],()) t0.2.1.1 (t0.2.1.2.1,t0.2.1.2.2.1)) fun y7=>cond (!y7.1.1) (some (some (((t0.2.1.1,(y7.2.1,(y7.2.2,((),())))),()),((ndE (Nd.mk 6 0 t0.2.2.2.1.1)),())))) (bo (c73 () t0.2.1.1 (y7.2.1,y7.2.2)) fun y9=>ck ((List.length t0.2.2.2.1.1)+(List.length [(ndE y9.1.1)])) (iter fu (fun (rec1:(Unit×(ParT×(JT×(NdsT×Unit))))->Option (Option ((ParT×Unit)×(Nd×Unit)))) (s1:(Unit×(ParT×(JT×(NdsT×Unit)))))=>bo (c108 () s1.2.1.1 (s1.2.1.2.1,s1.2.1.2.2.1)) fun y11=>ck ((List.length s1.2.2.2.1.1)+(List.length [(ndE y11.1.1)])) (zR (fun (join0:(Unit×(ParT×(JT×(NdsT×Unit))))->Option (Option ((ParT×Unit)×(Nd×Unit))))=>bo (c54 ([[44]],()) s1.2.1.1 (y11.2.1,y11.2.2)) fun y13=>cond y13.1.1 (bo (c73 () s1.2.1.1 (y13.2.1,y13.2.2)) fun y15=>ck ((List.length (s1.2.2.2.1.1++[(ndE y11.1.1)]))+(List.length [(ndE y15.1.1)])) (bo (c54 ([[125]],()) s1.2.1.1 (y15.2.1,y15.2.2)) fun y17=>cond (!y17.1.1) (rec1 ((),((s1.2.1.1,(y17.2.1,(y17.2.2,((),())))),((s1.2.2.1.1,(s1.2.2.1.2.1,(s1.2.2.1.2.2.1,()))),((((s1.2.2.2.1.1++[(ndE y11.1.1)])++[(ndE y15.1.1)]),()),()))))) (join0 ((),((s1.2.1.1,(y17.2.1,(y17.2.2,((),())))),((s1.2.2.1.1,(s1.2.2.1.2.1,(s1.2.2.1.2.2.1,()))),((((s1.2.2.2.1.1++[(ndE y11.1.1)])++[(ndE y15.1.1)]),()),()))))))) (join0 ((),((s1.2.1.1,(y13.2.1,(y13.2.2,((),())))),((s1.2.2.1.1,(s1.2.2.1.2.1,(s1.2.2.1.2.2.1,()))),(((s1.2.2.2.1.1++[(ndE y11.1.1)]),()),())))))) (fun (t1:(Unit×(ParT×(JT×(NdsT×Unit)))))=>bo (c78 ([125],()) t1.2.1.1 (t1.2.1.2.1,t1.2.1.2.2.1)) fun y13=>ck ((List.length t1.2.2.2.1.1)+(List.length [(ndE y13.1.1)])) (some (some (((t1.2.1.1,(y13.2.1,(y13.2.2,((),())))),()),((ndE (Nd.mk 6 0 (t1.2.2.2.1.1++[(ndE y13.1.1)]))),()))))))) ((),((t0.2.1.1,(y9.2.1,(y9.2.2,((),())))),((t0.2.2.1.1,(t0.2.2.1.2.1,(t0.2.2.1.2.2.1,()))),(((t0.2.2.2.1.1++[(ndE y9.1.1)]),()),())))))))) (some none)))
theorem eq75:@run75 = @sh75:=by kernel_rfl
def sh108 (fu:Nat) (c54:((List Str)×Unit)->MM (Bool×Unit)) (c58:(Str×(Bool×Unit))->MM Unit) (c72:(Int×Unit)->MM (Str×Unit)) (c73:Unit->MM (Nd×Unit)) (c80:Unit->MM (Nd×Unit)) (c114:Unit->MM (Nd×Unit)) (x:(ParT×Unit)) (a:Unit):(Option (Option ((ParT×Unit)×(Nd×Unit)))):=bo (c72 (0,()) x.1.1 (x.1.2.1,x.1.2.2.1)) fun y1=>bo (c80 () x.1.1 (y1.2.1,y1.2.2)) fun y3=>ck (List.length [(ndE y3.1.1)]) (bo (c54 ([[61]],()) x.1.1 (y3.2.1,y3.2.2)) fun y5=>cond y5.1.1 (bo (c73 () x.1.1 (y5.2.1,y5.2.2)) fun y7=>bo (c114 () x.1.1 (y7.2.1,y7.2.2)) fun y9=>ck ((List.length [(ndE y3.1.1)])+(List.length [(ndE y7.1.1),(ndE y9.1.1)])) (bo (c58 (y1.1.1,(false,())) x.1.1 (y9.2.1,y9.2.2)) fun y11=>some (some (((x.1.1,(y11.2.1,(y11.2.2,((),())))),()),((ndE (Nd.mk 8 0 ([(ndE y3.1.1)]++[(ndE y7.1.1),(ndE y9.1.1)]))),()))))) (bo (c58 (y1.1.1,(false,())) x.1.1 (y5.2.1,y5.2.2)) fun y7=>some (some (((x.1.1,(y7.2.1,(y7.2.2,((),())))),()),((ndE (Nd.mk 8 0 [(ndE y3.1.1)])),())))))
theorem eq108:@run108 = @sh108:=by kernel_rfl
def sh79 (fu:Nat) (c54:((List Str)×Unit)->MM (Bool×Unit)) (c73:Unit->MM (Nd×Unit)) (x:(ParT×(NdsT×Unit))) (a:Unit):(Option (Option ((ParT×(NdsT×Unit))×Unit))):=iter fu (fun (rec1:(Unit×(ParT×(NdsT×Unit)))->Option (Option ((ParT×(NdsT×Unit))×Unit))) (s1:(Unit×(ParT×(NdsT×Unit))))=>bo (c54 ([[42]],()) s1.2.1.1 (s1.2.1.2.1,s1.2.1.2.2.1)) fun y1=>cond y1.1.1 (bo (c73 () s1.2.1.1 (y1.2.1,y1.2.2)) fun y3=>ck ((List.length s1.2.2.1.1)+(List.length [(ndE y3.1.1)])) (iter fu (fun (rec2:(Unit×(ParT×(NdsT×Unit)))->Option (Option ((ParT×(NdsT×Unit))×Unit))) (s2:(Unit×(ParT×(NdsT×Unit))))=>bo (c54 ([[99,111,110,115,116],[118,111,108,97,116,105,108,101]],()) s2.2.1.1 (s2.2.1.2.1,s2.2.1.2.2.1)) fun y5=>cond y5.1.1 (bo (c73 () s2.2.1.1 (y5.2.1,y5.2.2)) fun y7=>ck ((List.length s2.2.2.1.1)+(List.length [(ndE y7.1.1)])) (rec2 ((),((s2.2.1.1,(y7.2.1,(y7.2.2,((),())))),(((s2.2.2.1.1++[(ndE y7.1.1)]),()),()))))) (rec1 ((),((s2.2.1.1,(y5.2.1,(y5.2.2,((),())))),((s2.2.2.1.1,()),()))))) ((),((s1.2.1.1,(y3.2.1,(y3.2.2,((),())))),(((s1.2.2.1.1++[(ndE y3.1.1)]),()),()))))) (some (some (((s1.2.1.1,(y1.2.1,(y1.2.2,((),())))),((s1.2.2.1.1,()),())),())))) ((),((x.1.1,(x.1.2.1,(x.1.2.2.1,((),())))),((x.2.1.1,()),())))
theorem eq79:@run79 = @sh79:=by kernel_rfl
def sh82 (fu:Nat) (c54:((List Str)×Unit)->MM (Bool×Unit)) (c73:Unit->MM (Nd×Unit)) (c78:(Str×Unit)->MM (Nd×Unit)) (c81:Unit->MM ((Nd×Unit)×(Option MT))) (c111:Unit->MM (Nd×Unit)) (x:(ParT×(NdsT×Unit))) (a:Unit):(Option (Option ((ParT×(NdsT×Unit))×Unit))):=iter fu (fun (rec1:(Unit×(ParT×(NdsT×Unit)))->Option (Option ((ParT×(NdsT×Unit))×Unit))) (s1:(Unit×(ParT×(NdsT×Unit))))=>bo (c54 ([[40],[91]],()) s1.2.1.1 (s1.2.1.2.1,s1.2.1.2.2.1)) fun y1=>cond y1.1.1 (bo (c54 ([[40]],()) s1.2.1.1 (y1.2.1,y1.2.2)) fun y3=>cond y3.1.1 (bo (c81 () s1.2.1.1 (y3.2.1,y3.2.2)) fun y5=>ck ((List.length s1.2.2.1.1)+(List.length [(ndE y5.1.1.1)])) (rec1 ((),((s1.2.1.1,(y5.2.1,(y5.2.2,((),())))),(((s1.2.2.1.1++[(ndE y5.1.1.1)]),()),()))))) (bo (c73 () s1.2.1.1 (y3.2.1,y3.2.2)) fun y5=>ck ((List.length s1.2.2.1.1)+(List.length [(ndE y5.1.1)])) (bo (c54 ([[93]],()) s1.2.1.1 (y5.2.1,y5.2.2)) fun y7=>cond (!y7.1.1) (bo (c111 () s1.2.1.1 (y7.2.1,y7.2.2)) fun y9=>ck ((List.length (s1.2.2.1.1++[(ndE y5.1.1)]))+(List.length [(ndE y9.1.1)])) (bo (c78 ([93],()) s1.2.1.1 (y9.2.1,y9.2.2)) fun y11=>ck ((List.length ((s1.2.2.1.1++[(ndE y5.1.1)])++[(ndE y9.1.1)]))+(List.length [(ndE y11.1.1)])) (rec1 ((),((s1.2.1.1,(y11.2.1,(y11.2.2,((),())))),(((((s1.2.2.1.1++[(ndE y5.1.1)])++[(ndE y9.1.1)])++[(ndE y11.1.1)]),()),())))))) (bo (c78 ([93],()) s1.2.1.1 (y7.2.1,y7.2.2)) fun y9=>ck ((List.length (s1.2.2.1.1++[(ndE y5.1.1)]))+(List.length [(ndE y9.1.1)])) (rec1 ((),((s1.2.1.1,(y9.2.1,(y9.2.2,((),())))),((((s1.2.2.1.1++[(ndE y5.1.1)])++[(ndE y9.1.1)]),()),())))))))) (some (some (((s1.2.1.1,(y1.2.1,(y1.2.2,((),())))),((s1.2.2.1.1,()),())),())))) ((),((x.1.1,(x.1.2.1,(x.1.2.2.1,((),())))),((x.2.1.1,()),())))
theorem eq82:@run82 = @sh82:=by kernel_rfl
def sh56 (fu:Nat) (c54:((List Str)×Unit)->MM (Bool×Unit)) (c56:Unit->MM ((Nd×(Str×(Bool×Unit)))×(Option (Option MT)))) (c72:(Int×Unit)->MM (Str×Unit)) (c73:Unit->MM (Nd×Unit)) (c78:(Str×Unit)->MM (Nd×Unit)) (c79:Unit->(List Nd)->MM (Unit×(List Nd))) (c80:Unit->MM (Nd×Unit)) (c81:Unit->MM ((Nd×Unit)×(Option MT))) (c82:Unit->(List Nd)->MM (Unit×(List Nd))) (x:(ParT×Unit)) (a:Unit):(Option (Option (((LT×(Int×((List MT)×((Option (Option MT))×Unit))))×Unit)×(Nd×(Str×(Bool×Unit)))))):=bo (c79 () [] x.1.1 (x.1.2.1,x.1.2.2.1)) fun y1=>bo (c54 ([[40]],()) x.1.1 (y1.2.1,y1.2.2)) fun y3=>cond (!y3.1.1) (bo (c72 (0,()) x.1.1 (y3.2.1,y3.2.2)) fun y5=>bo (c80 () x.1.1 (y5.2.1,y5.2.2)) fun y7=>ck ((List.length y1.1.2)+(List.length [(ndE y7.1.1)])) (zR (fun (join0:((Bool×((Option MT)×Unit))×(ParT×(JT×(NdsT×Unit))))->Option (Option (((LT×(Int×((List MT)×((Option (Option MT))×Unit))))×Unit)×(Nd×(Str×(Bool×Unit))))))=>bo (c54 ([[40]],()) x.1.1 (y7.2.1,y7.2.2)) fun y9=>cond y9.1.1 (bo (c81 () x.1.1 (y9.2.1,y9.2.2)) fun y11=>zJ y11.1.2 (ck ((List.length (y1.1.2++[(ndE y7.1.1)]))+(List.length [(ndE y11.1.1.1)])) (join0 ((true,(none,())),((x.1.1,(y11.2.1,(y11.2.2,((),())))),((0,(0,([],()))),((((y1.1.2++[(ndE y7.1.1)])++[(ndE y11.1.1.1)]),()),())))))) fun y12=>ck ((List.length (y1.1.2++[(ndE y7.1.1)]))+(List.length [(ndE y11.1.1.1)])) (join0 ((true,((some y12),())),((x.1.1,(y11.2.1,(y11.2.2,((),())))),((0,(0,([],()))),((((y1.1.2++[(ndE y7.1.1)])++[(ndE y11.1.1.1)]),()),())))))) (join0 ((false,(none,())),((x.1.1,(y9.2.1,(y9.2.2,((),())))),((0,(0,([],()))),(((y1.1.2++[(ndE y7.1.1)]),()),())))))) (fun (t0:((Bool×((Option MT)×Unit))×(ParT×(JT×(NdsT×Unit)))))=>zJ t0.1.2.1 (bo (c82 () t0.2.2.2.1.1 t0.2.1.1 (t0.2.1.2.1,t0.2.1.2.2.1)) fun y9=>some (some (((t0.2.1.1,(y9.2.1,(y9.2.2,((some none),())))),()),((ndE (Nd.mk 10 0 y9.1.2)),(y5.1.1,(t0.1.1,())))))) fun y8=>bo (c82 () t0.2.2.2.1.1 t0.2.1.1 (t0.2.1.2.1,t0.2.1.2.2.1)) fun y10=>some (some (((t0.2.1.1,(y10.2.1,(y10.2.2,((some (some y8)),())))),()),((ndE (Nd.mk 10 0 y10.1.2)),(y5.1.1,(t0.1.1,())))))))) (bo (c73 () x.1.1 (y3.2.1,y3.2.2)) fun y5=>ck ((List.length y1.1.2)+(List.length [(ndE y5.1.1)])) (bo (c56 () x.1.1 (y5.2.1,y5.2.2)) fun y7=>bo (c78 ([41],()) x.1.1 (y7.2.1,y7.2.2)) fun y9=>ck ((List.length (y1.1.2++[(ndE y5.1.1)]))+(List.length [(ndE y7.1.1.1),(ndE y9.1.1)])) (bo (c82 () ((y1.1.2++[(ndE y5.1.1)])++[(ndE y7.1.1.1),(ndE y9.1.1)]) x.1.1 (y9.2.1,y9.2.2)) fun y11=>some (some (((x.1.1,(y11.2.1,(y11.2.2,(none,())))),()),((ndE (Nd.mk 10 0 y11.1.2)),(y7.1.1.2.1,(false,()))))))))
theorem eq56:@run56 = @sh56:=by kernel_rfl
def sh130 (fu:Nat) (c54:((List Str)×Unit)->MM (Bool×Unit)) (c72:(Int×Unit)->MM (Str×Unit)) (c73:Unit->MM (Nd×Unit)) (c76:(Int×Unit)->MM (Bool×Unit)) (c78:(Str×Unit)->MM (Nd×Unit)) (c79:Unit->(List Nd)->MM (Unit×(List Nd))) (c82:Unit->(List Nd)->MM (Unit×(List Nd))) (c85:(Int×Unit)->MM (Bool×Unit)) (c130:(Bool×Unit)->MM (Nd×(Str×(Bool×Unit)))) (x:(ParT×Unit)) (a:(Bool×Unit)):(Option (Option ((ParT×Unit)×(Nd×(Str×(Bool×Unit)))))):=bo (c79 () [] x.1.1 (x.1.2.1,x.1.2.2.1)) fun y1=>bo (c72 (1,()) x.1.1 (y1.2.1,y1.2.2)) fun y3=>zR (fun (join0:((Str×Unit)×(ParT×(JT×(NdsT×Unit))))->Option (Option ((ParT×Unit)×(Nd×(Str×(Bool×Unit))))))=>cond a.1 (bo (c85 (0,()) x.1.1 (y3.2.1,y3.2.2)) fun y5=>cond y5.1.1 (bo (c72 (0,()) x.1.1 (y5.2.1,y5.2.2)) fun y7=>bo (c73 () x.1.1 (y7.2.1,y7.2.2)) fun y9=>ck ((List.length y1.1.2)+(List.length [(ndE y9.1.1)])) (join0 ((y7.1.1,()),((x.1.1,(y9.2.1,(y9.2.2,((),())))),((0,(0,([],()))),(((y1.1.2++[(ndE y9.1.1)]),()),())))))) (bo (c54 ([[40]],()) x.1.1 (y5.2.1,y5.2.2)) fun y7=>cond y7.1.1 (cond (seq y3.1.1 [42]) (bo (c73 () x.1.1 (y7.2.1,y7.2.2)) fun y9=>ck ((List.length y1.1.2)+(List.length [(ndE y9.1.1)])) (bo (c130 (a.1,()) x.1.1 (y9.2.1,y9.2.2)) fun y11=>zR (fun (join1:(Unit×(ParT×(JT×(NdsT×Unit))))->Option (Option ((ParT×Unit)×(Nd×(Str×(Bool×Unit))))))=>cond y11.1.2.2.1 (ck ((List.length (y1.1.2++[(ndE y9.1.1)]))+(List.length [(ndE y11.1.1)])) (join1 ((),((x.1.1,(y11.2.1,(y11.2.2,((),())))),((0,(0,([],()))),((((y1.1.2++[(ndE y9.1.1)])++[(ndE y11.1.1)]),()),())))))) (join1 ((),((x.1.1,(y11.2.1,(y11.2.2,((),())))),((0,(0,([],()))),(((y1.1.2++[(ndE y9.1.1)]),()),())))))) (fun (t0:(Unit×(ParT×(JT×(NdsT×Unit)))))=>bo (c78 ([41],()) t0.2.1.1 (t0.2.1.2.1,t0.2.1.2.2.1)) fun y13=>ck ((List.length t0.2.2.2.1.1)+(List.length [(ndE y13.1.1)])) (join0 ((y11.1.2.1,()),((t0.2.1.1,(y13.2.1,(y13.2.2,((),())))),((t0.2.2.1.1,(t0.2.2.1.2.1,(t0.2.2.1.2.2.1,()))),(((t0.2.2.2.1.1++[(ndE y13.1.1)]),()),())))))))) (cond (seq y3.1.1 [40]) (bo (c73 () x.1.1 (y7.2.1,y7.2.2)) fun y9=>ck ((List.length y1.1.2)+(List.length [(ndE y9.1.1)])) (bo (c130 (a.1,()) x.1.1 (y9.2.1,y9.2.2)) fun y11=>zR (fun (join1:(Unit×(ParT×(JT×(NdsT×Unit))))->Option (Option ((ParT×Unit)×(Nd×(Str×(Bool×Unit))))))=>cond y11.1.2.2.1 (ck ((List.length (y1.1.2++[(ndE y9.1.1)]))+(List.length [(ndE y11.1.1)])) (join1 ((),((x.1.1,(y11.2.1,(y11.2.2,((),())))),((0,(0,([],()))),((((y1.1.2++[(ndE y9.1.1)])++[(ndE y11.1.1)]),()),())))))) (join1 ((),((x.1.1,(y11.2.1,(y11.2.2,((),())))),((0,(0,([],()))),(((y1.1.2++[(ndE y9.1.1)]),()),())))))) (fun (t0:(Unit×(ParT×(JT×(NdsT×Unit)))))=>bo (c78 ([41],()) t0.2.1.1 (t0.2.1.2.1,t0.2.1.2.2.1)) fun y13=>ck ((List.length t0.2.2.2.1.1)+(List.length [(ndE y13.1.1)])) (join0 ((y11.1.2.1,()),((t0.2.1.1,(y13.2.1,(y13.2.2,((),())))),((t0.2.2.1.1,(t0.2.2.1.2.1,(t0.2.2.1.2.2.1,()))),(((t0.2.2.2.1.1++[(ndE y13.1.1)]),()),())))))))) (cond (seq y3.1.1 [91]) (bo (c73 () x.1.1 (y7.2.1,y7.2.2)) fun y9=>ck ((List.length y1.1.2)+(List.length [(ndE y9.1.1)])) (bo (c130 (a.1,()) x.1.1 (y9.2.1,y9.2.2)) fun y11=>zR (fun (join1:(Unit×(ParT×(JT×(NdsT×Unit))))->Option (Option ((ParT×Unit)×(Nd×(Str×(Bool×Unit))))))=>cond y11.1.2.2.1 (ck ((List.length (y1.1.2++[(ndE y9.1.1)]))+(List.length [(ndE y11.1.1)])) (join1 ((),((x.1.1,(y11.2.1,(y11.2.2,((),())))),((0,(0,([],()))),((((y1.1.2++[(ndE y9.1.1)])++[(ndE y11.1.1)]),()),())))))) (join1 ((),((x.1.1,(y11.2.1,(y11.2.2,((),())))),((0,(0,([],()))),(((y1.1.2++[(ndE y9.1.1)]),()),())))))) (fun (t0:(Unit×(ParT×(JT×(NdsT×Unit)))))=>bo (c78 ([41],()) t0.2.1.1 (t0.2.1.2.1,t0.2.1.2.2.1)) fun y13=>ck ((List.length t0.2.2.2.1.1)+(List.length [(ndE y13.1.1)])) (join0 ((y11.1.2.1,()),((t0.2.1.1,(y13.2.1,(y13.2.2,((),())))),((t0.2.2.1.1,(t0.2.2.1.2.1,(t0.2.2.1.2.2.1,()))),(((t0.2.2.2.1.1++[(ndE y13.1.1)]),()),())))))))) (cond a.1 (bo (c85 (1,()) x.1.1 (y7.2.1,y7.2.2)) fun y9=>cond y9.1.1 (bo (c76 (1,()) x.1.1 (y9.2.1,y9.2.2)) fun y11=>cond (!y11.1.1) (bo (c73 () x.1.1 (y11.2.1,y11.2.2)) fun y13=>ck ((List.length y1.1.2)+(List.length [(ndE y13.1.1)])) (bo (c130 (a.1,()) x.1.1 (y13.2.1,y13.2.2)) fun y15=>zR (fun (join1:(Unit×(ParT×(JT×(NdsT×Unit))))->Option (Option ((ParT×Unit)×(Nd×(Str×(Bool×Unit))))))=>cond y15.1.2.2.1 (ck ((List.length (y1.1.2++[(ndE y13.1.1)]))+(List.length [(ndE y15.1.1)])) (join1 ((),((x.1.1,(y15.2.1,(y15.2.2,((),())))),((0,(0,([],()))),((((y1.1.2++[(ndE y13.1.1)])++[(ndE y15.1.1)]),()),())))))) (join1 ((),((x.1.1,(y15.2.1,(y15.2.2,((),())))),((0,(0,([],()))),(((y1.1.2++[(ndE y13.1.1)]),()),())))))) (fun (t0:(Unit×(ParT×(JT×(NdsT×Unit)))))=>bo (c78 ([41],()) t0.2.1.1 (t0.2.1.2.1,t0.2.1.2.2.1)) fun y17=>ck ((List.length t0.2.2.2.1.1)+(List.length [(ndE y17.1.1)])) (join0 ((y15.1.2.1,()),((t0.2.1.1,(y17.2.1,(y17.2.2,((),())))),((t0.2.2.1.1,(t0.2.2.1.2.1,(t0.2.2.1.2.2.1,()))),(((t0.2.2.2.1.1++[(ndE y17.1.1)]),()),())))))))) (join0 (([],()),((x.1.1,(y11.2.1,(y11.2.2,((),())))),((0,(0,([],()))),((y1.1.2,()),())))))) (join0 (([],()),((x.1.1,(y9.2.1,(y9.2.2,((),())))),((0,(0,([],()))),((y1.1.2,()),())))))) (join0 (([],()),((x.1.1,(y7.2.1,(y7.2.2,((),())))),((0,(0,([],()))),((y1.1.2,()),()))))))))) (join0 (([],()),((x.1.1,(y7.2.1,(y7.2.2,((),())))),((0,(0,([],()))),((y1.1.2,()),()))))))) (bo (c54 ([[40]],()) x.1.1 (y3.2.1,y3.2.2)) fun y5=>cond y5.1.1 (cond (seq y3.1.1 [42]) (bo (c73 () x.1.1 (y5.2.1,y5.2.2)) fun y7=>ck ((List.length y1.1.2)+(List.length [(ndE y7.1.1)])) (bo (c130 (a.1,()) x.1.1 (y7.2.1,y7.2.2)) fun y9=>zR (fun (join1:(Unit×(ParT×(JT×(NdsT×Unit))))->Option (Option ((ParT×Unit)×(Nd×(Str×(Bool×Unit))))))=>cond y9.1.2.2.1 (ck ((List.length (y1.1.2++[(ndE y7.1.1)]))+(List.length [(ndE y9.1.1)])) (join1 ((),((x.1.1,(y9.2.1,(y9.2.2,((),())))),((0,(0,([],()))),((((y1.1.2++[(ndE y7.1.1)])++[(ndE y9.1.1)]),()),())))))) (join1 ((),((x.1.1,(y9.2.1,(y9.2.2,((),())))),((0,(0,([],()))),(((y1.1.2++[(ndE y7.1.1)]),()),())))))) (fun (t0:(Unit×(ParT×(JT×(NdsT×Unit)))))=>bo (c78 ([41],()) t0.2.1.1 (t0.2.1.2.1,t0.2.1.2.2.1)) fun y11=>ck ((List.length t0.2.2.2.1.1)+(List.length [(ndE y11.1.1)])) (join0 ((y9.1.2.1,()),((t0.2.1.1,(y11.2.1,(y11.2.2,((),())))),((t0.2.2.1.1,(t0.2.2.1.2.1,(t0.2.2.1.2.2.1,()))),(((t0.2.2.2.1.1++[(ndE y11.1.1)]),()),())))))))) (cond (seq y3.1.1 [40]) (bo (c73 () x.1.1 (y5.2.1,y5.2.2)) fun y7=>ck ((List.length y1.1.2)+(List.length [(ndE y7.1.1)])) (bo (c130 (a.1,()) x.1.1 (y7.2.1,y7.2.2)) fun y9=>zR (fun (join1:(Unit×(ParT×(JT×(NdsT×Unit))))->Option (Option ((ParT×Unit)×(Nd×(Str×(Bool×Unit))))))=>cond y9.1.2.2.1 (ck ((List.length (y1.1.2++[(ndE y7.1.1)]))+(List.length [(ndE y9.1.1)])) (join1 ((),((x.1.1,(y9.2.1,(y9.2.2,((),())))),((0,(0,([],()))),((((y1.1.2++[(ndE y7.1.1)])++[(ndE y9.1.1)]),()),())))))) (join1 ((),((x.1.1,(y9.2.1,(y9.2.2,((),())))),((0,(0,([],()))),(((y1.1.2++[(ndE y7.1.1)]),()),())))))) (fun (t0:(Unit×(ParT×(JT×(NdsT×Unit)))))=>bo (c78 ([41],()) t0.2.1.1 (t0.2.1.2.1,t0.2.1.2.2.1)) fun y11=>ck ((List.length t0.2.2.2.1.1)+(List.length [(ndE y11.1.1)])) (join0 ((y9.1.2.1,()),((t0.2.1.1,(y11.2.1,(y11.2.2,((),())))),((t0.2.2.1.1,(t0.2.2.1.2.1,(t0.2.2.1.2.2.1,()))),(((t0.2.2.2.1.1++[(ndE y11.1.1)]),()),())))))))) (cond (seq y3.1.1 [91]) (bo (c73 () x.1.1 (y5.2.1,y5.2.2)) fun y7=>ck ((List.length y1.1.2)+(List.length [(ndE y7.1.1)])) (bo (c130 (a.1,()) x.1.1 (y7.2.1,y7.2.2)) fun y9=>zR (fun (join1:(Unit×(ParT×(JT×(NdsT×Unit))))->Option (Option ((ParT×Unit)×(Nd×(Str×(Bool×Unit))))))=>cond y9.1.2.2.1 (ck ((List.length (y1.1.2++[(ndE y7.1.1)]))+(List.length [(ndE y9.1.1)])) (join1 ((),((x.1.1,(y9.2.1,(y9.2.2,((),())))),((0,(0,([],()))),((((y1.1.2++[(ndE y7.1.1)])++[(ndE y9.1.1)]),()),())))))) (join1 ((),((x.1.1,(y9.2.1,(y9.2.2,((),())))),((0,(0,([],()))),(((y1.1.2++[(ndE y7.1.1)]),()),())))))) (fun (t0:(Unit×(ParT×(JT×(NdsT×Unit)))))=>bo (c78 ([41],()) t0.2.1.1 (t0.2.1.2.1,t0.2.1.2.2.1)) fun y11=>ck ((List.length t0.2.2.2.1.1)+(List.length [(ndE y11.1.1)])) (join0 ((y9.1.2.1,()),((t0.2.1.1,(y11.2.1,(y11.2.2,((),())))),((t0.2.2.1.1,(t0.2.2.1.2.1,(t0.2.2.1.2.2.1,()))),(((t0.2.2.2.1.1++[(ndE y11.1.1)]),()),())))))))) (cond a.1 (bo (c85 (1,()) x.1.1 (y5.2.1,y5.2.2)) fun y7=>cond y7.1.1 (bo (c76 (1,()) x.1.1 (y7.2.1,y7.2.2)) fun y9=>cond (!y9.1.1) (bo (c73 () x.1.1 (y9.2.1,y9.2.2)) fun y11=>ck ((List.length y1.1.2)+(List.length [(ndE y11.1.1)])) (bo (c130 (a.1,()) x.1.1 (y11.2.1,y11.2.2)) fun y13=>zR (fun (join1:(Unit×(ParT×(JT×(NdsT×Unit))))->Option (Option ((ParT×Unit)×(Nd×(Str×(Bool×Unit))))))=>cond y13.1.2.2.1 (ck ((List.length (y1.1.2++[(ndE y11.1.1)]))+(List.length [(ndE y13.1.1)])) (join1 ((),((x.1.1,(y13.2.1,(y13.2.2,((),())))),((0,(0,([],()))),((((y1.1.2++[(ndE y11.1.1)])++[(ndE y13.1.1)]),()),())))))) (join1 ((),((x.1.1,(y13.2.1,(y13.2.2,((),())))),((0,(0,([],()))),(((y1.1.2++[(ndE y11.1.1)]),()),())))))) (fun (t0:(Unit×(ParT×(JT×(NdsT×Unit)))))=>bo (c78 ([41],()) t0.2.1.1 (t0.2.1.2.1,t0.2.1.2.2.1)) fun y15=>ck ((List.length t0.2.2.2.1.1)+(List.length [(ndE y15.1.1)])) (join0 ((y13.1.2.1,()),((t0.2.1.1,(y15.2.1,(y15.2.2,((),())))),((t0.2.2.1.1,(t0.2.2.1.2.1,(t0.2.2.1.2.2.1,()))),(((t0.2.2.2.1.1++[(ndE y15.1.1)]),()),())))))))) (join0 (([],()),((x.1.1,(y9.2.1,(y9.2.2,((),())))),((0,(0,([],()))),((y1.1.2,()),())))))) (join0 (([],()),((x.1.1,(y7.2.1,(y7.2.2,((),())))),((0,(0,([],()))),((y1.1.2,()),())))))) (join0 (([],()),((x.1.1,(y5.2.1,(y5.2.2,((),())))),((0,(0,([],()))),((y1.1.2,()),()))))))))) (join0 (([],()),((x.1.1,(y5.2.1,(y5.2.2,((),())))),((0,(0,([],()))),((y1.1.2,()),()))))))) (fun (t0:((Str×Unit)×(ParT×(JT×(NdsT×Unit)))))=>bo (c82 () t0.2.2.2.1.1 t0.2.1.1 (t0.2.1.2.1,t0.2.1.2.2.1)) fun y5=>some (some (((t0.2.1.1,(y5.2.1,(y5.2.2,((),())))),()),((ndE (Nd.mk 10 0 y5.1.2)),(t0.1.1,((ilt 0 (lenI y5.1.2)),()))))))
theorem eq130:@run130 = @sh130:=by kernel_rfl
def sh81 (fu:Nat) (c54:((List Str)×Unit)->MM (Bool×Unit)) (c59:((Option MT)×Unit)->MM Unit) (c61:Unit->MM ((Option MT)×Unit)) (c73:Unit->MM (Nd×Unit)) (c78:(Str×Unit)->MM (Nd×Unit)) (c110:Unit->MM (Nd×Unit)) (x:(ParT×Unit)) (a:Unit):(Option (Option ((zA9×Unit)×(Nd×Unit)))):=bo (c78 ([40],()) x.1.1 (x.1.2.1,x.1.2.2.1)) fun y1=>ck (List.length [(ndE y1.1.1)]) (bo (c59 ((some []),()) x.1.1 (y1.2.1,y1.2.2)) fun y3=>bo (c54 ([[41]],()) x.1.1 (y3.2.1,y3.2.2)) fun y5=>iter fu (fun (rec1:((Bool×Unit)×(ParT×(JT×(NdsT×Unit))))->Option (Option ((zA9×Unit)×(Nd×Unit)))) (s1:((Bool×Unit)×(ParT×(JT×(NdsT×Unit)))))=>cond s1.1.1 (cond (ilt 1 (lenI s1.2.2.2.1.1)) (bo (c73 () s1.2.1.1 (s1.2.1.2.1,s1.2.1.2.2.1)) fun y7=>ck ((List.length s1.2.2.2.1.1)+(List.length [(ndE y7.1.1)])) (bo (c54 ([[46,46,46]],()) s1.2.1.1 (y7.2.1,y7.2.2)) fun y9=>cond y9.1.1 (bo (c73 () s1.2.1.1 (y9.2.1,y9.2.2)) fun y11=>ck ((List.length (s1.2.2.2.1.1++[(ndE y7.1.1)]))+(List.length [(ndE y11.1.1)])) (bo (c78 ([41],()) s1.2.1.1 (y11.2.1,y11.2.2)) fun y13=>ck ((List.length ((s1.2.2.2.1.1++[(ndE y7.1.1)])++[(ndE y11.1.1)]))+(List.length [(ndE y13.1.1)])) (bo (c61 () s1.2.1.1 (y13.2.1,y13.2.2)) fun y15=>zJ y15.1.1 (some (some (((s1.2.1.1,(y15.2.1,(y15.2.2,(none,())))),()),((ndE (Nd.mk 11 0 (((s1.2.2.2.1.1++[(ndE y7.1.1)])++[(ndE y11.1.1)])++[(ndE y13.1.1)]))),())))) fun y16=>some (some (((s1.2.1.1,(y15.2.1,(y15.2.2,((some y16),())))),()),((ndE (Nd.mk 11 0 (((s1.2.2.2.1.1++[(ndE y7.1.1)])++[(ndE y11.1.1)])++[(ndE y13.1.1)]))),())))))) (bo (c110 () s1.2.1.1 (y9.2.1,y9.2.2)) fun y11=>ck ((List.length (s1.2.2.2.1.1++[(ndE y7.1.1)]))+(List.length [(ndE y11.1.1)])) (bo (c54 ([[44]],()) s1.2.1.1 (y11.2.1,y11.2.2)) fun y13=>rec1 ((y13.1.1,()),((s1.2.1.1,(y13.2.1,(y13.2.2,((),())))),((s1.2.2.1.1,(s1.2.2.1.2.1,(s1.2.2.1.2.2.1,()))),((((s1.2.2.2.1.1++[(ndE y7.1.1)])++[(ndE y11.1.1)]),()),())))))))) (bo (c110 () s1.2.1.1 (s1.2.1.2.1,s1.2.1.2.2.1)) fun y7=>ck ((List.length s1.2.2.2.1.1)+(List.length [(ndE y7.1.1)])) (bo (c54 ([[44]],()) s1.2.1.1 (y7.2.1,y7.2.2)) fun y9=>rec1 ((y9.1.1,()),((s1.2.1.1,(y9.2.1,(y9.2.2,((),())))),((s1.2.2.1.1,(s1.2.2.1.2.1,(s1.2.2.1.2.2.1,()))),(((s1.2.2.2.1.1++[(ndE y7.1.1)]),()),()))))))) (bo (c78 ([41],()) s1.2.1.1 (s1.2.1.2.1,s1.2.1.2.2.1)) fun y7=>ck ((List.length s1.2.2.2.1.1)+(List.length [(ndE y7.1.1)])) (bo (c61 () s1.2.1.1 (y7.2.1,y7.2.2)) fun y9=>zJ y9.1.1 (some (some (((s1.2.1.1,(y9.2.1,(y9.2.2,(none,())))),()),((ndE (Nd.mk 11 0 (s1.2.2.2.1.1++[(ndE y7.1.1)]))),())))) fun y10=>some (some (((s1.2.1.1,(y9.2.1,(y9.2.2,((some y10),())))),()),((ndE (Nd.mk 11 0 (s1.2.2.2.1.1++[(ndE y7.1.1)]))),())))))) (((!y5.1.1),()),((x.1.1,(y5.2.1,(y5.2.2,((),())))),((0,(0,([],()))),(([(ndE y1.1.1)],()),())))))
theorem eq81:@run81 = @sh81:=by kernel_rfl
def sh110 (fu:Nat) (c53:Unit->MM (Nd×(Bool×Unit))) (c58:(Str×(Bool×Unit))->MM Unit) (c130:(Bool×Unit)->MM (Nd×(Str×(Bool×Unit)))) (x:(ParT×Unit)) (a:Unit):(Option (Option ((ParT×Unit)×(Nd×Unit)))):=bo (c53 () x.1.1 (x.1.2.1,x.1.2.2.1)) fun y1=>ck (List.length [(ndE y1.1.1)]) (bo (c130 (true,()) x.1.1 (y1.2.1,y1.2.2)) fun y3=>zR (fun (join0:(Unit×(ParT×(JT×(NdsT×Unit))))->Option (Option ((ParT×Unit)×(Nd×Unit))))=>cond y3.1.2.2.1 (ck ((List.length [(ndE y1.1.1)])+(List.length [(ndE y3.1.1)])) (join0 ((),((x.1.1,(y3.2.1,(y3.2.2,((),())))),((0,(0,([],()))),((([(ndE y1.1.1)]++[(ndE y3.1.1)]),()),())))))) (join0 ((),((x.1.1,(y3.2.1,(y3.2.2,((),())))),((0,(0,([],()))),(([(ndE y1.1.1)],()),())))))) (fun (t0:(Unit×(ParT×(JT×(NdsT×Unit)))))=>bo (c58 (y3.1.2.1,(y1.1.2.1,())) t0.2.1.1 (t0.2.1.2.1,t0.2.1.2.2.1)) fun y5=>some (some (((t0.2.1.1,(y5.2.1,(y5.2.2,((),())))),()),((ndE (Nd.mk 12 0 t0.2.2.2.1.1)),())))))
theorem eq110:@run110 = @sh110:=by kernel_rfl
def sh151 (fu:Nat) (c53:Unit->MM (Nd×(Bool×Unit))) (c130:(Bool×Unit)->MM (Nd×(Str×(Bool×Unit)))) (x:(ParT×Unit)) (a:Unit):(Option (Option ((ParT×Unit)×(Nd×Unit)))):=bo (c53 () x.1.1 (x.1.2.1,x.1.2.2.1)) fun y1=>ck (List.length [(ndE y1.1.1)]) (bo (c130 (false,()) x.1.1 (y1.2.1,y1.2.2)) fun y3=>cond y3.1.2.2.1 (ck ((List.length [(ndE y1.1.1)])+(List.length [(ndE y3.1.1)])) (some (some (((x.1.1,(y3.2.1,(y3.2.2,((),())))),()),((ndE (Nd.mk 14 0 ([(ndE y1.1.1)]++[(ndE y3.1.1)]))),()))))) (some (some (((x.1.1,(y3.2.1,(y3.2.2,((),())))),()),((ndE (Nd.mk 14 0 [(ndE y1.1.1)])),())))))
theorem eq151:@run151 = @sh151:=by kernel_rfl
def sh83 (fu:Nat) (c54:((List Str)×Unit)->MM (Bool×Unit)) (c73:Unit->MM (Nd×Unit)) (c78:(Str×Unit)->MM (Nd×Unit)) (c83:Unit->MM (Nd×Unit)) (c111:Unit->MM (Nd×Unit)) (x:(ParT×Unit)) (a:Unit):(Option (Option ((ParT×Unit)×(Nd×Unit)))):=bo (c54 ([[123]],()) x.1.1 (x.1.2.1,x.1.2.2.1)) fun y1=>cond (!y1.1.1) (bo (c111 () x.1.1 (y1.2.1,y1.2.2)) fun y3=>some (some (((x.1.1,(y3.2.1,(y3.2.2,((),())))),()),((ndE y3.1.1),())))) (bo (c73 () x.1.1 (y1.2.1,y1.2.2)) fun y3=>ck (List.length [(ndE y3.1.1)]) (iter fu (fun (rec1:(Unit×(ParT×(JT×(NdsT×Unit))))->Option (Option ((ParT×Unit)×(Nd×Unit)))) (s1:(Unit×(ParT×(JT×(NdsT×Unit)))))=>bo (c54 ([[125]],()) s1.2.1.1 (s1.2.1.2.1,s1.2.1.2.2.1)) fun y5=>cond (!y5.1.1) (bo (c83 () s1.2.1.1 (y5.2.1,y5.2.2)) fun y7=>ck ((List.length s1.2.2.2.1.1)+(List.length [(ndE y7.1.1)])) (bo (c54 ([[44]],()) s1.2.1.1 (y7.2.1,y7.2.2)) fun y9=>cond (!y9.1.1) (bo (c78 ([125],()) s1.2.1.1 (y9.2.1,y9.2.2)) fun y11=>ck ((List.length (s1.2.2.2.1.1++[(ndE y7.1.1)]))+(List.length [(ndE y11.1.1)])) (some (some (((s1.2.1.1,(y11.2.1,(y11.2.2,((),())))),()),((ndE (Nd.mk 13 0 ((s1.2.2.2.1.1++[(ndE y7.1.1)])++[(ndE y11.1.1)]))),()))))) (bo (c73 () s1.2.1.1 (y9.2.1,y9.2.2)) fun y11=>ck ((List.length (s1.2.2.2.1.1++[(ndE y7.1.1)]))+(List.length [(ndE y11.1.1)])) (rec1 ((),((s1.2.1.1,(y11.2.1,(y11.2.2,((),())))),((s1.2.2.1.1,(s1.2.2.1.2.1,(s1.2.2.1.2.2.1,()))),((((s1.2.2.2.1.1++[(ndE y7.1.1)])++[(ndE y11.1.1)]),()),())))))))) (bo (c78 ([125],()) s1.2.1.1 (y5.2.1,y5.2.2)) fun y7=>ck ((List.length s1.2.2.2.1.1)+(List.length [(ndE y7.1.1)])) (some (some (((s1.2.1.1,(y7.2.1,(y7.2.2,((),())))),()),((ndE (Nd.mk 13 0 (s1.2.2.2.1.1++[(ndE y7.1.1)]))),())))))) ((),((x.1.1,(y3.2.1,(y3.2.2,((),())))),((0,(0,([],()))),(([(ndE y3.1.1)],()),()))))))
theorem eq83:@run83 = @sh83:=by kernel_rfl
def sh57 (fu:Nat) (c54:((List Str)×Unit)->MM (Bool×Unit)) (c58:(Str×(Bool×Unit))->MM Unit) (c73:Unit->MM (Nd×Unit)) (c83:Unit->MM (Nd×Unit)) (x:(ParT×Unit)) (a:(Nd×(Str×(Bool×Unit)))):(Option (Option ((ParT×Unit)×(Nd×Unit)))):=ck (List.length [(ndE a.1)]) (bo (c58 (a.2.1,(a.2.2.1,())) x.1.1 (x.1.2.1,x.1.2.2.1)) fun y1=>bo (c54 ([[61]],()) x.1.1 (y1.2.1,y1.2.2)) fun y3=>cond y3.1.1 (bo (c73 () x.1.1 (y3.2.1,y3.2.2)) fun y5=>bo (c83 () x.1.1 (y5.2.1,y5.2.2)) fun y7=>ck ((List.length [(ndE a.1)])+(List.length [(ndE y5.1.1),(ndE y7.1.1)])) (some (some (((x.1.1,(y7.2.1,(y7.2.2,((),())))),()),((ndE (Nd.mk 9 0 ([(ndE a.1)]++[(ndE y5.1.1),(ndE y7.1.1)]))),()))))) (some (some (((x.1.1,(y3.2.1,(y3.2.2,((),())))),()),((ndE (Nd.mk 9 0 [(ndE a.1)])),())))))
theorem eq57:@run57 = @sh57:=by kernel_rfl
def sh55 (fu:Nat) (c54:((List Str)×Unit)->MM (Bool×Unit)) (c56:Unit->MM ((Nd×(Str×(Bool×Unit)))×(Option (Option MT)))) (c57:(Nd×(Str×(Bool×Unit)))->MM (Nd×Unit)) (c73:Unit->MM (Nd×Unit)) (c78:(Str×Unit)->MM (Nd×Unit)) (x:(ParT×Unit)) (a:(NdsT×(Bool×Unit))):(Option (Option ((ParT×Unit)×(Nd×Unit)))):=iter fu (fun (rec1:(Unit×(ParT×(NdsT×(JT×Unit))))->Option (Option ((ParT×Unit)×(Nd×Unit)))) (s1:(Unit×(ParT×(NdsT×(JT×Unit)))))=>bo (c54 ([[44]],()) s1.2.1.1 (s1.2.1.2.1,s1.2.1.2.2.1)) fun y1=>cond y1.1.1 (bo (c73 () s1.2.1.1 (y1.2.1,y1.2.2)) fun y3=>ck ((List.length s1.2.2.1.1)+(List.length [(ndE y3.1.1)])) (bo (c56 () s1.2.1.1 (y3.2.1,y3.2.2)) fun y5=>bo (c57 ((ndE y5.1.1.1),(y5.1.1.2.1,(a.2.1,()))) s1.2.1.1 (y5.2.1,y5.2.2)) fun y7=>ck ((List.length (s1.2.2.1.1++[(ndE y3.1.1)]))+(List.length [(ndE y7.1.1)])) (rec1 ((),((s1.2.1.1,(y7.2.1,(y7.2.2,((),())))),((((s1.2.2.1.1++[(ndE y3.1.1)])++[(ndE y7.1.1)]),()),((s1.2.2.2.1.1,(s1.2.2.2.1.2.1,(s1.2.2.2.1.2.2.1,()))),()))))))) (bo (c78 ([59],()) s1.2.1.1 (y1.2.1,y1.2.2)) fun y3=>ck ((List.length s1.2.2.1.1)+(List.length [(ndE y3.1.1)])) (some (some (((s1.2.1.1,(y3.2.1,(y3.2.2,((),())))),()),((ndE (Nd.mk 3 0 (s1.2.2.1.1++[(ndE y3.1.1)]))),())))))) ((),((x.1.1,(x.1.2.1,(x.1.2.2.1,((),())))),((a.1.1,()),((0,(0,([],()))),()))))
theorem eq55:@run55 = @sh55:=by kernel_rfl
def sh37 (fu:Nat) (c53:Unit->MM (Nd×(Bool×Unit))) (c54:((List Str)×Unit)->MM (Bool×Unit)) (c55:(NdsT×(Bool×Unit))->MM (Nd×Unit)) (c56:Unit->MM ((Nd×(Str×(Bool×Unit)))×(Option (Option MT)))) (c57:(Nd×(Str×(Bool×Unit)))->MM (Nd×Unit)) (c58:(Str×(Bool×Unit))->MM Unit) (c59:((Option MT)×Unit)->MM Unit) (c60:Unit->MM (Nd×Unit)) (c61:Unit->MM ((Option MT)×Unit)) (x:(ParT×Unit)) (a:(Bool×Unit)):(Option (Option ((ParT×Unit)×(Nd×Unit)))):=bo (c53 () x.1.1 (x.1.2.1,x.1.2.2.1)) fun y1=>ck (List.length [(ndE y1.1.1)]) (bo (c54 ([[59]],()) x.1.1 (y1.2.1,y1.2.2)) fun y3=>cond y3.1.1 (bo (c55 (([(ndE y1.1.1)],()),(y1.1.2.1,())) x.1.1 (y3.2.1,y3.2.2)) fun y5=>some (some (((x.1.1,(y5.2.1,(y5.2.2,((),())))),()),((ndE y5.1.1),())))) (bo (c56 () x.1.1 (y3.2.1,y3.2.2)) fun y5=>zJ y5.1.2 (cond (!a.1) (bo (c57 ((ndE y5.1.1.1),(y5.1.1.2.1,(y1.1.2.1,()))) x.1.1 (y5.2.1,y5.2.2)) fun y7=>ck ((List.length [(ndE y1.1.1)])+(List.length [(ndE y7.1.1)])) (bo (c55 ((([(ndE y1.1.1)]++[(ndE y7.1.1)]),()),(y1.1.2.1,())) x.1.1 (y7.2.1,y7.2.2)) fun y9=>some (some (((x.1.1,(y9.2.1,(y9.2.2,((),())))),()),((ndE y9.1.1),()))))) (cond (!y5.1.1.2.2.1) (bo (c57 ((ndE y5.1.1.1),(y5.1.1.2.1,(y1.1.2.1,()))) x.1.1 (y5.2.1,y5.2.2)) fun y7=>ck ((List.length [(ndE y1.1.1)])+(List.length [(ndE y7.1.1)])) (bo (c55 ((([(ndE y1.1.1)]++[(ndE y7.1.1)]),()),(y1.1.2.1,())) x.1.1 (y7.2.1,y7.2.2)) fun y9=>some (some (((x.1.1,(y9.2.1,(y9.2.2,((),())))),()),((ndE y9.1.1),()))))) (cond y1.1.2.1 (bo (c57 ((ndE y5.1.1.1),(y5.1.1.2.1,(y1.1.2.1,()))) x.1.1 (y5.2.1,y5.2.2)) fun y7=>ck ((List.length [(ndE y1.1.1)])+(List.length [(ndE y7.1.1)])) (bo (c55 ((([(ndE y1.1.1)]++[(ndE y7.1.1)]),()),(y1.1.2.1,())) x.1.1 (y7.2.1,y7.2.2)) fun y9=>some (some (((x.1.1,(y9.2.1,(y9.2.2,((),())))),()),((ndE y9.1.1),()))))) (bo (c54 ([[123]],()) x.1.1 (y5.2.1,y5.2.2)) fun y7=>cond (!y7.1.1) (bo (c57 ((ndE y5.1.1.1),(y5.1.1.2.1,(y1.1.2.1,()))) x.1.1 (y7.2.1,y7.2.2)) fun y9=>ck ((List.length [(ndE y1.1.1)])+(List.length [(ndE y9.1.1)])) (bo (c55 ((([(ndE y1.1.1)]++[(ndE y9.1.1)]),()),(y1.1.2.1,())) x.1.1 (y9.2.1,y9.2.2)) fun y11=>some (some (((x.1.1,(y11.2.1,(y11.2.2,((),())))),()),((ndE y11.1.1),()))))) (bo (c58 (y5.1.1.2.1,(false,())) x.1.1 (y7.2.1,y7.2.2)) fun y9=>none))))) fun y6=>zJ y6 (cond (!a.1) (bo (c57 ((ndE y5.1.1.1),(y5.1.1.2.1,(y1.1.2.1,()))) x.1.1 (y5.2.1,y5.2.2)) fun y8=>ck ((List.length [(ndE y1.1.1)])+(List.length [(ndE y8.1.1)])) (bo (c55 ((([(ndE y1.1.1)]++[(ndE y8.1.1)]),()),(y1.1.2.1,())) x.1.1 (y8.2.1,y8.2.2)) fun y10=>some (some (((x.1.1,(y10.2.1,(y10.2.2,((),())))),()),((ndE y10.1.1),()))))) (cond (!y5.1.1.2.2.1) (bo (c57 ((ndE y5.1.1.1),(y5.1.1.2.1,(y1.1.2.1,()))) x.1.1 (y5.2.1,y5.2.2)) fun y8=>ck ((List.length [(ndE y1.1.1)])+(List.length [(ndE y8.1.1)])) (bo (c55 ((([(ndE y1.1.1)]++[(ndE y8.1.1)]),()),(y1.1.2.1,())) x.1.1 (y8.2.1,y8.2.2)) fun y10=>some (some (((x.1.1,(y10.2.1,(y10.2.2,((),())))),()),((ndE y10.1.1),()))))) (cond y1.1.2.1 (bo (c57 ((ndE y5.1.1.1),(y5.1.1.2.1,(y1.1.2.1,()))) x.1.1 (y5.2.1,y5.2.2)) fun y8=>ck ((List.length [(ndE y1.1.1)])+(List.length [(ndE y8.1.1)])) (bo (c55 ((([(ndE y1.1.1)]++[(ndE y8.1.1)]),()),(y1.1.2.1,())) x.1.1 (y8.2.1,y8.2.2)) fun y10=>some (some (((x.1.1,(y10.2.1,(y10.2.2,((),())))),()),((ndE y10.1.1),()))))) (bo (c54 ([[123]],()) x.1.1 (y5.2.1,y5.2.2)) fun y8=>cond (!y8.1.1) (bo (c57 ((ndE y5.1.1.1),(y5.1.1.2.1,(y1.1.2.1,()))) x.1.1 (y8.2.1,y8.2.2)) fun y10=>ck ((List.length [(ndE y1.1.1)])+(List.length [(ndE y10.1.1)])) (bo (c55 ((([(ndE y1.1.1)]++[(ndE y10.1.1)]),()),(y1.1.2.1,())) x.1.1 (y10.2.1,y10.2.2)) fun y12=>some (some (((x.1.1,(y12.2.1,(y12.2.2,((),())))),()),((ndE y12.1.1),()))))) (bo (c58 (y5.1.1.2.1,(false,())) x.1.1 (y8.2.1,y8.2.2)) fun y10=>bo (c59 (none,()) x.1.1 (y10.2.1,y10.2.2)) fun y12=>bo (c60 () x.1.1 (y12.2.1,y12.2.2)) fun y14=>ck ((List.length [(ndE y1.1.1)])+(List.length [(ndE y5.1.1.1),(ndE y14.1.1)])) (bo (c61 () x.1.1 (y14.2.1,y14.2.2)) fun y16=>zJ y16.1.1 (some (some (((x.1.1,(y16.2.1,(y16.2.2,((),())))),()),((ndE (Nd.mk 2 0 ([(ndE y1.1.1)]++[(ndE y5.1.1.1),(ndE y14.1.1)]))),())))) fun y17=>some (some (((x.1.1,(y16.2.1,(y16.2.2,((),())))),()),((ndE (Nd.mk 2 0 ([(ndE y1.1.1)]++[(ndE y5.1.1.1),(ndE y14.1.1)]))),()))))))))) fun y7=>cond (!a.1) (bo (c57 ((ndE y5.1.1.1),(y5.1.1.2.1,(y1.1.2.1,()))) x.1.1 (y5.2.1,y5.2.2)) fun y9=>ck ((List.length [(ndE y1.1.1)])+(List.length [(ndE y9.1.1)])) (bo (c55 ((([(ndE y1.1.1)]++[(ndE y9.1.1)]),()),(y1.1.2.1,())) x.1.1 (y9.2.1,y9.2.2)) fun y11=>some (some (((x.1.1,(y11.2.1,(y11.2.2,((),())))),()),((ndE y11.1.1),()))))) (cond (!y5.1.1.2.2.1) (bo (c57 ((ndE y5.1.1.1),(y5.1.1.2.1,(y1.1.2.1,()))) x.1.1 (y5.2.1,y5.2.2)) fun y9=>ck ((List.length [(ndE y1.1.1)])+(List.length [(ndE y9.1.1)])) (bo (c55 ((([(ndE y1.1.1)]++[(ndE y9.1.1)]),()),(y1.1.2.1,())) x.1.1 (y9.2.1,y9.2.2)) fun y11=>some (some (((x.1.1,(y11.2.1,(y11.2.2,((),())))),()),((ndE y11.1.1),()))))) (cond y1.1.2.1 (bo (c57 ((ndE y5.1.1.1),(y5.1.1.2.1,(y1.1.2.1,()))) x.1.1 (y5.2.1,y5.2.2)) fun y9=>ck ((List.length [(ndE y1.1.1)])+(List.length [(ndE y9.1.1)])) (bo (c55 ((([(ndE y1.1.1)]++[(ndE y9.1.1)]),()),(y1.1.2.1,())) x.1.1 (y9.2.1,y9.2.2)) fun y11=>some (some (((x.1.1,(y11.2.1,(y11.2.2,((),())))),()),((ndE y11.1.1),()))))) (bo (c54 ([[123]],()) x.1.1 (y5.2.1,y5.2.2)) fun y9=>cond (!y9.1.1) (bo (c57 ((ndE y5.1.1.1),(y5.1.1.2.1,(y1.1.2.1,()))) x.1.1 (y9.2.1,y9.2.2)) fun y11=>ck ((List.length [(ndE y1.1.1)])+(List.length [(ndE y11.1.1)])) (bo (c55 ((([(ndE y1.1.1)]++[(ndE y11.1.1)]),()),(y1.1.2.1,())) x.1.1 (y11.2.1,y11.2.2)) fun y13=>some (some (((x.1.1,(y13.2.1,(y13.2.2,((),())))),()),((ndE y13.1.1),()))))) (bo (c58 (y5.1.1.2.1,(false,())) x.1.1 (y9.2.1,y9.2.2)) fun y11=>bo (c59 ((some y7),()) x.1.1 (y11.2.1,y11.2.2)) fun y13=>bo (c60 () x.1.1 (y13.2.1,y13.2.2)) fun y15=>ck ((List.length [(ndE y1.1.1)])+(List.length [(ndE y5.1.1.1),(ndE y15.1.1)])) (bo (c61 () x.1.1 (y15.2.1,y15.2.2)) fun y17=>zJ y17.1.1 (some (some (((x.1.1,(y17.2.1,(y17.2.2,((),())))),()),((ndE (Nd.mk 2 0 ([(ndE y1.1.1)]++[(ndE y5.1.1.1),(ndE y15.1.1)]))),())))) fun y18=>some (some (((x.1.1,(y17.2.1,(y17.2.2,((),())))),()),((ndE (Nd.mk 2 0 ([(ndE y1.1.1)]++[(ndE y5.1.1.1),(ndE y15.1.1)]))),()))))))))))
theorem eq37:@run37 = @sh37:=by kernel_rfl
def sh60 (fu:Nat) (c37:(Bool×Unit)->MM (Nd×Unit)) (c54:((List Str)×Unit)->MM (Bool×Unit)) (c72:(Int×Unit)->MM (Str×Unit)) (c73:Unit->MM (Nd×Unit)) (c78:(Str×Unit)->MM (Nd×Unit)) (c84:(Int×Unit)->MM (Bool×Unit)) (c85:(Int×Unit)->MM (Bool×Unit)) (c86:Unit->MM (Nd×Unit)) (x:(ParT×Unit)) (a:Unit):(Option (Option ((ParT×Unit)×(Nd×Unit)))):=bo (c78 ([123],()) x.1.1 (x.1.2.1,x.1.2.2.1)) fun y1=>ck (List.length [(ndE y1.1.1)]) (iter fu (fun (rec1:(Unit×(ParT×(JT×(NdsT×Unit))))->Option (Option ((ParT×Unit)×(Nd×Unit)))) (s1:(Unit×(ParT×(JT×(NdsT×Unit)))))=>bo (c54 ([[125]],()) s1.2.1.1 (s1.2.1.2.1,s1.2.1.2.2.1)) fun y3=>cond (!y3.1.1) (bo (c84 (0,()) s1.2.1.1 (y3.2.1,y3.2.2)) fun y5=>cond y5.1.1 (bo (c85 (0,()) s1.2.1.1 (y5.2.1,y5.2.2)) fun y7=>cond y7.1.1 (bo (c72 (1,()) s1.2.1.1 (y7.2.1,y7.2.2)) fun y9=>cond (!(seq y9.1.1 [58])) (bo (c37 (false,()) s1.2.1.1 (y9.2.1,y9.2.2)) fun y11=>ck ((List.length s1.2.2.2.1.1)+(List.length [(ndE y11.1.1)])) (rec1 ((),((s1.2.1.1,(y11.2.1,(y11.2.2,((),())))),((s1.2.2.1.1,(s1.2.2.1.2.1,(s1.2.2.1.2.2.1,()))),(((s1.2.2.2.1.1++[(ndE y11.1.1)]),()),())))))) (bo (c86 () s1.2.1.1 (y9.2.1,y9.2.2)) fun y11=>ck ((List.length s1.2.2.2.1.1)+(List.length [(ndE y11.1.1)])) (rec1 ((),((s1.2.1.1,(y11.2.1,(y11.2.2,((),())))),((s1.2.2.1.1,(s1.2.2.1.2.1,(s1.2.2.1.2.2.1,()))),(((s1.2.2.2.1.1++[(ndE y11.1.1)]),()),()))))))) (bo (c37 (false,()) s1.2.1.1 (y7.2.1,y7.2.2)) fun y9=>ck ((List.length s1.2.2.2.1.1)+(List.length [(ndE y9.1.1)])) (rec1 ((),((s1.2.1.1,(y9.2.1,(y9.2.2,((),())))),((s1.2.2.1.1,(s1.2.2.1.2.1,(s1.2.2.1.2.2.1,()))),(((s1.2.2.2.1.1++[(ndE y9.1.1)]),()),()))))))) (bo (c86 () s1.2.1.1 (y5.2.1,y5.2.2)) fun y7=>ck ((List.length s1.2.2.2.1.1)+(List.length [(ndE y7.1.1)])) (rec1 ((),((s1.2.1.1,(y7.2.1,(y7.2.2,((),())))),((s1.2.2.1.1,(s1.2.2.1.2.1,(s1.2.2.1.2.2.1,()))),(((s1.2.2.2.1.1++[(ndE y7.1.1)]),()),()))))))) (bo (c73 () s1.2.1.1 (y3.2.1,y3.2.2)) fun y5=>ck ((List.length s1.2.2.2.1.1)+(List.length [(ndE y5.1.1)])) (some (some (((s1.2.1.1,(y5.2.1,(y5.2.2,((),())))),()),((ndE (Nd.mk 20 0 (s1.2.2.2.1.1++[(ndE y5.1.1)]))),())))))) ((),((x.1.1,(y1.2.1,(y1.2.2,((),())))),((0,(0,([],()))),(([(ndE y1.1.1)],()),())))))
theorem eq60:@run60 = @sh60:=by kernel_rfl
def sh116 (fu:Nat) (c37:(Bool×Unit)->MM (Nd×Unit)) (c59:((Option MT)×Unit)->MM Unit) (c61:Unit->MM ((Option MT)×Unit)) (c78:(Str×Unit)->MM (Nd×Unit)) (c84:(Int×Unit)->MM (Bool×Unit)) (c86:Unit->MM (Nd×Unit)) (c117:(Str×Unit)->(List Nd)->MM (Unit×(List Nd))) (x:(ParT×Unit)) (a:(NdsT×Unit)):(Option (Option ((ParT×Unit)×(Nd×Unit)))):=bo (c59 ((some []),()) x.1.1 (x.1.2.1,x.1.2.2.1)) fun y1=>bo (c78 ([40],()) x.1.1 (y1.2.1,y1.2.2)) fun y3=>ck ((List.length a.1.1)+(List.length [(ndE y3.1.1)])) (zR (fun (join0:(Unit×(ParT×(NdsT×(JT×Unit))))->Option (Option ((ParT×Unit)×(Nd×Unit))))=>bo (c84 (0,()) x.1.1 (y3.2.1,y3.2.2)) fun y5=>cond y5.1.1 (bo (c37 (false,()) x.1.1 (y5.2.1,y5.2.2)) fun y7=>ck ((List.length (a.1.1++[(ndE y3.1.1)]))+(List.length [(ndE y7.1.1)])) (join0 ((),((x.1.1,(y7.2.1,(y7.2.2,((),())))),((((a.1.1++[(ndE y3.1.1)])++[(ndE y7.1.1)]),()),((0,(0,([],()))),())))))) (bo (c117 ([59],()) (a.1.1++[(ndE y3.1.1)]) x.1.1 (y5.2.1,y5.2.2)) fun y7=>join0 ((),((x.1.1,(y7.2.1,(y7.2.2,((),())))),((y7.1.2,()),((0,(0,([],()))),())))))) (fun (t0:(Unit×(ParT×(NdsT×(JT×Unit)))))=>bo (c117 ([59],()) t0.2.2.1.1 t0.2.1.1 (t0.2.1.2.1,t0.2.1.2.2.1)) fun y5=>bo (c117 ([41],()) y5.1.2 t0.2.1.1 (y5.2.1,y5.2.2)) fun y7=>bo (c86 () t0.2.1.1 (y7.2.1,y7.2.2)) fun y9=>ck ((List.length y7.1.2)+(List.length [(ndE y9.1.1)])) (bo (c61 () t0.2.1.1 (y9.2.1,y9.2.2)) fun y11=>zJ y11.1.1 (some (some (((t0.2.1.1,(y11.2.1,(y11.2.2,((),())))),()),((ndE (Nd.mk 25 0 (y7.1.2++[(ndE y9.1.1)]))),())))) fun y12=>some (some (((t0.2.1.1,(y11.2.1,(y11.2.2,((),())))),()),((ndE (Nd.mk 25 0 (y7.1.2++[(ndE y9.1.1)]))),()))))))
theorem eq116:@run116 = @sh116:=by kernel_rfl
def sh115 (fu:Nat) (c78:(Str×Unit)->MM (Nd×Unit)) (c113:Unit->MM (Nd×Unit)) (x:(ParT×(NdsT×Unit))) (a:Unit):(Option (Option ((ParT×(NdsT×Unit))×Unit))):=bo (c78 ([40],()) x.1.1 (x.1.2.1,x.1.2.2.1)) fun y1=>bo (c113 () x.1.1 (y1.2.1,y1.2.2)) fun y3=>bo (c78 ([41],()) x.1.1 (y3.2.1,y3.2.2)) fun y5=>ck ((List.length x.2.1.1)+(List.length [(ndE y1.1.1),(ndE y3.1.1),(ndE y5.1.1)])) (some (some (((x.1.1,(y5.2.1,(y5.2.2,((),())))),(((x.2.1.1++[(ndE y1.1.1),(ndE y3.1.1),(ndE y5.1.1)]),()),())),())))
theorem eq115:@run115 = @sh115:=by kernel_rfl
def sh86 (fu:Nat) (c54:((List Str)×Unit)->MM (Bool×Unit)) (c59:((Option MT)×Unit)->MM Unit) (c60:Unit->MM (Nd×Unit)) (c61:Unit->MM ((Option MT)×Unit)) (c72:(Int×Unit)->MM (Str×Unit)) (c73:Unit->MM (Nd×Unit)) (c78:(Str×Unit)->MM (Nd×Unit)) (c80:Unit->MM (Nd×Unit)) (c85:(Int×Unit)->MM (Bool×Unit)) (c86:Unit->MM (Nd×Unit)) (c112:(Int×Unit)->MM (Bool×Unit)) (c113:Unit->MM (Nd×Unit)) (c114:Unit->MM (Nd×Unit)) (c115:Unit->(List Nd)->MM (Unit×(List Nd))) (c116:(NdsT×Unit)->MM (Nd×Unit)) (c117:(Str×Unit)->(List Nd)->MM (Unit×(List Nd))) (x:(ParT×Unit)) (a:Unit):(Option (Option ((ParT×Unit)×(Nd×Unit)))):=bo (c72 (0,()) x.1.1 (x.1.2.1,x.1.2.2.1)) fun y1=>cond (seq y1.1.1 [123]) (bo (c59 ((some []),()) x.1.1 (y1.2.1,y1.2.2)) fun y3=>bo (c60 () x.1.1 (y3.2.1,y3.2.2)) fun y5=>bo (c61 () x.1.1 (y5.2.1,y5.2.2)) fun y7=>zJ y7.1.1 (some (some (((x.1.1,(y7.2.1,(y7.2.2,((),())))),()),((ndE y5.1.1),())))) fun y8=>some (some (((x.1.1,(y7.2.1,(y7.2.2,((),())))),()),((ndE y5.1.1),())))) (cond (seq y1.1.1 [59]) (bo (c73 () x.1.1 (y1.2.1,y1.2.2)) fun y3=>ck (List.length [(ndE y3.1.1)]) (some (some (((x.1.1,(y3.2.1,(y3.2.2,((),())))),()),((ndE (Nd.mk 33 0 [(ndE y3.1.1)])),()))))) (bo (c85 (0,()) x.1.1 (y1.2.1,y1.2.2)) fun y3=>cond y3.1.1 (bo (c72 (1,()) x.1.1 (y3.2.1,y3.2.2)) fun y5=>cond (seq y5.1.1 [58]) (bo (c73 () x.1.1 (y5.2.1,y5.2.2)) fun y7=>bo (c73 () x.1.1 (y7.2.1,y7.2.2)) fun y9=>bo (c86 () x.1.1 (y9.2.1,y9.2.2)) fun y11=>ck (List.length [(ndE y7.1.1),(ndE y9.1.1),(ndE y11.1.1)]) (some (some (((x.1.1,(y11.2.1,(y11.2.2,((),())))),()),((ndE (Nd.mk 29 0 [(ndE y7.1.1),(ndE y9.1.1),(ndE y11.1.1)])),()))))) (bo (c85 (0,()) x.1.1 (y5.2.1,y5.2.2)) fun y7=>cond y7.1.1 (bo (c113 () x.1.1 (y7.2.1,y7.2.2)) fun y9=>bo (c78 ([59],()) x.1.1 (y9.2.1,y9.2.2)) fun y11=>ck (List.length [(ndE y9.1.1),(ndE y11.1.1)]) (some (some (((x.1.1,(y11.2.1,(y11.2.2,((),())))),()),((ndE (Nd.mk 21 0 [(ndE y9.1.1),(ndE y11.1.1)])),()))))) (bo (c112 (1,()) x.1.1 (y7.2.1,y7.2.2)) fun y9=>cond (!y9.1.1) (bo (c113 () x.1.1 (y9.2.1,y9.2.2)) fun y11=>bo (c78 ([59],()) x.1.1 (y11.2.1,y11.2.2)) fun y13=>ck (List.length [(ndE y11.1.1),(ndE y13.1.1)]) (some (some (((x.1.1,(y13.2.1,(y13.2.2,((),())))),()),((ndE (Nd.mk 21 0 [(ndE y11.1.1),(ndE y13.1.1)])),()))))) (cond (seq y1.1.1 [115,105,122,101,111,102]) (bo (c113 () x.1.1 (y9.2.1,y9.2.2)) fun y11=>bo (c78 ([59],()) x.1.1 (y11.2.1,y11.2.2)) fun y13=>ck (List.length [(ndE y11.1.1),(ndE y13.1.1)]) (some (some (((x.1.1,(y13.2.1,(y13.2.2,((),())))),()),((ndE (Nd.mk 21 0 [(ndE y11.1.1),(ndE y13.1.1)])),()))))) (bo (c73 () x.1.1 (y9.2.1,y9.2.2)) fun y11=>ck (List.length [(ndE y11.1.1)]) (zR (fun (join0:(Unit×(ParT×(JT×(NdsT×Unit))))->Option (Option ((ParT×Unit)×(Nd×Unit))))=>cond (seq y1.1.1 [99,97,115,101]) (bo (c114 () x.1.1 (y11.2.1,y11.2.2)) fun y13=>bo (c78 ([58],()) x.1.1 (y13.2.1,y13.2.2)) fun y15=>bo (c86 () x.1.1 (y15.2.1,y15.2.2)) fun y17=>ck ((List.length [(ndE y11.1.1)])+(List.length [(ndE y13.1.1),(ndE y15.1.1),(ndE y17.1.1)])) (some (some (((x.1.1,(y17.2.1,(y17.2.2,((),())))),()),((ndE (Nd.mk 31 0 ([(ndE y11.1.1)]++[(ndE y13.1.1),(ndE y15.1.1),(ndE y17.1.1)]))),()))))) (cond (seq y1.1.1 [100,101,102,97,117,108,116]) (bo (c78 ([58],()) x.1.1 (y11.2.1,y11.2.2)) fun y13=>bo (c86 () x.1.1 (y13.2.1,y13.2.2)) fun y15=>ck ((List.length [(ndE y11.1.1)])+(List.length [(ndE y13.1.1),(ndE y15.1.1)])) (some (some (((x.1.1,(y15.2.1,(y15.2.2,((),())))),()),((ndE (Nd.mk 32 0 ([(ndE y11.1.1)]++[(ndE y13.1.1),(ndE y15.1.1)]))),()))))) (cond (seq y1.1.1 [105,102]) (bo (c115 () [(ndE y11.1.1)] x.1.1 (y11.2.1,y11.2.2)) fun y13=>bo (c86 () x.1.1 (y13.2.1,y13.2.2)) fun y15=>ck ((List.length y13.1.2)+(List.length [(ndE y15.1.1)])) (bo (c54 ([[101,108,115,101]],()) x.1.1 (y15.2.1,y15.2.2)) fun y17=>cond y17.1.1 (bo (c73 () x.1.1 (y17.2.1,y17.2.2)) fun y19=>bo (c86 () x.1.1 (y19.2.1,y19.2.2)) fun y21=>ck ((List.length (y13.1.2++[(ndE y15.1.1)]))+(List.length [(ndE y19.1.1),(ndE y21.1.1)])) (some (some (((x.1.1,(y21.2.1,(y21.2.2,((),())))),()),((ndE (Nd.mk 22 0 ((y13.1.2++[(ndE y15.1.1)])++[(ndE y19.1.1),(ndE y21.1.1)]))),()))))) (some (some (((x.1.1,(y17.2.1,(y17.2.2,((),())))),()),((ndE (Nd.mk 22 0 (y13.1.2++[(ndE y15.1.1)]))),())))))) (zR (fun (join1:((Bool×Unit)×(ParT×(JT×(NdsT×Unit))))->Option (Option ((ParT×Unit)×(Nd×Unit))))=>cond (seq y1.1.1 [119,104,105,108,101]) (join1 ((true,()),((x.1.1,(y11.2.1,(y11.2.2,((),())))),((0,(0,([],()))),(([(ndE y11.1.1)],()),()))))) (join1 (((seq y1.1.1 [115,119,105,116,99,104]),()),((x.1.1,(y11.2.1,(y11.2.2,((),())))),((0,(0,([],()))),(([(ndE y11.1.1)],()),())))))) (fun (t0:((Bool×Unit)×(ParT×(JT×(NdsT×Unit)))))=>cond t0.1.1 (bo (c115 () t0.2.2.2.1.1 t0.2.1.1 (t0.2.1.2.1,t0.2.1.2.2.1)) fun y13=>bo (c86 () t0.2.1.1 (y13.2.1,y13.2.2)) fun y15=>ck ((List.length y13.1.2)+(List.length [(ndE y15.1.1)])) (cond (seq y1.1.1 [119,104,105,108,101]) (some (some (((t0.2.1.1,(y15.2.1,(y15.2.2,((),())))),()),((ndE (Nd.mk 23 0 (y13.1.2++[(ndE y15.1.1)]))),())))) (some (some (((t0.2.1.1,(y15.2.1,(y15.2.2,((),())))),()),((ndE (Nd.mk 30 0 (y13.1.2++[(ndE y15.1.1)]))),())))))) (cond (seq y1.1.1 [100,111]) (bo (c86 () t0.2.1.1 (t0.2.1.2.1,t0.2.1.2.2.1)) fun y13=>bo (c78 ([119,104,105,108,101],()) t0.2.1.1 (y13.2.1,y13.2.2)) fun y15=>ck ((List.length t0.2.2.2.1.1)+(List.length [(ndE y13.1.1),(ndE y15.1.1)])) (bo (c115 () (t0.2.2.2.1.1++[(ndE y13.1.1),(ndE y15.1.1)]) t0.2.1.1 (y15.2.1,y15.2.2)) fun y17=>bo (c78 ([59],()) t0.2.1.1 (y17.2.1,y17.2.2)) fun y19=>ck ((List.length y17.1.2)+(List.length [(ndE y19.1.1)])) (some (some (((t0.2.1.1,(y19.2.1,(y19.2.2,((),())))),()),((ndE (Nd.mk 24 0 (y17.1.2++[(ndE y19.1.1)]))),())))))) (cond (seq y1.1.1 [102,111,114]) (bo (c116 ((t0.2.2.2.1.1,()),()) t0.2.1.1 (t0.2.1.2.1,t0.2.1.2.2.1)) fun y13=>some (some (((t0.2.1.1,(y13.2.1,(y13.2.2,((),())))),()),((ndE y13.1.1),())))) (cond (seq y1.1.1 [114,101,116,117,114,110]) (bo (c117 ([59],()) t0.2.2.2.1.1 t0.2.1.1 (t0.2.1.2.1,t0.2.1.2.2.1)) fun y13=>some (some (((t0.2.1.1,(y13.2.1,(y13.2.2,((),())))),()),((ndE (Nd.mk 26 0 y13.1.2)),())))) (zR (fun (join1:((Bool×Unit)×(ParT×(JT×(NdsT×Unit))))->Option (Option ((ParT×Unit)×(Nd×Unit))))=>cond (seq y1.1.1 [98,114,101,97,107]) (join1 ((true,()),((t0.2.1.1,(t0.2.1.2.1,(t0.2.1.2.2.1,((),())))),((t0.2.2.1.1,(t0.2.2.1.2.1,(t0.2.2.1.2.2.1,()))),((t0.2.2.2.1.1,()),()))))) (join1 (((seq y1.1.1 [99,111,110,116,105,110,117,101]),()),((t0.2.1.1,(t0.2.1.2.1,(t0.2.1.2.2.1,((),())))),((t0.2.2.1.1,(t0.2.2.1.2.1,(t0.2.2.1.2.2.1,()))),((t0.2.2.2.1.1,()),())))))) (fun (t1:((Bool×Unit)×(ParT×(JT×(NdsT×Unit)))))=>cond t1.1.1 (bo (c78 ([59],()) t1.2.1.1 (t1.2.1.2.1,t1.2.1.2.2.1)) fun y13=>ck ((List.length t1.2.2.2.1.1)+(List.length [(ndE y13.1.1)])) (some (some (((t1.2.1.1,(y13.2.1,(y13.2.2,((),())))),()),((ndE (Nd.mk 27 0 (t1.2.2.2.1.1++[(ndE y13.1.1)]))),()))))) (join0 ((),((t1.2.1.1,(t1.2.1.2.1,(t1.2.1.2.2.1,((),())))),((t1.2.2.1.1,(t1.2.2.1.2.1,(t1.2.2.1.2.2.1,()))),((t1.2.2.2.1.1,()),()))))))))))))))) (fun (t0:(Unit×(ParT×(JT×(NdsT×Unit)))))=>cond (seq y1.1.1 [103,111,116,111]) (bo (c80 () t0.2.1.1 (t0.2.1.2.1,t0.2.1.2.2.1)) fun y13=>bo (c78 ([59],()) t0.2.1.1 (y13.2.1,y13.2.2)) fun y15=>ck ((List.length t0.2.2.2.1.1)+(List.length [(ndE y13.1.1),(ndE y15.1.1)])) (some (some (((t0.2.1.1,(y15.2.1,(y15.2.2,((),())))),()),((ndE (Nd.mk 28 0 (t0.2.2.2.1.1++[(ndE y13.1.1),(ndE y15.1.1)]))),()))))) (some none)))))))) (bo (c85 (0,()) x.1.1 (y3.2.1,y3.2.2)) fun y5=>cond y5.1.1 (bo (c113 () x.1.1 (y5.2.1,y5.2.2)) fun y7=>bo (c78 ([59],()) x.1.1 (y7.2.1,y7.2.2)) fun y9=>ck (List.length [(ndE y7.1.1),(ndE y9.1.1)]) (some (some (((x.1.1,(y9.2.1,(y9.2.2,((),())))),()),((ndE (Nd.mk 21 0 [(ndE y7.1.1),(ndE y9.1.1)])),()))))) (bo (c112 (1,()) x.1.1 (y5.2.1,y5.2.2)) fun y7=>cond (!y7.1.1) (bo (c113 () x.1.1 (y7.2.1,y7.2.2)) fun y9=>bo (c78 ([59],()) x.1.1 (y9.2.1,y9.2.2)) fun y11=>ck (List.length [(ndE y9.1.1),(ndE y11.1.1)]) (some (some (((x.1.1,(y11.2.1,(y11.2.2,((),())))),()),((ndE (Nd.mk 21 0 [(ndE y9.1.1),(ndE y11.1.1)])),()))))) (cond (seq y1.1.1 [115,105,122,101,111,102]) (bo (c113 () x.1.1 (y7.2.1,y7.2.2)) fun y9=>bo (c78 ([59],()) x.1.1 (y9.2.1,y9.2.2)) fun y11=>ck (List.length [(ndE y9.1.1),(ndE y11.1.1)]) (some (some (((x.1.1,(y11.2.1,(y11.2.2,((),())))),()),((ndE (Nd.mk 21 0 [(ndE y9.1.1),(ndE y11.1.1)])),()))))) (bo (c73 () x.1.1 (y7.2.1,y7.2.2)) fun y9=>ck (List.length [(ndE y9.1.1)]) (zR (fun (join0:(Unit×(ParT×(JT×(NdsT×Unit))))->Option (Option ((ParT×Unit)×(Nd×Unit))))=>cond (seq y1.1.1 [99,97,115,101]) (bo (c114 () x.1.1 (y9.2.1,y9.2.2)) fun y11=>bo (c78 ([58],()) x.1.1 (y11.2.1,y11.2.2)) fun y13=>bo (c86 () x.1.1 (y13.2.1,y13.2.2)) fun y15=>ck ((List.length [(ndE y9.1.1)])+(List.length [(ndE y11.1.1),(ndE y13.1.1),(ndE y15.1.1)])) (some (some (((x.1.1,(y15.2.1,(y15.2.2,((),())))),()),((ndE (Nd.mk 31 0 ([(ndE y9.1.1)]++[(ndE y11.1.1),(ndE y13.1.1),(ndE y15.1.1)]))),()))))) (cond (seq y1.1.1 [100,101,102,97,117,108,116]) (bo (c78 ([58],()) x.1.1 (y9.2.1,y9.2.2)) fun y11=>bo (c86 () x.1.1 (y11.2.1,y11.2.2)) fun y13=>ck ((List.length [(ndE y9.1.1)])+(List.length [(ndE y11.1.1),(ndE y13.1.1)])) (some (some (((x.1.1,(y13.2.1,(y13.2.2,((),())))),()),((ndE (Nd.mk 32 0 ([(ndE y9.1.1)]++[(ndE y11.1.1),(ndE y13.1.1)]))),()))))) (cond (seq y1.1.1 [105,102]) (bo (c115 () [(ndE y9.1.1)] x.1.1 (y9.2.1,y9.2.2)) fun y11=>bo (c86 () x.1.1 (y11.2.1,y11.2.2)) fun y13=>ck ((List.length y11.1.2)+(List.length [(ndE y13.1.1)])) (bo (c54 ([[101,108,115,101]],()) x.1.1 (y13.2.1,y13.2.2)) fun y15=>cond y15.1.1 (bo (c73 () x.1.1 (y15.2.1,y15.2.2)) fun y17=>bo (c86 () x.1.1 (y17.2.1,y17.2.2)) fun y19=>ck ((List.length (y11.1.2++[(ndE y13.1.1)]))+(List.length [(ndE y17.1.1),(ndE y19.1.1)])) (some (some (((x.1.1,(y19.2.1,(y19.2.2,((),())))),()),((ndE (Nd.mk 22 0 ((y11.1.2++[(ndE y13.1.1)])++[(ndE y17.1.1),(ndE y19.1.1)]))),()))))) (some (some (((x.1.1,(y15.2.1,(y15.2.2,((),())))),()),((ndE (Nd.mk 22 0 (y11.1.2++[(ndE y13.1.1)]))),())))))) (zR (fun (join1:((Bool×Unit)×(ParT×(JT×(NdsT×Unit))))->Option (Option ((ParT×Unit)×(Nd×Unit))))=>cond (seq y1.1.1 [119,104,105,108,101]) (join1 ((true,()),((x.1.1,(y9.2.1,(y9.2.2,((),())))),((0,(0,([],()))),(([(ndE y9.1.1)],()),()))))) (join1 (((seq y1.1.1 [115,119,105,116,99,104]),()),((x.1.1,(y9.2.1,(y9.2.2,((),())))),((0,(0,([],()))),(([(ndE y9.1.1)],()),())))))) (fun (t0:((Bool×Unit)×(ParT×(JT×(NdsT×Unit)))))=>cond t0.1.1 (bo (c115 () t0.2.2.2.1.1 t0.2.1.1 (t0.2.1.2.1,t0.2.1.2.2.1)) fun y11=>bo (c86 () t0.2.1.1 (y11.2.1,y11.2.2)) fun y13=>ck ((List.length y11.1.2)+(List.length [(ndE y13.1.1)])) (cond (seq y1.1.1 [119,104,105,108,101]) (some (some (((t0.2.1.1,(y13.2.1,(y13.2.2,((),())))),()),((ndE (Nd.mk 23 0 (y11.1.2++[(ndE y13.1.1)]))),())))) (some (some (((t0.2.1.1,(y13.2.1,(y13.2.2,((),())))),()),((ndE (Nd.mk 30 0 (y11.1.2++[(ndE y13.1.1)]))),())))))) (cond (seq y1.1.1 [100,111]) (bo (c86 () t0.2.1.1 (t0.2.1.2.1,t0.2.1.2.2.1)) fun y11=>bo (c78 ([119,104,105,108,101],()) t0.2.1.1 (y11.2.1,y11.2.2)) fun y13=>ck ((List.length t0.2.2.2.1.1)+(List.length [(ndE y11.1.1),(ndE y13.1.1)])) (bo (c115 () (t0.2.2.2.1.1++[(ndE y11.1.1),(ndE y13.1.1)]) t0.2.1.1 (y13.2.1,y13.2.2)) fun y15=>bo (c78 ([59],()) t0.2.1.1 (y15.2.1,y15.2.2)) fun y17=>ck ((List.length y15.1.2)+(List.length [(ndE y17.1.1)])) (some (some (((t0.2.1.1,(y17.2.1,(y17.2.2,((),())))),()),((ndE (Nd.mk 24 0 (y15.1.2++[(ndE y17.1.1)]))),())))))) (cond (seq y1.1.1 [102,111,114]) (bo (c116 ((t0.2.2.2.1.1,()),()) t0.2.1.1 (t0.2.1.2.1,t0.2.1.2.2.1)) fun y11=>some (some (((t0.2.1.1,(y11.2.1,(y11.2.2,((),())))),()),((ndE y11.1.1),())))) (cond (seq y1.1.1 [114,101,116,117,114,110]) (bo (c117 ([59],()) t0.2.2.2.1.1 t0.2.1.1 (t0.2.1.2.1,t0.2.1.2.2.1)) fun y11=>some (some (((t0.2.1.1,(y11.2.1,(y11.2.2,((),())))),()),((ndE (Nd.mk 26 0 y11.1.2)),())))) (zR (fun (join1:((Bool×Unit)×(ParT×(JT×(NdsT×Unit))))->Option (Option ((ParT×Unit)×(Nd×Unit))))=>cond (seq y1.1.1 [98,114,101,97,107]) (join1 ((true,()),((t0.2.1.1,(t0.2.1.2.1,(t0.2.1.2.2.1,((),())))),((t0.2.2.1.1,(t0.2.2.1.2.1,(t0.2.2.1.2.2.1,()))),((t0.2.2.2.1.1,()),()))))) (join1 (((seq y1.1.1 [99,111,110,116,105,110,117,101]),()),((t0.2.1.1,(t0.2.1.2.1,(t0.2.1.2.2.1,((),())))),((t0.2.2.1.1,(t0.2.2.1.2.1,(t0.2.2.1.2.2.1,()))),((t0.2.2.2.1.1,()),())))))) (fun (t1:((Bool×Unit)×(ParT×(JT×(NdsT×Unit)))))=>cond t1.1.1 (bo (c78 ([59],()) t1.2.1.1 (t1.2.1.2.1,t1.2.1.2.2.1)) fun y11=>ck ((List.length t1.2.2.2.1.1)+(List.length [(ndE y11.1.1)])) (some (some (((t1.2.1.1,(y11.2.1,(y11.2.2,((),())))),()),((ndE (Nd.mk 27 0 (t1.2.2.2.1.1++[(ndE y11.1.1)]))),()))))) (join0 ((),((t1.2.1.1,(t1.2.1.2.1,(t1.2.1.2.2.1,((),())))),((t1.2.2.1.1,(t1.2.2.1.2.1,(t1.2.2.1.2.2.1,()))),((t1.2.2.2.1.1,()),()))))))))))))))) (fun (t0:(Unit×(ParT×(JT×(NdsT×Unit)))))=>cond (seq y1.1.1 [103,111,116,111]) (bo (c80 () t0.2.1.1 (t0.2.1.2.1,t0.2.1.2.2.1)) fun y11=>bo (c78 ([59],()) t0.2.1.1 (y11.2.1,y11.2.2)) fun y13=>ck ((List.length t0.2.2.2.1.1)+(List.length [(ndE y11.1.1),(ndE y13.1.1)])) (some (some (((t0.2.1.1,(y13.2.1,(y13.2.2,((),())))),()),((ndE (Nd.mk 28 0 (t0.2.2.2.1.1++[(ndE y11.1.1),(ndE y13.1.1)]))),()))))) (some none)))))))))
theorem eq86:@run86 = @sh86:=by kernel_rfl
def sh117 (fu:Nat) (c54:((List Str)×Unit)->MM (Bool×Unit)) (c78:(Str×Unit)->MM (Nd×Unit)) (c113:Unit->MM (Nd×Unit)) (x:(ParT×(NdsT×Unit))) (a:(Str×Unit)):(Option (Option ((ParT×(NdsT×Unit))×Unit))):=zR (fun (join0:(Unit×(ParT×(NdsT×Unit)))->Option (Option ((ParT×(NdsT×Unit))×Unit)))=>bo (c54 ([a.1],()) x.1.1 (x.1.2.1,x.1.2.2.1)) fun y1=>cond (!y1.1.1) (bo (c113 () x.1.1 (y1.2.1,y1.2.2)) fun y3=>ck ((List.length x.2.1.1)+(List.length [(ndE y3.1.1)])) (join0 ((),((x.1.1,(y3.2.1,(y3.2.2,((),())))),(((x.2.1.1++[(ndE y3.1.1)]),()),()))))) (join0 ((),((x.1.1,(y1.2.1,(y1.2.2,((),())))),((x.2.1.1,()),()))))) (fun (t0:(Unit×(ParT×(NdsT×Unit))))=>bo (c78 (a.1,()) t0.2.1.1 (t0.2.1.2.1,t0.2.1.2.2.1)) fun y1=>ck ((List.length t0.2.2.1.1)+(List.length [(ndE y1.1.1)])) (some (some (((t0.2.1.1,(y1.2.1,(y1.2.2,((),())))),(((t0.2.2.1.1++[(ndE y1.1.1)]),()),())),()))))
theorem eq117:@run117 = @sh117:=by kernel_rfl
def sh113 (fu:Nat) (c54:((List Str)×Unit)->MM (Bool×Unit)) (c73:Unit->MM (Nd×Unit)) (c111:Unit->MM (Nd×Unit)) (c113:Unit->MM (Nd×Unit)) (x:(ParT×Unit)) (a:Unit):(Option (Option ((ParT×Unit)×(Nd×Unit)))):=bo (c111 () x.1.1 (x.1.2.1,x.1.2.2.1)) fun y1=>bo (c54 ([[44]],()) x.1.1 (y1.2.1,y1.2.2)) fun y3=>cond (!y3.1.1) (some (some (((x.1.1,(y3.2.1,(y3.2.2,((),())))),()),((ndE y1.1.1),())))) (bo (c73 () x.1.1 (y3.2.1,y3.2.2)) fun y5=>bo (c113 () x.1.1 (y5.2.1,y5.2.2)) fun y7=>some (some (((x.1.1,(y7.2.1,(y7.2.2,((),())))),()),((Nd.mk 54 0 [(ndE y1.1.1),(ndE y5.1.1),(ndE y7.1.1)]),()))))
theorem eq113:@run113 = @sh113:=by kernel_rfl
def sh111 (fu:Nat) (c54:((List Str)×Unit)->MM (Bool×Unit)) (c73:Unit->MM (Nd×Unit)) (c111:Unit->MM (Nd×Unit)) (c114:Unit->MM (Nd×Unit)) (x:(ParT×Unit)) (a:Unit):(Option (Option ((ParT×Unit)×(Nd×Unit)))):=bo (c114 () x.1.1 (x.1.2.1,x.1.2.2.1)) fun y1=>bo (c54 ([[61],[42,61],[47,61],[37,61],[43,61],[45,61],[60,60,61],[62,62,61],[38,61],[94,61],[124,61]],()) x.1.1 (y1.2.1,y1.2.2)) fun y3=>cond (!y3.1.1) (some (some (((x.1.1,(y3.2.1,(y3.2.2,((),())))),()),((ndE y1.1.1),())))) (bo (c73 () x.1.1 (y3.2.1,y3.2.2)) fun y5=>bo (c111 () x.1.1 (y5.2.1,y5.2.2)) fun y7=>some (some (((x.1.1,(y7.2.1,(y7.2.2,((),())))),()),((Nd.mk 53 0 [(ndE y1.1.1),(ndE y5.1.1),(ndE y7.1.1)]),()))))
theorem eq111:@run111 = @sh111:=by kernel_rfl
def sh114 (fu:Nat) (c54:((List Str)×Unit)->MM (Bool×Unit)) (c73:Unit->MM (Nd×Unit)) (c78:(Str×Unit)->MM (Nd×Unit)) (c113:Unit->MM (Nd×Unit)) (c114:Unit->MM (Nd×Unit)) (c131:(Int×Unit)->MM (Nd×Unit)) (x:(ParT×Unit)) (a:Unit):(Option (Option ((ParT×Unit)×(Nd×Unit)))):=bo (c131 (1,()) x.1.1 (x.1.2.1,x.1.2.2.1)) fun y1=>bo (c54 ([[63]],()) x.1.1 (y1.2.1,y1.2.2)) fun y3=>cond (!y3.1.1) (some (some (((x.1.1,(y3.2.1,(y3.2.2,((),())))),()),((ndE y1.1.1),())))) (bo (c73 () x.1.1 (y3.2.1,y3.2.2)) fun y5=>bo (c113 () x.1.1 (y5.2.1,y5.2.2)) fun y7=>bo (c78 ([58],()) x.1.1 (y7.2.1,y7.2.2)) fun y9=>bo (c114 () x.1.1 (y9.2.1,y9.2.2)) fun y11=>ck (List.length [(ndE y1.1.1),(ndE y5.1.1),(ndE y7.1.1),(ndE y9.1.1),(ndE y11.1.1)]) (some (some (((x.1.1,(y11.2.1,(y11.2.2,((),())))),()),((ndE (Nd.mk 52 0 [(ndE y1.1.1),(ndE y5.1.1),(ndE y7.1.1),(ndE y9.1.1),(ndE y11.1.1)])),())))))
theorem eq114:@run114 = @sh114:=by kernel_rfl
def sh131 (fu:Nat) (c143:(Str×Unit)->(Option (Int×Unit))) (c72:(Int×Unit)->MM (Str×Unit)) (c73:Unit->MM (Nd×Unit)) (c131:(Int×Unit)->MM (Nd×Unit)) (c142:Unit->MM (Nd×Unit)) (x:(ParT×Unit)) (a:(Int×Unit)):(Option (Option ((ParT×Unit)×(Nd×Unit)))):=bo (c142 () x.1.1 (x.1.2.1,x.1.2.2.1)) fun y1=>iter fu (fun (rec1:(Unit×(ParT×(JT×(JT×Unit))))->Option (Option ((ParT×Unit)×(Nd×Unit)))) (s1:(Unit×(ParT×(JT×(JT×Unit)))))=>bo (c72 (0,()) s1.2.1.1 (s1.2.1.2.1,s1.2.1.2.2.1)) fun y3=>Option.bind (c143 (y3.1.1,())) fun y4=>cond (ilt y4.1 a.1) (some (some (((s1.2.1.1,(y3.2.1,(y3.2.2,((),())))),()),((Nd.mk s1.2.2.2.1.1 s1.2.2.2.1.2.1 s1.2.2.2.1.2.2.1),())))) (cond (ieq y4.1 0) (some (some (((s1.2.1.1,(y3.2.1,(y3.2.2,((),())))),()),((Nd.mk s1.2.2.2.1.1 s1.2.2.2.1.2.1 s1.2.2.2.1.2.2.1),())))) (bo (c73 () s1.2.1.1 (y3.2.1,y3.2.2)) fun y6=>bo (c131 ((iadd .i64 y4.1 1),()) s1.2.1.1 (y6.2.1,y6.2.2)) fun y8=>rec1 ((),((s1.2.1.1,(y8.2.1,(y8.2.2,((),())))),((s1.2.2.1.1,(s1.2.2.1.2.1,(s1.2.2.1.2.2.1,()))),((51,(0,([(Nd.mk s1.2.2.2.1.1 s1.2.2.2.1.2.1 s1.2.2.2.1.2.2.1),(ndE y6.1.1),(ndE y8.1.1)],()))),()))))))) ((),((x.1.1,(y1.2.1,(y1.2.2,((),())))),((0,(0,([],()))),(((Nd.kind y1.1.1),((Nd.tok y1.1.1),((Nd.kids y1.1.1),()))),()))))
theorem eq131:@run131 = @sh131:=by kernel_rfl
def sh142 (fu:Nat) (c54:((List Str)×Unit)->MM (Bool×Unit)) (c73:Unit->MM (Nd×Unit)) (c78:(Str×Unit)->MM (Nd×Unit)) (c84:(Int×Unit)->MM (Bool×Unit)) (c142:Unit->MM (Nd×Unit)) (c150:Unit->MM (Nd×Unit)) (c151:Unit->MM (Nd×Unit)) (x:(ParT×Unit)) (a:Unit):(Option (Option ((ParT×Unit)×(Nd×Unit)))):=bo (c54 ([[40]],()) x.1.1 (x.1.2.1,x.1.2.2.1)) fun y1=>cond (!y1.1.1) (bo (c150 () x.1.1 (y1.2.1,y1.2.2)) fun y3=>some (some (((x.1.1,(y3.2.1,(y3.2.2,((),())))),()),((ndE y3.1.1),())))) (bo (c84 (1,()) x.1.1 (y1.2.1,y1.2.2)) fun y3=>cond (!y3.1.1) (bo (c150 () x.1.1 (y3.2.1,y3.2.2)) fun y5=>some (some (((x.1.1,(y5.2.1,(y5.2.2,((),())))),()),((ndE y5.1.1),())))) (bo (c73 () x.1.1 (y3.2.1,y3.2.2)) fun y5=>bo (c151 () x.1.1 (y5.2.1,y5.2.2)) fun y7=>bo (c78 ([41],()) x.1.1 (y7.2.1,y7.2.2)) fun y9=>bo (c142 () x.1.1 (y9.2.1,y9.2.2)) fun y11=>ck (List.length [(ndE y5.1.1),(ndE y7.1.1),(ndE y9.1.1),(ndE y11.1.1)]) (some (some (((x.1.1,(y11.2.1,(y11.2.2,((),())))),()),((ndE (Nd.mk 50 0 [(ndE y5.1.1),(ndE y7.1.1),(ndE y9.1.1),(ndE y11.1.1)])),()))))))
theorem eq142:@run142 = @sh142:=by kernel_rfl
def sh150 (fu:Nat) (c54:((List Str)×Unit)->MM (Bool×Unit)) (c73:Unit->MM (Nd×Unit)) (c78:(Str×Unit)->MM (Nd×Unit)) (c84:(Int×Unit)->MM (Bool×Unit)) (c142:Unit->MM (Nd×Unit)) (c150:Unit->MM (Nd×Unit)) (c151:Unit->MM (Nd×Unit)) (c154:(Nd×Unit)->MM (Nd×Unit)) (c155:Unit->MM (Nd×Unit)) (x:(ParT×Unit)) (a:Unit):(Option (Option ((ParT×Unit)×(Nd×Unit)))):=bo (c54 ([[43,43],[45,45]],()) x.1.1 (x.1.2.1,x.1.2.2.1)) fun y1=>cond y1.1.1 (bo (c73 () x.1.1 (y1.2.1,y1.2.2)) fun y3=>bo (c150 () x.1.1 (y3.2.1,y3.2.2)) fun y5=>ck (List.length [(ndE y3.1.1),(ndE y5.1.1)]) (some (some (((x.1.1,(y5.2.1,(y5.2.2,((),())))),()),((ndE (Nd.mk 48 0 [(ndE y3.1.1),(ndE y5.1.1)])),()))))) (bo (c54 ([[38],[42],[43],[45],[126],[33]],()) x.1.1 (y1.2.1,y1.2.2)) fun y3=>cond y3.1.1 (bo (c73 () x.1.1 (y3.2.1,y3.2.2)) fun y5=>bo (c142 () x.1.1 (y5.2.1,y5.2.2)) fun y7=>ck (List.length [(ndE y5.1.1),(ndE y7.1.1)]) (some (some (((x.1.1,(y7.2.1,(y7.2.2,((),())))),()),((ndE (Nd.mk 48 0 [(ndE y5.1.1),(ndE y7.1.1)])),()))))) (bo (c54 ([[115,105,122,101,111,102]],()) x.1.1 (y3.2.1,y3.2.2)) fun y5=>cond y5.1.1 (bo (c73 () x.1.1 (y5.2.1,y5.2.2)) fun y7=>ck (List.length [(ndE y7.1.1)]) (bo (c54 ([[40]],()) x.1.1 (y7.2.1,y7.2.2)) fun y9=>cond y9.1.1 (bo (c84 (1,()) x.1.1 (y9.2.1,y9.2.2)) fun y11=>cond y11.1.1 (bo (c73 () x.1.1 (y11.2.1,y11.2.2)) fun y13=>bo (c151 () x.1.1 (y13.2.1,y13.2.2)) fun y15=>bo (c78 ([41],()) x.1.1 (y15.2.1,y15.2.2)) fun y17=>ck ((List.length [(ndE y7.1.1)])+(List.length [(ndE y13.1.1),(ndE y15.1.1),(ndE y17.1.1)])) (some (some (((x.1.1,(y17.2.1,(y17.2.2,((),())))),()),((ndE (Nd.mk 49 0 ([(ndE y7.1.1)]++[(ndE y13.1.1),(ndE y15.1.1),(ndE y17.1.1)]))),()))))) (bo (c150 () x.1.1 (y11.2.1,y11.2.2)) fun y13=>ck ((List.length [(ndE y7.1.1)])+(List.length [(ndE y13.1.1)])) (some (some (((x.1.1,(y13.2.1,(y13.2.2,((),())))),()),((ndE (Nd.mk 49 0 ([(ndE y7.1.1)]++[(ndE y13.1.1)]))),())))))) (bo (c150 () x.1.1 (y9.2.1,y9.2.2)) fun y11=>ck ((List.length [(ndE y7.1.1)])+(List.length [(ndE y11.1.1)])) (some (some (((x.1.1,(y11.2.1,(y11.2.2,((),())))),()),((ndE (Nd.mk 49 0 ([(ndE y7.1.1)]++[(ndE y11.1.1)]))),()))))))) (bo (c155 () x.1.1 (y5.2.1,y5.2.2)) fun y7=>bo (c154 ((ndE y7.1.1),()) x.1.1 (y7.2.1,y7.2.2)) fun y9=>some (some (((x.1.1,(y9.2.1,(y9.2.2,((),())))),()),((ndE y9.1.1),()))))))
theorem eq150:@run150 = @sh150:=by kernel_rfl
def sh154 (fu:Nat) (c54:((List Str)×Unit)->MM (Bool×Unit)) (c73:Unit->MM (Nd×Unit)) (c78:(Str×Unit)->MM (Nd×Unit)) (c80:Unit->MM (Nd×Unit)) (c111:Unit->MM (Nd×Unit)) (c113:Unit->MM (Nd×Unit)) (x:(ParT×Unit)) (a:(Nd×Unit)):(Option (Option ((ParT×Unit)×(Nd×Unit)))):=iter fu (fun (rec1:(Unit×(ParT×(JT×(JT×Unit))))->Option (Option ((ParT×Unit)×(Nd×Unit)))) (s1:(Unit×(ParT×(JT×(JT×Unit)))))=>ck (List.length [(Nd.mk s1.2.2.1.1 s1.2.2.1.2.1 s1.2.2.1.2.2.1)]) (bo (c54 ([[91]],()) s1.2.1.1 (s1.2.1.2.1,s1.2.1.2.2.1)) fun y1=>cond y1.1.1 (bo (c73 () s1.2.1.1 (y1.2.1,y1.2.2)) fun y3=>bo (c113 () s1.2.1.1 (y3.2.1,y3.2.2)) fun y5=>bo (c78 ([93],()) s1.2.1.1 (y5.2.1,y5.2.2)) fun y7=>ck ((List.length [(Nd.mk s1.2.2.1.1 s1.2.2.1.2.1 s1.2.2.1.2.2.1)])+(List.length [(ndE y3.1.1),(ndE y5.1.1),(ndE y7.1.1)])) (rec1 ((),((s1.2.1.1,(y7.2.1,(y7.2.2,((),())))),(((Nd.kind (Nd.mk 45 0 ([(Nd.mk s1.2.2.1.1 s1.2.2.1.2.1 s1.2.2.1.2.2.1)]++[(ndE y3.1.1),(ndE y5.1.1),(ndE y7.1.1)]))),((Nd.tok (Nd.mk 45 0 ([(Nd.mk s1.2.2.1.1 s1.2.2.1.2.1 s1.2.2.1.2.2.1)]++[(ndE y3.1.1),(ndE y5.1.1),(ndE y7.1.1)]))),((Nd.kids (Nd.mk 45 0 ([(Nd.mk s1.2.2.1.1 s1.2.2.1.2.1 s1.2.2.1.2.2.1)]++[(ndE y3.1.1),(ndE y5.1.1),(ndE y7.1.1)]))),()))),((s1.2.2.2.1.1,(s1.2.2.2.1.2.1,(s1.2.2.2.1.2.2.1,()))),())))))) (bo (c54 ([[40]],()) s1.2.1.1 (y1.2.1,y1.2.2)) fun y3=>cond y3.1.1 (bo (c73 () s1.2.1.1 (y3.2.1,y3.2.2)) fun y5=>ck ((List.length [(Nd.mk s1.2.2.1.1 s1.2.2.1.2.1 s1.2.2.1.2.2.1)])+(List.length [(ndE y5.1.1)])) (bo (c54 ([[41]],()) s1.2.1.1 (y5.2.1,y5.2.2)) fun y7=>iter fu (fun (rec2:((Bool×Unit)×(ParT×(JT×(JT×(NdsT×Unit)))))->Option (Option ((ParT×Unit)×(Nd×Unit)))) (s2:((Bool×Unit)×(ParT×(JT×(JT×(NdsT×Unit))))))=>cond s2.1.1 (cond (ilt 2 (lenI s2.2.2.2.2.1.1)) (bo (c73 () s2.2.1.1 (s2.2.1.2.1,s2.2.1.2.2.1)) fun y9=>ck ((List.length s2.2.2.2.2.1.1)+(List.length [(ndE y9.1.1)])) (bo (c111 () s2.2.1.1 (y9.2.1,y9.2.2)) fun y11=>ck ((List.length (s2.2.2.2.2.1.1++[(ndE y9.1.1)]))+(List.length [(ndE y11.1.1)])) (bo (c54 ([[44]],()) s2.2.1.1 (y11.2.1,y11.2.2)) fun y13=>rec2 ((y13.1.1,()),((s2.2.1.1,(y13.2.1,(y13.2.2,((),())))),((s2.2.2.1.1,(s2.2.2.1.2.1,(s2.2.2.1.2.2.1,()))),((s2.2.2.2.1.1,(s2.2.2.2.1.2.1,(s2.2.2.2.1.2.2.1,()))),((((s2.2.2.2.2.1.1++[(ndE y9.1.1)])++[(ndE y11.1.1)]),()),())))))))) (bo (c111 () s2.2.1.1 (s2.2.1.2.1,s2.2.1.2.2.1)) fun y9=>ck ((List.length s2.2.2.2.2.1.1)+(List.length [(ndE y9.1.1)])) (bo (c54 ([[44]],()) s2.2.1.1 (y9.2.1,y9.2.2)) fun y11=>rec2 ((y11.1.1,()),((s2.2.1.1,(y11.2.1,(y11.2.2,((),())))),((s2.2.2.1.1,(s2.2.2.1.2.1,(s2.2.2.1.2.2.1,()))),((s2.2.2.2.1.1,(s2.2.2.2.1.2.1,(s2.2.2.2.1.2.2.1,()))),(((s2.2.2.2.2.1.1++[(ndE y9.1.1)]),()),())))))))) (bo (c78 ([41],()) s2.2.1.1 (s2.2.1.2.1,s2.2.1.2.2.1)) fun y9=>ck ((List.length s2.2.2.2.2.1.1)+(List.length [(ndE y9.1.1)])) (rec1 ((),((s2.2.1.1,(y9.2.1,(y9.2.2,((),())))),(((Nd.kind (Nd.mk 44 0 (s2.2.2.2.2.1.1++[(ndE y9.1.1)]))),((Nd.tok (Nd.mk 44 0 (s2.2.2.2.2.1.1++[(ndE y9.1.1)]))),((Nd.kids (Nd.mk 44 0 (s2.2.2.2.2.1.1++[(ndE y9.1.1)]))),()))),((s2.2.2.2.1.1,(s2.2.2.2.1.2.1,(s2.2.2.2.1.2.2.1,()))),()))))))) (((!y7.1.1),()),((s1.2.1.1,(y7.2.1,(y7.2.2,((),())))),((s1.2.2.1.1,(s1.2.2.1.2.1,(s1.2.2.1.2.2.1,()))),((s1.2.2.2.1.1,(s1.2.2.2.1.2.1,(s1.2.2.2.1.2.2.1,()))),((([(Nd.mk s1.2.2.1.1 s1.2.2.1.2.1 s1.2.2.1.2.2.1)]++[(ndE y5.1.1)]),()),()))))))) (bo (c54 ([[46],[45,62]],()) s1.2.1.1 (y3.2.1,y3.2.2)) fun y5=>cond y5.1.1 (bo (c73 () s1.2.1.1 (y5.2.1,y5.2.2)) fun y7=>bo (c80 () s1.2.1.1 (y7.2.1,y7.2.2)) fun y9=>ck ((List.length [(Nd.mk s1.2.2.1.1 s1.2.2.1.2.1 s1.2.2.1.2.2.1)])+(List.length [(ndE y7.1.1),(ndE y9.1.1)])) (rec1 ((),((s1.2.1.1,(y9.2.1,(y9.2.2,((),())))),(((Nd.kind (Nd.mk 46 0 ([(Nd.mk s1.2.2.1.1 s1.2.2.1.2.1 s1.2.2.1.2.2.1)]++[(ndE y7.1.1),(ndE y9.1.1)]))),((Nd.tok (Nd.mk 46 0 ([(Nd.mk s1.2.2.1.1 s1.2.2.1.2.1 s1.2.2.1.2.2.1)]++[(ndE y7.1.1),(ndE y9.1.1)]))),((Nd.kids (Nd.mk 46 0 ([(Nd.mk s1.2.2.1.1 s1.2.2.1.2.1 s1.2.2.1.2.2.1)]++[(ndE y7.1.1),(ndE y9.1.1)]))),()))),((s1.2.2.2.1.1,(s1.2.2.2.1.2.1,(s1.2.2.2.1.2.2.1,()))),())))))) (bo (c54 ([[43,43],[45,45]],()) s1.2.1.1 (y5.2.1,y5.2.2)) fun y7=>cond y7.1.1 (bo (c73 () s1.2.1.1 (y7.2.1,y7.2.2)) fun y9=>ck ((List.length [(Nd.mk s1.2.2.1.1 s1.2.2.1.2.1 s1.2.2.1.2.2.1)])+(List.length [(ndE y9.1.1)])) (rec1 ((),((s1.2.1.1,(y9.2.1,(y9.2.2,((),())))),(((Nd.kind (Nd.mk 47 0 ([(Nd.mk s1.2.2.1.1 s1.2.2.1.2.1 s1.2.2.1.2.2.1)]++[(ndE y9.1.1)]))),((Nd.tok (Nd.mk 47 0 ([(Nd.mk s1.2.2.1.1 s1.2.2.1.2.1 s1.2.2.1.2.2.1)]++[(ndE y9.1.1)]))),((Nd.kids (Nd.mk 47 0 ([(Nd.mk s1.2.2.1.1 s1.2.2.1.2.1 s1.2.2.1.2.2.1)]++[(ndE y9.1.1)]))),()))),((s1.2.2.2.1.1,(s1.2.2.2.1.2.1,(s1.2.2.2.1.2.2.1,()))),())))))) (some (some (((s1.2.1.1,(y7.2.1,(y7.2.2,((),())))),()),((Nd.mk s1.2.2.1.1 s1.2.2.1.2.1 s1.2.2.1.2.2.1),()))))))))) ((),((x.1.1,(x.1.2.1,(x.1.2.2.1,((),())))),(((Nd.kind a.1),((Nd.tok a.1),((Nd.kids a.1),()))),((0,(0,([],()))),()))))
theorem eq154:@run154 = @sh154:=by kernel_rfl
def sh155 (fu:Nat) (c73:Unit->MM (Nd×Unit)) (c85:(Int×Unit)->MM (Bool×Unit)) (c112:(Int×Unit)->MM (Bool×Unit)) (c115:Unit->(List Nd)->MM (Unit×(List Nd))) (x:(ParT×Unit)) (a:Unit):(Option (Option ((ParT×Unit)×(Nd×Unit)))):=bo (c85 (0,()) x.1.1 (x.1.2.1,x.1.2.2.1)) fun y1=>cond y1.1.1 (bo (c73 () x.1.1 (y1.2.1,y1.2.2)) fun y3=>ck (List.length [(ndE y3.1.1)]) (some (some (((x.1.1,(y3.2.1,(y3.2.2,((),())))),()),((ndE (Nd.mk 40 0 [(ndE y3.1.1)])),()))))) (bo (c112 (2,()) x.1.1 (y1.2.1,y1.2.2)) fun y3=>cond y3.1.1 (bo (c73 () x.1.1 (y3.2.1,y3.2.2)) fun y5=>ck (List.length [(ndE y5.1.1)]) (some (some (((x.1.1,(y5.2.1,(y5.2.2,((),())))),()),((ndE (Nd.mk 41 0 [(ndE y5.1.1)])),()))))) (bo (c112 (3,()) x.1.1 (y3.2.1,y3.2.2)) fun y5=>cond y5.1.1 (bo (c73 () x.1.1 (y5.2.1,y5.2.2)) fun y7=>ck (List.length [(ndE y7.1.1)]) (some (some (((x.1.1,(y7.2.1,(y7.2.2,((),())))),()),((ndE (Nd.mk 41 0 [(ndE y7.1.1)])),()))))) (bo (c112 (4,()) x.1.1 (y5.2.1,y5.2.2)) fun y7=>cond y7.1.1 (iter fu (fun (rec1:(Unit×(ParT×(JT×(NdsT×Unit))))->Option (Option ((ParT×Unit)×(Nd×Unit)))) (s1:(Unit×(ParT×(JT×(NdsT×Unit)))))=>bo (c112 (4,()) s1.2.1.1 (s1.2.1.2.1,s1.2.1.2.2.1)) fun y9=>cond y9.1.1 (bo (c73 () s1.2.1.1 (y9.2.1,y9.2.2)) fun y11=>ck ((List.length s1.2.2.2.1.1)+(List.length [(ndE y11.1.1)])) (rec1 ((),((s1.2.1.1,(y11.2.1,(y11.2.2,((),())))),((s1.2.2.1.1,(s1.2.2.1.2.1,(s1.2.2.1.2.2.1,()))),(((s1.2.2.2.1.1++[(ndE y11.1.1)]),()),())))))) (some (some (((s1.2.1.1,(y9.2.1,(y9.2.2,((),())))),()),((ndE (Nd.mk 42 0 s1.2.2.2.1.1)),()))))) ((),((x.1.1,(y7.2.1,(y7.2.2,((),())))),((0,(0,([],()))),(([],()),()))))) (bo (c115 () [] x.1.1 (y7.2.1,y7.2.2)) fun y9=>some (some (((x.1.1,(y9.2.1,(y9.2.2,((),())))),()),((ndE (Nd.mk 43 0 y9.1.2)),())))))))
theorem eq155:@run155 = @sh155:=by kernel_rfl
def sh143 (fu:Nat) (nf:Nat->Bool) (x0:Str):(Option (Int×Unit)):=cond (seq x0 [124,124]) (some (1,())) (cond (seq x0 [38,38]) (some (2,())) (cond (seq x0 [124]) (some (3,())) (cond (seq x0 [94]) (some (4,())) (cond (seq x0 [38]) (some (5,())) (cond (seq x0 [61,61]) (some (6,())) (cond (seq x0 [33,61]) (some (6,())) (cond (seq x0 [60]) (some (7,())) (cond (seq x0 [62]) (some (7,())) (cond (seq x0 [60,61]) (some (7,())) (cond (seq x0 [62,61]) (some (7,())) (cond (seq x0 [60,60]) (some (8,())) (cond (seq x0 [62,62]) (some (8,())) (cond (seq x0 [43]) (some (9,())) (cond (seq x0 [45]) (some (9,())) (cond (seq x0 [42]) (some (10,())) (cond (seq x0 [47]) (some (10,())) (cond (seq x0 [37]) (some (10,())) (some (0,())))))))))))))))))))
theorem eq143:@run143 = @sh143:=by kernel_rfl
theorem con53 (fu:Nat) (c33:zS as33->Option (zS rs33)) (h33:ConOk CC Tryz.prog 33 ⟨as33,rs33,c33⟩) (h38:CROk CC Tryz.prog 38 (zO)) (c72:zA kI->MM (zA kS)) (h72:CPOk CC Tryz.prog syn 72 (cJ kI kS c72)) (c73:zA k0->MM (zA kN)) (h73:CPOk CC Tryz.prog syn 73 (cM k0 kN c73)) (c74:zA k0->MM (zA kN)) (h74:CPOk CC Tryz.prog syn 74 (cM k0 kN c74)) (c75:zA k0->MM (zA kN)) (h75:CPOk CC Tryz.prog syn 75 (cM k0 kN c75)) (c76:zA kI->MM (zA kB)) (h76:CPOk CC Tryz.prog syn 76 (cM kI kB c76)) (h77:CPOk CC Tryz.prog syn 77 (xq)):CPOk CC Tryz.prog syn 53 (cM k0 ([.st TI.node,.bool]:LK) (mM (sh53 fu c33 c72 c73 c74 c75 c76))):=
 xC (zh (syn:=syn) (fu:=fu) (d:=3) (inl:=zB [(36,fd36)]) (orc:=zB [(33,(⟨as33,rs33,c33⟩:Con UU))]) (orr:=zB [(38,zO)]) (orp:=zB [(72,cJ kI kS c72),(73,cM k0 kN c73),(74,cM k0 kN c74),(75,cM k0 kN c75),(76,cM kI kB c76),(77,xq)]) (pf:=hasN [33]) (rf:=hasN [38]) zl CCok mixed (fun g=>(zF (α:=Con UU) (l:=[(33,(⟨as33,rs33,c33⟩:Con UU))]) g).symm) (fun g=>(zF (α:=CR UU) (l:=[(38,zO)]) g).symm) (zC zMw (zD)) (zC ⟨zFu,h33⟩ (zD)) (zC ⟨xB,h38⟩ (zD)) (zC ⟨zAS,h72⟩ (zC ⟨yu,h73⟩ (zC ⟨code74,h74⟩ (zC ⟨code75,h75⟩ (zC ⟨zJe,h76⟩ (zC ⟨zBw,h77⟩ (zD))))))) fdok53 (by show ([parK]:LK).length+(k0:LK).length<=72; decide) (fun x a=>by show run53 fu c33 c72 c73 c74 c75 c76 x a=sh53 fu c33 c72 c73 c74 c75 c76 x a; rw [eq53]))
theorem con74 (fu:Nat) (h38:CROk CC Tryz.prog 38 (zO)) (c54:zA kL->MM (zA kB)) (h54:CPOk CC Tryz.prog syn 54 (cJ kL kB c54)) (c73:zA k0->MM (zA kN)) (h73:CPOk CC Tryz.prog syn 73 (cM k0 kN c73)) (h77:CPOk CC Tryz.prog syn 77 (xq)) (c85:zA kI->MM (zA kB)) (h85:CPOk CC Tryz.prog syn 85 (cM kI kB c85)) (c107:zA k0->MM (zA kN)) (h107:CPOk CC Tryz.prog syn 107 (cM k0 kN c107)):CPOk CC Tryz.prog syn 74 (cM k0 kN (mM (sh74 fu c54 c73 c85 c107))):=
 xC (zh (syn:=syn) (fu:=fu) (d:=3) (inl:=zB [(36,fd36)]) (orc:=zB []) (orr:=zB [(38,zO)]) (orp:=zB [(54,cJ kL kB c54),(73,cM k0 kN c73),(77,xq),(85,cM kI kB c85),(107,cM k0 kN c107)]) (pf:=hasN []) (rf:=hasN [38]) zl CCok mixed (fun g=>(zF (α:=Con UU) (l:=[]) g).symm) (fun g=>(zF (α:=CR UU) (l:=[(38,zO)]) g).symm) (zC zNG (zD)) (zD) (zC ⟨xB,h38⟩ (zD)) (zC ⟨xG,h54⟩ (zC ⟨yu,h73⟩ (zC ⟨zBw,h77⟩ (zC ⟨zBl,h85⟩ (zC ⟨zPX,h107⟩ (zD)))))) fdok74 (by show ([parK]:LK).length+(k0:LK).length<=44; decide) (fun x a=>by show run74 fu c54 c73 c85 c107 x a=sh74 fu c54 c73 c85 c107 x a; rw [eq74]))
theorem con107 (fu:Nat) (h38:CROk CC Tryz.prog 38 (zO)) (c53:zA k0->MM (zA ([.st TI.node,.bool]:LK))) (h53:CPOk CC Tryz.prog syn 53 (cM k0 ([.st TI.node,.bool]:LK) c53)) (c54:zA kL->MM (zA kB)) (h54:CPOk CC Tryz.prog syn 54 (cJ kL kB c54)) (c56:zA k0->MM (zA ([.st TI.node,.str,.bool]:LK)×Option (Option MT))) (h56:CPOk CC Tryz.prog syn 56 (cNj k0 ([.st TI.node,.str,.bool]:LK) c56)) (c73:zA k0->MM (zA kN)) (h73:CPOk CC Tryz.prog syn 73 (cM k0 kN c73)) (c78:zA kS->MM (zA kN)) (h78:CPOk CC Tryz.prog syn 78 (cM kS kN c78)):CPOk CC Tryz.prog syn 107 (cM k0 kN (mM (sh107 fu c53 c54 c56 c73 c78))):=
 xC (zh (syn:=syn) (fu:=fu) (d:=3) (inl:=zB [(36,fd36)]) (orc:=zB []) (orr:=zB [(38,zO)]) (orp:=zB [(53,cM k0 ([.st TI.node,.bool]:LK) c53),(54,cJ kL kB c54),(56,cNj k0 ([.st TI.node,.str,.bool]:LK) c56),(73,cM k0 kN c73),(78,cM kS kN c78)]) (pf:=hasN []) (rf:=hasN [38]) zl CCok mixed (fun g=>(zF (α:=Con UU) (l:=[]) g).symm) (fun g=>(zF (α:=CR UU) (l:=[(38,zO)]) g).symm) (zC zLy (zD)) (zD) (zC ⟨xB,h38⟩ (zD)) (zC ⟨zFd,h53⟩ (zC ⟨xG,h54⟩ (zC ⟨zF6,h56⟩ (zC ⟨yu,h73⟩ (zC ⟨x8,h78⟩ (zD)))))) zQq (by show ([parK]:LK).length+(k0:LK).length<=48; decide) (fun x a=>by show run107 fu c53 c54 c56 c73 c78 x a=sh107 fu c53 c54 c56 c73 c78 x a; rw [eq107]))
theorem con75 (fu:Nat) (h38:CROk CC Tryz.prog 38 (zO)) (c54:zA kL->MM (zA kB)) (h54:CPOk CC Tryz.prog syn 54 (cJ kL kB c54)) (c73:zA k0->MM (zA kN)) (h73:CPOk CC Tryz.prog syn 73 (cM k0 kN c73)) (h77:CPOk CC Tryz.prog syn 77 (xq)) (c78:zA kS->MM (zA kN)) (h78:CPOk CC Tryz.prog syn 78 (cM kS kN c78)) (c85:zA kI->MM (zA kB)) (h85:CPOk CC Tryz.prog syn 85 (cM kI kB c85)) (c108:zA k0->MM (zA kN)) (h108:CPOk CC Tryz.prog syn 108 (cM k0 kN c108)):CPOk CC Tryz.prog syn 75 (cM k0 kN (mM (sh75 fu c54 c73 c78 c85 c108))):=
 xC (zh (syn:=syn) (fu:=fu) (d:=3) (inl:=zB [(36,fd36)]) (orc:=zB []) (orr:=zB [(38,zO)]) (orp:=zB [(54,cJ kL kB c54),(73,cM k0 kN c73),(77,xq),(78,cM kS kN c78),(85,cM kI kB c85),(108,cM k0 kN c108)]) (pf:=hasN []) (rf:=hasN [38]) zl CCok mixed (fun g=>(zF (α:=Con UU) (l:=[]) g).symm) (fun g=>(zF (α:=CR UU) (l:=[(38,zO)]) g).symm) (zC zNQ (zD)) (zD) (zC ⟨xB,h38⟩ (zD)) (zC ⟨xG,h54⟩ (zC ⟨yu,h73⟩ (zC ⟨zBw,h77⟩ (zC ⟨x8,h78⟩ (zC ⟨zBl,h85⟩ (zC ⟨zP8,h108⟩ (zD))))))) fdok75 (by show ([parK]:LK).length+(k0:LK).length<=51; decide) (fun x a=>by show run75 fu c54 c73 c78 c85 c108 x a=sh75 fu c54 c73 c78 c85 c108 x a; rw [eq75]))
theorem con108 (fu:Nat) (h38:CROk CC Tryz.prog 38 (zO)) (c54:zA kL->MM (zA kB)) (h54:CPOk CC Tryz.prog syn 54 (cJ kL kB c54)) (c58:zA ([.str,.bool]:LK)->MM (zA k0)) (h58:CPOk CC Tryz.prog syn 58 (cM ([.str,.bool]:LK) k0 c58)) (c72:zA kI->MM (zA kS)) (h72:CPOk CC Tryz.prog syn 72 (cJ kI kS c72)) (c73:zA k0->MM (zA kN)) (h73:CPOk CC Tryz.prog syn 73 (cM k0 kN c73)) (c80:zA k0->MM (zA kN)) (h80:CPOk CC Tryz.prog syn 80 (cM k0 kN c80)) (c114:zA k0->MM (zA kN)) (h114:CPOk CC Tryz.prog syn 114 (cM k0 kN c114)):CPOk CC Tryz.prog syn 108 (cM k0 kN (mM (sh108 fu c54 c58 c72 c73 c80 c114))):=
 xC (zh (syn:=syn) (fu:=fu) (d:=3) (inl:=zB [(36,fd36)]) (orc:=zB []) (orr:=zB [(38,zO)]) (orp:=zB [(54,cJ kL kB c54),(58,cM ([.str,.bool]:LK) k0 c58),(72,cJ kI kS c72),(73,cM k0 kN c73),(80,cM k0 kN c80),(114,cM k0 kN c114)]) (pf:=hasN []) (rf:=hasN [38]) zl CCok mixed (fun g=>(zF (α:=Con UU) (l:=[]) g).symm) (fun g=>(zF (α:=CR UU) (l:=[(38,zO)]) g).symm) (zC zLp (zD)) (zD) (zC ⟨xB,h38⟩ (zD)) (zC ⟨xG,h54⟩ (zC ⟨zFc,h58⟩ (zC ⟨zAS,h72⟩ (zC ⟨yu,h73⟩ (zC ⟨zGV,h80⟩ (zC ⟨zEZ,h114⟩ (zD))))))) zRI (by show ([parK]:LK).length+(k0:LK).length<=24; decide) (fun x a=>by show run108 fu c54 c58 c72 c73 c80 c114 x a=sh108 fu c54 c58 c72 c73 c80 c114 x a; rw [eq108]))
theorem con79 (fu:Nat) (c54:zA kL->MM (zA kB)) (h54:CPOk CC Tryz.prog syn 54 (cJ kL kB c54)) (c73:zA k0->MM (zA kN)) (h73:CPOk CC Tryz.prog syn 73 (cM k0 kN c73)):CPOk CC Tryz.prog syn 79 (cX k0 k0 (mX (sh79 fu c54 c73))):=
 zHw (zh (syn:=syn) (fu:=fu) (d:=3) (inl:=zB [(36,fd36)]) (orc:=zB []) (orr:=zB []) (orp:=zB [(54,cJ kL kB c54),(73,cM k0 kN c73)]) (pf:=hasN []) (rf:=hasN []) zl CCok mixed (fun g=>(zF (α:=Con UU) (l:=[]) g).symm) (fun g=>(zF (α:=CR UU) (l:=[]) g).symm) (zC zNm (zD)) (zD) (zD) (zC ⟨xG,h54⟩ (zC ⟨yu,h73⟩ (zD))) fdok79 (by show ([parK,ptsK]:LK).length+(k0:LK).length<=20; decide) (fun x a=>by show run79 fu c54 c73 x a=sh79 fu c54 c73 x a; rw [eq79]))
theorem con82 (fu:Nat) (c54:zA kL->MM (zA kB)) (h54:CPOk CC Tryz.prog syn 54 (cJ kL kB c54)) (c73:zA k0->MM (zA kN)) (h73:CPOk CC Tryz.prog syn 73 (cM k0 kN c73)) (c78:zA kS->MM (zA kN)) (h78:CPOk CC Tryz.prog syn 78 (cM kS kN c78)) (c81:zA k0->MM (zA kN×Option MT)) (h81:CPOk CC Tryz.prog syn 81 (cLj k0 kN c81)) (c111:zA k0->MM (zA kN)) (h111:CPOk CC Tryz.prog syn 111 (cM k0 kN c111)):CPOk CC Tryz.prog syn 82 (cX k0 k0 (mX (sh82 fu c54 c73 c78 c81 c111))):=
 zHw (zh (syn:=syn) (fu:=fu) (d:=3) (inl:=zB [(36,fd36)]) (orc:=zB []) (orr:=zB []) (orp:=zB [(54,cJ kL kB c54),(73,cM k0 kN c73),(78,cM kS kN c78),(81,cLj k0 kN c81),(111,cM k0 kN c111)]) (pf:=hasN []) (rf:=hasN []) zl CCok mixed (fun g=>(zF (α:=Con UU) (l:=[]) g).symm) (fun g=>(zF (α:=CR UU) (l:=[]) g).symm) (zC zN2 (zD)) (zD) (zD) (zC ⟨xG,h54⟩ (zC ⟨yu,h73⟩ (zC ⟨x8,h78⟩ (zC ⟨zNU,h81⟩ (zC ⟨zCf,h111⟩ (zD)))))) fdok82 (by show ([parK,ptsK]:LK).length+(k0:LK).length<=34; decide) (fun x a=>by show run82 fu c54 c73 c78 c81 c111 x a=sh82 fu c54 c73 c78 c81 c111 x a; rw [eq82]))
theorem con56 (fu:Nat) (h38:CROk CC Tryz.prog 38 (zO)) (c54:zA kL->MM (zA kB)) (h54:CPOk CC Tryz.prog syn 54 (cJ kL kB c54)) (c56:zA k0->MM (zA ([.st TI.node,.str,.bool]:LK)×Option (Option MT))) (h56:CPOk CC Tryz.prog syn 56 (cNj k0 ([.st TI.node,.str,.bool]:LK) c56)) (c72:zA kI->MM (zA kS)) (h72:CPOk CC Tryz.prog syn 72 (cJ kI kS c72)) (c73:zA k0->MM (zA kN)) (h73:CPOk CC Tryz.prog syn 73 (cM k0 kN c73)) (c78:zA kS->MM (zA kN)) (h78:CPOk CC Tryz.prog syn 78 (cM kS kN c78)) (c79:zA k0->List Nd->MM (zA k0×List Nd)) (h79:CPOk CC Tryz.prog syn 79 (cX k0 k0 c79)) (c80:zA k0->MM (zA kN)) (h80:CPOk CC Tryz.prog syn 80 (cM k0 kN c80)) (c81:zA k0->MM (zA kN×Option MT)) (h81:CPOk CC Tryz.prog syn 81 (cL k0 kN c81)) (c82:zA k0->List Nd->MM (zA k0×List Nd)) (h82:CPOk CC Tryz.prog syn 82 (cX k0 k0 c82)):CPOk CC Tryz.prog syn 56 (cN k0 ([.st TI.node,.str,.bool]:LK) (mN (sh56 fu c54 c56 c72 c73 c78 c79 c80 c81 c82))):=
 cN_of (zh (syn:=syn) (fu:=fu) (d:=3) (inl:=zB [(36,fd36)]) (orc:=zB []) (orr:=zB [(38,zO)]) (orp:=zB [(54,cJ kL kB c54),(56,cNj k0 ([.st TI.node,.str,.bool]:LK) c56),(72,cJ kI kS c72),(73,cM k0 kN c73),(78,cM kS kN c78),(79,cX k0 k0 c79),(80,cM k0 kN c80),(81,cL k0 kN c81),(82,cX k0 k0 c82)]) (pf:=hasN []) (rf:=hasN [38]) zl CCok mixed (fun g=>(zF (α:=Con UU) (l:=[]) g).symm) (fun g=>(zF (α:=CR UU) (l:=[(38,zO)]) g).symm) (zC zNh (zD)) (zD) (zC ⟨xB,h38⟩ (zD)) (zC ⟨xG,h54⟩ (zC ⟨zF6,h56⟩ (zC ⟨zAS,h72⟩ (zC ⟨yu,h73⟩ (zC ⟨x8,h78⟩ (zC ⟨zMo,h79⟩ (zC ⟨zGV,h80⟩ (zC ⟨zNU,h81⟩ (zC ⟨zNo,h82⟩ (zD)))))))))) fdok56 (by show ([parK]:LK).length+(k0:LK).length<=60; decide) (fun x a=>by show run56 fu c54 c56 c72 c73 c78 c79 c80 c81 c82 x a=sh56 fu c54 c56 c72 c73 c78 c79 c80 c81 c82 x a; rw [eq56]))
theorem con130 (fu:Nat) (h38:CROk CC Tryz.prog 38 (zO)) (c54:zA kL->MM (zA kB)) (h54:CPOk CC Tryz.prog syn 54 (cJ kL kB c54)) (c72:zA kI->MM (zA kS)) (h72:CPOk CC Tryz.prog syn 72 (cJ kI kS c72)) (c73:zA k0->MM (zA kN)) (h73:CPOk CC Tryz.prog syn 73 (cM k0 kN c73)) (c76:zA kI->MM (zA kB)) (h76:CPOk CC Tryz.prog syn 76 (cM kI kB c76)) (c78:zA kS->MM (zA kN)) (h78:CPOk CC Tryz.prog syn 78 (cM kS kN c78)) (c79:zA k0->List Nd->MM (zA k0×List Nd)) (h79:CPOk CC Tryz.prog syn 79 (cX k0 k0 c79)) (c82:zA k0->List Nd->MM (zA k0×List Nd)) (h82:CPOk CC Tryz.prog syn 82 (cX k0 k0 c82)) (c85:zA kI->MM (zA kB)) (h85:CPOk CC Tryz.prog syn 85 (cM kI kB c85)) (c130:zA kB->MM (zA ([.st TI.node,.str,.bool]:LK))) (h130:CPOk CC Tryz.prog syn 130 (cM kB ([.st TI.node,.str,.bool]:LK) c130)):CPOk CC Tryz.prog syn 130 (cM kB ([.st TI.node,.str,.bool]:LK) (mM (sh130 fu c54 c72 c73 c76 c78 c79 c82 c85 c130))):=
 xC (zh (syn:=syn) (fu:=fu) (d:=3) (inl:=zB [(36,fd36)]) (orc:=zB []) (orr:=zB [(38,zO)]) (orp:=zB [(54,cJ kL kB c54),(72,cJ kI kS c72),(73,cM k0 kN c73),(76,cM kI kB c76),(78,cM kS kN c78),(79,cX k0 k0 c79),(82,cX k0 k0 c82),(85,cM kI kB c85),(130,cM kB ([.st TI.node,.str,.bool]:LK) c130)]) (pf:=hasN []) (rf:=hasN [38]) zl CCok mixed (fun g=>(zF (α:=Con UU) (l:=[]) g).symm) (fun g=>(zF (α:=CR UU) (l:=[(38,zO)]) g).symm) (zC zLe (zD)) (zD) (zC ⟨xB,h38⟩ (zD)) (zC ⟨xG,h54⟩ (zC ⟨zAS,h72⟩ (zC ⟨yu,h73⟩ (zC ⟨zJe,h76⟩ (zC ⟨x8,h78⟩ (zC ⟨zMo,h79⟩ (zC ⟨zNo,h82⟩ (zC ⟨zBl,h85⟩ (zC ⟨zGp,h130⟩ (zD)))))))))) zQD (by show ([parK]:LK).length+(kB:LK).length<=84; decide) (fun x a=>by show run130 fu c54 c72 c73 c76 c78 c79 c82 c85 c130 x a=sh130 fu c54 c72 c73 c76 c78 c79 c82 c85 c130 x a; rw [eq130]))
theorem con81 (fu:Nat) (h38:CROk CC Tryz.prog 38 (zO)) (c54:zA kL->MM (zA kB)) (h54:CPOk CC Tryz.prog syn 54 (cJ kL kB c54)) (c59:zA kM->MM (zA k0)) (h59:CPOk CC Tryz.prog syn 59 (cM kM k0 c59)) (c61:zA k0->MM (zA kM)) (h61:CPOk CC Tryz.prog syn 61 (cM k0 kM c61)) (c73:zA k0->MM (zA kN)) (h73:CPOk CC Tryz.prog syn 73 (cM k0 kN c73)) (c78:zA kS->MM (zA kN)) (h78:CPOk CC Tryz.prog syn 78 (cM kS kN c78)) (c110:zA k0->MM (zA kN)) (h110:CPOk CC Tryz.prog syn 110 (cM k0 kN c110)):CPOk CC Tryz.prog syn 81 (cL k0 kN (mL (sh81 fu c54 c59 c61 c73 c78 c110))):=
 cL_of (zh (syn:=syn) (fu:=fu) (d:=3) (inl:=zB [(36,fd36)]) (orc:=zB []) (orr:=zB [(38,zO)]) (orp:=zB [(54,cJ kL kB c54),(59,cM kM k0 c59),(61,cM k0 kM c61),(73,cM k0 kN c73),(78,cM kS kN c78),(110,cM k0 kN c110)]) (pf:=hasN []) (rf:=hasN [38]) zl CCok mixed (fun g=>(zF (α:=Con UU) (l:=[]) g).symm) (fun g=>(zF (α:=CR UU) (l:=[(38,zO)]) g).symm) (zC zMt (zD)) (zD) (zC ⟨xB,h38⟩ (zD)) (zC ⟨xG,h54⟩ (zC ⟨zFl,h59⟩ (zC ⟨zFf,h61⟩ (zC ⟨yu,h73⟩ (zC ⟨x8,h78⟩ (zC ⟨zPV,h110⟩ (zD))))))) fdok81 (by show ([parK]:LK).length+(k0:LK).length<=49; decide) (fun x a=>by show run81 fu c54 c59 c61 c73 c78 c110 x a=sh81 fu c54 c59 c61 c73 c78 c110 x a; rw [eq81]))
theorem con110 (fu:Nat) (h38:CROk CC Tryz.prog 38 (zO)) (c53:zA k0->MM (zA ([.st TI.node,.bool]:LK))) (h53:CPOk CC Tryz.prog syn 53 (cM k0 ([.st TI.node,.bool]:LK) c53)) (c58:zA ([.str,.bool]:LK)->MM (zA k0)) (h58:CPOk CC Tryz.prog syn 58 (cM ([.str,.bool]:LK) k0 c58)) (c130:zA kB->MM (zA ([.st TI.node,.str,.bool]:LK))) (h130:CPOk CC Tryz.prog syn 130 (cM kB ([.st TI.node,.str,.bool]:LK) c130)):CPOk CC Tryz.prog syn 110 (cM k0 kN (mM (sh110 fu c53 c58 c130))):=
 xC (zh (syn:=syn) (fu:=fu) (d:=3) (inl:=zB [(36,fd36)]) (orc:=zB []) (orr:=zB [(38,zO)]) (orp:=zB [(53,cM k0 ([.st TI.node,.bool]:LK) c53),(58,cM ([.str,.bool]:LK) k0 c58),(130,cM kB ([.st TI.node,.str,.bool]:LK) c130)]) (pf:=hasN []) (rf:=hasN [38]) zl CCok mixed (fun g=>(zF (α:=Con UU) (l:=[]) g).symm) (fun g=>(zF (α:=CR UU) (l:=[(38,zO)]) g).symm) (zC zLx (zD)) (zD) (zC ⟨xB,h38⟩ (zD)) (zC ⟨zFd,h53⟩ (zC ⟨zFc,h58⟩ (zC ⟨zGp,h130⟩ (zD)))) zQ6 (by show ([parK]:LK).length+(k0:LK).length<=32; decide) (fun x a=>by show run110 fu c53 c58 c130 x a=sh110 fu c53 c58 c130 x a; rw [eq110]))
theorem con151 (fu:Nat) (h38:CROk CC Tryz.prog 38 (zO)) (c53:zA k0->MM (zA ([.st TI.node,.bool]:LK))) (h53:CPOk CC Tryz.prog syn 53 (cM k0 ([.st TI.node,.bool]:LK) c53)) (c130:zA kB->MM (zA ([.st TI.node,.str,.bool]:LK))) (h130:CPOk CC Tryz.prog syn 130 (cM kB ([.st TI.node,.str,.bool]:LK) c130)):CPOk CC Tryz.prog syn 151 (cM k0 kN (mM (sh151 fu c53 c130))):=
 xC (zh (syn:=syn) (fu:=fu) (d:=3) (inl:=zB [(36,fd36)]) (orc:=zB []) (orr:=zB [(38,zO)]) (orp:=zB [(53,cM k0 ([.st TI.node,.bool]:LK) c53),(130,cM kB ([.st TI.node,.str,.bool]:LK) c130)]) (pf:=hasN []) (rf:=hasN [38]) zl CCok mixed (fun g=>(zF (α:=Con UU) (l:=[]) g).symm) (fun g=>(zF (α:=CR UU) (l:=[(38,zO)]) g).symm) (zC zLX (zD)) (zD) (zC ⟨xB,h38⟩ (zD)) (zC ⟨zFd,h53⟩ (zC ⟨zGp,h130⟩ (zD))) zQG (by show ([parK]:LK).length+(k0:LK).length<=28; decide) (fun x a=>by show run151 fu c53 c130 x a=sh151 fu c53 c130 x a; rw [eq151]))
theorem con83 (fu:Nat) (h38:CROk CC Tryz.prog 38 (zO)) (c54:zA kL->MM (zA kB)) (h54:CPOk CC Tryz.prog syn 54 (cJ kL kB c54)) (c73:zA k0->MM (zA kN)) (h73:CPOk CC Tryz.prog syn 73 (cM k0 kN c73)) (c78:zA kS->MM (zA kN)) (h78:CPOk CC Tryz.prog syn 78 (cM kS kN c78)) (c83:zA k0->MM (zA kN)) (h83:CPOk CC Tryz.prog syn 83 (cM k0 kN c83)) (c111:zA k0->MM (zA kN)) (h111:CPOk CC Tryz.prog syn 111 (cM k0 kN c111)):CPOk CC Tryz.prog syn 83 (cM k0 kN (mM (sh83 fu c54 c73 c78 c83 c111))):=
 xC (zh (syn:=syn) (fu:=fu) (d:=3) (inl:=zB [(36,fd36)]) (orc:=zB []) (orr:=zB [(38,zO)]) (orp:=zB [(54,cJ kL kB c54),(73,cM k0 kN c73),(78,cM kS kN c78),(83,cM k0 kN c83),(111,cM k0 kN c111)]) (pf:=hasN []) (rf:=hasN [38]) zl CCok mixed (fun g=>(zF (α:=Con UU) (l:=[]) g).symm) (fun g=>(zF (α:=CR UU) (l:=[(38,zO)]) g).symm) (zC zM8 (zD)) (zD) (zC ⟨xB,h38⟩ (zD)) (zC ⟨xG,h54⟩ (zC ⟨yu,h73⟩ (zC ⟨x8,h78⟩ (zC ⟨zMl,h83⟩ (zC ⟨zCf,h111⟩ (zD)))))) fdok83 (by show ([parK]:LK).length+(k0:LK).length<=35; decide) (fun x a=>by show run83 fu c54 c73 c78 c83 c111 x a=sh83 fu c54 c73 c78 c83 c111 x a; rw [eq83]))
theorem con57 (fu:Nat) (h38:CROk CC Tryz.prog 38 (zO)) (c54:zA kL->MM (zA kB)) (h54:CPOk CC Tryz.prog syn 54 (cJ kL kB c54)) (c58:zA ([.str,.bool]:LK)->MM (zA k0)) (h58:CPOk CC Tryz.prog syn 58 (cM ([.str,.bool]:LK) k0 c58)) (c73:zA k0->MM (zA kN)) (h73:CPOk CC Tryz.prog syn 73 (cM k0 kN c73)) (c83:zA k0->MM (zA kN)) (h83:CPOk CC Tryz.prog syn 83 (cM k0 kN c83)):CPOk CC Tryz.prog syn 57 (cM ([.st TI.node,.str,.bool]:LK) kN (mM (sh57 fu c54 c58 c73 c83))):=
 xC (zh (syn:=syn) (fu:=fu) (d:=3) (inl:=zB [(36,fd36)]) (orc:=zB []) (orr:=zB [(38,zO)]) (orp:=zB [(54,cJ kL kB c54),(58,cM ([.str,.bool]:LK) k0 c58),(73,cM k0 kN c73),(83,cM k0 kN c83)]) (pf:=hasN []) (rf:=hasN [38]) zl CCok mixed (fun g=>(zF (α:=Con UU) (l:=[]) g).symm) (fun g=>(zF (α:=CR UU) (l:=[(38,zO)]) g).symm) (zC zN9 (zD)) (zD) (zC ⟨xB,h38⟩ (zD)) (zC ⟨xG,h54⟩ (zC ⟨zFc,h58⟩ (zC ⟨yu,h73⟩ (zC ⟨zMl,h83⟩ (zD))))) fdok57 (by show ([parK]:LK).length+(([.st TI.node,.str,.bool]:LK):LK).length<=27; decide) (fun x a=>by show run57 fu c54 c58 c73 c83 x a=sh57 fu c54 c58 c73 c83 x a; rw [eq57]))
theorem con55 (fu:Nat) (h38:CROk CC Tryz.prog 38 (zO)) (c54:zA kL->MM (zA kB)) (h54:CPOk CC Tryz.prog syn 54 (cJ kL kB c54)) (c56:zA k0->MM (zA ([.st TI.node,.str,.bool]:LK)×Option (Option MT))) (h56:CPOk CC Tryz.prog syn 56 (cNj k0 ([.st TI.node,.str,.bool]:LK) c56)) (c57:zA ([.st TI.node,.str,.bool]:LK)->MM (zA kN)) (h57:CPOk CC Tryz.prog syn 57 (cM ([.st TI.node,.str,.bool]:LK) kN c57)) (c73:zA k0->MM (zA kN)) (h73:CPOk CC Tryz.prog syn 73 (cM k0 kN c73)) (c78:zA kS->MM (zA kN)) (h78:CPOk CC Tryz.prog syn 78 (cM kS kN c78)):CPOk CC Tryz.prog syn 55 (cM ([.ag [.ow true TI.node],.bool]:LK) kN (mM (sh55 fu c54 c56 c57 c73 c78))):=
 xC (zh (syn:=syn) (fu:=fu) (d:=3) (inl:=zB [(36,fd36)]) (orc:=zB []) (orr:=zB [(38,zO)]) (orp:=zB [(54,cJ kL kB c54),(56,cNj k0 ([.st TI.node,.str,.bool]:LK) c56),(57,cM ([.st TI.node,.str,.bool]:LK) kN c57),(73,cM k0 kN c73),(78,cM kS kN c78)]) (pf:=hasN []) (rf:=hasN [38]) zl CCok mixed (fun g=>(zF (α:=Con UU) (l:=[]) g).symm) (fun g=>(zF (α:=CR UU) (l:=[(38,zO)]) g).symm) (zC zOC (zD)) (zD) (zC ⟨xB,h38⟩ (zD)) (zC ⟨xG,h54⟩ (zC ⟨zF6,h56⟩ (zC ⟨zMY,h57⟩ (zC ⟨yu,h73⟩ (zC ⟨x8,h78⟩ (zD)))))) fdok55 (by show ([parK]:LK).length+(([.ag [.ow true TI.node],.bool]:LK):LK).length<=35; decide) (fun x a=>by show run55 fu c54 c56 c57 c73 c78 x a=sh55 fu c54 c56 c57 c73 c78 x a; rw [eq55]))
theorem con37 (fu:Nat) (h38:CROk CC Tryz.prog 38 (zO)) (c53:zA k0->MM (zA ([.st TI.node,.bool]:LK))) (h53:CPOk CC Tryz.prog syn 53 (cM k0 ([.st TI.node,.bool]:LK) c53)) (c54:zA kL->MM (zA kB)) (h54:CPOk CC Tryz.prog syn 54 (cJ kL kB c54)) (c55:zA ([.ag [.ow true TI.node],.bool]:LK)->MM (zA kN)) (h55:CPOk CC Tryz.prog syn 55 (cM ([.ag [.ow true TI.node],.bool]:LK) kN c55)) (c56:zA k0->MM (zA ([.st TI.node,.str,.bool]:LK)×Option (Option MT))) (h56:CPOk CC Tryz.prog syn 56 (cN k0 ([.st TI.node,.str,.bool]:LK) c56)) (c57:zA ([.st TI.node,.str,.bool]:LK)->MM (zA kN)) (h57:CPOk CC Tryz.prog syn 57 (cM ([.st TI.node,.str,.bool]:LK) kN c57)) (c58:zA ([.str,.bool]:LK)->MM (zA k0)) (h58:CPOk CC Tryz.prog syn 58 (cM ([.str,.bool]:LK) k0 c58)) (c59:zA kM->MM (zA k0)) (h59:CPOk CC Tryz.prog syn 59 (cM kM k0 c59)) (c60:zA k0->MM (zA kN)) (h60:CPOk CC Tryz.prog syn 60 (cM k0 kN c60)) (c61:zA k0->MM (zA kM)) (h61:CPOk CC Tryz.prog syn 61 (cM k0 kM c61)):CPOk CC Tryz.prog syn 37 (cM kB kN (mM (sh37 fu c53 c54 c55 c56 c57 c58 c59 c60 c61))):=
 xC (zh (syn:=syn) (fu:=fu) (d:=3) (inl:=zB [(36,fd36)]) (orc:=zB []) (orr:=zB [(38,zO)]) (orp:=zB [(53,cM k0 ([.st TI.node,.bool]:LK) c53),(54,cJ kL kB c54),(55,cM ([.ag [.ow true TI.node],.bool]:LK) kN c55),(56,cN k0 ([.st TI.node,.str,.bool]:LK) c56),(57,cM ([.st TI.node,.str,.bool]:LK) kN c57),(58,cM ([.str,.bool]:LK) k0 c58),(59,cM kM k0 c59),(60,cM k0 kN c60),(61,cM k0 kM c61)]) (pf:=hasN []) (rf:=hasN [38]) zl CCok mixed (fun g=>(zF (α:=Con UU) (l:=[]) g).symm) (fun g=>(zF (α:=CR UU) (l:=[(38,zO)]) g).symm) (zC zMy (zD)) (zD) (zC ⟨xB,h38⟩ (zD)) (zC ⟨zFd,h53⟩ (zC ⟨xG,h54⟩ (zC ⟨code55,h55⟩ (zC ⟨zF6,h56⟩ (zC ⟨zMY,h57⟩ (zC ⟨zFc,h58⟩ (zC ⟨zFl,h59⟩ (zC ⟨zMg,h60⟩ (zC ⟨zFf,h61⟩ (zD)))))))))) fdok37 (by show ([parK]:LK).length+(kB:LK).length<=77; decide) (fun x a=>by show run37 fu c53 c54 c55 c56 c57 c58 c59 c60 c61 x a=sh37 fu c53 c54 c55 c56 c57 c58 c59 c60 c61 x a; rw [eq37]))
theorem con60 (fu:Nat) (h38:CROk CC Tryz.prog 38 (zO)) (c37:zA kB->MM (zA kN)) (h37:CPOk CC Tryz.prog syn 37 (cM kB kN c37)) (c54:zA kL->MM (zA kB)) (h54:CPOk CC Tryz.prog syn 54 (cJ kL kB c54)) (c72:zA kI->MM (zA kS)) (h72:CPOk CC Tryz.prog syn 72 (cJ kI kS c72)) (c73:zA k0->MM (zA kN)) (h73:CPOk CC Tryz.prog syn 73 (cM k0 kN c73)) (c78:zA kS->MM (zA kN)) (h78:CPOk CC Tryz.prog syn 78 (cM kS kN c78)) (c84:zA kI->MM (zA kB)) (h84:CPOk CC Tryz.prog syn 84 (cM kI kB c84)) (c85:zA kI->MM (zA kB)) (h85:CPOk CC Tryz.prog syn 85 (cM kI kB c85)) (c86:zA k0->MM (zA kN)) (h86:CPOk CC Tryz.prog syn 86 (cM k0 kN c86)):CPOk CC Tryz.prog syn 60 (cM k0 kN (mM (sh60 fu c37 c54 c72 c73 c78 c84 c85 c86))):=
 xC (zh (syn:=syn) (fu:=fu) (d:=3) (inl:=zB [(36,fd36)]) (orc:=zB []) (orr:=zB [(38,zO)]) (orp:=zB [(37,cM kB kN c37),(54,cJ kL kB c54),(72,cJ kI kS c72),(73,cM k0 kN c73),(78,cM kS kN c78),(84,cM kI kB c84),(85,cM kI kB c85),(86,cM k0 kN c86)]) (pf:=hasN []) (rf:=hasN [38]) zl CCok mixed (fun g=>(zF (α:=Con UU) (l:=[]) g).symm) (fun g=>(zF (α:=CR UU) (l:=[(38,zO)]) g).symm) (zC zMb (zD)) (zD) (zC ⟨xB,h38⟩ (zD)) (zC ⟨zJG,h37⟩ (zC ⟨xG,h54⟩ (zC ⟨zAS,h72⟩ (zC ⟨yu,h73⟩ (zC ⟨x8,h78⟩ (zC ⟨zGD,h84⟩ (zC ⟨zBl,h85⟩ (zC ⟨zIu,h86⟩ (zD))))))))) fdok60 (by show ([parK]:LK).length+(k0:LK).length<=37; decide) (fun x a=>by show run60 fu c37 c54 c72 c73 c78 c84 c85 c86 x a=sh60 fu c37 c54 c72 c73 c78 c84 c85 c86 x a; rw [eq60]))
theorem con86 (fu:Nat) (h38:CROk CC Tryz.prog 38 (zO)) (c54:zA kL->MM (zA kB)) (h54:CPOk CC Tryz.prog syn 54 (cJ kL kB c54)) (c59:zA kM->MM (zA k0)) (h59:CPOk CC Tryz.prog syn 59 (cM kM k0 c59)) (c60:zA k0->MM (zA kN)) (h60:CPOk CC Tryz.prog syn 60 (cM k0 kN c60)) (c61:zA k0->MM (zA kM)) (h61:CPOk CC Tryz.prog syn 61 (cM k0 kM c61)) (c72:zA kI->MM (zA kS)) (h72:CPOk CC Tryz.prog syn 72 (cJ kI kS c72)) (c73:zA k0->MM (zA kN)) (h73:CPOk CC Tryz.prog syn 73 (cM k0 kN c73)) (h77:CPOk CC Tryz.prog syn 77 (xq)) (c78:zA kS->MM (zA kN)) (h78:CPOk CC Tryz.prog syn 78 (cM kS kN c78)) (c80:zA k0->MM (zA kN)) (h80:CPOk CC Tryz.prog syn 80 (cM k0 kN c80)) (c85:zA kI->MM (zA kB)) (h85:CPOk CC Tryz.prog syn 85 (cM kI kB c85)) (c86:zA k0->MM (zA kN)) (h86:CPOk CC Tryz.prog syn 86 (cM k0 kN c86)) (c112:zA kI->MM (zA kB)) (h112:CPOk CC Tryz.prog syn 112 (cM kI kB c112)) (c113:zA k0->MM (zA kN)) (h113:CPOk CC Tryz.prog syn 113 (cM k0 kN c113)) (c114:zA k0->MM (zA kN)) (h114:CPOk CC Tryz.prog syn 114 (cM k0 kN c114)) (c115:zA k0->List Nd->MM (zA k0×List Nd)) (h115:CPOk CC Tryz.prog syn 115 (cX k0 k0 c115)) (c116:zA ([.ag [.ow true TI.node]]:LK)->MM (zA kN)) (h116:CPOk CC Tryz.prog syn 116 (cM ([.ag [.ow true TI.node]]:LK) kN c116)) (c117:zA kS->List Nd->MM (zA k0×List Nd)) (h117:CPOk CC Tryz.prog syn 117 (cX kS k0 c117)):CPOk CC Tryz.prog syn 86 (cM k0 kN (mM (sh86 fu c54 c59 c60 c61 c72 c73 c78 c80 c85 c86 c112 c113 c114 c115 c116 c117))):=
 xC (zh (syn:=syn) (fu:=fu) (d:=3) (inl:=zB [(36,fd36)]) (orc:=zB []) (orr:=zB [(38,zO)]) (orp:=zB [(54,cJ kL kB c54),(59,cM kM k0 c59),(60,cM k0 kN c60),(61,cM k0 kM c61),(72,cJ kI kS c72),(73,cM k0 kN c73),(77,xq),(78,cM kS kN c78),(80,cM k0 kN c80),(85,cM kI kB c85),(86,cM k0 kN c86),(112,cM kI kB c112),(113,cM k0 kN c113),(114,cM k0 kN c114),(115,cX k0 k0 c115),(116,cM ([.ag [.ow true TI.node]]:LK) kN c116),(117,cX kS k0 c117)]) (pf:=hasN []) (rf:=hasN [38]) zl CCok mixed (fun g=>(zF (α:=Con UU) (l:=[]) g).symm) (fun g=>(zF (α:=CR UU) (l:=[(38,zO)]) g).symm) (zC zNF (zD)) (zD) (zC ⟨xB,h38⟩ (zD)) (zC ⟨xG,h54⟩ (zC ⟨zFl,h59⟩ (zC ⟨zMg,h60⟩ (zC ⟨zFf,h61⟩ (zC ⟨zAS,h72⟩ (zC ⟨yu,h73⟩ (zC ⟨zBw,h77⟩ (zC ⟨x8,h78⟩ (zC ⟨zGV,h80⟩ (zC ⟨zBl,h85⟩ (zC ⟨zIu,h86⟩ (zC ⟨zKH,h112⟩ (zC ⟨zBd,h113⟩ (zC ⟨zEZ,h114⟩ (zC ⟨zKG,h115⟩ (zC ⟨zQo,h116⟩ (zC ⟨zKa,h117⟩ (zD)))))))))))))))))) fdok86 (by show ([parK]:LK).length+(k0:LK).length<=162; decide) (fun x a=>by show run86 fu c54 c59 c60 c61 c72 c73 c78 c80 c85 c86 c112 c113 c114 c115 c116 c117 x a=sh86 fu c54 c59 c60 c61 c72 c73 c78 c80 c85 c86 c112 c113 c114 c115 c116 c117 x a; rw [eq86]))
theorem con116 (fu:Nat) (h38:CROk CC Tryz.prog 38 (zO)) (c37:zA kB->MM (zA kN)) (h37:CPOk CC Tryz.prog syn 37 (cM kB kN c37)) (c59:zA kM->MM (zA k0)) (h59:CPOk CC Tryz.prog syn 59 (cM kM k0 c59)) (c61:zA k0->MM (zA kM)) (h61:CPOk CC Tryz.prog syn 61 (cM k0 kM c61)) (c78:zA kS->MM (zA kN)) (h78:CPOk CC Tryz.prog syn 78 (cM kS kN c78)) (c84:zA kI->MM (zA kB)) (h84:CPOk CC Tryz.prog syn 84 (cM kI kB c84)) (c86:zA k0->MM (zA kN)) (h86:CPOk CC Tryz.prog syn 86 (cM k0 kN c86)) (c117:zA kS->List Nd->MM (zA k0×List Nd)) (h117:CPOk CC Tryz.prog syn 117 (cX kS k0 c117)):CPOk CC Tryz.prog syn 116 (cM ([.ag [.ow true TI.node]]:LK) kN (mM (sh116 fu c37 c59 c61 c78 c84 c86 c117))):=
 xC (zh (syn:=syn) (fu:=fu) (d:=3) (inl:=zB [(36,fd36)]) (orc:=zB []) (orr:=zB [(38,zO)]) (orp:=zB [(37,cM kB kN c37),(59,cM kM k0 c59),(61,cM k0 kM c61),(78,cM kS kN c78),(84,cM kI kB c84),(86,cM k0 kN c86),(117,cX kS k0 c117)]) (pf:=hasN []) (rf:=hasN [38]) zl CCok mixed (fun g=>(zF (α:=Con UU) (l:=[]) g).symm) (fun g=>(zF (α:=CR UU) (l:=[(38,zO)]) g).symm) (zC zLg (zD)) (zD) (zC ⟨xB,h38⟩ (zD)) (zC ⟨zJG,h37⟩ (zC ⟨zFl,h59⟩ (zC ⟨zFf,h61⟩ (zC ⟨x8,h78⟩ (zC ⟨zGD,h84⟩ (zC ⟨zIu,h86⟩ (zC ⟨zKa,h117⟩ (zD)))))))) zPv (by show ([parK]:LK).length+(([.ag [.ow true TI.node]]:LK):LK).length<=31; decide) (fun x a=>by show run116 fu c37 c59 c61 c78 c84 c86 c117 x a=sh116 fu c37 c59 c61 c78 c84 c86 c117 x a; rw [eq116]))
theorem con115 (fu:Nat) (c78:zA kS->MM (zA kN)) (h78:CPOk CC Tryz.prog syn 78 (cM kS kN c78)) (c113:zA k0->MM (zA kN)) (h113:CPOk CC Tryz.prog syn 113 (cM k0 kN c113)):CPOk CC Tryz.prog syn 115 (cX k0 k0 (mX (sh115 fu c78 c113))):=
 zHw (zh (syn:=syn) (fu:=fu) (d:=3) (inl:=zB [(36,fd36)]) (orc:=zB []) (orr:=zB []) (orp:=zB [(78,cM kS kN c78),(113,cM k0 kN c113)]) (pf:=hasN []) (rf:=hasN []) zl CCok mixed (fun g=>(zF (α:=Con UU) (l:=[]) g).symm) (fun g=>(zF (α:=CR UU) (l:=[]) g).symm) (zC zLR (zD)) (zD) (zD) (zC ⟨x8,h78⟩ (zC ⟨zBd,h113⟩ (zD))) zPg (by show ([parK,ptsK]:LK).length+(k0:LK).length<=13; decide) (fun x a=>by show run115 fu c78 c113 x a=sh115 fu c78 c113 x a; rw [eq115]))
theorem con117 (fu:Nat) (c54:zA kL->MM (zA kB)) (h54:CPOk CC Tryz.prog syn 54 (cJ kL kB c54)) (c78:zA kS->MM (zA kN)) (h78:CPOk CC Tryz.prog syn 78 (cM kS kN c78)) (c113:zA k0->MM (zA kN)) (h113:CPOk CC Tryz.prog syn 113 (cM k0 kN c113)):CPOk CC Tryz.prog syn 117 (cX kS k0 (mX (sh117 fu c54 c78 c113))):=
 zHw (zh (syn:=syn) (fu:=fu) (d:=3) (inl:=zB [(36,fd36)]) (orc:=zB []) (orr:=zB []) (orp:=zB [(54,cJ kL kB c54),(78,cM kS kN c78),(113,cM k0 kN c113)]) (pf:=hasN []) (rf:=hasN []) zl CCok mixed (fun g=>(zF (α:=Con UU) (l:=[]) g).symm) (fun g=>(zF (α:=CR UU) (l:=[]) g).symm) (zC zME (zD)) (zD) (zD) (zC ⟨xG,h54⟩ (zC ⟨x8,h78⟩ (zC ⟨zBd,h113⟩ (zD)))) zP5 (by show ([parK,ptsK]:LK).length+(kS:LK).length<=22; decide) (fun x a=>by show run117 fu c54 c78 c113 x a=sh117 fu c54 c78 c113 x a; rw [eq117]))
theorem con113 (fu:Nat) (c54:zA kL->MM (zA kB)) (h54:CPOk CC Tryz.prog syn 54 (cJ kL kB c54)) (c73:zA k0->MM (zA kN)) (h73:CPOk CC Tryz.prog syn 73 (cM k0 kN c73)) (c111:zA k0->MM (zA kN)) (h111:CPOk CC Tryz.prog syn 111 (cM k0 kN c111)) (c113:zA k0->MM (zA kN)) (h113:CPOk CC Tryz.prog syn 113 (cM k0 kN c113)):CPOk CC Tryz.prog syn 113 (cM k0 kN (mM (sh113 fu c54 c73 c111 c113))):=
 xC (zh (syn:=syn) (fu:=fu) (d:=3) (inl:=zB [(41,fd41)]) (orc:=zB []) (orr:=zB []) (orp:=zB [(54,cJ kL kB c54),(73,cM k0 kN c73),(111,cM k0 kN c111),(113,cM k0 kN c113)]) (pf:=hasN []) (rf:=hasN []) zl CCok mixed (fun g=>(zF (α:=Con UU) (l:=[]) g).symm) (fun g=>(zF (α:=CR UU) (l:=[]) g).symm) (zC zLB (zD)) (zD) (zD) (zC ⟨xG,h54⟩ (zC ⟨yu,h73⟩ (zC ⟨zCf,h111⟩ (zC ⟨zBd,h113⟩ (zD))))) zPh (by show ([parK]:LK).length+(k0:LK).length<=20; decide) (fun x a=>by show run113 fu c54 c73 c111 c113 x a=sh113 fu c54 c73 c111 c113 x a; rw [eq113]))
theorem con111 (fu:Nat) (c54:zA kL->MM (zA kB)) (h54:CPOk CC Tryz.prog syn 54 (cJ kL kB c54)) (c73:zA k0->MM (zA kN)) (h73:CPOk CC Tryz.prog syn 73 (cM k0 kN c73)) (c111:zA k0->MM (zA kN)) (h111:CPOk CC Tryz.prog syn 111 (cM k0 kN c111)) (c114:zA k0->MM (zA kN)) (h114:CPOk CC Tryz.prog syn 114 (cM k0 kN c114)):CPOk CC Tryz.prog syn 111 (cM k0 kN (mM (sh111 fu c54 c73 c111 c114))):=
 xC (zh (syn:=syn) (fu:=fu) (d:=3) (inl:=zB [(41,fd41)]) (orc:=zB []) (orr:=zB []) (orp:=zB [(54,cJ kL kB c54),(73,cM k0 kN c73),(111,cM k0 kN c111),(114,cM k0 kN c114)]) (pf:=hasN []) (rf:=hasN []) zl CCok mixed (fun g=>(zF (α:=Con UU) (l:=[]) g).symm) (fun g=>(zF (α:=CR UU) (l:=[]) g).symm) (zC zLQ (zD)) (zD) (zD) (zC ⟨xG,h54⟩ (zC ⟨yu,h73⟩ (zC ⟨zCf,h111⟩ (zC ⟨zEZ,h114⟩ (zD))))) zQ4 (by show ([parK]:LK).length+(k0:LK).length<=20; decide) (fun x a=>by show run111 fu c54 c73 c111 c114 x a=sh111 fu c54 c73 c111 c114 x a; rw [eq111]))
theorem con114 (fu:Nat) (h38:CROk CC Tryz.prog 38 (zO)) (c54:zA kL->MM (zA kB)) (h54:CPOk CC Tryz.prog syn 54 (cJ kL kB c54)) (c73:zA k0->MM (zA kN)) (h73:CPOk CC Tryz.prog syn 73 (cM k0 kN c73)) (c78:zA kS->MM (zA kN)) (h78:CPOk CC Tryz.prog syn 78 (cM kS kN c78)) (c113:zA k0->MM (zA kN)) (h113:CPOk CC Tryz.prog syn 113 (cM k0 kN c113)) (c114:zA k0->MM (zA kN)) (h114:CPOk CC Tryz.prog syn 114 (cM k0 kN c114)) (c131:zA kI->MM (zA kN)) (h131:CPOk CC Tryz.prog syn 131 (cM kI kN c131)):CPOk CC Tryz.prog syn 114 (cM k0 kN (mM (sh114 fu c54 c73 c78 c113 c114 c131))):=
 xC (zh (syn:=syn) (fu:=fu) (d:=3) (inl:=zB [(36,fd36)]) (orc:=zB []) (orr:=zB [(38,zO)]) (orp:=zB [(54,cJ kL kB c54),(73,cM k0 kN c73),(78,cM kS kN c78),(113,cM k0 kN c113),(114,cM k0 kN c114),(131,cM kI kN c131)]) (pf:=hasN []) (rf:=hasN [38]) zl CCok mixed (fun g=>(zF (α:=Con UU) (l:=[]) g).symm) (fun g=>(zF (α:=CR UU) (l:=[(38,zO)]) g).symm) (zC zMC (zD)) (zD) (zC ⟨xB,h38⟩ (zD)) (zC ⟨xG,h54⟩ (zC ⟨yu,h73⟩ (zC ⟨x8,h78⟩ (zC ⟨zBd,h113⟩ (zC ⟨zEZ,h114⟩ (zC ⟨zKT,h131⟩ (zD))))))) zQm (by show ([parK]:LK).length+(k0:LK).length<=24; decide) (fun x a=>by show run114 fu c54 c73 c78 c113 c114 c131 x a=sh114 fu c54 c73 c78 c113 c114 c131 x a; rw [eq114]))
theorem con131 (fu:Nat) (c143:zS zBX->Option (zS zA1)) (h143:ConOk CC Tryz.prog 143 ⟨zBX,zA1,c143⟩) (c72:zA kI->MM (zA kS)) (h72:CPOk CC Tryz.prog syn 72 (cJ kI kS c72)) (c73:zA k0->MM (zA kN)) (h73:CPOk CC Tryz.prog syn 73 (cM k0 kN c73)) (c131:zA kI->MM (zA kN)) (h131:CPOk CC Tryz.prog syn 131 (cM kI kN c131)) (c142:zA k0->MM (zA kN)) (h142:CPOk CC Tryz.prog syn 142 (cM k0 kN c142)):CPOk CC Tryz.prog syn 131 (cM kI kN (mM (sh131 fu c143 c72 c73 c131 c142))):=
 xC (zh (syn:=syn) (fu:=fu) (d:=3) (inl:=zB [(41,fd41)]) (orc:=zB [(143,(⟨zBX,zA1,c143⟩:Con UU))]) (orr:=zB []) (orp:=zB [(72,cJ kI kS c72),(73,cM k0 kN c73),(131,cM kI kN c131),(142,cM k0 kN c142)]) (pf:=hasN [143]) (rf:=hasN []) zl CCok mixed (fun g=>(zF (α:=Con UU) (l:=[(143,(⟨zBX,zA1,c143⟩:Con UU))]) g).symm) (fun g=>(zF (α:=CR UU) (l:=[]) g).symm) (zC zLI (zD)) (zC ⟨zQl,h143⟩ (zD)) (zD) (zC ⟨zAS,h72⟩ (zC ⟨yu,h73⟩ (zC ⟨zKT,h131⟩ (zC ⟨zGa,h142⟩ (zD))))) zPo (by show ([parK]:LK).length+(kI:LK).length<=31; decide) (fun x a=>by show run131 fu c143 c72 c73 c131 c142 x a=sh131 fu c143 c72 c73 c131 c142 x a; rw [eq131]))
theorem con142 (fu:Nat) (h38:CROk CC Tryz.prog 38 (zO)) (c54:zA kL->MM (zA kB)) (h54:CPOk CC Tryz.prog syn 54 (cJ kL kB c54)) (c73:zA k0->MM (zA kN)) (h73:CPOk CC Tryz.prog syn 73 (cM k0 kN c73)) (c78:zA kS->MM (zA kN)) (h78:CPOk CC Tryz.prog syn 78 (cM kS kN c78)) (c84:zA kI->MM (zA kB)) (h84:CPOk CC Tryz.prog syn 84 (cM kI kB c84)) (c142:zA k0->MM (zA kN)) (h142:CPOk CC Tryz.prog syn 142 (cM k0 kN c142)) (c150:zA k0->MM (zA kN)) (h150:CPOk CC Tryz.prog syn 150 (cM k0 kN c150)) (c151:zA k0->MM (zA kN)) (h151:CPOk CC Tryz.prog syn 151 (cM k0 kN c151)):CPOk CC Tryz.prog syn 142 (cM k0 kN (mM (sh142 fu c54 c73 c78 c84 c142 c150 c151))):=
 xC (zh (syn:=syn) (fu:=fu) (d:=3) (inl:=zB [(36,fd36)]) (orc:=zB []) (orr:=zB [(38,zO)]) (orp:=zB [(54,cJ kL kB c54),(73,cM k0 kN c73),(78,cM kS kN c78),(84,cM kI kB c84),(142,cM k0 kN c142),(150,cM k0 kN c150),(151,cM k0 kN c151)]) (pf:=hasN []) (rf:=hasN [38]) zl CCok mixed (fun g=>(zF (α:=Con UU) (l:=[]) g).symm) (fun g=>(zF (α:=CR UU) (l:=[(38,zO)]) g).symm) (zC zL9 (zD)) (zD) (zC ⟨xB,h38⟩ (zD)) (zC ⟨xG,h54⟩ (zC ⟨yu,h73⟩ (zC ⟨x8,h78⟩ (zC ⟨zGD,h84⟩ (zC ⟨zGa,h142⟩ (zC ⟨zKK,h150⟩ (zC ⟨zKm,h151⟩ (zD)))))))) zQu (by show ([parK]:LK).length+(k0:LK).length<=26; decide) (fun x a=>by show run142 fu c54 c73 c78 c84 c142 c150 c151 x a=sh142 fu c54 c73 c78 c84 c142 c150 c151 x a; rw [eq142]))
theorem con150 (fu:Nat) (h38:CROk CC Tryz.prog 38 (zO)) (c54:zA kL->MM (zA kB)) (h54:CPOk CC Tryz.prog syn 54 (cJ kL kB c54)) (c73:zA k0->MM (zA kN)) (h73:CPOk CC Tryz.prog syn 73 (cM k0 kN c73)) (c78:zA kS->MM (zA kN)) (h78:CPOk CC Tryz.prog syn 78 (cM kS kN c78)) (c84:zA kI->MM (zA kB)) (h84:CPOk CC Tryz.prog syn 84 (cM kI kB c84)) (c142:zA k0->MM (zA kN)) (h142:CPOk CC Tryz.prog syn 142 (cM k0 kN c142)) (c150:zA k0->MM (zA kN)) (h150:CPOk CC Tryz.prog syn 150 (cM k0 kN c150)) (c151:zA k0->MM (zA kN)) (h151:CPOk CC Tryz.prog syn 151 (cM k0 kN c151)) (c154:zA kN->MM (zA kN)) (h154:CPOk CC Tryz.prog syn 154 (cM kN kN c154)) (c155:zA k0->MM (zA kN)) (h155:CPOk CC Tryz.prog syn 155 (cM k0 kN c155)):CPOk CC Tryz.prog syn 150 (cM k0 kN (mM (sh150 fu c54 c73 c78 c84 c142 c150 c151 c154 c155))):=
 xC (zh (syn:=syn) (fu:=fu) (d:=3) (inl:=zB [(36,fd36)]) (orc:=zB []) (orr:=zB [(38,zO)]) (orp:=zB [(54,cJ kL kB c54),(73,cM k0 kN c73),(78,cM kS kN c78),(84,cM kI kB c84),(142,cM k0 kN c142),(150,cM k0 kN c150),(151,cM k0 kN c151),(154,cM kN kN c154),(155,cM k0 kN c155)]) (pf:=hasN []) (rf:=hasN [38]) zl CCok mixed (fun g=>(zF (α:=Con UU) (l:=[]) g).symm) (fun g=>(zF (α:=CR UU) (l:=[(38,zO)]) g).symm) (zC zLG (zD)) (zD) (zC ⟨xB,h38⟩ (zD)) (zC ⟨xG,h54⟩ (zC ⟨yu,h73⟩ (zC ⟨x8,h78⟩ (zC ⟨zGD,h84⟩ (zC ⟨zGa,h142⟩ (zC ⟨zKK,h150⟩ (zC ⟨zKm,h151⟩ (zC ⟨zQC,h154⟩ (zC ⟨zPx,h155⟩ (zD)))))))))) zPq (by show ([parK]:LK).length+(k0:LK).length<=58; decide) (fun x a=>by show run150 fu c54 c73 c78 c84 c142 c150 c151 c154 c155 x a=sh150 fu c54 c73 c78 c84 c142 c150 c151 c154 c155 x a; rw [eq150]))
theorem con154 (fu:Nat) (h38:CROk CC Tryz.prog 38 (zO)) (c54:zA kL->MM (zA kB)) (h54:CPOk CC Tryz.prog syn 54 (cJ kL kB c54)) (c73:zA k0->MM (zA kN)) (h73:CPOk CC Tryz.prog syn 73 (cM k0 kN c73)) (c78:zA kS->MM (zA kN)) (h78:CPOk CC Tryz.prog syn 78 (cM kS kN c78)) (c80:zA k0->MM (zA kN)) (h80:CPOk CC Tryz.prog syn 80 (cM k0 kN c80)) (c111:zA k0->MM (zA kN)) (h111:CPOk CC Tryz.prog syn 111 (cM k0 kN c111)) (c113:zA k0->MM (zA kN)) (h113:CPOk CC Tryz.prog syn 113 (cM k0 kN c113)):CPOk CC Tryz.prog syn 154 (cM kN kN (mM (sh154 fu c54 c73 c78 c80 c111 c113))):=
 xC (zh (syn:=syn) (fu:=fu) (d:=3) (inl:=zB [(36,fd36)]) (orc:=zB []) (orr:=zB [(38,zO)]) (orp:=zB [(54,cJ kL kB c54),(73,cM k0 kN c73),(78,cM kS kN c78),(80,cM k0 kN c80),(111,cM k0 kN c111),(113,cM k0 kN c113)]) (pf:=hasN []) (rf:=hasN [38]) zl CCok mixed (fun g=>(zF (α:=Con UU) (l:=[]) g).symm) (fun g=>(zF (α:=CR UU) (l:=[(38,zO)]) g).symm) (zC zLu (zD)) (zD) (zC ⟨xB,h38⟩ (zD)) (zC ⟨xG,h54⟩ (zC ⟨yu,h73⟩ (zC ⟨x8,h78⟩ (zC ⟨zGV,h80⟩ (zC ⟨zCf,h111⟩ (zC ⟨zBd,h113⟩ (zD))))))) zPT (by show ([parK]:LK).length+(kN:LK).length<=77; decide) (fun x a=>by show run154 fu c54 c73 c78 c80 c111 c113 x a=sh154 fu c54 c73 c78 c80 c111 c113 x a; rw [eq154]))
theorem con155 (fu:Nat) (h38:CROk CC Tryz.prog 38 (zO)) (c73:zA k0->MM (zA kN)) (h73:CPOk CC Tryz.prog syn 73 (cM k0 kN c73)) (c85:zA kI->MM (zA kB)) (h85:CPOk CC Tryz.prog syn 85 (cM kI kB c85)) (c112:zA kI->MM (zA kB)) (h112:CPOk CC Tryz.prog syn 112 (cM kI kB c112)) (c115:zA k0->List Nd->MM (zA k0×List Nd)) (h115:CPOk CC Tryz.prog syn 115 (cX k0 k0 c115)):CPOk CC Tryz.prog syn 155 (cM k0 kN (mM (sh155 fu c73 c85 c112 c115))):=
 xC (zh (syn:=syn) (fu:=fu) (d:=3) (inl:=zB [(36,fd36)]) (orc:=zB []) (orr:=zB [(38,zO)]) (orp:=zB [(73,cM k0 kN c73),(85,cM kI kB c85),(112,cM kI kB c112),(115,cX k0 k0 c115)]) (pf:=hasN []) (rf:=hasN [38]) zl CCok mixed (fun g=>(zF (α:=Con UU) (l:=[]) g).symm) (fun g=>(zF (α:=CR UU) (l:=[(38,zO)]) g).symm) (zC zLb (zD)) (zD) (zC ⟨xB,h38⟩ (zD)) (zC ⟨yu,h73⟩ (zC ⟨zBl,h85⟩ (zC ⟨zKH,h112⟩ (zC ⟨zKG,h115⟩ (zD))))) zQQ (by show ([parK]:LK).length+(k0:LK).length<=37; decide) (fun x a=>by show run155 fu c73 c85 c112 c115 x a=sh155 fu c73 c85 c112 c115 x a; rw [eq155]))
theorem con143 (fu:Nat) :ConOk CC Tryz.prog 143 ⟨zBX,zA1,fun x=>sh143 fu (fun _=>false) x.1⟩:=
 qZ (c:=⟨zBX,zA1,fun x=>sh143 fu (fun _=>false) x.1⟩) (syn:=syn) (fu:=fu) (d:=2) (inl:=zB []) (orc:=zB []) (orr:=zB []) (orp:=zB []) (pf:=hasN []) (rf:=hasN []) zl CCok mixed (fun g=>(zF (α:=Con UU) (l:=[]) g).symm) (fun g=>(zF (α:=CR UU) (l:=[]) g).symm) (zD) (zD) (zD) (zD) zQ5 (by show 1<=32; decide) (xn rfl) (fun nf x=>by show run143 fu nf x.1=_; rw [eq143]; rfl)
end Go.Proofs.YtnamdpbcpnnhaaaGreatDoor
end
section
set_option linter.unusedVariables false
set_option linter.unusedSimpArgs false
namespace Go.Proofs.YtnamdpbcpnnhaaaGreatDoor
open Go.Al Go.Den
abbrev as41:List (AK UU):=[.int .i64,.dl TI.node]
abbrev rs41:List (AK UU):=[.st TI.node]
def kf15:Nat->List Nat
 | 0=>[0]
 | 1=>[2]
 | _=>[]
def hd15:List (Nat×Head UU):=[]
def jn15:List (Nat×Head UU):=[]
noncomputable def fd15:FD UU:=⟨⟨fun d=>hasN [] d,fun d=>hasN [] d,kf15,zB hd15,zB jn15,zf []⟩,zZ Tryz.f15,6,[.tmp 2]⟩
def kf33:Nat->List Nat
 | 0=>[0,1]
 | 1=>[4]
 | _=>[]
def hd33:List (Nat×Head UU):=[]
def jn33:List (Nat×Head UU):=[]
noncomputable def fd33:FD UU:=⟨⟨fun d=>hasN [] d,fun d=>hasN [] d,kf33,zB hd33,zB jn33,zf []⟩,zZ Tryz.f33,9,[.tmp 4]⟩
def kf52:Nat->List Nat
 | 0=>[0,1]
 | 1=>[0,1,7,8]
 | 2=>[0,1,7,8,9]
 | 3=>[0,1,5,7,8]
 | 4=>[0,1,5,7,8,16]
 | 5=>[4]
 | 6=>[0,1,7,8]
 | 7=>[4]
 | _=>[]
def hd52:List (Nat×Head UU):=[(2,⟨[0,1,7],[(8,.int .i64)],[]⟩)]
def jn52:List (Nat×Head UU):=[]
noncomputable def fd52:FD UU:=⟨⟨fun d=>hasN [] d,fun d=>hasN [] d,kf52,zB hd52,zB jn52,zf []⟩,zZ Tryz.f52,19,[.tmp 4]⟩
noncomputable def run33 (fu:Nat) (nf:Nat->Bool) (x0:List (List UInt8)) (x1:List UInt8):Option (zS rs33):=
 kc CC Tb fu 3 (zB [(52,fd52)]) (zB []) (zB []) (zB []) fd33 as33 rs33 nf (x0,x1,())
theorem fdok33:FDOk Tryz.prog (hasN []) (hasN []) 33 fd33:=⟨⟨Tryz.f33,Tryz.func33,by kernel_rfl,Tryz.ntmps33,Tryz.results33⟩,by kernel_rfl,by kernel_rfl,by kernel_rfl⟩
theorem zMh:FDOk Tryz.prog (hasN []) (hasN []) 52 fd52:=⟨⟨Tryz.f52,Tryz.func52,by kernel_rfl,Tryz.ntmps52,Tryz.results52⟩,by kernel_rfl,by kernel_rfl,by kernel_rfl⟩
noncomputable def run15 (fu:Nat) (c33:List (List UInt8)×List UInt8×Unit->Option (Bool×Unit)) (nf:Nat->Bool) (x0:List UInt8):Option (zS rs15):=
 kc CC Tb fu 2 (zB []) (zB [(33,(⟨as33,rs33,c33⟩:Con UU))]) (zB []) (zB []) fd15 as15 rs15 nf (x0,())
theorem fdok15:FDOk Tryz.prog (hasN [33]) (hasN []) 15 fd15:=⟨⟨Tryz.f15,Tryz.func15,by kernel_rfl,Tryz.ntmps15,Tryz.results15⟩,by kernel_rfl,by kernel_rfl,by kernel_rfl⟩
noncomputable def run41 (fu:Nat) (nf:Nat->Bool) (x0:Int) (x1:List Nd):Option (zS rs41):=
 kc CC Tb fu 2 (zB []) (zB []) (zB []) (zB []) fd41 as41 rs41 nf (x0,x1,())
theorem fdok41:FDOk Tryz.prog (hasN []) (hasN []) 41 fd41:=⟨⟨Tryz.f41,Tryz.func41,by kernel_rfl,Tryz.ntmps41,Tryz.results41⟩,by kernel_rfl,by kernel_rfl,by kernel_rfl⟩
end Go.Proofs.YtnamdpbcpnnhaaaGreatDoor
end
section
set_option linter.unusedVariables false
set_option linter.unusedSimpArgs false
namespace Go.Proofs.YtnamdpbcpnnhaaaGreatDoor
open Go.Al Go.Den
def sh33 (fu:Nat) (nf:Nat->Bool) (x0:(List Str)) (x1:Str):(Option (Bool×Unit)):=iter fu (fun (rec1:((Int×Unit)×Unit)->Option (Bool×Unit)) (s1:((Int×Unit)×Unit))=>cond (ilt s1.1.1 (lenI x0)) (cond (inB s1.1.1 (List.length x0)) (cond (seq x1 (List.getD x0 (Int.toNat s1.1.1) [])) (some ((ile 0 s1.1.1),())) (rec1 (((iadd .i64 s1.1.1 1),()),()))) (none)) (some ((ile 0 (Neg.neg 1)),()))) ((0,()),())
theorem eq33:@run33 = @sh33:=by kernel_rfl
def sh15 (fu:Nat) (c33:((List Str)×(Str×Unit))->(Option (Bool×Unit))) (nf:Nat->Bool) (x0:Str):(Option (Bool×Unit)):=Option.bind (c33 ([[97,117,116,111],[98,114,101,97,107],[99,97,115,101],[99,104,97,114],[99,111,110,115,116],[99,111,110,116,105,110,117,101],[100,101,102,97,117,108,116],[100,111],[100,111,117,98,108,101],[101,108,115,101],[101,110,117,109],[101,120,116,101,114,110],[102,108,111,97,116],[102,111,114],[103,111,116,111],[105,102],[105,110,108,105,110,101],[105,110,116],[108,111,110,103],[114,101,103,105,115,116,101,114],[114,101,116,117,114,110],[115,104,111,114,116],[115,105,103,110,101,100],[115,105,122,101,111,102],[115,116,97,116,105,99],[115,116,114,117,99,116],[115,119,105,116,99,104],[116,121,112,101,100,101,102],[117,110,105,111,110],[117,110,115,105,103,110,101,100],[118,111,105,100],[118,111,108,97,116,105,108,101],[119,104,105,108,101]],(x0,()))) fun y0=>some (y0.1,())
theorem eq15:@run15 = @sh15:=by kernel_rfl
def sh41 (fu:Nat) (nf:Nat->Bool) (x0:Int) (x1:(List Nd)):(Option (Nd×Unit)):=some ((Nd.mk x0 0 x1),())
theorem eq41:@run41 = @sh41:=by kernel_rfl
theorem con33 (fu:Nat) :ConOk CC Tryz.prog 33 ⟨as33,rs33,fun x=>sh33 fu (fun _=>false) x.1 x.2.1⟩:=
 qZ (c:=⟨as33,rs33,fun x=>sh33 fu (fun _=>false) x.1 x.2.1⟩) (syn:=syn) (fu:=fu) (d:=3) (inl:=zB [(52,fd52)]) (orc:=zB []) (orr:=zB []) (orp:=zB []) (pf:=hasN []) (rf:=hasN []) zl CCok mixed (fun g=>(zF (α:=Con UU) (l:=[]) g).symm) (fun g=>(zF (α:=CR UU) (l:=[]) g).symm) (zC zMh (zD)) (zD) (zD) (zD) fdok33 (by show 2<=9; decide) (xn rfl) (fun nf x=>by show run33 fu nf x.1 x.2.1=_; rw [eq33]; rfl)
theorem con15 (fu:Nat) (c33:zS as33->Option (zS rs33)) (h33:ConOk CC Tryz.prog 33 ⟨as33,rs33,c33⟩):ConOk CC Tryz.prog 15 ⟨as15,rs15,fun x=>sh15 fu c33 (fun _=>false) x.1⟩:=
 qZ (c:=⟨as15,rs15,fun x=>sh15 fu c33 (fun _=>false) x.1⟩) (syn:=syn) (fu:=fu) (d:=2) (inl:=zB []) (orc:=zB [(33,(⟨as33,rs33,c33⟩:Con UU))]) (orr:=zB []) (orp:=zB []) (pf:=hasN [33]) (rf:=hasN []) zl CCok mixed (fun g=>(zF (α:=Con UU) (l:=[(33,(⟨as33,rs33,c33⟩:Con UU))]) g).symm) (fun g=>(zF (α:=CR UU) (l:=[]) g).symm) (zD) (zC ⟨zFu,h33⟩ (zD)) (zD) (zD) fdok15 (by show 1<=6; decide) (xn rfl) (fun nf x=>by show run15 fu c33 nf x.1=_; rw [eq15]; rfl)
theorem con41 (fu:Nat) :ConOk CC Tryz.prog 41 ⟨as41,rs41,fun x=>sh41 fu (fun _=>false) x.1 x.2.1⟩:=
 qZ (c:=⟨as41,rs41,fun x=>sh41 fu (fun _=>false) x.1 x.2.1⟩) (syn:=syn) (fu:=fu) (d:=2) (inl:=zB []) (orc:=zB []) (orr:=zB []) (orp:=zB []) (pf:=hasN []) (rf:=hasN []) zl CCok mixed (fun g=>(zF (α:=Con UU) (l:=[]) g).symm) (fun g=>(zF (α:=CR UU) (l:=[]) g).symm) (zD) (zD) (zD) (zD) fdok41 (by show 2<=8; decide) (xn rfl) (fun nf x=>by show run41 fu nf x.1 x.2.1=_; rw [eq41]; rfl)
end Go.Proofs.YtnamdpbcpnnhaaaGreatDoor
end
