/-
  Part 4 of what the last text needs: library, runs, contracts, plain laws. No condition of its own.
-/
import Derived.Test.YtnamdpbcpnnhaaaGreatDoorZi3
import Derived.Test.YtnamdpbcpnnhaaaGreatDoorRows
import Derived.WalkKit
import Derived.Defers
import Derived.Recover
import Derived.TacticsInMore
set_option linter.unusedVariables false
set_option linter.unusedSimpArgs false
set_option linter.unusedSectionVars false
namespace Go.Proofs.YtnamdpbcpnnhaaaGreatDoor
section
open Go.Al
theorem zF3:hasT Tryz.prog 3=true:=by kernel_rfl
theorem zF7:xJ Tryz.prog 3=false:=by kernel_rfl
theorem zDs:Tryz.prog.cellsOf 3=1:=by kernel_rfl
theorem zHd:hasT Tryz.prog 4=true:=by kernel_rfl
theorem aggT4:xJ Tryz.prog 4=false:=by kernel_rfl
theorem zFc:Tryz.prog.cellsOf 4=1:=by kernel_rfl
theorem zLZ:hasT Tryz.prog 9=true:=by kernel_rfl
theorem zLe:xJ Tryz.prog 9=false:=by kernel_rfl
theorem zJa:Tryz.prog.cellsOf 9=1:=by kernel_rfl
theorem strT9:jv Tryz.prog 9=true:=by kernel_rfl
theorem hasT24:hasT Tryz.prog 24=true:=by kernel_rfl
theorem aggT24:xJ Tryz.prog 24=false:=by kernel_rfl
theorem zQG:Tryz.prog.cellsOf 24=1:=by kernel_rfl
theorem elT24:elT Tryz.prog 24=some 26:=by kernel_rfl
theorem hasT26:hasT Tryz.prog 26=true:=by kernel_rfl
theorem zPz:Tryz.prog.cellsOf 26=6:=by kernel_rfl
theorem zPa:fieldAt Tryz.prog 26 1=some (1,9):=by kernel_rfl
theorem zDi:hasT Tryz.prog 27=true:=by kernel_rfl
theorem zJC:xJ Tryz.prog 27=false:=by kernel_rfl
theorem zCd:Tryz.prog.cellsOf 27=1:=by kernel_rfl
theorem elT27:elT Tryz.prog 27=some 29:=by kernel_rfl
theorem zD1:hasT Tryz.prog 29=true:=by kernel_rfl
theorem zEB:xJ Tryz.prog 29=true:=by kernel_rfl
theorem zBf:Tryz.prog.cellsOf 29=3:=by kernel_rfl
theorem zKl:Tryz.prog.bytesOf 29=40:=by kernel_rfl
theorem zKL:fieldAt Tryz.prog 29 0=some (0,3):=by kernel_rfl
theorem zIZ:yZ Tryz.prog 29=some [.at (.int .i64 0),.at (.int .i64 0),.lst .nil []]:=by kernel_rfl
theorem hasT30:hasT Tryz.prog 30=true:=by kernel_rfl
theorem aggT30:xJ Tryz.prog 30=false:=by kernel_rfl
theorem zQf:Tryz.prog.cellsOf 30=1:=by kernel_rfl
theorem zM9:zBE Tryz.prog 61=true:=by kernel_rfl
theorem zero61:yZ Tryz.prog 61=some []:=by kernel_rfl
theorem hasT62:hasT Tryz.prog 62=true:=by kernel_rfl
theorem aggT62:xJ Tryz.prog 62=false:=by kernel_rfl
theorem zPK:Tryz.prog.cellsOf 62=1:=by kernel_rfl
theorem zB5:hasT Tryz.prog 63=true:=by kernel_rfl
theorem zI3:xJ Tryz.prog 63=false:=by kernel_rfl
theorem zAG:Tryz.prog.cellsOf 63=1:=by kernel_rfl
theorem zPV:Tryz.prog.bytesOf 63=8:=by kernel_rfl
theorem zero63:yZ Tryz.prog 63=some [.at (.map none)]:=by kernel_rfl
theorem zCg:hasT Tryz.prog 64=true:=by kernel_rfl
theorem zDh:xJ Tryz.prog 64=false:=by kernel_rfl
theorem zBa:Tryz.prog.cellsOf 64=1:=by kernel_rfl
theorem zFj:elT Tryz.prog 64=some 63:=by kernel_rfl
theorem zPT:fieldAt Tryz.prog 66 0=some (0,24):=by kernel_rfl
theorem zOy:fieldAt Tryz.prog 66 1=some (1,3):=by kernel_rfl
theorem zCj:fieldAt Tryz.prog 66 2=some (2,64):=by kernel_rfl
theorem zPE:fieldAt Tryz.prog 68 0=some (0,27):=by kernel_rfl
theorem zIa:fieldAt Tryz.prog 104 0=some (0,9):=by kernel_rfl
theorem zI5:fieldAt Tryz.prog 104 1=some (1,3):=by kernel_rfl
theorem code14:zP Tryz.prog 14=true:=by kernel_rfl
theorem zLt:zP Tryz.prog 15=true:=by kernel_rfl
theorem code16:zP Tryz.prog 16=true:=by kernel_rfl
theorem zJQ:zP Tryz.prog 17=true:=by kernel_rfl
theorem zJJ:zP Tryz.prog 18=true:=by kernel_rfl
theorem zLq:zP Tryz.prog 19=true:=by kernel_rfl
theorem code20:zP Tryz.prog 20=true:=by kernel_rfl
theorem code31:zP Tryz.prog 31=true:=by kernel_rfl
theorem code32:zP Tryz.prog 32=true:=by kernel_rfl
theorem zFd:zP Tryz.prog 33=true:=by kernel_rfl
theorem code34:zP Tryz.prog 34=true:=by kernel_rfl
theorem zL7:zP Tryz.prog 37=true:=by kernel_rfl
theorem zJX:zP Tryz.prog 38=true:=by kernel_rfl
theorem zNQ:zP Tryz.prog 39=true:=by kernel_rfl
theorem code41:zP Tryz.prog 41=true:=by kernel_rfl
theorem zMc:zP Tryz.prog 50=true:=by kernel_rfl
theorem code53:zP Tryz.prog 53=true:=by kernel_rfl
theorem zMn:zP Tryz.prog 54=true:=by kernel_rfl
theorem code55:zP Tryz.prog 55=true:=by kernel_rfl
theorem code56:zP Tryz.prog 56=true:=by kernel_rfl
theorem code57:zP Tryz.prog 57=true:=by kernel_rfl
theorem code58:zP Tryz.prog 58=true:=by kernel_rfl
theorem code59:zP Tryz.prog 59=true:=by kernel_rfl
theorem code60:zP Tryz.prog 60=true:=by kernel_rfl
theorem code61:zP Tryz.prog 61=true:=by kernel_rfl
theorem code62:zP Tryz.prog 62=true:=by kernel_rfl
theorem code63:zP Tryz.prog 63=true:=by kernel_rfl
theorem code64:zP Tryz.prog 64=true:=by kernel_rfl
theorem code65:zP Tryz.prog 65=true:=by kernel_rfl
theorem zIM:zP Tryz.prog 72=true:=by kernel_rfl
theorem zIO:zP Tryz.prog 73=true:=by kernel_rfl
theorem code74:zP Tryz.prog 74=true:=by kernel_rfl
theorem code75:zP Tryz.prog 75=true:=by kernel_rfl
theorem zNI:zP Tryz.prog 76=true:=by kernel_rfl
theorem zFm:zP Tryz.prog 77=true:=by kernel_rfl
theorem code78:zP Tryz.prog 78=true:=by kernel_rfl
theorem code79:zP Tryz.prog 79=true:=by kernel_rfl
theorem code80:zP Tryz.prog 80=true:=by kernel_rfl
theorem code81:zP Tryz.prog 81=true:=by kernel_rfl
theorem code82:zP Tryz.prog 82=true:=by kernel_rfl
theorem code83:zP Tryz.prog 83=true:=by kernel_rfl
theorem code84:zP Tryz.prog 84=true:=by kernel_rfl
theorem zM3:zP Tryz.prog 85=true:=by kernel_rfl
theorem code86:zP Tryz.prog 86=true:=by kernel_rfl
theorem zFl:zP Tryz.prog 88=true:=by kernel_rfl
theorem zJM:zP Tryz.prog 89=true:=by kernel_rfl
theorem zL8:zP Tryz.prog 90=true:=by kernel_rfl
theorem code92:zP Tryz.prog 92=true:=by kernel_rfl
theorem code93:zP Tryz.prog 93=true:=by kernel_rfl
theorem code94:zP Tryz.prog 94=true:=by kernel_rfl
theorem code95:zP Tryz.prog 95=true:=by kernel_rfl
theorem zQc:zP Tryz.prog 107=true:=by kernel_rfl
theorem zQK:zP Tryz.prog 108=true:=by kernel_rfl
theorem zPD:zP Tryz.prog 110=true:=by kernel_rfl
theorem zQX:zP Tryz.prog 111=true:=by kernel_rfl
theorem zPi:zP Tryz.prog 112=true:=by kernel_rfl
theorem zQF:zP Tryz.prog 113=true:=by kernel_rfl
theorem zP1:zP Tryz.prog 114=true:=by kernel_rfl
theorem zQL:zP Tryz.prog 115=true:=by kernel_rfl
theorem zPq:zP Tryz.prog 116=true:=by kernel_rfl
theorem zQD:zP Tryz.prog 117=true:=by kernel_rfl
theorem zQg:zP Tryz.prog 130=true:=by kernel_rfl
theorem zOz:zP Tryz.prog 131=true:=by kernel_rfl
theorem zO3:zP Tryz.prog 142=true:=by kernel_rfl
theorem zPX:zP Tryz.prog 143=true:=by kernel_rfl
theorem zPO:zP Tryz.prog 150=true:=by kernel_rfl
theorem zQZ:zP Tryz.prog 151=true:=by kernel_rfl
theorem zP5:zP Tryz.prog 154=true:=by kernel_rfl
theorem zQd:zP Tryz.prog 155=true:=by kernel_rfl
def ks38:Nat->List Nat
 | 0=>[0,1,4]
 | 1=>[4]
 | _=>[]
def ks58:Nat->List Nat
 | 0=>[0,1,2,8]
 | 1=>[0,1,2,6]
 | 2=>[0,1,6,9]
 | 3=>[0,1,6]
 | 4=>[]
 | _=>[]
def ks59:Nat->List Nat
 | 0=>[]
 | _=>[]
def ks61:Nat->List Nat
 | 0=>[0]
 | 1=>[0,3]
 | 2=>[3]
 | 3=>[2]
 | _=>[]
def ks77:Nat->List Nat
 | 0=>[3]
 | 1=>[]
 | _=>[]
def ks88:Nat->List Nat
 | 0=>[0,1]
 | 1=>[0,1,16]
 | 2=>[4]
 | 3=>[4]
 | _=>[]
theorem mixed:Tryz.prog.follows .mixedOrders=true:=by kernel_rfl
end
section
open Go.Al Go.Den
def Nd.kind:Nd->Int
 | .mk k _ _=>k
def Nd.tok:Nd->Int
 | .mk _ a _=>a
def Nd.kids:Nd->List Nd
 | .mk _ _ l=>l
structure TokT where
 kind:Int
 text:List UInt8
 file:Int
 ffrom:Int
 fto:Int
 blank:Bool
structure CharT where
 b:Int
 fat:Int
structure BindT where
 space:Int
 fto:Int
inductive TI where
 | int
 | bool
 | u8
 | str
 | tok
 | char
 | bind
 | node
def TI.no:TI->Nat
 | .int=>0
 | .bool=>1
 | .u8=>2
 | .str=>3
 | .tok=>4
 | .char=>5
 | .bind=>6
 | .node=>7
theorem TI.no_inj:∀ a b:TI,a.no=b.no->a=b:=by intro a b h; cases a <;> cases b <;> first | rfl | (simp [TI.no] at h)
instance:DecidableEq TI:=fun a b=>if h:a.no=b.no then isTrue (TI.no_inj a b h) else isFalse (fun e=>h (by rw [e]))
def denI:TI->Type
 | .int=>Int
 | .bool=>Bool
 | .u8=>Int
 | .str=>(List UInt8)
 | .tok=>TokT
 | .char=>CharT
 | .bind=>BindT
 | .node=>Nd
abbrev UU:TyU:={ I:=TI,den:=denI }
def zCk {R:Type} (v:T UU) (K:TokT->Option R):Option R:=
 match v with
 | .agg fs=>(match fs with
  | [v0,v1,v2,v3,v4,v5]=>pInt .i64 v0 fun x0=>pStr v1 fun x1=>pInt .i64 v2 fun x2=>pInt .i64 v3 fun x3=>pInt .i64 v4 fun x4=>zHf v5 fun x5=>K (TokT.mk x0 x1 x2 x3 x4 x5)
  | _=>none)
 | _=>none
def tokD:TokT:=TokT.mk 0 [] 0 0 0 false
def zBl {R:Type} (v:T UU) (K:CharT->Option R):Option R:=
 match v with
 | .agg fs=>(match fs with
  | [v0,v1]=>pInt .u8 v0 fun x0=>pInt .i64 v1 fun x1=>K (CharT.mk x0 x1)
  | _=>none)
 | _=>none
def zBS:CharT:=CharT.mk 0 0
def zBo {R:Type} (v:T UU) (K:BindT->Option R):Option R:=
 match v with
 | .agg fs=>(match fs with
  | [v0,v1]=>pInt .i64 v0 fun x0=>pInt .i64 v1 fun x1=>K (BindT.mk x0 x1)
  | _=>none)
 | _=>none
def bindD:BindT:=BindT.mk 0 0
def zE9 {R:Type} (v:T UU) (K:Nd->Option R):Option R:=
 match v with
 | .agg fs=>(match fs with
  | [v0,v1,v2]=>pInt .i64 v0 fun x0=>pInt .i64 v1 fun x1=>pDl (U:=UU) TI.node v2 fun x2=>K (Nd.mk x0 x1 x2)
  | _=>none)
 | _=>none
def zAY:Nd:=Nd.mk 0 0 []
def eV_int (x:Int):V:=.at (.int .i64 x)
def zPg (x:Bool):V:=.at (.bool x)
def eV_u8 (x:Int):V:=.at (.int .u8 x)
def eV_str (x:(List UInt8)):V:=.at (.string ⟨List.toArray x⟩)
def zAR (x:TokT):V:=.agg [.at (.int .i64 (TokT.kind x)),.at (.string ⟨List.toArray (TokT.text x)⟩),.at (.int .i64 (TokT.file x)),.at (.int .i64 (TokT.ffrom x)),.at (.int .i64 (TokT.fto x)),.at (.bool (TokT.blank x))]
def yw (x:CharT):V:=.agg [.at (.int .u8 (CharT.b x)),.at (.int .i64 (CharT.fat x))]
def kc (x:BindT):V:=.agg [.at (.int .i64 (BindT.space x)),.at (.int .i64 (BindT.fto x))]
def zAF (x:Nd):V:=yA x
def zLF:(i:TI)->denI i->V
 | .int,x=>eV_int x
 | .bool,x=>zPg x
 | .u8,x=>eV_u8 x
 | .str,x=>eV_str x
 | .tok,x=>zAR x
 | .char,x=>yw x
 | .bind,x=>kc x
 | .node,x=>zAF x
def encI:(i:TI)->denI i->T UU
 | .int,x=>.int .i64 x
 | .bool,x=>.bool x
 | .u8,x=>.int .u8 x
 | .str,x=>.str x
 | .tok,x=>.agg [(.int .i64 (TokT.kind x)),(.str (TokT.text x)),(.int .i64 (TokT.file x)),(.int .i64 (TokT.ffrom x)),(.int .i64 (TokT.fto x)),(.bool (TokT.blank x))]
 | .char,x=>.agg [(.int .u8 (CharT.b x)),(.int .i64 (CharT.fat x))]
 | .bind,x=>.agg [(.int .i64 (BindT.space x)),(.int .i64 (BindT.fto x))]
 | .node,x=>.agg [(.int .i64 (Nd.kind x)),(.int .i64 (Nd.tok x)),(.lst .dl TI.node (Nd.kids x))]
def decI:(i:TI)->{R:Type}->T UU->(denI i->Option R)->Option R
 | .int,_,v,K=>pInt .i64 v K
 | .bool,_,v,K=>zHf v K
 | .u8,_,v,K=>pInt .u8 v K
 | .str,_,v,K=>pStr v K
 | .tok,_,v,K=>zCk v K
 | .char,_,v,K=>zBl v K
 | .bind,_,v,K=>zBo v K
 | .node,_,v,K=>zE9 v K
def dfltI:(i:TI)->denI i
 | .int=>(0:Int)
 | .bool=>false
 | .u8=>(0:Int)
 | .str=>([]:List UInt8)
 | .tok=>tokD
 | .char=>zBS
 | .bind=>bindD
 | .node=>zAY
def cellsI:TI->Nat
 | .int=>1
 | .bool=>1
 | .u8=>1
 | .str=>1
 | .tok=>6
 | .char=>2
 | .bind=>2
 | .node=>3
def aggI:TI->Bool
 | .int=>false
 | .bool=>false
 | .u8=>false
 | .str=>false
 | .tok=>true
 | .char=>true
 | .bind=>true
 | .node=>true
def plainI:TI->Bool
 | .int=>true
 | .bool=>true
 | .u8=>true
 | .str=>true
 | .tok=>true
 | .char=>true
 | .bind=>true
 | .node=>false
def CC:Cod UU:=⟨encI,zLF,decI,dfltI,cellsI,aggI,plainI⟩
theorem zLd {R:Type} {v:T UU} {K:TokT->Option R} {r:R} (h:zCk v K=some r):∃ x,K x=some r/\∀ N,(trT CC N v).untag=zAR x:=by
 unfold zCk at h
 split at h
 · split at h
   · obtain ⟨x0,h,_,e0⟩:=ym (C:=CC) h
     obtain ⟨x1,h,_,e1⟩:=zEj (C:=CC) h
     obtain ⟨x2,h,_,e2⟩:=ym (C:=CC) h
     obtain ⟨x3,h,_,e3⟩:=ym (C:=CC) h
     obtain ⟨x4,h,_,e4⟩:=ym (C:=CC) h
     obtain ⟨x5,h,_,e5⟩:=zDC (C:=CC) h
     refine ⟨_,h,fun N=>?_⟩
     simp only [trT,trTs,V.untag,List.map_cons,List.map_nil,e0 N,e1 N,e2 N,e3 N,e4 N,e5 N]
     rfl
   · cases h
 · cases h
theorem zJi {R:Type} {v:T UU} {K:TokT->Option R} {r:R} (h:zCk v K=some r):∃ x,K x=some r/\∀ N,trT CC N v=zAR x:=by
 unfold zCk at h
 split at h
 · split at h
   · obtain ⟨x0,h,e0,_⟩:=ym (C:=CC) h
     obtain ⟨x1,h,e1,_⟩:=zEj (C:=CC) h
     obtain ⟨x2,h,e2,_⟩:=ym (C:=CC) h
     obtain ⟨x3,h,e3,_⟩:=ym (C:=CC) h
     obtain ⟨x4,h,e4,_⟩:=ym (C:=CC) h
     obtain ⟨x5,h,e5,_⟩:=zDC (C:=CC) h
     refine ⟨_,h,fun N=>?_⟩
     simp only [trT,trTs,e0 N,e1 N,e2 N,e3 N,e4 N,e5 N]
     rfl
   · cases h
 · cases h
theorem zBH (x:TokT):zAR x = .agg [.at (.int .i64 (TokT.kind x)),.at (.string ⟨List.toArray (TokT.text x)⟩),.at (.int .i64 (TokT.file x)),.at (.int .i64 (TokT.ffrom x)),.at (.int .i64 (TokT.fto x)),.at (.bool (TokT.blank x))]:=by
 rfl
theorem zJv {R:Type} {v:T UU} {K:CharT->Option R} {r:R} (h:zBl v K=some r):∃ x,K x=some r/\∀ N,(trT CC N v).untag=yw x:=by
 unfold zBl at h
 split at h
 · split at h
   · obtain ⟨x0,h,_,e0⟩:=ym (C:=CC) h
     obtain ⟨x1,h,_,e1⟩:=ym (C:=CC) h
     refine ⟨_,h,fun N=>?_⟩
     simp only [trT,trTs,V.untag,List.map_cons,List.map_nil,e0 N,e1 N]
     rfl
   · cases h
 · cases h
theorem zIm {R:Type} {v:T UU} {K:CharT->Option R} {r:R} (h:zBl v K=some r):∃ x,K x=some r/\∀ N,trT CC N v=yw x:=by
 unfold zBl at h
 split at h
 · split at h
   · obtain ⟨x0,h,e0,_⟩:=ym (C:=CC) h
     obtain ⟨x1,h,e1,_⟩:=ym (C:=CC) h
     refine ⟨_,h,fun N=>?_⟩
     simp only [trT,trTs,e0 N,e1 N]
     rfl
   · cases h
 · cases h
theorem zAV (x:CharT):yw x = .agg [.at (.int .u8 (CharT.b x)),.at (.int .i64 (CharT.fat x))]:=by
 rfl
theorem zJn {R:Type} {v:T UU} {K:BindT->Option R} {r:R} (h:zBo v K=some r):∃ x,K x=some r/\∀ N,(trT CC N v).untag=kc x:=by
 unfold zBo at h
 split at h
 · split at h
   · obtain ⟨x0,h,_,e0⟩:=ym (C:=CC) h
     obtain ⟨x1,h,_,e1⟩:=ym (C:=CC) h
     refine ⟨_,h,fun N=>?_⟩
     simp only [trT,trTs,V.untag,List.map_cons,List.map_nil,e0 N,e1 N]
     rfl
   · cases h
 · cases h
theorem zH0 {R:Type} {v:T UU} {K:BindT->Option R} {r:R} (h:zBo v K=some r):∃ x,K x=some r/\∀ N,trT CC N v=kc x:=by
 unfold zBo at h
 split at h
 · split at h
   · obtain ⟨x0,h,e0,_⟩:=ym (C:=CC) h
     obtain ⟨x1,h,e1,_⟩:=ym (C:=CC) h
     refine ⟨_,h,fun N=>?_⟩
     simp only [trT,trTs,e0 N,e1 N]
     rfl
   · cases h
 · cases h
theorem zAb (x:BindT):kc x = .agg [.at (.int .i64 (BindT.space x)),.at (.int .i64 (BindT.fto x))]:=by
 rfl
theorem zJp {R:Type} {v:T UU} {K:Nd->Option R} {r:R} (h:zE9 v K=some r):∃ x,K x=some r/\∀ N,(trT CC N v).untag=zAF x:=by
 unfold zE9 at h
 split at h
 · split at h
   · obtain ⟨x0,h,_,e0⟩:=ym (C:=CC) h
     obtain ⟨x1,h,_,e1⟩:=ym (C:=CC) h
     obtain ⟨x2,h,e2⟩:=pDl_ok (C:=CC) h
     refine ⟨_,h,fun N=>?_⟩
     simp only [trT,trTs,V.untag,List.map_cons,List.map_nil,e0 N,e1 N,e2 N]
     exact (ju x0 x1 x2).symm
   · cases h
 · cases h
theorem zAX (x:Nd):zAF x = .agg [.at (.int .i64 (Nd.kind x)),.at (.int .i64 (Nd.tok x)),.lst (zh ((Nd.kids x).map (zLF TI.node))) ((Nd.kids x).map (zLF TI.node))]:=by
 cases x; exact ju _ _ _
theorem sz_tok (x:TokT):(zAR x).size=6:=by rw [zBH]; rfl
theorem ag_tok (x:TokT):(zAR x).isAgg=true:=by rw [zBH]; rfl
theorem on_tok (x:TokT):zJ (zAR x).flat:=by rw [zBH]; rfl
theorem un_tok (x:TokT):(zAR x).untag=zAR x:=by rw [zBH]; simp only [V.untag,List.map_cons,List.map_nil,zCG,zA0]
theorem zGN (x:CharT):(yw x).size=2:=by rw [zAV]; rfl
theorem zPf (x:CharT):(yw x).isAgg=true:=by rw [zAV]; rfl
theorem zQo (x:CharT):zJ (yw x).flat:=by rw [zAV]; rfl
theorem zPY (x:CharT):(yw x).untag=yw x:=by rw [zAV]; simp only [V.untag,List.map_cons,List.map_nil,zCG,zA0]
theorem zPJ (x:BindT):(kc x).size=2:=by rw [zAb]; rfl
theorem zPI (x:BindT):(kc x).isAgg=true:=by rw [zAb]; rfl
theorem zP0 (x:BindT):zJ (kc x).flat:=by rw [zAb]; rfl
theorem zO6 (x:BindT):(kc x).untag=kc x:=by rw [zAb]; simp only [V.untag,List.map_cons,List.map_nil,zCG,zA0]
theorem zPs (x:Nd):(zAF x).size=3:=by rw [zAX]; rfl
theorem zQU (x:Nd):(zAF x).isAgg=true:=by rw [zAX]; rfl
theorem zQq (x:Nd):zJ (zAF x).flat:=by rw [zAX]; rfl
theorem zO0 (x:Nd):(zAF x).untag=zAF x:=by rw [zAX]; simp only [V.untag,List.map_cons,List.map_nil,zCG,zA0]
theorem CCok:CodOk CC:=by
 refine ⟨?_,?_,?_,?_,?_,?_,?_,?_,?_,?_⟩
 · intro N i x
   cases i with
   | int=>rfl
   | bool=>rfl
   | u8=>rfl
   | str=>rfl
   | tok=>exact (zBH x).symm
   | char=>exact (zAV x).symm
   | bind=>exact (zAb x).symm
   | node=>exact (zAX x).symm
 · intro i x
   cases i <;> rfl
 · intro i R v k r h
   cases i with
   | int=>obtain ⟨x,h1,_,h2⟩:=ym (C:=CC) h; exact ⟨x,h1,fun N=>by have:=h2 N; exact zCL this⟩
   | bool=>obtain ⟨x,h1,_,h2⟩:=zDC (C:=CC) h; exact ⟨x,h1,fun N=>by have:=h2 N; exact zCL this⟩
   | u8=>obtain ⟨x,h1,_,h2⟩:=ym (C:=CC) h; exact ⟨x,h1,fun N=>by have:=h2 N; exact zCL this⟩
   | str=>obtain ⟨x,h1,_,h2⟩:=zEj (C:=CC) h; exact ⟨x,h1,fun N=>by have:=h2 N; exact zCL this⟩
   | tok=>exact zLd h
   | char=>exact zJv h
   | bind=>exact zJn h
   | node=>exact zJp h
 · intro i R v k r hp h
   cases i with
   | int=>obtain ⟨x,h1,h2,_⟩:=ym (C:=CC) h; exact ⟨x,h1,h2⟩
   | bool=>obtain ⟨x,h1,h2,_⟩:=zDC (C:=CC) h; exact ⟨x,h1,h2⟩
   | u8=>obtain ⟨x,h1,h2,_⟩:=ym (C:=CC) h; exact ⟨x,h1,h2⟩
   | str=>obtain ⟨x,h1,h2,_⟩:=zEj (C:=CC) h; exact ⟨x,h1,h2⟩
   | tok=>exact zJi h
   | char=>exact zIm h
   | bind=>exact zH0 h
   | node=>cases hp
 · intro i x
   cases i with
   | int=>rfl
   | bool=>rfl
   | u8=>rfl
   | str=>rfl
   | tok=>exact sz_tok x
   | char=>exact zGN x
   | bind=>exact zPJ x
   | node=>exact zPs x
 · intro i x
   cases i with
   | int=>rfl
   | bool=>rfl
   | u8=>rfl
   | str=>rfl
   | tok=>exact ag_tok x
   | char=>exact zPf x
   | bind=>exact zPI x
   | node=>exact zQU x
 · intro i x
   cases i with
   | int=>rfl
   | bool=>rfl
   | u8=>rfl
   | str=>rfl
   | tok=>exact on_tok x
   | char=>exact zQo x
   | bind=>exact zP0 x
   | node=>exact zQq x
 · intro i x
   cases i with
   | int=>rfl
   | bool=>rfl
   | u8=>rfl
   | str=>rfl
   | tok=>exact un_tok x
   | char=>exact zPY x
   | bind=>exact zO6 x
   | node=>exact zO0 x
 · intro i h
   cases i <;> first | rfl | cases h
 · intro i
   cases i <;> decide
def td3:TD UU:={ has:=true,agg:=false,cells:=1,bytes:=8,code:=some TI.int,ik:=some .i64,zero:=some [.int .i64 0] }
theorem td3_ok:Facts CC Tryz.prog 3 td3:=by constructor<;>first|kernel_rfl|(intro N;kernel_rfl)|(intro i h;cases h<;>exact ⟨rfl,rfl⟩)|(intro n i h;cases h)
def td4:TD UU:={ has:=true,agg:=false,cells:=1,bytes:=1,code:=some TI.bool,isBool:=true,zero:=some [.bool false] }
theorem td4_ok:Facts CC Tryz.prog 4 td4:=by constructor<;>first|kernel_rfl|(intro N;kernel_rfl)|(intro i h;cases h<;>exact ⟨rfl,rfl⟩)|(intro n i h;cases h)
def td5:TD UU:={ has:=true,agg:=false,cells:=1,bytes:=1,code:=some TI.u8,ik:=some .u8,zero:=some [.int .u8 0] }
theorem td5_ok:Facts CC Tryz.prog 5 td5:=by constructor<;>first|kernel_rfl|(intro N;kernel_rfl)|(intro i h;cases h<;>exact ⟨rfl,rfl⟩)|(intro n i h;cases h)
def td9:TD UU:={ has:=true,agg:=false,cells:=1,bytes:=16,code:=some TI.str,isStr:=true,zero:=some [.str []] }
theorem td9_ok:Facts CC Tryz.prog 9 td9:=by constructor<;>first|kernel_rfl|(intro N;kernel_rfl)|(intro i h;cases h<;>exact ⟨rfl,rfl⟩)|(intro n i h;cases h)
def td20:TD UU:={ has:=true,agg:=false,cells:=1,bytes:=16,isIfc:=true,zero:=some [.con .nilIface] }
theorem zO5:Facts CC Tryz.prog 20 td20:=by constructor<;>first|kernel_rfl|(intro N;kernel_rfl)|(intro i h;cases h<;>exact ⟨rfl,rfl⟩)|(intro n i h;cases h)
def td24:TD UU:={ has:=true,agg:=false,cells:=1,bytes:=24,el:=some 26,zero:=some [.nil] }
theorem zQH:Facts CC Tryz.prog 24 td24:=by constructor<;>first|kernel_rfl|(intro N;kernel_rfl)|(intro i h;cases h<;>exact ⟨rfl,rfl⟩)|(intro n i h;cases h)
def td26:TD UU:={ has:=true,agg:=true,cells:=6,bytes:=56,code:=some TI.tok,flds:=[(0,3),(1,9),(2,3),(3,3),(4,3),(5,4)],isStruct:=true,zero:=some [.int .i64 0,.str [],.int .i64 0,.int .i64 0,.int .i64 0,.bool false] }
theorem zQW:Facts CC Tryz.prog 26 td26:=by constructor<;>first|kernel_rfl|(intro N;kernel_rfl)|(intro i h;cases h<;>exact ⟨rfl,rfl⟩)|(intro n i h;cases h)
def td27:TD UU:={ has:=true,agg:=false,cells:=1,bytes:=24,el:=some 29,zero:=some [.nil] }
theorem zOr:Facts CC Tryz.prog 27 td27:=by constructor<;>first|kernel_rfl|(intro N;kernel_rfl)|(intro i h;cases h<;>exact ⟨rfl,rfl⟩)|(intro n i h;cases h)
def td29:TD UU:={ has:=true,agg:=true,cells:=3,bytes:=40,code:=some TI.node,flds:=[(0,3),(1,3),(2,27)],isStruct:=true,zero:=some [.int .i64 0,.int .i64 0,.nil] }
theorem zOn:Facts CC Tryz.prog 29 td29:=by constructor<;>first|kernel_rfl|(intro N;kernel_rfl)|(intro i h;cases h<;>exact ⟨rfl,rfl⟩)|(intro n i h;cases h)
def td30:TD UU:={ has:=true,agg:=false,cells:=1,bytes:=8,code:=some TI.int,ik:=some .i64,zero:=some [.int .i64 0] }
theorem zPd:Facts CC Tryz.prog 30 td30:=by constructor<;>first|kernel_rfl|(intro N;kernel_rfl)|(intro i h;cases h<;>exact ⟨rfl,rfl⟩)|(intro n i h;cases h)
def td44:TD UU:={ has:=true,agg:=false,cells:=1,bytes:=24,el:=some 47,zero:=some [.nil] }
theorem zOs:Facts CC Tryz.prog 44 td44:=by constructor<;>first|kernel_rfl|(intro N;kernel_rfl)|(intro i h;cases h<;>exact ⟨rfl,rfl⟩)|(intro n i h;cases h)
def td47:TD UU:={ has:=true,agg:=true,cells:=2,bytes:=16,code:=some TI.bind,flds:=[(0,3),(1,3)],isStruct:=true,zero:=some [.int .i64 0,.int .i64 0] }
theorem zP6:Facts CC Tryz.prog 47 td47:=by constructor<;>first|kernel_rfl|(intro N;kernel_rfl)|(intro i h;cases h<;>exact ⟨rfl,rfl⟩)|(intro n i h;cases h)
def td49:TD UU:={ has:=true,agg:=false,cells:=1,bytes:=24,el:=some 3,zero:=some [.nil] }
theorem zQi:Facts CC Tryz.prog 49 td49:=by constructor<;>first|kernel_rfl|(intro N;kernel_rfl)|(intro i h;cases h<;>exact ⟨rfl,rfl⟩)|(intro n i h;cases h)
def td57:TD UU:={ has:=true,agg:=false,cells:=1,bytes:=24,el:=some 9,zero:=some [.nil] }
theorem zQS:Facts CC Tryz.prog 57 td57:=by constructor<;>first|kernel_rfl|(intro N;kernel_rfl)|(intro i h;cases h<;>exact ⟨rfl,rfl⟩)|(intro n i h;cases h)
def td58:TD UU:={ has:=true,agg:=true,cells:=33,bytes:=528,zero:=some [.str [],.str [],.str [],.str [],.str [],.str [],.str [],.str [],.str [],.str [],.str [],.str [],.str [],.str [],.str [],.str [],.str [],.str [],.str [],.str [],.str [],.str [],.str [],.str [],.str [],.str [],.str [],.str [],.str [],.str [],.str [],.str [],.str []],arr:=some (33,TI.str) }
set_option maxRecDepth 100000 in
theorem zPR:Facts CC Tryz.prog 58 td58:=⟨by kernel_rfl,by kernel_rfl,by kernel_rfl,by kernel_rfl,by kernel_rfl,by kernel_rfl,by kernel_rfl,by kernel_rfl,by kernel_rfl,by kernel_rfl,by kernel_rfl,fun N=>by kernel_rfl,fun i h=>(by first | (injection h with h; subst h; exact ⟨rfl,rfl⟩) | cases h),fun n i h=>(by injection h with h; injection h with h _; subst h; kernel_rfl)⟩
def td61:TD UU:={ has:=true,agg:=true,cells:=0,bytes:=0,flds:=[],isStruct:=true,zero:=some [] }
theorem zP2:Facts CC Tryz.prog 61 td61:=by constructor<;>first|kernel_rfl|(intro N;kernel_rfl)|(intro i h;cases h<;>exact ⟨rfl,rfl⟩)|(intro n i h;cases h)
def td62:TD UU:={ has:=true,agg:=false,cells:=1,bytes:=8,zero:=some [.con (.pointer none)] }
theorem zPt:Facts CC Tryz.prog 62 td62:=by constructor<;>first|kernel_rfl|(intro N;kernel_rfl)|(intro i h;cases h<;>exact ⟨rfl,rfl⟩)|(intro n i h;cases h)
def td63:TD UU:={ has:=true,agg:=false,cells:=1,bytes:=8,zero:=some [.con (.map none)] }
theorem zOm:Facts CC Tryz.prog 63 td63:=by constructor<;>first|kernel_rfl|(intro N;kernel_rfl)|(intro i h;cases h<;>exact ⟨rfl,rfl⟩)|(intro n i h;cases h)
def td64:TD UU:={ has:=true,agg:=false,cells:=1,bytes:=24,el:=some 63,zero:=some [.nil] }
theorem zPn:Facts CC Tryz.prog 64 td64:=by constructor<;>first|kernel_rfl|(intro N;kernel_rfl)|(intro i h;cases h<;>exact ⟨rfl,rfl⟩)|(intro n i h;cases h)
def td66:TD UU:={ has:=true,agg:=true,cells:=4,bytes:=64,flds:=[(0,24),(1,3),(2,64),(3,63)],isStruct:=true,zero:=some [.nil,.int .i64 0,.nil,.con (.map none)] }
theorem zQJ:Facts CC Tryz.prog 66 td66:=by constructor<;>first|kernel_rfl|(intro N;kernel_rfl)|(intro i h;cases h<;>exact ⟨rfl,rfl⟩)|(intro n i h;cases h)
def td68:TD UU:={ has:=true,agg:=true,cells:=1,bytes:=24,flds:=[(0,27)],isStruct:=true,zero:=some [.nil] }
theorem zQM:Facts CC Tryz.prog 68 td68:=by constructor<;>first|kernel_rfl|(intro N;kernel_rfl)|(intro i h;cases h<;>exact ⟨rfl,rfl⟩)|(intro n i h;cases h)
def td76:TD UU:={ has:=true,agg:=false,cells:=1,bytes:=8,zero:=some [.con (.pointer none)] }
theorem zPr:Facts CC Tryz.prog 76 td76:=by constructor<;>first|kernel_rfl|(intro N;kernel_rfl)|(intro i h;cases h<;>exact ⟨rfl,rfl⟩)|(intro n i h;cases h)
def td77:TD UU:={ has:=true,agg:=false,cells:=1,bytes:=8,zero:=some [.con (.pointer none)] }
theorem zPA:Facts CC Tryz.prog 77 td77:=by constructor<;>first|kernel_rfl|(intro N;kernel_rfl)|(intro i h;cases h<;>exact ⟨rfl,rfl⟩)|(intro n i h;cases h)
def td79:TD UU:={ has:=true,agg:=true,cells:=6,bytes:=80,flds:=[(0,24),(1,44),(2,77),(3,63),(4,63),(5,77)],isStruct:=true,zero:=some [.nil,.nil,.con (.pointer none),.con (.map none),.con (.map none),.con (.pointer none)] }
theorem zO7:Facts CC Tryz.prog 79 td79:=by constructor<;>first|kernel_rfl|(intro N;kernel_rfl)|(intro i h;cases h<;>exact ⟨rfl,rfl⟩)|(intro n i h;cases h)
def td88:TD UU:={ has:=true,agg:=false,cells:=1,bytes:=8,zero:=some [.con (.pointer none)] }
theorem zO2:Facts CC Tryz.prog 88 td88:=by constructor<;>first|kernel_rfl|(intro N;kernel_rfl)|(intro i h;cases h<;>exact ⟨rfl,rfl⟩)|(intro n i h;cases h)
def td99:TD UU:={ has:=true,agg:=false,cells:=1,bytes:=24,el:=some 108,zero:=some [.nil] }
theorem zPN:Facts CC Tryz.prog 99 td99:=by constructor<;>first|kernel_rfl|(intro N;kernel_rfl)|(intro i h;cases h<;>exact ⟨rfl,rfl⟩)|(intro n i h;cases h)
def td101:TD UU:={ has:=true,agg:=false,cells:=1,bytes:=8,zero:=some [.con (.pointer none)] }
theorem zNd:Facts CC Tryz.prog 101 td101:=by constructor<;>first|kernel_rfl|(intro N;kernel_rfl)|(intro i h;cases h<;>exact ⟨rfl,rfl⟩)|(intro n i h;cases h)
def td104:TD UU:={ has:=true,agg:=true,cells:=2,bytes:=24,flds:=[(0,9),(1,3)],isStruct:=true,zero:=some [.str [],.int .i64 0] }
theorem zOO:Facts CC Tryz.prog 104 td104:=by constructor<;>first|kernel_rfl|(intro N;kernel_rfl)|(intro i h;cases h<;>exact ⟨rfl,rfl⟩)|(intro n i h;cases h)
def td108:TD UU:={ has:=true,agg:=true,cells:=2,bytes:=16,code:=some TI.char,flds:=[(0,5),(1,3)],isStruct:=true,zero:=some [.int .u8 0,.int .i64 0] }
theorem zN1:Facts CC Tryz.prog 108 td108:=by constructor<;>first|kernel_rfl|(intro N;kernel_rfl)|(intro i h;cases h<;>exact ⟨rfl,rfl⟩)|(intro n i h;cases h)
def td109:TD UU:={ has:=true,agg:=false,cells:=1,bytes:=8,ik:=some .u64,zero:=some [.int .u64 0] }
theorem zNU:Facts CC Tryz.prog 109 td109:=by constructor<;>first|kernel_rfl|(intro N;kernel_rfl)|(intro i h;cases h<;>exact ⟨rfl,rfl⟩)|(intro n i h;cases h)
def td114:TD UU:={ has:=true,agg:=true,cells:=2,bytes:=16,flds:=[(0,63),(1,63)],isStruct:=true,zero:=some [.con (.map none),.con (.map none)] }
theorem zNb:Facts CC Tryz.prog 114 td114:=by constructor<;>first|kernel_rfl|(intro N;kernel_rfl)|(intro i h;cases h<;>exact ⟨rfl,rfl⟩)|(intro n i h;cases h)
def td116:TD UU:={ has:=true,agg:=true,cells:=3,bytes:=24,flds:=[(0,114),(2,77)],isStruct:=true,zero:=some [.con (.map none),.con (.map none),.con (.pointer none)] }
theorem zNu:Facts CC Tryz.prog 116 td116:=by constructor<;>first|kernel_rfl|(intro N;kernel_rfl)|(intro i h;cases h<;>exact ⟨rfl,rfl⟩)|(intro n i h;cases h)
def td118:TD UU:={ has:=true,agg:=true,cells:=8,bytes:=128,zero:=some [.str [],.str [],.str [],.str [],.str [],.str [],.str [],.str []],arr:=some (8,TI.str) }
set_option maxRecDepth 100000 in
theorem zOV:Facts CC Tryz.prog 118 td118:=⟨by kernel_rfl,by kernel_rfl,by kernel_rfl,by kernel_rfl,by kernel_rfl,by kernel_rfl,by kernel_rfl,by kernel_rfl,by kernel_rfl,by kernel_rfl,by kernel_rfl,fun N=>by kernel_rfl,fun i h=>(by first | (injection h with h; subst h; exact ⟨rfl,rfl⟩) | cases h),fun n i h=>(by injection h with h; injection h with h _; subst h; kernel_rfl)⟩
def td119:TD UU:={ has:=true,agg:=true,cells:=9,bytes:=144,zero:=some [.str [],.str [],.str [],.str [],.str [],.str [],.str [],.str [],.str []],arr:=some (9,TI.str) }
set_option maxRecDepth 100000 in
theorem zOd:Facts CC Tryz.prog 119 td119:=⟨by kernel_rfl,by kernel_rfl,by kernel_rfl,by kernel_rfl,by kernel_rfl,by kernel_rfl,by kernel_rfl,by kernel_rfl,by kernel_rfl,by kernel_rfl,by kernel_rfl,fun N=>by kernel_rfl,fun i h=>(by first | (injection h with h; subst h; exact ⟨rfl,rfl⟩) | cases h),fun n i h=>(by injection h with h; injection h with h _; subst h; kernel_rfl)⟩
def td125:TD UU:={ has:=true,agg:=false,cells:=1,bytes:=24,el:=some 5,zero:=some [.nil] }
theorem zNy:Facts CC Tryz.prog 125 td125:=by constructor<;>first|kernel_rfl|(intro N;kernel_rfl)|(intro i h;cases h<;>exact ⟨rfl,rfl⟩)|(intro n i h;cases h)
def td146:TD UU:={ has:=true,agg:=true,cells:=48,bytes:=768,zero:=some [.str [],.str [],.str [],.str [],.str [],.str [],.str [],.str [],.str [],.str [],.str [],.str [],.str [],.str [],.str [],.str [],.str [],.str [],.str [],.str [],.str [],.str [],.str [],.str [],.str [],.str [],.str [],.str [],.str [],.str [],.str [],.str [],.str [],.str [],.str [],.str [],.str [],.str [],.str [],.str [],.str [],.str [],.str [],.str [],.str [],.str [],.str [],.str []],arr:=some (48,TI.str) }
set_option maxRecDepth 100000 in
theorem zOb:Facts CC Tryz.prog 146 td146:=⟨by kernel_rfl,by kernel_rfl,by kernel_rfl,by kernel_rfl,by kernel_rfl,by kernel_rfl,by kernel_rfl,by kernel_rfl,by kernel_rfl,by kernel_rfl,by kernel_rfl,fun N=>by kernel_rfl,fun i h=>(by first | (injection h with h; subst h; exact ⟨rfl,rfl⟩) | cases h),fun n i h=>(by injection h with h; injection h with h _; subst h; kernel_rfl)⟩
def tdL:List (Nat×TD UU):=[(3,td3),(4,td4),(5,td5),(9,td9),(20,td20),(24,td24),(26,td26),(27,td27),(29,td29),(30,td30),(44,td44),(47,td47),(49,td49),(57,td57),(58,td58),(61,td61),(62,td62),(63,td63),(64,td64),(66,td66),(68,td68),(76,td76),(77,td77),(79,td79),(88,td88),(99,td99),(101,td101),(104,td104),(108,td108),(109,td109),(114,td114),(116,td116),(118,td118),(119,td119),(125,td125),(146,td146)]
def Tb:Nat->TD UU:=zGD tdL
theorem yk:TbOk CC Tryz.prog Tb:=zIf (by
 intro p hp
 simp only [tdL,List.mem_cons,List.not_mem_nil,or_false] at hp
 rcases hp with rfl | rfl | rfl | rfl | rfl | rfl | rfl | rfl | rfl | rfl | rfl | rfl | rfl | rfl | rfl | rfl | rfl | rfl | rfl | rfl | rfl | rfl | rfl | rfl | rfl | rfl | rfl | rfl | rfl | rfl | rfl | rfl | rfl | rfl | rfl | rfl
 · exact td3_ok
 · exact td4_ok
 · exact td5_ok
 · exact td9_ok
 · exact zO5
 · exact zQH
 · exact zQW
 · exact zOr
 · exact zOn
 · exact zPd
 · exact zOs
 · exact zP6
 · exact zQi
 · exact zQS
 · exact zPR
 · exact zP2
 · exact zPt
 · exact zOm
 · exact zPn
 · exact zQJ
 · exact zQM
 · exact zPr
 · exact zPA
 · exact zO7
 · exact zO2
 · exact zPN
 · exact zNd
 · exact zOO
 · exact zN1
 · exact zNU
 · exact zNb
 · exact zNu
 · exact zOV
 · exact zOd
 · exact zNy
 · exact zOb)
end
end Go.Proofs.YtnamdpbcpnnhaaaGreatDoor
section
namespace Go.Den
def ze (l:List (Nat×List (Nat×Nat×Nat))) (n:Nat):List (Nat×Nat×Nat):=(zB l n).getD []
end Go.Den
namespace Go.Proofs.YtnamdpbcpnnhaaaGreatDoor
open Go.Al Go.Den
abbrev PSt:=Int×List MT
abbrev MM (α:Type):=List TokT->PSt->Option (Option (α×PSt))
abbrev LK:=List (SK UU)
abbrev Str:=List UInt8
abbrev NdsT:=List Nd×Unit
def ndE (x:Nd):Nd:=Nd.mk (Nd.kind x) (Nd.tok x) (Nd.kids x)
theorem yO (x:Nd):ndE x=x:=by cases x; rfl
abbrev parK:SK UU:=.box [.dl TI.tok,.int .i64,.scs,.jm]
abbrev parL:SK UU:=.box [.dl TI.tok,.int .i64,.scs,.mpo]
abbrev ptsK:SK UU:=.box [.ow true TI.node]
def syn:List PanicEntry:=[{ v:=.iface 61 (.agg #[]),recovered:=false }]
abbrev ParT:=List TokT×Int×List MT×Unit×Unit
abbrev k0:LK:=[]
abbrev kN:LK:=[.st TI.node]
abbrev kB:LK:=[.bool]
abbrev kS:LK:=[.str]
abbrev kI:LK:=[.int .i64]
abbrev kL:LK:=[.dl TI.str]
abbrev kM:LK:=[.mpo]
abbrev CQ:=CPOk CC Tryz.prog syn
abbrev JT:=Int×(Int×NdsT)
abbrev LT:=List TokT
abbrev ck {ρ:Type} (n:Nat) (x:Option ρ):Option ρ:=cond (okN 40 n) x none
abbrev bo {α ρ:Type} (x:Option (Option α)) (f:α->Option (Option ρ)):Option (Option ρ):=Option.bind x fun o=>zI o (some none) f
abbrev zA8:=List TokT×Int×List MT×Option MT×Unit
def fM {aa rs:List (SK UU)} (m:zA aa->MM (zA rs)) {R:Type} (x:ParT×Unit) (a:zA aa) (pan:Option R) (K:ParT×Unit->zA rs->Option R):Option R:=
 Option.bind (m a x.1.1 (x.1.2.1,x.1.2.2.1)) fun o=>zI o pan fun y=>K ((x.1.1,y.2.1,y.2.2,(),()),()) y.1
abbrev cM (aa rs:List (SK UU)) (m:zA aa->MM (zA rs)):CP UU:=⟨[parK],[parK],aa,rs,fun x a pan K=>fM m x a pan K⟩
def fX {aa rs:List (SK UU)} (m:zA aa->List Nd->MM (zA rs×List Nd)) {R:Type} (x:ParT×(List Nd×Unit)×Unit) (a:zA aa) (pan:Option R) (K:ParT×(List Nd×Unit)×Unit->zA rs->Option R):Option R:=
 Option.bind (m a x.2.1.1 x.1.1 (x.1.2.1,x.1.2.2.1)) fun o=>zI o pan fun y=>K ((x.1.1,y.2.1,y.2.2,(),()),(y.1.2,()),()) y.1.1
abbrev cX (aa rs:List (SK UU)) (m:zA aa->List Nd->MM (zA rs×List Nd)):CP UU:=⟨[parK,ptsK],[parK,ptsK],aa,rs,fun x a pan K=>fX m x a pan K⟩
def fL {aa rs:List (SK UU)} (m:zA aa->MM (zA rs×Option MT)) {R:Type} (x:ParT×Unit) (a:zA aa) (pan:Option R) (K:zA8×Unit->zA rs->Option R):Option R:=
 Option.bind (m a x.1.1 (x.1.2.1,x.1.2.2.1)) fun o=>zI o pan fun y=>K ((x.1.1,y.2.1,y.2.2,y.1.2,()),()) y.1.1
abbrev cL (aa rs:List (SK UU)) (m:zA aa->MM (zA rs×Option MT)):CP UU:=⟨[parK],[parL],aa,rs,fun x a pan K=>fL m x a pan K⟩
def fLj {aa rs:List (SK UU)} (m:zA aa->MM (zA rs×Option MT)) {R:Type} (x:ParT×Unit) (a:zA aa) (pan:Option R) (K:ParT×Unit->zA rs->Option R):Option R:=
 Option.bind (m a x.1.1 (x.1.2.1,x.1.2.2.1)) fun o=>zI o pan fun y=>K ((x.1.1,y.2.1,y.2.2,(),()),()) y.1.1
abbrev cLj (aa rs:List (SK UU)) (m:zA aa->MM (zA rs×Option MT)):CP UU:=⟨[parK],[parK],aa,rs,fun x a pan K=>fLj m x a pan K⟩
abbrev parJ:SK UU:=.box [.dl TI.tok,.int .i64,.scs,.mpj]
abbrev xZ:=List TokT×Int×List MT×Option (Option MT)×Unit
def fJ {aa rs:List (SK UU)} (m:zA aa->MM (zA rs)) {R:Type} (x:xZ×Unit) (a:zA aa) (pan:Option R) (K:xZ×Unit->zA rs->Option R):Option R:=
 Option.bind (m a x.1.1 (x.1.2.1,x.1.2.2.1)) fun o=>zI o pan fun y=>K ((x.1.1,y.2.1,y.2.2,x.1.2.2.2.1,()),()) y.1
abbrev cJ (aa rs:List (SK UU)) (m:zA aa->MM (zA rs)):CP UU:=⟨[parJ],[parJ],aa,rs,fun x a pan K=>fJ m x a pan K⟩
def fN {aa rs:List (SK UU)} (m:zA aa->MM (zA rs×Option (Option MT))) {R:Type} (x:ParT×Unit) (a:zA aa) (pan:Option R) (K:xZ×Unit->zA rs->Option R):Option R:=
 Option.bind (m a x.1.1 (x.1.2.1,x.1.2.2.1)) fun o=>zI o pan fun y=>K ((x.1.1,y.2.1,y.2.2,y.1.2,()),()) y.1.1
abbrev cN (aa rs:List (SK UU)) (m:zA aa->MM (zA rs×Option (Option MT))):CP UU:=⟨[parK],[parJ],aa,rs,fun x a pan K=>fN m x a pan K⟩
def fNj {aa rs:List (SK UU)} (m:zA aa->MM (zA rs×Option (Option MT))) {R:Type} (x:ParT×Unit) (a:zA aa) (pan:Option R) (K:ParT×Unit->zA rs->Option R):Option R:=
 Option.bind (m a x.1.1 (x.1.2.1,x.1.2.2.1)) fun o=>zI o pan fun y=>K ((x.1.1,y.2.1,y.2.2,(),()),()) y.1.1
abbrev cNj (aa rs:List (SK UU)) (m:zA aa->MM (zA rs×Option (Option MT))):CP UU:=⟨[parK],[parK],aa,rs,fun x a pan K=>fNj m x a pan K⟩
abbrev zAB:CP UU:=⟨[],[],[.bool],[],fun x a pan K=>cond (show Bool×Unit from a).1 (K () ()) pan⟩
abbrev kh:CR UU:=⟨[ptsK,.int .i64],[.st TI.node],fun x K=>K (Nd.mk (show (List Nd×Unit)×Int×Unit from x).2.1 0 (show (List Nd×Unit)×Int×Unit from x).1.1,())⟩
abbrev rdK:SK UU:=.box [.str,.int .i64]
abbrev RdT:=Str×Int×Unit
abbrev DD (α:Type):=Str->Int->Option (α×Int)
def fD {aa rs:List (SK UU)} (m:zA aa->DD (zA rs)) {R:Type} (x:RdT×Unit) (a:zA aa) (K:RdT×Unit->zA rs->Option R):Option R:=
 Option.bind (m a x.1.1 x.1.2.1) fun y=>K ((x.1.1,y.2,()),()) y.1
abbrev cD (aa rs:List (SK UU)) (m:zA aa->DD (zA rs)):CP UU:=⟨[rdK],[rdK],aa,rs,fun x a _ K=>fD m x a K⟩
def fRD {aa rs:List (SK UU)} (m:zA aa->Str->Int->Option (zA rs)) {R:Type} (x:RdT×zA aa) (K:zA rs->Option R):Option R:=
 Option.bind (m x.2 x.1.1 x.1.2.1) fun y=>K y
abbrev cRD (aa rs:List (SK UU)) (m:zA aa->Str->Int->Option (zA rs)):CR UU:=⟨rdK::aa,rs,fun x K=>fRD m x K⟩
end Go.Proofs.YtnamdpbcpnnhaaaGreatDoor
end
namespace Go.Proofs.YtnamdpbcpnnhaaaGreatDoor
section
open Go.Al Go.Den
abbrev as15:List (AK UU):=[.str]
abbrev rs15:List (AK UU):=[.bool]
abbrev as33:List (AK UU):=[.dl TI.str,.str]
abbrev rs33:List (AK UU):=[.bool]
def kf40:Nat->List Nat
 | 0=>[0,2]
 | 1=>[2]
 | _=>[]
def hd40:List (Nat×Head UU):=[]
def jn40:List (Nat×Head UU):=[]
noncomputable def fd40:FD UU:=⟨⟨fun d=>hasN [] d,fun d=>hasN [] d,kf40,zB hd40,zB jn40,ze []⟩,zU Tryz.f40,5,[.cell 2 29]⟩
def kf54:Nat->List Nat
 | 0=>[0,1]
 | 1=>[0,1,5]
 | 2=>[0,4]
 | _=>[]
def hd54:List (Nat×Head UU):=[]
def jn54:List (Nat×Head UU):=[]
noncomputable def fd54:FD UU:=⟨⟨fun d=>hasN [] d,fun d=>hasN [] d,kf54,zB hd54,zB jn54,ze []⟩,zU Tryz.f54,15,[.tmp 4]⟩
def kf72:Nat->List Nat
 | 0=>[0,1]
 | 1=>[0,1,17]
 | 2=>[0,4]
 | 3=>[0,5]
 | 4=>[0,5,37]
 | 5=>[0,4]
 | 6=>[0,4]
 | _=>[]
def hd72:List (Nat×Head UU):=[]
def jn72:List (Nat×Head UU):=[]
noncomputable def fd72:FD UU:=⟨⟨fun d=>hasN [] d,fun d=>hasN [] d,kf72,zB hd72,zB jn72,ze []⟩,zU Tryz.f72,40,[.tmp 4]⟩
def kf73:Nat->List Nat
 | 0=>[0,2]
 | 1=>[0,2]
 | 2=>[0,2]
 | 3=>[0,2]
 | _=>[]
def hd73:List (Nat×Head UU):=[]
def jn73:List (Nat×Head UU):=[]
noncomputable def fd73:FD UU:=⟨⟨fun d=>hasN [] d,fun d=>hasN [] d,kf73,zB hd73,zB jn73,ze []⟩,zU Tryz.f73,27,[.cell 2 29]⟩
def kf78:Nat->List Nat
 | 0=>[0,1,4]
 | 1=>[0,4]
 | 2=>[0,4]
 | _=>[]
def hd78:List (Nat×Head UU):=[]
def jn78:List (Nat×Head UU):=[]
noncomputable def fd78:FD UU:=⟨⟨fun d=>hasN [] d,fun d=>hasN [] d,kf78,zB hd78,zB jn78,ze []⟩,zU Tryz.f78,12,[.cell 4 29]⟩
def kf80:Nat->List Nat
 | 0=>[0,2]
 | 1=>[0,2]
 | 2=>[0,2]
 | _=>[]
def hd80:List (Nat×Head UU):=[]
def jn80:List (Nat×Head UU):=[]
noncomputable def fd80:FD UU:=⟨⟨fun d=>hasN [] d,fun d=>hasN [] d,kf80,zB hd80,zB jn80,ze []⟩,zU Tryz.f80,8,[.cell 2 29]⟩
def kf84:Nat->List Nat
 | 0=>[0,1]
 | 1=>[0,1,5]
 | 2=>[0,4]
 | _=>[]
def hd84:List (Nat×Head UU):=[]
def jn84:List (Nat×Head UU):=[]
noncomputable def fd84:FD UU:=⟨⟨fun d=>hasN [] d,fun d=>hasN [] d,kf84,zB hd84,zB jn84,ze []⟩,zU Tryz.f84,34,[.tmp 4]⟩
def kf85:Nat->List Nat
 | 0=>[0,1]
 | 1=>[0,4]
 | _=>[]
def hd85:List (Nat×Head UU):=[]
def jn85:List (Nat×Head UU):=[]
noncomputable def fd85:FD UU:=⟨⟨fun d=>hasN [] d,fun d=>hasN [] d,kf85,zB hd85,zB jn85,ze []⟩,zU Tryz.f85,50,[.tmp 4]⟩
def kf112:Nat->List Nat
 | 0=>[0,1]
 | 1=>[0,4]
 | _=>[]
def hd112:List (Nat×Head UU):=[]
def jn112:List (Nat×Head UU):=[]
noncomputable def fd112:FD UU:=⟨⟨fun d=>hasN [] d,fun d=>hasN [] d,kf112,zB hd112,zB jn112,ze []⟩,zU Tryz.f112,30,[.tmp 4]⟩
noncomputable def run72 (fu:Nat) (x:zA [parJ]) (a:zA ([.int .i64]:LK)):Option (Option (zA [parJ]×zA ([.str]:LK))):=
 runP CC Tb fu 2 (zB []) (zB []) (zB []) (zB []) fd72 [parJ] [parJ] ([.int .i64]:LK) ([.str]:LK) x a
theorem fdok72:FDOk Tryz.prog (hasN []) (hasN []) 72 fd72:=⟨⟨Tryz.f72,Tryz.func72,by kernel_rfl,Tryz.ntmps72,Tryz.results72⟩,by kernel_rfl,by kernel_rfl,by kernel_rfl⟩
noncomputable def run54 (fu:Nat) (c33:List (List UInt8)×List UInt8×Unit->Option (Bool×Unit)) (c72:zA ([.int .i64]:LK)->MM (zA ([.str]:LK))) (x:zA [parJ]) (a:zA ([.dl TI.str]:LK)):Option (Option (zA [parJ]×zA ([.bool]:LK))):=
 runP CC Tb fu 2 (zB []) (zB [(33,(⟨as33,rs33,c33⟩:Con UU))]) (zB []) (zB [(72,cJ ([.int .i64]:LK) ([.str]:LK) c72)]) fd54 [parJ] [parJ] ([.dl TI.str]:LK) ([.bool]:LK) x a
theorem fdok54:FDOk Tryz.prog (hasN [33]) (hasN []) 54 fd54:=⟨⟨Tryz.f54,Tryz.func54,by kernel_rfl,Tryz.ntmps54,Tryz.results54⟩,by kernel_rfl,by kernel_rfl,by kernel_rfl⟩
noncomputable def run85 (fu:Nat) (c15:List UInt8×Unit->Option (Bool×Unit)) (x:zA [parK]) (a:zA ([.int .i64]:LK)):Option (Option (zA [parK]×zA ([.bool]:LK))):=
 runP CC Tb fu 2 (zB []) (zB [(15,(⟨as15,rs15,c15⟩:Con UU))]) (zB []) (zB []) fd85 [parK] [parK] ([.int .i64]:LK) ([.bool]:LK) x a
theorem fdok85:FDOk Tryz.prog (hasN [15]) (hasN []) 85 fd85:=⟨⟨Tryz.f85,Tryz.func85,by kernel_rfl,Tryz.ntmps85,Tryz.results85⟩,by kernel_rfl,by kernel_rfl,by kernel_rfl⟩
noncomputable def run112 (fu:Nat) (x:zA [parK]) (a:zA ([.int .i64]:LK)):Option (Option (zA [parK]×zA ([.bool]:LK))):=
 runP CC Tb fu 2 (zB []) (zB []) (zB []) (zB []) fd112 [parK] [parK] ([.int .i64]:LK) ([.bool]:LK) x a
theorem zQE:FDOk Tryz.prog (hasN []) (hasN []) 112 fd112:=⟨⟨Tryz.f112,Tryz.func112,by kernel_rfl,Tryz.ntmps112,Tryz.results112⟩,by kernel_rfl,by kernel_rfl,by kernel_rfl⟩
noncomputable def run73 (fu:Nat) (x:zA [parK]) (a:zA ([]:LK)):Option (Option (zA [parK]×zA ([.st TI.node]:LK))):=
 runP CC Tb fu 3 (zB [(40,fd40)]) (zB []) (zB []) (zB [(77,zAB)]) fd73 [parK] [parK] ([]:LK) ([.st TI.node]:LK) x a
theorem fdok73:FDOk Tryz.prog (hasN []) (hasN []) 73 fd73:=⟨⟨Tryz.f73,Tryz.func73,by kernel_rfl,Tryz.ntmps73,Tryz.results73⟩,by kernel_rfl,by kernel_rfl,by kernel_rfl⟩
theorem zL2:FDOk Tryz.prog (hasN []) (hasN []) 40 fd40:=⟨⟨Tryz.f40,Tryz.func40,by kernel_rfl,Tryz.ntmps40,Tryz.results40⟩,by kernel_rfl,by kernel_rfl,by kernel_rfl⟩
noncomputable def run78 (fu:Nat) (c54:zA ([.dl TI.str]:LK)->MM (zA ([.bool]:LK))) (c73:zA ([]:LK)->MM (zA ([.st TI.node]:LK))) (x:zA [parK]) (a:zA ([.str]:LK)):Option (Option (zA [parK]×zA ([.st TI.node]:LK))):=
 runP CC Tb fu 2 (zB []) (zB []) (zB []) (zB [(54,cJ ([.dl TI.str]:LK) ([.bool]:LK) c54),(73,cM ([]:LK) ([.st TI.node]:LK) c73),(77,zAB)]) fd78 [parK] [parK] ([.str]:LK) ([.st TI.node]:LK) x a
theorem fdok78:FDOk Tryz.prog (hasN []) (hasN []) 78 fd78:=⟨⟨Tryz.f78,Tryz.func78,by kernel_rfl,Tryz.ntmps78,Tryz.results78⟩,by kernel_rfl,by kernel_rfl,by kernel_rfl⟩
noncomputable def run80 (fu:Nat) (c73:zA ([]:LK)->MM (zA ([.st TI.node]:LK))) (c85:zA ([.int .i64]:LK)->MM (zA ([.bool]:LK))) (x:zA [parK]) (a:zA ([]:LK)):Option (Option (zA [parK]×zA ([.st TI.node]:LK))):=
 runP CC Tb fu 2 (zB []) (zB []) (zB []) (zB [(73,cM ([]:LK) ([.st TI.node]:LK) c73),(77,zAB),(85,cM ([.int .i64]:LK) ([.bool]:LK) c85)]) fd80 [parK] [parK] ([]:LK) ([.st TI.node]:LK) x a
theorem fdok80:FDOk Tryz.prog (hasN []) (hasN []) 80 fd80:=⟨⟨Tryz.f80,Tryz.func80,by kernel_rfl,Tryz.ntmps80,Tryz.results80⟩,by kernel_rfl,by kernel_rfl,by kernel_rfl⟩
noncomputable def run84 (fu:Nat) (c33:List (List UInt8)×List UInt8×Unit->Option (Bool×Unit)) (c72:zA ([.int .i64]:LK)->MM (zA ([.str]:LK))) (c76:zA ([.int .i64]:LK)->MM (zA ([.bool]:LK))) (x:zA [parK]) (a:zA ([.int .i64]:LK)):Option (Option (zA [parK]×zA ([.bool]:LK))):=
 runP CC Tb fu 2 (zB []) (zB [(33,(⟨as33,rs33,c33⟩:Con UU))]) (zB []) (zB [(72,cJ ([.int .i64]:LK) ([.str]:LK) c72),(76,cM ([.int .i64]:LK) ([.bool]:LK) c76)]) fd84 [parK] [parK] ([.int .i64]:LK) ([.bool]:LK) x a
theorem fdok84:FDOk Tryz.prog (hasN [33]) (hasN []) 84 fd84:=⟨⟨Tryz.f84,Tryz.func84,by kernel_rfl,Tryz.ntmps84,Tryz.results84⟩,by kernel_rfl,by kernel_rfl,by kernel_rfl⟩
end
section
open Go.Al Go.Den
instance:DecidableEq TokT:=fun a b=>
 if h:a.kind=b.kind/\a.text=b.text/\a.file=b.file/\a.ffrom=b.ffrom/\a.fto=b.fto/\a.blank=b.blank then
  isTrue (by obtain ⟨_,_,_,_,_,_⟩:=a; obtain ⟨_,_,_,_,_,_⟩:=b; simp only at h; obtain ⟨rfl,rfl,rfl,rfl,rfl,rfl⟩:=h; rfl)
 else isFalse fun e=>h (by subst e; exact ⟨rfl,rfl,rfl,rfl,rfl,rfl⟩)
theorem zB4 {P:Program} {f:Nat} {io oo aa rs:List (SK UU)} {sh:zA io->zA aa->Option (Option (zA oo×zA rs))} (h:CPOk CC P syn f ⟨io,oo,aa,rs,fnP sh⟩) (x:zA io) (a:zA aa) (oc:Option (zA oo×zA rs)) (hx:sh x a=some oc) :
 ∀ s vx va r1 r2,VKs CC s io x vx r1->VKs CC s aa a va r2->(r1++r2).Nodup->FnC P f (vx++va) (subS s (r1++r2)) (jX CC syn oo rs vx oc):=by
 cases oc with
 | none=>
  obtain ⟨oc,h1,h2⟩:=h x a (R:=Unit) (some ()) (fun _ _=>none) () (by simp only [fnP,hx]; rfl)
  cases oc with
  | none=>exact h2
  | some y=>cases h1
 | some y=>
  obtain ⟨oc,h1,h2⟩:=h x a (R:=zA oo×zA rs) none (fun u v=>some (u,v)) y (by simp only [fnP,hx]; rfl)
  cases oc with
  | none=>cases h1
  | some y'=>
   injection h1 with h1
   have:y' = y:=h1
   subst this
   exact h2
def outM {β:Type} (l:List TokT):Option (Option ((ParT×Unit)×β))->Option (Option (β×PSt))
 | none=>none
 | some none=>some none
 | some (some y)=>if y.1.1.1=l then some (some (y.2,y.1.1.2.1,y.1.1.2.2.1)) else none
def outX {β:Type} (l:List TokT):Option (Option ((ParT×NdsT×Unit)×β))->Option (Option ((β×List Nd)×PSt))
 | none=>none
 | some none=>some none
 | some (some y)=>if y.1.1.1=l then some (some ((y.2,y.1.2.1.1),y.1.1.2.1,y.1.1.2.2.1)) else none
def outL {β:Type} (l:List TokT):Option (Option ((zA8×Unit)×β))->Option (Option ((β×Option MT)×PSt))
 | none=>none
 | some none=>some none
 | some (some y)=>if y.1.1.1=l then some (some ((y.2,y.1.1.2.2.2.1),y.1.1.2.1,y.1.1.2.2.1)) else none
noncomputable def mM {aa rs:LK} (sh:ParT×Unit->zA aa->Option (Option ((ParT×Unit)×zA rs))):zA aa->MM (zA rs):=fun a l s=>outM l (sh ((l,s.1,s.2,(),()),()) a)
noncomputable def mX {aa rs:LK} (sh:ParT×NdsT×Unit->zA aa->Option (Option ((ParT×NdsT×Unit)×zA rs))):zA aa->List Nd->MM (zA rs×List Nd):=fun a pts l s=>outX l (sh ((l,s.1,s.2,(),()),(pts,()),()) a)
noncomputable def mL {aa rs:LK} (sh:ParT×Unit->zA aa->Option (Option ((zA8×Unit)×zA rs))):zA aa->MM (zA rs×Option MT):=fun a l s=>outL l (sh ((l,s.1,s.2,(),()),()) a)
theorem zDy {P:Program} {f:Nat} {aa rs:List (SK UU)} {m:zA aa->MM (zA rs)} (h:∀ l i xs a o,m a l (i,xs)=some o->∀ (st:S) vx va r1 r2,VKs CC st [parK] ((l,i,xs,(),()),()) vx r1->VKs CC st aa a va r2->(r1++r2).Nodup ->
 FnC P f (vx++va) (subS st (r1++r2)) (jX CC syn [parK] rs vx (o.map fun y=>(((l,y.2.1,y.2.2,(),()),()),y.1)))):CPOk CC P syn f (cM aa rs m):=by
 intro x a R pan K r hr
 obtain ⟨⟨l,i,xs,u,u'⟩,u''⟩:=x
 replace hr:fM m ((l,i,xs,u,u'),u'') a pan K=some r:=hr
 simp only [fM] at hr
 cases hm:m a l (i,xs) with
 | none=>rw [hm] at hr; cases hr
 | some o=>
  rw [hm] at hr
  refine ⟨_,?_,fun s vx va r1 r2 h1 h2 h3=>h l i xs a o hm s vx va r1 r2 h1 h2 h3⟩
  cases o <;> exact hr
theorem xB {P:Program} {f:Nat} {aa rs:LK} {sh:zA ([parK]:LK)->zA aa->Option (Option (zA ([parK]:LK)×zA rs))} (h:CPOk CC P syn f ⟨[parK],[parK],aa,rs,fnP sh⟩):CPOk CC P syn f (cM aa rs (mM sh)):=by
 refine zDy fun l i xs a o ho st vx va r1 r2 h1 h2 hn=>?_
 have key:∀ oo:Option (Option ((ParT×Unit)×zA rs)),sh ((l,i,xs,(),()),()) a=oo->outM l oo=some o->FnC P f (vx++va) (subS st (r1++r2)) (jX CC syn [parK] rs vx (o.map fun y=>(((l,y.2.1,y.2.2,(),()),()),y.1))):=by
  intro oo hs ho
  cases oo with
  | none=>cases ho
  | some oc=>
   have hh:=zB4 h ((l,i,xs,(),()),()) a oc hs st vx va r1 r2 h1 h2 hn
   cases oc with
   | none=>injection ho with ho; subst ho; exact hh
   | some y=>
    obtain ⟨⟨⟨l',i',xs',u,u'⟩,u''⟩,z⟩:=y
    unfold outM at ho
    simp only at ho
    split at ho
    · rename_i hy
      injection ho with ho
      subst ho
      subst hy
      exact hh
    · cases ho
 exact key _ rfl ho
theorem zHs {P:Program} {f:Nat} {aa rs:LK} {sh:zA ([parK,ptsK]:LK)->zA aa->Option (Option (zA ([parK,ptsK]:LK)×zA rs))} (h:CPOk CC P syn f ⟨[parK,ptsK],[parK,ptsK],aa,rs,fnP sh⟩):CPOk CC P syn f (cX aa rs (mX sh)):=by
 intro x a R pan K r hr
 obtain ⟨⟨l,i,xs,u,u'⟩,⟨pts,v⟩,v'⟩:=x
 have key:∀ oo:Option (Option ((ParT×NdsT×Unit)×zA rs)),sh ((l,i,xs,(),()),(pts,()),()) a=oo->(Option.bind (outX l oo) fun o=>zI o pan fun y=>K ((l,y.2.1,y.2.2,(),()),(y.1.2,()),()) y.1.1)=some r ->
  ∃ oc:Option (zA ([parK,ptsK]:LK)×zA rs),(match oc with | none=>pan=some r | some y=>K y.1 y.2=some r)/\∀ s vx va r1 r2,VKs CC s [parK,ptsK] ((l,i,xs,u,u'),(pts,v),v') vx r1->VKs CC s aa a va r2->(r1++r2).Nodup->FnC P f (vx++va) (subS s (r1++r2)) (jX CC syn [parK,ptsK] rs vx oc):=by
  intro oo hs hr
  cases oo with
  | none=>cases hr
  | some oc=>
   have hh:=zB4 h ((l,i,xs,(),()),(pts,()),()) a oc hs
   cases oc with
   | none=>exact ⟨none,hr,hh⟩
   | some y=>
    obtain ⟨⟨⟨l',i',xs',w,w'⟩,⟨pts',v1⟩,v2⟩,z⟩:=y
    unfold outX at hr
    simp only at hr
    split at hr
    · rename_i hy
      subst hy
      exact ⟨some (((l',i',xs',(),()),(pts',()),()),z),hr,hh⟩
    · cases hr
 obtain ⟨oc,h1,h2⟩:=key _ rfl hr
 exact ⟨oc,by cases oc <;> exact h1,h2⟩
theorem cL_of {P:Program} {f:Nat} {aa rs:LK} {sh:zA ([parK]:LK)->zA aa->Option (Option (zA ([parL]:LK)×zA rs))} (h:CPOk CC P syn f ⟨[parK],[parL],aa,rs,fnP sh⟩):CPOk CC P syn f (cL aa rs (mL sh)):=by
 intro x a R pan K r hr
 obtain ⟨⟨l,i,xs,u,u'⟩,u''⟩:=x
 have key:∀ oo:Option (Option ((zA8×Unit)×zA rs)),sh ((l,i,xs,(),()),()) a=oo->(Option.bind (outL l oo) fun o=>zI o pan fun y=>K ((l,y.2.1,y.2.2,y.1.2,()),()) y.1.1)=some r ->
  ∃ oc:Option (zA ([parL]:LK)×zA rs),(match oc with | none=>pan=some r | some y=>K y.1 y.2=some r)/\∀ s vx va r1 r2,VKs CC s [parK] ((l,i,xs,u,u'),u'') vx r1->VKs CC s aa a va r2->(r1++r2).Nodup->FnC P f (vx++va) (subS s (r1++r2)) (jX CC syn [parL] rs vx oc):=by
  intro oo hs hr
  cases oo with
  | none=>cases hr
  | some oc=>
   have hh:=zB4 h ((l,i,xs,(),()),()) a oc hs
   cases oc with
   | none=>exact ⟨none,hr,hh⟩
   | some y=>
    obtain ⟨⟨⟨l',i',xs',m,w'⟩,v2⟩,z⟩:=y
    unfold outL at hr
    simp only at hr
    split at hr
    · rename_i hy
      subst hy
      exact ⟨some (((l',i',xs',m,()),()),z),hr,hh⟩
    · cases hr
 obtain ⟨oc,h1,h2⟩:=key _ rfl hr
 exact ⟨oc,by cases oc <;> exact h1,h2⟩
theorem cLj_of {P:Program} {f:Nat} {aa rs:LK} {m:zA aa->MM (zA rs×Option MT)} (h:CPOk CC P syn f (cL aa rs m)):CPOk CC P syn f (cLj aa rs m):=by
 intro x a R pan K r hr
 obtain ⟨oc,h1,h2⟩:=h x a (R:=R) pan (fun y z=>K ((y.1.1,y.1.2.1,y.1.2.2.1,(),()),()) z) r hr
 cases oc with
 | none=>exact ⟨none,h1,h2⟩
 | some y=>
  obtain ⟨⟨⟨l',i',xs',mm,w'⟩,v2⟩,z⟩:=y
  refine ⟨some (((l',i',xs',(),()),()),z),h1,fun s vx va r1 r2 k1 k2 k3=>?_⟩
  have hh:=h2 s vx va r1 r2 k1 k2 k3
  intro B g w vs hi hgl hv
  refine (hh B g w vs hi hgl hv).mono ?_
  rintro e w' ⟨g',s1,q1,q2,q3⟩
  cases e with
  | outgrown=>exact q3.elim
  | panicked c=>exact ⟨g',s1,q1,q2,q3⟩
  | returned v=>
   obtain ⟨ru,q4,q5⟩:=q3
   refine ⟨g',s1,q1,q2,ru,q4,?_⟩
   obtain ⟨ws,p1,p2,p3,p4,p5,p6⟩:=q5
   simp only [VKs,VK] at p3
   obtain ⟨v0,vs0,t1,t2,rfl,rfl,⟨b0,cs,t3,rfl,e1,e2,rfl⟩,rfl,rfl⟩:=p3
   obtain ⟨v1,w1,a1,a2,rfl,rfl,⟨rfl,rfl⟩,v2,w2,a3,a4,rfl,rfl,⟨rfl,rfl⟩,v3,w3,a5,a6,rfl,rfl,⟨b,cap,fp,rfl,e3,rfl⟩,v4,w4,a7,a8,rfl,rfl,e4,rfl,rfl⟩:=e2
   have hv4:∃ m,v4 = .at (.map m):=by
    cases mm with
    | none=>exact ⟨none,e4.1⟩
    | some c=>obtain ⟨bm,_,rfl,_⟩:=e4; exact ⟨some bm,rfl⟩
   refine ⟨ws,[.inr b0,.ob b],p2,?_,p4,?_,p6⟩
   · simp only [VKs,VK]
     exact ⟨_,[],_,[],rfl,rfl,⟨b0,_,[.ob b],rfl,e1,⟨_,_,[],[.ob b],rfl,rfl,⟨rfl,rfl⟩,_,_,[],[.ob b],rfl,rfl,⟨rfl,rfl⟩,_,_,[.ob b],[],rfl,rfl,⟨b,cap,fp,rfl,e3,rfl⟩,_,_,[],[],rfl,rfl,⟨hv4,rfl⟩,rfl,rfl⟩,rfl⟩,rfl,rfl⟩
   · simp only [List.nil_append,List.append_nil,List.cons_append] at p5 ⊢
     refine p5.sublist ?_
     refine List.Sublist.cons_cons _ (List.Sublist.cons_cons _ ?_)
     exact List.sublist_append_right a7 p2
def outN {β:Type} (l:List TokT):Option (Option ((xZ×Unit)×β))->Option (Option ((β×Option (Option MT))×PSt))
 | none=>none
 | some none=>some none
 | some (some y)=>if y.1.1.1=l then some (some ((y.2,y.1.1.2.2.2.1),y.1.1.2.1,y.1.1.2.2.1)) else none
noncomputable def mN {aa rs:LK} (sh:ParT×Unit->zA aa->Option (Option ((xZ×Unit)×zA rs))):zA aa->MM (zA rs×Option (Option MT)):=fun a l s=>outN l (sh ((l,s.1,s.2,(),()),()) a)
theorem cN_of {P:Program} {f:Nat} {aa rs:LK} {sh:zA ([parK]:LK)->zA aa->Option (Option (zA ([parJ]:LK)×zA rs))} (h:CPOk CC P syn f ⟨[parK],[parJ],aa,rs,fnP sh⟩):CPOk CC P syn f (cN aa rs (mN sh)):=by
 intro x a R pan K r hr
 obtain ⟨⟨l,i,xs,u,u'⟩,u''⟩:=x
 have key:∀ oo:Option (Option ((xZ×Unit)×zA rs)),sh ((l,i,xs,(),()),()) a=oo->(Option.bind (outN l oo) fun o=>zI o pan fun y=>K ((l,y.2.1,y.2.2,y.1.2,()),()) y.1.1)=some r ->
  ∃ oc:Option (zA ([parJ]:LK)×zA rs),(match oc with | none=>pan=some r | some y=>K y.1 y.2=some r)/\∀ s vx va r1 r2,VKs CC s [parK] ((l,i,xs,u,u'),u'') vx r1->VKs CC s aa a va r2->(r1++r2).Nodup->FnC P f (vx++va) (subS s (r1++r2)) (jX CC syn [parJ] rs vx oc):=by
  intro oo hs hr
  cases oo with
  | none=>cases hr
  | some oc=>
   have hh:=zB4 h ((l,i,xs,(),()),()) a oc hs
   cases oc with
   | none=>exact ⟨none,hr,hh⟩
   | some y=>
    obtain ⟨⟨⟨l',i',xs',m,w'⟩,v2⟩,z⟩:=y
    unfold outN at hr
    simp only at hr
    split at hr
    · rename_i hy
      subst hy
      exact ⟨some (((l',i',xs',m,()),()),z),hr,hh⟩
    · cases hr
 obtain ⟨oc,h1,h2⟩:=key _ rfl hr
 exact ⟨oc,by cases oc <;> exact h1,h2⟩
theorem cNj_of {P:Program} {f:Nat} {aa rs:LK} {m:zA aa->MM (zA rs×Option (Option MT))} (h:CPOk CC P syn f (cN aa rs m)):CPOk CC P syn f (cNj aa rs m):=by
 intro x a R pan K r hr
 obtain ⟨oc,h1,h2⟩:=h x a (R:=R) pan (fun y z=>K ((y.1.1,y.1.2.1,y.1.2.2.1,(),()),()) z) r hr
 cases oc with
 | none=>exact ⟨none,h1,h2⟩
 | some y=>
  obtain ⟨⟨⟨l',i',xs',mm,w'⟩,v2⟩,z⟩:=y
  refine ⟨some (((l',i',xs',(),()),()),z),h1,fun s vx va r1 r2 k1 k2 k3=>?_⟩
  have hh:=h2 s vx va r1 r2 k1 k2 k3
  intro B g w vs hi hgl hv
  refine (hh B g w vs hi hgl hv).mono ?_
  rintro e w' ⟨g',s1,q1,q2,q3⟩
  cases e with
  | outgrown=>exact q3.elim
  | panicked c=>exact ⟨g',s1,q1,q2,q3⟩
  | returned v=>
   obtain ⟨ru,q4,q5⟩:=q3
   refine ⟨g',s1,q1,q2,ru,q4,?_⟩
   obtain ⟨ws,p1,p2,p3,p4,p5,p6⟩:=q5
   simp only [VKs,VK] at p3
   obtain ⟨v0,vs0,t1,t2,rfl,rfl,⟨b0,cs,t3,rfl,e1,e2,rfl⟩,rfl,rfl⟩:=p3
   obtain ⟨v1,w1,a1,a2,rfl,rfl,⟨rfl,rfl⟩,v2,w2,a3,a4,rfl,rfl,⟨rfl,rfl⟩,v3,w3,a5,a6,rfl,rfl,⟨b,cap,fp,rfl,e3,rfl⟩,v4,w4,a7,a8,rfl,rfl,e4,rfl,rfl⟩:=e2
   have hv4:∃ m,v4 = .at (.map m):=by
    cases mm with
    | none=>exact e4.1
    | some mm=>
     cases mm with
     | none=>exact ⟨none,e4.1⟩
     | some c=>obtain ⟨bm,_,rfl,_⟩:=e4; exact ⟨some bm,rfl⟩
   refine ⟨ws,[.inr b0,.ob b],p2,?_,p4,?_,p6⟩
   · simp only [VKs,VK]
     exact ⟨_,[],_,[],rfl,rfl,⟨b0,_,[.ob b],rfl,e1,⟨_,_,[],[.ob b],rfl,rfl,⟨rfl,rfl⟩,_,_,[],[.ob b],rfl,rfl,⟨rfl,rfl⟩,_,_,[.ob b],[],rfl,rfl,⟨b,cap,fp,rfl,e3,rfl⟩,_,_,[],[],rfl,rfl,⟨hv4,rfl⟩,rfl,rfl⟩,rfl⟩,rfl,rfl⟩
   · simp only [List.nil_append,List.append_nil,List.cons_append] at p5 ⊢
     refine p5.sublist ?_
     refine List.Sublist.cons_cons _ (List.Sublist.cons_cons _ ?_)
     exact List.sublist_append_right a7 p2
def outJ {β:Type} (l:List TokT):Option (Option ((xZ×Unit)×β))->Option (Option (β×PSt))
 | none=>none
 | some none=>some none
 | some (some y)=>if y.1.1.1=l then some (some (y.2,y.1.1.2.1,y.1.1.2.2.1)) else none
noncomputable def mJ {aa rs:LK} (sh:xZ×Unit->zA aa->Option (Option ((xZ×Unit)×zA rs))):zA aa->MM (zA rs):=fun a l s=>outJ l (sh ((l,s.1,s.2,none,()),()) a)
def putJ {β:Type} (m:Option (Option MT)) (o:Option (Option ((xZ×Unit)×β))):Option (Option ((xZ×Unit)×β)):=o.map fun o=>o.map fun y=>(((y.1.1.1,y.1.1.2.1,y.1.1.2.2.1,m,()),()),y.2)
section
variable {β γ:Type} (m:Option (Option MT))
theorem zMt:putJ m (none:Option (Option ((xZ×Unit)×β)))=none:=rfl
theorem zOS:putJ m (some none:Option (Option ((xZ×Unit)×β)))=some none:=rfl
theorem zMz (l:List TokT) (i:Int) (xs:List MT) (m':Option (Option MT)) (u u':Unit) (z:β):putJ m (some (some (((l,i,xs,m',u),u'),z)))=some (some (((l,i,xs,m,()),()),z)):=rfl
theorem zMB (b:Bool) (x y:Option (Option ((xZ×Unit)×β))):putJ m (cond b x y)=cond b (putJ m x) (putJ m y):=by cases b <;> rfl
theorem zND (o:Option γ) (f:γ->Option (Option ((xZ×Unit)×β))):putJ m (Option.bind o f)=Option.bind o fun y=>putJ m (f y):=by cases o <;> rfl
theorem zLk (o:Option γ) (p:Option (Option ((xZ×Unit)×β))) (f:γ->Option (Option ((xZ×Unit)×β))):putJ m (zI o p f)=zI o (putJ m p) fun y=>putJ m (f y):=by cases o <;> rfl
theorem zX {R:Type} (p:R) (f:γ->R):zI none p f=p:=rfl
theorem zY {R:Type} (x:γ) (p:R) (f:γ->R):zI (some x) p f=f x:=rfl
end
theorem cJ_of {P:Program} {f:Nat} {aa rs:LK} {sh:zA ([parJ]:LK)->zA aa->Option (Option (zA ([parJ]:LK)×zA rs))} (h:CPOk CC P syn f ⟨[parJ],[parJ],aa,rs,fnP sh⟩)
 (hsh:∀ l i xs m a,sh ((l,i,xs,m,()),()) a=putJ m (sh ((l,i,xs,none,()),()) a)):CPOk CC P syn f (cJ aa rs (mJ sh)):=by
 intro x a R pan K r hr
 obtain ⟨⟨l,i,xs,m,u'⟩,u''⟩:=x
 have key:∀ oo:Option (Option ((xZ×Unit)×zA rs)),sh ((l,i,xs,none,()),()) a=oo->(Option.bind (outJ l oo) fun o=>zI o pan fun y=>K ((l,y.2.1,y.2.2,m,()),()) y.1)=some r ->
  ∃ oc:Option (zA ([parJ]:LK)×zA rs),(match oc with | none=>pan=some r | some y=>K y.1 y.2=some r)/\∀ s vx va r1 r2,VKs CC s [parJ] ((l,i,xs,m,u'),u'') vx r1->VKs CC s aa a va r2->(r1++r2).Nodup->FnC P f (vx++va) (subS s (r1++r2)) (jX CC syn [parJ] rs vx oc):=by
  intro oo hs hr
  have hm:=hsh l i xs m a
  rw [hs] at hm
  cases oo with
  | none=>cases hr
  | some oc=>
   cases oc with
   | none=>exact ⟨none,hr,zB4 h ((l,i,xs,m,()),()) a none hm⟩
   | some y=>
    obtain ⟨⟨⟨l',i',xs',m',w'⟩,v2⟩,z⟩:=y
    have hh:=zB4 h ((l,i,xs,m,()),()) a (some (((l',i',xs',m,()),()),z)) hm
    unfold outJ at hr
    simp only at hr
    split at hr
    · rename_i hy
      subst hy
      exact ⟨some (((l',i',xs',m,()),()),z),hr,hh⟩
    · cases hr
 obtain ⟨oc,h1,h2⟩:=key _ rfl hr
 exact ⟨oc,by cases oc <;> exact h1,h2⟩
def outD {β:Type} (l:Str):Option (Option ((RdT×Unit)×β))->Option (β×Int)
 | some (some y)=>if y.1.1.1=l then some (y.2,y.1.1.2.1) else none
 | _=>none
noncomputable def mD {aa rs:LK} (sh:RdT×Unit->zA aa->Option (Option ((RdT×Unit)×zA rs))):zA aa->DD (zA rs):=fun a l i=>outD l (sh ((l,i,()),()) a)
theorem zDI {P:Program} {f:Nat} {aa rs:LK} {sh:zA ([rdK]:LK)->zA aa->Option (Option (zA ([rdK]:LK)×zA rs))} (h:CPOk CC P syn f ⟨[rdK],[rdK],aa,rs,fnP sh⟩):CPOk CC P syn f (cD aa rs (mD sh)):=by
 intro x a R pan K r hr
 obtain ⟨⟨l,i,u⟩,u'⟩:=x
 have key:∀ oo:Option (Option ((RdT×Unit)×zA rs)),sh ((l,i,()),()) a=oo->(Option.bind (outD l oo) fun y=>K ((l,y.2,()),()) y.1)=some r ->
  ∃ oc:Option (zA ([rdK]:LK)×zA rs),(match oc with | none=>pan=some r | some y=>K y.1 y.2=some r)/\∀ s vx va r1 r2,VKs CC s [rdK] ((l,i,u),u') vx r1->VKs CC s aa a va r2->(r1++r2).Nodup->FnC P f (vx++va) (subS s (r1++r2)) (jX CC syn [rdK] rs vx oc):=by
  intro oo hs hr
  cases oo with
  | none=>cases hr
  | some oc=>
   have hh:=zB4 h ((l,i,()),()) a oc hs
   cases oc with
   | none=>cases hr
   | some y=>
    obtain ⟨⟨⟨l',i',w⟩,v2⟩,z⟩:=y
    unfold outD at hr
    simp only at hr
    split at hr
    · rename_i hy
      subst hy
      exact ⟨some (((l',i',()),()),z),hr,hh⟩
    · cases hr
 obtain ⟨oc,h1,h2⟩:=key _ rfl hr
 exact ⟨oc,by cases oc <;> exact h1,h2⟩
end
section
open Go.Al Go.Den
def sh72 (fu:Nat) (x:((LT×(Int×((List MT)×((Option (Option MT))×Unit))))×Unit)) (a:(Int×Unit)):(Option (Option (((LT×(Int×((List MT)×((Option (Option MT))×Unit))))×Unit)×(Str×Unit)))):=zI x.1.2.2.2.1 (cond (ile (lenI x.1.1) (iadd .i64 x.1.2.1 a.1)) (some (some (((x.1.1,(x.1.2.1,(x.1.2.2.1,(none,())))),()),([],())))) (cond (inB (iadd .i64 x.1.2.1 a.1) (List.length x.1.1)) (cond (ine (TokT.kind (List.getD x.1.1 (Int.toNat (iadd .i64 x.1.2.1 a.1)) tokD)) 1) (cond (ine (TokT.kind (List.getD x.1.1 (Int.toNat (iadd .i64 x.1.2.1 a.1)) tokD)) 5) (some (some (((x.1.1,(x.1.2.1,(x.1.2.2.1,(none,())))),()),([],())))) (some (some (((x.1.1,(x.1.2.1,(x.1.2.2.1,(none,())))),()),((TokT.text (List.getD x.1.1 (Int.toNat (iadd .i64 x.1.2.1 a.1)) tokD)),()))))) (some (some (((x.1.1,(x.1.2.1,(x.1.2.2.1,(none,())))),()),((TokT.text (List.getD x.1.1 (Int.toNat (iadd .i64 x.1.2.1 a.1)) tokD)),()))))) (none))) fun y0=>zI y0 (cond (ile (lenI x.1.1) (iadd .i64 x.1.2.1 a.1)) (some (some (((x.1.1,(x.1.2.1,(x.1.2.2.1,((some none),())))),()),([],())))) (cond (inB (iadd .i64 x.1.2.1 a.1) (List.length x.1.1)) (cond (ine (TokT.kind (List.getD x.1.1 (Int.toNat (iadd .i64 x.1.2.1 a.1)) tokD)) 1) (cond (ine (TokT.kind (List.getD x.1.1 (Int.toNat (iadd .i64 x.1.2.1 a.1)) tokD)) 5) (some (some (((x.1.1,(x.1.2.1,(x.1.2.2.1,((some none),())))),()),([],())))) (some (some (((x.1.1,(x.1.2.1,(x.1.2.2.1,((some none),())))),()),((TokT.text (List.getD x.1.1 (Int.toNat (iadd .i64 x.1.2.1 a.1)) tokD)),()))))) (some (some (((x.1.1,(x.1.2.1,(x.1.2.2.1,((some none),())))),()),((TokT.text (List.getD x.1.1 (Int.toNat (iadd .i64 x.1.2.1 a.1)) tokD)),()))))) (none))) fun y1=>cond (ile (lenI x.1.1) (iadd .i64 x.1.2.1 a.1)) (some (some (((x.1.1,(x.1.2.1,(x.1.2.2.1,((some (some y1)),())))),()),([],())))) (cond (inB (iadd .i64 x.1.2.1 a.1) (List.length x.1.1)) (cond (ine (TokT.kind (List.getD x.1.1 (Int.toNat (iadd .i64 x.1.2.1 a.1)) tokD)) 1) (cond (ine (TokT.kind (List.getD x.1.1 (Int.toNat (iadd .i64 x.1.2.1 a.1)) tokD)) 5) (some (some (((x.1.1,(x.1.2.1,(x.1.2.2.1,((some (some y1)),())))),()),([],())))) (some (some (((x.1.1,(x.1.2.1,(x.1.2.2.1,((some (some y1)),())))),()),((TokT.text (List.getD x.1.1 (Int.toNat (iadd .i64 x.1.2.1 a.1)) tokD)),()))))) (some (some (((x.1.1,(x.1.2.1,(x.1.2.2.1,((some (some y1)),())))),()),((TokT.text (List.getD x.1.1 (Int.toNat (iadd .i64 x.1.2.1 a.1)) tokD)),()))))) (none))
theorem eq72:@run72 = @sh72:=by kernel_rfl
def sh54 (fu:Nat) (c33:((List Str)×(Str×Unit))->(Option (Bool×Unit))) (c72:(Int×Unit)->MM (Str×Unit)) (x:((LT×(Int×((List MT)×((Option (Option MT))×Unit))))×Unit)) (a:((List Str)×Unit)):(Option (Option (((LT×(Int×((List MT)×((Option (Option MT))×Unit))))×Unit)×(Bool×Unit)))):=zI x.1.2.2.2.1 (bo (c72 (0,()) x.1.1 (x.1.2.1,x.1.2.2.1)) fun y1=>cond (!(seq y1.1.1 [])) (Option.bind (c33 (a.1,(y1.1.1,()))) fun y2=>some (some (((x.1.1,(y1.2.1,(y1.2.2,(none,())))),()),(y2.1,())))) (some (some (((x.1.1,(y1.2.1,(y1.2.2,(none,())))),()),(false,()))))) fun y0=>zI y0 (bo (c72 (0,()) x.1.1 (x.1.2.1,x.1.2.2.1)) fun y2=>cond (!(seq y2.1.1 [])) (Option.bind (c33 (a.1,(y2.1.1,()))) fun y3=>some (some (((x.1.1,(y2.2.1,(y2.2.2,((some none),())))),()),(y3.1,())))) (some (some (((x.1.1,(y2.2.1,(y2.2.2,((some none),())))),()),(false,()))))) fun y1=>bo (c72 (0,()) x.1.1 (x.1.2.1,x.1.2.2.1)) fun y3=>cond (!(seq y3.1.1 [])) (Option.bind (c33 (a.1,(y3.1.1,()))) fun y4=>some (some (((x.1.1,(y3.2.1,(y3.2.2,((some (some y1)),())))),()),(y4.1,())))) (some (some (((x.1.1,(y3.2.1,(y3.2.2,((some (some y1)),())))),()),(false,()))))
theorem eq54:@run54 = @sh54:=by kernel_rfl
def sh85 (fu:Nat) (c15:(Str×Unit)->(Option (Bool×Unit))) (x:(ParT×Unit)) (a:(Int×Unit)):(Option (Option ((ParT×Unit)×(Bool×Unit)))):=cond (ilt (iadd .i64 x.1.2.1 a.1) (lenI x.1.1)) (cond (inB (iadd .i64 x.1.2.1 a.1) (List.length x.1.1)) (cond (ieq (TokT.kind (List.getD x.1.1 (Int.toNat (iadd .i64 x.1.2.1 a.1)) tokD)) 1) (cond (inB (iadd .i64 x.1.2.1 a.1) (List.length x.1.1)) (Option.bind (c15 ((TokT.text (List.getD x.1.1 (Int.toNat (iadd .i64 x.1.2.1 a.1)) tokD)),())) fun y0=>some (some (((x.1.1,(x.1.2.1,(x.1.2.2.1,((),())))),()),((!y0.1),())))) (none)) (some (some (((x.1.1,(x.1.2.1,(x.1.2.2.1,((),())))),()),(false,()))))) (none)) (some (some (((x.1.1,(x.1.2.1,(x.1.2.2.1,((),())))),()),(false,()))))
theorem eq85:@run85 = @sh85:=by kernel_rfl
def sh112 (fu:Nat) (x:(ParT×Unit)) (a:(Int×Unit)):(Option (Option ((ParT×Unit)×(Bool×Unit)))):=cond (ilt x.1.2.1 (lenI x.1.1)) (cond (inB x.1.2.1 (List.length x.1.1)) (some (some (((x.1.1,(x.1.2.1,(x.1.2.2.1,((),())))),()),((ieq (TokT.kind (List.getD x.1.1 (Int.toNat x.1.2.1) tokD)) a.1),())))) (none)) (some (some (((x.1.1,(x.1.2.1,(x.1.2.2.1,((),())))),()),(false,()))))
theorem eq112:@run112 = @sh112:=by kernel_rfl
def sh73 (fu:Nat) (x:(ParT×Unit)) (a:Unit):(Option (Option ((ParT×Unit)×(Nd×Unit)))):=cond (ilt x.1.2.1 (lenI x.1.1)) (some (some (((x.1.1,((iadd .i64 x.1.2.1 1),(x.1.2.2.1,((),())))),()),((Nd.mk 0 (isub .i64 (iadd .i64 x.1.2.1 1) 1) []),())))) (some none)
theorem eq73:@run73 = @sh73:=by kernel_rfl
def sh78 (fu:Nat) (c54:((List Str)×Unit)->MM (Bool×Unit)) (c73:Unit->MM (Nd×Unit)) (x:(ParT×Unit)) (a:(Str×Unit)):(Option (Option ((ParT×Unit)×(Nd×Unit)))):=bo (c54 ([a.1],()) x.1.1 (x.1.2.1,x.1.2.2.1)) fun y1=>cond y1.1.1 (bo (c73 () x.1.1 (y1.2.1,y1.2.2)) fun y3=>some (some (((x.1.1,(y3.2.1,(y3.2.2,((),())))),()),((ndE y3.1.1),())))) (some none)
theorem eq78:@run78 = @sh78:=by kernel_rfl
def sh80 (fu:Nat) (c73:Unit->MM (Nd×Unit)) (c85:(Int×Unit)->MM (Bool×Unit)) (x:(ParT×Unit)) (a:Unit):(Option (Option ((ParT×Unit)×(Nd×Unit)))):=bo (c85 (0,()) x.1.1 (x.1.2.1,x.1.2.2.1)) fun y1=>cond y1.1.1 (bo (c73 () x.1.1 (y1.2.1,y1.2.2)) fun y3=>some (some (((x.1.1,(y3.2.1,(y3.2.2,((),())))),()),((ndE y3.1.1),())))) (some none)
theorem eq80:@run80 = @sh80:=by kernel_rfl
def sh84 (fu:Nat) (c33:((List Str)×(Str×Unit))->(Option (Bool×Unit))) (c72:(Int×Unit)->MM (Str×Unit)) (c76:(Int×Unit)->MM (Bool×Unit)) (x:(ParT×Unit)) (a:(Int×Unit)):(Option (Option ((ParT×Unit)×(Bool×Unit)))):=bo (c72 (a.1,()) x.1.1 (x.1.2.1,x.1.2.2.1)) fun y1=>bo (c76 (a.1,()) x.1.1 (y1.2.1,y1.2.2)) fun y3=>cond y3.1.1 (some (some (((x.1.1,(y3.2.1,(y3.2.2,((),())))),()),(true,())))) (Option.bind (c33 ([[99,111,110,115,116],[101,120,116,101,114,110],[105,110,108,105,110,101],[114,101,103,105,115,116,101,114],[115,116,97,116,105,99],[97,117,116,111],[116,121,112,101,100,101,102],[118,111,108,97,116,105,108,101]],(y1.1.1,()))) fun y4=>cond y4.1 (some (some (((x.1.1,(y3.2.1,(y3.2.2,((),())))),()),(true,())))) (Option.bind (c33 ([[99,104,97,114],[100,111,117,98,108,101],[102,108,111,97,116],[105,110,116],[108,111,110,103],[115,104,111,114,116],[115,105,103,110,101,100],[117,110,115,105,103,110,101,100],[118,111,105,100]],(y1.1.1,()))) fun y5=>cond y5.1 (some (some (((x.1.1,(y3.2.1,(y3.2.2,((),())))),()),(true,())))) (cond (seq y1.1.1 [101,110,117,109]) (some (some (((x.1.1,(y3.2.1,(y3.2.2,((),())))),()),(true,())))) (cond (seq y1.1.1 [115,116,114,117,99,116]) (some (some (((x.1.1,(y3.2.1,(y3.2.2,((),())))),()),(true,())))) (some (some (((x.1.1,(y3.2.1,(y3.2.2,((),())))),()),((seq y1.1.1 [117,110,105,111,110]),()))))))))
theorem eq84:@run84 = @sh84:=by kernel_rfl
theorem hj72 (fu:Nat)  (l:List TokT) (i:Int) (xs:List MT) (m:Option (Option MT)) (a:zA ([.int .i64]:LK)):sh72 fu ((l,i,xs,m,()),()) a=putJ m (sh72 fu ((l,i,xs,none,()),()) a):=by
 unfold sh72
 rcases m with _ | _ | c <;> simp only [zX,zY,zMB,zND,zLk,zMt,zOS,zMz]
theorem con72 (fu:Nat) :CQ 72 (cJ kI kS (mJ (sh72 fu))):=
 cJ_of (xl (syn:=syn) (fu:=fu) (d:=2) (inl:=zB []) (orc:=zB []) (orr:=zB []) (orp:=zB []) (pf:=hasN []) (rf:=hasN []) yk CCok mixed (fun g=>(zL (α:=Con UU) (l:=[]) g).symm) (fun g=>(zL (α:=CR UU) (l:=[]) g).symm) (zD) (zD) (zD) (zD) fdok72 (by show ([parJ]:LK).length+(kI:LK).length<=40; decide) (fun x a=>by show run72 fu x a=sh72 fu x a; rw [eq72])) (hj72 fu )
theorem hj54 (fu:Nat) (c33:zQ as33->Option (zQ rs33)) (h33:ConOk CC Tryz.prog 33 ⟨as33,rs33,c33⟩) (c72:zA ([.int .i64]:LK)->MM (zA ([.str]:LK))) (h72:CPOk CC Tryz.prog syn 72 (cJ ([.int .i64]:LK) ([.str]:LK) c72)) (l:List TokT) (i:Int) (xs:List MT) (m:Option (Option MT)) (a:zA ([.dl TI.str]:LK)):sh54 fu c33 c72 ((l,i,xs,m,()),()) a=putJ m (sh54 fu c33 c72 ((l,i,xs,none,()),()) a):=by
 unfold sh54
 have key:∀ (m:Option (Option MT)) (o:Option (Option ((Str×Unit)×PSt))) (f:Str->Option (Bool×Unit)),(Option.bind o fun y0=>zI y0 (some none) fun y1=>cond (!(seq y1.1.1 [])) (Option.bind (f y1.1.1) fun y2=>some (some (((l,(y1.2.1,(y1.2.2,(m,())))),()),(y2.1,())))) (some (some (((l,(y1.2.1,(y1.2.2,(m,())))),()),(false,()))))) =
  putJ m (Option.bind o fun y0=>zI y0 (some none) fun y1=>cond (!(seq y1.1.1 [])) (Option.bind (f y1.1.1) fun y2=>some (some (((l,(y1.2.1,(y1.2.2,(none,())))),()),(y2.1,())))) (some (some (((l,(y1.2.1,(y1.2.2,(none,())))),()),(false,()))))):=by
  intro m o f
  rcases o with _ | _ | y
  · rfl
  · rfl
  · show cond (!(seq y.1.1 [])) _ _=putJ m (cond (!(seq y.1.1 [])) _ _)
    cases (!(seq y.1.1 [])) with
    | false=>rfl
    | true=>
     show Option.bind (f y.1.1) _=putJ m (Option.bind (f y.1.1) _)
     cases f y.1.1 <;> rfl
 rcases m with _ | _ | c
 · exact key none (c72 (show Int×Unit from (0,())) l (i,xs)) fun s=>c33 (a.1,(s,()))
 · exact key (some none) (c72 (show Int×Unit from (0,())) l (i,xs)) fun s=>c33 (a.1,(s,()))
 · exact key (some (some c)) (c72 (show Int×Unit from (0,())) l (i,xs)) fun s=>c33 (a.1,(s,()))
theorem con54 (fu:Nat) (c33:zQ as33->Option (zQ rs33)) (h33:ConOk CC Tryz.prog 33 ⟨as33,rs33,c33⟩) (c72:zA kI->MM (zA kS)) (h72:CQ 72 (cJ kI kS c72)):CQ 54 (cJ kL kB (mJ (sh54 fu c33 c72))):=
 cJ_of (xl (syn:=syn) (fu:=fu) (d:=2) (inl:=zB []) (orc:=zB [(33,(⟨as33,rs33,c33⟩:Con UU))]) (orr:=zB []) (orp:=zB [(72,cJ kI kS c72)]) (pf:=hasN [33]) (rf:=hasN []) yk CCok mixed (fun g=>(zL (α:=Con UU) (l:=[(33,(⟨as33,rs33,c33⟩:Con UU))]) g).symm) (fun g=>(zL (α:=CR UU) (l:=[]) g).symm) (zD) (zE ⟨zFd,h33⟩ (zD)) (zD) (zE ⟨zIM,h72⟩ (zD)) fdok54 (by show ([parJ]:LK).length+(kL:LK).length<=15; decide) (fun x a=>by show run54 fu c33 c72 x a=sh54 fu c33 c72 x a; rw [eq54])) (hj54 fu c33 h33 c72 h72)
theorem con85 (fu:Nat) (c15:zQ as15->Option (zQ rs15)) (h15:ConOk CC Tryz.prog 15 ⟨as15,rs15,c15⟩):CQ 85 (cM kI kB (mM (sh85 fu c15))):=
 xB (xl (syn:=syn) (fu:=fu) (d:=2) (inl:=zB []) (orc:=zB [(15,(⟨as15,rs15,c15⟩:Con UU))]) (orr:=zB []) (orp:=zB []) (pf:=hasN [15]) (rf:=hasN []) yk CCok mixed (fun g=>(zL (α:=Con UU) (l:=[(15,(⟨as15,rs15,c15⟩:Con UU))]) g).symm) (fun g=>(zL (α:=CR UU) (l:=[]) g).symm) (zD) (zE ⟨zLt,h15⟩ (zD)) (zD) (zD) fdok85 (by show ([parK]:LK).length+(kI:LK).length<=50; decide) (fun x a=>by show run85 fu c15 x a=sh85 fu c15 x a; rw [eq85]))
theorem con112 (fu:Nat) :CQ 112 (cM kI kB (mM (sh112 fu))):=
 xB (xl (syn:=syn) (fu:=fu) (d:=2) (inl:=zB []) (orc:=zB []) (orr:=zB []) (orp:=zB []) (pf:=hasN []) (rf:=hasN []) yk CCok mixed (fun g=>(zL (α:=Con UU) (l:=[]) g).symm) (fun g=>(zL (α:=CR UU) (l:=[]) g).symm) (zD) (zD) (zD) (zD) zQE (by show ([parK]:LK).length+(kI:LK).length<=30; decide) (fun x a=>by show run112 fu x a=sh112 fu x a; rw [eq112]))
theorem con73 (fu:Nat) (h77:CQ 77 (zAB)):CQ 73 (cM k0 kN (mM (sh73 fu))):=
 xB (xl (syn:=syn) (fu:=fu) (d:=3) (inl:=zB [(40,fd40)]) (orc:=zB []) (orr:=zB []) (orp:=zB [(77,zAB)]) (pf:=hasN []) (rf:=hasN []) yk CCok mixed (fun g=>(zL (α:=Con UU) (l:=[]) g).symm) (fun g=>(zL (α:=CR UU) (l:=[]) g).symm) (zE zL2 (zD)) (zD) (zD) (zE ⟨zFm,h77⟩ (zD)) fdok73 (by show ([parK]:LK).length+(k0:LK).length<=27; decide) (fun x a=>by show run73 fu x a=sh73 fu x a; rw [eq73]))
theorem con78 (fu:Nat) (c54:zA kL->MM (zA kB)) (h54:CQ 54 (cJ kL kB c54)) (c73:zA k0->MM (zA kN)) (h73:CQ 73 (cM k0 kN c73)) (h77:CQ 77 (zAB)):CQ 78 (cM kS kN (mM (sh78 fu c54 c73))):=
 xB (xl (syn:=syn) (fu:=fu) (d:=2) (inl:=zB []) (orc:=zB []) (orr:=zB []) (orp:=zB [(54,cJ kL kB c54),(73,cM k0 kN c73),(77,zAB)]) (pf:=hasN []) (rf:=hasN []) yk CCok mixed (fun g=>(zL (α:=Con UU) (l:=[]) g).symm) (fun g=>(zL (α:=CR UU) (l:=[]) g).symm) (zD) (zD) (zD) (zE ⟨zMn,h54⟩ (zE ⟨zIO,h73⟩ (zE ⟨zFm,h77⟩ (zD)))) fdok78 (by show ([parK]:LK).length+(kS:LK).length<=12; decide) (fun x a=>by show run78 fu c54 c73 x a=sh78 fu c54 c73 x a; rw [eq78]))
theorem con80 (fu:Nat) (c73:zA k0->MM (zA kN)) (h73:CQ 73 (cM k0 kN c73)) (h77:CQ 77 (zAB)) (c85:zA kI->MM (zA kB)) (h85:CQ 85 (cM kI kB c85)):CQ 80 (cM k0 kN (mM (sh80 fu c73 c85))):=
 xB (xl (syn:=syn) (fu:=fu) (d:=2) (inl:=zB []) (orc:=zB []) (orr:=zB []) (orp:=zB [(73,cM k0 kN c73),(77,zAB),(85,cM kI kB c85)]) (pf:=hasN []) (rf:=hasN []) yk CCok mixed (fun g=>(zL (α:=Con UU) (l:=[]) g).symm) (fun g=>(zL (α:=CR UU) (l:=[]) g).symm) (zD) (zD) (zD) (zE ⟨zIO,h73⟩ (zE ⟨zFm,h77⟩ (zE ⟨zM3,h85⟩ (zD)))) fdok80 (by show ([parK]:LK).length+(k0:LK).length<=8; decide) (fun x a=>by show run80 fu c73 c85 x a=sh80 fu c73 c85 x a; rw [eq80]))
theorem con84 (fu:Nat) (c33:zQ as33->Option (zQ rs33)) (h33:ConOk CC Tryz.prog 33 ⟨as33,rs33,c33⟩) (c72:zA kI->MM (zA kS)) (h72:CQ 72 (cJ kI kS c72)) (c76:zA kI->MM (zA kB)) (h76:CQ 76 (cM kI kB c76)):CQ 84 (cM kI kB (mM (sh84 fu c33 c72 c76))):=
 xB (xl (syn:=syn) (fu:=fu) (d:=2) (inl:=zB []) (orc:=zB [(33,(⟨as33,rs33,c33⟩:Con UU))]) (orr:=zB []) (orp:=zB [(72,cJ kI kS c72),(76,cM kI kB c76)]) (pf:=hasN [33]) (rf:=hasN []) yk CCok mixed (fun g=>(zL (α:=Con UU) (l:=[(33,(⟨as33,rs33,c33⟩:Con UU))]) g).symm) (fun g=>(zL (α:=CR UU) (l:=[]) g).symm) (zD) (zE ⟨zFd,h33⟩ (zD)) (zD) (zE ⟨zIM,h72⟩ (zE ⟨zNI,h76⟩ (zD))) fdok84 (by show ([parK]:LK).length+(kI:LK).length<=34; decide) (fun x a=>by show run84 fu c33 c72 c76 x a=sh84 fu c33 c72 c76 x a; rw [eq84]))
end
section
open Go.Al Go.Den
abbrev zCz:List (AK UU):=[.str]
abbrev zCT:List (AK UU):=[.int .i64]
def kf36:Nat->List Nat
 | 0=>[]
 | _=>[]
def hd36:List (Nat×Head UU):=[]
def jn36:List (Nat×Head UU):=[]
noncomputable def fd36:FD UU:=⟨⟨fun d=>hasN [] d,fun d=>hasN [] d,kf36,zB hd36,zB jn36,ze []⟩,zU Tryz.f36,13,[]⟩
def kf37:Nat->List Nat
 | 0=>[0,1,4]
 | 1=>[0,1,4,5]
 | 2=>[0,1,4,5,6,7]
 | 3=>[0,1,4,5,7]
 | 4=>[0,1,4,5,7,22]
 | 5=>[0,4]
 | 6=>[0,1,4,5,7,8,9,10]
 | 7=>[0,4,5,7,8,9,47]
 | 8=>[0,4,5,7]
 | 9=>[0,4]
 | 10=>[0,4,5,8,9,11]
 | 11=>[0,4,5,8,11]
 | 12=>[0,4,5,8]
 | 13=>[0,4,5]
 | 14=>[0,4,5]
 | 15=>[0,4]
 | _=>[]
def hd37:List (Nat×Head UU):=[]
def jn37:List (Nat×Head UU):=[]
noncomputable def fd37:FD UU:=⟨⟨fun d=>hasN [] d,fun d=>hasN [] d,kf37,zB hd37,zB jn37,ze [(13,[(71,8,8)])]⟩,zU Tryz.f37,77,[.cell 4 29]⟩
def kf41:Nat->List Nat
 | 0=>[0,1,4]
 | 1=>[4]
 | _=>[]
def hd41:List (Nat×Head UU):=[]
def jn41:List (Nat×Head UU):=[]
noncomputable def fd41:FD UU:=⟨⟨fun d=>hasN [] d,fun d=>hasN [] d,kf41,zB hd41,zB jn41,ze []⟩,zU Tryz.f41,8,[.cell 4 29]⟩
def kf53:Nat->List Nat
 | 0=>[0,2,3]
 | 1=>[0,2,3,4]
 | 2=>[0,2,3,4,5,6]
 | 3=>[0,2,3,4,5,6,7]
 | 4=>[0,2,3,4,5,6,7,10]
 | 5=>[0,2,3,4,5,6]
 | 6=>[0,2,3,4,5,6]
 | 7=>[0,2,3,4,5,6,7,23]
 | 8=>[0,2,3,4,5,6]
 | 9=>[0,2,3,4,5,6]
 | 10=>[0,2,3,4,5,7,35]
 | 11=>[0,2,3,4,5,7,40]
 | 12=>[0,2,3,4,5]
 | 13=>[0,2,3,4,5,6]
 | 14=>[0,2,3,4,5,51]
 | 15=>[0,2,3,4,5]
 | 16=>[0,2,3,4,5,6]
 | 17=>[0,2,3,4,5,58]
 | 18=>[0,2,3,4,5]
 | 19=>[0,2,3,4,5,6]
 | 20=>[0,2,3,4]
 | 21=>[0,2,3]
 | _=>[]
def hd53:List (Nat×Head UU):=[(3,⟨[0,2,4],[(3,.bool),(5,.bool),(6,.bool)],[(0,parK),(2,.box [.int .i64,.int .i64,.dl TI.node]),(4,ptsK)]⟩)]
def jn53:List (Nat×Head UU):=[(20,⟨[0,2,4],[(3,.bool)],[(0,parK),(2,.box [.int .i64,.int .i64,.dl TI.node]),(4,ptsK)]⟩)]
noncomputable def fd53:FD UU:=⟨⟨fun d=>hasN [] d,fun d=>hasN [] d,kf53,zB hd53,zB jn53,ze []⟩,zU Tryz.f53,72,[.cell 2 29,.tmp 3]⟩
def kf55:Nat->List Nat
 | 0=>[0,2,4,6]
 | 1=>[0,2,4,6,12]
 | 2=>[0,2,4,6]
 | 3=>[0,2,4,6,7,8]
 | 4=>[0,2,4,6]
 | 5=>[0,4,6]
 | 6=>[0,6]
 | _=>[]
def hd55:List (Nat×Head UU):=[(1,⟨[0,2,4,6],[],[(0,parK),(4,ptsK),(6,.box [.int .i64,.int .i64,.dl TI.node])]⟩)]
def jn55:List (Nat×Head UU):=[]
noncomputable def fd55:FD UU:=⟨⟨fun d=>hasN [] d,fun d=>hasN [] d,kf55,zB hd55,zB jn55,ze []⟩,zU Tryz.f55,35,[.cell 6 29]⟩
def kf56:Nat->List Nat
 | 0=>[0,2,4]
 | 1=>[0,2,4,5]
 | 2=>[0,2,4,5]
 | 3=>[0,2,4,5,14]
 | 4=>[0,2,3,4,5]
 | 5=>[0,2,3,4,5]
 | 6=>[0,2,3,4,5,6]
 | 7=>[0,2,3,4,5,6,23]
 | 8=>[0,2,3,5]
 | 9=>[0,2,3,4,5,6]
 | 10=>[0,2,3,4,5,6]
 | 11=>[0,2,3,4,5]
 | 12=>[0,2,3,4]
 | 13=>[0,2,5]
 | 14=>[0,2,3,5,7]
 | 15=>[0,2,3,5]
 | 16=>[0,2,3,5]
 | 17=>[0,2,3,4]
 | _=>[]
def hd56:List (Nat×Head UU):=[]
def jn56:List (Nat×Head UU):=[(10,⟨[0,2,3,5],[(4,.bool),(6,.mpo)],[(0,parK),(2,.box [.int .i64,.int .i64,.dl TI.node]),(5,ptsK)]⟩)]
noncomputable def fd56:FD UU:=⟨⟨fun d=>hasN [] d,fun d=>hasN [] d,kf56,zB hd56,zB jn56,ze [(15,[(53,7,7)])]⟩,zU Tryz.f56,60,[.cell 2 29,.tmp 3,.tmp 4]⟩
def kf57:Nat->List Nat
 | 0=>[0,2,3,5,8]
 | 1=>[0,2,3,5,8,9]
 | 2=>[0,2,3,8,9]
 | 3=>[0,8,9]
 | 4=>[0,8,9,19]
 | 5=>[0,8,9]
 | 6=>[0,8]
 | _=>[]
def hd57:List (Nat×Head UU):=[]
def jn57:List (Nat×Head UU):=[]
noncomputable def fd57:FD UU:=⟨⟨fun d=>hasN [] d,fun d=>hasN [] d,kf57,zB hd57,zB jn57,ze []⟩,zU Tryz.f57,27,[.cell 8 29]⟩
def kf60:Nat->List Nat
 | 0=>[0,2]
 | 1=>[0,2,3]
 | 2=>[0,2,3]
 | 3=>[0,2,3,11]
 | 4=>[0,2,3,23]
 | 5=>[0,2,3]
 | 6=>[0,2,3]
 | 7=>[0,2,3]
 | 8=>[0,2]
 | _=>[]
def hd60:List (Nat×Head UU):=[(3,⟨[0,2,3],[],[(0,parK),(2,.box [.int .i64,.int .i64,.dl TI.node]),(3,ptsK)]⟩)]
def jn60:List (Nat×Head UU):=[]
noncomputable def fd60:FD UU:=⟨⟨fun d=>hasN [] d,fun d=>hasN [] d,kf60,zB hd60,zB jn60,ze []⟩,zU Tryz.f60,37,[.cell 2 29]⟩
def kf74:Nat->List Nat
 | 0=>[0,2]
 | 1=>[0,2,3]
 | 2=>[0,2,3]
 | 3=>[0,2,3]
 | 4=>[0,2,3,17]
 | 5=>[0,2,3]
 | 6=>[0,2,3,25]
 | 7=>[0,2]
 | 8=>[0,2,3]
 | 9=>[0,2,3,34]
 | 10=>[0,2,3]
 | 11=>[0,2,3]
 | 12=>[0,2]
 | _=>[]
def hd74:List (Nat×Head UU):=[(9,⟨[0,2,3],[],[(0,parK),(2,.box [.int .i64,.int .i64,.dl TI.node]),(3,ptsK)]⟩)]
def jn74:List (Nat×Head UU):=[(6,⟨[0,2,3],[],[(0,parK),(2,.box [.int .i64,.int .i64,.dl TI.node]),(3,ptsK)]⟩)]
noncomputable def fd74:FD UU:=⟨⟨fun d=>hasN [] d,fun d=>hasN [] d,kf74,zB hd74,zB jn74,ze []⟩,zU Tryz.f74,44,[.cell 2 29]⟩
def kf75:Nat->List Nat
 | 0=>[0,2]
 | 1=>[0,2,3]
 | 2=>[0,2,3]
 | 3=>[0,2,3]
 | 4=>[0,2,3,17]
 | 5=>[0,2,3]
 | 6=>[0,2,3,25]
 | 7=>[0,2]
 | 8=>[0,2,3]
 | 9=>[0,2,3]
 | 10=>[0,2,3,37]
 | 11=>[0,2,3]
 | 12=>[0,2,3,45]
 | 13=>[0,2,3]
 | 14=>[0,2]
 | _=>[]
def hd75:List (Nat×Head UU):=[(9,⟨[0,2,3],[],[(0,parK),(2,.box [.int .i64,.int .i64,.dl TI.node]),(3,ptsK)]⟩)]
def jn75:List (Nat×Head UU):=[(13,⟨[0,2,3],[],[(0,parK),(2,.box [.int .i64,.int .i64,.dl TI.node]),(3,ptsK)]⟩),(6,⟨[0,2,3],[],[(0,parK),(2,.box [.int .i64,.int .i64,.dl TI.node]),(3,ptsK)]⟩)]
noncomputable def fd75:FD UU:=⟨⟨fun d=>hasN [] d,fun d=>hasN [] d,kf75,zB hd75,zB jn75,ze []⟩,zU Tryz.f75,51,[.cell 2 29]⟩
def kf79:Nat->List Nat
 | 0=>[0,1,6]
 | 1=>[0,1]
 | 2=>[0,1,14]
 | 3=>[0,1]
 | _=>[]
def hd79:List (Nat×Head UU):=[(0,⟨[0,1],[],[(0,parK),(1,ptsK)]⟩),(2,⟨[0,1],[],[(0,parK),(1,ptsK)]⟩)]
def jn79:List (Nat×Head UU):=[]
noncomputable def fd79:FD UU:=⟨⟨fun d=>hasN [] d,fun d=>hasN [] d,kf79,zB hd79,zB jn79,ze []⟩,zU Tryz.f79,20,[]⟩
def kf81:Nat->List Nat
 | 0=>[0,2]
 | 1=>[0,2,3]
 | 2=>[0,2,3]
 | 3=>[0,2,3]
 | 4=>[0,2,3,4]
 | 5=>[0,2,3,16]
 | 6=>[0,2,3,4]
 | 7=>[0,2,3,23]
 | 8=>[0,2,3]
 | 9=>[0,2,3,30]
 | 10=>[0,2,3]
 | 11=>[0,2,3]
 | 12=>[0,2,3]
 | 13=>[0,2,3]
 | 14=>[0,2]
 | _=>[]
def hd81:List (Nat×Head UU):=[(5,⟨[0,2,3],[(4,.bool)],[(0,parK),(2,.box [.int .i64,.int .i64,.dl TI.node]),(3,ptsK)]⟩)]
def jn81:List (Nat×Head UU):=[]
noncomputable def fd81:FD UU:=⟨⟨fun d=>hasN [] d,fun d=>hasN [] d,kf81,zB hd81,zB jn81,ze []⟩,zU Tryz.f81,49,[.cell 2 29]⟩
def kf82:Nat->List Nat
 | 0=>[0,1,6]
 | 1=>[0,1,9]
 | 2=>[0,1]
 | 3=>[0,1]
 | 4=>[0,1,23]
 | 5=>[0,1]
 | 6=>[0,1]
 | _=>[]
def hd82:List (Nat×Head UU):=[(0,⟨[0,1],[],[(0,parK),(1,ptsK)]⟩)]
def jn82:List (Nat×Head UU):=[]
noncomputable def fd82:FD UU:=⟨⟨fun d=>hasN [] d,fun d=>hasN [] d,kf82,zB hd82,zB jn82,ze []⟩,zU Tryz.f82,34,[]⟩
def kf83:Nat->List Nat
 | 0=>[0,2]
 | 1=>[0,2,7]
 | 2=>[0,2]
 | 3=>[0,2,3]
 | 4=>[0,2,3]
 | 5=>[0,2,3,17]
 | 6=>[0,2,3]
 | 7=>[0,2,3,25]
 | 8=>[0,2,3]
 | 9=>[0,2,3]
 | 10=>[0,2]
 | _=>[]
def hd83:List (Nat×Head UU):=[(5,⟨[0,2,3],[],[(0,parK),(2,.box [.int .i64,.int .i64,.dl TI.node]),(3,ptsK)]⟩)]
def jn83:List (Nat×Head UU):=[]
noncomputable def fd83:FD UU:=⟨⟨fun d=>hasN [] d,fun d=>hasN [] d,kf83,zB hd83,zB jn83,ze []⟩,zU Tryz.f83,35,[.cell 2 29]⟩
def kf86:Nat->List Nat
 | 0=>[0,2]
 | 1=>[0,2,3]
 | 2=>[0,2,3,4]
 | 3=>[0,2,3,4,8]
 | 4=>[0,2]
 | 5=>[0,2,5]
 | 6=>[0,2,5]
 | 7=>[0,2]
 | 8=>[0,2,3,4,19]
 | 9=>[0,2,3]
 | 10=>[0,2]
 | 11=>[0,2,3,4,27]
 | 12=>[0,2,3]
 | 13=>[0,2]
 | 14=>[0,2,3,4,44]
 | 15=>[0,2,3]
 | 16=>[0,2]
 | 17=>[0,2,3,4]
 | 18=>[0,2,3,4,67]
 | 19=>[0,2,3,4,67,68]
 | 20=>[0,2,3]
 | 21=>[0,2]
 | 22=>[0,2,3,4,67,79]
 | 23=>[0,2,3]
 | 24=>[0,2]
 | 25=>[0,2,3,4,67,88]
 | 26=>[0,2,3]
 | 27=>[0,2,3]
 | 28=>[0,2,3,98]
 | 29=>[0,2,3]
 | 30=>[0,2]
 | 31=>[0,2,3,4,67,106]
 | 32=>[0,2,3,4,67,106]
 | 33=>[0,2,3,4]
 | 34=>[0,2,3,4]
 | 35=>[0,2,3,116]
 | 36=>[0,2]
 | 37=>[0,2]
 | 38=>[0,2,3,4,67,119]
 | 39=>[0,2,3]
 | 40=>[0,2,3]
 | 41=>[0,2,3]
 | 42=>[0,2]
 | 43=>[0,2,3,4,67,134]
 | 44=>[0,2]
 | 45=>[0,2,3,4,67,139]
 | 46=>[0,2,3]
 | 47=>[0,2]
 | 48=>[0,2,3,4,67,144]
 | 49=>[0,2,3,4,144]
 | 50=>[0,2,3]
 | 51=>[0,2]
 | 52=>[0,2,3]
 | 53=>[0,2,3]
 | 54=>[0,2]
 | _=>[]
def hd86:List (Nat×Head UU):=[]
def jn86:List (Nat×Head UU):=[(50,⟨[0,2,3,4],[(144,.bool)],[(0,parK),(2,.box [.int .i64,.int .i64,.dl TI.node]),(3,ptsK)]⟩),(33,⟨[0,2,3,4,67],[(106,.bool)],[(0,parK),(2,.box [.int .i64,.int .i64,.dl TI.node]),(3,ptsK)]⟩),(52,⟨[0,2,3,4],[],[(0,parK),(2,.box [.int .i64,.int .i64,.dl TI.node]),(3,ptsK)]⟩)]
noncomputable def fd86:FD UU:=⟨⟨fun d=>hasN [] d,fun d=>hasN [] d,kf86,zB hd86,zB jn86,ze []⟩,zU Tryz.f86,162,[.cell 2 29]⟩
def kf107:Nat->List Nat
 | 0=>[0,2]
 | 1=>[0,2,3]
 | 2=>[0,2,3,4]
 | 3=>[0,2,3]
 | 4=>[0,2,3,6]
 | 5=>[0,2,3,22]
 | 6=>[0,2,3,6]
 | 7=>[0,2,3,29]
 | 8=>[0,2,3]
 | 9=>[0,2,3,7]
 | 10=>[0,2,3]
 | 11=>[0,2,3]
 | 12=>[0,2]
 | _=>[]
def hd107:List (Nat×Head UU):=[(5,⟨[0,2,3],[(6,.bool)],[(0,parK),(2,.box [.int .i64,.int .i64,.dl TI.node]),(3,ptsK)]⟩)]
def jn107:List (Nat×Head UU):=[(9,⟨[0,2,3],[],[(0,parK),(2,.box [.int .i64,.int .i64,.dl TI.node]),(3,ptsK)]⟩)]
noncomputable def fd107:FD UU:=⟨⟨fun d=>hasN [] d,fun d=>hasN [] d,kf107,zB hd107,zB jn107,ze []⟩,zU Tryz.f107,48,[.cell 2 29]⟩
def kf108:Nat->List Nat
 | 0=>[0,2]
 | 1=>[0,2,3]
 | 2=>[0,2,3,4]
 | 3=>[0,2,3,4]
 | 4=>[0,2,3,4,13]
 | 5=>[0,2,3,4]
 | 6=>[0,2,3]
 | 7=>[0,2]
 | _=>[]
def hd108:List (Nat×Head UU):=[]
def jn108:List (Nat×Head UU):=[]
noncomputable def fd108:FD UU:=⟨⟨fun d=>hasN [] d,fun d=>hasN [] d,kf108,zB hd108,zB jn108,ze []⟩,zU Tryz.f108,24,[.cell 2 29]⟩
def kf110:Nat->List Nat
 | 0=>[0,2]
 | 1=>[0,2,3]
 | 2=>[0,2,3,4,5]
 | 3=>[0,2,3,5]
 | 4=>[0,2,3,5,6,7,8]
 | 5=>[0,2,3,5,6,7,23]
 | 6=>[0,2,3,5,7]
 | 7=>[0,2,3]
 | 8=>[0,2]
 | _=>[]
def hd110:List (Nat×Head UU):=[]
def jn110:List (Nat×Head UU):=[(7,⟨[0,2,3,5,7],[],[(0,parK),(2,.box [.int .i64,.int .i64,.dl TI.node]),(3,ptsK)]⟩)]
noncomputable def fd110:FD UU:=⟨⟨fun d=>hasN [] d,fun d=>hasN [] d,kf110,zB hd110,zB jn110,ze []⟩,zU Tryz.f110,32,[.cell 2 29]⟩
def kf111:Nat->List Nat
 | 0=>[0,2]
 | 1=>[0,2,3]
 | 2=>[0,2,3,10]
 | 3=>[0,2]
 | 4=>[0,2,3,4]
 | 5=>[0,2]
 | _=>[]
def hd111:List (Nat×Head UU):=[]
def jn111:List (Nat×Head UU):=[]
noncomputable def fd111:FD UU:=⟨⟨fun d=>hasN [] d,fun d=>hasN [] d,kf111,zB hd111,zB jn111,ze [(5,[(17,3,3),(17,4,4)])]⟩,zU Tryz.f111,20,[.cell 2 29]⟩
def kf113:Nat->List Nat
 | 0=>[0,2]
 | 1=>[0,2,3]
 | 2=>[0,2,3,10]
 | 3=>[0,2]
 | 4=>[0,2,3,4]
 | 5=>[0,2]
 | _=>[]
def hd113:List (Nat×Head UU):=[]
def jn113:List (Nat×Head UU):=[]
noncomputable def fd113:FD UU:=⟨⟨fun d=>hasN [] d,fun d=>hasN [] d,kf113,zB hd113,zB jn113,ze [(5,[(17,3,3),(17,4,4)])]⟩,zU Tryz.f113,20,[.cell 2 29]⟩
def kf114:Nat->List Nat
 | 0=>[0,2]
 | 1=>[0,2,3]
 | 2=>[0,2,3,10]
 | 3=>[0,2]
 | 4=>[0,2,3,4]
 | 5=>[0,2,4]
 | 6=>[0,2]
 | _=>[]
def hd114:List (Nat×Head UU):=[]
def jn114:List (Nat×Head UU):=[]
noncomputable def fd114:FD UU:=⟨⟨fun d=>hasN [] d,fun d=>hasN [] d,kf114,zB hd114,zB jn114,ze [(5,[(14,3,3),(16,3,3),(18,3,3),(20,3,3)])]⟩,zU Tryz.f114,24,[.cell 2 29]⟩
def kf115:Nat->List Nat
 | 0=>[0,1]
 | _=>[]
def hd115:List (Nat×Head UU):=[]
def jn115:List (Nat×Head UU):=[]
noncomputable def fd115:FD UU:=⟨⟨fun d=>hasN [] d,fun d=>hasN [] d,kf115,zB hd115,zB jn115,ze []⟩,zU Tryz.f115,13,[]⟩
def kf116:Nat->List Nat
 | 0=>[0,3,4]
 | 1=>[0,3,4]
 | 2=>[0,3,4]
 | 3=>[0,3,4,13]
 | 4=>[0,3,4]
 | 5=>[0,3,4]
 | 6=>[0,3,4]
 | 7=>[0,3,4]
 | 8=>[0,3,4]
 | 9=>[0,3,4]
 | 10=>[0,4]
 | _=>[]
def hd116:List (Nat×Head UU):=[]
def jn116:List (Nat×Head UU):=[(6,⟨[0,3,4],[],[(0,parK),(3,ptsK),(4,.box [.int .i64,.int .i64,.dl TI.node])]⟩)]
noncomputable def fd116:FD UU:=⟨⟨fun d=>hasN [] d,fun d=>hasN [] d,kf116,zB hd116,zB jn116,ze []⟩,zU Tryz.f116,31,[.cell 4 29]⟩
def kf117:Nat->List Nat
 | 0=>[0,1,2,10]
 | 1=>[0,1,2]
 | 2=>[0,1]
 | _=>[]
def hd117:List (Nat×Head UU):=[]
def jn117:List (Nat×Head UU):=[(2,⟨[0,1,2],[],[(0,parK),(1,ptsK)]⟩)]
noncomputable def fd117:FD UU:=⟨⟨fun d=>hasN [] d,fun d=>hasN [] d,kf117,zB hd117,zB jn117,ze []⟩,zU Tryz.f117,22,[]⟩
def kf130:Nat->List Nat
 | 0=>[0,1,4,5]
 | 1=>[0,1,4,5,7]
 | 2=>[0,1,4,5,7]
 | 3=>[0,1,4,5,7,8]
 | 4=>[0,1,4,5,7,8,16]
 | 5=>[0,4,5,7]
 | 6=>[0,4,5,7]
 | 7=>[0,1,4,5,7,28]
 | 8=>[0,1,4,7]
 | 9=>[0,4,7,9,10,11]
 | 10=>[0,4,7,9,10,67]
 | 11=>[0,4,7,10]
 | 12=>[0,4,5,7]
 | 13=>[0,4,5,7]
 | 14=>[0,4,5,7]
 | 15=>[0,4,5,6]
 | _=>[]
def hd130:List (Nat×Head UU):=[]
def jn130:List (Nat×Head UU):=[(12,⟨[0,4,7,10],[],[(0,parK),(4,.box [.int .i64,.int .i64,.dl TI.node]),(7,ptsK)]⟩),(14,⟨[0,4,7],[(5,.str)],[(0,parK),(4,.box [.int .i64,.int .i64,.dl TI.node]),(7,ptsK)]⟩)]
noncomputable def fd130:FD UU:=⟨⟨fun d=>hasN [] d,fun d=>hasN [] d,kf130,zB hd130,zB jn130,ze [(15,[(1000004,80,7)])]⟩,zU Tryz.f130,84,[.cell 4 29,.tmp 5,.tmp 6]⟩
def kf131:Nat->List Nat
 | 0=>[0,1,4]
 | 1=>[0,1,4,5]
 | 2=>[0,1,4,5,6]
 | 3=>[0,1,4,5,6,19]
 | 4=>[0,4]
 | 5=>[0,1,4,5,6,7]
 | 6=>[0,1,4,5]
 | _=>[]
def hd131:List (Nat×Head UU):=[(2,⟨[0,1,4,5],[],[(0,parK),(4,.box [.int .i64,.int .i64,.dl TI.node]),(5,.box [.int .i64,.int .i64,.dl TI.node])]⟩)]
def jn131:List (Nat×Head UU):=[]
noncomputable def fd131:FD UU:=⟨⟨fun d=>hasN [] d,fun d=>hasN [] d,kf131,zB hd131,zB jn131,ze [(6,[(28,5,5),(28,7,7)])]⟩,zU Tryz.f131,31,[.cell 4 29]⟩
def kf142:Nat->List Nat
 | 0=>[0,2]
 | 1=>[0,2,12]
 | 2=>[0,2]
 | 3=>[0,2,3]
 | 4=>[0,2,3]
 | 5=>[0,2]
 | _=>[]
def hd142:List (Nat×Head UU):=[]
def jn142:List (Nat×Head UU):=[]
noncomputable def fd142:FD UU:=⟨⟨fun d=>hasN [] d,fun d=>hasN [] d,kf142,zB hd142,zB jn142,ze []⟩,zU Tryz.f142,26,[.cell 2 29]⟩
def kf143:Nat->List Nat
 | 0=>[0]
 | 1=>[3]
 | 2=>[3,4]
 | 3=>[2]
 | 4=>[3,6]
 | 5=>[2]
 | 6=>[3,8]
 | 7=>[2]
 | 8=>[3,10]
 | 9=>[2]
 | 10=>[3,12]
 | 11=>[2]
 | 12=>[3,14]
 | 13=>[3,14]
 | 14=>[2]
 | 15=>[3,17]
 | 16=>[3,17]
 | 17=>[3,17]
 | 18=>[3,17]
 | 19=>[2]
 | 20=>[3,22]
 | 21=>[3,22]
 | 22=>[2]
 | 23=>[3,25]
 | 24=>[3,25]
 | 25=>[2]
 | 26=>[3,28]
 | 27=>[3,28]
 | 28=>[28]
 | 29=>[2]
 | 30=>[2]
 | _=>[]
def hd143:List (Nat×Head UU):=[]
def jn143:List (Nat×Head UU):=[]
noncomputable def fd143:FD UU:=⟨⟨fun d=>hasN [] d,fun d=>hasN [] d,kf143,zB hd143,zB jn143,ze []⟩,zU Tryz.f143,32,[.tmp 2]⟩
def kf150:Nat->List Nat
 | 0=>[0,2]
 | 1=>[0,2,3]
 | 2=>[0,2,3,4]
 | 3=>[0,2,3]
 | 4=>[0,2]
 | 5=>[0,2,3,15]
 | 6=>[0,2,3]
 | 7=>[0,2]
 | 8=>[0,2,3,26]
 | 9=>[0,2,3]
 | 10=>[0,2,3,40]
 | 11=>[0,2,3]
 | 12=>[0,2,3]
 | 13=>[0,2]
 | 14=>[0,2]
 | _=>[]
def hd150:List (Nat×Head UU):=[]
def jn150:List (Nat×Head UU):=[]
noncomputable def fd150:FD UU:=⟨⟨fun d=>hasN [] d,fun d=>hasN [] d,kf150,zB hd150,zB jn150,ze []⟩,zU Tryz.f150,58,[.cell 2 29]⟩
def kf151:Nat->List Nat
 | 0=>[0,2]
 | 1=>[0,2,3]
 | 2=>[0,2,3,4]
 | 3=>[0,2,3]
 | 4=>[0,2,3,6,8]
 | 5=>[0,2,3,6,23]
 | 6=>[0,2,3]
 | 7=>[0,2]
 | _=>[]
def hd151:List (Nat×Head UU):=[]
def jn151:List (Nat×Head UU):=[]
noncomputable def fd151:FD UU:=⟨⟨fun d=>hasN [] d,fun d=>hasN [] d,kf151,zB hd151,zB jn151,ze []⟩,zU Tryz.f151,28,[.cell 2 29]⟩
def kf154:Nat->List Nat
 | 0=>[0,3,4]
 | 1=>[0,3,4,5]
 | 2=>[0,3,4,5]
 | 3=>[0,4]
 | 4=>[0,3,4,5,11]
 | 5=>[0,3,4,5]
 | 6=>[0,3,4]
 | 7=>[0,3,4,5,24]
 | 8=>[0,3,4,5]
 | 9=>[0,3,4,5,6]
 | 10=>[0,3,4,5,36]
 | 11=>[0,3,4,5,6]
 | 12=>[0,3,4,5,43]
 | 13=>[0,3,4,5]
 | 14=>[0,3,4,5]
 | 15=>[0,3,4,5]
 | 16=>[0,3,4]
 | 17=>[0,3,4,5,57]
 | 18=>[0,3,4,5]
 | 19=>[0,3,4]
 | 20=>[0,3,4,5,68]
 | 21=>[0,3,4,5]
 | 22=>[0,3,4]
 | _=>[]
def hd154:List (Nat×Head UU):=[(1,⟨[0,3,4],[],[(0,parK),(3,.box [.int .i64,.int .i64,.dl TI.node]),(4,.box [.int .i64,.int .i64,.dl TI.node])]⟩),(10,⟨[0,3,4,5],[(6,.bool)],[(0,parK),(3,.box [.int .i64,.int .i64,.dl TI.node]),(4,.box [.int .i64,.int .i64,.dl TI.node]),(5,ptsK)]⟩)]
def jn154:List (Nat×Head UU):=[]
noncomputable def fd154:FD UU:=⟨⟨fun d=>hasN [] d,fun d=>hasN [] d,kf154,zB hd154,zB jn154,ze []⟩,zU Tryz.f154,77,[.cell 4 29]⟩
def kf155:Nat->List Nat
 | 0=>[0,2]
 | 1=>[0,2,3]
 | 2=>[0,2,3,4]
 | 3=>[0,2,3]
 | 4=>[0,2]
 | 5=>[0,2,3,12]
 | 6=>[0,2,3]
 | 7=>[0,2]
 | 8=>[0,2,3,24]
 | 9=>[0,2,3,28]
 | 10=>[0,2,3]
 | 11=>[0,2]
 | 12=>[0,2,3]
 | 13=>[0,2]
 | _=>[]
def hd155:List (Nat×Head UU):=[(9,⟨[0,2,3],[],[(0,parK),(2,.box [.int .i64,.int .i64,.dl TI.node]),(3,ptsK)]⟩)]
def jn155:List (Nat×Head UU):=[]
noncomputable def fd155:FD UU:=⟨⟨fun d=>hasN [] d,fun d=>hasN [] d,kf155,zB hd155,zB jn155,ze []⟩,zU Tryz.f155,37,[.cell 2 29]⟩
theorem fdok53:FDOk Tryz.prog (hasN [33,143]) (hasN [38]) 53 fd53:=⟨⟨Tryz.f53,Tryz.func53,by kernel_rfl,Tryz.ntmps53,Tryz.results53⟩,by kernel_rfl,by kernel_rfl,by kernel_rfl⟩
theorem fdok74:FDOk Tryz.prog (hasN [33,143]) (hasN [38]) 74 fd74:=⟨⟨Tryz.f74,Tryz.func74,by kernel_rfl,Tryz.ntmps74,Tryz.results74⟩,by kernel_rfl,by kernel_rfl,by kernel_rfl⟩
theorem zOp:FDOk Tryz.prog (hasN [33,143]) (hasN [38]) 107 fd107:=⟨⟨Tryz.f107,Tryz.func107,by kernel_rfl,Tryz.ntmps107,Tryz.results107⟩,by kernel_rfl,by kernel_rfl,by kernel_rfl⟩
theorem fdok75:FDOk Tryz.prog (hasN [33,143]) (hasN [38]) 75 fd75:=⟨⟨Tryz.f75,Tryz.func75,by kernel_rfl,Tryz.ntmps75,Tryz.results75⟩,by kernel_rfl,by kernel_rfl,by kernel_rfl⟩
theorem zO1:FDOk Tryz.prog (hasN [33,143]) (hasN [38]) 108 fd108:=⟨⟨Tryz.f108,Tryz.func108,by kernel_rfl,Tryz.ntmps108,Tryz.results108⟩,by kernel_rfl,by kernel_rfl,by kernel_rfl⟩
theorem fdok79:FDOk Tryz.prog (hasN [33,143]) (hasN [38]) 79 fd79:=⟨⟨Tryz.f79,Tryz.func79,by kernel_rfl,Tryz.ntmps79,Tryz.results79⟩,by kernel_rfl,by kernel_rfl,by kernel_rfl⟩
theorem fdok82:FDOk Tryz.prog (hasN [33,143]) (hasN [38]) 82 fd82:=⟨⟨Tryz.f82,Tryz.func82,by kernel_rfl,Tryz.ntmps82,Tryz.results82⟩,by kernel_rfl,by kernel_rfl,by kernel_rfl⟩
theorem fdok56:FDOk Tryz.prog (hasN [33,143]) (hasN [38]) 56 fd56:=⟨⟨Tryz.f56,Tryz.func56,by kernel_rfl,Tryz.ntmps56,Tryz.results56⟩,by kernel_rfl,by kernel_rfl,by kernel_rfl⟩
theorem zPU:FDOk Tryz.prog (hasN [33,143]) (hasN [38]) 130 fd130:=⟨⟨Tryz.f130,Tryz.func130,by kernel_rfl,Tryz.ntmps130,Tryz.results130⟩,by kernel_rfl,by kernel_rfl,by kernel_rfl⟩
theorem fdok81:FDOk Tryz.prog (hasN [33,143]) (hasN [38]) 81 fd81:=⟨⟨Tryz.f81,Tryz.func81,by kernel_rfl,Tryz.ntmps81,Tryz.results81⟩,by kernel_rfl,by kernel_rfl,by kernel_rfl⟩
theorem zOw:FDOk Tryz.prog (hasN [33,143]) (hasN [38]) 110 fd110:=⟨⟨Tryz.f110,Tryz.func110,by kernel_rfl,Tryz.ntmps110,Tryz.results110⟩,by kernel_rfl,by kernel_rfl,by kernel_rfl⟩
theorem zPQ:FDOk Tryz.prog (hasN [33,143]) (hasN [38]) 151 fd151:=⟨⟨Tryz.f151,Tryz.func151,by kernel_rfl,Tryz.ntmps151,Tryz.results151⟩,by kernel_rfl,by kernel_rfl,by kernel_rfl⟩
theorem fdok83:FDOk Tryz.prog (hasN [33,143]) (hasN [38]) 83 fd83:=⟨⟨Tryz.f83,Tryz.func83,by kernel_rfl,Tryz.ntmps83,Tryz.results83⟩,by kernel_rfl,by kernel_rfl,by kernel_rfl⟩
theorem fdok57:FDOk Tryz.prog (hasN [33,143]) (hasN [38]) 57 fd57:=⟨⟨Tryz.f57,Tryz.func57,by kernel_rfl,Tryz.ntmps57,Tryz.results57⟩,by kernel_rfl,by kernel_rfl,by kernel_rfl⟩
theorem fdok55:FDOk Tryz.prog (hasN [33,143]) (hasN [38]) 55 fd55:=⟨⟨Tryz.f55,Tryz.func55,by kernel_rfl,Tryz.ntmps55,Tryz.results55⟩,by kernel_rfl,by kernel_rfl,by kernel_rfl⟩
theorem fdok37:FDOk Tryz.prog (hasN [33,143]) (hasN [38]) 37 fd37:=⟨⟨Tryz.f37,Tryz.func37,by kernel_rfl,Tryz.ntmps37,Tryz.results37⟩,by kernel_rfl,by kernel_rfl,by kernel_rfl⟩
theorem fdok60:FDOk Tryz.prog (hasN [33,143]) (hasN [38]) 60 fd60:=⟨⟨Tryz.f60,Tryz.func60,by kernel_rfl,Tryz.ntmps60,Tryz.results60⟩,by kernel_rfl,by kernel_rfl,by kernel_rfl⟩
theorem fdok86:FDOk Tryz.prog (hasN [33,143]) (hasN [38]) 86 fd86:=⟨⟨Tryz.f86,Tryz.func86,by kernel_rfl,Tryz.ntmps86,Tryz.results86⟩,by kernel_rfl,by kernel_rfl,by kernel_rfl⟩
theorem zPb:FDOk Tryz.prog (hasN [33,143]) (hasN [38]) 116 fd116:=⟨⟨Tryz.f116,Tryz.func116,by kernel_rfl,Tryz.ntmps116,Tryz.results116⟩,by kernel_rfl,by kernel_rfl,by kernel_rfl⟩
theorem zQe:FDOk Tryz.prog (hasN [33,143]) (hasN [38]) 115 fd115:=⟨⟨Tryz.f115,Tryz.func115,by kernel_rfl,Tryz.ntmps115,Tryz.results115⟩,by kernel_rfl,by kernel_rfl,by kernel_rfl⟩
theorem zO9:FDOk Tryz.prog (hasN [33,143]) (hasN [38]) 117 fd117:=⟨⟨Tryz.f117,Tryz.func117,by kernel_rfl,Tryz.ntmps117,Tryz.results117⟩,by kernel_rfl,by kernel_rfl,by kernel_rfl⟩
theorem zOj:FDOk Tryz.prog (hasN [33,143]) (hasN [38]) 113 fd113:=⟨⟨Tryz.f113,Tryz.func113,by kernel_rfl,Tryz.ntmps113,Tryz.results113⟩,by kernel_rfl,by kernel_rfl,by kernel_rfl⟩
theorem zPy:FDOk Tryz.prog (hasN [33,143]) (hasN [38]) 111 fd111:=⟨⟨Tryz.f111,Tryz.func111,by kernel_rfl,Tryz.ntmps111,Tryz.results111⟩,by kernel_rfl,by kernel_rfl,by kernel_rfl⟩
theorem zOu:FDOk Tryz.prog (hasN [33,143]) (hasN [38]) 114 fd114:=⟨⟨Tryz.f114,Tryz.func114,by kernel_rfl,Tryz.ntmps114,Tryz.results114⟩,by kernel_rfl,by kernel_rfl,by kernel_rfl⟩
theorem zO4:FDOk Tryz.prog (hasN [33,143]) (hasN [38]) 131 fd131:=⟨⟨Tryz.f131,Tryz.func131,by kernel_rfl,Tryz.ntmps131,Tryz.results131⟩,by kernel_rfl,by kernel_rfl,by kernel_rfl⟩
theorem zQT:FDOk Tryz.prog (hasN [33,143]) (hasN [38]) 142 fd142:=⟨⟨Tryz.f142,Tryz.func142,by kernel_rfl,Tryz.ntmps142,Tryz.results142⟩,by kernel_rfl,by kernel_rfl,by kernel_rfl⟩
theorem zPv:FDOk Tryz.prog (hasN [33,143]) (hasN [38]) 150 fd150:=⟨⟨Tryz.f150,Tryz.func150,by kernel_rfl,Tryz.ntmps150,Tryz.results150⟩,by kernel_rfl,by kernel_rfl,by kernel_rfl⟩
theorem zQR:FDOk Tryz.prog (hasN [33,143]) (hasN [38]) 154 fd154:=⟨⟨Tryz.f154,Tryz.func154,by kernel_rfl,Tryz.ntmps154,Tryz.results154⟩,by kernel_rfl,by kernel_rfl,by kernel_rfl⟩
theorem zOi:FDOk Tryz.prog (hasN [33,143]) (hasN [38]) 155 fd155:=⟨⟨Tryz.f155,Tryz.func155,by kernel_rfl,Tryz.ntmps155,Tryz.results155⟩,by kernel_rfl,by kernel_rfl,by kernel_rfl⟩
noncomputable def run143 (fu:Nat) (nf:Nat->Bool) (x0:List UInt8):Option (zQ zCT):=
 qw CC Tb fu 2 (zB []) (zB []) (zB []) (zB []) fd143 zCz zCT nf (x0,())
theorem zP3:FDOk Tryz.prog (hasN []) (hasN []) 143 fd143:=⟨⟨Tryz.f143,Tryz.func143,by kernel_rfl,Tryz.ntmps143,Tryz.results143⟩,by kernel_rfl,by kernel_rfl,by kernel_rfl⟩
theorem zQn:FDOk Tryz.prog (hasN [33,143]) (hasN [38]) 36 fd36:=⟨⟨Tryz.f36,Tryz.func36,by kernel_rfl,Tryz.ntmps36,Tryz.results36⟩,by kernel_rfl,by kernel_rfl,by kernel_rfl⟩
theorem zP7:FDOk Tryz.prog (hasN [33,143]) (hasN [38]) 41 fd41:=⟨⟨Tryz.f41,Tryz.func41,by kernel_rfl,Tryz.ntmps41,Tryz.results41⟩,by kernel_rfl,by kernel_rfl,by kernel_rfl⟩
end
section
open Go.Al Go.Den
structure PS where
 c33:List Str×Str×Unit->Option (Bool×Unit)
 c143:Str×Unit->Option (Int×Unit)
 c54:zA ([.dl TI.str]:LK)->MM (zA ([.bool]:LK))
 c72:zA ([.int .i64]:LK)->MM (zA ([.str]:LK))
 c73:zA ([]:LK)->MM (zA ([.st TI.node]:LK))
 c76:zA ([.int .i64]:LK)->MM (zA ([.bool]:LK))
 c78:zA ([.str]:LK)->MM (zA ([.st TI.node]:LK))
 c80:zA ([]:LK)->MM (zA ([.st TI.node]:LK))
 c84:zA ([.int .i64]:LK)->MM (zA ([.bool]:LK))
 c85:zA ([.int .i64]:LK)->MM (zA ([.bool]:LK))
 c112:zA ([.int .i64]:LK)->MM (zA ([.bool]:LK))
 c58:zA ([.str,.bool]:LK)->MM (zA ([]:LK))
 c59:zA ([.mpo]:LK)->MM (zA ([]:LK))
 c61:zA ([]:LK)->MM (zA ([.mpo]:LK))
structure POk (p:PS):Prop where
 h33:ConOk CC Tryz.prog 33 ⟨as33,rs33,p.c33⟩
 h143:ConOk CC Tryz.prog 143 ⟨zCz,zCT,p.c143⟩
 h38:CROk CC Tryz.prog 38 kh
 h77:CPOk CC Tryz.prog syn 77 zAB
 h54:CPOk CC Tryz.prog syn 54 (cJ ([.dl TI.str]:LK) ([.bool]:LK) p.c54)
 h72:CPOk CC Tryz.prog syn 72 (cJ ([.int .i64]:LK) ([.str]:LK) p.c72)
 h73:CPOk CC Tryz.prog syn 73 (cM ([]:LK) ([.st TI.node]:LK) p.c73)
 h76:CPOk CC Tryz.prog syn 76 (cM ([.int .i64]:LK) ([.bool]:LK) p.c76)
 h78:CPOk CC Tryz.prog syn 78 (cM ([.str]:LK) ([.st TI.node]:LK) p.c78)
 h80:CPOk CC Tryz.prog syn 80 (cM ([]:LK) ([.st TI.node]:LK) p.c80)
 h84:CPOk CC Tryz.prog syn 84 (cM ([.int .i64]:LK) ([.bool]:LK) p.c84)
 h85:CPOk CC Tryz.prog syn 85 (cM ([.int .i64]:LK) ([.bool]:LK) p.c85)
 h112:CPOk CC Tryz.prog syn 112 (cM ([.int .i64]:LK) ([.bool]:LK) p.c112)
 h58:CPOk CC Tryz.prog syn 58 (cM ([.str,.bool]:LK) ([]:LK) p.c58)
 h59:CPOk CC Tryz.prog syn 59 (cM ([.mpo]:LK) ([]:LK) p.c59)
 h61:CPOk CC Tryz.prog syn 61 (cM ([]:LK) ([.mpo]:LK) p.c61)
structure RS where
 c53:zA ([]:LK)->MM (zA ([.st TI.node,.bool]:LK))
 c74:zA ([]:LK)->MM (zA ([.st TI.node]:LK))
 c107:zA ([]:LK)->MM (zA ([.st TI.node]:LK))
 c75:zA ([]:LK)->MM (zA ([.st TI.node]:LK))
 c108:zA ([]:LK)->MM (zA ([.st TI.node]:LK))
 c79:zA ([]:LK)->List Nd->MM (zA ([]:LK)×List Nd)
 c82:zA ([]:LK)->List Nd->MM (zA ([]:LK)×List Nd)
 c56:zA ([]:LK)->MM (zA ([.st TI.node,.str,.bool]:LK)×Option (Option MT))
 c130:zA ([.bool]:LK)->MM (zA ([.st TI.node,.str,.bool]:LK))
 c81:zA ([]:LK)->MM (zA ([.st TI.node]:LK)×Option MT)
 c110:zA ([]:LK)->MM (zA ([.st TI.node]:LK))
 c151:zA ([]:LK)->MM (zA ([.st TI.node]:LK))
 c83:zA ([]:LK)->MM (zA ([.st TI.node]:LK))
 c57:zA ([.st TI.node,.str,.bool]:LK)->MM (zA ([.st TI.node]:LK))
 c55:zA ([.ag [.ow true TI.node],.bool]:LK)->MM (zA ([.st TI.node]:LK))
 c37:zA ([.bool]:LK)->MM (zA ([.st TI.node]:LK))
 c60:zA ([]:LK)->MM (zA ([.st TI.node]:LK))
 c86:zA ([]:LK)->MM (zA ([.st TI.node]:LK))
 c116:zA ([.ag [.ow true TI.node]]:LK)->MM (zA ([.st TI.node]:LK))
 c115:zA ([]:LK)->List Nd->MM (zA ([]:LK)×List Nd)
 c117:zA ([.str]:LK)->List Nd->MM (zA ([]:LK)×List Nd)
 c113:zA ([]:LK)->MM (zA ([.st TI.node]:LK))
 c111:zA ([]:LK)->MM (zA ([.st TI.node]:LK))
 c114:zA ([]:LK)->MM (zA ([.st TI.node]:LK))
 c131:zA ([.int .i64]:LK)->MM (zA ([.st TI.node]:LK))
 c142:zA ([]:LK)->MM (zA ([.st TI.node]:LK))
 c150:zA ([]:LK)->MM (zA ([.st TI.node]:LK))
 c154:zA ([.st TI.node]:LK)->MM (zA ([.st TI.node]:LK))
 c155:zA ([]:LK)->MM (zA ([.st TI.node]:LK))
def RS.zero:RS where
 c53:=fun _ _ _=>none
 c74:=fun _ _ _=>none
 c107:=fun _ _ _=>none
 c75:=fun _ _ _=>none
 c108:=fun _ _ _=>none
 c79:=fun _ _ _ _=>none
 c82:=fun _ _ _ _=>none
 c56:=fun _ _ _=>none
 c130:=fun _ _ _=>none
 c81:=fun _ _ _=>none
 c110:=fun _ _ _=>none
 c151:=fun _ _ _=>none
 c83:=fun _ _ _=>none
 c57:=fun _ _ _=>none
 c55:=fun _ _ _=>none
 c37:=fun _ _ _=>none
 c60:=fun _ _ _=>none
 c86:=fun _ _ _=>none
 c116:=fun _ _ _=>none
 c115:=fun _ _ _ _=>none
 c117:=fun _ _ _ _=>none
 c113:=fun _ _ _=>none
 c111:=fun _ _ _=>none
 c114:=fun _ _ _=>none
 c131:=fun _ _ _=>none
 c142:=fun _ _ _=>none
 c150:=fun _ _ _=>none
 c154:=fun _ _ _=>none
 c155:=fun _ _ _=>none
structure ROk (r:RS):Prop where
 h53:CPOk CC Tryz.prog syn 53 (cM (([]:LK)) (([.st TI.node,.bool]:LK)) r.c53)
 h74:CPOk CC Tryz.prog syn 74 (cM (([]:LK)) (([.st TI.node]:LK)) r.c74)
 h107:CPOk CC Tryz.prog syn 107 (cM (([]:LK)) (([.st TI.node]:LK)) r.c107)
 h75:CPOk CC Tryz.prog syn 75 (cM (([]:LK)) (([.st TI.node]:LK)) r.c75)
 h108:CPOk CC Tryz.prog syn 108 (cM (([]:LK)) (([.st TI.node]:LK)) r.c108)
 h79:CPOk CC Tryz.prog syn 79 (cX (([]:LK)) (([]:LK)) r.c79)
 h82:CPOk CC Tryz.prog syn 82 (cX (([]:LK)) (([]:LK)) r.c82)
 h56:CPOk CC Tryz.prog syn 56 (cN (([]:LK)) (([.st TI.node,.str,.bool]:LK)) r.c56)
 h130:CPOk CC Tryz.prog syn 130 (cM (([.bool]:LK)) (([.st TI.node,.str,.bool]:LK)) r.c130)
 h81:CPOk CC Tryz.prog syn 81 (cL (([]:LK)) (([.st TI.node]:LK)) r.c81)
 h110:CPOk CC Tryz.prog syn 110 (cM (([]:LK)) (([.st TI.node]:LK)) r.c110)
 h151:CPOk CC Tryz.prog syn 151 (cM (([]:LK)) (([.st TI.node]:LK)) r.c151)
 h83:CPOk CC Tryz.prog syn 83 (cM (([]:LK)) (([.st TI.node]:LK)) r.c83)
 h57:CPOk CC Tryz.prog syn 57 (cM (([.st TI.node,.str,.bool]:LK)) (([.st TI.node]:LK)) r.c57)
 h55:CPOk CC Tryz.prog syn 55 (cM (([.ag [.ow true TI.node],.bool]:LK)) (([.st TI.node]:LK)) r.c55)
 h37:CPOk CC Tryz.prog syn 37 (cM (([.bool]:LK)) (([.st TI.node]:LK)) r.c37)
 h60:CPOk CC Tryz.prog syn 60 (cM (([]:LK)) (([.st TI.node]:LK)) r.c60)
 h86:CPOk CC Tryz.prog syn 86 (cM (([]:LK)) (([.st TI.node]:LK)) r.c86)
 h116:CPOk CC Tryz.prog syn 116 (cM (([.ag [.ow true TI.node]]:LK)) (([.st TI.node]:LK)) r.c116)
 h115:CPOk CC Tryz.prog syn 115 (cX (([]:LK)) (([]:LK)) r.c115)
 h117:CPOk CC Tryz.prog syn 117 (cX (([.str]:LK)) (([]:LK)) r.c117)
 h113:CPOk CC Tryz.prog syn 113 (cM (([]:LK)) (([.st TI.node]:LK)) r.c113)
 h111:CPOk CC Tryz.prog syn 111 (cM (([]:LK)) (([.st TI.node]:LK)) r.c111)
 h114:CPOk CC Tryz.prog syn 114 (cM (([]:LK)) (([.st TI.node]:LK)) r.c114)
 h131:CPOk CC Tryz.prog syn 131 (cM (([.int .i64]:LK)) (([.st TI.node]:LK)) r.c131)
 h142:CPOk CC Tryz.prog syn 142 (cM (([]:LK)) (([.st TI.node]:LK)) r.c142)
 h150:CPOk CC Tryz.prog syn 150 (cM (([]:LK)) (([.st TI.node]:LK)) r.c150)
 h154:CPOk CC Tryz.prog syn 154 (cM (([.st TI.node]:LK)) (([.st TI.node]:LK)) r.c154)
 h155:CPOk CC Tryz.prog syn 155 (cM (([]:LK)) (([.st TI.node]:LK)) r.c155)
theorem ROk.zero:ROk RS.zero:=⟨(fun _ _ _ _ _ _ h=>by cases h),(fun _ _ _ _ _ _ h=>by cases h),(fun _ _ _ _ _ _ h=>by cases h),(fun _ _ _ _ _ _ h=>by cases h),(fun _ _ _ _ _ _ h=>by cases h),(fun _ _ _ _ _ _ h=>by cases h),(fun _ _ _ _ _ _ h=>by cases h),(fun _ _ _ _ _ _ h=>by cases h),(fun _ _ _ _ _ _ h=>by cases h),(fun _ _ _ _ _ _ h=>by cases h),(fun _ _ _ _ _ _ h=>by cases h),(fun _ _ _ _ _ _ h=>by cases h),(fun _ _ _ _ _ _ h=>by cases h),(fun _ _ _ _ _ _ h=>by cases h),(fun _ _ _ _ _ _ h=>by cases h),(fun _ _ _ _ _ _ h=>by cases h),(fun _ _ _ _ _ _ h=>by cases h),(fun _ _ _ _ _ _ h=>by cases h),(fun _ _ _ _ _ _ h=>by cases h),(fun _ _ _ _ _ _ h=>by cases h),(fun _ _ _ _ _ _ h=>by cases h),(fun _ _ _ _ _ _ h=>by cases h),(fun _ _ _ _ _ _ h=>by cases h),(fun _ _ _ _ _ _ h=>by cases h),(fun _ _ _ _ _ _ h=>by cases h),(fun _ _ _ _ _ _ h=>by cases h),(fun _ _ _ _ _ _ h=>by cases h),(fun _ _ _ _ _ _ h=>by cases h),(fun _ _ _ _ _ _ h=>by cases h)⟩
def oC (p:PS):Nat->Option (Con UU):=zB [(33,⟨as33,rs33,p.c33⟩),(143,⟨zCz,zCT,p.c143⟩)]
def oR:Nat->Option (CR UU):=zB [(38,kh)]
noncomputable def iI:Nat->Option (FD UU):=zB [(36,fd36),(41,fd41)]
def oA (p:PS) (r:RS) (a b:Bool):Nat->Option (CP UU):=zB [(53,cM ([]:LK) ([.st TI.node,.bool]:LK) r.c53),(74,cM ([]:LK) ([.st TI.node]:LK) r.c74),(107,cM ([]:LK) ([.st TI.node]:LK) r.c107),(75,cM ([]:LK) ([.st TI.node]:LK) r.c75),(108,cM ([]:LK) ([.st TI.node]:LK) r.c108),(79,cX ([]:LK) ([]:LK) r.c79),(82,cX ([]:LK) ([]:LK) r.c82),(56,cond a (cNj ([]:LK) ([.st TI.node,.str,.bool]:LK) r.c56) (cN ([]:LK) ([.st TI.node,.str,.bool]:LK) r.c56)),(130,cM ([.bool]:LK) ([.st TI.node,.str,.bool]:LK) r.c130),(81,cond b (cLj ([]:LK) ([.st TI.node]:LK) r.c81) (cL ([]:LK) ([.st TI.node]:LK) r.c81)),(110,cM ([]:LK) ([.st TI.node]:LK) r.c110),(151,cM ([]:LK) ([.st TI.node]:LK) r.c151),(83,cM ([]:LK) ([.st TI.node]:LK) r.c83),(57,cM ([.st TI.node,.str,.bool]:LK) ([.st TI.node]:LK) r.c57),(55,cM ([.ag [.ow true TI.node],.bool]:LK) ([.st TI.node]:LK) r.c55),(37,cM ([.bool]:LK) ([.st TI.node]:LK) r.c37),(60,cM ([]:LK) ([.st TI.node]:LK) r.c60),(86,cM ([]:LK) ([.st TI.node]:LK) r.c86),(116,cM ([.ag [.ow true TI.node]]:LK) ([.st TI.node]:LK) r.c116),(115,cX ([]:LK) ([]:LK) r.c115),(117,cX ([.str]:LK) ([]:LK) r.c117),(113,cM ([]:LK) ([.st TI.node]:LK) r.c113),(111,cM ([]:LK) ([.st TI.node]:LK) r.c111),(114,cM ([]:LK) ([.st TI.node]:LK) r.c114),(131,cM ([.int .i64]:LK) ([.st TI.node]:LK) r.c131),(142,cM ([]:LK) ([.st TI.node]:LK) r.c142),(150,cM ([]:LK) ([.st TI.node]:LK) r.c150),(154,cM ([.st TI.node]:LK) ([.st TI.node]:LK) r.c154),(155,cM ([]:LK) ([.st TI.node]:LK) r.c155),(54,cJ ([.dl TI.str]:LK) ([.bool]:LK) p.c54),(72,cJ ([.int .i64]:LK) ([.str]:LK) p.c72),(73,cM ([]:LK) ([.st TI.node]:LK) p.c73),(76,cM ([.int .i64]:LK) ([.bool]:LK) p.c76),(78,cM ([.str]:LK) ([.st TI.node]:LK) p.c78),(80,cM ([]:LK) ([.st TI.node]:LK) p.c80),(84,cM ([.int .i64]:LK) ([.bool]:LK) p.c84),(85,cM ([.int .i64]:LK) ([.bool]:LK) p.c85),(112,cM ([.int .i64]:LK) ([.bool]:LK) p.c112),(58,cM ([.str,.bool]:LK) ([]:LK) p.c58),(59,cM ([.mpo]:LK) ([]:LK) p.c59),(61,cM ([]:LK) ([.mpo]:LK) p.c61),(77,zAB)]
theorem oA_ok {p:PS} (hp:POk p) {r:RS} (hr:ROk r) (a b:Bool):∀ f c,oA p r a b f=some c->zP Tryz.prog f=true/\CPOk CC Tryz.prog syn f c:=
 zE ⟨code53,hr.h53⟩ (zE ⟨code74,hr.h74⟩ (zE ⟨zQc,hr.h107⟩ (zE ⟨code75,hr.h75⟩ (zE ⟨zQK,hr.h108⟩ (zE ⟨code79,hr.h79⟩ (zE ⟨code82,hr.h82⟩ (zE ⟨code56,by cases a; exact hr.h56; exact cNj_of hr.h56⟩ (zE ⟨zQg,hr.h130⟩ (zE ⟨code81,by cases b; exact hr.h81; exact cLj_of hr.h81⟩ (zE ⟨zPD,hr.h110⟩ (zE ⟨zQZ,hr.h151⟩ (zE ⟨code83,hr.h83⟩ (zE ⟨code57,hr.h57⟩ (zE ⟨code55,hr.h55⟩ (zE ⟨zL7,hr.h37⟩ (zE ⟨code60,hr.h60⟩ (zE ⟨code86,hr.h86⟩ (zE ⟨zPq,hr.h116⟩ (zE ⟨zQL,hr.h115⟩ (zE ⟨zQD,hr.h117⟩ (zE ⟨zQF,hr.h113⟩ (zE ⟨zQX,hr.h111⟩ (zE ⟨zP1,hr.h114⟩ (zE ⟨zOz,hr.h131⟩ (zE ⟨zO3,hr.h142⟩ (zE ⟨zPO,hr.h150⟩ (zE ⟨zP5,hr.h154⟩ (zE ⟨zQd,hr.h155⟩ (zE ⟨zMn,hp.h54⟩ (zE ⟨zIM,hp.h72⟩ (zE ⟨zIO,hp.h73⟩ (zE ⟨zNI,hp.h76⟩ (zE ⟨code78,hp.h78⟩ (zE ⟨code80,hp.h80⟩ (zE ⟨code84,hp.h84⟩ (zE ⟨zM3,hp.h85⟩ (zE ⟨zPi,hp.h112⟩ (zE ⟨code58,hp.h58⟩ (zE ⟨code59,hp.h59⟩ (zE ⟨code61,hp.h61⟩ (zE ⟨zFm,hp.h77⟩ zD)))))))))))))))))))))))))))))))))))))))))
noncomputable def rnA (fu:Nat) (p:PS) (r:RS) (a b:Bool) (fd:FD UU) (io oo aa rs:LK) (x:zA io) (y:zA aa):Option (Option (zA oo×zA rs)):=runP CC Tb fu 4 iI (oC p) oR (oA p r a b) fd io oo aa rs x y
theorem xC (fu:Nat) {p:PS} (hp:POk p) {r:RS} (hr:ROk r) {a b:Bool} {f:Nat} {fd:FD UU} (hfd:FDOk Tryz.prog (hasN [33,143]) (hasN [38]) f fd) {io oo aa rs:LK} (hlen:io.length+aa.length<=fd.n) {sh:zA io->zA aa->Option (Option (zA oo×zA rs))}
 (e:∀ x y,rnA fu p r a b fd io oo aa rs x y=sh x y):CPOk CC Tryz.prog syn f ⟨io,oo,aa,rs,fnP sh⟩:=
 xl (syn:=syn) (fu:=fu) (d:=4) (inl:=iI) (orc:=oC p) (orr:=oR) (orp:=oA p r a b) (pf:=hasN [33,143]) (rf:=hasN [38]) yk CCok mixed (fun g=>(zL (α:=Con UU) (l:=[(33,⟨as33,rs33,p.c33⟩),(143,⟨zCz,zCT,p.c143⟩)]) g).symm) (fun g=>(zL (α:=CR UU) (l:=[(38,kh)]) g).symm)
  (zE zQn (zE zP7 zD)) (zE ⟨zFd,hp.h33⟩ (zE ⟨zPX,hp.h143⟩ zD)) (zE ⟨zJX,hp.h38⟩ zD) (oA_ok hp hr a b) hfd hlen e
end
section
open Go.Al Go.Den
def sh53 (fu:Nat) (c33:((List Str)×(Str×Unit))->(Option (Bool×Unit))) (c72:(Int×Unit)->MM (Str×Unit)) (c73:Unit->MM (Nd×Unit)) (c74:Unit->MM (Nd×Unit)) (c75:Unit->MM (Nd×Unit)) (c76:(Int×Unit)->MM (Bool×Unit)) (x:(ParT×Unit)) (a:Unit):(Option (Option ((ParT×Unit)×(Nd×(Bool×Unit))))):=iter fu (fun (rec1:((Bool×(Bool×(Bool×Unit)))×(ParT×(JT×(NdsT×Unit))))->Option (Option ((ParT×Unit)×(Nd×(Bool×Unit))))) (s1:((Bool×(Bool×(Bool×Unit)))×(ParT×(JT×(NdsT×Unit)))))=>bo (c72 (0,()) s1.2.1.1 (s1.2.1.2.1,s1.2.1.2.2.1)) fun y1=>zR (fun (join0:((Bool×Unit)×(ParT×(JT×(NdsT×Unit))))->Option (Option ((ParT×Unit)×(Nd×(Bool×Unit)))))=>Option.bind (c33 ([[99,111,110,115,116],[101,120,116,101,114,110],[105,110,108,105,110,101],[114,101,103,105,115,116,101,114],[115,116,97,116,105,99],[97,117,116,111],[116,121,112,101,100,101,102],[118,111,108,97,116,105,108,101]],(y1.1.1,()))) fun y2=>cond y2.1 (cond s1.1.1 (bo (c73 () s1.2.1.1 (y1.2.1,y1.2.2)) fun y4=>ck ((List.length s1.2.2.2.1.1)+(List.length [(ndE y4.1.1)])) (rec1 ((true,(s1.1.2.1,(s1.1.2.2.1,()))),((s1.2.1.1,(y4.2.1,(y4.2.2,((),())))),(s1.2.2.1,(((s1.2.2.2.1.1++[(ndE y4.1.1)]),()),())))))) (bo (c73 () s1.2.1.1 (y1.2.1,y1.2.2)) fun y4=>ck ((List.length s1.2.2.2.1.1)+(List.length [(ndE y4.1.1)])) (rec1 (((seq y1.1.1 [116,121,112,101,100,101,102]),(s1.1.2.1,(s1.1.2.2.1,()))),((s1.2.1.1,(y4.2.1,(y4.2.2,((),())))),(s1.2.2.1,(((s1.2.2.2.1.1++[(ndE y4.1.1)]),()),()))))))) (Option.bind (c33 ([[99,104,97,114],[100,111,117,98,108,101],[102,108,111,97,116],[105,110,116],[108,111,110,103],[115,104,111,114,116],[115,105,103,110,101,100],[117,110,115,105,103,110,101,100],[118,111,105,100]],(y1.1.1,()))) fun y3=>cond y3.1 (cond (!s1.1.2.2.1) (bo (c73 () s1.2.1.1 (y1.2.1,y1.2.2)) fun y5=>ck ((List.length s1.2.2.2.1.1)+(List.length [(ndE y5.1.1)])) (rec1 ((s1.1.1,(true,(s1.1.2.2.1,()))),((s1.2.1.1,(y5.2.1,(y5.2.2,((),())))),(s1.2.2.1,(((s1.2.2.2.1.1++[(ndE y5.1.1)]),()),())))))) (cond s1.1.2.1 (join0 ((s1.1.1,()),((s1.2.1.1,(y1.2.1,(y1.2.2,((),())))),(s1.2.2.1,((s1.2.2.2.1.1,()),()))))) (cond s1.1.2.2.1 (join0 ((s1.1.1,()),((s1.2.1.1,(y1.2.1,(y1.2.2,((),())))),(s1.2.2.1,((s1.2.2.2.1.1,()),()))))) (cond (seq y1.1.1 [115,116,114,117,99,116]) (bo (c74 () s1.2.1.1 (y1.2.1,y1.2.2)) fun y5=>ck ((List.length s1.2.2.2.1.1)+(List.length [(ndE y5.1.1)])) (rec1 ((s1.1.1,(s1.1.2.1,(true,()))),((s1.2.1.1,(y5.2.1,(y5.2.2,((),())))),(s1.2.2.1,(((s1.2.2.2.1.1++[(ndE y5.1.1)]),()),())))))) (cond (seq y1.1.1 [117,110,105,111,110]) (bo (c74 () s1.2.1.1 (y1.2.1,y1.2.2)) fun y5=>ck ((List.length s1.2.2.2.1.1)+(List.length [(ndE y5.1.1)])) (rec1 ((s1.1.1,(s1.1.2.1,(true,()))),((s1.2.1.1,(y5.2.1,(y5.2.2,((),())))),(s1.2.2.1,(((s1.2.2.2.1.1++[(ndE y5.1.1)]),()),())))))) (cond (seq y1.1.1 [101,110,117,109]) (bo (c75 () s1.2.1.1 (y1.2.1,y1.2.2)) fun y5=>ck ((List.length s1.2.2.2.1.1)+(List.length [(ndE y5.1.1)])) (rec1 ((s1.1.1,(s1.1.2.1,(true,()))),((s1.2.1.1,(y5.2.1,(y5.2.2,((),())))),(s1.2.2.1,(((s1.2.2.2.1.1++[(ndE y5.1.1)]),()),())))))) (bo (c76 (0,()) s1.2.1.1 (y1.2.1,y1.2.2)) fun y5=>cond y5.1.1 (bo (c73 () s1.2.1.1 (y5.2.1,y5.2.2)) fun y7=>ck ((List.length s1.2.2.2.1.1)+(List.length [(ndE y7.1.1)])) (rec1 ((s1.1.1,(s1.1.2.1,(true,()))),((s1.2.1.1,(y7.2.1,(y7.2.2,((),())))),(s1.2.2.1,(((s1.2.2.2.1.1++[(ndE y7.1.1)]),()),())))))) (join0 ((s1.1.1,()),((s1.2.1.1,(y5.2.1,(y5.2.2,((),())))),(s1.2.2.1,((s1.2.2.2.1.1,()),())))))))))))) (cond s1.1.2.1 (join0 ((s1.1.1,()),((s1.2.1.1,(y1.2.1,(y1.2.2,((),())))),(s1.2.2.1,((s1.2.2.2.1.1,()),()))))) (cond s1.1.2.2.1 (join0 ((s1.1.1,()),((s1.2.1.1,(y1.2.1,(y1.2.2,((),())))),(s1.2.2.1,((s1.2.2.2.1.1,()),()))))) (cond (seq y1.1.1 [115,116,114,117,99,116]) (bo (c74 () s1.2.1.1 (y1.2.1,y1.2.2)) fun y5=>ck ((List.length s1.2.2.2.1.1)+(List.length [(ndE y5.1.1)])) (rec1 ((s1.1.1,(s1.1.2.1,(true,()))),((s1.2.1.1,(y5.2.1,(y5.2.2,((),())))),(s1.2.2.1,(((s1.2.2.2.1.1++[(ndE y5.1.1)]),()),())))))) (cond (seq y1.1.1 [117,110,105,111,110]) (bo (c74 () s1.2.1.1 (y1.2.1,y1.2.2)) fun y5=>ck ((List.length s1.2.2.2.1.1)+(List.length [(ndE y5.1.1)])) (rec1 ((s1.1.1,(s1.1.2.1,(true,()))),((s1.2.1.1,(y5.2.1,(y5.2.2,((),())))),(s1.2.2.1,(((s1.2.2.2.1.1++[(ndE y5.1.1)]),()),())))))) (cond (seq y1.1.1 [101,110,117,109]) (bo (c75 () s1.2.1.1 (y1.2.1,y1.2.2)) fun y5=>ck ((List.length s1.2.2.2.1.1)+(List.length [(ndE y5.1.1)])) (rec1 ((s1.1.1,(s1.1.2.1,(true,()))),((s1.2.1.1,(y5.2.1,(y5.2.2,((),())))),(s1.2.2.1,(((s1.2.2.2.1.1++[(ndE y5.1.1)]),()),())))))) (bo (c76 (0,()) s1.2.1.1 (y1.2.1,y1.2.2)) fun y5=>cond y5.1.1 (bo (c73 () s1.2.1.1 (y5.2.1,y5.2.2)) fun y7=>ck ((List.length s1.2.2.2.1.1)+(List.length [(ndE y7.1.1)])) (rec1 ((s1.1.1,(s1.1.2.1,(true,()))),((s1.2.1.1,(y7.2.1,(y7.2.2,((),())))),(s1.2.2.1,(((s1.2.2.2.1.1++[(ndE y7.1.1)]),()),())))))) (join0 ((s1.1.1,()),((s1.2.1.1,(y5.2.1,(y5.2.2,((),())))),(s1.2.2.1,((s1.2.2.2.1.1,()),()))))))))))))) (fun (t0:((Bool×Unit)×(ParT×(JT×(NdsT×Unit)))))=>cond (ilt 0 (lenI t0.2.2.2.1.1)) (some (some (((t0.2.1.1,(t0.2.1.2.1,(t0.2.1.2.2.1,((),())))),()),((ndE (Nd.mk 4 0 t0.2.2.2.1.1)),(t0.1.1,()))))) (some none))) ((false,(false,(false,()))),((x.1.1,(x.1.2.1,(x.1.2.2.1,((),())))),((0,(0,([],()))),(([],()),()))))
theorem eq53 (fu:Nat) (p:PS) (r:RS) x a:rnA fu p r false false fd53 [parK] [parK] ([]:LK) ([.st TI.node,.bool]:LK) x a=sh53 fu p.c33 p.c72 p.c73 r.c74 r.c75 p.c76 x a:=by kernel_rfl
def sh74 (fu:Nat) (c54:((List Str)×Unit)->MM (Bool×Unit)) (c73:Unit->MM (Nd×Unit)) (c85:(Int×Unit)->MM (Bool×Unit)) (c107:Unit->MM (Nd×Unit)) (x:(ParT×Unit)) (a:Unit):(Option (Option ((ParT×Unit)×(Nd×Unit)))):=bo (c73 () x.1.1 (x.1.2.1,x.1.2.2.1)) fun y1=>ck (List.length [(ndE y1.1.1)]) (bo (c85 (0,()) x.1.1 (y1.2.1,y1.2.2)) fun y3=>cond y3.1.1 (zR (fun (join0:(Unit×(ParT×(JT×(NdsT×Unit))))->Option (Option ((ParT×Unit)×(Nd×Unit))))=>bo (c85 (0,()) x.1.1 (y3.2.1,y3.2.2)) fun y5=>cond y5.1.1 (bo (c73 () x.1.1 (y5.2.1,y5.2.2)) fun y7=>ck ((List.length [(ndE y1.1.1)])+(List.length [(ndE y7.1.1)])) (join0 ((),((x.1.1,(y7.2.1,(y7.2.2,((),())))),((0,(0,([],()))),((([(ndE y1.1.1)]++[(ndE y7.1.1)]),()),())))))) (join0 ((),((x.1.1,(y5.2.1,(y5.2.2,((),())))),((0,(0,([],()))),(([(ndE y1.1.1)],()),())))))) (fun (t0:(Unit×(ParT×(JT×(NdsT×Unit)))))=>bo (c54 ([[123]],()) t0.2.1.1 (t0.2.1.2.1,t0.2.1.2.2.1)) fun y5=>cond (!y5.1.1) (some (some (((t0.2.1.1,(y5.2.1,(y5.2.2,((),())))),()),((ndE (Nd.mk 5 0 t0.2.2.2.1.1)),())))) (bo (c73 () t0.2.1.1 (y5.2.1,y5.2.2)) fun y7=>ck ((List.length t0.2.2.2.1.1)+(List.length [(ndE y7.1.1)])) (iter fu (fun (rec1:(Unit×(ParT×(JT×(NdsT×Unit))))->Option (Option ((ParT×Unit)×(Nd×Unit)))) (s1:(Unit×(ParT×(JT×(NdsT×Unit)))))=>bo (c54 ([[125]],()) s1.2.1.1 (s1.2.1.2.1,s1.2.1.2.2.1)) fun y9=>cond (!y9.1.1) (bo (c107 () s1.2.1.1 (y9.2.1,y9.2.2)) fun y11=>ck ((List.length s1.2.2.2.1.1)+(List.length [(ndE y11.1.1)])) (rec1 ((),((s1.2.1.1,(y11.2.1,(y11.2.2,((),())))),(s1.2.2.1,(((s1.2.2.2.1.1++[(ndE y11.1.1)]),()),())))))) (bo (c73 () s1.2.1.1 (y9.2.1,y9.2.2)) fun y11=>ck ((List.length s1.2.2.2.1.1)+(List.length [(ndE y11.1.1)])) (some (some (((s1.2.1.1,(y11.2.1,(y11.2.2,((),())))),()),((ndE (Nd.mk 5 0 (s1.2.2.2.1.1++[(ndE y11.1.1)]))),())))))) ((),((t0.2.1.1,(y7.2.1,(y7.2.2,((),())))),(t0.2.2.1,(((t0.2.2.2.1.1++[(ndE y7.1.1)]),()),())))))))) (bo (c54 ([[123]],()) x.1.1 (y3.2.1,y3.2.2)) fun y5=>cond y5.1.1 (zR (fun (join0:(Unit×(ParT×(JT×(NdsT×Unit))))->Option (Option ((ParT×Unit)×(Nd×Unit))))=>bo (c85 (0,()) x.1.1 (y5.2.1,y5.2.2)) fun y7=>cond y7.1.1 (bo (c73 () x.1.1 (y7.2.1,y7.2.2)) fun y9=>ck ((List.length [(ndE y1.1.1)])+(List.length [(ndE y9.1.1)])) (join0 ((),((x.1.1,(y9.2.1,(y9.2.2,((),())))),((0,(0,([],()))),((([(ndE y1.1.1)]++[(ndE y9.1.1)]),()),())))))) (join0 ((),((x.1.1,(y7.2.1,(y7.2.2,((),())))),((0,(0,([],()))),(([(ndE y1.1.1)],()),())))))) (fun (t0:(Unit×(ParT×(JT×(NdsT×Unit)))))=>bo (c54 ([[123]],()) t0.2.1.1 (t0.2.1.2.1,t0.2.1.2.2.1)) fun y7=>cond (!y7.1.1) (some (some (((t0.2.1.1,(y7.2.1,(y7.2.2,((),())))),()),((ndE (Nd.mk 5 0 t0.2.2.2.1.1)),())))) (bo (c73 () t0.2.1.1 (y7.2.1,y7.2.2)) fun y9=>ck ((List.length t0.2.2.2.1.1)+(List.length [(ndE y9.1.1)])) (iter fu (fun (rec1:(Unit×(ParT×(JT×(NdsT×Unit))))->Option (Option ((ParT×Unit)×(Nd×Unit)))) (s1:(Unit×(ParT×(JT×(NdsT×Unit)))))=>bo (c54 ([[125]],()) s1.2.1.1 (s1.2.1.2.1,s1.2.1.2.2.1)) fun y11=>cond (!y11.1.1) (bo (c107 () s1.2.1.1 (y11.2.1,y11.2.2)) fun y13=>ck ((List.length s1.2.2.2.1.1)+(List.length [(ndE y13.1.1)])) (rec1 ((),((s1.2.1.1,(y13.2.1,(y13.2.2,((),())))),(s1.2.2.1,(((s1.2.2.2.1.1++[(ndE y13.1.1)]),()),())))))) (bo (c73 () s1.2.1.1 (y11.2.1,y11.2.2)) fun y13=>ck ((List.length s1.2.2.2.1.1)+(List.length [(ndE y13.1.1)])) (some (some (((s1.2.1.1,(y13.2.1,(y13.2.2,((),())))),()),((ndE (Nd.mk 5 0 (s1.2.2.2.1.1++[(ndE y13.1.1)]))),())))))) ((),((t0.2.1.1,(y9.2.1,(y9.2.2,((),())))),(t0.2.2.1,(((t0.2.2.2.1.1++[(ndE y9.1.1)]),()),())))))))) (some none)))
theorem eq74 (fu:Nat) (p:PS) (r:RS) x a:rnA fu p r false false fd74 [parK] [parK] ([]:LK) ([.st TI.node]:LK) x a=sh74 fu p.c54 p.c73 p.c85 r.c107 x a:=by kernel_rfl
def sh107 (fu:Nat) (c53:Unit->MM (Nd×(Bool×Unit))) (c54:((List Str)×Unit)->MM (Bool×Unit)) (c56:Unit->MM ((Nd×(Str×(Bool×Unit)))×(Option (Option MT)))) (c73:Unit->MM (Nd×Unit)) (c78:(Str×Unit)->MM (Nd×Unit)) (x:(ParT×Unit)) (a:Unit):(Option (Option ((ParT×Unit)×(Nd×Unit)))):=bo (c53 () x.1.1 (x.1.2.1,x.1.2.2.1)) fun y1=>ck (List.length [(ndE y1.1.1)]) (bo (c54 ([[59]],()) x.1.1 (y1.2.1,y1.2.2)) fun y3=>iter fu (fun (rec1:((Bool×Unit)×(ParT×(JT×(NdsT×Unit))))->Option (Option ((ParT×Unit)×(Nd×Unit)))) (s1:((Bool×Unit)×(ParT×(JT×(NdsT×Unit)))))=>cond s1.1.1 (zR (fun (join0:(Unit×(ParT×(JT×(NdsT×Unit))))->Option (Option ((ParT×Unit)×(Nd×Unit))))=>cond (ilt 1 (lenI s1.2.2.2.1.1)) (bo (c73 () s1.2.1.1 (s1.2.1.2.1,s1.2.1.2.2.1)) fun y5=>ck ((List.length s1.2.2.2.1.1)+(List.length [(ndE y5.1.1)])) (join0 ((),((s1.2.1.1,(y5.2.1,(y5.2.2,((),())))),(s1.2.2.1,(((s1.2.2.2.1.1++[(ndE y5.1.1)]),()),())))))) (join0 ((),((s1.2.1.1,(s1.2.1.2.1,(s1.2.1.2.2.1,((),())))),(s1.2.2.1,((s1.2.2.2.1.1,()),())))))) (fun (t0:(Unit×(ParT×(JT×(NdsT×Unit)))))=>bo (c56 () t0.2.1.1 (t0.2.1.2.1,t0.2.1.2.2.1)) fun y5=>ck ((List.length t0.2.2.2.1.1)+(List.length [(ndE y5.1.1.1)])) (bo (c54 ([[44]],()) t0.2.1.1 (y5.2.1,y5.2.2)) fun y7=>rec1 ((y7.1.1,()),((t0.2.1.1,(y7.2.1,(y7.2.2,((),())))),(t0.2.2.1,(((t0.2.2.2.1.1++[(ndE y5.1.1.1)]),()),()))))))) (bo (c78 ([59],()) s1.2.1.1 (s1.2.1.2.1,s1.2.1.2.2.1)) fun y5=>ck ((List.length s1.2.2.2.1.1)+(List.length [(ndE y5.1.1)])) (some (some (((s1.2.1.1,(y5.2.1,(y5.2.2,((),())))),()),((ndE (Nd.mk 7 0 (s1.2.2.2.1.1++[(ndE y5.1.1)]))),())))))) (((!y3.1.1),()),((x.1.1,(y3.2.1,(y3.2.2,((),())))),((0,(0,([],()))),(([(ndE y1.1.1)],()),())))))
theorem eq107 (fu:Nat) (p:PS) (r:RS) x a:rnA fu p r true false fd107 [parK] [parK] ([]:LK) ([.st TI.node]:LK) x a=sh107 fu r.c53 p.c54 r.c56 p.c73 p.c78 x a:=by kernel_rfl
def sh75 (fu:Nat) (c54:((List Str)×Unit)->MM (Bool×Unit)) (c73:Unit->MM (Nd×Unit)) (c78:(Str×Unit)->MM (Nd×Unit)) (c85:(Int×Unit)->MM (Bool×Unit)) (c108:Unit->MM (Nd×Unit)) (x:(ParT×Unit)) (a:Unit):(Option (Option ((ParT×Unit)×(Nd×Unit)))):=bo (c73 () x.1.1 (x.1.2.1,x.1.2.2.1)) fun y1=>ck (List.length [(ndE y1.1.1)]) (bo (c85 (0,()) x.1.1 (y1.2.1,y1.2.2)) fun y3=>cond y3.1.1 (zR (fun (join0:(Unit×(ParT×(JT×(NdsT×Unit))))->Option (Option ((ParT×Unit)×(Nd×Unit))))=>bo (c85 (0,()) x.1.1 (y3.2.1,y3.2.2)) fun y5=>cond y5.1.1 (bo (c73 () x.1.1 (y5.2.1,y5.2.2)) fun y7=>ck ((List.length [(ndE y1.1.1)])+(List.length [(ndE y7.1.1)])) (join0 ((),((x.1.1,(y7.2.1,(y7.2.2,((),())))),((0,(0,([],()))),((([(ndE y1.1.1)]++[(ndE y7.1.1)]),()),())))))) (join0 ((),((x.1.1,(y5.2.1,(y5.2.2,((),())))),((0,(0,([],()))),(([(ndE y1.1.1)],()),())))))) (fun (t0:(Unit×(ParT×(JT×(NdsT×Unit)))))=>bo (c54 ([[123]],()) t0.2.1.1 (t0.2.1.2.1,t0.2.1.2.2.1)) fun y5=>cond (!y5.1.1) (some (some (((t0.2.1.1,(y5.2.1,(y5.2.2,((),())))),()),((ndE (Nd.mk 6 0 t0.2.2.2.1.1)),())))) (bo (c73 () t0.2.1.1 (y5.2.1,y5.2.2)) fun y7=>ck ((List.length t0.2.2.2.1.1)+(List.length [(ndE y7.1.1)])) (iter fu (fun (rec1:(Unit×(ParT×(JT×(NdsT×Unit))))->Option (Option ((ParT×Unit)×(Nd×Unit)))) (s1:(Unit×(ParT×(JT×(NdsT×Unit)))))=>bo (c108 () s1.2.1.1 (s1.2.1.2.1,s1.2.1.2.2.1)) fun y9=>ck ((List.length s1.2.2.2.1.1)+(List.length [(ndE y9.1.1)])) (zR (fun (join0:(Unit×(ParT×(JT×(NdsT×Unit))))->Option (Option ((ParT×Unit)×(Nd×Unit))))=>bo (c54 ([[44]],()) s1.2.1.1 (y9.2.1,y9.2.2)) fun y11=>cond y11.1.1 (bo (c73 () s1.2.1.1 (y11.2.1,y11.2.2)) fun y13=>ck ((List.length (s1.2.2.2.1.1++[(ndE y9.1.1)]))+(List.length [(ndE y13.1.1)])) (bo (c54 ([[125]],()) s1.2.1.1 (y13.2.1,y13.2.2)) fun y15=>cond (!y15.1.1) (rec1 ((),((s1.2.1.1,(y15.2.1,(y15.2.2,((),())))),(s1.2.2.1,((((s1.2.2.2.1.1++[(ndE y9.1.1)])++[(ndE y13.1.1)]),()),()))))) (join0 ((),((s1.2.1.1,(y15.2.1,(y15.2.2,((),())))),(s1.2.2.1,((((s1.2.2.2.1.1++[(ndE y9.1.1)])++[(ndE y13.1.1)]),()),()))))))) (join0 ((),((s1.2.1.1,(y11.2.1,(y11.2.2,((),())))),(s1.2.2.1,(((s1.2.2.2.1.1++[(ndE y9.1.1)]),()),())))))) (fun (t1:(Unit×(ParT×(JT×(NdsT×Unit)))))=>bo (c78 ([125],()) t1.2.1.1 (t1.2.1.2.1,t1.2.1.2.2.1)) fun y11=>ck ((List.length t1.2.2.2.1.1)+(List.length [(ndE y11.1.1)])) (some (some (((t1.2.1.1,(y11.2.1,(y11.2.2,((),())))),()),((ndE (Nd.mk 6 0 (t1.2.2.2.1.1++[(ndE y11.1.1)]))),()))))))) ((),((t0.2.1.1,(y7.2.1,(y7.2.2,((),())))),(t0.2.2.1,(((t0.2.2.2.1.1++[(ndE y7.1.1)]),()),())))))))) (bo (c54 ([[123]],()) x.1.1 (y3.2.1,y3.2.2)) fun y5=>cond y5.1.1 (zR (fun (join0:(Unit×(ParT×(JT×(NdsT×Unit))))->Option (Option ((ParT×Unit)×(Nd×Unit))))=>bo (c85 (0,()) x.1.1 (y5.2.1,y5.2.2)) fun y7=>cond y7.1.1 (bo (c73 () x.1.1 (y7.2.1,y7.2.2)) fun y9=>ck ((List.length [(ndE y1.1.1)])+(List.length [(ndE y9.1.1)])) (join0 ((),((x.1.1,(y9.2.1,(y9.2.2,((),())))),((0,(0,([],()))),((([(ndE y1.1.1)]++[(ndE y9.1.1)]),()),())))))) (join0 ((),((x.1.1,(y7.2.1,(y7.2.2,((),())))),((0,(0,([],()))),(([(ndE y1.1.1)],()),())))))) (fun (t0:(Unit×(ParT×(JT×(NdsT×Unit)))))=>bo (c54 ([[123]],()) t0.2.1.1 (t0.2.1.2.1,t0.2.1.2.2.1)) fun y7=>cond (!y7.1.1) (some (some (((t0.2.1.1,(y7.2.1,(y7.2.2,((),())))),()),((ndE (Nd.mk 6 0 t0.2.2.2.1.1)),())))) (bo (c73 () t0.2.1.1 (y7.2.1,y7.2.2)) fun y9=>ck ((List.length t0.2.2.2.1.1)+(List.length [(ndE y9.1.1)])) (iter fu (fun (rec1:(Unit×(ParT×(JT×(NdsT×Unit))))->Option (Option ((ParT×Unit)×(Nd×Unit)))) (s1:(Unit×(ParT×(JT×(NdsT×Unit)))))=>bo (c108 () s1.2.1.1 (s1.2.1.2.1,s1.2.1.2.2.1)) fun y11=>ck ((List.length s1.2.2.2.1.1)+(List.length [(ndE y11.1.1)])) (zR (fun (join0:(Unit×(ParT×(JT×(NdsT×Unit))))->Option (Option ((ParT×Unit)×(Nd×Unit))))=>bo (c54 ([[44]],()) s1.2.1.1 (y11.2.1,y11.2.2)) fun y13=>cond y13.1.1 (bo (c73 () s1.2.1.1 (y13.2.1,y13.2.2)) fun y15=>ck ((List.length (s1.2.2.2.1.1++[(ndE y11.1.1)]))+(List.length [(ndE y15.1.1)])) (bo (c54 ([[125]],()) s1.2.1.1 (y15.2.1,y15.2.2)) fun y17=>cond (!y17.1.1) (rec1 ((),((s1.2.1.1,(y17.2.1,(y17.2.2,((),())))),(s1.2.2.1,((((s1.2.2.2.1.1++[(ndE y11.1.1)])++[(ndE y15.1.1)]),()),()))))) (join0 ((),((s1.2.1.1,(y17.2.1,(y17.2.2,((),())))),(s1.2.2.1,((((s1.2.2.2.1.1++[(ndE y11.1.1)])++[(ndE y15.1.1)]),()),()))))))) (join0 ((),((s1.2.1.1,(y13.2.1,(y13.2.2,((),())))),(s1.2.2.1,(((s1.2.2.2.1.1++[(ndE y11.1.1)]),()),())))))) (fun (t1:(Unit×(ParT×(JT×(NdsT×Unit)))))=>bo (c78 ([125],()) t1.2.1.1 (t1.2.1.2.1,t1.2.1.2.2.1)) fun y13=>ck ((List.length t1.2.2.2.1.1)+(List.length [(ndE y13.1.1)])) (some (some (((t1.2.1.1,(y13.2.1,(y13.2.2,((),())))),()),((ndE (Nd.mk 6 0 (t1.2.2.2.1.1++[(ndE y13.1.1)]))),()))))))) ((),((t0.2.1.1,(y9.2.1,(y9.2.2,((),())))),(t0.2.2.1,(((t0.2.2.2.1.1++[(ndE y9.1.1)]),()),())))))))) (some none)))
theorem eq75 (fu:Nat) (p:PS) (r:RS) x a:rnA fu p r false false fd75 [parK] [parK] ([]:LK) ([.st TI.node]:LK) x a=sh75 fu p.c54 p.c73 p.c78 p.c85 r.c108 x a:=by kernel_rfl
def sh108 (fu:Nat) (c54:((List Str)×Unit)->MM (Bool×Unit)) (c58:(Str×(Bool×Unit))->MM Unit) (c72:(Int×Unit)->MM (Str×Unit)) (c73:Unit->MM (Nd×Unit)) (c80:Unit->MM (Nd×Unit)) (c114:Unit->MM (Nd×Unit)) (x:(ParT×Unit)) (a:Unit):(Option (Option ((ParT×Unit)×(Nd×Unit)))):=bo (c72 (0,()) x.1.1 (x.1.2.1,x.1.2.2.1)) fun y1=>bo (c80 () x.1.1 (y1.2.1,y1.2.2)) fun y3=>ck (List.length [(ndE y3.1.1)]) (bo (c54 ([[61]],()) x.1.1 (y3.2.1,y3.2.2)) fun y5=>cond y5.1.1 (bo (c73 () x.1.1 (y5.2.1,y5.2.2)) fun y7=>bo (c114 () x.1.1 (y7.2.1,y7.2.2)) fun y9=>ck ((List.length [(ndE y3.1.1)])+(List.length [(ndE y7.1.1),(ndE y9.1.1)])) (bo (c58 (y1.1.1,(false,())) x.1.1 (y9.2.1,y9.2.2)) fun y11=>some (some (((x.1.1,(y11.2.1,(y11.2.2,((),())))),()),((ndE (Nd.mk 8 0 ([(ndE y3.1.1)]++[(ndE y7.1.1),(ndE y9.1.1)]))),()))))) (bo (c58 (y1.1.1,(false,())) x.1.1 (y5.2.1,y5.2.2)) fun y7=>some (some (((x.1.1,(y7.2.1,(y7.2.2,((),())))),()),((ndE (Nd.mk 8 0 [(ndE y3.1.1)])),())))))
theorem eq108 (fu:Nat) (p:PS) (r:RS) x a:rnA fu p r false false fd108 [parK] [parK] ([]:LK) ([.st TI.node]:LK) x a=sh108 fu p.c54 p.c58 p.c72 p.c73 p.c80 r.c114 x a:=by kernel_rfl
def sh79 (fu:Nat) (c54:((List Str)×Unit)->MM (Bool×Unit)) (c73:Unit->MM (Nd×Unit)) (x:(ParT×(NdsT×Unit))) (a:Unit):(Option (Option ((ParT×(NdsT×Unit))×Unit))):=iter fu (fun (rec1:(Unit×(ParT×(NdsT×Unit)))->Option (Option ((ParT×(NdsT×Unit))×Unit))) (s1:(Unit×(ParT×(NdsT×Unit))))=>bo (c54 ([[42]],()) s1.2.1.1 (s1.2.1.2.1,s1.2.1.2.2.1)) fun y1=>cond y1.1.1 (bo (c73 () s1.2.1.1 (y1.2.1,y1.2.2)) fun y3=>ck ((List.length s1.2.2.1.1)+(List.length [(ndE y3.1.1)])) (iter fu (fun (rec2:(Unit×(ParT×(NdsT×Unit)))->Option (Option ((ParT×(NdsT×Unit))×Unit))) (s2:(Unit×(ParT×(NdsT×Unit))))=>bo (c54 ([[99,111,110,115,116],[118,111,108,97,116,105,108,101]],()) s2.2.1.1 (s2.2.1.2.1,s2.2.1.2.2.1)) fun y5=>cond y5.1.1 (bo (c73 () s2.2.1.1 (y5.2.1,y5.2.2)) fun y7=>ck ((List.length s2.2.2.1.1)+(List.length [(ndE y7.1.1)])) (rec2 ((),((s2.2.1.1,(y7.2.1,(y7.2.2,((),())))),(((s2.2.2.1.1++[(ndE y7.1.1)]),()),()))))) (rec1 ((),((s2.2.1.1,(y5.2.1,(y5.2.2,((),())))),((s2.2.2.1.1,()),()))))) ((),((s1.2.1.1,(y3.2.1,(y3.2.2,((),())))),(((s1.2.2.1.1++[(ndE y3.1.1)]),()),()))))) (some (some (((s1.2.1.1,(y1.2.1,(y1.2.2,((),())))),((s1.2.2.1.1,()),())),())))) ((),((x.1.1,(x.1.2.1,(x.1.2.2.1,((),())))),((x.2.1.1,()),())))
theorem eq79 (fu:Nat) (p:PS) (r:RS) x a:rnA fu p r false false fd79 [parK,ptsK] [parK,ptsK] ([]:LK) ([]:LK) x a=sh79 fu p.c54 p.c73 x a:=by kernel_rfl
def sh82 (fu:Nat) (c54:((List Str)×Unit)->MM (Bool×Unit)) (c73:Unit->MM (Nd×Unit)) (c78:(Str×Unit)->MM (Nd×Unit)) (c81:Unit->MM ((Nd×Unit)×(Option MT))) (c111:Unit->MM (Nd×Unit)) (x:(ParT×(NdsT×Unit))) (a:Unit):(Option (Option ((ParT×(NdsT×Unit))×Unit))):=iter fu (fun (rec1:(Unit×(ParT×(NdsT×Unit)))->Option (Option ((ParT×(NdsT×Unit))×Unit))) (s1:(Unit×(ParT×(NdsT×Unit))))=>bo (c54 ([[40],[91]],()) s1.2.1.1 (s1.2.1.2.1,s1.2.1.2.2.1)) fun y1=>cond y1.1.1 (bo (c54 ([[40]],()) s1.2.1.1 (y1.2.1,y1.2.2)) fun y3=>cond y3.1.1 (bo (c81 () s1.2.1.1 (y3.2.1,y3.2.2)) fun y5=>ck ((List.length s1.2.2.1.1)+(List.length [(ndE y5.1.1.1)])) (rec1 ((),((s1.2.1.1,(y5.2.1,(y5.2.2,((),())))),(((s1.2.2.1.1++[(ndE y5.1.1.1)]),()),()))))) (bo (c73 () s1.2.1.1 (y3.2.1,y3.2.2)) fun y5=>ck ((List.length s1.2.2.1.1)+(List.length [(ndE y5.1.1)])) (bo (c54 ([[93]],()) s1.2.1.1 (y5.2.1,y5.2.2)) fun y7=>cond (!y7.1.1) (bo (c111 () s1.2.1.1 (y7.2.1,y7.2.2)) fun y9=>ck ((List.length (s1.2.2.1.1++[(ndE y5.1.1)]))+(List.length [(ndE y9.1.1)])) (bo (c78 ([93],()) s1.2.1.1 (y9.2.1,y9.2.2)) fun y11=>ck ((List.length ((s1.2.2.1.1++[(ndE y5.1.1)])++[(ndE y9.1.1)]))+(List.length [(ndE y11.1.1)])) (rec1 ((),((s1.2.1.1,(y11.2.1,(y11.2.2,((),())))),(((((s1.2.2.1.1++[(ndE y5.1.1)])++[(ndE y9.1.1)])++[(ndE y11.1.1)]),()),())))))) (bo (c78 ([93],()) s1.2.1.1 (y7.2.1,y7.2.2)) fun y9=>ck ((List.length (s1.2.2.1.1++[(ndE y5.1.1)]))+(List.length [(ndE y9.1.1)])) (rec1 ((),((s1.2.1.1,(y9.2.1,(y9.2.2,((),())))),((((s1.2.2.1.1++[(ndE y5.1.1)])++[(ndE y9.1.1)]),()),())))))))) (some (some (((s1.2.1.1,(y1.2.1,(y1.2.2,((),())))),((s1.2.2.1.1,()),())),())))) ((),((x.1.1,(x.1.2.1,(x.1.2.2.1,((),())))),((x.2.1.1,()),())))
theorem eq82 (fu:Nat) (p:PS) (r:RS) x a:rnA fu p r false true fd82 [parK,ptsK] [parK,ptsK] ([]:LK) ([]:LK) x a=sh82 fu p.c54 p.c73 p.c78 r.c81 r.c111 x a:=by kernel_rfl
def sh56 (fu:Nat) (c54:((List Str)×Unit)->MM (Bool×Unit)) (c56:Unit->MM ((Nd×(Str×(Bool×Unit)))×(Option (Option MT)))) (c72:(Int×Unit)->MM (Str×Unit)) (c73:Unit->MM (Nd×Unit)) (c78:(Str×Unit)->MM (Nd×Unit)) (c79:Unit->(List Nd)->MM (Unit×(List Nd))) (c80:Unit->MM (Nd×Unit)) (c81:Unit->MM ((Nd×Unit)×(Option MT))) (c82:Unit->(List Nd)->MM (Unit×(List Nd))) (x:(ParT×Unit)) (a:Unit):(Option (Option (((LT×(Int×((List MT)×((Option (Option MT))×Unit))))×Unit)×(Nd×(Str×(Bool×Unit)))))):=bo (c79 () [] x.1.1 (x.1.2.1,x.1.2.2.1)) fun y1=>bo (c54 ([[40]],()) x.1.1 (y1.2.1,y1.2.2)) fun y3=>cond (!y3.1.1) (bo (c72 (0,()) x.1.1 (y3.2.1,y3.2.2)) fun y5=>bo (c80 () x.1.1 (y5.2.1,y5.2.2)) fun y7=>ck ((List.length y1.1.2)+(List.length [(ndE y7.1.1)])) (zR (fun (join0:((Bool×((Option MT)×Unit))×(ParT×(JT×(NdsT×Unit))))->Option (Option (((LT×(Int×((List MT)×((Option (Option MT))×Unit))))×Unit)×(Nd×(Str×(Bool×Unit))))))=>bo (c54 ([[40]],()) x.1.1 (y7.2.1,y7.2.2)) fun y9=>cond y9.1.1 (bo (c81 () x.1.1 (y9.2.1,y9.2.2)) fun y11=>zI y11.1.2 (ck ((List.length (y1.1.2++[(ndE y7.1.1)]))+(List.length [(ndE y11.1.1.1)])) (join0 ((true,(none,())),((x.1.1,(y11.2.1,(y11.2.2,((),())))),((0,(0,([],()))),((((y1.1.2++[(ndE y7.1.1)])++[(ndE y11.1.1.1)]),()),())))))) fun y12=>ck ((List.length (y1.1.2++[(ndE y7.1.1)]))+(List.length [(ndE y11.1.1.1)])) (join0 ((true,((some y12),())),((x.1.1,(y11.2.1,(y11.2.2,((),())))),((0,(0,([],()))),((((y1.1.2++[(ndE y7.1.1)])++[(ndE y11.1.1.1)]),()),())))))) (join0 ((false,(none,())),((x.1.1,(y9.2.1,(y9.2.2,((),())))),((0,(0,([],()))),(((y1.1.2++[(ndE y7.1.1)]),()),())))))) (fun (t0:((Bool×((Option MT)×Unit))×(ParT×(JT×(NdsT×Unit)))))=>zI t0.1.2.1 (bo (c82 () t0.2.2.2.1.1 t0.2.1.1 (t0.2.1.2.1,t0.2.1.2.2.1)) fun y9=>some (some (((t0.2.1.1,(y9.2.1,(y9.2.2,((some none),())))),()),((ndE (Nd.mk 10 0 y9.1.2)),(y5.1.1,(t0.1.1,())))))) fun y8=>bo (c82 () t0.2.2.2.1.1 t0.2.1.1 (t0.2.1.2.1,t0.2.1.2.2.1)) fun y10=>some (some (((t0.2.1.1,(y10.2.1,(y10.2.2,((some (some y8)),())))),()),((ndE (Nd.mk 10 0 y10.1.2)),(y5.1.1,(t0.1.1,())))))))) (bo (c73 () x.1.1 (y3.2.1,y3.2.2)) fun y5=>ck ((List.length y1.1.2)+(List.length [(ndE y5.1.1)])) (bo (c56 () x.1.1 (y5.2.1,y5.2.2)) fun y7=>bo (c78 ([41],()) x.1.1 (y7.2.1,y7.2.2)) fun y9=>ck ((List.length (y1.1.2++[(ndE y5.1.1)]))+(List.length [(ndE y7.1.1.1),(ndE y9.1.1)])) (bo (c82 () ((y1.1.2++[(ndE y5.1.1)])++[(ndE y7.1.1.1),(ndE y9.1.1)]) x.1.1 (y9.2.1,y9.2.2)) fun y11=>some (some (((x.1.1,(y11.2.1,(y11.2.2,(none,())))),()),((ndE (Nd.mk 10 0 y11.1.2)),(y7.1.1.2.1,(false,()))))))))
theorem eq56 (fu:Nat) (p:PS) (r:RS) x a:rnA fu p r true false fd56 [parK] [parJ] ([]:LK) ([.st TI.node,.str,.bool]:LK) x a=sh56 fu p.c54 r.c56 p.c72 p.c73 p.c78 r.c79 p.c80 r.c81 r.c82 x a:=by kernel_rfl
def sh130 (fu:Nat) (c54:((List Str)×Unit)->MM (Bool×Unit)) (c72:(Int×Unit)->MM (Str×Unit)) (c73:Unit->MM (Nd×Unit)) (c76:(Int×Unit)->MM (Bool×Unit)) (c78:(Str×Unit)->MM (Nd×Unit)) (c79:Unit->(List Nd)->MM (Unit×(List Nd))) (c82:Unit->(List Nd)->MM (Unit×(List Nd))) (c85:(Int×Unit)->MM (Bool×Unit)) (c130:(Bool×Unit)->MM (Nd×(Str×(Bool×Unit)))) (x:(ParT×Unit)) (a:(Bool×Unit)):(Option (Option ((ParT×Unit)×(Nd×(Str×(Bool×Unit)))))):=bo (c79 () [] x.1.1 (x.1.2.1,x.1.2.2.1)) fun y1=>bo (c72 (1,()) x.1.1 (y1.2.1,y1.2.2)) fun y3=>zR (fun (join0:((Str×Unit)×(ParT×(JT×(NdsT×Unit))))->Option (Option ((ParT×Unit)×(Nd×(Str×(Bool×Unit))))))=>cond a.1 (bo (c85 (0,()) x.1.1 (y3.2.1,y3.2.2)) fun y5=>cond y5.1.1 (bo (c72 (0,()) x.1.1 (y5.2.1,y5.2.2)) fun y7=>bo (c73 () x.1.1 (y7.2.1,y7.2.2)) fun y9=>ck ((List.length y1.1.2)+(List.length [(ndE y9.1.1)])) (join0 ((y7.1.1,()),((x.1.1,(y9.2.1,(y9.2.2,((),())))),((0,(0,([],()))),(((y1.1.2++[(ndE y9.1.1)]),()),())))))) (bo (c54 ([[40]],()) x.1.1 (y5.2.1,y5.2.2)) fun y7=>cond y7.1.1 (cond (seq y3.1.1 [42]) (bo (c73 () x.1.1 (y7.2.1,y7.2.2)) fun y9=>ck ((List.length y1.1.2)+(List.length [(ndE y9.1.1)])) (bo (c130 (a.1,()) x.1.1 (y9.2.1,y9.2.2)) fun y11=>zR (fun (join1:(Unit×(ParT×(JT×(NdsT×Unit))))->Option (Option ((ParT×Unit)×(Nd×(Str×(Bool×Unit))))))=>cond y11.1.2.2.1 (ck ((List.length (y1.1.2++[(ndE y9.1.1)]))+(List.length [(ndE y11.1.1)])) (join1 ((),((x.1.1,(y11.2.1,(y11.2.2,((),())))),((0,(0,([],()))),((((y1.1.2++[(ndE y9.1.1)])++[(ndE y11.1.1)]),()),())))))) (join1 ((),((x.1.1,(y11.2.1,(y11.2.2,((),())))),((0,(0,([],()))),(((y1.1.2++[(ndE y9.1.1)]),()),())))))) (fun (t0:(Unit×(ParT×(JT×(NdsT×Unit)))))=>bo (c78 ([41],()) t0.2.1.1 (t0.2.1.2.1,t0.2.1.2.2.1)) fun y13=>ck ((List.length t0.2.2.2.1.1)+(List.length [(ndE y13.1.1)])) (join0 ((y11.1.2.1,()),((t0.2.1.1,(y13.2.1,(y13.2.2,((),())))),(t0.2.2.1,(((t0.2.2.2.1.1++[(ndE y13.1.1)]),()),())))))))) (cond (seq y3.1.1 [40]) (bo (c73 () x.1.1 (y7.2.1,y7.2.2)) fun y9=>ck ((List.length y1.1.2)+(List.length [(ndE y9.1.1)])) (bo (c130 (a.1,()) x.1.1 (y9.2.1,y9.2.2)) fun y11=>zR (fun (join1:(Unit×(ParT×(JT×(NdsT×Unit))))->Option (Option ((ParT×Unit)×(Nd×(Str×(Bool×Unit))))))=>cond y11.1.2.2.1 (ck ((List.length (y1.1.2++[(ndE y9.1.1)]))+(List.length [(ndE y11.1.1)])) (join1 ((),((x.1.1,(y11.2.1,(y11.2.2,((),())))),((0,(0,([],()))),((((y1.1.2++[(ndE y9.1.1)])++[(ndE y11.1.1)]),()),())))))) (join1 ((),((x.1.1,(y11.2.1,(y11.2.2,((),())))),((0,(0,([],()))),(((y1.1.2++[(ndE y9.1.1)]),()),())))))) (fun (t0:(Unit×(ParT×(JT×(NdsT×Unit)))))=>bo (c78 ([41],()) t0.2.1.1 (t0.2.1.2.1,t0.2.1.2.2.1)) fun y13=>ck ((List.length t0.2.2.2.1.1)+(List.length [(ndE y13.1.1)])) (join0 ((y11.1.2.1,()),((t0.2.1.1,(y13.2.1,(y13.2.2,((),())))),(t0.2.2.1,(((t0.2.2.2.1.1++[(ndE y13.1.1)]),()),())))))))) (cond (seq y3.1.1 [91]) (bo (c73 () x.1.1 (y7.2.1,y7.2.2)) fun y9=>ck ((List.length y1.1.2)+(List.length [(ndE y9.1.1)])) (bo (c130 (a.1,()) x.1.1 (y9.2.1,y9.2.2)) fun y11=>zR (fun (join1:(Unit×(ParT×(JT×(NdsT×Unit))))->Option (Option ((ParT×Unit)×(Nd×(Str×(Bool×Unit))))))=>cond y11.1.2.2.1 (ck ((List.length (y1.1.2++[(ndE y9.1.1)]))+(List.length [(ndE y11.1.1)])) (join1 ((),((x.1.1,(y11.2.1,(y11.2.2,((),())))),((0,(0,([],()))),((((y1.1.2++[(ndE y9.1.1)])++[(ndE y11.1.1)]),()),())))))) (join1 ((),((x.1.1,(y11.2.1,(y11.2.2,((),())))),((0,(0,([],()))),(((y1.1.2++[(ndE y9.1.1)]),()),())))))) (fun (t0:(Unit×(ParT×(JT×(NdsT×Unit)))))=>bo (c78 ([41],()) t0.2.1.1 (t0.2.1.2.1,t0.2.1.2.2.1)) fun y13=>ck ((List.length t0.2.2.2.1.1)+(List.length [(ndE y13.1.1)])) (join0 ((y11.1.2.1,()),((t0.2.1.1,(y13.2.1,(y13.2.2,((),())))),(t0.2.2.1,(((t0.2.2.2.1.1++[(ndE y13.1.1)]),()),())))))))) (cond a.1 (bo (c85 (1,()) x.1.1 (y7.2.1,y7.2.2)) fun y9=>cond y9.1.1 (bo (c76 (1,()) x.1.1 (y9.2.1,y9.2.2)) fun y11=>cond (!y11.1.1) (bo (c73 () x.1.1 (y11.2.1,y11.2.2)) fun y13=>ck ((List.length y1.1.2)+(List.length [(ndE y13.1.1)])) (bo (c130 (a.1,()) x.1.1 (y13.2.1,y13.2.2)) fun y15=>zR (fun (join1:(Unit×(ParT×(JT×(NdsT×Unit))))->Option (Option ((ParT×Unit)×(Nd×(Str×(Bool×Unit))))))=>cond y15.1.2.2.1 (ck ((List.length (y1.1.2++[(ndE y13.1.1)]))+(List.length [(ndE y15.1.1)])) (join1 ((),((x.1.1,(y15.2.1,(y15.2.2,((),())))),((0,(0,([],()))),((((y1.1.2++[(ndE y13.1.1)])++[(ndE y15.1.1)]),()),())))))) (join1 ((),((x.1.1,(y15.2.1,(y15.2.2,((),())))),((0,(0,([],()))),(((y1.1.2++[(ndE y13.1.1)]),()),())))))) (fun (t0:(Unit×(ParT×(JT×(NdsT×Unit)))))=>bo (c78 ([41],()) t0.2.1.1 (t0.2.1.2.1,t0.2.1.2.2.1)) fun y17=>ck ((List.length t0.2.2.2.1.1)+(List.length [(ndE y17.1.1)])) (join0 ((y15.1.2.1,()),((t0.2.1.1,(y17.2.1,(y17.2.2,((),())))),(t0.2.2.1,(((t0.2.2.2.1.1++[(ndE y17.1.1)]),()),())))))))) (join0 (([],()),((x.1.1,(y11.2.1,(y11.2.2,((),())))),((0,(0,([],()))),((y1.1.2,()),())))))) (join0 (([],()),((x.1.1,(y9.2.1,(y9.2.2,((),())))),((0,(0,([],()))),((y1.1.2,()),())))))) (join0 (([],()),((x.1.1,(y7.2.1,(y7.2.2,((),())))),((0,(0,([],()))),((y1.1.2,()),()))))))))) (join0 (([],()),((x.1.1,(y7.2.1,(y7.2.2,((),())))),((0,(0,([],()))),((y1.1.2,()),()))))))) (bo (c54 ([[40]],()) x.1.1 (y3.2.1,y3.2.2)) fun y5=>cond y5.1.1 (cond (seq y3.1.1 [42]) (bo (c73 () x.1.1 (y5.2.1,y5.2.2)) fun y7=>ck ((List.length y1.1.2)+(List.length [(ndE y7.1.1)])) (bo (c130 (a.1,()) x.1.1 (y7.2.1,y7.2.2)) fun y9=>zR (fun (join1:(Unit×(ParT×(JT×(NdsT×Unit))))->Option (Option ((ParT×Unit)×(Nd×(Str×(Bool×Unit))))))=>cond y9.1.2.2.1 (ck ((List.length (y1.1.2++[(ndE y7.1.1)]))+(List.length [(ndE y9.1.1)])) (join1 ((),((x.1.1,(y9.2.1,(y9.2.2,((),())))),((0,(0,([],()))),((((y1.1.2++[(ndE y7.1.1)])++[(ndE y9.1.1)]),()),())))))) (join1 ((),((x.1.1,(y9.2.1,(y9.2.2,((),())))),((0,(0,([],()))),(((y1.1.2++[(ndE y7.1.1)]),()),())))))) (fun (t0:(Unit×(ParT×(JT×(NdsT×Unit)))))=>bo (c78 ([41],()) t0.2.1.1 (t0.2.1.2.1,t0.2.1.2.2.1)) fun y11=>ck ((List.length t0.2.2.2.1.1)+(List.length [(ndE y11.1.1)])) (join0 ((y9.1.2.1,()),((t0.2.1.1,(y11.2.1,(y11.2.2,((),())))),(t0.2.2.1,(((t0.2.2.2.1.1++[(ndE y11.1.1)]),()),())))))))) (cond (seq y3.1.1 [40]) (bo (c73 () x.1.1 (y5.2.1,y5.2.2)) fun y7=>ck ((List.length y1.1.2)+(List.length [(ndE y7.1.1)])) (bo (c130 (a.1,()) x.1.1 (y7.2.1,y7.2.2)) fun y9=>zR (fun (join1:(Unit×(ParT×(JT×(NdsT×Unit))))->Option (Option ((ParT×Unit)×(Nd×(Str×(Bool×Unit))))))=>cond y9.1.2.2.1 (ck ((List.length (y1.1.2++[(ndE y7.1.1)]))+(List.length [(ndE y9.1.1)])) (join1 ((),((x.1.1,(y9.2.1,(y9.2.2,((),())))),((0,(0,([],()))),((((y1.1.2++[(ndE y7.1.1)])++[(ndE y9.1.1)]),()),())))))) (join1 ((),((x.1.1,(y9.2.1,(y9.2.2,((),())))),((0,(0,([],()))),(((y1.1.2++[(ndE y7.1.1)]),()),())))))) (fun (t0:(Unit×(ParT×(JT×(NdsT×Unit)))))=>bo (c78 ([41],()) t0.2.1.1 (t0.2.1.2.1,t0.2.1.2.2.1)) fun y11=>ck ((List.length t0.2.2.2.1.1)+(List.length [(ndE y11.1.1)])) (join0 ((y9.1.2.1,()),((t0.2.1.1,(y11.2.1,(y11.2.2,((),())))),(t0.2.2.1,(((t0.2.2.2.1.1++[(ndE y11.1.1)]),()),())))))))) (cond (seq y3.1.1 [91]) (bo (c73 () x.1.1 (y5.2.1,y5.2.2)) fun y7=>ck ((List.length y1.1.2)+(List.length [(ndE y7.1.1)])) (bo (c130 (a.1,()) x.1.1 (y7.2.1,y7.2.2)) fun y9=>zR (fun (join1:(Unit×(ParT×(JT×(NdsT×Unit))))->Option (Option ((ParT×Unit)×(Nd×(Str×(Bool×Unit))))))=>cond y9.1.2.2.1 (ck ((List.length (y1.1.2++[(ndE y7.1.1)]))+(List.length [(ndE y9.1.1)])) (join1 ((),((x.1.1,(y9.2.1,(y9.2.2,((),())))),((0,(0,([],()))),((((y1.1.2++[(ndE y7.1.1)])++[(ndE y9.1.1)]),()),())))))) (join1 ((),((x.1.1,(y9.2.1,(y9.2.2,((),())))),((0,(0,([],()))),(((y1.1.2++[(ndE y7.1.1)]),()),())))))) (fun (t0:(Unit×(ParT×(JT×(NdsT×Unit)))))=>bo (c78 ([41],()) t0.2.1.1 (t0.2.1.2.1,t0.2.1.2.2.1)) fun y11=>ck ((List.length t0.2.2.2.1.1)+(List.length [(ndE y11.1.1)])) (join0 ((y9.1.2.1,()),((t0.2.1.1,(y11.2.1,(y11.2.2,((),())))),(t0.2.2.1,(((t0.2.2.2.1.1++[(ndE y11.1.1)]),()),())))))))) (cond a.1 (bo (c85 (1,()) x.1.1 (y5.2.1,y5.2.2)) fun y7=>cond y7.1.1 (bo (c76 (1,()) x.1.1 (y7.2.1,y7.2.2)) fun y9=>cond (!y9.1.1) (bo (c73 () x.1.1 (y9.2.1,y9.2.2)) fun y11=>ck ((List.length y1.1.2)+(List.length [(ndE y11.1.1)])) (bo (c130 (a.1,()) x.1.1 (y11.2.1,y11.2.2)) fun y13=>zR (fun (join1:(Unit×(ParT×(JT×(NdsT×Unit))))->Option (Option ((ParT×Unit)×(Nd×(Str×(Bool×Unit))))))=>cond y13.1.2.2.1 (ck ((List.length (y1.1.2++[(ndE y11.1.1)]))+(List.length [(ndE y13.1.1)])) (join1 ((),((x.1.1,(y13.2.1,(y13.2.2,((),())))),((0,(0,([],()))),((((y1.1.2++[(ndE y11.1.1)])++[(ndE y13.1.1)]),()),())))))) (join1 ((),((x.1.1,(y13.2.1,(y13.2.2,((),())))),((0,(0,([],()))),(((y1.1.2++[(ndE y11.1.1)]),()),())))))) (fun (t0:(Unit×(ParT×(JT×(NdsT×Unit)))))=>bo (c78 ([41],()) t0.2.1.1 (t0.2.1.2.1,t0.2.1.2.2.1)) fun y15=>ck ((List.length t0.2.2.2.1.1)+(List.length [(ndE y15.1.1)])) (join0 ((y13.1.2.1,()),((t0.2.1.1,(y15.2.1,(y15.2.2,((),())))),(t0.2.2.1,(((t0.2.2.2.1.1++[(ndE y15.1.1)]),()),())))))))) (join0 (([],()),((x.1.1,(y9.2.1,(y9.2.2,((),())))),((0,(0,([],()))),((y1.1.2,()),())))))) (join0 (([],()),((x.1.1,(y7.2.1,(y7.2.2,((),())))),((0,(0,([],()))),((y1.1.2,()),())))))) (join0 (([],()),((x.1.1,(y5.2.1,(y5.2.2,((),())))),((0,(0,([],()))),((y1.1.2,()),()))))))))) (join0 (([],()),((x.1.1,(y5.2.1,(y5.2.2,((),())))),((0,(0,([],()))),((y1.1.2,()),()))))))) (fun (t0:((Str×Unit)×(ParT×(JT×(NdsT×Unit)))))=>bo (c82 () t0.2.2.2.1.1 t0.2.1.1 (t0.2.1.2.1,t0.2.1.2.2.1)) fun y5=>some (some (((t0.2.1.1,(y5.2.1,(y5.2.2,((),())))),()),((ndE (Nd.mk 10 0 y5.1.2)),(t0.1.1,((ilt 0 (lenI y5.1.2)),()))))))
theorem eq130 (fu:Nat) (p:PS) (r:RS) x a:rnA fu p r false false fd130 [parK] [parK] ([.bool]:LK) ([.st TI.node,.str,.bool]:LK) x a=sh130 fu p.c54 p.c72 p.c73 p.c76 p.c78 r.c79 r.c82 p.c85 r.c130 x a:=by kernel_rfl
def sh81 (fu:Nat) (c54:((List Str)×Unit)->MM (Bool×Unit)) (c59:((Option MT)×Unit)->MM Unit) (c61:Unit->MM ((Option MT)×Unit)) (c73:Unit->MM (Nd×Unit)) (c78:(Str×Unit)->MM (Nd×Unit)) (c110:Unit->MM (Nd×Unit)) (x:(ParT×Unit)) (a:Unit):(Option (Option ((zA8×Unit)×(Nd×Unit)))):=bo (c78 ([40],()) x.1.1 (x.1.2.1,x.1.2.2.1)) fun y1=>ck (List.length [(ndE y1.1.1)]) (bo (c59 ((some []),()) x.1.1 (y1.2.1,y1.2.2)) fun y3=>bo (c54 ([[41]],()) x.1.1 (y3.2.1,y3.2.2)) fun y5=>iter fu (fun (rec1:((Bool×Unit)×(ParT×(JT×(NdsT×Unit))))->Option (Option ((zA8×Unit)×(Nd×Unit)))) (s1:((Bool×Unit)×(ParT×(JT×(NdsT×Unit)))))=>cond s1.1.1 (cond (ilt 1 (lenI s1.2.2.2.1.1)) (bo (c73 () s1.2.1.1 (s1.2.1.2.1,s1.2.1.2.2.1)) fun y7=>ck ((List.length s1.2.2.2.1.1)+(List.length [(ndE y7.1.1)])) (bo (c54 ([[46,46,46]],()) s1.2.1.1 (y7.2.1,y7.2.2)) fun y9=>cond y9.1.1 (bo (c73 () s1.2.1.1 (y9.2.1,y9.2.2)) fun y11=>ck ((List.length (s1.2.2.2.1.1++[(ndE y7.1.1)]))+(List.length [(ndE y11.1.1)])) (bo (c78 ([41],()) s1.2.1.1 (y11.2.1,y11.2.2)) fun y13=>ck ((List.length ((s1.2.2.2.1.1++[(ndE y7.1.1)])++[(ndE y11.1.1)]))+(List.length [(ndE y13.1.1)])) (bo (c61 () s1.2.1.1 (y13.2.1,y13.2.2)) fun y15=>zI y15.1.1 (some (some (((s1.2.1.1,(y15.2.1,(y15.2.2,(none,())))),()),((ndE (Nd.mk 11 0 (((s1.2.2.2.1.1++[(ndE y7.1.1)])++[(ndE y11.1.1)])++[(ndE y13.1.1)]))),())))) fun y16=>some (some (((s1.2.1.1,(y15.2.1,(y15.2.2,((some y16),())))),()),((ndE (Nd.mk 11 0 (((s1.2.2.2.1.1++[(ndE y7.1.1)])++[(ndE y11.1.1)])++[(ndE y13.1.1)]))),())))))) (bo (c110 () s1.2.1.1 (y9.2.1,y9.2.2)) fun y11=>ck ((List.length (s1.2.2.2.1.1++[(ndE y7.1.1)]))+(List.length [(ndE y11.1.1)])) (bo (c54 ([[44]],()) s1.2.1.1 (y11.2.1,y11.2.2)) fun y13=>rec1 ((y13.1.1,()),((s1.2.1.1,(y13.2.1,(y13.2.2,((),())))),(s1.2.2.1,((((s1.2.2.2.1.1++[(ndE y7.1.1)])++[(ndE y11.1.1)]),()),())))))))) (bo (c110 () s1.2.1.1 (s1.2.1.2.1,s1.2.1.2.2.1)) fun y7=>ck ((List.length s1.2.2.2.1.1)+(List.length [(ndE y7.1.1)])) (bo (c54 ([[44]],()) s1.2.1.1 (y7.2.1,y7.2.2)) fun y9=>rec1 ((y9.1.1,()),((s1.2.1.1,(y9.2.1,(y9.2.2,((),())))),(s1.2.2.1,(((s1.2.2.2.1.1++[(ndE y7.1.1)]),()),()))))))) (bo (c78 ([41],()) s1.2.1.1 (s1.2.1.2.1,s1.2.1.2.2.1)) fun y7=>ck ((List.length s1.2.2.2.1.1)+(List.length [(ndE y7.1.1)])) (bo (c61 () s1.2.1.1 (y7.2.1,y7.2.2)) fun y9=>zI y9.1.1 (some (some (((s1.2.1.1,(y9.2.1,(y9.2.2,(none,())))),()),((ndE (Nd.mk 11 0 (s1.2.2.2.1.1++[(ndE y7.1.1)]))),())))) fun y10=>some (some (((s1.2.1.1,(y9.2.1,(y9.2.2,((some y10),())))),()),((ndE (Nd.mk 11 0 (s1.2.2.2.1.1++[(ndE y7.1.1)]))),())))))) (((!y5.1.1),()),((x.1.1,(y5.2.1,(y5.2.2,((),())))),((0,(0,([],()))),(([(ndE y1.1.1)],()),())))))
theorem eq81 (fu:Nat) (p:PS) (r:RS) x a:rnA fu p r false false fd81 [parK] [parL] ([]:LK) ([.st TI.node]:LK) x a=sh81 fu p.c54 p.c59 p.c61 p.c73 p.c78 r.c110 x a:=by kernel_rfl
def sh110 (fu:Nat) (c53:Unit->MM (Nd×(Bool×Unit))) (c58:(Str×(Bool×Unit))->MM Unit) (c130:(Bool×Unit)->MM (Nd×(Str×(Bool×Unit)))) (x:(ParT×Unit)) (a:Unit):(Option (Option ((ParT×Unit)×(Nd×Unit)))):=bo (c53 () x.1.1 (x.1.2.1,x.1.2.2.1)) fun y1=>ck (List.length [(ndE y1.1.1)]) (bo (c130 (true,()) x.1.1 (y1.2.1,y1.2.2)) fun y3=>zR (fun (join0:(Unit×(ParT×(JT×(NdsT×Unit))))->Option (Option ((ParT×Unit)×(Nd×Unit))))=>cond y3.1.2.2.1 (ck ((List.length [(ndE y1.1.1)])+(List.length [(ndE y3.1.1)])) (join0 ((),((x.1.1,(y3.2.1,(y3.2.2,((),())))),((0,(0,([],()))),((([(ndE y1.1.1)]++[(ndE y3.1.1)]),()),())))))) (join0 ((),((x.1.1,(y3.2.1,(y3.2.2,((),())))),((0,(0,([],()))),(([(ndE y1.1.1)],()),())))))) (fun (t0:(Unit×(ParT×(JT×(NdsT×Unit)))))=>bo (c58 (y3.1.2.1,(y1.1.2.1,())) t0.2.1.1 (t0.2.1.2.1,t0.2.1.2.2.1)) fun y5=>some (some (((t0.2.1.1,(y5.2.1,(y5.2.2,((),())))),()),((ndE (Nd.mk 12 0 t0.2.2.2.1.1)),())))))
theorem eq110 (fu:Nat) (p:PS) (r:RS) x a:rnA fu p r false false fd110 [parK] [parK] ([]:LK) ([.st TI.node]:LK) x a=sh110 fu r.c53 p.c58 r.c130 x a:=by kernel_rfl
def sh151 (fu:Nat) (c53:Unit->MM (Nd×(Bool×Unit))) (c130:(Bool×Unit)->MM (Nd×(Str×(Bool×Unit)))) (x:(ParT×Unit)) (a:Unit):(Option (Option ((ParT×Unit)×(Nd×Unit)))):=bo (c53 () x.1.1 (x.1.2.1,x.1.2.2.1)) fun y1=>ck (List.length [(ndE y1.1.1)]) (bo (c130 (false,()) x.1.1 (y1.2.1,y1.2.2)) fun y3=>cond y3.1.2.2.1 (ck ((List.length [(ndE y1.1.1)])+(List.length [(ndE y3.1.1)])) (some (some (((x.1.1,(y3.2.1,(y3.2.2,((),())))),()),((ndE (Nd.mk 14 0 ([(ndE y1.1.1)]++[(ndE y3.1.1)]))),()))))) (some (some (((x.1.1,(y3.2.1,(y3.2.2,((),())))),()),((ndE (Nd.mk 14 0 [(ndE y1.1.1)])),())))))
theorem eq151 (fu:Nat) (p:PS) (r:RS) x a:rnA fu p r false false fd151 [parK] [parK] ([]:LK) ([.st TI.node]:LK) x a=sh151 fu r.c53 r.c130 x a:=by kernel_rfl
def sh83 (fu:Nat) (c54:((List Str)×Unit)->MM (Bool×Unit)) (c73:Unit->MM (Nd×Unit)) (c78:(Str×Unit)->MM (Nd×Unit)) (c83:Unit->MM (Nd×Unit)) (c111:Unit->MM (Nd×Unit)) (x:(ParT×Unit)) (a:Unit):(Option (Option ((ParT×Unit)×(Nd×Unit)))):=bo (c54 ([[123]],()) x.1.1 (x.1.2.1,x.1.2.2.1)) fun y1=>cond (!y1.1.1) (bo (c111 () x.1.1 (y1.2.1,y1.2.2)) fun y3=>some (some (((x.1.1,(y3.2.1,(y3.2.2,((),())))),()),((ndE y3.1.1),())))) (bo (c73 () x.1.1 (y1.2.1,y1.2.2)) fun y3=>ck (List.length [(ndE y3.1.1)]) (iter fu (fun (rec1:(Unit×(ParT×(JT×(NdsT×Unit))))->Option (Option ((ParT×Unit)×(Nd×Unit)))) (s1:(Unit×(ParT×(JT×(NdsT×Unit)))))=>bo (c54 ([[125]],()) s1.2.1.1 (s1.2.1.2.1,s1.2.1.2.2.1)) fun y5=>cond (!y5.1.1) (bo (c83 () s1.2.1.1 (y5.2.1,y5.2.2)) fun y7=>ck ((List.length s1.2.2.2.1.1)+(List.length [(ndE y7.1.1)])) (bo (c54 ([[44]],()) s1.2.1.1 (y7.2.1,y7.2.2)) fun y9=>cond (!y9.1.1) (bo (c78 ([125],()) s1.2.1.1 (y9.2.1,y9.2.2)) fun y11=>ck ((List.length (s1.2.2.2.1.1++[(ndE y7.1.1)]))+(List.length [(ndE y11.1.1)])) (some (some (((s1.2.1.1,(y11.2.1,(y11.2.2,((),())))),()),((ndE (Nd.mk 13 0 ((s1.2.2.2.1.1++[(ndE y7.1.1)])++[(ndE y11.1.1)]))),()))))) (bo (c73 () s1.2.1.1 (y9.2.1,y9.2.2)) fun y11=>ck ((List.length (s1.2.2.2.1.1++[(ndE y7.1.1)]))+(List.length [(ndE y11.1.1)])) (rec1 ((),((s1.2.1.1,(y11.2.1,(y11.2.2,((),())))),(s1.2.2.1,((((s1.2.2.2.1.1++[(ndE y7.1.1)])++[(ndE y11.1.1)]),()),())))))))) (bo (c78 ([125],()) s1.2.1.1 (y5.2.1,y5.2.2)) fun y7=>ck ((List.length s1.2.2.2.1.1)+(List.length [(ndE y7.1.1)])) (some (some (((s1.2.1.1,(y7.2.1,(y7.2.2,((),())))),()),((ndE (Nd.mk 13 0 (s1.2.2.2.1.1++[(ndE y7.1.1)]))),())))))) ((),((x.1.1,(y3.2.1,(y3.2.2,((),())))),((0,(0,([],()))),(([(ndE y3.1.1)],()),()))))))
theorem eq83 (fu:Nat) (p:PS) (r:RS) x a:rnA fu p r false false fd83 [parK] [parK] ([]:LK) ([.st TI.node]:LK) x a=sh83 fu p.c54 p.c73 p.c78 r.c83 r.c111 x a:=by kernel_rfl
def sh57 (fu:Nat) (c54:((List Str)×Unit)->MM (Bool×Unit)) (c58:(Str×(Bool×Unit))->MM Unit) (c73:Unit->MM (Nd×Unit)) (c83:Unit->MM (Nd×Unit)) (x:(ParT×Unit)) (a:(Nd×(Str×(Bool×Unit)))):(Option (Option ((ParT×Unit)×(Nd×Unit)))):=ck (List.length [(ndE a.1)]) (bo (c58 (a.2.1,(a.2.2.1,())) x.1.1 (x.1.2.1,x.1.2.2.1)) fun y1=>bo (c54 ([[61]],()) x.1.1 (y1.2.1,y1.2.2)) fun y3=>cond y3.1.1 (bo (c73 () x.1.1 (y3.2.1,y3.2.2)) fun y5=>bo (c83 () x.1.1 (y5.2.1,y5.2.2)) fun y7=>ck ((List.length [(ndE a.1)])+(List.length [(ndE y5.1.1),(ndE y7.1.1)])) (some (some (((x.1.1,(y7.2.1,(y7.2.2,((),())))),()),((ndE (Nd.mk 9 0 ([(ndE a.1)]++[(ndE y5.1.1),(ndE y7.1.1)]))),()))))) (some (some (((x.1.1,(y3.2.1,(y3.2.2,((),())))),()),((ndE (Nd.mk 9 0 [(ndE a.1)])),())))))
theorem eq57 (fu:Nat) (p:PS) (r:RS) x a:rnA fu p r false false fd57 [parK] [parK] ([.st TI.node,.str,.bool]:LK) ([.st TI.node]:LK) x a=sh57 fu p.c54 p.c58 p.c73 r.c83 x a:=by kernel_rfl
def sh55 (fu:Nat) (c54:((List Str)×Unit)->MM (Bool×Unit)) (c56:Unit->MM ((Nd×(Str×(Bool×Unit)))×(Option (Option MT)))) (c57:(Nd×(Str×(Bool×Unit)))->MM (Nd×Unit)) (c73:Unit->MM (Nd×Unit)) (c78:(Str×Unit)->MM (Nd×Unit)) (x:(ParT×Unit)) (a:(NdsT×(Bool×Unit))):(Option (Option ((ParT×Unit)×(Nd×Unit)))):=iter fu (fun (rec1:(Unit×(ParT×(NdsT×(JT×Unit))))->Option (Option ((ParT×Unit)×(Nd×Unit)))) (s1:(Unit×(ParT×(NdsT×(JT×Unit)))))=>bo (c54 ([[44]],()) s1.2.1.1 (s1.2.1.2.1,s1.2.1.2.2.1)) fun y1=>cond y1.1.1 (bo (c73 () s1.2.1.1 (y1.2.1,y1.2.2)) fun y3=>ck ((List.length s1.2.2.1.1)+(List.length [(ndE y3.1.1)])) (bo (c56 () s1.2.1.1 (y3.2.1,y3.2.2)) fun y5=>bo (c57 ((ndE y5.1.1.1),(y5.1.1.2.1,(a.2.1,()))) s1.2.1.1 (y5.2.1,y5.2.2)) fun y7=>ck ((List.length (s1.2.2.1.1++[(ndE y3.1.1)]))+(List.length [(ndE y7.1.1)])) (rec1 ((),((s1.2.1.1,(y7.2.1,(y7.2.2,((),())))),((((s1.2.2.1.1++[(ndE y3.1.1)])++[(ndE y7.1.1)]),()),(s1.2.2.2.1,()))))))) (bo (c78 ([59],()) s1.2.1.1 (y1.2.1,y1.2.2)) fun y3=>ck ((List.length s1.2.2.1.1)+(List.length [(ndE y3.1.1)])) (some (some (((s1.2.1.1,(y3.2.1,(y3.2.2,((),())))),()),((ndE (Nd.mk 3 0 (s1.2.2.1.1++[(ndE y3.1.1)]))),())))))) ((),((x.1.1,(x.1.2.1,(x.1.2.2.1,((),())))),((a.1.1,()),((0,(0,([],()))),()))))
theorem eq55 (fu:Nat) (p:PS) (r:RS) x a:rnA fu p r true false fd55 [parK] [parK] ([.ag [.ow true TI.node],.bool]:LK) ([.st TI.node]:LK) x a=sh55 fu p.c54 r.c56 r.c57 p.c73 p.c78 x a:=by kernel_rfl
def sh37 (fu:Nat) (c53:Unit->MM (Nd×(Bool×Unit))) (c54:((List Str)×Unit)->MM (Bool×Unit)) (c55:(NdsT×(Bool×Unit))->MM (Nd×Unit)) (c56:Unit->MM ((Nd×(Str×(Bool×Unit)))×(Option (Option MT)))) (c57:(Nd×(Str×(Bool×Unit)))->MM (Nd×Unit)) (c58:(Str×(Bool×Unit))->MM Unit) (c59:((Option MT)×Unit)->MM Unit) (c60:Unit->MM (Nd×Unit)) (c61:Unit->MM ((Option MT)×Unit)) (x:(ParT×Unit)) (a:(Bool×Unit)):(Option (Option ((ParT×Unit)×(Nd×Unit)))):=bo (c53 () x.1.1 (x.1.2.1,x.1.2.2.1)) fun y1=>ck (List.length [(ndE y1.1.1)]) (bo (c54 ([[59]],()) x.1.1 (y1.2.1,y1.2.2)) fun y3=>cond y3.1.1 (bo (c55 (([(ndE y1.1.1)],()),(y1.1.2.1,())) x.1.1 (y3.2.1,y3.2.2)) fun y5=>some (some (((x.1.1,(y5.2.1,(y5.2.2,((),())))),()),((ndE y5.1.1),())))) (bo (c56 () x.1.1 (y3.2.1,y3.2.2)) fun y5=>zI y5.1.2 (cond (!a.1) (bo (c57 ((ndE y5.1.1.1),(y5.1.1.2.1,(y1.1.2.1,()))) x.1.1 (y5.2.1,y5.2.2)) fun y7=>ck ((List.length [(ndE y1.1.1)])+(List.length [(ndE y7.1.1)])) (bo (c55 ((([(ndE y1.1.1)]++[(ndE y7.1.1)]),()),(y1.1.2.1,())) x.1.1 (y7.2.1,y7.2.2)) fun y9=>some (some (((x.1.1,(y9.2.1,(y9.2.2,((),())))),()),((ndE y9.1.1),()))))) (cond (!y5.1.1.2.2.1) (bo (c57 ((ndE y5.1.1.1),(y5.1.1.2.1,(y1.1.2.1,()))) x.1.1 (y5.2.1,y5.2.2)) fun y7=>ck ((List.length [(ndE y1.1.1)])+(List.length [(ndE y7.1.1)])) (bo (c55 ((([(ndE y1.1.1)]++[(ndE y7.1.1)]),()),(y1.1.2.1,())) x.1.1 (y7.2.1,y7.2.2)) fun y9=>some (some (((x.1.1,(y9.2.1,(y9.2.2,((),())))),()),((ndE y9.1.1),()))))) (cond y1.1.2.1 (bo (c57 ((ndE y5.1.1.1),(y5.1.1.2.1,(y1.1.2.1,()))) x.1.1 (y5.2.1,y5.2.2)) fun y7=>ck ((List.length [(ndE y1.1.1)])+(List.length [(ndE y7.1.1)])) (bo (c55 ((([(ndE y1.1.1)]++[(ndE y7.1.1)]),()),(y1.1.2.1,())) x.1.1 (y7.2.1,y7.2.2)) fun y9=>some (some (((x.1.1,(y9.2.1,(y9.2.2,((),())))),()),((ndE y9.1.1),()))))) (bo (c54 ([[123]],()) x.1.1 (y5.2.1,y5.2.2)) fun y7=>cond (!y7.1.1) (bo (c57 ((ndE y5.1.1.1),(y5.1.1.2.1,(y1.1.2.1,()))) x.1.1 (y7.2.1,y7.2.2)) fun y9=>ck ((List.length [(ndE y1.1.1)])+(List.length [(ndE y9.1.1)])) (bo (c55 ((([(ndE y1.1.1)]++[(ndE y9.1.1)]),()),(y1.1.2.1,())) x.1.1 (y9.2.1,y9.2.2)) fun y11=>some (some (((x.1.1,(y11.2.1,(y11.2.2,((),())))),()),((ndE y11.1.1),()))))) (bo (c58 (y5.1.1.2.1,(false,())) x.1.1 (y7.2.1,y7.2.2)) fun y9=>none))))) fun y6=>zI y6 (cond (!a.1) (bo (c57 ((ndE y5.1.1.1),(y5.1.1.2.1,(y1.1.2.1,()))) x.1.1 (y5.2.1,y5.2.2)) fun y8=>ck ((List.length [(ndE y1.1.1)])+(List.length [(ndE y8.1.1)])) (bo (c55 ((([(ndE y1.1.1)]++[(ndE y8.1.1)]),()),(y1.1.2.1,())) x.1.1 (y8.2.1,y8.2.2)) fun y10=>some (some (((x.1.1,(y10.2.1,(y10.2.2,((),())))),()),((ndE y10.1.1),()))))) (cond (!y5.1.1.2.2.1) (bo (c57 ((ndE y5.1.1.1),(y5.1.1.2.1,(y1.1.2.1,()))) x.1.1 (y5.2.1,y5.2.2)) fun y8=>ck ((List.length [(ndE y1.1.1)])+(List.length [(ndE y8.1.1)])) (bo (c55 ((([(ndE y1.1.1)]++[(ndE y8.1.1)]),()),(y1.1.2.1,())) x.1.1 (y8.2.1,y8.2.2)) fun y10=>some (some (((x.1.1,(y10.2.1,(y10.2.2,((),())))),()),((ndE y10.1.1),()))))) (cond y1.1.2.1 (bo (c57 ((ndE y5.1.1.1),(y5.1.1.2.1,(y1.1.2.1,()))) x.1.1 (y5.2.1,y5.2.2)) fun y8=>ck ((List.length [(ndE y1.1.1)])+(List.length [(ndE y8.1.1)])) (bo (c55 ((([(ndE y1.1.1)]++[(ndE y8.1.1)]),()),(y1.1.2.1,())) x.1.1 (y8.2.1,y8.2.2)) fun y10=>some (some (((x.1.1,(y10.2.1,(y10.2.2,((),())))),()),((ndE y10.1.1),()))))) (bo (c54 ([[123]],()) x.1.1 (y5.2.1,y5.2.2)) fun y8=>cond (!y8.1.1) (bo (c57 ((ndE y5.1.1.1),(y5.1.1.2.1,(y1.1.2.1,()))) x.1.1 (y8.2.1,y8.2.2)) fun y10=>ck ((List.length [(ndE y1.1.1)])+(List.length [(ndE y10.1.1)])) (bo (c55 ((([(ndE y1.1.1)]++[(ndE y10.1.1)]),()),(y1.1.2.1,())) x.1.1 (y10.2.1,y10.2.2)) fun y12=>some (some (((x.1.1,(y12.2.1,(y12.2.2,((),())))),()),((ndE y12.1.1),()))))) (bo (c58 (y5.1.1.2.1,(false,())) x.1.1 (y8.2.1,y8.2.2)) fun y10=>bo (c59 (none,()) x.1.1 (y10.2.1,y10.2.2)) fun y12=>bo (c60 () x.1.1 (y12.2.1,y12.2.2)) fun y14=>ck ((List.length [(ndE y1.1.1)])+(List.length [(ndE y5.1.1.1),(ndE y14.1.1)])) (bo (c61 () x.1.1 (y14.2.1,y14.2.2)) fun y16=>zI y16.1.1 (some (some (((x.1.1,(y16.2.1,(y16.2.2,((),())))),()),((ndE (Nd.mk 2 0 ([(ndE y1.1.1)]++[(ndE y5.1.1.1),(ndE y14.1.1)]))),())))) fun y17=>some (some (((x.1.1,(y16.2.1,(y16.2.2,((),())))),()),((ndE (Nd.mk 2 0 ([(ndE y1.1.1)]++[(ndE y5.1.1.1),(ndE y14.1.1)]))),()))))))))) fun y7=>cond (!a.1) (bo (c57 ((ndE y5.1.1.1),(y5.1.1.2.1,(y1.1.2.1,()))) x.1.1 (y5.2.1,y5.2.2)) fun y9=>ck ((List.length [(ndE y1.1.1)])+(List.length [(ndE y9.1.1)])) (bo (c55 ((([(ndE y1.1.1)]++[(ndE y9.1.1)]),()),(y1.1.2.1,())) x.1.1 (y9.2.1,y9.2.2)) fun y11=>some (some (((x.1.1,(y11.2.1,(y11.2.2,((),())))),()),((ndE y11.1.1),()))))) (cond (!y5.1.1.2.2.1) (bo (c57 ((ndE y5.1.1.1),(y5.1.1.2.1,(y1.1.2.1,()))) x.1.1 (y5.2.1,y5.2.2)) fun y9=>ck ((List.length [(ndE y1.1.1)])+(List.length [(ndE y9.1.1)])) (bo (c55 ((([(ndE y1.1.1)]++[(ndE y9.1.1)]),()),(y1.1.2.1,())) x.1.1 (y9.2.1,y9.2.2)) fun y11=>some (some (((x.1.1,(y11.2.1,(y11.2.2,((),())))),()),((ndE y11.1.1),()))))) (cond y1.1.2.1 (bo (c57 ((ndE y5.1.1.1),(y5.1.1.2.1,(y1.1.2.1,()))) x.1.1 (y5.2.1,y5.2.2)) fun y9=>ck ((List.length [(ndE y1.1.1)])+(List.length [(ndE y9.1.1)])) (bo (c55 ((([(ndE y1.1.1)]++[(ndE y9.1.1)]),()),(y1.1.2.1,())) x.1.1 (y9.2.1,y9.2.2)) fun y11=>some (some (((x.1.1,(y11.2.1,(y11.2.2,((),())))),()),((ndE y11.1.1),()))))) (bo (c54 ([[123]],()) x.1.1 (y5.2.1,y5.2.2)) fun y9=>cond (!y9.1.1) (bo (c57 ((ndE y5.1.1.1),(y5.1.1.2.1,(y1.1.2.1,()))) x.1.1 (y9.2.1,y9.2.2)) fun y11=>ck ((List.length [(ndE y1.1.1)])+(List.length [(ndE y11.1.1)])) (bo (c55 ((([(ndE y1.1.1)]++[(ndE y11.1.1)]),()),(y1.1.2.1,())) x.1.1 (y11.2.1,y11.2.2)) fun y13=>some (some (((x.1.1,(y13.2.1,(y13.2.2,((),())))),()),((ndE y13.1.1),()))))) (bo (c58 (y5.1.1.2.1,(false,())) x.1.1 (y9.2.1,y9.2.2)) fun y11=>bo (c59 ((some y7),()) x.1.1 (y11.2.1,y11.2.2)) fun y13=>bo (c60 () x.1.1 (y13.2.1,y13.2.2)) fun y15=>ck ((List.length [(ndE y1.1.1)])+(List.length [(ndE y5.1.1.1),(ndE y15.1.1)])) (bo (c61 () x.1.1 (y15.2.1,y15.2.2)) fun y17=>zI y17.1.1 (some (some (((x.1.1,(y17.2.1,(y17.2.2,((),())))),()),((ndE (Nd.mk 2 0 ([(ndE y1.1.1)]++[(ndE y5.1.1.1),(ndE y15.1.1)]))),())))) fun y18=>some (some (((x.1.1,(y17.2.1,(y17.2.2,((),())))),()),((ndE (Nd.mk 2 0 ([(ndE y1.1.1)]++[(ndE y5.1.1.1),(ndE y15.1.1)]))),()))))))))))
theorem eq37 (fu:Nat) (p:PS) (r:RS) x a:rnA fu p r false false fd37 [parK] [parK] ([.bool]:LK) ([.st TI.node]:LK) x a=sh37 fu r.c53 p.c54 r.c55 r.c56 r.c57 p.c58 p.c59 r.c60 p.c61 x a:=by kernel_rfl
def sh60 (fu:Nat) (c37:(Bool×Unit)->MM (Nd×Unit)) (c54:((List Str)×Unit)->MM (Bool×Unit)) (c72:(Int×Unit)->MM (Str×Unit)) (c73:Unit->MM (Nd×Unit)) (c78:(Str×Unit)->MM (Nd×Unit)) (c84:(Int×Unit)->MM (Bool×Unit)) (c85:(Int×Unit)->MM (Bool×Unit)) (c86:Unit->MM (Nd×Unit)) (x:(ParT×Unit)) (a:Unit):(Option (Option ((ParT×Unit)×(Nd×Unit)))):=bo (c78 ([123],()) x.1.1 (x.1.2.1,x.1.2.2.1)) fun y1=>ck (List.length [(ndE y1.1.1)]) (iter fu (fun (rec1:(Unit×(ParT×(JT×(NdsT×Unit))))->Option (Option ((ParT×Unit)×(Nd×Unit)))) (s1:(Unit×(ParT×(JT×(NdsT×Unit)))))=>bo (c54 ([[125]],()) s1.2.1.1 (s1.2.1.2.1,s1.2.1.2.2.1)) fun y3=>cond (!y3.1.1) (bo (c84 (0,()) s1.2.1.1 (y3.2.1,y3.2.2)) fun y5=>cond y5.1.1 (bo (c85 (0,()) s1.2.1.1 (y5.2.1,y5.2.2)) fun y7=>cond y7.1.1 (bo (c72 (1,()) s1.2.1.1 (y7.2.1,y7.2.2)) fun y9=>cond (!(seq y9.1.1 [58])) (bo (c37 (false,()) s1.2.1.1 (y9.2.1,y9.2.2)) fun y11=>ck ((List.length s1.2.2.2.1.1)+(List.length [(ndE y11.1.1)])) (rec1 ((),((s1.2.1.1,(y11.2.1,(y11.2.2,((),())))),(s1.2.2.1,(((s1.2.2.2.1.1++[(ndE y11.1.1)]),()),())))))) (bo (c86 () s1.2.1.1 (y9.2.1,y9.2.2)) fun y11=>ck ((List.length s1.2.2.2.1.1)+(List.length [(ndE y11.1.1)])) (rec1 ((),((s1.2.1.1,(y11.2.1,(y11.2.2,((),())))),(s1.2.2.1,(((s1.2.2.2.1.1++[(ndE y11.1.1)]),()),()))))))) (bo (c37 (false,()) s1.2.1.1 (y7.2.1,y7.2.2)) fun y9=>ck ((List.length s1.2.2.2.1.1)+(List.length [(ndE y9.1.1)])) (rec1 ((),((s1.2.1.1,(y9.2.1,(y9.2.2,((),())))),(s1.2.2.1,(((s1.2.2.2.1.1++[(ndE y9.1.1)]),()),()))))))) (bo (c86 () s1.2.1.1 (y5.2.1,y5.2.2)) fun y7=>ck ((List.length s1.2.2.2.1.1)+(List.length [(ndE y7.1.1)])) (rec1 ((),((s1.2.1.1,(y7.2.1,(y7.2.2,((),())))),(s1.2.2.1,(((s1.2.2.2.1.1++[(ndE y7.1.1)]),()),()))))))) (bo (c73 () s1.2.1.1 (y3.2.1,y3.2.2)) fun y5=>ck ((List.length s1.2.2.2.1.1)+(List.length [(ndE y5.1.1)])) (some (some (((s1.2.1.1,(y5.2.1,(y5.2.2,((),())))),()),((ndE (Nd.mk 20 0 (s1.2.2.2.1.1++[(ndE y5.1.1)]))),())))))) ((),((x.1.1,(y1.2.1,(y1.2.2,((),())))),((0,(0,([],()))),(([(ndE y1.1.1)],()),())))))
theorem eq60 (fu:Nat) (p:PS) (r:RS) x a:rnA fu p r false false fd60 [parK] [parK] ([]:LK) ([.st TI.node]:LK) x a=sh60 fu r.c37 p.c54 p.c72 p.c73 p.c78 p.c84 p.c85 r.c86 x a:=by kernel_rfl
def sh116 (fu:Nat) (c37:(Bool×Unit)->MM (Nd×Unit)) (c59:((Option MT)×Unit)->MM Unit) (c61:Unit->MM ((Option MT)×Unit)) (c78:(Str×Unit)->MM (Nd×Unit)) (c84:(Int×Unit)->MM (Bool×Unit)) (c86:Unit->MM (Nd×Unit)) (c117:(Str×Unit)->(List Nd)->MM (Unit×(List Nd))) (x:(ParT×Unit)) (a:(NdsT×Unit)):(Option (Option ((ParT×Unit)×(Nd×Unit)))):=bo (c59 ((some []),()) x.1.1 (x.1.2.1,x.1.2.2.1)) fun y1=>bo (c78 ([40],()) x.1.1 (y1.2.1,y1.2.2)) fun y3=>ck ((List.length a.1.1)+(List.length [(ndE y3.1.1)])) (zR (fun (join0:(Unit×(ParT×(NdsT×(JT×Unit))))->Option (Option ((ParT×Unit)×(Nd×Unit))))=>bo (c84 (0,()) x.1.1 (y3.2.1,y3.2.2)) fun y5=>cond y5.1.1 (bo (c37 (false,()) x.1.1 (y5.2.1,y5.2.2)) fun y7=>ck ((List.length (a.1.1++[(ndE y3.1.1)]))+(List.length [(ndE y7.1.1)])) (join0 ((),((x.1.1,(y7.2.1,(y7.2.2,((),())))),((((a.1.1++[(ndE y3.1.1)])++[(ndE y7.1.1)]),()),((0,(0,([],()))),())))))) (bo (c117 ([59],()) (a.1.1++[(ndE y3.1.1)]) x.1.1 (y5.2.1,y5.2.2)) fun y7=>join0 ((),((x.1.1,(y7.2.1,(y7.2.2,((),())))),((y7.1.2,()),((0,(0,([],()))),())))))) (fun (t0:(Unit×(ParT×(NdsT×(JT×Unit)))))=>bo (c117 ([59],()) t0.2.2.1.1 t0.2.1.1 (t0.2.1.2.1,t0.2.1.2.2.1)) fun y5=>bo (c117 ([41],()) y5.1.2 t0.2.1.1 (y5.2.1,y5.2.2)) fun y7=>bo (c86 () t0.2.1.1 (y7.2.1,y7.2.2)) fun y9=>ck ((List.length y7.1.2)+(List.length [(ndE y9.1.1)])) (bo (c61 () t0.2.1.1 (y9.2.1,y9.2.2)) fun y11=>zI y11.1.1 (some (some (((t0.2.1.1,(y11.2.1,(y11.2.2,((),())))),()),((ndE (Nd.mk 25 0 (y7.1.2++[(ndE y9.1.1)]))),())))) fun y12=>some (some (((t0.2.1.1,(y11.2.1,(y11.2.2,((),())))),()),((ndE (Nd.mk 25 0 (y7.1.2++[(ndE y9.1.1)]))),()))))))
theorem eq116 (fu:Nat) (p:PS) (r:RS) x a:rnA fu p r false false fd116 [parK] [parK] ([.ag [.ow true TI.node]]:LK) ([.st TI.node]:LK) x a=sh116 fu r.c37 p.c59 p.c61 p.c78 p.c84 r.c86 r.c117 x a:=by kernel_rfl
def sh115 (fu:Nat) (c78:(Str×Unit)->MM (Nd×Unit)) (c113:Unit->MM (Nd×Unit)) (x:(ParT×(NdsT×Unit))) (a:Unit):(Option (Option ((ParT×(NdsT×Unit))×Unit))):=bo (c78 ([40],()) x.1.1 (x.1.2.1,x.1.2.2.1)) fun y1=>bo (c113 () x.1.1 (y1.2.1,y1.2.2)) fun y3=>bo (c78 ([41],()) x.1.1 (y3.2.1,y3.2.2)) fun y5=>ck ((List.length x.2.1.1)+(List.length [(ndE y1.1.1),(ndE y3.1.1),(ndE y5.1.1)])) (some (some (((x.1.1,(y5.2.1,(y5.2.2,((),())))),(((x.2.1.1++[(ndE y1.1.1),(ndE y3.1.1),(ndE y5.1.1)]),()),())),())))
theorem eq115 (fu:Nat) (p:PS) (r:RS) x a:rnA fu p r false false fd115 [parK,ptsK] [parK,ptsK] ([]:LK) ([]:LK) x a=sh115 fu p.c78 r.c113 x a:=by kernel_rfl
def sh86 (fu:Nat) (c54:((List Str)×Unit)->MM (Bool×Unit)) (c59:((Option MT)×Unit)->MM Unit) (c60:Unit->MM (Nd×Unit)) (c61:Unit->MM ((Option MT)×Unit)) (c72:(Int×Unit)->MM (Str×Unit)) (c73:Unit->MM (Nd×Unit)) (c78:(Str×Unit)->MM (Nd×Unit)) (c80:Unit->MM (Nd×Unit)) (c85:(Int×Unit)->MM (Bool×Unit)) (c86:Unit->MM (Nd×Unit)) (c112:(Int×Unit)->MM (Bool×Unit)) (c113:Unit->MM (Nd×Unit)) (c114:Unit->MM (Nd×Unit)) (c115:Unit->(List Nd)->MM (Unit×(List Nd))) (c116:(NdsT×Unit)->MM (Nd×Unit)) (c117:(Str×Unit)->(List Nd)->MM (Unit×(List Nd))) (x:(ParT×Unit)) (a:Unit):(Option (Option ((ParT×Unit)×(Nd×Unit)))):=bo (c72 (0,()) x.1.1 (x.1.2.1,x.1.2.2.1)) fun y1=>cond (seq y1.1.1 [123]) (bo (c59 ((some []),()) x.1.1 (y1.2.1,y1.2.2)) fun y3=>bo (c60 () x.1.1 (y3.2.1,y3.2.2)) fun y5=>bo (c61 () x.1.1 (y5.2.1,y5.2.2)) fun y7=>zI y7.1.1 (some (some (((x.1.1,(y7.2.1,(y7.2.2,((),())))),()),((ndE y5.1.1),())))) fun y8=>some (some (((x.1.1,(y7.2.1,(y7.2.2,((),())))),()),((ndE y5.1.1),())))) (cond (seq y1.1.1 [59]) (bo (c73 () x.1.1 (y1.2.1,y1.2.2)) fun y3=>ck (List.length [(ndE y3.1.1)]) (some (some (((x.1.1,(y3.2.1,(y3.2.2,((),())))),()),((ndE (Nd.mk 33 0 [(ndE y3.1.1)])),()))))) (bo (c85 (0,()) x.1.1 (y1.2.1,y1.2.2)) fun y3=>cond y3.1.1 (bo (c72 (1,()) x.1.1 (y3.2.1,y3.2.2)) fun y5=>cond (seq y5.1.1 [58]) (bo (c73 () x.1.1 (y5.2.1,y5.2.2)) fun y7=>bo (c73 () x.1.1 (y7.2.1,y7.2.2)) fun y9=>bo (c86 () x.1.1 (y9.2.1,y9.2.2)) fun y11=>ck (List.length [(ndE y7.1.1),(ndE y9.1.1),(ndE y11.1.1)]) (some (some (((x.1.1,(y11.2.1,(y11.2.2,((),())))),()),((ndE (Nd.mk 29 0 [(ndE y7.1.1),(ndE y9.1.1),(ndE y11.1.1)])),()))))) (bo (c85 (0,()) x.1.1 (y5.2.1,y5.2.2)) fun y7=>cond y7.1.1 (bo (c113 () x.1.1 (y7.2.1,y7.2.2)) fun y9=>bo (c78 ([59],()) x.1.1 (y9.2.1,y9.2.2)) fun y11=>ck (List.length [(ndE y9.1.1),(ndE y11.1.1)]) (some (some (((x.1.1,(y11.2.1,(y11.2.2,((),())))),()),((ndE (Nd.mk 21 0 [(ndE y9.1.1),(ndE y11.1.1)])),()))))) (bo (c112 (1,()) x.1.1 (y7.2.1,y7.2.2)) fun y9=>cond (!y9.1.1) (bo (c113 () x.1.1 (y9.2.1,y9.2.2)) fun y11=>bo (c78 ([59],()) x.1.1 (y11.2.1,y11.2.2)) fun y13=>ck (List.length [(ndE y11.1.1),(ndE y13.1.1)]) (some (some (((x.1.1,(y13.2.1,(y13.2.2,((),())))),()),((ndE (Nd.mk 21 0 [(ndE y11.1.1),(ndE y13.1.1)])),()))))) (cond (seq y1.1.1 [115,105,122,101,111,102]) (bo (c113 () x.1.1 (y9.2.1,y9.2.2)) fun y11=>bo (c78 ([59],()) x.1.1 (y11.2.1,y11.2.2)) fun y13=>ck (List.length [(ndE y11.1.1),(ndE y13.1.1)]) (some (some (((x.1.1,(y13.2.1,(y13.2.2,((),())))),()),((ndE (Nd.mk 21 0 [(ndE y11.1.1),(ndE y13.1.1)])),()))))) (bo (c73 () x.1.1 (y9.2.1,y9.2.2)) fun y11=>ck (List.length [(ndE y11.1.1)]) (zR (fun (join0:(Unit×(ParT×(JT×(NdsT×Unit))))->Option (Option ((ParT×Unit)×(Nd×Unit))))=>cond (seq y1.1.1 [99,97,115,101]) (bo (c114 () x.1.1 (y11.2.1,y11.2.2)) fun y13=>bo (c78 ([58],()) x.1.1 (y13.2.1,y13.2.2)) fun y15=>bo (c86 () x.1.1 (y15.2.1,y15.2.2)) fun y17=>ck ((List.length [(ndE y11.1.1)])+(List.length [(ndE y13.1.1),(ndE y15.1.1),(ndE y17.1.1)])) (some (some (((x.1.1,(y17.2.1,(y17.2.2,((),())))),()),((ndE (Nd.mk 31 0 ([(ndE y11.1.1)]++[(ndE y13.1.1),(ndE y15.1.1),(ndE y17.1.1)]))),()))))) (cond (seq y1.1.1 [100,101,102,97,117,108,116]) (bo (c78 ([58],()) x.1.1 (y11.2.1,y11.2.2)) fun y13=>bo (c86 () x.1.1 (y13.2.1,y13.2.2)) fun y15=>ck ((List.length [(ndE y11.1.1)])+(List.length [(ndE y13.1.1),(ndE y15.1.1)])) (some (some (((x.1.1,(y15.2.1,(y15.2.2,((),())))),()),((ndE (Nd.mk 32 0 ([(ndE y11.1.1)]++[(ndE y13.1.1),(ndE y15.1.1)]))),()))))) (cond (seq y1.1.1 [105,102]) (bo (c115 () [(ndE y11.1.1)] x.1.1 (y11.2.1,y11.2.2)) fun y13=>bo (c86 () x.1.1 (y13.2.1,y13.2.2)) fun y15=>ck ((List.length y13.1.2)+(List.length [(ndE y15.1.1)])) (bo (c54 ([[101,108,115,101]],()) x.1.1 (y15.2.1,y15.2.2)) fun y17=>cond y17.1.1 (bo (c73 () x.1.1 (y17.2.1,y17.2.2)) fun y19=>bo (c86 () x.1.1 (y19.2.1,y19.2.2)) fun y21=>ck ((List.length (y13.1.2++[(ndE y15.1.1)]))+(List.length [(ndE y19.1.1),(ndE y21.1.1)])) (some (some (((x.1.1,(y21.2.1,(y21.2.2,((),())))),()),((ndE (Nd.mk 22 0 ((y13.1.2++[(ndE y15.1.1)])++[(ndE y19.1.1),(ndE y21.1.1)]))),()))))) (some (some (((x.1.1,(y17.2.1,(y17.2.2,((),())))),()),((ndE (Nd.mk 22 0 (y13.1.2++[(ndE y15.1.1)]))),())))))) (zR (fun (join1:((Bool×Unit)×(ParT×(JT×(NdsT×Unit))))->Option (Option ((ParT×Unit)×(Nd×Unit))))=>cond (seq y1.1.1 [119,104,105,108,101]) (join1 ((true,()),((x.1.1,(y11.2.1,(y11.2.2,((),())))),((0,(0,([],()))),(([(ndE y11.1.1)],()),()))))) (join1 (((seq y1.1.1 [115,119,105,116,99,104]),()),((x.1.1,(y11.2.1,(y11.2.2,((),())))),((0,(0,([],()))),(([(ndE y11.1.1)],()),())))))) (fun (t0:((Bool×Unit)×(ParT×(JT×(NdsT×Unit)))))=>cond t0.1.1 (bo (c115 () t0.2.2.2.1.1 t0.2.1.1 (t0.2.1.2.1,t0.2.1.2.2.1)) fun y13=>bo (c86 () t0.2.1.1 (y13.2.1,y13.2.2)) fun y15=>ck ((List.length y13.1.2)+(List.length [(ndE y15.1.1)])) (cond (seq y1.1.1 [119,104,105,108,101]) (some (some (((t0.2.1.1,(y15.2.1,(y15.2.2,((),())))),()),((ndE (Nd.mk 23 0 (y13.1.2++[(ndE y15.1.1)]))),())))) (some (some (((t0.2.1.1,(y15.2.1,(y15.2.2,((),())))),()),((ndE (Nd.mk 30 0 (y13.1.2++[(ndE y15.1.1)]))),())))))) (cond (seq y1.1.1 [100,111]) (bo (c86 () t0.2.1.1 (t0.2.1.2.1,t0.2.1.2.2.1)) fun y13=>bo (c78 ([119,104,105,108,101],()) t0.2.1.1 (y13.2.1,y13.2.2)) fun y15=>ck ((List.length t0.2.2.2.1.1)+(List.length [(ndE y13.1.1),(ndE y15.1.1)])) (bo (c115 () (t0.2.2.2.1.1++[(ndE y13.1.1),(ndE y15.1.1)]) t0.2.1.1 (y15.2.1,y15.2.2)) fun y17=>bo (c78 ([59],()) t0.2.1.1 (y17.2.1,y17.2.2)) fun y19=>ck ((List.length y17.1.2)+(List.length [(ndE y19.1.1)])) (some (some (((t0.2.1.1,(y19.2.1,(y19.2.2,((),())))),()),((ndE (Nd.mk 24 0 (y17.1.2++[(ndE y19.1.1)]))),())))))) (cond (seq y1.1.1 [102,111,114]) (bo (c116 ((t0.2.2.2.1.1,()),()) t0.2.1.1 (t0.2.1.2.1,t0.2.1.2.2.1)) fun y13=>some (some (((t0.2.1.1,(y13.2.1,(y13.2.2,((),())))),()),((ndE y13.1.1),())))) (cond (seq y1.1.1 [114,101,116,117,114,110]) (bo (c117 ([59],()) t0.2.2.2.1.1 t0.2.1.1 (t0.2.1.2.1,t0.2.1.2.2.1)) fun y13=>some (some (((t0.2.1.1,(y13.2.1,(y13.2.2,((),())))),()),((ndE (Nd.mk 26 0 y13.1.2)),())))) (zR (fun (join1:((Bool×Unit)×(ParT×(JT×(NdsT×Unit))))->Option (Option ((ParT×Unit)×(Nd×Unit))))=>cond (seq y1.1.1 [98,114,101,97,107]) (join1 ((true,()),((t0.2.1.1,(t0.2.1.2.1,(t0.2.1.2.2.1,((),())))),(t0.2.2.1,((t0.2.2.2.1.1,()),()))))) (join1 (((seq y1.1.1 [99,111,110,116,105,110,117,101]),()),((t0.2.1.1,(t0.2.1.2.1,(t0.2.1.2.2.1,((),())))),(t0.2.2.1,((t0.2.2.2.1.1,()),())))))) (fun (t1:((Bool×Unit)×(ParT×(JT×(NdsT×Unit)))))=>cond t1.1.1 (bo (c78 ([59],()) t1.2.1.1 (t1.2.1.2.1,t1.2.1.2.2.1)) fun y13=>ck ((List.length t1.2.2.2.1.1)+(List.length [(ndE y13.1.1)])) (some (some (((t1.2.1.1,(y13.2.1,(y13.2.2,((),())))),()),((ndE (Nd.mk 27 0 (t1.2.2.2.1.1++[(ndE y13.1.1)]))),()))))) (join0 ((),((t1.2.1.1,(t1.2.1.2.1,(t1.2.1.2.2.1,((),())))),(t1.2.2.1,((t1.2.2.2.1.1,()),()))))))))))))))) (fun (t0:(Unit×(ParT×(JT×(NdsT×Unit)))))=>cond (seq y1.1.1 [103,111,116,111]) (bo (c80 () t0.2.1.1 (t0.2.1.2.1,t0.2.1.2.2.1)) fun y13=>bo (c78 ([59],()) t0.2.1.1 (y13.2.1,y13.2.2)) fun y15=>ck ((List.length t0.2.2.2.1.1)+(List.length [(ndE y13.1.1),(ndE y15.1.1)])) (some (some (((t0.2.1.1,(y15.2.1,(y15.2.2,((),())))),()),((ndE (Nd.mk 28 0 (t0.2.2.2.1.1++[(ndE y13.1.1),(ndE y15.1.1)]))),()))))) (some none)))))))) (bo (c85 (0,()) x.1.1 (y3.2.1,y3.2.2)) fun y5=>cond y5.1.1 (bo (c113 () x.1.1 (y5.2.1,y5.2.2)) fun y7=>bo (c78 ([59],()) x.1.1 (y7.2.1,y7.2.2)) fun y9=>ck (List.length [(ndE y7.1.1),(ndE y9.1.1)]) (some (some (((x.1.1,(y9.2.1,(y9.2.2,((),())))),()),((ndE (Nd.mk 21 0 [(ndE y7.1.1),(ndE y9.1.1)])),()))))) (bo (c112 (1,()) x.1.1 (y5.2.1,y5.2.2)) fun y7=>cond (!y7.1.1) (bo (c113 () x.1.1 (y7.2.1,y7.2.2)) fun y9=>bo (c78 ([59],()) x.1.1 (y9.2.1,y9.2.2)) fun y11=>ck (List.length [(ndE y9.1.1),(ndE y11.1.1)]) (some (some (((x.1.1,(y11.2.1,(y11.2.2,((),())))),()),((ndE (Nd.mk 21 0 [(ndE y9.1.1),(ndE y11.1.1)])),()))))) (cond (seq y1.1.1 [115,105,122,101,111,102]) (bo (c113 () x.1.1 (y7.2.1,y7.2.2)) fun y9=>bo (c78 ([59],()) x.1.1 (y9.2.1,y9.2.2)) fun y11=>ck (List.length [(ndE y9.1.1),(ndE y11.1.1)]) (some (some (((x.1.1,(y11.2.1,(y11.2.2,((),())))),()),((ndE (Nd.mk 21 0 [(ndE y9.1.1),(ndE y11.1.1)])),()))))) (bo (c73 () x.1.1 (y7.2.1,y7.2.2)) fun y9=>ck (List.length [(ndE y9.1.1)]) (zR (fun (join0:(Unit×(ParT×(JT×(NdsT×Unit))))->Option (Option ((ParT×Unit)×(Nd×Unit))))=>cond (seq y1.1.1 [99,97,115,101]) (bo (c114 () x.1.1 (y9.2.1,y9.2.2)) fun y11=>bo (c78 ([58],()) x.1.1 (y11.2.1,y11.2.2)) fun y13=>bo (c86 () x.1.1 (y13.2.1,y13.2.2)) fun y15=>ck ((List.length [(ndE y9.1.1)])+(List.length [(ndE y11.1.1),(ndE y13.1.1),(ndE y15.1.1)])) (some (some (((x.1.1,(y15.2.1,(y15.2.2,((),())))),()),((ndE (Nd.mk 31 0 ([(ndE y9.1.1)]++[(ndE y11.1.1),(ndE y13.1.1),(ndE y15.1.1)]))),()))))) (cond (seq y1.1.1 [100,101,102,97,117,108,116]) (bo (c78 ([58],()) x.1.1 (y9.2.1,y9.2.2)) fun y11=>bo (c86 () x.1.1 (y11.2.1,y11.2.2)) fun y13=>ck ((List.length [(ndE y9.1.1)])+(List.length [(ndE y11.1.1),(ndE y13.1.1)])) (some (some (((x.1.1,(y13.2.1,(y13.2.2,((),())))),()),((ndE (Nd.mk 32 0 ([(ndE y9.1.1)]++[(ndE y11.1.1),(ndE y13.1.1)]))),()))))) (cond (seq y1.1.1 [105,102]) (bo (c115 () [(ndE y9.1.1)] x.1.1 (y9.2.1,y9.2.2)) fun y11=>bo (c86 () x.1.1 (y11.2.1,y11.2.2)) fun y13=>ck ((List.length y11.1.2)+(List.length [(ndE y13.1.1)])) (bo (c54 ([[101,108,115,101]],()) x.1.1 (y13.2.1,y13.2.2)) fun y15=>cond y15.1.1 (bo (c73 () x.1.1 (y15.2.1,y15.2.2)) fun y17=>bo (c86 () x.1.1 (y17.2.1,y17.2.2)) fun y19=>ck ((List.length (y11.1.2++[(ndE y13.1.1)]))+(List.length [(ndE y17.1.1),(ndE y19.1.1)])) (some (some (((x.1.1,(y19.2.1,(y19.2.2,((),())))),()),((ndE (Nd.mk 22 0 ((y11.1.2++[(ndE y13.1.1)])++[(ndE y17.1.1),(ndE y19.1.1)]))),()))))) (some (some (((x.1.1,(y15.2.1,(y15.2.2,((),())))),()),((ndE (Nd.mk 22 0 (y11.1.2++[(ndE y13.1.1)]))),())))))) (zR (fun (join1:((Bool×Unit)×(ParT×(JT×(NdsT×Unit))))->Option (Option ((ParT×Unit)×(Nd×Unit))))=>cond (seq y1.1.1 [119,104,105,108,101]) (join1 ((true,()),((x.1.1,(y9.2.1,(y9.2.2,((),())))),((0,(0,([],()))),(([(ndE y9.1.1)],()),()))))) (join1 (((seq y1.1.1 [115,119,105,116,99,104]),()),((x.1.1,(y9.2.1,(y9.2.2,((),())))),((0,(0,([],()))),(([(ndE y9.1.1)],()),())))))) (fun (t0:((Bool×Unit)×(ParT×(JT×(NdsT×Unit)))))=>cond t0.1.1 (bo (c115 () t0.2.2.2.1.1 t0.2.1.1 (t0.2.1.2.1,t0.2.1.2.2.1)) fun y11=>bo (c86 () t0.2.1.1 (y11.2.1,y11.2.2)) fun y13=>ck ((List.length y11.1.2)+(List.length [(ndE y13.1.1)])) (cond (seq y1.1.1 [119,104,105,108,101]) (some (some (((t0.2.1.1,(y13.2.1,(y13.2.2,((),())))),()),((ndE (Nd.mk 23 0 (y11.1.2++[(ndE y13.1.1)]))),())))) (some (some (((t0.2.1.1,(y13.2.1,(y13.2.2,((),())))),()),((ndE (Nd.mk 30 0 (y11.1.2++[(ndE y13.1.1)]))),())))))) (cond (seq y1.1.1 [100,111]) (bo (c86 () t0.2.1.1 (t0.2.1.2.1,t0.2.1.2.2.1)) fun y11=>bo (c78 ([119,104,105,108,101],()) t0.2.1.1 (y11.2.1,y11.2.2)) fun y13=>ck ((List.length t0.2.2.2.1.1)+(List.length [(ndE y11.1.1),(ndE y13.1.1)])) (bo (c115 () (t0.2.2.2.1.1++[(ndE y11.1.1),(ndE y13.1.1)]) t0.2.1.1 (y13.2.1,y13.2.2)) fun y15=>bo (c78 ([59],()) t0.2.1.1 (y15.2.1,y15.2.2)) fun y17=>ck ((List.length y15.1.2)+(List.length [(ndE y17.1.1)])) (some (some (((t0.2.1.1,(y17.2.1,(y17.2.2,((),())))),()),((ndE (Nd.mk 24 0 (y15.1.2++[(ndE y17.1.1)]))),())))))) (cond (seq y1.1.1 [102,111,114]) (bo (c116 ((t0.2.2.2.1.1,()),()) t0.2.1.1 (t0.2.1.2.1,t0.2.1.2.2.1)) fun y11=>some (some (((t0.2.1.1,(y11.2.1,(y11.2.2,((),())))),()),((ndE y11.1.1),())))) (cond (seq y1.1.1 [114,101,116,117,114,110]) (bo (c117 ([59],()) t0.2.2.2.1.1 t0.2.1.1 (t0.2.1.2.1,t0.2.1.2.2.1)) fun y11=>some (some (((t0.2.1.1,(y11.2.1,(y11.2.2,((),())))),()),((ndE (Nd.mk 26 0 y11.1.2)),())))) (zR (fun (join1:((Bool×Unit)×(ParT×(JT×(NdsT×Unit))))->Option (Option ((ParT×Unit)×(Nd×Unit))))=>cond (seq y1.1.1 [98,114,101,97,107]) (join1 ((true,()),((t0.2.1.1,(t0.2.1.2.1,(t0.2.1.2.2.1,((),())))),(t0.2.2.1,((t0.2.2.2.1.1,()),()))))) (join1 (((seq y1.1.1 [99,111,110,116,105,110,117,101]),()),((t0.2.1.1,(t0.2.1.2.1,(t0.2.1.2.2.1,((),())))),(t0.2.2.1,((t0.2.2.2.1.1,()),())))))) (fun (t1:((Bool×Unit)×(ParT×(JT×(NdsT×Unit)))))=>cond t1.1.1 (bo (c78 ([59],()) t1.2.1.1 (t1.2.1.2.1,t1.2.1.2.2.1)) fun y11=>ck ((List.length t1.2.2.2.1.1)+(List.length [(ndE y11.1.1)])) (some (some (((t1.2.1.1,(y11.2.1,(y11.2.2,((),())))),()),((ndE (Nd.mk 27 0 (t1.2.2.2.1.1++[(ndE y11.1.1)]))),()))))) (join0 ((),((t1.2.1.1,(t1.2.1.2.1,(t1.2.1.2.2.1,((),())))),(t1.2.2.1,((t1.2.2.2.1.1,()),()))))))))))))))) (fun (t0:(Unit×(ParT×(JT×(NdsT×Unit)))))=>cond (seq y1.1.1 [103,111,116,111]) (bo (c80 () t0.2.1.1 (t0.2.1.2.1,t0.2.1.2.2.1)) fun y11=>bo (c78 ([59],()) t0.2.1.1 (y11.2.1,y11.2.2)) fun y13=>ck ((List.length t0.2.2.2.1.1)+(List.length [(ndE y11.1.1),(ndE y13.1.1)])) (some (some (((t0.2.1.1,(y13.2.1,(y13.2.2,((),())))),()),((ndE (Nd.mk 28 0 (t0.2.2.2.1.1++[(ndE y11.1.1),(ndE y13.1.1)]))),()))))) (some none)))))))))
theorem eq86 (fu:Nat) (p:PS) (r:RS) x a:rnA fu p r false false fd86 [parK] [parK] ([]:LK) ([.st TI.node]:LK) x a=sh86 fu p.c54 p.c59 r.c60 p.c61 p.c72 p.c73 p.c78 p.c80 p.c85 r.c86 p.c112 r.c113 r.c114 r.c115 r.c116 r.c117 x a:=by kernel_rfl
def sh117 (fu:Nat) (c54:((List Str)×Unit)->MM (Bool×Unit)) (c78:(Str×Unit)->MM (Nd×Unit)) (c113:Unit->MM (Nd×Unit)) (x:(ParT×(NdsT×Unit))) (a:(Str×Unit)):(Option (Option ((ParT×(NdsT×Unit))×Unit))):=zR (fun (join0:(Unit×(ParT×(NdsT×Unit)))->Option (Option ((ParT×(NdsT×Unit))×Unit)))=>bo (c54 ([a.1],()) x.1.1 (x.1.2.1,x.1.2.2.1)) fun y1=>cond (!y1.1.1) (bo (c113 () x.1.1 (y1.2.1,y1.2.2)) fun y3=>ck ((List.length x.2.1.1)+(List.length [(ndE y3.1.1)])) (join0 ((),((x.1.1,(y3.2.1,(y3.2.2,((),())))),(((x.2.1.1++[(ndE y3.1.1)]),()),()))))) (join0 ((),((x.1.1,(y1.2.1,(y1.2.2,((),())))),((x.2.1.1,()),()))))) (fun (t0:(Unit×(ParT×(NdsT×Unit))))=>bo (c78 (a.1,()) t0.2.1.1 (t0.2.1.2.1,t0.2.1.2.2.1)) fun y1=>ck ((List.length t0.2.2.1.1)+(List.length [(ndE y1.1.1)])) (some (some (((t0.2.1.1,(y1.2.1,(y1.2.2,((),())))),(((t0.2.2.1.1++[(ndE y1.1.1)]),()),())),()))))
theorem eq117 (fu:Nat) (p:PS) (r:RS) x a:rnA fu p r false false fd117 [parK,ptsK] [parK,ptsK] ([.str]:LK) ([]:LK) x a=sh117 fu p.c54 p.c78 r.c113 x a:=by kernel_rfl
def sh113 (fu:Nat) (c54:((List Str)×Unit)->MM (Bool×Unit)) (c73:Unit->MM (Nd×Unit)) (c111:Unit->MM (Nd×Unit)) (c113:Unit->MM (Nd×Unit)) (x:(ParT×Unit)) (a:Unit):(Option (Option ((ParT×Unit)×(Nd×Unit)))):=bo (c111 () x.1.1 (x.1.2.1,x.1.2.2.1)) fun y1=>bo (c54 ([[44]],()) x.1.1 (y1.2.1,y1.2.2)) fun y3=>cond (!y3.1.1) (some (some (((x.1.1,(y3.2.1,(y3.2.2,((),())))),()),((ndE y1.1.1),())))) (bo (c73 () x.1.1 (y3.2.1,y3.2.2)) fun y5=>bo (c113 () x.1.1 (y5.2.1,y5.2.2)) fun y7=>some (some (((x.1.1,(y7.2.1,(y7.2.2,((),())))),()),((Nd.mk 54 0 [(ndE y1.1.1),(ndE y5.1.1),(ndE y7.1.1)]),()))))
theorem eq113 (fu:Nat) (p:PS) (r:RS) x a:rnA fu p r false false fd113 [parK] [parK] ([]:LK) ([.st TI.node]:LK) x a=sh113 fu p.c54 p.c73 r.c111 r.c113 x a:=by kernel_rfl
def sh111 (fu:Nat) (c54:((List Str)×Unit)->MM (Bool×Unit)) (c73:Unit->MM (Nd×Unit)) (c111:Unit->MM (Nd×Unit)) (c114:Unit->MM (Nd×Unit)) (x:(ParT×Unit)) (a:Unit):(Option (Option ((ParT×Unit)×(Nd×Unit)))):=bo (c114 () x.1.1 (x.1.2.1,x.1.2.2.1)) fun y1=>bo (c54 ([[61],[42,61],[47,61],[37,61],[43,61],[45,61],[60,60,61],[62,62,61],[38,61],[94,61],[124,61]],()) x.1.1 (y1.2.1,y1.2.2)) fun y3=>cond (!y3.1.1) (some (some (((x.1.1,(y3.2.1,(y3.2.2,((),())))),()),((ndE y1.1.1),())))) (bo (c73 () x.1.1 (y3.2.1,y3.2.2)) fun y5=>bo (c111 () x.1.1 (y5.2.1,y5.2.2)) fun y7=>some (some (((x.1.1,(y7.2.1,(y7.2.2,((),())))),()),((Nd.mk 53 0 [(ndE y1.1.1),(ndE y5.1.1),(ndE y7.1.1)]),()))))
theorem eq111 (fu:Nat) (p:PS) (r:RS) x a:rnA fu p r false false fd111 [parK] [parK] ([]:LK) ([.st TI.node]:LK) x a=sh111 fu p.c54 p.c73 r.c111 r.c114 x a:=by kernel_rfl
def sh114 (fu:Nat) (c54:((List Str)×Unit)->MM (Bool×Unit)) (c73:Unit->MM (Nd×Unit)) (c78:(Str×Unit)->MM (Nd×Unit)) (c113:Unit->MM (Nd×Unit)) (c114:Unit->MM (Nd×Unit)) (c131:(Int×Unit)->MM (Nd×Unit)) (x:(ParT×Unit)) (a:Unit):(Option (Option ((ParT×Unit)×(Nd×Unit)))):=bo (c131 (1,()) x.1.1 (x.1.2.1,x.1.2.2.1)) fun y1=>bo (c54 ([[63]],()) x.1.1 (y1.2.1,y1.2.2)) fun y3=>cond (!y3.1.1) (some (some (((x.1.1,(y3.2.1,(y3.2.2,((),())))),()),((ndE y1.1.1),())))) (bo (c73 () x.1.1 (y3.2.1,y3.2.2)) fun y5=>bo (c113 () x.1.1 (y5.2.1,y5.2.2)) fun y7=>bo (c78 ([58],()) x.1.1 (y7.2.1,y7.2.2)) fun y9=>bo (c114 () x.1.1 (y9.2.1,y9.2.2)) fun y11=>ck (List.length [(ndE y1.1.1),(ndE y5.1.1),(ndE y7.1.1),(ndE y9.1.1),(ndE y11.1.1)]) (some (some (((x.1.1,(y11.2.1,(y11.2.2,((),())))),()),((ndE (Nd.mk 52 0 [(ndE y1.1.1),(ndE y5.1.1),(ndE y7.1.1),(ndE y9.1.1),(ndE y11.1.1)])),())))))
theorem eq114 (fu:Nat) (p:PS) (r:RS) x a:rnA fu p r false false fd114 [parK] [parK] ([]:LK) ([.st TI.node]:LK) x a=sh114 fu p.c54 p.c73 p.c78 r.c113 r.c114 r.c131 x a:=by kernel_rfl
def sh131 (fu:Nat) (c143:(Str×Unit)->(Option (Int×Unit))) (c72:(Int×Unit)->MM (Str×Unit)) (c73:Unit->MM (Nd×Unit)) (c131:(Int×Unit)->MM (Nd×Unit)) (c142:Unit->MM (Nd×Unit)) (x:(ParT×Unit)) (a:(Int×Unit)):(Option (Option ((ParT×Unit)×(Nd×Unit)))):=bo (c142 () x.1.1 (x.1.2.1,x.1.2.2.1)) fun y1=>iter fu (fun (rec1:(Unit×(ParT×(JT×(JT×Unit))))->Option (Option ((ParT×Unit)×(Nd×Unit)))) (s1:(Unit×(ParT×(JT×(JT×Unit)))))=>bo (c72 (0,()) s1.2.1.1 (s1.2.1.2.1,s1.2.1.2.2.1)) fun y3=>Option.bind (c143 (y3.1.1,())) fun y4=>cond (ilt y4.1 a.1) (some (some (((s1.2.1.1,(y3.2.1,(y3.2.2,((),())))),()),((Nd.mk s1.2.2.2.1.1 s1.2.2.2.1.2.1 s1.2.2.2.1.2.2.1),())))) (cond (ieq y4.1 0) (some (some (((s1.2.1.1,(y3.2.1,(y3.2.2,((),())))),()),((Nd.mk s1.2.2.2.1.1 s1.2.2.2.1.2.1 s1.2.2.2.1.2.2.1),())))) (bo (c73 () s1.2.1.1 (y3.2.1,y3.2.2)) fun y6=>bo (c131 ((iadd .i64 y4.1 1),()) s1.2.1.1 (y6.2.1,y6.2.2)) fun y8=>rec1 ((),((s1.2.1.1,(y8.2.1,(y8.2.2,((),())))),(s1.2.2.1,((51,(0,([(Nd.mk s1.2.2.2.1.1 s1.2.2.2.1.2.1 s1.2.2.2.1.2.2.1),(ndE y6.1.1),(ndE y8.1.1)],()))),()))))))) ((),((x.1.1,(y1.2.1,(y1.2.2,((),())))),((0,(0,([],()))),(((Nd.kind y1.1.1),((Nd.tok y1.1.1),((Nd.kids y1.1.1),()))),()))))
theorem eq131 (fu:Nat) (p:PS) (r:RS) x a:rnA fu p r false false fd131 [parK] [parK] ([.int .i64]:LK) ([.st TI.node]:LK) x a=sh131 fu p.c143 p.c72 p.c73 r.c131 r.c142 x a:=by kernel_rfl
def sh142 (fu:Nat) (c54:((List Str)×Unit)->MM (Bool×Unit)) (c73:Unit->MM (Nd×Unit)) (c78:(Str×Unit)->MM (Nd×Unit)) (c84:(Int×Unit)->MM (Bool×Unit)) (c142:Unit->MM (Nd×Unit)) (c150:Unit->MM (Nd×Unit)) (c151:Unit->MM (Nd×Unit)) (x:(ParT×Unit)) (a:Unit):(Option (Option ((ParT×Unit)×(Nd×Unit)))):=bo (c54 ([[40]],()) x.1.1 (x.1.2.1,x.1.2.2.1)) fun y1=>cond (!y1.1.1) (bo (c150 () x.1.1 (y1.2.1,y1.2.2)) fun y3=>some (some (((x.1.1,(y3.2.1,(y3.2.2,((),())))),()),((ndE y3.1.1),())))) (bo (c84 (1,()) x.1.1 (y1.2.1,y1.2.2)) fun y3=>cond (!y3.1.1) (bo (c150 () x.1.1 (y3.2.1,y3.2.2)) fun y5=>some (some (((x.1.1,(y5.2.1,(y5.2.2,((),())))),()),((ndE y5.1.1),())))) (bo (c73 () x.1.1 (y3.2.1,y3.2.2)) fun y5=>bo (c151 () x.1.1 (y5.2.1,y5.2.2)) fun y7=>bo (c78 ([41],()) x.1.1 (y7.2.1,y7.2.2)) fun y9=>bo (c142 () x.1.1 (y9.2.1,y9.2.2)) fun y11=>ck (List.length [(ndE y5.1.1),(ndE y7.1.1),(ndE y9.1.1),(ndE y11.1.1)]) (some (some (((x.1.1,(y11.2.1,(y11.2.2,((),())))),()),((ndE (Nd.mk 50 0 [(ndE y5.1.1),(ndE y7.1.1),(ndE y9.1.1),(ndE y11.1.1)])),()))))))
theorem eq142 (fu:Nat) (p:PS) (r:RS) x a:rnA fu p r false false fd142 [parK] [parK] ([]:LK) ([.st TI.node]:LK) x a=sh142 fu p.c54 p.c73 p.c78 p.c84 r.c142 r.c150 r.c151 x a:=by kernel_rfl
def sh150 (fu:Nat) (c54:((List Str)×Unit)->MM (Bool×Unit)) (c73:Unit->MM (Nd×Unit)) (c78:(Str×Unit)->MM (Nd×Unit)) (c84:(Int×Unit)->MM (Bool×Unit)) (c142:Unit->MM (Nd×Unit)) (c150:Unit->MM (Nd×Unit)) (c151:Unit->MM (Nd×Unit)) (c154:(Nd×Unit)->MM (Nd×Unit)) (c155:Unit->MM (Nd×Unit)) (x:(ParT×Unit)) (a:Unit):(Option (Option ((ParT×Unit)×(Nd×Unit)))):=bo (c54 ([[43,43],[45,45]],()) x.1.1 (x.1.2.1,x.1.2.2.1)) fun y1=>cond y1.1.1 (bo (c73 () x.1.1 (y1.2.1,y1.2.2)) fun y3=>bo (c150 () x.1.1 (y3.2.1,y3.2.2)) fun y5=>ck (List.length [(ndE y3.1.1),(ndE y5.1.1)]) (some (some (((x.1.1,(y5.2.1,(y5.2.2,((),())))),()),((ndE (Nd.mk 48 0 [(ndE y3.1.1),(ndE y5.1.1)])),()))))) (bo (c54 ([[38],[42],[43],[45],[126],[33]],()) x.1.1 (y1.2.1,y1.2.2)) fun y3=>cond y3.1.1 (bo (c73 () x.1.1 (y3.2.1,y3.2.2)) fun y5=>bo (c142 () x.1.1 (y5.2.1,y5.2.2)) fun y7=>ck (List.length [(ndE y5.1.1),(ndE y7.1.1)]) (some (some (((x.1.1,(y7.2.1,(y7.2.2,((),())))),()),((ndE (Nd.mk 48 0 [(ndE y5.1.1),(ndE y7.1.1)])),()))))) (bo (c54 ([[115,105,122,101,111,102]],()) x.1.1 (y3.2.1,y3.2.2)) fun y5=>cond y5.1.1 (bo (c73 () x.1.1 (y5.2.1,y5.2.2)) fun y7=>ck (List.length [(ndE y7.1.1)]) (bo (c54 ([[40]],()) x.1.1 (y7.2.1,y7.2.2)) fun y9=>cond y9.1.1 (bo (c84 (1,()) x.1.1 (y9.2.1,y9.2.2)) fun y11=>cond y11.1.1 (bo (c73 () x.1.1 (y11.2.1,y11.2.2)) fun y13=>bo (c151 () x.1.1 (y13.2.1,y13.2.2)) fun y15=>bo (c78 ([41],()) x.1.1 (y15.2.1,y15.2.2)) fun y17=>ck ((List.length [(ndE y7.1.1)])+(List.length [(ndE y13.1.1),(ndE y15.1.1),(ndE y17.1.1)])) (some (some (((x.1.1,(y17.2.1,(y17.2.2,((),())))),()),((ndE (Nd.mk 49 0 ([(ndE y7.1.1)]++[(ndE y13.1.1),(ndE y15.1.1),(ndE y17.1.1)]))),()))))) (bo (c150 () x.1.1 (y11.2.1,y11.2.2)) fun y13=>ck ((List.length [(ndE y7.1.1)])+(List.length [(ndE y13.1.1)])) (some (some (((x.1.1,(y13.2.1,(y13.2.2,((),())))),()),((ndE (Nd.mk 49 0 ([(ndE y7.1.1)]++[(ndE y13.1.1)]))),())))))) (bo (c150 () x.1.1 (y9.2.1,y9.2.2)) fun y11=>ck ((List.length [(ndE y7.1.1)])+(List.length [(ndE y11.1.1)])) (some (some (((x.1.1,(y11.2.1,(y11.2.2,((),())))),()),((ndE (Nd.mk 49 0 ([(ndE y7.1.1)]++[(ndE y11.1.1)]))),()))))))) (bo (c155 () x.1.1 (y5.2.1,y5.2.2)) fun y7=>bo (c154 ((ndE y7.1.1),()) x.1.1 (y7.2.1,y7.2.2)) fun y9=>some (some (((x.1.1,(y9.2.1,(y9.2.2,((),())))),()),((ndE y9.1.1),()))))))
theorem eq150 (fu:Nat) (p:PS) (r:RS) x a:rnA fu p r false false fd150 [parK] [parK] ([]:LK) ([.st TI.node]:LK) x a=sh150 fu p.c54 p.c73 p.c78 p.c84 r.c142 r.c150 r.c151 r.c154 r.c155 x a:=by kernel_rfl
def sh154 (fu:Nat) (c54:((List Str)×Unit)->MM (Bool×Unit)) (c73:Unit->MM (Nd×Unit)) (c78:(Str×Unit)->MM (Nd×Unit)) (c80:Unit->MM (Nd×Unit)) (c111:Unit->MM (Nd×Unit)) (c113:Unit->MM (Nd×Unit)) (x:(ParT×Unit)) (a:(Nd×Unit)):(Option (Option ((ParT×Unit)×(Nd×Unit)))):=iter fu (fun (rec1:(Unit×(ParT×(JT×(JT×Unit))))->Option (Option ((ParT×Unit)×(Nd×Unit)))) (s1:(Unit×(ParT×(JT×(JT×Unit)))))=>ck (List.length [(Nd.mk s1.2.2.1.1 s1.2.2.1.2.1 s1.2.2.1.2.2.1)]) (bo (c54 ([[91]],()) s1.2.1.1 (s1.2.1.2.1,s1.2.1.2.2.1)) fun y1=>cond y1.1.1 (bo (c73 () s1.2.1.1 (y1.2.1,y1.2.2)) fun y3=>bo (c113 () s1.2.1.1 (y3.2.1,y3.2.2)) fun y5=>bo (c78 ([93],()) s1.2.1.1 (y5.2.1,y5.2.2)) fun y7=>ck ((List.length [(Nd.mk s1.2.2.1.1 s1.2.2.1.2.1 s1.2.2.1.2.2.1)])+(List.length [(ndE y3.1.1),(ndE y5.1.1),(ndE y7.1.1)])) (rec1 ((),((s1.2.1.1,(y7.2.1,(y7.2.2,((),())))),(((Nd.kind (Nd.mk 45 0 ([(Nd.mk s1.2.2.1.1 s1.2.2.1.2.1 s1.2.2.1.2.2.1)]++[(ndE y3.1.1),(ndE y5.1.1),(ndE y7.1.1)]))),((Nd.tok (Nd.mk 45 0 ([(Nd.mk s1.2.2.1.1 s1.2.2.1.2.1 s1.2.2.1.2.2.1)]++[(ndE y3.1.1),(ndE y5.1.1),(ndE y7.1.1)]))),((Nd.kids (Nd.mk 45 0 ([(Nd.mk s1.2.2.1.1 s1.2.2.1.2.1 s1.2.2.1.2.2.1)]++[(ndE y3.1.1),(ndE y5.1.1),(ndE y7.1.1)]))),()))),(s1.2.2.2.1,())))))) (bo (c54 ([[40]],()) s1.2.1.1 (y1.2.1,y1.2.2)) fun y3=>cond y3.1.1 (bo (c73 () s1.2.1.1 (y3.2.1,y3.2.2)) fun y5=>ck ((List.length [(Nd.mk s1.2.2.1.1 s1.2.2.1.2.1 s1.2.2.1.2.2.1)])+(List.length [(ndE y5.1.1)])) (bo (c54 ([[41]],()) s1.2.1.1 (y5.2.1,y5.2.2)) fun y7=>iter fu (fun (rec2:((Bool×Unit)×(ParT×(JT×(JT×(NdsT×Unit)))))->Option (Option ((ParT×Unit)×(Nd×Unit)))) (s2:((Bool×Unit)×(ParT×(JT×(JT×(NdsT×Unit))))))=>cond s2.1.1 (cond (ilt 2 (lenI s2.2.2.2.2.1.1)) (bo (c73 () s2.2.1.1 (s2.2.1.2.1,s2.2.1.2.2.1)) fun y9=>ck ((List.length s2.2.2.2.2.1.1)+(List.length [(ndE y9.1.1)])) (bo (c111 () s2.2.1.1 (y9.2.1,y9.2.2)) fun y11=>ck ((List.length (s2.2.2.2.2.1.1++[(ndE y9.1.1)]))+(List.length [(ndE y11.1.1)])) (bo (c54 ([[44]],()) s2.2.1.1 (y11.2.1,y11.2.2)) fun y13=>rec2 ((y13.1.1,()),((s2.2.1.1,(y13.2.1,(y13.2.2,((),())))),(s2.2.2.1,(s2.2.2.2.1,((((s2.2.2.2.2.1.1++[(ndE y9.1.1)])++[(ndE y11.1.1)]),()),())))))))) (bo (c111 () s2.2.1.1 (s2.2.1.2.1,s2.2.1.2.2.1)) fun y9=>ck ((List.length s2.2.2.2.2.1.1)+(List.length [(ndE y9.1.1)])) (bo (c54 ([[44]],()) s2.2.1.1 (y9.2.1,y9.2.2)) fun y11=>rec2 ((y11.1.1,()),((s2.2.1.1,(y11.2.1,(y11.2.2,((),())))),(s2.2.2.1,(s2.2.2.2.1,(((s2.2.2.2.2.1.1++[(ndE y9.1.1)]),()),())))))))) (bo (c78 ([41],()) s2.2.1.1 (s2.2.1.2.1,s2.2.1.2.2.1)) fun y9=>ck ((List.length s2.2.2.2.2.1.1)+(List.length [(ndE y9.1.1)])) (rec1 ((),((s2.2.1.1,(y9.2.1,(y9.2.2,((),())))),(((Nd.kind (Nd.mk 44 0 (s2.2.2.2.2.1.1++[(ndE y9.1.1)]))),((Nd.tok (Nd.mk 44 0 (s2.2.2.2.2.1.1++[(ndE y9.1.1)]))),((Nd.kids (Nd.mk 44 0 (s2.2.2.2.2.1.1++[(ndE y9.1.1)]))),()))),(s2.2.2.2.1,()))))))) (((!y7.1.1),()),((s1.2.1.1,(y7.2.1,(y7.2.2,((),())))),(s1.2.2.1,(s1.2.2.2.1,((([(Nd.mk s1.2.2.1.1 s1.2.2.1.2.1 s1.2.2.1.2.2.1)]++[(ndE y5.1.1)]),()),()))))))) (bo (c54 ([[46],[45,62]],()) s1.2.1.1 (y3.2.1,y3.2.2)) fun y5=>cond y5.1.1 (bo (c73 () s1.2.1.1 (y5.2.1,y5.2.2)) fun y7=>bo (c80 () s1.2.1.1 (y7.2.1,y7.2.2)) fun y9=>ck ((List.length [(Nd.mk s1.2.2.1.1 s1.2.2.1.2.1 s1.2.2.1.2.2.1)])+(List.length [(ndE y7.1.1),(ndE y9.1.1)])) (rec1 ((),((s1.2.1.1,(y9.2.1,(y9.2.2,((),())))),(((Nd.kind (Nd.mk 46 0 ([(Nd.mk s1.2.2.1.1 s1.2.2.1.2.1 s1.2.2.1.2.2.1)]++[(ndE y7.1.1),(ndE y9.1.1)]))),((Nd.tok (Nd.mk 46 0 ([(Nd.mk s1.2.2.1.1 s1.2.2.1.2.1 s1.2.2.1.2.2.1)]++[(ndE y7.1.1),(ndE y9.1.1)]))),((Nd.kids (Nd.mk 46 0 ([(Nd.mk s1.2.2.1.1 s1.2.2.1.2.1 s1.2.2.1.2.2.1)]++[(ndE y7.1.1),(ndE y9.1.1)]))),()))),(s1.2.2.2.1,())))))) (bo (c54 ([[43,43],[45,45]],()) s1.2.1.1 (y5.2.1,y5.2.2)) fun y7=>cond y7.1.1 (bo (c73 () s1.2.1.1 (y7.2.1,y7.2.2)) fun y9=>ck ((List.length [(Nd.mk s1.2.2.1.1 s1.2.2.1.2.1 s1.2.2.1.2.2.1)])+(List.length [(ndE y9.1.1)])) (rec1 ((),((s1.2.1.1,(y9.2.1,(y9.2.2,((),())))),(((Nd.kind (Nd.mk 47 0 ([(Nd.mk s1.2.2.1.1 s1.2.2.1.2.1 s1.2.2.1.2.2.1)]++[(ndE y9.1.1)]))),((Nd.tok (Nd.mk 47 0 ([(Nd.mk s1.2.2.1.1 s1.2.2.1.2.1 s1.2.2.1.2.2.1)]++[(ndE y9.1.1)]))),((Nd.kids (Nd.mk 47 0 ([(Nd.mk s1.2.2.1.1 s1.2.2.1.2.1 s1.2.2.1.2.2.1)]++[(ndE y9.1.1)]))),()))),(s1.2.2.2.1,())))))) (some (some (((s1.2.1.1,(y7.2.1,(y7.2.2,((),())))),()),((Nd.mk s1.2.2.1.1 s1.2.2.1.2.1 s1.2.2.1.2.2.1),()))))))))) ((),((x.1.1,(x.1.2.1,(x.1.2.2.1,((),())))),(((Nd.kind a.1),((Nd.tok a.1),((Nd.kids a.1),()))),((0,(0,([],()))),()))))
theorem eq154 (fu:Nat) (p:PS) (r:RS) x a:rnA fu p r false false fd154 [parK] [parK] ([.st TI.node]:LK) ([.st TI.node]:LK) x a=sh154 fu p.c54 p.c73 p.c78 p.c80 r.c111 r.c113 x a:=by kernel_rfl
def sh155 (fu:Nat) (c73:Unit->MM (Nd×Unit)) (c85:(Int×Unit)->MM (Bool×Unit)) (c112:(Int×Unit)->MM (Bool×Unit)) (c115:Unit->(List Nd)->MM (Unit×(List Nd))) (x:(ParT×Unit)) (a:Unit):(Option (Option ((ParT×Unit)×(Nd×Unit)))):=bo (c85 (0,()) x.1.1 (x.1.2.1,x.1.2.2.1)) fun y1=>cond y1.1.1 (bo (c73 () x.1.1 (y1.2.1,y1.2.2)) fun y3=>ck (List.length [(ndE y3.1.1)]) (some (some (((x.1.1,(y3.2.1,(y3.2.2,((),())))),()),((ndE (Nd.mk 40 0 [(ndE y3.1.1)])),()))))) (bo (c112 (2,()) x.1.1 (y1.2.1,y1.2.2)) fun y3=>cond y3.1.1 (bo (c73 () x.1.1 (y3.2.1,y3.2.2)) fun y5=>ck (List.length [(ndE y5.1.1)]) (some (some (((x.1.1,(y5.2.1,(y5.2.2,((),())))),()),((ndE (Nd.mk 41 0 [(ndE y5.1.1)])),()))))) (bo (c112 (3,()) x.1.1 (y3.2.1,y3.2.2)) fun y5=>cond y5.1.1 (bo (c73 () x.1.1 (y5.2.1,y5.2.2)) fun y7=>ck (List.length [(ndE y7.1.1)]) (some (some (((x.1.1,(y7.2.1,(y7.2.2,((),())))),()),((ndE (Nd.mk 41 0 [(ndE y7.1.1)])),()))))) (bo (c112 (4,()) x.1.1 (y5.2.1,y5.2.2)) fun y7=>cond y7.1.1 (iter fu (fun (rec1:(Unit×(ParT×(JT×(NdsT×Unit))))->Option (Option ((ParT×Unit)×(Nd×Unit)))) (s1:(Unit×(ParT×(JT×(NdsT×Unit)))))=>bo (c112 (4,()) s1.2.1.1 (s1.2.1.2.1,s1.2.1.2.2.1)) fun y9=>cond y9.1.1 (bo (c73 () s1.2.1.1 (y9.2.1,y9.2.2)) fun y11=>ck ((List.length s1.2.2.2.1.1)+(List.length [(ndE y11.1.1)])) (rec1 ((),((s1.2.1.1,(y11.2.1,(y11.2.2,((),())))),(s1.2.2.1,(((s1.2.2.2.1.1++[(ndE y11.1.1)]),()),())))))) (some (some (((s1.2.1.1,(y9.2.1,(y9.2.2,((),())))),()),((ndE (Nd.mk 42 0 s1.2.2.2.1.1)),()))))) ((),((x.1.1,(y7.2.1,(y7.2.2,((),())))),((0,(0,([],()))),(([],()),()))))) (bo (c115 () [] x.1.1 (y7.2.1,y7.2.2)) fun y9=>some (some (((x.1.1,(y9.2.1,(y9.2.2,((),())))),()),((ndE (Nd.mk 43 0 y9.1.2)),())))))))
theorem eq155 (fu:Nat) (p:PS) (r:RS) x a:rnA fu p r false false fd155 [parK] [parK] ([]:LK) ([.st TI.node]:LK) x a=sh155 fu p.c73 p.c85 p.c112 r.c115 x a:=by kernel_rfl
def sh143 (fu:Nat) (nf:Nat->Bool) (x0:Str):(Option (Int×Unit)):=cond (seq x0 [124,124]) (some (1,())) (cond (seq x0 [38,38]) (some (2,())) (cond (seq x0 [124]) (some (3,())) (cond (seq x0 [94]) (some (4,())) (cond (seq x0 [38]) (some (5,())) (cond (seq x0 [61,61]) (some (6,())) (cond (seq x0 [33,61]) (some (6,())) (cond (seq x0 [60]) (some (7,())) (cond (seq x0 [62]) (some (7,())) (cond (seq x0 [60,61]) (some (7,())) (cond (seq x0 [62,61]) (some (7,())) (cond (seq x0 [60,60]) (some (8,())) (cond (seq x0 [62,62]) (some (8,())) (cond (seq x0 [43]) (some (9,())) (cond (seq x0 [45]) (some (9,())) (cond (seq x0 [42]) (some (10,())) (cond (seq x0 [47]) (some (10,())) (cond (seq x0 [37]) (some (10,())) (some (0,())))))))))))))))))))
theorem eq143:@run143 = @sh143:=by kernel_rfl
theorem con53 (fu:Nat) {p:PS} (hp:POk p) {r:RS} (hr:ROk r):CQ 53 (cM k0 ([.st TI.node,.bool]:LK) (mM (sh53 fu p.c33 p.c72 p.c73 r.c74 r.c75 p.c76))):=
 xB (xC fu hp hr fdok53 (by decide) (eq53 fu p r))
theorem con74 (fu:Nat) {p:PS} (hp:POk p) {r:RS} (hr:ROk r):CQ 74 (cM k0 kN (mM (sh74 fu p.c54 p.c73 p.c85 r.c107))):=
 xB (xC fu hp hr fdok74 (by decide) (eq74 fu p r))
theorem con107 (fu:Nat) {p:PS} (hp:POk p) {r:RS} (hr:ROk r):CQ 107 (cM k0 kN (mM (sh107 fu r.c53 p.c54 r.c56 p.c73 p.c78))):=
 xB (xC fu hp hr zOp (by decide) (eq107 fu p r))
theorem con75 (fu:Nat) {p:PS} (hp:POk p) {r:RS} (hr:ROk r):CQ 75 (cM k0 kN (mM (sh75 fu p.c54 p.c73 p.c78 p.c85 r.c108))):=
 xB (xC fu hp hr fdok75 (by decide) (eq75 fu p r))
theorem con108 (fu:Nat) {p:PS} (hp:POk p) {r:RS} (hr:ROk r):CQ 108 (cM k0 kN (mM (sh108 fu p.c54 p.c58 p.c72 p.c73 p.c80 r.c114))):=
 xB (xC fu hp hr zO1 (by decide) (eq108 fu p r))
theorem con79 (fu:Nat) {p:PS} (hp:POk p) {r:RS} (hr:ROk r):CQ 79 (cX k0 k0 (mX (sh79 fu p.c54 p.c73))):=
 zHs (xC fu hp hr fdok79 (by decide) (eq79 fu p r))
theorem con82 (fu:Nat) {p:PS} (hp:POk p) {r:RS} (hr:ROk r):CQ 82 (cX k0 k0 (mX (sh82 fu p.c54 p.c73 p.c78 r.c81 r.c111))):=
 zHs (xC fu hp hr fdok82 (by decide) (eq82 fu p r))
theorem con56 (fu:Nat) {p:PS} (hp:POk p) {r:RS} (hr:ROk r):CQ 56 (cN k0 ([.st TI.node,.str,.bool]:LK) (mN (sh56 fu p.c54 r.c56 p.c72 p.c73 p.c78 r.c79 p.c80 r.c81 r.c82))):=
 cN_of (xC fu hp hr fdok56 (by decide) (eq56 fu p r))
theorem con130 (fu:Nat) {p:PS} (hp:POk p) {r:RS} (hr:ROk r):CQ 130 (cM kB ([.st TI.node,.str,.bool]:LK) (mM (sh130 fu p.c54 p.c72 p.c73 p.c76 p.c78 r.c79 r.c82 p.c85 r.c130))):=
 xB (xC fu hp hr zPU (by decide) (eq130 fu p r))
theorem con81 (fu:Nat) {p:PS} (hp:POk p) {r:RS} (hr:ROk r):CQ 81 (cL k0 kN (mL (sh81 fu p.c54 p.c59 p.c61 p.c73 p.c78 r.c110))):=
 cL_of (xC fu hp hr fdok81 (by decide) (eq81 fu p r))
theorem con110 (fu:Nat) {p:PS} (hp:POk p) {r:RS} (hr:ROk r):CQ 110 (cM k0 kN (mM (sh110 fu r.c53 p.c58 r.c130))):=
 xB (xC fu hp hr zOw (by decide) (eq110 fu p r))
theorem con151 (fu:Nat) {p:PS} (hp:POk p) {r:RS} (hr:ROk r):CQ 151 (cM k0 kN (mM (sh151 fu r.c53 r.c130))):=
 xB (xC fu hp hr zPQ (by decide) (eq151 fu p r))
theorem con83 (fu:Nat) {p:PS} (hp:POk p) {r:RS} (hr:ROk r):CQ 83 (cM k0 kN (mM (sh83 fu p.c54 p.c73 p.c78 r.c83 r.c111))):=
 xB (xC fu hp hr fdok83 (by decide) (eq83 fu p r))
theorem con57 (fu:Nat) {p:PS} (hp:POk p) {r:RS} (hr:ROk r):CQ 57 (cM ([.st TI.node,.str,.bool]:LK) kN (mM (sh57 fu p.c54 p.c58 p.c73 r.c83))):=
 xB (xC fu hp hr fdok57 (by decide) (eq57 fu p r))
theorem con55 (fu:Nat) {p:PS} (hp:POk p) {r:RS} (hr:ROk r):CQ 55 (cM ([.ag [.ow true TI.node],.bool]:LK) kN (mM (sh55 fu p.c54 r.c56 r.c57 p.c73 p.c78))):=
 xB (xC fu hp hr fdok55 (by decide) (eq55 fu p r))
theorem con37 (fu:Nat) {p:PS} (hp:POk p) {r:RS} (hr:ROk r):CQ 37 (cM kB kN (mM (sh37 fu r.c53 p.c54 r.c55 r.c56 r.c57 p.c58 p.c59 r.c60 p.c61))):=
 xB (xC fu hp hr fdok37 (by decide) (eq37 fu p r))
theorem con60 (fu:Nat) {p:PS} (hp:POk p) {r:RS} (hr:ROk r):CQ 60 (cM k0 kN (mM (sh60 fu r.c37 p.c54 p.c72 p.c73 p.c78 p.c84 p.c85 r.c86))):=
 xB (xC fu hp hr fdok60 (by decide) (eq60 fu p r))
theorem con86 (fu:Nat) {p:PS} (hp:POk p) {r:RS} (hr:ROk r):CQ 86 (cM k0 kN (mM (sh86 fu p.c54 p.c59 r.c60 p.c61 p.c72 p.c73 p.c78 p.c80 p.c85 r.c86 p.c112 r.c113 r.c114 r.c115 r.c116 r.c117))):=
 xB (xC fu hp hr fdok86 (by decide) (eq86 fu p r))
theorem con116 (fu:Nat) {p:PS} (hp:POk p) {r:RS} (hr:ROk r):CQ 116 (cM ([.ag [.ow true TI.node]]:LK) kN (mM (sh116 fu r.c37 p.c59 p.c61 p.c78 p.c84 r.c86 r.c117))):=
 xB (xC fu hp hr zPb (by decide) (eq116 fu p r))
theorem con115 (fu:Nat) {p:PS} (hp:POk p) {r:RS} (hr:ROk r):CQ 115 (cX k0 k0 (mX (sh115 fu p.c78 r.c113))):=
 zHs (xC fu hp hr zQe (by decide) (eq115 fu p r))
theorem con117 (fu:Nat) {p:PS} (hp:POk p) {r:RS} (hr:ROk r):CQ 117 (cX kS k0 (mX (sh117 fu p.c54 p.c78 r.c113))):=
 zHs (xC fu hp hr zO9 (by decide) (eq117 fu p r))
theorem con113 (fu:Nat) {p:PS} (hp:POk p) {r:RS} (hr:ROk r):CQ 113 (cM k0 kN (mM (sh113 fu p.c54 p.c73 r.c111 r.c113))):=
 xB (xC fu hp hr zOj (by decide) (eq113 fu p r))
theorem con111 (fu:Nat) {p:PS} (hp:POk p) {r:RS} (hr:ROk r):CQ 111 (cM k0 kN (mM (sh111 fu p.c54 p.c73 r.c111 r.c114))):=
 xB (xC fu hp hr zPy (by decide) (eq111 fu p r))
theorem con114 (fu:Nat) {p:PS} (hp:POk p) {r:RS} (hr:ROk r):CQ 114 (cM k0 kN (mM (sh114 fu p.c54 p.c73 p.c78 r.c113 r.c114 r.c131))):=
 xB (xC fu hp hr zOu (by decide) (eq114 fu p r))
theorem con131 (fu:Nat) {p:PS} (hp:POk p) {r:RS} (hr:ROk r):CQ 131 (cM kI kN (mM (sh131 fu p.c143 p.c72 p.c73 r.c131 r.c142))):=
 xB (xC fu hp hr zO4 (by decide) (eq131 fu p r))
theorem con142 (fu:Nat) {p:PS} (hp:POk p) {r:RS} (hr:ROk r):CQ 142 (cM k0 kN (mM (sh142 fu p.c54 p.c73 p.c78 p.c84 r.c142 r.c150 r.c151))):=
 xB (xC fu hp hr zQT (by decide) (eq142 fu p r))
theorem con150 (fu:Nat) {p:PS} (hp:POk p) {r:RS} (hr:ROk r):CQ 150 (cM k0 kN (mM (sh150 fu p.c54 p.c73 p.c78 p.c84 r.c142 r.c150 r.c151 r.c154 r.c155))):=
 xB (xC fu hp hr zPv (by decide) (eq150 fu p r))
theorem con154 (fu:Nat) {p:PS} (hp:POk p) {r:RS} (hr:ROk r):CQ 154 (cM kN kN (mM (sh154 fu p.c54 p.c73 p.c78 p.c80 r.c111 r.c113))):=
 xB (xC fu hp hr zQR (by decide) (eq154 fu p r))
theorem con155 (fu:Nat) {p:PS} (hp:POk p) {r:RS} (hr:ROk r):CQ 155 (cM k0 kN (mM (sh155 fu p.c73 p.c85 p.c112 r.c115))):=
 xB (xC fu hp hr zOi (by decide) (eq155 fu p r))
theorem con143 (fu:Nat) :ConOk CC Tryz.prog 143 ⟨zCz,zCT,fun x=>sh143 fu (fun _=>false) x.1⟩:=
 xd (c:=⟨zCz,zCT,fun x=>sh143 fu (fun _=>false) x.1⟩) (syn:=syn) (fu:=fu) (d:=2) (inl:=zB []) (orc:=zB []) (orr:=zB []) (orp:=zB []) (pf:=hasN []) (rf:=hasN []) yk CCok mixed (fun g=>(zL (α:=Con UU) (l:=[]) g).symm) (fun g=>(zL (α:=CR UU) (l:=[]) g).symm) (zD) (zD) (zD) (zD) zP3 (by show 1<=32; decide) (xG rfl) (fun nf x=>by show run143 fu nf x.1=_; rw [eq143]; rfl)
end
section
open Go.Al Go.Den
abbrev as41:List (AK UU):=[.int .i64,.dl TI.node]
abbrev rs41:List (AK UU):=[.st TI.node]
def kf15:Nat->List Nat
 | 0=>[0]
 | 1=>[2]
 | _=>[]
def hd15:List (Nat×Head UU):=[]
def jn15:List (Nat×Head UU):=[]
noncomputable def fd15:FD UU:=⟨⟨fun d=>hasN [] d,fun d=>hasN [] d,kf15,zB hd15,zB jn15,ze []⟩,zU Tryz.f15,6,[.tmp 2]⟩
def kf33:Nat->List Nat
 | 0=>[0,1]
 | 1=>[4]
 | _=>[]
def hd33:List (Nat×Head UU):=[]
def jn33:List (Nat×Head UU):=[]
noncomputable def fd33:FD UU:=⟨⟨fun d=>hasN [] d,fun d=>hasN [] d,kf33,zB hd33,zB jn33,ze []⟩,zU Tryz.f33,9,[.tmp 4]⟩
def kf52:Nat->List Nat
 | 0=>[0,1]
 | 1=>[0,1,7,8]
 | 2=>[0,1,7,8,9]
 | 3=>[0,1,5,7,8]
 | 4=>[0,1,5,7,8,16]
 | 5=>[4]
 | 6=>[0,1,7,8]
 | 7=>[4]
 | _=>[]
def hd52:List (Nat×Head UU):=[(2,⟨[0,1,7],[(8,.int .i64)],[]⟩)]
def jn52:List (Nat×Head UU):=[]
noncomputable def fd52:FD UU:=⟨⟨fun d=>hasN [] d,fun d=>hasN [] d,kf52,zB hd52,zB jn52,ze []⟩,zU Tryz.f52,19,[.tmp 4]⟩
noncomputable def run33 (fu:Nat) (nf:Nat->Bool) (x0:List (List UInt8)) (x1:List UInt8):Option (zQ rs33):=
 qw CC Tb fu 3 (zB [(52,fd52)]) (zB []) (zB []) (zB []) fd33 as33 rs33 nf (x0,x1,())
theorem fdok33:FDOk Tryz.prog (hasN []) (hasN []) 33 fd33:=⟨⟨Tryz.f33,Tryz.func33,by kernel_rfl,Tryz.ntmps33,Tryz.results33⟩,by kernel_rfl,by kernel_rfl,by kernel_rfl⟩
theorem zMe:FDOk Tryz.prog (hasN []) (hasN []) 52 fd52:=⟨⟨Tryz.f52,Tryz.func52,by kernel_rfl,Tryz.ntmps52,Tryz.results52⟩,by kernel_rfl,by kernel_rfl,by kernel_rfl⟩
noncomputable def run15 (fu:Nat) (c33:List (List UInt8)×List UInt8×Unit->Option (Bool×Unit)) (nf:Nat->Bool) (x0:List UInt8):Option (zQ rs15):=
 qw CC Tb fu 2 (zB []) (zB [(33,(⟨as33,rs33,c33⟩:Con UU))]) (zB []) (zB []) fd15 as15 rs15 nf (x0,())
theorem fdok15:FDOk Tryz.prog (hasN [33]) (hasN []) 15 fd15:=⟨⟨Tryz.f15,Tryz.func15,by kernel_rfl,Tryz.ntmps15,Tryz.results15⟩,by kernel_rfl,by kernel_rfl,by kernel_rfl⟩
noncomputable def run41 (fu:Nat) (nf:Nat->Bool) (x0:Int) (x1:List Nd):Option (zQ rs41):=
 qw CC Tb fu 2 (zB []) (zB []) (zB []) (zB []) fd41 as41 rs41 nf (x0,x1,())
theorem fdok41:FDOk Tryz.prog (hasN []) (hasN []) 41 fd41:=⟨⟨Tryz.f41,Tryz.func41,by kernel_rfl,Tryz.ntmps41,Tryz.results41⟩,by kernel_rfl,by kernel_rfl,by kernel_rfl⟩
end
section
open Go.Al Go.Den
def sh33 (fu:Nat) (nf:Nat->Bool) (x0:(List Str)) (x1:Str):(Option (Bool×Unit)):=iter fu (fun (rec1:((Int×Unit)×Unit)->Option (Bool×Unit)) (s1:((Int×Unit)×Unit))=>cond (ilt s1.1.1 (lenI x0)) (cond (inB s1.1.1 (List.length x0)) (cond (seq x1 (List.getD x0 (Int.toNat s1.1.1) [])) (some ((ile 0 s1.1.1),())) (rec1 (((iadd .i64 s1.1.1 1),()),()))) (none)) (some ((ile 0 (Neg.neg 1)),()))) ((0,()),())
theorem eq33:@run33 = @sh33:=by kernel_rfl
def sh15 (fu:Nat) (c33:((List Str)×(Str×Unit))->(Option (Bool×Unit))) (nf:Nat->Bool) (x0:Str):(Option (Bool×Unit)):=Option.bind (c33 ([[97,117,116,111],[98,114,101,97,107],[99,97,115,101],[99,104,97,114],[99,111,110,115,116],[99,111,110,116,105,110,117,101],[100,101,102,97,117,108,116],[100,111],[100,111,117,98,108,101],[101,108,115,101],[101,110,117,109],[101,120,116,101,114,110],[102,108,111,97,116],[102,111,114],[103,111,116,111],[105,102],[105,110,108,105,110,101],[105,110,116],[108,111,110,103],[114,101,103,105,115,116,101,114],[114,101,116,117,114,110],[115,104,111,114,116],[115,105,103,110,101,100],[115,105,122,101,111,102],[115,116,97,116,105,99],[115,116,114,117,99,116],[115,119,105,116,99,104],[116,121,112,101,100,101,102],[117,110,105,111,110],[117,110,115,105,103,110,101,100],[118,111,105,100],[118,111,108,97,116,105,108,101],[119,104,105,108,101]],(x0,()))) fun y0=>some (y0.1,())
theorem eq15:@run15 = @sh15:=by kernel_rfl
def sh41 (fu:Nat) (nf:Nat->Bool) (x0:Int) (x1:(List Nd)):(Option (Nd×Unit)):=some ((Nd.mk x0 0 x1),())
theorem eq41:@run41 = @sh41:=by kernel_rfl
theorem con33 (fu:Nat) :ConOk CC Tryz.prog 33 ⟨as33,rs33,fun x=>sh33 fu (fun _=>false) x.1 x.2.1⟩:=
 xd (c:=⟨as33,rs33,fun x=>sh33 fu (fun _=>false) x.1 x.2.1⟩) (syn:=syn) (fu:=fu) (d:=3) (inl:=zB [(52,fd52)]) (orc:=zB []) (orr:=zB []) (orp:=zB []) (pf:=hasN []) (rf:=hasN []) yk CCok mixed (fun g=>(zL (α:=Con UU) (l:=[]) g).symm) (fun g=>(zL (α:=CR UU) (l:=[]) g).symm) (zE zMe (zD)) (zD) (zD) (zD) fdok33 (by show 2<=9; decide) (xG rfl) (fun nf x=>by show run33 fu nf x.1 x.2.1=_; rw [eq33]; rfl)
theorem con15 (fu:Nat) (c33:zQ as33->Option (zQ rs33)) (h33:ConOk CC Tryz.prog 33 ⟨as33,rs33,c33⟩):ConOk CC Tryz.prog 15 ⟨as15,rs15,fun x=>sh15 fu c33 (fun _=>false) x.1⟩:=
 xd (c:=⟨as15,rs15,fun x=>sh15 fu c33 (fun _=>false) x.1⟩) (syn:=syn) (fu:=fu) (d:=2) (inl:=zB []) (orc:=zB [(33,(⟨as33,rs33,c33⟩:Con UU))]) (orr:=zB []) (orp:=zB []) (pf:=hasN [33]) (rf:=hasN []) yk CCok mixed (fun g=>(zL (α:=Con UU) (l:=[(33,(⟨as33,rs33,c33⟩:Con UU))]) g).symm) (fun g=>(zL (α:=CR UU) (l:=[]) g).symm) (zD) (zE ⟨zFd,h33⟩ (zD)) (zD) (zD) fdok15 (by show 1<=6; decide) (xG rfl) (fun nf x=>by show run15 fu c33 nf x.1=_; rw [eq15]; rfl)
theorem con41 (fu:Nat) :ConOk CC Tryz.prog 41 ⟨as41,rs41,fun x=>sh41 fu (fun _=>false) x.1 x.2.1⟩:=
 xd (c:=⟨as41,rs41,fun x=>sh41 fu (fun _=>false) x.1 x.2.1⟩) (syn:=syn) (fu:=fu) (d:=2) (inl:=zB []) (orc:=zB []) (orr:=zB []) (orp:=zB []) (pf:=hasN []) (rf:=hasN []) yk CCok mixed (fun g=>(zL (α:=Con UU) (l:=[]) g).symm) (fun g=>(zL (α:=CR UU) (l:=[]) g).symm) (zD) (zD) (zD) (zD) fdok41 (by show 2<=8; decide) (xG rfl) (fun nf x=>by show run41 fu nf x.1 x.2.1=_; rw [eq41]; rfl)
end
section
open Go.Al Go.Den Go.RowKit
attribute [local congr] jP jg kY zAI qO qz xt xw qx js qy kX jQ jL xm qB jF kQ kZ qd jo jE qY qf jB jG qb jK jJ qe zAJ kR kV jq ji jh jI qa qc
theorem zA9 {s:S} {l:List TokT} {i:Int} {xs:List MT} {u u' u'':Unit} {vx:List V} {r:List Res} (h:VKs CC s [parK] ((l,i,xs,u,u'),u'') vx r) :
 ∃ b0 b cap fp m,vx=[.at (.pointer (some ⟨b0,0,none⟩))]/\Al.look s.box b0=some ([.lst (zh (l.map (CC.encV TI.tok))) (l.map (CC.encV TI.tok)),.at (.int .i64 i),.at (.slice (some ⟨b,0,none⟩) xs.length cap),.at (.map m)],4) /\
  zM s.ob b=some (.sc (xs.map trMC) cap,fp)/\r=[.inr b0,.ob b]:=by
 simp only [VKs,VK] at h
 obtain ⟨v,vs',r1,r2,rfl,rfl,⟨b0,vs,rs',rfl,h1,h2,rfl⟩,rfl,rfl⟩:=h
 obtain ⟨v1,w1,q1,q2,rfl,rfl,⟨rfl,rfl⟩,v2,w2,q3,q4,rfl,rfl,⟨rfl,rfl⟩,v3,w3,q5,q6,rfl,rfl,⟨b,cap,fp,rfl,h3,rfl⟩,v4,w4,q7,q8,rfl,rfl,⟨⟨m,rfl⟩,rfl⟩,rfl,rfl⟩:=h2
 exact ⟨b0,b,cap,fp,m,rfl,h1,h3,rfl⟩
theorem zBL {s:S} {l:List TokT} {i:Int} {xs:List MT} {u u' u'':Unit} {b0 b cap n:Nat} {fp:List Nat} {m:Option Nat} (hn:n=xs.length) (h1:Al.look s.box b0=some ([.lst (zh (l.map (CC.encV TI.tok))) (l.map (CC.encV TI.tok)),.at (.int .i64 i),.at (.slice (some ⟨b,0,none⟩) n cap),.at (.map m)],4))
 (h2:zM s.ob b=some (.sc (xs.map trMC) cap,fp)):VKs CC s [parK] ((l,i,xs,u,u'),u'') [.at (.pointer (some ⟨b0,0,none⟩))] [.inr b0,.ob b]:=by
 subst hn
 simp only [VKs,VK]
 exact ⟨_,_,_,[],rfl,rfl,⟨b0,_,[.ob b],rfl,h1,⟨_,_,[],[.ob b],rfl,rfl,⟨rfl,rfl⟩,_,_,[],[.ob b],rfl,rfl,⟨rfl,rfl⟩,_,_,[.ob b],[],rfl,rfl,⟨b,cap,fp,rfl,h2,rfl⟩,_,_,[],[],rfl,rfl,⟨⟨m,rfl⟩,rfl⟩,rfl,rfl⟩,rfl⟩,rfl,rfl⟩
abbrev pol59:Pol:=⟨fun _=>false,fun d=>d == 11,fun _=>false,fun _=>false,[],fun _=>[]⟩
def c59 (a:Option MT×Unit):MM Unit:=fun _ s=>match a.1 with
 | some m=>if s.2.length < 1000000 then some (some ((),s.1,s.2++[m])) else none
 | none=>none
set_option maxRecDepth 100000 in
theorem ok59:CPOk CC Tryz.prog syn 59 (cM [.mpo] [] c59):=by
 refine zDy fun l i xs a o ho st vx va r1 r2 h1 h2 hn=>?_
 obtain ⟨a,ua⟩:=a
 cases a with
 | none=>cases ho
 | some c=>
 simp only [c59] at ho
 split at ho
 rotate_left
 · cases ho
 rename_i hlen
 injection ho with ho
 subst ho
 obtain ⟨b0,b,cap,fp,m,rfl,k1,k2,rfl⟩:=zA9 h1
 simp only [VKs,VK] at h2
 obtain ⟨va,vs',q1,q2,rfl,rfl,⟨bm,fpm,rfl,k3,rfl⟩,rfl,rfl⟩:=h2
 have hne:b≠bm:=by intro e; subst e; simp at hn
 have e1:=(yl st ([.inr b0,.ob b]++([.ob bm]++[])) b0).1 (by simp)
 have e2:=(xH st ([.inr b0,.ob b]++([.ob bm]++[])) b).1 (by simp)
 have e3:=(xH st ([.inr b0,.ob b]++([.ob bm]++[])) bm).1 (by simp)
 rw [k1] at e1; rw [k2] at e2; rw [k3] at e3
 generalize subS st ([.inr b0,.ob b]++([.ob bm]++[]))=s0 at e1 e2 e3 ⊢
 refine zKQ (φ:=∃ bs,fp=b::bs/\(b::bs).Nodup/\bs.length=xs.length/\bs.length<=cap/\fpm=[bm]/\bm ∉ bs/\b0≠b/\b0 ∉ bs/\b0≠bm) (fun B g w hi=>?_) ?_
 · obtain ⟨bs,p1,p2,p3,p4,_⟩:=hi.unpack e2
   have p5:=(hi.ex.ob bm _ _ e3).1.1
   subst p5
   have p6:=hi.boxFr e1
   subst p1
   refine ⟨bs,rfl,p2,by simpa using p3,p4,rfl,fun hm=>hne (hi.ex.obd b _ _ bm _ _ bm e2 e3 (by simp [hm]) (by simp)),?_,?_,?_⟩
   · intro e; exact p6.2 b _ _ e2 (by simp [e])
   · intro e; exact p6.2 b _ _ e2 (by simp [e])
   · intro e; exact p6.2 bm _ _ e3 (by simp [e])
 rintro ⟨bs,rfl,hnd,hbl,hcap,rfl,hm1,hm2,hm3,hm4⟩
 refine zKX (s':=jM s0 b bs (xs.map trMC) cap) (fun B g w hi=>by
  obtain ⟨bs',p1,_,_,_,p5⟩:=hi.unpack e2
  injection p1 with _ p1
  subst p1; exact p5) ?_
 have l1:Al.look (jM s0 b bs (xs.map trMC) cap).box b0=some ([.lst (zh (l.map (CC.encV TI.tok))) (l.map (CC.encV TI.tok)),.at (.int .i64 i),.at (.slice (some ⟨b,0,none⟩) xs.length cap),.at (.map m)],4):=by
  show Al.look (lay s0.box b _) b0=_
  rw [zW,if_neg (Ne.symm hm2)]; exact e1
 have l2:Al.look (jM s0 b bs (xs.map trMC) cap).box b=some (mcs bs,cap):=by
  show Al.look (lay s0.box b _) b=_
  rw [zW,if_pos rfl]
 have l3:Mps (jM s0 b bs (xs.map trMC) cap).ob bs (xs.map trMC):=zCq _ (List.nodup_cons.1 hnd).2 (by simpa using hbl)
 have l4:zM (jM s0 b bs (xs.map trMC) cap).ob bm=some (.mp (trMC c),[bm]):=by
  rw [zBx,if_neg (Ne.symm hne),e3]
  cases e:zM (mps bs (xs.map trMC)) bm with
  | none=>rfl
  | some p=>
   exfalso
   have:∀ (bs:List Nat) (ys:List MC),bm ∉ bs->zM (mps bs ys) bm=none:=by
    intro bs
    induction bs with
    | nil=>intro ys _; rfl
    | cons b bs ih=>
     intro ys h
     cases ys with
     | nil=>rfl
     | cons y ys=>
      simp only [List.mem_cons,not_or] at h
      simp only [mps,zy,if_neg (Ne.symm h.1)]
      exact ih ys h.2
   rw [this bs _ hm1] at e; cases e
 generalize jM s0 b bs (xs.map trMC) cap=s1 at l1 l2 l3 l4 ⊢
 refine zFI ?_
 refine qp Tryz.func59 rfl Tryz.ntmps59 Tryz.results59 (by show 2<=14; decide) fun B=>?_
 have hb0:b0≠b:=hm2
 simp only [List.cons_append,List.nil_append,qm,Nat.reduceAdd]
 (repeat (first | (refine ya ?_) | (refine zq ?_; simp -failIfUnchanged only [zH,zN]) | (refine yd ?_; simp -failIfUnchanged only [zz,zu,yN,z8]) | (refine yI ?_; simp -failIfUnchanged only [zr,zo,zH,zN,reduceIte]) | (refine zv ?_) | ((first | (refine yc pol59 ks59 _ rfl rfl ?_) | (refine yH pol59 mixed ks59 _ rfl rfl (by kernel_rfl) (by kernel_rfl) ?_)); simp only [↓xK,↓qN,↓xP,↓qP,↓zAp,↓zBN,↓qJ,↓zDn,zp,jT,z6,yQ,yz,z7,xo,xU,xI,kW,yu,xO,zC7,zBR,zAk,zE0,zGe,qh,zDm,zDR,zK7,zBO,Option.map_some,implies_true,Nat.one_mul,zH9,List.map_cons,List.map_nil,List.append_nil,and_self,beq_self_eq_true,ye,yS,zJ,V.isOne,V.size,V.flat,List.all_cons,List.all_nil,List.length_cons,List.length_nil,List.drop_zero,List.drop_succ_cons,List.take_succ_cons,List.take_zero,List.getD_cons_zero,List.getD_cons_succ,Bool.true_and,Bool.and_self,Option.isSome_some,if_true,if_false,true_and,Nat.reduceAdd,Nat.reduceEqDiff,Nat.reduceLeDiff,reduceCtorEq,Bool.false_eq_true,Nat.zero_add,Nat.lt_add_one,zW,yh,zJS,zFb,zb,Nat.reduceBEq,zB5,zAG,zPV,zero63,zCg,zDh,zBa,zFj,zCj,ks59,l1,l2])))
 have hmx:maxLen=9223372036854775807:=rfl
 refine ⟨⟨by omega,by omega⟩,by omega,by omega,by simp only [mcs,List.length_map]; omega,fun b' cap' hb' hcap'=>?_⟩
 have m1:¬ b' = b0:=fun e=>by rw [e,if_neg (Ne.symm hm2),l1] at hb'; cases hb'
 have m2:¬ b0=b':=fun e=>m1 e.symm
 have hb1:¬ b=b0:=Ne.symm hm2
 simp only [qK,spl,List.cons_append,List.nil_append,and_self,zJ,V.isOne,V.flat,List.all_cons,List.all_nil,List.length_cons,List.length_nil,List.drop_zero,List.drop_succ_cons,List.take_succ_cons,List.take_zero,Bool.true_and,Bool.and_self,if_false,true_and,Nat.reduceAdd,Nat.reduceLeDiff,Nat.zero_add,zCg,zBa,m1,hb1]
 have htk:List.take (xs.length * 1) (mcs bs)++[V.at (Value.map (some bm))]=mcs (bs++[bm]):=by
  rw [List.take_of_length_le (by simp only [mcs,List.length_map]; omega)]; simp [mcs]
 rw [htk,Nat.mul_one]
 have hbn:(bs++[bm]).Nodup:=by
  refine List.nodup_append.2 ⟨(List.nodup_cons.1 hnd).2,by simp,fun x hx y hy e=>?_⟩
  simp only [List.mem_singleton] at hy
  subst e; subst hy; exact hm1 hx
 have hMps:Mps s1.ob (bs++[bm]) (xs.map trMC++[trMC c]):=by
  have:∀ (bs:List Nat) (ys:List MC),Mps s1.ob bs ys->Mps s1.ob (bs++[bm]) (ys++[trMC c]):=by
   intro bs
   induction bs with
   | nil=>intro ys h; rw [show ys=[] from h]; exact ⟨_,[],rfl,l4,rfl⟩
   | cons b bs ih=>
    rintro _ ⟨d,ds,rfl,h1,h2⟩
    exact ⟨d,_,rfl,h1,ih _ h2⟩
  exact this _ _ l3
 show ∃ s2,_
 refine ⟨zC4 _ b' (bs++[bm]) (xs.map trMC++[trMC c]) cap',fun B g w hi=>hi.pack ?_ hbn hMps,[],[.inr b0,.ob b'],[],zBL (n:=xs.length+1) (fp:=b' :: (bs++[bm])) (b:=b') (cap:=cap') (m:=m) (by simp) ?_ ?_,⟨rfl,rfl⟩,by simp,rfl⟩
 · show Al.look (lay (lay (wipe s1.box b) b' _) b0 _) b' = _
   rw [zW,if_neg m2,zW,if_pos rfl]
 · show Al.look (wipe (lay (lay (wipe s1.box b) b' _) b0 _) b') b0=_
   rw [yh,if_neg m1,zW,if_pos rfl]
 · rw [zAi,if_pos rfl]; simp
theorem zFV {j:Nat}:∀ (bs:List Nat) (ys:List MC),j ∉ bs->zM (mps bs ys) j=none
 | [],_,_=>rfl
 | _::_,[],_=>rfl
 | b::bs,y::ys,h=>by
  simp only [List.mem_cons,not_or] at h
  simp only [mps,zy,if_neg (Ne.symm h.1)]
  exact zFV bs ys h.2
theorem zKi {P:Program} {f:FuncId} {args:List V} {Q:Outc->S->Prop} {s0:S} {b0 b cap:Nat} {fp:List Nat} {cs:List V} {k:Nat} {xs:List MC} (e1:Al.look s0.box b0=some (cs,k)) (e2:zM s0.ob b=some (.sc xs cap,fp))
 (h:∀ bs s1,(b::bs).Nodup->bs.length=xs.length->bs.length<=cap->b0≠b->b0 ∉ bs->Al.look s1.box b0=some (cs,k)->Al.look s1.box b=some (mcs bs,cap)->Mps s1.ob bs xs->(∀ j,j≠b->j ∉ bs->zM s1.ob j=zM s0.ob j) ->
  FnC P f args s1 fun oc s=>∃ s2,(∀ B g w,Inv B g s w->Inv B g s2 w)/\Q oc s2):FnC P f args s0 Q:=by
 refine zKQ (φ:=∃ bs,fp=b::bs/\(b::bs).Nodup/\bs.length=xs.length/\bs.length<=cap/\b0≠b/\b0 ∉ bs) (fun B g w hi=>?_) ?_
 · obtain ⟨bs,p1,p2,p3,p4,_⟩:=hi.unpack e2
   have p6:=hi.boxFr e1
   subst p1
   refine ⟨bs,rfl,p2,p3,p4,?_,?_⟩
   · intro e; exact p6.2 b _ _ e2 (by simp [e])
   · intro e; exact p6.2 b _ _ e2 (by simp [e])
 rintro ⟨bs,rfl,hnd,hbl,hcap,hm2,hm3⟩
 refine zKX (s':=jM s0 b bs xs cap) (fun B g w hi=>by
  obtain ⟨bs',p1,_,_,_,p5⟩:=hi.unpack e2
  injection p1 with _ p1
  subst p1; exact p5) ?_
 refine zFI (h bs _ hnd hbl hcap hm2 hm3 ?_ ?_ ?_ ?_)
 · show Al.look (lay s0.box b _) b0=_
   rw [zW,if_neg (Ne.symm hm2)]; exact e1
 · show Al.look (lay s0.box b _) b=_
   rw [zW,if_pos rfl]
 · exact zCq _ (List.nodup_cons.1 hnd).2 hbl
 · intro j h1 h2
   rw [zBx,if_neg h1,zFV bs _ h2]; rfl
theorem x9 (P:Program) (op:BinOp) (t:TypeId) (c:Bool) (k k':IntKind) (a b:Int) (K:V->Prop):zA2 P op t c (.at (.int k a)) (.at (.int k' b)) K=aBin P op t (.at (.int k a)) (.at (.int k' b)) K:=rfl
theorem zHF (P:Program) (op:BinOp) (t:TypeId) (c:Bool) (a b:ByteArray) (K:V->Prop):zA2 P op t c (.at (.string a)) (.at (.string b)) K=aBin P op t (.at (.string a)) (.at (.string b)) K:=rfl
abbrev polN:Pol:=⟨fun _=>false,fun _=>false,fun _=>false,fun _=>false,[],fun _=>[]⟩
theorem Inv.trunc {B:Nat} {g:Gh} {s:S} {w:World} (hi:Al.Inv B g s w) (b m:Nat) {cs:List V} {k:Nat} (h0:Al.look s.box b=some (cs,k)):Al.Inv B g ⟨lay s.box b (cs.take m,k),s.tg,s.nx,s.ob⟩ w:=by
 obtain ⟨p1,p2,p3,p4,arr,el,us,p5,p6,p7,p8⟩:=hi.box b cs k h0
 have hone:zJ cs:=by unfold zJ; rw [List.all_eq_true]; exact p4
 have hul:=yD g w cs us p7
 rw [yY hone] at hul
 have:=hi.addBox (b:=b) (arr:=arr) (el:=el) (cs:=cs.take m) (us:=us.take m) p1 p2 p5 (by simp; omega)
  (fun c hc=>p4 c (List.mem_of_mem_take hc)) (yU hone p7 m).1 (by
   rw [<- p8,List.take_take,List.length_take]) (fun t ht d hd=>by
    obtain ⟨cap',n',sz'⟩:=d
    obtain ⟨r1,r2,r3,r4,r5,r6⟩:=hi.own t ht b cap' n' sz' hd
    rw [h0] at r5; cases r5) (hi.boxFr h0).1 (hi.boxFr h0).2
 rw [p6] at this
 exact this
theorem Mps.take {ob:List (Nat×OV×List Nat)}:∀ {bs:List Nat} {xs:List MC} (n:Nat),Mps ob bs xs->Mps ob (bs.take n) (xs.take n)
 | [],_,n,h=>by rw [show _=[] from h]; simp [Mps]
 | b::bs,_,0,_=>by simp [Mps]
 | b::bs,_,n+1,⟨c,cs,rfl,h2,h3⟩=>⟨c,_,by simp,h2,Mps.take n h3⟩
theorem Mps.at {ob:List (Nat×OV×List Nat)}:∀ {bs:List Nat} {xs:List MC} {n j:Nat} {c:MC},Mps ob bs xs->bs[n]? = some j->xs[n]? = some c->zM ob j=some (.mp c,[j])
 | [],_,n,j,c,_,h,_=>by simp at h
 | b::bs,_,0,j,c,⟨d,ds,rfl,h2,h3⟩,h,h'=>by
  simp at h h'; subst h; subst h'; exact h2
 | b::bs,_,n+1,j,c,⟨d,ds,rfl,h2,h3⟩,h,h'=>Mps.at h3 (by simpa using h) (by simpa using h')
theorem zKM {xs:List MT} {n:Nat} {c:MT} (hn:n+1=xs.length) (h:xs.getLast? = some c):xs[n]? = some c:=by
 rw [List.getLast?_eq_getElem?] at h
 rw [<- h]; congr 1; omega
def c61 (_:Unit):MM (Option MT×Unit):=fun _ s=>if s.2.length < 1000000 then match s.2.getLast? with
 | some m=>some (some ((some m,()),s.1,s.2.dropLast))
 | none=>none else none
set_option maxRecDepth 100000 in
theorem ok61:CPOk CC Tryz.prog syn 61 (cM [] [.mpo] c61):=by
 refine zDy fun l i xs a o ho st vx va r1 r2 h1 h2 hn=>?_
 simp only [c61] at ho
 split at ho
 rotate_left
 · cases ho
 rename_i hlen
 cases hl:xs.getLast? with
 | none=>rw [hl] at ho; cases ho
 | some c=>
 rw [hl] at ho
 injection ho with ho
 subst ho
 obtain ⟨b0,b,cap,fp,m,rfl,k1,k2,rfl⟩:=zA9 h1
 simp only [VKs] at h2
 obtain ⟨rfl,rfl⟩:=h2
 have e1:=(yl st ([.inr b0,.ob b]++[]) b0).1 (by simp)
 have e2:=(xH st ([.inr b0,.ob b]++[]) b).1 (by simp)
 rw [k1] at e1; rw [k2] at e2
 generalize subS st ([.inr b0,.ob b]++[])=s0 at e1 e2 ⊢
 refine zKi e1 e2 fun bs s1 hnd hbl hcap hm2 hm3 l1 l2 l3 l4=>?_
 rw [List.length_map] at hbl
 have hxl:0 < xs.length:=by cases xs <;> simp at hl ⊢
 refine qp Tryz.func61 rfl Tryz.ntmps61 Tryz.results61 (by show 1<=31; decide) fun B=>?_
 have hb1:¬ b=b0:=Ne.symm hm2
 simp only [List.cons_append,List.nil_append,List.append_nil,qm,Nat.reduceAdd]
 obtain ⟨n,hn1⟩:∃ n,n+1=xs.length:=⟨xs.length - 1,by omega⟩
 have hsub:IntKind.i64.wrap ((xs.length:Int) - 1)=(n:Int):=by rw [IntWalk.i64_in _ (by omega)]; omega
 have z1:0+((n:Int).toNat) * 1=n:=by omega
 obtain ⟨bl,hbl2⟩:∃ bl,bs[n]? = some bl:=⟨bs[n]'(by omega),by simp⟩
 have hp1:ye Tryz.prog 63 (mcs bs) n:=⟨zB5,by rw [zAG]; simp only [mcs,List.length_map]; omega,fun _=>zAG⟩
 have hp2:(mcs bs).getD n .any = .at (.map (some bl)):=by
  rw [List.getD_eq_getElem?_getD]
  simp [mcs,hbl2]
 (repeat (first | (refine ya ?_) | (refine zq ?_; simp -failIfUnchanged only [zH,zN]) | (refine yd ?_; simp -failIfUnchanged only [zz,zu,yN,z8]) | (refine yI ?_; simp -failIfUnchanged only [zr,zo,zH,zN,reduceIte]) | (refine zv ?_) | ((first | (refine yc polN ks61 _ rfl rfl ?_) | (refine yH polN mixed ks61 _ rfl rfl (by kernel_rfl) (by kernel_rfl) ?_)); simp only [↓xK,↓qN,↓jx,↓kn,↓xP,↓kJ,↓qP,↓qJ,↓zBr,zH,zp,z6,yQ,yz,xR,kE,yE,z7,qR,zC8,zAT,xo,xU,xI,yu,xO,qS,jw,implies_true,and_self,ye,yS,List.length_cons,List.length_nil,List.drop_zero,List.drop_succ_cons,List.take_succ_cons,List.take_zero,List.getD_cons_zero,List.getD_cons_succ,Bool.and_true,Bool.true_and,Bool.and_self,Option.isSome_some,if_true,if_false,and_true,true_and,Nat.reduceAdd,Nat.reduceEqDiff,Nat.reduceLeDiff,reduceCtorEq,Bool.false_eq_true,Nat.zero_add,Nat.lt_add_one,zB5,zI3,zAG,zCg,zDh,zBa,zFj,zCj,ks61,l1,l2,x9,hsub,z1,hp2])))
 refine ⟨⟨by omega,by omega⟩,by simp only [mcs,List.length_map]; omega,?_⟩
 (repeat (first | (refine ya ?_) | (refine zq ?_; simp -failIfUnchanged only [zH,zN]) | (refine yd ?_; simp -failIfUnchanged only [zz,zu,yN,z8]) | (refine yI ?_; simp -failIfUnchanged only [zr,zo,zH,zN,reduceIte]) | (refine zv ?_) | ((first | (refine yc polN ks61 _ rfl rfl ?_) | (refine yH polN mixed ks61 _ rfl rfl (by kernel_rfl) (by kernel_rfl) ?_)); simp only [↓xK,↓qN,↓kn,↓xP,↓qP,↓zAp,↓qJ,↓zNl,↓zBr,zH,zp,jT,z6,yQ,yz,xR,kE,yE,z7,qR,zC8,zAT,xo,xU,xI,kW,qK,yu,xO,spl,Option.map_some,implies_true,List.cons_append,List.nil_append,and_self,ye,yS,zJ,V.isOne,V.flat,List.all_cons,List.all_nil,List.length_cons,List.length_nil,List.drop_zero,List.drop_succ_cons,List.take_succ_cons,List.take_zero,List.getD_cons_zero,List.getD_cons_succ,Bool.true_and,Bool.and_self,Option.isSome_some,if_true,if_false,true_and,Nat.reduceAdd,Nat.reduceEqDiff,Nat.reduceLeDiff,reduceCtorEq,Bool.false_eq_true,Nat.zero_add,Nat.lt_add_one,zHS,zIn,Option.map_none,zB5,zCg,zDh,zBa,zFj,zCj,ks61,l1,x9,hsub,Int.toNat_natCast])))
 refine ⟨⟨by omega,by omega⟩,?_⟩
 (repeat (first | (refine ya ?_) | (refine zq ?_; simp -failIfUnchanged only [zH,zN]) | (refine yd ?_; simp -failIfUnchanged only [zz,zu,yN,z8]) | (refine yI ?_; simp -failIfUnchanged only [zr,zo,zH,zN,reduceIte]) | (refine zv ?_) | ((first | (refine yc polN ks61 _ rfl rfl ?_) | (refine yH polN mixed ks61 _ rfl rfl (by kernel_rfl) (by kernel_rfl) ?_)); simp only [↓xK,↓qN,↓jx,zH,zp,z6,yQ,yz,yE,z7,if_true,if_false,Nat.reduceEqDiff,ks61])))
 refine ⟨rfl,?_⟩
 have hbl1:bl ∉ bs.take n:=fun hm=>by
  have h1:=(List.nodup_cons.1 hnd).2
  obtain ⟨j,hj,e⟩:=List.getElem_of_mem hm
  have hjn:j < n:=by rw [List.length_take] at hj; omega
  rw [List.getElem_take] at e
  have h2:bs[j]? = some bl:=by rw [<- e]; simp
  have h3:=(List.getElem?_inj (i:=j) (j:=n) (by omega) h1).1 (h2.trans hbl2.symm)
  omega
 have hc:=Mps.at l3 hbl2 (c:=trMC c) (by rw [List.getElem?_map,zKM hn1 hl]; rfl)
 have hcb:b≠bl:=fun e=>(List.nodup_cons.1 hnd).1 (by rw [e]; exact List.mem_of_getElem? hbl2)
 have htk:(mcs bs).take n=mcs (bs.take n):=by simp [mcs]
 have hT:∀ (cs:List V×Nat) {B:Nat} {g:Gh} {w:World},Al.Inv B g ⟨lay s1.box b0 cs,s1.tg,s1.nx,s1.ob⟩ w->Al.Inv B g ⟨lay (lay s1.box b0 cs) b (mcs (bs.take n),cap),s1.tg,s1.nx,s1.ob⟩ w:=fun cs B g w hi=>by
  have:=Inv.trunc hi b n (cs:=mcs bs) (k:=cap) (by show Al.look (lay s1.box b0 _) b=_; rw [zW,if_neg hm2]; exact l2)
  rw [htk] at this; exact this
 refine ⟨zC4 ⟨lay (lay s1.box b0 _) b (mcs (bs.take n),cap),s1.tg,s1.nx,s1.ob⟩ b (bs.take n) ((xs.map trMC).take n) cap,fun B g w hi=>Inv.pack (hT _ hi) ?_ ((List.nodup_cons.1 hnd).2.sublist (List.take_sublist n bs)) (Mps.take n l3),[_],[.inr b0,.ob b],[.ob bl],zBL (n:=n) (fp:=b::bs.take n) (b:=b) (cap:=cap) (m:=m) (by simp; omega) ?_ ?_,⟨_,[],[.ob bl],[],rfl,rfl,⟨bl,[bl],rfl,?_,rfl⟩,rfl,rfl⟩,by simp [hcb],rfl⟩
 · show Al.look (lay (lay s1.box b0 _) b _) b=_
   rw [zW,if_pos rfl]
 · show Al.look (wipe (lay (lay s1.box b0 _) b _) b) b0=_
   rw [yh,if_neg hb1,zW,if_neg hb1,zW,if_pos rfl]
 · rw [zAi,if_pos rfl]
   congr 2
   congr 1
   rw [List.dropLast_eq_take,List.map_take]; congr 1; omega
 · rw [zAi,if_neg hcb,if_neg hbl1]; exact hc
def qA:MT->Str->Option Int
 | [],_=>none
 | (k,v)::r,s=>if s=k then some v else qA r s
def xh:MT->Str->Int->MT
 | [],s,v=>[(s,v)]
 | (k,u)::r,s,v=>if s=k then (s,v)::r else (k,u)::xh r s v
theorem zNN (s k:Str):((⟨s.toArray⟩:ByteArray) == ⟨k.toArray⟩)=decide (s=k):=by
 by_cases h:s=k
 · subst h; rw [zKU]; simp
 · cases e:((⟨s.toArray⟩:ByteArray) == ⟨k.toArray⟩) with
   | false=>simp [h]
   | true=>
    have h1:=congrArg (fun x:ByteArray=>x.data.toList) (ba_eq e)
    exact absurd h1 h
theorem zKf:∀ (m:MT) (s:Str),mget (trMC m) ⟨s.toArray⟩=(qA m s).map fun z=>.at (.int .i64 z)
 | [],_=>rfl
 | (k,v)::r,s=>by
  show (if ((⟨s.toArray⟩:ByteArray) == ⟨k.toArray⟩)=true then some _ else mget (trMC r) ⟨s.toArray⟩)=_
  rw [zNN,zKf r s]
  by_cases h:s=k <;> simp [qA,h]
theorem zKE:∀ (m:MT) (s:Str) (z:Int),mput (trMC m) ⟨s.toArray⟩ (.at (.int .i64 z))=trMC (xh m s z)
 | [],_,_=>rfl
 | (k,v)::r,s,z=>by
  show (if ((⟨s.toArray⟩:ByteArray) == ⟨k.toArray⟩)=true then _ else _::mput (trMC r) ⟨s.toArray⟩ (.at (.int .i64 z)))=_
  rw [zNN,zKE r s z]
  by_cases h:s=k <;> simp [xh,h,trMC]
theorem zEF {P:Program} {L:Pol} {ds:List (Option Nat)} {KP:List PanicEntry->S->Prop} {K:Env->S->Prop} {e:Env} {st:S} {d:Option Nat} {ty:TypeId} {pos:String} {af:Array Edge} {os:List Oper} (t:TypeId) (m k y:Operand) :
 AL P L ds KP (⟨d,.mapUpdate t m k y,ty,pos,af,none⟩::os) K e st=jY P st t (e.ev m) (e.ev k) (e.ev y) fun st'=>AL P L ds KP os K (e.putO d .any) st':=rfl
theorem zHH (a b:ByteArray) (K:V->Prop):aStr .eql a b K=K (.at (.bool (a.toList == b.toList))):=rfl
theorem zEo {P:Program} {L:Pol} {ds:List (Option Nat)} {KP:List PanicEntry->S->Prop} {K:Env->S->Prop} {e:Env} {st:S} {d:Option Nat} {ty:TypeId} {pos:String} {af:Array Edge} {os:List Oper} (t:TypeId) (x:Operand) :
 AL P L ds KP (⟨d,.makeInterface t x,ty,pos,af,none⟩::os) K e st=zDN P t (e.ev x) fun v=>AL P L ds KP os K (e.putO d v) st:=rfl
theorem zMK {P:Program} {L:Pol} {ds:List (Option Nat)} {KP:List PanicEntry->S->Prop} {K:Env->S->Prop} {e:Env} {st:S} {d:Option Nat} {ty:TypeId} {pos:String} {af:Array Edge} {os:List Oper} (x:Operand) :
 AL P L ds KP (⟨d,.panic x,ty,pos,af,none⟩::os) K e st=zGF (e.ev x) fun c=>KP c st:=rfl
def c58 (a:Str×Bool×Unit):MM Unit:=fun _ s=>if a.1=[] then some (some ((),s)) else if s.2.length < 1000000 then match s.2.getLast? with
 | some m=>some (some ((),s.1,s.2.dropLast++[xh m a.1 (if a.2.1=true then 2 else 1)]))
 | none=>none else none
set_option maxRecDepth 100000 in
theorem ok58:CPOk CC Tryz.prog syn 58 (cM [.str,.bool] [] c58):=by
 refine zDy fun l i xs a o ho st vx va r1 r2 h1 h2 hn=>?_
 obtain ⟨nm,td,ua⟩:=a
 change Str at nm
 change Bool at td
 obtain ⟨b0,b,cap,fp,m,rfl,k1,k2,rfl⟩:=zA9 h1
 simp only [VKs,VK] at h2
 obtain ⟨v1,w1,q1,q2,rfl,rfl,⟨rfl,rfl⟩,v2,w2,q3,q4,rfl,rfl,⟨rfl,rfl⟩,rfl,rfl⟩:=h2
 have hcell:trT CC ⟨id,id,id,id⟩ (.str nm:T UU) = .at (.string ⟨nm.toArray⟩):=rfl
 rw [hcell]
 simp only [List.append_nil] at hn ⊢
 have e1:=(yl st [.inr b0,.ob b] b0).1 (by simp)
 have e2:=(xH st [.inr b0,.ob b] b).1 (by simp)
 rw [k1] at e1; rw [k2] at e2
 generalize subS st [.inr b0,.ob b]=s0 at e1 e2 ⊢
 simp only [c58] at ho
 by_cases hnm:nm=[]
 · rw [if_pos hnm] at ho
   injection ho with ho
   subst ho
   refine qp Tryz.func58 rfl Tryz.ntmps58 Tryz.results58 (by show 3<=24; decide) fun B=>?_
   simp only [List.cons_append,List.nil_append,List.append_nil,qm,Nat.reduceAdd]
   have hse:((⟨nm.toArray⟩:ByteArray).toList == (⟨#[]⟩:ByteArray).toList)=true:=by rw [hnm]; exact beq_self_eq_true _
   (repeat (first | (refine ya ?_) | (refine zq ?_; simp -failIfUnchanged only [zH,zN]) | (refine yd ?_; simp -failIfUnchanged only [zz,zu,yN,z8]) | (refine yI ?_; simp -failIfUnchanged only [zr,zo,zH,zN,reduceIte]) | (refine zv ?_) | ((first | (refine yc polN ks58 _ rfl rfl ?_) | (refine yH polN mixed ks58 _ rfl rfl (by kernel_rfl) (by kernel_rfl) ?_)); simp only [↓xK,↓qN,↓kn,zH,zp,z6,yQ,yz,xR,zCS,yE,z7,zIy,if_true,if_false,Nat.reduceEqDiff,reduceCtorEq,ks58,zHF,zHH,hse])))
   refine ja rfl (fun _=>?_) (fun h=>by cases h)
   (repeat (first | (refine ya ?_) | (refine zq ?_; simp -failIfUnchanged only [zH,zN]) | (refine yd ?_; simp -failIfUnchanged only [zz,zu,yN,z8]) | (refine yI ?_; simp -failIfUnchanged only [zr,zo,zH,zN,reduceIte]) | (refine zv ?_) | ((first | (refine yc polN ks58 _ rfl rfl ?_) | (refine yH polN mixed ks58 _ rfl rfl (by kernel_rfl) (by kernel_rfl) ?_)); simp only [])))
   unfold yj
   exact ⟨[],[.inr b0,.ob b],[],zBL rfl e1 e2,⟨rfl,rfl⟩,by simp,rfl⟩
 · rw [if_neg hnm] at ho
   split at ho
   rotate_left
   · cases ho
   rename_i hlen
   cases hl:xs.getLast? with
   | none=>rw [hl] at ho; cases ho
   | some c=>
   rw [hl] at ho
   injection ho with ho
   subst ho
   have hse:((⟨nm.toArray⟩:ByteArray).toList == (⟨#[]⟩:ByteArray).toList)=false:=by
    have h1:(⟨nm.toArray⟩:ByteArray).toList=nm:=zAS nm
    have h2:(⟨#[]⟩:ByteArray).toList=[]:=zAS []
    rw [h1,h2]
    cases nm <;> first | exact absurd rfl hnm | rfl
   refine zKi e1 e2 fun bs s1 hnd hbl hcap hm2 hm3 l1 l2 l3 l4=>?_
   rw [List.length_map] at hbl
   have hxl:0 < xs.length:=by cases xs <;> simp at hl ⊢
   refine qp Tryz.func58 rfl Tryz.ntmps58 Tryz.results58 (by show 3<=24; decide) fun B=>?_
   have hb1:¬ b=b0:=Ne.symm hm2
   simp only [List.cons_append,List.nil_append,List.append_nil,qm,Nat.reduceAdd]
   obtain ⟨n,hn1⟩:∃ n,n+1=xs.length:=⟨xs.length - 1,by omega⟩
   have hsub:IntKind.i64.wrap ((xs.length:Int) - 1)=(n:Int):=by rw [IntWalk.i64_in _ (by omega)]; omega
   have z1:0+((n:Int).toNat) * 1=n:=by omega
   obtain ⟨bl,hbl2⟩:∃ bl,bs[n]? = some bl:=⟨bs[n]'(by omega),by simp⟩
   have hp1:ye Tryz.prog 63 (mcs bs) n:=⟨zB5,by rw [zAG]; simp only [mcs,List.length_map]; omega,fun _=>zAG⟩
   have hp2:(mcs bs).getD n .any = .at (.map (some bl)):=by
    rw [List.getD_eq_getElem?_getD]
    simp [mcs,hbl2]
   have hc:=Mps.at l3 hbl2 (c:=trMC c) (by rw [List.getElem?_map,zKM hn1 hl]; rfl)
   have hmap:∀ (z:Int) (s2:S),s2.box=s1.box->s2.tg=s1.tg->s2.nx=s1.nx->s2.ob=(bl,.mp (mput (trMC c) ⟨nm.toArray⟩ (.at (.int .i64 z))),[bl])::s1.ob->z=(if td=true then 2 else 1) ->
    ∃ s3,(∀ (B:Nat) (g:Gh) (w:World),Al.Inv B g s2 w->Al.Inv B g s3 w)/\jX CC syn [parK] [] [V.at (Value.pointer (some { block:=b0,off:=0 }))] (Option.map (fun y=>(((l,y.snd.fst,y.snd.snd,(),()),()),y.fst)) (some ((),i,xs.dropLast++[xh c nm (if td=true then 2 else 1)]))) (Outc.ret (finV [])) s3:=by
    intro z s2 q1 q2 q3 q4 q5
    have hM:Mps s2.ob bs ((xs.dropLast++[xh c nm z]).map trMC):=by
     have key:∀ (bs:List Nat) (ys:List MC) (n:Nat),bs.Nodup->Mps s1.ob bs ys->bs[n]? = some bl->n+1=ys.length->Mps s2.ob bs (ys.dropLast++[trMC (xh c nm z)]):=by
      intro bs
      induction bs with
      | nil=>intro ys n _ _ h; simp at h
      | cons j bs ih=>
       rintro _ n hnd ⟨d,ds,rfl,h1,h2⟩ h3 h4
       obtain ⟨h5,h6⟩:=List.nodup_cons.1 hnd
       cases n with
       | zero=>
        have h7:ds=[]:=by cases ds <;> simp at h4 ⊢
        subst h7
        simp at h3; subst h3
        refine ⟨_,[],rfl,?_,?_⟩
        · rw [q4,zy,if_pos rfl,zKE]
        · have:=h2.length
          have h8:bs=[]:=by cases bs <;> simp at this ⊢
          subst h8; rfl
       | succ n=>
        have h7:ds≠[]:=by rintro rfl; simp at h4
        have h3':bs[n]? = some bl:=by simpa using h3
        have hne:¬ bl=j:=fun e=>h5 (by rw [<- e]; exact List.mem_of_getElem? h3')
        refine ⟨d,ds.dropLast++[trMC (xh c nm z)],by rw [List.dropLast_cons_of_ne_nil h7]; rfl,?_,ih ds n h6 h2 h3' (by simpa using h4)⟩
        rw [q4,zy,if_neg hne]; exact h1
     have:=key bs (xs.map trMC) n (List.nodup_cons.1 hnd).2 l3 hbl2 (by simpa using hn1)
     rw [List.map_append,List.map_dropLast]
     exact this
    subst q5
    refine ⟨zC4 s2 b bs ((xs.dropLast++[xh c nm (if td=true then 2 else 1)]).map trMC) cap,fun B g w hi=>Inv.pack hi (by rw [q1]; exact l2) (List.nodup_cons.1 hnd).2 hM,[],[.inr b0,.ob b],[],zBL (n:=xs.length) (fp:=b::bs) (b:=b) (cap:=cap) (m:=m) (by simp; omega) ?_ ?_,⟨rfl,rfl⟩,by simp,rfl⟩
    · show Al.look (wipe s2.box b) b0=_
      rw [yh,if_neg hb1,q1]; exact l1
    · rw [zAi,if_pos rfl]
   (repeat (first | (refine ya ?_) | (refine zq ?_; simp -failIfUnchanged only [zH,zN]) | (refine yd ?_; simp -failIfUnchanged only [zz,zu,yN,z8]) | (refine yI ?_; simp -failIfUnchanged only [zr,zo,zH,zN,reduceIte]) | (refine zv ?_) | ((first | (refine yc polN ks58 _ rfl rfl ?_) | (refine yH polN mixed ks58 _ rfl rfl (by kernel_rfl) (by kernel_rfl) ?_)); simp only [↓xK,↓qN,↓kn,zH,zp,z6,yQ,yz,xR,zCS,yE,z7,zIy,if_true,if_false,Nat.reduceEqDiff,reduceCtorEq,ks58,zHF,zHH,hse])))
   refine ja rfl (fun h=>by cases h) (fun _=>?_)
   (repeat (first | (refine ya ?_) | (refine zq ?_; simp -failIfUnchanged only [zH,zN]) | (refine yd ?_; simp -failIfUnchanged only [zz,zu,yN,z8]) | (refine yI ?_; simp -failIfUnchanged only [zr,zo,zH,zN,reduceIte]) | (refine zv ?_) | ((first | (refine yc polN ks58 _ rfl rfl ?_) | (refine yH polN mixed ks58 _ rfl rfl (by kernel_rfl) (by kernel_rfl) ?_)); simp only [↓xK,↓qN,↓jx,zH,zp,z6,yQ,yz,xR,kE,yE,z7,if_true,if_false,Nat.reduceEqDiff,reduceCtorEq,ks58])))
   refine ja rfl (fun ht=>?_) (fun ht=>?_)
   · subst ht
     (repeat (first | (refine ya ?_) | (refine zq ?_; simp -failIfUnchanged only [zH,zN]) | (refine yd ?_; simp -failIfUnchanged only [zz,zu,yN,z8]) | (refine yI ?_; simp -failIfUnchanged only [zr,zo,zH,zN,reduceIte]) | (refine zv ?_) | ((first | (refine yc polN ks58 _ rfl rfl ?_) | (refine yH polN mixed ks58 _ rfl rfl (by kernel_rfl) (by kernel_rfl) ?_)); simp only [↓xK,↓qN,↓jx,↓kn,↓xP,↓kJ,↓qP,↓qJ,↓zBr,zH,zp,z6,yQ,yz,xR,kE,yE,z7,qR,zC8,zAT,xo,xU,xI,yu,xO,qS,jw,implies_true,List.map_cons,List.map_nil,and_self,ye,yS,List.length_cons,List.length_nil,List.drop_zero,List.drop_succ_cons,List.take_succ_cons,List.take_zero,List.getD_cons_zero,List.getD_cons_succ,Bool.and_true,Bool.true_and,Bool.and_self,Option.isSome_some,if_true,if_false,and_true,true_and,Nat.reduceAdd,Nat.reduceEqDiff,Nat.reduceLeDiff,reduceCtorEq,Bool.false_eq_true,Nat.zero_add,Nat.lt_add_one,zB5,zI3,zAG,zCg,zDh,zBa,zFj,zCj,ks58,l1,l2,x9,hsub,hp2,Int.toNat_natCast,zEF,Nat.mul_one])))
     refine ⟨⟨by omega,by omega⟩,by simp only [mcs,List.length_map]; omega,?_⟩
     unfold jY
     rw [show mapT Tryz.prog 63=some 3 from by kernel_rfl]
     simp only
     rw [hc]
     exact ⟨rfl,hmap 2 _ rfl rfl rfl rfl rfl⟩
   · subst ht
     (repeat (first | (refine ya ?_) | (refine zq ?_; simp -failIfUnchanged only [zH,zN]) | (refine yd ?_; simp -failIfUnchanged only [zz,zu,yN,z8]) | (refine yI ?_; simp -failIfUnchanged only [zr,zo,zH,zN,reduceIte]) | (refine zv ?_) | ((first | (refine yc polN ks58 _ rfl rfl ?_) | (refine yH polN mixed ks58 _ rfl rfl (by kernel_rfl) (by kernel_rfl) ?_)); simp only [↓xK,↓qN,↓kn,↓xP,↓kJ,↓qP,↓qJ,↓zBr,zp,z6,yQ,yz,xR,kE,z7,qR,zC8,zAT,xo,xU,xI,yu,xO,qS,jw,implies_true,List.map_cons,List.map_nil,and_self,ye,yS,List.length_cons,List.length_nil,List.drop_zero,List.drop_succ_cons,List.take_succ_cons,List.take_zero,List.getD_cons_zero,List.getD_cons_succ,Bool.and_true,Bool.true_and,Bool.and_self,Option.isSome_some,if_true,if_false,and_true,true_and,Nat.reduceAdd,Nat.reduceEqDiff,Nat.reduceLeDiff,reduceCtorEq,Bool.false_eq_true,Nat.zero_add,Nat.lt_add_one,zB5,zI3,zAG,zCg,zDh,zBa,zFj,zCj,ks58,l1,l2,x9,hsub,hp2,Int.toNat_natCast,zEF,Nat.mul_one])))
     refine ⟨⟨by omega,by omega⟩,by simp only [mcs,List.length_map]; omega,?_⟩
     unfold jY
     rw [show mapT Tryz.prog 63=some 3 from by kernel_rfl]
     simp only
     rw [hc]
     exact ⟨rfl,hmap 1 _ rfl rfl rfl rfl rfl⟩
theorem ok77:CPOk CC Tryz.prog syn 77 zAB:=by
 intro x a R pan K r hr
 obtain ⟨b,ua⟩:=a
 change Bool at b
 replace hr:cond b (K () ()) pan=some r:=hr
 have run:∀ (s:S),FnC Tryz.prog 77 [.at (.bool b)] s (jX CC syn ([]:LK) ([]:LK) [] (if b=true then some ((),()) else none)):=by
  intro s
  refine qp Tryz.func77 rfl Tryz.ntmps77 Tryz.results77 (by show 1<=6; decide) fun B=>?_
  simp only [List.cons_append,List.nil_append,List.append_nil,qm,Nat.reduceAdd]
  (repeat (first | (refine ya ?_) | (refine zq ?_; simp -failIfUnchanged only [zH,zN]) | (refine yd ?_; simp -failIfUnchanged only [zz,zu,yN,z8]) | (refine yI ?_; simp -failIfUnchanged only [zr,zo,zH,zN,reduceIte]) | (refine zv ?_) | ((first | (refine yc polN ks77 _ rfl rfl ?_) | (refine yH polN mixed ks77 _ rfl rfl (by kernel_rfl) (by kernel_rfl) ?_)); simp only [↓xK,↓qN,↓AL_un,zH,zp,z6,yQ,yz,yE,z7,zQk,if_true,if_false,Nat.reduceEqDiff,reduceCtorEq,ks77])))
  refine ja rfl (fun h=>?_) (fun h=>?_)
  · have hb:b=false:=by cases b <;> simp at h ⊢
    subst hb
    (repeat (first | (refine ya ?_) | (refine zq ?_; simp -failIfUnchanged only [zH,zN]) | (refine yd ?_; simp -failIfUnchanged only [zz,zu,yN,z8]) | (refine yI ?_; simp -failIfUnchanged only [zr,zo,zH,zN,reduceIte]) | (refine zv ?_) | ((first | (refine yc polN ks77 _ rfl rfl ?_) | (refine yH polN mixed ks77 _ rfl rfl (by kernel_rfl) (by kernel_rfl) ?_)); simp only [↓zNR,zp,z6,yQ,yz,z7,zLy,zJs,zIw,zLr,List.map_cons,List.map_nil,Bool.true_and,if_true,if_false,true_and,Nat.reduceEqDiff,Bool.false_eq_true,zM9,zero61,ks77,zEo,zMK])))
    refine ⟨by kernel_rfl,?_⟩
    rfl
  · have hb:b=true:=by cases b <;> simp at h ⊢
    subst hb
    refine zq ?_
    exact ⟨[],[],[],⟨rfl,rfl⟩,⟨rfl,rfl⟩,by simp,rfl⟩
 cases b with
 | true=>
  refine ⟨some ((),()),hr,fun s vx va r1 r2 h1 h2 hn=>?_⟩
  simp only [VKs,VK] at h1 h2
  obtain ⟨rfl,rfl⟩:=h1
  obtain ⟨v,w,q1,q2,rfl,rfl,⟨rfl,rfl⟩,rfl,rfl⟩:=h2
  exact run _
 | false=>
  refine ⟨none,hr,fun s vx va r1 r2 h1 h2 hn=>?_⟩
  simp only [VKs,VK] at h1 h2
  obtain ⟨rfl,rfl⟩:=h1
  obtain ⟨v,w,q1,q2,rfl,rfl,⟨rfl,rfl⟩,rfl,rfl⟩:=h2
  exact run _
theorem ok41:ConOk CC Tryz.prog 41 ⟨as41,rs41,fun x=>some (Nd.mk x.1 0 x.2.1,())⟩:=con41 0
abbrev zEi:Pol:=⟨fun f=>f == 41,fun _=>false,fun _=>false,fun _=>false,[],fun _=>[]⟩
set_option maxRecDepth 100000 in
theorem ok38:CROk CC Tryz.prog 38 kh:=by
 intro x R K r hr
 obtain ⟨⟨pts,u⟩,k,u'⟩:=x
 change List Nd at pts
 change Int at k
 refine ⟨(Nd.mk k 0 pts,()),hr,fun s va q hv hn=>?_⟩
 simp only [VKs,VK] at hv
 obtain ⟨v,w,q1,q2,rfl,rfl,⟨b0,cs,q3,rfl,e1,⟨v2,w2,q4,q5,rfl,rfl,⟨n,rfl,hn1,hn2,rfl⟩,rfl,rfl⟩,rfl⟩,v3,w3,q6,q7,rfl,rfl,⟨rfl,rfl⟩,rfl,rfl⟩:=hv
 refine ⟨[yA (Nd.mk k 0 pts)],fun s'=>⟨_,[],[],[],rfl,rfl,⟨rfl,rfl⟩,rfl,rfl⟩,?_⟩
 have e2:=(yl s [.inr b0,.inl n] b0).1 (by simp)
 rw [e1] at e2
 show FnC Tryz.prog 38 _ (subS s [.inr b0,.inl n]) fun oc s'=>oc = .ret (finV [yA (Nd.mk k 0 pts)])/\s' = subS s [.inr b0,.inl n]
 generalize subS s [.inr b0,.inl n]=s0 at e2 ⊢
 have hp:qD Tryz.prog 41 [.at (.int .i64 k),.lst (zh (pts.map (CC.encV TI.node))) (pts.map (CC.encV TI.node))] (yA (Nd.mk k 0 pts)):=by
  have h:=ok41 (k,pts,()) (Nd.mk k 0 pts,()) rfl [.at (.int .i64 k),.lst (zh (pts.map (CC.encV TI.node))) (pts.map (CC.encV TI.node))] ⟨_,_,rfl,rfl,⟨_,_,rfl,rfl,rfl⟩⟩
  have e:finV ((xM CC rs41 (fun _=>false) 0 (Nd.mk k 0 pts,())).map (trT CC ⟨id,id,id,id⟩))=yA (Nd.mk k 0 pts):=CCok.enc _ TI.node (Nd.mk k 0 pts)
  exact e ▸ h
 refine zFI ?_
 refine qp Tryz.func38 rfl Tryz.ntmps38 Tryz.results38 (by show 2<=11; decide) fun B=>?_
 simp only [List.cons_append,List.nil_append,List.append_nil,qm,Nat.reduceAdd]
 (repeat (first | (refine ya ?_) | (refine zq ?_; simp -failIfUnchanged only [zH,zN]) | (refine yd ?_; simp -failIfUnchanged only [zz,zu,yN,z8]) | (refine yI ?_; simp -failIfUnchanged only [zr,zo,zH,zN,reduceIte]) | (refine zv ?_) | ((first | (refine yc zEi ks38 _ rfl rfl ?_) | (refine yH zEi mixed ks38 _ rfl rfl (by kernel_rfl) (by kernel_rfl) ?_)); simp only [↓xK,↓zNa,zH,zp,z6,yQ,yE,z7,zLz,zJm,if_true,if_false,Nat.reduceEqDiff,reduceCtorEq,zIZ,ks38])))
 refine ⟨rfl,fun b hb=>?_⟩
 have hbb:¬ b=b0:=fun e=>by rw [e,e2] at hb; cases hb
 have hbb':¬ b0=b:=fun e=>hbb e.symm
 (repeat (first | (refine ya ?_) | (refine zq ?_; simp -failIfUnchanged only [zH,zN]) | (refine yd ?_; simp -failIfUnchanged only [zz,zu,yN,z8]) | (refine yI ?_; simp -failIfUnchanged only [zr,zo,zH,zN,reduceIte]) | (refine zv ?_) | ((first | (refine yc zEi ks38 _ rfl rfl ?_) | (refine yH zEi mixed ks38 _ rfl rfl (by kernel_rfl) (by kernel_rfl) ?_)); simp only [↓qN,↓xP,↓qP,↓qJ,zH,zEw,zp,z6,yQ,yz,yE,z7,xo,xU,xI,yu,xO,implies_true,List.map_cons,List.map_nil,and_self,ye,yS,List.length_cons,List.length_nil,List.drop_zero,List.take_succ_cons,List.take_nil,List.getD_cons_zero,Bool.true_and,Bool.and_self,if_true,if_false,true_and,Nat.reduceAdd,Nat.reduceEqDiff,reduceCtorEq,Bool.false_eq_true,Nat.zero_add,Nat.add_zero,Nat.le_refl,Nat.lt_add_one,zW,zDi,zJC,zCd,zPE,ks38,e2,hbb])))
 (refine zOf hp rfl code41 (by simp only [List.map_cons,List.map_nil,yz,xR,kE,zKn,zCS,zMO,zp,jT,z6,yQ,if_true,if_false,Nat.reduceEqDiff,reduceIte,reduceCtorEq,zJ3,zH9,zLG,zL5,zKu,zN6,zM0,zEC,zB3,zEI,zLh,zNF,zDE]) (by simp only [List.map_cons,List.map_nil,List.all_cons,List.all_nil,yz,xR,kE,zKn,zCS,zMO,zp,jT,z6,yQ,if_true,if_false,Nat.reduceEqDiff,reduceIte,reduceCtorEq,zJw,zIj,zHO,zJD,V.isOne,Bool.and_self,Bool.and_true]) ?_; simp only [↓xK,↓zAp,zp,jT,z6,yQ,yz,kW,qK,spl,List.nil_append,zJ,V.flat,List.length_cons,List.length_nil,List.take_zero,Bool.true_and,if_true,if_false,true_and,Nat.reduceAdd,Nat.reduceEqDiff,reduceCtorEq,Nat.zero_add,zW,zD1,zBf])
 simp only [ju,sl]
 refine ⟨rfl,rfl,Nat.le_refl _,?_⟩
 (repeat (first | (refine ya ?_) | (refine zq ?_; simp -failIfUnchanged only [zH,zN]) | (refine yd ?_; simp -failIfUnchanged only [zz,zu,yN,z8]) | (refine yI ?_; simp -failIfUnchanged only [zr,zo,zH,zN,reduceIte]) | (refine zv ?_) | ((first | (refine yc zEi ks38 _ rfl rfl ?_) | (refine yH zEi mixed ks38 _ rfl rfl (by kernel_rfl) (by kernel_rfl) ?_)); simp only [])))
 unfold yj
 rw [show Env.get [(4,V.at (Value.pointer (some ⟨b,0,none⟩)))] 4=V.at (Value.pointer (some ⟨b,0,none⟩)) from rfl,xU,zW,if_pos rfl,xI]
 refine ⟨⟨zD1,by rw [zBf]; exact Nat.le_refl _,fun h=>by rw [zEB] at h; cases h⟩,?_⟩
 have hpv:∀ a b c:V,yS Tryz.prog 29 [a,b,c] 0 = .agg [a,b,c]:=fun a b c=>by
  unfold yS
  rw [if_pos zEB,zBf]; rfl
 simp only [List.cons_append,List.nil_append,List.length_cons,List.length_nil,List.drop_succ_cons,List.drop_zero,List.append_nil,List.drop_nil,Nat.zero_add,Nat.reduceAdd,hpv]
 refine ⟨rfl,?_⟩
 unfold yj
 refine ⟨s0,fun B g w hi=>hi.weaken ⟨fun j c hj=>?_,fun _ hm=>hm,fun hn=>hn,fun j hj=>?_,Nat.le_refl _,fun _ _ h=>h⟩,?_,rfl⟩
 · have:¬ b=j:=fun e=>by rw [<- e,hb] at hj; cases hj
   show Al.look (lay (lay s0.box b _) b _) j=_
   rw [zW,if_neg this,zW,if_neg this]; exact hj
 · replace hj:Al.look (lay (lay s0.box b _) b _) j=none:=hj
   rw [zW] at hj
   split at hj
   · cases hj
   · rename_i h; rw [zW,if_neg h] at hj; exact hj
 · simp only [finV,V.untag,List.map_cons,List.map_nil,zA0]
   rfl
end
section
open Go.Al Go.Den
def kf17:Nat->List Nat
 | 0=>[0,2,3,4]
 | 1=>[0,2,3,4,8]
 | 2=>[0,2,3,4]
 | 3=>[0,2,3]
 | 4=>[0,2,3,4]
 | 5=>[0,2,3,4,5]
 | 6=>[0,2,3,4,5,22]
 | 7=>[0,2,3,4,5]
 | 8=>[0,2,3,4]
 | _=>[]
def hd17:List (Nat×Head UU):=[(6,⟨[0,2,3,4,5],[],[(4,parK),(5,ptsK)]⟩)]
def jn17:List (Nat×Head UU):=[]
noncomputable def fd17:FD UU:=⟨⟨fun d=>hasN [] d,fun d=>hasN [] d,kf17,zB hd17,zB jn17,ze []⟩,zU Tryz.f17,28,[.cell 2 29,.cell 3 30]⟩
noncomputable def zJc:Code:=match zU Tryz.f17 with
 | .seq _ (.seq _ (.seq _ (.seq _ (.seq _ (.seq (.block _ c) _)))))=>c
 | _=>.skip
abbrev k17:LK:=[.dl TI.tok,parK,ptsK]
noncomputable def run17 (fu:Nat) (v2 v3:Value) (c37:zA ([.bool]:LK)->MM (zA ([.st TI.node]:LK))) (x:zA k17):Option (Option (zA ([parK,ptsK]:LK))):=
 runQ CC Tb fu 3 (zB [(36,fd36)]) (zB []) (zB [(38,kh)]) (zB [(37,cM ([.bool]:LK) ([.st TI.node]:LK) c37)]) fd17.fi zJc [(2,v2),(3,v3)] false [0,4,5] [4,5] k17 ([parK,ptsK]:LK) x
noncomputable def rest17b:Code:=match zU Tryz.f17 with
 | .seq _ (.seq _ (.seq _ (.seq _ (.seq _ (.seq _ c)))))=>c
 | _=>.skip
abbrev k17b:LK:=[.box [.int .i64,.int .i64,.dl TI.node],.box [.int .i64],ptsK]
abbrev k17c:LK:=[.box [.int .i64,.int .i64,.dl TI.node],.box [.int .i64]]
noncomputable def zNP (x:zA k17b):Option (Option (zA k17c)):=
 runQ CC Tb 0 2 (zB []) (zB []) (zB [(38,kh)]) (zB []) fd17.fi rest17b [] true [2,3,5] [2,3] k17b k17c x
theorem zMV:FDOk Tryz.prog (hasN []) (hasN [38]) 36 fd36:=⟨⟨Tryz.f36,Tryz.func36,by kernel_rfl,Tryz.ntmps36,Tryz.results36⟩,by kernel_rfl,by kernel_rfl,by kernel_rfl⟩
end
section
open Go.Al Go.Den
def sh17 (fu:Nat) (v2:Go.Value) (v3:Go.Value) (c37:(Bool×Unit)->MM (Nd×Unit)) (x:(LT×(ParT×(NdsT×Unit)))):(Option (Option (ParT×(NdsT×Unit)))):=iter fu (fun (rec1:(Unit×(ParT×(NdsT×Unit)))->Option (Option (ParT×(NdsT×Unit)))) (s1:(Unit×(ParT×(NdsT×Unit))))=>cond (ilt s1.2.1.2.1 (lenI x.1)) (bo (c37 (true,()) s1.2.1.1 (s1.2.1.2.1,s1.2.1.2.2.1)) fun y1=>cond (okN 40 ((List.length s1.2.2.1.1)+(List.length [(ndE y1.1.1)]))) (rec1 ((),((s1.2.1.1,(y1.2.1,(y1.2.2,((),())))),(((s1.2.2.1.1++[(ndE y1.1.1)]),()),())))) (none)) (some (some ((s1.2.1.1,(s1.2.1.2.1,(s1.2.1.2.2.1,((),())))),((s1.2.2.1.1,()),()))))) ((),((x.2.1.1,(x.2.1.2.1,(x.2.1.2.2.1,((),())))),((x.2.2.1.1,()),())))
theorem eq17:@run17 = @sh17:=by kernel_rfl
def sh17r (x:(JT×((Int×Unit)×(NdsT×Unit)))):(Option (Option (JT×((Int×Unit)×Unit)))):=some (some (((Nd.kind (Nd.mk 1 0 x.2.2.1.1)),((Nd.tok (Nd.mk 1 0 x.2.2.1.1)),((Nd.kids (Nd.mk 1 0 x.2.2.1.1)),()))),((0,()),())))
theorem eq17r:@zNP = @sh17r:=by kernel_rfl
end
section
open Go.RowKit Go.Al
theorem idle35 (p q:Addr) (w:World) :
 CallsD Tryz.prog 35 #[.pointer (some p),.pointer (some q)] .returning w fun e u' w'=>e = .returned (.tuple #[])/\u' = .returning/\w' = w:=by
 refine callsD_of_wpS Tryz.func35 rfl fun c₀ cs hu=>?_
 apply wpS_seq
 apply wpS_region
 simp [wpOpsS,go_sem,recoverD,hu,Tryz.ntmps35,Exit.thenS]
 refine wpS_of_wp ?_
 have hnil:∀ w:World,(binOp BinOp.eql 20 .nilIface .nilIface).run Tryz.prog w = .ok (.bool true) w:=fun _=>by kernel_rfl
 go_wp2
 cases c₀
 simp_all [bodyPostS,results,Tryz.results35]
set_option maxRecDepth 100000 in
theorem syn35 (p q:Nat) (x0 x1 x2 y0:Value) (tp tq:TypeId) (older:List PanicEntry) (w:World) (hp:w.heap[p]? = some (.cells #[x0,x1,x2] tp (0,0))) (hq:w.heap[q]? = some (.cells #[y0] tq (0,0))) (hpq:p≠q) :
 CallsD Tryz.prog 35 #[.pointer (some ⟨p,0,none⟩),.pointer (some ⟨q,0,none⟩)] (.panicking ({ v:=.iface 61 (.agg #[]),recovered:=false }::older)) w fun e u' w'=>e = .returned (.tuple #[])/\u' = .panicking ({ v:=.iface 61 (.agg #[]),recovered:=true }::older) /\
  w.heap.size<=w'.heap.size/\w'.heap[p]? = some (.cells #[.int .i64 0,.int .i64 0,.slice none 0 0] tp (0,0))/\w'.heap[q]? = some (.cells #[.int .i64 160] tq (0,0))/\(∀ j,j < w.heap.size->j≠p->j≠q->w'.heap[j]? = w.heap[j]?)/\w'.os=w.os/\w'.tape=w.tape/\w'.output=w.output:=by
 refine callsD_of_wpS Tryz.func35 rfl fun c₀ cs hu=>?_
 apply wpS_seq
 apply wpS_region
 simp [wpOpsS,go_sem,recoverD,hu,Tryz.ntmps35,Exit.thenS]
 refine wpS_of_wp ?_
 have hcp0:w.cell? ⟨p,0,none⟩=some x0:=by simp [World.cell?,hp]
 have hcp1:w.cell? ⟨p,1,none⟩=some x1:=by simp [World.cell?,hp]
 have hcp2:w.cell? ⟨p,2,none⟩=some x2:=by simp [World.cell?,hp]
 have hcq:w.cell? ⟨q,0,none⟩=some y0:=by simp [World.cell?,hq]
 have hfp:∀ o,w.frozen? ⟨p,o,none⟩=false:=fun o=>by simp [World.frozen?,hp]
 have hfq:w.frozen? ⟨q,0,none⟩=false:=by simp [World.frozen?,hq]
 have hta:∀ w:World,(Instr.typeAssert (.iface 61 (.agg #[])) 20 61 true).run Tryz.prog w = .ok (.tuple #[.agg #[],.bool true]) w:=fun _=>by kernel_rfl
 have lp:=(Array.getElem?_eq_some_iff.1 hp).1
 have lq:=(Array.getElem?_eq_some_iff.1 hq).1
 have hp1:(w.alloc (.cells #[] 61)).heap[p]? = some (.cells #[x0,x1,x2] tp (0,0)):=(Below.heap_alloc _ _ _ lp).trans hp
 have hq1:(w.alloc (.cells #[] 61)).heap[q]? = some (.cells #[y0] tq (0,0)):=(Below.heap_alloc _ _ _ lq).trans hq
 obtain ⟨W1,hW1⟩:∃ W1,w.alloc (.cells #[] 61)=W1:=⟨_,rfl⟩
 rw [hW1] at hp1 hq1
 have sc:∀ (W:World) (k i:Nat) (v:Value) (c:Array Value) (t:TypeId) (m:Nat×Nat),W.heap[k]? = some (.cells c t m)->(W.setCell ⟨k,i,none⟩ v).heap[k]? = some (.cells (c.setIfInBounds i v) t m):=by
  intro W k i v c t m h
  show (W.heap.modify k _)[k]? = _
  obtain ⟨hlt,hk⟩:=Array.getElem?_eq_some_iff.1 h
  rw [Array.getElem?_eq_getElem (by rw [Array.size_modify]; exact hlt),Array.getElem_modify_self,hk]
  rfl
 have so:∀ (W:World) (k i:Nat) (v:Value) (j:Nat),j≠k->(W.setCell ⟨k,i,none⟩ v).heap[j]? = W.heap[j]?:=fun W k i v j hj=>Below.heap_setCell _ _ _ j hj
 have sz:∀ (W:World) (k i:Nat) (v:Value),(W.setCell ⟨k,i,none⟩ v).heap.size=W.heap.size:=fun W k i v=>by show (W.heap.modify k _).size=_; simp
 have a1:(W1.setCell ⟨p,0,none⟩ (.int .i64 0)).heap[p]? = some (.cells #[.int .i64 0,x1,x2] tp (0,0)):=sc W1 p 0 _ _ _ _ hp1
 have a2:((W1.setCell ⟨p,0,none⟩ (.int .i64 0)).setCell ⟨p,1,none⟩ (.int .i64 0)).heap[p]? = some (.cells #[.int .i64 0,.int .i64 0,x2] tp (0,0)):=sc _ p 1 _ _ _ _ a1
 have a3:(((W1.setCell ⟨p,0,none⟩ (.int .i64 0)).setCell ⟨p,1,none⟩ (.int .i64 0)).setCell ⟨p,2,none⟩ (.slice none 0 0)).heap[p]? = some (.cells #[.int .i64 0,.int .i64 0,.slice none 0 0] tp (0,0)):=sc _ p 2 _ _ _ _ a2
 have q3:(((W1.setCell ⟨p,0,none⟩ (.int .i64 0)).setCell ⟨p,1,none⟩ (.int .i64 0)).setCell ⟨p,2,none⟩ (.slice none 0 0)).heap[q]? = some (.cells #[y0] tq (0,0)):=by
  rw [so _ _ _ _ _ (Ne.symm hpq),so _ _ _ _ _ (Ne.symm hpq),so _ _ _ _ _ (Ne.symm hpq)]; exact hq1
 have b0:W1.cell? ⟨p,0,none⟩=some x0:=by simp [World.cell?,hp1]
 have f0:W1.frozen? ⟨p,0,none⟩=false:=by simp [World.frozen?,hp1]
 have b1:(W1.setCell ⟨p,0,none⟩ (.int .i64 0)).cell? ⟨p,1,none⟩=some x1:=by simp [World.cell?,a1]
 have f1:(W1.setCell ⟨p,0,none⟩ (.int .i64 0)).frozen? ⟨p,1,none⟩=false:=by simp [World.frozen?,a1]
 have b2:((W1.setCell ⟨p,0,none⟩ (.int .i64 0)).setCell ⟨p,1,none⟩ (.int .i64 0)).cell? ⟨p,2,none⟩=some x2:=by simp [World.cell?,a2]
 have f2:((W1.setCell ⟨p,0,none⟩ (.int .i64 0)).setCell ⟨p,1,none⟩ (.int .i64 0)).frozen? ⟨p,2,none⟩=false:=by simp [World.frozen?,a2]
 have b3:(((W1.setCell ⟨p,0,none⟩ (.int .i64 0)).setCell ⟨p,1,none⟩ (.int .i64 0)).setCell ⟨p,2,none⟩ (.slice none 0 0)).cell? ⟨q,0,none⟩=some y0:=by simp [World.cell?,q3]
 have f3:(((W1.setCell ⟨p,0,none⟩ (.int .i64 0)).setCell ⟨p,1,none⟩ (.int .i64 0)).setCell ⟨p,2,none⟩ (.slice none 0 0)).frozen? ⟨q,0,none⟩=false:=by simp [World.frozen?,q3]
 have ho1:∀ j,j < w.heap.size->W1.heap[j]? = w.heap[j]?:=fun j hj=>by rw [<- hW1]; exact Below.heap_alloc _ _ _ hj
 have hs1:W1.heap.size=w.heap.size+1:=by rw [<- hW1]; simp
 have hos:W1.os=w.os/\W1.tape=w.tape/\W1.output=w.output:=by rw [<- hW1]; exact ⟨rfl,rfl,rfl⟩
 go_wp2
 refine ⟨rfl,.panicking ({ v:=.iface 61 (.agg #[]),recovered:=true }::older),by simp [hu],_,results_none rfl _ _ _,rfl,rfl,?_⟩
 refine ⟨by rw [sz,sz,sz,sz,hs1]; omega,?_,sc _ q 0 _ _ _ _ q3,fun j h1 h2 h3=>?_,hos⟩
 · rw [so _ _ _ _ _ hpq]; exact a3
 · rw [so _ _ _ _ _ h3,so _ _ _ _ _ h2,so _ _ _ _ _ h2,so _ _ _ _ _ h2]; exact ho1 j h1
end
section
open Go.Al Go.Den
abbrev as90:List (AK UU):=[.str,.int .u8]
abbrev rs90:List (AK UU):=[.int .i64]
abbrev as91:List (AK UU):=[.str,.str]
abbrev rs91:List (AK UU):=[.int .i64]
def kf64:Nat->List Nat
 | 0=>[0]
 | 1=>[0,6]
 | 2=>[0,6,7]
 | 3=>[0,6,7]
 | 4=>[0,6,7]
 | 5=>[0,6,7]
 | 6=>[0,7]
 | 7=>[0]
 | 8=>[0,2]
 | 9=>[0,21]
 | 10=>[0,3]
 | 11=>[0,3,33]
 | 12=>[0,3]
 | 13=>[0]
 | 14=>[0,2]
 | 15=>[0,54]
 | 16=>[0,2]
 | 17=>[0,4]
 | 18=>[0,4,67]
 | 19=>[0,2]
 | 20=>[0]
 | 21=>[0,2]
 | _=>[]
def hd64:List (Nat×Head UU):=[]
def jn64:List (Nat×Head UU):=[(7,⟨[0],[(7,.bool)],[(0,rdK)]⟩),(13,⟨[0],[(3,.int .i64)],[(0,rdK)]⟩),(9,⟨[0],[],[(0,rdK)]⟩)]
noncomputable def fd64:FD UU:=⟨⟨fun d=>hasN [] d,fun d=>hasN [] d,kf64,zB hd64,zB jn64,ze []⟩,zU Tryz.f64,77,[.tmp 2]⟩
def kf65:Nat->List Nat
 | 0=>[0]
 | 1=>[0,10]
 | 2=>[0,2,3]
 | 3=>[0,4]
 | 4=>[0,4,14]
 | 5=>[0,2,3]
 | 6=>[0,5]
 | 7=>[0,5,19]
 | 8=>[0,2,3]
 | 9=>[0,6]
 | 10=>[0,6,24]
 | 11=>[0,2,3]
 | 12=>[0,7]
 | 13=>[0,7,29]
 | 14=>[0,2,3]
 | 15=>[0,8]
 | 16=>[0,8,34]
 | 17=>[0,2,3]
 | 18=>[0,2,3]
 | _=>[]
def hd65:List (Nat×Head UU):=[]
def jn65:List (Nat×Head UU):=[]
noncomputable def fd65:FD UU:=⟨⟨fun d=>hasN [] d,fun d=>hasN [] d,kf65,zB hd65,zB jn65,ze []⟩,zU Tryz.f65,36,[.tmp 2,.tmp 3]⟩
def kf89:Nat->List Nat
 | 0=>[0,1]
 | 1=>[0,4]
 | _=>[]
def hd89:List (Nat×Head UU):=[]
def jn89:List (Nat×Head UU):=[]
noncomputable def fd89:FD UU:=⟨⟨fun d=>hasN [] d,fun d=>hasN [] d,kf89,zB hd89,zB jn89,ze []⟩,zU Tryz.f89,16,[.tmp 4]⟩
def kf92:Nat->List Nat
 | 0=>[0]
 | 1=>[0,3]
 | 2=>[0,3,17]
 | 3=>[0,3]
 | 4=>[0,2]
 | _=>[]
def hd92:List (Nat×Head UU):=[(2,⟨[0],[(3,.int .i64)],[(0,rdK)]⟩)]
def jn92:List (Nat×Head UU):=[]
noncomputable def fd92:FD UU:=⟨⟨fun d=>hasN [] d,fun d=>hasN [] d,kf92,zB hd92,zB jn92,ze []⟩,zU Tryz.f92,21,[.tmp 2]⟩
def kf93:Nat->List Nat
 | 0=>[0]
 | 1=>[0,20]
 | 2=>[0,2]
 | 3=>[0,3]
 | 4=>[0,3,4,5]
 | 5=>[0,2]
 | 6=>[0,3,4,29]
 | 7=>[0,3]
 | 8=>[0,3,43]
 | 9=>[0,3]
 | _=>[]
def hd93:List (Nat×Head UU):=[(4,⟨[0],[(3,.int .i64)],[(0,rdK)]⟩)]
def jn93:List (Nat×Head UU):=[]
noncomputable def fd93:FD UU:=⟨⟨fun d=>hasN [] d,fun d=>hasN [] d,kf93,zB hd93,zB jn93,ze []⟩,zU Tryz.f93,56,[.tmp 2]⟩
def kf94:Nat->List Nat
 | 0=>[0,1]
 | 1=>[0,1,21]
 | 2=>[0,4]
 | 3=>[0,1,5]
 | 4=>[0,1,5,33]
 | 5=>[0,1,5]
 | 6=>[0,1,5,38]
 | 7=>[0,1,5,38,39]
 | 8=>[0,5,47]
 | 9=>[0,4]
 | 10=>[0,4]
 | 11=>[0,1,5,38,50]
 | 12=>[0,4]
 | 13=>[0,1,5,52]
 | 14=>[0,1,5]
 | 15=>[0,1,5,73]
 | 16=>[0,4]
 | 17=>[0,4]
 | _=>[]
def hd94:List (Nat×Head UU):=[(4,⟨[0,1],[(5,.int .i64)],[(0,rdK)]⟩)]
def jn94:List (Nat×Head UU):=[]
noncomputable def fd94:FD UU:=⟨⟨fun d=>hasN [] d,fun d=>hasN [] d,kf94,zB hd94,zB jn94,ze []⟩,zU Tryz.f94,74,[.tmp 4]⟩
def kf95:Nat->List Nat
 | 0=>[0]
 | 1=>[0,3]
 | 2=>[0,3,6,7]
 | 3=>[0,3,6,7,8]
 | 4=>[0,3,5,6,7]
 | 5=>[0,3,5,6,7,19]
 | 6=>[0,3,6,7]
 | 7=>[0,3,6,7]
 | 8=>[0,2]
 | _=>[]
def hd95:List (Nat×Head UU):=[(3,⟨[0,6],[(3,.int .i64),(7,.int .i64)],[(0,rdK)]⟩)]
def jn95:List (Nat×Head UU):=[]
noncomputable def fd95:FD UU:=⟨⟨fun d=>hasN [] d,fun d=>hasN [] d,kf95,zB hd95,zB jn95,ze []⟩,zU Tryz.f95,24,[.tmp 2]⟩
def kf119:Nat->List Nat
 | 0=>[0,1]
 | 1=>[4]
 | _=>[]
def hd119:List (Nat×Head UU):=[]
def jn119:List (Nat×Head UU):=[]
noncomputable def zK2:FD UU:=⟨⟨fun d=>hasN [] d,fun d=>hasN [] d,kf119,zB hd119,zB jn119,ze []⟩,zU Tryz.f119,8,[.tmp 4]⟩
def kf122:Nat->List Nat
 | 0=>[0]
 | 1=>[2]
 | _=>[]
def hd122:List (Nat×Head UU):=[]
def jn122:List (Nat×Head UU):=[]
noncomputable def zEQ:FD UU:=⟨⟨fun d=>hasN [] d,fun d=>hasN [] d,kf122,zB hd122,zB jn122,ze []⟩,zU Tryz.f122,21,[.tmp 2]⟩
def kf123:Nat->List Nat
 | 0=>[0]
 | 1=>[2]
 | _=>[]
def hd123:List (Nat×Head UU):=[]
def jn123:List (Nat×Head UU):=[]
noncomputable def zEe:FD UU:=⟨⟨fun d=>hasN [] d,fun d=>hasN [] d,kf123,zB hd123,zB jn123,ze []⟩,zU Tryz.f123,9,[.tmp 2]⟩
def kf132:Nat->List Nat
 | 0=>[0,1]
 | 1=>[4]
 | _=>[]
def hd132:List (Nat×Head UU):=[]
def jn132:List (Nat×Head UU):=[]
noncomputable def zLb:FD UU:=⟨⟨fun d=>hasN [] d,fun d=>hasN [] d,kf132,zB hd132,zB jn132,ze []⟩,zU Tryz.f132,18,[.tmp 4]⟩
noncomputable def run89 (fu:Nat) (x:zA [rdK]) (a:zA ([.str]:LK)):Option (Option (zA [rdK]×zA ([.bool]:LK))):=
 runP CC Tb fu 4 (zB [(119,zK2),(132,zLb)]) (zB []) (zB []) (zB []) fd89 [rdK] [rdK] ([.str]:LK) ([.bool]:LK) x a
theorem fdok89:FDOk Tryz.prog (hasN []) (hasN []) 89 fd89:=⟨⟨Tryz.f89,Tryz.func89,by kernel_rfl,Tryz.ntmps89,Tryz.results89⟩,by kernel_rfl,by kernel_rfl,by kernel_rfl⟩
theorem zK5:FDOk Tryz.prog (hasN []) (hasN []) 119 zK2:=⟨⟨Tryz.f119,Tryz.func119,by kernel_rfl,Tryz.ntmps119,Tryz.results119⟩,by kernel_rfl,by kernel_rfl,by kernel_rfl⟩
theorem zLX:FDOk Tryz.prog (hasN []) (hasN []) 132 zLb:=⟨⟨Tryz.f132,Tryz.func132,by kernel_rfl,Tryz.ntmps132,Tryz.results132⟩,by kernel_rfl,by kernel_rfl,by kernel_rfl⟩
noncomputable def run92 (fu:Nat) (c88:zA ([.int .i64]:LK)->Str->Int->Option (zA ([.int .u8]:LK))) (x:zA [rdK]) (a:zA ([]:LK)):Option (Option (zA [rdK]×zA ([.int .i64]:LK))):=
 runP CC Tb fu 4 (zB [(122,zEQ),(123,zEe)]) (zB []) (zB [(88,cRD ([.int .i64]:LK) ([.int .u8]:LK) c88)]) (zB []) fd92 [rdK] [rdK] ([]:LK) ([.int .i64]:LK) x a
theorem fdok92:FDOk Tryz.prog (hasN []) (hasN [88]) 92 fd92:=⟨⟨Tryz.f92,Tryz.func92,by kernel_rfl,Tryz.ntmps92,Tryz.results92⟩,by kernel_rfl,by kernel_rfl,by kernel_rfl⟩
theorem zLo:FDOk Tryz.prog (hasN []) (hasN [88]) 122 zEQ:=⟨⟨Tryz.f122,Tryz.func122,by kernel_rfl,Tryz.ntmps122,Tryz.results122⟩,by kernel_rfl,by kernel_rfl,by kernel_rfl⟩
theorem zLg:FDOk Tryz.prog (hasN []) (hasN [88]) 123 zEe:=⟨⟨Tryz.f123,Tryz.func123,by kernel_rfl,Tryz.ntmps123,Tryz.results123⟩,by kernel_rfl,by kernel_rfl,by kernel_rfl⟩
noncomputable def run93 (fu:Nat) (c90:List UInt8×Int×Unit->Option (Int×Unit)) (c88:zA ([.int .i64]:LK)->Str->Int->Option (zA ([.int .u8]:LK))) (x:zA [rdK]) (a:zA ([]:LK)):Option (Option (zA [rdK]×zA ([.int .i64]:LK))):=
 runP CC Tb fu 4 (zB [(122,zEQ),(123,zEe)]) (zB [(90,(⟨as90,rs90,c90⟩:Con UU))]) (zB [(88,cRD ([.int .i64]:LK) ([.int .u8]:LK) c88)]) (zB []) fd93 [rdK] [rdK] ([]:LK) ([.int .i64]:LK) x a
theorem fdok93:FDOk Tryz.prog (hasN [90]) (hasN [88]) 93 fd93:=⟨⟨Tryz.f93,Tryz.func93,by kernel_rfl,Tryz.ntmps93,Tryz.results93⟩,by kernel_rfl,by kernel_rfl,by kernel_rfl⟩
theorem zKz:FDOk Tryz.prog (hasN [90]) (hasN [88]) 122 zEQ:=⟨⟨Tryz.f122,Tryz.func122,by kernel_rfl,Tryz.ntmps122,Tryz.results122⟩,by kernel_rfl,by kernel_rfl,by kernel_rfl⟩
theorem zLM:FDOk Tryz.prog (hasN [90]) (hasN [88]) 123 zEe:=⟨⟨Tryz.f123,Tryz.func123,by kernel_rfl,Tryz.ntmps123,Tryz.results123⟩,by kernel_rfl,by kernel_rfl,by kernel_rfl⟩
noncomputable def run94 (fu:Nat) (c88:zA ([.int .i64]:LK)->Str->Int->Option (zA ([.int .u8]:LK))) (x:zA [rdK]) (a:zA ([.int .u8]:LK)):Option (Option (zA [rdK]×zA ([.int .i64]:LK))):=
 runP CC Tb fu 2 (zB []) (zB []) (zB [(88,cRD ([.int .i64]:LK) ([.int .u8]:LK) c88)]) (zB []) fd94 [rdK] [rdK] ([.int .u8]:LK) ([.int .i64]:LK) x a
theorem fdok94:FDOk Tryz.prog (hasN []) (hasN [88]) 94 fd94:=⟨⟨Tryz.f94,Tryz.func94,by kernel_rfl,Tryz.ntmps94,Tryz.results94⟩,by kernel_rfl,by kernel_rfl,by kernel_rfl⟩
noncomputable def run95 (fu:Nat) (c89:zA ([.str]:LK)->DD (zA ([.bool]:LK))) (x:zA [rdK]) (a:zA ([]:LK)):Option (Option (zA [rdK]×zA ([.int .i64]:LK))):=
 runP CC Tb fu 2 (zB []) (zB []) (zB []) (zB [(89,cD ([.str]:LK) ([.bool]:LK) c89)]) fd95 [rdK] [rdK] ([]:LK) ([.int .i64]:LK) x a
theorem fdok95:FDOk Tryz.prog (hasN []) (hasN []) 95 fd95:=⟨⟨Tryz.f95,Tryz.func95,by kernel_rfl,Tryz.ntmps95,Tryz.results95⟩,by kernel_rfl,by kernel_rfl,by kernel_rfl⟩
noncomputable def run65 (fu:Nat) (c89:zA ([.str]:LK)->DD (zA ([.bool]:LK))) (c92:zA ([]:LK)->DD (zA ([.int .i64]:LK))) (c93:zA ([]:LK)->DD (zA ([.int .i64]:LK))) (c94:zA ([.int .u8]:LK)->DD (zA ([.int .i64]:LK))) (c95:zA ([]:LK)->DD (zA ([.int .i64]:LK))) (x:zA [rdK]) (a:zA ([]:LK)):Option (Option (zA [rdK]×zA ([.int .i64,.int .i64]:LK))):=
 runP CC Tb fu 2 (zB []) (zB []) (zB []) (zB [(89,cD ([.str]:LK) ([.bool]:LK) c89),(92,cD ([]:LK) ([.int .i64]:LK) c92),(93,cD ([]:LK) ([.int .i64]:LK) c93),(94,cD ([.int .u8]:LK) ([.int .i64]:LK) c94),(95,cD ([]:LK) ([.int .i64]:LK) c95)]) fd65 [rdK] [rdK] ([]:LK) ([.int .i64,.int .i64]:LK) x a
theorem fdok65:FDOk Tryz.prog (hasN []) (hasN []) 65 fd65:=⟨⟨Tryz.f65,Tryz.func65,by kernel_rfl,Tryz.ntmps65,Tryz.results65⟩,by kernel_rfl,by kernel_rfl,by kernel_rfl⟩
noncomputable def run64 (fu:Nat) (c90:List UInt8×Int×Unit->Option (Int×Unit)) (c91:List UInt8×List UInt8×Unit->Option (Int×Unit)) (c88:zA ([.int .i64]:LK)->Str->Int->Option (zA ([.int .u8]:LK))) (c89:zA ([.str]:LK)->DD (zA ([.bool]:LK))) (x:zA [rdK]) (a:zA ([]:LK)):Option (Option (zA [rdK]×zA ([.bool]:LK))):=
 runP CC Tb fu 2 (zB []) (zB [(90,(⟨as90,rs90,c90⟩:Con UU)),(91,(⟨as91,rs91,c91⟩:Con UU))]) (zB [(88,cRD ([.int .i64]:LK) ([.int .u8]:LK) c88)]) (zB [(89,cD ([.str]:LK) ([.bool]:LK) c89)]) fd64 [rdK] [rdK] ([]:LK) ([.bool]:LK) x a
theorem fdok64:FDOk Tryz.prog (hasN [90,91]) (hasN [88]) 64 fd64:=⟨⟨Tryz.f64,Tryz.func64,by kernel_rfl,Tryz.ntmps64,Tryz.results64⟩,by kernel_rfl,by kernel_rfl,by kernel_rfl⟩
end
section
open Go.Al Go.Den
abbrev as18:List (AK UU):=[.str]
abbrev rs18:List (AK UU):=[.dl TI.tok]
abbrev as20:List (AK UU):=[.str]
abbrev rs20:List (AK UU):=[.st TI.tok,.bool]
abbrev as39:List (AK UU):=[.int .i64,.str]
abbrev rs39:List (AK UU):=[.dl TI.tok]
abbrev as62:List (AK UU):=[.str]
abbrev rs62:List (AK UU):=[.dl TI.char]
abbrev as63:List (AK UU):=[.dl TI.char]
abbrev rs63:List (AK UU):=[.str]
def kf18:Nat->List Nat
 | 0=>[0]
 | 1=>[3]
 | 2=>[3,4]
 | 3=>[3,4,5]
 | 4=>[3,4,5,11]
 | 5=>[3,4,5]
 | 6=>[3,4,5,19]
 | 7=>[3,4,5]
 | 8=>[2]
 | _=>[]
def hd18:List (Nat×Head UU):=[(4,⟨[3],[(4,.ow true TI.tok),(5,.int .i64)],[]⟩)]
def jn18:List (Nat×Head UU):=[]
noncomputable def fd18:FD UU:=⟨⟨fun d=>hasN [] d,fun d=>hasN [] d,kf18,zB hd18,zB jn18,ze []⟩,zU Tryz.f18,28,[.tmp 2]⟩
def kf20:Nat->List Nat
 | 0=>[0,2]
 | 1=>[0,2,4]
 | 2=>[2,4,24]
 | 3=>[2,3]
 | 4=>[2,3]
 | _=>[]
def hd20:List (Nat×Head UU):=[]
def jn20:List (Nat×Head UU):=[]
noncomputable def fd20:FD UU:=⟨⟨fun d=>hasN [] d,fun d=>hasN [] d,kf20,zB hd20,zB jn20,ze []⟩,zU Tryz.f20,29,[.cell 2 26,.tmp 3]⟩
def kf39:Nat->List Nat
 | 0=>[0,1]
 | 1=>[0,5]
 | 2=>[0,5,6]
 | 3=>[0,5,6,7]
 | 4=>[0,5,6,7,8]
 | 5=>[0,5,6,7,8,32]
 | 6=>[0,5,6,7,8]
 | 7=>[0,5,6,7,8,43]
 | 8=>[4]
 | 9=>[0,5,6,7,8,9,10]
 | 10=>[0,5,6,7,8,10]
 | 11=>[0,5,6,7,8,10]
 | 12=>[0,5,6,7,8]
 | 13=>[0,5,6,7]
 | _=>[]
def hd39:List (Nat×Head UU):=[(4,⟨[0,5,6],[(7,.ow true TI.tok)],[(6,rdK)]⟩),(5,⟨[0,5,6,8],[(7,.ow true TI.tok)],[(6,rdK),(8,.box [.int .i64,.str,.int .i64,.int .i64,.int .i64,.bool])]⟩)]
def jn39:List (Nat×Head UU):=[]
noncomputable def fd39:FD UU:=⟨⟨fun d=>hasN [] d,fun d=>hasN [] d,kf39,zB hd39,zB jn39,ze [(10,[(1000066,53,6),(1000067,53,6),(1000066,57,6),(1000067,57,6),(1000066,61,6),(1000067,61,6)]),(11,[(1000088,71,6),(1000089,71,6),(1000088,74,6),(1000089,74,6),(1000088,79,6),(1000089,79,6),(1000088,85,6),(1000089,85,6)])]⟩,zU Tryz.f39,102,[.tmp 4]⟩
noncomputable def run39 (fu:Nat) (c62:List UInt8×Unit->Option (List CharT×Unit)) (c63:List CharT×Unit->Option (List UInt8×Unit)) (c64:zA ([]:LK)->DD (zA ([.bool]:LK))) (c65:zA ([]:LK)->DD (zA ([.int .i64,.int .i64]:LK))) (nf:Nat->Bool) (x0:Int) (x1:List UInt8):Option (zQ rs39):=
 qw CC Tb fu 2 (zB []) (zB [(62,(⟨as62,rs62,c62⟩:Con UU)),(63,(⟨as63,rs63,c63⟩:Con UU))]) (zB []) (zB [(64,cD ([]:LK) ([.bool]:LK) c64),(65,cD ([]:LK) ([.int .i64,.int .i64]:LK) c65)]) fd39 as39 rs39 nf (x0,x1,())
theorem fdok39:FDOk Tryz.prog (hasN [62,63]) (hasN []) 39 fd39:=⟨⟨Tryz.f39,Tryz.func39,by kernel_rfl,Tryz.ntmps39,Tryz.results39⟩,by kernel_rfl,by kernel_rfl,by kernel_rfl⟩
noncomputable def run18 (fu:Nat) (c39:Int×List UInt8×Unit->Option (List TokT×Unit)) (nf:Nat->Bool) (x0:List UInt8):Option (zQ rs18):=
 qw CC Tb fu 2 (zB []) (zB [(39,(⟨as39,rs39,c39⟩:Con UU))]) (zB []) (zB []) fd18 as18 rs18 nf (x0,())
theorem fdok18:FDOk Tryz.prog (hasN [39]) (hasN []) 18 fd18:=⟨⟨Tryz.f18,Tryz.func18,by kernel_rfl,Tryz.ntmps18,Tryz.results18⟩,by kernel_rfl,by kernel_rfl,by kernel_rfl⟩
noncomputable def run20 (fu:Nat) (c39:Int×List UInt8×Unit->Option (List TokT×Unit)) (nf:Nat->Bool) (x0:List UInt8):Option (zQ rs20):=
 qw CC Tb fu 2 (zB []) (zB [(39,(⟨as39,rs39,c39⟩:Con UU))]) (zB []) (zB []) fd20 as20 rs20 nf (x0,())
theorem fdok20:FDOk Tryz.prog (hasN [39]) (hasN []) 20 fd20:=⟨⟨Tryz.f20,Tryz.func20,by kernel_rfl,Tryz.ntmps20,Tryz.results20⟩,by kernel_rfl,by kernel_rfl,by kernel_rfl⟩
end
section
open Go.Al Go.Den
abbrev as5:List (AK UU):=[.str,.str,.str]
abbrev rs5:List (AK UU):=[.bool]
abbrev as14:List (AK UU):=[]
abbrev rs14:List (AK UU):=[.bool]
abbrev as16:List (AK UU):=[.str]
abbrev rs16:List (AK UU):=[.bool]
abbrev as17:List (AK UU):=[.dl TI.tok]
abbrev rs17:List (AK UU):=[.st TI.node,.int .i64]
abbrev as19:List (AK UU):=[.st TI.node,.st TI.node]
abbrev rs19:List (AK UU):=[.bool]
abbrev as31:List (AK UU):=[.str]
abbrev rs31:List (AK UU):=[.str]
abbrev as32:List (AK UU):=[.st TI.node,.int .i64]
abbrev rs32:List (AK UU):=[.dl TI.node]
abbrev as34:List (AK UU):=[.str,.ls TI.str]
abbrev rs34:List (AK UU):=[.bool]
abbrev as50:List (AK UU):=[.st TI.node]
abbrev rs50:List (AK UU):=[.str]
abbrev as69:List (AK UU):=[.int .i64]
abbrev rs69:List (AK UU):=[.str]
def hd3:List (Nat×Head UU):=[(9,⟨[1,5],[(7,.ow true TI.tok),(8,.int .i64)],[]⟩)]
def hd4:List (Nat×Head UU):=[(7,⟨[3,4],[(5,.ow true TI.tok),(6,.int .i64)],[]⟩)]
def kf5:Nat->List Nat
 | 0=>[0,1,2]
 | 1=>[0,1,2,7]
 | 2=>[0,1,2,7,8,9]
 | 3=>[0,1,2,7,8,9,10]
 | 4=>[0,1,2,7,45]
 | 5=>[6]
 | 6=>[1,2,7,11]
 | 7=>[1,2,7,11,12]
 | 8=>[1,2,7,11,12,13]
 | 9=>[1,2,7,11,12,13,52]
 | 10=>[1,2,7,11,12,13]
 | 11=>[1,2,7,11,12,13,14]
 | 12=>[1,2,7,11,12,13,14,67]
 | 13=>[6]
 | 14=>[1,2,7,11,12,13,14,77]
 | 15=>[1,2,7,11,12,13,14]
 | 16=>[1,2,7,11,12,13]
 | 17=>[7,12,15,16]
 | 18=>[7,15,16,17,18]
 | 19=>[6]
 | _=>[]
def hd5:List (Nat×Head UU):=[(9,⟨[1,2,7,11],[(12,.ow true TI.tok),(13,.int .i64)],[]⟩)]
def jn5:List (Nat×Head UU):=[]
noncomputable def fd5:FD UU:=⟨⟨fun d=>hasN [] d,fun d=>hasN [] d,kf5,zB hd5,zB jn5,ze []⟩,zU Tryz.f5,105,[.tmp 6]⟩
def hd6:List (Nat×Head UU):=[(7,⟨[5,6,7],[(8,.int .i64)],[]⟩),(19,⟨[5,6,9,11,13],[(15,.int .i64)],[(9,.box [.int .i64,.int .i64,.dl TI.node]),(11,.box [.int .i64,.int .i64,.dl TI.node]),(13,.box [.int .i64,.int .i64,.dl TI.node])]⟩)]
def kf14:Nat->List Nat
 | 0=>[]
 | 1=>[1]
 | 2=>[1,2]
 | 3=>[1,2,3,4]
 | 4=>[1,2,3,4,5,6]
 | 5=>[1,2,3,4,5,6,7]
 | 6=>[1,2,3,4,5,6,7,8]
 | 7=>[1,2,3,4,5,6,7,8,9]
 | 8=>[1,2,3,4,5,6,7,8,9,10]
 | 9=>[1,2,4,5,6,7,8,9,10,11]
 | 10=>[1,2,4,6,7,8,9,10,11,12]
 | 11=>[1,2,4,6,7,8,9,10,11,12,13]
 | 12=>[1,2,4,6,7,8,9,10,11,12,13,14]
 | 13=>[0]
 | _=>[]
def hd14:List (Nat×Head UU):=[]
def jn14:List (Nat×Head UU):=[]
noncomputable def fd14:FD UU:=⟨⟨fun d=>hasN [] d,fun d=>hasN [] d,kf14,zB hd14,zB jn14,ze []⟩,zU Tryz.f14,86,[.tmp 0]⟩
def kf16:Nat->List Nat
 | 0=>[0]
 | 1=>[2]
 | _=>[]
def hd16:List (Nat×Head UU):=[]
def jn16:List (Nat×Head UU):=[]
noncomputable def fd16:FD UU:=⟨⟨fun d=>hasN [] d,fun d=>hasN [] d,kf16,zB hd16,zB jn16,ze []⟩,zU Tryz.f16,6,[.tmp 2]⟩
def kf19:Nat->List Nat
 | 0=>[2,3]
 | 1=>[2,3,27]
 | 2=>[4]
 | 3=>[2,3,5]
 | 4=>[2,3,5,32]
 | 5=>[2,3,5]
 | 6=>[2,3,5,6]
 | 7=>[2,3,5,47]
 | 8=>[4]
 | 9=>[4]
 | _=>[]
def hd19:List (Nat×Head UU):=[(4,⟨[2,3],[(5,.int .i64)],[(2,.box [.int .i64,.int .i64,.dl TI.node]),(3,.box [.int .i64,.int .i64,.dl TI.node])]⟩)]
def jn19:List (Nat×Head UU):=[]
noncomputable def fd19:FD UU:=⟨⟨fun d=>hasN [] d,fun d=>hasN [] d,kf19,zB hd19,zB jn19,ze []⟩,zU Tryz.f19,48,[.tmp 4]⟩
def kf31:Nat->List Nat
 | 0=>[0]
 | 1=>[3,4]
 | 2=>[3,12]
 | 3=>[2]
 | 4=>[2]
 | _=>[]
def hd31:List (Nat×Head UU):=[]
def jn31:List (Nat×Head UU):=[]
noncomputable def fd31:FD UU:=⟨⟨fun d=>hasN [] d,fun d=>hasN [] d,kf31,zB hd31,zB jn31,ze []⟩,zU Tryz.f31,15,[.tmp 2]⟩
def kf34:Nat->List Nat
 | 0=>[0,1]
 | 1=>[0,1,5]
 | 2=>[0,1,5,9]
 | 3=>[0,1,5]
 | 4=>[0,1,5,17]
 | 5=>[4]
 | 6=>[4]
 | _=>[]
def hd34:List (Nat×Head UU):=[(2,⟨[0,1],[(5,.int .i64)],[]⟩)]
def jn34:List (Nat×Head UU):=[]
noncomputable def fd34:FD UU:=⟨⟨fun d=>hasN [] d,fun d=>hasN [] d,kf34,zB hd34,zB jn34,ze []⟩,zU Tryz.f34,18,[.tmp 4]⟩
def kf50:Nat->List Nat
 | 0=>[1]
 | 1=>[1,8]
 | 2=>[2]
 | 3=>[1,3]
 | 4=>[3,17,18,19]
 | 5=>[3,17,18,19,20]
 | 6=>[3,5,17,18,19]
 | 7=>[3,17,18,19]
 | 8=>[3,17,18,19]
 | 9=>[2]
 | _=>[]
def hd50:List (Nat×Head UU):=[(5,⟨[17,18],[(3,.str),(19,.int .i64)],[]⟩)]
def jn50:List (Nat×Head UU):=[]
noncomputable def fd50:FD UU:=⟨⟨fun d=>hasN [] d,fun d=>hasN [] d,kf50,zB hd50,zB jn50,ze []⟩,zU Tryz.f50,31,[.tmp 2]⟩
noncomputable def run34 (fu:Nat) (nf:Nat->Bool) (x0:List UInt8) (x1:List (List UInt8)):Option (zQ rs34):=
 qw CC Tb fu 2 (zB []) (zB []) (zB []) (zB []) fd34 as34 rs34 nf (x0,x1,())
theorem fdok34:FDOk Tryz.prog (hasN []) (hasN []) 34 fd34:=⟨⟨Tryz.f34,Tryz.func34,by kernel_rfl,Tryz.ntmps34,Tryz.results34⟩,by kernel_rfl,by kernel_rfl,by kernel_rfl⟩
noncomputable def run16 (fu:Nat) (c34:List UInt8×List (List UInt8)×Unit->Option (Bool×Unit)) (nf:Nat->Bool) (x0:List UInt8):Option (zQ rs16):=
 qw CC Tb fu 2 (zB []) (zB [(34,(⟨as34,rs34,c34⟩:Con UU))]) (zB []) (zB []) fd16 as16 rs16 nf (x0,())
theorem fdok16:FDOk Tryz.prog (hasN [34]) (hasN []) 16 fd16:=⟨⟨Tryz.f16,Tryz.func16,by kernel_rfl,Tryz.ntmps16,Tryz.results16⟩,by kernel_rfl,by kernel_rfl,by kernel_rfl⟩
noncomputable def run19 (fu:Nat) (c19:Nd×Nd×Unit->Option (Bool×Unit)) (nf:Nat->Bool) (x0:Nd) (x1:Nd):Option (zQ rs19):=
 qw CC Tb fu 2 (zB []) (zB [(19,(⟨as19,rs19,c19⟩:Con UU))]) (zB []) (zB []) fd19 as19 rs19 nf (x0,x1,())
theorem fdok19:FDOk Tryz.prog (hasN [19]) (hasN []) 19 fd19:=⟨⟨Tryz.f19,Tryz.func19,by kernel_rfl,Tryz.ntmps19,Tryz.results19⟩,by kernel_rfl,by kernel_rfl,by kernel_rfl⟩
noncomputable def run50 (fu:Nat) (c50:Nd×Unit->Option (List UInt8×Unit)) (c69:Int×Unit->Option (List UInt8×Unit)) (nf:Nat->Bool) (x0:Nd):Option (zQ rs50):=
 qw CC Tb fu 2 (zB []) (zB [(50,(⟨as50,rs50,c50⟩:Con UU)),(69,(⟨as69,rs69,c69⟩:Con UU))]) (zB []) (zB []) fd50 as50 rs50 nf (x0,())
theorem fdok50:FDOk Tryz.prog (hasN [50,69]) (hasN []) 50 fd50:=⟨⟨Tryz.f50,Tryz.func50,by kernel_rfl,Tryz.ntmps50,Tryz.results50⟩,by kernel_rfl,by kernel_rfl,by kernel_rfl⟩
noncomputable def run31 (fu:Nat) (c17:List TokT×Unit->Option (Nd×Int×Unit)) (c18:List UInt8×Unit->Option (List TokT×Unit)) (c50:Nd×Unit->Option (List UInt8×Unit)) (nf:Nat->Bool) (x0:List UInt8):Option (zQ rs31):=
 qw CC Tb fu 2 (zB []) (zB [(17,(⟨as17,rs17,c17⟩:Con UU)),(18,(⟨as18,rs18,c18⟩:Con UU)),(50,(⟨as50,rs50,c50⟩:Con UU))]) (zB []) (zB []) fd31 as31 rs31 nf (x0,())
theorem fdok31:FDOk Tryz.prog (hasN [17,18,50]) (hasN []) 31 fd31:=⟨⟨Tryz.f31,Tryz.func31,by kernel_rfl,Tryz.ntmps31,Tryz.results31⟩,by kernel_rfl,by kernel_rfl,by kernel_rfl⟩
noncomputable def run14 (fu:Nat) (c15:List UInt8×Unit->Option (Bool×Unit)) (c17:List TokT×Unit->Option (Nd×Int×Unit)) (c18:List UInt8×Unit->Option (List TokT×Unit)) (c31:List UInt8×Unit->Option (List UInt8×Unit)) (c32:Nd×Int×Unit->Option (List Nd×Unit)) (nf:Nat->Bool) :Option (zQ rs14):=
 qw CC Tb fu 2 (zB []) (zB [(15,(⟨as15,rs15,c15⟩:Con UU)),(17,(⟨as17,rs17,c17⟩:Con UU)),(18,(⟨as18,rs18,c18⟩:Con UU)),(31,(⟨as31,rs31,c31⟩:Con UU)),(32,(⟨as32,rs32,c32⟩:Con UU))]) (zB []) (zB []) fd14 as14 rs14 nf ()
theorem fdok14:FDOk Tryz.prog (hasN [15,17,18,31,32]) (hasN []) 14 fd14:=⟨⟨Tryz.f14,Tryz.func14,by kernel_rfl,Tryz.ntmps14,Tryz.results14⟩,by kernel_rfl,by kernel_rfl,by kernel_rfl⟩
noncomputable def run5 (fu:Nat) (c14:Unit->Option (Bool×Unit)) (c16:List UInt8×Unit->Option (Bool×Unit)) (c17:List TokT×Unit->Option (Nd×Int×Unit)) (c18:List UInt8×Unit->Option (List TokT×Unit)) (c19:Nd×Nd×Unit->Option (Bool×Unit)) (c20:List UInt8×Unit->Option (TokT×Bool×Unit)) (nf:Nat->Bool) (x0:List UInt8) (x1:List UInt8) (x2:List UInt8):Option (zQ rs5):=
 qw CC Tb fu 2 (zB []) (zB [(14,(⟨as14,rs14,c14⟩:Con UU)),(16,(⟨as16,rs16,c16⟩:Con UU)),(17,(⟨as17,rs17,c17⟩:Con UU)),(18,(⟨as18,rs18,c18⟩:Con UU)),(19,(⟨as19,rs19,c19⟩:Con UU)),(20,(⟨as20,rs20,c20⟩:Con UU))]) (zB []) (zB []) fd5 as5 rs5 nf (x0,x1,x2,())
theorem fdok5:FDOk Tryz.prog (hasN [14,16,17,18,19,20]) (hasN []) 5 fd5:=⟨⟨Tryz.f5,Tryz.func5,by kernel_rfl,Tryz.ntmps5,Tryz.results5⟩,by kernel_rfl,by kernel_rfl,by kernel_rfl⟩
end
section
open Go.Al
theorem code69:zP Tryz.prog 69=true:=by kernel_rfl
theorem code91:zP Tryz.prog 91=true:=by kernel_rfl
end
end Go.Proofs.YtnamdpbcpnnhaaaGreatDoor
