/-
  Part 5 of what the last text needs: library, runs, contracts, plain laws. No condition of its own.
-/
import Derived.Test.YtfjiiknfopmcjaaGreatDoorZB4
import Derived.Test.YtfjiiknfopmcjaaGreatDoorTie
import Derived.LaidLaws
import Derived.LaidMore
import Derived.LaidHandle
import Derived.MakeChecks
import Derived.Shelf.Vars
import Derived.Handed
import Derived.Lay
import Derived.SevenTiedAt
import Derived.Deep.DeepHandedRow
import Derived.Deep.Strs
import Derived.Test.YtfjiiknfopmcjaaGreatDoorRows
import Derived.Shelf.Small.Strs
import Derived.Shelf.Strings.Search1
import Derived.Shelf.Strings.Search2
import Derived.Shelf.Strings.Search3
import Derived.Shelf.Strings.Prefix
import Derived.Lib.QuietBelow
import GoSem.Claims
import Derived.RangeFuncNested
import Derived.RangeFuncBound
import Derived.RangeFuncLeaves
import Derived.RangeFuncWrites
import Derived.Shelf.Abstract
import Derived.OwnWalkIn
import Derived.TacticsInMore
import Derived.LoopIn
import Derived.LoopNIn
import Derived.Maps.AppendAt
import Derived.Shelf.Spec.SlicesGrow
set_option linter.unusedVariables false
set_option linter.unusedSimpArgs false
set_option linter.unusedSectionVars false
namespace Go.Proofs.YtfjiiknfopmcjaaGreatDoor
section
open Go.Al Go.Den Go.ChangeShapes Go.WideShapes Go.ChangeAt Go.RowKit
def zIg:List (String×DataW Unit):=[("unicode/utf8.acceptRanges",Rows.laid_unicode_utf8_acceptRanges),("emend/pptok.signs",Rows.laid_emend_pptok_signs),("unicode/utf8.first",Rows.laid_unicode_utf8_first)]
theorem zR4 {P:Program} {W:World} {n:String} {g:Nat} {cs:Array Value} (hg:P.globalNamed n=some g) (h:W.var? P n=some cs):∃ el m,W.heap[g]? = some (.cells cs el m):=by
 unfold World.var? at h;rw [hg] at h;simp only [Option.bind_some] at h;split at h
 . rename_i c el m hc;injection h with h
   subst h;exact ⟨el,m,hc⟩
 . cases h
theorem zMk {H:Type} {enc:TypeId×Value->H} {P:Program} {w:World} {base:Nat} {sp:Nat->Bool} {held:Bool} {fuel n:Nat} {t e:TypeId} {cs:List Value} {l:List (List UInt8)} {p:List MemPlace}
 (ht:P.underlying t=some (.array n e)) (he:P.underlying e=some .string) (hc:P.cellsOf e=1) (hct:P.cellsOf t=n) (h:DataW.trod enc P w base sp held fuel t cs=some (.agg (l.map fun z=>.lit (.string z)),p)):cs=l.map fun z=>strV z:=by
 obtain ⟨xs,m,rfl,hx,hlen,hn,hel⟩:=DataW.trod_array ht h;injection hx with hx _
 injection hx with hx
 have hll:l.length=n:=by
  have:=congrArg List.length hx;simp only [List.length_map] at this;omega
 refine List.ext_getElem (by rw [hlen,hct,List.length_map,hll]) fun i h1 h2=>?_;rw [List.getElem_map];have hi:i < n:=by rw [hlen,hct] at h1; exact h1
 have h3:=hel i hi;rw [hc,Nat.mul_one,List.drop_eq_getElem_cons h1,List.take_succ_cons,List.take_zero,List.getElem?_eq_getElem (by omega)] at h3;obtain ⟨z,e1,e2,_⟩:=DataW.trod_string he h3;injection e1 with e1 _
 have h4:(xs.map (·.1))[i]'(by rw [List.length_map]; omega)=(l.map fun z=>DataW.lit (.string z))[i]'(by rw [List.length_map]; omega):=by
  simp only [hx]
 rw [List.getElem_map,List.getElem_map] at h4;rw [e2] at h4;injection h4 with h4
 injection h4 with h4
 rw [e1,<- h4];unfold strV;cases z; simp
theorem zS4 {W:World} {g:Nat} {cs:Array Value} {el:TypeId} {m:Nat×Nat} (h:W.heap[g]? = some (.cells cs el m)):cs.toList.length<=wmOf W g:=by
 unfold wmOf;rw [h];simp
theorem zJT {W:World} (hsh:W.ShapedOpen Tryz.prog) (h:laidMetH Tryz.prog zIg W):GlobOk W.heap.size (wmOf W) W:=by
 rw [MakeChecks.laidMetH_plain _ _ _ (by kernel_rfl)] at h;obtain ⟨ps,hv,_⟩:=h;obtain ⟨g0,t0,cs0,f0,p0,q0,hg0,ht0,hv0,hd0,hv,_⟩:=hv;obtain ⟨g1,t1,cs1,f1,p1,q1,hg1,ht1,hv1,hd1,hv,_⟩:=hv;obtain rfl:=Option.some.inj ((show Tryz.prog.globalNamed "emend/pptok.signs" = some 0 by kernel_rfl).symm.trans hg1);obtain rfl:=Option.some.inj ((show (Tryz.prog.globals[0]?).map (·.type)=some 104 by kernel_rfl).symm.trans ht1);obtain ⟨el1,m1,k1⟩:=zR4 hg1 hv1;have e1:cs1.toList=signsL.map strV:=zMk (l:=signsL) Tryz.underlying104 Tryz.underlying9 (by kernel_rfl) (by kernel_rfl) hd1;have lt:∀ {b:Nat} {o:Obj},W.heap[b]? = some o->b < W.heap.size:=fun h=>(Array.getElem?_eq_some_iff.1 h).1;have hml:∃ arr el m,W.heap[1]? = some (.cells arr el m)/\∃ z,arr.toList=[Value.int .i64 z]:=by
  obtain ⟨cs,hh,hs,hr⟩:=hsh.1 1 #[.int .i64 0] 3 (of_decide_eq_true (by kernel_rfl)) (by kernel_rfl);refine ⟨cs,_,_,hh,?_⟩;obtain ⟨z,hz⟩:=cell_of_shapedOpen_int (P:=Tryz.prog) (w:=W) (g:=1) (t:=3) (zero:=#[.int .i64 0]) (k:=.i64) hsh (of_decide_eq_true (by kernel_rfl)) (by kernel_rfl) rfl (by kernel_rfl) (by kernel_rfl) Tryz.underlying3;refine ⟨z,?_⟩;unfold World.cell? at hz;simp only [hh] at hz;have h1:cs.size=1:=hs;obtain ⟨l⟩:=cs
  match l,h1 with
  | [v],_=>
   simp at hz;rw [hz]
 refine ⟨fun p hp=>?_,fun p hp=>?_⟩
 . simp only [zO3,List.mem_cons,List.not_mem_nil,or_false] at hp;obtain rfl:=hp;obtain ⟨arr,el,m,h1,h2⟩:=hml;exact ⟨lt h1,arr,el,m,h1,h2⟩
 . simp only [globA,List.mem_cons,List.not_mem_nil,or_false] at hp;obtain rfl:=hp;exact ⟨lt k1,⟨cs1,el1,m1,k1,e1⟩,by rw [<- e1]; exact zS4 k1⟩
theorem zUw {g:Gh} {w:World} (s:ByteArray):RV1 g w (.at (.string ⟨s.data.toList.toArray⟩)) (.string s):=by
 have e:(⟨s.data.toList.toArray⟩:ByteArray)=s:=by cases s; simp
 rw [e];exact ⟨[.string s],by simp [RC,one],rfl⟩
theorem zTV (os:Os) (args:Array Value):laidMetH Tryz.prog zIg ((World.laidAll Tryz.prog os zIg).forCall (fun _ _=>0) ⟨#[],args,[]⟩).memory:=by
 rw [MakeChecks.laidMetH_plain _ _ _ (by kernel_rfl)];exact laidMet_laidAll _ (by kernel_rfl) (by kernel_rfl)
end
section
open Go.Al Go.Den Go.ChangeShapes Go.WideShapes Go.ChangeAt Go.RowKit
theorem zIu {H:Type} {enc:TypeId×Value->H} {C:Checked} {os:Os} {f:FuncId} {fn:Func} {s:OpenSpec} {conds:List PathCond} {apart:Bool} {laid:List (String×DataW Unit)} (modest:Bool) (w0:World) (args:Array Value) (hos:w0.os=os)
 (hsh:(w0.forCall (fun _ _=>0) ⟨#[],args,[]⟩).Shaped C.prog)
 (hok:Input.okWideB C.prog (w0.forCall (fun _ _=>0) ⟨#[],args,[]⟩) f ⟨#[],args,[]⟩=true)
 (hrow:s.preRow enc C.prog fn conds apart laid (w0.forCall (fun _ _=>0) ⟨#[],args,[]⟩).memory args) :
 ∃ (w:World) (tape:Tape) (i:Input),w.os=os/\(w.forCall tape i).Shaped C.prog/\i.vars=[]/\Input.okWide C.prog (w.forCall tape i) .any w.heap.size f i /\
  s.preRow enc C.prog fn conds apart laid (w.forCall tape i).memory i.args/\({ modest:=modest }:Assume).holds C.prog (lone (Frame.enter C.prog f i.args .normal) [] (w.forCall tape i)):=
 ⟨w0,fun _ _=>0,⟨#[],args,[]⟩,hos,hsh,(Input.okWide_of_okWideB (base:=0) hok).1,(Input.okWide_of_okWideB hok).2,hrow,by
  simp only [Assume.holds];exact ⟨by simp,by simp,fun _=>Modest.zero,by simp,by simp⟩⟩
end
end Go.Proofs.YtfjiiknfopmcjaaGreatDoor
namespace Go.Den
section
open Go.Al Go.ChangeShapes Go.WideShapes Go.ChangeAt Go.RowKit
theorem zLg {g:Gh} {w:World}:∀ zs:List (List UInt8),RCs g w (zs.map fun z=>V.at (.string ⟨z.toArray⟩)) (zs.map fun z=>.string ⟨z.toArray⟩)
 | []=>by simp [RCs]
 | z::r=>by
  simp only [List.map_cons,RCs];exact ⟨[.string ⟨z.toArray⟩],_,rfl,by simp [RC,one],zLg r⟩
theorem zPA (s:ByteArray):(⟨s.data.toList.toArray⟩:ByteArray)=s:=by
 obtain ⟨d⟩:=s;show (⟨d.toList.toArray⟩:ByteArray)=⟨d⟩;rw [Array.toArray_toList]
end
end Go.Den
namespace Go.Proofs.YtfjiiknfopmcjaaGreatDoor
section
open Go.Al Go.Den Go.ChangeShapes Go.WideShapes Go.ChangeAt Go.RowKit
theorem zLW {H:Type}:∀ (zs:List (List UInt8)) {z:List UInt8},z ∈ zs->z.length<=Rows.uptoBulkAll (zs.map fun z=>(DataW.lit (.string z):DataW H))
 | y::r,z,h=>by
  simp only [List.map_cons,Rows.uptoBulkAll,Rows.uptoBulk];rcases List.mem_cons.1 h with rfl | h
  . omega
  . have:=zLW (H:=H) r h;omega
theorem zQ2 {P:Program} {W:World} {base:Nat} {H:Type} {enc:TypeId×Value->H} {t e:TypeId} {v:Value} {d:DataW H} {ps:List MemPlace} (ht:P.underlying t=some (.slice e)) (he:P.underlying e=some .string) (hc:P.cellsOf e=1)
 (hv:Value.okWide P W .any base t v) (hd:DataW.Trod enc P W 0 (fun _=>true) true t v d ps) :
 ∃ (n:Bool) (zs:List (List UInt8)),RV1 ⟨wmOf W,fun _=>none,Fr.no⟩ W (.lst (if n then .nil else .no) (zs.map fun z=>V.at (.string ⟨z.toArray⟩))) v/\∀ z ∈ zs,z.length<=Rows.uptoBulk d:=by
 obtain ⟨a0,len0,cap0,rfl⟩:=okWide_slice ht hv;obtain ⟨fuel,hf⟩:=hd;rcases Go.Deep.open_strs ht he hc hf with ⟨hcs,_⟩ | ⟨x,l,c,m,Sx,hcs,_,hl,hm,hmm,hx,hcell⟩
 . simp [Value.cells] at hcs;obtain ⟨rfl,rfl,rfl⟩:=hcs;exact ⟨true,[],⟨[.slice none 0 0],by simp [RC,zEn],rfl⟩,fun z hz=>by cases hz⟩
 . simp [Value.cells] at hcs;obtain ⟨rfl,rfl,rfl⟩:=hcs;have hspot:x.spot=none:=by
    simp only [Value.okWide,ht,Cell.okWide,Cell.ok] at hv;exact hv.2.2.2.1
   obtain ⟨b,o,sp⟩:=x;simp only at hspot;subst hspot;have hmc:m=cap0:=by rw [hmm]; rfl
   subst hmc;refine ⟨false,(List.range len0).map fun i=>(Sx i).data.toList,⟨[.slice (some ⟨b,o,none⟩) len0 m],?_,rfl⟩,?_⟩
   . simp only [RC,Bool.false_eq_true,if_false];refine .inr ⟨b,o,m,((List.range len0).map fun i=>(Sx i).data.toList).map fun z=>.string ⟨z.toArray⟩,?_,?_,trivial,zLg _,⟨1,?_,fun _ _ _ h=>by cases h⟩,?_⟩
     . simp
     . simp; omega
     . intro y hy;obtain ⟨z,_,rfl⟩:=List.mem_map.1 hy;rfl
     . intro k u hk;rw [List.map_map,List.getElem?_map] at hk;cases hq:(List.range len0)[k]? with
       | none=>rw [hq] at hk; cases hk
       | some i=>
        rw [hq] at hk;injection hk with hk
        subst hk;obtain ⟨hlt,rfl⟩:=List.getElem?_eq_some_iff.1 hq;rw [List.length_range] at hlt;rw [List.getElem_range];have h1:=(hcell k (by omega)).1;have h3:(⟨b,o,none⟩:Addr).add k=⟨b,o+k,none⟩:=by
         unfold Addr.add;split
         . rename_i h0; subst h0; rfl
         . rfl
        rw [h3] at h1;show W.cell? ⟨b,o+k,none⟩=some (.string ⟨(Sx k).data.toList.toArray⟩)/\_;rw [zPA];exact ⟨h1,zPg h1⟩
   . intro z hz;injection hx with hx _
     rw [hx];have:=zLW (H:=H) ((List.range len0).map fun i=>(Sx i).data.toList) hz;rw [List.map_map] at this;simp only [Rows.uptoBulk];exact Nat.le_trans (Nat.le_trans this (Nat.le_add_right _ _)) (Nat.le_add_right _ _)
end
end Go.Proofs.YtfjiiknfopmcjaaGreatDoor
namespace Go.Den
section
open Go.Al
theorem zSh {P:Program} {X:Cx} {Q Q':Exit->Env->S->Prop} {c:Code} {E:Env} {s:S} (h:awp P X c Q E s) (hq:∀ ex E' s',Q ex E' s'->∃ E2 s2,Gst X E' s' E2 s2/\Q' ex E2 s2):awp P X c Q' E s:=by
 intro g a w hr;refine wpIn_mono (h g a w hr) ?_;rintro ex a' w' ⟨g',e',st',k1,k2,k3⟩;obtain ⟨E2,s2,hg,hq2⟩:=hq ex e' st' k3;obtain ⟨g2,r1,r2⟩:=hg g' a' w' k2;exact ⟨g2,E2,s2,k1.trans r1,r2,hq2⟩
section
variable {U:TyU} (C:Cod U) (Tb:TypeId->TD U) {R:Type}
def frzR {R:Type}:List ResultVar->En U->St U->(En U->St U->Option R)->Option R
 | [],e,st,K=>K e st
 | v::r,e,st,K=>match v with
  | .tmp t=>(match eget e t with
   | .sl l n=>(match lk st.bx l with
    | some (.ar i xs)=>bif Nat.ble n xs.length then frzR r ((t,.lst (.b false) i (yY n xs))::e) ⟨(l,none)::st.bx,st.tg,st.nl,st.nx,st.ob⟩ K else none
    | _=>none)
   | _=>frzR r e st K)
  | .cell _ _=>frzR r e st K
variable {C Tb} {P:Program} {r:R}
theorem zIo (hC:CodOk C) {X:Cx} {N:NM}:∀ (rs:List ResultVar) {e:En U} {E:Env} {st:St U} {s:S} {K:En U->St U->Option R},SSim C N st s->ESim C N st e E->frzR rs e st K=some r ->
 ∃ e' E' st' s',K e' st' = some r/\Gst X E s E' s'/\SSim C N st' s'/\ESim C N st' e' E'
 | [],e,E,st,s,K,hs,he,h=>⟨e,E,st,s,h,.refl _ _ _,hs,he⟩
 | v::rs,e,E,st,s,K,hs,he,h=>by
  have go:frzR rs e st K=some r->∃ e' E' st' s',K e' st' = some r/\Gst X E s E' s'/\SSim C N st' s'/\ESim C N st' e' E':=fun hh=>zIo hC rs hs he hh;cases v with
  | cell p t=>simp only [frzR] at h; exact go h
  | tmp t=>
   simp only [frzR] at h;split at h
   . rename_i l n ht;split at h
     . rename_i i xs hl;obtain ⟨h1,h2⟩:=zJ h;have h1:n<=xs.length:=by simpa [Nat.ble_eq] using h1
       have hw:=hs.wf l _ hl;have hE:=((he t).1).get (by rw [ht]; simp);rw [ht] at hE;have hlen:=xM hC i xs;have htk:(yY n xs).length=n:=by unfold yY; rw [List.length_take]; omega
       have hg:Gst X E s (E.put t (.lst .no ((yY n xs).map (C.encV i)))) ⟨wipe s.box (N.bl l),s.tg,s.nx,s.ob⟩:=by
        refine zGo t (N.bl l) n (N.cp l) (C.cells i) _ hE (hs.box l _ hl) (by rw [List.length_map,htk]) (by have:=hw.2; omega) (jo hC i xs n) ?_ (kY hC i _) ?_ ?_
        . rw [hlen]; exact Nat.mul_le_mul_right _ h1
        . intro x hx;obtain ⟨y,_,rfl⟩:=List.mem_map.1 hx;exact hC.ones i y
        . rw [List.map_map];exact List.map_congr_left fun y _=>hC.untag i y
       have hs2:=hs.drop l hl;have hb:bdd st.nl st.nx (T.lst (.b false) i (yY n xs):T U)=true:=rfl;have he2:ESim C N ⟨(l,none)::st.bx,st.tg,st.nl,st.nx,st.ob⟩ ((t,.lst (.b false) i (yY n xs))::e) (E.put t (.lst .no ((yY n xs).map (C.encV i)))):=by
        have:=ESim.put (st:=⟨(l,none)::st.bx,st.tg,st.nl,st.nx,st.ob⟩) (e:=e) (E:=E) (v:=.lst (.b false) i (yY n xs)) (v':=.lst .no ((yY n xs).map (C.encV i))) he (.inr rfl) hb (some t);exact this
       obtain ⟨e',E',st',s',q1,q2,q3,q4⟩:=zIo hC rs hs2 he2 h2;exact ⟨e',E',st',s',q1,hg.trans q2,q3,q4⟩
     . cases h
   . exact go h
def zAU (C:Cod U) (Tb:TypeId->TD U) (fu d:Nat) (inl:Nat->Option (FD U)) (orc:Nat->Option (Con U)) (orr:Nat->Option (CR U)) (orp:Nat->Option (CP U)) (fd:FD U) (az rs:List (AK U)) (nf:Nat->Bool) (x:zf az):Option (zf rs):=
 drun C Tb fu (zCN C Tb fu inl orc orr orp none d) fd.fi fd.body (zC9 0 (xN C az nf 0 x)) ⟨[],[],0,0,[]⟩ fun ex e' st'=>match ex with
  | .normal=>frzR fd.rs e' st' fun e' st'=>dres C Tb e' st' fd.rs fun vs=>zDC C rs vs some
  | .ret=>frzR fd.rs e' st' fun e' st'=>dres C Tb e' st' fd.rs fun vs=>zDC C rs vs some
  | _=>none
theorem zSq (hT:TbOk C P Tb) (hC:CodOk C) (hm:P.follows .mixedOrders=true) {syn:List PanicEntry} {pf rf:FuncId->Bool} {fu d:Nat} {inl:Nat->Option (FD U)} {orc:Nat->Option (Con U)} {orr:Nat->Option (CR U)} {orp:Nat->Option (CP U)} (hpf:∀ f,pf f=(orc f).isSome) (hrf:∀ f,rf f=(orr f).isSome)
 (hin:∀ f fd,inl f=some fd->FDOk P pf rf f fd) (hor:∀ f c,orc f=some c->OrcOk C P f c)
 (hrr:∀ f c,orr f=some c->zZ P f=true/\CROk C P f c) (hpp:∀ f c,orp f=some c->zZ P f=true/\CPOk C P syn f c) {f:Nat} {fd:FD U} (hfd:FDOk P pf rf f fd) {c:Con U} (hlen:c.as.length<=fd.n)
 (hrs:∀ a ∈ c.rs,∀ i,a≠.ls i) (h:∀ nf x,zAU C Tb fu d inl orc orr orp fd c.as c.rs nf x=c.fn x):ConOk C P f c:=by
 intro x y hx vs hvs;obtain ⟨fn,q1,q2,q3,q4⟩:=hfd.fn;have hnf:∃ nf,vs=(xN C c.as nf 0 x).map (trT C ⟨id,id,id,id⟩):=by
  have key:∀ (az:List (AK U)) (x:zf az) (vs:List V) (j:Nat),zDK C az x vs->∃ nf:Nat->Bool,vs=(xN C az nf j x).map (trT C ⟨id,id,id,id⟩):=by
   intro az
   induction az with
   | nil=>intro x vs j h; exact ⟨fun _=>false,h⟩
   | cons a r ih=>
    intro x vs j h;obtain ⟨v,vs',rfl,h1,h2⟩:=h;obtain ⟨nf,h3⟩:=ih x.2 vs' (j+1) h2;have h4:∃ n,v=trT C ⟨id,id,id,id⟩ (argT C a n x.1):=by
     cases a with
     | ls i=>obtain ⟨n,hn⟩:=h1; exact ⟨n,by rw [hn]; cases n <;> rfl⟩
     | _=>exact ⟨false,h1⟩
    obtain ⟨n,h4⟩:=h4;have hcong:∀ (az:List (AK U)) (x:zf az) (nf nf':Nat->Bool) (j:Nat),(∀ m,j<=m->nf m=nf' m)->xN C az nf j x=xN C az nf' j x:=by
     intro az
     induction az with
     | nil=>intros; rfl
     | cons a r ih=>
      intro x nf nf' j hh;simp only [xN,hh j (Nat.le_refl _),ih x.2 nf nf' (j+1) fun m hm=>hh m (by omega)]
    refine ⟨fun m=>if m=j then n else nf m,?_⟩;simp only [xN,List.map_cons,if_true];rw [h3,h4,hcong r x.2 (fun m=>if m=j then n else nf m) nf (j+1) fun m hm=>if_neg (by omega)]
  exact key c.as x vs 0 hvs
 obtain ⟨nf,rfl⟩:=hnf;have hlenA:∀ (az:List (AK U)) (nf:Nat->Bool) (j:Nat) (x:zf az),(xN C az nf j x).length=az.length:=by
  intro az
  induction az with
  | nil=>intros; rfl
  | cons a r ih=>intro nf j x; simp [xN,ih]
 have hrun:=(h nf x).trans hx;unfold zAU at hrun;refine zM5 q1 q2 q3 q4 (by rw [List.length_map,hlenA]; exact hlen) fun B=>?_;have resV:∀ (rs:List (AK U)),(∀ a ∈ rs,∀ i,a≠.ls i)->∀ (y:zf rs) (us:List V) (j:Nat),zDK C rs y us->us=(xN C rs (fun _=>false) j y).map (trT C ⟨id,id,id,id⟩):=by
  intro rs
  induction rs with
  | nil=>intro _ y us j hu; exact hu
  | cons a r ih=>
   intro hr y us j hu;obtain ⟨v,vs',rfl,h1,h2⟩:=hu;simp only [xN,List.map_cons];rw [<- ih (fun a ha=>hr a (by simp [ha])) y.2 vs' (j+1) h2];congr 1;cases a with
   | ls i=>exact absurd rfl (hr (.ls i) (by simp) i)
   | _=>exact h1
 refine zSh (Q:=fun ex E' s'=>∃ E2 s2,Gst ⟨B,⟨fd.n,[]⟩,none,[]⟩ E' s' E2 s2/\retE P fd.rs (fun oc _=>oc = .ret (finV ((xN C c.rs (fun _=>false) 0 y).map (trT C ⟨id,id,id,id⟩)))) ex E2 s2) ?_ (fun _ _ _ hq=>hq);refine qm (X:=⟨B,⟨fd.n,[]⟩,none,[]⟩) (PP:=fun e=>e=syn/\(none:Option (zf c.rs))=some y) hT hC hm (zBK hT hC hm hpf hrf hin hor hrr hpp d fd.fi.wr fd.fi.own) fd.body (SSim.empty ⟨id,id,id,id⟩ 0 0 _) (zAm (st:=⟨[],[],0,0,[]⟩) _ 0 (zC8 hC c.as nf 0 x)) hrun hfd.ok hfd.hok (fun e s' hq=>by cases hq.2) ?_;intro ex N' e' st' E' s' p1 p2 p3 p4 _;have fin:(frzR fd.rs e' st' fun e' st'=>dres C Tb e' st' fd.rs fun vs=>zDC C c.rs vs some)=some y->∃ E2 s2,Gst ⟨B,⟨fd.n,[]⟩,none,[]⟩ E' s' E2 s2/\yb P fd.rs E2 s2 fun xs=>Outc.ret (finV xs) = .ret (finV ((xN C c.rs (fun _=>false) 0 y).map (trT C ⟨id,id,id,id⟩))):=fun hh=>by
  obtain ⟨e2,E2,st2,s2,u1,u2,u3,u4⟩:=zIo (X:=⟨B,⟨fd.n,[]⟩,none,[]⟩) hC fd.rs p3 p4 hh;refine ⟨E2,s2,u2,zDo hT hC u3 u4 fd.rs u1 fun vs hv=>?_⟩;obtain ⟨y',h1,h2⟩:=zEm hC c.rs hv;injection h1 with h1
  subst h1;rw [resV c.rs hrs y' _ 0 (h2 N')]
 cases ex <;> simp only at p1 <;> first | exact fin p1 | cases p1
def zA6 {R:Type}:(l:List (SK U))->List (T U)->St U->(zA l->St U->Option R)->Option R
 | [],vs,st,K=>(match vs with | []=>K () st | _::_=>none)
 | k::r,vs,st,K=>(match vs with
  | []=>none
  | v::vs=>match k with
   | .arr i=>getK C (.arr i) v st fun x st'=>feS st' fun st'=>zA6 r vs st' fun xs st''=>K (x,xs) st''
   | k=>getR C k v fun x=>zA6 r vs st fun xs st''=>K (x,xs) st'')
theorem zPd {i:U.I} {N:NM} {st:St U} {K:denK (.arr i:SK U)->St U->Option R} {v:T U} (h:getK C (.arr i) v st K=some r):(trT C N v).untag=trT C N v:=by
 simp only [getK] at h;split at h <;> first | rfl | cases h
theorem zFQ (hC:CodOk C):∀ (l:List (SK U)) {N:NM} {st:St U} {s:S} {vs:List (T U)} {K:zA l->St U->Option R},SSim C N st s->zA6 (C:=C) l vs st K=some r ->
 ∃ x st' rs,K x st' = some r/\SSim C N st' s/\VKs C s l x ((vs.map (trT C N)).map V.untag) rs/\rs.Nodup/\(∀ y ∈ rs,Has N st y/\¬ Has N st' y)/\(∀ y,Has N st' y->Has N st y)
 | [],N,st,s,vs,K,hs,h=>by
  simp only [zA6] at h;cases vs with
  | cons _ _=>cases h
  | nil=>exact ⟨_,st,[],h,hs,by simp only [VKs]; exact ⟨rfl,trivial⟩,List.nodup_nil,(by simp),fun y hy=>hy⟩
 | k::rest,N,st,s,vs,K,hs,h=>by
  cases vs with
  | nil=>cases h
  | cons v vs=>
   have key:(getR C k v fun x=>zA6 (C:=C) rest vs st fun xs st''=>K (x,xs) st'')=some r->∃ x st' rs,K x st' = some r/\SSim C N st' s/\VKs C s (k::rest) x (((v::vs).map (trT C N)).map V.untag) rs/\rs.Nodup/\(∀ y ∈ rs,Has N st y/\¬ Has N st' y)/\(∀ y,Has N st' y->Has N st y):=fun hh=>by
    obtain ⟨x,h1,h2⟩:=zNu hC k hh;obtain ⟨xs,st',rs,q1,q2,q3,q4,q5,q6⟩:=zFQ hC rest hs h1;refine ⟨(x,xs),st',rs,q1,q2,?_,q4,q5,q6⟩;simp only [VKs,List.map_cons];exact ⟨_,_,[],rs,rfl,rfl,h2 N s,q3⟩
   cases k with
   | arr i=>
    simp only [zA6,yy] at h;have hu:=zPd (N:=N) h;obtain ⟨x,st1,r1,q1,q2,q3,q4,q5,q6,q7,q8⟩:=zJF hC (.arr i) hs (.inr rfl:VR C N v (trT C N v)) h;obtain ⟨xs,st2,r2,p1,p2,p5,p6,p7,p8⟩:=zFQ hC rest q2 q1;refine ⟨(x,xs),st2,r1++r2,p1,p2,?_,?_,?_,fun y hy=>q8 y (p8 y hy)⟩
    . simp only [VKs,List.map_cons];exact ⟨_,_,r1,r2,rfl,rfl,by rw [hu]; exact q5,p5⟩
    . exact List.nodup_append.2 ⟨q6,p6,fun a ha b hb e1=>by subst e1; exact (q7 a ha).2 (p7 a hb).1⟩
    . intro y hy;rcases List.mem_append.1 hy with hy | hy
      . exact ⟨(q7 y hy).1,fun hh=>(q7 y hy).2 (p8 y hh)⟩
      . exact ⟨q8 y (p7 y hy).1,(p7 y hy).2⟩
   | _=>exact key h
def zOq (C:Cod U) (Tb:TypeId->TD U) (fu d:Nat) (inl:Nat->Option (FD U)) (orc:Nat->Option (Con U)) (orr:Nat->Option (CR U)) (orp:Nat->Option (CP U)) (fd:FD U) (io oo az rs:List (SK U)) (x:zA io) (a:zA az):Option (Option (zA oo×zA rs)):=
 kC C io x ⟨[],[],0,0,[]⟩ fun vs st=>feS st fun st=>kC C az a st fun ws st=>feS st fun st=>feA (vs++ws) fun ts=>
 drun C Tb fu (zCN C Tb fu inl orc orr orp (some none) d) fd.fi fd.body (zC9 0 ts) st fun ex e' st'=>match ex with
  | .normal=>dres C Tb e' st' fd.rs fun us=>zA6 (C:=C) rs us st' fun z st'=>feS st' fun st'=>xA C oo vs st' fun y _=>some (some (y,z))
  | .ret=>dres C Tb e' st' fd.rs fun us=>zA6 (C:=C) rs us st' fun z st'=>feS st' fun st'=>xA C oo vs st' fun y _=>some (some (y,z))
  | _=>none
theorem zRl (hT:TbOk C P Tb) (hC:CodOk C) (hm:P.follows .mixedOrders=true) {syn:List PanicEntry} {pf rf:FuncId->Bool} {fu d:Nat} {inl:Nat->Option (FD U)} {orc:Nat->Option (Con U)} {orr:Nat->Option (CR U)} {orp:Nat->Option (CP U)}
 (hpf:∀ f,pf f=(orc f).isSome) (hrf:∀ f,rf f=(orr f).isSome) (hin:∀ f fd,inl f=some fd->FDOk P pf rf f fd) (hor:∀ f c,orc f=some c->OrcOk C P f c)
 (hrr:∀ f c,orr f=some c->zZ P f=true/\CROk C P f c) (hpp:∀ f c,orp f=some c->zZ P f=true/\CPOk C P syn f c) {f:Nat} {fd:FD U} (hfd:FDOk P pf rf f fd) {io oo az rs:List (SK U)} (hlen:io.length+az.length<=fd.n)
 {fn:zA io->zA az->Option (Option (zA oo×zA rs))} (h:∀ x a,zOq C Tb fu d inl orc orr orp fd io oo az rs x a=fn x a):CPOk C P syn f ⟨io,oo,az,rs,fnP fn⟩:=by
 intro x a R pan K r hr;unfold fnP at hr;simp only at hr;cases hx:fn x a with
 | none=>rw [hx] at hr; cases hr
 | some oc=>
  rw [hx] at hr;simp only [Option.bind_some] at hr;refine ⟨oc,by cases oc <;> exact hr,fun s vx va r1 r2 hv1 hv2 hn=>?_⟩;obtain ⟨fn',q1,q2,q3,q4⟩:=hfd.fn;have hrun:=(h x a).trans hx;unfold zOq at hrun;have hv1':=xW io x hv1 ((zDF s (r1++r2)).mono fun y hy=>List.mem_append_left _ hy);have hv2':=xW az a hv2 ((zDF s (r1++r2)).mono fun y hy=>List.mem_append_right _ hy);generalize subS s (r1++r2)=s0 at hv1' hv2' ⊢;obtain ⟨hn1,hn2,hn3⟩:=List.nodup_append.1 hn;have hno:∀ y,¬ Has ⟨id,id,id,id⟩ (⟨[],[],0,0,[]⟩:St U) y:=fun y hy=>by
   cases y with
   | inl n=>obtain ⟨t,ht,_⟩:=hy; cases ht
   | inr b=>obtain ⟨l,b,hl,_⟩:=hy; simp [lk] at hl
   | ob b=>obtain ⟨l,b,hl,_⟩:=hy; simp [lko] at hl
  obtain ⟨N1,vs1,st1,k1,k2,k3,k4,k5,k6⟩:=jH hC io x (SSim.empty ⟨id,id,id,id⟩ 0 0 s0) hv1' hn1 (fun y hy hh=>hno y hh) hrun;rw [yy] at k1;obtain ⟨N2,vs2,st2,p1,p2,p3,p4,p5,p6⟩:=jH hC az a k3 hv2' hn2 (fun y hy hh=>by
   rcases k6 y hh with q | q
   . exact hno y q
   . exact hn3 y q y hy rfl) k1
  rw [yy,zBn] at p1;have e1:vs1.map (trT C N2)=vx:=by rw [yn p2.ext k5,k4]
  have hbd:bdds st2.nl st2.nx (vs1++vs2)=true:=zDT (yj p2.nl p2.nx _ k5) p5;have hargs:vx++va=(vs1++vs2).map (trT C N2):=by rw [List.map_append,e1,p4]
  have hl1:vx.length=io.length:=zBG io x hv1;have hl2:va.length=az.length:=zBG az a hv2;rw [hargs];refine zAB q1 q2 q3 q4 (by rw [<- hargs,List.length_append,hl1,hl2]; exact hlen) fun B=>?_;refine qm (X:=⟨B,⟨fd.n,[]⟩,none,[]⟩) (PP:=fun e=>e=syn/\(some none:Option (Option (zA oo×zA rs)))=some oc) hT hC hm (zBK hT hC hm hpf hrf hin hor hrr hpp d fd.fi.wr fd.fi.own) fd.body p3 (zAm (vs1++vs2) 0 hbd) p1 hfd.ok hfd.hok (fun e s' hq=>by
   obtain ⟨h1,h2⟩:=hq;injection h2 with h2
   subst h2;exact h1) ?_
  intro ex N' e' st' E' s' u1 u2 u3 u4 _;have fin:(dres C Tb e' st' fd.rs fun us=>zA6 (C:=C) rs us st' fun z st'=>feS st' fun st'=>xA C oo vs1 st' fun y _=>some (some (y,z)))=some oc->yb P fd.rs E' s' fun xs=>qo C syn oo rs vx oc (.ret (finV xs)) s':=fun hh=>
   zDo hT hC u3 u4 fd.rs hh fun us hv=>by
    obtain ⟨z,st2,q0,h1,w1,w2,w3,w4,w5⟩:=zFQ hC rs u3 hv;rw [yy] at h1;obtain ⟨y,st3,q,h3,_,_,_,h4,h5,h6,_⟩:=jL hC oo (vs:=vs1) (vs':=vs1.map (trT C N')) w1 (by simp) (fun j x v a b=>by
     rw [List.getElem?_map,a] at b;injection b with b
     exact .inr b.symm) h1
    injection h3 with h3
    subst h3;have e2:vs1.map (trT C N')=vx:=by rw [yn u2.ext (yj p2.nl p2.nx _ k5),e1]
    rw [e2] at h4;exact ⟨_,q,q0,h4,w2,List.nodup_append.2 ⟨h5,w3,fun a ha b hb e1=>by subst e1; exact (w4 a hb).2 (h6 a ha).1⟩,rfl⟩
  cases ex <;> simp only at u1 <;> first | exact fin u1 | cases u1
end
end
end Go.Den
namespace Go.Proofs.YtfjiiknfopmcjaaGreatDoor
section
open Go.Al
def vi (n:Int):V:=.at (.int .i64 n)
def sl (es:List V):V:=.lst (zz es) es
end
section
open Go.Al
theorem hasT3:hasT Tryz.prog 3=true:=by kernel_rfl
theorem aggT3:yx Tryz.prog 3=false:=by kernel_rfl
theorem zQF:Tryz.prog.cellsOf 3=1:=by kernel_rfl
theorem zGU:hasT Tryz.prog 4=true:=by kernel_rfl
theorem zO2:yx Tryz.prog 4=false:=by kernel_rfl
theorem zDk:Tryz.prog.cellsOf 4=1:=by kernel_rfl
theorem zCF:hasT Tryz.prog 9=true:=by kernel_rfl
theorem zFu:yx Tryz.prog 9=false:=by kernel_rfl
theorem zA9:Tryz.prog.cellsOf 9=1:=by kernel_rfl
theorem zQ5:Tryz.prog.bytesOf 9=16:=by kernel_rfl
theorem strT9:jr Tryz.prog 9=true:=by kernel_rfl
theorem zero9:yN Tryz.prog 9=some [.at (.string .empty)]:=by kernel_rfl
theorem zH5:hasT Tryz.prog 22=true:=by kernel_rfl
theorem zHx:yx Tryz.prog 22=false:=by kernel_rfl
theorem zGI:Tryz.prog.cellsOf 22=1:=by kernel_rfl
theorem elT22:elT Tryz.prog 22=some 9:=by kernel_rfl
theorem zB2:hasT Tryz.prog 27=true:=by kernel_rfl
theorem zCz:yx Tryz.prog 27=false:=by kernel_rfl
theorem zAr:Tryz.prog.cellsOf 27=1:=by kernel_rfl
theorem zGS:elT Tryz.prog 27=some 30:=by kernel_rfl
theorem zFT:hasT Tryz.prog 30=true:=by kernel_rfl
theorem zDj:Tryz.prog.cellsOf 30=6:=by kernel_rfl
theorem zF9:fieldAt Tryz.prog 30 5=some (5,4):=by kernel_rfl
theorem zC3:hasT Tryz.prog 32=true:=by kernel_rfl
theorem zDr:yx Tryz.prog 32=true:=by kernel_rfl
theorem zBS:Tryz.prog.cellsOf 32=5:=by kernel_rfl
theorem zEA:fieldAt Tryz.prog 32 0=some (0,9):=by kernel_rfl
theorem zTU:fieldAt Tryz.prog 32 1=some (1,4):=by kernel_rfl
theorem zF8:fieldAt Tryz.prog 32 2=some (2,22):=by kernel_rfl
theorem zUU:fieldAt Tryz.prog 32 3=some (3,4):=by kernel_rfl
theorem zI6:fieldAt Tryz.prog 32 4=some (4,27):=by kernel_rfl
theorem zero32:yN Tryz.prog 32=some [.at (.string .empty),.at (.bool false),.lst .nil [],.at (.bool false),.lst .nil []]:=by kernel_rfl
theorem zKl:hasT Tryz.prog 33=true:=by kernel_rfl
theorem aggT33:yx Tryz.prog 33=false:=by kernel_rfl
theorem zI3:Tryz.prog.cellsOf 33=1:=by kernel_rfl
theorem zNP:fieldAt Tryz.prog 51 0=some (0,9):=by kernel_rfl
theorem zOA:fieldAt Tryz.prog 51 1=some (1,3):=by kernel_rfl
theorem hasT56:hasT Tryz.prog 56=true:=by kernel_rfl
theorem aggT56:yx Tryz.prog 56=false:=by kernel_rfl
theorem zT7:Tryz.prog.cellsOf 56=1:=by kernel_rfl
theorem zero56:yN Tryz.prog 56=some [.at (.pointer none)]:=by kernel_rfl
theorem hasT57:hasT Tryz.prog 57=true:=by kernel_rfl
theorem aggT57:yx Tryz.prog 57=false:=by kernel_rfl
theorem zTb:Tryz.prog.cellsOf 57=1:=by kernel_rfl
theorem zTj:fieldAt Tryz.prog 59 0=some (0,57):=by kernel_rfl
theorem zD9:fieldAt Tryz.prog 74 0=some (0,27):=by kernel_rfl
theorem code7:zZ Tryz.prog 7=true:=by kernel_rfl
theorem code8:zZ Tryz.prog 8=true:=by kernel_rfl
theorem code9:zZ Tryz.prog 9=true:=by kernel_rfl
theorem code10:zZ Tryz.prog 10=true:=by kernel_rfl
theorem code11:zZ Tryz.prog 11=true:=by kernel_rfl
theorem code15:zZ Tryz.prog 15=true:=by kernel_rfl
theorem code16:zZ Tryz.prog 16=true:=by kernel_rfl
theorem code17:zZ Tryz.prog 17=true:=by kernel_rfl
theorem code18:zZ Tryz.prog 18=true:=by kernel_rfl
theorem code19:zZ Tryz.prog 19=true:=by kernel_rfl
theorem code20:zZ Tryz.prog 20=true:=by kernel_rfl
theorem code21:zZ Tryz.prog 21=true:=by kernel_rfl
theorem code22:zZ Tryz.prog 22=true:=by kernel_rfl
theorem code23:zZ Tryz.prog 23=true:=by kernel_rfl
theorem zIB:zZ Tryz.prog 27=true:=by kernel_rfl
theorem ju:zZ Tryz.prog 28=true:=by kernel_rfl
theorem zLo:zZ Tryz.prog 29=true:=by kernel_rfl
theorem zDc:zZ Tryz.prog 30=true:=by kernel_rfl
theorem zQ0:zZ Tryz.prog 31=true:=by kernel_rfl
theorem code32:zZ Tryz.prog 32=true:=by kernel_rfl
theorem zHk:zZ Tryz.prog 33=true:=by kernel_rfl
theorem zHW:zZ Tryz.prog 35=true:=by kernel_rfl
theorem zLE:zZ Tryz.prog 36=true:=by kernel_rfl
theorem zQx:zZ Tryz.prog 37=true:=by kernel_rfl
theorem code38:zZ Tryz.prog 38=true:=by kernel_rfl
theorem code39:zZ Tryz.prog 39=true:=by kernel_rfl
theorem code40:zZ Tryz.prog 40=true:=by kernel_rfl
theorem code41:zZ Tryz.prog 41=true:=by kernel_rfl
theorem code42:zZ Tryz.prog 42=true:=by kernel_rfl
theorem code44:zZ Tryz.prog 44=true:=by kernel_rfl
theorem code45:zZ Tryz.prog 45=true:=by kernel_rfl
theorem code48:zZ Tryz.prog 48=true:=by kernel_rfl
theorem code50:zZ Tryz.prog 50=true:=by kernel_rfl
theorem code51:zZ Tryz.prog 51=true:=by kernel_rfl
def ks15:Nat->List Nat
 | 0=>[0,2,3]
 | 1=>[0,2,3]
 | 2=>[2,3,4]
 | 3=>[2,3,4]
 | 4=>[2,3,4]
 | 5=>[2,3,4,32]
 | 6=>[2,3,4]
 | 7=>[2,3,4]
 | 8=>[2,3,4]
 | 9=>[2,3,4]
 | 10=>[2,3]
 | 11=>[2,3,63]
 | 12=>[2,3]
 | 13=>[2,3]
 | 14=>[2,3]
 | _=>[]
def ks20:Nat->List Nat
 | 0=>[1]
 | 1=>[2]
 | _=>[]
def ks28:Nat->List Nat
 | 0=>[1,5]
 | 1=>[]
 | _=>[]
def ks31:Nat->List Nat
 | 0=>[0,1,6]
 | 1=>[0,1,8]
 | 2=>[0]
 | 3=>[0,1,4]
 | 4=>[0,1,4]
 | 5=>[0,1]
 | 6=>[0,1,38]
 | 7=>[]
 | _=>[]
def ks35:Nat->List Nat
 | 0=>[0,1]
 | 1=>[0,1,16]
 | 2=>[4]
 | 3=>[4]
 | _=>[]
theorem mixed:Tryz.prog.follows .mixedOrders=true:=by kernel_rfl
end
section
open Go.Al Go.Den
structure TokT where
 kind:Int
 text:List UInt8
 file:Int
 ffrom:Int
 fto:Int
 blank:Bool
structure CharT where
 b:Int
 fat:Int
structure MacT where
 name:List UInt8
 func:Bool
 params:List (List UInt8)
 variadic:Bool
 body:Bool×List TokT
structure TkT where
 kind:Int
 text:List UInt8
 file:Int
 ffrom:Int
 fto:Int
 blank:Bool
 hide:List (List UInt8)
 mark:Bool
 op:Bool
inductive TI where
 | int
 | bool
 | u8
 | str
 | tok
 | char
 | mac
 | tk
 | tkl
 | strs
def TI.no:TI->Nat
 | .int=>0
 | .bool=>1
 | .u8=>2
 | .str=>3
 | .tok=>4
 | .char=>5
 | .mac=>6
 | .tk=>7
 | .tkl=>8
 | .strs=>9
theorem TI.no_inj:∀ a b:TI,a.no=b.no->a=b:=by intro a b h; cases a <;> cases b <;> first | rfl | (simp [TI.no] at h)
instance:DecidableEq TI:=fun a b=>if h:a.no=b.no then isTrue (TI.no_inj a b h) else isFalse (fun e=>h (by rw [e]))
def denI:TI->Type
 | .int=>Int
 | .bool=>Bool
 | .u8=>Int
 | .str=>(List UInt8)
 | .tok=>TokT
 | .char=>CharT
 | .mac=>MacT
 | .tk=>TkT
 | .tkl=>(Bool×List TkT)
 | .strs=>(Bool×List (List UInt8))
abbrev UU:TyU:={ I:=TI,den:=denI }
def zDh {R:Type} (v:T UU) (K:TokT->Option R):Option R:=
 match v with
 | .agg fs=>(match fs with
  | [v0,v1,v2,v3,v4,v5]=>pInt .i64 v0 fun x0=>pStr v1 fun x1=>pInt .i64 v2 fun x2=>pInt .i64 v3 fun x3=>pInt .i64 v4 fun x4=>zCD v5 fun x5=>K (TokT.mk x0 x1 x2 x3 x4 x5)
  | _=>none)
 | _=>none
def tokD:TokT:=TokT.mk 0 [] 0 0 0 false
def zC7 {R:Type} (v:T UU) (K:CharT->Option R):Option R:=
 match v with
 | .agg fs=>(match fs with
  | [v0,v1]=>pInt .u8 v0 fun x0=>pInt .i64 v1 fun x1=>K (CharT.mk x0 x1)
  | _=>none)
 | _=>none
def zCC:CharT:=CharT.mk 0 0
def zI8 {R:Type} (v:T UU) (K:MacT->Option R):Option R:=
 match v with
 | .agg fs=>(match fs with
  | [v0,v1,v2,v3,v4]=>pStr v0 fun x0=>zCD v1 fun x1=>pDl (U:=UU) TI.str v2 fun x2=>zCD v3 fun x3=>pBl (U:=UU) TI.tok v4 fun x4=>K (MacT.mk x0 x1 x2 x3 x4)
  | _=>none)
 | _=>none
def macD:MacT:=MacT.mk [] false [] false (true,[])
def zMP {R:Type} (v:T UU) (K:TkT->Option R):Option R:=
 match v with
 | .agg fs=>(match fs with
  | [v0,v1,v2,v3,v4,v5,v6,v7,v8]=>pInt .i64 v0 fun x0=>pStr v1 fun x1=>pInt .i64 v2 fun x2=>pInt .i64 v3 fun x3=>pInt .i64 v4 fun x4=>zCD v5 fun x5=>pDl (U:=UU) TI.str v6 fun x6=>zCD v7 fun x7=>zCD v8 fun x8=>K (TkT.mk x0 x1 x2 x3 x4 x5 x6 x7 x8)
  | _=>none)
 | _=>none
def tkD:TkT:=TkT.mk 0 [] 0 0 0 false [] false false
def eV_int (x:Int):V:=.at (.int .i64 x)
def zUN (x:Bool):V:=.at (.bool x)
def eV_u8 (x:Int):V:=.at (.int .u8 x)
def zDi (x:(List UInt8)):V:=.at (.string ⟨List.toArray x⟩)
def zAK (x:TokT):V:=.agg [.at (.int .i64 (TokT.kind x)),.at (.string ⟨List.toArray (TokT.text x)⟩),.at (.int .i64 (TokT.file x)),.at (.int .i64 (TokT.ffrom x)),.at (.int .i64 (TokT.fto x)),.at (.bool (TokT.blank x))]
def yh (x:CharT):V:=.agg [.at (.int .u8 (CharT.b x)),.at (.int .i64 (CharT.fat x))]
def zAO (x:MacT):V:=.agg [.at (.string ⟨List.toArray (MacT.name x)⟩),.at (.bool (MacT.func x)),.lst (zz ((MacT.params x).map zDi)) ((MacT.params x).map zDi),.at (.bool (MacT.variadic x)),.lst (if ((MacT.body x)).1 then .nil else .no) (((MacT.body x)).2.map zAK)]
def zCK (x:TkT):V:=.agg [.at (.int .i64 (TkT.kind x)),.at (.string ⟨List.toArray (TkT.text x)⟩),.at (.int .i64 (TkT.file x)),.at (.int .i64 (TkT.ffrom x)),.at (.int .i64 (TkT.fto x)),.at (.bool (TkT.blank x)),.lst (zz ((TkT.hide x).map zDi)) ((TkT.hide x).map zDi),.at (.bool (TkT.mark x)),.at (.bool (TkT.op x))]
def zP1 (x:(Bool×List TkT)):V:=.lst (if x.1 then .nil else .no) (x.2.map zCK)
def zOC (x:(Bool×List (List UInt8))):V:=.lst (if x.1 then .nil else .no) (x.2.map zDi)
def zGT:(i:TI)->denI i->V
 | .int,x=>eV_int x
 | .bool,x=>zUN x
 | .u8,x=>eV_u8 x
 | .str,x=>zDi x
 | .tok,x=>zAK x
 | .char,x=>yh x
 | .mac,x=>zAO x
 | .tk,x=>zCK x
 | .tkl,x=>zP1 x
 | .strs,x=>zOC x
def encI:(i:TI)->denI i->T UU
 | .int,x=>.int .i64 x
 | .bool,x=>.bool x
 | .u8,x=>.int .u8 x
 | .str,x=>.str x
 | .tok,x=>.agg [(.int .i64 (TokT.kind x)),(.str (TokT.text x)),(.int .i64 (TokT.file x)),(.int .i64 (TokT.ffrom x)),(.int .i64 (TokT.fto x)),(.bool (TokT.blank x))]
 | .char,x=>.agg [(.int .u8 (CharT.b x)),(.int .i64 (CharT.fat x))]
 | .mac,x=>.agg [(.str (MacT.name x)),(.bool (MacT.func x)),(.lst .dl TI.str (MacT.params x)),(.bool (MacT.variadic x)),(.lst (.b ((MacT.body x)).1) TI.tok ((MacT.body x)).2)]
 | .tk,x=>.agg [(.int .i64 (TkT.kind x)),(.str (TkT.text x)),(.int .i64 (TkT.file x)),(.int .i64 (TkT.ffrom x)),(.int .i64 (TkT.fto x)),(.bool (TkT.blank x)),(.lst .dl TI.str (TkT.hide x)),(.bool (TkT.mark x)),(.bool (TkT.op x))]
 | .tkl,x=>.lst (.b x.1) TI.tk x.2
 | .strs,x=>.lst (.b x.1) TI.str x.2
def decI:(i:TI)->{R:Type}->T UU->(denI i->Option R)->Option R
 | .int,_,v,K=>pInt .i64 v K
 | .bool,_,v,K=>zCD v K
 | .u8,_,v,K=>pInt .u8 v K
 | .str,_,v,K=>pStr v K
 | .tok,_,v,K=>zDh v K
 | .char,_,v,K=>zC7 v K
 | .mac,_,v,K=>zI8 v K
 | .tk,_,v,K=>zMP v K
 | .tkl,_,v,K=>pBl (U:=UU) TI.tk v K
 | .strs,_,v,K=>pBl (U:=UU) TI.str v K
def dfltI:(i:TI)->denI i
 | .int=>(0:Int)
 | .bool=>false
 | .u8=>(0:Int)
 | .str=>([]:List UInt8)
 | .tok=>tokD
 | .char=>zCC
 | .mac=>macD
 | .tk=>tkD
 | .tkl=>((true,[]):(Bool×List TkT))
 | .strs=>((true,[]):(Bool×List (List UInt8)))
def zLt:TI->Nat
 | .int=>1
 | .bool=>1
 | .u8=>1
 | .str=>1
 | .tok=>6
 | .char=>2
 | .mac=>5
 | .tk=>9
 | .tkl=>1
 | .strs=>1
def aggI:TI->Bool
 | .int=>false
 | .bool=>false
 | .u8=>false
 | .str=>false
 | .tok=>true
 | .char=>true
 | .mac=>true
 | .tk=>true
 | .tkl=>false
 | .strs=>false
def plainI:TI->Bool
 | .int=>true
 | .bool=>true
 | .u8=>true
 | .str=>true
 | .tok=>true
 | .char=>true
 | .mac=>false
 | .tk=>false
 | .tkl=>false
 | .strs=>false
def ifvI:(i:TI)->denI i->Value
 | .int,_=>.nilIface
 | .bool,_=>.nilIface
 | .u8,_=>.nilIface
 | .str,_=>.nilIface
 | .tok,_=>.nilIface
 | .char,_=>.nilIface
 | .mac,_=>.nilIface
 | .tk,_=>.nilIface
 | .tkl,_=>.nilIface
 | .strs,_=>.nilIface
def u8I:(i:TI)->Option (denI i->Int)
 | .int=>none
 | .bool=>none
 | .u8=>some fun x=>x
 | .str=>none
 | .tok=>none
 | .char=>none
 | .mac=>none
 | .tk=>none
 | .tkl=>none
 | .strs=>none
def CC:Cod UU:=⟨encI,zGT,decI,dfltI,zLt,aggI,plainI,ifvI,u8I⟩
theorem zOz {R:Type} {v:T UU} {K:TokT->Option R} {r:R} (h:zDh v K=some r):∃ x,K x=some r/\∀ N,(trT CC N v).untag=zAK x:=by
 unfold zDh at h;split at h
 . split at h
   . obtain ⟨x0,h,_,e0⟩:=yp (C:=CC) h;obtain ⟨x1,h,_,e1⟩:=zCS (C:=CC) h;obtain ⟨x2,h,_,e2⟩:=yp (C:=CC) h;obtain ⟨x3,h,_,e3⟩:=yp (C:=CC) h;obtain ⟨x4,h,_,e4⟩:=yp (C:=CC) h;obtain ⟨x5,h,_,e5⟩:=jl (C:=CC) h;refine ⟨_,h,fun N=>?_⟩;simp only [trT,trTs,V.untag,List.map_cons,List.map_nil,e0 N,e1 N,e2 N,e3 N,e4 N,e5 N];rfl
   . cases h
 . cases h
theorem zMx {R:Type} {v:T UU} {K:TokT->Option R} {r:R} (h:zDh v K=some r):∃ x,K x=some r/\∀ N,trT CC N v=zAK x:=by
 unfold zDh at h;split at h
 . split at h
   . obtain ⟨x0,h,e0,_⟩:=yp (C:=CC) h;obtain ⟨x1,h,e1,_⟩:=zCS (C:=CC) h;obtain ⟨x2,h,e2,_⟩:=yp (C:=CC) h;obtain ⟨x3,h,e3,_⟩:=yp (C:=CC) h;obtain ⟨x4,h,e4,_⟩:=yp (C:=CC) h;obtain ⟨x5,h,e5,_⟩:=jl (C:=CC) h;refine ⟨_,h,fun N=>?_⟩;simp only [trT,trTs,e0 N,e1 N,e2 N,e3 N,e4 N,e5 N];rfl
   . cases h
 . cases h
theorem zBu (x:TokT):zAK x = .agg [.at (.int .i64 (TokT.kind x)),.at (.string ⟨List.toArray (TokT.text x)⟩),.at (.int .i64 (TokT.file x)),.at (.int .i64 (TokT.ffrom x)),.at (.int .i64 (TokT.fto x)),.at (.bool (TokT.blank x))]:=by
 rfl
theorem zMq {R:Type} {v:T UU} {K:CharT->Option R} {r:R} (h:zC7 v K=some r):∃ x,K x=some r/\∀ N,(trT CC N v).untag=yh x:=by
 unfold zC7 at h;split at h
 . split at h
   . obtain ⟨x0,h,_,e0⟩:=yp (C:=CC) h;obtain ⟨x1,h,_,e1⟩:=yp (C:=CC) h;refine ⟨_,h,fun N=>?_⟩;simp only [trT,trTs,V.untag,List.map_cons,List.map_nil,e0 N,e1 N];rfl
   . cases h
 . cases h
theorem zMl {R:Type} {v:T UU} {K:CharT->Option R} {r:R} (h:zC7 v K=some r):∃ x,K x=some r/\∀ N,trT CC N v=yh x:=by
 unfold zC7 at h;split at h
 . split at h
   . obtain ⟨x0,h,e0,_⟩:=yp (C:=CC) h;obtain ⟨x1,h,e1,_⟩:=yp (C:=CC) h;refine ⟨_,h,fun N=>?_⟩;simp only [trT,trTs,e0 N,e1 N];rfl
   . cases h
 . cases h
theorem zBF (x:CharT):yh x = .agg [.at (.int .u8 (CharT.b x)),.at (.int .i64 (CharT.fat x))]:=by
 rfl
theorem zOd {R:Type} {v:T UU} {K:MacT->Option R} {r:R} (h:zI8 v K=some r):∃ x,K x=some r/\∀ N,(trT CC N v).untag=zAO x:=by
 unfold zI8 at h;split at h
 . split at h
   . obtain ⟨x0,h,_,e0⟩:=zCS (C:=CC) h;obtain ⟨x1,h,_,e1⟩:=jl (C:=CC) h;obtain ⟨x2,h,e2⟩:=zP2 (C:=CC) h;obtain ⟨x3,h,_,e3⟩:=jl (C:=CC) h;obtain ⟨x4,h,e4⟩:=zLP (C:=CC) h;refine ⟨_,h,fun N=>?_⟩;simp only [trT,trTs,V.untag,List.map_cons,List.map_nil,e0 N,e1 N,e2 N,e3 N,e4 N];rfl
   . cases h
 . cases h
theorem zBv (x:MacT):zAO x = .agg [.at (.string ⟨List.toArray (MacT.name x)⟩),.at (.bool (MacT.func x)),.lst (zz ((MacT.params x).map (zGT TI.str))) ((MacT.params x).map (zGT TI.str)),.at (.bool (MacT.variadic x)),.lst (if ((MacT.body x)).1 then .nil else .no) (((MacT.body x)).2.map (zGT TI.tok))]:=by
 rfl
theorem zRe {R:Type} {v:T UU} {K:TkT->Option R} {r:R} (h:zMP v K=some r):∃ x,K x=some r/\∀ N,(trT CC N v).untag=zCK x:=by
 unfold zMP at h;split at h
 . split at h
   . obtain ⟨x0,h,_,e0⟩:=yp (C:=CC) h;obtain ⟨x1,h,_,e1⟩:=zCS (C:=CC) h;obtain ⟨x2,h,_,e2⟩:=yp (C:=CC) h;obtain ⟨x3,h,_,e3⟩:=yp (C:=CC) h;obtain ⟨x4,h,_,e4⟩:=yp (C:=CC) h;obtain ⟨x5,h,_,e5⟩:=jl (C:=CC) h;obtain ⟨x6,h,e6⟩:=zP2 (C:=CC) h;obtain ⟨x7,h,_,e7⟩:=jl (C:=CC) h;obtain ⟨x8,h,_,e8⟩:=jl (C:=CC) h;refine ⟨_,h,fun N=>?_⟩;simp only [trT,trTs,V.untag,List.map_cons,List.map_nil,e0 N,e1 N,e2 N,e3 N,e4 N,e5 N,e6 N,e7 N,e8 N];rfl
   . cases h
 . cases h
theorem zCy (x:TkT):zCK x = .agg [.at (.int .i64 (TkT.kind x)),.at (.string ⟨List.toArray (TkT.text x)⟩),.at (.int .i64 (TkT.file x)),.at (.int .i64 (TkT.ffrom x)),.at (.int .i64 (TkT.fto x)),.at (.bool (TkT.blank x)),.lst (zz ((TkT.hide x).map (zGT TI.str))) ((TkT.hide x).map (zGT TI.str)),.at (.bool (TkT.mark x)),.at (.bool (TkT.op x))]:=by
 rfl
theorem zRJ {R:Type} {v:T UU} {K:(Bool×List TkT)->Option R} {r:R} (h:pBl (U:=UU) TI.tk v K=some r):∃ x,K x=some r/\∀ N,(trT CC N v).untag=zP1 x:=by
 obtain ⟨x,h1,h2⟩:=zLP (C:=CC) h;exact ⟨x,h1,fun N=>zAo (h2 N)⟩
theorem zO4 {R:Type} {v:T UU} {K:(Bool×List (List UInt8))->Option R} {r:R} (h:pBl (U:=UU) TI.str v K=some r):∃ x,K x=some r/\∀ N,(trT CC N v).untag=zOC x:=by
 obtain ⟨x,h1,h2⟩:=zLP (C:=CC) h;exact ⟨x,h1,fun N=>zAo (h2 N)⟩
theorem sz_tok (x:TokT):(zAK x).size=6:=by rw [zBu]; rfl
theorem ag_tok (x:TokT):(zAK x).isAgg=true:=by rw [zBu]; rfl
theorem on_tok (x:TokT):zH (zAK x).flat:=by rw [zBu]; rfl
theorem un_tok (x:TokT):(zAK x).untag=zAK x:=by rw [zBu]; simp only [V.untag,List.map_cons,List.map_nil,zDO,zEU,zBL]
theorem zIz (x:CharT):(yh x).size=2:=by rw [zBF]; rfl
theorem zUI (x:CharT):(yh x).isAgg=true:=by rw [zBF]; rfl
theorem zTJ (x:CharT):zH (yh x).flat:=by rw [zBF]; rfl
theorem zTL (x:CharT):(yh x).untag=yh x:=by rw [zBF]; simp only [V.untag,List.map_cons,List.map_nil,zDO,zEU,zBL]
theorem zRG (x:MacT):(zAO x).size=5:=by rw [zBv]; rfl
theorem ag_mac (x:MacT):(zAO x).isAgg=true:=by rw [zBv]; rfl
theorem on_mac (x:MacT):zH (zAO x).flat:=by rw [zBv]; rfl
theorem un_mac (x:MacT):(zAO x).untag=zAO x:=by rw [zBv]; simp only [V.untag,List.map_cons,List.map_nil,zDO,zEU,zBL]
theorem sz_tk (x:TkT):(zCK x).size=9:=by rw [zCy]; rfl
theorem ag_tk (x:TkT):(zCK x).isAgg=true:=by rw [zCy]; rfl
theorem on_tk (x:TkT):zH (zCK x).flat:=by rw [zCy]; rfl
theorem un_tk (x:TkT):(zCK x).untag=zCK x:=by rw [zCy]; simp only [V.untag,List.map_cons,List.map_nil,zDO,zEU,zBL]
theorem CCok:CodOk CC:=by
 refine ⟨?_,?_,?_,?_,?_,?_,?_,?_,?_,?_,?_⟩
 . intro N i x;cases i with
   | int=>rfl
   | bool=>rfl
   | u8=>rfl
   | str=>rfl
   | tok=>exact (zBu x).symm
   | char=>exact (zBF x).symm
   | mac=>exact (zBv x).symm
   | tk=>exact (zCy x).symm
   | tkl=>rfl
   | strs=>rfl
 . intro i x;cases i <;> rfl
 . intro i R v k r h;cases i with
   | int=>obtain ⟨x,h1,_,h2⟩:=yp (C:=CC) h; exact ⟨x,h1,fun N=>by have:=h2 N; exact zAo this⟩
   | bool=>obtain ⟨x,h1,_,h2⟩:=jl (C:=CC) h; exact ⟨x,h1,fun N=>by have:=h2 N; exact zAo this⟩
   | u8=>obtain ⟨x,h1,_,h2⟩:=yp (C:=CC) h; exact ⟨x,h1,fun N=>by have:=h2 N; exact zAo this⟩
   | str=>obtain ⟨x,h1,_,h2⟩:=zCS (C:=CC) h; exact ⟨x,h1,fun N=>by have:=h2 N; exact zAo this⟩
   | tok=>exact zOz h
   | char=>exact zMq h
   | mac=>exact zOd h
   | tk=>exact zRe h
   | tkl=>exact zRJ h
   | strs=>exact zO4 h
 . intro i R v k r hp h;cases i with
   | int=>obtain ⟨x,h1,h2,_⟩:=yp (C:=CC) h; exact ⟨x,h1,h2⟩
   | bool=>obtain ⟨x,h1,h2,_⟩:=jl (C:=CC) h; exact ⟨x,h1,h2⟩
   | u8=>obtain ⟨x,h1,h2,_⟩:=yp (C:=CC) h; exact ⟨x,h1,h2⟩
   | str=>obtain ⟨x,h1,h2,_⟩:=zCS (C:=CC) h; exact ⟨x,h1,h2⟩
   | tok=>exact zMx h
   | char=>exact zMl h
   | mac=>cases hp
   | tk=>cases hp
   | tkl=>cases hp
   | strs=>cases hp
 . intro i x;cases i with
   | int=>rfl
   | bool=>rfl
   | u8=>rfl
   | str=>rfl
   | tok=>exact sz_tok x
   | char=>exact zIz x
   | mac=>exact zRG x
   | tk=>exact sz_tk x
   | tkl=>rfl
   | strs=>rfl
 . intro i x;cases i with
   | int=>rfl
   | bool=>rfl
   | u8=>rfl
   | str=>rfl
   | tok=>exact ag_tok x
   | char=>exact zUI x
   | mac=>exact ag_mac x
   | tk=>exact ag_tk x
   | tkl=>rfl
   | strs=>rfl
 . intro i x;cases i with
   | int=>rfl
   | bool=>rfl
   | u8=>rfl
   | str=>rfl
   | tok=>exact on_tok x
   | char=>exact zTJ x
   | mac=>exact on_mac x
   | tk=>exact on_tk x
   | tkl=>rfl
   | strs=>rfl
 . intro i x;cases i with
   | int=>rfl
   | bool=>rfl
   | u8=>rfl
   | str=>rfl
   | tok=>exact un_tok x
   | char=>exact zTL x
   | mac=>exact un_mac x
   | tk=>exact un_tk x
   | tkl=>exact zBL _ _
   | strs=>exact zBL _ _
 . intro i h;cases i <;> first | rfl | cases h
 . intro i;cases i <;> decide
 . intro i f h x;cases i <;> first | (cases h; done) | (cases h; rfl)
def td3:TD UU:={ has:=true,agg:=false,cells:=1,bytes:=8,code:=some TI.int,ik:=some .i64,zero:=some [.int .i64 0] }
theorem td3_ok:Facts CC Tryz.prog 3 td3:=⟨by kernel_rfl,by kernel_rfl,by kernel_rfl,by kernel_rfl,by kernel_rfl,by kernel_rfl,by kernel_rfl,by kernel_rfl,by kernel_rfl,by kernel_rfl,by kernel_rfl,fun N=>by kernel_rfl,fun i h=>(by first | (injection h with h; subst h; exact ⟨rfl,rfl⟩) | cases h),fun n i h=>(by cases h),.inr rfl,.inr rfl,fun x k r h=>(by cases h),fun l h=>yB h,fun h=>(by cases h),fun i h=>(by cases h)⟩
def td4:TD UU:={ has:=true,agg:=false,cells:=1,bytes:=1,code:=some TI.bool,isBool:=true,zero:=some [.bool false] }
theorem td4_ok:Facts CC Tryz.prog 4 td4:=⟨by kernel_rfl,by kernel_rfl,by kernel_rfl,by kernel_rfl,by kernel_rfl,by kernel_rfl,by kernel_rfl,by kernel_rfl,by kernel_rfl,by kernel_rfl,by kernel_rfl,fun N=>by kernel_rfl,fun i h=>(by first | (injection h with h; subst h; exact ⟨rfl,rfl⟩) | cases h),fun n i h=>(by cases h),.inr rfl,.inr rfl,fun x k r h=>(by cases h),fun l h=>yB h,fun h=>(by cases h),fun i h=>(by cases h)⟩
def td5:TD UU:={ has:=true,agg:=false,cells:=1,bytes:=1,code:=some TI.u8,ik:=some .u8,zero:=some [.int .u8 0] }
theorem td5_ok:Facts CC Tryz.prog 5 td5:=⟨by kernel_rfl,by kernel_rfl,by kernel_rfl,by kernel_rfl,by kernel_rfl,by kernel_rfl,by kernel_rfl,by kernel_rfl,by kernel_rfl,by kernel_rfl,by kernel_rfl,fun N=>by kernel_rfl,fun i h=>(by first | (injection h with h; subst h; exact ⟨rfl,rfl⟩) | cases h),fun n i h=>(by cases h),.inr rfl,.inr rfl,fun x k r h=>(by cases h),fun l h=>yB h,fun h=>(by cases h),fun i h=>(by cases h)⟩
def td9:TD UU:={ has:=true,agg:=false,cells:=1,bytes:=16,code:=some TI.str,isStr:=true,zero:=some [.str []] }
theorem td9_ok:Facts CC Tryz.prog 9 td9:=⟨by kernel_rfl,by kernel_rfl,by kernel_rfl,by kernel_rfl,by kernel_rfl,by kernel_rfl,by kernel_rfl,by kernel_rfl,by kernel_rfl,by kernel_rfl,by kernel_rfl,fun N=>by kernel_rfl,fun i h=>(by first | (injection h with h; subst h; exact ⟨rfl,rfl⟩) | cases h),fun n i h=>(by cases h),.inr rfl,.inr rfl,fun x k r h=>(by cases h),fun l h=>yB h,fun h=>(by cases h),fun i h=>(by cases h)⟩
def td20:TD UU:={ has:=true,agg:=false,cells:=1,bytes:=16,isIfc:=true,zero:=some [.con .nilIface] }
theorem zTy:Facts CC Tryz.prog 20 td20:=⟨by kernel_rfl,by kernel_rfl,by kernel_rfl,by kernel_rfl,by kernel_rfl,by kernel_rfl,by kernel_rfl,by kernel_rfl,by kernel_rfl,by kernel_rfl,by kernel_rfl,fun N=>by kernel_rfl,fun i h=>(by first | (injection h with h; subst h; exact ⟨rfl,rfl⟩) | cases h),fun n i h=>(by cases h),.inr rfl,.inr rfl,fun x k r h=>(by cases h),fun l h=>yB h,fun h=>(by cases h),fun i h=>(by cases h)⟩
def td22:TD UU:={ has:=true,agg:=false,cells:=1,bytes:=24,el:=some 9,code:=some TI.strs,zero:=some [.nil] }
theorem zTw:Facts CC Tryz.prog 22 td22:=⟨by kernel_rfl,by kernel_rfl,by kernel_rfl,by kernel_rfl,by kernel_rfl,by kernel_rfl,by kernel_rfl,by kernel_rfl,by kernel_rfl,by kernel_rfl,by kernel_rfl,fun N=>by kernel_rfl,fun i h=>(by first | (injection h with h; subst h; exact ⟨rfl,rfl⟩) | cases h),fun n i h=>(by cases h),.inr rfl,.inr rfl,fun x k r h=>(by cases h),fun l h=>yB h,fun h=>(by cases h),fun i h=>(by cases h)⟩
def td24:TD UU:={ has:=true,agg:=false,cells:=1,bytes:=24,el:=some 32,zero:=some [.nil] }
theorem zUf:Facts CC Tryz.prog 24 td24:=⟨by kernel_rfl,by kernel_rfl,by kernel_rfl,by kernel_rfl,by kernel_rfl,by kernel_rfl,by kernel_rfl,by kernel_rfl,by kernel_rfl,by kernel_rfl,by kernel_rfl,fun N=>by kernel_rfl,fun i h=>(by first | (injection h with h; subst h; exact ⟨rfl,rfl⟩) | cases h),fun n i h=>(by cases h),.inr rfl,.inr rfl,fun x k r h=>(by cases h),fun l h=>yB h,fun h=>(by cases h),fun i h=>(by cases h)⟩
def td27:TD UU:={ has:=true,agg:=false,cells:=1,bytes:=24,el:=some 30,zero:=some [.nil] }
theorem zTv:Facts CC Tryz.prog 27 td27:=⟨by kernel_rfl,by kernel_rfl,by kernel_rfl,by kernel_rfl,by kernel_rfl,by kernel_rfl,by kernel_rfl,by kernel_rfl,by kernel_rfl,by kernel_rfl,by kernel_rfl,fun N=>by kernel_rfl,fun i h=>(by first | (injection h with h; subst h; exact ⟨rfl,rfl⟩) | cases h),fun n i h=>(by cases h),.inr rfl,.inr rfl,fun x k r h=>(by cases h),fun l h=>yB h,fun h=>(by cases h),fun i h=>(by cases h)⟩
def td30:TD UU:={ has:=true,agg:=true,cells:=6,bytes:=56,code:=some TI.tok,flds:=[(0,3),(1,9),(2,3),(3,3),(4,3),(5,4)],isStruct:=true,zero:=some [.int .i64 0,.str [],.int .i64 0,.int .i64 0,.int .i64 0,.bool false],eqk:=some [.i,.s,.i,.i,.i,.b] }
theorem eqq30 (us vs:List Value) (h:vkq [KQ.i,.s,.i,.i,.i,.b] us vs=true):zEQ Tryz.prog 30 us vs=true/\zEh Tryz.prog 30 us vs=eqVs us vs:=by
 obtain ⟨k0,n0,m0,u0,v0,rfl,rfl,h0⟩:=zIK h;obtain ⟨n1,m1,u1,v1,rfl,rfl,h1⟩:=vkq_s h0;obtain ⟨k2,n2,m2,u2,v2,rfl,rfl,h2⟩:=zIK h1;obtain ⟨k3,n3,m3,u3,v3,rfl,rfl,h3⟩:=zIK h2;obtain ⟨k4,n4,m4,u4,v4,rfl,rfl,h4⟩:=zIK h3;obtain ⟨n5,m5,u5,v5,rfl,rfl,h5⟩:=vkq_b h4;obtain ⟨rfl,rfl⟩:=zNR h5;exact ⟨by kernel_rfl,by kernel_rfl⟩
theorem eqqs30 {l:List KQ} (h:some [KQ.i,.s,.i,.i,.i,.b]=some l) (us vs:List Value) (hv:vkq l us vs=true):zEQ Tryz.prog 30 us vs=true/\zEh Tryz.prog 30 us vs=eqVs us vs:=by
 rw [<- Option.some.inj h] at hv;exact eqq30 us vs hv
theorem zTz:Facts CC Tryz.prog 30 td30:=⟨by kernel_rfl,by kernel_rfl,by kernel_rfl,by kernel_rfl,by kernel_rfl,by kernel_rfl,by kernel_rfl,by kernel_rfl,by kernel_rfl,by kernel_rfl,by kernel_rfl,fun N=>by kernel_rfl,fun i h=>(by first | (injection h with h; subst h; exact ⟨rfl,rfl⟩) | cases h),fun n i h=>(by cases h),.inr rfl,.inr rfl,fun x k r h=>(by cases h),fun l h=>eqqs30 h,fun h=>(by cases h),fun i h=>(by cases h)⟩
def td32:TD UU:={ has:=true,agg:=true,cells:=5,bytes:=80,code:=some TI.mac,flds:=[(0,9),(1,4),(2,22),(3,4),(4,27)],isStruct:=true,zero:=some [.str [],.bool false,.nil,.bool false,.nil] }
theorem zUL:Facts CC Tryz.prog 32 td32:=⟨by kernel_rfl,by kernel_rfl,by kernel_rfl,by kernel_rfl,by kernel_rfl,by kernel_rfl,by kernel_rfl,by kernel_rfl,by kernel_rfl,by kernel_rfl,by kernel_rfl,fun N=>by kernel_rfl,fun i h=>(by first | (injection h with h; subst h; exact ⟨rfl,rfl⟩) | cases h),fun n i h=>(by cases h),.inr rfl,.inr rfl,fun x k r h=>(by cases h),fun l h=>yB h,fun h=>(by cases h),fun i h=>(by cases h)⟩
def td33:TD UU:={ has:=true,agg:=false,cells:=1,bytes:=8,code:=some TI.int,ik:=some .i64,zero:=some [.int .i64 0] }
theorem zTi:Facts CC Tryz.prog 33 td33:=⟨by kernel_rfl,by kernel_rfl,by kernel_rfl,by kernel_rfl,by kernel_rfl,by kernel_rfl,by kernel_rfl,by kernel_rfl,by kernel_rfl,by kernel_rfl,by kernel_rfl,fun N=>by kernel_rfl,fun i h=>(by first | (injection h with h; subst h; exact ⟨rfl,rfl⟩) | cases h),fun n i h=>(by cases h),.inr rfl,.inr rfl,fun x k r h=>(by cases h),fun l h=>yB h,fun h=>(by cases h),fun i h=>(by cases h)⟩
def td46:TD UU:={ has:=true,agg:=false,cells:=1,bytes:=24,el:=some 55,zero:=some [.nil] }
theorem zUK:Facts CC Tryz.prog 46 td46:=⟨by kernel_rfl,by kernel_rfl,by kernel_rfl,by kernel_rfl,by kernel_rfl,by kernel_rfl,by kernel_rfl,by kernel_rfl,by kernel_rfl,by kernel_rfl,by kernel_rfl,fun N=>by kernel_rfl,fun i h=>(by first | (injection h with h; subst h; exact ⟨rfl,rfl⟩) | cases h),fun n i h=>(by cases h),.inr rfl,.inr rfl,fun x k r h=>(by cases h),fun l h=>yB h,fun h=>(by cases h),fun i h=>(by cases h)⟩
def td48:TD UU:={ has:=true,agg:=false,cells:=1,bytes:=8,zero:=some [.con (.pointer none)] }
theorem zUC:Facts CC Tryz.prog 48 td48:=⟨by kernel_rfl,by kernel_rfl,by kernel_rfl,by kernel_rfl,by kernel_rfl,by kernel_rfl,by kernel_rfl,by kernel_rfl,by kernel_rfl,by kernel_rfl,by kernel_rfl,fun N=>by kernel_rfl,fun i h=>(by first | (injection h with h; subst h; exact ⟨rfl,rfl⟩) | cases h),fun n i h=>(by cases h),.inr rfl,.inr rfl,fun x k r h=>(by cases h),fun l h=>yB h,fun h=>(by cases h),fun i h=>(by cases h)⟩
def td51:TD UU:={ has:=true,agg:=true,cells:=2,bytes:=24,flds:=[(0,9),(1,3)],isStruct:=true,zero:=some [.str [],.int .i64 0] }
theorem zUd:Facts CC Tryz.prog 51 td51:=⟨by kernel_rfl,by kernel_rfl,by kernel_rfl,by kernel_rfl,by kernel_rfl,by kernel_rfl,by kernel_rfl,by kernel_rfl,by kernel_rfl,by kernel_rfl,by kernel_rfl,fun N=>by kernel_rfl,fun i h=>(by first | (injection h with h; subst h; exact ⟨rfl,rfl⟩) | cases h),fun n i h=>(by cases h),.inr rfl,.inr rfl,fun x k r h=>(by cases h),fun l h=>yB h,fun h=>(by cases h),fun i h=>(by cases h)⟩
def td55:TD UU:={ has:=true,agg:=true,cells:=2,bytes:=16,code:=some TI.char,flds:=[(0,5),(1,3)],isStruct:=true,zero:=some [.int .u8 0,.int .i64 0] }
theorem zTQ:Facts CC Tryz.prog 55 td55:=⟨by kernel_rfl,by kernel_rfl,by kernel_rfl,by kernel_rfl,by kernel_rfl,by kernel_rfl,by kernel_rfl,by kernel_rfl,by kernel_rfl,by kernel_rfl,by kernel_rfl,fun N=>by kernel_rfl,fun i h=>(by first | (injection h with h; subst h; exact ⟨rfl,rfl⟩) | cases h),fun n i h=>(by cases h),.inr rfl,.inr rfl,fun x k r h=>(by cases h),fun l h=>yB h,fun h=>(by cases h),fun i h=>(by cases h)⟩
def td56:TD UU:={ has:=true,agg:=false,cells:=1,bytes:=8,zero:=some [.con (.pointer none)] }
theorem zUe:Facts CC Tryz.prog 56 td56:=⟨by kernel_rfl,by kernel_rfl,by kernel_rfl,by kernel_rfl,by kernel_rfl,by kernel_rfl,by kernel_rfl,by kernel_rfl,by kernel_rfl,by kernel_rfl,by kernel_rfl,fun N=>by kernel_rfl,fun i h=>(by first | (injection h with h; subst h; exact ⟨rfl,rfl⟩) | cases h),fun n i h=>(by cases h),.inr rfl,.inr rfl,fun x k r h=>(by cases h),fun l h=>yB h,fun h=>(by cases h),fun i h=>(by cases h)⟩
def td57:TD UU:={ has:=true,agg:=false,cells:=1,bytes:=8,zero:=some [.con (.map none)],mci:=some TI.mac }
theorem zTl:Facts CC Tryz.prog 57 td57:=⟨by kernel_rfl,by kernel_rfl,by kernel_rfl,by kernel_rfl,by kernel_rfl,by kernel_rfl,by kernel_rfl,by kernel_rfl,by kernel_rfl,by kernel_rfl,by kernel_rfl,fun N=>by kernel_rfl,fun i h=>(by first | (injection h with h; subst h; exact ⟨rfl,rfl⟩) | cases h),fun n i h=>(by cases h),.inr rfl,.inr rfl,fun x k r h=>(by cases h),fun l h=>yB h,fun h=>(by cases h),fun i h=>(by injection h with h; subst h; exact ⟨32,(.agg #[(.string .empty),(.bool false),(.slice none 0 0),(.bool false),(.slice none 0 0)]),by kernel_rfl,by kernel_rfl,by kernel_rfl,by kernel_rfl⟩)⟩
def td59:TD UU:={ has:=true,agg:=true,cells:=2,bytes:=16,flds:=[(0,57),(1,3)],isStruct:=true,zero:=some [.con (.map none),.int .i64 0] }
theorem zUg:Facts CC Tryz.prog 59 td59:=⟨by kernel_rfl,by kernel_rfl,by kernel_rfl,by kernel_rfl,by kernel_rfl,by kernel_rfl,by kernel_rfl,by kernel_rfl,by kernel_rfl,by kernel_rfl,by kernel_rfl,fun N=>by kernel_rfl,fun i h=>(by first | (injection h with h; subst h; exact ⟨rfl,rfl⟩) | cases h),fun n i h=>(by cases h),.inr rfl,.inr rfl,fun x k r h=>(by cases h),fun l h=>yB h,fun h=>(by cases h),fun i h=>(by cases h)⟩
def td63:TD UU:={ has:=true,agg:=false,cells:=1,bytes:=24,el:=some 92,code:=some TI.tkl,zero:=some [.nil] }
theorem zUc:Facts CC Tryz.prog 63 td63:=⟨by kernel_rfl,by kernel_rfl,by kernel_rfl,by kernel_rfl,by kernel_rfl,by kernel_rfl,by kernel_rfl,by kernel_rfl,by kernel_rfl,by kernel_rfl,by kernel_rfl,fun N=>by kernel_rfl,fun i h=>(by first | (injection h with h; subst h; exact ⟨rfl,rfl⟩) | cases h),fun n i h=>(by cases h),.inr rfl,.inr rfl,fun x k r h=>(by cases h),fun l h=>yB h,fun h=>(by cases h),fun i h=>(by cases h)⟩
def td71:TD UU:={ has:=true,agg:=true,cells:=1,bytes:=8,flds:=[(0,33)],isStruct:=true,zero:=some [.int .i64 0] }
theorem zTI:Facts CC Tryz.prog 71 td71:=⟨by kernel_rfl,by kernel_rfl,by kernel_rfl,by kernel_rfl,by kernel_rfl,by kernel_rfl,by kernel_rfl,by kernel_rfl,by kernel_rfl,by kernel_rfl,by kernel_rfl,fun N=>by kernel_rfl,fun i h=>(by first | (injection h with h; subst h; exact ⟨rfl,rfl⟩) | cases h),fun n i h=>(by cases h),.inr rfl,.inr rfl,fun x k r h=>(by cases h),fun l h=>yB h,fun h=>(by cases h),fun i h=>(by cases h)⟩
def td72:TD UU:={ has:=true,agg:=false,cells:=1,bytes:=8,zero:=some [.con (.pointer none)] }
theorem zTX:Facts CC Tryz.prog 72 td72:=⟨by kernel_rfl,by kernel_rfl,by kernel_rfl,by kernel_rfl,by kernel_rfl,by kernel_rfl,by kernel_rfl,by kernel_rfl,by kernel_rfl,by kernel_rfl,by kernel_rfl,fun N=>by kernel_rfl,fun i h=>(by first | (injection h with h; subst h; exact ⟨rfl,rfl⟩) | cases h),fun n i h=>(by cases h),.inr rfl,.inr rfl,fun x k r h=>(by cases h),fun l h=>yB h,fun h=>(by cases h),fun i h=>(by cases h)⟩
def td74:TD UU:={ has:=true,agg:=true,cells:=1,bytes:=24,flds:=[(0,27)],isStruct:=true,zero:=some [.nil] }
theorem zUR:Facts CC Tryz.prog 74 td74:=⟨by kernel_rfl,by kernel_rfl,by kernel_rfl,by kernel_rfl,by kernel_rfl,by kernel_rfl,by kernel_rfl,by kernel_rfl,by kernel_rfl,by kernel_rfl,by kernel_rfl,fun N=>by kernel_rfl,fun i h=>(by first | (injection h with h; subst h; exact ⟨rfl,rfl⟩) | cases h),fun n i h=>(by cases h),.inr rfl,.inr rfl,fun x k r h=>(by cases h),fun l h=>yB h,fun h=>(by cases h),fun i h=>(by cases h)⟩
def td79:TD UU:={ has:=true,agg:=false,cells:=1,bytes:=8,zero:=some [.con (.pointer none)] }
theorem zUE:Facts CC Tryz.prog 79 td79:=⟨by kernel_rfl,by kernel_rfl,by kernel_rfl,by kernel_rfl,by kernel_rfl,by kernel_rfl,by kernel_rfl,by kernel_rfl,by kernel_rfl,by kernel_rfl,by kernel_rfl,fun N=>by kernel_rfl,fun i h=>(by first | (injection h with h; subst h; exact ⟨rfl,rfl⟩) | cases h),fun n i h=>(by cases h),.inr rfl,.inr rfl,fun x k r h=>(by cases h),fun l h=>yB h,fun h=>(by cases h),fun i h=>(by cases h)⟩
def td84:TD UU:={ has:=true,agg:=false,cells:=1,bytes:=24,el:=some 5,zero:=some [.nil],isByt:=true }
theorem zUG:Facts CC Tryz.prog 84 td84:=⟨by kernel_rfl,by kernel_rfl,by kernel_rfl,by kernel_rfl,by kernel_rfl,by kernel_rfl,by kernel_rfl,by kernel_rfl,by kernel_rfl,by kernel_rfl,by kernel_rfl,fun N=>by kernel_rfl,fun i h=>(by first | (injection h with h; subst h; exact ⟨rfl,rfl⟩) | cases h),fun n i h=>(by cases h),.inl (by kernel_rfl),.inr rfl,fun x k r h=>(by cases h),fun l h=>yB h,fun h=>(by cases h),fun i h=>(by cases h)⟩
def td92:TD UU:={ has:=true,agg:=true,cells:=9,bytes:=88,code:=some TI.tk,flds:=[(0,30),(6,22),(7,4),(8,4)],isStruct:=true,zero:=some [.int .i64 0,.str [],.int .i64 0,.int .i64 0,.int .i64 0,.bool false,.nil,.bool false,.bool false] }
theorem zUB:Facts CC Tryz.prog 92 td92:=⟨by kernel_rfl,by kernel_rfl,by kernel_rfl,by kernel_rfl,by kernel_rfl,by kernel_rfl,by kernel_rfl,by kernel_rfl,by kernel_rfl,by kernel_rfl,by kernel_rfl,fun N=>by kernel_rfl,fun i h=>(by first | (injection h with h; subst h; exact ⟨rfl,rfl⟩) | cases h),fun n i h=>(by cases h),.inr rfl,.inr rfl,fun x k r h=>(by cases h),fun l h=>yB h,fun h=>(by cases h),fun i h=>(by cases h)⟩
def td104:TD UU:={ has:=true,agg:=true,cells:=48,bytes:=768,zero:=some [.str [],.str [],.str [],.str [],.str [],.str [],.str [],.str [],.str [],.str [],.str [],.str [],.str [],.str [],.str [],.str [],.str [],.str [],.str [],.str [],.str [],.str [],.str [],.str [],.str [],.str [],.str [],.str [],.str [],.str [],.str [],.str [],.str [],.str [],.str [],.str [],.str [],.str [],.str [],.str [],.str [],.str [],.str [],.str [],.str [],.str [],.str [],.str []],arr:=some (48,TI.str),bpl:=[(0,9),(1,9),(2,9),(3,9),(4,9),(5,9),(6,9),(7,9),(8,9),(9,9),(10,9),(11,9),(12,9),(13,9),(14,9),(15,9),(16,9),(17,9),(18,9),(19,9),(20,9),(21,9),(22,9),(23,9),(24,9),(25,9),(26,9),(27,9),(28,9),(29,9),(30,9),(31,9),(32,9),(33,9),(34,9),(35,9),(36,9),(37,9),(38,9),(39,9),(40,9),(41,9),(42,9),(43,9),(44,9),(45,9),(46,9),(47,9)] }
set_option maxRecDepth 100000 in
theorem zS0:Facts CC Tryz.prog 104 td104:=⟨by kernel_rfl,by kernel_rfl,by kernel_rfl,by kernel_rfl,by kernel_rfl,by kernel_rfl,by kernel_rfl,by kernel_rfl,by kernel_rfl,by kernel_rfl,by kernel_rfl,fun N=>by kernel_rfl,fun i h=>(by first | (injection h with h; subst h; exact ⟨rfl,rfl⟩) | cases h),fun n i h=>(by injection h with h; injection h with h _; subst h; kernel_rfl),.inr rfl,.inl (by kernel_rfl),fun x k r h=>(by cases h),fun l h=>yB h,fun h=>(by cases h),fun i h=>(by cases h)⟩
def td105:TD UU:={ has:=true,agg:=false,cells:=1,bytes:=24,el:=some 63,zero:=some [.nil] }
theorem zSU:Facts CC Tryz.prog 105 td105:=⟨by kernel_rfl,by kernel_rfl,by kernel_rfl,by kernel_rfl,by kernel_rfl,by kernel_rfl,by kernel_rfl,by kernel_rfl,by kernel_rfl,by kernel_rfl,by kernel_rfl,fun N=>by kernel_rfl,fun i h=>(by first | (injection h with h; subst h; exact ⟨rfl,rfl⟩) | cases h),fun n i h=>(by cases h),.inr rfl,.inr rfl,fun x k r h=>(by cases h),fun l h=>yB h,fun h=>(by cases h),fun i h=>(by cases h)⟩
def tdL:List (Nat×TD UU):=[(3,td3),(4,td4),(5,td5),(9,td9),(20,td20),(22,td22),(24,td24),(27,td27),(30,td30),(32,td32),(33,td33),(46,td46),(48,td48),(51,td51),(55,td55),(56,td56),(57,td57),(59,td59),(63,td63),(71,td71),(72,td72),(74,td74),(79,td79),(84,td84),(92,td92),(104,td104),(105,td105)]
def Tb:Nat->TD UU:=zH0 tdL
theorem zKP:TbOk CC Tryz.prog Tb:=zKv (by
 intro p hp;simp only [tdL,List.mem_cons,List.not_mem_nil,or_false] at hp;rcases hp with rfl | rfl | rfl | rfl | rfl | rfl | rfl | rfl | rfl | rfl | rfl | rfl | rfl | rfl | rfl | rfl | rfl | rfl | rfl | rfl | rfl | rfl | rfl | rfl | rfl | rfl | rfl
 . exact td3_ok
 . exact td4_ok
 . exact td5_ok
 . exact td9_ok
 . exact zTy
 . exact zTw
 . exact zUf
 . exact zTv
 . exact zTz
 . exact zUL
 . exact zTi
 . exact zUK
 . exact zUC
 . exact zUd
 . exact zTQ
 . exact zUe
 . exact zTl
 . exact zUg
 . exact zUc
 . exact zTI
 . exact zTX
 . exact zUR
 . exact zUE
 . exact zUG
 . exact zUB
 . exact zS0
 . exact zSU)
end
end Go.Proofs.YtfjiiknfopmcjaaGreatDoor
section
namespace Go.Den
def yc (l:List (Nat×List (Nat×Nat×Nat))) (n:Nat):List (Nat×Nat×Nat):=(zE l n).getD []
def yd (l:List (Nat×List Nat)) (n:Nat):List Nat:=(zE l n).getD []
end Go.Den
namespace Go.Proofs.YtfjiiknfopmcjaaGreatDoor
open Go.Al Go.Den
abbrev LK:=List (SK UU)
abbrev Str:=List UInt8
abbrev toBl (x:TokT) (b:Bool):TokT:=⟨x.kind,x.text,x.file,x.ffrom,x.fto,b⟩
def syn:List PanicEntry:=[]
def nn (a r:List (AK UU)):zf a->Option (zf r):=fun _=>none
abbrev rdK:SK UU:=.box [.str,.int .i64]
abbrev RdT:=Str×Int×Unit
abbrev DD (α:Type):=Str->Int->Option (α×Int)
def fD {aa rs:List (SK UU)} (m:zA aa->DD (zA rs)) {R:Type} (x:RdT×Unit) (a:zA aa) (K:RdT×Unit->zA rs->Option R):Option R:=
 Option.bind (m a x.1.1 x.1.2.1) fun y=>K ((x.1.1,y.2,()),()) y.1
abbrev cD (aa rs:List (SK UU)) (m:zA aa->DD (zA rs)):CP UU:=⟨[rdK],[rdK],aa,rs,fun x a _ K=>fD m x a K⟩
def fRD {aa rs:List (SK UU)} (m:zA aa->Str->Int->Option (zA rs)) {R:Type} (x:RdT×zA aa) (K:zA rs->Option R):Option R:=
 Option.bind (m x.2 x.1.1 x.1.2.1) fun y=>K y
abbrev cRD (aa rs:List (SK UU)) (m:zA aa->Str->Int->Option (zA rs)):CR UU:=⟨rdK::aa,rs,fun x K=>fRD m x K⟩
def fF {aa rs:List (SK UU)} (m:zA aa->Option (zA rs)) {R:Type} (x:Unit) (a:zA aa) (K:Unit->zA rs->Option R):Option R:=
 Option.bind (m a) fun y=>K () y
abbrev cF (aa rs:List (SK UU)) (m:zA aa->Option (zA rs)):CP UU:=⟨[],[],aa,rs,fun x a _ K=>fF m x a K⟩
abbrev woK:SK UU:=.box [.mc1 TI.mac,.int .i64]
abbrev maK:SK UU:=.box [.str,.bool,.dl TI.str,.bool,.bl TI.tok]
abbrev MapM:=List (Str×MacT)
abbrev k0:LK:=[]
abbrev kB:LK:=[.bool]
abbrev kS:LK:=[.str]
abbrev kI:LK:=[.int .i64]
abbrev kL:LK:=[.bl TI.tk]
abbrev kD:LK:=[.dl TI.tk]
abbrev kA:LK:=[.arr TI.tk]
abbrev kE:LK:=[.dl TI.tk,.int .i64]
abbrev kF:LK:=[.arr TI.tk,.int .i64]
abbrev kM:LK:=[.st TI.mac,.bl TI.tk]
abbrev kG:LK:=[.arr TI.tk,.int .i64,.int .i64]
abbrev CQ:=CPOk CC Tryz.prog syn
abbrev LT:=List TokT
abbrev ck {ρ:Type} (n:Nat) (x:Option ρ):Option ρ:=cond (okN 40 n) x none
abbrev bo {α ρ:Type} (x:Option (Option α)) (f:α->Option (Option ρ)):Option (Option ρ):=Option.bind x fun o=>zAC o (some none) f
theorem rpk {sy:List PanicEntry} {fu d:Nat} {li:List (Nat×FD UU)} {lo:List (Nat×Con UU)} {lr:List (Nat×CR UU)} {lp:List (Nat×CP UU)} {f:Nat} {fd:FD UU} {io oo az rs:LK} {fn:zA io->zA az->Option (Option (zA oo×zA rs))} (h1:∀ f fd,zE li f=some fd->FDOk Tryz.prog (hasN (lo.map (·.1))) (hasN (lr.map (·.1))) f fd) (h2:∀ f c,zE lo f=some c->OrcOk CC Tryz.prog f c) (h3:∀ f c,zE lr f=some c->zZ Tryz.prog f=true/\CROk CC Tryz.prog f c) (h4:∀ f c,zE lp f=some c->zZ Tryz.prog f=true/\CPOk CC Tryz.prog sy f c) (h5:FDOk Tryz.prog (hasN (lo.map (·.1))) (hasN (lr.map (·.1))) f fd) (h6:Nat.ble (io.length+az.length) fd.n=true) (h:∀ x a,runP CC Tb fu d (zE li) (zE lo) (zE lr) (zE lp) fd io oo az rs x a=fn x a):CPOk CC Tryz.prog sy f ⟨io,oo,az,rs,fnP fn⟩:=zUZ zKP CCok mixed (fun g=>(qJ (l:=lo) g).symm) (fun g=>(qJ (l:=lr) g).symm) h1 h2 h3 h4 h5 (Nat.le_of_ble_eq_true h6) h
theorem rfk {fu d:Nat} {li:List (Nat×FD UU)} {lo:List (Nat×Con UU)} {lr:List (Nat×CR UU)} {lp:List (Nat×CP UU)} {f:Nat} {fd:FD UU} {c:Con UU} (h1:∀ f fd,zE li f=some fd->FDOk Tryz.prog (hasN (lo.map (·.1))) (hasN (lr.map (·.1))) f fd) (h2:∀ f c,zE lo f=some c->OrcOk CC Tryz.prog f c) (h3:∀ f c,zE lr f=some c->zZ Tryz.prog f=true/\CROk CC Tryz.prog f c) (h4:∀ f c,zE lp f=some c->zZ Tryz.prog f=true/\CPOk CC Tryz.prog syn f c) (h5:FDOk Tryz.prog (hasN (lo.map (·.1))) (hasN (lr.map (·.1))) f fd) (h6:Nat.ble (Con.as c).length fd.n=true) (h7:∀ a ∈ c.rs,∀ i,a≠.ls i) (h:∀ nf x,zAU CC Tb fu d (zE li) (zE lo) (zE lr) (zE lp) fd (Con.as c) c.rs nf x=c.fn x):ConOk CC Tryz.prog f c:=zSq zKP CCok mixed (fun g=>(qJ (l:=lo) g).symm) (fun g=>(qJ (l:=lr) g).symm) h1 h2 h3 h4 h5 (Nat.le_of_ble_eq_true h6) h7 h
theorem fdk {f:Nat} {fn:Func} {fd:FD UU} {pf rf:FuncId->Bool} (h:Tryz.prog.funcs[f]? = some fn) (h1:fn.ntmps=fd.n) (h2:fn.results=fd.rs.toArray) (h3:fn.body=some fd.body:=by kernel_rfl) (h4:zZ Tryz.prog f=true:=by kernel_rfl) (h5:xr pf rf fd.fi ⟨fd.n,[]⟩ fd.body=true:=by kernel_rfl) (h6:qE fd.fi fd.body=true:=by kernel_rfl):FDOk Tryz.prog pf rf f fd:=⟨⟨fn,h,h3,h1,h2⟩,h4,h5,h6⟩
abbrev WoT:=MapM×Int×Unit
abbrev WW (α:Type):=MapM->Int->Option (α×MapM×Int)
def fW {aa rs:List (SK UU)} (m:zA aa->WW (zA rs)) {R:Type} (x:WoT×Unit) (a:zA aa) (K:WoT×Unit->zA rs->Option R):Option R:=
 Option.bind (m a x.1.1 x.1.2.1) fun y=>K ((y.2.1,y.2.2,()),()) y.1
abbrev cW (aa rs:List (SK UU)) (m:zA aa->WW (zA rs)):CP UU:=⟨[woK],[woK],aa,rs,fun x a _ K=>fW m x a K⟩
abbrev cP (io oo aa rs:LK) (m:zA io->zA aa->Option (Option (zA oo×zA rs))):CP UU:=⟨io,oo,aa,rs,fnP m⟩
abbrev rlK:SK UU:=.box [.bl TI.tok]
def sE (e:Int):List PanicEntry:=[{ v:=.iface 71 (.agg #[.int .i64 e]),recovered:=false }]
abbrev cNd (e0:Int):CP UU:=⟨[],[],[.bool,.int .i64],[],fun x a pan K=>cond (show Bool×Int×Unit from a).1 (K () ()) (cond (ieq (show Bool×Int×Unit from a).2.1 e0) pan none)⟩
end Go.Proofs.YtfjiiknfopmcjaaGreatDoor
end
namespace Go.Proofs.YtfjiiknfopmcjaaGreatDoor
section
open Go.Al Go.Den
abbrev as37:List (AK UU):=[.str,.int .u8]
abbrev rs37:List (AK UU):=[.int .i64]
abbrev as38:List (AK UU):=[.str,.str]
abbrev rs38:List (AK UU):=[.int .i64]
def kf18:Nat->List Nat
 | 0=>[0]
 | 1=>[0,6]
 | 2=>[0,6,7]
 | 3=>[0,6,7]
 | 4=>[0,6,7]
 | 5=>[0,6,7]
 | 6=>[0,7]
 | 7=>[0]
 | 8=>[0,2]
 | 9=>[0,21]
 | 10=>[0,3]
 | 11=>[0,3,33]
 | 12=>[0,3]
 | 13=>[0]
 | 14=>[0,2]
 | 15=>[0,54]
 | 16=>[0,2]
 | 17=>[0,4]
 | 18=>[0,4,67]
 | 19=>[0,2]
 | 20=>[0]
 | 21=>[0,2]
 | _=>[]
def jn18:List (Nat×Head UU):=[(7,⟨[0],[(7,.bool)],[(0,rdK)]⟩),(13,⟨[0],[(3,.int .i64)],[(0,rdK)]⟩),(9,⟨[0],[],[(0,rdK)]⟩)]
noncomputable def fd18:FD UU:=⟨⟨fun d=>hasN [] d,fun d=>hasN [] d,kf18,zE [],zE jn18,yc [],yd []⟩,zj Tryz.f18,77,[.tmp 2]⟩
def kf19:Nat->List Nat
 | 0=>[0]
 | 1=>[0,10]
 | 2=>[0,2,3]
 | 3=>[0,4]
 | 4=>[0,4,14]
 | 5=>[0,2,3]
 | 6=>[0,5]
 | 7=>[0,5,19]
 | 8=>[0,2,3]
 | 9=>[0,6]
 | 10=>[0,6,24]
 | 11=>[0,2,3]
 | 12=>[0,7]
 | 13=>[0,7,29]
 | 14=>[0,2,3]
 | 15=>[0,8]
 | 16=>[0,8,34]
 | 17=>[0,2,3]
 | 18=>[0,2,3]
 | _=>[]
noncomputable def fd19:FD UU:=⟨⟨fun d=>hasN [] d,fun d=>hasN [] d,kf19,zE [],zE [],yc [],yd []⟩,zj Tryz.f19,36,[.tmp 2,.tmp 3]⟩
def kf36:Nat->List Nat
 | 0=>[0,1]
 | 1=>[0,4]
 | _=>[]
noncomputable def fd36:FD UU:=⟨⟨fun d=>hasN [] d,fun d=>hasN [] d,kf36,zE [],zE [],yc [],yd []⟩,zj Tryz.f36,16,[.tmp 4]⟩
def kf39:Nat->List Nat
 | 0=>[0]
 | 1=>[0,3]
 | 2=>[0,3,17]
 | 3=>[0,3]
 | 4=>[0,2]
 | _=>[]
def hd39:List (Nat×Head UU):=[(2,⟨[0],[(3,.int .i64)],[(0,rdK)]⟩)]
noncomputable def fd39:FD UU:=⟨⟨fun d=>hasN [] d,fun d=>hasN [] d,kf39,zE hd39,zE [],yc [],yd []⟩,zj Tryz.f39,21,[.tmp 2]⟩
def kf40:Nat->List Nat
 | 0=>[0]
 | 1=>[0,20]
 | 2=>[0,2]
 | 3=>[0,3]
 | 4=>[0,3,4,5]
 | 5=>[0,2]
 | 6=>[0,3,4,29]
 | 7=>[0,3]
 | 8=>[0,3,43]
 | 9=>[0,3]
 | _=>[]
def hd40:List (Nat×Head UU):=[(4,⟨[0],[(3,.int .i64)],[(0,rdK)]⟩)]
noncomputable def fd40:FD UU:=⟨⟨fun d=>hasN [] d,fun d=>hasN [] d,kf40,zE hd40,zE [],yc [],yd []⟩,zj Tryz.f40,56,[.tmp 2]⟩
def kf41:Nat->List Nat
 | 0=>[0,1]
 | 1=>[0,1,21]
 | 2=>[0,4]
 | 3=>[0,1,5]
 | 4=>[0,1,5,33]
 | 5=>[0,1,5]
 | 6=>[0,1,5,38]
 | 7=>[0,1,5,38,39]
 | 8=>[0,5,47]
 | 9=>[0,4]
 | 10=>[0,4]
 | 11=>[0,1,5,38,50]
 | 12=>[0,4]
 | 13=>[0,1,5,52]
 | 14=>[0,1,5]
 | 15=>[0,1,5,73]
 | 16=>[0,4]
 | 17=>[0,4]
 | _=>[]
def hd41:List (Nat×Head UU):=[(4,⟨[0,1],[(5,.int .i64)],[(0,rdK)]⟩)]
noncomputable def fd41:FD UU:=⟨⟨fun d=>hasN [] d,fun d=>hasN [] d,kf41,zE hd41,zE [],yc [(1,[(18,8,0),(18,12,0)])],yd []⟩,zj Tryz.f41,74,[.tmp 4]⟩
def kf42:Nat->List Nat
 | 0=>[0]
 | 1=>[0,3]
 | 2=>[0,3,6,7]
 | 3=>[0,3,6,7,8]
 | 4=>[0,3,5,6,7]
 | 5=>[0,3,5,6,7,19]
 | 6=>[0,3,6,7]
 | 7=>[0,3,6,7]
 | 8=>[0,2]
 | _=>[]
def hd42:List (Nat×Head UU):=[(3,⟨[0,6],[(3,.int .i64),(7,.int .i64)],[(0,rdK)]⟩)]
noncomputable def fd42:FD UU:=⟨⟨fun d=>hasN [] d,fun d=>hasN [] d,kf42,zE hd42,zE [],yc [],yd []⟩,zj Tryz.f42,24,[.tmp 2]⟩
def kf55:Nat->List Nat
 | 0=>[0,1]
 | 1=>[4]
 | _=>[]
noncomputable def fd55:FD UU:=⟨⟨fun d=>hasN [] d,fun d=>hasN [] d,kf55,zE [],zE [],yc [],yd []⟩,zj Tryz.f55,8,[.tmp 4]⟩
def kf58:Nat->List Nat
 | 0=>[0]
 | 1=>[2]
 | _=>[]
noncomputable def fd58:FD UU:=⟨⟨fun d=>hasN [] d,fun d=>hasN [] d,kf58,zE [],zE [],yc [],yd []⟩,zj Tryz.f58,21,[.tmp 2]⟩
def kf59:Nat->List Nat
 | 0=>[0]
 | 1=>[2]
 | _=>[]
noncomputable def fd59:FD UU:=⟨⟨fun d=>hasN [] d,fun d=>hasN [] d,kf59,zE [],zE [],yc [],yd []⟩,zj Tryz.f59,9,[.tmp 2]⟩
def kf67:Nat->List Nat
 | 0=>[0,1]
 | 1=>[4]
 | _=>[]
noncomputable def fd67:FD UU:=⟨⟨fun d=>hasN [] d,fun d=>hasN [] d,kf67,zE [],zE [],yc [],yd []⟩,zj Tryz.f67,18,[.tmp 4]⟩
noncomputable def run36 (fu:Nat) (x:zA [rdK]) (a:zA kS):Option (Option (zA [rdK]×zA kB)):=
 runP CC Tb fu 4 (zE [(55,fd55),(67,fd67)]) (zE []) (zE []) (zE []) fd36 [rdK] [rdK] kS kB x a
theorem fdok36:FDOk Tryz.prog (hasN []) (hasN []) 36 fd36:=fdk Tryz.func36 Tryz.ntmps36 Tryz.results36
theorem zQd:FDOk Tryz.prog (hasN []) (hasN []) 55 fd55:=fdk Tryz.func55 Tryz.ntmps55 Tryz.results55
theorem zPq:FDOk Tryz.prog (hasN []) (hasN []) 67 fd67:=fdk Tryz.func67 Tryz.ntmps67 Tryz.results67
noncomputable def run18 (fu:Nat) (c37:List UInt8×Int×Unit->Option (Int×Unit)) (c38:List UInt8×List UInt8×Unit->Option (Int×Unit)) (c35:zA kI->Str->Int->Option (zA ([.int .u8]:LK))) (c36:zA kS->DD (zA kB)) (x:zA [rdK]) (a:zA k0):Option (Option (zA [rdK]×zA kB)):=
 runP CC Tb fu 2 (zE []) (zE [(37,(⟨as37,rs37,c37⟩:Con UU)),(38,(⟨as38,rs38,c38⟩:Con UU))]) (zE [(35,cRD kI ([.int .u8]:LK) c35)]) (zE [(36,cD kS kB c36)]) fd18 [rdK] [rdK] k0 kB x a
theorem fdok18:FDOk Tryz.prog (hasN [37,38]) (hasN [35]) 18 fd18:=fdk Tryz.func18 Tryz.ntmps18 Tryz.results18
noncomputable def run39 (fu:Nat) (c35:zA kI->Str->Int->Option (zA ([.int .u8]:LK))) (x:zA [rdK]) (a:zA k0):Option (Option (zA [rdK]×zA kI)):=
 runP CC Tb fu 4 (zE [(58,fd58),(59,fd59)]) (zE []) (zE [(35,cRD kI ([.int .u8]:LK) c35)]) (zE []) fd39 [rdK] [rdK] k0 kI x a
theorem fdok39:FDOk Tryz.prog (hasN []) (hasN [35]) 39 fd39:=fdk Tryz.func39 Tryz.ntmps39 Tryz.results39
theorem zQV:FDOk Tryz.prog (hasN []) (hasN [35]) 58 fd58:=fdk Tryz.func58 Tryz.ntmps58 Tryz.results58
theorem zRI:FDOk Tryz.prog (hasN []) (hasN [35]) 59 fd59:=fdk Tryz.func59 Tryz.ntmps59 Tryz.results59
noncomputable def run40 (fu:Nat) (c37:List UInt8×Int×Unit->Option (Int×Unit)) (c35:zA kI->Str->Int->Option (zA ([.int .u8]:LK))) (x:zA [rdK]) (a:zA k0):Option (Option (zA [rdK]×zA kI)):=
 runP CC Tb fu 4 (zE [(58,fd58),(59,fd59)]) (zE [(37,(⟨as37,rs37,c37⟩:Con UU))]) (zE [(35,cRD kI ([.int .u8]:LK) c35)]) (zE []) fd40 [rdK] [rdK] k0 kI x a
theorem fdok40:FDOk Tryz.prog (hasN [37]) (hasN [35]) 40 fd40:=fdk Tryz.func40 Tryz.ntmps40 Tryz.results40
theorem zRb:FDOk Tryz.prog (hasN [37]) (hasN [35]) 58 fd58:=fdk Tryz.func58 Tryz.ntmps58 Tryz.results58
theorem zQi:FDOk Tryz.prog (hasN [37]) (hasN [35]) 59 fd59:=fdk Tryz.func59 Tryz.ntmps59 Tryz.results59
noncomputable def run41 (fu:Nat) (c35:zA kI->Str->Int->Option (zA ([.int .u8]:LK))) (x:zA [rdK]) (a:zA ([.int .u8]:LK)):Option (Option (zA [rdK]×zA kI)):=
 runP CC Tb fu 2 (zE []) (zE []) (zE [(35,cRD kI ([.int .u8]:LK) c35)]) (zE []) fd41 [rdK] [rdK] ([.int .u8]:LK) kI x a
theorem fdok41:FDOk Tryz.prog (hasN []) (hasN [35]) 41 fd41:=fdk Tryz.func41 Tryz.ntmps41 Tryz.results41
noncomputable def run42 (fu:Nat) (c36:zA kS->DD (zA kB)) (x:zA [rdK]) (a:zA k0):Option (Option (zA [rdK]×zA kI)):=
 runP CC Tb fu 2 (zE []) (zE []) (zE []) (zE [(36,cD kS kB c36)]) fd42 [rdK] [rdK] k0 kI x a
theorem fdok42:FDOk Tryz.prog (hasN []) (hasN []) 42 fd42:=fdk Tryz.func42 Tryz.ntmps42 Tryz.results42
noncomputable def run19 (fu:Nat) (c36:zA kS->DD (zA kB)) (c39:zA k0->DD (zA kI)) (c40:zA k0->DD (zA kI)) (c41:zA ([.int .u8]:LK)->DD (zA kI)) (c42:zA k0->DD (zA kI)) (x:zA [rdK]) (a:zA k0):Option (Option (zA [rdK]×zA ([.int .i64,.int .i64]:LK))):=
 runP CC Tb fu 2 (zE []) (zE []) (zE []) (zE [(36,cD kS kB c36),(39,cD k0 kI c39),(40,cD k0 kI c40),(41,cD ([.int .u8]:LK) kI c41),(42,cD k0 kI c42)]) fd19 [rdK] [rdK] k0 ([.int .i64,.int .i64]:LK) x a
theorem fdok19:FDOk Tryz.prog (hasN []) (hasN []) 19 fd19:=fdk Tryz.func19 Tryz.ntmps19 Tryz.results19
end
section
open Go.Al Go.Den
abbrev as9:List (AK UU):=[.int .i64,.str]
abbrev rs9:List (AK UU):=[.dl TI.tok]
abbrev as16:List (AK UU):=[.str]
abbrev rs16:List (AK UU):=[.dl TI.char]
abbrev as17:List (AK UU):=[.dl TI.char]
abbrev rs17:List (AK UU):=[.str]
def kf9:Nat->List Nat
 | 0=>[0,1]
 | 1=>[0,5]
 | 2=>[0,5,6]
 | 3=>[0,5,6,7]
 | 4=>[0,5,6,7,8]
 | 5=>[0,5,6,7,8,32]
 | 6=>[0,5,6,7,8]
 | 7=>[0,5,6,7,8,43]
 | 8=>[4]
 | 9=>[0,5,6,7,8,9,10]
 | 10=>[0,5,6,7,8,10]
 | 11=>[0,5,6,7,8,10]
 | 12=>[0,5,6,7,8]
 | 13=>[0,5,6,7]
 | _=>[]
def hd9:List (Nat×Head UU):=[(4,⟨[0,5,6],[(7,.ow true TI.tok)],[(6,rdK)]⟩),(5,⟨[0,5,6,8],[(7,.ow true TI.tok)],[(6,rdK),(8,.box [.int .i64,.str,.int .i64,.int .i64,.int .i64,.bool])]⟩)]
noncomputable def fd9:FD UU:=⟨⟨fun d=>hasN [] d,fun d=>hasN [] d,kf9,zE hd9,zE [],yc [(10,[(1000066,53,6),(1000067,53,6),(1000066,57,6),(1000067,57,6),(1000066,61,6),(1000067,61,6)]),(11,[(1000088,71,6),(1000089,71,6),(1000088,74,6),(1000089,74,6),(1000088,79,6),(1000089,79,6),(1000088,85,6),(1000089,85,6)])],yd []⟩,zj Tryz.f9,102,[.tmp 4]⟩
noncomputable def run9 (fu:Nat) (c16:List UInt8×Unit->Option (List CharT×Unit)) (c17:List CharT×Unit->Option (List UInt8×Unit)) (c18:zA k0->DD (zA kB)) (c19:zA k0->DD (zA ([.int .i64,.int .i64]:LK))) (nf:Nat->Bool) (x0:Int) (x1:List UInt8):Option (zf rs9):=
 zAU CC Tb fu 2 (zE []) (zE [(16,(⟨as16,rs16,c16⟩:Con UU)),(17,(⟨as17,rs17,c17⟩:Con UU))]) (zE []) (zE [(18,cD k0 kB c18),(19,cD k0 ([.int .i64,.int .i64]:LK) c19)]) fd9 as9 rs9 nf (x0,x1,())
theorem fdok9:FDOk Tryz.prog (hasN [16,17]) (hasN []) 9 fd9:=fdk Tryz.func9 Tryz.ntmps9 Tryz.results9
end
section
open Go.Al Go.Den
abbrev as22:List (AK UU):=[.ls TI.tok]
abbrev rs22:List (AK UU):=[.dl TI.tk]
abbrev as23:List (AK UU):=[.ls TI.tk]
abbrev rs23:List (AK UU):=[.dl TI.tok]
abbrev as44:List (AK UU):=[.st TI.tk,.str]
abbrev rs44:List (AK UU):=[.bool]
abbrev as45:List (AK UU):=[.st TI.tk,.str]
abbrev rs45:List (AK UU):=[.bool]
abbrev as51:List (AK UU):=[.st TI.mac,.str]
abbrev rs51:List (AK UU):=[.int .i64]
def kf22:Nat->List Nat
 | 0=>[0]
 | 1=>[0,3]
 | 2=>[0,3,4]
 | 3=>[3,4,7,8,9]
 | 4=>[3,4,7,8,9,10]
 | 5=>[3,4,6,7,8,9]
 | 6=>[3,4,6,7,8,9,15]
 | 7=>[3,4,7,8,9]
 | 8=>[3,6,7,8,9]
 | 9=>[3,4,6,7,8,9]
 | 10=>[3,4,7,8,9]
 | 11=>[3,4,7,8,9]
 | 12=>[2]
 | _=>[]
def hd22:List (Nat×Head UU):=[(4,⟨[7,8],[(3,.ow true TI.tk),(4,.bool),(9,.int .i64)],[]⟩)]
noncomputable def fd22:FD UU:=⟨⟨fun d=>hasN [] d,fun d=>hasN [] d,kf22,zE hd22,zE [],yc [],yd []⟩,zj Tryz.f22,29,[.tmp 2]⟩
def kf23:Nat->List Nat
 | 0=>[0]
 | 1=>[0,3]
 | 2=>[3,6,7,8]
 | 3=>[3,6,7,8,9]
 | 4=>[3,5,6,7,8]
 | 5=>[3,6,7,8]
 | 6=>[3,6,7,8]
 | 7=>[2]
 | _=>[]
def hd23:List (Nat×Head UU):=[(3,⟨[6,7],[(3,.ow true TI.tok),(8,.int .i64)],[]⟩)]
noncomputable def fd23:FD UU:=⟨⟨fun d=>hasN [] d,fun d=>hasN [] d,kf23,zE hd23,zE [],yc [],yd []⟩,zj Tryz.f23,19,[.tmp 2]⟩
def kf44:Nat->List Nat
 | 0=>[1,2]
 | 1=>[4]
 | _=>[]
noncomputable def fd44:FD UU:=⟨⟨fun d=>hasN [] d,fun d=>hasN [] d,kf44,zE [],zE [],yc [],yd []⟩,zj Tryz.f44,9,[.tmp 4]⟩
def kf50:Nat->List Nat
 | 0=>[0,1]
 | 1=>[4]
 | _=>[]
noncomputable def fd50:FD UU:=⟨⟨fun d=>hasN [] d,fun d=>hasN [] d,kf50,zE [],zE [],yc [],yd []⟩,zj Tryz.f50,9,[.tmp 4]⟩
def kf65:Nat->List Nat
 | 0=>[0,1]
 | 1=>[0,1,7,8]
 | 2=>[0,1,7,8,9]
 | 3=>[0,1,5,7,8]
 | 4=>[0,1,5,7,8,16]
 | 5=>[4]
 | 6=>[0,1,7,8]
 | 7=>[4]
 | _=>[]
def hd65:List (Nat×Head UU):=[(2,⟨[0,1,7],[(8,.int .i64)],[]⟩)]
noncomputable def fd65:FD UU:=⟨⟨fun d=>hasN [] d,fun d=>hasN [] d,kf65,zE hd65,zE [],yc [],yd []⟩,zj Tryz.f65,19,[.tmp 4]⟩
noncomputable def run22 (fu:Nat) (nf:Nat->Bool) (x0:List TokT):Option (zf rs22):=
 zAU CC Tb fu 2 (zE []) (zE []) (zE []) (zE []) fd22 as22 rs22 nf (x0,())
theorem fdok22:FDOk Tryz.prog (hasN []) (hasN []) 22 fd22:=fdk Tryz.func22 Tryz.ntmps22 Tryz.results22
noncomputable def run23 (fu:Nat) (nf:Nat->Bool) (x0:List TkT):Option (zf rs23):=
 zAU CC Tb fu 2 (zE []) (zE []) (zE []) (zE []) fd23 as23 rs23 nf (x0,())
theorem fdok23:FDOk Tryz.prog (hasN []) (hasN []) 23 fd23:=fdk Tryz.func23 Tryz.ntmps23 Tryz.results23
noncomputable def run44 (fu:Nat) (nf:Nat->Bool) (x0:TkT) (x1:List UInt8):Option (zf rs44):=
 zAU CC Tb fu 4 (zE [(50,fd50),(65,fd65)]) (zE []) (zE []) (zE []) fd44 as44 rs44 nf (x0,x1,())
theorem fdok44:FDOk Tryz.prog (hasN []) (hasN []) 44 fd44:=fdk Tryz.func44 Tryz.ntmps44 Tryz.results44
theorem zRc:FDOk Tryz.prog (hasN []) (hasN []) 50 fd50:=fdk Tryz.func50 Tryz.ntmps50 Tryz.results50
theorem zQn:FDOk Tryz.prog (hasN []) (hasN []) 65 fd65:=fdk Tryz.func65 Tryz.ntmps65 Tryz.results65
end
section
open Go.Al Go.Den
abbrev as7:List (AK UU):=[]
abbrev rs7:List (AK UU):=[.bool]
abbrev as10:List (AK UU):=[.dl TI.mac,.dl TI.tok]
abbrev rs10:List (AK UU):=[.dl TI.tok,.int .i64]
abbrev as11:List (AK UU):=[.dl TI.tok,.dl TI.tok]
abbrev rs11:List (AK UU):=[.bool]
def kf11:Nat->List Nat
 | 0=>[0,1]
 | 1=>[0,1,10]
 | 2=>[4]
 | 3=>[0,1,5]
 | 4=>[0,1,5,14]
 | 5=>[0,1,5]
 | 6=>[0,1,5,25]
 | 7=>[4]
 | 8=>[4]
 | _=>[]
def hd11:List (Nat×Head UU):=[(4,⟨[0,1],[(5,.int .i64)],[]⟩)]
noncomputable def fd11:FD UU:=⟨⟨fun d=>hasN [] d,fun d=>hasN [] d,kf11,zE hd11,zE [],yc [],yd []⟩,zj Tryz.f11,26,[.tmp 4]⟩
noncomputable def run11 (fu:Nat) (nf:Nat->Bool) (x0:List TokT) (x1:List TokT):Option (zf rs11):=
 zAU CC Tb fu 2 (zE []) (zE []) (zE []) (zE []) fd11 as11 rs11 nf (x0,x1,())
theorem fdok11:FDOk Tryz.prog (hasN []) (hasN []) 11 fd11:=fdk Tryz.func11 Tryz.ntmps11 Tryz.results11
end
section
open Go.Al Go.Den
abbrev as50:List (AK UU):=[.ls TI.str,.str]
abbrev rs50:List (AK UU):=[.bool]
def kf27:Nat->List Nat
 | 0=>[0,1]
 | 1=>[0]
 | 2=>[0,5]
 | 3=>[0,5]
 | 4=>[0,4]
 | _=>[]
noncomputable def fd27:FD UU:=⟨⟨fun d=>hasN [] d,fun d=>hasN [] d,kf27,zE [],zE [],yc [],yd []⟩,zj Tryz.f27,40,[.tmp 4]⟩
def kf29:Nat->List Nat
 | 0=>[0,1]
 | 1=>[0,4]
 | _=>[]
noncomputable def fd29:FD UU:=⟨⟨fun d=>hasN [] d,fun d=>hasN [] d,kf29,zE [],zE [],yc [],yd []⟩,zj Tryz.f29,32,[.tmp 4]⟩
def kf30:Nat->List Nat
 | 0=>[0,1]
 | 1=>[0,8]
 | 2=>[0,4]
 | 3=>[0]
 | 4=>[0,4]
 | _=>[]
noncomputable def fd30:FD UU:=⟨⟨fun d=>hasN [] d,fun d=>hasN [] d,kf30,zE [],zE [],yc [],yd []⟩,zj Tryz.f30,17,[.tmp 4]⟩
def kf32:Nat->List Nat
 | 0=>[0]
 | 1=>[0,4]
 | 2=>[2]
 | 3=>[2]
 | _=>[]
noncomputable def fd32:FD UU:=⟨⟨fun d=>hasN [5,7] d,fun d=>hasN [] d,kf32,zE [],zE [],yc [],yd []⟩,zj Tryz.f32,8,[.tmp 2]⟩
def kf33:Nat->List Nat
 | 0=>[1]
 | 1=>[1,2]
 | 2=>[1,2]
 | 3=>[1,2,3]
 | 4=>[1,2,3,16]
 | 5=>[1,2]
 | 6=>[1,2]
 | 7=>[1,2]
 | 8=>[1,2,43]
 | 9=>[1,2]
 | 10=>[1,2,53]
 | 11=>[1,2]
 | 12=>[]
 | _=>[]
def hd33:List (Nat×Head UU):=[(8,⟨[1,2],[],[(1,maK),(2,rlK)]⟩)]
def jn33:List (Nat×Head UU):=[(9,⟨[1,2],[],[(1,maK),(2,rlK)]⟩),(7,⟨[1,2],[],[(1,maK),(2,rlK)]⟩)]
noncomputable def fd33:FD UU:=⟨⟨fun d=>hasN [] d,fun d=>hasN [] d,kf33,zE hd33,zE jn33,yc [(11,[(82,1,1)])],yd []⟩,zj Tryz.f33,92,[]⟩
def kf51:Nat->List Nat
 | 0=>[1,2]
 | 1=>[1,2,10]
 | 2=>[4]
 | 3=>[4]
 | _=>[]
noncomputable def fd51:FD UU:=⟨⟨fun d=>hasN [] d,fun d=>hasN [] d,kf51,zE [],zE [],yc [],yd []⟩,zj Tryz.f51,18,[.tmp 4]⟩
def kf52:Nat->List Nat
 | 0=>[0,1]
 | 1=>[4]
 | _=>[]
noncomputable def fd52:FD UU:=⟨⟨fun d=>hasN [] d,fun d=>hasN [] d,kf52,zE [],zE [],yc [],yd []⟩,zj Tryz.f52,9,[.tmp 4]⟩
def kf53:Nat->List Nat
 | 0=>[1]
 | 1=>[2]
 | _=>[]
noncomputable def fd53:FD UU:=⟨⟨fun d=>hasN [] d,fun d=>hasN [] d,kf53,zE [],zE [],yc [],yd []⟩,zj Tryz.f53,11,[.tmp 2]⟩
def kf66:Nat->List Nat
 | 0=>[0,1]
 | 1=>[0,1,7,8]
 | 2=>[0,1,7,8,9]
 | 3=>[0,1,5,7,8]
 | 4=>[0,1,5,7,8,16]
 | 5=>[4]
 | 6=>[0,1,7,8]
 | 7=>[4]
 | _=>[]
def hd66:List (Nat×Head UU):=[(2,⟨[0,1,7],[(8,.int .i64)],[]⟩)]
noncomputable def fd66:FD UU:=⟨⟨fun d=>hasN [] d,fun d=>hasN [] d,kf66,zE hd66,zE [],yc [],yd []⟩,zj Tryz.f66,19,[.tmp 4]⟩
noncomputable def run29 (fu:Nat) (x:zA ([rlK]:LK)) (a:zA kS):Option (Option (zA ([rlK]:LK)×zA kB)):=
 runP CC Tb fu 2 (zE []) (zE []) (zE []) (zE []) fd29 ([rlK]:LK) ([rlK]:LK) kS kB x a
theorem fdok29:FDOk Tryz.prog (hasN []) (hasN []) 29 fd29:=fdk Tryz.func29 Tryz.ntmps29 Tryz.results29
noncomputable def run30 (fu:Nat) (c29:zA ([rlK]:LK)->zA kS->Option (Option (zA ([rlK]:LK)×zA kB))) (x:zA ([rlK]:LK)) (a:zA kS):Option (Option (zA ([rlK]:LK)×zA kB)):=
 runP CC Tb fu 2 (zE []) (zE []) (zE []) (zE [(29,cP ([rlK]:LK) ([rlK]:LK) kS kB c29)]) fd30 ([rlK]:LK) ([rlK]:LK) kS kB x a
theorem fdok30:FDOk Tryz.prog (hasN []) (hasN []) 30 fd30:=fdk Tryz.func30 Tryz.ntmps30 Tryz.results30
noncomputable def run27 (fu:Nat) (c28:Int) (x:zA ([rlK]:LK)) (a:zA kI):Option (Option (zA ([rlK]:LK)×zA kS)):=
 runP CC Tb fu 2 (zE []) (zE []) (zE []) (zE [(28,cNd c28)]) fd27 ([rlK]:LK) ([rlK]:LK) kI kS x a
theorem fdok27:FDOk Tryz.prog (hasN []) (hasN []) 27 fd27:=fdk Tryz.func27 Tryz.ntmps27 Tryz.results27
noncomputable def run50 (fu:Nat) (nf:Nat->Bool) (x0:List (List UInt8)) (x1:List UInt8):Option (zf rs50):=
 zAU CC Tb fu 3 (zE [(65,fd65)]) (zE []) (zE []) (zE []) fd50 as50 rs50 nf (x0,x1,())
theorem fdok50:FDOk Tryz.prog (hasN []) (hasN []) 50 fd50:=fdk Tryz.func50 Tryz.ntmps50 Tryz.results50
theorem zQq:FDOk Tryz.prog (hasN []) (hasN []) 65 fd65:=fdk Tryz.func65 Tryz.ntmps65 Tryz.results65
noncomputable def run51 (fu:Nat) (nf:Nat->Bool) (x0:MacT) (x1:List UInt8):Option (zf rs51):=
 zAU CC Tb fu 3 (zE [(65,fd65)]) (zE []) (zE []) (zE []) fd51 as51 rs51 nf (x0,x1,())
theorem fdok51:FDOk Tryz.prog (hasN []) (hasN []) 51 fd51:=fdk Tryz.func51 Tryz.ntmps51 Tryz.results51
theorem zPa:FDOk Tryz.prog (hasN []) (hasN []) 65 fd65:=fdk Tryz.func65 Tryz.ntmps65 Tryz.results65
noncomputable def run32 (fu:Nat) (x:zA k0) (a:zA ([.bl TI.tok]:LK)):Option (Option (zA k0×zA ([.arr TI.tok]:LK))):=
 zOq CC Tb fu 2 (zE []) (zE []) (zE []) (zE []) fd32 k0 k0 ([.bl TI.tok]:LK) ([.arr TI.tok]:LK) x a
theorem fdok32:FDOk Tryz.prog (hasN []) (hasN []) 32 fd32:=fdk Tryz.func32 Tryz.ntmps32 Tryz.results32
noncomputable def run33 (fu:Nat) (c51:MacT×List UInt8×Unit->Option (Int×Unit)) (c28:Int) (c29:zA ([rlK]:LK)->zA kS->Option (Option (zA ([rlK]:LK)×zA kB))) (x:zA k0) (a:zA ([.st TI.mac]:LK)):Option (Option (zA k0×zA k0)):=
 runP CC Tb fu 5 (zE [(52,fd52),(53,fd53),(66,fd66)]) (zE [(51,(⟨as51,rs51,c51⟩:Con UU))]) (zE []) (zE [(28,cNd c28),(29,cP ([rlK]:LK) ([rlK]:LK) kS kB c29)]) fd33 k0 k0 ([.st TI.mac]:LK) k0 x a
theorem fdok33:FDOk Tryz.prog (hasN [51]) (hasN []) 33 fd33:=fdk Tryz.func33 Tryz.ntmps33 Tryz.results33
theorem zPt:FDOk Tryz.prog (hasN [51]) (hasN []) 52 fd52:=fdk Tryz.func52 Tryz.ntmps52 Tryz.results52
theorem zPi:FDOk Tryz.prog (hasN [51]) (hasN []) 53 fd53:=fdk Tryz.func53 Tryz.ntmps53 Tryz.results53
theorem zP5:FDOk Tryz.prog (hasN [51]) (hasN []) 66 fd66:=fdk Tryz.func66 Tryz.ntmps66 Tryz.results66
end
section
open Go.Al Go.Den
instance:DecidableEq TokT:=fun a b=>
 if h:a.kind=b.kind/\a.text=b.text/\a.file=b.file/\a.ffrom=b.ffrom/\a.fto=b.fto/\a.blank=b.blank then
  isTrue (by obtain ⟨_,_,_,_,_,_⟩:=a; obtain ⟨_,_,_,_,_,_⟩:=b; simp only at h; obtain ⟨rfl,rfl,rfl,rfl,rfl,rfl⟩:=h; rfl)
 else isFalse fun e=>h (by subst e; exact ⟨rfl,rfl,rfl,rfl,rfl,rfl⟩)
theorem zP7 {P:Program} {f:Nat} {io oo aa rs:List (SK UU)} {sh:zA io->zA aa->Option (Option (zA oo×zA rs))} (h:CPOk CC P syn f ⟨io,oo,aa,rs,fnP sh⟩) (x:zA io) (a:zA aa) (oc:Option (zA oo×zA rs)) (hx:sh x a=some oc) :
 ∀ s vx va r1 r2,VKs CC s io x vx r1->VKs CC s aa a va r2->(r1++r2).Nodup->FnC P f (vx++va) (subS s (r1++r2)) (qo CC syn oo rs vx oc):=by
 cases oc with
 | none=>
  obtain ⟨oc,h1,h2⟩:=h x a (R:=Unit) (some ()) (fun _ _=>none) () (by simp only [fnP,hx]; rfl);cases oc with
  | none=>exact h2
  | some y=>cases h1
 | some y=>
  obtain ⟨oc,h1,h2⟩:=h x a (R:=zA oo×zA rs) none (fun u v=>some (u,v)) y (by simp only [fnP,hx]; rfl);cases oc with
  | none=>cases h1
  | some y'=>
   injection h1 with h1
   have:y' = y:=h1;subst this;exact h2
def outD {β:Type} (l:Str):Option (Option ((RdT×Unit)×β))->Option (β×Int)
 | some (some y)=>if y.1.1.1=l then some (y.2,y.1.1.2.1) else none
 | _=>none
noncomputable def mD {aa rs:LK} (sh:RdT×Unit->zA aa->Option (Option ((RdT×Unit)×zA rs))):zA aa->DD (zA rs):=fun a l i=>outD l (sh ((l,i,()),()) a)
theorem zEl {P:Program} {f:Nat} {aa rs:LK} {sh:zA ([rdK]:LK)->zA aa->Option (Option (zA ([rdK]:LK)×zA rs))} (h:CPOk CC P syn f ⟨[rdK],[rdK],aa,rs,fnP sh⟩):CPOk CC P syn f (cD aa rs (mD sh)):=by
 intro x a R pan K r hr;obtain ⟨⟨l,i,u⟩,u'⟩:=x;have key:∀ oo:Option (Option ((RdT×Unit)×zA rs)),sh ((l,i,()),()) a=oo->(Option.bind (outD l oo) fun y=>K ((l,y.2,()),()) y.1)=some r ->
  ∃ oc:Option (zA ([rdK]:LK)×zA rs),(match oc with | none=>pan=some r | some y=>K y.1 y.2=some r)/\∀ s vx va r1 r2,VKs CC s [rdK] ((l,i,u),u') vx r1->VKs CC s aa a va r2->(r1++r2).Nodup->FnC P f (vx++va) (subS s (r1++r2)) (qo CC syn [rdK] rs vx oc):=by
  intro oo hs hr;cases oo with
  | none=>cases hr
  | some oc=>
   have hh:=zP7 h ((l,i,()),()) a oc hs;cases oc with
   | none=>cases hr
   | some y=>
    obtain ⟨⟨⟨l',i',w⟩,v2⟩,z⟩:=y;unfold outD at hr;simp only at hr;split at hr
    . rename_i hy;subst hy;exact ⟨some (((l',i',()),()),z),hr,hh⟩
    . cases hr
 obtain ⟨oc,h1,h2⟩:=key _ rfl hr;exact ⟨oc,by cases oc <;> exact h1,h2⟩
def outW {β:Type}:Option (Option ((WoT×Unit)×β))->Option (β×MapM×Int)
 | some (some y)=>some (y.2,y.1.1.1,y.1.1.2.1)
 | _=>none
noncomputable def mW {aa rs:LK} (sh:WoT×Unit->zA aa->Option (Option ((WoT×Unit)×zA rs))):zA aa->WW (zA rs):=fun a l i=>outW (sh ((l,i,()),()) a)
theorem cW_of {P:Program} {f:Nat} {aa rs:LK} {sh:zA ([woK]:LK)->zA aa->Option (Option (zA ([woK]:LK)×zA rs))} (h:CPOk CC P syn f ⟨[woK],[woK],aa,rs,fnP sh⟩):CPOk CC P syn f (cW aa rs (mW sh)):=by
 intro x a R pan K r hr;obtain ⟨⟨l,i,u⟩,u'⟩:=x;have key:∀ oo:Option (Option ((WoT×Unit)×zA rs)),sh ((l,i,()),()) a=oo->(Option.bind (outW oo) fun y=>K ((y.2.1,y.2.2,()),()) y.1)=some r ->
  ∃ oc:Option (zA ([woK]:LK)×zA rs),(match oc with | none=>pan=some r | some y=>K y.1 y.2=some r)/\∀ s vx va r1 r2,VKs CC s [woK] ((l,i,u),u') vx r1->VKs CC s aa a va r2->(r1++r2).Nodup->FnC P f (vx++va) (subS s (r1++r2)) (qo CC syn [woK] rs vx oc):=by
  intro oo hs hr;cases oo with
  | none=>cases hr
  | some oc=>
   have hh:=zP7 h ((l,i,()),()) a oc hs;cases oc with
   | none=>cases hr
   | some y=>
    obtain ⟨⟨⟨l',i',w⟩,v2⟩,z⟩:=y;exact ⟨some (((l',i',()),()),z),hr,hh⟩
 obtain ⟨oc,h1,h2⟩:=key _ rfl hr;exact ⟨oc,by cases oc <;> exact h1,h2⟩
theorem zSw {P:Program} {f:Nat} {a r:List (AK UU)}:ConOk CC P f ⟨a,r,fun _=>none⟩:=fun x y hx=>by
 replace hx:(none:Option (zf r))=some y:=hx;cases hx
theorem nn_ok {P:Program} {f:Nat} {a r:List (AK UU)}:ConOk CC P f ⟨a,r,nn a r⟩:=zSw
end
section
open Go.Al Go.Den
def sh29 (fu:Nat) (x:(((Bool×LT)×Unit)×Unit)) (a:(Str×Unit)):(Option (Option ((((Bool×LT)×Unit)×Unit)×(Bool×Unit)))):=cond (ilt 0 (lenI x.1.1.2)) (cond (inB 0 x.1.1.2.length) (cond (ieq (List.getD x.1.1.2 0 tokD).kind 5) (cond (inB 0 x.1.1.2.length) (some (some ((((x.1.1.1,x.1.1.2),()),()),((seq (List.getD x.1.1.2 0 tokD).text a.1),())))) (none)) (some (some ((((x.1.1.1,x.1.1.2),()),()),(false,()))))) (none)) (some (some ((((x.1.1.1,x.1.1.2),()),()),(false,()))))
theorem eq29:@run29 = @sh29:=by kernel_rfl
def sh30 (fu:Nat) (c29:(((Bool×LT)×Unit)×Unit)->(Str×Unit)->(Option (Option ((((Bool×LT)×Unit)×Unit)×(Bool×Unit))))) (x:(((Bool×LT)×Unit)×Unit)) (a:(Str×Unit)):(Option (Option ((((Bool×LT)×Unit)×Unit)×(Bool×Unit)))):=bo (c29 (((x.1.1.1,x.1.1.2),()),()) (a.1,())) fun y1=>cond (!y1.2.1) (some (some ((((y1.1.1.1.1,y1.1.1.1.2),()),()),(false,())))) (cond (inS 1 (lenI y1.1.1.1.2) y1.1.1.1.2.length) (some (some ((((y1.1.1.1.1,(cutL y1.1.1.1.2 1 (lenI y1.1.1.1.2))),()),()),(true,())))) (none))
theorem eq30:@run30 = @sh30:=by kernel_rfl
def sh27 (fu:Nat) (c28:Int) (x:(((Bool×LT)×Unit)×Unit)) (a:(Int×Unit)):(Option (Option ((((Bool×LT)×Unit)×Unit)×(Str×Unit)))):=cond (ilt 0 (lenI x.1.1.2)) (cond (inB 0 x.1.1.2.length) (cond (ieq (List.getD x.1.1.2 0 tokD).kind 1) (cond (inB 0 x.1.1.2.length) (cond (inS 1 (lenI x.1.1.2) x.1.1.2.length) (some (some ((((x.1.1.1,(cutL x.1.1.2 1 (lenI x.1.1.2))),()),()),((List.getD x.1.1.2 0 tokD).text,())))) (none)) (none)) (cond (ieq a.1 c28) (some none) (none))) (none)) (cond (ieq a.1 c28) (some none) (none))
theorem eq27:@run27 = @sh27:=by kernel_rfl
def sh51 (fu:Nat) (nf:Nat->Bool) (x0:MacT) (x1:Str):(Option (Int×Unit)):=cond (MacT.variadic x0) (cond (seq x1 [95,95,86,65,95,65,82,71,83,95,95]) (some ((lenI (MacT.params x0)),())) (iter fu (fun (rec1:((Int×Unit)×Unit)->Option (Int×Unit)) (s1:((Int×Unit)×Unit))=>cond (ilt s1.1.1 (lenI (MacT.params x0))) (cond (inB s1.1.1 (List.length (MacT.params x0))) (cond (seq x1 (List.getD (MacT.params x0) s1.1.1.toNat [])) (some (s1.1.1,())) (rec1 (((iadd .i64 s1.1.1 1),()),()))) (none)) (some ((Neg.neg 1),()))) ((0,()),()))) (iter fu (fun (rec1:((Int×Unit)×Unit)->Option (Int×Unit)) (s1:((Int×Unit)×Unit))=>cond (ilt s1.1.1 (lenI (MacT.params x0))) (cond (inB s1.1.1 (List.length (MacT.params x0))) (cond (seq x1 (List.getD (MacT.params x0) s1.1.1.toNat [])) (some (s1.1.1,())) (rec1 (((iadd .i64 s1.1.1 1),()),()))) (none)) (some ((Neg.neg 1),()))) ((0,()),()))
theorem eq51:@run51 = @sh51:=by kernel_rfl
def sh50 (fu:Nat) (nf:Nat->Bool) (x0:(List Str)) (x1:Str):(Option (Bool×Unit)):=iter fu (fun (rec1:((Int×Unit)×Unit)->Option (Bool×Unit)) (s1:((Int×Unit)×Unit))=>cond (ilt s1.1.1 (lenI x0)) (cond (inB s1.1.1 x0.length) (cond (seq x1 (List.getD x0 s1.1.1.toNat [])) (some ((ile 0 s1.1.1),())) (rec1 (((iadd .i64 s1.1.1 1),()),()))) (none)) (some ((ile 0 (Neg.neg 1)),()))) ((0,()),())
theorem eq50:@run50 = @sh50:=by kernel_rfl
def sh32 (fu:Nat) (x:Unit) (a:((Bool×LT)×Unit)):(Option (Option (Unit×((Option LT)×Unit)))):=cond (nilT (TM.b a.1.1) a.1.2) (some (some ((),(none,())))) (cond (okN 56 (0+a.1.2.length)) (cond (eqN (0+a.1.2.length) (List.length ((List.take 0 [])++a.1.2))) (some (some ((),((some ((List.take 0 [])++a.1.2)),())))) (none)) (none))
theorem eq32:@run32 = @sh32:=by kernel_rfl
def sh33 (fu:Nat) (c51:(MacT×(Str×Unit))->(Option (Int×Unit))) (c28:Int) (c29:(((Bool×LT)×Unit)×Unit)->(Str×Unit)->(Option (Option ((((Bool×LT)×Unit)×Unit)×(Bool×Unit))))) (x:Unit) (a:(MacT×Unit)):(Option (Option (Unit×Unit))):=bo (c29 ((((MacT.body a.1).1,(MacT.body a.1).2),()),()) ([35,35],())) fun y1=>cond (!y1.2.1) (zCG (fun (join0:(Unit×((Str×(Bool×((List Str)×(Bool×((Bool×LT)×Unit)))))×(((Bool×LT)×Unit)×Unit)))->Option (Option (Unit×Unit)))=>cond (ilt 0 (lenI (MacT.body a.1).2)) (cond (inS (isub .i64 (lenI (MacT.body a.1).2) 1) (lenI (MacT.body a.1).2) (List.length (MacT.body a.1).2)) (bo (c29 ((((MacT.body a.1).1,(cutL (MacT.body a.1).2 (isub .i64 (lenI (MacT.body a.1).2) 1) (lenI (MacT.body a.1).2))),()),()) ([35,35],())) fun y3=>cond (!y3.2.1) (join0 ((),(((MacT.name a.1),((MacT.func a.1),((MacT.params a.1),((MacT.variadic a.1),(((MacT.body a.1).1,(MacT.body a.1).2),()))))),(((y3.1.1.1.1,y3.1.1.1.2),()),())))) (cond (ieq 63 c28) (some none) (none))) (none)) (join0 ((),(((MacT.name a.1),((MacT.func a.1),((MacT.params a.1),((MacT.variadic a.1),(((MacT.body a.1).1,(MacT.body a.1).2),()))))),(((y1.1.1.1.1,y1.1.1.1.2),()),()))))) (fun (t0:(Unit×((Str×(Bool×((List Str)×(Bool×((Bool×LT)×Unit)))))×(((Bool×LT)×Unit)×Unit))))=>iter fu (fun (rec1:(Unit×((Str×(Bool×((List Str)×(Bool×((Bool×LT)×Unit)))))×(((Bool×LT)×Unit)×Unit)))->Option (Option (Unit×Unit))) (s1:(Unit×((Str×(Bool×((List Str)×(Bool×((Bool×LT)×Unit)))))×(((Bool×LT)×Unit)×Unit))))=>cond s1.2.1.2.1 (cond (ilt 0 (lenI s1.2.2.1.1.2)) (zCG (fun (join0:(Unit×((Str×(Bool×((List Str)×(Bool×((Bool×LT)×Unit)))))×(((Bool×LT)×Unit)×Unit)))->Option (Option (Unit×Unit)))=>bo (c29 (((s1.2.2.1.1.1,s1.2.2.1.1.2),()),()) ([35],())) fun y3=>cond y3.2.1 (cond (ilt 1 (lenI y3.1.1.1.2)) (cond (inB 1 y3.1.1.1.2.length) (cond (ieq (List.getD y3.1.1.1.2 1 tokD).kind 1) (cond (inB 1 y3.1.1.1.2.length) (Option.bind (c51 ((MacT.mk s1.2.1.1 s1.2.1.2.1 s1.2.1.2.2.1 s1.2.1.2.2.2.1 (s1.2.1.2.2.2.2.1.1,s1.2.1.2.2.2.2.1.2)),((List.getD y3.1.1.1.2 1 tokD).text,()))) fun y4=>cond (ile 0 y4.1) (join0 ((),((s1.2.1.1,(s1.2.1.2.1,(s1.2.1.2.2.1,(s1.2.1.2.2.2.1,((s1.2.1.2.2.2.2.1.1,s1.2.1.2.2.2.2.1.2),()))))),(((y3.1.1.1.1,y3.1.1.1.2),()),())))) (cond (ieq 64 c28) (some none) (none))) (none)) (cond (ieq 64 c28) (some none) (none))) (none)) (cond (ieq 64 c28) (some none) (none))) (join0 ((),((s1.2.1.1,(s1.2.1.2.1,(s1.2.1.2.2.1,(s1.2.1.2.2.2.1,((s1.2.1.2.2.2.2.1.1,s1.2.1.2.2.2.2.1.2),()))))),(((y3.1.1.1.1,y3.1.1.1.2),()),()))))) (fun (t1:(Unit×((Str×(Bool×((List Str)×(Bool×((Bool×LT)×Unit)))))×(((Bool×LT)×Unit)×Unit))))=>cond (inS 1 (lenI t1.2.2.1.1.2) t1.2.2.1.1.2.length) (rec1 ((),((t1.2.1.1,(t1.2.1.2.1,(t1.2.1.2.2.1,(t1.2.1.2.2.2.1,((t1.2.1.2.2.2.2.1.1,t1.2.1.2.2.2.2.1.2),()))))),(((t1.2.2.1.1.1,(cutL t1.2.2.1.1.2 1 (lenI t1.2.2.1.1.2))),()),())))) (none))) (cond s1.2.1.2.2.2.1 (some (some ((),()))) (iter fu (fun (rec2:((Int×Unit)×Unit)->Option (Option (Unit×Unit))) (s2:((Int×Unit)×Unit))=>cond (ilt s2.1.1 (lenI s1.2.1.2.2.2.2.1.2)) (cond (inB s2.1.1 s1.2.1.2.2.2.2.1.2.length) (cond (ieq (List.getD s1.2.1.2.2.2.2.1.2 s2.1.1.toNat tokD).kind 1) (cond (seq (List.getD s1.2.1.2.2.2.2.1.2 s2.1.1.toNat tokD).text [95,95,86,65,95,65,82,71,83,95,95]) (cond (!(ile 0 s2.1.1)) (some (some ((),()))) (cond (ieq 65 c28) (some none) (none))) (rec2 (((iadd .i64 s2.1.1 1),()),()))) (rec2 (((iadd .i64 s2.1.1 1),()),()))) (none)) (cond (!(ile 0 (Neg.neg 1))) (some (some ((),()))) (cond (ieq 65 c28) (some none) (none)))) ((0,()),())))) (cond s1.2.1.2.2.2.1 (some (some ((),()))) (iter fu (fun (rec2:((Int×Unit)×Unit)->Option (Option (Unit×Unit))) (s2:((Int×Unit)×Unit))=>cond (ilt s2.1.1 (lenI s1.2.1.2.2.2.2.1.2)) (cond (inB s2.1.1 s1.2.1.2.2.2.2.1.2.length) (cond (ieq (List.getD s1.2.1.2.2.2.2.1.2 s2.1.1.toNat tokD).kind 1) (cond (seq (List.getD s1.2.1.2.2.2.2.1.2 s2.1.1.toNat tokD).text [95,95,86,65,95,65,82,71,83,95,95]) (cond (!(ile 0 s2.1.1)) (some (some ((),()))) (cond (ieq 65 c28) (some none) (none))) (rec2 (((iadd .i64 s2.1.1 1),()),()))) (rec2 (((iadd .i64 s2.1.1 1),()),()))) (none)) (cond (!(ile 0 (Neg.neg 1))) (some (some ((),()))) (cond (ieq 65 c28) (some none) (none)))) ((0,()),())))) ((),((t0.2.1.1,(t0.2.1.2.1,(t0.2.1.2.2.1,(t0.2.1.2.2.2.1,((t0.2.1.2.2.2.2.1.1,t0.2.1.2.2.2.2.1.2),()))))),(((t0.2.1.2.2.2.2.1.1,t0.2.1.2.2.2.2.1.2),()),()))))) (cond (ieq 63 c28) (some none) (none))
theorem eq33:@run33 = @sh33:=by kernel_rfl
theorem con29 (fu:Nat) {sy:List PanicEntry} :CPOk CC Tryz.prog sy 29 (cP ([rlK]:LK) ([rlK]:LK) kS kB (sh29 fu)):=
 rpk zI zI zI zI fdok29 rfl (fun x a=>by rw [<- eq29]; rfl)
theorem con30 (fu:Nat) {sy:List PanicEntry} (c29:zA ([rlK]:LK)->zA kS->Option (Option (zA ([rlK]:LK)×zA kB))) (h29:CPOk CC Tryz.prog sy 29 (cP ([rlK]:LK) ([rlK]:LK) kS kB c29)):CPOk CC Tryz.prog sy 30 (cP ([rlK]:LK) ([rlK]:LK) kS kB (sh30 fu c29)):=
 rpk zI zI zI (zQ ⟨zLo,h29⟩ zI) fdok30 rfl (fun x a=>by rw [<- eq30]; rfl)
theorem con27 (fu:Nat) (c28:Int) (h28:CPOk CC Tryz.prog (sE c28) 28 (cNd c28)):CPOk CC Tryz.prog (sE c28) 27 (cP ([rlK]:LK) ([rlK]:LK) kI kS (sh27 fu c28)):=
 rpk zI zI zI (zQ ⟨ju,h28⟩ zI) fdok27 rfl (fun x a=>by rw [<- eq27]; rfl)
theorem con50 (fu:Nat) :ConOk CC Tryz.prog 50 ⟨as50,rs50,fun x=>sh50 fu (fun _=>false) x.1 x.2.1⟩:=
 rfk (lo:=[]) (lr:=[]) (zQ zQq zI) zI zI zI fdok50 rfl (qM rfl) (fun nf x=>by show run50 fu nf x.1 x.2.1=_; rw [eq50]; rfl)
theorem con51 (fu:Nat) :ConOk CC Tryz.prog 51 ⟨as51,rs51,fun x=>sh51 fu (fun _=>false) x.1 x.2.1⟩:=
 rfk (lo:=[]) (lr:=[]) (zQ zPa zI) zI zI zI fdok51 rfl (qM rfl) (fun nf x=>by show run51 fu nf x.1 x.2.1=_; rw [eq51]; rfl)
theorem con32 (fu:Nat) {sy:List PanicEntry} :CPOk CC Tryz.prog sy 32 (cP k0 k0 ([.bl TI.tok]:LK) ([.arr TI.tok]:LK) (sh32 fu)):=
 zRl (syn:=sy) (fu:=fu) (d:=2) (inl:=zE []) (orc:=zE []) (orr:=zE []) (orp:=zE []) (pf:=hasN []) (rf:=hasN []) zKP CCok mixed (fun g=>(qJ (α:=Con UU) (l:=[]) g).symm) (fun g=>(qJ (α:=CR UU) (l:=[]) g).symm) zI zI zI zI fdok32 (by show (k0:LK).length+(([.bl TI.tok]:LK):LK).length<=8; decide) (fun x a=>by show run32 fu x a=sh32 fu x a; rw [eq32])
theorem con33 (fu:Nat) (c51:zf as51->Option (zf rs51)) (h51:ConOk CC Tryz.prog 51 ⟨as51,rs51,c51⟩) (c28:Int) (h28:CPOk CC Tryz.prog (sE c28) 28 (cNd c28)) (c29:zA ([rlK]:LK)->zA kS->Option (Option (zA ([rlK]:LK)×zA kB))) (h29:CPOk CC Tryz.prog (sE c28) 29 (cP ([rlK]:LK) ([rlK]:LK) kS kB c29)):CPOk CC Tryz.prog (sE c28) 33 (cP k0 k0 ([.st TI.mac]:LK) k0 (sh33 fu c51 c28 c29)):=
 rpk (lo:=[(51,(⟨as51,rs51,c51⟩:Con UU))]) (lr:=[]) (zQ zPt (zQ zPi (zQ zP5 zI))) (zQ (OrcOk.of ⟨code51,h51⟩ rfl) zI) zI (zQ ⟨ju,h28⟩ (zQ ⟨zLo,h29⟩ zI)) fdok33 rfl (fun x a=>by rw [<- eq33]; rfl)
end
end Go.Proofs.YtfjiiknfopmcjaaGreatDoor
namespace Go.Al
section
open Go.RowKit
def Mps (ob:List (Nat×OV×List Nat)):List Nat->List MC->Prop
 | [],xs=>xs=[]
 | j::bs,xs=>∃ c cs,xs=c::cs/\zN ob j=some (.mp c,[j])/\Mps ob bs cs
theorem MMems.length {g:Gh} {w:World}:∀ {bs:List Nat} {xs:List MC},MMems g w bs xs->bs.length=xs.length
 | [],_,h=>by rw [show _=[] from h]; rfl
 | b::bs,_,⟨c,cs,rfl,_,h3⟩=>by simp [h3.length]
theorem Mps.length {ob:List (Nat×OV×List Nat)}:∀ {bs:List Nat} {xs:List MC},Mps ob bs xs->bs.length=xs.length
 | [],_,h=>by rw [show _=[] from h]; rfl
 | b::bs,_,⟨c,cs,rfl,_,h3⟩=>by simp [h3.length]
theorem Mps.mem {ob:List (Nat×OV×List Nat)}:∀ {bs:List Nat} {xs:List MC},Mps ob bs xs->∀ j ∈ bs,∃ c,zN ob j=some (.mp c,[j])
 | [],_,_,j,hj=>by cases hj
 | b::bs,_,⟨c,cs,_,h2,h3⟩,j,hj=>by
  rcases List.mem_cons.1 hj with rfl | hj
  . exact ⟨c,h2⟩
  . exact h3.mem j hj
theorem Mps.mems {B:Nat} {g:Gh} {st:S} {w:World} (hi:Inv B g st w):∀ {bs:List Nat} {xs:List MC},Mps st.ob bs xs->MMems g w bs xs
 | [],_,h=>h
 | b::bs,_,⟨c,cs,h1,h2,h3⟩=>⟨c,cs,h1,by
  have:=(hi.ex.ob b _ _ h2).1;exact this.2,Mps.mems hi h3⟩
def mcs (bs:List Nat):List V:=bs.map fun j=>.at (.map (some j))
theorem zQK {g:Gh} {w:World}:∀ {bs:List Nat} {us:List Value},RCs g w (mcs bs) us->us=bs.map fun j=>Value.map (some j)
 | [],us,h=>by simpa [mcs,RCs] using h
 | b::bs,us,h=>by
  simp only [mcs,List.map_cons,RCs] at h;obtain ⟨u1,u2,rfl,h1,h2⟩:=h;simp only [RC] at h1;rw [h1.1,zQK h2]; rfl
def zKU (st:S) (b:Nat) (bs:List Nat) (xs:List MC) (cap:Nat):S:=⟨wipe st.box b,st.tg,st.nx,(b,.sc xs cap,b::bs)::st.ob.filter fun p=>!(bs.contains p.1)⟩
theorem zOo (st:S) (b:Nat) (bs:List Nat) (xs:List MC) (cap j:Nat):zN (zKU st b bs xs cap).ob j=if b=j then some (.sc xs cap,b::bs) else if j ∈ bs then none else zN st.ob j:=by
 show zN ((b,.sc xs cap,b::bs)::st.ob.filter fun p=>(fun k=>!(bs.contains k)) p.1) j=_;rw [zl,show zN (st.ob.filter fun p=>(fun k=>!(bs.contains k)) p.1) j=_ from zBD (fun k=>!(bs.contains k)) st.ob j];by_cases e:b=j
 . rw [if_pos e,if_pos e]
 . rw [if_neg e,if_neg e];by_cases e2:j ∈ bs <;> simp [e2]
theorem Inv.pack {B:Nat} {g:Gh} {st:S} {w:World} (hi:Inv B g st w) {b cap:Nat} {bs:List Nat} {xs:List MC} (hb:look st.box b=some (mcs bs,cap)) (hn:bs.Nodup) (hm:Mps st.ob bs xs):Inv B g (zKU st b bs xs cap) w:=by
 obtain ⟨p1,p2,p3,p4,arr,el,us,p5,p6,p7,p8⟩:=hi.box b _ _ hb;have hus:=zQK p7;have hne:∀ j ∈ bs,j≠b:=fun j hj e=>by
  obtain ⟨c,h⟩:=hm.mem j hj;have:=((hi.ex.ob j _ _ h).2.2 j (by simp)).2.2.2.1;rw [e,hb] at this; cases this
 have hlook:∀ j,look st.box j=none->look (zKU st b bs xs cap).box j=none:=fun j hj=>by
  show look (wipe st.box b) j=none;rw [yr]; split
  . rfl
  . exact hj
 have hcase:∀ {b' o' fp'},zN (zKU st b bs xs cap).ob b' = some (o',fp')->(b' = b/\o' = .sc xs cap/\fp' = b::bs)\/(zN st.ob b' = some (o',fp')/\b'≠b/\b' ∉ bs):=fun {b' o' fp'} h=>by
  rw [zOo] at h;by_cases e:b=b'
  . subst e;rw [if_pos rfl] at h;injection h with h
    obtain ⟨h1,h2⟩:=Prod.mk.inj h;exact .inl ⟨rfl,h1.symm,h2.symm⟩
  . rw [if_neg e] at h;by_cases e2:b' ∈ bs
    . rw [if_pos e2] at h; cases h
    . rw [if_neg e2] at h; exact .inr ⟨h,Ne.symm e,e2⟩
 have hshare:∀ b' o' fp',zN st.ob b' = some (o',fp')->b' ∉ bs->∀ j ∈ b::bs,j ∉ fp':=fun b' o' fp' h1 h2 j hj hj'=>by
  rcases List.mem_cons.1 hj with rfl | hj
  . exact (hi.boxFr hb).2 b' o' fp' h1 hj'
  . obtain ⟨c,h⟩:=hm.mem j hj;have:=hi.ex.obd b' o' fp' j _ _ j h1 h hj' (by simp);subst this;exact h2 hj
 refine ⟨hi.base,?_,hi.tag,?_,hi.dist,hi.nodup,hi.fresh,hi.names,?_,?_,?_,hi.ex.ft⟩
 . intro b' cs' k' h;replace h:look (wipe st.box b) b' = some (cs',k'):=h;rw [yr] at h;split at h
   . cases h
   . exact hi.box b' cs' k' h
 . intro t ht b' cap' n sz hb';obtain ⟨r1,r2,r3,r4,r5,r6⟩:=hi.own t ht b' cap' n sz hb';exact ⟨r1,r2,r3,r4,hlook b' r5,r6⟩
 . intro b' hb';obtain ⟨r1,r2,r3⟩:=hi.ex.frz b' hb';exact ⟨r1,hlook b' r2,r3⟩
 . intro b' o' fp' h;rcases hcase h with ⟨rfl,rfl,rfl⟩ | ⟨h1,h2,h3⟩
   . refine ⟨⟨bs,arr,el,rfl,List.nodup_cons.2 ⟨fun h=>hne b' h rfl,hn⟩,p5,p6,by simpa [mcs] using p3,by rw [<- hus,<- p8]; simp [mcs],Mps.mems hi hm⟩,by simp,fun j hj=>?_⟩;rcases List.mem_cons.1 hj with rfl | hj
     . refine ⟨p1,(Array.getElem?_eq_some_iff.1 p5).1,p2,by show look (wipe st.box j) j=none; rw [yr,if_pos rfl],fun t ht d hd=>?_,(hi.boxFr hb).1⟩;obtain ⟨d1,d2,d3⟩:=d;have:=(hi.own t ht j d1 d2 d3 hd).2.2.2.2.1;rw [hb] at this; cases this
     . obtain ⟨c,h⟩:=hm.mem j hj;obtain ⟨r1,r2,r3,r4,r5,r6⟩:=(hi.ex.ob j _ _ h).2.2 j (by simp);exact ⟨r1,r2,r3,hlook j r4,r5,r6⟩
   . obtain ⟨q1,q2,q3⟩:=hi.ex.ob b' o' fp' h1;refine ⟨q1,q2,fun j hj=>?_⟩;obtain ⟨r1,r2,r3,r4,r5,r6⟩:=q3 j hj;exact ⟨r1,r2,r3,hlook j r4,r5,r6⟩
 . intro b1 o1 fp1 b2 o2 fp2 j e1 e2 m1 m2;rcases hcase e1 with ⟨rfl,_,rfl⟩ | ⟨h5,h6,h6'⟩ <;> rcases hcase e2 with ⟨rfl,_,rfl⟩ | ⟨h7,h8,h8'⟩
   . rfl
   . exact absurd m2 (hshare b2 o2 fp2 h7 h8' j m1)
   . exact absurd m1 (hshare b1 o1 fp1 h5 h6' j m2)
   . exact hi.ex.obd b1 o1 fp1 b2 o2 fp2 j h5 h7 m1 m2
section
variable {P:Program} {L:Pol} {ds:List (Option Nat)} {KP:List PanicEntry->S->Prop} {os:List Oper} {K:Env->S->Prop} {e:Env} {st:S}
variable {d:Option Nat} {ty:TypeId} {pos:String} {af:Array Edge}
theorem xK (x:Operand):AL P L ds KP (⟨d,.move x,ty,pos,af,none⟩::os) K e st=AL P L ds KP os K (e.putO d (e.ev x)) st:=propext Iff.rfl
theorem zBJ (op:BinOp) (t:TypeId) (x y:Operand) (t2:TypeId):AL P L ds KP (⟨d,.binOp op t x y t2,ty,pos,af,none⟩::os) K e st=zBj P op t (zGB y) (e.ev x) (e.ev y) fun v=>AL P L ds KP os K (e.putO d v) st:=propext Iff.rfl
theorem AL_un0 (op:UnOp) (t:TypeId) (x:Operand):AL P L ds KP (⟨d,.unOp op t x,ty,pos,af,none⟩::os) K e st=aUn op (e.ev x) fun v=>AL P L ds KP os K (e.putO d v) st:=propext Iff.rfl
theorem yS (t:TypeId) (x:Operand) (f:Nat):AL P L ds KP (⟨d,.fieldAddr t x f,ty,pos,af,none⟩::os) K e st=yP P t (e.ev x) f fun v=>AL P L ds KP os K (e.putO d v) st:=propext Iff.rfl
theorem jp (t:TypeId) (x i:Operand):AL P L ds KP (⟨d,.indexAddr t x i,ty,pos,af,none⟩::os) K e st=yZ P t (e.ev x) (e.ev i) fun v=>AL P L ds KP os K (e.putO d v) st:=propext Iff.rfl
theorem kT (x:Operand):AL P L ds KP (⟨d,.nilCheck x,ty,pos,af,none⟩::os) K e st=xF (e.ev x) fun v=>AL P L ds KP os K (e.putO d v) st:=propext Iff.rfl
theorem zF1 (t:TypeId) (x:Operand):AL P L ds KP (⟨d,.call ⟨.builtin .len,#[x],#[t]⟩,ty,pos,af,none⟩::os) K e st=aLen P t (e.ev x) fun v=>AL P L ds KP os K (e.putO d v) st:=propext Iff.rfl
theorem zKB (t:TypeId) (m k y:Operand):AL P L ds KP (⟨d,.mapUpdate t m k y,ty,pos,af,none⟩::os) K e st=xl P st t (e.ev m) (e.ev k) (e.ev y) fun st'=>AL P L ds KP os K (e.putO d .any) st':=propext Iff.rfl
theorem zGg (t:TypeId):AL P L ds KP (⟨d,.makeMap t none,ty,pos,af,none⟩::os) K e st=(true=true/\zER st fun v st'=>AL P L ds KP os K (e.putO d v) st'):=propext Iff.rfl
theorem zHv {t:TypeId} {ps:List (Nat×V)} {cs cs':List V} (h1:zDI P t=true) (h2:yN P t=some cs) (h3:zA5 (zBa P t) cs ps=some cs') {K:V->Prop} (hK:K (.agg cs')):zCc P t ps K:=.inl ⟨h1,by rw [h2]; simp only [h3]; exact hK⟩
end
end
end Go.Al
section
namespace Go.Al
open Go.RowKit
def awpG (P:Program) (X:Cx) (n:Nat) (c:Code) (Q:Exit->Act->World->Prop) (g0:Gh) (w0:World) (e:Env) (st:S):Prop:=
 ∀ g a w,Step X.B g0 w0 g w->Rel X g e st a w->c.wpIn Fence.wide n P Q a w
theorem zJ1 {P:Program} {B n:Nat} {N:NF} {df:List Deferred} {c:Code} {Q:Exit->Env->S->Prop} {e:Env} {st:S} (h:awp P ⟨B,N,none,df⟩ c Q e st) {g:Gh} {a:Act} {w:World} (hr:Rel ⟨B,N,none,df⟩ g e st a w) :
 c.wpIn Fence.wide n P (fun ex a' w'=>∃ g' e' st',Step B g w g' w'/\Rel ⟨B,N,none,df⟩ g' e' st' a' w'/\Q ex e' st') a w:=wpIn_wide.2 (wpIn_wide.1 (h g a w hr))
theorem zGs {P:Program} {B n:Nat} {N:NF} {df:List Deferred} {x y:Code} {Q:Exit->Act->World->Prop} {g0:Gh} {w0:World} {e:Env} {st:S}
 (h:awp P ⟨B,N,none,df⟩ x (zDP (fun e st=>awpG P ⟨B,N,none,df⟩ n y Q g0 w0 e st) (fun _ _ _=>False)) e st):awpG P ⟨B,N,none,df⟩ n (.seq x y) Q g0 w0 e st:=fun g a w hs hr=>by
 refine wpIn_seq (wpIn_mono (zJ1 h hr) ?_);rintro ex a' w' ⟨g',e',st',k1,k2,k3⟩;cases ex with
 | normal=>exact k3 g' a' w' (hs.trans k1) k2
 | ret=>exact k3.elim
 | exit _=>exact k3.elim
 | panic _=>exact k3.elim
 | goto _=>exact k3.elim
 | outgrown=>exact k3.elim
theorem zQb {P:Program} {X:Cx} {n:Nat} {x y:Code} {Q:Exit->Act->World->Prop} {g0:Gh} {w0:World} {e:Env} {st:S}
 (h:awpG P X n x (Exit.then (y.wpIn Fence.wide n P Q) Q) g0 w0 e st):awpG P X n (.seq x y) Q g0 w0 e st:=fun g a w hs hr=>wpIn_seq (h g a w hs hr)
theorem zRz {P:Program} {X:Cx} {n:Nat} {c:Code} {Q:Exit->Act->World->Prop} {g0:Gh} {w0:World} {e:Env} {st:S} (φ:S->Prop) (hφ:φ st) (h:∀ st,φ st->awpG P X n c Q g0 w0 e st):awpG P X n c Q g0 w0 e st:=h st hφ
end Go.Al
namespace Go.Den
open Go.Al
structure RestOk (s s':S) (rs rs':List Res):Prop where
 box:∀ b c,.inr b ∉ rs->Al.look s.box b=some c->Al.look s'.box b=some c/\.inr b ∉ rs'
 ob:∀ b c,.ob b ∉ rs->zN s.ob b=some c->zN s'.ob b=some c/\.ob b ∉ rs'
 tg:∀ t,.inl t ∉ rs->t ∈ s.tg->t ∈ s'.tg
theorem qO {P:Program} {f:FuncId} {ar:List V} {Q Q':Outc->S->Prop} {s:S} (h:FnC P f ar s Q) (hq:∀ oc s',Q oc s'->Q' oc s'):FnC P f ar s Q':=fun B g w vs hi hgl hv=>
 (h B g w vs hi hgl hv).mono fun e w' ⟨g',s',k1,k2,k3⟩=>by
  refine ⟨g',s',k1,k2,?_⟩;cases e with
  | outgrown=>exact k3.elim
  | panicked c=>exact hq _ _ k3
  | returned v=>obtain ⟨r,k4,k5⟩:=k3; exact ⟨r,k4,hq _ _ k5⟩
section
variable {U:TyU} {C:Cod U}
theorem zT0 {P:Program} {syn:List PanicEntry} {f:Nat} {c:CP U} (h:CPOk C P syn f c) {x:zA c.io} {a:zA c.as} {y:zA c.oo×zA c.rs} (hy:c.fn x a (none:Option (zA c.oo×zA c.rs)) (fun u v=>some (u,v))=some y)
 {s:S} {vx va:List V} {r1 r2:List Res} (h1:VKs C s c.io x vx r1) (h2:VKs C s c.as a va r2) (hn:(r1++r2).Nodup) :
 FnC P f (vx++va) s fun oc s'=>∃ ws q1 q2,oc = .ret (finV ws)/\VKs C s' c.oo y.1 vx q1/\VKs C s' c.rs y.2 ws q2/\(q1++q2).Nodup/\RestOk s s' (r1++r2) (q1++q2):=by
 obtain ⟨oc,k1,k2⟩:=h x a none (fun u v=>some (u,v)) y hy;cases oc with
 | none=>cases k1
 | some y'=>
  injection k1 with k1
  subst k1;have hin:∀ z ∈ r1++r2,InS s z:=fun z hz=>by
   rcases List.mem_append.1 hz with hz | hz
   . exact jX c.io x h1 z hz
   . exact jX c.as a h2 z hz
  refine qO (zDA (k2 s vx va r1 r2 h1 h2 hn) (zB1 hn hin)) ?_;rintro oc s' ⟨s1,hp,rfl,hap⟩;cases oc with
  | pan e=>exact hp.elim
  | ret w=>
   obtain ⟨ws,q1,q2,p1,p2,p3,rfl⟩:=hp;have q1in:=jX c.oo y'.1 p1;have q2in:=jX c.rs y'.2 p2;have hin1:∀ z ∈ q1++q2,InS s1 z:=fun z hz=>by
    rcases List.mem_append.1 hz with hz | hz
    . exact q1in z hz
    . exact q2in z hz
   refine ⟨ws,q1,q2,rfl,xW c.oo y'.1 p1 (zAF _ _ _ _),xW c.rs y'.2 p2 (zAF _ _ _ _),p3,fun b c hb hl=>?_,fun b c hb hl=>?_,fun b hb hl=>?_⟩
   . obtain ⟨e1,e2⟩:=zBy hap hb hl;refine ⟨e1,fun hm=>?_⟩;obtain ⟨d,hd⟩:=hin1 _ hm;rw [e2] at hd; cases hd
   . obtain ⟨e1,e2⟩:=zEH hap hb hl;refine ⟨e1,fun hm=>?_⟩;obtain ⟨d,hd⟩:=hin1 _ hm;rw [e2] at hd; cases hd
   . exact (zGR hap hb hl).1
end
end Go.Den
end
section
namespace Go.Proofs
open Go.Shelf
def Tryz.lays137_ren:Go.Shelf.Ren:=⟨fun | 137=>37 | 217=>56 | 266=>68 | n=>n,fun | 9=>9 | 5=>5 | 3=>3 | n=>n,fun | n=>n⟩
theorem Tryz.lays137:Go.Proofs.Lays.n137 Tryz.prog Tryz.lays137_ren:={
 mixed:=by kernel_rfl
 f137:=Tryz.func37.trans (congrArg some (by kernel_rfl))
 f217:=Tryz.func56.trans (congrArg some (by kernel_rfl))
 f266:=Tryz.func68.trans (congrArg some (by kernel_rfl))
 t3:=Tryz.underlying3
 a3:=Tryz.isAgg3
 z3:=Tryz.sizeOf3
 v3:=Tryz.zeroValue3
 t5:=Tryz.underlying5
 a5:=Tryz.isAgg5
 z5:=Tryz.sizeOf5
 v5:=Tryz.zeroValue5
 t9:=Tryz.underlying9
 a9:=Tryz.isAgg9
 z9:=Tryz.sizeOf9
 v9:=Tryz.zeroValue9 }
open Go.RowKit in
theorem Tryz.strings_IndexByte (s:ByteArray) (c:Int) (w:World) :
 Calls Tryz.prog 37 #[.string s,.int .u8 c] w fun e w'=>e = .returned (.int .i64 (Lib.indexByte s.data.toList c.toNat.toUInt8))/\w' = w:=Any.strings_IndexByte Tryz.lays137 s c w
def Tryz.lays143_ren:Go.Shelf.Ren:=⟨fun | 143=>38 | 219=>57 | 217=>56 | 225=>69 | 224=>70 | 267=>71 | 266=>68 | 314=>79 | n=>n,fun | 9=>9 | 3=>3 | 4=>4 | 5=>5 | 46=>116 | 146=>124 | 51=>123 | n=>n,fun | 1=>1 | n=>n⟩
theorem Tryz.lays143:Go.Proofs.Lays.n143 Tryz.prog Tryz.lays143_ren:={
 mixed:=by kernel_rfl
 f143:=Tryz.func38.trans (congrArg some (by kernel_rfl))
 f217:=Tryz.func56.trans (congrArg some (by kernel_rfl))
 f219:=Tryz.func57.trans (congrArg some (by kernel_rfl))
 f224:=Tryz.func70.trans (congrArg some (by kernel_rfl))
 f225:=Tryz.func69.trans (congrArg some (by kernel_rfl))
 f266:=Tryz.func68.trans (congrArg some (by kernel_rfl))
 f267:=Tryz.func71.trans (congrArg some (by kernel_rfl))
 f314:=Tryz.func79.trans (congrArg some (by kernel_rfl))
 t3:=Tryz.underlying3
 a3:=Tryz.isAgg3
 z3:=Tryz.sizeOf3
 v3:=Tryz.zeroValue3
 t4:=Tryz.underlying4
 a4:=Tryz.isAgg4
 z4:=Tryz.sizeOf4
 v4:=Tryz.zeroValue4
 t5:=Tryz.underlying5
 a5:=Tryz.isAgg5
 z5:=Tryz.sizeOf5
 v5:=Tryz.zeroValue5
 t9:=Tryz.underlying9
 a9:=Tryz.isAgg9
 z9:=Tryz.sizeOf9
 v9:=Tryz.zeroValue9
 t46:=Tryz.underlying116
 a46:=Tryz.isAgg116
 z46:=Tryz.sizeOf116
 v46:=Tryz.zeroValue116
 t51:=Tryz.underlying123
 a51:=Tryz.isAgg123
 z51:=Tryz.sizeOf123
 v51:=Tryz.zeroValue123
 t146:=Tryz.underlying124
 a146:=Tryz.isAgg124
 z146:=Tryz.sizeOf124
 v146:=Tryz.zeroValue124
 g1:=by kernel_rfl }
open Go.RowKit Go.Lib in
theorem Tryz.strings_Index (s sub:ByteArray) (m:Int) (w:World) (hs:s.size < 4294967281) (hm:w.cell? ⟨1,0,none⟩=some (.int .i64 m)) :
 Calls Tryz.prog 38 #[.string s,.string sub] w fun e w'=>e = .returned (.int .i64 (Lib.index s.data.toList sub.data.toList))/\w' = w:=Any.strings_Index Tryz.lays143 s sub m w hs hm
def Tryz.lays99_ren:Go.Shelf.Ren:=⟨fun | 99=>55 | 206=>67 | n=>n,fun | 9=>9 | 4=>4 | 3=>3 | n=>n,fun | n=>n⟩
theorem Tryz.lays99:Go.Proofs.Lays.n99 Tryz.prog Tryz.lays99_ren:={
 mixed:=by kernel_rfl
 f99:=Tryz.func55.trans (congrArg some (by kernel_rfl))
 f206:=Tryz.func67.trans (congrArg some (by kernel_rfl))
 t3:=Tryz.underlying3
 a3:=Tryz.isAgg3
 z3:=Tryz.sizeOf3
 v3:=Tryz.zeroValue3
 t4:=Tryz.underlying4
 a4:=Tryz.isAgg4
 z4:=Tryz.sizeOf4
 v4:=Tryz.zeroValue4
 t9:=Tryz.underlying9
 a9:=Tryz.isAgg9
 z9:=Tryz.sizeOf9
 v9:=Tryz.zeroValue9 }
open Go.RowKit Go.Lib in
theorem Tryz.strings_HasPrefix (s p:ByteArray) (w:World) :
 Calls Tryz.prog 55 #[.string s,.string p] w fun e w'=>e = .returned (.bool (Lib.hasPrefix s.data.toList p.data.toList))/\w' = w:=Any.strings_HasPrefix Tryz.lays99 s p w
end Go.Proofs
namespace Go.Proofs.YtfjiiknfopmcjaaGreatDoor
open Go.Al Go.Den Go.RowKit Go.Sort
theorem zMy {B:Nat} {wm:Nat->Nat} {w:World} (h:GlobOk B wm w):∃ m,w.cell? ⟨1,0,none⟩=some (.int .i64 m):=by
 obtain ⟨h0,arr,el,m,h1,z,h2⟩:=h.one (1,fun us=>∃ m,us=[.int .i64 m]) (by simp [zO3]);refine ⟨z,?_⟩;unfold World.cell?;replace h1:w.heap[1]? = some (.cells arr el m):=h1;simp only [h1];have:arr=[Value.int .i64 z].toArray:=by rw [<- h2]
 rw [this];rfl
theorem zAX {wm:Nat->Nat} {w w':World} (hwm:∀ b,w.heap.size<=b->wm b=0) (hb:Below w.heap.size w w') :
 (∀ b,w'.heap.size<=b->wm b=0)/\Step w.heap.size ⟨wm,fun _=>none,Fr.no⟩ w ⟨wm,fun _=>none,Fr.no⟩ w':=by
 have hL:Later ⟨wm,fun _=>none,Fr.no⟩ w ⟨wm,fun _=>none,Fr.no⟩ w':=⟨fun _=>Nat.le_refl _,fun _ _ h=>h,fun b o ho=>by
  have hb2:b < w.heap.size:=by
   rcases Nat.lt_or_ge b w.heap.size with h | h
   . exact h
   . replace ho:o < wm b:=ho;rw [hwm b h] at ho; omega
  exact World.cell?_of_block (hb.block b hb2)⟩
 exact ⟨fun b hb2=>hwm b (Nat.le_trans hb.size hb2),⟨hL,hb,fun b h=>(by simp [Fr.no] at h),fun _ _=>rfl,rfl⟩⟩
theorem pure37 (s:Str) (c:Int):PureF Tryz.prog 37 [.at (.string ⟨s.toArray⟩),.at (.int .u8 c)] (.at (.int .i64 (Lib.indexByte s c.toNat.toUInt8))):=by
 intro wm w us hwm hgl hu;cases hu with
 | cons hu1 hu2=>
  cases hu2 with
  | cons hu2 hu3=>
   cases hu3;have e:=zh hu1;subst e;have e:=zh hu2;subst e;refine (Tryz.strings_IndexByte ⟨s.toArray⟩ c w).mono ?_;rintro e w' ⟨rfl,rfl⟩;obtain ⟨q1,q2⟩:=zAX hwm (Below.refl _ _);exact ⟨_,wm,rfl,q1,q2,RV_at_mk rfl⟩
theorem pure38 (s t:Str) (h:s.length < 4294967281):PureF Tryz.prog 38 [.at (.string ⟨s.toArray⟩),.at (.string ⟨t.toArray⟩)] (.at (.int .i64 (Lib.index s t))):=by
 intro wm w us hwm hgl hu;cases hu with
 | cons hu1 hu2=>
  cases hu2 with
  | cons hu2 hu3=>
   cases hu3;have e:=zh hu1;subst e;have e:=zh hu2;subst e;obtain ⟨m,hm⟩:=zMy hgl;refine (Tryz.strings_Index ⟨s.toArray⟩ ⟨t.toArray⟩ m w (by simpa [ByteArray.size] using h) hm).mono ?_;rintro e w' ⟨rfl,rfl⟩;obtain ⟨q1,q2⟩:=zAX hwm (Below.refl _ _);exact ⟨_,wm,rfl,q1,q2,RV_at_mk rfl⟩
def c37 (x:Str×Int×Unit):Option (Int×Unit):=some (Lib.indexByte x.1 x.2.1.toNat.toUInt8,())
theorem ok37' (s:Str) (c:Int) (u:Unit) (vs:List V) (hvs:zDK CC as37 ((s,c,u):zf as37) vs):PureF Tryz.prog 37 vs (.at (.int .i64 (Lib.indexByte s c.toNat.toUInt8))):=by
 obtain ⟨v,vs',rfl,hv,v2,vs2,rfl,hv2,hvs⟩:=hvs;replace hvs:vs2=[]:=hvs;subst hvs;replace hv:v = .at (.string ⟨List.toArray s⟩):=hv;replace hv2:v2 = .at (.int .u8 c):=hv2;subst hv hv2;exact pure37 s c
theorem ok37:ConOk CC Tryz.prog 37 ⟨as37,rs37,c37⟩:=fun x y hx vs hvs=>by
 have:=ok37' x.1 x.2.1 x.2.2 vs hvs;injection hx with hx
 subst hx;exact this
def c38 (x:Str×Str×Unit):Option (Int×Unit):=if x.1.length < 4294967281 then some (Lib.index x.1 x.2.1,()) else none
theorem ok38' (s t:Str) (h:s.length < 4294967281) (u:Unit) (vs:List V) (hvs:zDK CC as38 ((s,t,u):zf as38) vs):PureF Tryz.prog 38 vs (.at (.int .i64 (Lib.index s t))):=by
 obtain ⟨v,vs',rfl,hv,v2,vs2,rfl,hv2,hvs⟩:=hvs;replace hvs:vs2=[]:=hvs;subst hvs;replace hv:v = .at (.string ⟨List.toArray s⟩):=hv;replace hv2:v2 = .at (.string ⟨List.toArray t⟩):=hv2;subst hv hv2;exact pure38 s t h
theorem ok38:ConOk CC Tryz.prog 38 ⟨as38,rs38,c38⟩:=fun x y hx vs hvs=>by
 obtain ⟨s,t,u⟩:=x;by_cases h:List.length (show Str from s) < 4294967281
 . have h2:c38 (s,t,u)=some (Lib.index s t,()):=if_pos h;replace hx:c38 (s,t,u)=some y:=hx;rw [h2] at hx;injection hx with hx
   subst hx;exact ok38' s t h u vs hvs
 . have h2:c38 (s,t,u)=none:=if_neg h;replace hx:c38 (s,t,u)=some y:=hx;rw [h2] at hx;cases hx
end Go.Proofs.YtfjiiknfopmcjaaGreatDoor
end
namespace Go.Proofs.YtfjiiknfopmcjaaGreatDoor
section
open Go.Al Go.Den Go.RowKit Go.Shelf
attribute [local go_sem] Oper.semAt_some
def exb (bx:Nat) (W:World) (b:Nat):Prop:=b=bx\/∃ o l c,W.cell? ⟨bx,0,none⟩=some (.slice (some ⟨b,o,none⟩) l c)
def BoxOk (n0 bx:Nat) (W:World):Prop:=n0<=bx/\(∃ arr t m,W.heap[bx]? = some (.cells arr t m))/\∀ b,exb bx W b->n0<=b/\b < W.heap.size
structure Kept (n0 bx:Nat) (A B:World):Prop where
 ok:BoxOk n0 bx B
 size:A.heap.size<=B.heap.size
 same:∀ b o v,A.cell? ⟨b,o,none⟩=some v->¬ exb bx A b->B.cell? ⟨b,o,none⟩=some v
 ex:∀ b,exb bx B b->exb bx A b\/A.heap.size<=b
 low:∀ b,b < n0->B.heap[b]? = A.heap[b]?
def zBB (n0 bx:Nat) (A B:World):Prop:=BoxOk n0 bx A->Kept n0 bx A B
theorem zGV {A:World} {b o:Nat} {v:Value} (h:A.cell? ⟨b,o,none⟩=some v):b < A.heap.size:=by
 rcases Nat.lt_or_ge b A.heap.size with h1 | h1
 . exact h1
 . unfold World.cell? at h;have:A.heap[b]? = none:=Array.getElem?_eq_none h1;simp only [this] at h;cases h
theorem jW {A B:World} {b:Nat} (h:B.heap[b]? = A.heap[b]?) (o:Nat):B.cell? ⟨b,o,none⟩=A.cell? ⟨b,o,none⟩:=World.cell?_of_block h
theorem Kept.refl {n0 bx:Nat} {A:World} (h:BoxOk n0 bx A):Kept n0 bx A A:=⟨h,Nat.le_refl _,fun _ _ _ h _=>h,fun _ h=>.inl h,fun _ _=>rfl⟩
theorem Kept.trans {n0 bx:Nat} {A B C:World} (h:Kept n0 bx A B) (k:Kept n0 bx B C):Kept n0 bx A C:=by
 refine ⟨k.ok,Nat.le_trans h.size k.size,fun b o v hb hx=>?_,fun b hb=>?_,fun b hb=>(k.low b hb).trans (h.low b hb)⟩
 . refine k.same b o v (h.same b o v hb hx) (fun hx2=>?_);rcases h.ex b hx2 with h1 | h1
   . exact hx h1
   . have:=zGV hb; omega
 . rcases k.ex b hb with h1 | h1
   . exact h.ex b h1
   . exact .inr (Nat.le_trans h.size h1)
theorem zRu {n0 bx:Nat} {A B C:World} (h:zBB n0 bx A B) (k:zBB n0 bx B C):zBB n0 bx A C:=fun hA=>(h hA).trans (k (h hA).ok)
theorem zBq {bx:Nat} {A B:World} (h:B.heap[bx]? = A.heap[bx]?) (b:Nat):exb bx B b↔exb bx A b:=by
 unfold exb; rw [jW h]
theorem BoxOk.grown {n0 bx:Nat} {A B:World} (h:BoxOk n0 bx A) (hs:A.heap.size<=B.heap.size) (hb:B.heap[bx]? = A.heap[bx]?):BoxOk n0 bx B:=by
 obtain ⟨h1,⟨arr,t,m,h2⟩,h3⟩:=h;exact ⟨h1,⟨arr,t,m,hb.trans h2⟩,fun b hx=>⟨(h3 b ((zBq hb b).1 hx)).1,Nat.lt_of_lt_of_le (h3 b ((zBq hb b).1 hx)).2 hs⟩⟩
theorem BoxOk.lt {n0 bx:Nat} {A:World} (h:BoxOk n0 bx A):bx < A.heap.size:=(h.2.2 bx (.inl rfl)).2
theorem Kept.grown {n0 bx:Nat} {A B:World} (h:BoxOk n0 bx A) (hg:A.grownBy B none):Kept n0 bx A B:=by
 have hb:∀ b,b < A.heap.size->B.heap[b]? = A.heap[b]?:=fun b hb=>hg.block b hb (by simp);refine ⟨h.grown hg.size (hb bx h.lt),hg.size,fun b o v ho _=>(jW (hb b (zGV ho)) o).trans ho,fun b hx=>.inl ((zBq (hb bx h.lt) b).1 hx),fun b hl=>hb b (Nat.lt_trans (Nat.lt_of_lt_of_le hl h.1) h.lt)⟩
theorem zSi {n0 bx:Nat} (W:World) (l:Nat) (o o':Obj) (hl:n0<=l) (h:W.heap[l]? = some o) (hc:o.isCells=false):zBB n0 bx W (W.putObj l o'):=by
 intro hW;have hne:bx≠l:=by
  rintro rfl;obtain ⟨_,⟨arr,t,m,h2⟩,_⟩:=hW;rw [h] at h2; injection h2 with h2; subst h2; cases hc
 have hb:(W.putObj l o').heap[bx]? = W.heap[bx]?:=World.putObj_heap_other hne;have hsz:(W.putObj l o').heap.size=W.heap.size:=by simp [World.putObj]
 refine ⟨hW.grown (Nat.le_of_eq hsz.symm) hb,Nat.le_of_eq hsz.symm,fun b o1 v h1 _=>(jW (World.putObj_heap_other ?_) o1).trans h1,fun b hx=>.inl ((zBq hb b).1 hx),fun b hb=>World.putObj_heap_other (by omega)⟩;rintro rfl;unfold World.cell? at h1;simp only [h] at h1;cases o <;> first | (cases hc; done) | (cases h1; done) | (simp at h1; done)
theorem zE9 {F:Fence} {n:Nat} {P:Program} (w:World) {ops:Array Oper} {rest:List Oper} {o:Oper} {a:Act} {Q:Exit->Act->World->Prop}
 (hg:o.guard=none) (s x:Operand) (t:TypeId) (hop:o.op=Op.call { callee:=Callee.builtin Builtin.append,args:=#[s,x],argTypes:=#[t,t] })
 (base:Nat) (e:TypeId) (i:TypeInfo) (z:Value) (size bytes:Nat) (h1:P.underlying t=some (.slice e)) (h2:P.info? e=some i) (h3:i.zero=some z) (h4:i.size=size) (h5:i.bytes=bytes) (h6:z.cells.size=size) (h7:0 < size)
 (v:Value) (k:Nat) (xs:List Value) (hs:a.eval s=v) (hown:w.ownsRow base e size v k xs) (ad:Addr) (m c:Nat) (news:List Value) (hx:a.eval x = .slice (some ad) m c) (hn:news.length=m * size)
 (hc:∀ j u,news[j]? = some u->w.cell? (ad.add j)=some u) (h1c:∀ u ∈ news,u.oneCell' = true) (b1:k+m<=maxLen) (b2:(k+m) * bytes<=140737488355328) (b3:base<=w.heap.size)
 (hK:∀ v' w',w'.ownsRow base e size v' (k+m) (xs++news)->w.grownBy w' v.ownBlock->(v' = .slice none 0 0↔v = .slice none 0 0/\m=0)->(v'.ownBlock=v.ownBlock\/v'.ownBlock=some w.heap.size)->wpListIn F n P ops Q rest (a.put o.dst v') w') :
 wpListIn F n P ops Q (o::rest) a w:=by
 refine wpListIn_plain hg fun K hK'=>?_;obtain ⟨v',w',hrun,r1,r2,r3,r4⟩:=run_append_own_at (P:=P) w base t o.type e i z size bytes h1 h2 h3 h4 h5 h6 h7 v k xs hown ad m c news hn hc h1c b1 b2 b3;unfold Oper.wpIn;refine ⟨?_,?_⟩
 . simp [Oper.about,hop,resolve,Target.leads,Sem.run_pure]
 . rw [Oper.semAt_plain F _ _ (by rw [hop]; intro c hc'; cases hc')];simp [execOp,hop,resolve,invoke,builtin,hs,hx,hrun,Result.andThen];exact hK' _ _ (hK v' w' r1 r2 r3 r4)
theorem zLv {W:World} {base:Nat} {e:TypeId} {size:Nat} {v:Value} {k:Nat} {xs:List Value} (h:W.ownsRow base e size v k xs) {j:Nat} {o:Obj} (hj:W.heap[j]? = some o) (hno:∀ cur,o≠.cells cur e (0,0)) :
 v.ownBlock=none\/v.ownBlock≠some j:=by
 rcases h.2 with ⟨rfl,_⟩ | ⟨g,cap,cur,rfl,_,hgb,_⟩
 . exact .inl rfl
 . refine .inr fun e'=>?_;have:g=j:=by simpa [Value.ownBlock] using e'
   subst this; rw [hgb] at hj; cases hj; exact hno cur rfl
def Grow (n0 bx:Nat) (t e:TypeId) (size:Nat) (w:World) (xs:List Value) (n:Nat) (W:World):Prop:=
 ∃ v,W.heap[bx]? = some (.cells #[v] t (0,0))/\W.ownsRow n0 e size v n xs/\(n=0->v = .slice none 0 0)/\Below n0 w W
theorem Grow.exb {n0 bx:Nat} {t e:TypeId} {size:Nat} {w:World} {xs:List Value} {n:Nat} {W:World} {v:Value} (hv:W.heap[bx]? = some (.cells #[v] t (0,0))) (hr:W.ownsRow n0 e size v n xs) (b:Nat) :
 exb bx W b↔b=bx\/v.ownBlock=some b:=by
 have hc:W.cell? ⟨bx,0,none⟩=some v:=by simp [World.cell?,hv]
 unfold Go.Proofs.YtfjiiknfopmcjaaGreatDoor.exb;rw [hc];refine or_congr Iff.rfl ⟨fun ⟨o,l,c,h⟩=>?_,fun h=>?_⟩
 . injection h with h; subst h; rfl
 . rcases hr.2 with ⟨rfl,_⟩ | ⟨g,cap,cur,rfl,_,hgb,_⟩
   . cases h
   . have:g=b:=by simpa [Value.ownBlock] using h
     subst this; exact ⟨_,_,_,rfl⟩
theorem Grow.box {n0 bx:Nat} {t e:TypeId} {size:Nat} {w:World} {xs:List Value} {n:Nat} {W:World} (h0:n0<=bx) (h:Grow n0 bx t e size w xs n W):BoxOk n0 bx W:=by
 obtain ⟨v,hv,hr,_,hb⟩:=h;refine ⟨h0,⟨_,_,_,hv⟩,fun b hx=>?_⟩;rcases (Grow.exb (w:=w) hv hr b).1 hx with rfl | h
 . exact ⟨h0,(Array.getElem?_eq_some_iff.1 hv).1⟩
 . rcases hr.2 with ⟨rfl,_⟩ | ⟨g,cap,cur,rfl,hg,hgb,_⟩
   . cases h
   . have:g=b:=by simpa [Value.ownBlock] using h
     subst this; exact ⟨hg,(Array.getElem?_eq_some_iff.1 hgb).1⟩
theorem Grow.own {n0 bx:Nat} {t e:TypeId} {size:Nat} {w:World} {xs:List Value} {n:Nat} {A B:World} {row:Option Nat} (h0:n0<=w.heap.size) (h:Grow n0 bx t e size w xs n A) (hg:A.grownBy B row) (hr:∀ r,row=some r->n0<=r/\∃ o:Obj,A.heap[r]? = some o/\o.isCells=false):Grow n0 bx t e size w xs n B:=by
 obtain ⟨v,hv,hr',hz,hb⟩:=h;have hne:∀ {b:Nat} {o:Obj},A.heap[b]? = some o->o.isCells=true->some b≠row:=fun hb hc e=>by
  obtain ⟨_,o',ho,hc'⟩:=hr _ e.symm;rw [hb] at ho; injection ho with ho; subst ho; rw [hc] at hc'; cases hc'
 refine ⟨v,(hg.block bx (Array.getElem?_eq_some_iff.1 hv).1 (hne hv rfl)).trans hv,hr'.kept hg ?_,hz,hb.grown hg (Nat.le_trans h0 hb.size) (fun k e=>(hr k e).1)⟩;rcases hr'.2 with ⟨rfl,_⟩ | ⟨g,cap,cur,rfl,_,hgb,_⟩
 . exact .inl rfl
 . exact .inr (hne hgb rfl)
theorem Grow.kept {n0 bx:Nat} {t e:TypeId} {size:Nat} {w:World} {xs xs':List Value} {n n':Nat} {A B:World} (h0:n0<=bx) {v v':Value} (hv:A.heap[bx]? = some (.cells #[v] t (0,0))) (hr:A.ownsRow n0 e size v n xs)
 (hv':B.heap[bx]? = some (.cells #[v'] t (0,0))) (hr':B.ownsRow n0 e size v' n' xs') (hz:n' = 0->v' = .slice none 0 0) (hB:Below n0 w B) (hs:A.heap.size<=B.heap.size)
 (hne:v'.ownBlock=v.ownBlock\/∃ b,v'.ownBlock=some b/\A.heap.size<=b) (h:∀ b,b < A.heap.size->b≠bx->v.ownBlock≠some b->B.heap[b]? = A.heap[b]?):Kept n0 bx A B:=by
 have hlow:∀ b,b < n0->v.ownBlock≠some b:=fun b hb e1=>by
  rcases hr.2 with ⟨rfl,_⟩ | ⟨g,cap,cur,rfl,hg,hgb,_⟩
  . cases e1
  . have:g=b:=by simpa [Value.ownBlock] using e1
    omega
 have hbx:=(Array.getElem?_eq_some_iff.1 hv).1;refine ⟨Grow.box h0 ⟨v',hv',hr',hz,hB⟩,hs,fun b o u hb hx=>?_,fun b hx=>?_,fun b hb=>h b (by omega) (by omega) (hlow b hb)⟩
 . have h1:b≠bx:=fun e1=>hx ((Grow.exb (w:=w) hv hr b).2 (.inl e1));have h2:v.ownBlock≠some b:=fun e1=>hx ((Grow.exb (w:=w) hv hr b).2 (.inr e1));exact (jW (h b (zGV hb) h1 h2) o).trans hb
 . rcases (Grow.exb (w:=w) hv' hr' b).1 hx with rfl | h1
   . exact .inl (.inl rfl)
   . rcases hne with e1 | ⟨b',e1,e2⟩
     . exact .inl ((Grow.exb (w:=w) hv hr b).2 (.inr (e1 ▸ h1)))
     . rw [e1] at h1; injection h1 with h1; subst h1; exact .inr e2
theorem Grow.round {n0 bx K0:Nat} {t e:TypeId} {size:Nat} {w:World} {xs xs':List Value} {n n':Nat} {A B:World} (h0:n0<=bx) {v v':Value} (hv:A.heap[bx]? = some (.cells #[v] t (0,0))) (hr:A.ownsRow n0 e size v n xs)
 (hv':B.heap[bx]? = some (.cells #[v'] t (0,0))) (hr':B.ownsRow n0 e size v' n' xs') (hz:n' = 0->v' = .slice none 0 0) (hB:Below n0 w B) (hs:A.heap.size<=B.heap.size)
 (hne:v'.ownBlock=v.ownBlock\/∃ b,v'.ownBlock=some b/\A.heap.size<=b) (h:∀ b,b < A.heap.size->b≠bx->v.ownBlock≠some b->B.heap[b]? = A.heap[b]?) :
 KeepsFrom K0 A B/\zBB n0 bx A B/\Grow n0 bx t e size w xs' n' B:=by
 refine ⟨⟨hs,fun k o _ hk hc=>(h k (Array.getElem?_eq_some_iff.1 hk).1 (fun e1=>?_) (fun e1=>?_)).trans hk⟩,fun _=>Grow.kept h0 hv hr hv' hr' hz hB hs hne h,v',hv',hr',hz,hB⟩
 . subst e1; rw [hv] at hk; injection hk with hk; subst hk; cases hc
 . rcases hr.2 with ⟨rfl,_⟩ | ⟨g,cap,cur,rfl,_,hgb,_⟩
   . cases e1
   . have:g=k:=by simpa [Value.ownBlock] using e1
     subst this; rw [hgb] at hk; injection hk with hk; subst hk; cases hc
theorem Grow.stay {n0 bx K0:Nat} {t e:TypeId} {size:Nat} {w:World} {xs:List Value} {n:Nat} {A:World} (h0:n0<=bx) (h:Grow n0 bx t e size w xs n A):KeepsFrom K0 A A/\zBB n0 bx A A/\Grow n0 bx t e size w xs n A:=
 ⟨.refl _ _,fun hB=>.refl hB,h⟩
theorem zLb {W:World} {B:Nat} {v:Value} {t:TypeId} (v':Value) (h:W.heap[B]? = some (.cells #[v] t (0,0))):(W.setCell ⟨B,0,none⟩ v').heap[B]? = some (.cells #[v'] t (0,0)):=by
 obtain ⟨hlt,hk⟩:=Array.getElem?_eq_some_iff.1 h;show (W.heap.modify B _)[B]? = _;rw [Array.getElem?_eq_getElem (by rw [Array.size_modify]; exact hlt),Array.getElem_modify_self,hk];rfl
theorem zUk {W:World} {base:Nat} {e:TypeId} {size:Nat} {v:Value} {k:Nat} {xs:List Value} (h:W.ownsRow base e size v k xs) {b:Nat} (hb:v.ownBlock=some b):base<=b:=by
 rcases h.2 with ⟨rfl,_⟩ | ⟨g,cap,cur,rfl,hg,_⟩
 . cases hb
 . have:g=b:=by simpa [Value.ownBlock] using hb
   omega
theorem zR2 {wm:Nat->Nat} {w W':World} (hwm:∀ b,w.heap.size<=b->wm b=0) (hbel:Below w.heap.size w W') {size n:Nat} {e:TypeId} {v:Value} {ds:List Value} (hrow:W'.ownsRow w.heap.size e size v n ds) (hz:n=0->v = .slice none 0 0)
 (es:List V) (hl:n=es.length) (hu:∀ x ∈ es,x.size=size) (hrc:RCs ⟨wm,fun _=>none,Fr.no⟩ w es ds) :
 ∃ wm',(∀ b,W'.heap.size<=b->wm' b=0)/\Step w.heap.size ⟨wm,fun _=>none,Fr.no⟩ w ⟨wm',fun _=>none,Fr.no⟩ W'/\RV ⟨wm',fun _=>none,Fr.no⟩ W' (.lst (zz es) es) v:=by
 subst hl;obtain ⟨q1,q2⟩:=zAX hwm hbel;cases es with
 | nil=>
  refine ⟨wm,q1,q2,?_⟩;rw [hz rfl];exact xU (by unfold RC; exact .inl ⟨rfl,rfl,trivial⟩)
 | cons x r=>
  obtain ⟨hlen,⟨_,h0⟩ | ⟨g,cap,cur,rfl,hg,hgb,hn,hm,hcs,htk⟩⟩:=hrow
  . simp at h0
  . have hgl:=(Array.getElem?_eq_some_iff.1 hgb).1;have hL:Later ⟨wm,fun _=>none,Fr.no⟩ w ⟨fun b=>if b=g then ds.length else wm b,fun _=>none,Fr.no⟩ W':=by
     refine ⟨fun b=>?_,fun _ _ h=>h,q2.later.cell⟩;show wm b<=if b=g then ds.length else wm b
     split
     . rename_i h; rw [h,hwm g hg]; exact Nat.zero_le _
     . exact Nat.le_refl _
    refine ⟨fun b=>if b=g then ds.length else wm b,fun b hb=>?_,⟨hL,q2.below,fun b h=>(by simp [Fr.no] at h),fun b hb=>?_,rfl⟩,xU ?_⟩
    . show (if b=g then ds.length else wm b)=0;rw [if_neg (by omega)];exact q1 b hb
    . show (if b=g then ds.length else wm b)=wm b;rw [if_neg (by omega)]
    . simp only [RC];refine .inr ⟨g,0,cap,ds,rfl,hn,by simp [zz,zIh],zg hL _ _ hrc,⟨size,hu,by intro t nb s h; simp [zz] at h⟩,fun k u hk=>⟨?_,?_⟩⟩
      . have hk1:k < ds.length:=(List.getElem?_eq_some_iff.1 hk).1;rw [<- htk,List.getElem?_take] at hk;split at hk
        . simp only [World.cell?,hgb,Nat.zero_add];rw [Array.getElem?_toList] at hk;simpa using hk
        . cases hk
      . have hk1:k < ds.length:=(List.getElem?_eq_some_iff.1 hk).1;show 0+k < if g=g then ds.length else wm g
        rw [if_pos rfl]; omega
def chG:List UInt8->Nat->List CharT
 | [],_=>[]
 | [c],i=>[⟨(c.toNat:Int),(i:Int)⟩]
 | c::d::r,i=>cond (c == 92 && d == 10) (chG r (i+2)) (⟨(c.toNat:Int),(i:Int)⟩::chG (d::r) (i+1))
theorem zGP:∀ (s:List UInt8) (i:Nat),(chG s i).length<=s.length
 | [],_=>Nat.le_refl _
 | [c],i=>Nat.le_refl _
 | c::d::r,i=>by
  have h1:=zGP r (i+2);have h2:=zGP (d::r) (i+1);simp only [chG];cases (c == 92 && d == 10)
  . simp only [cond_false,List.length_cons] at *; omega
  . simp only [cond_true,List.length_cons] at *; omega
theorem zSN (s:List UInt8) (k:Nat) (h:k < s.length) :
 (Lib.hasPrefix (List.take (s.length - k) (s.drop k)) [92,10]=true->k+2<=s.length/\chG (s.drop k) k=chG (s.drop (k+2)) (k+2)) /\
 (Lib.hasPrefix (List.take (s.length - k) (s.drop k)) [92,10]=false->chG (s.drop k) k=⟨(s[k].toNat:Int),(k:Int)⟩::chG (s.drop (k+1)) (k+1)):=by
 have ht:List.take (s.length - k) (s.drop k)=s.drop k:=List.take_of_length_le (by simp);rw [ht,List.drop_eq_getElem_cons h];unfold Lib.hasPrefix;by_cases h2:k+1 < s.length
 . rw [List.drop_eq_getElem_cons h2];have e:[92,10].isPrefixOf (s[k]::s[k+1]::s.drop (k+1+1))=(s[k] == 92 && s[k+1] == 10):=by
    simp only [List.isPrefixOf,Bool.and_true,Bool.beq_comm]
   rw [e];refine ⟨fun hh=>⟨by omega,?_⟩,fun hh=>?_⟩
   . simp only [chG,hh,cond_true]
   . simp only [chG,hh,cond_false]
 . have e0:s.drop (k+1)=[]:=List.drop_eq_nil_of_le (by omega);rw [e0];refine ⟨fun hh=>by simp [List.isPrefixOf] at hh,fun _=>by simp [chG]⟩
def chV (x:CharT):Value:=.agg #[.int .u8 x.b,.int .i64 x.fat]
def chC (x:CharT):List Value:=[.int .u8 x.b,.int .i64 x.fat]
set_option maxRecDepth 100000 in
set_option maxHeartbeats 2000000 in
theorem zQa (n n0 bx:Nat) (l Bs:Nat) (s:Str) (hreach:s.length < 1100000) (J Jx:List CharT->World->Prop)
 (hY:∀ pre x W,J pre W->pre.length < s.length->YieldAt Fence.wide (n - 1) Tryz.prog l #[chV x] W fun e W'=>
  (e = .returned (.bool true)/\J (pre++[x]) W'/\zBB n0 bx W W')\/(e = .returned (.bool false)/\Jx (pre++[x]) W'))
 (W:World) (hB:BoxOk n0 bx W) (hxs:¬ exb bx W Bs) (hBs:W.cell? ⟨Bs,0,none⟩=some (.string ⟨s.toArray⟩)) (h0:J [] W) :
 CallsIn Fence.wide n Tryz.prog 54 #[.func (.yield l) #[] #[],.pointer (some ⟨Bs,0,none⟩)] W fun e W'=>(∃ v,e = .returned v) /\
  ((∃ ys,ys=chG s 0/\J ys W')\/(∃ pre,True/\Jx pre W')):=by
 refine callsIn_of_wp Tryz.func54 rfl trivial ?_ rfl;simp only [Tryz.ntmps54,List.size_toArray,List.length_cons,List.length_nil,Nat.reduceAdd,Nat.reduceSub,Array.replicate_succ,Array.replicate_zero,List.push_toArray,List.append_toArray,List.nil_append,List.cons_append];have hsz:(⟨s.toArray⟩:ByteArray).size=s.length:=by simp [ByteArray.size]
 gi_wp2
 gi_loopw [3] (fun i wr=>∃ (k:Nat) (pre:List CharT),k<=s.length/\i = .int .i64 (k:Int)/\pre++chG (s.drop k) k=chG s 0/\J pre wr/\Kept n0 bx W wr)
  (fun i _=>match i with | .int _ z=>s.length - z.toNat | _=>0)
 case atStart=>exact ⟨0,[],Nat.zero_le _,rfl,by simp,h0,Kept.refl hB⟩
 case round=>
  obtain ⟨k,pre,hk,rfl,hpre,hJs,hnx⟩:=hrel;have hBs':=hnx.same _ _ _ hBs hxs;by_cases hlt:k < s.length
  . have hF:∀ f,Fence.wide.fn f:=fun _=>trivial;have hdd:∀ k:Nat,(Fence.wide.depth.isSome=true->1<=k):=fun k h=>by cases h
    have hlt2:(k:Int) < (s.length:Int):=by omega
    have hge2:¬ ((k:Int) < 0):=by omega
    obtain ⟨hs1,hs2⟩:=zSN s k hlt;have hbk:∀ h:k < (⟨s.toArray⟩:ByteArray).size,(⟨s.toArray⟩:ByteArray)[k]'h=s[k]:=fun _=>rfl;cases hp:Lib.hasPrefix (List.take (s.length - k) (s.drop k)) [92,10] with
    | true=>
     obtain ⟨hk2,hc2⟩:=hs1 hp
     gi_wp2_with ((try refine ⟨hdd _,?_⟩); gi_at_call 55; refine (callsIn_wide.2 (Tryz.strings_HasPrefix _ _ _)).mono ?_; rintro e w' ⟨rfl,rfl⟩)
     refine ⟨⟨k+2,pre,hk2,rfl,by rw [<- hc2]; exact hpre,hJs,hnx⟩,?_⟩;show s.length - Int.toNat ((k:Int)+1+1) < s.length - Int.toNat (k:Int);omega
    | false=>
     have hc2:=hs2 hp;have hpl:pre.length < s.length:=by
      have e1:=congrArg List.length hpre;have e2:=zGP s 0;rw [hc2] at e1;simp only [List.length_append,List.length_cons] at e1;omega
     obtain ⟨fn,tmps,assign,body,hy,hR⟩:=hY pre ⟨(s[k].toNat:Int),(k:Int)⟩ wr hJs hpl;dsimp only [chV] at hy
     gi_wp2_with (first
      | ((try refine ⟨hdd _,?_⟩); gi_at_call 55; refine (callsIn_wide.2 (Tryz.strings_HasPrefix _ _ _)).mono ?_; rintro e w' ⟨rfl,rfl⟩)
      | ((try refine ⟨hdd _,?_⟩); refine hR.mono ?_; clear hR; rintro e W3 (⟨rfl,hJ3,hk3⟩ | ⟨rfl,hJx3⟩)))
     . refine ⟨⟨k+1,pre++[⟨(s[k].toNat:Int),(k:Int)⟩],hlt,rfl,by rw [List.append_assoc,List.singleton_append,<- hc2]; exact hpre,hJ3,hnx.trans (hk3 hnx.ok)⟩,?_⟩;show s.length - Int.toNat ((k:Int)+1) < s.length - Int.toNat (k:Int);omega
     . refine bodyPost_ret (results_none rfl _ _ _) rfl ?_;exact ⟨⟨_,rfl⟩,.inr ⟨_,trivial,hJx3⟩⟩
  . obtain rfl:k=s.length:=by omega
    gi_wp2;go_end0;have e:s.drop s.length=[]:=List.drop_eq_nil_of_le (Nat.le_refl _);rw [e] at hpre;exact ⟨⟨_,rfl⟩,.inl ⟨pre,by simpa [chG] using hpre,hJs⟩⟩
theorem zM4 (n n0 bx Bs:Nat) (s:Str) (hreach:s.length < 1100000) (w:World) (hB:BoxOk n0 bx w) (hxs:¬ exb bx w Bs) (hbs:w.heap[Bs]? = some (.cells #[.string ⟨s.toArray⟩] 9 (0,0))) :
 SeqStopsK Fence.wide n Tryz.prog 54 #[.pointer (some ⟨Bs,0,none⟩)] (fun x:CharT=>#[chV x]) (zBB n0 bx) (fun ys=>ys=chG s 0) (fun _=>True) s.length w:=fun l J Jx W hW _ _ hY h0=>by
 have hbx:W.heap[bx]? = w.heap[bx]?:=hW.block _ hB.lt;have h1:W.heap[Bs]? = some (.cells #[.string ⟨s.toArray⟩] 9 (0,0)):=(hW.block _ (Array.getElem?_eq_some_iff.1 hbs).1).trans hbs;exact zQa n n0 bx l Bs s hreach J Jx hY W (hB.grown hW.size hbx) (fun h=>hxs ((zBq hbx Bs).1 h)) (by simp [World.cell?,h1]) h0
set_option maxRecDepth 100000 in
set_option maxHeartbeats 1000000 in
theorem zSX (m:Nat) (s:ByteArray) (w:World) :
 CallsIn Fence.wide m Tryz.prog 34 #[.string s] w fun e w'=>e = .returned (.func (.func 54) #[] #[.pointer (some ⟨w.heap.size,0,none⟩)])/\w' = w.alloc (.cells #[.string s] 9):=by
 refine callsIn_of_wp Tryz.func34 rfl trivial ?_ rfl;simp only [Tryz.ntmps34,List.size_toArray,List.length_cons,List.length_nil,Nat.reduceAdd,Nat.reduceSub,Array.replicate_succ,Array.replicate_zero,List.push_toArray,List.append_toArray,List.nil_append,List.cons_append];gi_wp2;go_ret;exact ⟨rfl,rfl⟩
theorem info55:(Tryz.prog.info? 55).map (fun i=>(i.zero,i.size,i.bytes))=some (some (.agg #[.int .u8 0,.int .i64 0]),2,16):=by kernel_rfl
def chCs (l:List CharT):List Value:=l.flatMap chC
theorem zS7 (l:List CharT) (x:CharT):chCs (l++[x])=chCs l++chC x:=by simp [chCs]
theorem zMM (w:World) (u v:Value) (t:TypeId) (m:Nat×Nat):∀ j x,[u,v][j]? = some x->(w.alloc (.cells #[u,v] t m)).cell? ((⟨w.heap.size,0,none⟩:Addr).add j)=some x:=by
 intro j x hx;have hn:=World.alloc_heap_new w (.cells #[u,v] t m)
 match j,hx with
 | 0,hx=>
  have:u=x:=by simpa using hx
  subst this;show (w.alloc (.cells #[u,v] t m)).cell? ⟨w.heap.size,0,none⟩=some u;unfold World.cell?;simp only [hn]; rfl
 | 1,hx=>
  have:v=x:=by simpa using hx
  subst this;show (w.alloc (.cells #[u,v] t m)).cell? ⟨w.heap.size,1,none⟩=some v;unfold World.cell?;simp only [hn]; rfl
 | j+2,hx=>simp at hx
set_option maxRecDepth 100000 in
set_option maxHeartbeats 1000000 in
theorem zUY (m:Nat) (hm:3<=m) (s:Str) (hlen:s.length < 1100000) (w:World) :
 CallsIn Fence.wide m Tryz.prog 16 #[.string ⟨s.toArray⟩] w fun e W'=>∃ v',e = .returned v'/\W'.ownsRow w.heap.size 55 2 v' (chG s 0).length (chCs (chG s 0))/\((chG s 0).length=0->v' = .slice none 0 0)/\Below w.heap.size w W':=by
 have hF:∀ f,Fence.wide.fn f:=fun _=>trivial;have hdd:∀ k:Nat,(Fence.wide.depth.isSome=true->1<=k):=fun k h=>by cases h
 refine callsIn_of_wp_marks Tryz.func16 rfl (hF _) ?_ rfl;simp only [Tryz.ntmps16,List.size_toArray,List.length_cons,List.length_nil,Nat.reduceAdd,Nat.reduceSub,Array.replicate_succ,Array.replicate_zero,List.push_toArray,List.append_toArray,List.nil_append,List.cons_append]
 gi_wp2_with ((try refine ⟨hdd _,?_⟩); gi_at_call 34; refine (zSX _ _ _).mono ?_; rintro e w' ⟨rfl,rfl⟩)
 obtain ⟨W2,hW2⟩:∃ W2,(w.alloc (.cells #[.slice none 0 0] 46)).alloc (.cells #[.string ⟨s.toArray⟩] 9)=W2:=⟨_,rfl⟩;have hsz2:W2.heap.size=w.heap.size+2:=by rw [<- hW2]; simp
 have hb2:Below w.heap.size w W2:=by rw [<- hW2]; exact ((Below.refl _ w).alloc (Nat.le_refl _) _).alloc (by simp) _
 have hbx2:W2.heap[w.heap.size]? = some (.cells #[.slice none 0 0] 46 (0,0)):=by
  rw [<- hW2,Below.heap_alloc _ _ _ (by simp)];exact World.alloc_heap_new w _
 have hbt2:W2.heap[w.heap.size+1]? = some (.cells #[.string ⟨s.toArray⟩] 9 (0,0)):=by
  rw [<- hW2];have:=World.alloc_heap_new (w.alloc (.cells #[.slice none 0 0] 46)) (.cells #[.string ⟨s.toArray⟩] 9 (0,0));simpa using this
 have hG0:Grow w.heap.size w.heap.size 46 55 2 w [] 0 W2:=⟨_,hbx2,World.ownsRow_nil W2 _ _ _,fun _=>rfl,hb2⟩;have hB2:=hG0.box (Nat.le_refl _);have hx2:¬ exb w.heap.size W2 (w.heap.size+1):=fun h=>by
  rcases h with h | ⟨o,l,c,h⟩
  . omega
  . simp [World.cell?,hbx2] at h
 rw [hW2];refine wpIn_rangeFunc_ownH rfl (by omega) (gf:=54) (lb:=#[.pointer (some ⟨w.heap.size+1,0,none⟩)]) (by simp [Act.eval]) (hF 54) (enters_of Tryz.func54 (by kernel_rfl) rfl)
  (zM4 (m - 1) w.heap.size w.heap.size (w.heap.size+1) s hlen W2 hB2 hx2 hbt2) zRu (fun W l o o' hl h1 h2 _=>zSi W l o o' (by omega) h1 h2) (Below.refl _ _) (fun _=>rfl)
  (fun pre W=>Grow w.heap.size w.heap.size 46 55 2 w (chCs pre) pre.length W)
  (fun _ _ _=>False) ?hI (fun _ _ _ _ _ hs _ _=>hs) hG0
  (fun x a' W=>∃ B4,a' = { tmps:=#[.string ⟨s.toArray⟩,undef,.slice none 0 0,.pointer (some ⟨w.heap.size,0,none⟩),.pointer (some ⟨B4,0,none⟩),.string ⟨s.toArray⟩,.func (.func 54) #[] #[.pointer (some ⟨w.heap.size+1,0,none⟩)],chV x,undef,undef,undef,undef,undef],defers:=[] }/\W.heap[B4]? = some (.cells #[.int .u8 x.b,.int .i64 x.fat] 55 (0,0)))
  ?hAx ?assign ?body ?done ?stop
 case hI=>exact fun pre A B row h hg hr=>h.own (Nat.le_refl _) hg (fun r e=>by obtain ⟨h1,h2⟩:=hr r e; exact ⟨by omega,h2⟩)
 case hAx=>
  rintro x a' _ A B row ⟨B4,e3,e4⟩ hg hr;refine ⟨B4,e3,(hg.block B4 (Array.getElem?_eq_some_iff.1 e4).1 fun e=>?_).trans e4⟩;obtain ⟨_,o,ho,hc⟩:=hr B4 e.symm;rw [e4] at ho; injection ho with ho; subst ho; cases hc
 case assign=>
  rintro l pre ⟨xb,xa⟩ W K hI hK;have hfin:∀ a2,a2=({ tmps:=#[.string ⟨s.toArray⟩,undef,.slice none 0 0,.pointer (some ⟨w.heap.size,0,none⟩),.pointer (some ⟨W.heap.size,0,none⟩),.string ⟨s.toArray⟩,.func (.func 54) #[] #[.pointer (some ⟨w.heap.size+1,0,none⟩)],chV ⟨xb,xa⟩,undef,undef,undef,undef,undef],defers:=[] }:Act)->K a2 (W.alloc (.cells #[.int .u8 xb,.int .i64 xa] 55)):=fun a2 e=>hK a2 _ ((KeepsOthers.alloc W _).from _) (fun hB=>Kept.grown hB (World.grownBy_alloc W _ none))
   (hI.own (Nat.le_refl _) (World.grownBy_alloc W _ none) (fun r e=>by cases e)) ⟨W.heap.size,e,World.alloc_heap_new W _⟩
  unfold chV at *;gi_wp2;rfl
 case body=>
  rintro l pre ⟨xb,xa⟩ a' W hl hL ⟨bv,hbv,hrow,hz,hbel⟩ ⟨B4,rfl,hB4⟩ hlen2;replace hB4:W.heap[B4]? = some (.cells #[.int .u8 xb,.int .i64 xa] 55 (0,0)):=hB4;have c0:W.cell? ⟨B4,0,none⟩=some (.int .u8 xb):=by simp [World.cell?,hB4]
  have c1:W.cell? ⟨B4,1,none⟩=some (.int .i64 xa):=by simp [World.cell?,hB4]
  have cb:W.cell? ⟨w.heap.size,0,none⟩=some bv:=by simp [World.cell?,hbv]
  obtain ⟨i0,hi,hz0,hz1,hz2⟩:=info_parts info55;have hb1:pre.length+1<=1100000:=by omega
  have hsz:w.heap.size<=W.heap.size:=hbel.size;have hlt:w.heap.size < W.heap.size:=(Array.getElem?_eq_some_iff.1 hbv).1;have hnb:some w.heap.size≠bv.ownBlock:=by
   rcases zLv hrow hbv (fun cur e=>by cases e) with e | e
   . rw [e]; simp
   . exact fun e'=>e e'.symm
  gi_wp2_with (
   gi_at_builtin
   refine zE9 _ rfl _ _ 46 rfl w.heap.size 55 i0 (.agg #[.int .u8 0,.int .i64 0]) 2 16 Tryz.underlying46 hi hz0 hz1 hz2 rfl (by decide) _ _ _ rfl (hrow.alloc _) ⟨W.heap.size,0,none⟩ 1 1 [.int .u8 xb,.int .i64 xa] rfl rfl (zMM _ _ _ _ _) (by simp [Value.oneCell']) (Nat.le_trans hb1 (by decide)) (Nat.le_trans (Nat.mul_le_mul_right 16 hb1) (by decide)) (by simp; omega) ?_;intro v' w3 hown' hg3 hnil3 hat;have hv3:w3.heap[w.heap.size]? = some (.cells #[bv] 46 (0,0)):=(hg3.block _ (by simp; omega) hnb).trans ((Below.heap_alloc _ _ _ hlt).trans hbv);obtain ⟨hc3,hf3⟩:w3.cell? ⟨w.heap.size,0,none⟩=some bv/\w3.frozen? ⟨w.heap.size,0,none⟩=false:=by constructor <;> simp [World.cell?,World.frozen?,hv3]
   obtain ⟨g',cap',cur',rfl,hbase',hgb',hr1,hr2,hr3,hr4⟩:∃ g' cap' cur',v' = .slice (some ⟨g',0,none⟩) (pre.length+1) cap'/\w.heap.size<=g'/\w3.heap[g']? = some (.cells cur' 55 (0,0))/\pre.length+1<=cap'/\cap'<=maxLen/\cur'.size=cap' * 2/\cur'.toList.take ((pre.length+1) * 2)=chCs pre++[.int .u8 xb,.int .i64 xa]:=by
    rcases hown'.2 with ⟨_,h0⟩ | h'
    . exact absurd h0 (by omega)
    . exact h')
  have hg4:=grownBy_setCell' w3 w.heap.size (.slice (some ⟨g',0,none⟩) (pre.length+1) cap');have hg3':(W.alloc (.cells #[.int .u8 xb,.int .i64 xa] 55)).grownBy w3 bv.ownBlock:=hg3;have hs3:W.heap.size+1<=w3.heap.size:=by have:=hg3'.size; simpa using this
  refine (?_:KeepsFrom _ _ _/\zBB _ _ _ _/\Grow _ _ _ _ _ _ (chCs (pre++[_])) (pre++[_]).length _);rw [zS7,List.length_append,List.length_cons,List.length_nil];have hbel3:Below w.heap.size w w3:=(hbel.alloc hsz _).grown hg3' (by simp; omega) (fun k e=>zUk hrow e);refine Grow.round (Nat.le_refl _) hbv hrow (zLb _ hv3) (hown'.kept hg4 (zLv hown' hv3 (fun cur e=>by cases e))) (fun e=>absurd e (by omega)) (hbel3.grown hg4 hbel3.size (fun k e=>by injection e with e; omega)) (by simp; omega) ?_ (fun b hb h1 h2=>?_)
  . rcases hat with e | e
    . exact .inl e
    . exact .inr ⟨_,e,by simp⟩
  . exact ((hg4.block b (by omega) (fun e=>h1 (by injection e))).trans (hg3'.block b (by simp; omega) (fun e=>h2 e.symm))).trans (Below.heap_alloc _ _ _ hb)
 case stop=>
  rintro D c pre W _ _ h _;exact h.elim
 case done=>
  rintro D ys W hD hys ⟨bv,hbv,hrow,hz,hbel⟩ hK;have cb:W.cell? ⟨w.heap.size,0,none⟩=some bv:=by simp [World.cell?,hbv]
  gi_wp2;refine ⟨by simp,.inl ⟨_,_,rfl,run_takeDeferred hK,?_⟩⟩;have hgD:=grownBy_putObj' W D (.deferred none);subst hys;refine ⟨_,results_tmp rfl _ _ _,_,rfl,?_⟩;refine ⟨hrow.kept hgD (zLv hrow hK (fun cur e=>by cases e)),hz,hbel.grown hgD hbel.size (fun k e=>by injection e with e; omega)⟩
theorem zJx {g:Gh} {w:World}:∀ l:List CharT,RCs g w (l.map yh) (chCs l)
 | []=>by simp [RCs,chCs]
 | x::r=>by
  have ih:=zJx (g:=g) (w:=w) r;simp only [List.map_cons,RCs];refine ⟨chC x,chCs r,by simp [chCs],?_,ih⟩;show RC g w (.agg [.at (.int .u8 (CharT.b x)),.at (.int .i64 (CharT.fat x))]) _;simp only [RC,RCs,chC];exact ⟨[.int .u8 x.b],[.int .i64 x.fat],rfl,⟨rfl,rfl⟩,[.int .i64 x.fat],[],rfl,⟨rfl,rfl⟩,rfl⟩
theorem pure16 (s:Str) (hlen:s.length < 1100000):PureF Tryz.prog 16 [.at (.string ⟨s.toArray⟩)] (.lst (zz ((chG s 0).map yh)) ((chG s 0).map yh)):=by
 intro wm w us hwm hgl hu;cases hu with
 | cons hu1 hu2=>
  cases hu2;have e:=zh hu1;subst e;refine callsIn_wide.1 ((zUY 3 (Nat.le_refl _) s hlen w).mono ?_);rintro e w' ⟨v',rfl,hrow,hz,hbel⟩;obtain ⟨wm',h1,h2,h3⟩:=zR2 hwm hbel hrow hz ((chG s 0).map yh) (by simp) (fun x hx=>by obtain ⟨y,_,rfl⟩:=List.mem_map.1 hx; exact zIz y) (zJx _);exact ⟨_,wm',rfl,h1,h2,h3⟩
def c16 (x:Str×Unit):Option (List CharT×Unit):=if x.1.length < 1100000 then some (chG x.1 0,()) else none
theorem ok16:ConOk CC Tryz.prog 16 ⟨as16,rs16,c16⟩:=fun x y hx vs hvs=>by
 obtain ⟨s,u⟩:=x;obtain ⟨v,vs',rfl,hv,hvs⟩:=hvs;replace hvs:vs' = []:=hvs;subst hvs;replace hv:v = .at (.string ⟨List.toArray s⟩):=hv;subst hv;by_cases h:List.length (show Str from s) < 1100000
 . have h2:c16 (s,u)=some (chG s 0,()):=if_pos h;replace hx:c16 (s,u)=some y:=hx;rw [h2] at hx;injection hx with hx
   subst hx;exact pure16 s h
 . have h2:c16 (s,u)=none:=if_neg h;replace hx:c16 (s,u)=some y:=hx;rw [h2] at hx;cases hx
theorem zFe {g:Gh} {w:World}:∀ {l:List CharT} {us:List Value} (i:Nat) (h:i < l.length),RCs g w (l.map yh) us->us[2 * i]? = some (.int .u8 l[i].b)/\us[2 * i+1]? = some (.int .i64 l[i].fat)
 | x::r,us,0,_,h=>by
  simp only [List.map_cons,RCs] at h;obtain ⟨u1,u2,rfl,h1,h2⟩:=h;have h1':RC g w (.agg [.at (.int .u8 (CharT.b x)),.at (.int .i64 (CharT.fat x))]) u1:=h1;simp only [RC,RCs] at h1';obtain ⟨v1,v2,rfl,⟨rfl,_⟩,v3,v4,rfl,⟨rfl,_⟩,rfl⟩:=h1';exact ⟨rfl,rfl⟩
 | x::r,us,i+1,hi,h=>by
  simp only [List.map_cons,RCs] at h;obtain ⟨u1,u2,rfl,h1,h2⟩:=h;have h3:=qN g w _ _ h1;have h4:u1.length=2:=by rw [h3]; exact zIz x
  obtain ⟨k0,k1⟩:=zFe i (by simpa using hi) h2;have ap:∀ j,(u1++u2)[2 * (i+1)+j]? = u2[2 * i+j]?:=fun j=>by
   rw [List.getElem?_append_right (by omega),h4]; congr 1; omega
  exact ⟨(ap 0).trans k0,(ap 1).trans k1⟩
theorem zSr {wm:Nat->Nat} {w:World} {l:List CharT} {sv:Value} (h:RC ⟨wm,fun _=>none,Fr.no⟩ w (.lst (zz (l.map yh)) (l.map yh)) [sv]) :
 ∃ ad cap,sv = .slice ad l.length cap/\∀ i (hi:i < l.length),∃ b o,ad=some ⟨b,o,none⟩/\(w.cell? ⟨b,o+2 * i,none⟩=some (.int .u8 l[i].b)/\o+2 * i < wm b)/\(w.cell? ⟨b,o+(2 * i+1),none⟩=some (.int .i64 l[i].fat)/\o+(2 * i+1) < wm b):=by
 have hl:(l.map yh).length=l.length:=by simp
 simp only [RC] at h;rcases h with ⟨he,hu,_⟩ | ⟨b,o,cap,ds,hu,hc,_,hr,_,ha⟩
 . have h0:l=[]:=by simpa using he
   subst h0;injection hu with hu
   exact ⟨none,0,hu,fun i hi=>absurd hi (by simp)⟩
 . injection hu with hu
   refine ⟨_,cap,by rw [hu,hl],fun i hi=>?_⟩;obtain ⟨k1,k2⟩:=zFe i hi hr;exact ⟨b,o,rfl,ha _ _ k1,ha _ _ k2⟩
theorem info5:(Tryz.prog.info? 5).map (fun i=>(i.zero,i.size,i.bytes))=some (some (.int .u8 0),1,1):=by kernel_rfl
theorem zGc (W:World) (b i:Nat) (v:Value):W.grownBy (W.setCell ⟨b,i,none⟩ v) (some b):=
 ⟨rfl,rfl,rfl,(KeepsWalks.setCell W _ v).size,fun k _ hk=>Below.heap_setCell _ _ _ k (fun e=>hk (by rw [e]))⟩
theorem zNF {W:World} {B i:Nat} {c:Array Value} {t:TypeId} (v':Value) (h:W.heap[B]? = some (.cells c t (0,0))):(W.setCell ⟨B,i,none⟩ v').heap[B]? = some (.cells (c.setIfInBounds i v') t (0,0)):=by
 obtain ⟨hlt,hk⟩:=Array.getElem?_eq_some_iff.1 h;show (W.heap.modify B _)[B]? = _;rw [Array.getElem?_eq_getElem (by rw [Array.size_modify]; exact hlt),Array.getElem_modify_self,hk];rfl
def TRow (n0 g:Nat) (w:World) (xs:List Int) (n k:Nat) (W:World):Prop:=
 Below n0 w W/\∃ cur,W.heap[g]? = some (.cells cur 5 (0,0))/\cur.size=n/\(∀ i,i < k->cur[i]? = some (.int .u8 (xs.getD i 0)))/\∀ i,i < n->∃ z,cur[i]? = some (.int .u8 z)
set_option maxRecDepth 100000 in
set_option maxHeartbeats 1000000 in
theorem zTe (m:Nat) (l:List CharT) (hlen:l.length < 1100000) (wm:Nat->Nat) (w:World) (hwm:∀ b,w.heap.size<=b->wm b=0) (ad:Option Addr) (cap:Nat)
 (hch:∀ i (hi:i < l.length),∃ b o,ad=some ⟨b,o,none⟩/\(w.cell? ⟨b,o+2 * i,none⟩=some (.int .u8 l[i].b)/\o+2 * i < wm b)/\(w.cell? ⟨b,o+(2 * i+1),none⟩=some (.int .i64 l[i].fat)/\o+(2 * i+1) < wm b)) :
 CallsIn Fence.wide m Tryz.prog 17 #[.slice ad l.length cap] w fun e W'=>e = .returned (.string (strOfNums (l.map CharT.b)))/\Below w.heap.size w W':=by
 have hF:∀ f,Fence.wide.fn f:=fun _=>trivial;refine callsIn_of_wp Tryz.func17 rfl trivial ?_ rfl;simp only [Tryz.ntmps17,List.size_toArray,List.length_cons,List.length_nil,Nat.reduceAdd,Nat.reduceSub,Array.replicate_succ,Array.replicate_zero,List.push_toArray,List.append_toArray,List.nil_append,List.cons_append];obtain ⟨i0,hi,hz0,hz1,hz2⟩:=info_parts info5;obtain ⟨W1,hmk,hown,hg1⟩:=run_make_full (P:=Tryz.prog) w w.heap.size 84 5 i0 (.int .u8 0) 1 Tryz.underlying84 hi hz0 hz1 .i64 .i64 l.length (by rw [hz2]; omega) (by simp only [maxLen]; omega) (Nat.le_refl _);have h0:TRow w.heap.size w.heap.size w (l.map CharT.b) l.length 0 W1:=by
  refine ⟨(Below.refl _ w).grown hg1 (Nat.le_refl _) (fun k e=>by cases e),?_⟩;rcases hown.2 with ⟨h,_⟩ | ⟨g,cap',cur,h,_,hgb,_,_,hcs,htk⟩
  . cases h
  . injection h with e1 _ e3
    injection e1 with e1
    injection e1 with e1
    subst e1 e3;refine ⟨cur,hgb,by omega,fun i h=>by omega,fun i hi=>⟨0,?_⟩⟩;have hh:(List.take (l.length * 1) cur.toList)[i]? = (madeCells (Value.int .u8 0).cells (l.length * 1)).toList[i]?:=by rw [htk]
    rw [List.getElem?_take,if_pos (by omega),Array.getElem?_toList,Array.getElem?_toList] at hh;rw [hh];have hz:(Value.int IntKind.u8 0).cells = #[.int .u8 0]:=rfl;rw [hz];simp [madeCells,hi,Nat.mod_one]
 have hgl:w.heap.size≠W1.heap.size:=by
  obtain ⟨_,cur,h,_⟩:=h0;have:=(Array.getElem?_eq_some_iff.1 h).1;omega
 gi_wp2_with (rw [hmk])
 gi_loopw [11] (fun u wr=>∃ k:Nat,k<=l.length/\u = .int .i64 (k:Int)/\TRow w.heap.size w.heap.size w (l.map CharT.b) l.length k wr)
  (fun u _=>match u with | .int _ z=>l.length - z.toNat | _=>0)
 case atStart=>exact ⟨0,Nat.zero_le _,rfl,h0⟩
 case round=>
  obtain ⟨k,hk,rfl,hbel,cur,hgb,hcs,hc1,hc2⟩:=hrel;by_cases hlt:k < l.length
  . obtain ⟨b,o,rfl,⟨a0,b0⟩,⟨a1,b1⟩⟩:=hch k hlt;have hbl:b < w.heap.size:=by
     rcases Nat.lt_or_ge b w.heap.size with h | h
     . exact h
     . rw [hwm b h] at b0; omega
    have f0:wr.cell? ⟨b,o+k * 2,none⟩=some (.int .u8 l[k].b):=by rw [Nat.mul_comm k 2]; exact (jW (hbel.block b hbl) _).trans a0
    have f1:wr.cell? ⟨b,o+k * 2+1,none⟩=some (.int .i64 l[k].fat):=by rw [Nat.mul_comm k 2]; exact (jW (hbel.block b hbl) _).trans a1
    have hgs:=(Array.getElem?_eq_some_iff.1 hgb).1;obtain ⟨W3,hW3⟩:∃ W3,wr.alloc (.cells #[.int .u8 l[k].b,.int .i64 l[k].fat] 55)=W3:=⟨_,rfl⟩;have hg3:W3.heap[w.heap.size]? = some (.cells cur 5 (0,0)):=by rw [<- hW3,Below.heap_alloc _ _ _ hgs]; exact hgb
    have hn3:W3.heap[wr.heap.size]? = some (.cells #[.int .u8 l[k].b,.int .i64 l[k].fat] 55 (0,0)):=by rw [<- hW3]; exact World.alloc_heap_new wr _
    have g0:W3.cell? ⟨wr.heap.size,0,none⟩=some (.int .u8 l[k].b):=by simp [World.cell?,hn3]
    obtain ⟨z,hz⟩:=hc2 k hlt;have hck:W3.cell? ⟨w.heap.size,k,none⟩=some (.int .u8 z):=by simp [World.cell?,hg3,hz]
    have hfk:W3.frozen? ⟨w.heap.size,k,none⟩=false:=by simp [World.frozen?,hg3]
    gi_wp2_with (rw [hW3])
    refine ⟨⟨k+1,hlt,rfl,?_⟩,?_⟩
    . have hbel3:Below w.heap.size w W3:=by rw [<- hW3]; exact hbel.alloc hbel.size _
      refine ⟨hbel3.grown (zGc W3 w.heap.size k (.int .u8 l[k].b)) hbel3.size (fun j e=>by injection e with e; omega),cur.setIfInBounds k (.int .u8 l[k].b),zNF _ hg3,by simpa using hcs,fun i hi=>?_,fun i hi=>?_⟩
      . rw [Array.getElem?_setIfInBounds];by_cases e:k=i
        . subst e;rw [if_pos rfl,if_pos (by omega)];simp [hlt]
        . rw [if_neg e]; exact hc1 i (by omega)
      . rw [Array.getElem?_setIfInBounds];by_cases e:k=i
        . subst e;rw [if_pos rfl,if_pos (by omega)];exact ⟨_,rfl⟩
        . rw [if_neg e]; exact hc2 i hi
    . show l.length - Int.toNat ((k:Int)+1) < l.length - Int.toNat (k:Int);omega
  . obtain rfl:k=l.length:=by omega
    have hcv:=run_convert_bytes_arg (P:=Tryz.prog) wr 84 5 Tryz.underlying84 Tryz.underlying5 w.heap.size 0 l.length l.length (l.map CharT.b) (by simp) (fun i hi=>by
     have:=hc1 i hi;simp [World.cell?,hgb,this]) 9 Tryz.underlying9
    gi_wp2_with (rw [hcv])
    go_ret;exact ⟨rfl,hbel⟩
def c17 (x:List CharT×Unit):Option (Str×Unit):=if x.1.length < 1100000 then some (x.1.map (fun c=>UInt8.ofNat c.b.toNat),()) else none
theorem pure17 (l:List CharT) (hlen:l.length < 1100000):PureF Tryz.prog 17 [.lst (zz (l.map yh)) (l.map yh)] (.at (.string ⟨(l.map (fun c=>UInt8.ofNat c.b.toNat)).toArray⟩)):=by
 intro wm w us hwm hgl hu;obtain ⟨v,rfl⟩:∃ v,us=[v]:=by cases hu with | cons _ hv=>cases hv; exact ⟨_,rfl⟩
 cases hu with
 | cons h _=>
  obtain ⟨us,h1,h2⟩:=h;have hle:=qN _ _ _ _ h1;obtain ⟨sv,rfl⟩:=List.length_eq_one_iff.1 (show us.length=1 from hle);obtain ⟨ad,cap,rfl,hch⟩:=zSr h1;have:v = .slice ad l.length cap:=h2;subst this;refine callsIn_wide.1 ((zTe 3 l hlen wm w hwm ad cap hch).mono ?_);rintro e w' ⟨rfl,hbel⟩;obtain ⟨q1,q2⟩:=zAX hwm hbel;refine ⟨_,wm,rfl,q1,q2,?_⟩;have e2:strOfNums (l.map CharT.b)=⟨(l.map (fun c=>UInt8.ofNat c.b.toNat)).toArray⟩:=by simp [strOfNums,List.map_map,Function.comp_def]
  rw [e2];exact RV_at_mk rfl
theorem ok17:ConOk CC Tryz.prog 17 ⟨as17,rs17,c17⟩:=fun x y hx vs hvs=>by
 obtain ⟨s,u⟩:=x;obtain ⟨v,vs',rfl,hv,hvs⟩:=hvs;replace hvs:vs' = []:=hvs;subst hvs;change List CharT at s;replace hv:v = .lst (zz (s.map yh)) (s.map yh):=hv;subst hv;by_cases h:s.length < 1100000
 . have h2:c17 (s,u)=some (s.map (fun c=>UInt8.ofNat c.b.toNat),()):=if_pos h;replace hx:c17 (s,u)=some y:=hx;rw [h2] at hx;injection hx with hx
   subst hx;exact pure17 s h
 . have h2:c17 (s,u)=none:=if_neg h;replace hx:c17 (s,u)=some y:=hx;rw [h2] at hx;cases hx
end
section
open Go.Al Go.Den
theorem zAi (P:Program) (op:BinOp) (t:TypeId) (c:Bool) (k k':IntKind) (a b:Int) (K:V->Prop):zBj P op t c (.at (.int k a)) (.at (.int k' b)) K=aBin P op t (.at (.int k a)) (.at (.int k' b)) K:=rfl
abbrev polN:Pol:=⟨fun _=>false,fun _=>false,fun _=>false,fun _=>false,[],fun _=>[]⟩
def xG (s:Str) (n:Int):Int:=if n < s.length then zFE s n else 0
def c35 (a:Int×Unit) (s:Str) (i:Int):Option (Int×Unit):=if 0<=i+a.1/\i+a.1 < 9223372036854775808/\s.length < 9223372036854775808 then some (xG s (i+a.1),()) else none
set_option maxRecDepth 100000 in
theorem ok35:CROk CC Tryz.prog 35 (cRD [.int .i64] [.int .u8] c35):=by
 intro x R K r hr;obtain ⟨⟨s0,i,u⟩,k,u'⟩:=x;change Str at s0;change Int at i;change Int at k;replace hr:Option.bind (c35 (k,()) s0 i) (fun y=>K y)=some r:=hr;unfold c35 at hr;split at hr
 rotate_left
 . cases hr
 rename_i h;replace hr:K (xG s0 (i+k),())=some r:=hr;replace h:0<=i+k/\i+k < 9223372036854775808/\s0.length < 9223372036854775808:=h;refine ⟨_,hr,fun s va q hv hn=>?_⟩;simp only [VKs,VK] at hv;obtain ⟨v,w,q1,q2,rfl,rfl,⟨b0,cs,q3,rfl,e1,⟨v2,w2,q4,q5,rfl,rfl,⟨rfl,rfl⟩,v4,w4,q8,q9,rfl,rfl,⟨rfl,rfl⟩,rfl,rfl⟩,rfl⟩,v3,w3,q6,q7,rfl,rfl,⟨rfl,rfl⟩,rfl,rfl⟩:=hv;refine ⟨[.at (.int .u8 (xG s0 (i+k)))],fun s'=>⟨_,[],[],[],rfl,rfl,⟨rfl,rfl⟩,rfl,rfl⟩,?_⟩;simp only [List.nil_append,List.append_nil,List.cons_append];have e2:=(xV s [.inr b0] b0).1 (by simp);rw [e1] at e2;show FnC Tryz.prog 35 _ (subS s [.inr b0]) fun oc s'=>oc = .ret (finV [.at (.int .u8 (xG s0 (i+k)))])/\s' = subS s [.inr b0];generalize subS s [.inr b0]=s1 at e2 ⊢;refine zAB Tryz.func35 rfl Tryz.ntmps35 Tryz.results35 (by show 2<=28; decide) fun B=>?_;simp only [List.cons_append,List.nil_append,List.append_nil,jT,Nat.reduceAdd];replace e2:Al.look s1.box b0=some ([.at (.string ⟨List.toArray s0⟩),.at (.int .i64 i)],2):=e2;have hw:IntKind.i64.wrap (i+k)=i+k:=IntWalk.i64_in _ (by omega);have hsz:(⟨List.toArray s0⟩:ByteArray).size=s0.length:=by simp [ByteArray.size]
 (repeat (first|(refine zc ?_)|(refine zW ?_;simp -failIfUnchanged only [zB,zG])|(refine zd ?_;simp -failIfUnchanged only [zT,zR,zb,zS])|(refine ya ?_;simp -failIfUnchanged only [yO,yH,zB,zG,reduceIte])|(refine z7 ?_)|((first | (refine ze polN ks35 _ rfl rfl ?_)|(refine jk polN mixed ks35 _ rfl rfl (by kernel_rfl) (by kernel_rfl) ?_));simp only [↓zu,↓xP,↓kq,↓zHP,↓xp,↓yi,↓qK,↓AL_len,zB,zC,zD,zF,zL,zP,zw,zY,za,zBY,zL1,zRw,zTA,yV,yQ,yF,zk,zr,implies_true,and_self,yD,yC,List.length_cons,List.length_nil,List.drop_zero,List.drop_succ_cons,List.take_succ_cons,List.take_zero,List.take_nil,List.getD_cons_zero,List.getD_cons_succ,Bool.true_and,Bool.and_self,if_true,if_false,true_and,Nat.reduceAdd,Nat.reduceEqDiff,Nat.reduceLeDiff,reduceCtorEq,Bool.false_eq_true,Nat.zero_add,Nat.add_zero,Nat.le_refl,Nat.lt_add_one,hasT3,aggT3,zQF,zCF,zFu,zA9,strT9,zNP,zOA,ks35,e2,zAi,hw,hsz])))
 refine x9 rfl (fun h1=>?_) (fun h1=>?_)
 . have h2:i+k >= s0.length:=of_decide_eq_true h1;have h3:xG s0 (i+k)=0:=if_neg (by omega)
   (repeat (first|(refine zc ?_)|(refine zW ?_;simp -failIfUnchanged only [zB,zG])|(refine zd ?_;simp -failIfUnchanged only [zT,zR,zb,zS])|(refine ya ?_;simp -failIfUnchanged only [yO,yH,zB,zG,reduceIte])|(refine z7 ?_)|((first | (refine ze polN ks35 _ rfl rfl ?_)|(refine jk polN mixed ks35 _ rfl rfl (by kernel_rfl) (by kernel_rfl) ?_));simp only [↓zu,↓kq,zB,zC,zD,zF,zP,zw,zY,za,if_true,if_false,Nat.reduceEqDiff,reduceCtorEq,ks35])))
   simp only [yb];rw [h3];exact ⟨rfl,rfl,trivial⟩
 . have h2:¬ i+k >= s0.length:=of_decide_eq_false h1;have h3:xG s0 (i+k)=zFE s0 (i+k):=if_pos (by omega);refine zW ?_;simp -failIfUnchanged only [zB,zG];have hin:0<=i+k/\i+k < (s0.length:Int):=by omega
   (repeat (first|(refine zc ?_)|(refine zW ?_;simp -failIfUnchanged only [zB,zG])|(refine zd ?_;simp -failIfUnchanged only [zT,zR,zb,zS])|(refine ya ?_;simp -failIfUnchanged only [yO,yH,zB,zG,reduceIte])|(refine z7 ?_)|((first | (refine ze polN ks35 _ rfl rfl ?_)|(refine jk polN mixed ks35 _ rfl rfl (by kernel_rfl) (by kernel_rfl) ?_));simp only [↓zu,↓xP,↓kq,↓zHP,↓xp,↓zSj,↓yi,↓qK,zB,zC,zD,zF,zL,zY,za,zBY,zL1,yV,yQ,yF,zk,zr,zOS,implies_true,and_self,yD,yC,List.length_cons,List.length_nil,List.drop_zero,List.drop_succ_cons,List.take_succ_cons,List.take_zero,List.take_nil,List.getD_cons_zero,List.getD_cons_succ,Bool.true_and,Bool.and_self,if_true,if_false,true_and,Nat.reduceAdd,Nat.reduceEqDiff,Nat.reduceLeDiff,reduceCtorEq,Bool.false_eq_true,Nat.zero_add,Nat.add_zero,Nat.le_refl,Nat.lt_add_one,hasT3,aggT3,zQF,zCF,zFu,zA9,strT9,zNP,zOA,ks35,e2,zAi,hw,hsz,hin])))
   have hg:(List.toArray s0).getD (i+k).toNat 0=s0.getD (i+k).toNat 0:=by simp [Array.getD_eq_getD_getElem?,List.getD_eq_getElem?_getD]
   simp only [yb];rw [h3,hg];exact ⟨rfl,rfl,trivial⟩
end
section
open Go.Al Go.Den
def sh36 (fu:Nat) (x:((Str×(Int×Unit))×Unit)) (a:(Str×Unit)):(Option (Option (((Str×(Int×Unit))×Unit)×(Bool×Unit)))):=cond (inS x.1.2.1 (lenI x.1.1) x.1.1.length) (cond (ile (lenI a.1) (lenI (cutL x.1.1 x.1.2.1 (lenI x.1.1)))) (cond (inS 0 (lenI a.1) (List.length (cutL x.1.1 x.1.2.1 (lenI x.1.1)))) (some (some (x,((seq (cutL (cutL x.1.1 x.1.2.1 (lenI x.1.1)) 0 (lenI a.1)) a.1),())))) (none)) (some (some (x,(false,()))))) (none)
theorem eq36:@run36 = @sh36:=by kernel_rfl
def sh18 (fu:Nat) (c37:(Str×(Int×Unit))->(Option (Int×Unit))) (c38:(Str×(Str×Unit))->(Option (Int×Unit))) (c35:(Int×Unit)->Str->Int->(Option (Int×Unit))) (c36:(Str×Unit)->Str->Int->(Option ((Bool×Unit)×Int))) (x:((Str×(Int×Unit))×Unit)) (a:Unit):(Option (Option (((Str×(Int×Unit))×Unit)×(Bool×Unit)))):=zCG (fun (join0:(Unit×((Str×(Int×Unit))×Unit))->Option (Option (((Str×(Int×Unit))×Unit)×(Bool×Unit))))=>Option.bind (c35 (0,()) x.1.1 x.1.2.1) fun y0=>zCG (fun (join1:((Bool×Unit)×((Str×(Int×Unit))×Unit))->Option (Option (((Str×(Int×Unit))×Unit)×(Bool×Unit))))=>cond (ieq y0.1 32) (join1 ((true,()),x)) (cond (ieq y0.1 9) (join1 ((true,()),x)) (cond (ieq y0.1 11) (join1 ((true,()),x)) (cond (ieq y0.1 12) (join1 ((true,()),x)) (join1 (((ieq y0.1 13),()),x)))))) (fun (t0:((Bool×Unit)×((Str×(Int×Unit))×Unit)))=>cond t0.1.1 (some (some (((t0.2.1.1,((iadd .i64 t0.2.1.2.1 1),())),()),(true,())))) (join0 ((),t0.2)))) (fun (t0:(Unit×((Str×(Int×Unit))×Unit)))=>Option.bind (c36 ([47,47],()) t0.2.1.1 t0.2.1.2.1) fun y0=>cond y0.1.1 (cond (inS y0.2 (lenI t0.2.1.1) t0.2.1.1.length) (Option.bind (c37 ((cutL t0.2.1.1 y0.2 (lenI t0.2.1.1)),(10,()))) fun y1=>zCG (fun (join0:((Int×Unit)×((Str×(Int×Unit))×Unit))->Option (Option (((Str×(Int×Unit))×Unit)×(Bool×Unit))))=>cond (ilt y1.1 0) (join0 (((isub .i64 (lenI t0.2.1.1) y0.2),()),((t0.2.1.1,(y0.2,())),()))) (join0 ((y1.1,()),((t0.2.1.1,(y0.2,())),())))) (fun (t1:((Int×Unit)×((Str×(Int×Unit))×Unit)))=>some (some (((t1.2.1.1,((iadd .i64 t1.2.1.2.1 t1.1.1),())),()),(true,()))))) (none)) (Option.bind (c36 ([47,42],()) t0.2.1.1 y0.2) fun y1=>cond (!y1.1.1) (some (some (((t0.2.1.1,(y1.2,())),()),(false,())))) (cond (inS (iadd .i64 y1.2 2) (lenI t0.2.1.1) t0.2.1.1.length) (Option.bind (c38 ((cutL t0.2.1.1 (iadd .i64 y1.2 2) (lenI t0.2.1.1)),([42,47],()))) fun y2=>cond (ilt y2.1 0) (some (some (((t0.2.1.1,(y1.2,())),()),(false,())))) (some (some (((t0.2.1.1,((iadd .i64 y1.2 (iadd .i64 y2.1 4)),())),()),(true,()))))) (none))))
theorem eq18:@run18 = @sh18:=by kernel_rfl
def sh39 (fu:Nat) (c35:(Int×Unit)->Str->Int->(Option (Int×Unit))) (x:((Str×(Int×Unit))×Unit)) (a:Unit):(Option (Option (((Str×(Int×Unit))×Unit)×(Int×Unit)))):=iter fu (fun (rec1:((Int×Unit)×((Str×(Int×Unit))×Unit))->Option (Option (((Str×(Int×Unit))×Unit)×(Int×Unit)))) (s1:((Int×Unit)×((Str×(Int×Unit))×Unit)))=>Option.bind (c35 (s1.1.1,()) s1.2.1.1 s1.2.1.2.1) fun y0=>cond (ieq y0.1 95) (rec1 (((iadd .i64 s1.1.1 1),()),s1.2)) (cond (ile 97 y0.1) (cond (ile y0.1 122) (rec1 (((iadd .i64 s1.1.1 1),()),s1.2)) (cond (ile 65 y0.1) (cond (ile y0.1 90) (rec1 (((iadd .i64 s1.1.1 1),()),s1.2)) (cond (ilt 0 s1.1.1) (Option.bind (c35 (s1.1.1,()) s1.2.1.1 s1.2.1.2.1) fun y1=>cond (ile 48 y1.1) (cond (ile y1.1 57) (rec1 (((iadd .i64 s1.1.1 1),()),s1.2)) (some (some (s1.2,(s1.1.1,()))))) (some (some (s1.2,(s1.1.1,()))))) (some (some (s1.2,(s1.1.1,())))))) (cond (ilt 0 s1.1.1) (Option.bind (c35 (s1.1.1,()) s1.2.1.1 s1.2.1.2.1) fun y1=>cond (ile 48 y1.1) (cond (ile y1.1 57) (rec1 (((iadd .i64 s1.1.1 1),()),s1.2)) (some (some (s1.2,(s1.1.1,()))))) (some (some (s1.2,(s1.1.1,()))))) (some (some (s1.2,(s1.1.1,()))))))) (cond (ile 65 y0.1) (cond (ile y0.1 90) (rec1 (((iadd .i64 s1.1.1 1),()),s1.2)) (cond (ilt 0 s1.1.1) (Option.bind (c35 (s1.1.1,()) s1.2.1.1 s1.2.1.2.1) fun y1=>cond (ile 48 y1.1) (cond (ile y1.1 57) (rec1 (((iadd .i64 s1.1.1 1),()),s1.2)) (some (some (s1.2,(s1.1.1,()))))) (some (some (s1.2,(s1.1.1,()))))) (some (some (s1.2,(s1.1.1,())))))) (cond (ilt 0 s1.1.1) (Option.bind (c35 (s1.1.1,()) s1.2.1.1 s1.2.1.2.1) fun y1=>cond (ile 48 y1.1) (cond (ile y1.1 57) (rec1 (((iadd .i64 s1.1.1 1),()),s1.2)) (some (some (s1.2,(s1.1.1,()))))) (some (some (s1.2,(s1.1.1,()))))) (some (some (s1.2,(s1.1.1,())))))))) ((0,()),x)
theorem eq39:@run39 = @sh39:=by kernel_rfl
def sh40 (fu:Nat) (c37:(Str×(Int×Unit))->(Option (Int×Unit))) (c35:(Int×Unit)->Str->Int->(Option (Int×Unit))) (x:((Str×(Int×Unit))×Unit)) (a:Unit):(Option (Option (((Str×(Int×Unit))×Unit)×(Int×Unit)))):=Option.bind (c35 (0,()) x.1.1 x.1.2.1) fun y0=>cond (ile 48 y0.1) (cond (!(ile y0.1 57)) (Option.bind (c35 (0,()) x.1.1 x.1.2.1) fun y1=>cond (ine y1.1 46) (some (some (x,(0,())))) (Option.bind (c35 (1,()) x.1.1 x.1.2.1) fun y2=>cond (ile 48 y2.1) (cond (!(ile y2.1 57)) (some (some (x,(0,())))) (iter fu (fun (rec1:((Int×Unit)×((Str×(Int×Unit))×Unit))->Option (Option (((Str×(Int×Unit))×Unit)×(Int×Unit)))) (s1:((Int×Unit)×((Str×(Int×Unit))×Unit)))=>Option.bind (c35 (s1.1.1,()) s1.2.1.1 s1.2.1.2.1) fun y3=>Option.bind (c35 ((iadd .i64 s1.1.1 1),()) s1.2.1.1 s1.2.1.2.1) fun y4=>Option.bind (c37 ([101,69,112,80],(y3.1,()))) fun y5=>cond (ile 0 y5.1) (cond (ieq y4.1 43) (rec1 (((iadd .i64 s1.1.1 2),()),s1.2)) (cond (ieq y4.1 45) (rec1 (((iadd .i64 s1.1.1 2),()),s1.2)) (cond (ieq y3.1 95) (rec1 (((iadd .i64 s1.1.1 1),()),s1.2)) (cond (ile 97 y3.1) (cond (ile y3.1 122) (rec1 (((iadd .i64 s1.1.1 1),()),s1.2)) (cond (ile 65 y3.1) (cond (ile y3.1 90) (rec1 (((iadd .i64 s1.1.1 1),()),s1.2)) (cond (ile 48 y3.1) (cond (ile y3.1 57) (rec1 (((iadd .i64 s1.1.1 1),()),s1.2)) (cond (ieq y3.1 46) (rec1 (((iadd .i64 s1.1.1 1),()),s1.2)) (some (some (s1.2,(s1.1.1,())))))) (cond (ieq y3.1 46) (rec1 (((iadd .i64 s1.1.1 1),()),s1.2)) (some (some (s1.2,(s1.1.1,()))))))) (cond (ile 48 y3.1) (cond (ile y3.1 57) (rec1 (((iadd .i64 s1.1.1 1),()),s1.2)) (cond (ieq y3.1 46) (rec1 (((iadd .i64 s1.1.1 1),()),s1.2)) (some (some (s1.2,(s1.1.1,())))))) (cond (ieq y3.1 46) (rec1 (((iadd .i64 s1.1.1 1),()),s1.2)) (some (some (s1.2,(s1.1.1,())))))))) (cond (ile 65 y3.1) (cond (ile y3.1 90) (rec1 (((iadd .i64 s1.1.1 1),()),s1.2)) (cond (ile 48 y3.1) (cond (ile y3.1 57) (rec1 (((iadd .i64 s1.1.1 1),()),s1.2)) (cond (ieq y3.1 46) (rec1 (((iadd .i64 s1.1.1 1),()),s1.2)) (some (some (s1.2,(s1.1.1,())))))) (cond (ieq y3.1 46) (rec1 (((iadd .i64 s1.1.1 1),()),s1.2)) (some (some (s1.2,(s1.1.1,()))))))) (cond (ile 48 y3.1) (cond (ile y3.1 57) (rec1 (((iadd .i64 s1.1.1 1),()),s1.2)) (cond (ieq y3.1 46) (rec1 (((iadd .i64 s1.1.1 1),()),s1.2)) (some (some (s1.2,(s1.1.1,())))))) (cond (ieq y3.1 46) (rec1 (((iadd .i64 s1.1.1 1),()),s1.2)) (some (some (s1.2,(s1.1.1,()))))))))))) (cond (ieq y3.1 95) (rec1 (((iadd .i64 s1.1.1 1),()),s1.2)) (cond (ile 97 y3.1) (cond (ile y3.1 122) (rec1 (((iadd .i64 s1.1.1 1),()),s1.2)) (cond (ile 65 y3.1) (cond (ile y3.1 90) (rec1 (((iadd .i64 s1.1.1 1),()),s1.2)) (cond (ile 48 y3.1) (cond (ile y3.1 57) (rec1 (((iadd .i64 s1.1.1 1),()),s1.2)) (cond (ieq y3.1 46) (rec1 (((iadd .i64 s1.1.1 1),()),s1.2)) (some (some (s1.2,(s1.1.1,())))))) (cond (ieq y3.1 46) (rec1 (((iadd .i64 s1.1.1 1),()),s1.2)) (some (some (s1.2,(s1.1.1,()))))))) (cond (ile 48 y3.1) (cond (ile y3.1 57) (rec1 (((iadd .i64 s1.1.1 1),()),s1.2)) (cond (ieq y3.1 46) (rec1 (((iadd .i64 s1.1.1 1),()),s1.2)) (some (some (s1.2,(s1.1.1,())))))) (cond (ieq y3.1 46) (rec1 (((iadd .i64 s1.1.1 1),()),s1.2)) (some (some (s1.2,(s1.1.1,())))))))) (cond (ile 65 y3.1) (cond (ile y3.1 90) (rec1 (((iadd .i64 s1.1.1 1),()),s1.2)) (cond (ile 48 y3.1) (cond (ile y3.1 57) (rec1 (((iadd .i64 s1.1.1 1),()),s1.2)) (cond (ieq y3.1 46) (rec1 (((iadd .i64 s1.1.1 1),()),s1.2)) (some (some (s1.2,(s1.1.1,())))))) (cond (ieq y3.1 46) (rec1 (((iadd .i64 s1.1.1 1),()),s1.2)) (some (some (s1.2,(s1.1.1,()))))))) (cond (ile 48 y3.1) (cond (ile y3.1 57) (rec1 (((iadd .i64 s1.1.1 1),()),s1.2)) (cond (ieq y3.1 46) (rec1 (((iadd .i64 s1.1.1 1),()),s1.2)) (some (some (s1.2,(s1.1.1,())))))) (cond (ieq y3.1 46) (rec1 (((iadd .i64 s1.1.1 1),()),s1.2)) (some (some (s1.2,(s1.1.1,())))))))))) ((1,()),x))) (some (some (x,(0,())))))) (iter fu (fun (rec1:((Int×Unit)×((Str×(Int×Unit))×Unit))->Option (Option (((Str×(Int×Unit))×Unit)×(Int×Unit)))) (s1:((Int×Unit)×((Str×(Int×Unit))×Unit)))=>Option.bind (c35 (s1.1.1,()) s1.2.1.1 s1.2.1.2.1) fun y1=>Option.bind (c35 ((iadd .i64 s1.1.1 1),()) s1.2.1.1 s1.2.1.2.1) fun y2=>Option.bind (c37 ([101,69,112,80],(y1.1,()))) fun y3=>cond (ile 0 y3.1) (cond (ieq y2.1 43) (rec1 (((iadd .i64 s1.1.1 2),()),s1.2)) (cond (ieq y2.1 45) (rec1 (((iadd .i64 s1.1.1 2),()),s1.2)) (cond (ieq y1.1 95) (rec1 (((iadd .i64 s1.1.1 1),()),s1.2)) (cond (ile 97 y1.1) (cond (ile y1.1 122) (rec1 (((iadd .i64 s1.1.1 1),()),s1.2)) (cond (ile 65 y1.1) (cond (ile y1.1 90) (rec1 (((iadd .i64 s1.1.1 1),()),s1.2)) (cond (ile 48 y1.1) (cond (ile y1.1 57) (rec1 (((iadd .i64 s1.1.1 1),()),s1.2)) (cond (ieq y1.1 46) (rec1 (((iadd .i64 s1.1.1 1),()),s1.2)) (some (some (s1.2,(s1.1.1,())))))) (cond (ieq y1.1 46) (rec1 (((iadd .i64 s1.1.1 1),()),s1.2)) (some (some (s1.2,(s1.1.1,()))))))) (cond (ile 48 y1.1) (cond (ile y1.1 57) (rec1 (((iadd .i64 s1.1.1 1),()),s1.2)) (cond (ieq y1.1 46) (rec1 (((iadd .i64 s1.1.1 1),()),s1.2)) (some (some (s1.2,(s1.1.1,())))))) (cond (ieq y1.1 46) (rec1 (((iadd .i64 s1.1.1 1),()),s1.2)) (some (some (s1.2,(s1.1.1,())))))))) (cond (ile 65 y1.1) (cond (ile y1.1 90) (rec1 (((iadd .i64 s1.1.1 1),()),s1.2)) (cond (ile 48 y1.1) (cond (ile y1.1 57) (rec1 (((iadd .i64 s1.1.1 1),()),s1.2)) (cond (ieq y1.1 46) (rec1 (((iadd .i64 s1.1.1 1),()),s1.2)) (some (some (s1.2,(s1.1.1,())))))) (cond (ieq y1.1 46) (rec1 (((iadd .i64 s1.1.1 1),()),s1.2)) (some (some (s1.2,(s1.1.1,()))))))) (cond (ile 48 y1.1) (cond (ile y1.1 57) (rec1 (((iadd .i64 s1.1.1 1),()),s1.2)) (cond (ieq y1.1 46) (rec1 (((iadd .i64 s1.1.1 1),()),s1.2)) (some (some (s1.2,(s1.1.1,())))))) (cond (ieq y1.1 46) (rec1 (((iadd .i64 s1.1.1 1),()),s1.2)) (some (some (s1.2,(s1.1.1,()))))))))))) (cond (ieq y1.1 95) (rec1 (((iadd .i64 s1.1.1 1),()),s1.2)) (cond (ile 97 y1.1) (cond (ile y1.1 122) (rec1 (((iadd .i64 s1.1.1 1),()),s1.2)) (cond (ile 65 y1.1) (cond (ile y1.1 90) (rec1 (((iadd .i64 s1.1.1 1),()),s1.2)) (cond (ile 48 y1.1) (cond (ile y1.1 57) (rec1 (((iadd .i64 s1.1.1 1),()),s1.2)) (cond (ieq y1.1 46) (rec1 (((iadd .i64 s1.1.1 1),()),s1.2)) (some (some (s1.2,(s1.1.1,())))))) (cond (ieq y1.1 46) (rec1 (((iadd .i64 s1.1.1 1),()),s1.2)) (some (some (s1.2,(s1.1.1,()))))))) (cond (ile 48 y1.1) (cond (ile y1.1 57) (rec1 (((iadd .i64 s1.1.1 1),()),s1.2)) (cond (ieq y1.1 46) (rec1 (((iadd .i64 s1.1.1 1),()),s1.2)) (some (some (s1.2,(s1.1.1,())))))) (cond (ieq y1.1 46) (rec1 (((iadd .i64 s1.1.1 1),()),s1.2)) (some (some (s1.2,(s1.1.1,())))))))) (cond (ile 65 y1.1) (cond (ile y1.1 90) (rec1 (((iadd .i64 s1.1.1 1),()),s1.2)) (cond (ile 48 y1.1) (cond (ile y1.1 57) (rec1 (((iadd .i64 s1.1.1 1),()),s1.2)) (cond (ieq y1.1 46) (rec1 (((iadd .i64 s1.1.1 1),()),s1.2)) (some (some (s1.2,(s1.1.1,())))))) (cond (ieq y1.1 46) (rec1 (((iadd .i64 s1.1.1 1),()),s1.2)) (some (some (s1.2,(s1.1.1,()))))))) (cond (ile 48 y1.1) (cond (ile y1.1 57) (rec1 (((iadd .i64 s1.1.1 1),()),s1.2)) (cond (ieq y1.1 46) (rec1 (((iadd .i64 s1.1.1 1),()),s1.2)) (some (some (s1.2,(s1.1.1,())))))) (cond (ieq y1.1 46) (rec1 (((iadd .i64 s1.1.1 1),()),s1.2)) (some (some (s1.2,(s1.1.1,())))))))))) ((1,()),x))) (Option.bind (c35 (0,()) x.1.1 x.1.2.1) fun y1=>cond (ine y1.1 46) (some (some (x,(0,())))) (Option.bind (c35 (1,()) x.1.1 x.1.2.1) fun y2=>cond (ile 48 y2.1) (cond (!(ile y2.1 57)) (some (some (x,(0,())))) (iter fu (fun (rec1:((Int×Unit)×((Str×(Int×Unit))×Unit))->Option (Option (((Str×(Int×Unit))×Unit)×(Int×Unit)))) (s1:((Int×Unit)×((Str×(Int×Unit))×Unit)))=>Option.bind (c35 (s1.1.1,()) s1.2.1.1 s1.2.1.2.1) fun y3=>Option.bind (c35 ((iadd .i64 s1.1.1 1),()) s1.2.1.1 s1.2.1.2.1) fun y4=>Option.bind (c37 ([101,69,112,80],(y3.1,()))) fun y5=>cond (ile 0 y5.1) (cond (ieq y4.1 43) (rec1 (((iadd .i64 s1.1.1 2),()),s1.2)) (cond (ieq y4.1 45) (rec1 (((iadd .i64 s1.1.1 2),()),s1.2)) (cond (ieq y3.1 95) (rec1 (((iadd .i64 s1.1.1 1),()),s1.2)) (cond (ile 97 y3.1) (cond (ile y3.1 122) (rec1 (((iadd .i64 s1.1.1 1),()),s1.2)) (cond (ile 65 y3.1) (cond (ile y3.1 90) (rec1 (((iadd .i64 s1.1.1 1),()),s1.2)) (cond (ile 48 y3.1) (cond (ile y3.1 57) (rec1 (((iadd .i64 s1.1.1 1),()),s1.2)) (cond (ieq y3.1 46) (rec1 (((iadd .i64 s1.1.1 1),()),s1.2)) (some (some (s1.2,(s1.1.1,())))))) (cond (ieq y3.1 46) (rec1 (((iadd .i64 s1.1.1 1),()),s1.2)) (some (some (s1.2,(s1.1.1,()))))))) (cond (ile 48 y3.1) (cond (ile y3.1 57) (rec1 (((iadd .i64 s1.1.1 1),()),s1.2)) (cond (ieq y3.1 46) (rec1 (((iadd .i64 s1.1.1 1),()),s1.2)) (some (some (s1.2,(s1.1.1,())))))) (cond (ieq y3.1 46) (rec1 (((iadd .i64 s1.1.1 1),()),s1.2)) (some (some (s1.2,(s1.1.1,())))))))) (cond (ile 65 y3.1) (cond (ile y3.1 90) (rec1 (((iadd .i64 s1.1.1 1),()),s1.2)) (cond (ile 48 y3.1) (cond (ile y3.1 57) (rec1 (((iadd .i64 s1.1.1 1),()),s1.2)) (cond (ieq y3.1 46) (rec1 (((iadd .i64 s1.1.1 1),()),s1.2)) (some (some (s1.2,(s1.1.1,())))))) (cond (ieq y3.1 46) (rec1 (((iadd .i64 s1.1.1 1),()),s1.2)) (some (some (s1.2,(s1.1.1,()))))))) (cond (ile 48 y3.1) (cond (ile y3.1 57) (rec1 (((iadd .i64 s1.1.1 1),()),s1.2)) (cond (ieq y3.1 46) (rec1 (((iadd .i64 s1.1.1 1),()),s1.2)) (some (some (s1.2,(s1.1.1,())))))) (cond (ieq y3.1 46) (rec1 (((iadd .i64 s1.1.1 1),()),s1.2)) (some (some (s1.2,(s1.1.1,()))))))))))) (cond (ieq y3.1 95) (rec1 (((iadd .i64 s1.1.1 1),()),s1.2)) (cond (ile 97 y3.1) (cond (ile y3.1 122) (rec1 (((iadd .i64 s1.1.1 1),()),s1.2)) (cond (ile 65 y3.1) (cond (ile y3.1 90) (rec1 (((iadd .i64 s1.1.1 1),()),s1.2)) (cond (ile 48 y3.1) (cond (ile y3.1 57) (rec1 (((iadd .i64 s1.1.1 1),()),s1.2)) (cond (ieq y3.1 46) (rec1 (((iadd .i64 s1.1.1 1),()),s1.2)) (some (some (s1.2,(s1.1.1,())))))) (cond (ieq y3.1 46) (rec1 (((iadd .i64 s1.1.1 1),()),s1.2)) (some (some (s1.2,(s1.1.1,()))))))) (cond (ile 48 y3.1) (cond (ile y3.1 57) (rec1 (((iadd .i64 s1.1.1 1),()),s1.2)) (cond (ieq y3.1 46) (rec1 (((iadd .i64 s1.1.1 1),()),s1.2)) (some (some (s1.2,(s1.1.1,())))))) (cond (ieq y3.1 46) (rec1 (((iadd .i64 s1.1.1 1),()),s1.2)) (some (some (s1.2,(s1.1.1,())))))))) (cond (ile 65 y3.1) (cond (ile y3.1 90) (rec1 (((iadd .i64 s1.1.1 1),()),s1.2)) (cond (ile 48 y3.1) (cond (ile y3.1 57) (rec1 (((iadd .i64 s1.1.1 1),()),s1.2)) (cond (ieq y3.1 46) (rec1 (((iadd .i64 s1.1.1 1),()),s1.2)) (some (some (s1.2,(s1.1.1,())))))) (cond (ieq y3.1 46) (rec1 (((iadd .i64 s1.1.1 1),()),s1.2)) (some (some (s1.2,(s1.1.1,()))))))) (cond (ile 48 y3.1) (cond (ile y3.1 57) (rec1 (((iadd .i64 s1.1.1 1),()),s1.2)) (cond (ieq y3.1 46) (rec1 (((iadd .i64 s1.1.1 1),()),s1.2)) (some (some (s1.2,(s1.1.1,())))))) (cond (ieq y3.1 46) (rec1 (((iadd .i64 s1.1.1 1),()),s1.2)) (some (some (s1.2,(s1.1.1,())))))))))) ((1,()),x))) (some (some (x,(0,()))))))
theorem eq40:@run40 = @sh40:=by kernel_rfl
def sh41 (fu:Nat) (c35:(Int×Unit)->Str->Int->(Option (Int×Unit))) (x:((Str×(Int×Unit))×Unit)) (a:(Int×Unit)):(Option (Option (((Str×(Int×Unit))×Unit)×(Int×Unit)))):=cond (ieq x.1.2.1 (lenI x.1.1)) (some (some (x,(0,())))) (Option.bind (c35 (0,()) x.1.1 x.1.2.1) fun y0=>cond (ine y0.1 a.1) (some (some (x,(0,())))) (iter fu (fun (rec1:((Int×Unit)×((Str×(Int×Unit))×Unit))->Option (Option (((Str×(Int×Unit))×Unit)×(Int×Unit)))) (s1:((Int×Unit)×((Str×(Int×Unit))×Unit)))=>cond (ilt (iadd .i64 s1.2.1.2.1 s1.1.1) (lenI s1.2.1.1)) (Option.bind (c35 (s1.1.1,()) s1.2.1.1 s1.2.1.2.1) fun y1=>cond (ieq y1.1 a.1) (cond (ieq a.1 39) (cond (ieq s1.1.1 1) (some (some (s1.2,(0,())))) (some (some (s1.2,((iadd .i64 s1.1.1 1),()))))) (some (some (s1.2,((iadd .i64 s1.1.1 1),()))))) (cond (ieq y1.1 10) (some (some (s1.2,(0,())))) (cond (ieq y1.1 92) (Option.bind (c35 ((iadd .i64 s1.1.1 1),()) s1.2.1.1 s1.2.1.2.1) fun y2=>cond (ieq y2.1 10) (cond (ilt (iadd .i64 s1.2.1.2.1 (iadd .i64 s1.1.1 1)) (lenI s1.2.1.1)) (some (some (s1.2,(0,())))) (rec1 (((iadd .i64 (iadd .i64 s1.1.1 1) 1),()),s1.2))) (rec1 (((iadd .i64 (iadd .i64 s1.1.1 1) 1),()),s1.2))) (rec1 (((iadd .i64 s1.1.1 1),()),s1.2))))) (some (some (s1.2,(0,()))))) ((1,()),x)))
theorem eq41:@run41 = @sh41:=by kernel_rfl
def sh42 (fu:Nat) (c36:(Str×Unit)->Str->Int->(Option ((Bool×Unit)×Int))) (x:((Str×(Int×Unit))×Unit)) (a:Unit):(Option (Option (((Str×(Int×Unit))×Unit)×(Int×Unit)))):=iter fu (fun (rec1:((Int×(Int×Unit))×((Str×(Int×Unit))×Unit))->Option (Option (((Str×(Int×Unit))×Unit)×(Int×Unit)))) (s1:((Int×(Int×Unit))×((Str×(Int×Unit))×Unit)))=>cond (ilt s1.1.2.1 48) (cond (inB s1.1.2.1 48) (cond (ile (lenI (α:=UInt8) (List.getD [[46,46,46],[60,60,61],[62,62,61],[45,62],[43,43],[45,45],[60,60],[62,62],[60,61],[62,61],[61,61],[33,61],[38,38],[124,124],[42,61],[47,61],[37,61],[43,61],[45,61],[38,61],[94,61],[124,61],[35,35],[91],[93],[40],[41],[123],[125],[46],[38],[42],[43],[45],[126],[33],[47],[37],[60],[62],[94],[124],[63],[58],[59],[61],[44],[35]] s1.1.2.1.toNat [])) s1.1.1) (rec1 ((s1.1.1,((iadd .i64 s1.1.2.1 1),())),s1.2)) (Option.bind (c36 ((List.getD [[46,46,46],[60,60,61],[62,62,61],[45,62],[43,43],[45,45],[60,60],[62,62],[60,61],[62,61],[61,61],[33,61],[38,38],[124,124],[42,61],[47,61],[37,61],[43,61],[45,61],[38,61],[94,61],[124,61],[35,35],[91],[93],[40],[41],[123],[125],[46],[38],[42],[43],[45],[126],[33],[47],[37],[60],[62],[94],[124],[63],[58],[59],[61],[44],[35]] s1.1.2.1.toNat []),()) s1.2.1.1 s1.2.1.2.1) fun y0=>cond (!y0.1.1) (rec1 ((s1.1.1,((iadd .i64 s1.1.2.1 1),())),((s1.2.1.1,(y0.2,())),()))) (rec1 (((lenI (α:=UInt8) (List.getD [[46,46,46],[60,60,61],[62,62,61],[45,62],[43,43],[45,45],[60,60],[62,62],[60,61],[62,61],[61,61],[33,61],[38,38],[124,124],[42,61],[47,61],[37,61],[43,61],[45,61],[38,61],[94,61],[124,61],[35,35],[91],[93],[40],[41],[123],[125],[46],[38],[42],[43],[45],[126],[33],[47],[37],[60],[62],[94],[124],[63],[58],[59],[61],[44],[35]] s1.1.2.1.toNat [])),((iadd .i64 s1.1.2.1 1),())),((s1.2.1.1,(y0.2,())),()))))) (none)) (some (some (s1.2,(s1.1.1,()))))) ((0,(0,())),x)
theorem eq42:@run42 = @sh42:=by kernel_rfl
def sh19 (fu:Nat) (c36:(Str×Unit)->Str->Int->(Option ((Bool×Unit)×Int))) (c39:Unit->Str->Int->(Option ((Int×Unit)×Int))) (c40:Unit->Str->Int->(Option ((Int×Unit)×Int))) (c41:(Int×Unit)->Str->Int->(Option ((Int×Unit)×Int))) (c42:Unit->Str->Int->(Option ((Int×Unit)×Int))) (x:((Str×(Int×Unit))×Unit)) (a:Unit):(Option (Option (((Str×(Int×Unit))×Unit)×(Int×(Int×Unit))))):=Option.bind (c36 ([10],()) x.1.1 x.1.2.1) fun y0=>cond y0.1.1 (some (some (((x.1.1,(y0.2,())),()),(7,(1,()))))) (Option.bind (c39 () x.1.1 y0.2) fun y1=>cond (ilt 0 y1.1.1) (some (some (((x.1.1,(y1.2,())),()),(1,(y1.1.1,()))))) (Option.bind (c40 () x.1.1 y1.2) fun y2=>cond (ilt 0 y2.1.1) (some (some (((x.1.1,(y2.2,())),()),(2,(y2.1.1,()))))) (Option.bind (c41 (34,()) x.1.1 y2.2) fun y3=>cond (ilt 0 y3.1.1) (some (some (((x.1.1,(y3.2,())),()),(4,(y3.1.1,()))))) (Option.bind (c41 (39,()) x.1.1 y3.2) fun y4=>cond (ilt 0 y4.1.1) (some (some (((x.1.1,(y4.2,())),()),(3,(y4.1.1,()))))) (Option.bind (c42 () x.1.1 y4.2) fun y5=>cond (ilt 0 y5.1.1) (some (some (((x.1.1,(y5.2,())),()),(5,(y5.1.1,()))))) (some (some (((x.1.1,(y5.2,())),()),(6,(1,()))))))))))
theorem eq19:@run19 = @sh19:=by kernel_rfl
theorem con36 (fu:Nat) :CQ 36 (cD kS kB (mD (sh36 fu))):=
 zEl (rpk (lo:=[]) (lr:=[]) (zQ zQd (zQ zPq zI)) zI zI zI fdok36 rfl (fun x a=>by rw [<- eq36]; rfl))
theorem con18 (fu:Nat) (c37:zf as37->Option (zf rs37)) (h37:ConOk CC Tryz.prog 37 ⟨as37,rs37,c37⟩) (c38:zf as38->Option (zf rs38)) (h38:ConOk CC Tryz.prog 38 ⟨as38,rs38,c38⟩) (c35:zA kI->Str->Int->Option (zA ([.int .u8]:LK))) (h35:CROk CC Tryz.prog 35 (cRD kI ([.int .u8]:LK) c35)) (c36:zA kS->DD (zA kB)) (h36:CQ 36 (cD kS kB c36)):CQ 18 (cD k0 kB (mD (sh18 fu c37 c38 c35 c36))):=
 zEl (rpk zI (zQ (OrcOk.of ⟨zQx,h37⟩ rfl) (zQ (OrcOk.of ⟨code38,h38⟩ rfl) zI)) (zQ ⟨zHW,h35⟩ zI) (zQ ⟨zLE,h36⟩ zI) fdok18 rfl (fun x a=>by rw [<- eq18]; rfl))
theorem con39 (fu:Nat) (c35:zA kI->Str->Int->Option (zA ([.int .u8]:LK))) (h35:CROk CC Tryz.prog 35 (cRD kI ([.int .u8]:LK) c35)):CQ 39 (cD k0 kI (mD (sh39 fu c35))):=
 zEl (rpk (lo:=[]) (lr:=[(35,cRD kI ([.int .u8]:LK) c35)]) (zQ zQV (zQ zRI zI)) zI (zQ ⟨zHW,h35⟩ zI) zI fdok39 rfl (fun x a=>by rw [<- eq39]; rfl))
theorem con40 (fu:Nat) (c37:zf as37->Option (zf rs37)) (h37:ConOk CC Tryz.prog 37 ⟨as37,rs37,c37⟩) (c35:zA kI->Str->Int->Option (zA ([.int .u8]:LK))) (h35:CROk CC Tryz.prog 35 (cRD kI ([.int .u8]:LK) c35)):CQ 40 (cD k0 kI (mD (sh40 fu c37 c35))):=
 zEl (rpk (lo:=[(37,(⟨as37,rs37,c37⟩:Con UU))]) (lr:=[(35,cRD kI ([.int .u8]:LK) c35)]) (zQ zRb (zQ zQi zI)) (zQ (OrcOk.of ⟨zQx,h37⟩ rfl) zI) (zQ ⟨zHW,h35⟩ zI) zI fdok40 rfl (fun x a=>by rw [<- eq40]; rfl))
theorem con41 (fu:Nat) (c35:zA kI->Str->Int->Option (zA ([.int .u8]:LK))) (h35:CROk CC Tryz.prog 35 (cRD kI ([.int .u8]:LK) c35)):CQ 41 (cD ([.int .u8]:LK) kI (mD (sh41 fu c35))):=
 zEl (rpk zI zI (zQ ⟨zHW,h35⟩ zI) zI fdok41 rfl (fun x a=>by rw [<- eq41]; rfl))
theorem con42 (fu:Nat) (c36:zA kS->DD (zA kB)) (h36:CQ 36 (cD kS kB c36)):CQ 42 (cD k0 kI (mD (sh42 fu c36))):=
 zEl (rpk zI zI zI (zQ ⟨zLE,h36⟩ zI) fdok42 rfl (fun x a=>by rw [<- eq42]; rfl))
theorem con19 (fu:Nat) (c36:zA kS->DD (zA kB)) (h36:CQ 36 (cD kS kB c36)) (c39:zA k0->DD (zA kI)) (h39:CQ 39 (cD k0 kI c39)) (c40:zA k0->DD (zA kI)) (h40:CQ 40 (cD k0 kI c40)) (c41:zA ([.int .u8]:LK)->DD (zA kI)) (h41:CQ 41 (cD ([.int .u8]:LK) kI c41)) (c42:zA k0->DD (zA kI)) (h42:CQ 42 (cD k0 kI c42)):CQ 19 (cD k0 ([.int .i64,.int .i64]:LK) (mD (sh19 fu c36 c39 c40 c41 c42))):=
 zEl (rpk zI zI zI (zQ ⟨zLE,h36⟩ (zQ ⟨code39,h39⟩ (zQ ⟨code40,h40⟩ (zQ ⟨code41,h41⟩ (zQ ⟨code42,h42⟩ zI))))) fdok19 rfl (fun x a=>by rw [<- eq19]; rfl))
end
section
open Go.Al Go.Den
def sh9 (fu:Nat) (c16:(Str×Unit)->(Option ((List CharT)×Unit))) (c17:((List CharT)×Unit)->(Option (Str×Unit))) (c18:Unit->Str->Int->(Option ((Bool×Unit)×Int))) (c19:Unit->Str->Int->(Option ((Int×(Int×Unit))×Int))) (nf:Nat->Bool) (x0:Int) (x1:Str):(Option (LT×Unit)):=Option.bind (c16 (x1,())) fun y0=>Option.bind (c17 (y0.1,())) fun y1=>iter fu (fun (rec1:((LT×Unit)×((Str×(Int×Unit))×Unit))->Option (LT×Unit)) (s1:((LT×Unit)×((Str×(Int×Unit))×Unit)))=>iter fu (fun (rec2:((LT×Unit)×((Str×(Int×Unit))×((Int×(Str×(Int×(Int×(Int×(Bool×Unit))))))×Unit)))->Option (LT×Unit)) (s2:((LT×Unit)×((Str×(Int×Unit))×((Int×(Str×(Int×(Int×(Int×(Bool×Unit))))))×Unit))))=>cond (ilt s2.2.1.2.1 (lenI s2.2.1.1)) (Option.bind (c18 () s2.2.1.1 s2.2.1.2.1) fun y2=>cond y2.1.1 (rec2 ((s2.1.1,()),((s2.2.1.1,(y2.2,())),((s2.2.2.1.1,(s2.2.2.1.2.1,(s2.2.2.1.2.2.1,(s2.2.2.1.2.2.2.1,(s2.2.2.1.2.2.2.2.1,(true,())))))),())))) (cond (ile (lenI s2.2.1.1) y2.2) (some (s2.1.1,())) (Option.bind (c19 () s2.2.1.1 y2.2) fun y3=>cond (inS y3.2 (iadd .i64 y3.2 y3.1.2.1) s2.2.1.1.length) (cond (inB y3.2 y0.1.length) (cond (inB (isub .i64 (iadd .i64 y3.2 y3.1.2.1) 1) y0.1.length) (cond (okN 56 (s2.1.1.length+(List.length [(TokT.mk y3.1.1 (cutL s2.2.1.1 y3.2 (iadd .i64 y3.2 y3.1.2.1)) s2.2.2.1.2.2.1 (CharT.fat (List.getD y0.1 y3.2.toNat zCC)) (iadd .i64 (CharT.fat (List.getD y0.1 (Int.toNat (isub .i64 (iadd .i64 y3.2 y3.1.2.1) 1)) zCC)) 1) s2.2.2.1.2.2.2.2.2.1)]))) (rec1 (((s2.1.1++[(TokT.mk y3.1.1 (cutL s2.2.1.1 y3.2 (iadd .i64 y3.2 y3.1.2.1)) s2.2.2.1.2.2.1 (CharT.fat (List.getD y0.1 y3.2.toNat zCC)) (iadd .i64 (CharT.fat (List.getD y0.1 (Int.toNat (isub .i64 (iadd .i64 y3.2 y3.1.2.1) 1)) zCC)) 1) s2.2.2.1.2.2.2.2.2.1)]),()),((s2.2.1.1,((iadd .i64 y3.2 y3.1.2.1),())),()))) (none)) (none)) (none)) (none)))) (cond (ile (lenI s2.2.1.1) s2.2.1.2.1) (some (s2.1.1,())) (Option.bind (c19 () s2.2.1.1 s2.2.1.2.1) fun y2=>cond (inS y2.2 (iadd .i64 y2.2 y2.1.2.1) s2.2.1.1.length) (cond (inB y2.2 y0.1.length) (cond (inB (isub .i64 (iadd .i64 y2.2 y2.1.2.1) 1) y0.1.length) (cond (okN 56 (s2.1.1.length+(List.length [(TokT.mk y2.1.1 (cutL s2.2.1.1 y2.2 (iadd .i64 y2.2 y2.1.2.1)) s2.2.2.1.2.2.1 (CharT.fat (List.getD y0.1 y2.2.toNat zCC)) (iadd .i64 (CharT.fat (List.getD y0.1 (Int.toNat (isub .i64 (iadd .i64 y2.2 y2.1.2.1) 1)) zCC)) 1) s2.2.2.1.2.2.2.2.2.1)]))) (rec1 (((s2.1.1++[(TokT.mk y2.1.1 (cutL s2.2.1.1 y2.2 (iadd .i64 y2.2 y2.1.2.1)) s2.2.2.1.2.2.1 (CharT.fat (List.getD y0.1 y2.2.toNat zCC)) (iadd .i64 (CharT.fat (List.getD y0.1 (Int.toNat (isub .i64 (iadd .i64 y2.2 y2.1.2.1) 1)) zCC)) 1) s2.2.2.1.2.2.2.2.2.1)]),()),((s2.2.1.1,((iadd .i64 y2.2 y2.1.2.1),())),()))) (none)) (none)) (none)) (none)))) ((s1.1.1,()),((s1.2.1.1,(s1.2.1.2.1,())),((0,([],(x0,(0,(0,(false,())))))),())))) (([],()),((y1.1,(0,())),()))
theorem eq9:@run9 = @sh9:=by kernel_rfl
theorem con9 (fu:Nat) (c16:zf as16->Option (zf rs16)) (h16:ConOk CC Tryz.prog 16 ⟨as16,rs16,c16⟩) (c17:zf as17->Option (zf rs17)) (h17:ConOk CC Tryz.prog 17 ⟨as17,rs17,c17⟩) (c18:zA k0->DD (zA kB)) (h18:CQ 18 (cD k0 kB c18)) (c19:zA k0->DD (zA ([.int .i64,.int .i64]:LK))) (h19:CQ 19 (cD k0 ([.int .i64,.int .i64]:LK) c19)):ConOk CC Tryz.prog 9 ⟨as9,rs9,fun x=>sh9 fu c16 c17 c18 c19 (fun _=>false) x.1 x.2.1⟩:=
 rfk zI (zQ (OrcOk.of ⟨code16,h16⟩ rfl) (zQ (OrcOk.of ⟨code17,h17⟩ rfl) zI)) zI (zQ ⟨code18,h18⟩ (zQ ⟨code19,h19⟩ zI)) fdok9 rfl (qM rfl) (fun nf x=>by show run9 fu c16 c17 c18 c19 nf x.1 x.2.1=_; rw [eq9]; rfl)
end
section
open Go.Al Go.Den
noncomputable def c36:zA ([.str]:LK)->DD (zA ([.bool]:LK)):=mD (sh36 0)
theorem ok36:CPOk CC Tryz.prog syn 36 (cD ([.str]:LK) ([.bool]:LK) c36):=con36 0
noncomputable def c39 (fu:Nat):zA ([]:LK)->DD (zA ([.int .i64]:LK)):=mD (sh39 fu c35)
theorem ok39 (fu:Nat):CPOk CC Tryz.prog syn 39 (cD ([]:LK) ([.int .i64]:LK) (c39 fu)):=con39 fu c35 ok35
noncomputable def c40 (fu:Nat):zA ([]:LK)->DD (zA ([.int .i64]:LK)):=mD (sh40 fu c37 c35)
theorem ok40 (fu:Nat):CPOk CC Tryz.prog syn 40 (cD ([]:LK) ([.int .i64]:LK) (c40 fu)):=con40 fu c37 ok37 c35 ok35
noncomputable def c41 (fu:Nat):zA ([.int .u8]:LK)->DD (zA ([.int .i64]:LK)):=mD (sh41 fu c35)
theorem ok41 (fu:Nat):CPOk CC Tryz.prog syn 41 (cD ([.int .u8]:LK) ([.int .i64]:LK) (c41 fu)):=con41 fu c35 ok35
noncomputable def c42 (fu:Nat):zA ([]:LK)->DD (zA ([.int .i64]:LK)):=mD (sh42 fu c36)
theorem ok42 (fu:Nat):CPOk CC Tryz.prog syn 42 (cD ([]:LK) ([.int .i64]:LK) (c42 fu)):=con42 fu c36 ok36
noncomputable def c19 (fu:Nat):zA ([]:LK)->DD (zA ([.int .i64,.int .i64]:LK)):=mD (sh19 fu c36 (c39 fu) (c40 fu) (c41 fu) (c42 fu))
theorem ok19 (fu:Nat):CPOk CC Tryz.prog syn 19 (cD ([]:LK) ([.int .i64,.int .i64]:LK) (c19 fu)):=con19 fu c36 ok36 (c39 fu) (ok39 fu) (c40 fu) (ok40 fu) (c41 fu) (ok41 fu) (c42 fu) (ok42 fu)
noncomputable def c18 (fu:Nat):zA ([]:LK)->DD (zA ([.bool]:LK)):=mD (sh18 fu c37 c38 c35 c36)
theorem ok18 (fu:Nat):CPOk CC Tryz.prog syn 18 (cD ([]:LK) ([.bool]:LK) (c18 fu)):=con18 fu c37 ok37 c38 ok38 c35 ok35 c36 ok36
noncomputable def c9 (fu:Nat) (x:Int×Str×Unit):Option (List TokT×Unit):=sh9 fu c16 c17 (c18 fu) (c19 fu) (fun _=>false) x.1 x.2.1
theorem ok9 (fu:Nat):ConOk CC Tryz.prog 9 ⟨as9,rs9,c9 fu⟩:=con9 fu c16 ok16 c17 ok17 (c18 fu) (ok18 fu) (c19 fu) (ok19 fu)
end
section
open Go.Al Go.Den Go.RowKit Go.Shelf
attribute [local congr] qj jN jm ke xg qX xD xB qd jM qW jj qi qU yz xJ qc je ji xy jJ qZ qB qA ql qT qC qh qn xx kr jf jg jI jG jD qV xz qD
attribute [local go_sem] Oper.semAt_some
abbrev ptV (b:Nat):V:=.at (.pointer (some ⟨b,0,none⟩))
def j7 (n k:Nat):List (Fin n):=(List.finRange n).reverse.take k
theorem zHd (n k m:Nat) (h:m+k+1=n):j7 n (k+1)=j7 n k++[⟨m,by omega⟩]:=by
 unfold j7;rw [List.take_succ_eq_append_getElem (by simp; omega)];congr 2;rw [List.getElem_reverse];apply Fin.ext;simp;omega
theorem zMn (n k:Nat) (h:k<=n):(j7 n k).length=k:=by simp [j7,h]
theorem zLr {P:Program} {L:Pol} {ds:List (Option Nat)} {KP:List PanicEntry->S->Prop} {os:List Oper} {K:Env->S->Prop} {e:Env} {st:S} {d:Option Nat} {ty:TypeId} {pos:String} {af:Array Edge} (fn:Fn) (xs:List Operand) :
 AL P L ds KP (⟨d,.makeFunc fn #[] xs.toArray,ty,pos,af,none⟩::os) K e st=zHt fn [] (xs.map e.ev) fun v=>AL P L ds KP os K (e.putO d v) st:=propext Iff.rfl
set_option maxRecDepth 100000 in
theorem ok20x {es:List V} {tg:Tag} {s:S} (htg:zn (.lst tg es) = .lst tg es):FnC Tryz.prog 20 [.lst tg es] s fun oc s'=>∃ b,Al.look s.box b=none/\oc = .ret (.clo (.func 43) [ptV b])/\s' = ⟨lay s.box b ([.lst tg es],1),s.tg,s.nx,s.ob⟩:=by
 refine zAB Tryz.func20 rfl Tryz.ntmps20 Tryz.results20 (by show 1<=4; decide) fun B=>?_;simp only [List.cons_append,List.nil_append,List.append_nil,jT,Nat.reduceAdd]
 (repeat (first|(refine zc ?_)|(refine zW ?_;simp -failIfUnchanged only [zB,zG])|(refine zd ?_;simp -failIfUnchanged only [zT,zR,zb,zS])|((refine ze polN ks20 _ rfl rfl ?_);simp only [↓zu,↓kq,↓zPY,zB,zC,zD,zF,zL,zP,zY,za,V.flat,if_true,if_false,Nat.reduceEqDiff,reduceCtorEq,ks20])))
 refine ⟨rfl,fun b hb=>?_⟩
 (repeat (first|(refine zc ?_)|(refine zW ?_;simp -failIfUnchanged only [zB,zG])|(refine zd ?_;simp -failIfUnchanged only [zT,zR,zb,zS])|((refine ze polN ks20 _ rfl rfl ?_);simp only [↓zu,↓kq,zB,yA,zC,zD,zF,zL,zY,za,List.map_cons,List.map_nil,List.length_cons,List.length_nil,if_true,if_false,Nat.reduceEqDiff,Nat.zero_add,ks20,zLr])))
 refine ⟨rfl,?_⟩
 (repeat (first|(refine zc ?_)|(refine zW ?_;simp -failIfUnchanged only [zB,zG])|(refine zd ?_;simp -failIfUnchanged only [zT,zR,zb,zS])|((refine ze polN ks20 _ rfl rfl ?_);simp only [])))
 simp only [yb];refine ⟨rfl,b,hb,rfl,rfl⟩
def KpN (Bs:Nat) (a:Option Addr) (n:Nat) (A B:World):Prop:=(∀ v,A.cell? ⟨Bs,0,none⟩=some v->B.cell? ⟨Bs,0,none⟩=some v)/\∀ b o,a=some ⟨b,o,none⟩->∀ j v,j < n * 5->A.cell? ⟨b,o+j,none⟩=some v->B.cell? ⟨b,o+j,none⟩=some v
theorem KpN.refl (Bs:Nat) (a:Option Addr) (n:Nat) (A:World):KpN Bs a n A A:=⟨fun _ h=>h,fun _ _ _ _ _ _ h=>h⟩
theorem KpN.trans {Bs n:Nat} {a:Option Addr} {A B C:World} (h:KpN Bs a n A B) (k:KpN Bs a n B C):KpN Bs a n A C:=⟨fun v e=>k.1 v (h.1 v e),fun b o q j v hj e=>k.2 b o q j v hj (h.2 b o q j v hj e)⟩
theorem KpN.put {Bs n:Nat} {a:Option Addr} (W:World) (l:Nat) (o o':Obj) (hl:W.heap[l]? = some o) (ho:o.isCells=false):KpN Bs a n W (W.putObj l o'):=by
 have key:∀ b j v,W.cell? ⟨b,j,none⟩=some v->(W.putObj l o').cell? ⟨b,j,none⟩=some v:=fun b j v e=>by
  refine (World.cell?_of_block (World.putObj_heap_other ?_)).trans e;intro e2;have e2:b=l:=e2;subst e2;unfold World.cell? at e;simp only [hl] at e;cases o <;> first | (cases ho; done) | (cases e; done) | (simp at e; done)
 exact ⟨fun v e=>key _ _ _ e,fun b o _ j v _ e=>key _ _ _ e⟩
structure McC where
 a:Value
 b:Value
 c:Value
 d:Value
 e:Value
def McC.enc (x:McC):Value:=.agg #[x.a,x.b,x.c,x.d,x.e]
def Mc5 (w:World) (b o:Nat) (x:McC):Prop:=w.cell? ⟨b,o,none⟩=some x.a/\w.cell? ⟨b,o+1,none⟩=some x.b/\w.cell? ⟨b,o+2,none⟩=some x.c/\w.cell? ⟨b,o+3,none⟩=some x.d/\w.cell? ⟨b,o+4,none⟩=some x.e
set_option maxRecDepth 100000 in
set_option maxHeartbeats 2000000 in
theorem zQW (F:Fence) (n:Nat) (h8:F.fn 43) (hro:F.round=none) (hn:1<=n) (l Bs cap b o:Nat) (a:Option Addr) (xs:List McC) (hab:xs≠[]->a=some ⟨b,o,none⟩) (hreach:xs.length < 1000000) (J Jx:List (Fin xs.length)->World->Prop)
 (hY:∀ pre x W,J pre W->pre.length < xs.length->YieldAt F (n - 1) Tryz.prog l #[.int .i64 (x.1:Int),(xs[x.1]'x.2).enc] W fun e W'=>
  (e = .returned (.bool true)/\J (pre++[x]) W'/\KpN Bs a xs.length W W')\/(e = .returned (.bool false)/\Jx (pre++[x]) W'))
 (W:World) (hBs:W.cell? ⟨Bs,0,none⟩=some (.slice a xs.length cap)) (hc:∀ j (hj:j < xs.length),Mc5 W b (o+j * 5) (xs[j]'hj)) (h0:J [] W) :
 CallsIn F n Tryz.prog 43 #[.func (.yield l) #[] #[],.pointer (some ⟨Bs,0,none⟩)] W fun e W'=>(∃ v,e = .returned v) /\
  ((∃ ys,ys=j7 xs.length xs.length/\J ys W')\/(∃ pre,(∃ k,k<=xs.length/\pre=j7 xs.length k)/\Jx pre W')):=by
 refine callsIn_of_wp Tryz.func43 rfl h8 ?_ hro;simp only [Tryz.ntmps43,List.size_toArray,List.length_cons,List.length_nil,Nat.reduceAdd,Nat.reduceSub,Array.replicate_succ,Array.replicate_zero,List.push_toArray,List.append_toArray,List.nil_append,List.cons_append];have hsub:IntKind.i64.wrap ((xs.length:Int) - 1)=(xs.length:Int) - 1:=IntWalk.i64_in _ (by omega);gi_wp2
 gi_loopw [3] (fun i wr=>∃ k:Nat,k<=xs.length/\i = .int .i64 ((xs.length:Int) - 1 - k)/\J (j7 xs.length k) wr/\KpN Bs a xs.length W wr)
  (fun i _=>(intOf i+1).toNat)
 case atStart=>exact ⟨0,Nat.zero_le _,by simp,h0,KpN.refl _ _ _ _⟩
 case round=>
  obtain ⟨k,hk,rfl,hJs,hnx⟩:=hrel;have hBs':=hnx.1 _ hBs;by_cases hlt:k < xs.length
  . obtain rfl:=hab (by rintro rfl; simp at hlt);obtain ⟨m,hm⟩:∃ m:Nat,m+k+1=xs.length:=⟨xs.length - 1 - k,by omega⟩;have hml:m < xs.length:=by omega
    obtain ⟨c1,c2,c3,c4,c5⟩:=hc m hml;have hcx1:=hnx.2 b o rfl (m * 5) _ (by omega) c1;have hcx2:wr.cell? ⟨b,o+m * 5+1,none⟩=some (xs[m]'hml).b:=hnx.2 b o rfl (m * 5+1) _ (by omega) c2;have hcx3:wr.cell? ⟨b,o+m * 5+2,none⟩=some (xs[m]'hml).c:=hnx.2 b o rfl (m * 5+2) _ (by omega) c3;have hcx4:wr.cell? ⟨b,o+m * 5+3,none⟩=some (xs[m]'hml).d:=hnx.2 b o rfl (m * 5+3) _ (by omega) c4;have hcx5:wr.cell? ⟨b,o+m * 5+4,none⟩=some (xs[m]'hml).e:=hnx.2 b o rfl (m * 5+4) _ (by omega) c5;have ei:(xs.length:Int) - 1 - (k:Int)=(m:Int):=by omega
    rw [ei];obtain ⟨fn,tmps,assign,body,hy,hR⟩:=hY _ ⟨m,hml⟩ wr hJs (by rw [zMn _ _ hk]; exact hlt);dsimp only [McC.enc] at hy;clear c1 c2 c3 c4 c5 hc;generalize (xs[m]'hml).a=xa at hcx1 hy;generalize (xs[m]'hml).b=xb at hcx2 hy;generalize (xs[m]'hml).c=xc at hcx3 hy;generalize (xs[m]'hml).d=xd at hcx4 hy;generalize (xs[m]'hml).e=xe at hcx5 hy;have hlt2:(m:Int) < (xs.length:Int):=by omega
    have hge2:¬ ((m:Int) < 0):=by omega
    gi_wp2;refine hR.mono ?_;have hm':m=xs.length - 1 - k:=by omega
    rintro e W3 (⟨rfl,hJ3,hk3⟩ | ⟨rfl,hJx3⟩)
    . have hsub3:IntKind.i64.wrap ((m:Int) - 1)=(m:Int) - 1:=IntWalk.i64_in _ (by omega);gi_wp2;go_roundw
      case rel=>exact ⟨k+1,by omega,by congr 1; omega,by rw [zHd _ _ _ hm]; exact hJ3,hnx.trans hk3⟩
      case measure=>simp [intOf]; omega
    . gi_wp2;refine bodyPost_ret (results_none rfl _ _ _) rfl ?_;exact ⟨⟨_,rfl⟩,.inr ⟨_,⟨k+1,by omega,(zHd _ _ _ hm).symm⟩,hJx3⟩⟩
  . obtain rfl:k=xs.length:=by omega
    gi_wp2;go_end0;exact ⟨⟨_,rfl⟩,.inl ⟨_,rfl,hJs⟩⟩
theorem zK5 (F:Fence) (n:Nat) (h8:F.fn 43) (hro:F.round=none) (hn:1<=n) (Bs cap b o:Nat) (a:Option Addr) (xs:List McC) (hab:xs≠[]->a=some ⟨b,o,none⟩) (hreach:xs.length < 1000000) (w:World) (hB:Bs < w.heap.size) (hb:xs≠[]->b < w.heap.size)
 (hBs:w.cell? ⟨Bs,0,none⟩=some (.slice a xs.length cap)) (hc:∀ j (hj:j < xs.length),Mc5 w b (o+j * 5) (xs[j]'hj)) :
 SeqStopsK F n Tryz.prog 43 #[.pointer (some ⟨Bs,0,none⟩)] (fun x:Fin xs.length=>#[Value.int .i64 (x.1:Int),(xs[x.1]'x.2).enc]) (KpN Bs a xs.length) (fun ys=>ys=j7 xs.length xs.length)
  (fun pre=>∃ k,k<=xs.length/\pre=j7 xs.length k) xs.length w:=fun l J Jx W hW _ _ hY h0=>
 zQW F n h8 hro hn l Bs cap b o a xs hab hreach J Jx hY W ((hW.cell (p:=⟨Bs,0,none⟩) hB).trans hBs) (fun j hj=>by
  have hb':=hb (by rintro rfl; simp at hj);obtain ⟨q1,q2,q3,q4,q5⟩:=hc j hj;exact ⟨(hW.cell (p:=⟨b,o+j * 5,none⟩) hb').trans q1,(hW.cell (p:=⟨b,o+j * 5+1,none⟩) hb').trans q2,(hW.cell (p:=⟨b,o+j * 5+2,none⟩) hb').trans q3,(hW.cell (p:=⟨b,o+j * 5+3,none⟩) hb').trans q4,(hW.cell (p:=⟨b,o+j * 5+4,none⟩) hb').trans q5⟩) h0
end
section
open Go.Al Go.Den Go.Shelf
def zO0 {i:TI} (a:List (denI i)×Int×Unit):Option (Option (List (denI i))×Unit):=
 bif a.1.isEmpty && decide (0<=a.2.1) && decide (a.2.1<=100000000) then (if a.2.1=0 then some (none,()) else some (some [],())) else none
theorem zF0 {f:Nat} {ti:TI} {e:TypeId} {sz by_:Nat} (hsz:zLt ti=sz) (hby:by_<=1000) (ρ:Go.Shelf.Ren) (L:Go.Proofs.Lays8.n4 Tryz.prog ρ) (hf:ρ.f 4=f) (he:ρ.t 25=e)
 (hi:∃ i0 z,Tryz.prog.info? e=some i0/\i0.zero=some z/\i0.size=sz/\i0.bytes=by_/\z.cells.size=sz) (hp:0 < sz) :
 CPOk CC Tryz.prog syn f (cF ([.dl ti,.int .i64]:LK) ([.arr ti]:LK) (zO0 (i:=ti))):=by
 intro x a R pan K r hr;obtain ⟨xs,n,u⟩:=a;change List (denI ti) at xs;change Int at n;replace hr:Option.bind (zO0 (i:=ti) (xs,n,u)) (fun y=>K () y)=some r:=hr;unfold zO0 at hr;cases hb:(xs.isEmpty && decide (0<=n) && decide (n<=100000000)) with
 | false=>simp only [hb,cond_false] at hr; cases hr
 | true=>
  simp only [hb,cond_true] at hr;simp only [Bool.and_eq_true,decide_eq_true_eq] at hb;obtain ⟨⟨h1,h2⟩,h3⟩:=hb;have h1:xs=[]:=by simpa using h1
  subst h1;obtain ⟨k,rfl⟩:∃ k:Nat,n=(k:Int):=⟨n.toNat,(Int.toNat_of_nonneg h2).symm⟩;by_cases h0:((k:Int):Int)=0
  . have h0':k=0:=by omega
    subst h0';rw [if_pos h0] at hr;refine ⟨some ((),(none,())),hr,fun s vx va r1 r2 hv1 hv2 hn=>?_⟩;simp only [VKs,VK] at hv1 hv2;obtain ⟨rfl,rfl⟩:=hv1;obtain ⟨v,w,q1,q2,rfl,rfl,⟨rfl,rfl⟩,v2,w2,q3,q4,rfl,rfl,⟨rfl,rfl⟩,rfl,rfl⟩:=hv2;intro B g w us hinv hgl hu;cases hu with
    | cons hu1 hu2=>
     cases hu2 with
     | cons hu2 hu3=>
      cases hu3;have e1:=zFb hu1;have e2:=zh hu2;subst e1 e2;rw [<- hf];refine (Any8.slices_Grow_room L none 0 0 0 w (by omega) (by omega) (by omega) (by omega)).mono ?_;rintro ex w' ⟨rfl,rfl⟩;refine ⟨g,_,.refl _ _ _,hinv,.lst .nil [],?_,?_⟩
      . exact xU (by unfold RC; exact .inl ⟨rfl,rfl,trivial⟩)
      . exact ⟨[.lst .nil []],[],[],by simp only [VKs]; exact ⟨trivial,trivial⟩,by simp only [VKs,VK]; exact ⟨_,[],[],[],rfl,rfl,⟨rfl,rfl⟩,rfl,rfl⟩,by simp,rfl⟩
  . have h0':0 < k:=by omega
    rw [if_neg h0] at hr;refine ⟨some ((),(some [],())),hr,fun s vx va r1 r2 hv1 hv2 hn=>?_⟩;simp only [VKs,VK] at hv1 hv2;obtain ⟨rfl,rfl⟩:=hv1;obtain ⟨v,w,q1,q2,rfl,rfl,⟨rfl,rfl⟩,v2,w2,q3,q4,rfl,rfl,⟨rfl,rfl⟩,rfl,rfl⟩:=hv2;intro B g w us hinv hgl hu;cases hu with
    | cons hu1 hu2=>
     cases hu2 with
     | cons hu2 hu3=>
      cases hu3;have e1:=zFb hu1;have e2:=zh hu2;subst e1 e2;rw [<- hf];obtain ⟨i0,z,i1,i2,i3,i4,i5⟩:=hi;rw [<- he] at i1;have hbb:(0+k) * i0.bytes<=140737488355328:=by
       rw [i4,Nat.zero_add];have:k * by_<=100000000 * 1000:=Nat.mul_le_mul (by omega) hby
       omega
      refine (Any8.slices_Grow_grow L i0 z i1 i2 (by omega) none 0 0 k [] w (by omega) (by omega) hbb (by omega) (by simp) (fun _=>rfl) (fun a e=>by cases e)).mono ?_;rintro ex w' ⟨rfl,rfl⟩;have hG:=grownCap_ge w (0+k) 0 (ρ.t 25);generalize grownCap w (0+k) 0 (ρ.t 25)=G at hG ⊢;have ho1:=zBQ hinv (w.drawn+1);have hsz2:(Builtin.zeroCells z.cells (0+k - 0)).toList.length+(Builtin.zeroCells z.cells (G - (0+k))).toList.length=G * sz:=by
       rw [Array.length_toList,Array.length_toList,size_zeroCells,size_zeroCells,i5,<- Nat.add_mul];have:0+k - 0+(G - (0+k))=G:=by omega
       rw [this]
      generalize Builtin.zeroCells z.cells (0+k - 0)=ZA at hsz2 ⊢;generalize Builtin.zeroCells z.cells (G - (0+k))=ZB at hsz2 ⊢;obtain ⟨g',ho⟩:=zUo (X:=⟨B,⟨0,[]⟩,none,[]⟩) (w:=w.drew) ho1.inv (es:=[]) (us:=[]) (by simp [RCs]) rfl (ρ.t 25) (ZA.toList++ZB.toList) (G * sz) (by
       rw [List.length_nil,Nat.zero_add,List.length_append]; exact hsz2)
      have earr:([]++(ZA.toList++ZB.toList)).toArray=([]:List Value).toArray++ZA++ZB:=by
       apply Array.ext';rw [Array.toList_append,Array.toList_append];rfl
      rw [earr] at ho;refine ⟨g',_,ho1.step.trans ho.step,ho.inv,.at (.slice (some ⟨w.heap.size,0,none⟩) 0 G),RV_at_mk rfl,?_⟩;refine ⟨[.at (.slice (some ⟨w.heap.size,0,none⟩) 0 G)],[],[.inr w.heap.size],by simp only [VKs]; exact ⟨trivial,trivial⟩,?_,List.nodup_cons.2 ⟨List.not_mem_nil,List.nodup_nil⟩,rfl⟩;simp only [VKs,VK];refine ⟨_,[],[.inr w.heap.size],[],rfl,rfl,⟨w.heap.size,G,rfl,Nat.zero_le _,?_,rfl⟩,rfl,rfl⟩;show Al.look (lay _ w.drew.heap.size (zX [],G * sz)) w.heap.size=some (zX [],G * zLt ti);rw [zO];exact (if_pos rfl).trans (by rw [hsz])
end
section
open Go.Al Go.Den Go.RowKit Go.Shelf
attribute [local go_sem] Oper.semAt_some
end
section
open Go.Al Go.Den Go.RowKit Go.Shelf
attribute [local go_sem] Oper.semAt_some
end
section
open Go.Al Go.Den
def sh22 (fu:Nat) (nf:Nat->Bool) (x0:LT):(Option ((List TkT)×Unit)):=iter fu (fun (rec1:(((List TkT)×(Bool×(Int×Unit)))×Unit)->Option ((List TkT)×Unit)) (s1:(((List TkT)×(Bool×(Int×Unit)))×Unit))=>cond (ilt s1.1.2.2.1 (lenI x0)) (cond (inB s1.1.2.2.1 x0.length) (cond (ieq (List.getD x0 s1.1.2.2.1.toNat tokD).kind 7) (rec1 ((s1.1.1,(true,((iadd .i64 s1.1.2.2.1 1),()))),())) (cond (List.getD x0 s1.1.2.2.1.toNat tokD).blank (cond (okN 88 (s1.1.1.length+(List.length [(TkT.mk (List.getD x0 s1.1.2.2.1.toNat tokD).kind (List.getD x0 s1.1.2.2.1.toNat tokD).text (List.getD x0 s1.1.2.2.1.toNat tokD).file (List.getD x0 s1.1.2.2.1.toNat tokD).ffrom (List.getD x0 s1.1.2.2.1.toNat tokD).fto true [] false false)]))) (rec1 (((s1.1.1++[(TkT.mk (List.getD x0 s1.1.2.2.1.toNat tokD).kind (List.getD x0 s1.1.2.2.1.toNat tokD).text (List.getD x0 s1.1.2.2.1.toNat tokD).file (List.getD x0 s1.1.2.2.1.toNat tokD).ffrom (List.getD x0 s1.1.2.2.1.toNat tokD).fto true [] false false)]),(false,((iadd .i64 s1.1.2.2.1 1),()))),())) (none)) (cond (okN 88 (s1.1.1.length+(List.length [(TkT.mk (List.getD x0 s1.1.2.2.1.toNat tokD).kind (List.getD x0 s1.1.2.2.1.toNat tokD).text (List.getD x0 s1.1.2.2.1.toNat tokD).file (List.getD x0 s1.1.2.2.1.toNat tokD).ffrom (List.getD x0 s1.1.2.2.1.toNat tokD).fto s1.1.2.1 [] false false)]))) (rec1 (((s1.1.1++[(TkT.mk (List.getD x0 s1.1.2.2.1.toNat tokD).kind (List.getD x0 s1.1.2.2.1.toNat tokD).text (List.getD x0 s1.1.2.2.1.toNat tokD).file (List.getD x0 s1.1.2.2.1.toNat tokD).ffrom (List.getD x0 s1.1.2.2.1.toNat tokD).fto s1.1.2.1 [] false false)]),(false,((iadd .i64 s1.1.2.2.1 1),()))),())) (none)))) (none)) (some (s1.1.1,()))) (([],(false,(0,()))),())
theorem eq22:@run22 = @sh22:=by kernel_rfl
def sh23 (fu:Nat) (nf:Nat->Bool) (x0:(List TkT)):(Option (LT×Unit)):=iter fu (fun (rec1:((LT×(Int×Unit))×Unit)->Option (LT×Unit)) (s1:((LT×(Int×Unit))×Unit))=>cond (ilt s1.1.2.1 (lenI x0)) (cond (inB s1.1.2.1 x0.length) (cond (okN 56 (s1.1.1.length+(List.length [(TokT.mk (List.getD x0 s1.1.2.1.toNat tkD).kind (List.getD x0 s1.1.2.1.toNat tkD).text (List.getD x0 s1.1.2.1.toNat tkD).file (List.getD x0 s1.1.2.1.toNat tkD).ffrom (List.getD x0 s1.1.2.1.toNat tkD).fto (List.getD x0 s1.1.2.1.toNat tkD).blank)]))) (rec1 (((s1.1.1++[(TokT.mk (List.getD x0 s1.1.2.1.toNat tkD).kind (List.getD x0 s1.1.2.1.toNat tkD).text (List.getD x0 s1.1.2.1.toNat tkD).file (List.getD x0 s1.1.2.1.toNat tkD).ffrom (List.getD x0 s1.1.2.1.toNat tkD).fto (List.getD x0 s1.1.2.1.toNat tkD).blank)]),((iadd .i64 s1.1.2.1 1),())),())) (none)) (none)) (some (s1.1.1,()))) (([],(0,())),())
theorem eq23:@run23 = @sh23:=by kernel_rfl
def sh44 (fu:Nat) (nf:Nat->Bool) (x0:TkT) (x1:Str):(Option (Bool×Unit)):=iter fu (fun (rec1:((Int×Unit)×Unit)->Option (Bool×Unit)) (s1:((Int×Unit)×Unit))=>cond (ilt s1.1.1 (lenI (TkT.hide x0))) (cond (inB s1.1.1 (List.length (TkT.hide x0))) (cond (seq x1 (List.getD (TkT.hide x0) s1.1.1.toNat [])) (some ((ile 0 s1.1.1),())) (rec1 (((iadd .i64 s1.1.1 1),()),()))) (none)) (some ((ile 0 (Neg.neg 1)),()))) ((0,()),())
theorem eq44:@run44 = @sh44:=by kernel_rfl
theorem con22 (fu:Nat) :ConOk CC Tryz.prog 22 ⟨as22,rs22,fun x=>sh22 fu (fun _=>false) x.1⟩:=
 rfk zI zI zI zI fdok22 rfl (qM rfl) (fun nf x=>by show run22 fu nf x.1=_; rw [eq22]; rfl)
theorem con23 (fu:Nat) :ConOk CC Tryz.prog 23 ⟨as23,rs23,fun x=>sh23 fu (fun _=>false) x.1⟩:=
 rfk zI zI zI zI fdok23 rfl (qM rfl) (fun nf x=>by show run23 fu nf x.1=_; rw [eq23]; rfl)
theorem con44 (fu:Nat) :ConOk CC Tryz.prog 44 ⟨as44,rs44,fun x=>sh44 fu (fun _=>false) x.1 x.2.1⟩:=
 rfk (lo:=[]) (lr:=[]) (zQ zRc (zQ zQn zI)) zI zI zI fdok44 rfl (qM rfl) (fun nf x=>by show run44 fu nf x.1 x.2.1=_; rw [eq44]; rfl)
end
section
open Go.Al Go.Den
def c22 (fu:Nat) (x:List TokT×Unit):Option (List TkT×Unit):=sh22 fu (fun _=>false) x.1
theorem ok22 (fu:Nat):ConOk CC Tryz.prog 22 ⟨as22,rs22,c22 fu⟩:=con22 fu
def c23 (fu:Nat) (x:List TkT×Unit):Option (List TokT×Unit):=sh23 fu (fun _=>false) x.1
theorem ok23 (fu:Nat):ConOk CC Tryz.prog 23 ⟨as23,rs23,c23 fu⟩:=con23 fu
def c44 (fu:Nat) (x:TkT×Str×Unit):Option (Bool×Unit):=sh44 fu (fun _=>false) x.1 x.2.1
theorem ok44 (fu:Nat):ConOk CC Tryz.prog 44 ⟨as44,rs44,c44 fu⟩:=con44 fu
end
end Go.Proofs.YtfjiiknfopmcjaaGreatDoor
namespace Go.Den
section
open Go.Al
theorem wrp64 (n:Int) (h1:-9223372036854775808<=n) (h2:n<=9223372036854775807):IntKind.i64.wrap n=n:=IntWalk.i64_in n (by omega)
theorem xR (a b:Int) (h1:-9223372036854775808<=a+b) (h2:a+b<=9223372036854775807):iadd .i64 a b=a+b:=wrp64 _ h1 h2
theorem zIx (a b:Int) (h1:-9223372036854775808<=a - b) (h2:a - b<=9223372036854775807):isub .i64 a b=a - b:=wrp64 _ h1 h2
theorem zBt {b n:Nat} (h:n * b<=140737488355328) (h2:n<=maxLen):okN b n=true:=by simp [okN,h,h2]
theorem zDq (a b:Int):ieq a b=decide (a=b):=by unfold ieq; by_cases h:a=b <;> simp [h]
theorem zIq (a b:Int):ine a b = !decide (a=b):=by unfold ine; by_cases h:a=b <;> simp [h]
theorem zCT (a b:List UInt8):seq a b=decide (a=b):=by unfold seq; by_cases h:a=b <;> simp [h]
theorem zR9 {α:Type} (l:List α) (n:Nat):cutL l 0 (n:Int)=l.take n:=by unfold cutL; simp
theorem zK2 {α:Type} (l:List α) (n:Nat):cutL l (n:Int) (lenI l)=l.drop n:=by unfold cutL lenI; simp
theorem zB3 {σ R:Type} {F:(σ->Option R)->σ->Option R} (P:Option R->Prop) (I:σ->Prop) (μ:σ->Nat) (step:∀ (rec:σ->Option R) s,I s->(∀ s',I s'->μ s' < μ s->P (rec s'))->P (F rec s)) :
 ∀ (n:Nat) (s:σ),I s->μ s < n->P (iter n F s):=by
 intro n
 induction n with
 | zero=>intro s _ h; omega
 | succ n ih=>
  intro s hs hn;simp only [iter];exact step _ s hs fun s' hs' hlt=>ih s' hs' (by omega)
end
end Go.Den
namespace Go.Proofs.YtfjiiknfopmcjaaGreatDoor
section
open Go.Al Go.Den Go.RowKit Go.Shelf
attribute [local go_sem] Oper.semAt_some
attribute [local congr] qj jN jm ke xg qX xD xB qd jM qW jj qi qU yz xJ qc je ji xy jJ qZ qB qA ql qT qC qh qn xx kr jf jg jI jG jD qV xz qD
def McC.raw (x:McC):V:=.agg [.at x.a,.at x.b,.at x.c,.at x.d,.at x.e]
abbrev MR:=List (ByteArray×(McC×MacT))
def trR (c:MR):MC:=c.map fun p=>(p.1,p.2.1.raw)
def putR:MR->ByteArray->McC×MacT->MR
 | [],s,v=>[(s,v)]
 | (k,u)::r,s,v=>if (s == k)=true then (s,v)::r else (k,u)::putR r s v
theorem zLl:∀ (c:MR) (s:ByteArray) (v:McC×MacT),mput (trR c) s v.1.raw=trR (putR c s v)
 | [],s,v=>rfl
 | (k,u)::r,s,v=>by
  show (if (s == k)=true then _ else _)=trR (if (s == k)=true then _ else _);split
  . rfl
  . show _::mput (trR r) s v.1.raw=_::trR (putR r s v);rw [zLl r s v]
theorem zHN {g:Gh} {w:World}:∀ {c:MR} {es:List MapEntry},MapR g w (trR c) es->∀ g' w',MapR g' w' (trR c) es
 | [],_,h,_,_=>h
 | (k,z)::r,_,⟨e,es',h1,h2,h3,h4⟩,g',w'=>by
  refine ⟨e,es',h1,h2,?_,zHN h4 g' w'⟩;obtain ⟨us,q1,q2⟩:=h3;refine ⟨us,?_,q2⟩;simp only [McC.raw,RC,RCs] at q1 ⊢;exact q1
theorem Inv.refr {B:Nat} {wm:Nat->Nat} {tb:Nat->Option (Option (Nat×Nat×Nat×Nat))} {f1 f2:Fr} {st:S} {w:World} (h:Al.Inv B ⟨wm,tb,f1⟩ st w)
 (h1:∀ b,f2 b=true->b < w.heap.size/\Al.look st.box b=none/\∀ t ∈ st.tg,∀ d,tb t=some (some (b,d))->False) (h2:∀ b o fp,zN st.ob b=some (o,fp)->∀ j ∈ fp,f2 j=false) (h3:f2.t=f1.t):Al.Inv B ⟨wm,tb,f2⟩ st w:=by
 have hl:Later ⟨wm,tb,f1⟩ w ⟨wm,tb,f2⟩ w:=⟨fun _=>Nat.le_refl _,fun _ _ e=>e,fun _ _ _=>rfl⟩;refine ⟨h.base,fun b cs k hb=>?_,h.tag,h.own,h.dist,h.nodup,h.fresh,h.names,h1,fun b o fp hb=>?_,h.ex.obd,fun t ht=>h.ex.ft t (by show f1.t t=true; rw [<- h3]; exact ht)⟩
 . obtain ⟨q1,q2,q3,q4,arr,el,us,q5,q6,q7,q8⟩:=h.box b cs k hb;exact ⟨q1,q2,q3,q4,arr,el,us,q5,q6,zg hl _ _ q7,q8⟩
 . obtain ⟨q1,q2,q3⟩:=h.ex.ob b o fp hb;refine ⟨q1.local hl (fun _ _=>rfl),q2,fun j hj=>?_⟩;obtain ⟨r1,r2,r3,r4,r5,r6⟩:=q3 j hj;exact ⟨r1,r2,r3,r4,r5,h2 b o fp hb j hj⟩
theorem Inv.but {B:Nat} {g:Gh} {st:S} {w w':World} (h:Al.Inv B g st w) (k:Nat) (h1:Al.look st.box k=none) (h2:∀ t ∈ st.tg,∀ d,g.tb t=some (some (k,d))->False) (h3:∀ b o fp,zN st.ob b=some (o,fp)->k ∉ fp) (h4:g.wm k=0)
 (hs:w.heap.size<=w'.heap.size) (hb:∀ j,j < w.heap.size->j≠k->w'.heap[j]? = w.heap[j]?):Al.Inv B g st w'/\Later g w g w':=by
 have hl:Later g w g w':=⟨fun _=>Nat.le_refl _,fun _ _ e=>e,fun b o ho=>by
  refine World.cell?_of_block (hb b ?_ ?_)
  . rcases Nat.lt_or_ge b w.heap.size with hh | hh
    . exact hh
    . rw [h.fresh b hh] at ho; omega
  . intro e; subst e; rw [h4] at ho; omega⟩
 have lt:∀ {b:Nat} {o:Obj},w.heap[b]? = some o->b < w.heap.size:=fun hh=>(Array.getElem?_eq_some_iff.1 hh).1;refine ⟨⟨Nat.le_trans h.base hs,fun b cs k' hb'=>?_,h.tag,fun t ht b cap n sz hbb=>?_,h.dist,h.nodup,fun b hb'=>h.fresh b (Nat.le_trans hs hb'),h.names,fun b hf=>?_,fun b o fp hb'=>?_,h.ex.obd,h.ex.ft⟩,hl⟩
 . obtain ⟨q1,q2,q3,q4,arr,el,us,q5,q6,q7,q8⟩:=h.box b cs k' hb';have hne:b≠k:=fun e=>by subst e; rw [h1] at hb'; cases hb'
   exact ⟨q1,q2,q3,q4,arr,el,us,(hb b (lt q5) hne).trans q5,q6,zg hl _ _ q7,q8⟩
 . obtain ⟨q1,q2,q3,q4,q5,arr,el,q6,q7⟩:=h.own t ht b cap n sz hbb;have hne:b≠k:=fun e=>by subst e; exact h2 t ht _ hbb
   exact ⟨q1,q2,q3,q4,q5,arr,el,(hb b (lt q6) hne).trans q6,q7⟩
 . obtain ⟨q1,q2⟩:=h.ex.frz b hf;exact ⟨Nat.lt_of_lt_of_le q1 hs,q2⟩
 . obtain ⟨q1,q2,q3⟩:=h.ex.ob b o fp hb';refine ⟨q1.local hl (fun j hj=>hb j (q3 j hj).2.1 (fun e=>by subst e; exact h3 b o fp hb' hj)),q2,fun j hj=>?_⟩;obtain ⟨r1,r2,r3⟩:=q3 j hj;exact ⟨r1,Nat.lt_of_lt_of_le r2 hs,r3⟩
def frzG (g:Gh) (W:World) (bm:Nat):Gh:=⟨fun b=>if b=bm then 0 else if b < W.heap.size then max (g.wm b) (match W.heap[b]? with | some (.cells arr _ _)=>arr.size | _=>0) else 0,g.tb,⟨fun b=>decide (b < W.heap.size) && decide (b≠bm),fun _=>false⟩⟩
structure Keep1 (bm:Nat) (w W:World):Prop where
 below:Below 0 w W
 blk:∀ b,b < w.heap.size->b≠bm->W.heap[b]? = w.heap[b]?
theorem Keep1.refl (bm:Nat) (w:World):Keep1 bm w w:=⟨Below.refl _ _,fun _ _ _=>rfl⟩
theorem Keep1.trans {bm:Nat} {A B C:World} (h:Keep1 bm A B) (k:Keep1 bm B C):Keep1 bm A C:=⟨h.below.trans k.below,fun b h1 h2=>(k.blk b (Nat.lt_of_lt_of_le h1 h.below.size) h2).trans (h.blk b h1 h2)⟩
structure IsM (bm:Nat) (c:MR) (w W:World):Prop where
 keep:Keep1 bm w W
 mp:∃ (arr:Array MapEntry) (clock:Nat),W.heap[bm]? = some (Obj.map arr clock)/\∀ g w,MapR g w (trR c) arr.toList
theorem IsM.grown {bm:Nat} {c:MR} {w A C:World} (h:IsM bm c w A) (hm:bm < w.heap.size) {row:Option Nat} (hg:A.grownBy C row) (hr:∀ k,row=some k->w.heap.size<=k/\∃ o:Obj,A.heap[k]? = some o/\o.isCells=false):IsM bm c w C:=by
 have hsz:=h.keep.below.size;have key:∀ b,b < w.heap.size->C.heap[b]? = A.heap[b]?:=fun b hb=>hg.block b (by omega) (fun e=>by have:=(hr b e.symm).1; omega);refine ⟨⟨h.keep.below.trans (Below.grown (Below.refl 0 A) hg (Nat.zero_le _) (fun k e=>Nat.zero_le _)),fun b hb q1=>(key b hb).trans (h.keep.blk b hb q1)⟩,?_⟩;obtain ⟨arr,ck,h1,h2⟩:=h.mp;exact ⟨arr,ck,(key bm hm).trans h1,h2⟩
theorem zLD {W:World} {b o:Nat} {v:Value} (h:W.cell? ⟨b,o,none⟩=some v):∃ arr el m,W.heap[b]? = some (.cells arr el m)/\o < arr.size:=by
 unfold World.cell? at h;simp only at h;cases e:W.heap[b]? with
 | none=>rw [e] at h; cases h
 | some x=>
  rw [e] at h;cases x with
  | cells arr el m=>
   simp only at h;refine ⟨arr,el,m,rfl,?_⟩;rcases Nat.lt_or_ge o arr.size with hl | hl
   . exact hl
   . rw [Array.getElem?_eq_none hl] at h; cases h
  | _=>simp at h
section
variable {B:Nat} {g:Gh} {s:S} {w W:World} {bm:Nat} {c:MR}
theorem zJd (hi:Al.Inv B g s w) (h0:g.wm bm=0) (hk:Keep1 bm w W):Later g w (frzG g W bm) W:=by
 refine ⟨fun b=>?_,fun _ _ e=>e,fun b o ho=>?_⟩
 . show g.wm b<=(if b=bm then 0 else if b < W.heap.size then max (g.wm b) _ else 0);split
   . rename_i e; rw [e,h0]; exact Nat.le_refl _
   . split
     . exact Nat.le_max_left _ _
     . rename_i h; rw [hi.fresh b (by have:=hk.below.size; omega)]; exact Nat.le_refl _
 . have hb:b < w.heap.size:=by
    rcases Nat.lt_or_ge b w.heap.size with h | h
    . exact h
    . rw [hi.fresh b h] at ho; omega
   exact World.cell?_of_block (hk.blk b hb (fun e=>by rw [e,h0] at ho; omega))
theorem frz_at {b o:Nat} {ds:List Value} (hne:b≠bm) (h:∀ (k:Nat) u,ds[k]? = some u->W.cell? ⟨b,o+k,none⟩=some u):Al.At (frzG g W bm) W b o ds:=fun k u hk=>by
 have hc:=h k u hk;refine ⟨hc,?_⟩;obtain ⟨arr,el,m,h1,h2⟩:=zLD hc;have hlt:=(Array.getElem?_eq_some_iff.1 h1).1;show _ < (if b=bm then 0 else if b < W.heap.size then max (g.wm b) _ else 0);rw [if_neg hne,if_pos hlt,h1];exact Nat.lt_of_lt_of_le h2 (Nat.le_max_right _ _)
theorem zJK {b:Nat} {arr:Array Value} {el:TypeId} {m:Nat×Nat} (hne:b≠bm) (h:W.heap[b]? = some (.cells arr el m)):Al.At (frzG g W bm) W b 0 arr.toList:=frz_at hne fun k u hk=>by
 rw [Array.getElem?_toList] at hk;simp [World.cell?,h,hk]
theorem zOG (hi:Al.Inv B g s w) (hB:B<=bm) (hm:bm < w.heap.size) (hk:IsM bm c w W):Al.Inv B (frzG g W bm) ⟨[],[],s.nx,[(bm,.mp (trR c),[bm])]⟩ W:=by
 have hb:=hi.base;have hs:=hk.keep.below.size;have hob:∀ b o fp,zN [(bm,OV.mp (trR c),[bm])] b=some (o,fp)->b=bm/\o = .mp (trR c)/\fp=[bm]:=fun b o fp h=>by
  rw [zl] at h;split at h
  . rename_i e; injection h with h; obtain ⟨rfl,rfl⟩:=Prod.mk.inj h; exact ⟨e.symm,rfl,rfl⟩
  . cases h
 refine ⟨by omega,fun b cs k h=>(by cases h),fun t ht=>(by cases ht),fun t ht=>(by cases ht),fun t ht=>(by cases ht),List.nodup_nil,fun b hb=>?_,fun t ht=>hi.names t ht,fun b hb=>?_,fun b o fp h=>?_,fun b o fp b2 o2 fp2 j h1 h2 _ _=>(hob _ _ _ h1).1.trans (hob _ _ _ h2).1.symm,fun t ht=>(by cases ht)⟩
 . show (if b=bm then 0 else if b < W.heap.size then max (g.wm b) _ else 0)=0;split
   . rfl
   . rw [if_neg (by omega)]
 . have:b < W.heap.size/\b≠bm:=by simpa [frzG] using hb
   exact ⟨this.1,rfl,fun t ht=>(by cases ht)⟩
 . obtain ⟨rfl,rfl,rfl⟩:=hob b o fp h;obtain ⟨arr,ck,h1,h2⟩:=hk.mp;refine ⟨⟨rfl,arr,ck,h1,h2 _ _⟩,by simp,fun j hj=>?_⟩;simp only [List.mem_singleton] at hj;subst hj;exact ⟨hB,by omega,if_pos rfl,rfl,fun t ht=>(by cases ht),by simp [frzG]⟩
theorem zMm (hi:Al.Inv B g s w) (hgl:GlobOk B g.wm w) (h0:g.wm bm=0) (hB:B<=bm) (hk:Keep1 bm w W):GlobOk B (frzG g W bm).wm W:=by
 have hb:=hi.base;refine hgl.below ⟨hk.below.os,hk.below.tape,hk.below.output,hk.below.size,fun k hk'=>hk.blk k (by omega) (by omega)⟩ (zJd hi h0 hk).wm
theorem zLa {g':Gh} {s':S} {W':World} {c':MR} (hk:IsM bm c w W) (hm:bm < w.heap.size) (h1:Step B (frzG g W bm) W g' W') (h2:Al.Inv B g' s' W') (h3:zN s'.ob bm=some (.mp (trR c'),[bm])) :
 IsM bm c' w W'/\(∀ b,b < W.heap.size->b≠bm->W'.heap[b]? = W.heap[b]?)/\KeepsFrom w.heap.size W W':=by
 have hsame:∀ b,b < W.heap.size->b≠bm->W'.heap[b]? = W.heap[b]?:=fun b h4 h5=>(h1.fz b (by simp [frzG,h4,h5])).1;have hs:=hk.keep.below.size;obtain ⟨⟨_,arr,ck,q1,q2⟩,_⟩:=h2.ex.ob _ _ _ h3;refine ⟨⟨⟨hk.keep.below.trans (h1.below.mono (Nat.zero_le _)),fun b h4 h5=>(hsame b (by omega) h5).trans (hk.keep.blk b h4 h5)⟩,arr,ck,q1,zHN q2⟩,hsame,h1.below.size,fun k o h4 h5 _=>?_⟩;exact (hsame k (Array.getElem?_eq_some_iff.1 h5).1 (by omega)).trans h5
end
theorem Inv.butMp {B:Nat} {g:Gh} {s:S} {w W:World} {bm:Nat} {c:MR} {o:OV} (hi:Al.Inv B g s w) (hm:zN s.ob bm=some (o,[bm])) (hk:IsM bm c w W):Al.Inv B g ⟨s.box,s.tg,s.nx,(bm,.mp (trR c),[bm])::s.ob⟩ W/\Later g w g W:=by
 obtain ⟨_,_,h3⟩:=hi.ex.ob bm _ _ hm;obtain ⟨q1,q2,q3,q4,q5,q6⟩:=h3 bm (by simp);have hs:=hk.keep.below.size;have lt:∀ {b:Nat} {o:Obj},w.heap[b]? = some o->b < w.heap.size:=fun hh=>(Array.getElem?_eq_some_iff.1 hh).1;have hl:Later g w g W:=⟨fun _=>Nat.le_refl _,fun _ _ e=>e,fun b o ho=>by
  refine World.cell?_of_block (hk.keep.blk b ?_ ?_)
  . rcases Nat.lt_or_ge b w.heap.size with hh | hh
    . exact hh
    . rw [hi.fresh b hh] at ho; omega
  . intro e; rw [e,q3] at ho; omega⟩
 have hcase:∀ {b o' fp},zN ((bm,OV.mp (trR c),[bm])::s.ob) b=some (o',fp)->(b=bm/\o' = .mp (trR c)/\fp=[bm])\/(b≠bm/\zN s.ob b=some (o',fp)):=fun {b o' fp} h=>by
  rw [zl] at h;split at h
  . rename_i e; injection h with h; obtain ⟨rfl,rfl⟩:=Prod.mk.inj h; exact .inl ⟨e.symm,rfl,rfl⟩
  . rename_i e; exact .inr ⟨fun e2=>e e2.symm,h⟩
 refine ⟨⟨Nat.le_trans hi.base hs,fun b cs k hb=>?_,hi.tag,fun t ht b cap n sz hb=>?_,hi.dist,hi.nodup,fun b hb=>hi.fresh b (Nat.le_trans hs hb),hi.names,fun b hb=>?_,fun b o' fp hb=>?_,fun b1 o1 f1 b2 o2 f2 j (e1:zN ((bm,OV.mp (trR c),[bm])::s.ob) b1=some (o1,f1)) (e2:zN ((bm,OV.mp (trR c),[bm])::s.ob) b2=some (o2,f2)) m1 m2=>?_,hi.ex.ft⟩,hl⟩
 . obtain ⟨t1,t2,t3,t4,arr,el,us,t5,t6,t7,t8⟩:=hi.box b cs k hb;have hne:b≠bm:=fun e=>by rw [e] at hb; rw [q4] at hb; cases hb
   exact ⟨t1,t2,t3,t4,arr,el,us,(hk.keep.blk b (lt t5) hne).trans t5,t6,zg hl _ _ t7,t8⟩
 . obtain ⟨t1,t2,t3,t4,t5,arr,el,t6,t7⟩:=hi.own t ht b cap n sz hb;have hne:b≠bm:=fun e=>by rw [e] at hb; exact q5 t ht _ hb
   exact ⟨t1,t2,t3,t4,t5,arr,el,(hk.keep.blk b (lt t6) hne).trans t6,t7⟩
 . obtain ⟨t1,t2,t3⟩:=hi.ex.frz b hb;exact ⟨by omega,t2,t3⟩
 . rcases hcase hb with ⟨rfl,rfl,rfl⟩ | ⟨hne,hb⟩
   . obtain ⟨arr,ck,h1,h2⟩:=hk.mp;refine ⟨⟨rfl,arr,ck,h1,h2 _ _⟩,by simp,fun j hj=>?_⟩;simp only [List.mem_singleton] at hj;subst hj;exact ⟨q1,by omega,q3,q4,q5,q6⟩
   . obtain ⟨t1,t2,t3⟩:=hi.ex.ob b o' fp hb;refine ⟨t1.local hl (fun j hj=>hk.keep.blk j (t3 j hj).2.1 (fun e=>hne (hi.ex.obd b _ _ bm _ _ bm hb hm (by rw [<- e]; exact hj) (by simp)))),t2,fun j hj=>?_⟩;obtain ⟨r1,r2,r3⟩:=t3 j hj;exact ⟨r1,by omega,r3⟩
 . rcases hcase e1 with ⟨a1,_,rfl⟩ | ⟨n1,e1⟩ <;> rcases hcase e2 with ⟨a2,_,rfl⟩ | ⟨n2,e2⟩
   . rw [a1,a2]
   . exact (n2 (hi.ex.obd b2 _ _ bm _ _ j e2 hm m2 m1)).elim
   . exact (n1 (hi.ex.obd b1 _ _ bm _ _ j e1 hm m1 m2)).elim
   . exact hi.ex.obd b1 o1 f1 b2 o2 f2 j e1 e2 m1 m2
def rfA:Code->Code
 | .block _ (.rangeFunc _ _ a _)=>a
 | _=>.skip
def rfB:Code->Code
 | .block _ (.rangeFunc _ _ _ b)=>b
 | _=>.skip
def spRF:Code->Code×Code
 | .seq (.seq _ (.block i (.rangeFunc s p a b))) r=>(.block i (.rangeFunc s p a b),r)
 | .seq _ b=>spRF b
 | _=>(.skip,.skip)
def zGG:Nat->List Nat:=fun _=>[6,8]
set_option maxRecDepth 100000 in
theorem zS2 {B l' b6:Nat} {x:McC} {st:S} :
 awp Tryz.prog ⟨B,⟨35,[]⟩,some l',[]⟩ (rfA (spRF (zj Tryz.f10)).1) (fun ex e' s'=>ex = .normal/\∃ k,Al.look st.box k=none/\e' = [(6,ptV b6),(8,ptV k)]/\Al.look s'.box k=some ([.at x.a,.at x.b,.at x.c,.at x.d,.at x.e],5)/\s'.ob=st.ob)
  [(6,ptV b6),(17,x.raw)] st:=by
 simp only [zj,Tryz.f10,Option.getD_some,spRF,rfA,McC.raw]
 (repeat (first|(refine zc ?_)|(refine zW ?_;simp -failIfUnchanged only [zB,zG])|(refine zd ?_;simp -failIfUnchanged only [zT,zR,zb,zS])|(refine z7 ?_)|((first | (refine ze polN zGG _ rfl rfl ?_)|(refine jk polN mixed zGG _ rfl rfl (by kernel_rfl) (by kernel_rfl) ?_));simp only [↓zu,↓qk,↓zL4,zC,xo,zD,zF,zL,zY,za,zJq,zGj,Bool.true_and,if_true,if_false,true_and,Nat.reduceEqDiff,zero32,zGG])))
 refine ⟨rfl,fun k hk=>?_⟩;simp only [xk,xH,spl,List.nil_append,List.append_nil,and_self,zH,V.isOne,V.flat,List.all_cons,List.all_nil,List.length_cons,List.length_nil,List.drop_zero,List.drop_succ_cons,List.take_zero,Bool.and_true,Bool.true_and,Bool.and_self,if_true,and_true,true_and,Nat.reduceAdd,Nat.zero_add,Nat.le_refl,zO,zC3,zBS];exact ⟨k,hk,rfl,if_pos rfl⟩
theorem map57:(mapT Tryz.prog 57).isSome=true:=by kernel_rfl
theorem zU4 {st:S} {bj:Nat} {c:MR} {fp:List Nat} {s:ByteArray} {x:McC×MacT} (l2:zN st.ob bj=some (.mp (trR c),fp)) {K:S->Prop} (hK:K ⟨st.box,st.tg,st.nx,(bj,.mp (trR (putR c s x)),fp)::st.ob⟩) :
 xl Tryz.prog st 57 (.at (.map (some bj))) (.at (.string s)) x.1.raw K:=by
 unfold xl;cases h:mapT Tryz.prog 57 with
 | none=>have:=map57; rw [h] at this; cases this
 | some e=>
  simp only [l2];refine ⟨rfl,?_⟩;rw [show x.1.raw.untag=x.1.raw from rfl,zLl];exact hK
set_option maxRecDepth 100000 in
theorem zUX {B l' bm nx:Nat} {x:McC} {m:MacT} {nm:ByteArray} {c:MR} (hn:x.a = .string nm) :
 awp Tryz.prog ⟨B,⟨35,[]⟩,some l',[]⟩ (rfB (spRF (zj Tryz.f10)).1) (fun ex e' s'=>ex = .normal/\zN s'.ob bm=some (.mp (trR (putR c nm (x,m))),[bm]))
  [(6,.rptr (.rptr (.agg [.at (.map (some bm)),.at (.int .i64 0)]))),(8,.rptr x.raw)] ⟨[],[],nx,[(bm,.mp (trR c),[bm])]⟩:=by
 have hm:zN (⟨[],[],nx,[(bm,.mp (trR c),[bm])]⟩:S).ob bm=some (.mp (trR c),[bm]):=by rw [zl,if_pos rfl]
 obtain ⟨xa,xb,xc,xd,xe⟩:=x;replace hn:xa = .string nm:=hn;subst hn;simp only [zj,Tryz.f10,Option.getD_some,spRF,rfB,McC.raw]
 (repeat (first|(refine zc ?_)|(refine zW ?_;simp -failIfUnchanged only [zB,zG])|(refine zd ?_;simp -failIfUnchanged only [zT,zR,zb,zS])|(refine z7 ?_)|((first | (refine ze polN zGG _ rfl rfl ?_)|(refine jk polN mixed zGG _ rfl rfl (by kernel_rfl) (by kernel_rfl) ?_));simp only [↓zu,↓xp,↓yi,↓qK,zG,qg,zC,zD,zF,zL,zY,za,zJI,zCP,j0,zAx,implies_true,List.map_cons,List.map_nil,and_self,fits,yD,yC,zH,V.isOne,V.isAgg,V.size,jS,List.all_cons,List.all_nil,List.length_cons,List.length_nil,List.drop_zero,List.take_succ_cons,List.take_zero,List.getD_cons_zero,Bool.true_and,Bool.and_self,if_true,if_false,true_and,Nat.reduceAdd,Nat.reduceEqDiff,Nat.reduceLeDiff,reduceCtorEq,Bool.false_eq_true,Nat.zero_add,Nat.add_zero,Nat.lt_add_one,zCF,zFu,zA9,zC3,zDr,zBS,zEA,hasT56,aggT56,zT7,hasT57,aggT57,zTb,zTj,zGG,zKB])))
 refine zU4 (x:=(⟨.string nm,xb,xc,xd,xe⟩,m)) hm ?_;show zN (_::_) bm=_;rw [zl,if_pos rfl]
def trE (c:MR):MC:=c.map fun p=>(p.1,CC.encV TI.mac p.2.2)
theorem zMf {g:Gh} {w:World}:∀ {c:MR} {es:List MapEntry},MapR g w (trR c) es->(∀ p ∈ c,RV1 g.bare w (CC.encV TI.mac p.2.2) p.2.1.enc)->MapR g w (trE c) es
 | [],_,h,_=>h
 | (k,z)::r,_,⟨e,es',h1,h2,h3,h4⟩,hp=>by
  refine ⟨e,es',h1,h2,?_,zMf h4 fun p h=>hp p (List.mem_cons_of_mem _ h)⟩;have h5:=hp _ (List.mem_cons_self ..);obtain ⟨us,q1,q2⟩:=h3;simp only [McC.raw,RC,RCs] at q1;obtain ⟨u1,v1,rfl,⟨rfl,_⟩,u2,v2,rfl,⟨rfl,_⟩,u3,v3,rfl,⟨rfl,_⟩,u4,v4,rfl,⟨rfl,_⟩,u5,v5,rfl,⟨rfl,_⟩,rfl⟩:=q1;rw [q2];exact h5
theorem zMI:∀ {c:MR} {s:ByteArray} {v:McC×MacT} {p},p ∈ putR c s v->p.2=v\/p ∈ c
 | [],s,v,p,h=>by
  simp only [putR,List.mem_singleton] at h;exact .inl (by rw [h])
 | (k,u)::r,s,v,p,h=>by
  simp only [putR] at h;split at h
  . rcases List.mem_cons.1 h with rfl | h
    . exact .inl rfl
    . exact .inr (List.mem_cons_of_mem _ h)
  . rcases List.mem_cons.1 h with rfl | h
    . exact .inr (List.mem_cons_self ..)
    . rcases zMI h with h | h
      . exact .inl h
      . exact .inr (List.mem_cons_of_mem _ h)
def McC.nm (x:McC):ByteArray:=match x.a with | .string s=>s | _=>⟨#[]⟩
def mkR (c:MR) (x:McC×MacT):MR:=putR c x.1.nm x
theorem zN5:∀ (l:List (McC×MacT)) (c:MR) {p},p ∈ l.foldl mkR c->p.2 ∈ l\/p ∈ c
 | [],c,p,h=>.inr h
 | x::l,c,p,h=>by
  rcases zN5 l _ h with h | h
  . exact .inl (List.mem_cons_of_mem _ h)
  . rcases zMI h with h | h
    . exact .inl (by rw [h]; exact List.mem_cons_self ..)
    . exact .inr h
def toM (c:MR):MapM:=c.map fun p=>(p.1.data.toList,p.2.2)
theorem zTO (c:MR):trE c=(toM c).map fun p=>((⟨p.1.toArray⟩:ByteArray),CC.encV TI.mac p.2):=by
 unfold trE toM;rw [List.map_map];rfl
theorem zNr:∀ (c:MR) (s:Str) (v:McC×MacT),toM (putR c ⟨s.toArray⟩ v)=mcP (toM c) s v.2
 | [],s,v=>by simp [putR,toM,mcP]
 | (k,u)::r,s,v=>by
  have hk:((⟨s.toArray⟩:ByteArray) == k)=seq s k.data.toList:=by
   have e:k=⟨k.data.toList.toArray⟩:=by cases k; rfl
   conv=>lhs; rw [e]
   exact zFW _ _
  show toM (if ((⟨s.toArray⟩:ByteArray) == k)=true then _ else _)=cond (seq s k.data.toList) _ _;rw [hk];cases seq s k.data.toList with
  | true=>simp [toM]
  | false=>
   have:=zNr r s v;simp only [toM,Bool.false_eq_true,if_false,cond_false,List.map_cons] at this ⊢;rw [<- this]
theorem zLO:∀ (l:List (McC×MacT)) (c:MR),(∀ x ∈ l,x.1.nm=⟨x.2.name.toArray⟩)->toM (l.foldl mkR c)=(l.map (·.2)).foldl (fun c m=>mcP c m.name m) (toM c)
 | [],c,h=>rfl
 | x::l,c,h=>by
  simp only [List.foldl_cons,List.map_cons];rw [zLO l _ fun y hy=>h y (List.mem_cons_of_mem _ hy)];unfold mkR;rw [h x (List.mem_cons_self ..),zNr]
end
section
open Go.Al Go.Den Go.RowKit Go.Shelf
attribute [local go_sem] Oper.semAt_some
theorem zSy {F:Fence} {n:Nat} {P:Program} {c:Code} {Q:Exit->Act->World->Prop} {W:World} (t:Array Value) (u v:Value) (h:c.wpIn F n P Q { tmps:=(t.setIfInBounds 16 u).setIfInBounds 17 v,defers:=[] } W) :
 c.wpIn F n P Q { tmps:=((#[16,17]:Array Tmp).zip #[u,v]).foldl (fun t (p,v)=>t.setIfInBounds p v) t,defers:=[] } W:=by
 rw [show ((#[16,17]:Array Tmp).zip #[u,v]).foldl (fun t (p,v)=>t.setIfInBounds p v) t=(t.setIfInBounds 16 u).setIfInBounds 17 v from by simp];exact h
theorem zKp {l n:Nat} {c:Code} {P:Program} {Q:Exit->Act->World->Prop} {a:Act} {w:World} (h:c.wpIn (fen (some l)) 0 P Q a w):c.wpIn (Fence.wide.inRound l) n P Q a w:=
 fun b k cs h1 h2 _=>h b k cs h1 h2 (room_wide _)
theorem zTh:∀ args w,(callFunc 43 args).run Tryz.prog w = .ok (.enter 43 args) w:=enters_of Tryz.func43 (by kernel_rfl) rfl
theorem tmps2 (t:Array Value) (u v:Value) (k:Nat) (h:t.size=35) (h1:k≠16) (h2:k≠17):((t.setIfInBounds 16 u).setIfInBounds 17 v).getD k undef=t.getD k undef:=by
 simp only [Array.getD_eq_getD_getElem?,Array.getElem?_setIfInBounds,h1,h2,Ne.symm h1,Ne.symm h2,if_false]
theorem tmps17 (t:Array Value) (u v:Value) (h:t.size=35):((t.setIfInBounds 16 u).setIfInBounds 17 v).getD 17 undef=v:=by
 simp [Array.getD_eq_getD_getElem?,Array.getElem?_setIfInBounds,h]
theorem zR0 {g:Gh} {w:World} {m:MacT} {x:McC} (h:RC g w (CC.encV TI.mac m) [x.a,x.b,x.c,x.d,x.e]):x.a = .string ⟨m.name.toArray⟩/\RC g w x.raw [x.a,x.b,x.c,x.d,x.e]/\RV1 g w (CC.encV TI.mac m) x.enc:=by
 have h0:=h;replace h:RC g w (zAO m) [x.a,x.b,x.c,x.d,x.e]:=h;unfold zAO at h;simp only [RC,RCs] at h;obtain ⟨u1,v1,e1,⟨rfl,o1⟩,u2,v2,rfl,⟨rfl,o2⟩,u3,v3,rfl,h3,u4,v4,rfl,⟨rfl,o4⟩,u5,v5,rfl,h5,rfl⟩:=h;have k3:∃ q,u3=[q]/\one q=true:=by
  rcases h3 with ⟨_,h,_⟩ | ⟨_,_,_,_,h,_⟩ <;> (subst h; exact ⟨_,rfl,rfl⟩)
 have k5:∃ q,u5=[q]/\one q=true:=by
  rcases h5 with ⟨_,h,_⟩ | ⟨_,_,_,_,h,_⟩ <;> (subst h; exact ⟨_,rfl,rfl⟩)
 obtain ⟨q3,rfl,o3⟩:=k3;obtain ⟨q5,rfl,o5⟩:=k5;simp only [List.cons_append,List.nil_append,List.append_nil,List.cons.injEq] at e1;obtain ⟨a1,a2,a3,a4,a5,_⟩:=e1;refine ⟨a1,?_,⟨_,h0,rfl⟩⟩;simp only [McC.raw,RC,RCs];exact ⟨[x.a],[x.b,x.c,x.d,x.e],rfl,⟨rfl,by rw [a1]; rfl⟩,[x.b],[x.c,x.d,x.e],rfl,⟨rfl,by rw [a2]; rfl⟩,[x.c],[x.d,x.e],rfl,⟨rfl,by rw [a3]; exact o3⟩,[x.d],[x.e],rfl,⟨rfl,by rw [a4]; rfl⟩,[x.e],[],rfl,⟨rfl,by rw [a5]; exact o5⟩,rfl⟩
def mcAt (ds:List Value) (j:Nat):McC:=⟨ds.getD (j * 5) undef,ds.getD (j * 5+1) undef,ds.getD (j * 5+2) undef,ds.getD (j * 5+3) undef,ds.getD (j * 5+4) undef⟩
theorem zHB {g:Gh} {w:World}:∀ (ms:List MacT) (ds:List Value),RCs g w (ms.map (CC.encV TI.mac)) ds->ds.length=ms.length * 5/\∀ j,j < ms.length->RC g w (CC.encV TI.mac (ms.getD j macD)) [(mcAt ds j).a,(mcAt ds j).b,(mcAt ds j).c,(mcAt ds j).d,(mcAt ds j).e]
 | [],ds,h=>by
  simp only [List.map_nil,RCs] at h;subst h;exact ⟨rfl,fun j hj=>by simp at hj⟩
 | x::ms,ds,h=>by
  simp only [List.map_cons,RCs] at h;obtain ⟨u1,u2,rfl,h1,h2⟩:=h;have hl:=qN _ _ _ _ h1;rw [show (CC.encV TI.mac x).size=5 from zRG x] at hl;obtain ⟨a,b,c,d,e,rfl⟩:∃ a b c d e,u1=[a,b,c,d,e]:=by
   match u1,hl with
   | [a,b,c,d,e],_=>exact ⟨a,b,c,d,e,rfl⟩
  obtain ⟨q1,q2⟩:=zHB ms u2 h2;refine ⟨by simp [q1]; omega,fun j hj=>?_⟩;cases j with
  | zero=>simpa [mcAt] using h1
  | succ j=>
   have:=q2 j (by simpa using hj);have e0:(j+1) * 5=j * 5+1+1+1+1+1:=by omega
   have e1:(j+1) * 5+1=(j * 5+1)+1+1+1+1+1:=by omega
   have e2:(j+1) * 5+2=(j * 5+2)+1+1+1+1+1:=by omega
   have e3:(j+1) * 5+3=(j * 5+3)+1+1+1+1+1:=by omega
   have e4:(j+1) * 5+4=(j * 5+4)+1+1+1+1+1:=by omega
   simp only [mcAt] at this ⊢;rw [e1,e2,e3,e4,e0];simpa using this
theorem zT6 (ms:List MacT) (n:Nat) (h:n=ms.length):ms.reverse=(j7 n n).map fun x=>ms.getD x.1 macD:=by
 subst h;rw [j7,List.take_of_length_le (by simp),List.map_reverse];congr 1;apply List.ext_getElem
 . simp
 . intro i h1 h2;simp
def jQ (ms:List MacT):MapM:=ms.reverse.foldl (fun c m=>mcP c m.name m) []
abbrev encM (c:MapM):MC:=c.map fun p=>((⟨p.1.toArray⟩:ByteArray),CC.encV TI.mac p.2)
set_option maxRecDepth 100000 in
set_option maxHeartbeats 2000000 in
theorem loop10 {B:Nat} {ms:List MacT} {s:S} {v1:V} {bm bw b6 bs:Nat} {g0:Gh} {w0:World} {Q:Exit->Act->World->Prop} {rest:Code}
 (xm:zN s.ob bm=some (.mp [],[bm])) (xw:Al.look s.box bw=some ([.at (.map (some bm)),.at (.int .i64 0)],2)) (x6:Al.look s.box b6=some ([ptV bw],1)) (xb:Al.look s.box bs=some ([.lst (zz (ms.map (CC.encV TI.mac))) (ms.map (CC.encV TI.mac))],1)) (hml:ms.length < 1000000)
 (HR:∀ g w D W a,Step B g0 w0 g w->Al.Inv B g s w->GlobOk B g.wm w->w.heap.size<=D->Keep1 bm w W->W.heap[D]? = some (.deferred (some [])) ->
  Rel ⟨B,⟨35,[]⟩,none,[{ target:=.collected D,args:=#[] }]⟩ g [(1,v1),(6,ptV b6)] ⟨s.box,s.tg,s.nx,(bm,.mp (encM (jQ ms)),[bm])::s.ob⟩ a W->rest.wpIn Fence.wide 6 Tryz.prog Q a W) :
 awpG Tryz.prog ⟨B,⟨35,[]⟩,none,[]⟩ 6 (spRF (zj Tryz.f10)).1 (Exit.then (rest.wpIn Fence.wide 6 Tryz.prog Q) Q) g0 w0 [(1,v1),(6,ptV b6),(15,.clo (.func 43) [ptV bs])] s:=by
 intro g a w hstep hr;have hF:∀ f,Fence.wide.fn f:=fun _=>trivial;obtain ⟨dsc,h36a,h36⟩:=zQS (hr.env 15);simp only [RCs,RC] at h36a;obtain ⟨_,_,rfl,⟨rfl,_⟩,rfl⟩:=h36a;obtain ⟨t1,t2,t3,t4,arrb,elb,usb,t5,t6,t7,t8⟩:=hr.inv.box _ _ _ xb;simp only [RCs] at t7;obtain ⟨ub,_,rfl,hub,rfl⟩:=t7;have hubl:=qN _ _ _ _ hub;obtain ⟨vb,rfl⟩:∃ vb,ub=[vb]:=by
  match ub,hubl with
  | [vb],_=>exact ⟨vb,rfl⟩
 have harrb:arrb = #[vb]:=by
  apply Array.ext';rw [List.take_of_length_le (by simpa using Nat.le_of_eq t6)] at t8;simpa using t8
 subst harrb;have hbslt:bs < w.heap.size:=(Array.getElem?_eq_some_iff.1 t5).1;obtain ⟨av,capv,br,orr,ds,hvb,hav,hrow,hcell,hbr⟩:∃ (av:Option Addr) (capv br orr:Nat) (ds:List Value),vb = .slice av ms.length capv/\(ms≠[]->av=some ⟨br,orr,none⟩)/\RCs g.bare w (ms.map (CC.encV TI.mac)) ds /\
  (∀ k u,ds[k]? = some u->w.cell? ⟨br,orr+k,none⟩=some u)/\(ms≠[]->br < w.heap.size/\g.wm br≠0):=by
  simp only [RC] at hub;rcases hub with ⟨e1,e2,_⟩ | ⟨br,orr,capv,ds,e1,e2,_,e3,_,e4⟩
  . obtain rfl:ms=[]:=List.map_eq_nil_iff.1 e1;injection e2 with e2
    exact ⟨none,0,0,0,[],e2,fun h=>absurd rfl h,(by show RCs g.bare w [] []; simp only [RCs]),fun k u h=>by simp at h,fun h=>absurd rfl h⟩
  . injection e1 with e1
    have hlm:(List.map (CC.encV TI.mac) ms).length=ms.length:=List.length_map ..;refine ⟨some ⟨br,orr,none⟩,capv,br,orr,ds,e1.trans (congrArg (fun n=>Value.slice (some ⟨br,orr,none⟩) n capv) hlm),fun _=>rfl,e3,fun k u h=>(e4 k u h).1,fun hne=>?_⟩;obtain ⟨q1,q2⟩:=zHB ms ds e3;have hpos:0 < ms.length:=List.length_pos_iff.2 hne;have h0:ds[0]? = some ds[0]:=List.getElem?_eq_getElem (by omega);obtain ⟨h1,h2⟩:=e4 0 _ h0;exact ⟨(Array.getElem?_eq_some_iff.1 (zLD h1).choose_spec.choose_spec.choose_spec.1).1,by omega⟩
 subst hvb;obtain ⟨hdl,hnd⟩:=zHB ms ds hrow;obtain ⟨xs,hxs⟩:∃ xs:List McC,xs=(List.range ms.length).map fun j=>mcAt ds j:=⟨_,rfl⟩;have hxl:xs.length=ms.length:=by rw [hxs]; simp
 have hxj:∀ j (hj:j < xs.length),(xs[j]'hj)=mcAt ds j:=fun j hj=>by subst hxs; simp
 have hxne:xs≠[]->ms≠[]:=fun h e=>h (List.length_eq_zero_iff.1 (by rw [hxl,e]; rfl));have hbmo:=hr.inv.ex.ob _ _ _ xm;obtain ⟨m1,m2,m3,m4,m5,m6⟩:=hbmo.2.2 bm (by simp);replace m1:B<=bm:=m1;have hB:B<=w.heap.size:=hr.inv.base;have hbsm:bs≠bm:=fun e=>by rw [e] at xb; rw [m4] at xb; cases xb
 have hbrm:ms≠[]->br≠bm:=fun h e=>(hbr h).2 (by rw [e]; exact m3);have hI0:IsM bm [] w w:=by
  refine ⟨Keep1.refl _ _,?_⟩;obtain ⟨_,arr,ck,h1,h2⟩:=hbmo.1;exact ⟨arr,ck,h1,fun g' w'=>zHN (c:=[]) h2 g' w'⟩
 have hKp:∀ A C:World,w.heap.size<=A.heap.size->(∀ b,b < A.heap.size->b≠bm->C.heap[b]? = A.heap[b]?)->KpN bs av xs.length A C:=fun A C h1 h2=>by
  refine ⟨fun v hv=>(World.cell?_of_block (h2 bs (by omega) hbsm)).trans hv,fun b' o' e j v hj hv=>?_⟩;have hne:ms≠[]:=hxne (by rintro rfl; simp at hj);rw [hav hne] at e;injection e with e
  injection e with e _ _
  subst e;exact (World.cell?_of_block (h2 br (by have:=(hbr hne).1; omega) (hbrm hne))).trans hv
 have hseq:=zK5 Fence.wide 5 (hF _) rfl (by omega) bs capv br orr av xs (fun h=>hav (hxne h)) (by omega) w hbslt (fun h=>(hbr (hxne h)).1) (by rw [hxl]; simp [World.cell?,t5]) (fun j hj=>by
  have hj':j < ms.length:=by omega
  have hg:∀ k,k < ms.length * 5->w.cell? ⟨br,orr+k,none⟩=some (ds.getD k undef):=fun k hk=>hcell k _ (by rw [List.getD_eq_getElem?_getD,List.getElem?_eq_getElem (by omega)]; rfl);rw [hxj j hj];exact ⟨hg _ (by omega),hg (j * 5+1) (by omega),hg (j * 5+2) (by omega),hg (j * 5+3) (by omega),hg (j * 5+4) (by omega)⟩)
 obtain ⟨pf,hpf⟩:∃ pf:Fin xs.length->McC×MacT,pf=fun x=>(xs[x.1]'x.2,ms.getD x.1 macD):=⟨_,rfl⟩;have hsh:∀ x:Fin xs.length,(pf x).1.a = .string ⟨(pf x).2.name.toArray⟩/\RC g.bare w (pf x).1.raw [(pf x).1.a,(pf x).1.b,(pf x).1.c,(pf x).1.d,(pf x).1.e]/\RV1 g.bare w (CC.encV TI.mac (pf x).2) (pf x).1.enc:=fun x=>by
  have h1:=hnd x.1 (by have:=x.2; omega);rw [<- hxj x.1 x.2] at h1;rw [hpf];exact zR0 h1
 have hnm:∀ x:Fin xs.length,(pf x).1.nm=⟨(pf x).2.name.toArray⟩:=fun x=>by
  unfold McC.nm; rw [(hsh x).1]
 simp only [zj,Tryz.f10,Option.getD_some,spRF];refine wpIn_block ?_;refine wpIn_rangeFunc_ownH rfl (by omega) (gf:=43) (lb:=#[.pointer (some ⟨bs,0,none⟩)]) h36 (hF 43) zTh hseq (fun h k=>h.trans k) (fun W l o o' _ hl h1 _=>KpN.put W l o o' hl h1) (Below.refl _ _) (fun _=>rfl)
  (fun (pre:List (Fin xs.length)) W=>IsM bm ((pre.map pf).foldl mkR []) w W) (fun _ _ _=>False)
  (fun pre A C row h hg hr=>h.grown m2 hg hr) (fun c pre A C row h hg hr=>h.elim) hI0
  (fun x a' W=>∃ k,w.heap.size<=k/\(∃ el,W.heap[k]? = some (.cells #[(pf x).1.a,(pf x).1.b,(pf x).1.c,(pf x).1.d,(pf x).1.e] el (0,0)))/\a'.tmps.getD 6 undef = .pointer (some ⟨b6,0,none⟩)/\a'.tmps.getD 8 undef = .pointer (some ⟨k,0,none⟩)/\a'.tmps.size=35/\a'.defers=[])
  (fun x a' _ A C row h hg hr=>?own) ?assign ?body ?done ?stop
 case own=>
  obtain ⟨k,h1,⟨el,h2⟩,h3⟩:=h;refine ⟨k,h1,⟨el,(hg.block k (Array.getElem?_eq_some_iff.1 h2).1 (fun e=>?_)).trans h2⟩,h3⟩;obtain ⟨_,o,ho,hc⟩:=hr k e.symm;rw [h2] at ho;injection ho with ho
  subst ho;cases hc
 case stop=>
  intro D c pre W _ _ h;exact h.elim
 case assign=>
  intro l pre x W K hI hK;obtain ⟨z1,z2,z3⟩:=hsh x;have hpe:(xs[x.1]'x.2)=(pf x).1:=by rw [hpf]
  rw [hpe];refine zSy (a.tmps) (.int .i64 (x.1:Int)) (pf x).1.enc ?_;refine zKp (wpIn_mono ((zS2 (b6:=b6) (x:=(pf x).1):awp Tryz.prog ⟨B,⟨35,[]⟩,some l,[]⟩ _ _ _ ⟨[],[],s.nx,[(bm,.mp (trR ((pre.map pf).foldl mkR [])),[bm])]⟩) (frzG g W bm) _ W ⟨zOG hr.inv m1 m2 hI,fun k=>?_,⟨?_,fun _ hp=>(by cases hp)⟩,rfl,zMm hr.inv hr.gl m3 m1 hI.keep⟩) ?_)
  . show RV _ W _ (((a.tmps.setIfInBounds 16 (.int .i64 (x.1:Int))).setIfInBounds 17 (pf x).1.enc).getD k undef);by_cases h2:k=6
    . subst h2;rw [tmps2 _ _ _ _ hr.size.1 (by decide) (by decide),zh (hr.env 6)];exact RV_at_mk rfl
    . by_cases h8:k=17
      . subst h8;rw [tmps17 _ _ _ hr.size.1];refine zE8 (us:=[(pf x).1.a,(pf x).1.b,(pf x).1.c,(pf x).1.d,(pf x).1.e]) ?_;simp only [McC.raw,RC] at z2;simp only [RCs,RC] at z2 ⊢;exact z2
      . have:Env.get [(6,ptV b6),(17,(pf x).1.raw)] k=V.any:=by
         simp only [Env.get,Ne.symm h2,Ne.symm h8,if_false]
        rw [this];trivial
  . show ((a.tmps.setIfInBounds 16 (.int .i64 (x.1:Int))).setIfInBounds 17 (pf x).1.enc).size=35;simp [hr.size.1]
  . rintro ex a2 w2 ⟨g',e',s',q1,q2,rfl,k,hk,rfl,hl,hob⟩;have hbm2:zN s'.ob bm=some (.mp (trR ((pre.map pf).foldl mkR [])),[bm]):=by rw [hob,zl,if_pos rfl]
    obtain ⟨i1,i2,i3⟩:=zLa hI m2 q1 q2.inv hbm2;have hkW:W.heap.size<=k:=by
     rcases Nat.lt_or_ge k W.heap.size with h | h
     . exfalso;have hne:k≠bm:=fun e=>by
        have:=((q2.inv.ex.ob _ _ _ hbm2).2.2 bm (by simp)).2.2.2.1;rw [<- e,hl] at this; cases this
       have:=(q2.inv.ex.frz k (by rw [q1.fr]; simp [frzG,h,hne])).2.1;rw [hl] at this; cases this
     . exact h
    have hws:=hI.keep.below.size;refine hK a2 w2 i3 (hKp W w2 hws i2) i1 ⟨k,by omega,?_,zh (q2.env 6),zh (q2.env 8),q2.size.1,q2.df⟩;obtain ⟨p1,p2,p3,p4,arr,el,us,p5,p6,p7,p8⟩:=q2.inv.box _ _ _ hl;simp only [RCs,RC] at p7;obtain ⟨u1,_,rfl,⟨rfl,_⟩,u2,_,rfl,⟨rfl,_⟩,u3,_,rfl,⟨rfl,_⟩,u4,_,rfl,⟨rfl,_⟩,u5,_,rfl,⟨rfl,_⟩,rfl⟩:=p7;refine ⟨el,?_⟩;have harr:arr = #[(pf x).1.a,(pf x).1.b,(pf x).1.c,(pf x).1.d,(pf x).1.e]:=by
     apply Array.ext';rw [List.take_of_length_le (by simpa using Nat.le_of_eq p6)] at p8;simpa using p8
    rw [p5,harr]
 case done=>
  rintro D ys W hD rfl hI hK;obtain ⟨cR,hcR⟩:∃ cR,((j7 xs.length xs.length).map pf).foldl mkR []=cR:=⟨_,rfl⟩;have hm:toM cR=jQ ms:=by
   rw [<- hcR,zLO _ _ (fun y hy=>by obtain ⟨x,_,rfl⟩:=List.mem_map.1 hy; exact hnm x)];unfold jQ;rw [zT6 ms xs.length hxl,List.map_map,hpf];rfl
  have hcm:∀ p ∈ cR,∃ x,p.2=pf x:=fun p hp=>by
   rw [<- hcR] at hp;rcases zN5 _ _ hp with h | h
   . obtain ⟨x,_,h⟩:=List.mem_map.1 h;exact ⟨x,h.symm⟩
   . cases h
  replace hI:IsM bm (((j7 xs.length xs.length).map pf).foldl mkR []) w W:=hI;rw [hcR] at hI;obtain ⟨j1,j2⟩:=Inv.butMp hr.inv xm hI;have j3:Al.Inv B g ⟨s.box,s.tg,s.nx,(bm,.mp (encM (jQ ms)),[bm])::s.ob⟩ W:=by
   rw [<- hm,show encM (toM cR)=trE cR from (zTO cR).symm];refine ⟨j1.base,j1.box,j1.tag,j1.own,j1.dist,j1.nodup,j1.fresh,j1.names,j1.ex.frz,fun b o fp h=>?_,fun b1 o1 f1 b2 o2 f2 j h1 h2 h3 h4=>?_,j1.ex.ft⟩
   . replace h:zN ((bm,OV.mp (trE cR),[bm])::s.ob) b=some (o,fp):=h;rw [zl] at h;split at h
     . rename_i e;subst e;injection h with h
       obtain ⟨rfl,rfl⟩:=Prod.mk.inj h;obtain ⟨⟨e1,arr,ck,h1,h2⟩,h3,h4⟩:=j1.ex.ob bm _ _ (show zN ((bm,OV.mp (trR cR),[bm])::s.ob) bm=_ by rw [zl,if_pos rfl]);refine ⟨⟨e1,arr,ck,h1,zMf h2 fun p hp=>?_⟩,h3,h4⟩;obtain ⟨x,hx⟩:=hcm p hp;rw [hx];exact (hsh x).2.2.later j2.bare
     . rename_i e;exact j1.ex.ob b o fp (show zN ((bm,OV.mp (trR cR),[bm])::s.ob) b=_ by rw [zl,if_neg e]; exact h)
   . have key:∀ {b o f},zN ((bm,OV.mp (trE cR),[bm])::s.ob) b=some (o,f)->∃ o',zN ((bm,OV.mp (trR cR),[bm])::s.ob) b=some (o',f):=fun {b o f} h=>by
      rw [zl] at h ⊢;split at h
      . rename_i e;injection h with h
        obtain ⟨rfl,rfl⟩:=Prod.mk.inj h;exact ⟨_,if_pos e⟩
      . rename_i e;exact ⟨_,(if_neg e).trans h⟩
     obtain ⟨o1',k1⟩:=key h1;obtain ⟨o2',k2⟩:=key h2;exact j1.ex.obd b1 o1' f1 b2 o2' f2 j k1 k2 h3 h4
  refine HR g w D W _ hstep hr.inv hr.gl hD hI.keep hK ⟨j3,fun k=>?_,hr.size,by show _::a.defers=_; rw [hr.df],hr.gl.below ⟨hI.keep.below.os,hI.keep.below.tape,hI.keep.below.output,hI.keep.below.size,fun k hk=>hI.keep.blk k (by replace hk:k < B:=hk; omega) (by replace hk:k < B:=hk; omega)⟩ (fun _=>Nat.le_refl _)⟩;have:=(hr.env k).later j2;show RV g W (Env.get [(1,v1),(6,ptV b6)] k) (a.tmps.getD k undef);by_cases h36':k=15
  . subst h36'; trivial
  . have e:Env.get [(1,v1),(6,ptV b6)] k=Env.get [(1,v1),(6,ptV b6),(15,.clo (.func 43) [ptV bs])] k:=by
     simp only [Env.get,Ne.symm h36',if_false]
    rw [e]; exact this
 case body=>
  rintro l pre x a' W _ _ hI ⟨k,hk,⟨el,hkc⟩,u2,u7,usz,udf⟩ hlen;obtain ⟨z1,z2,z3⟩:=hsh x;have hput:((pre++[x]).map pf).foldl mkR []=putR ((pre.map pf).foldl mkR []) ⟨(pf x).2.name.toArray⟩ ((pf x).1,(pf x).2):=by
   rw [List.map_append,List.foldl_append,<- hnm x]; rfl
  obtain ⟨c,hc⟩:∃ c,(pre.map pf).foldl mkR []=c:=⟨_,rfl⟩;replace hI:IsM bm ((pre.map pf).foldl mkR []) w W:=hI;rw [hc] at hI hput;have hL:=zJd hr.inv m3 hI.keep;have hws:=hI.keep.below.size;have hbox:∀ {b':Nat} {cs:List V} {n':Nat},Al.look s.box b' = some (cs,n')->∃ arr el us,W.heap[b']? = some (.cells arr el (0,0))/\arr.size=n'/\RCs (frzG g W bm) W cs us/\arr.toList.take cs.length=us/\b'≠bm:=fun {b' cs n'} h=>by
   obtain ⟨p1,p2,p3,p4,arr,el,us,p5,p6,p7,p8⟩:=hr.inv.box _ _ _ h;have hne:b'≠bm:=fun e=>by rw [e,m4] at h; cases h
   exact ⟨arr,el,us,(hI.keep.blk b' (Array.getElem?_eq_some_iff.1 p5).1 hne).trans p5,p6,zg hL _ _ p7,p8,hne⟩
  obtain ⟨arr2,el2,us2,p5,p6,p7,p8,n2m⟩:=hbox x6;simp only [RCs,RC] at p7;obtain ⟨_,_,rfl,⟨rfl,_⟩,rfl⟩:=p7;obtain ⟨arr0,el0,us0,o5,o6',o7,o8,n0m⟩:=hbox xw;simp only [RCs,RC] at o7;obtain ⟨_,_,rfl,⟨rfl,_⟩,_,_,rfl,⟨rfl,_⟩,rfl⟩:=o7;have harr2:arr2.toList=[.pointer (some ⟨bw,0,none⟩)]:=by
   rw [List.take_of_length_le (by simpa using Nat.le_of_eq p6)] at p8;simpa using p8
  have harr0:arr0.toList=[.map (some bm),.int .i64 0]:=by
   rw [List.take_of_length_le (by simpa using Nat.le_of_eq o6')] at o8;simpa using o8
  refine zKp (wpIn_mono ((zUX (x:=(pf x).1) (m:=(pf x).2) (c:=c) z1:awp Tryz.prog ⟨B,⟨35,[]⟩,some l,[]⟩ _ _ _ ⟨[],[],s.nx,[(bm,.mp (trR c),[bm])]⟩) (frzG g W bm) a' W ⟨zOG hr.inv m1 m2 hI,fun k1=>?_,⟨usz,fun _ hp=>(by cases hp)⟩,udf,zMm hr.inv hr.gl m3 m1 hI.keep⟩) ?_)
  . by_cases h2:k1=6
    . subst h2;rw [u2];refine zCI (ds:=[.pointer (some ⟨bw,0,none⟩)]) ?_ (by have:=zJK (g:=g) n2m p5; rw [harr2] at this; exact this);simp only [RC,RCs];exact ⟨bw,0,[.map (some bm),.int .i64 0],rfl,⟨[_],[_],rfl,⟨rfl,rfl⟩,[_],[],rfl,⟨rfl,rfl⟩,rfl⟩,by have:=zJK (g:=g) n0m o5; rw [harr0] at this; exact this⟩
    . by_cases h7:k1=8
      . subst h7;rw [u7];refine zCI (ds:=[(pf x).1.a,(pf x).1.b,(pf x).1.c,(pf x).1.d,(pf x).1.e]) ?_ (zJK (g:=g) (by omega) hkc);simp only [McC.raw,RC,RCs] at z2 ⊢;exact z2
      . have:Env.get [(6,.rptr (.rptr (.agg [.at (.map (some bm)),.at (.int .i64 0)]))),(8,.rptr (pf x).1.raw)] k1=V.any:=by
         simp only [Env.get,Ne.symm h2,Ne.symm h7,if_false]
        rw [this];trivial
  . rintro ex a2 w2 ⟨g',e',s',q1,q2,rfl,hob⟩;obtain ⟨i1,i2,i3⟩:=zLa hI m2 q1 q2.inv hob;refine ⟨i3,hKp W w2 hws i2,?_⟩;show IsM bm (((pre++[x]).map pf).foldl mkR []) w w2;rw [hput];exact i1
end
end Go.Proofs.YtfjiiknfopmcjaaGreatDoor
namespace Go.Den
section
open Go.Al
def zipE:List Nat->List V->Env
 | k::ks,v::vs=>(k,v)::zipE ks vs
 | _,_=>[]
def zipT {U:TyU}:List Nat->List (T U)->En U
 | k::ks,v::vs=>(k,v)::zipT ks vs
 | _,_=>[]
def conE:List (Nat×Value)->Env->Env
 | [],e=>e
 | p::r,e=>(p.1,.at p.2)::conE r e
def conT {U:TyU}:List (Nat×Value)->En U->En U
 | [],e=>e
 | p::r,e=>(p.1,.con p.2)::conT r e
def chkC {U:TyU} {R:Type}:List (Nat×Value)->En U->Option R->Option R
 | [],_,K=>K
 | p::r,e,K=>match eget e p.1 with
  | .con _=>chkC r e K
  | _=>none
section
variable {U:TyU} (C:Cod U) (Tb:TypeId->TD U)
def runQ (fu d:Nat) (inl:Nat->Option (FD U)) (orc:Nat->Option (Con U)) (orr:Nat->Option (CR U)) (orp:Nat->Option (CP U)) (fi:FI U) (c:Code) (cs:List (Nat×Value)) (rt:Bool) (slots oslots:List Nat) (ks ko:List (SK U)) (x:zA ks):Option (Option (zA ko)):=
 kC C ks x ⟨[],[],0,0,[]⟩ fun vs st=>feS st fun st=>feA vs fun ts=>
 drun C Tb fu (zCN C Tb fu inl orc orr orp (some none) d) fi c (conT cs (zipT slots ts)) st fun ex e' st'=>match ex with
  | .normal=>chkC cs e' (xA C ko (oslots.map fun k=>eget e' k) st' fun y _=>some (some y))
  | .ret=>bif rt then chkC cs e' (xA C ko (oslots.map fun k=>eget e' k) st' fun y _=>some (some y)) else none
  | .exit id=>bif Nat.beq id 0 && !rt then chkC cs e' (xA C ko (oslots.map fun k=>eget e' k) st' fun y _=>some (some y)) else none
  | _=>none
variable {C Tb} {P:Program}
theorem zNT {st:St U} {N:NM}:∀ (slots:List Nat) (args:List (T U)),bdds st.nl st.nx args=true->ESim C N st (zipT slots args) (zipE slots (args.map (trT C N)))
 | [],_,_,k=>⟨.inl rfl,rfl⟩
 | _::_,[],_,k=>⟨.inl rfl,rfl⟩
 | n::slots,x::xs,h,k=>by
  simp only [bdds,Bool.and_eq_true] at h;simp only [zipT,eget,List.map_cons,zipE,Env.get];by_cases e:n=k
  . subst e;have:Nat.beq n n=true:=by simp
    simp only [this,cond_true,if_true];exact ⟨.inr rfl,h.1⟩
  . simp only [ym e,cond_false,if_neg e];exact zNT slots xs h.2 k
theorem zNz {st:St U} {N:NM} {e:En U} {E:Env} (h:ESim C N st e E):∀ cs:List (Nat×Value),ESim C N st (conT cs e) (conE cs E)
 | [],k=>h k
 | p::r,k=>by
  simp only [conT,eget,conE,Env.get];by_cases e1:p.1=k
  . have:Nat.beq p.1 k=true:=by simpa using e1
    simp only [this,cond_true,if_pos e1];exact ⟨.inr rfl,rfl⟩
  . simp only [ym e1,cond_false,if_neg e1];exact zNz h r k
theorem zNk {R:Type} {e:En U} {K:Option R} {r:R}:∀ {cs:List (Nat×Value)},chkC cs e K=some r->K=some r/\∀ p ∈ cs,∃ v,eget e p.1 = .con v
 | [],h=>⟨h,fun p hp=>(by cases hp)⟩
 | p::cs,h=>by
  simp only [chkC] at h;split at h
  . rename_i v hv;obtain ⟨h1,h2⟩:=zNk h;refine ⟨h1,fun q hq=>?_⟩;rcases List.mem_cons.1 hq with rfl | hq
    . exact ⟨v,hv⟩
    . exact h2 q hq
  . cases h
def QEnd (C:Cod U) (ko:List (SK U)) (cs:List (Nat×Value)) (oslots:List Nat) (oc:Option (zA ko)) (e':Env) (s':S):Prop:=(∀ p ∈ cs,e'.get p.1=(conE cs []).get p.1)/\∃ y,oc=some y/\∃ q,VKs C s' ko y (oslots.map e'.get) q/\q.Nodup
def QPost (C:Cod U) (syn:List PanicEntry) (ko:List (SK U)) (rt:Bool) (cs:List (Nat×Value)) (oslots:List Nat) (oc:Option (zA ko)):Exit->Env->S->Prop
 | .normal,e',s'=>QEnd C ko cs oslots oc e' s'
 | .ret,e',s'=>rt=true/\QEnd C ko cs oslots oc e' s'
 | .exit id,e',s'=>(id=0/\rt=false)/\QEnd C ko cs oslots oc e' s'
 | .panic e,_,_=>e=syn/\oc=none
 | _,_,_=>False
theorem zUJ (hT:TbOk C P Tb) (hC:CodOk C) (hm:P.follows .mixedOrders=true) {syn:List PanicEntry} {pf rf:FuncId->Bool} {fu d:Nat} {inl:Nat->Option (FD U)} {orc:Nat->Option (Con U)} {orr:Nat->Option (CR U)} {orp:Nat->Option (CP U)}
 (hpf:∀ f,pf f=(orc f).isSome) (hrf:∀ f,rf f=(orr f).isSome) (hin:∀ f fd,inl f=some fd->FDOk P pf rf f fd) (hor:∀ f c,orc f=some c->OrcOk C P f c)
 (hrr:∀ f c,orr f=some c->zZ P f=true/\CROk C P f c) (hpp:∀ f c,orp f=some c->zZ P f=true/\CPOk C P syn f c) {fi:FI U} {c:Code} {cs:List (Nat×Value)} {rt:Bool} {slots oslots:List Nat} {ks ko:List (SK U)} {X:Cx} (hok:xr pf rf fi X.N c=true) (hhd:qE fi c=true)
 {x:zA ks} {oc:Option (zA ko)} (h:runQ C Tb fu d inl orc orr orp fi c cs rt slots oslots ks ko x=some oc) (hcs:∀ p ∈ cs,p.1 ∉ dsts fi c) {s0:S} {vx:List V} {rs:List Res} (hv:VKs C s0 ks x vx rs) (hn:rs.Nodup):awp P X c (QPost C syn ko rt cs oslots oc) (conE cs (zipE slots vx)) s0:=by
 unfold runQ at h;have hno:∀ y,¬ Has ⟨id,id,id,id⟩ (⟨[],[],0,0,[]⟩:St U) y:=fun y hy=>by
  cases y with
  | inl n=>obtain ⟨t,ht,_⟩:=hy; cases ht
  | inr b=>obtain ⟨l,b,hl,_⟩:=hy; simp [lk] at hl
  | ob b=>obtain ⟨l,b,hl,_⟩:=hy; simp [lko] at hl
 obtain ⟨N1,vs1,st1,k1,k2,k3,k4,k5,k6⟩:=jH hC ks x (SSim.empty ⟨id,id,id,id⟩ 0 0 s0) hv hn (fun y hy hh=>hno y hh) h;rw [yy,zBn] at k1;subst k4;refine qm (PP:=fun e=>e=syn/\(some none:Option (Option (zA ko)))=some oc) hT hC hm (zBK hT hC hm hpf hrf hin hor hrr hpp d fi.wr fi.own) c k3 (zNz (zNT slots vs1 k5) cs) k1 hok hhd (fun e s' hq=>?_) ?_
 . obtain ⟨h1,h2⟩:=hq;injection h2 with h2
   exact ⟨h1,h2.symm⟩
 . intro ex N' e' st' E' s' u1 u2 u3 u4 u5;have fin:(xA C ko (oslots.map fun k=>eget e' k) st' fun y _=>some (some y))=some oc->∃ y,oc=some y/\∃ q,VKs C s' ko y (oslots.map E'.get) q/\q.Nodup:=fun hh=>by
    obtain ⟨y,st3,q,h3,_,_,_,h4,h5,_,_⟩:=jL hC ko (vs:=oslots.map fun k=>eget e' k) (vs':=oslots.map E'.get) u3 (by simp) (fun j x v a b=>by
     rw [List.getElem?_map] at a b;cases hk:oslots[j]? with
     | none=>rw [hk] at a; cases a
     | some k=>
      rw [hk] at a b;injection a with a
      injection b with b
      subst a; subst b;exact (u4 k).1) hh
    injection h3 with h3
    exact ⟨y,h3.symm,q,h4,h5⟩
   have all:chkC cs e' (xA C ko (oslots.map fun k=>eget e' k) st' fun y _=>some (some y))=some oc->QEnd C ko cs oslots oc E' s':=fun u1=>by
    obtain ⟨v1,v2⟩:=zNk u1;refine ⟨fun p hp=>?_,fin v1⟩;obtain ⟨v,hv⟩:=v2 p hp;have h1:eget e' p.1=eget (conT cs (zipT slots vs1)) p.1:=by
     rcases u5 p.1 (hcs p hp) with q | q
     . exact q
     . rw [hv] at q; cases q
    have h2:=(u4 p.1).1;have key:∀ (cs:List (Nat×Value)) (e:En U) (E:Env),p ∈ cs->eget (conT cs e) p.1 = .con ((cs.find? fun q=>Nat.beq q.1 p.1).getD p).2/\(conE cs E).get p.1 = .at ((cs.find? fun q=>Nat.beq q.1 p.1).getD p).2:=by
     intro cs
     induction cs with
     | nil=>intro _ _ h; cases h
     | cons a cs ih=>
      intro e E h;by_cases e1:a.1=p.1
      . have e2:Nat.beq a.1 p.1=true:=by simpa using e1
        simp only [conT,eget,conE,Env.get,e2,cond_true,if_pos e1,List.find?_cons_of_pos,Option.getD_some];exact ⟨trivial,trivial⟩
      . have e2:¬ (Nat.beq a.1 p.1=true):=by simpa using e1
        have hp':p ∈ cs:=by
         rcases List.mem_cons.1 h with rfl | h
         . exact absurd rfl e1
         . exact h
        simp only [conT,eget,conE,Env.get,ym e1,cond_false,if_neg e1];have:=ih e E hp';rw [List.find?_cons_of_neg (by simpa using e2)];exact this
    rcases h2 with h2 | h2
    . rw [hv] at h2; cases h2
    . rw [h2,h1,(key cs _ [] hp).1,(key cs (zipT slots vs1) [] hp).2]; rfl
   cases ex with
   | normal=>exact all u1
   | ret=>
    obtain ⟨w1,w2⟩:=zJ u1;exact ⟨w1,all w2⟩
   | exit id=>
    obtain ⟨w1,w2⟩:=zJ u1;exact ⟨by simpa using w1,all w2⟩
   | goto l=>cases u1
   | panic c=>cases u1
   | outgrown=>cases u1
end
end
end Go.Den
namespace Go.Proofs.YtfjiiknfopmcjaaGreatDoor
section
open Go.Al Go.Den Go.RowKit Go.Shelf
attribute [local congr] qj jN jm ke xg qX xD xB qd jM qW jj qi qU yz xJ qc je ji xy jJ qZ qB qA ql qT qC qh qn xx kr jf jg jI jG jD qV xz qD
theorem zSm {B:Nat} {g0 g g':Gh} {w0 w W W':World} {s s':S} {D bm:Nat} (h0:Step B g0 w0 g w) (hm:B<=bm/\g.wm bm=0/\g.fr bm=false) (hI:Al.Inv B g s w) (hM:Keep1 bm w W) (hD:w.heap.size<=D)
 (h1:Step B ⟨g.wm,g.tb,⟨fun b=>g.fr b || decide (b=D),g.fr.t⟩⟩ W g' W') (h2:Al.Inv B g' s' W'):Step B g0 w0 ⟨g'.wm,g'.tb,g.fr⟩ (W'.putObj D (.deferred none))/\Al.Inv B ⟨g'.wm,g'.tb,g.fr⟩ s' (W'.putObj D (.deferred none))/\W'.heap[D]? = W.heap[D]?:=by
 have hB:=hI.base;have hbs:=hM.below.size;have hbs':=h1.below.size;have hpo:∀ j,j≠D->(W'.putObj D (.deferred none)).heap[j]? = W'.heap[j]?:=fun j hj=>World.putObj_heap_other hj;have hsub:∀ b,g.fr b=true->g'.fr b=true:=fun b h=>by rw [h1.fr]; simp [h]
 have hfD:g'.fr D=true:=by rw [h1.fr]; simp
 have hwD:g'.wm D=0:=by rw [(h1.fz D (by simp)).2]; exact hI.fresh D hD
 obtain ⟨f1,f2,f3⟩:=h2.ex.frz D hfD;refine ⟨h0.trans ⟨⟨fun b=>h1.later.wm b,fun t x e=>h1.later.tb t x e,fun b o ho=>?_⟩,⟨h1.below.os.trans hM.below.os,h1.below.tape.trans hM.below.tape,h1.below.output.trans hM.below.output,by simp [World.putObj]; omega,fun k hk=>?_⟩,fun b hb=>?_,fun b hb=>h1.wmB b hb,rfl⟩,?_,(h1.fz D (by simp)).1⟩
 . have hb:b < w.heap.size:=by
    rcases Nat.lt_or_ge b w.heap.size with hh | hh
    . exact hh
    . rw [hI.fresh b hh] at ho; omega
   refine (World.cell?_of_block (hpo b (by omega))).trans ((h1.later.cell b o ho).trans (World.cell?_of_block (hM.blk b hb (fun e=>by rw [e,hm.2.1] at ho; omega))))
 . exact (hpo k (by omega)).trans ((h1.below.block k hk).trans (hM.blk k (by omega) (by omega)))
 . obtain ⟨q1,_,_⟩:=hI.ex.frz b hb;obtain ⟨q2,q3⟩:=h1.fz b (by simp [hb]);exact ⟨(hpo b (by omega)).trans (q2.trans (hM.blk b q1 (fun e=>by rw [e,hm.2.2] at hb; cases hb))),q3⟩
 . have hr:Al.Inv B ⟨g'.wm,g'.tb,g.fr⟩ s' W':=Inv.refr (f1:=g'.fr) h2 (fun b h=>h2.ex.frz b (hsub b h)) (fun b o fp h j hj=>by
    have:=((h2.ex.ob b o fp h).2.2 j hj).2.2.2.2.2;cases e:g.fr j with
    | false=>rfl
    | true=>rw [hsub j e] at this; cases this) (by rw [h1.fr])
   exact (Inv.but hr D f2 f3 (fun b o fp h hj=>by
    have:=((h2.ex.ob b o fp h).2.2 D hj).2.2.2.2.2;rw [hfD] at this; cases this) hwD (by simp [World.putObj]) (fun j _ hj=>hpo j hj)).1
abbrev k10:LK:=[.dl TI.tok,.box [woK]]
noncomputable def zRF:Code:=(spRF (zj Tryz.f10)).2
def fi10:FI UU:=⟨fun _=>false,fun _=>false,fun | 5=>[9,10] | 6=>[4,5] | _=>[],fun _=>none,fun _=>none,fun _=>[],fun _=>[]⟩
noncomputable def run10q (c22:List TokT×Unit->Option (List TkT×Unit)) (c23:List TkT×Unit->Option (List TokT×Unit)) (d21:(Bool×List TkT)×Unit->WW (List TkT×Int×Unit)) (x:zA k10):Option (Option (zA ([.dl TI.tok,.int .i64]:LK))):=
 runQ CC Tb 0 2 (zE []) (zE [(22,(⟨as22,rs22,c22⟩:Con UU)),(23,(⟨as23,rs23,c23⟩:Con UU))]) (zE []) (zE [(21,cW kL kE d21)]) fi10 zRF [] true [1,6] [4,5] k10 ([.dl TI.tok,.int .i64]:LK) x
def zEc (c22:List TokT×Unit->Option (List TkT×Unit)) (c23:List TkT×Unit->Option (List TokT×Unit)) (d21:(Bool×List TkT)×Unit->WW (List TkT×Int×Unit)) (x:List TokT×((WoT×Unit)×Unit)):Option (Option (List TokT×Int×Unit)):=Option.bind (c22 (x.1,())) fun y0=>Option.bind (d21 ((y0.1.isEmpty,y0.1),()) x.2.1.1.1 x.2.1.1.2.1) fun y1=>Option.bind (c23 (y1.1.1,())) fun y2=>some (some (y2.1,(y1.1.2.1,())))
theorem eq10q:@run10q = @zEc:=by kernel_rfl
theorem zRW (c22:List TokT×Unit->Option (List TkT×Unit)) (h22:ConOk CC Tryz.prog 22 ⟨as22,rs22,c22⟩) (c23:List TkT×Unit->Option (List TokT×Unit)) (h23:ConOk CC Tryz.prog 23 ⟨as23,rs23,c23⟩)
 (d21:(Bool×List TkT)×Unit->WW (List TkT×Int×Unit)) (e21:CPOk CC Tryz.prog syn 21 (cW ([.bl TI.tk]:LK) ([.dl TI.tk,.int .i64]:LK) d21)) {X:Cx} (hX:X.N=⟨35,[]⟩) {x:zA k10} {oc:Option (zA ([.dl TI.tok,.int .i64]:LK))} (h:zEc c22 c23 d21 x=some oc)
 {s0:S} {vx:List V} {rs:List Res} (hv:VKs CC s0 k10 x vx rs) (hn:rs.Nodup):awp Tryz.prog X zRF (QPost CC syn ([.dl TI.tok,.int .i64]:LK) true [] [4,5] oc) (conE [] (zipE [1,6] vx)) s0:=by
 rw [<- eq10q] at h;exact zUJ (fu:=0) (d:=2) (inl:=zE []) (orc:=zE [(22,(⟨as22,rs22,c22⟩:Con UU)),(23,(⟨as23,rs23,c23⟩:Con UU))]) (orr:=zE []) (orp:=zE [(21,cW ([.bl TI.tk]:LK) ([.dl TI.tk,.int .i64]:LK) d21)]) (pf:=hasN [22,23]) (rf:=hasN []) zKP CCok mixed (fun g=>(qJ (α:=Con UU) (l:=[(22,(⟨as22,rs22,c22⟩:Con UU)),(23,(⟨as23,rs23,c23⟩:Con UU))]) g).symm) (fun g=>(qJ (α:=CR UU) (l:=[]) g).symm)
  (zI) (zQ (OrcOk.of ⟨code22,h22⟩ rfl) (zQ (OrcOk.of ⟨code23,h23⟩ rfl) (zI))) (zI) (zQ ⟨code21,e21⟩ (zI)) (by rw [hX]; kernel_rfl) (by kernel_rfl) h (fun p hp=>by cases hp) hv hn
theorem zGg {P:Program} {L:Pol} {ds:List (Option Nat)} {KP:List PanicEntry->S->Prop} {os:List Oper} {K:Env->S->Prop} {e:Env} {st:S} {d:Option Nat} {ty:TypeId} {pos:String} {af:Array Edge} (t:TypeId):AL P L ds KP (⟨d,.makeMap t none,ty,pos,af,none⟩::os) K e st=(true=true/\zER st fun v st'=>AL P L ds KP os K (e.putO d v) st'):=propext Iff.rfl
def zB9:Nat->List Nat
 | 0=>[0,1]
 | 1=>[0,1,6]
 | _=>[1,6,15]
set_option maxRecDepth 100000 in
set_option maxHeartbeats 1000000 in
theorem pre10 {B n:Nat} {es:List V} {v1:V} {Q:Exit->Act->World->Prop} {g0:Gh} {w0:World}
 (HK:∀ (s:S) (bm bw b6 bs:Nat),zN s.ob bm=some (.mp [],[bm])->Al.look s.box bw=some ([.at (.map (some bm)),.at (.int .i64 0)],2)->Al.look s.box b6=some ([ptV bw],1)->Al.look s.box bs=some ([.lst (zz es) es],1)->b6≠bw ->
  awpG Tryz.prog ⟨B,⟨35,[]⟩,none,[]⟩ n (spRF (zj Tryz.f10)).1 (Exit.then ((spRF (zj Tryz.f10)).2.wpIn Fence.wide n Tryz.prog Q) Q) g0 w0 [(1,v1),(6,ptV b6),(15,.clo (.func 43) [ptV bs])] s) :
 awpG Tryz.prog ⟨B,⟨35,[]⟩,none,[]⟩ n (zj Tryz.f10) Q g0 w0 (jT 0 [.lst (zz es) es,v1]) ⟨[],[],0,[]⟩:=by
 simp only [zj,Tryz.f10,Option.getD_some,spRF] at HK ⊢;simp only [jT,Nat.reduceAdd];refine zGs ?_
 (repeat (first|(refine zc ?_)|(refine zW ?_;simp -failIfUnchanged only [zB,zG])|(refine zd ?_;simp -failIfUnchanged only [zT,zR,zb,zS])|(refine z7 ?_)|((first | (refine ze polN zB9 _ rfl rfl ?_)|(refine jk polN mixed zB9 _ rfl rfl (by kernel_rfl) (by kernel_rfl) ?_));simp only [↓zu,↓kq,zB,zC,zD,zF,zP,zw,cV_nil,zY,za,if_true,if_false,Nat.reduceEqDiff,reduceCtorEq,zB9])))
 refine zGs ?_
 (repeat (first|(refine zc ?_)|(refine zW ?_;simp -failIfUnchanged only [zB,zG])|(refine zd ?_;simp -failIfUnchanged only [zT,zR,zb,zS])|(refine z7 ?_)|((first | (refine ze polN zB9 _ rfl rfl ?_)|(refine jk polN mixed zB9 _ rfl rfl (by kernel_rfl) (by kernel_rfl) ?_));simp only [↓zu,↓qk,↓zL4,↓zPY,↓zLH,zB,yA,zC,xo,zD,zF,zL,zY,za,zJq,zGj,List.map_cons,List.map_nil,V.flat,Bool.true_and,if_true,if_false,true_and,Nat.reduceEqDiff,reduceCtorEq,zero56,zB9,zGg])))
 intro bm hbm;refine zHv (cs:=[.at (.map none),.at (.int .i64 0)]) (cs':=[.at (.map (some bm)),.at (.int .i64 0)]) (by kernel_rfl) (by kernel_rfl) rfl ?_;refine ⟨rfl,fun bw hbw=>⟨rfl,fun b6 hb6=>?_⟩⟩;have n6:b6≠bw:=fun e=>by
  replace hb6:Al.look (Al.lay _ bw _) b6=none:=hb6;rw [zO,if_pos e.symm] at hb6; cases hb6
 have n6':¬ bw=b6:=fun e=>n6 e.symm;have z6:∀ c d:List V×Nat,Al.look (Al.lay (Al.lay [] bw c) b6 d) b6=some d:=fun c d=>by rw [zO,if_pos rfl]
 dsimp only [V.flat];show qF _ _ _ _ _ _;unfold qF;dsimp only;rw [z6];refine ⟨by kernel_rfl,rfl,rfl,Nat.le_refl _,?_⟩;refine zRz (fun s=>zN s.ob bm=some (.mp [],[bm])/\Al.look s.box bw=some ([.at (.map (some bm)),.at (.int .i64 0)],2)/\Al.look s.box b6=some ([ptV bw],1)) ⟨?_,?_,?_⟩ ?_
 . show zN (_::_) bm=_;rw [zl,if_pos rfl]
 . show Al.look (Al.lay (Al.lay (Al.lay [] bw _) b6 _) b6 _) bw=_;rw [zO,if_neg n6,zO,if_neg n6,zO,if_pos rfl]; rfl
 . show Al.look (Al.lay _ b6 _) b6=_;rw [zO,if_pos rfl]; rfl
 rintro s ⟨xm,xw,x6⟩;clear z6 n6' hb6 hbw hbm;generalize (spRF (zj Tryz.f10)).2=rst at HK;refine zQb ?_;refine zGs ?_
 (repeat (first|(refine zc ?_)|(refine zW ?_;simp -failIfUnchanged only [zB,zG])|(refine zd ?_;simp -failIfUnchanged only [zT,zR,zb,zS])|(refine z7 ?_)|((first | (refine ze polN zB9 _ rfl rfl ?_)|(refine jk polN mixed zB9 _ rfl rfl (by kernel_rfl) (by kernel_rfl) ?_));simp only [↓xP,zB,yA,zD,zF,zL,zY,za,List.map_cons,List.map_nil,if_true,if_false,reduceCtorEq,zB9])))
 have htg:zn (.lst (zz es) es) = .lst (zz es) es:=by simp only [zBC]
 refine zx [.lst (zz es) es] rfl rfl rfl code20 (by simp only [List.map_cons,List.map_nil,List.all_cons,List.all_nil,zL,zC,zD,zF,if_true,if_false,Nat.reduceEqDiff,reduceCtorEq,zFo,Bool.and_self]) (by simp only [List.map_cons,List.map_nil,zL,zC,zD,zF,if_true,if_false,Nat.reduceEqDiff,reduceCtorEq]; exact .keep .nil) ((ok20x htg)) (fun r s hq=>?_) (fun c s hq=>(by first | (obtain ⟨_,hq,_⟩:=hq; cases hq; done)|(obtain ⟨_,_,_,hq,_⟩:=hq; cases hq; done)|(obtain ⟨_,_,hq,_⟩:=hq; cases hq; done)));obtain ⟨bs,hbs,hq1,rfl⟩:=hq;injection hq1 with hq1
 subst hq1;simp only [↓zu,zC,zD,zF,if_true,if_false,Nat.reduceEqDiff,reduceCtorEq];refine HK _ bm bw b6 bs xm ?_ ?_ ?_ n6
 . show Al.look (Al.lay s.box bs _) bw=_;rw [zO,if_neg (fun e=>by rw [e,xw] at hbs; cases hbs)]; exact xw
 . show Al.look (Al.lay s.box bs _) b6=_;rw [zO,if_neg (fun e=>by rw [e,x6] at hbs; cases hbs)]; exact x6
 . show Al.look (Al.lay s.box bs _) bs=_;rw [zO,if_pos rfl]
def c10 (c22:List TokT×Unit->Option (List TkT×Unit)) (c23:List TkT×Unit->Option (List TokT×Unit)) (d21:(Bool×List TkT)×Unit->WW (List TkT×Int×Unit)) (x:List MacT×List TokT×Unit):Option (List TokT×Int×Unit):=
 if x.1.length < 1000000 then (match zEc c22 c23 d21 (x.2.1,((jQ x.1,((0:Int),())),()),()) with | some (some y)=>some y | _=>none) else none
set_option maxRecDepth 100000 in
set_option maxHeartbeats 1000000 in
theorem ok10 (c22:List TokT×Unit->Option (List TkT×Unit)) (h22:ConOk CC Tryz.prog 22 ⟨as22,rs22,c22⟩) (c23:List TkT×Unit->Option (List TokT×Unit)) (h23:ConOk CC Tryz.prog 23 ⟨as23,rs23,c23⟩)
 (d21:(Bool×List TkT)×Unit->WW (List TkT×Int×Unit)) (e21:CPOk CC Tryz.prog syn 21 (cW ([.bl TI.tk]:LK) ([.dl TI.tk,.int .i64]:LK) d21)):ConOk CC Tryz.prog 10 ⟨as10,rs10,c10 c22 c23 d21⟩:=by
 intro x y hy vs hvs;obtain ⟨ms,l,u⟩:=x;change List MacT at ms;change List TokT at l;replace hy:(if ms.length < 1000000 then (match zEc c22 c23 d21 (l,((jQ ms,((0:Int),())),()),()) with | some (some y)=>some y | _=>none) else none)=some y:=hy;split at hy
 rotate_left
 . cases hy
 rename_i hml;split at hy
 rotate_left
 . cases hy
 rename_i oc hq;injection hy with hy
 subst hy;obtain ⟨v,vs',rfl,hv1,v2,vs2,rfl,hv2,rfl⟩:=hvs;replace hv1:v = .lst (zz (ms.map (CC.encV TI.mac))) (ms.map (CC.encV TI.mac)):=hv1;replace hv2:v2 = .lst (zz (l.map (CC.encV TI.tok))) (l.map (CC.encV TI.tok)):=hv2;subst hv1;subst hv2;intro wm w vs hwm hgl hv;have hi:Al.Inv w.heap.size ⟨wm,fun _=>none,Fr.no⟩ ⟨[],[],0,[]⟩ w:=
  ⟨Nat.le_refl _,(fun b cs k hl=>(by cases hl)),(fun t ht=>(by cases ht)),(fun t ht=>(by cases ht)),(fun t ht=>(by cases ht)),List.nodup_nil,hwm,fun _ _=>rfl,⟨(fun b hb=>by cases hb),(fun b o fp hl=>(by cases hl)),(fun b o fp b' o' fp' j hl=>(by cases hl)),(fun t ht=>by cases ht)⟩⟩
 refine (callsIn_wide (n:=6)).1 ?_;have hF:∀ f,Fence.wide.fn f:=fun _=>trivial;refine callsIn_of_wp_marks Tryz.func10 rfl (hF _) ?_ rfl;have hrel:=zDL (N:=35) hi hgl hv (by show 2<=35; decide);rw [show Tryz.f10.ntmps=35 from Tryz.ntmps10];generalize hB:w.heap.size=B at hi hgl hrel;refine pre10 (B:=B) (g0:=⟨wm,fun _=>none,Fr.no⟩) (w0:=w) ?_ ⟨wm,fun _=>none,Fr.no⟩ _ w (.refl _ _ _) hrel;intro s bm bw b6 bs xm xw x6 xb n6;refine loop10 xm xw x6 xb hml ?_;intro g1 w1 D W a1 hs hi1 hgl1 hD hM hDW hrel;obtain ⟨m1,m2,m3,m4,m5,m6⟩:=(hi1.ex.ob _ _ _ xm).2.2 bm (by simp);have hDlt:D < W.heap.size:=(Array.getElem?_eq_some_iff.1 hDW).1;have hrel':Rel ⟨B,⟨35,[]⟩,none,[{ target:=.collected D,args:=#[] }]⟩ ⟨g1.wm,g1.tb,⟨fun b=>g1.fr b || decide (b=D),g1.fr.t⟩⟩ [(1,.lst (zz (l.map (CC.encV TI.tok))) (l.map (CC.encV TI.tok))),(6,ptV b6)] ⟨s.box,s.tg,s.nx,(bm,.mp (encM (jQ ms)),[bm])::s.ob⟩ a1 W:=by
  refine ⟨Inv.refr (f1:=g1.fr) hrel.inv (fun j hj=>?_) (fun j o f h i hi2=>?_) rfl,fun k=>RV.later (g:=g1) (w:=W) (g':=⟨g1.wm,g1.tb,⟨fun b=>g1.fr b || decide (b=D),g1.fr.t⟩⟩) (w':=W) ⟨fun _=>Nat.le_refl _,fun _ _ e=>e,fun _ _ _=>rfl⟩ (hrel.env k),hrel.size,hrel.df,hrel.gl⟩
  . have hj':g1.fr j=true\/j=D:=by simpa using hj
    rcases hj' with hj | rfl
    . exact hrel.inv.ex.frz j hj
    . refine ⟨hDlt,?_,fun t ht d hd=>?_⟩
      . cases e:Al.look s.box j with
        | none=>rfl
        | some c=>
         obtain ⟨cs,n⟩:=c;obtain ⟨_,_,_,_,arr,el,us,h5,_⟩:=hi1.box j cs n e;have:=(Array.getElem?_eq_some_iff.1 h5).1; omega
      . obtain ⟨d1,d2,d3⟩:=d;obtain ⟨_,_,_,_,_,arr,el,h5,_⟩:=hi1.own t ht j d1 d2 d3 hd;have:=(Array.getElem?_eq_some_iff.1 h5).1; omega
  . have h1:=((hrel.inv.ex.ob j o f h).2.2 i hi2).2.2.2.2.2;have h2:i≠D:=by
     have h3:∃ o2 f2,zN s.ob j=some (o2,f2)/\i ∈ f2:=by
      replace h:zN ((bm,OV.mp _,[bm])::s.ob) j=some (o,f):=h;rw [zl] at h;split at h
      . rename_i e;injection h with h
        obtain ⟨_,rfl⟩:=Prod.mk.inj h;subst e;exact ⟨_,_,xm,hi2⟩
      . exact ⟨o,f,h,hi2⟩
     obtain ⟨o2,f2,h3,h4⟩:=h3;have:=((hi1.ex.ob j _ _ h3).2.2 i h4).2.1;omega
    show (g1.fr i || decide (i=D))=false;rw [show g1.fr i=false from h1];simpa using h2
 have hvk:VKs CC ⟨s.box,s.tg,s.nx,(bm,.mp (encM (jQ ms)),[bm])::s.ob⟩ k10 ((l,((jQ ms,((0:Int),())),()),()):List TokT×((WoT×Unit)×Unit)) [.lst (zz (l.map (CC.encV TI.tok))) (l.map (CC.encV TI.tok)),ptV b6] [.inr b6,.inr bw,.ob bm]:=
  ⟨_,_,[],[.inr b6,.inr bw,.ob bm],rfl,rfl,⟨rfl,rfl⟩,_,[],[.inr b6,.inr bw,.ob bm],[],rfl,rfl,⟨b6,[ptV bw],[.inr bw,.ob bm],rfl,x6,⟨_,[],[.inr bw,.ob bm],[],rfl,rfl,⟨bw,_,[.ob bm],rfl,xw,⟨_,_,[.ob bm],[],rfl,rfl,⟨bm,[bm],rfl,(by rw [show (⟨s.box,s.tg,s.nx,(bm,OV.mp (encM (jQ ms)),[bm])::s.ob⟩:S).ob=(bm,OV.mp (encM (jQ ms)),[bm])::s.ob from rfl,zl,if_pos rfl]; rfl),rfl⟩,⟨_,[],[],[],rfl,rfl,⟨rfl,rfl⟩,rfl,rfl⟩⟩,rfl⟩,rfl,rfl⟩,rfl⟩,rfl,rfl⟩
 have hrest:=zRW c22 h22 c23 h23 d21 e21 (X:=⟨B,⟨35,[]⟩,none,[{ target:=.collected D,args:=#[] }]⟩) rfl hq hvk (by
  have:¬ (Res.inr b6=Res.inr bw):=fun e=>by injection e with e; exact n6 e
  simp [this])
 refine wpIn_mono (zJ1 hrest hrel') ?_;have key:∀ {ex:Exit} {g':Gh} {e':Env} {s':S} {a2:Act} {W':World},Step B ⟨g1.wm,g1.tb,⟨fun b=>g1.fr b || decide (b=D),g1.fr.t⟩⟩ W g' W'->Rel ⟨B,⟨35,[]⟩,none,[{ target:=.collected D,args:=#[] }]⟩ g' e' s' a2 W' ->
  QEnd CC ([.dl TI.tok,.int .i64]:LK) [] [4,5] (some oc) e' s'->LeavesInM Fence.wide 6 Tryz.prog Tryz.f10 a2.tmps
   (fun e w'=>∃ v wm',e = .returned v/\(∀ b,w'.heap.size<=b->wm' b=0)/\Step B ⟨wm,fun _=>none,Fr.no⟩ w ⟨wm',fun _=>none,Fr.no⟩ w'/\RV ⟨wm',fun _=>none,Fr.no⟩ w' (finV ((xN CC rs10 (fun _=>false) 0 oc).map (trT CC ⟨id,id,id,id⟩))) v) a2.defers .returning W':=by
  rintro ex g' e' s' a2 W' hst hrel2 ⟨_,y,hy,q,hvq,_⟩;injection hy with hy
  subst hy;obtain ⟨z1,z2,z3⟩:=zSm hs ⟨m1,m3,m6⟩ hi1 hM hD hst hrel2.inv;have hwD:g'.wm D=0:=by rw [(hst.fz D (by simp)).2]; exact hi1.fresh D hD
  have hl:Later g' W' ⟨g'.wm,g'.tb,g1.fr⟩ (W'.putObj D (.deferred none)):=⟨fun _=>Nat.le_refl _,fun _ _ e=>e,fun b o ho=>World.cell?_of_block (World.putObj_heap_other (fun e=>by replace e:b=D:=e; rw [e,hwD] at ho; omega))⟩;rw [hrel2.df];obtain ⟨v4,vs4,r1,r2,e4,_,⟨rfl,_⟩,v5,vs5,r3,r4,e5,_,⟨rfl,_⟩,rfl,_⟩:=hvq;simp only [List.map_cons,List.map_nil,List.cons.injEq] at e4;obtain ⟨e4,e5'⟩:=e4;subst e5;simp only [List.cons.injEq,and_true] at e5';have k4:=(hrel2.env 4).later hl;have k5:=(hrel2.env 5).later hl;rw [e4] at k4;rw [e5'] at k5;refine ⟨by simp,.inl ⟨_,_,rfl,run_takeDeferred (z3.trans hDW),?_⟩⟩;refine ⟨_,results_tmp2 Tryz.results10 _ _ _,_,g'.wm,rfl,z2.fresh,⟨⟨z1.later.wm,(fun _ _ e=>(by cases e)),z1.later.cell⟩,z1.below,(fun b hb=>by cases hb),z1.wmB,rfl⟩,?_⟩;have c4:=zBi k4 (by show zH [V.lst _ _]; simp [zH,V.isOne]);have c5:=zBi k5 (by show zH [V.at _]; simp [zH,V.isOne]);rw [zND] at c4;exact ⟨_,(RVs.cons c4 (.cons c5 .nil)).fr _ _,rfl⟩
 rintro ex a2 W' ⟨g',e',s',hst,hrel2,hp⟩;cases ex with
 | normal=>exact key (ex:=.normal) hst hrel2 hp
 | ret=>exact key (ex:=.ret) hst hrel2 hp.2
 | exit id=>exact absurd hp.1.2 (by decide)
 | panic c=>cases hp.2
 | goto _=>exact hp.elim
 | outgrown=>exact hp.elim
end
end Go.Proofs.YtfjiiknfopmcjaaGreatDoor
