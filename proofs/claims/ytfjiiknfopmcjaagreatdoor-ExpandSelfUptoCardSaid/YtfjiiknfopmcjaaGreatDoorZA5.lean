/-
  Part 5 of what the last text needs: library, runs, contracts, plain laws. No condition of its own.
-/
import Derived.Test.YtfjiiknfopmcjaaGreatDoorZA4
import Derived.Test.YtfjiiknfopmcjaaGreatDoorTie
import Derived.LaidLaws
import Derived.LaidMore
import Derived.LaidHandle
import Derived.MakeChecks
import Derived.Shelf.Vars
import Derived.Handed
import Derived.Lay
import Derived.SevenTiedAt
import Derived.Deep.DeepHandedRow
import Derived.Test.YtfjiiknfopmcjaaGreatDoorRows
import Derived.Shelf.Small.Strs
import Derived.Shelf.Strings.Search1
import Derived.Shelf.Strings.Search2
import Derived.Shelf.Strings.Search3
import Derived.Shelf.Strings.Prefix
import Derived.Lib.QuietBelow
import GoSem.Claims
import Derived.RangeFuncNested
import Derived.RangeFuncBound
import Derived.RangeFuncLeaves
import Derived.RangeFuncWrites
import Derived.Shelf.Abstract
import Derived.OwnWalkIn
import Derived.TacticsInMore
import Derived.LoopIn
import Derived.LoopNIn
import Derived.Maps.AppendAt
import Derived.Shelf.Spec.SlicesGrow
set_option linter.unusedVariables false
set_option linter.unusedSimpArgs false
set_option linter.unusedSectionVars false
namespace Go.Proofs.YtfjiiknfopmcjaaGreatDoor
section
open Go.Al Go.Den Go.ChangeShapes Go.WideShapes Go.ChangeAt Go.RowKit
def zGC:List (String×DataW Unit):=[("unicode/utf8.acceptRanges",Rows.laid_unicode_utf8_acceptRanges),("emend/pptok.signs",Rows.laid_emend_pptok_signs),("unicode/utf8.first",Rows.laid_unicode_utf8_first)]
theorem zQD {P:Program} {W:World} {n:String} {g:Nat} {cs:Array Value} (hg:P.globalNamed n=some g) (h:W.var? P n=some cs):∃ el m,W.heap[g]? = some (.cells cs el m):=by
 unfold World.var? at h;rw [hg] at h;simp only [Option.bind_some] at h;split at h
 . rename_i c el m hc;injection h with h
   subst h;exact ⟨el,m,hc⟩
 . cases h
theorem zK7 {H:Type} {enc:TypeId×Value->H} {P:Program} {w:World} {base:Nat} {sp:Nat->Bool} {held:Bool} {fuel n:Nat} {t e:TypeId} {cs:List Value} {l:List (List UInt8)} {p:List MemPlace}
 (ht:P.underlying t=some (.array n e)) (he:P.underlying e=some .string) (hc:P.cellsOf e=1) (hct:P.cellsOf t=n) (h:DataW.trod enc P w base sp held fuel t cs=some (.agg (l.map fun z=>.lit (.string z)),p)):cs=l.map fun z=>strV z:=by
 obtain ⟨xs,m,rfl,hx,hlen,hn,hel⟩:=DataW.trod_array ht h;injection hx with hx _
 injection hx with hx
 have hll:l.length=n:=by
  have:=congrArg List.length hx;simp only [List.length_map] at this;omega
 refine List.ext_getElem (by rw [hlen,hct,List.length_map,hll]) fun i h1 h2=>?_;rw [List.getElem_map];have hi:i < n:=by rw [hlen,hct] at h1; exact h1
 have h3:=hel i hi;rw [hc,Nat.mul_one,List.drop_eq_getElem_cons h1,List.take_succ_cons,List.take_zero,List.getElem?_eq_getElem (by omega)] at h3;obtain ⟨z,e1,e2,_⟩:=DataW.trod_string he h3;injection e1 with e1 _
 have h4:(xs.map (·.1))[i]'(by rw [List.length_map]; omega)=(l.map fun z=>DataW.lit (.string z))[i]'(by rw [List.length_map]; omega):=by
  simp only [hx]
 rw [List.getElem_map,List.getElem_map] at h4;rw [e2] at h4;injection h4 with h4
 injection h4 with h4
 rw [e1,<- h4];unfold strV;cases z; simp
theorem zQ0 {W:World} {g:Nat} {cs:Array Value} {el:TypeId} {m:Nat×Nat} (h:W.heap[g]? = some (.cells cs el m)):cs.toList.length<=wmOf W g:=by
 unfold wmOf;rw [h];simp
theorem zHZ {W:World} (hsh:W.ShapedOpen Tryz.prog) (h:laidMetH Tryz.prog zGC W):GlobOk W.heap.size (wmOf W) W:=by
 rw [MakeChecks.laidMetH_plain _ _ _ (by kernel_rfl)] at h;obtain ⟨ps,hv,_⟩:=h;obtain ⟨g0,t0,cs0,f0,p0,q0,hg0,ht0,hv0,hd0,hv,_⟩:=hv;obtain ⟨g1,t1,cs1,f1,p1,q1,hg1,ht1,hv1,hd1,hv,_⟩:=hv;obtain rfl:=Option.some.inj ((show Tryz.prog.globalNamed "emend/pptok.signs" = some 0 by kernel_rfl).symm.trans hg1);obtain rfl:=Option.some.inj ((show (Tryz.prog.globals[0]?).map (·.type)=some 104 by kernel_rfl).symm.trans ht1);obtain ⟨el1,m1,k1⟩:=zQD hg1 hv1;have e1:cs1.toList=signsL.map strV:=zK7 (l:=signsL) Tryz.underlying104 Tryz.underlying9 (by kernel_rfl) (by kernel_rfl) hd1;have lt:∀ {b:Nat} {o:Obj},W.heap[b]? = some o->b < W.heap.size:=fun h=>(Array.getElem?_eq_some_iff.1 h).1;have hml:∃ arr el m,W.heap[1]? = some (.cells arr el m)/\∃ z,arr.toList=[Value.int .i64 z]:=by
  obtain ⟨cs,hh,hs,hr⟩:=hsh.1 1 #[.int .i64 0] 3 (of_decide_eq_true (by kernel_rfl)) (by kernel_rfl);refine ⟨cs,_,_,hh,?_⟩;obtain ⟨z,hz⟩:=cell_of_shapedOpen_int (P:=Tryz.prog) (w:=W) (g:=1) (t:=3) (zero:=#[.int .i64 0]) (k:=.i64) hsh (of_decide_eq_true (by kernel_rfl)) (by kernel_rfl) rfl (by kernel_rfl) (by kernel_rfl) Tryz.underlying3;refine ⟨z,?_⟩;unfold World.cell? at hz;simp only [hh] at hz;have h1:cs.size=1:=hs;obtain ⟨l⟩:=cs
  match l,h1 with
  | [v],_=>
   simp at hz;rw [hz]
 refine ⟨fun p hp=>?_,fun p hp=>?_⟩
 . simp only [zNC,List.mem_cons,List.not_mem_nil,or_false] at hp;obtain rfl:=hp;obtain ⟨arr,el,m,h1,h2⟩:=hml;exact ⟨lt h1,arr,el,m,h1,h2⟩
 . simp only [globA,List.mem_cons,List.not_mem_nil,or_false] at hp;obtain rfl:=hp;exact ⟨lt k1,⟨cs1,el1,m1,k1,e1⟩,by rw [<- e1]; exact zQ0 k1⟩
theorem zH5 {g:Gh} {w:World} (s:ByteArray):RV1 g w (.at (.string ⟨s.data.toList.toArray⟩)) (.string s):=by
 have e:(⟨s.data.toList.toArray⟩:ByteArray)=s:=by cases s; simp
 rw [e];exact ⟨[.string s],by simp [RC,one],rfl⟩
theorem zR3 (os:Os) (args:Array Value):laidMetH Tryz.prog zGC ((World.laidAll Tryz.prog os zGC).forCall (fun _ _=>0) ⟨#[],args,[]⟩).memory:=by
 rw [MakeChecks.laidMetH_plain _ _ _ (by kernel_rfl)];exact laidMet_laidAll _ (by kernel_rfl) (by kernel_rfl)
end
section
open Go.Al Go.Den Go.ChangeShapes Go.WideShapes Go.ChangeAt Go.RowKit
theorem zH0 {H:Type} {enc:TypeId×Value->H} {C:Checked} {os:Os} {f:FuncId} {fn:Func} {s:OpenSpec} {conds:List PathCond} {apart:Bool} {laid:List (String×DataW Unit)} (modest:Bool) (w0:World) (args:Array Value) (hos:w0.os=os)
 (hsh:(w0.forCall (fun _ _=>0) ⟨#[],args,[]⟩).Shaped C.prog)
 (hok:Input.okWideB C.prog (w0.forCall (fun _ _=>0) ⟨#[],args,[]⟩) f ⟨#[],args,[]⟩=true)
 (hrow:s.preRow enc C.prog fn conds apart laid (w0.forCall (fun _ _=>0) ⟨#[],args,[]⟩).memory args) :
 ∃ (w:World) (tape:Tape) (i:Input),w.os=os/\(w.forCall tape i).Shaped C.prog/\i.vars=[]/\Input.okWide C.prog (w.forCall tape i) .any w.heap.size f i /\
  s.preRow enc C.prog fn conds apart laid (w.forCall tape i).memory i.args/\({ modest:=modest }:Assume).holds C.prog (lone (Frame.enter C.prog f i.args .normal) [] (w.forCall tape i)):=
 ⟨w0,fun _ _=>0,⟨#[],args,[]⟩,hos,hsh,(Input.okWide_of_okWideB (base:=0) hok).1,(Input.okWide_of_okWideB hok).2,hrow,by
  simp only [Assume.holds];exact ⟨by simp,by simp,fun _=>Modest.zero,by simp,by simp⟩⟩
end
end Go.Proofs.YtfjiiknfopmcjaaGreatDoor
namespace Go.Den
section
open Go.Al
theorem zQp {P:Program} {X:Cx} {Q Q':Exit->Env->S->Prop} {c:Code} {E:Env} {s:S} (h:awp P X c Q E s) (hq:∀ ex E' s',Q ex E' s'->∃ E2 s2,Gst X E' s' E2 s2/\Q' ex E2 s2):awp P X c Q' E s:=by
 intro g a w hr;refine wpIn_mono (h g a w hr) ?_;rintro ex a' w' ⟨g',e',st',k1,k2,k3⟩;obtain ⟨E2,s2,hg,hq2⟩:=hq ex e' st' k3;obtain ⟨g2,r1,r2⟩:=hg g' a' w' k2;exact ⟨g2,E2,s2,k1.trans r1,r2,hq2⟩
section
variable {U:TyU} (C:Cod U) (Tb:TypeId->TD U) {R:Type}
def frzR {R:Type}:List ResultVar->En U->St U->(En U->St U->Option R)->Option R
 | [],e,st,K=>K e st
 | v::r,e,st,K=>match v with
  | .tmp t=>(match eget e t with
   | .sl l n=>(match lk st.bx l with
    | some (.ar i xs)=>bif Nat.ble n xs.length then frzR r ((t,.lst (.b false) i (zF n xs))::e) ⟨(l,none)::st.bx,st.tg,st.nl,st.nx,st.ob⟩ K else none
    | _=>none)
   | _=>frzR r e st K)
  | .cell _ _=>frzR r e st K
variable {C Tb} {P:Program} {r:R}
theorem zHl (hC:CodOk C) {X:Cx} {N:NM}:∀ (rs:List ResultVar) {e:En U} {E:Env} {st:St U} {s:S} {K:En U->St U->Option R},SSim C N st s->ESim C N st e E->frzR rs e st K=some r ->
 ∃ e' E' st' s',K e' st' = some r/\Gst X E s E' s'/\SSim C N st' s'/\ESim C N st' e' E'
 | [],e,E,st,s,K,hs,he,h=>⟨e,E,st,s,h,.refl _ _ _,hs,he⟩
 | v::rs,e,E,st,s,K,hs,he,h=>by
  have go:frzR rs e st K=some r->∃ e' E' st' s',K e' st' = some r/\Gst X E s E' s'/\SSim C N st' s'/\ESim C N st' e' E':=fun hh=>zHl hC rs hs he hh;cases v with
  | cell p t=>simp only [frzR] at h; exact go h
  | tmp t=>
   simp only [frzR] at h;split at h
   . rename_i l n ht;split at h
     . rename_i i xs hl;obtain ⟨h1,h2⟩:=zD h;have h1:n<=xs.length:=by simpa [Nat.ble_eq] using h1
       have hw:=hs.wf l _ hl;have hE:=((he t).1).get (by rw [ht]; simp);rw [ht] at hE;have hlen:=xA hC i xs;have htk:(zF n xs).length=n:=by unfold zF; rw [List.length_take]; omega
       have hg:Gst X E s (E.put t (.lst .no ((zF n xs).map (C.encV i)))) ⟨wipe s.box (N.bl l),s.tg,s.nx,s.ob⟩:=by
        refine zFV t (N.bl l) n (N.cp l) (C.cells i) _ hE (hs.box l _ hl) (by rw [List.length_map,htk]) (by have:=hw.2; omega) (qQ hC i xs n) ?_ (jy hC i _) ?_ ?_
        . rw [hlen]; exact Nat.mul_le_mul_right _ h1
        . intro x hx;obtain ⟨y,_,rfl⟩:=List.mem_map.1 hx;exact hC.ones i y
        . rw [List.map_map];exact List.map_congr_left fun y _=>hC.untag i y
       have hs2:=hs.drop l hl;have hb:bdd st.nl st.nx (T.lst (.b false) i (zF n xs):T U)=true:=rfl;have he2:ESim C N ⟨(l,none)::st.bx,st.tg,st.nl,st.nx,st.ob⟩ ((t,.lst (.b false) i (zF n xs))::e) (E.put t (.lst .no ((zF n xs).map (C.encV i)))):=by
        have:=ESim.put (st:=⟨(l,none)::st.bx,st.tg,st.nl,st.nx,st.ob⟩) (e:=e) (E:=E) (v:=.lst (.b false) i (zF n xs)) (v':=.lst .no ((zF n xs).map (C.encV i))) he (.inr rfl) hb (some t);exact this
       obtain ⟨e',E',st',s',q1,q2,q3,q4⟩:=zHl hC rs hs2 he2 h2;exact ⟨e',E',st',s',q1,hg.trans q2,q3,q4⟩
     . cases h
   . exact go h
def xK (C:Cod U) (Tb:TypeId->TD U) (fu d:Nat) (inl:Nat->Option (FD U)) (orc:Nat->Option (Con U)) (orr:Nat->Option (CR U)) (orp:Nat->Option (CP U)) (fd:FD U) (az rs:List (AK U)) (nf:Nat->Bool) (x:zK az):Option (zK rs):=
 drun C Tb fu (zBA C Tb fu inl orc orr orp none d) fd.fi fd.body (zCC 0 (yZ C az nf 0 x)) ⟨[],[],0,0,[]⟩ fun ex e' st'=>match ex with
  | .normal=>frzR fd.rs e' st' fun e' st'=>dres C Tb e' st' fd.rs fun vs=>zCB C rs vs some
  | .ret=>frzR fd.rs e' st' fun e' st'=>dres C Tb e' st' fd.rs fun vs=>zCB C rs vs some
  | _=>none
theorem zQB (hT:TbOk C P Tb) (hC:CodOk C) (hm:P.follows .mixedOrders=true) {syn:List PanicEntry} {pf rf:FuncId->Bool} {fu d:Nat} {inl:Nat->Option (FD U)} {orc:Nat->Option (Con U)} {orr:Nat->Option (CR U)} {orp:Nat->Option (CP U)} (hpf:∀ f,pf f=(orc f).isSome) (hrf:∀ f,rf f=(orr f).isSome)
 (hin:∀ f fd,inl f=some fd->FDOk P pf rf f fd) (hor:∀ f c,orc f=some c->OrcOk C P f c)
 (hrr:∀ f c,orr f=some c->zL P f=true/\CROk C P f c) (hpp:∀ f c,orp f=some c->zL P f=true/\CPOk C P syn f c) {f:Nat} {fd:FD U} (hfd:FDOk P pf rf f fd) {c:Con U} (hlen:c.as.length<=fd.n)
 (hrs:∀ a ∈ c.rs,∀ i,a≠.ls i) (h:∀ nf x,xK C Tb fu d inl orc orr orp fd c.as c.rs nf x=c.fn x):ConOk C P f c:=by
 intro x y hx vs hvs;obtain ⟨fn,q1,q2,q3,q4⟩:=hfd.fn;have hnf:∃ nf,vs=(yZ C c.as nf 0 x).map (trT C ⟨id,id,id,id⟩):=by
  have key:∀ (az:List (AK U)) (x:zK az) (vs:List V) (j:Nat),zCE C az x vs->∃ nf:Nat->Bool,vs=(yZ C az nf j x).map (trT C ⟨id,id,id,id⟩):=by
   intro az
   induction az with
   | nil=>intro x vs j h; exact ⟨fun _=>false,h⟩
   | cons a r ih=>
    intro x vs j h;obtain ⟨v,vs',rfl,h1,h2⟩:=h;obtain ⟨nf,h3⟩:=ih x.2 vs' (j+1) h2;have h4:∃ n,v=trT C ⟨id,id,id,id⟩ (argT C a n x.1):=by
     cases a with
     | ls i=>obtain ⟨n,hn⟩:=h1; exact ⟨n,by rw [hn]; cases n <;> rfl⟩
     | _=>exact ⟨false,h1⟩
    obtain ⟨n,h4⟩:=h4;have hcong:∀ (az:List (AK U)) (x:zK az) (nf nf':Nat->Bool) (j:Nat),(∀ m,j<=m->nf m=nf' m)->yZ C az nf j x=yZ C az nf' j x:=by
     intro az
     induction az with
     | nil=>intros; rfl
     | cons a r ih=>
      intro x nf nf' j hh;simp only [yZ,hh j (Nat.le_refl _),ih x.2 nf nf' (j+1) fun m hm=>hh m (by omega)]
    refine ⟨fun m=>if m=j then n else nf m,?_⟩;simp only [yZ,List.map_cons,if_true];rw [h3,h4,hcong r x.2 (fun m=>if m=j then n else nf m) nf (j+1) fun m hm=>if_neg (by omega)]
  exact key c.as x vs 0 hvs
 obtain ⟨nf,rfl⟩:=hnf;have hlenA:∀ (az:List (AK U)) (nf:Nat->Bool) (j:Nat) (x:zK az),(yZ C az nf j x).length=az.length:=by
  intro az
  induction az with
  | nil=>intros; rfl
  | cons a r ih=>intro nf j x; simp [yZ,ih]
 have hrun:=(h nf x).trans hx;unfold xK at hrun;refine zLc q1 q2 q3 q4 (by rw [List.length_map,hlenA]; exact hlen) fun B=>?_;have resV:∀ (rs:List (AK U)),(∀ a ∈ rs,∀ i,a≠.ls i)->∀ (y:zK rs) (us:List V) (j:Nat),zCE C rs y us->us=(yZ C rs (fun _=>false) j y).map (trT C ⟨id,id,id,id⟩):=by
  intro rs
  induction rs with
  | nil=>intro _ y us j hu; exact hu
  | cons a r ih=>
   intro hr y us j hu;obtain ⟨v,vs',rfl,h1,h2⟩:=hu;simp only [yZ,List.map_cons];rw [<- ih (fun a ha=>hr a (by simp [ha])) y.2 vs' (j+1) h2];congr 1;cases a with
   | ls i=>exact absurd rfl (hr (.ls i) (by simp) i)
   | _=>exact h1
 refine zQp (Q:=fun ex E' s'=>∃ E2 s2,Gst ⟨B,⟨fd.n,[]⟩,none,[]⟩ E' s' E2 s2/\retE P fd.rs (fun oc _=>oc = .ret (finV ((yZ C c.rs (fun _=>false) 0 y).map (trT C ⟨id,id,id,id⟩)))) ex E2 s2) ?_ (fun _ _ _ hq=>hq);refine xV (X:=⟨B,⟨fd.n,[]⟩,none,[]⟩) (PP:=fun e=>e=syn/\(none:Option (zK c.rs))=some y) hT hC hm (zAL hT hC hm hpf hrf hin hor hrr hpp d fd.fi.wr fd.fi.own) fd.body (SSim.empty ⟨id,id,id,id⟩ 0 0 _) (j7 (st:=⟨[],[],0,0,[]⟩) _ 0 (zCA hC c.as nf 0 x)) hrun hfd.ok hfd.hok (fun e s' hq=>by cases hq.2) ?_;intro ex N' e' st' E' s' p1 p2 p3 p4 _;have fin:(frzR fd.rs e' st' fun e' st'=>dres C Tb e' st' fd.rs fun vs=>zCB C c.rs vs some)=some y->∃ E2 s2,Gst ⟨B,⟨fd.n,[]⟩,none,[]⟩ E' s' E2 s2/\yG P fd.rs E2 s2 fun xs=>Outc.ret (finV xs) = .ret (finV ((yZ C c.rs (fun _=>false) 0 y).map (trT C ⟨id,id,id,id⟩))):=fun hh=>by
  obtain ⟨e2,E2,st2,s2,u1,u2,u3,u4⟩:=zHl (X:=⟨B,⟨fd.n,[]⟩,none,[]⟩) hC fd.rs p3 p4 hh;refine ⟨E2,s2,u2,zCn hT hC u3 u4 fd.rs u1 fun vs hv=>?_⟩;obtain ⟨y',h1,h2⟩:=zDd hC c.rs hv;injection h1 with h1
  subst h1;rw [resV c.rs hrs y' _ 0 (h2 N')]
 cases ex <;> simp only at p1 <;> first | exact fin p1 | cases p1
def kO {R:Type}:(l:List (SK U))->List (T U)->St U->(zA l->St U->Option R)->Option R
 | [],vs,st,K=>(match vs with | []=>K () st | _::_=>none)
 | k::r,vs,st,K=>(match vs with
  | []=>none
  | v::vs=>match k with
   | .arr i=>getK C (.arr i) v st fun x st'=>feS st' fun st'=>kO r vs st' fun xs st''=>K (x,xs) st''
   | k=>getR C k v fun x=>kO r vs st fun xs st''=>K (x,xs) st'')
theorem zPs {i:U.I} {N:NM} {st:St U} {K:denK (.arr i:SK U)->St U->Option R} {v:T U} (h:getK C (.arr i) v st K=some r):(trT C N v).untag=trT C N v:=by
 simp only [getK] at h;split at h <;> first | rfl | cases h
theorem zEb (hC:CodOk C):∀ (l:List (SK U)) {N:NM} {st:St U} {s:S} {vs:List (T U)} {K:zA l->St U->Option R},SSim C N st s->kO (C:=C) l vs st K=some r ->
 ∃ x st' rs,K x st' = some r/\SSim C N st' s/\VKs C s l x ((vs.map (trT C N)).map V.untag) rs/\rs.Nodup/\(∀ y ∈ rs,Has N st y/\¬ Has N st' y)/\(∀ y,Has N st' y->Has N st y)
 | [],N,st,s,vs,K,hs,h=>by
  simp only [kO] at h;cases vs with
  | cons _ _=>cases h
  | nil=>exact ⟨_,st,[],h,hs,by simp only [VKs]; exact ⟨rfl,trivial⟩,List.nodup_nil,(by simp),fun y hy=>hy⟩
 | k::rest,N,st,s,vs,K,hs,h=>by
  cases vs with
  | nil=>cases h
  | cons v vs=>
   have key:(getR C k v fun x=>kO (C:=C) rest vs st fun xs st''=>K (x,xs) st'')=some r->∃ x st' rs,K x st' = some r/\SSim C N st' s/\VKs C s (k::rest) x (((v::vs).map (trT C N)).map V.untag) rs/\rs.Nodup/\(∀ y ∈ rs,Has N st y/\¬ Has N st' y)/\(∀ y,Has N st' y->Has N st y):=fun hh=>by
    obtain ⟨x,h1,h2⟩:=zMG hC k hh;obtain ⟨xs,st',rs,q1,q2,q3,q4,q5,q6⟩:=zEb hC rest hs h1;refine ⟨(x,xs),st',rs,q1,q2,?_,q4,q5,q6⟩;simp only [VKs,List.map_cons];exact ⟨_,_,[],rs,rfl,rfl,h2 N s,q3⟩
   cases k with
   | arr i=>
    simp only [kO,yK] at h;have hu:=zPs (N:=N) h;obtain ⟨x,st1,r1,q1,q2,q3,q4,q5,q6,q7,q8⟩:=zHf hC (.arr i) hs (.inr rfl:VR C N v (trT C N v)) h;obtain ⟨xs,st2,r2,p1,p2,p5,p6,p7,p8⟩:=zEb hC rest q2 q1;refine ⟨(x,xs),st2,r1++r2,p1,p2,?_,?_,?_,fun y hy=>q8 y (p8 y hy)⟩
    . simp only [VKs,List.map_cons];exact ⟨_,_,r1,r2,rfl,rfl,by rw [hu]; exact q5,p5⟩
    . exact List.nodup_append.2 ⟨q6,p6,fun a ha b hb e1=>by subst e1; exact (q7 a ha).2 (p7 a hb).1⟩
    . intro y hy;rcases List.mem_append.1 hy with hy | hy
      . exact ⟨(q7 y hy).1,fun hh=>(q7 y hy).2 (p8 y hh)⟩
      . exact ⟨q8 y (p7 y hy).1,(p7 y hy).2⟩
   | _=>exact key h
def zEp (C:Cod U) (Tb:TypeId->TD U) (fu d:Nat) (inl:Nat->Option (FD U)) (orc:Nat->Option (Con U)) (orr:Nat->Option (CR U)) (orp:Nat->Option (CP U)) (fd:FD U) (io oo az rs:List (SK U)) (x:zA io) (a:zA az):Option (Option (zA oo×zA rs)):=
 qP C io x ⟨[],[],0,0,[]⟩ fun vs st=>feS st fun st=>qP C az a st fun ws st=>feS st fun st=>feA (vs++ws) fun ts=>
 drun C Tb fu (zBA C Tb fu inl orc orr orp (some none) d) fd.fi fd.body (zCC 0 ts) st fun ex e' st'=>match ex with
  | .normal=>dres C Tb e' st' fd.rs fun us=>kO (C:=C) rs us st' fun z st'=>feS st' fun st'=>yM C oo vs st' fun y _=>some (some (y,z))
  | .ret=>dres C Tb e' st' fd.rs fun us=>kO (C:=C) rs us st' fun z st'=>feS st' fun st'=>yM C oo vs st' fun y _=>some (some (y,z))
  | _=>none
theorem zDD (hT:TbOk C P Tb) (hC:CodOk C) (hm:P.follows .mixedOrders=true) {syn:List PanicEntry} {pf rf:FuncId->Bool} {fu d:Nat} {inl:Nat->Option (FD U)} {orc:Nat->Option (Con U)} {orr:Nat->Option (CR U)} {orp:Nat->Option (CP U)}
 (hpf:∀ f,pf f=(orc f).isSome) (hrf:∀ f,rf f=(orr f).isSome) (hin:∀ f fd,inl f=some fd->FDOk P pf rf f fd) (hor:∀ f c,orc f=some c->OrcOk C P f c)
 (hrr:∀ f c,orr f=some c->zL P f=true/\CROk C P f c) (hpp:∀ f c,orp f=some c->zL P f=true/\CPOk C P syn f c) {f:Nat} {fd:FD U} (hfd:FDOk P pf rf f fd) {io oo az rs:List (SK U)} (hlen:io.length+az.length<=fd.n)
 {fn:zA io->zA az->Option (Option (zA oo×zA rs))} (h:∀ x a,zEp C Tb fu d inl orc orr orp fd io oo az rs x a=fn x a):CPOk C P syn f ⟨io,oo,az,rs,fnP fn⟩:=by
 intro x a R pan K r hr;unfold fnP at hr;simp only at hr;cases hx:fn x a with
 | none=>rw [hx] at hr; cases hr
 | some oc=>
  rw [hx] at hr;simp only [Option.bind_some] at hr;refine ⟨oc,by cases oc <;> exact hr,fun s vx va r1 r2 hv1 hv2 hn=>?_⟩;obtain ⟨fn',q1,q2,q3,q4⟩:=hfd.fn;have hrun:=(h x a).trans hx;unfold zEp at hrun;have hv1':=xQ io x hv1 ((zAV s (r1++r2)).mono fun y hy=>List.mem_append_left _ hy);have hv2':=xQ az a hv2 ((zAV s (r1++r2)).mono fun y hy=>List.mem_append_right _ hy);generalize subS s (r1++r2)=s0 at hv1' hv2' ⊢;obtain ⟨hn1,hn2,hn3⟩:=List.nodup_append.1 hn;have hno:∀ y,¬ Has ⟨id,id,id,id⟩ (⟨[],[],0,0,[]⟩:St U) y:=fun y hy=>by
   cases y with
   | inl n=>obtain ⟨t,ht,_⟩:=hy; cases ht
   | inr b=>obtain ⟨l,b,hl,_⟩:=hy; simp [lk] at hl
   | ob b=>obtain ⟨l,b,hl,_⟩:=hy; simp [lko] at hl
  obtain ⟨N1,vs1,st1,k1,k2,k3,k4,k5,k6⟩:=xf hC io x (SSim.empty ⟨id,id,id,id⟩ 0 0 s0) hv1' hn1 (fun y hy hh=>hno y hh) hrun;rw [yK] at k1;obtain ⟨N2,vs2,st2,p1,p2,p3,p4,p5,p6⟩:=xf hC az a k3 hv2' hn2 (fun y hy hh=>by
   rcases k6 y hh with q | q
   . exact hno y q
   . exact hn3 y q y hy rfl) k1
  rw [yK,zAY] at p1;have e1:vs1.map (trT C N2)=vx:=by rw [yC p2.ext k5,k4]
  have hbd:bdds st2.nl st2.nx (vs1++vs2)=true:=zCL (z8 p2.nl p2.nx _ k5) p5;have hargs:vx++va=(vs1++vs2).map (trT C N2):=by rw [List.map_append,e1,p4]
  have hl1:vx.length=io.length:=kU io x hv1;have hl2:va.length=az.length:=kU az a hv2;rw [hargs];refine zAy q1 q2 q3 q4 (by rw [<- hargs,List.length_append,hl1,hl2]; exact hlen) fun B=>?_;refine xV (X:=⟨B,⟨fd.n,[]⟩,none,[]⟩) (PP:=fun e=>e=syn/\(some none:Option (Option (zA oo×zA rs)))=some oc) hT hC hm (zAL hT hC hm hpf hrf hin hor hrr hpp d fd.fi.wr fd.fi.own) fd.body p3 (j7 (vs1++vs2) 0 hbd) p1 hfd.ok hfd.hok (fun e s' hq=>by
   obtain ⟨h1,h2⟩:=hq;injection h2 with h2
   subst h2;exact h1) ?_
  intro ex N' e' st' E' s' u1 u2 u3 u4 _;have fin:(dres C Tb e' st' fd.rs fun us=>kO (C:=C) rs us st' fun z st'=>feS st' fun st'=>yM C oo vs1 st' fun y _=>some (some (y,z)))=some oc->yG P fd.rs E' s' fun xs=>xJ C syn oo rs vx oc (.ret (finV xs)) s':=fun hh=>
   zCn hT hC u3 u4 fd.rs hh fun us hv=>by
    obtain ⟨z,st2,q0,h1,w1,w2,w3,w4,w5⟩:=zEb hC rs u3 hv;rw [yK] at h1;obtain ⟨y,st3,q,h3,_,_,_,h4,h5,h6,_⟩:=xh hC oo (vs:=vs1) (vs':=vs1.map (trT C N')) w1 (by simp) (fun j x v a b=>by
     rw [List.getElem?_map,a] at b;injection b with b
     exact .inr b.symm) h1
    injection h3 with h3
    subst h3;have e2:vs1.map (trT C N')=vx:=by rw [yC u2.ext (z8 p2.nl p2.nx _ k5),e1]
    rw [e2] at h4;exact ⟨_,q,q0,h4,w2,List.nodup_append.2 ⟨h5,w3,fun a ha b hb e1=>by subst e1; exact (w4 a hb).2 (h6 a ha).1⟩,rfl⟩
  cases ex <;> simp only at u1 <;> first | exact fin u1 | cases u1
end
end
end Go.Den
namespace Go.Proofs.YtfjiiknfopmcjaaGreatDoor
section
open Go.Al
def vi (n:Int):V:=.at (.int .i64 n)
def sl (es:List V):V:=.lst (zg es) es
end
section
open Go.Al
theorem hasT3:hasT Tryz.prog 3=true:=by kernel_rfl
theorem aggT3:yk Tryz.prog 3=false:=by kernel_rfl
theorem zOD:Tryz.prog.cellsOf 3=1:=by kernel_rfl
theorem zNs:hasT Tryz.prog 9=true:=by kernel_rfl
theorem zNU:yk Tryz.prog 9=false:=by kernel_rfl
theorem zKo:Tryz.prog.cellsOf 9=1:=by kernel_rfl
theorem strT9:qW Tryz.prog 9=true:=by kernel_rfl
theorem zPT:hasT Tryz.prog 32=true:=by kernel_rfl
theorem aggT32:yk Tryz.prog 32=true:=by kernel_rfl
theorem zL5:Tryz.prog.cellsOf 32=5:=by kernel_rfl
theorem zSq:fieldAt Tryz.prog 32 0=some (0,9):=by kernel_rfl
theorem zero32:zr Tryz.prog 32=some [.at (.string .empty),.at (.bool false),.lst .nil [],.at (.bool false),.lst .nil []]:=by kernel_rfl
theorem zMl:fieldAt Tryz.prog 51 0=some (0,9):=by kernel_rfl
theorem zMh:fieldAt Tryz.prog 51 1=some (1,3):=by kernel_rfl
theorem hasT56:hasT Tryz.prog 56=true:=by kernel_rfl
theorem aggT56:yk Tryz.prog 56=false:=by kernel_rfl
theorem zSp:Tryz.prog.cellsOf 56=1:=by kernel_rfl
theorem zero56:zr Tryz.prog 56=some [.at (.pointer none)]:=by kernel_rfl
theorem hasT57:hasT Tryz.prog 57=true:=by kernel_rfl
theorem aggT57:yk Tryz.prog 57=false:=by kernel_rfl
theorem zRg:Tryz.prog.cellsOf 57=1:=by kernel_rfl
theorem zSm:fieldAt Tryz.prog 59 0=some (0,57):=by kernel_rfl
theorem code7:zL Tryz.prog 7=true:=by kernel_rfl
theorem code9:zL Tryz.prog 9=true:=by kernel_rfl
theorem code10:zL Tryz.prog 10=true:=by kernel_rfl
theorem code11:zL Tryz.prog 11=true:=by kernel_rfl
theorem code13:zL Tryz.prog 13=true:=by kernel_rfl
theorem code16:zL Tryz.prog 16=true:=by kernel_rfl
theorem code17:zL Tryz.prog 17=true:=by kernel_rfl
theorem code18:zL Tryz.prog 18=true:=by kernel_rfl
theorem code19:zL Tryz.prog 19=true:=by kernel_rfl
theorem code20:zL Tryz.prog 20=true:=by kernel_rfl
theorem code21:zL Tryz.prog 21=true:=by kernel_rfl
theorem code22:zL Tryz.prog 22=true:=by kernel_rfl
theorem zPk:zL Tryz.prog 23=true:=by kernel_rfl
theorem zHJ:zL Tryz.prog 35=true:=by kernel_rfl
theorem zKj:zL Tryz.prog 36=true:=by kernel_rfl
theorem zOp:zL Tryz.prog 37=true:=by kernel_rfl
theorem code38:zL Tryz.prog 38=true:=by kernel_rfl
theorem code39:zL Tryz.prog 39=true:=by kernel_rfl
theorem code40:zL Tryz.prog 40=true:=by kernel_rfl
theorem code41:zL Tryz.prog 41=true:=by kernel_rfl
theorem code42:zL Tryz.prog 42=true:=by kernel_rfl
theorem code44:zL Tryz.prog 44=true:=by kernel_rfl
theorem code45:zL Tryz.prog 45=true:=by kernel_rfl
theorem code46:zL Tryz.prog 46=true:=by kernel_rfl
theorem code48:zL Tryz.prog 48=true:=by kernel_rfl
theorem code51:zL Tryz.prog 51=true:=by kernel_rfl
theorem code60:zL Tryz.prog 60=true:=by kernel_rfl
theorem zOy:zL Tryz.prog 61=true:=by kernel_rfl
theorem code62:zL Tryz.prog 62=true:=by kernel_rfl
theorem code63:zL Tryz.prog 63=true:=by kernel_rfl
theorem code64:zL Tryz.prog 64=true:=by kernel_rfl
theorem code72:zL Tryz.prog 72=true:=by kernel_rfl
theorem code73:zL Tryz.prog 73=true:=by kernel_rfl
theorem code74:zL Tryz.prog 74=true:=by kernel_rfl
theorem code75:zL Tryz.prog 75=true:=by kernel_rfl
theorem code77:zL Tryz.prog 77=true:=by kernel_rfl
theorem code78:zL Tryz.prog 78=true:=by kernel_rfl
theorem zPY:zL Tryz.prog 80=true:=by kernel_rfl
theorem code81:zL Tryz.prog 81=true:=by kernel_rfl
theorem code82:zL Tryz.prog 82=true:=by kernel_rfl
theorem code83:zL Tryz.prog 83=true:=by kernel_rfl
theorem code84:zL Tryz.prog 84=true:=by kernel_rfl
theorem code85:zL Tryz.prog 85=true:=by kernel_rfl
theorem code87:zL Tryz.prog 87=true:=by kernel_rfl
theorem code88:zL Tryz.prog 88=true:=by kernel_rfl
theorem code89:zL Tryz.prog 89=true:=by kernel_rfl
theorem code93:zL Tryz.prog 93=true:=by kernel_rfl
def ks20:Nat->List Nat
 | 0=>[1]
 | 1=>[2]
 | _=>[]
def ks35:Nat->List Nat
 | 0=>[0,1]
 | 1=>[0,1,16]
 | 2=>[4]
 | 3=>[4]
 | _=>[]
theorem mixed:Tryz.prog.follows .mixedOrders=true:=by kernel_rfl
end
section
open Go.Al Go.Den
structure TokT where
 kind:Int
 text:List UInt8
 file:Int
 ffrom:Int
 fto:Int
 blank:Bool
structure CharT where
 b:Int
 fat:Int
structure MacT where
 name:List UInt8
 func:Bool
 params:List (List UInt8)
 variadic:Bool
 body:Bool×List TokT
structure TkT where
 kind:Int
 text:List UInt8
 file:Int
 ffrom:Int
 fto:Int
 blank:Bool
 hide:List (List UInt8)
 mark:Bool
 op:Bool
inductive TI where
 | int
 | bool
 | u8
 | str
 | tok
 | char
 | mac
 | tk
 | tkl
 | strs
def TI.no:TI->Nat
 | .int=>0
 | .bool=>1
 | .u8=>2
 | .str=>3
 | .tok=>4
 | .char=>5
 | .mac=>6
 | .tk=>7
 | .tkl=>8
 | .strs=>9
theorem TI.no_inj:∀ a b:TI,a.no=b.no->a=b:=by intro a b h; cases a <;> cases b <;> first | rfl | (simp [TI.no] at h)
instance:DecidableEq TI:=fun a b=>if h:a.no=b.no then isTrue (TI.no_inj a b h) else isFalse (fun e=>h (by rw [e]))
def denI:TI->Type
 | .int=>Int
 | .bool=>Bool
 | .u8=>Int
 | .str=>(List UInt8)
 | .tok=>TokT
 | .char=>CharT
 | .mac=>MacT
 | .tk=>TkT
 | .tkl=>(Bool×List TkT)
 | .strs=>(Bool×List (List UInt8))
abbrev UU:TyU:={ I:=TI,den:=denI }
def zCu {R:Type} (v:T UU) (K:TokT->Option R):Option R:=
 match v with
 | .agg fs=>(match fs with
  | [v0,v1,v2,v3,v4,v5]=>pInt .i64 v0 fun x0=>pStr v1 fun x1=>pInt .i64 v2 fun x2=>pInt .i64 v3 fun x3=>pInt .i64 v4 fun x4=>zAt v5 fun x5=>K (TokT.mk x0 x1 x2 x3 x4 x5)
  | _=>none)
 | _=>none
def tokD:TokT:=TokT.mk 0 [] 0 0 0 false
def zBp {R:Type} (v:T UU) (K:CharT->Option R):Option R:=
 match v with
 | .agg fs=>(match fs with
  | [v0,v1]=>pInt .u8 v0 fun x0=>pInt .i64 v1 fun x1=>K (CharT.mk x0 x1)
  | _=>none)
 | _=>none
def zA2:CharT:=CharT.mk 0 0
def zHR {R:Type} (v:T UU) (K:MacT->Option R):Option R:=
 match v with
 | .agg fs=>(match fs with
  | [v0,v1,v2,v3,v4]=>pStr v0 fun x0=>zAt v1 fun x1=>pDl (U:=UU) TI.str v2 fun x2=>zAt v3 fun x3=>pBl (U:=UU) TI.tok v4 fun x4=>K (MacT.mk x0 x1 x2 x3 x4)
  | _=>none)
 | _=>none
def macD:MacT:=MacT.mk [] false [] false (true,[])
def zKb {R:Type} (v:T UU) (K:TkT->Option R):Option R:=
 match v with
 | .agg fs=>(match fs with
  | [v0,v1,v2,v3,v4,v5,v6,v7,v8]=>pInt .i64 v0 fun x0=>pStr v1 fun x1=>pInt .i64 v2 fun x2=>pInt .i64 v3 fun x3=>pInt .i64 v4 fun x4=>zAt v5 fun x5=>pDl (U:=UU) TI.str v6 fun x6=>zAt v7 fun x7=>zAt v8 fun x8=>K (TkT.mk x0 x1 x2 x3 x4 x5 x6 x7 x8)
  | _=>none)
 | _=>none
def tkD:TkT:=TkT.mk 0 [] 0 0 0 false [] false false
def eV_int (x:Int):V:=.at (.int .i64 x)
def zTN (x:Bool):V:=.at (.bool x)
def eV_u8 (x:Int):V:=.at (.int .u8 x)
def zAb (x:(List UInt8)):V:=.at (.string ⟨List.toArray x⟩)
def qo (x:TokT):V:=.agg [.at (.int .i64 (TokT.kind x)),.at (.string ⟨List.toArray (TokT.text x)⟩),.at (.int .i64 (TokT.file x)),.at (.int .i64 (TokT.ffrom x)),.at (.int .i64 (TokT.fto x)),.at (.bool (TokT.blank x))]
def zy (x:CharT):V:=.agg [.at (.int .u8 (CharT.b x)),.at (.int .i64 (CharT.fat x))]
def jS (x:MacT):V:=.agg [.at (.string ⟨List.toArray (MacT.name x)⟩),.at (.bool (MacT.func x)),.lst (zg ((MacT.params x).map zAb)) ((MacT.params x).map zAb),.at (.bool (MacT.variadic x)),.lst (if ((MacT.body x)).1 then .nil else .no) (((MacT.body x)).2.map qo)]
def zAz (x:TkT):V:=.agg [.at (.int .i64 (TkT.kind x)),.at (.string ⟨List.toArray (TkT.text x)⟩),.at (.int .i64 (TkT.file x)),.at (.int .i64 (TkT.ffrom x)),.at (.int .i64 (TkT.fto x)),.at (.bool (TkT.blank x)),.lst (zg ((TkT.hide x).map zAb)) ((TkT.hide x).map zAb),.at (.bool (TkT.mark x)),.at (.bool (TkT.op x))]
def zOG (x:(Bool×List TkT)):V:=.lst (if x.1 then .nil else .no) (x.2.map zAz)
def zMN (x:(Bool×List (List UInt8))):V:=.lst (if x.1 then .nil else .no) (x.2.map zAb)
def zFI:(i:TI)->denI i->V
 | .int,x=>eV_int x
 | .bool,x=>zTN x
 | .u8,x=>eV_u8 x
 | .str,x=>zAb x
 | .tok,x=>qo x
 | .char,x=>zy x
 | .mac,x=>jS x
 | .tk,x=>zAz x
 | .tkl,x=>zOG x
 | .strs,x=>zMN x
def encI:(i:TI)->denI i->T UU
 | .int,x=>.int .i64 x
 | .bool,x=>.bool x
 | .u8,x=>.int .u8 x
 | .str,x=>.str x
 | .tok,x=>.agg [(.int .i64 (TokT.kind x)),(.str (TokT.text x)),(.int .i64 (TokT.file x)),(.int .i64 (TokT.ffrom x)),(.int .i64 (TokT.fto x)),(.bool (TokT.blank x))]
 | .char,x=>.agg [(.int .u8 (CharT.b x)),(.int .i64 (CharT.fat x))]
 | .mac,x=>.agg [(.str (MacT.name x)),(.bool (MacT.func x)),(.lst .dl TI.str (MacT.params x)),(.bool (MacT.variadic x)),(.lst (.b ((MacT.body x)).1) TI.tok ((MacT.body x)).2)]
 | .tk,x=>.agg [(.int .i64 (TkT.kind x)),(.str (TkT.text x)),(.int .i64 (TkT.file x)),(.int .i64 (TkT.ffrom x)),(.int .i64 (TkT.fto x)),(.bool (TkT.blank x)),(.lst .dl TI.str (TkT.hide x)),(.bool (TkT.mark x)),(.bool (TkT.op x))]
 | .tkl,x=>.lst (.b x.1) TI.tk x.2
 | .strs,x=>.lst (.b x.1) TI.str x.2
def decI:(i:TI)->{R:Type}->T UU->(denI i->Option R)->Option R
 | .int,_,v,K=>pInt .i64 v K
 | .bool,_,v,K=>zAt v K
 | .u8,_,v,K=>pInt .u8 v K
 | .str,_,v,K=>pStr v K
 | .tok,_,v,K=>zCu v K
 | .char,_,v,K=>zBp v K
 | .mac,_,v,K=>zHR v K
 | .tk,_,v,K=>zKb v K
 | .tkl,_,v,K=>pBl (U:=UU) TI.tk v K
 | .strs,_,v,K=>pBl (U:=UU) TI.str v K
def dfltI:(i:TI)->denI i
 | .int=>(0:Int)
 | .bool=>false
 | .u8=>(0:Int)
 | .str=>([]:List UInt8)
 | .tok=>tokD
 | .char=>zA2
 | .mac=>macD
 | .tk=>tkD
 | .tkl=>((true,[]):(Bool×List TkT))
 | .strs=>((true,[]):(Bool×List (List UInt8)))
def zK8:TI->Nat
 | .int=>1
 | .bool=>1
 | .u8=>1
 | .str=>1
 | .tok=>6
 | .char=>2
 | .mac=>5
 | .tk=>9
 | .tkl=>1
 | .strs=>1
def aggI:TI->Bool
 | .int=>false
 | .bool=>false
 | .u8=>false
 | .str=>false
 | .tok=>true
 | .char=>true
 | .mac=>true
 | .tk=>true
 | .tkl=>false
 | .strs=>false
def plainI:TI->Bool
 | .int=>true
 | .bool=>true
 | .u8=>true
 | .str=>true
 | .tok=>true
 | .char=>true
 | .mac=>false
 | .tk=>false
 | .tkl=>false
 | .strs=>false
def ifvI:(i:TI)->denI i->Value
 | .int,_=>.nilIface
 | .bool,_=>.nilIface
 | .u8,_=>.nilIface
 | .str,_=>.nilIface
 | .tok,_=>.nilIface
 | .char,_=>.nilIface
 | .mac,_=>.nilIface
 | .tk,_=>.nilIface
 | .tkl,_=>.nilIface
 | .strs,_=>.nilIface
def u8I:(i:TI)->Option (denI i->Int)
 | .int=>none
 | .bool=>none
 | .u8=>some fun x=>x
 | .str=>none
 | .tok=>none
 | .char=>none
 | .mac=>none
 | .tk=>none
 | .tkl=>none
 | .strs=>none
def CC:Cod UU:=⟨encI,zFI,decI,dfltI,zK8,aggI,plainI,ifvI,u8I⟩
theorem zNQ {R:Type} {v:T UU} {K:TokT->Option R} {r:R} (h:zCu v K=some r):∃ x,K x=some r/\∀ N,(trT CC N v).untag=qo x:=by
 unfold zCu at h;split at h
 . split at h
   . obtain ⟨x0,h,_,e0⟩:=yE (C:=CC) h;obtain ⟨x1,h,_,e1⟩:=zBB (C:=CC) h;obtain ⟨x2,h,_,e2⟩:=yE (C:=CC) h;obtain ⟨x3,h,_,e3⟩:=yE (C:=CC) h;obtain ⟨x4,h,_,e4⟩:=yE (C:=CC) h;obtain ⟨x5,h,_,e5⟩:=qR (C:=CC) h;refine ⟨_,h,fun N=>?_⟩;simp only [trT,trTs,V.untag,List.map_cons,List.map_nil,e0 N,e1 N,e2 N,e3 N,e4 N,e5 N];rfl
   . cases h
 . cases h
theorem zLb {R:Type} {v:T UU} {K:TokT->Option R} {r:R} (h:zCu v K=some r):∃ x,K x=some r/\∀ N,trT CC N v=qo x:=by
 unfold zCu at h;split at h
 . split at h
   . obtain ⟨x0,h,e0,_⟩:=yE (C:=CC) h;obtain ⟨x1,h,e1,_⟩:=zBB (C:=CC) h;obtain ⟨x2,h,e2,_⟩:=yE (C:=CC) h;obtain ⟨x3,h,e3,_⟩:=yE (C:=CC) h;obtain ⟨x4,h,e4,_⟩:=yE (C:=CC) h;obtain ⟨x5,h,e5,_⟩:=qR (C:=CC) h;refine ⟨_,h,fun N=>?_⟩;simp only [trT,trTs,e0 N,e1 N,e2 N,e3 N,e4 N,e5 N];rfl
   . cases h
 . cases h
theorem zAS (x:TokT):qo x = .agg [.at (.int .i64 (TokT.kind x)),.at (.string ⟨List.toArray (TokT.text x)⟩),.at (.int .i64 (TokT.file x)),.at (.int .i64 (TokT.ffrom x)),.at (.int .i64 (TokT.fto x)),.at (.bool (TokT.blank x))]:=by
 rfl
theorem zLN {R:Type} {v:T UU} {K:CharT->Option R} {r:R} (h:zBp v K=some r):∃ x,K x=some r/\∀ N,(trT CC N v).untag=zy x:=by
 unfold zBp at h;split at h
 . split at h
   . obtain ⟨x0,h,_,e0⟩:=yE (C:=CC) h;obtain ⟨x1,h,_,e1⟩:=yE (C:=CC) h;refine ⟨_,h,fun N=>?_⟩;simp only [trT,trTs,V.untag,List.map_cons,List.map_nil,e0 N,e1 N];rfl
   . cases h
 . cases h
theorem zKr {R:Type} {v:T UU} {K:CharT->Option R} {r:R} (h:zBp v K=some r):∃ x,K x=some r/\∀ N,trT CC N v=zy x:=by
 unfold zBp at h;split at h
 . split at h
   . obtain ⟨x0,h,e0,_⟩:=yE (C:=CC) h;obtain ⟨x1,h,e1,_⟩:=yE (C:=CC) h;refine ⟨_,h,fun N=>?_⟩;simp only [trT,trTs,e0 N,e1 N];rfl
   . cases h
 . cases h
theorem kY (x:CharT):zy x = .agg [.at (.int .u8 (CharT.b x)),.at (.int .i64 (CharT.fat x))]:=by
 rfl
theorem zNk {R:Type} {v:T UU} {K:MacT->Option R} {r:R} (h:zHR v K=some r):∃ x,K x=some r/\∀ N,(trT CC N v).untag=jS x:=by
 unfold zHR at h;split at h
 . split at h
   . obtain ⟨x0,h,_,e0⟩:=zBB (C:=CC) h;obtain ⟨x1,h,_,e1⟩:=qR (C:=CC) h;obtain ⟨x2,h,e2⟩:=zO7 (C:=CC) h;obtain ⟨x3,h,_,e3⟩:=qR (C:=CC) h;obtain ⟨x4,h,e4⟩:=zJo (C:=CC) h;refine ⟨_,h,fun N=>?_⟩;simp only [trT,trTs,V.untag,List.map_cons,List.map_nil,e0 N,e1 N,e2 N,e3 N,e4 N];rfl
   . cases h
 . cases h
theorem zAZ (x:MacT):jS x = .agg [.at (.string ⟨List.toArray (MacT.name x)⟩),.at (.bool (MacT.func x)),.lst (zg ((MacT.params x).map (zFI TI.str))) ((MacT.params x).map (zFI TI.str)),.at (.bool (MacT.variadic x)),.lst (if ((MacT.body x)).1 then .nil else .no) (((MacT.body x)).2.map (zFI TI.tok))]:=by
 rfl
theorem zOI {R:Type} {v:T UU} {K:TkT->Option R} {r:R} (h:zKb v K=some r):∃ x,K x=some r/\∀ N,(trT CC N v).untag=zAz x:=by
 unfold zKb at h;split at h
 . split at h
   . obtain ⟨x0,h,_,e0⟩:=yE (C:=CC) h;obtain ⟨x1,h,_,e1⟩:=zBB (C:=CC) h;obtain ⟨x2,h,_,e2⟩:=yE (C:=CC) h;obtain ⟨x3,h,_,e3⟩:=yE (C:=CC) h;obtain ⟨x4,h,_,e4⟩:=yE (C:=CC) h;obtain ⟨x5,h,_,e5⟩:=qR (C:=CC) h;obtain ⟨x6,h,e6⟩:=zO7 (C:=CC) h;obtain ⟨x7,h,_,e7⟩:=qR (C:=CC) h;obtain ⟨x8,h,_,e8⟩:=qR (C:=CC) h;refine ⟨_,h,fun N=>?_⟩;simp only [trT,trTs,V.untag,List.map_cons,List.map_nil,e0 N,e1 N,e2 N,e3 N,e4 N,e5 N,e6 N,e7 N,e8 N];rfl
   . cases h
 . cases h
theorem zBd (x:TkT):zAz x = .agg [.at (.int .i64 (TkT.kind x)),.at (.string ⟨List.toArray (TkT.text x)⟩),.at (.int .i64 (TkT.file x)),.at (.int .i64 (TkT.ffrom x)),.at (.int .i64 (TkT.fto x)),.at (.bool (TkT.blank x)),.lst (zg ((TkT.hide x).map (zFI TI.str))) ((TkT.hide x).map (zFI TI.str)),.at (.bool (TkT.mark x)),.at (.bool (TkT.op x))]:=by
 rfl
theorem zOM {R:Type} {v:T UU} {K:(Bool×List TkT)->Option R} {r:R} (h:pBl (U:=UU) TI.tk v K=some r):∃ x,K x=some r/\∀ N,(trT CC N v).untag=zOG x:=by
 obtain ⟨x,h1,h2⟩:=zJo (C:=CC) h;exact ⟨x,h1,fun N=>js (h2 N)⟩
theorem zN1 {R:Type} {v:T UU} {K:(Bool×List (List UInt8))->Option R} {r:R} (h:pBl (U:=UU) TI.str v K=some r):∃ x,K x=some r/\∀ N,(trT CC N v).untag=zMN x:=by
 obtain ⟨x,h1,h2⟩:=zJo (C:=CC) h;exact ⟨x,h1,fun N=>js (h2 N)⟩
theorem sz_tok (x:TokT):(qo x).size=6:=by rw [zAS]; rfl
theorem ag_tok (x:TokT):(qo x).isAgg=true:=by rw [zAS]; rfl
theorem on_tok (x:TokT):zE (qo x).flat:=by rw [zAS]; rfl
theorem un_tok (x:TokT):(qo x).untag=qo x:=by rw [zAS]; simp only [V.untag,List.map_cons,List.map_nil,zB8,zDO,kq]
theorem zH8 (x:CharT):(zy x).size=2:=by rw [kY]; rfl
theorem zTH (x:CharT):(zy x).isAgg=true:=by rw [kY]; rfl
theorem zSK (x:CharT):zE (zy x).flat:=by rw [kY]; rfl
theorem zSE (x:CharT):(zy x).untag=zy x:=by rw [kY]; simp only [V.untag,List.map_cons,List.map_nil,zB8,zDO,kq]
theorem zOc (x:MacT):(jS x).size=5:=by rw [zAZ]; rfl
theorem ag_mac (x:MacT):(jS x).isAgg=true:=by rw [zAZ]; rfl
theorem on_mac (x:MacT):zE (jS x).flat:=by rw [zAZ]; rfl
theorem un_mac (x:MacT):(jS x).untag=jS x:=by rw [zAZ]; simp only [V.untag,List.map_cons,List.map_nil,zB8,zDO,kq]
theorem sz_tk (x:TkT):(zAz x).size=9:=by rw [zBd]; rfl
theorem ag_tk (x:TkT):(zAz x).isAgg=true:=by rw [zBd]; rfl
theorem on_tk (x:TkT):zE (zAz x).flat:=by rw [zBd]; rfl
theorem un_tk (x:TkT):(zAz x).untag=zAz x:=by rw [zBd]; simp only [V.untag,List.map_cons,List.map_nil,zB8,zDO,kq]
theorem CCok:CodOk CC:=by
 refine ⟨?_,?_,?_,?_,?_,?_,?_,?_,?_,?_,?_⟩
 . intro N i x;cases i with
   | int=>rfl
   | bool=>rfl
   | u8=>rfl
   | str=>rfl
   | tok=>exact (zAS x).symm
   | char=>exact (kY x).symm
   | mac=>exact (zAZ x).symm
   | tk=>exact (zBd x).symm
   | tkl=>rfl
   | strs=>rfl
 . intro i x;cases i <;> rfl
 . intro i R v k r h;cases i with
   | int=>obtain ⟨x,h1,_,h2⟩:=yE (C:=CC) h; exact ⟨x,h1,fun N=>by have:=h2 N; exact js this⟩
   | bool=>obtain ⟨x,h1,_,h2⟩:=qR (C:=CC) h; exact ⟨x,h1,fun N=>by have:=h2 N; exact js this⟩
   | u8=>obtain ⟨x,h1,_,h2⟩:=yE (C:=CC) h; exact ⟨x,h1,fun N=>by have:=h2 N; exact js this⟩
   | str=>obtain ⟨x,h1,_,h2⟩:=zBB (C:=CC) h; exact ⟨x,h1,fun N=>by have:=h2 N; exact js this⟩
   | tok=>exact zNQ h
   | char=>exact zLN h
   | mac=>exact zNk h
   | tk=>exact zOI h
   | tkl=>exact zOM h
   | strs=>exact zN1 h
 . intro i R v k r hp h;cases i with
   | int=>obtain ⟨x,h1,h2,_⟩:=yE (C:=CC) h; exact ⟨x,h1,h2⟩
   | bool=>obtain ⟨x,h1,h2,_⟩:=qR (C:=CC) h; exact ⟨x,h1,h2⟩
   | u8=>obtain ⟨x,h1,h2,_⟩:=yE (C:=CC) h; exact ⟨x,h1,h2⟩
   | str=>obtain ⟨x,h1,h2,_⟩:=zBB (C:=CC) h; exact ⟨x,h1,h2⟩
   | tok=>exact zLb h
   | char=>exact zKr h
   | mac=>cases hp
   | tk=>cases hp
   | tkl=>cases hp
   | strs=>cases hp
 . intro i x;cases i with
   | int=>rfl
   | bool=>rfl
   | u8=>rfl
   | str=>rfl
   | tok=>exact sz_tok x
   | char=>exact zH8 x
   | mac=>exact zOc x
   | tk=>exact sz_tk x
   | tkl=>rfl
   | strs=>rfl
 . intro i x;cases i with
   | int=>rfl
   | bool=>rfl
   | u8=>rfl
   | str=>rfl
   | tok=>exact ag_tok x
   | char=>exact zTH x
   | mac=>exact ag_mac x
   | tk=>exact ag_tk x
   | tkl=>rfl
   | strs=>rfl
 . intro i x;cases i with
   | int=>rfl
   | bool=>rfl
   | u8=>rfl
   | str=>rfl
   | tok=>exact on_tok x
   | char=>exact zSK x
   | mac=>exact on_mac x
   | tk=>exact on_tk x
   | tkl=>rfl
   | strs=>rfl
 . intro i x;cases i with
   | int=>rfl
   | bool=>rfl
   | u8=>rfl
   | str=>rfl
   | tok=>exact un_tok x
   | char=>exact zSE x
   | mac=>exact un_mac x
   | tk=>exact un_tk x
   | tkl=>exact kq _ _
   | strs=>exact kq _ _
 . intro i h;cases i <;> first | rfl | cases h
 . intro i;cases i <;> decide
 . intro i f h x;cases i <;> first | (cases h; done) | (cases h; rfl)
def td3:TD UU:={ has:=true,agg:=false,cells:=1,bytes:=8,code:=some TI.int,ik:=some .i64,zero:=some [.int .i64 0] }
theorem td3_ok:Facts CC Tryz.prog 3 td3:=⟨by kernel_rfl,by kernel_rfl,by kernel_rfl,by kernel_rfl,by kernel_rfl,by kernel_rfl,by kernel_rfl,by kernel_rfl,by kernel_rfl,by kernel_rfl,by kernel_rfl,fun N=>by kernel_rfl,fun i h=>(by first | (injection h with h; subst h; exact ⟨rfl,rfl⟩) | cases h),fun n i h=>(by cases h),.inr rfl,.inr rfl,fun x k r h=>(by cases h),fun l h=>za h,fun h=>(by cases h),fun i h=>(by cases h)⟩
def td4:TD UU:={ has:=true,agg:=false,cells:=1,bytes:=1,code:=some TI.bool,isBool:=true,zero:=some [.bool false] }
theorem td4_ok:Facts CC Tryz.prog 4 td4:=⟨by kernel_rfl,by kernel_rfl,by kernel_rfl,by kernel_rfl,by kernel_rfl,by kernel_rfl,by kernel_rfl,by kernel_rfl,by kernel_rfl,by kernel_rfl,by kernel_rfl,fun N=>by kernel_rfl,fun i h=>(by first | (injection h with h; subst h; exact ⟨rfl,rfl⟩) | cases h),fun n i h=>(by cases h),.inr rfl,.inr rfl,fun x k r h=>(by cases h),fun l h=>za h,fun h=>(by cases h),fun i h=>(by cases h)⟩
def td5:TD UU:={ has:=true,agg:=false,cells:=1,bytes:=1,code:=some TI.u8,ik:=some .u8,zero:=some [.int .u8 0] }
theorem td5_ok:Facts CC Tryz.prog 5 td5:=⟨by kernel_rfl,by kernel_rfl,by kernel_rfl,by kernel_rfl,by kernel_rfl,by kernel_rfl,by kernel_rfl,by kernel_rfl,by kernel_rfl,by kernel_rfl,by kernel_rfl,fun N=>by kernel_rfl,fun i h=>(by first | (injection h with h; subst h; exact ⟨rfl,rfl⟩) | cases h),fun n i h=>(by cases h),.inr rfl,.inr rfl,fun x k r h=>(by cases h),fun l h=>za h,fun h=>(by cases h),fun i h=>(by cases h)⟩
def td9:TD UU:={ has:=true,agg:=false,cells:=1,bytes:=16,code:=some TI.str,isStr:=true,zero:=some [.str []] }
theorem td9_ok:Facts CC Tryz.prog 9 td9:=⟨by kernel_rfl,by kernel_rfl,by kernel_rfl,by kernel_rfl,by kernel_rfl,by kernel_rfl,by kernel_rfl,by kernel_rfl,by kernel_rfl,by kernel_rfl,by kernel_rfl,fun N=>by kernel_rfl,fun i h=>(by first | (injection h with h; subst h; exact ⟨rfl,rfl⟩) | cases h),fun n i h=>(by cases h),.inr rfl,.inr rfl,fun x k r h=>(by cases h),fun l h=>za h,fun h=>(by cases h),fun i h=>(by cases h)⟩
def td20:TD UU:={ has:=true,agg:=false,cells:=1,bytes:=16,isIfc:=true,zero:=some [.con .nilIface] }
theorem zTM:Facts CC Tryz.prog 20 td20:=⟨by kernel_rfl,by kernel_rfl,by kernel_rfl,by kernel_rfl,by kernel_rfl,by kernel_rfl,by kernel_rfl,by kernel_rfl,by kernel_rfl,by kernel_rfl,by kernel_rfl,fun N=>by kernel_rfl,fun i h=>(by first | (injection h with h; subst h; exact ⟨rfl,rfl⟩) | cases h),fun n i h=>(by cases h),.inr rfl,.inr rfl,fun x k r h=>(by cases h),fun l h=>za h,fun h=>(by cases h),fun i h=>(by cases h)⟩
def td21:TD UU:={ has:=true,agg:=false,cells:=1,bytes:=4,ik:=some .i32,zero:=some [.int .i32 0] }
theorem zRt:Facts CC Tryz.prog 21 td21:=⟨by kernel_rfl,by kernel_rfl,by kernel_rfl,by kernel_rfl,by kernel_rfl,by kernel_rfl,by kernel_rfl,by kernel_rfl,by kernel_rfl,by kernel_rfl,by kernel_rfl,fun N=>by kernel_rfl,fun i h=>(by first | (injection h with h; subst h; exact ⟨rfl,rfl⟩) | cases h),fun n i h=>(by cases h),.inr rfl,.inr rfl,fun x k r h=>(by cases h),fun l h=>za h,fun h=>(by cases h),fun i h=>(by cases h)⟩
def td22:TD UU:={ has:=true,agg:=false,cells:=1,bytes:=24,el:=some 9,code:=some TI.strs,zero:=some [.nil] }
theorem zRo:Facts CC Tryz.prog 22 td22:=⟨by kernel_rfl,by kernel_rfl,by kernel_rfl,by kernel_rfl,by kernel_rfl,by kernel_rfl,by kernel_rfl,by kernel_rfl,by kernel_rfl,by kernel_rfl,by kernel_rfl,fun N=>by kernel_rfl,fun i h=>(by first | (injection h with h; subst h; exact ⟨rfl,rfl⟩) | cases h),fun n i h=>(by cases h),.inr rfl,.inr rfl,fun x k r h=>(by cases h),fun l h=>za h,fun h=>(by cases h),fun i h=>(by cases h)⟩
def td24:TD UU:={ has:=true,agg:=false,cells:=1,bytes:=24,el:=some 32,zero:=some [.nil] }
theorem zSI:Facts CC Tryz.prog 24 td24:=⟨by kernel_rfl,by kernel_rfl,by kernel_rfl,by kernel_rfl,by kernel_rfl,by kernel_rfl,by kernel_rfl,by kernel_rfl,by kernel_rfl,by kernel_rfl,by kernel_rfl,fun N=>by kernel_rfl,fun i h=>(by first | (injection h with h; subst h; exact ⟨rfl,rfl⟩) | cases h),fun n i h=>(by cases h),.inr rfl,.inr rfl,fun x k r h=>(by cases h),fun l h=>za h,fun h=>(by cases h),fun i h=>(by cases h)⟩
def td27:TD UU:={ has:=true,agg:=false,cells:=1,bytes:=24,el:=some 30,zero:=some [.nil] }
theorem zSk:Facts CC Tryz.prog 27 td27:=⟨by kernel_rfl,by kernel_rfl,by kernel_rfl,by kernel_rfl,by kernel_rfl,by kernel_rfl,by kernel_rfl,by kernel_rfl,by kernel_rfl,by kernel_rfl,by kernel_rfl,fun N=>by kernel_rfl,fun i h=>(by first | (injection h with h; subst h; exact ⟨rfl,rfl⟩) | cases h),fun n i h=>(by cases h),.inr rfl,.inr rfl,fun x k r h=>(by cases h),fun l h=>za h,fun h=>(by cases h),fun i h=>(by cases h)⟩
def td30:TD UU:={ has:=true,agg:=true,cells:=6,bytes:=56,code:=some TI.tok,flds:=[(0,3),(1,9),(2,3),(3,3),(4,3),(5,4)],isStruct:=true,zero:=some [.int .i64 0,.str [],.int .i64 0,.int .i64 0,.int .i64 0,.bool false],eqk:=some [.i,.s,.i,.i,.i,.b] }
theorem eqq30 (us vs:List Value) (h:vkq [KQ.i,.s,.i,.i,.i,.b] us vs=true):zDa Tryz.prog 30 us vs=true/\zDY Tryz.prog 30 us vs=eqVs us vs:=by
 obtain ⟨k0,n0,m0,u0,v0,rfl,rfl,h0⟩:=zGV h;obtain ⟨n1,m1,u1,v1,rfl,rfl,h1⟩:=vkq_s h0;obtain ⟨k2,n2,m2,u2,v2,rfl,rfl,h2⟩:=zGV h1;obtain ⟨k3,n3,m3,u3,v3,rfl,rfl,h3⟩:=zGV h2;obtain ⟨k4,n4,m4,u4,v4,rfl,rfl,h4⟩:=zGV h3;obtain ⟨n5,m5,u5,v5,rfl,rfl,h5⟩:=vkq_b h4;obtain ⟨rfl,rfl⟩:=zLp h5;exact ⟨by kernel_rfl,by kernel_rfl⟩
theorem eqqs30 {l:List KQ} (h:some [KQ.i,.s,.i,.i,.i,.b]=some l) (us vs:List Value) (hv:vkq l us vs=true):zDa Tryz.prog 30 us vs=true/\zDY Tryz.prog 30 us vs=eqVs us vs:=by
 rw [<- Option.some.inj h] at hv;exact eqq30 us vs hv
theorem zSY:Facts CC Tryz.prog 30 td30:=⟨by kernel_rfl,by kernel_rfl,by kernel_rfl,by kernel_rfl,by kernel_rfl,by kernel_rfl,by kernel_rfl,by kernel_rfl,by kernel_rfl,by kernel_rfl,by kernel_rfl,fun N=>by kernel_rfl,fun i h=>(by first | (injection h with h; subst h; exact ⟨rfl,rfl⟩) | cases h),fun n i h=>(by cases h),.inr rfl,.inr rfl,fun x k r h=>(by cases h),fun l h=>eqqs30 h,fun h=>(by cases h),fun i h=>(by cases h)⟩
def td32:TD UU:={ has:=true,agg:=true,cells:=5,bytes:=80,code:=some TI.mac,flds:=[(0,9),(1,4),(2,22),(3,4),(4,27)],isStruct:=true,zero:=some [.str [],.bool false,.nil,.bool false,.nil] }
theorem zRn:Facts CC Tryz.prog 32 td32:=⟨by kernel_rfl,by kernel_rfl,by kernel_rfl,by kernel_rfl,by kernel_rfl,by kernel_rfl,by kernel_rfl,by kernel_rfl,by kernel_rfl,by kernel_rfl,by kernel_rfl,fun N=>by kernel_rfl,fun i h=>(by first | (injection h with h; subst h; exact ⟨rfl,rfl⟩) | cases h),fun n i h=>(by cases h),.inr rfl,.inr rfl,fun x k r h=>(by cases h),fun l h=>za h,fun h=>(by cases h),fun i h=>(by cases h)⟩
def td33:TD UU:={ has:=true,agg:=false,cells:=1,bytes:=8,code:=some TI.int,ik:=some .i64,zero:=some [.int .i64 0] }
theorem zSx:Facts CC Tryz.prog 33 td33:=⟨by kernel_rfl,by kernel_rfl,by kernel_rfl,by kernel_rfl,by kernel_rfl,by kernel_rfl,by kernel_rfl,by kernel_rfl,by kernel_rfl,by kernel_rfl,by kernel_rfl,fun N=>by kernel_rfl,fun i h=>(by first | (injection h with h; subst h; exact ⟨rfl,rfl⟩) | cases h),fun n i h=>(by cases h),.inr rfl,.inr rfl,fun x k r h=>(by cases h),fun l h=>za h,fun h=>(by cases h),fun i h=>(by cases h)⟩
def td46:TD UU:={ has:=true,agg:=false,cells:=1,bytes:=24,el:=some 55,zero:=some [.nil] }
theorem zR7:Facts CC Tryz.prog 46 td46:=⟨by kernel_rfl,by kernel_rfl,by kernel_rfl,by kernel_rfl,by kernel_rfl,by kernel_rfl,by kernel_rfl,by kernel_rfl,by kernel_rfl,by kernel_rfl,by kernel_rfl,fun N=>by kernel_rfl,fun i h=>(by first | (injection h with h; subst h; exact ⟨rfl,rfl⟩) | cases h),fun n i h=>(by cases h),.inr rfl,.inr rfl,fun x k r h=>(by cases h),fun l h=>za h,fun h=>(by cases h),fun i h=>(by cases h)⟩
def td48:TD UU:={ has:=true,agg:=false,cells:=1,bytes:=8,zero:=some [.con (.pointer none)] }
theorem zTJ:Facts CC Tryz.prog 48 td48:=⟨by kernel_rfl,by kernel_rfl,by kernel_rfl,by kernel_rfl,by kernel_rfl,by kernel_rfl,by kernel_rfl,by kernel_rfl,by kernel_rfl,by kernel_rfl,by kernel_rfl,fun N=>by kernel_rfl,fun i h=>(by first | (injection h with h; subst h; exact ⟨rfl,rfl⟩) | cases h),fun n i h=>(by cases h),.inr rfl,.inr rfl,fun x k r h=>(by cases h),fun l h=>za h,fun h=>(by cases h),fun i h=>(by cases h)⟩
def td51:TD UU:={ has:=true,agg:=true,cells:=2,bytes:=24,flds:=[(0,9),(1,3)],isStruct:=true,zero:=some [.str [],.int .i64 0] }
theorem zRq:Facts CC Tryz.prog 51 td51:=⟨by kernel_rfl,by kernel_rfl,by kernel_rfl,by kernel_rfl,by kernel_rfl,by kernel_rfl,by kernel_rfl,by kernel_rfl,by kernel_rfl,by kernel_rfl,by kernel_rfl,fun N=>by kernel_rfl,fun i h=>(by first | (injection h with h; subst h; exact ⟨rfl,rfl⟩) | cases h),fun n i h=>(by cases h),.inr rfl,.inr rfl,fun x k r h=>(by cases h),fun l h=>za h,fun h=>(by cases h),fun i h=>(by cases h)⟩
def td55:TD UU:={ has:=true,agg:=true,cells:=2,bytes:=16,code:=some TI.char,flds:=[(0,5),(1,3)],isStruct:=true,zero:=some [.int .u8 0,.int .i64 0] }
theorem zTK:Facts CC Tryz.prog 55 td55:=⟨by kernel_rfl,by kernel_rfl,by kernel_rfl,by kernel_rfl,by kernel_rfl,by kernel_rfl,by kernel_rfl,by kernel_rfl,by kernel_rfl,by kernel_rfl,by kernel_rfl,fun N=>by kernel_rfl,fun i h=>(by first | (injection h with h; subst h; exact ⟨rfl,rfl⟩) | cases h),fun n i h=>(by cases h),.inr rfl,.inr rfl,fun x k r h=>(by cases h),fun l h=>za h,fun h=>(by cases h),fun i h=>(by cases h)⟩
def td56:TD UU:={ has:=true,agg:=false,cells:=1,bytes:=8,zero:=some [.con (.pointer none)] }
theorem zSX:Facts CC Tryz.prog 56 td56:=⟨by kernel_rfl,by kernel_rfl,by kernel_rfl,by kernel_rfl,by kernel_rfl,by kernel_rfl,by kernel_rfl,by kernel_rfl,by kernel_rfl,by kernel_rfl,by kernel_rfl,fun N=>by kernel_rfl,fun i h=>(by first | (injection h with h; subst h; exact ⟨rfl,rfl⟩) | cases h),fun n i h=>(by cases h),.inr rfl,.inr rfl,fun x k r h=>(by cases h),fun l h=>za h,fun h=>(by cases h),fun i h=>(by cases h)⟩
def td57:TD UU:={ has:=true,agg:=false,cells:=1,bytes:=8,zero:=some [.con (.map none)],mci:=some TI.mac }
theorem zTQ:Facts CC Tryz.prog 57 td57:=⟨by kernel_rfl,by kernel_rfl,by kernel_rfl,by kernel_rfl,by kernel_rfl,by kernel_rfl,by kernel_rfl,by kernel_rfl,by kernel_rfl,by kernel_rfl,by kernel_rfl,fun N=>by kernel_rfl,fun i h=>(by first | (injection h with h; subst h; exact ⟨rfl,rfl⟩) | cases h),fun n i h=>(by cases h),.inr rfl,.inr rfl,fun x k r h=>(by cases h),fun l h=>za h,fun h=>(by cases h),fun i h=>(by injection h with h; subst h; exact ⟨32,(.agg #[(.string .empty),(.bool false),(.slice none 0 0),(.bool false),(.slice none 0 0)]),by kernel_rfl,by kernel_rfl,by kernel_rfl,by kernel_rfl⟩)⟩
def td59:TD UU:={ has:=true,agg:=true,cells:=2,bytes:=16,flds:=[(0,57),(1,3)],isStruct:=true,zero:=some [.con (.map none),.int .i64 0] }
theorem zSh:Facts CC Tryz.prog 59 td59:=⟨by kernel_rfl,by kernel_rfl,by kernel_rfl,by kernel_rfl,by kernel_rfl,by kernel_rfl,by kernel_rfl,by kernel_rfl,by kernel_rfl,by kernel_rfl,by kernel_rfl,fun N=>by kernel_rfl,fun i h=>(by first | (injection h with h; subst h; exact ⟨rfl,rfl⟩) | cases h),fun n i h=>(by cases h),.inr rfl,.inr rfl,fun x k r h=>(by cases h),fun l h=>za h,fun h=>(by cases h),fun i h=>(by cases h)⟩
def td63:TD UU:={ has:=true,agg:=false,cells:=1,bytes:=24,el:=some 92,code:=some TI.tkl,zero:=some [.nil] }
theorem zTE:Facts CC Tryz.prog 63 td63:=⟨by kernel_rfl,by kernel_rfl,by kernel_rfl,by kernel_rfl,by kernel_rfl,by kernel_rfl,by kernel_rfl,by kernel_rfl,by kernel_rfl,by kernel_rfl,by kernel_rfl,fun N=>by kernel_rfl,fun i h=>(by first | (injection h with h; subst h; exact ⟨rfl,rfl⟩) | cases h),fun n i h=>(by cases h),.inr rfl,.inr rfl,fun x k r h=>(by cases h),fun l h=>za h,fun h=>(by cases h),fun i h=>(by cases h)⟩
def td71:TD UU:={ has:=true,agg:=true,cells:=1,bytes:=8,flds:=[(0,33)],isStruct:=true,zero:=some [.int .i64 0] }
theorem zRl:Facts CC Tryz.prog 71 td71:=⟨by kernel_rfl,by kernel_rfl,by kernel_rfl,by kernel_rfl,by kernel_rfl,by kernel_rfl,by kernel_rfl,by kernel_rfl,by kernel_rfl,by kernel_rfl,by kernel_rfl,fun N=>by kernel_rfl,fun i h=>(by first | (injection h with h; subst h; exact ⟨rfl,rfl⟩) | cases h),fun n i h=>(by cases h),.inr rfl,.inr rfl,fun x k r h=>(by cases h),fun l h=>za h,fun h=>(by cases h),fun i h=>(by cases h)⟩
def td72:TD UU:={ has:=true,agg:=false,cells:=1,bytes:=8,zero:=some [.con (.pointer none)] }
theorem zTO:Facts CC Tryz.prog 72 td72:=⟨by kernel_rfl,by kernel_rfl,by kernel_rfl,by kernel_rfl,by kernel_rfl,by kernel_rfl,by kernel_rfl,by kernel_rfl,by kernel_rfl,by kernel_rfl,by kernel_rfl,fun N=>by kernel_rfl,fun i h=>(by first | (injection h with h; subst h; exact ⟨rfl,rfl⟩) | cases h),fun n i h=>(by cases h),.inr rfl,.inr rfl,fun x k r h=>(by cases h),fun l h=>za h,fun h=>(by cases h),fun i h=>(by cases h)⟩
def td74:TD UU:={ has:=true,agg:=true,cells:=1,bytes:=24,flds:=[(0,27)],isStruct:=true,zero:=some [.nil] }
theorem zTR:Facts CC Tryz.prog 74 td74:=⟨by kernel_rfl,by kernel_rfl,by kernel_rfl,by kernel_rfl,by kernel_rfl,by kernel_rfl,by kernel_rfl,by kernel_rfl,by kernel_rfl,by kernel_rfl,by kernel_rfl,fun N=>by kernel_rfl,fun i h=>(by first | (injection h with h; subst h; exact ⟨rfl,rfl⟩) | cases h),fun n i h=>(by cases h),.inr rfl,.inr rfl,fun x k r h=>(by cases h),fun l h=>za h,fun h=>(by cases h),fun i h=>(by cases h)⟩
def td84:TD UU:={ has:=true,agg:=false,cells:=1,bytes:=24,el:=some 5,zero:=some [.nil],isByt:=true }
theorem zSJ:Facts CC Tryz.prog 84 td84:=⟨by kernel_rfl,by kernel_rfl,by kernel_rfl,by kernel_rfl,by kernel_rfl,by kernel_rfl,by kernel_rfl,by kernel_rfl,by kernel_rfl,by kernel_rfl,by kernel_rfl,fun N=>by kernel_rfl,fun i h=>(by first | (injection h with h; subst h; exact ⟨rfl,rfl⟩) | cases h),fun n i h=>(by cases h),.inl (by kernel_rfl),.inr rfl,fun x k r h=>(by cases h),fun l h=>za h,fun h=>(by cases h),fun i h=>(by cases h)⟩
def td92:TD UU:={ has:=true,agg:=true,cells:=9,bytes:=88,code:=some TI.tk,flds:=[(0,30),(6,22),(7,4),(8,4)],isStruct:=true,zero:=some [.int .i64 0,.str [],.int .i64 0,.int .i64 0,.int .i64 0,.bool false,.nil,.bool false,.bool false] }
theorem zR2:Facts CC Tryz.prog 92 td92:=⟨by kernel_rfl,by kernel_rfl,by kernel_rfl,by kernel_rfl,by kernel_rfl,by kernel_rfl,by kernel_rfl,by kernel_rfl,by kernel_rfl,by kernel_rfl,by kernel_rfl,fun N=>by kernel_rfl,fun i h=>(by first | (injection h with h; subst h; exact ⟨rfl,rfl⟩) | cases h),fun n i h=>(by cases h),.inr rfl,.inr rfl,fun x k r h=>(by cases h),fun l h=>za h,fun h=>(by cases h),fun i h=>(by cases h)⟩
def td104:TD UU:={ has:=true,agg:=true,cells:=48,bytes:=768,zero:=some [.str [],.str [],.str [],.str [],.str [],.str [],.str [],.str [],.str [],.str [],.str [],.str [],.str [],.str [],.str [],.str [],.str [],.str [],.str [],.str [],.str [],.str [],.str [],.str [],.str [],.str [],.str [],.str [],.str [],.str [],.str [],.str [],.str [],.str [],.str [],.str [],.str [],.str [],.str [],.str [],.str [],.str [],.str [],.str [],.str [],.str [],.str [],.str []],arr:=some (48,TI.str),bpl:=[(0,9),(1,9),(2,9),(3,9),(4,9),(5,9),(6,9),(7,9),(8,9),(9,9),(10,9),(11,9),(12,9),(13,9),(14,9),(15,9),(16,9),(17,9),(18,9),(19,9),(20,9),(21,9),(22,9),(23,9),(24,9),(25,9),(26,9),(27,9),(28,9),(29,9),(30,9),(31,9),(32,9),(33,9),(34,9),(35,9),(36,9),(37,9),(38,9),(39,9),(40,9),(41,9),(42,9),(43,9),(44,9),(45,9),(46,9),(47,9)] }
set_option maxRecDepth 100000 in
theorem zQc:Facts CC Tryz.prog 104 td104:=⟨by kernel_rfl,by kernel_rfl,by kernel_rfl,by kernel_rfl,by kernel_rfl,by kernel_rfl,by kernel_rfl,by kernel_rfl,by kernel_rfl,by kernel_rfl,by kernel_rfl,fun N=>by kernel_rfl,fun i h=>(by first | (injection h with h; subst h; exact ⟨rfl,rfl⟩) | cases h),fun n i h=>(by injection h with h; injection h with h _; subst h; kernel_rfl),.inr rfl,.inl (by kernel_rfl),fun x k r h=>(by cases h),fun l h=>za h,fun h=>(by cases h),fun i h=>(by cases h)⟩
def td105:TD UU:={ has:=true,agg:=false,cells:=1,bytes:=24,el:=some 63,zero:=some [.nil] }
theorem zQU:Facts CC Tryz.prog 105 td105:=⟨by kernel_rfl,by kernel_rfl,by kernel_rfl,by kernel_rfl,by kernel_rfl,by kernel_rfl,by kernel_rfl,by kernel_rfl,by kernel_rfl,by kernel_rfl,by kernel_rfl,fun N=>by kernel_rfl,fun i h=>(by first | (injection h with h; subst h; exact ⟨rfl,rfl⟩) | cases h),fun n i h=>(by cases h),.inr rfl,.inr rfl,fun x k r h=>(by cases h),fun l h=>za h,fun h=>(by cases h),fun i h=>(by cases h)⟩
def td116:TD UU:={ has:=true,agg:=false,cells:=1,bytes:=8,ik:=some .u64,zero:=some [.int .u64 0] }
theorem zRP:Facts CC Tryz.prog 116 td116:=⟨by kernel_rfl,by kernel_rfl,by kernel_rfl,by kernel_rfl,by kernel_rfl,by kernel_rfl,by kernel_rfl,by kernel_rfl,by kernel_rfl,by kernel_rfl,by kernel_rfl,fun N=>by kernel_rfl,fun i h=>(by first | (injection h with h; subst h; exact ⟨rfl,rfl⟩) | cases h),fun n i h=>(by cases h),.inr rfl,.inr rfl,fun x k r h=>(by cases h),fun l h=>za h,fun h=>(by cases h),fun i h=>(by cases h)⟩
def td128:TD UU:={ has:=true,agg:=false,cells:=1,bytes:=8,zero:=some [.con (.pointer none)] }
theorem zRG:Facts CC Tryz.prog 128 td128:=⟨by kernel_rfl,by kernel_rfl,by kernel_rfl,by kernel_rfl,by kernel_rfl,by kernel_rfl,by kernel_rfl,by kernel_rfl,by kernel_rfl,by kernel_rfl,by kernel_rfl,fun N=>by kernel_rfl,fun i h=>(by first | (injection h with h; subst h; exact ⟨rfl,rfl⟩) | cases h),fun n i h=>(by cases h),.inr rfl,.inr rfl,fun x k r h=>(by cases h),fun l h=>za h,fun h=>(by cases h),fun i h=>(by cases h)⟩
def td138:TD UU:={ has:=true,agg:=false,cells:=1,bytes:=24,el:=some 22,zero:=some [.nil] }
theorem zQM:Facts CC Tryz.prog 138 td138:=⟨by kernel_rfl,by kernel_rfl,by kernel_rfl,by kernel_rfl,by kernel_rfl,by kernel_rfl,by kernel_rfl,by kernel_rfl,by kernel_rfl,by kernel_rfl,by kernel_rfl,fun N=>by kernel_rfl,fun i h=>(by first | (injection h with h; subst h; exact ⟨rfl,rfl⟩) | cases h),fun n i h=>(by cases h),.inr rfl,.inr rfl,fun x k r h=>(by cases h),fun l h=>za h,fun h=>(by cases h),fun i h=>(by cases h)⟩
def tdL:List (Nat×TD UU):=[(3,td3),(4,td4),(5,td5),(9,td9),(20,td20),(21,td21),(22,td22),(24,td24),(27,td27),(30,td30),(32,td32),(33,td33),(46,td46),(48,td48),(51,td51),(55,td55),(56,td56),(57,td57),(59,td59),(63,td63),(71,td71),(72,td72),(74,td74),(84,td84),(92,td92),(104,td104),(105,td105),(116,td116),(128,td128),(138,td138)]
def Tb:Nat->TD UU:=zGs tdL
theorem zDE:TbOk CC Tryz.prog Tb:=zLI (by
 intro p hp;simp only [tdL,List.mem_cons,List.not_mem_nil,or_false] at hp;rcases hp with rfl | rfl | rfl | rfl | rfl | rfl | rfl | rfl | rfl | rfl | rfl | rfl | rfl | rfl | rfl | rfl | rfl | rfl | rfl | rfl | rfl | rfl | rfl | rfl | rfl | rfl | rfl | rfl | rfl | rfl
 . exact td3_ok
 . exact td4_ok
 . exact td5_ok
 . exact td9_ok
 . exact zTM
 . exact zRt
 . exact zRo
 . exact zSI
 . exact zSk
 . exact zSY
 . exact zRn
 . exact zSx
 . exact zR7
 . exact zTJ
 . exact zRq
 . exact zTK
 . exact zSX
 . exact zTQ
 . exact zSh
 . exact zTE
 . exact zRl
 . exact zTO
 . exact zTR
 . exact zSJ
 . exact zR2
 . exact zQc
 . exact zQU
 . exact zRP
 . exact zRG
 . exact zQM)
end
end Go.Proofs.YtfjiiknfopmcjaaGreatDoor
section
namespace Go.Den
def zm (l:List (Nat×List (Nat×Nat×Nat))) (n:Nat):List (Nat×Nat×Nat):=(zB l n).getD []
def zl (l:List (Nat×List Nat)) (n:Nat):List Nat:=(zB l n).getD []
end Go.Den
namespace Go.Proofs.YtfjiiknfopmcjaaGreatDoor
open Go.Al Go.Den
abbrev LK:=List (SK UU)
abbrev Str:=List UInt8
abbrev tkHd (x:TkT) (h:List Str):TkT:=⟨x.kind,x.text,x.file,x.ffrom,x.fto,x.blank,h,x.mark,x.op⟩
abbrev tkBl (x:TkT) (b:Bool):TkT:=⟨x.kind,x.text,x.file,x.ffrom,x.fto,b,x.hide,x.mark,x.op⟩
abbrev tkOp (x:TkT) (o:Bool):TkT:=⟨x.kind,x.text,x.file,x.ffrom,x.fto,x.blank,x.hide,x.mark,o⟩
abbrev toBl (x:TokT) (b:Bool):TokT:=⟨x.kind,x.text,x.file,x.ffrom,x.fto,b⟩
def syn:List PanicEntry:=[]
def nn (a r:List (AK UU)):zK a->Option (zK r):=fun _=>none
abbrev rdK:SK UU:=.box [.str,.int .i64]
abbrev RdT:=Str×Int×Unit
abbrev DD (α:Type):=Str->Int->Option (α×Int)
def fD {aa rs:List (SK UU)} (m:zA aa->DD (zA rs)) {R:Type} (x:RdT×Unit) (a:zA aa) (K:RdT×Unit->zA rs->Option R):Option R:=
 Option.bind (m a x.1.1 x.1.2.1) fun y=>K ((x.1.1,y.2,()),()) y.1
abbrev cD (aa rs:List (SK UU)) (m:zA aa->DD (zA rs)):CP UU:=⟨[rdK],[rdK],aa,rs,fun x a _ K=>fD m x a K⟩
def fRD {aa rs:List (SK UU)} (m:zA aa->Str->Int->Option (zA rs)) {R:Type} (x:RdT×zA aa) (K:zA rs->Option R):Option R:=
 Option.bind (m x.2 x.1.1 x.1.2.1) fun y=>K y
abbrev cRD (aa rs:List (SK UU)) (m:zA aa->Str->Int->Option (zA rs)):CR UU:=⟨rdK::aa,rs,fun x K=>fRD m x K⟩
def fF {aa rs:List (SK UU)} (m:zA aa->Option (zA rs)) {R:Type} (x:Unit) (a:zA aa) (K:Unit->zA rs->Option R):Option R:=
 Option.bind (m a) fun y=>K () y
abbrev cF (aa rs:List (SK UU)) (m:zA aa->Option (zA rs)):CP UU:=⟨[],[],aa,rs,fun x a _ K=>fF m x a K⟩
abbrev woK:SK UU:=.box [.mc1 TI.mac,.int .i64]
abbrev maK:SK UU:=.box [.str,.bool,.dl TI.str,.bool,.bl TI.tok]
abbrev MapM:=List (Str×MacT)
abbrev k0:LK:=[]
abbrev kB:LK:=[.bool]
abbrev kS:LK:=[.str]
abbrev kI:LK:=[.int .i64]
abbrev kL:LK:=[.bl TI.tk]
abbrev kD:LK:=[.dl TI.tk]
abbrev kA:LK:=[.arr TI.tk]
abbrev kE:LK:=[.dl TI.tk,.int .i64]
abbrev kF:LK:=[.arr TI.tk,.int .i64]
abbrev kM:LK:=[.st TI.mac,.bl TI.tk]
abbrev kG:LK:=[.arr TI.tk,.int .i64,.int .i64]
abbrev CQ:=CPOk CC Tryz.prog syn
abbrev LT:=List TokT
abbrev ck {ρ:Type} (n:Nat) (x:Option ρ):Option ρ:=cond (okN 40 n) x none
abbrev bo {α ρ:Type} (x:Option (Option α)) (f:α->Option (Option ρ)):Option (Option ρ):=Option.bind x fun o=>zd o (some none) f
theorem rpk {fu d:Nat} {li:List (Nat×FD UU)} {lo:List (Nat×Con UU)} {lr:List (Nat×CR UU)} {lp:List (Nat×CP UU)} {f:Nat} {fd:FD UU} {io oo az rs:LK} {fn:zA io->zA az->Option (Option (zA oo×zA rs))} (h1:∀ f fd,zB li f=some fd->FDOk Tryz.prog (hasN (lo.map (·.1))) (hasN (lr.map (·.1))) f fd) (h2:∀ f c,zB lo f=some c->OrcOk CC Tryz.prog f c) (h3:∀ f c,zB lr f=some c->zL Tryz.prog f=true/\CROk CC Tryz.prog f c) (h4:∀ f c,zB lp f=some c->zL Tryz.prog f=true/\CPOk CC Tryz.prog syn f c) (h5:FDOk Tryz.prog (hasN (lo.map (·.1))) (hasN (lr.map (·.1))) f fd) (h6:Nat.ble (io.length+az.length) fd.n=true) (h:∀ x a,runP CC Tb fu d (zB li) (zB lo) (zB lr) (zB lp) fd io oo az rs x a=fn x a):CPOk CC Tryz.prog syn f ⟨io,oo,az,rs,fnP fn⟩:=zSV zDE CCok mixed (fun g=>(zx (l:=lo) g).symm) (fun g=>(zx (l:=lr) g).symm) h1 h2 h3 h4 h5 (Nat.le_of_ble_eq_true h6) h
theorem rfk {fu d:Nat} {li:List (Nat×FD UU)} {lo:List (Nat×Con UU)} {lr:List (Nat×CR UU)} {lp:List (Nat×CP UU)} {f:Nat} {fd:FD UU} {c:Con UU} (h1:∀ f fd,zB li f=some fd->FDOk Tryz.prog (hasN (lo.map (·.1))) (hasN (lr.map (·.1))) f fd) (h2:∀ f c,zB lo f=some c->OrcOk CC Tryz.prog f c) (h3:∀ f c,zB lr f=some c->zL Tryz.prog f=true/\CROk CC Tryz.prog f c) (h4:∀ f c,zB lp f=some c->zL Tryz.prog f=true/\CPOk CC Tryz.prog syn f c) (h5:FDOk Tryz.prog (hasN (lo.map (·.1))) (hasN (lr.map (·.1))) f fd) (h6:Nat.ble (Con.as c).length fd.n=true) (h7:∀ a ∈ c.rs,∀ i,a≠.ls i) (h:∀ nf x,xK CC Tb fu d (zB li) (zB lo) (zB lr) (zB lp) fd (Con.as c) c.rs nf x=c.fn x):ConOk CC Tryz.prog f c:=zQB zDE CCok mixed (fun g=>(zx (l:=lo) g).symm) (fun g=>(zx (l:=lr) g).symm) h1 h2 h3 h4 h5 (Nat.le_of_ble_eq_true h6) h7 h
theorem fdk {f:Nat} {fn:Func} {fd:FD UU} {pf rf:FuncId->Bool} (h:Tryz.prog.funcs[f]? = some fn) (h1:fn.ntmps=fd.n) (h2:fn.results=fd.rs.toArray) (h3:fn.body=some fd.body:=by kernel_rfl) (h4:zL Tryz.prog f=true:=by kernel_rfl) (h5:xB pf rf fd.fi ⟨fd.n,[]⟩ fd.body=true:=by kernel_rfl) (h6:xH fd.fi fd.body=true:=by kernel_rfl):FDOk Tryz.prog pf rf f fd:=⟨⟨fn,h,h3,h1,h2⟩,h4,h5,h6⟩
abbrev WoT:=MapM×Int×Unit
abbrev WW (α:Type):=MapM->Int->Option (α×MapM×Int)
def fW {aa rs:List (SK UU)} (m:zA aa->WW (zA rs)) {R:Type} (x:WoT×Unit) (a:zA aa) (K:WoT×Unit->zA rs->Option R):Option R:=
 Option.bind (m a x.1.1 x.1.2.1) fun y=>K ((y.2.1,y.2.2,()),()) y.1
abbrev cW (aa rs:List (SK UU)) (m:zA aa->WW (zA rs)):CP UU:=⟨[woK],[woK],aa,rs,fun x a _ K=>fW m x a K⟩
end Go.Proofs.YtfjiiknfopmcjaaGreatDoor
end
namespace Go.Proofs.YtfjiiknfopmcjaaGreatDoor
section
open Go.Al Go.Den
abbrev as37:List (AK UU):=[.str,.int .u8]
abbrev rs37:List (AK UU):=[.int .i64]
abbrev as38:List (AK UU):=[.str,.str]
abbrev rs38:List (AK UU):=[.int .i64]
def kf18:Nat->List Nat
 | 0=>[0]
 | 1=>[0,6]
 | 2=>[0,6,7]
 | 3=>[0,6,7]
 | 4=>[0,6,7]
 | 5=>[0,6,7]
 | 6=>[0,7]
 | 7=>[0]
 | 8=>[0,2]
 | 9=>[0,21]
 | 10=>[0,3]
 | 11=>[0,3,33]
 | 12=>[0,3]
 | 13=>[0]
 | 14=>[0,2]
 | 15=>[0,54]
 | 16=>[0,2]
 | 17=>[0,4]
 | 18=>[0,4,67]
 | 19=>[0,2]
 | 20=>[0]
 | 21=>[0,2]
 | _=>[]
def jn18:List (Nat×Head UU):=[(7,⟨[0],[(7,.bool)],[(0,rdK)]⟩),(13,⟨[0],[(3,.int .i64)],[(0,rdK)]⟩),(9,⟨[0],[],[(0,rdK)]⟩)]
noncomputable def fd18:FD UU:=⟨⟨fun d=>hasN [] d,fun d=>hasN [] d,kf18,zB [],zB jn18,zm [],zl []⟩,zR Tryz.f18,77,[.tmp 2]⟩
def kf19:Nat->List Nat
 | 0=>[0]
 | 1=>[0,10]
 | 2=>[0,2,3]
 | 3=>[0,4]
 | 4=>[0,4,14]
 | 5=>[0,2,3]
 | 6=>[0,5]
 | 7=>[0,5,19]
 | 8=>[0,2,3]
 | 9=>[0,6]
 | 10=>[0,6,24]
 | 11=>[0,2,3]
 | 12=>[0,7]
 | 13=>[0,7,29]
 | 14=>[0,2,3]
 | 15=>[0,8]
 | 16=>[0,8,34]
 | 17=>[0,2,3]
 | 18=>[0,2,3]
 | _=>[]
noncomputable def fd19:FD UU:=⟨⟨fun d=>hasN [] d,fun d=>hasN [] d,kf19,zB [],zB [],zm [],zl []⟩,zR Tryz.f19,36,[.tmp 2,.tmp 3]⟩
def kf36:Nat->List Nat
 | 0=>[0,1]
 | 1=>[0,4]
 | _=>[]
noncomputable def fd36:FD UU:=⟨⟨fun d=>hasN [] d,fun d=>hasN [] d,kf36,zB [],zB [],zm [],zl []⟩,zR Tryz.f36,16,[.tmp 4]⟩
def kf39:Nat->List Nat
 | 0=>[0]
 | 1=>[0,3]
 | 2=>[0,3,17]
 | 3=>[0,3]
 | 4=>[0,2]
 | _=>[]
def hd39:List (Nat×Head UU):=[(2,⟨[0],[(3,.int .i64)],[(0,rdK)]⟩)]
noncomputable def fd39:FD UU:=⟨⟨fun d=>hasN [] d,fun d=>hasN [] d,kf39,zB hd39,zB [],zm [],zl []⟩,zR Tryz.f39,21,[.tmp 2]⟩
def kf40:Nat->List Nat
 | 0=>[0]
 | 1=>[0,20]
 | 2=>[0,2]
 | 3=>[0,3]
 | 4=>[0,3,4,5]
 | 5=>[0,2]
 | 6=>[0,3,4,29]
 | 7=>[0,3]
 | 8=>[0,3,43]
 | 9=>[0,3]
 | _=>[]
def hd40:List (Nat×Head UU):=[(4,⟨[0],[(3,.int .i64)],[(0,rdK)]⟩)]
noncomputable def fd40:FD UU:=⟨⟨fun d=>hasN [] d,fun d=>hasN [] d,kf40,zB hd40,zB [],zm [],zl []⟩,zR Tryz.f40,56,[.tmp 2]⟩
def kf41:Nat->List Nat
 | 0=>[0,1]
 | 1=>[0,1,21]
 | 2=>[0,4]
 | 3=>[0,1,5]
 | 4=>[0,1,5,33]
 | 5=>[0,1,5]
 | 6=>[0,1,5,38]
 | 7=>[0,1,5,38,39]
 | 8=>[0,5,47]
 | 9=>[0,4]
 | 10=>[0,4]
 | 11=>[0,1,5,38,50]
 | 12=>[0,4]
 | 13=>[0,1,5,52]
 | 14=>[0,1,5]
 | 15=>[0,1,5,73]
 | 16=>[0,4]
 | 17=>[0,4]
 | _=>[]
def hd41:List (Nat×Head UU):=[(4,⟨[0,1],[(5,.int .i64)],[(0,rdK)]⟩)]
noncomputable def fd41:FD UU:=⟨⟨fun d=>hasN [] d,fun d=>hasN [] d,kf41,zB hd41,zB [],zm [(1,[(18,8,0),(18,12,0)])],zl []⟩,zR Tryz.f41,74,[.tmp 4]⟩
def kf42:Nat->List Nat
 | 0=>[0]
 | 1=>[0,3]
 | 2=>[0,3,6,7]
 | 3=>[0,3,6,7,8]
 | 4=>[0,3,5,6,7]
 | 5=>[0,3,5,6,7,19]
 | 6=>[0,3,6,7]
 | 7=>[0,3,6,7]
 | 8=>[0,2]
 | _=>[]
def hd42:List (Nat×Head UU):=[(3,⟨[0,6],[(3,.int .i64),(7,.int .i64)],[(0,rdK)]⟩)]
noncomputable def fd42:FD UU:=⟨⟨fun d=>hasN [] d,fun d=>hasN [] d,kf42,zB hd42,zB [],zm [],zl []⟩,zR Tryz.f42,24,[.tmp 2]⟩
def kf55:Nat->List Nat
 | 0=>[0,1]
 | 1=>[4]
 | _=>[]
noncomputable def fd55:FD UU:=⟨⟨fun d=>hasN [] d,fun d=>hasN [] d,kf55,zB [],zB [],zm [],zl []⟩,zR Tryz.f55,8,[.tmp 4]⟩
def kf58:Nat->List Nat
 | 0=>[0]
 | 1=>[2]
 | _=>[]
noncomputable def fd58:FD UU:=⟨⟨fun d=>hasN [] d,fun d=>hasN [] d,kf58,zB [],zB [],zm [],zl []⟩,zR Tryz.f58,21,[.tmp 2]⟩
def kf59:Nat->List Nat
 | 0=>[0]
 | 1=>[2]
 | _=>[]
noncomputable def fd59:FD UU:=⟨⟨fun d=>hasN [] d,fun d=>hasN [] d,kf59,zB [],zB [],zm [],zl []⟩,zR Tryz.f59,9,[.tmp 2]⟩
def kf67:Nat->List Nat
 | 0=>[0,1]
 | 1=>[4]
 | _=>[]
noncomputable def fd67:FD UU:=⟨⟨fun d=>hasN [] d,fun d=>hasN [] d,kf67,zB [],zB [],zm [],zl []⟩,zR Tryz.f67,18,[.tmp 4]⟩
noncomputable def run36 (fu:Nat) (x:zA [rdK]) (a:zA kS):Option (Option (zA [rdK]×zA kB)):=
 runP CC Tb fu 4 (zB [(55,fd55),(67,fd67)]) (zB []) (zB []) (zB []) fd36 [rdK] [rdK] kS kB x a
theorem fdok36:FDOk Tryz.prog (hasN []) (hasN []) 36 fd36:=fdk Tryz.func36 Tryz.ntmps36 Tryz.results36
theorem zO9:FDOk Tryz.prog (hasN []) (hasN []) 55 fd55:=fdk Tryz.func55 Tryz.ntmps55 Tryz.results55
theorem zOw:FDOk Tryz.prog (hasN []) (hasN []) 67 fd67:=fdk Tryz.func67 Tryz.ntmps67 Tryz.results67
noncomputable def run18 (fu:Nat) (c37:List UInt8×Int×Unit->Option (Int×Unit)) (c38:List UInt8×List UInt8×Unit->Option (Int×Unit)) (c35:zA kI->Str->Int->Option (zA ([.int .u8]:LK))) (c36:zA kS->DD (zA kB)) (x:zA [rdK]) (a:zA k0):Option (Option (zA [rdK]×zA kB)):=
 runP CC Tb fu 2 (zB []) (zB [(37,(⟨as37,rs37,c37⟩:Con UU)),(38,(⟨as38,rs38,c38⟩:Con UU))]) (zB [(35,cRD kI ([.int .u8]:LK) c35)]) (zB [(36,cD kS kB c36)]) fd18 [rdK] [rdK] k0 kB x a
theorem fdok18:FDOk Tryz.prog (hasN [37,38]) (hasN [35]) 18 fd18:=fdk Tryz.func18 Tryz.ntmps18 Tryz.results18
noncomputable def run39 (fu:Nat) (c35:zA kI->Str->Int->Option (zA ([.int .u8]:LK))) (x:zA [rdK]) (a:zA k0):Option (Option (zA [rdK]×zA kI)):=
 runP CC Tb fu 4 (zB [(58,fd58),(59,fd59)]) (zB []) (zB [(35,cRD kI ([.int .u8]:LK) c35)]) (zB []) fd39 [rdK] [rdK] k0 kI x a
theorem fdok39:FDOk Tryz.prog (hasN []) (hasN [35]) 39 fd39:=fdk Tryz.func39 Tryz.ntmps39 Tryz.results39
theorem zOn:FDOk Tryz.prog (hasN []) (hasN [35]) 58 fd58:=fdk Tryz.func58 Tryz.ntmps58 Tryz.results58
theorem zO1:FDOk Tryz.prog (hasN []) (hasN [35]) 59 fd59:=fdk Tryz.func59 Tryz.ntmps59 Tryz.results59
noncomputable def run40 (fu:Nat) (c37:List UInt8×Int×Unit->Option (Int×Unit)) (c35:zA kI->Str->Int->Option (zA ([.int .u8]:LK))) (x:zA [rdK]) (a:zA k0):Option (Option (zA [rdK]×zA kI)):=
 runP CC Tb fu 4 (zB [(58,fd58),(59,fd59)]) (zB [(37,(⟨as37,rs37,c37⟩:Con UU))]) (zB [(35,cRD kI ([.int .u8]:LK) c35)]) (zB []) fd40 [rdK] [rdK] k0 kI x a
theorem fdok40:FDOk Tryz.prog (hasN [37]) (hasN [35]) 40 fd40:=fdk Tryz.func40 Tryz.ntmps40 Tryz.results40
theorem zOj:FDOk Tryz.prog (hasN [37]) (hasN [35]) 58 fd58:=fdk Tryz.func58 Tryz.ntmps58 Tryz.results58
theorem zO5:FDOk Tryz.prog (hasN [37]) (hasN [35]) 59 fd59:=fdk Tryz.func59 Tryz.ntmps59 Tryz.results59
noncomputable def run41 (fu:Nat) (c35:zA kI->Str->Int->Option (zA ([.int .u8]:LK))) (x:zA [rdK]) (a:zA ([.int .u8]:LK)):Option (Option (zA [rdK]×zA kI)):=
 runP CC Tb fu 2 (zB []) (zB []) (zB [(35,cRD kI ([.int .u8]:LK) c35)]) (zB []) fd41 [rdK] [rdK] ([.int .u8]:LK) kI x a
theorem fdok41:FDOk Tryz.prog (hasN []) (hasN [35]) 41 fd41:=fdk Tryz.func41 Tryz.ntmps41 Tryz.results41
noncomputable def run42 (fu:Nat) (c36:zA kS->DD (zA kB)) (x:zA [rdK]) (a:zA k0):Option (Option (zA [rdK]×zA kI)):=
 runP CC Tb fu 2 (zB []) (zB []) (zB []) (zB [(36,cD kS kB c36)]) fd42 [rdK] [rdK] k0 kI x a
theorem fdok42:FDOk Tryz.prog (hasN []) (hasN []) 42 fd42:=fdk Tryz.func42 Tryz.ntmps42 Tryz.results42
noncomputable def run19 (fu:Nat) (c36:zA kS->DD (zA kB)) (c39:zA k0->DD (zA kI)) (c40:zA k0->DD (zA kI)) (c41:zA ([.int .u8]:LK)->DD (zA kI)) (c42:zA k0->DD (zA kI)) (x:zA [rdK]) (a:zA k0):Option (Option (zA [rdK]×zA ([.int .i64,.int .i64]:LK))):=
 runP CC Tb fu 2 (zB []) (zB []) (zB []) (zB [(36,cD kS kB c36),(39,cD k0 kI c39),(40,cD k0 kI c40),(41,cD ([.int .u8]:LK) kI c41),(42,cD k0 kI c42)]) fd19 [rdK] [rdK] k0 ([.int .i64,.int .i64]:LK) x a
theorem fdok19:FDOk Tryz.prog (hasN []) (hasN []) 19 fd19:=fdk Tryz.func19 Tryz.ntmps19 Tryz.results19
end
section
open Go.Al Go.Den
abbrev as9:List (AK UU):=[.int .i64,.str]
abbrev rs9:List (AK UU):=[.dl TI.tok]
abbrev as13:List (AK UU):=[.str]
abbrev rs13:List (AK UU):=[.st TI.tok,.bool]
abbrev as16:List (AK UU):=[.str]
abbrev rs16:List (AK UU):=[.dl TI.char]
abbrev as17:List (AK UU):=[.dl TI.char]
abbrev rs17:List (AK UU):=[.str]
def kf9:Nat->List Nat
 | 0=>[0,1]
 | 1=>[0,5]
 | 2=>[0,5,6]
 | 3=>[0,5,6,7]
 | 4=>[0,5,6,7,8]
 | 5=>[0,5,6,7,8,32]
 | 6=>[0,5,6,7,8]
 | 7=>[0,5,6,7,8,43]
 | 8=>[4]
 | 9=>[0,5,6,7,8,9,10]
 | 10=>[0,5,6,7,8,10]
 | 11=>[0,5,6,7,8,10]
 | 12=>[0,5,6,7,8]
 | 13=>[0,5,6,7]
 | _=>[]
def hd9:List (Nat×Head UU):=[(4,⟨[0,5,6],[(7,.ow true TI.tok)],[(6,rdK)]⟩),(5,⟨[0,5,6,8],[(7,.ow true TI.tok)],[(6,rdK),(8,.box [.int .i64,.str,.int .i64,.int .i64,.int .i64,.bool])]⟩)]
noncomputable def fd9:FD UU:=⟨⟨fun d=>hasN [] d,fun d=>hasN [] d,kf9,zB hd9,zB [],zm [(10,[(1000066,53,6),(1000067,53,6),(1000066,57,6),(1000067,57,6),(1000066,61,6),(1000067,61,6)]),(11,[(1000088,71,6),(1000089,71,6),(1000088,74,6),(1000089,74,6),(1000088,79,6),(1000089,79,6),(1000088,85,6),(1000089,85,6)])],zl []⟩,zR Tryz.f9,102,[.tmp 4]⟩
def kf13:Nat->List Nat
 | 0=>[0,2]
 | 1=>[0,2,4]
 | 2=>[2,4,24]
 | 3=>[2,3]
 | 4=>[2,3]
 | _=>[]
noncomputable def fd13:FD UU:=⟨⟨fun d=>hasN [] d,fun d=>hasN [] d,kf13,zB [],zB [],zm [],zl []⟩,zR Tryz.f13,29,[.cell 2 30,.tmp 3]⟩
noncomputable def run9 (fu:Nat) (c16:List UInt8×Unit->Option (List CharT×Unit)) (c17:List CharT×Unit->Option (List UInt8×Unit)) (c18:zA k0->DD (zA kB)) (c19:zA k0->DD (zA ([.int .i64,.int .i64]:LK))) (nf:Nat->Bool) (x0:Int) (x1:List UInt8):Option (zK rs9):=
 xK CC Tb fu 2 (zB []) (zB [(16,(⟨as16,rs16,c16⟩:Con UU)),(17,(⟨as17,rs17,c17⟩:Con UU))]) (zB []) (zB [(18,cD k0 kB c18),(19,cD k0 ([.int .i64,.int .i64]:LK) c19)]) fd9 as9 rs9 nf (x0,x1,())
theorem fdok9:FDOk Tryz.prog (hasN [16,17]) (hasN []) 9 fd9:=fdk Tryz.func9 Tryz.ntmps9 Tryz.results9
noncomputable def run13 (fu:Nat) (c9:Int×List UInt8×Unit->Option (List TokT×Unit)) (nf:Nat->Bool) (x0:List UInt8):Option (zK rs13):=
 xK CC Tb fu 2 (zB []) (zB [(9,(⟨as9,rs9,c9⟩:Con UU))]) (zB []) (zB []) fd13 as13 rs13 nf (x0,())
theorem fdok13:FDOk Tryz.prog (hasN [9]) (hasN []) 13 fd13:=fdk Tryz.func13 Tryz.ntmps13 Tryz.results13
end
end Go.Proofs.YtfjiiknfopmcjaaGreatDoor
section
namespace Go.Proofs
open Go.Shelf
def Tryz.lays137_ren:Go.Shelf.Ren:=⟨fun | 137=>37 | 217=>56 | 266=>68 | n=>n,fun | 9=>9 | 5=>5 | 3=>3 | n=>n,fun | n=>n⟩
theorem Tryz.lays137:Go.Proofs.Lays.n137 Tryz.prog Tryz.lays137_ren:={
 mixed:=by kernel_rfl
 f137:=Tryz.func37.trans (congrArg some (by kernel_rfl))
 f217:=Tryz.func56.trans (congrArg some (by kernel_rfl))
 f266:=Tryz.func68.trans (congrArg some (by kernel_rfl))
 t3:=Tryz.underlying3
 a3:=Tryz.isAgg3
 z3:=Tryz.sizeOf3
 v3:=Tryz.zeroValue3
 t5:=Tryz.underlying5
 a5:=Tryz.isAgg5
 z5:=Tryz.sizeOf5
 v5:=Tryz.zeroValue5
 t9:=Tryz.underlying9
 a9:=Tryz.isAgg9
 z9:=Tryz.sizeOf9
 v9:=Tryz.zeroValue9 }
open Go.RowKit in
theorem Tryz.strings_IndexByte (s:ByteArray) (c:Int) (w:World) :
 Calls Tryz.prog 37 #[.string s,.int .u8 c] w fun e w'=>e = .returned (.int .i64 (Lib.indexByte s.data.toList c.toNat.toUInt8))/\w' = w:=Any.strings_IndexByte Tryz.lays137 s c w
def Tryz.lays143_ren:Go.Shelf.Ren:=⟨fun | 143=>38 | 219=>57 | 217=>56 | 225=>69 | 224=>70 | 267=>71 | 266=>68 | 314=>79 | n=>n,fun | 9=>9 | 3=>3 | 4=>4 | 5=>5 | 46=>116 | 146=>124 | 51=>123 | n=>n,fun | 1=>1 | n=>n⟩
theorem Tryz.lays143:Go.Proofs.Lays.n143 Tryz.prog Tryz.lays143_ren:={
 mixed:=by kernel_rfl
 f143:=Tryz.func38.trans (congrArg some (by kernel_rfl))
 f217:=Tryz.func56.trans (congrArg some (by kernel_rfl))
 f219:=Tryz.func57.trans (congrArg some (by kernel_rfl))
 f224:=Tryz.func70.trans (congrArg some (by kernel_rfl))
 f225:=Tryz.func69.trans (congrArg some (by kernel_rfl))
 f266:=Tryz.func68.trans (congrArg some (by kernel_rfl))
 f267:=Tryz.func71.trans (congrArg some (by kernel_rfl))
 f314:=Tryz.func79.trans (congrArg some (by kernel_rfl))
 t3:=Tryz.underlying3
 a3:=Tryz.isAgg3
 z3:=Tryz.sizeOf3
 v3:=Tryz.zeroValue3
 t4:=Tryz.underlying4
 a4:=Tryz.isAgg4
 z4:=Tryz.sizeOf4
 v4:=Tryz.zeroValue4
 t5:=Tryz.underlying5
 a5:=Tryz.isAgg5
 z5:=Tryz.sizeOf5
 v5:=Tryz.zeroValue5
 t9:=Tryz.underlying9
 a9:=Tryz.isAgg9
 z9:=Tryz.sizeOf9
 v9:=Tryz.zeroValue9
 t46:=Tryz.underlying116
 a46:=Tryz.isAgg116
 z46:=Tryz.sizeOf116
 v46:=Tryz.zeroValue116
 t51:=Tryz.underlying123
 a51:=Tryz.isAgg123
 z51:=Tryz.sizeOf123
 v51:=Tryz.zeroValue123
 t146:=Tryz.underlying124
 a146:=Tryz.isAgg124
 z146:=Tryz.sizeOf124
 v146:=Tryz.zeroValue124
 g1:=by kernel_rfl }
open Go.RowKit Go.Lib in
theorem Tryz.strings_Index (s sub:ByteArray) (m:Int) (w:World) (hs:s.size < 4294967281) (hm:w.cell? ⟨1,0,none⟩=some (.int .i64 m)) :
 Calls Tryz.prog 38 #[.string s,.string sub] w fun e w'=>e = .returned (.int .i64 (Lib.index s.data.toList sub.data.toList))/\w' = w:=Any.strings_Index Tryz.lays143 s sub m w hs hm
def Tryz.lays99_ren:Go.Shelf.Ren:=⟨fun | 99=>55 | 206=>67 | n=>n,fun | 9=>9 | 4=>4 | 3=>3 | n=>n,fun | n=>n⟩
theorem Tryz.lays99:Go.Proofs.Lays.n99 Tryz.prog Tryz.lays99_ren:={
 mixed:=by kernel_rfl
 f99:=Tryz.func55.trans (congrArg some (by kernel_rfl))
 f206:=Tryz.func67.trans (congrArg some (by kernel_rfl))
 t3:=Tryz.underlying3
 a3:=Tryz.isAgg3
 z3:=Tryz.sizeOf3
 v3:=Tryz.zeroValue3
 t4:=Tryz.underlying4
 a4:=Tryz.isAgg4
 z4:=Tryz.sizeOf4
 v4:=Tryz.zeroValue4
 t9:=Tryz.underlying9
 a9:=Tryz.isAgg9
 z9:=Tryz.sizeOf9
 v9:=Tryz.zeroValue9 }
open Go.RowKit Go.Lib in
theorem Tryz.strings_HasPrefix (s p:ByteArray) (w:World) :
 Calls Tryz.prog 55 #[.string s,.string p] w fun e w'=>e = .returned (.bool (Lib.hasPrefix s.data.toList p.data.toList))/\w' = w:=Any.strings_HasPrefix Tryz.lays99 s p w
end Go.Proofs
namespace Go.Proofs.YtfjiiknfopmcjaaGreatDoor
open Go.Al Go.Den Go.RowKit Go.Sort
theorem zLP {B:Nat} {wm:Nat->Nat} {w:World} (h:GlobOk B wm w):∃ m,w.cell? ⟨1,0,none⟩=some (.int .i64 m):=by
 obtain ⟨h0,arr,el,m,h1,z,h2⟩:=h.one (1,fun us=>∃ m,us=[.int .i64 m]) (by simp [zNC]);refine ⟨z,?_⟩;unfold World.cell?;replace h1:w.heap[1]? = some (.cells arr el m):=h1;simp only [h1];have:arr=[Value.int .i64 z].toArray:=by rw [<- h2]
 rw [this];rfl
theorem qU {wm:Nat->Nat} {w w':World} (hwm:∀ b,w.heap.size<=b->wm b=0) (hb:Below w.heap.size w w') :
 (∀ b,w'.heap.size<=b->wm b=0)/\Step w.heap.size ⟨wm,fun _=>none,Fr.no⟩ w ⟨wm,fun _=>none,Fr.no⟩ w':=by
 have hL:Later ⟨wm,fun _=>none,Fr.no⟩ w ⟨wm,fun _=>none,Fr.no⟩ w':=⟨fun _=>Nat.le_refl _,fun _ _ h=>h,fun b o ho=>by
  have hb2:b < w.heap.size:=by
   rcases Nat.lt_or_ge b w.heap.size with h | h
   . exact h
   . replace ho:o < wm b:=ho;rw [hwm b h] at ho; omega
  exact World.cell?_of_block (hb.block b hb2)⟩
 exact ⟨fun b hb2=>hwm b (Nat.le_trans hb.size hb2),⟨hL,hb,fun b h=>(by simp [Fr.no] at h),fun _ _=>rfl,rfl⟩⟩
theorem pure37 (s:Str) (c:Int):PureF Tryz.prog 37 [.at (.string ⟨s.toArray⟩),.at (.int .u8 c)] (.at (.int .i64 (Lib.indexByte s c.toNat.toUInt8))):=by
 intro wm w us hwm hgl hu;cases hu with
 | cons hu1 hu2=>
  cases hu2 with
  | cons hu2 hu3=>
   cases hu3;have e:=zQ hu1;subst e;have e:=zQ hu2;subst e;refine (Tryz.strings_IndexByte ⟨s.toArray⟩ c w).mono ?_;rintro e w' ⟨rfl,rfl⟩;obtain ⟨q1,q2⟩:=qU hwm (Below.refl _ _);exact ⟨_,wm,rfl,q1,q2,RV_at_mk rfl⟩
theorem pure38 (s t:Str) (h:s.length < 4294967281):PureF Tryz.prog 38 [.at (.string ⟨s.toArray⟩),.at (.string ⟨t.toArray⟩)] (.at (.int .i64 (Lib.index s t))):=by
 intro wm w us hwm hgl hu;cases hu with
 | cons hu1 hu2=>
  cases hu2 with
  | cons hu2 hu3=>
   cases hu3;have e:=zQ hu1;subst e;have e:=zQ hu2;subst e;obtain ⟨m,hm⟩:=zLP hgl;refine (Tryz.strings_Index ⟨s.toArray⟩ ⟨t.toArray⟩ m w (by simpa [ByteArray.size] using h) hm).mono ?_;rintro e w' ⟨rfl,rfl⟩;obtain ⟨q1,q2⟩:=qU hwm (Below.refl _ _);exact ⟨_,wm,rfl,q1,q2,RV_at_mk rfl⟩
def c37 (x:Str×Int×Unit):Option (Int×Unit):=some (Lib.indexByte x.1 x.2.1.toNat.toUInt8,())
theorem ok37' (s:Str) (c:Int) (u:Unit) (vs:List V) (hvs:zCE CC as37 ((s,c,u):zK as37) vs):PureF Tryz.prog 37 vs (.at (.int .i64 (Lib.indexByte s c.toNat.toUInt8))):=by
 obtain ⟨v,vs',rfl,hv,v2,vs2,rfl,hv2,hvs⟩:=hvs;replace hvs:vs2=[]:=hvs;subst hvs;replace hv:v = .at (.string ⟨List.toArray s⟩):=hv;replace hv2:v2 = .at (.int .u8 c):=hv2;subst hv hv2;exact pure37 s c
theorem ok37:ConOk CC Tryz.prog 37 ⟨as37,rs37,c37⟩:=fun x y hx vs hvs=>by
 have:=ok37' x.1 x.2.1 x.2.2 vs hvs;injection hx with hx
 subst hx;exact this
def c38 (x:Str×Str×Unit):Option (Int×Unit):=if x.1.length < 4294967281 then some (Lib.index x.1 x.2.1,()) else none
theorem ok38' (s t:Str) (h:s.length < 4294967281) (u:Unit) (vs:List V) (hvs:zCE CC as38 ((s,t,u):zK as38) vs):PureF Tryz.prog 38 vs (.at (.int .i64 (Lib.index s t))):=by
 obtain ⟨v,vs',rfl,hv,v2,vs2,rfl,hv2,hvs⟩:=hvs;replace hvs:vs2=[]:=hvs;subst hvs;replace hv:v = .at (.string ⟨List.toArray s⟩):=hv;replace hv2:v2 = .at (.string ⟨List.toArray t⟩):=hv2;subst hv hv2;exact pure38 s t h
theorem ok38:ConOk CC Tryz.prog 38 ⟨as38,rs38,c38⟩:=fun x y hx vs hvs=>by
 obtain ⟨s,t,u⟩:=x;by_cases h:List.length (show Str from s) < 4294967281
 . have h2:c38 (s,t,u)=some (Lib.index s t,()):=if_pos h;replace hx:c38 (s,t,u)=some y:=hx;rw [h2] at hx;injection hx with hx
   subst hx;exact ok38' s t h u vs hvs
 . have h2:c38 (s,t,u)=none:=if_neg h;replace hx:c38 (s,t,u)=some y:=hx;rw [h2] at hx;cases hx
end Go.Proofs.YtfjiiknfopmcjaaGreatDoor
end
namespace Go.Proofs.YtfjiiknfopmcjaaGreatDoor
section
open Go.Al Go.Den Go.RowKit Go.Shelf
attribute [local go_sem] Oper.semAt_some
def exb (bx:Nat) (W:World) (b:Nat):Prop:=b=bx\/∃ o l c,W.cell? ⟨bx,0,none⟩=some (.slice (some ⟨b,o,none⟩) l c)
def BoxOk (n0 bx:Nat) (W:World):Prop:=n0<=bx/\(∃ arr t m,W.heap[bx]? = some (.cells arr t m))/\∀ b,exb bx W b->n0<=b/\b < W.heap.size
structure Kept (n0 bx:Nat) (A B:World):Prop where
 ok:BoxOk n0 bx B
 size:A.heap.size<=B.heap.size
 same:∀ b o v,A.cell? ⟨b,o,none⟩=some v->¬ exb bx A b->B.cell? ⟨b,o,none⟩=some v
 ex:∀ b,exb bx B b->exb bx A b\/A.heap.size<=b
 low:∀ b,b < n0->B.heap[b]? = A.heap[b]?
def kV (n0 bx:Nat) (A B:World):Prop:=BoxOk n0 bx A->Kept n0 bx A B
theorem zEt {A:World} {b o:Nat} {v:Value} (h:A.cell? ⟨b,o,none⟩=some v):b < A.heap.size:=by
 rcases Nat.lt_or_ge b A.heap.size with h1 | h1
 . exact h1
 . unfold World.cell? at h;have:A.heap[b]? = none:=Array.getElem?_eq_none h1;simp only [this] at h;cases h
theorem qH {A B:World} {b:Nat} (h:B.heap[b]? = A.heap[b]?) (o:Nat):B.cell? ⟨b,o,none⟩=A.cell? ⟨b,o,none⟩:=World.cell?_of_block h
theorem Kept.refl {n0 bx:Nat} {A:World} (h:BoxOk n0 bx A):Kept n0 bx A A:=⟨h,Nat.le_refl _,fun _ _ _ h _=>h,fun _ h=>.inl h,fun _ _=>rfl⟩
theorem Kept.trans {n0 bx:Nat} {A B C:World} (h:Kept n0 bx A B) (k:Kept n0 bx B C):Kept n0 bx A C:=by
 refine ⟨k.ok,Nat.le_trans h.size k.size,fun b o v hb hx=>?_,fun b hb=>?_,fun b hb=>(k.low b hb).trans (h.low b hb)⟩
 . refine k.same b o v (h.same b o v hb hx) (fun hx2=>?_);rcases h.ex b hx2 with h1 | h1
   . exact hx h1
   . have:=zEt hb; omega
 . rcases k.ex b hb with h1 | h1
   . exact h.ex b h1
   . exact .inr (Nat.le_trans h.size h1)
theorem zQ1 {n0 bx:Nat} {A B C:World} (h:kV n0 bx A B) (k:kV n0 bx B C):kV n0 bx A C:=fun hA=>(h hA).trans (k (h hA).ok)
theorem zAf {bx:Nat} {A B:World} (h:B.heap[bx]? = A.heap[bx]?) (b:Nat):exb bx B b↔exb bx A b:=by
 unfold exb; rw [qH h]
theorem BoxOk.grown {n0 bx:Nat} {A B:World} (h:BoxOk n0 bx A) (hs:A.heap.size<=B.heap.size) (hb:B.heap[bx]? = A.heap[bx]?):BoxOk n0 bx B:=by
 obtain ⟨h1,⟨arr,t,m,h2⟩,h3⟩:=h;exact ⟨h1,⟨arr,t,m,hb.trans h2⟩,fun b hx=>⟨(h3 b ((zAf hb b).1 hx)).1,Nat.lt_of_lt_of_le (h3 b ((zAf hb b).1 hx)).2 hs⟩⟩
theorem BoxOk.lt {n0 bx:Nat} {A:World} (h:BoxOk n0 bx A):bx < A.heap.size:=(h.2.2 bx (.inl rfl)).2
theorem Kept.grown {n0 bx:Nat} {A B:World} (h:BoxOk n0 bx A) (hg:A.grownBy B none):Kept n0 bx A B:=by
 have hb:∀ b,b < A.heap.size->B.heap[b]? = A.heap[b]?:=fun b hb=>hg.block b hb (by simp);refine ⟨h.grown hg.size (hb bx h.lt),hg.size,fun b o v ho _=>(qH (hb b (zEt ho)) o).trans ho,fun b hx=>.inl ((zAf (hb bx h.lt) b).1 hx),fun b hl=>hb b (Nat.lt_trans (Nat.lt_of_lt_of_le hl h.1) h.lt)⟩
theorem zP3 {n0 bx:Nat} (W:World) (l:Nat) (o o':Obj) (hl:n0<=l) (h:W.heap[l]? = some o) (hc:o.isCells=false):kV n0 bx W (W.putObj l o'):=by
 intro hW;have hne:bx≠l:=by
  rintro rfl;obtain ⟨_,⟨arr,t,m,h2⟩,_⟩:=hW;rw [h] at h2; injection h2 with h2; subst h2; cases hc
 have hb:(W.putObj l o').heap[bx]? = W.heap[bx]?:=World.putObj_heap_other hne;have hsz:(W.putObj l o').heap.size=W.heap.size:=by simp [World.putObj]
 refine ⟨hW.grown (Nat.le_of_eq hsz.symm) hb,Nat.le_of_eq hsz.symm,fun b o1 v h1 _=>(qH (World.putObj_heap_other ?_) o1).trans h1,fun b hx=>.inl ((zAf hb b).1 hx),fun b hb=>World.putObj_heap_other (by omega)⟩;rintro rfl;unfold World.cell? at h1;simp only [h] at h1;cases o <;> first | (cases hc; done) | (cases h1; done) | (simp at h1; done)
theorem zEZ {F:Fence} {n:Nat} {P:Program} (w:World) {ops:Array Oper} {rest:List Oper} {o:Oper} {a:Act} {Q:Exit->Act->World->Prop}
 (hg:o.guard=none) (s x:Operand) (t:TypeId) (hop:o.op=Op.call { callee:=Callee.builtin Builtin.append,args:=#[s,x],argTypes:=#[t,t] })
 (base:Nat) (e:TypeId) (i:TypeInfo) (z:Value) (size bytes:Nat) (h1:P.underlying t=some (.slice e)) (h2:P.info? e=some i) (h3:i.zero=some z) (h4:i.size=size) (h5:i.bytes=bytes) (h6:z.cells.size=size) (h7:0 < size)
 (v:Value) (k:Nat) (xs:List Value) (hs:a.eval s=v) (hown:w.ownsRow base e size v k xs) (ad:Addr) (m c:Nat) (news:List Value) (hx:a.eval x = .slice (some ad) m c) (hn:news.length=m * size)
 (hc:∀ j u,news[j]? = some u->w.cell? (ad.add j)=some u) (h1c:∀ u ∈ news,u.oneCell' = true) (b1:k+m<=maxLen) (b2:(k+m) * bytes<=140737488355328) (b3:base<=w.heap.size)
 (hK:∀ v' w',w'.ownsRow base e size v' (k+m) (xs++news)->w.grownBy w' v.ownBlock->(v' = .slice none 0 0↔v = .slice none 0 0/\m=0)->(v'.ownBlock=v.ownBlock\/v'.ownBlock=some w.heap.size)->wpListIn F n P ops Q rest (a.put o.dst v') w') :
 wpListIn F n P ops Q (o::rest) a w:=by
 refine wpListIn_plain hg fun K hK'=>?_;obtain ⟨v',w',hrun,r1,r2,r3,r4⟩:=run_append_own_at (P:=P) w base t o.type e i z size bytes h1 h2 h3 h4 h5 h6 h7 v k xs hown ad m c news hn hc h1c b1 b2 b3;unfold Oper.wpIn;refine ⟨?_,?_⟩
 . simp [Oper.about,hop,resolve,Target.leads,Sem.run_pure]
 . rw [Oper.semAt_plain F _ _ (by rw [hop]; intro c hc'; cases hc')];simp [execOp,hop,resolve,invoke,builtin,hs,hx,hrun,Result.andThen];exact hK' _ _ (hK v' w' r1 r2 r3 r4)
theorem zJv {W:World} {base:Nat} {e:TypeId} {size:Nat} {v:Value} {k:Nat} {xs:List Value} (h:W.ownsRow base e size v k xs) {j:Nat} {o:Obj} (hj:W.heap[j]? = some o) (hno:∀ cur,o≠.cells cur e (0,0)) :
 v.ownBlock=none\/v.ownBlock≠some j:=by
 rcases h.2 with ⟨rfl,_⟩ | ⟨g,cap,cur,rfl,_,hgb,_⟩
 . exact .inl rfl
 . refine .inr fun e'=>?_;have:g=j:=by simpa [Value.ownBlock] using e'
   subst this; rw [hgb] at hj; cases hj; exact hno cur rfl
def Grow (n0 bx:Nat) (t e:TypeId) (size:Nat) (w:World) (xs:List Value) (n:Nat) (W:World):Prop:=
 ∃ v,W.heap[bx]? = some (.cells #[v] t (0,0))/\W.ownsRow n0 e size v n xs/\(n=0->v = .slice none 0 0)/\Below n0 w W
theorem Grow.exb {n0 bx:Nat} {t e:TypeId} {size:Nat} {w:World} {xs:List Value} {n:Nat} {W:World} {v:Value} (hv:W.heap[bx]? = some (.cells #[v] t (0,0))) (hr:W.ownsRow n0 e size v n xs) (b:Nat) :
 exb bx W b↔b=bx\/v.ownBlock=some b:=by
 have hc:W.cell? ⟨bx,0,none⟩=some v:=by simp [World.cell?,hv]
 unfold Go.Proofs.YtfjiiknfopmcjaaGreatDoor.exb;rw [hc];refine or_congr Iff.rfl ⟨fun ⟨o,l,c,h⟩=>?_,fun h=>?_⟩
 . injection h with h; subst h; rfl
 . rcases hr.2 with ⟨rfl,_⟩ | ⟨g,cap,cur,rfl,_,hgb,_⟩
   . cases h
   . have:g=b:=by simpa [Value.ownBlock] using h
     subst this; exact ⟨_,_,_,rfl⟩
theorem Grow.box {n0 bx:Nat} {t e:TypeId} {size:Nat} {w:World} {xs:List Value} {n:Nat} {W:World} (h0:n0<=bx) (h:Grow n0 bx t e size w xs n W):BoxOk n0 bx W:=by
 obtain ⟨v,hv,hr,_,hb⟩:=h;refine ⟨h0,⟨_,_,_,hv⟩,fun b hx=>?_⟩;rcases (Grow.exb (w:=w) hv hr b).1 hx with rfl | h
 . exact ⟨h0,(Array.getElem?_eq_some_iff.1 hv).1⟩
 . rcases hr.2 with ⟨rfl,_⟩ | ⟨g,cap,cur,rfl,hg,hgb,_⟩
   . cases h
   . have:g=b:=by simpa [Value.ownBlock] using h
     subst this; exact ⟨hg,(Array.getElem?_eq_some_iff.1 hgb).1⟩
theorem Grow.own {n0 bx:Nat} {t e:TypeId} {size:Nat} {w:World} {xs:List Value} {n:Nat} {A B:World} {row:Option Nat} (h0:n0<=w.heap.size) (h:Grow n0 bx t e size w xs n A) (hg:A.grownBy B row) (hr:∀ r,row=some r->n0<=r/\∃ o:Obj,A.heap[r]? = some o/\o.isCells=false):Grow n0 bx t e size w xs n B:=by
 obtain ⟨v,hv,hr',hz,hb⟩:=h;have hne:∀ {b:Nat} {o:Obj},A.heap[b]? = some o->o.isCells=true->some b≠row:=fun hb hc e=>by
  obtain ⟨_,o',ho,hc'⟩:=hr _ e.symm;rw [hb] at ho; injection ho with ho; subst ho; rw [hc] at hc'; cases hc'
 refine ⟨v,(hg.block bx (Array.getElem?_eq_some_iff.1 hv).1 (hne hv rfl)).trans hv,hr'.kept hg ?_,hz,hb.grown hg (Nat.le_trans h0 hb.size) (fun k e=>(hr k e).1)⟩;rcases hr'.2 with ⟨rfl,_⟩ | ⟨g,cap,cur,rfl,_,hgb,_⟩
 . exact .inl rfl
 . exact .inr (hne hgb rfl)
theorem Grow.kept {n0 bx:Nat} {t e:TypeId} {size:Nat} {w:World} {xs xs':List Value} {n n':Nat} {A B:World} (h0:n0<=bx) {v v':Value} (hv:A.heap[bx]? = some (.cells #[v] t (0,0))) (hr:A.ownsRow n0 e size v n xs)
 (hv':B.heap[bx]? = some (.cells #[v'] t (0,0))) (hr':B.ownsRow n0 e size v' n' xs') (hz:n' = 0->v' = .slice none 0 0) (hB:Below n0 w B) (hs:A.heap.size<=B.heap.size)
 (hne:v'.ownBlock=v.ownBlock\/∃ b,v'.ownBlock=some b/\A.heap.size<=b) (h:∀ b,b < A.heap.size->b≠bx->v.ownBlock≠some b->B.heap[b]? = A.heap[b]?):Kept n0 bx A B:=by
 have hlow:∀ b,b < n0->v.ownBlock≠some b:=fun b hb e1=>by
  rcases hr.2 with ⟨rfl,_⟩ | ⟨g,cap,cur,rfl,hg,hgb,_⟩
  . cases e1
  . have:g=b:=by simpa [Value.ownBlock] using e1
    omega
 have hbx:=(Array.getElem?_eq_some_iff.1 hv).1;refine ⟨Grow.box h0 ⟨v',hv',hr',hz,hB⟩,hs,fun b o u hb hx=>?_,fun b hx=>?_,fun b hb=>h b (by omega) (by omega) (hlow b hb)⟩
 . have h1:b≠bx:=fun e1=>hx ((Grow.exb (w:=w) hv hr b).2 (.inl e1));have h2:v.ownBlock≠some b:=fun e1=>hx ((Grow.exb (w:=w) hv hr b).2 (.inr e1));exact (qH (h b (zEt hb) h1 h2) o).trans hb
 . rcases (Grow.exb (w:=w) hv' hr' b).1 hx with rfl | h1
   . exact .inl (.inl rfl)
   . rcases hne with e1 | ⟨b',e1,e2⟩
     . exact .inl ((Grow.exb (w:=w) hv hr b).2 (.inr (e1 ▸ h1)))
     . rw [e1] at h1; injection h1 with h1; subst h1; exact .inr e2
theorem Grow.round {n0 bx K0:Nat} {t e:TypeId} {size:Nat} {w:World} {xs xs':List Value} {n n':Nat} {A B:World} (h0:n0<=bx) {v v':Value} (hv:A.heap[bx]? = some (.cells #[v] t (0,0))) (hr:A.ownsRow n0 e size v n xs)
 (hv':B.heap[bx]? = some (.cells #[v'] t (0,0))) (hr':B.ownsRow n0 e size v' n' xs') (hz:n' = 0->v' = .slice none 0 0) (hB:Below n0 w B) (hs:A.heap.size<=B.heap.size)
 (hne:v'.ownBlock=v.ownBlock\/∃ b,v'.ownBlock=some b/\A.heap.size<=b) (h:∀ b,b < A.heap.size->b≠bx->v.ownBlock≠some b->B.heap[b]? = A.heap[b]?) :
 KeepsFrom K0 A B/\kV n0 bx A B/\Grow n0 bx t e size w xs' n' B:=by
 refine ⟨⟨hs,fun k o _ hk hc=>(h k (Array.getElem?_eq_some_iff.1 hk).1 (fun e1=>?_) (fun e1=>?_)).trans hk⟩,fun _=>Grow.kept h0 hv hr hv' hr' hz hB hs hne h,v',hv',hr',hz,hB⟩
 . subst e1; rw [hv] at hk; injection hk with hk; subst hk; cases hc
 . rcases hr.2 with ⟨rfl,_⟩ | ⟨g,cap,cur,rfl,_,hgb,_⟩
   . cases e1
   . have:g=k:=by simpa [Value.ownBlock] using e1
     subst this; rw [hgb] at hk; injection hk with hk; subst hk; cases hc
theorem Grow.stay {n0 bx K0:Nat} {t e:TypeId} {size:Nat} {w:World} {xs:List Value} {n:Nat} {A:World} (h0:n0<=bx) (h:Grow n0 bx t e size w xs n A):KeepsFrom K0 A A/\kV n0 bx A A/\Grow n0 bx t e size w xs n A:=
 ⟨.refl _ _,fun hB=>.refl hB,h⟩
theorem zJx {W:World} {B:Nat} {v:Value} {t:TypeId} (v':Value) (h:W.heap[B]? = some (.cells #[v] t (0,0))):(W.setCell ⟨B,0,none⟩ v').heap[B]? = some (.cells #[v'] t (0,0)):=by
 obtain ⟨hlt,hk⟩:=Array.getElem?_eq_some_iff.1 h;show (W.heap.modify B _)[B]? = _;rw [Array.getElem?_eq_getElem (by rw [Array.size_modify]; exact hlt),Array.getElem_modify_self,hk];rfl
theorem zRw {W:World} {base:Nat} {e:TypeId} {size:Nat} {v:Value} {k:Nat} {xs:List Value} (h:W.ownsRow base e size v k xs) {b:Nat} (hb:v.ownBlock=some b):base<=b:=by
 rcases h.2 with ⟨rfl,_⟩ | ⟨g,cap,cur,rfl,hg,_⟩
 . cases hb
 . have:g=b:=by simpa [Value.ownBlock] using hb
   omega
theorem zRM {wm:Nat->Nat} {w W':World} (hwm:∀ b,w.heap.size<=b->wm b=0) (hbel:Below w.heap.size w W') {size n:Nat} {e:TypeId} {v:Value} {ds:List Value} (hrow:W'.ownsRow w.heap.size e size v n ds) (hz:n=0->v = .slice none 0 0)
 (es:List V) (hl:n=es.length) (hu:∀ x ∈ es,x.size=size) (hrc:RCs ⟨wm,fun _=>none,Fr.no⟩ w es ds) :
 ∃ wm',(∀ b,W'.heap.size<=b->wm' b=0)/\Step w.heap.size ⟨wm,fun _=>none,Fr.no⟩ w ⟨wm',fun _=>none,Fr.no⟩ W'/\RV ⟨wm',fun _=>none,Fr.no⟩ W' (.lst (zg es) es) v:=by
 subst hl;obtain ⟨q1,q2⟩:=qU hwm hbel;cases es with
 | nil=>
  refine ⟨wm,q1,q2,?_⟩;rw [hz rfl];exact yR (by unfold RC; exact .inl ⟨rfl,rfl,trivial⟩)
 | cons x r=>
  obtain ⟨hlen,⟨_,h0⟩ | ⟨g,cap,cur,rfl,hg,hgb,hn,hm,hcs,htk⟩⟩:=hrow
  . simp at h0
  . have hgl:=(Array.getElem?_eq_some_iff.1 hgb).1;have hL:Later ⟨wm,fun _=>none,Fr.no⟩ w ⟨fun b=>if b=g then ds.length else wm b,fun _=>none,Fr.no⟩ W':=by
     refine ⟨fun b=>?_,fun _ _ h=>h,q2.later.cell⟩;show wm b<=if b=g then ds.length else wm b
     split
     . rename_i h; rw [h,hwm g hg]; exact Nat.zero_le _
     . exact Nat.le_refl _
    refine ⟨fun b=>if b=g then ds.length else wm b,fun b hb=>?_,⟨hL,q2.below,fun b h=>(by simp [Fr.no] at h),fun b hb=>?_,rfl⟩,yR ?_⟩
    . show (if b=g then ds.length else wm b)=0;rw [if_neg (by omega)];exact q1 b hb
    . show (if b=g then ds.length else wm b)=wm b;rw [if_neg (by omega)]
    . simp only [RC];refine .inr ⟨g,0,cap,ds,rfl,hn,by simp [zg,zGF],zT hL _ _ hrc,⟨size,hu,by intro t nb s h; simp [zg] at h⟩,fun k u hk=>⟨?_,?_⟩⟩
      . have hk1:k < ds.length:=(List.getElem?_eq_some_iff.1 hk).1;rw [<- htk,List.getElem?_take] at hk;split at hk
        . simp only [World.cell?,hgb,Nat.zero_add];rw [Array.getElem?_toList] at hk;simpa using hk
        . cases hk
      . have hk1:k < ds.length:=(List.getElem?_eq_some_iff.1 hk).1;show 0+k < if g=g then ds.length else wm g
        rw [if_pos rfl]; omega
def chG:List UInt8->Nat->List CharT
 | [],_=>[]
 | [c],i=>[⟨(c.toNat:Int),(i:Int)⟩]
 | c::d::r,i=>cond (c == 92 && d == 10) (chG r (i+2)) (⟨(c.toNat:Int),(i:Int)⟩::chG (d::r) (i+1))
theorem zE9:∀ (s:List UInt8) (i:Nat),(chG s i).length<=s.length
 | [],_=>Nat.le_refl _
 | [c],i=>Nat.le_refl _
 | c::d::r,i=>by
  have h1:=zE9 r (i+2);have h2:=zE9 (d::r) (i+1);simp only [chG];cases (c == 92 && d == 10)
  . simp only [cond_false,List.length_cons] at *; omega
  . simp only [cond_true,List.length_cons] at *; omega
theorem zQe (s:List UInt8) (k:Nat) (h:k < s.length) :
 (Lib.hasPrefix (List.take (s.length - k) (s.drop k)) [92,10]=true->k+2<=s.length/\chG (s.drop k) k=chG (s.drop (k+2)) (k+2)) /\
 (Lib.hasPrefix (List.take (s.length - k) (s.drop k)) [92,10]=false->chG (s.drop k) k=⟨(s[k].toNat:Int),(k:Int)⟩::chG (s.drop (k+1)) (k+1)):=by
 have ht:List.take (s.length - k) (s.drop k)=s.drop k:=List.take_of_length_le (by simp);rw [ht,List.drop_eq_getElem_cons h];unfold Lib.hasPrefix;by_cases h2:k+1 < s.length
 . rw [List.drop_eq_getElem_cons h2];have e:[92,10].isPrefixOf (s[k]::s[k+1]::s.drop (k+1+1))=(s[k] == 92 && s[k+1] == 10):=by
    simp only [List.isPrefixOf,Bool.and_true,Bool.beq_comm]
   rw [e];refine ⟨fun hh=>⟨by omega,?_⟩,fun hh=>?_⟩
   . simp only [chG,hh,cond_true]
   . simp only [chG,hh,cond_false]
 . have e0:s.drop (k+1)=[]:=List.drop_eq_nil_of_le (by omega);rw [e0];refine ⟨fun hh=>by simp [List.isPrefixOf] at hh,fun _=>by simp [chG]⟩
def chV (x:CharT):Value:=.agg #[.int .u8 x.b,.int .i64 x.fat]
def chC (x:CharT):List Value:=[.int .u8 x.b,.int .i64 x.fat]
set_option maxRecDepth 100000 in
set_option maxHeartbeats 2000000 in
theorem zOR (n n0 bx:Nat) (l Bs:Nat) (s:Str) (hreach:s.length < 1100000) (J Jx:List CharT->World->Prop)
 (hY:∀ pre x W,J pre W->pre.length < s.length->YieldAt Fence.wide (n - 1) Tryz.prog l #[chV x] W fun e W'=>
  (e = .returned (.bool true)/\J (pre++[x]) W'/\kV n0 bx W W')\/(e = .returned (.bool false)/\Jx (pre++[x]) W'))
 (W:World) (hB:BoxOk n0 bx W) (hxs:¬ exb bx W Bs) (hBs:W.cell? ⟨Bs,0,none⟩=some (.string ⟨s.toArray⟩)) (h0:J [] W) :
 CallsIn Fence.wide n Tryz.prog 54 #[.func (.yield l) #[] #[],.pointer (some ⟨Bs,0,none⟩)] W fun e W'=>(∃ v,e = .returned v) /\
  ((∃ ys,ys=chG s 0/\J ys W')\/(∃ pre,True/\Jx pre W')):=by
 refine callsIn_of_wp Tryz.func54 rfl trivial ?_ rfl;simp only [Tryz.ntmps54,List.size_toArray,List.length_cons,List.length_nil,Nat.reduceAdd,Nat.reduceSub,Array.replicate_succ,Array.replicate_zero,List.push_toArray,List.append_toArray,List.nil_append,List.cons_append];have hsz:(⟨s.toArray⟩:ByteArray).size=s.length:=by simp [ByteArray.size]
 gi_wp2
 gi_loopw [3] (fun i wr=>∃ (k:Nat) (pre:List CharT),k<=s.length/\i = .int .i64 (k:Int)/\pre++chG (s.drop k) k=chG s 0/\J pre wr/\Kept n0 bx W wr)
  (fun i _=>match i with | .int _ z=>s.length - z.toNat | _=>0)
 case atStart=>exact ⟨0,[],Nat.zero_le _,rfl,by simp,h0,Kept.refl hB⟩
 case round=>
  obtain ⟨k,pre,hk,rfl,hpre,hJs,hnx⟩:=hrel;have hBs':=hnx.same _ _ _ hBs hxs;by_cases hlt:k < s.length
  . have hF:∀ f,Fence.wide.fn f:=fun _=>trivial;have hdd:∀ k:Nat,(Fence.wide.depth.isSome=true->1<=k):=fun k h=>by cases h
    have hlt2:(k:Int) < (s.length:Int):=by omega
    have hge2:¬ ((k:Int) < 0):=by omega
    obtain ⟨hs1,hs2⟩:=zQe s k hlt;have hbk:∀ h:k < (⟨s.toArray⟩:ByteArray).size,(⟨s.toArray⟩:ByteArray)[k]'h=s[k]:=fun _=>rfl;cases hp:Lib.hasPrefix (List.take (s.length - k) (s.drop k)) [92,10] with
    | true=>
     obtain ⟨hk2,hc2⟩:=hs1 hp
     gi_wp2_with ((try refine ⟨hdd _,?_⟩); gi_at_call 55; refine (callsIn_wide.2 (Tryz.strings_HasPrefix _ _ _)).mono ?_; rintro e w' ⟨rfl,rfl⟩)
     refine ⟨⟨k+2,pre,hk2,rfl,by rw [<- hc2]; exact hpre,hJs,hnx⟩,?_⟩;show s.length - Int.toNat ((k:Int)+1+1) < s.length - Int.toNat (k:Int);omega
    | false=>
     have hc2:=hs2 hp;have hpl:pre.length < s.length:=by
      have e1:=congrArg List.length hpre;have e2:=zE9 s 0;rw [hc2] at e1;simp only [List.length_append,List.length_cons] at e1;omega
     obtain ⟨fn,tmps,assign,body,hy,hR⟩:=hY pre ⟨(s[k].toNat:Int),(k:Int)⟩ wr hJs hpl;dsimp only [chV] at hy
     gi_wp2_with (first
      | ((try refine ⟨hdd _,?_⟩); gi_at_call 55; refine (callsIn_wide.2 (Tryz.strings_HasPrefix _ _ _)).mono ?_; rintro e w' ⟨rfl,rfl⟩)
      | ((try refine ⟨hdd _,?_⟩); refine hR.mono ?_; clear hR; rintro e W3 (⟨rfl,hJ3,hk3⟩ | ⟨rfl,hJx3⟩)))
     . refine ⟨⟨k+1,pre++[⟨(s[k].toNat:Int),(k:Int)⟩],hlt,rfl,by rw [List.append_assoc,List.singleton_append,<- hc2]; exact hpre,hJ3,hnx.trans (hk3 hnx.ok)⟩,?_⟩;show s.length - Int.toNat ((k:Int)+1) < s.length - Int.toNat (k:Int);omega
     . refine bodyPost_ret (results_none rfl _ _ _) rfl ?_;exact ⟨⟨_,rfl⟩,.inr ⟨_,trivial,hJx3⟩⟩
  . obtain rfl:k=s.length:=by omega
    gi_wp2;go_end0;have e:s.drop s.length=[]:=List.drop_eq_nil_of_le (Nat.le_refl _);rw [e] at hpre;exact ⟨⟨_,rfl⟩,.inl ⟨pre,by simpa [chG] using hpre,hJs⟩⟩
theorem zLV (n n0 bx Bs:Nat) (s:Str) (hreach:s.length < 1100000) (w:World) (hB:BoxOk n0 bx w) (hxs:¬ exb bx w Bs) (hbs:w.heap[Bs]? = some (.cells #[.string ⟨s.toArray⟩] 9 (0,0))) :
 SeqStopsK Fence.wide n Tryz.prog 54 #[.pointer (some ⟨Bs,0,none⟩)] (fun x:CharT=>#[chV x]) (kV n0 bx) (fun ys=>ys=chG s 0) (fun _=>True) s.length w:=fun l J Jx W hW _ _ hY h0=>by
 have hbx:W.heap[bx]? = w.heap[bx]?:=hW.block _ hB.lt;have h1:W.heap[Bs]? = some (.cells #[.string ⟨s.toArray⟩] 9 (0,0)):=(hW.block _ (Array.getElem?_eq_some_iff.1 hbs).1).trans hbs;exact zOR n n0 bx l Bs s hreach J Jx hY W (hB.grown hW.size hbx) (fun h=>hxs ((zAf hbx Bs).1 h)) (by simp [World.cell?,h1]) h0
set_option maxRecDepth 100000 in
set_option maxHeartbeats 1000000 in
theorem zP6 (m:Nat) (s:ByteArray) (w:World) :
 CallsIn Fence.wide m Tryz.prog 34 #[.string s] w fun e w'=>e = .returned (.func (.func 54) #[] #[.pointer (some ⟨w.heap.size,0,none⟩)])/\w' = w.alloc (.cells #[.string s] 9):=by
 refine callsIn_of_wp Tryz.func34 rfl trivial ?_ rfl;simp only [Tryz.ntmps34,List.size_toArray,List.length_cons,List.length_nil,Nat.reduceAdd,Nat.reduceSub,Array.replicate_succ,Array.replicate_zero,List.push_toArray,List.append_toArray,List.nil_append,List.cons_append];gi_wp2;go_ret;exact ⟨rfl,rfl⟩
theorem info55:(Tryz.prog.info? 55).map (fun i=>(i.zero,i.size,i.bytes))=some (some (.agg #[.int .u8 0,.int .i64 0]),2,16):=by kernel_rfl
def chCs (l:List CharT):List Value:=l.flatMap chC
theorem zRR (l:List CharT) (x:CharT):chCs (l++[x])=chCs l++chC x:=by simp [chCs]
theorem zKF (w:World) (u v:Value) (t:TypeId) (m:Nat×Nat):∀ j x,[u,v][j]? = some x->(w.alloc (.cells #[u,v] t m)).cell? ((⟨w.heap.size,0,none⟩:Addr).add j)=some x:=by
 intro j x hx;have hn:=World.alloc_heap_new w (.cells #[u,v] t m)
 match j,hx with
 | 0,hx=>
  have:u=x:=by simpa using hx
  subst this;show (w.alloc (.cells #[u,v] t m)).cell? ⟨w.heap.size,0,none⟩=some u;unfold World.cell?;simp only [hn]; rfl
 | 1,hx=>
  have:v=x:=by simpa using hx
  subst this;show (w.alloc (.cells #[u,v] t m)).cell? ⟨w.heap.size,1,none⟩=some v;unfold World.cell?;simp only [hn]; rfl
 | j+2,hx=>simp at hx
set_option maxRecDepth 100000 in
set_option maxHeartbeats 1000000 in
theorem zR0 (m:Nat) (hm:3<=m) (s:Str) (hlen:s.length < 1100000) (w:World) :
 CallsIn Fence.wide m Tryz.prog 16 #[.string ⟨s.toArray⟩] w fun e W'=>∃ v',e = .returned v'/\W'.ownsRow w.heap.size 55 2 v' (chG s 0).length (chCs (chG s 0))/\((chG s 0).length=0->v' = .slice none 0 0)/\Below w.heap.size w W':=by
 have hF:∀ f,Fence.wide.fn f:=fun _=>trivial;have hdd:∀ k:Nat,(Fence.wide.depth.isSome=true->1<=k):=fun k h=>by cases h
 refine callsIn_of_wp_marks Tryz.func16 rfl (hF _) ?_ rfl;simp only [Tryz.ntmps16,List.size_toArray,List.length_cons,List.length_nil,Nat.reduceAdd,Nat.reduceSub,Array.replicate_succ,Array.replicate_zero,List.push_toArray,List.append_toArray,List.nil_append,List.cons_append]
 gi_wp2_with ((try refine ⟨hdd _,?_⟩); gi_at_call 34; refine (zP6 _ _ _).mono ?_; rintro e w' ⟨rfl,rfl⟩)
 obtain ⟨W2,hW2⟩:∃ W2,(w.alloc (.cells #[.slice none 0 0] 46)).alloc (.cells #[.string ⟨s.toArray⟩] 9)=W2:=⟨_,rfl⟩;have hsz2:W2.heap.size=w.heap.size+2:=by rw [<- hW2]; simp
 have hb2:Below w.heap.size w W2:=by rw [<- hW2]; exact ((Below.refl _ w).alloc (Nat.le_refl _) _).alloc (by simp) _
 have hbx2:W2.heap[w.heap.size]? = some (.cells #[.slice none 0 0] 46 (0,0)):=by
  rw [<- hW2,Below.heap_alloc _ _ _ (by simp)];exact World.alloc_heap_new w _
 have hbt2:W2.heap[w.heap.size+1]? = some (.cells #[.string ⟨s.toArray⟩] 9 (0,0)):=by
  rw [<- hW2];have:=World.alloc_heap_new (w.alloc (.cells #[.slice none 0 0] 46)) (.cells #[.string ⟨s.toArray⟩] 9 (0,0));simpa using this
 have hG0:Grow w.heap.size w.heap.size 46 55 2 w [] 0 W2:=⟨_,hbx2,World.ownsRow_nil W2 _ _ _,fun _=>rfl,hb2⟩;have hB2:=hG0.box (Nat.le_refl _);have hx2:¬ exb w.heap.size W2 (w.heap.size+1):=fun h=>by
  rcases h with h | ⟨o,l,c,h⟩
  . omega
  . simp [World.cell?,hbx2] at h
 rw [hW2];refine wpIn_rangeFunc_ownH rfl (by omega) (gf:=54) (lb:=#[.pointer (some ⟨w.heap.size+1,0,none⟩)]) (by simp [Act.eval]) (hF 54) (enters_of Tryz.func54 (by kernel_rfl) rfl)
  (zLV (m - 1) w.heap.size w.heap.size (w.heap.size+1) s hlen W2 hB2 hx2 hbt2) zQ1 (fun W l o o' hl h1 h2 _=>zP3 W l o o' (by omega) h1 h2) (Below.refl _ _) (fun _=>rfl)
  (fun pre W=>Grow w.heap.size w.heap.size 46 55 2 w (chCs pre) pre.length W)
  (fun _ _ _=>False) ?hI (fun _ _ _ _ _ hs _ _=>hs) hG0
  (fun x a' W=>∃ B4,a' = { tmps:=#[.string ⟨s.toArray⟩,undef,.slice none 0 0,.pointer (some ⟨w.heap.size,0,none⟩),.pointer (some ⟨B4,0,none⟩),.string ⟨s.toArray⟩,.func (.func 54) #[] #[.pointer (some ⟨w.heap.size+1,0,none⟩)],chV x,undef,undef,undef,undef,undef],defers:=[] }/\W.heap[B4]? = some (.cells #[.int .u8 x.b,.int .i64 x.fat] 55 (0,0)))
  ?hAx ?assign ?body ?done ?stop
 case hI=>exact fun pre A B row h hg hr=>h.own (Nat.le_refl _) hg (fun r e=>by obtain ⟨h1,h2⟩:=hr r e; exact ⟨by omega,h2⟩)
 case hAx=>
  rintro x a' _ A B row ⟨B4,e3,e4⟩ hg hr;refine ⟨B4,e3,(hg.block B4 (Array.getElem?_eq_some_iff.1 e4).1 fun e=>?_).trans e4⟩;obtain ⟨_,o,ho,hc⟩:=hr B4 e.symm;rw [e4] at ho; injection ho with ho; subst ho; cases hc
 case assign=>
  rintro l pre ⟨xb,xa⟩ W K hI hK;have hfin:∀ a2,a2=({ tmps:=#[.string ⟨s.toArray⟩,undef,.slice none 0 0,.pointer (some ⟨w.heap.size,0,none⟩),.pointer (some ⟨W.heap.size,0,none⟩),.string ⟨s.toArray⟩,.func (.func 54) #[] #[.pointer (some ⟨w.heap.size+1,0,none⟩)],chV ⟨xb,xa⟩,undef,undef,undef,undef,undef],defers:=[] }:Act)->K a2 (W.alloc (.cells #[.int .u8 xb,.int .i64 xa] 55)):=fun a2 e=>hK a2 _ ((KeepsOthers.alloc W _).from _) (fun hB=>Kept.grown hB (World.grownBy_alloc W _ none))
   (hI.own (Nat.le_refl _) (World.grownBy_alloc W _ none) (fun r e=>by cases e)) ⟨W.heap.size,e,World.alloc_heap_new W _⟩
  unfold chV at *;gi_wp2;rfl
 case body=>
  rintro l pre ⟨xb,xa⟩ a' W hl hL ⟨bv,hbv,hrow,hz,hbel⟩ ⟨B4,rfl,hB4⟩ hlen2;replace hB4:W.heap[B4]? = some (.cells #[.int .u8 xb,.int .i64 xa] 55 (0,0)):=hB4;have c0:W.cell? ⟨B4,0,none⟩=some (.int .u8 xb):=by simp [World.cell?,hB4]
  have c1:W.cell? ⟨B4,1,none⟩=some (.int .i64 xa):=by simp [World.cell?,hB4]
  have cb:W.cell? ⟨w.heap.size,0,none⟩=some bv:=by simp [World.cell?,hbv]
  obtain ⟨i0,hi,hz0,hz1,hz2⟩:=info_parts info55;have hb1:pre.length+1<=1100000:=by omega
  have hsz:w.heap.size<=W.heap.size:=hbel.size;have hlt:w.heap.size < W.heap.size:=(Array.getElem?_eq_some_iff.1 hbv).1;have hnb:some w.heap.size≠bv.ownBlock:=by
   rcases zJv hrow hbv (fun cur e=>by cases e) with e | e
   . rw [e]; simp
   . exact fun e'=>e e'.symm
  gi_wp2_with (
   gi_at_builtin
   refine zEZ _ rfl _ _ 46 rfl w.heap.size 55 i0 (.agg #[.int .u8 0,.int .i64 0]) 2 16 Tryz.underlying46 hi hz0 hz1 hz2 rfl (by decide) _ _ _ rfl (hrow.alloc _) ⟨W.heap.size,0,none⟩ 1 1 [.int .u8 xb,.int .i64 xa] rfl rfl (zKF _ _ _ _ _) (by simp [Value.oneCell']) (Nat.le_trans hb1 (by decide)) (Nat.le_trans (Nat.mul_le_mul_right 16 hb1) (by decide)) (by simp; omega) ?_;intro v' w3 hown' hg3 hnil3 hat;have hv3:w3.heap[w.heap.size]? = some (.cells #[bv] 46 (0,0)):=(hg3.block _ (by simp; omega) hnb).trans ((Below.heap_alloc _ _ _ hlt).trans hbv);obtain ⟨hc3,hf3⟩:w3.cell? ⟨w.heap.size,0,none⟩=some bv/\w3.frozen? ⟨w.heap.size,0,none⟩=false:=by constructor <;> simp [World.cell?,World.frozen?,hv3]
   obtain ⟨g',cap',cur',rfl,hbase',hgb',hr1,hr2,hr3,hr4⟩:∃ g' cap' cur',v' = .slice (some ⟨g',0,none⟩) (pre.length+1) cap'/\w.heap.size<=g'/\w3.heap[g']? = some (.cells cur' 55 (0,0))/\pre.length+1<=cap'/\cap'<=maxLen/\cur'.size=cap' * 2/\cur'.toList.take ((pre.length+1) * 2)=chCs pre++[.int .u8 xb,.int .i64 xa]:=by
    rcases hown'.2 with ⟨_,h0⟩ | h'
    . exact absurd h0 (by omega)
    . exact h')
  have hg4:=grownBy_setCell' w3 w.heap.size (.slice (some ⟨g',0,none⟩) (pre.length+1) cap');have hg3':(W.alloc (.cells #[.int .u8 xb,.int .i64 xa] 55)).grownBy w3 bv.ownBlock:=hg3;have hs3:W.heap.size+1<=w3.heap.size:=by have:=hg3'.size; simpa using this
  refine (?_:KeepsFrom _ _ _/\kV _ _ _ _/\Grow _ _ _ _ _ _ (chCs (pre++[_])) (pre++[_]).length _);rw [zRR,List.length_append,List.length_cons,List.length_nil];have hbel3:Below w.heap.size w w3:=(hbel.alloc hsz _).grown hg3' (by simp; omega) (fun k e=>zRw hrow e);refine Grow.round (Nat.le_refl _) hbv hrow (zJx _ hv3) (hown'.kept hg4 (zJv hown' hv3 (fun cur e=>by cases e))) (fun e=>absurd e (by omega)) (hbel3.grown hg4 hbel3.size (fun k e=>by injection e with e; omega)) (by simp; omega) ?_ (fun b hb h1 h2=>?_)
  . rcases hat with e | e
    . exact .inl e
    . exact .inr ⟨_,e,by simp⟩
  . exact ((hg4.block b (by omega) (fun e=>h1 (by injection e))).trans (hg3'.block b (by simp; omega) (fun e=>h2 e.symm))).trans (Below.heap_alloc _ _ _ hb)
 case stop=>
  rintro D c pre W _ _ h _;exact h.elim
 case done=>
  rintro D ys W hD hys ⟨bv,hbv,hrow,hz,hbel⟩ hK;have cb:W.cell? ⟨w.heap.size,0,none⟩=some bv:=by simp [World.cell?,hbv]
  gi_wp2;refine ⟨by simp,.inl ⟨_,_,rfl,run_takeDeferred hK,?_⟩⟩;have hgD:=grownBy_putObj' W D (.deferred none);subst hys;refine ⟨_,results_tmp rfl _ _ _,_,rfl,?_⟩;refine ⟨hrow.kept hgD (zJv hrow hK (fun cur e=>by cases e)),hz,hbel.grown hgD hbel.size (fun k e=>by injection e with e; omega)⟩
theorem zId {g:Gh} {w:World}:∀ l:List CharT,RCs g w (l.map zy) (chCs l)
 | []=>by simp [RCs,chCs]
 | x::r=>by
  have ih:=zId (g:=g) (w:=w) r;simp only [List.map_cons,RCs];refine ⟨chC x,chCs r,by simp [chCs],?_,ih⟩;show RC g w (.agg [.at (.int .u8 (CharT.b x)),.at (.int .i64 (CharT.fat x))]) _;simp only [RC,RCs,chC];exact ⟨[.int .u8 x.b],[.int .i64 x.fat],rfl,⟨rfl,rfl⟩,[.int .i64 x.fat],[],rfl,⟨rfl,rfl⟩,rfl⟩
theorem pure16 (s:Str) (hlen:s.length < 1100000):PureF Tryz.prog 16 [.at (.string ⟨s.toArray⟩)] (.lst (zg ((chG s 0).map zy)) ((chG s 0).map zy)):=by
 intro wm w us hwm hgl hu;cases hu with
 | cons hu1 hu2=>
  cases hu2;have e:=zQ hu1;subst e;refine callsIn_wide.1 ((zR0 3 (Nat.le_refl _) s hlen w).mono ?_);rintro e w' ⟨v',rfl,hrow,hz,hbel⟩;obtain ⟨wm',h1,h2,h3⟩:=zRM hwm hbel hrow hz ((chG s 0).map zy) (by simp) (fun x hx=>by obtain ⟨y,_,rfl⟩:=List.mem_map.1 hx; exact zH8 y) (zId _);exact ⟨_,wm',rfl,h1,h2,h3⟩
def c16 (x:Str×Unit):Option (List CharT×Unit):=if x.1.length < 1100000 then some (chG x.1 0,()) else none
theorem ok16:ConOk CC Tryz.prog 16 ⟨as16,rs16,c16⟩:=fun x y hx vs hvs=>by
 obtain ⟨s,u⟩:=x;obtain ⟨v,vs',rfl,hv,hvs⟩:=hvs;replace hvs:vs' = []:=hvs;subst hvs;replace hv:v = .at (.string ⟨List.toArray s⟩):=hv;subst hv;by_cases h:List.length (show Str from s) < 1100000
 . have h2:c16 (s,u)=some (chG s 0,()):=if_pos h;replace hx:c16 (s,u)=some y:=hx;rw [h2] at hx;injection hx with hx
   subst hx;exact pure16 s h
 . have h2:c16 (s,u)=none:=if_neg h;replace hx:c16 (s,u)=some y:=hx;rw [h2] at hx;cases hx
theorem zEL {g:Gh} {w:World}:∀ {l:List CharT} {us:List Value} (i:Nat) (h:i < l.length),RCs g w (l.map zy) us->us[2 * i]? = some (.int .u8 l[i].b)/\us[2 * i+1]? = some (.int .i64 l[i].fat)
 | x::r,us,0,_,h=>by
  simp only [List.map_cons,RCs] at h;obtain ⟨u1,u2,rfl,h1,h2⟩:=h;have h1':RC g w (.agg [.at (.int .u8 (CharT.b x)),.at (.int .i64 (CharT.fat x))]) u1:=h1;simp only [RC,RCs] at h1';obtain ⟨v1,v2,rfl,⟨rfl,_⟩,v3,v4,rfl,⟨rfl,_⟩,rfl⟩:=h1';exact ⟨rfl,rfl⟩
 | x::r,us,i+1,hi,h=>by
  simp only [List.map_cons,RCs] at h;obtain ⟨u1,u2,rfl,h1,h2⟩:=h;have h3:=xN g w _ _ h1;have h4:u1.length=2:=by rw [h3]; exact zH8 x
  obtain ⟨k0,k1⟩:=zEL i (by simpa using hi) h2;have ap:∀ j,(u1++u2)[2 * (i+1)+j]? = u2[2 * i+j]?:=fun j=>by
   rw [List.getElem?_append_right (by omega),h4]; congr 1; omega
  exact ⟨(ap 0).trans k0,(ap 1).trans k1⟩
theorem zRb {wm:Nat->Nat} {w:World} {l:List CharT} {sv:Value} (h:RC ⟨wm,fun _=>none,Fr.no⟩ w (.lst (zg (l.map zy)) (l.map zy)) [sv]) :
 ∃ ad cap,sv = .slice ad l.length cap/\∀ i (hi:i < l.length),∃ b o,ad=some ⟨b,o,none⟩/\(w.cell? ⟨b,o+2 * i,none⟩=some (.int .u8 l[i].b)/\o+2 * i < wm b)/\(w.cell? ⟨b,o+(2 * i+1),none⟩=some (.int .i64 l[i].fat)/\o+(2 * i+1) < wm b):=by
 have hl:(l.map zy).length=l.length:=by simp
 simp only [RC] at h;rcases h with ⟨he,hu,_⟩ | ⟨b,o,cap,ds,hu,hc,_,hr,_,ha⟩
 . have h0:l=[]:=by simpa using he
   subst h0;injection hu with hu
   exact ⟨none,0,hu,fun i hi=>absurd hi (by simp)⟩
 . injection hu with hu
   refine ⟨_,cap,by rw [hu,hl],fun i hi=>?_⟩;obtain ⟨k1,k2⟩:=zEL i hi hr;exact ⟨b,o,rfl,ha _ _ k1,ha _ _ k2⟩
theorem info5:(Tryz.prog.info? 5).map (fun i=>(i.zero,i.size,i.bytes))=some (some (.int .u8 0),1,1):=by kernel_rfl
theorem zFN (W:World) (b i:Nat) (v:Value):W.grownBy (W.setCell ⟨b,i,none⟩ v) (some b):=
 ⟨rfl,rfl,rfl,(KeepsWalks.setCell W _ v).size,fun k _ hk=>Below.heap_setCell _ _ _ k (fun e=>hk (by rw [e]))⟩
theorem zLa {W:World} {B i:Nat} {c:Array Value} {t:TypeId} (v':Value) (h:W.heap[B]? = some (.cells c t (0,0))):(W.setCell ⟨B,i,none⟩ v').heap[B]? = some (.cells (c.setIfInBounds i v') t (0,0)):=by
 obtain ⟨hlt,hk⟩:=Array.getElem?_eq_some_iff.1 h;show (W.heap.modify B _)[B]? = _;rw [Array.getElem?_eq_getElem (by rw [Array.size_modify]; exact hlt),Array.getElem_modify_self,hk];rfl
def TRow (n0 g:Nat) (w:World) (xs:List Int) (n k:Nat) (W:World):Prop:=
 Below n0 w W/\∃ cur,W.heap[g]? = some (.cells cur 5 (0,0))/\cur.size=n/\(∀ i,i < k->cur[i]? = some (.int .u8 (xs.getD i 0)))/\∀ i,i < n->∃ z,cur[i]? = some (.int .u8 z)
set_option maxRecDepth 100000 in
set_option maxHeartbeats 1000000 in
theorem zSF (m:Nat) (l:List CharT) (hlen:l.length < 1100000) (wm:Nat->Nat) (w:World) (hwm:∀ b,w.heap.size<=b->wm b=0) (ad:Option Addr) (cap:Nat)
 (hch:∀ i (hi:i < l.length),∃ b o,ad=some ⟨b,o,none⟩/\(w.cell? ⟨b,o+2 * i,none⟩=some (.int .u8 l[i].b)/\o+2 * i < wm b)/\(w.cell? ⟨b,o+(2 * i+1),none⟩=some (.int .i64 l[i].fat)/\o+(2 * i+1) < wm b)) :
 CallsIn Fence.wide m Tryz.prog 17 #[.slice ad l.length cap] w fun e W'=>e = .returned (.string (strOfNums (l.map CharT.b)))/\Below w.heap.size w W':=by
 have hF:∀ f,Fence.wide.fn f:=fun _=>trivial;refine callsIn_of_wp Tryz.func17 rfl trivial ?_ rfl;simp only [Tryz.ntmps17,List.size_toArray,List.length_cons,List.length_nil,Nat.reduceAdd,Nat.reduceSub,Array.replicate_succ,Array.replicate_zero,List.push_toArray,List.append_toArray,List.nil_append,List.cons_append];obtain ⟨i0,hi,hz0,hz1,hz2⟩:=info_parts info5;obtain ⟨W1,hmk,hown,hg1⟩:=run_make_full (P:=Tryz.prog) w w.heap.size 84 5 i0 (.int .u8 0) 1 Tryz.underlying84 hi hz0 hz1 .i64 .i64 l.length (by rw [hz2]; omega) (by simp only [maxLen]; omega) (Nat.le_refl _);have h0:TRow w.heap.size w.heap.size w (l.map CharT.b) l.length 0 W1:=by
  refine ⟨(Below.refl _ w).grown hg1 (Nat.le_refl _) (fun k e=>by cases e),?_⟩;rcases hown.2 with ⟨h,_⟩ | ⟨g,cap',cur,h,_,hgb,_,_,hcs,htk⟩
  . cases h
  . injection h with e1 _ e3
    injection e1 with e1
    injection e1 with e1
    subst e1 e3;refine ⟨cur,hgb,by omega,fun i h=>by omega,fun i hi=>⟨0,?_⟩⟩;have hh:(List.take (l.length * 1) cur.toList)[i]? = (madeCells (Value.int .u8 0).cells (l.length * 1)).toList[i]?:=by rw [htk]
    rw [List.getElem?_take,if_pos (by omega),Array.getElem?_toList,Array.getElem?_toList] at hh;rw [hh];have hz:(Value.int IntKind.u8 0).cells = #[.int .u8 0]:=rfl;rw [hz];simp [madeCells,hi,Nat.mod_one]
 have hgl:w.heap.size≠W1.heap.size:=by
  obtain ⟨_,cur,h,_⟩:=h0;have:=(Array.getElem?_eq_some_iff.1 h).1;omega
 gi_wp2_with (rw [hmk])
 gi_loopw [11] (fun u wr=>∃ k:Nat,k<=l.length/\u = .int .i64 (k:Int)/\TRow w.heap.size w.heap.size w (l.map CharT.b) l.length k wr)
  (fun u _=>match u with | .int _ z=>l.length - z.toNat | _=>0)
 case atStart=>exact ⟨0,Nat.zero_le _,rfl,h0⟩
 case round=>
  obtain ⟨k,hk,rfl,hbel,cur,hgb,hcs,hc1,hc2⟩:=hrel;by_cases hlt:k < l.length
  . obtain ⟨b,o,rfl,⟨a0,b0⟩,⟨a1,b1⟩⟩:=hch k hlt;have hbl:b < w.heap.size:=by
     rcases Nat.lt_or_ge b w.heap.size with h | h
     . exact h
     . rw [hwm b h] at b0; omega
    have f0:wr.cell? ⟨b,o+k * 2,none⟩=some (.int .u8 l[k].b):=by rw [Nat.mul_comm k 2]; exact (qH (hbel.block b hbl) _).trans a0
    have f1:wr.cell? ⟨b,o+k * 2+1,none⟩=some (.int .i64 l[k].fat):=by rw [Nat.mul_comm k 2]; exact (qH (hbel.block b hbl) _).trans a1
    have hgs:=(Array.getElem?_eq_some_iff.1 hgb).1;obtain ⟨W3,hW3⟩:∃ W3,wr.alloc (.cells #[.int .u8 l[k].b,.int .i64 l[k].fat] 55)=W3:=⟨_,rfl⟩;have hg3:W3.heap[w.heap.size]? = some (.cells cur 5 (0,0)):=by rw [<- hW3,Below.heap_alloc _ _ _ hgs]; exact hgb
    have hn3:W3.heap[wr.heap.size]? = some (.cells #[.int .u8 l[k].b,.int .i64 l[k].fat] 55 (0,0)):=by rw [<- hW3]; exact World.alloc_heap_new wr _
    have g0:W3.cell? ⟨wr.heap.size,0,none⟩=some (.int .u8 l[k].b):=by simp [World.cell?,hn3]
    obtain ⟨z,hz⟩:=hc2 k hlt;have hck:W3.cell? ⟨w.heap.size,k,none⟩=some (.int .u8 z):=by simp [World.cell?,hg3,hz]
    have hfk:W3.frozen? ⟨w.heap.size,k,none⟩=false:=by simp [World.frozen?,hg3]
    gi_wp2_with (rw [hW3])
    refine ⟨⟨k+1,hlt,rfl,?_⟩,?_⟩
    . have hbel3:Below w.heap.size w W3:=by rw [<- hW3]; exact hbel.alloc hbel.size _
      refine ⟨hbel3.grown (zFN W3 w.heap.size k (.int .u8 l[k].b)) hbel3.size (fun j e=>by injection e with e; omega),cur.setIfInBounds k (.int .u8 l[k].b),zLa _ hg3,by simpa using hcs,fun i hi=>?_,fun i hi=>?_⟩
      . rw [Array.getElem?_setIfInBounds];by_cases e:k=i
        . subst e;rw [if_pos rfl,if_pos (by omega)];simp [hlt]
        . rw [if_neg e]; exact hc1 i (by omega)
      . rw [Array.getElem?_setIfInBounds];by_cases e:k=i
        . subst e;rw [if_pos rfl,if_pos (by omega)];exact ⟨_,rfl⟩
        . rw [if_neg e]; exact hc2 i hi
    . show l.length - Int.toNat ((k:Int)+1) < l.length - Int.toNat (k:Int);omega
  . obtain rfl:k=l.length:=by omega
    have hcv:=run_convert_bytes_arg (P:=Tryz.prog) wr 84 5 Tryz.underlying84 Tryz.underlying5 w.heap.size 0 l.length l.length (l.map CharT.b) (by simp) (fun i hi=>by
     have:=hc1 i hi;simp [World.cell?,hgb,this]) 9 Tryz.underlying9
    gi_wp2_with (rw [hcv])
    go_ret;exact ⟨rfl,hbel⟩
def c17 (x:List CharT×Unit):Option (Str×Unit):=if x.1.length < 1100000 then some (x.1.map (fun c=>UInt8.ofNat c.b.toNat),()) else none
theorem pure17 (l:List CharT) (hlen:l.length < 1100000):PureF Tryz.prog 17 [.lst (zg (l.map zy)) (l.map zy)] (.at (.string ⟨(l.map (fun c=>UInt8.ofNat c.b.toNat)).toArray⟩)):=by
 intro wm w us hwm hgl hu;obtain ⟨v,rfl⟩:∃ v,us=[v]:=by cases hu with | cons _ hv=>cases hv; exact ⟨_,rfl⟩
 cases hu with
 | cons h _=>
  obtain ⟨us,h1,h2⟩:=h;have hle:=xN _ _ _ _ h1;obtain ⟨sv,rfl⟩:=List.length_eq_one_iff.1 (show us.length=1 from hle);obtain ⟨ad,cap,rfl,hch⟩:=zRb h1;have:v = .slice ad l.length cap:=h2;subst this;refine callsIn_wide.1 ((zSF 3 l hlen wm w hwm ad cap hch).mono ?_);rintro e w' ⟨rfl,hbel⟩;obtain ⟨q1,q2⟩:=qU hwm hbel;refine ⟨_,wm,rfl,q1,q2,?_⟩;have e2:strOfNums (l.map CharT.b)=⟨(l.map (fun c=>UInt8.ofNat c.b.toNat)).toArray⟩:=by simp [strOfNums,List.map_map,Function.comp_def]
  rw [e2];exact RV_at_mk rfl
theorem ok17:ConOk CC Tryz.prog 17 ⟨as17,rs17,c17⟩:=fun x y hx vs hvs=>by
 obtain ⟨s,u⟩:=x;obtain ⟨v,vs',rfl,hv,hvs⟩:=hvs;replace hvs:vs' = []:=hvs;subst hvs;change List CharT at s;replace hv:v = .lst (zg (s.map zy)) (s.map zy):=hv;subst hv;by_cases h:s.length < 1100000
 . have h2:c17 (s,u)=some (s.map (fun c=>UInt8.ofNat c.b.toNat),()):=if_pos h;replace hx:c17 (s,u)=some y:=hx;rw [h2] at hx;injection hx with hx
   subst hx;exact pure17 s h
 . have h2:c17 (s,u)=none:=if_neg h;replace hx:c17 (s,u)=some y:=hx;rw [h2] at hx;cases hx
end
section
open Go.Al Go.Den
theorem zIJ (P:Program) (op:BinOp) (t:TypeId) (c:Bool) (k k':IntKind) (a b:Int) (K:V->Prop):zCD P op t c (.at (.int k a)) (.at (.int k' b)) K=aBin P op t (.at (.int k a)) (.at (.int k' b)) K:=rfl
abbrev polN:Pol:=⟨fun _=>false,fun _=>false,fun _=>false,fun _=>false,[],fun _=>[]⟩
def yT (s:Str) (n:Int):Int:=if n < s.length then zET s n else 0
def c35 (a:Int×Unit) (s:Str) (i:Int):Option (Int×Unit):=if 0<=i+a.1/\i+a.1 < 9223372036854775808/\s.length < 9223372036854775808 then some (yT s (i+a.1),()) else none
set_option maxRecDepth 100000 in
theorem ok35:CROk CC Tryz.prog 35 (cRD [.int .i64] [.int .u8] c35):=by
 intro x R K r hr;obtain ⟨⟨s0,i,u⟩,k,u'⟩:=x;change Str at s0;change Int at i;change Int at k;replace hr:Option.bind (c35 (k,()) s0 i) (fun y=>K y)=some r:=hr;unfold c35 at hr;split at hr
 rotate_left
 . cases hr
 rename_i h;replace hr:K (yT s0 (i+k),())=some r:=hr;replace h:0<=i+k/\i+k < 9223372036854775808/\s0.length < 9223372036854775808:=h;refine ⟨_,hr,fun s va q hv hn=>?_⟩;simp only [VKs,VK] at hv;obtain ⟨v,w,q1,q2,rfl,rfl,⟨b0,cs,q3,rfl,e1,⟨v2,w2,q4,q5,rfl,rfl,⟨rfl,rfl⟩,v4,w4,q8,q9,rfl,rfl,⟨rfl,rfl⟩,rfl,rfl⟩,rfl⟩,v3,w3,q6,q7,rfl,rfl,⟨rfl,rfl⟩,rfl,rfl⟩:=hv;refine ⟨[.at (.int .u8 (yT s0 (i+k)))],fun s'=>⟨_,[],[],[],rfl,rfl,⟨rfl,rfl⟩,rfl,rfl⟩,?_⟩;simp only [List.nil_append,List.append_nil,List.cons_append];have e2:=(yi s [.inr b0] b0).1 (by simp);rw [e1] at e2;show FnC Tryz.prog 35 _ (subS s [.inr b0]) fun oc s'=>oc = .ret (finV [.at (.int .u8 (yT s0 (i+k)))])/\s' = subS s [.inr b0];generalize subS s [.inr b0]=s1 at e2 ⊢;refine zAy Tryz.func35 rfl Tryz.ntmps35 Tryz.results35 (by show 2<=28; decide) fun B=>?_;simp only [List.cons_append,List.nil_append,List.append_nil,qg,Nat.reduceAdd];replace e2:Al.look s1.box b0=some ([.at (.string ⟨List.toArray s0⟩),.at (.int .i64 i)],2):=e2;have hw:IntKind.i64.wrap (i+k)=i+k:=IntWalk.i64_in _ (by omega);have hsz:(⟨List.toArray s0⟩:ByteArray).size=s0.length:=by simp [ByteArray.size]
 (repeat (first | (refine xo ?_) | (refine yp ?_; simp -failIfUnchanged only [zN,zP]) | (refine xq ?_; simp -failIfUnchanged only [yz,yV,xj,y9]) | (refine xF ?_; simp -failIfUnchanged only [yX,yO,zN,zP,reduceIte]) | (refine ye ?_) | ((first | (refine xl polN ks35 _ rfl rfl ?_) | (refine xG polN mixed ks35 _ rfl rfl (by kernel_rfl) (by kernel_rfl) ?_)); simp only [↓jY,↓zH7,↓jw,↓zOS,↓zBc,↓zHi,↓zCT,↓AL_len,zN,yc,yo,xS,jT,zDm,zJZ,yq,xR,zK5,zKT,zQo,zP8,zDt,zIg,zGv,zC1,zEG,implies_true,and_self,xi,yW,List.length_cons,List.length_nil,List.drop_zero,List.drop_succ_cons,List.take_succ_cons,List.take_zero,List.take_nil,List.getD_cons_zero,List.getD_cons_succ,Bool.true_and,Bool.and_self,if_true,if_false,true_and,Nat.reduceAdd,Nat.reduceEqDiff,Nat.reduceLeDiff,reduceCtorEq,Bool.false_eq_true,Nat.zero_add,Nat.add_zero,Nat.le_refl,Nat.lt_add_one,hasT3,aggT3,zOD,zNs,zNU,zKo,strT9,zMl,zMh,ks35,e2,zIJ,hw,hsz])))
 refine zJs rfl (fun h1=>?_) (fun h1=>?_)
 . have h2:i+k >= s0.length:=of_decide_eq_true h1;have h3:yT s0 (i+k)=0:=if_neg (by omega)
   (repeat (first | (refine xo ?_) | (refine yp ?_; simp -failIfUnchanged only [zN,zP]) | (refine xq ?_; simp -failIfUnchanged only [yz,yV,xj,y9]) | (refine xF ?_; simp -failIfUnchanged only [yX,yO,zN,zP,reduceIte]) | (refine ye ?_) | ((first | (refine xl polN ks35 _ rfl rfl ?_) | (refine xG polN mixed ks35 _ rfl rfl (by kernel_rfl) (by kernel_rfl) ?_)); simp only [↓jY,↓jw,zN,yc,yo,xS,zDm,zJZ,yq,xR,if_true,if_false,Nat.reduceEqDiff,reduceCtorEq,ks35])))
   simp only [yG];rw [h3];exact ⟨rfl,rfl,trivial⟩
 . have h2:¬ i+k >= s0.length:=of_decide_eq_false h1;have h3:yT s0 (i+k)=zET s0 (i+k):=if_pos (by omega);refine yp ?_;simp -failIfUnchanged only [zN,zP];have hin:0<=i+k/\i+k < (s0.length:Int):=by omega
   (repeat (first | (refine xo ?_) | (refine yp ?_; simp -failIfUnchanged only [zN,zP]) | (refine xq ?_; simp -failIfUnchanged only [yz,yV,xj,y9]) | (refine xF ?_; simp -failIfUnchanged only [yX,yO,zN,zP,reduceIte]) | (refine ye ?_) | ((first | (refine xl polN ks35 _ rfl rfl ?_) | (refine xG polN mixed ks35 _ rfl rfl (by kernel_rfl) (by kernel_rfl) ?_)); simp only [↓jY,↓zH7,↓jw,↓zOS,↓zBc,↓zQW,↓zHi,↓zCT,zN,yc,yo,xS,jT,yq,xR,zK5,zKT,zDt,zIg,zGv,zC1,zEG,zNn,implies_true,and_self,xi,yW,List.length_cons,List.length_nil,List.drop_zero,List.drop_succ_cons,List.take_succ_cons,List.take_zero,List.take_nil,List.getD_cons_zero,List.getD_cons_succ,Bool.true_and,Bool.and_self,if_true,if_false,true_and,Nat.reduceAdd,Nat.reduceEqDiff,Nat.reduceLeDiff,reduceCtorEq,Bool.false_eq_true,Nat.zero_add,Nat.add_zero,Nat.le_refl,Nat.lt_add_one,hasT3,aggT3,zOD,zNs,zNU,zKo,strT9,zMl,zMh,ks35,e2,zIJ,hw,hsz,hin])))
   have hg:(List.toArray s0).getD (i+k).toNat 0=s0.getD (i+k).toNat 0:=by simp [Array.getD_eq_getD_getElem?,List.getD_eq_getElem?_getD]
   simp only [yG];rw [h3,hg];exact ⟨rfl,rfl,trivial⟩
end
section
open Go.Al Go.Den
instance:DecidableEq TokT:=fun a b=>
 if h:a.kind=b.kind/\a.text=b.text/\a.file=b.file/\a.ffrom=b.ffrom/\a.fto=b.fto/\a.blank=b.blank then
  isTrue (by obtain ⟨_,_,_,_,_,_⟩:=a; obtain ⟨_,_,_,_,_,_⟩:=b; simp only at h; obtain ⟨rfl,rfl,rfl,rfl,rfl,rfl⟩:=h; rfl)
 else isFalse fun e=>h (by subst e; exact ⟨rfl,rfl,rfl,rfl,rfl,rfl⟩)
theorem zKt {P:Program} {f:Nat} {io oo aa rs:List (SK UU)} {sh:zA io->zA aa->Option (Option (zA oo×zA rs))} (h:CPOk CC P syn f ⟨io,oo,aa,rs,fnP sh⟩) (x:zA io) (a:zA aa) (oc:Option (zA oo×zA rs)) (hx:sh x a=some oc) :
 ∀ s vx va r1 r2,VKs CC s io x vx r1->VKs CC s aa a va r2->(r1++r2).Nodup->FnC P f (vx++va) (subS s (r1++r2)) (xJ CC syn oo rs vx oc):=by
 cases oc with
 | none=>
  obtain ⟨oc,h1,h2⟩:=h x a (R:=Unit) (some ()) (fun _ _=>none) () (by simp only [fnP,hx]; rfl);cases oc with
  | none=>exact h2
  | some y=>cases h1
 | some y=>
  obtain ⟨oc,h1,h2⟩:=h x a (R:=zA oo×zA rs) none (fun u v=>some (u,v)) y (by simp only [fnP,hx]; rfl);cases oc with
  | none=>cases h1
  | some y'=>
   injection h1 with h1
   have:y' = y:=h1;subst this;exact h2
def outD {β:Type} (l:Str):Option (Option ((RdT×Unit)×β))->Option (β×Int)
 | some (some y)=>if y.1.1.1=l then some (y.2,y.1.1.2.1) else none
 | _=>none
noncomputable def mD {aa rs:LK} (sh:RdT×Unit->zA aa->Option (Option ((RdT×Unit)×zA rs))):zA aa->DD (zA rs):=fun a l i=>outD l (sh ((l,i,()),()) a)
theorem zDf {P:Program} {f:Nat} {aa rs:LK} {sh:zA ([rdK]:LK)->zA aa->Option (Option (zA ([rdK]:LK)×zA rs))} (h:CPOk CC P syn f ⟨[rdK],[rdK],aa,rs,fnP sh⟩):CPOk CC P syn f (cD aa rs (mD sh)):=by
 intro x a R pan K r hr;obtain ⟨⟨l,i,u⟩,u'⟩:=x;have key:∀ oo:Option (Option ((RdT×Unit)×zA rs)),sh ((l,i,()),()) a=oo->(Option.bind (outD l oo) fun y=>K ((l,y.2,()),()) y.1)=some r ->
  ∃ oc:Option (zA ([rdK]:LK)×zA rs),(match oc with | none=>pan=some r | some y=>K y.1 y.2=some r)/\∀ s vx va r1 r2,VKs CC s [rdK] ((l,i,u),u') vx r1->VKs CC s aa a va r2->(r1++r2).Nodup->FnC P f (vx++va) (subS s (r1++r2)) (xJ CC syn [rdK] rs vx oc):=by
  intro oo hs hr;cases oo with
  | none=>cases hr
  | some oc=>
   have hh:=zKt h ((l,i,()),()) a oc hs;cases oc with
   | none=>cases hr
   | some y=>
    obtain ⟨⟨⟨l',i',w⟩,v2⟩,z⟩:=y;unfold outD at hr;simp only at hr;split at hr
    . rename_i hy;subst hy;exact ⟨some (((l',i',()),()),z),hr,hh⟩
    . cases hr
 obtain ⟨oc,h1,h2⟩:=key _ rfl hr;exact ⟨oc,by cases oc <;> exact h1,h2⟩
def outF {β:Type}:Option (Option (Unit×β))->Option β
 | some (some y)=>some y.2
 | _=>none
noncomputable def mF {aa rs:LK} (sh:Unit->zA aa->Option (Option (Unit×zA rs))):zA aa->Option (zA rs):=fun a=>outF (sh () a)
theorem cF_of {P:Program} {f:Nat} {aa rs:LK} {sh:zA ([]:LK)->zA aa->Option (Option (zA ([]:LK)×zA rs))} (h:CPOk CC P syn f ⟨[],[],aa,rs,fnP sh⟩):CPOk CC P syn f (cF aa rs (mF sh)):=by
 intro x a R pan K r hr;have key:∀ oo:Option (Option (Unit×zA rs)),sh () a=oo->(Option.bind (outF oo) fun y=>K () y)=some r ->
  ∃ oc:Option (zA ([]:LK)×zA rs),(match oc with | none=>pan=some r | some y=>K y.1 y.2=some r)/\∀ s vx va r1 r2,VKs CC s ([]:LK) x vx r1->VKs CC s aa a va r2->(r1++r2).Nodup->FnC P f (vx++va) (subS s (r1++r2)) (xJ CC syn ([]:LK) rs vx oc):=by
  intro oo hs hr;cases oo with
  | none=>cases hr
  | some oc=>
   have hh:=zKt h () a oc hs;cases oc with
   | none=>cases hr
   | some y=>
    obtain ⟨y1,z⟩:=y;exact ⟨some ((),z),hr,hh⟩
 obtain ⟨oc,h1,h2⟩:=key _ rfl hr;exact ⟨oc,by cases oc <;> exact h1,h2⟩
def outW {β:Type}:Option (Option ((WoT×Unit)×β))->Option (β×MapM×Int)
 | some (some y)=>some (y.2,y.1.1.1,y.1.1.2.1)
 | _=>none
noncomputable def mW {aa rs:LK} (sh:WoT×Unit->zA aa->Option (Option ((WoT×Unit)×zA rs))):zA aa->WW (zA rs):=fun a l i=>outW (sh ((l,i,()),()) a)
theorem zNg {P:Program} {f:Nat} {aa rs:LK} {sh:zA ([woK]:LK)->zA aa->Option (Option (zA ([woK]:LK)×zA rs))} (h:CPOk CC P syn f ⟨[woK],[woK],aa,rs,fnP sh⟩):CPOk CC P syn f (cW aa rs (mW sh)):=by
 intro x a R pan K r hr;obtain ⟨⟨l,i,u⟩,u'⟩:=x;have key:∀ oo:Option (Option ((WoT×Unit)×zA rs)),sh ((l,i,()),()) a=oo->(Option.bind (outW oo) fun y=>K ((y.2.1,y.2.2,()),()) y.1)=some r ->
  ∃ oc:Option (zA ([woK]:LK)×zA rs),(match oc with | none=>pan=some r | some y=>K y.1 y.2=some r)/\∀ s vx va r1 r2,VKs CC s [woK] ((l,i,u),u') vx r1->VKs CC s aa a va r2->(r1++r2).Nodup->FnC P f (vx++va) (subS s (r1++r2)) (xJ CC syn [woK] rs vx oc):=by
  intro oo hs hr;cases oo with
  | none=>cases hr
  | some oc=>
   have hh:=zKt h ((l,i,()),()) a oc hs;cases oc with
   | none=>cases hr
   | some y=>
    obtain ⟨⟨⟨l',i',w⟩,v2⟩,z⟩:=y;exact ⟨some (((l',i',()),()),z),hr,hh⟩
 obtain ⟨oc,h1,h2⟩:=key _ rfl hr;exact ⟨oc,by cases oc <;> exact h1,h2⟩
theorem zRc {P:Program} {f:Nat} {a r:List (AK UU)}:ConOk CC P f ⟨a,r,fun _=>none⟩:=fun x y hx=>by
 replace hx:(none:Option (zK r))=some y:=hx;cases hx
theorem zAv {P:Program} {f:Nat} {a r:List (AK UU)}:ConOk CC P f ⟨a,r,nn a r⟩:=zRc
end
section
open Go.Al Go.Den
def sh36 (fu:Nat) (x:((Str×(Int×Unit))×Unit)) (a:(Str×Unit)):(Option (Option (((Str×(Int×Unit))×Unit)×(Bool×Unit)))):=cond (inS x.1.2.1 (lenI x.1.1) (List.length x.1.1)) (cond (ile (lenI a.1) (lenI (cutL x.1.1 x.1.2.1 (lenI x.1.1)))) (cond (inS 0 (lenI a.1) (List.length (cutL x.1.1 x.1.2.1 (lenI x.1.1)))) (some (some (((x.1.1,(x.1.2.1,())),()),((seq (cutL (cutL x.1.1 x.1.2.1 (lenI x.1.1)) 0 (lenI a.1)) a.1),())))) (none)) (some (some (((x.1.1,(x.1.2.1,())),()),(false,()))))) (none)
theorem eq36:@run36 = @sh36:=by kernel_rfl
def sh18 (fu:Nat) (c37:(Str×(Int×Unit))->(Option (Int×Unit))) (c38:(Str×(Str×Unit))->(Option (Int×Unit))) (c35:(Int×Unit)->Str->Int->(Option (Int×Unit))) (c36:(Str×Unit)->Str->Int->(Option ((Bool×Unit)×Int))) (x:((Str×(Int×Unit))×Unit)) (a:Unit):(Option (Option (((Str×(Int×Unit))×Unit)×(Bool×Unit)))):=zA3 (fun (join0:(Unit×((Str×(Int×Unit))×Unit))->Option (Option (((Str×(Int×Unit))×Unit)×(Bool×Unit))))=>Option.bind (c35 (0,()) x.1.1 x.1.2.1) fun y0=>zA3 (fun (join1:((Bool×Unit)×((Str×(Int×Unit))×Unit))->Option (Option (((Str×(Int×Unit))×Unit)×(Bool×Unit))))=>cond (ieq y0.1 32) (join1 ((true,()),((x.1.1,(x.1.2.1,())),()))) (cond (ieq y0.1 9) (join1 ((true,()),((x.1.1,(x.1.2.1,())),()))) (cond (ieq y0.1 11) (join1 ((true,()),((x.1.1,(x.1.2.1,())),()))) (cond (ieq y0.1 12) (join1 ((true,()),((x.1.1,(x.1.2.1,())),()))) (join1 (((ieq y0.1 13),()),((x.1.1,(x.1.2.1,())),()))))))) (fun (t0:((Bool×Unit)×((Str×(Int×Unit))×Unit)))=>cond t0.1.1 (some (some (((t0.2.1.1,((iadd .i64 t0.2.1.2.1 1),())),()),(true,())))) (join0 ((),((t0.2.1.1,(t0.2.1.2.1,())),()))))) (fun (t0:(Unit×((Str×(Int×Unit))×Unit)))=>Option.bind (c36 ([47,47],()) t0.2.1.1 t0.2.1.2.1) fun y0=>cond y0.1.1 (cond (inS y0.2 (lenI t0.2.1.1) (List.length t0.2.1.1)) (Option.bind (c37 ((cutL t0.2.1.1 y0.2 (lenI t0.2.1.1)),(10,()))) fun y1=>zA3 (fun (join0:((Int×Unit)×((Str×(Int×Unit))×Unit))->Option (Option (((Str×(Int×Unit))×Unit)×(Bool×Unit))))=>cond (ilt y1.1 0) (join0 (((isub .i64 (lenI t0.2.1.1) y0.2),()),((t0.2.1.1,(y0.2,())),()))) (join0 ((y1.1,()),((t0.2.1.1,(y0.2,())),())))) (fun (t1:((Int×Unit)×((Str×(Int×Unit))×Unit)))=>some (some (((t1.2.1.1,((iadd .i64 t1.2.1.2.1 t1.1.1),())),()),(true,()))))) (none)) (Option.bind (c36 ([47,42],()) t0.2.1.1 y0.2) fun y1=>cond (!y1.1.1) (some (some (((t0.2.1.1,(y1.2,())),()),(false,())))) (cond (inS (iadd .i64 y1.2 2) (lenI t0.2.1.1) (List.length t0.2.1.1)) (Option.bind (c38 ((cutL t0.2.1.1 (iadd .i64 y1.2 2) (lenI t0.2.1.1)),([42,47],()))) fun y2=>cond (ilt y2.1 0) (some (some (((t0.2.1.1,(y1.2,())),()),(false,())))) (some (some (((t0.2.1.1,((iadd .i64 y1.2 (iadd .i64 y2.1 4)),())),()),(true,()))))) (none))))
theorem eq18:@run18 = @sh18:=by kernel_rfl
def sh39 (fu:Nat) (c35:(Int×Unit)->Str->Int->(Option (Int×Unit))) (x:((Str×(Int×Unit))×Unit)) (a:Unit):(Option (Option (((Str×(Int×Unit))×Unit)×(Int×Unit)))):=iter fu (fun (rec1:((Int×Unit)×((Str×(Int×Unit))×Unit))->Option (Option (((Str×(Int×Unit))×Unit)×(Int×Unit)))) (s1:((Int×Unit)×((Str×(Int×Unit))×Unit)))=>Option.bind (c35 (s1.1.1,()) s1.2.1.1 s1.2.1.2.1) fun y0=>cond (ieq y0.1 95) (rec1 (((iadd .i64 s1.1.1 1),()),((s1.2.1.1,(s1.2.1.2.1,())),()))) (cond (ile 97 y0.1) (cond (ile y0.1 122) (rec1 (((iadd .i64 s1.1.1 1),()),((s1.2.1.1,(s1.2.1.2.1,())),()))) (cond (ile 65 y0.1) (cond (ile y0.1 90) (rec1 (((iadd .i64 s1.1.1 1),()),((s1.2.1.1,(s1.2.1.2.1,())),()))) (cond (ilt 0 s1.1.1) (Option.bind (c35 (s1.1.1,()) s1.2.1.1 s1.2.1.2.1) fun y1=>cond (ile 48 y1.1) (cond (ile y1.1 57) (rec1 (((iadd .i64 s1.1.1 1),()),((s1.2.1.1,(s1.2.1.2.1,())),()))) (some (some (((s1.2.1.1,(s1.2.1.2.1,())),()),(s1.1.1,()))))) (some (some (((s1.2.1.1,(s1.2.1.2.1,())),()),(s1.1.1,()))))) (some (some (((s1.2.1.1,(s1.2.1.2.1,())),()),(s1.1.1,())))))) (cond (ilt 0 s1.1.1) (Option.bind (c35 (s1.1.1,()) s1.2.1.1 s1.2.1.2.1) fun y1=>cond (ile 48 y1.1) (cond (ile y1.1 57) (rec1 (((iadd .i64 s1.1.1 1),()),((s1.2.1.1,(s1.2.1.2.1,())),()))) (some (some (((s1.2.1.1,(s1.2.1.2.1,())),()),(s1.1.1,()))))) (some (some (((s1.2.1.1,(s1.2.1.2.1,())),()),(s1.1.1,()))))) (some (some (((s1.2.1.1,(s1.2.1.2.1,())),()),(s1.1.1,()))))))) (cond (ile 65 y0.1) (cond (ile y0.1 90) (rec1 (((iadd .i64 s1.1.1 1),()),((s1.2.1.1,(s1.2.1.2.1,())),()))) (cond (ilt 0 s1.1.1) (Option.bind (c35 (s1.1.1,()) s1.2.1.1 s1.2.1.2.1) fun y1=>cond (ile 48 y1.1) (cond (ile y1.1 57) (rec1 (((iadd .i64 s1.1.1 1),()),((s1.2.1.1,(s1.2.1.2.1,())),()))) (some (some (((s1.2.1.1,(s1.2.1.2.1,())),()),(s1.1.1,()))))) (some (some (((s1.2.1.1,(s1.2.1.2.1,())),()),(s1.1.1,()))))) (some (some (((s1.2.1.1,(s1.2.1.2.1,())),()),(s1.1.1,())))))) (cond (ilt 0 s1.1.1) (Option.bind (c35 (s1.1.1,()) s1.2.1.1 s1.2.1.2.1) fun y1=>cond (ile 48 y1.1) (cond (ile y1.1 57) (rec1 (((iadd .i64 s1.1.1 1),()),((s1.2.1.1,(s1.2.1.2.1,())),()))) (some (some (((s1.2.1.1,(s1.2.1.2.1,())),()),(s1.1.1,()))))) (some (some (((s1.2.1.1,(s1.2.1.2.1,())),()),(s1.1.1,()))))) (some (some (((s1.2.1.1,(s1.2.1.2.1,())),()),(s1.1.1,())))))))) ((0,()),((x.1.1,(x.1.2.1,())),()))
theorem eq39:@run39 = @sh39:=by kernel_rfl
def sh40 (fu:Nat) (c37:(Str×(Int×Unit))->(Option (Int×Unit))) (c35:(Int×Unit)->Str->Int->(Option (Int×Unit))) (x:((Str×(Int×Unit))×Unit)) (a:Unit):(Option (Option (((Str×(Int×Unit))×Unit)×(Int×Unit)))):=Option.bind (c35 (0,()) x.1.1 x.1.2.1) fun y0=>cond (ile 48 y0.1) (cond (!(ile y0.1 57)) (Option.bind (c35 (0,()) x.1.1 x.1.2.1) fun y1=>cond (ine y1.1 46) (some (some (((x.1.1,(x.1.2.1,())),()),(0,())))) (Option.bind (c35 (1,()) x.1.1 x.1.2.1) fun y2=>cond (ile 48 y2.1) (cond (!(ile y2.1 57)) (some (some (((x.1.1,(x.1.2.1,())),()),(0,())))) (iter fu (fun (rec1:((Int×Unit)×((Str×(Int×Unit))×Unit))->Option (Option (((Str×(Int×Unit))×Unit)×(Int×Unit)))) (s1:((Int×Unit)×((Str×(Int×Unit))×Unit)))=>Option.bind (c35 (s1.1.1,()) s1.2.1.1 s1.2.1.2.1) fun y3=>Option.bind (c35 ((iadd .i64 s1.1.1 1),()) s1.2.1.1 s1.2.1.2.1) fun y4=>Option.bind (c37 ([101,69,112,80],(y3.1,()))) fun y5=>cond (ile 0 y5.1) (cond (ieq y4.1 43) (rec1 (((iadd .i64 s1.1.1 2),()),((s1.2.1.1,(s1.2.1.2.1,())),()))) (cond (ieq y4.1 45) (rec1 (((iadd .i64 s1.1.1 2),()),((s1.2.1.1,(s1.2.1.2.1,())),()))) (cond (ieq y3.1 95) (rec1 (((iadd .i64 s1.1.1 1),()),((s1.2.1.1,(s1.2.1.2.1,())),()))) (cond (ile 97 y3.1) (cond (ile y3.1 122) (rec1 (((iadd .i64 s1.1.1 1),()),((s1.2.1.1,(s1.2.1.2.1,())),()))) (cond (ile 65 y3.1) (cond (ile y3.1 90) (rec1 (((iadd .i64 s1.1.1 1),()),((s1.2.1.1,(s1.2.1.2.1,())),()))) (cond (ile 48 y3.1) (cond (ile y3.1 57) (rec1 (((iadd .i64 s1.1.1 1),()),((s1.2.1.1,(s1.2.1.2.1,())),()))) (cond (ieq y3.1 46) (rec1 (((iadd .i64 s1.1.1 1),()),((s1.2.1.1,(s1.2.1.2.1,())),()))) (some (some (((s1.2.1.1,(s1.2.1.2.1,())),()),(s1.1.1,())))))) (cond (ieq y3.1 46) (rec1 (((iadd .i64 s1.1.1 1),()),((s1.2.1.1,(s1.2.1.2.1,())),()))) (some (some (((s1.2.1.1,(s1.2.1.2.1,())),()),(s1.1.1,()))))))) (cond (ile 48 y3.1) (cond (ile y3.1 57) (rec1 (((iadd .i64 s1.1.1 1),()),((s1.2.1.1,(s1.2.1.2.1,())),()))) (cond (ieq y3.1 46) (rec1 (((iadd .i64 s1.1.1 1),()),((s1.2.1.1,(s1.2.1.2.1,())),()))) (some (some (((s1.2.1.1,(s1.2.1.2.1,())),()),(s1.1.1,())))))) (cond (ieq y3.1 46) (rec1 (((iadd .i64 s1.1.1 1),()),((s1.2.1.1,(s1.2.1.2.1,())),()))) (some (some (((s1.2.1.1,(s1.2.1.2.1,())),()),(s1.1.1,())))))))) (cond (ile 65 y3.1) (cond (ile y3.1 90) (rec1 (((iadd .i64 s1.1.1 1),()),((s1.2.1.1,(s1.2.1.2.1,())),()))) (cond (ile 48 y3.1) (cond (ile y3.1 57) (rec1 (((iadd .i64 s1.1.1 1),()),((s1.2.1.1,(s1.2.1.2.1,())),()))) (cond (ieq y3.1 46) (rec1 (((iadd .i64 s1.1.1 1),()),((s1.2.1.1,(s1.2.1.2.1,())),()))) (some (some (((s1.2.1.1,(s1.2.1.2.1,())),()),(s1.1.1,())))))) (cond (ieq y3.1 46) (rec1 (((iadd .i64 s1.1.1 1),()),((s1.2.1.1,(s1.2.1.2.1,())),()))) (some (some (((s1.2.1.1,(s1.2.1.2.1,())),()),(s1.1.1,()))))))) (cond (ile 48 y3.1) (cond (ile y3.1 57) (rec1 (((iadd .i64 s1.1.1 1),()),((s1.2.1.1,(s1.2.1.2.1,())),()))) (cond (ieq y3.1 46) (rec1 (((iadd .i64 s1.1.1 1),()),((s1.2.1.1,(s1.2.1.2.1,())),()))) (some (some (((s1.2.1.1,(s1.2.1.2.1,())),()),(s1.1.1,())))))) (cond (ieq y3.1 46) (rec1 (((iadd .i64 s1.1.1 1),()),((s1.2.1.1,(s1.2.1.2.1,())),()))) (some (some (((s1.2.1.1,(s1.2.1.2.1,())),()),(s1.1.1,()))))))))))) (cond (ieq y3.1 95) (rec1 (((iadd .i64 s1.1.1 1),()),((s1.2.1.1,(s1.2.1.2.1,())),()))) (cond (ile 97 y3.1) (cond (ile y3.1 122) (rec1 (((iadd .i64 s1.1.1 1),()),((s1.2.1.1,(s1.2.1.2.1,())),()))) (cond (ile 65 y3.1) (cond (ile y3.1 90) (rec1 (((iadd .i64 s1.1.1 1),()),((s1.2.1.1,(s1.2.1.2.1,())),()))) (cond (ile 48 y3.1) (cond (ile y3.1 57) (rec1 (((iadd .i64 s1.1.1 1),()),((s1.2.1.1,(s1.2.1.2.1,())),()))) (cond (ieq y3.1 46) (rec1 (((iadd .i64 s1.1.1 1),()),((s1.2.1.1,(s1.2.1.2.1,())),()))) (some (some (((s1.2.1.1,(s1.2.1.2.1,())),()),(s1.1.1,())))))) (cond (ieq y3.1 46) (rec1 (((iadd .i64 s1.1.1 1),()),((s1.2.1.1,(s1.2.1.2.1,())),()))) (some (some (((s1.2.1.1,(s1.2.1.2.1,())),()),(s1.1.1,()))))))) (cond (ile 48 y3.1) (cond (ile y3.1 57) (rec1 (((iadd .i64 s1.1.1 1),()),((s1.2.1.1,(s1.2.1.2.1,())),()))) (cond (ieq y3.1 46) (rec1 (((iadd .i64 s1.1.1 1),()),((s1.2.1.1,(s1.2.1.2.1,())),()))) (some (some (((s1.2.1.1,(s1.2.1.2.1,())),()),(s1.1.1,())))))) (cond (ieq y3.1 46) (rec1 (((iadd .i64 s1.1.1 1),()),((s1.2.1.1,(s1.2.1.2.1,())),()))) (some (some (((s1.2.1.1,(s1.2.1.2.1,())),()),(s1.1.1,())))))))) (cond (ile 65 y3.1) (cond (ile y3.1 90) (rec1 (((iadd .i64 s1.1.1 1),()),((s1.2.1.1,(s1.2.1.2.1,())),()))) (cond (ile 48 y3.1) (cond (ile y3.1 57) (rec1 (((iadd .i64 s1.1.1 1),()),((s1.2.1.1,(s1.2.1.2.1,())),()))) (cond (ieq y3.1 46) (rec1 (((iadd .i64 s1.1.1 1),()),((s1.2.1.1,(s1.2.1.2.1,())),()))) (some (some (((s1.2.1.1,(s1.2.1.2.1,())),()),(s1.1.1,())))))) (cond (ieq y3.1 46) (rec1 (((iadd .i64 s1.1.1 1),()),((s1.2.1.1,(s1.2.1.2.1,())),()))) (some (some (((s1.2.1.1,(s1.2.1.2.1,())),()),(s1.1.1,()))))))) (cond (ile 48 y3.1) (cond (ile y3.1 57) (rec1 (((iadd .i64 s1.1.1 1),()),((s1.2.1.1,(s1.2.1.2.1,())),()))) (cond (ieq y3.1 46) (rec1 (((iadd .i64 s1.1.1 1),()),((s1.2.1.1,(s1.2.1.2.1,())),()))) (some (some (((s1.2.1.1,(s1.2.1.2.1,())),()),(s1.1.1,())))))) (cond (ieq y3.1 46) (rec1 (((iadd .i64 s1.1.1 1),()),((s1.2.1.1,(s1.2.1.2.1,())),()))) (some (some (((s1.2.1.1,(s1.2.1.2.1,())),()),(s1.1.1,())))))))))) ((1,()),((x.1.1,(x.1.2.1,())),())))) (some (some (((x.1.1,(x.1.2.1,())),()),(0,())))))) (iter fu (fun (rec1:((Int×Unit)×((Str×(Int×Unit))×Unit))->Option (Option (((Str×(Int×Unit))×Unit)×(Int×Unit)))) (s1:((Int×Unit)×((Str×(Int×Unit))×Unit)))=>Option.bind (c35 (s1.1.1,()) s1.2.1.1 s1.2.1.2.1) fun y1=>Option.bind (c35 ((iadd .i64 s1.1.1 1),()) s1.2.1.1 s1.2.1.2.1) fun y2=>Option.bind (c37 ([101,69,112,80],(y1.1,()))) fun y3=>cond (ile 0 y3.1) (cond (ieq y2.1 43) (rec1 (((iadd .i64 s1.1.1 2),()),((s1.2.1.1,(s1.2.1.2.1,())),()))) (cond (ieq y2.1 45) (rec1 (((iadd .i64 s1.1.1 2),()),((s1.2.1.1,(s1.2.1.2.1,())),()))) (cond (ieq y1.1 95) (rec1 (((iadd .i64 s1.1.1 1),()),((s1.2.1.1,(s1.2.1.2.1,())),()))) (cond (ile 97 y1.1) (cond (ile y1.1 122) (rec1 (((iadd .i64 s1.1.1 1),()),((s1.2.1.1,(s1.2.1.2.1,())),()))) (cond (ile 65 y1.1) (cond (ile y1.1 90) (rec1 (((iadd .i64 s1.1.1 1),()),((s1.2.1.1,(s1.2.1.2.1,())),()))) (cond (ile 48 y1.1) (cond (ile y1.1 57) (rec1 (((iadd .i64 s1.1.1 1),()),((s1.2.1.1,(s1.2.1.2.1,())),()))) (cond (ieq y1.1 46) (rec1 (((iadd .i64 s1.1.1 1),()),((s1.2.1.1,(s1.2.1.2.1,())),()))) (some (some (((s1.2.1.1,(s1.2.1.2.1,())),()),(s1.1.1,())))))) (cond (ieq y1.1 46) (rec1 (((iadd .i64 s1.1.1 1),()),((s1.2.1.1,(s1.2.1.2.1,())),()))) (some (some (((s1.2.1.1,(s1.2.1.2.1,())),()),(s1.1.1,()))))))) (cond (ile 48 y1.1) (cond (ile y1.1 57) (rec1 (((iadd .i64 s1.1.1 1),()),((s1.2.1.1,(s1.2.1.2.1,())),()))) (cond (ieq y1.1 46) (rec1 (((iadd .i64 s1.1.1 1),()),((s1.2.1.1,(s1.2.1.2.1,())),()))) (some (some (((s1.2.1.1,(s1.2.1.2.1,())),()),(s1.1.1,())))))) (cond (ieq y1.1 46) (rec1 (((iadd .i64 s1.1.1 1),()),((s1.2.1.1,(s1.2.1.2.1,())),()))) (some (some (((s1.2.1.1,(s1.2.1.2.1,())),()),(s1.1.1,())))))))) (cond (ile 65 y1.1) (cond (ile y1.1 90) (rec1 (((iadd .i64 s1.1.1 1),()),((s1.2.1.1,(s1.2.1.2.1,())),()))) (cond (ile 48 y1.1) (cond (ile y1.1 57) (rec1 (((iadd .i64 s1.1.1 1),()),((s1.2.1.1,(s1.2.1.2.1,())),()))) (cond (ieq y1.1 46) (rec1 (((iadd .i64 s1.1.1 1),()),((s1.2.1.1,(s1.2.1.2.1,())),()))) (some (some (((s1.2.1.1,(s1.2.1.2.1,())),()),(s1.1.1,())))))) (cond (ieq y1.1 46) (rec1 (((iadd .i64 s1.1.1 1),()),((s1.2.1.1,(s1.2.1.2.1,())),()))) (some (some (((s1.2.1.1,(s1.2.1.2.1,())),()),(s1.1.1,()))))))) (cond (ile 48 y1.1) (cond (ile y1.1 57) (rec1 (((iadd .i64 s1.1.1 1),()),((s1.2.1.1,(s1.2.1.2.1,())),()))) (cond (ieq y1.1 46) (rec1 (((iadd .i64 s1.1.1 1),()),((s1.2.1.1,(s1.2.1.2.1,())),()))) (some (some (((s1.2.1.1,(s1.2.1.2.1,())),()),(s1.1.1,())))))) (cond (ieq y1.1 46) (rec1 (((iadd .i64 s1.1.1 1),()),((s1.2.1.1,(s1.2.1.2.1,())),()))) (some (some (((s1.2.1.1,(s1.2.1.2.1,())),()),(s1.1.1,()))))))))))) (cond (ieq y1.1 95) (rec1 (((iadd .i64 s1.1.1 1),()),((s1.2.1.1,(s1.2.1.2.1,())),()))) (cond (ile 97 y1.1) (cond (ile y1.1 122) (rec1 (((iadd .i64 s1.1.1 1),()),((s1.2.1.1,(s1.2.1.2.1,())),()))) (cond (ile 65 y1.1) (cond (ile y1.1 90) (rec1 (((iadd .i64 s1.1.1 1),()),((s1.2.1.1,(s1.2.1.2.1,())),()))) (cond (ile 48 y1.1) (cond (ile y1.1 57) (rec1 (((iadd .i64 s1.1.1 1),()),((s1.2.1.1,(s1.2.1.2.1,())),()))) (cond (ieq y1.1 46) (rec1 (((iadd .i64 s1.1.1 1),()),((s1.2.1.1,(s1.2.1.2.1,())),()))) (some (some (((s1.2.1.1,(s1.2.1.2.1,())),()),(s1.1.1,())))))) (cond (ieq y1.1 46) (rec1 (((iadd .i64 s1.1.1 1),()),((s1.2.1.1,(s1.2.1.2.1,())),()))) (some (some (((s1.2.1.1,(s1.2.1.2.1,())),()),(s1.1.1,()))))))) (cond (ile 48 y1.1) (cond (ile y1.1 57) (rec1 (((iadd .i64 s1.1.1 1),()),((s1.2.1.1,(s1.2.1.2.1,())),()))) (cond (ieq y1.1 46) (rec1 (((iadd .i64 s1.1.1 1),()),((s1.2.1.1,(s1.2.1.2.1,())),()))) (some (some (((s1.2.1.1,(s1.2.1.2.1,())),()),(s1.1.1,())))))) (cond (ieq y1.1 46) (rec1 (((iadd .i64 s1.1.1 1),()),((s1.2.1.1,(s1.2.1.2.1,())),()))) (some (some (((s1.2.1.1,(s1.2.1.2.1,())),()),(s1.1.1,())))))))) (cond (ile 65 y1.1) (cond (ile y1.1 90) (rec1 (((iadd .i64 s1.1.1 1),()),((s1.2.1.1,(s1.2.1.2.1,())),()))) (cond (ile 48 y1.1) (cond (ile y1.1 57) (rec1 (((iadd .i64 s1.1.1 1),()),((s1.2.1.1,(s1.2.1.2.1,())),()))) (cond (ieq y1.1 46) (rec1 (((iadd .i64 s1.1.1 1),()),((s1.2.1.1,(s1.2.1.2.1,())),()))) (some (some (((s1.2.1.1,(s1.2.1.2.1,())),()),(s1.1.1,())))))) (cond (ieq y1.1 46) (rec1 (((iadd .i64 s1.1.1 1),()),((s1.2.1.1,(s1.2.1.2.1,())),()))) (some (some (((s1.2.1.1,(s1.2.1.2.1,())),()),(s1.1.1,()))))))) (cond (ile 48 y1.1) (cond (ile y1.1 57) (rec1 (((iadd .i64 s1.1.1 1),()),((s1.2.1.1,(s1.2.1.2.1,())),()))) (cond (ieq y1.1 46) (rec1 (((iadd .i64 s1.1.1 1),()),((s1.2.1.1,(s1.2.1.2.1,())),()))) (some (some (((s1.2.1.1,(s1.2.1.2.1,())),()),(s1.1.1,())))))) (cond (ieq y1.1 46) (rec1 (((iadd .i64 s1.1.1 1),()),((s1.2.1.1,(s1.2.1.2.1,())),()))) (some (some (((s1.2.1.1,(s1.2.1.2.1,())),()),(s1.1.1,())))))))))) ((1,()),((x.1.1,(x.1.2.1,())),())))) (Option.bind (c35 (0,()) x.1.1 x.1.2.1) fun y1=>cond (ine y1.1 46) (some (some (((x.1.1,(x.1.2.1,())),()),(0,())))) (Option.bind (c35 (1,()) x.1.1 x.1.2.1) fun y2=>cond (ile 48 y2.1) (cond (!(ile y2.1 57)) (some (some (((x.1.1,(x.1.2.1,())),()),(0,())))) (iter fu (fun (rec1:((Int×Unit)×((Str×(Int×Unit))×Unit))->Option (Option (((Str×(Int×Unit))×Unit)×(Int×Unit)))) (s1:((Int×Unit)×((Str×(Int×Unit))×Unit)))=>Option.bind (c35 (s1.1.1,()) s1.2.1.1 s1.2.1.2.1) fun y3=>Option.bind (c35 ((iadd .i64 s1.1.1 1),()) s1.2.1.1 s1.2.1.2.1) fun y4=>Option.bind (c37 ([101,69,112,80],(y3.1,()))) fun y5=>cond (ile 0 y5.1) (cond (ieq y4.1 43) (rec1 (((iadd .i64 s1.1.1 2),()),((s1.2.1.1,(s1.2.1.2.1,())),()))) (cond (ieq y4.1 45) (rec1 (((iadd .i64 s1.1.1 2),()),((s1.2.1.1,(s1.2.1.2.1,())),()))) (cond (ieq y3.1 95) (rec1 (((iadd .i64 s1.1.1 1),()),((s1.2.1.1,(s1.2.1.2.1,())),()))) (cond (ile 97 y3.1) (cond (ile y3.1 122) (rec1 (((iadd .i64 s1.1.1 1),()),((s1.2.1.1,(s1.2.1.2.1,())),()))) (cond (ile 65 y3.1) (cond (ile y3.1 90) (rec1 (((iadd .i64 s1.1.1 1),()),((s1.2.1.1,(s1.2.1.2.1,())),()))) (cond (ile 48 y3.1) (cond (ile y3.1 57) (rec1 (((iadd .i64 s1.1.1 1),()),((s1.2.1.1,(s1.2.1.2.1,())),()))) (cond (ieq y3.1 46) (rec1 (((iadd .i64 s1.1.1 1),()),((s1.2.1.1,(s1.2.1.2.1,())),()))) (some (some (((s1.2.1.1,(s1.2.1.2.1,())),()),(s1.1.1,())))))) (cond (ieq y3.1 46) (rec1 (((iadd .i64 s1.1.1 1),()),((s1.2.1.1,(s1.2.1.2.1,())),()))) (some (some (((s1.2.1.1,(s1.2.1.2.1,())),()),(s1.1.1,()))))))) (cond (ile 48 y3.1) (cond (ile y3.1 57) (rec1 (((iadd .i64 s1.1.1 1),()),((s1.2.1.1,(s1.2.1.2.1,())),()))) (cond (ieq y3.1 46) (rec1 (((iadd .i64 s1.1.1 1),()),((s1.2.1.1,(s1.2.1.2.1,())),()))) (some (some (((s1.2.1.1,(s1.2.1.2.1,())),()),(s1.1.1,())))))) (cond (ieq y3.1 46) (rec1 (((iadd .i64 s1.1.1 1),()),((s1.2.1.1,(s1.2.1.2.1,())),()))) (some (some (((s1.2.1.1,(s1.2.1.2.1,())),()),(s1.1.1,())))))))) (cond (ile 65 y3.1) (cond (ile y3.1 90) (rec1 (((iadd .i64 s1.1.1 1),()),((s1.2.1.1,(s1.2.1.2.1,())),()))) (cond (ile 48 y3.1) (cond (ile y3.1 57) (rec1 (((iadd .i64 s1.1.1 1),()),((s1.2.1.1,(s1.2.1.2.1,())),()))) (cond (ieq y3.1 46) (rec1 (((iadd .i64 s1.1.1 1),()),((s1.2.1.1,(s1.2.1.2.1,())),()))) (some (some (((s1.2.1.1,(s1.2.1.2.1,())),()),(s1.1.1,())))))) (cond (ieq y3.1 46) (rec1 (((iadd .i64 s1.1.1 1),()),((s1.2.1.1,(s1.2.1.2.1,())),()))) (some (some (((s1.2.1.1,(s1.2.1.2.1,())),()),(s1.1.1,()))))))) (cond (ile 48 y3.1) (cond (ile y3.1 57) (rec1 (((iadd .i64 s1.1.1 1),()),((s1.2.1.1,(s1.2.1.2.1,())),()))) (cond (ieq y3.1 46) (rec1 (((iadd .i64 s1.1.1 1),()),((s1.2.1.1,(s1.2.1.2.1,())),()))) (some (some (((s1.2.1.1,(s1.2.1.2.1,())),()),(s1.1.1,())))))) (cond (ieq y3.1 46) (rec1 (((iadd .i64 s1.1.1 1),()),((s1.2.1.1,(s1.2.1.2.1,())),()))) (some (some (((s1.2.1.1,(s1.2.1.2.1,())),()),(s1.1.1,()))))))))))) (cond (ieq y3.1 95) (rec1 (((iadd .i64 s1.1.1 1),()),((s1.2.1.1,(s1.2.1.2.1,())),()))) (cond (ile 97 y3.1) (cond (ile y3.1 122) (rec1 (((iadd .i64 s1.1.1 1),()),((s1.2.1.1,(s1.2.1.2.1,())),()))) (cond (ile 65 y3.1) (cond (ile y3.1 90) (rec1 (((iadd .i64 s1.1.1 1),()),((s1.2.1.1,(s1.2.1.2.1,())),()))) (cond (ile 48 y3.1) (cond (ile y3.1 57) (rec1 (((iadd .i64 s1.1.1 1),()),((s1.2.1.1,(s1.2.1.2.1,())),()))) (cond (ieq y3.1 46) (rec1 (((iadd .i64 s1.1.1 1),()),((s1.2.1.1,(s1.2.1.2.1,())),()))) (some (some (((s1.2.1.1,(s1.2.1.2.1,())),()),(s1.1.1,())))))) (cond (ieq y3.1 46) (rec1 (((iadd .i64 s1.1.1 1),()),((s1.2.1.1,(s1.2.1.2.1,())),()))) (some (some (((s1.2.1.1,(s1.2.1.2.1,())),()),(s1.1.1,()))))))) (cond (ile 48 y3.1) (cond (ile y3.1 57) (rec1 (((iadd .i64 s1.1.1 1),()),((s1.2.1.1,(s1.2.1.2.1,())),()))) (cond (ieq y3.1 46) (rec1 (((iadd .i64 s1.1.1 1),()),((s1.2.1.1,(s1.2.1.2.1,())),()))) (some (some (((s1.2.1.1,(s1.2.1.2.1,())),()),(s1.1.1,())))))) (cond (ieq y3.1 46) (rec1 (((iadd .i64 s1.1.1 1),()),((s1.2.1.1,(s1.2.1.2.1,())),()))) (some (some (((s1.2.1.1,(s1.2.1.2.1,())),()),(s1.1.1,())))))))) (cond (ile 65 y3.1) (cond (ile y3.1 90) (rec1 (((iadd .i64 s1.1.1 1),()),((s1.2.1.1,(s1.2.1.2.1,())),()))) (cond (ile 48 y3.1) (cond (ile y3.1 57) (rec1 (((iadd .i64 s1.1.1 1),()),((s1.2.1.1,(s1.2.1.2.1,())),()))) (cond (ieq y3.1 46) (rec1 (((iadd .i64 s1.1.1 1),()),((s1.2.1.1,(s1.2.1.2.1,())),()))) (some (some (((s1.2.1.1,(s1.2.1.2.1,())),()),(s1.1.1,())))))) (cond (ieq y3.1 46) (rec1 (((iadd .i64 s1.1.1 1),()),((s1.2.1.1,(s1.2.1.2.1,())),()))) (some (some (((s1.2.1.1,(s1.2.1.2.1,())),()),(s1.1.1,()))))))) (cond (ile 48 y3.1) (cond (ile y3.1 57) (rec1 (((iadd .i64 s1.1.1 1),()),((s1.2.1.1,(s1.2.1.2.1,())),()))) (cond (ieq y3.1 46) (rec1 (((iadd .i64 s1.1.1 1),()),((s1.2.1.1,(s1.2.1.2.1,())),()))) (some (some (((s1.2.1.1,(s1.2.1.2.1,())),()),(s1.1.1,())))))) (cond (ieq y3.1 46) (rec1 (((iadd .i64 s1.1.1 1),()),((s1.2.1.1,(s1.2.1.2.1,())),()))) (some (some (((s1.2.1.1,(s1.2.1.2.1,())),()),(s1.1.1,())))))))))) ((1,()),((x.1.1,(x.1.2.1,())),())))) (some (some (((x.1.1,(x.1.2.1,())),()),(0,()))))))
theorem eq40:@run40 = @sh40:=by kernel_rfl
def sh41 (fu:Nat) (c35:(Int×Unit)->Str->Int->(Option (Int×Unit))) (x:((Str×(Int×Unit))×Unit)) (a:(Int×Unit)):(Option (Option (((Str×(Int×Unit))×Unit)×(Int×Unit)))):=cond (ieq x.1.2.1 (lenI x.1.1)) (some (some (((x.1.1,(x.1.2.1,())),()),(0,())))) (Option.bind (c35 (0,()) x.1.1 x.1.2.1) fun y0=>cond (ine y0.1 a.1) (some (some (((x.1.1,(x.1.2.1,())),()),(0,())))) (iter fu (fun (rec1:((Int×Unit)×((Str×(Int×Unit))×Unit))->Option (Option (((Str×(Int×Unit))×Unit)×(Int×Unit)))) (s1:((Int×Unit)×((Str×(Int×Unit))×Unit)))=>cond (ilt (iadd .i64 s1.2.1.2.1 s1.1.1) (lenI s1.2.1.1)) (Option.bind (c35 (s1.1.1,()) s1.2.1.1 s1.2.1.2.1) fun y1=>cond (ieq y1.1 a.1) (cond (ieq a.1 39) (cond (ieq s1.1.1 1) (some (some (((s1.2.1.1,(s1.2.1.2.1,())),()),(0,())))) (some (some (((s1.2.1.1,(s1.2.1.2.1,())),()),((iadd .i64 s1.1.1 1),()))))) (some (some (((s1.2.1.1,(s1.2.1.2.1,())),()),((iadd .i64 s1.1.1 1),()))))) (cond (ieq y1.1 10) (some (some (((s1.2.1.1,(s1.2.1.2.1,())),()),(0,())))) (cond (ieq y1.1 92) (Option.bind (c35 ((iadd .i64 s1.1.1 1),()) s1.2.1.1 s1.2.1.2.1) fun y2=>cond (ieq y2.1 10) (cond (ilt (iadd .i64 s1.2.1.2.1 (iadd .i64 s1.1.1 1)) (lenI s1.2.1.1)) (some (some (((s1.2.1.1,(s1.2.1.2.1,())),()),(0,())))) (rec1 (((iadd .i64 (iadd .i64 s1.1.1 1) 1),()),((s1.2.1.1,(s1.2.1.2.1,())),())))) (rec1 (((iadd .i64 (iadd .i64 s1.1.1 1) 1),()),((s1.2.1.1,(s1.2.1.2.1,())),())))) (rec1 (((iadd .i64 s1.1.1 1),()),((s1.2.1.1,(s1.2.1.2.1,())),())))))) (some (some (((s1.2.1.1,(s1.2.1.2.1,())),()),(0,()))))) ((1,()),((x.1.1,(x.1.2.1,())),()))))
theorem eq41:@run41 = @sh41:=by kernel_rfl
def sh42 (fu:Nat) (c36:(Str×Unit)->Str->Int->(Option ((Bool×Unit)×Int))) (x:((Str×(Int×Unit))×Unit)) (a:Unit):(Option (Option (((Str×(Int×Unit))×Unit)×(Int×Unit)))):=iter fu (fun (rec1:((Int×(Int×Unit))×((Str×(Int×Unit))×Unit))->Option (Option (((Str×(Int×Unit))×Unit)×(Int×Unit)))) (s1:((Int×(Int×Unit))×((Str×(Int×Unit))×Unit)))=>cond (ilt s1.1.2.1 48) (cond (inB s1.1.2.1 48) (cond (ile (lenI (α:=UInt8) (List.getD [[46,46,46],[60,60,61],[62,62,61],[45,62],[43,43],[45,45],[60,60],[62,62],[60,61],[62,61],[61,61],[33,61],[38,38],[124,124],[42,61],[47,61],[37,61],[43,61],[45,61],[38,61],[94,61],[124,61],[35,35],[91],[93],[40],[41],[123],[125],[46],[38],[42],[43],[45],[126],[33],[47],[37],[60],[62],[94],[124],[63],[58],[59],[61],[44],[35]] (Int.toNat s1.1.2.1) [])) s1.1.1) (rec1 ((s1.1.1,((iadd .i64 s1.1.2.1 1),())),((s1.2.1.1,(s1.2.1.2.1,())),()))) (Option.bind (c36 ((List.getD [[46,46,46],[60,60,61],[62,62,61],[45,62],[43,43],[45,45],[60,60],[62,62],[60,61],[62,61],[61,61],[33,61],[38,38],[124,124],[42,61],[47,61],[37,61],[43,61],[45,61],[38,61],[94,61],[124,61],[35,35],[91],[93],[40],[41],[123],[125],[46],[38],[42],[43],[45],[126],[33],[47],[37],[60],[62],[94],[124],[63],[58],[59],[61],[44],[35]] (Int.toNat s1.1.2.1) []),()) s1.2.1.1 s1.2.1.2.1) fun y0=>cond (!y0.1.1) (rec1 ((s1.1.1,((iadd .i64 s1.1.2.1 1),())),((s1.2.1.1,(y0.2,())),()))) (rec1 (((lenI (α:=UInt8) (List.getD [[46,46,46],[60,60,61],[62,62,61],[45,62],[43,43],[45,45],[60,60],[62,62],[60,61],[62,61],[61,61],[33,61],[38,38],[124,124],[42,61],[47,61],[37,61],[43,61],[45,61],[38,61],[94,61],[124,61],[35,35],[91],[93],[40],[41],[123],[125],[46],[38],[42],[43],[45],[126],[33],[47],[37],[60],[62],[94],[124],[63],[58],[59],[61],[44],[35]] (Int.toNat s1.1.2.1) [])),((iadd .i64 s1.1.2.1 1),())),((s1.2.1.1,(y0.2,())),()))))) (none)) (some (some (((s1.2.1.1,(s1.2.1.2.1,())),()),(s1.1.1,()))))) ((0,(0,())),((x.1.1,(x.1.2.1,())),()))
theorem eq42:@run42 = @sh42:=by kernel_rfl
def sh19 (fu:Nat) (c36:(Str×Unit)->Str->Int->(Option ((Bool×Unit)×Int))) (c39:Unit->Str->Int->(Option ((Int×Unit)×Int))) (c40:Unit->Str->Int->(Option ((Int×Unit)×Int))) (c41:(Int×Unit)->Str->Int->(Option ((Int×Unit)×Int))) (c42:Unit->Str->Int->(Option ((Int×Unit)×Int))) (x:((Str×(Int×Unit))×Unit)) (a:Unit):(Option (Option (((Str×(Int×Unit))×Unit)×(Int×(Int×Unit))))):=Option.bind (c36 ([10],()) x.1.1 x.1.2.1) fun y0=>cond y0.1.1 (some (some (((x.1.1,(y0.2,())),()),(7,(1,()))))) (Option.bind (c39 () x.1.1 y0.2) fun y1=>cond (ilt 0 y1.1.1) (some (some (((x.1.1,(y1.2,())),()),(1,(y1.1.1,()))))) (Option.bind (c40 () x.1.1 y1.2) fun y2=>cond (ilt 0 y2.1.1) (some (some (((x.1.1,(y2.2,())),()),(2,(y2.1.1,()))))) (Option.bind (c41 (34,()) x.1.1 y2.2) fun y3=>cond (ilt 0 y3.1.1) (some (some (((x.1.1,(y3.2,())),()),(4,(y3.1.1,()))))) (Option.bind (c41 (39,()) x.1.1 y3.2) fun y4=>cond (ilt 0 y4.1.1) (some (some (((x.1.1,(y4.2,())),()),(3,(y4.1.1,()))))) (Option.bind (c42 () x.1.1 y4.2) fun y5=>cond (ilt 0 y5.1.1) (some (some (((x.1.1,(y5.2,())),()),(5,(y5.1.1,()))))) (some (some (((x.1.1,(y5.2,())),()),(6,(1,()))))))))))
theorem eq19:@run19 = @sh19:=by kernel_rfl
theorem con36 (fu:Nat) :CQ 36 (cD kS kB (mD (sh36 fu))):=
 zDf (rpk (lo:=[]) (lr:=[]) (zH zO9 (zH zOw zC)) zC zC zC fdok36 rfl (fun x a=>by rw [<- eq36]; rfl))
theorem con18 (fu:Nat) (c37:zK as37->Option (zK rs37)) (h37:ConOk CC Tryz.prog 37 ⟨as37,rs37,c37⟩) (c38:zK as38->Option (zK rs38)) (h38:ConOk CC Tryz.prog 38 ⟨as38,rs38,c38⟩) (c35:zA kI->Str->Int->Option (zA ([.int .u8]:LK))) (h35:CROk CC Tryz.prog 35 (cRD kI ([.int .u8]:LK) c35)) (c36:zA kS->DD (zA kB)) (h36:CQ 36 (cD kS kB c36)):CQ 18 (cD k0 kB (mD (sh18 fu c37 c38 c35 c36))):=
 zDf (rpk zC (zH (OrcOk.of ⟨zOp,h37⟩ rfl) (zH (OrcOk.of ⟨code38,h38⟩ rfl) zC)) (zH ⟨zHJ,h35⟩ zC) (zH ⟨zKj,h36⟩ zC) fdok18 rfl (fun x a=>by rw [<- eq18]; rfl))
theorem con39 (fu:Nat) (c35:zA kI->Str->Int->Option (zA ([.int .u8]:LK))) (h35:CROk CC Tryz.prog 35 (cRD kI ([.int .u8]:LK) c35)):CQ 39 (cD k0 kI (mD (sh39 fu c35))):=
 zDf (rpk (lo:=[]) (lr:=[(35,cRD kI ([.int .u8]:LK) c35)]) (zH zOn (zH zO1 zC)) zC (zH ⟨zHJ,h35⟩ zC) zC fdok39 rfl (fun x a=>by rw [<- eq39]; rfl))
theorem con40 (fu:Nat) (c37:zK as37->Option (zK rs37)) (h37:ConOk CC Tryz.prog 37 ⟨as37,rs37,c37⟩) (c35:zA kI->Str->Int->Option (zA ([.int .u8]:LK))) (h35:CROk CC Tryz.prog 35 (cRD kI ([.int .u8]:LK) c35)):CQ 40 (cD k0 kI (mD (sh40 fu c37 c35))):=
 zDf (rpk (lo:=[(37,(⟨as37,rs37,c37⟩:Con UU))]) (lr:=[(35,cRD kI ([.int .u8]:LK) c35)]) (zH zOj (zH zO5 zC)) (zH (OrcOk.of ⟨zOp,h37⟩ rfl) zC) (zH ⟨zHJ,h35⟩ zC) zC fdok40 rfl (fun x a=>by rw [<- eq40]; rfl))
theorem con41 (fu:Nat) (c35:zA kI->Str->Int->Option (zA ([.int .u8]:LK))) (h35:CROk CC Tryz.prog 35 (cRD kI ([.int .u8]:LK) c35)):CQ 41 (cD ([.int .u8]:LK) kI (mD (sh41 fu c35))):=
 zDf (rpk zC zC (zH ⟨zHJ,h35⟩ zC) zC fdok41 rfl (fun x a=>by rw [<- eq41]; rfl))
theorem con42 (fu:Nat) (c36:zA kS->DD (zA kB)) (h36:CQ 36 (cD kS kB c36)):CQ 42 (cD k0 kI (mD (sh42 fu c36))):=
 zDf (rpk zC zC zC (zH ⟨zKj,h36⟩ zC) fdok42 rfl (fun x a=>by rw [<- eq42]; rfl))
theorem con19 (fu:Nat) (c36:zA kS->DD (zA kB)) (h36:CQ 36 (cD kS kB c36)) (c39:zA k0->DD (zA kI)) (h39:CQ 39 (cD k0 kI c39)) (c40:zA k0->DD (zA kI)) (h40:CQ 40 (cD k0 kI c40)) (c41:zA ([.int .u8]:LK)->DD (zA kI)) (h41:CQ 41 (cD ([.int .u8]:LK) kI c41)) (c42:zA k0->DD (zA kI)) (h42:CQ 42 (cD k0 kI c42)):CQ 19 (cD k0 ([.int .i64,.int .i64]:LK) (mD (sh19 fu c36 c39 c40 c41 c42))):=
 zDf (rpk zC zC zC (zH ⟨zKj,h36⟩ (zH ⟨code39,h39⟩ (zH ⟨code40,h40⟩ (zH ⟨code41,h41⟩ (zH ⟨code42,h42⟩ zC))))) fdok19 rfl (fun x a=>by rw [<- eq19]; rfl))
end
section
open Go.Al Go.Den
def sh9 (fu:Nat) (c16:(Str×Unit)->(Option ((List CharT)×Unit))) (c17:((List CharT)×Unit)->(Option (Str×Unit))) (c18:Unit->Str->Int->(Option ((Bool×Unit)×Int))) (c19:Unit->Str->Int->(Option ((Int×(Int×Unit))×Int))) (nf:Nat->Bool) (x0:Int) (x1:Str):(Option (LT×Unit)):=Option.bind (c16 (x1,())) fun y0=>Option.bind (c17 (y0.1,())) fun y1=>iter fu (fun (rec1:((LT×Unit)×((Str×(Int×Unit))×Unit))->Option (LT×Unit)) (s1:((LT×Unit)×((Str×(Int×Unit))×Unit)))=>iter fu (fun (rec2:((LT×Unit)×((Str×(Int×Unit))×((Int×(Str×(Int×(Int×(Int×(Bool×Unit))))))×Unit)))->Option (LT×Unit)) (s2:((LT×Unit)×((Str×(Int×Unit))×((Int×(Str×(Int×(Int×(Int×(Bool×Unit))))))×Unit))))=>cond (ilt s2.2.1.2.1 (lenI s2.2.1.1)) (Option.bind (c18 () s2.2.1.1 s2.2.1.2.1) fun y2=>cond y2.1.1 (rec2 ((s2.1.1,()),((s2.2.1.1,(y2.2,())),((s2.2.2.1.1,(s2.2.2.1.2.1,(s2.2.2.1.2.2.1,(s2.2.2.1.2.2.2.1,(s2.2.2.1.2.2.2.2.1,(true,())))))),())))) (cond (ile (lenI s2.2.1.1) y2.2) (some (s2.1.1,())) (Option.bind (c19 () s2.2.1.1 y2.2) fun y3=>cond (inS y3.2 (iadd .i64 y3.2 y3.1.2.1) (List.length s2.2.1.1)) (cond (inB y3.2 (List.length y0.1)) (cond (inB (isub .i64 (iadd .i64 y3.2 y3.1.2.1) 1) (List.length y0.1)) (cond (okN 56 ((List.length s2.1.1)+(List.length [(TokT.mk y3.1.1 (cutL s2.2.1.1 y3.2 (iadd .i64 y3.2 y3.1.2.1)) s2.2.2.1.2.2.1 (CharT.fat (List.getD y0.1 (Int.toNat y3.2) zA2)) (iadd .i64 (CharT.fat (List.getD y0.1 (Int.toNat (isub .i64 (iadd .i64 y3.2 y3.1.2.1) 1)) zA2)) 1) s2.2.2.1.2.2.2.2.2.1)]))) (rec1 (((s2.1.1++[(TokT.mk y3.1.1 (cutL s2.2.1.1 y3.2 (iadd .i64 y3.2 y3.1.2.1)) s2.2.2.1.2.2.1 (CharT.fat (List.getD y0.1 (Int.toNat y3.2) zA2)) (iadd .i64 (CharT.fat (List.getD y0.1 (Int.toNat (isub .i64 (iadd .i64 y3.2 y3.1.2.1) 1)) zA2)) 1) s2.2.2.1.2.2.2.2.2.1)]),()),((s2.2.1.1,((iadd .i64 y3.2 y3.1.2.1),())),()))) (none)) (none)) (none)) (none)))) (cond (ile (lenI s2.2.1.1) s2.2.1.2.1) (some (s2.1.1,())) (Option.bind (c19 () s2.2.1.1 s2.2.1.2.1) fun y2=>cond (inS y2.2 (iadd .i64 y2.2 y2.1.2.1) (List.length s2.2.1.1)) (cond (inB y2.2 (List.length y0.1)) (cond (inB (isub .i64 (iadd .i64 y2.2 y2.1.2.1) 1) (List.length y0.1)) (cond (okN 56 ((List.length s2.1.1)+(List.length [(TokT.mk y2.1.1 (cutL s2.2.1.1 y2.2 (iadd .i64 y2.2 y2.1.2.1)) s2.2.2.1.2.2.1 (CharT.fat (List.getD y0.1 (Int.toNat y2.2) zA2)) (iadd .i64 (CharT.fat (List.getD y0.1 (Int.toNat (isub .i64 (iadd .i64 y2.2 y2.1.2.1) 1)) zA2)) 1) s2.2.2.1.2.2.2.2.2.1)]))) (rec1 (((s2.1.1++[(TokT.mk y2.1.1 (cutL s2.2.1.1 y2.2 (iadd .i64 y2.2 y2.1.2.1)) s2.2.2.1.2.2.1 (CharT.fat (List.getD y0.1 (Int.toNat y2.2) zA2)) (iadd .i64 (CharT.fat (List.getD y0.1 (Int.toNat (isub .i64 (iadd .i64 y2.2 y2.1.2.1) 1)) zA2)) 1) s2.2.2.1.2.2.2.2.2.1)]),()),((s2.2.1.1,((iadd .i64 y2.2 y2.1.2.1),())),()))) (none)) (none)) (none)) (none)))) ((s1.1.1,()),((s1.2.1.1,(s1.2.1.2.1,())),((0,([],(x0,(0,(0,(false,())))))),())))) (([],()),((y1.1,(0,())),()))
theorem eq9:@run9 = @sh9:=by kernel_rfl
def sh13 (fu:Nat) (c9:(Int×(Str×Unit))->(Option (LT×Unit))) (nf:Nat->Bool) (x0:Str):(Option (TokT×(Bool×Unit))):=Option.bind (c9 (0,(x0,()))) fun y0=>cond (ine (lenI y0.1) 1) (some ((TokT.mk 0 [] 0 0 0 false),(false,()))) (cond (inB 0 (List.length y0.1)) (cond (ieq (TokT.kind (List.getD y0.1 0 tokD)) 7) (some ((TokT.mk 0 [] 0 0 0 false),(false,()))) (cond (inB 0 (List.length y0.1)) (cond (!(seq (TokT.text (List.getD y0.1 0 tokD)) x0)) (some ((TokT.mk 0 [] 0 0 0 false),(false,()))) (cond (inB 0 (List.length y0.1)) (some ((List.getD y0.1 0 tokD),(true,()))) (none))) (none))) (none))
theorem eq13:@run13 = @sh13:=by kernel_rfl
theorem con9 (fu:Nat) (c16:zK as16->Option (zK rs16)) (h16:ConOk CC Tryz.prog 16 ⟨as16,rs16,c16⟩) (c17:zK as17->Option (zK rs17)) (h17:ConOk CC Tryz.prog 17 ⟨as17,rs17,c17⟩) (c18:zA k0->DD (zA kB)) (h18:CQ 18 (cD k0 kB c18)) (c19:zA k0->DD (zA ([.int .i64,.int .i64]:LK))) (h19:CQ 19 (cD k0 ([.int .i64,.int .i64]:LK) c19)):ConOk CC Tryz.prog 9 ⟨as9,rs9,fun x=>sh9 fu c16 c17 c18 c19 (fun _=>false) x.1 x.2.1⟩:=
 rfk zC (zH (OrcOk.of ⟨code16,h16⟩ rfl) (zH (OrcOk.of ⟨code17,h17⟩ rfl) zC)) zC (zH ⟨code18,h18⟩ (zH ⟨code19,h19⟩ zC)) fdok9 rfl (zu rfl) (fun nf x=>by show run9 fu c16 c17 c18 c19 nf x.1 x.2.1=_; rw [eq9]; rfl)
theorem con13 (fu:Nat) (c9:zK as9->Option (zK rs9)) (h9:ConOk CC Tryz.prog 9 ⟨as9,rs9,c9⟩):ConOk CC Tryz.prog 13 ⟨as13,rs13,fun x=>sh13 fu c9 (fun _=>false) x.1⟩:=
 rfk zC (zH (OrcOk.of ⟨code9,h9⟩ rfl) zC) zC zC fdok13 rfl (zu rfl) (fun nf x=>by show run13 fu c9 nf x.1=_; rw [eq13]; rfl)
end
section
open Go.Al Go.Den
noncomputable def c36:zA ([.str]:LK)->DD (zA ([.bool]:LK)):=mD (sh36 0)
theorem ok36:CPOk CC Tryz.prog syn 36 (cD ([.str]:LK) ([.bool]:LK) c36):=con36 0
noncomputable def c39 (fu:Nat):zA ([]:LK)->DD (zA ([.int .i64]:LK)):=mD (sh39 fu c35)
theorem ok39 (fu:Nat):CPOk CC Tryz.prog syn 39 (cD ([]:LK) ([.int .i64]:LK) (c39 fu)):=con39 fu c35 ok35
noncomputable def c40 (fu:Nat):zA ([]:LK)->DD (zA ([.int .i64]:LK)):=mD (sh40 fu c37 c35)
theorem ok40 (fu:Nat):CPOk CC Tryz.prog syn 40 (cD ([]:LK) ([.int .i64]:LK) (c40 fu)):=con40 fu c37 ok37 c35 ok35
noncomputable def c41 (fu:Nat):zA ([.int .u8]:LK)->DD (zA ([.int .i64]:LK)):=mD (sh41 fu c35)
theorem ok41 (fu:Nat):CPOk CC Tryz.prog syn 41 (cD ([.int .u8]:LK) ([.int .i64]:LK) (c41 fu)):=con41 fu c35 ok35
noncomputable def c42 (fu:Nat):zA ([]:LK)->DD (zA ([.int .i64]:LK)):=mD (sh42 fu c36)
theorem ok42 (fu:Nat):CPOk CC Tryz.prog syn 42 (cD ([]:LK) ([.int .i64]:LK) (c42 fu)):=con42 fu c36 ok36
noncomputable def c19 (fu:Nat):zA ([]:LK)->DD (zA ([.int .i64,.int .i64]:LK)):=mD (sh19 fu c36 (c39 fu) (c40 fu) (c41 fu) (c42 fu))
theorem ok19 (fu:Nat):CPOk CC Tryz.prog syn 19 (cD ([]:LK) ([.int .i64,.int .i64]:LK) (c19 fu)):=con19 fu c36 ok36 (c39 fu) (ok39 fu) (c40 fu) (ok40 fu) (c41 fu) (ok41 fu) (c42 fu) (ok42 fu)
noncomputable def c18 (fu:Nat):zA ([]:LK)->DD (zA ([.bool]:LK)):=mD (sh18 fu c37 c38 c35 c36)
theorem ok18 (fu:Nat):CPOk CC Tryz.prog syn 18 (cD ([]:LK) ([.bool]:LK) (c18 fu)):=con18 fu c37 ok37 c38 ok38 c35 ok35 c36 ok36
noncomputable def c9 (fu:Nat) (x:Int×Str×Unit):Option (List TokT×Unit):=sh9 fu c16 c17 (c18 fu) (c19 fu) (fun _=>false) x.1 x.2.1
theorem ok9 (fu:Nat):ConOk CC Tryz.prog 9 ⟨as9,rs9,c9 fu⟩:=con9 fu c16 ok16 c17 ok17 (c18 fu) (ok18 fu) (c19 fu) (ok19 fu)
noncomputable def c13 (fu:Nat) (x:Str×Unit):Option (TokT×Bool×Unit):=sh13 fu (c9 fu) (fun _=>false) x.1
theorem ok13 (fu:Nat):ConOk CC Tryz.prog 13 ⟨as13,rs13,c13 fu⟩:=con13 fu (c9 fu) (ok9 fu)
end
end Go.Proofs.YtfjiiknfopmcjaaGreatDoor
namespace Go.Al
section
open Go.RowKit
def Mps (ob:List (Nat×OV×List Nat)):List Nat->List MC->Prop
 | [],xs=>xs=[]
 | j::bs,xs=>∃ c cs,xs=c::cs/\zI ob j=some (.mp c,[j])/\Mps ob bs cs
theorem MMems.length {g:Gh} {w:World}:∀ {bs:List Nat} {xs:List MC},MMems g w bs xs->bs.length=xs.length
 | [],_,h=>by rw [show _=[] from h]; rfl
 | b::bs,_,⟨c,cs,rfl,_,h3⟩=>by simp [h3.length]
theorem Mps.length {ob:List (Nat×OV×List Nat)}:∀ {bs:List Nat} {xs:List MC},Mps ob bs xs->bs.length=xs.length
 | [],_,h=>by rw [show _=[] from h]; rfl
 | b::bs,_,⟨c,cs,rfl,_,h3⟩=>by simp [h3.length]
theorem Mps.mem {ob:List (Nat×OV×List Nat)}:∀ {bs:List Nat} {xs:List MC},Mps ob bs xs->∀ j ∈ bs,∃ c,zI ob j=some (.mp c,[j])
 | [],_,_,j,hj=>by cases hj
 | b::bs,_,⟨c,cs,_,h2,h3⟩,j,hj=>by
  rcases List.mem_cons.1 hj with rfl | hj
  . exact ⟨c,h2⟩
  . exact h3.mem j hj
theorem Mps.mems {B:Nat} {g:Gh} {st:S} {w:World} (hi:Inv B g st w):∀ {bs:List Nat} {xs:List MC},Mps st.ob bs xs->MMems g w bs xs
 | [],_,h=>h
 | b::bs,_,⟨c,cs,h1,h2,h3⟩=>⟨c,cs,h1,by
  have:=(hi.ex.ob b _ _ h2).1;exact this.2,Mps.mems hi h3⟩
def mcs (bs:List Nat):List V:=bs.map fun j=>.at (.map (some j))
theorem zPF {g:Gh} {w:World}:∀ {bs:List Nat} {us:List Value},RCs g w (mcs bs) us->us=bs.map fun j=>Value.map (some j)
 | [],us,h=>by simpa [mcs,RCs] using h
 | b::bs,us,h=>by
  simp only [mcs,List.map_cons,RCs] at h;obtain ⟨u1,u2,rfl,h1,h2⟩:=h;simp only [RC] at h1;rw [h1.1,zPF h2]; rfl
def zI8 (st:S) (b:Nat) (bs:List Nat) (xs:List MC) (cap:Nat):S:=⟨wipe st.box b,st.tg,st.nx,(b,.sc xs cap,b::bs)::st.ob.filter fun p=>!(bs.contains p.1)⟩
theorem zM7 (st:S) (b:Nat) (bs:List Nat) (xs:List MC) (cap j:Nat):zI (zI8 st b bs xs cap).ob j=if b=j then some (.sc xs cap,b::bs) else if j ∈ bs then none else zI st.ob j:=by
 show zI ((b,.sc xs cap,b::bs)::st.ob.filter fun p=>(fun k=>!(bs.contains k)) p.1) j=_;rw [zS,show zI (st.ob.filter fun p=>(fun k=>!(bs.contains k)) p.1) j=_ from kR (fun k=>!(bs.contains k)) st.ob j];by_cases e:b=j
 . rw [if_pos e,if_pos e]
 . rw [if_neg e,if_neg e];by_cases e2:j ∈ bs <;> simp [e2]
theorem Inv.pack {B:Nat} {g:Gh} {st:S} {w:World} (hi:Inv B g st w) {b cap:Nat} {bs:List Nat} {xs:List MC} (hb:look st.box b=some (mcs bs,cap)) (hn:bs.Nodup) (hm:Mps st.ob bs xs):Inv B g (zI8 st b bs xs cap) w:=by
 obtain ⟨p1,p2,p3,p4,arr,el,us,p5,p6,p7,p8⟩:=hi.box b _ _ hb;have hus:=zPF p7;have hne:∀ j ∈ bs,j≠b:=fun j hj e=>by
  obtain ⟨c,h⟩:=hm.mem j hj;have:=((hi.ex.ob j _ _ h).2.2 j (by simp)).2.2.2.1;rw [e,hb] at this; cases this
 have hlook:∀ j,look st.box j=none->look (zI8 st b bs xs cap).box j=none:=fun j hj=>by
  show look (wipe st.box b) j=none;rw [yy]; split
  . rfl
  . exact hj
 have hcase:∀ {b' o' fp'},zI (zI8 st b bs xs cap).ob b' = some (o',fp')->(b' = b/\o' = .sc xs cap/\fp' = b::bs)\/(zI st.ob b' = some (o',fp')/\b'≠b/\b' ∉ bs):=fun {b' o' fp'} h=>by
  rw [zM7] at h;by_cases e:b=b'
  . subst e;rw [if_pos rfl] at h;injection h with h
    obtain ⟨h1,h2⟩:=Prod.mk.inj h;exact .inl ⟨rfl,h1.symm,h2.symm⟩
  . rw [if_neg e] at h;by_cases e2:b' ∈ bs
    . rw [if_pos e2] at h; cases h
    . rw [if_neg e2] at h; exact .inr ⟨h,Ne.symm e,e2⟩
 have hshare:∀ b' o' fp',zI st.ob b' = some (o',fp')->b' ∉ bs->∀ j ∈ b::bs,j ∉ fp':=fun b' o' fp' h1 h2 j hj hj'=>by
  rcases List.mem_cons.1 hj with rfl | hj
  . exact (hi.boxFr hb).2 b' o' fp' h1 hj'
  . obtain ⟨c,h⟩:=hm.mem j hj;have:=hi.ex.obd b' o' fp' j _ _ j h1 h hj' (by simp);subst this;exact h2 hj
 refine ⟨hi.base,?_,hi.tag,?_,hi.dist,hi.nodup,hi.fresh,hi.names,?_,?_,?_,hi.ex.ft⟩
 . intro b' cs' k' h;replace h:look (wipe st.box b) b' = some (cs',k'):=h;rw [yy] at h;split at h
   . cases h
   . exact hi.box b' cs' k' h
 . intro t ht b' cap' n sz hb';obtain ⟨r1,r2,r3,r4,r5,r6⟩:=hi.own t ht b' cap' n sz hb';exact ⟨r1,r2,r3,r4,hlook b' r5,r6⟩
 . intro b' hb';obtain ⟨r1,r2,r3⟩:=hi.ex.frz b' hb';exact ⟨r1,hlook b' r2,r3⟩
 . intro b' o' fp' h;rcases hcase h with ⟨rfl,rfl,rfl⟩ | ⟨h1,h2,h3⟩
   . refine ⟨⟨bs,arr,el,rfl,List.nodup_cons.2 ⟨fun h=>hne b' h rfl,hn⟩,p5,p6,by simpa [mcs] using p3,by rw [<- hus,<- p8]; simp [mcs],Mps.mems hi hm⟩,by simp,fun j hj=>?_⟩;rcases List.mem_cons.1 hj with rfl | hj
     . refine ⟨p1,(Array.getElem?_eq_some_iff.1 p5).1,p2,by show look (wipe st.box j) j=none; rw [yy,if_pos rfl],fun t ht d hd=>?_,(hi.boxFr hb).1⟩;obtain ⟨d1,d2,d3⟩:=d;have:=(hi.own t ht j d1 d2 d3 hd).2.2.2.2.1;rw [hb] at this; cases this
     . obtain ⟨c,h⟩:=hm.mem j hj;obtain ⟨r1,r2,r3,r4,r5,r6⟩:=(hi.ex.ob j _ _ h).2.2 j (by simp);exact ⟨r1,r2,r3,hlook j r4,r5,r6⟩
   . obtain ⟨q1,q2,q3⟩:=hi.ex.ob b' o' fp' h1;refine ⟨q1,q2,fun j hj=>?_⟩;obtain ⟨r1,r2,r3,r4,r5,r6⟩:=q3 j hj;exact ⟨r1,r2,r3,hlook j r4,r5,r6⟩
 . intro b1 o1 fp1 b2 o2 fp2 j e1 e2 m1 m2;rcases hcase e1 with ⟨rfl,_,rfl⟩ | ⟨h5,h6,h6'⟩ <;> rcases hcase e2 with ⟨rfl,_,rfl⟩ | ⟨h7,h8,h8'⟩
   . rfl
   . exact absurd m2 (hshare b2 o2 fp2 h7 h8' j m1)
   . exact absurd m1 (hshare b1 o1 fp1 h5 h6' j m2)
   . exact hi.ex.obd b1 o1 fp1 b2 o2 fp2 j h5 h7 m1 m2
section
variable {P:Program} {L:Pol} {ds:List (Option Nat)} {KP:List PanicEntry->S->Prop} {os:List Oper} {K:Env->S->Prop} {e:Env} {st:S}
variable {d:Option Nat} {ty:TypeId} {pos:String} {af:Array Edge}
theorem zIx (t:TypeId) (m k y:Operand):AL P L ds KP (⟨d,.mapUpdate t m k y,ty,pos,af,none⟩::os) K e st=yu P st t (e.ev m) (e.ev k) (e.ev y) fun st'=>AL P L ds KP os K (e.putO d .any) st':=propext Iff.rfl
theorem zFR (t:TypeId):AL P L ds KP (⟨d,.makeMap t none,ty,pos,af,none⟩::os) K e st=(true=true/\zDT st fun v st'=>AL P L ds KP os K (e.putO d v) st'):=propext Iff.rfl
theorem zNx {t:TypeId} {ps:List (Nat×V)} {cs cs':List V} (h1:zB7 P t=true) (h2:zr P t=some cs) (h3:ke (zAB P t) cs ps=some cs') {K:V->Prop} (hK:K (.agg cs')):zBK P t ps K:=.inl ⟨h1,by rw [h2]; simp only [h3]; exact hK⟩
end
end
end Go.Al
section
namespace Go.Al
open Go.RowKit
def awpG (P:Program) (X:Cx) (n:Nat) (c:Code) (Q:Exit->Act->World->Prop) (g0:Gh) (w0:World) (e:Env) (st:S):Prop:=
 ∀ g a w,Step X.B g0 w0 g w->Rel X g e st a w->c.wpIn Fence.wide n P Q a w
theorem zIS {P:Program} {B n:Nat} {N:NF} {df:List Deferred} {c:Code} {Q:Exit->Env->S->Prop} {e:Env} {st:S} (h:awp P ⟨B,N,none,df⟩ c Q e st) {g:Gh} {a:Act} {w:World} (hr:Rel ⟨B,N,none,df⟩ g e st a w) :
 c.wpIn Fence.wide n P (fun ex a' w'=>∃ g' e' st',Step B g w g' w'/\Rel ⟨B,N,none,df⟩ g' e' st' a' w'/\Q ex e' st') a w:=wpIn_wide.2 (wpIn_wide.1 (h g a w hr))
theorem zFe {P:Program} {B n:Nat} {N:NF} {df:List Deferred} {x y:Code} {Q:Exit->Act->World->Prop} {g0:Gh} {w0:World} {e:Env} {st:S}
 (h:awp P ⟨B,N,none,df⟩ x (zDh (fun e st=>awpG P ⟨B,N,none,df⟩ n y Q g0 w0 e st) (fun _ _ _=>False)) e st):awpG P ⟨B,N,none,df⟩ n (.seq x y) Q g0 w0 e st:=fun g a w hs hr=>by
 refine wpIn_seq (wpIn_mono (zIS h hr) ?_);rintro ex a' w' ⟨g',e',st',k1,k2,k3⟩;cases ex with
 | normal=>exact k3 g' a' w' (hs.trans k1) k2
 | ret=>exact k3.elim
 | exit _=>exact k3.elim
 | panic _=>exact k3.elim
 | goto _=>exact k3.elim
 | outgrown=>exact k3.elim
theorem zN9 {P:Program} {X:Cx} {n:Nat} {x y:Code} {Q:Exit->Act->World->Prop} {g0:Gh} {w0:World} {e:Env} {st:S}
 (h:awpG P X n x (Exit.then (y.wpIn Fence.wide n P Q) Q) g0 w0 e st):awpG P X n (.seq x y) Q g0 w0 e st:=fun g a w hs hr=>wpIn_seq (h g a w hs hr)
theorem zQu {P:Program} {X:Cx} {n:Nat} {c:Code} {Q:Exit->Act->World->Prop} {g0:Gh} {w0:World} {e:Env} {st:S} (φ:S->Prop) (hφ:φ st) (h:∀ st,φ st->awpG P X n c Q g0 w0 e st):awpG P X n c Q g0 w0 e st:=h st hφ
end Go.Al
namespace Go.Den
open Go.Al
structure RestOk (s s':S) (rs rs':List Res):Prop where
 box:∀ b c,.inr b ∉ rs->Al.look s.box b=some c->Al.look s'.box b=some c/\.inr b ∉ rs'
 ob:∀ b c,.ob b ∉ rs->zI s.ob b=some c->zI s'.ob b=some c/\.ob b ∉ rs'
section
variable {U:TyU} {C:Cod U}
end
end Go.Den
end
namespace Go.Proofs.YtfjiiknfopmcjaaGreatDoor
section
open Go.Al Go.Den Go.RowKit Go.Shelf
attribute [local congr] zBu zCP zDI zEQ ky zBn jl jm zBx zCY zBh zDU zBv zB0 jM kC zBz zDe zDj zAq zCW zBV zAn zAs zBl zBo zAo zBf zBt zAp zEU zDc zC7 zCS zCU zCI zBY zAr zAm
attribute [local go_sem] Oper.semAt_some
abbrev ptV (b:Nat):V:=.at (.pointer (some ⟨b,0,none⟩))
def qk (n k:Nat):List (Fin n):=(List.finRange n).reverse.take k
theorem zGc (n k m:Nat) (h:m+k+1=n):qk n (k+1)=qk n k++[⟨m,by omega⟩]:=by
 unfold qk;rw [List.take_succ_eq_append_getElem (by simp; omega)];congr 2;rw [List.getElem_reverse];apply Fin.ext;simp;omega
theorem zKB (n k:Nat) (h:k<=n):(qk n k).length=k:=by simp [qk,h]
theorem zJq {P:Program} {L:Pol} {ds:List (Option Nat)} {KP:List PanicEntry->S->Prop} {os:List Oper} {K:Env->S->Prop} {e:Env} {st:S} {d:Option Nat} {ty:TypeId} {pos:String} {af:Array Edge} (fn:Fn) (xs:List Operand) :
 AL P L ds KP (⟨d,.makeFunc fn #[] xs.toArray,ty,pos,af,none⟩::os) K e st=zG5 fn [] (xs.map e.ev) fun v=>AL P L ds KP os K (e.putO d v) st:=propext Iff.rfl
set_option maxRecDepth 100000 in
theorem ok20x {es:List V} {tg:Tag} {s:S} (htg:zY (.lst tg es) = .lst tg es):FnC Tryz.prog 20 [.lst tg es] s fun oc s'=>∃ b,Al.look s.box b=none/\oc = .ret (.clo (.func 43) [ptV b])/\s' = ⟨lay s.box b ([.lst tg es],1),s.tg,s.nx,s.ob⟩:=by
 refine zAy Tryz.func20 rfl Tryz.ntmps20 Tryz.results20 (by show 1<=4; decide) fun B=>?_;simp only [List.cons_append,List.nil_append,List.append_nil,qg,Nat.reduceAdd]
 (repeat (first | (refine xo ?_) | (refine yp ?_; simp -failIfUnchanged only [zN,zP]) | (refine xq ?_; simp -failIfUnchanged only [yz,yV,xj,y9]) | (refine xF ?_; simp -failIfUnchanged only [yX,yO,zN,zP,reduceIte]) | (refine ye ?_) | ((first | (refine xl polN ks20 _ rfl rfl ?_) | (refine xG polN mixed ks20 _ rfl rfl (by kernel_rfl) (by kernel_rfl) ?_)); simp only [↓jY,↓jw,↓zPa,zN,yc,yo,xS,jT,zDm,yq,xR,V.flat,if_true,if_false,Nat.reduceEqDiff,reduceCtorEq,ks20])))
 refine ⟨rfl,fun b hb=>?_⟩
 (repeat (first | (refine xo ?_) | (refine yp ?_; simp -failIfUnchanged only [zN,zP]) | (refine xq ?_; simp -failIfUnchanged only [yz,yV,xj,y9]) | (refine xF ?_; simp -failIfUnchanged only [yX,yO,zN,zP,reduceIte]) | (refine ye ?_) | ((first | (refine xl polN ks20 _ rfl rfl ?_) | (refine xG polN mixed ks20 _ rfl rfl (by kernel_rfl) (by kernel_rfl) ?_)); simp only [↓jY,↓jw,zN,zCO,yc,yo,xS,jT,yq,xR,List.map_cons,List.map_nil,List.length_cons,List.length_nil,if_true,if_false,Nat.reduceEqDiff,Nat.zero_add,ks20,zJq])))
 refine ⟨rfl,?_⟩
 (repeat (first | (refine xo ?_) | (refine yp ?_; simp -failIfUnchanged only [zN,zP]) | (refine xq ?_; simp -failIfUnchanged only [yz,yV,xj,y9]) | (refine xF ?_; simp -failIfUnchanged only [yX,yO,zN,zP,reduceIte]) | (refine ye ?_) | ((first | (refine xl polN ks20 _ rfl rfl ?_) | (refine xG polN mixed ks20 _ rfl rfl (by kernel_rfl) (by kernel_rfl) ?_)); simp only [])))
 simp only [yG];refine ⟨rfl,b,hb,rfl,rfl⟩
def KpN (Bs:Nat) (a:Option Addr) (n:Nat) (A B:World):Prop:=(∀ v,A.cell? ⟨Bs,0,none⟩=some v->B.cell? ⟨Bs,0,none⟩=some v)/\∀ b o,a=some ⟨b,o,none⟩->∀ j v,j < n * 5->A.cell? ⟨b,o+j,none⟩=some v->B.cell? ⟨b,o+j,none⟩=some v
theorem KpN.refl (Bs:Nat) (a:Option Addr) (n:Nat) (A:World):KpN Bs a n A A:=⟨fun _ h=>h,fun _ _ _ _ _ _ h=>h⟩
theorem KpN.trans {Bs n:Nat} {a:Option Addr} {A B C:World} (h:KpN Bs a n A B) (k:KpN Bs a n B C):KpN Bs a n A C:=⟨fun v e=>k.1 v (h.1 v e),fun b o q j v hj e=>k.2 b o q j v hj (h.2 b o q j v hj e)⟩
theorem KpN.put {Bs n:Nat} {a:Option Addr} (W:World) (l:Nat) (o o':Obj) (hl:W.heap[l]? = some o) (ho:o.isCells=false):KpN Bs a n W (W.putObj l o'):=by
 have key:∀ b j v,W.cell? ⟨b,j,none⟩=some v->(W.putObj l o').cell? ⟨b,j,none⟩=some v:=fun b j v e=>by
  refine (World.cell?_of_block (World.putObj_heap_other ?_)).trans e;intro e2;have e2:b=l:=e2;subst e2;unfold World.cell? at e;simp only [hl] at e;cases o <;> first | (cases ho; done) | (cases e; done) | (simp at e; done)
 exact ⟨fun v e=>key _ _ _ e,fun b o _ j v _ e=>key _ _ _ e⟩
structure McC where
 a:Value
 b:Value
 c:Value
 d:Value
 e:Value
def McC.enc (x:McC):Value:=.agg #[x.a,x.b,x.c,x.d,x.e]
def Mc5 (w:World) (b o:Nat) (x:McC):Prop:=w.cell? ⟨b,o,none⟩=some x.a/\w.cell? ⟨b,o+1,none⟩=some x.b/\w.cell? ⟨b,o+2,none⟩=some x.c/\w.cell? ⟨b,o+3,none⟩=some x.d/\w.cell? ⟨b,o+4,none⟩=some x.e
set_option maxRecDepth 100000 in
set_option maxHeartbeats 2000000 in
theorem zPw (F:Fence) (n:Nat) (h8:F.fn 43) (hro:F.round=none) (hn:1<=n) (l Bs cap b o:Nat) (a:Option Addr) (xs:List McC) (hab:xs≠[]->a=some ⟨b,o,none⟩) (hreach:xs.length < 1000000) (J Jx:List (Fin xs.length)->World->Prop)
 (hY:∀ pre x W,J pre W->pre.length < xs.length->YieldAt F (n - 1) Tryz.prog l #[.int .i64 (x.1:Int),(xs[x.1]'x.2).enc] W fun e W'=>
  (e = .returned (.bool true)/\J (pre++[x]) W'/\KpN Bs a xs.length W W')\/(e = .returned (.bool false)/\Jx (pre++[x]) W'))
 (W:World) (hBs:W.cell? ⟨Bs,0,none⟩=some (.slice a xs.length cap)) (hc:∀ j (hj:j < xs.length),Mc5 W b (o+j * 5) (xs[j]'hj)) (h0:J [] W) :
 CallsIn F n Tryz.prog 43 #[.func (.yield l) #[] #[],.pointer (some ⟨Bs,0,none⟩)] W fun e W'=>(∃ v,e = .returned v) /\
  ((∃ ys,ys=qk xs.length xs.length/\J ys W')\/(∃ pre,(∃ k,k<=xs.length/\pre=qk xs.length k)/\Jx pre W')):=by
 refine callsIn_of_wp Tryz.func43 rfl h8 ?_ hro;simp only [Tryz.ntmps43,List.size_toArray,List.length_cons,List.length_nil,Nat.reduceAdd,Nat.reduceSub,Array.replicate_succ,Array.replicate_zero,List.push_toArray,List.append_toArray,List.nil_append,List.cons_append];have hsub:IntKind.i64.wrap ((xs.length:Int) - 1)=(xs.length:Int) - 1:=IntWalk.i64_in _ (by omega);gi_wp2
 gi_loopw [3] (fun i wr=>∃ k:Nat,k<=xs.length/\i = .int .i64 ((xs.length:Int) - 1 - k)/\J (qk xs.length k) wr/\KpN Bs a xs.length W wr)
  (fun i _=>(intOf i+1).toNat)
 case atStart=>exact ⟨0,Nat.zero_le _,by simp,h0,KpN.refl _ _ _ _⟩
 case round=>
  obtain ⟨k,hk,rfl,hJs,hnx⟩:=hrel;have hBs':=hnx.1 _ hBs;by_cases hlt:k < xs.length
  . obtain rfl:=hab (by rintro rfl; simp at hlt);obtain ⟨m,hm⟩:∃ m:Nat,m+k+1=xs.length:=⟨xs.length - 1 - k,by omega⟩;have hml:m < xs.length:=by omega
    obtain ⟨c1,c2,c3,c4,c5⟩:=hc m hml;have hcx1:=hnx.2 b o rfl (m * 5) _ (by omega) c1;have hcx2:wr.cell? ⟨b,o+m * 5+1,none⟩=some (xs[m]'hml).b:=hnx.2 b o rfl (m * 5+1) _ (by omega) c2;have hcx3:wr.cell? ⟨b,o+m * 5+2,none⟩=some (xs[m]'hml).c:=hnx.2 b o rfl (m * 5+2) _ (by omega) c3;have hcx4:wr.cell? ⟨b,o+m * 5+3,none⟩=some (xs[m]'hml).d:=hnx.2 b o rfl (m * 5+3) _ (by omega) c4;have hcx5:wr.cell? ⟨b,o+m * 5+4,none⟩=some (xs[m]'hml).e:=hnx.2 b o rfl (m * 5+4) _ (by omega) c5;have ei:(xs.length:Int) - 1 - (k:Int)=(m:Int):=by omega
    rw [ei];obtain ⟨fn,tmps,assign,body,hy,hR⟩:=hY _ ⟨m,hml⟩ wr hJs (by rw [zKB _ _ hk]; exact hlt);dsimp only [McC.enc] at hy;clear c1 c2 c3 c4 c5 hc;generalize (xs[m]'hml).a=xa at hcx1 hy;generalize (xs[m]'hml).b=xb at hcx2 hy;generalize (xs[m]'hml).c=xc at hcx3 hy;generalize (xs[m]'hml).d=xd at hcx4 hy;generalize (xs[m]'hml).e=xe at hcx5 hy;have hlt2:(m:Int) < (xs.length:Int):=by omega
    have hge2:¬ ((m:Int) < 0):=by omega
    gi_wp2;refine hR.mono ?_;have hm':m=xs.length - 1 - k:=by omega
    rintro e W3 (⟨rfl,hJ3,hk3⟩ | ⟨rfl,hJx3⟩)
    . have hsub3:IntKind.i64.wrap ((m:Int) - 1)=(m:Int) - 1:=IntWalk.i64_in _ (by omega);gi_wp2;go_roundw
      case rel=>exact ⟨k+1,by omega,by congr 1; omega,by rw [zGc _ _ _ hm]; exact hJ3,hnx.trans hk3⟩
      case measure=>simp [intOf]; omega
    . gi_wp2;refine bodyPost_ret (results_none rfl _ _ _) rfl ?_;exact ⟨⟨_,rfl⟩,.inr ⟨_,⟨k+1,by omega,(zGc _ _ _ hm).symm⟩,hJx3⟩⟩
  . obtain rfl:k=xs.length:=by omega
    gi_wp2;go_end0;exact ⟨⟨_,rfl⟩,.inl ⟨_,rfl,hJs⟩⟩
theorem zJW (F:Fence) (n:Nat) (h8:F.fn 43) (hro:F.round=none) (hn:1<=n) (Bs cap b o:Nat) (a:Option Addr) (xs:List McC) (hab:xs≠[]->a=some ⟨b,o,none⟩) (hreach:xs.length < 1000000) (w:World) (hB:Bs < w.heap.size) (hb:xs≠[]->b < w.heap.size)
 (hBs:w.cell? ⟨Bs,0,none⟩=some (.slice a xs.length cap)) (hc:∀ j (hj:j < xs.length),Mc5 w b (o+j * 5) (xs[j]'hj)) :
 SeqStopsK F n Tryz.prog 43 #[.pointer (some ⟨Bs,0,none⟩)] (fun x:Fin xs.length=>#[Value.int .i64 (x.1:Int),(xs[x.1]'x.2).enc]) (KpN Bs a xs.length) (fun ys=>ys=qk xs.length xs.length)
  (fun pre=>∃ k,k<=xs.length/\pre=qk xs.length k) xs.length w:=fun l J Jx W hW _ _ hY h0=>
 zPw F n h8 hro hn l Bs cap b o a xs hab hreach J Jx hY W ((hW.cell (p:=⟨Bs,0,none⟩) hB).trans hBs) (fun j hj=>by
  have hb':=hb (by rintro rfl; simp at hj);obtain ⟨q1,q2,q3,q4,q5⟩:=hc j hj;exact ⟨(hW.cell (p:=⟨b,o+j * 5,none⟩) hb').trans q1,(hW.cell (p:=⟨b,o+j * 5+1,none⟩) hb').trans q2,(hW.cell (p:=⟨b,o+j * 5+2,none⟩) hb').trans q3,(hW.cell (p:=⟨b,o+j * 5+3,none⟩) hb').trans q4,(hW.cell (p:=⟨b,o+j * 5+4,none⟩) hb').trans q5⟩) h0
end
section
open Go.Al Go.Den Go.Shelf
def zG7:Go.Shelf.Ren:=⟨fun | 4=>64 | n=>n,fun | 22=>63 | 25=>92 | n=>n,fun n=>n⟩
theorem lays64:Go.Proofs.Lays8.n4 Tryz.prog zG7:={
 mixed:=by kernel_rfl
 f4:=⟨Tryz.f64.name,by kernel_rfl,Tryz.func64.trans (congrArg some (by kernel_rfl))⟩
 t0:=Tryz.underlying0
 a0:=Tryz.isAgg0
 z0:=Tryz.sizeOf0
 v0:=Tryz.zeroValue0
 t3:=Tryz.underlying3
 a3:=Tryz.isAgg3
 z3:=Tryz.sizeOf3
 v3:=Tryz.zeroValue3
 t4:=Tryz.underlying4
 a4:=Tryz.isAgg4
 z4:=Tryz.sizeOf4
 v4:=Tryz.zeroValue4
 t9:=Tryz.underlying9
 a9:=Tryz.isAgg9
 z9:=Tryz.sizeOf9
 v9:=Tryz.zeroValue9
 t20:=Tryz.underlying20
 a20:=Tryz.isAgg20
 z20:=Tryz.sizeOf20
 v20:=Tryz.zeroValue20
 t22:=Tryz.underlying63
 a22:=Tryz.isAgg63
 z22:=Tryz.sizeOf63
 v22:=Tryz.zeroValue63 }
def zGR:Go.Shelf.Ren:=⟨fun | 4=>93 | n=>n,fun | 22=>22 | 25=>9 | n=>n,fun n=>n⟩
theorem lays93:Go.Proofs.Lays8.n4 Tryz.prog zGR:={
 mixed:=by kernel_rfl
 f4:=⟨Tryz.f93.name,by kernel_rfl,Tryz.func93.trans (congrArg some (by kernel_rfl))⟩
 t0:=Tryz.underlying0
 a0:=Tryz.isAgg0
 z0:=Tryz.sizeOf0
 v0:=Tryz.zeroValue0
 t3:=Tryz.underlying3
 a3:=Tryz.isAgg3
 z3:=Tryz.sizeOf3
 v3:=Tryz.zeroValue3
 t4:=Tryz.underlying4
 a4:=Tryz.isAgg4
 z4:=Tryz.sizeOf4
 v4:=Tryz.zeroValue4
 t9:=Tryz.underlying9
 a9:=Tryz.isAgg9
 z9:=Tryz.sizeOf9
 v9:=Tryz.zeroValue9
 t20:=Tryz.underlying20
 a20:=Tryz.isAgg20
 z20:=Tryz.sizeOf20
 v20:=Tryz.zeroValue20
 t22:=Tryz.underlying22
 a22:=Tryz.isAgg22
 z22:=Tryz.sizeOf22
 v22:=Tryz.zeroValue22 }
theorem info92:∃ i0 z,Tryz.prog.info? 92=some i0/\i0.zero=some z/\i0.size=9/\i0.bytes=88/\z.cells.size=9:=by
 have h:(match Tryz.prog.info? 92 with | some i=>(match i.zero with | some z=>i.size == 9 && i.bytes == 88 && z.cells.size == 9 | none=>false) | none=>false)=true:=by kernel_rfl
 split at h
 . rename_i i0 h1;split at h
   . rename_i z h2;simp only [Bool.and_eq_true,beq_iff_eq] at h;exact ⟨i0,z,h1,h2,h.1.1,h.1.2,h.2⟩
   . cases h
 . cases h
theorem info9:∃ i0 z,Tryz.prog.info? 9=some i0/\i0.zero=some z/\i0.size=1/\i0.bytes=16/\z.cells.size=1:=by
 have h:(match Tryz.prog.info? 9 with | some i=>(match i.zero with | some z=>i.size == 1 && i.bytes == 16 && z.cells.size == 1 | none=>false) | none=>false)=true:=by kernel_rfl
 split at h
 . rename_i i0 h1;split at h
   . rename_i z h2;simp only [Bool.and_eq_true,beq_iff_eq] at h;exact ⟨i0,z,h1,h2,h.1.1,h.1.2,h.2⟩
   . cases h
 . cases h
def zDV {i:TI} (a:List (denI i)×Int×Unit):Option (Option (List (denI i))×Unit):=
 bif a.1.isEmpty && decide (0<=a.2.1) && decide (a.2.1<=100000000) then (if a.2.1=0 then some (none,()) else some (some [],())) else none
theorem zBN {f:Nat} {ti:TI} {e:TypeId} {sz by_:Nat} (hsz:zK8 ti=sz) (hby:by_<=1000) (ρ:Go.Shelf.Ren) (L:Go.Proofs.Lays8.n4 Tryz.prog ρ) (hf:ρ.f 4=f) (he:ρ.t 25=e)
 (hi:∃ i0 z,Tryz.prog.info? e=some i0/\i0.zero=some z/\i0.size=sz/\i0.bytes=by_/\z.cells.size=sz) (hp:0 < sz) :
 CPOk CC Tryz.prog syn f (cF ([.dl ti,.int .i64]:LK) ([.arr ti]:LK) (zDV (i:=ti))):=by
 intro x a R pan K r hr;obtain ⟨xs,n,u⟩:=a;change List (denI ti) at xs;change Int at n;replace hr:Option.bind (zDV (i:=ti) (xs,n,u)) (fun y=>K () y)=some r:=hr;unfold zDV at hr;cases hb:(xs.isEmpty && decide (0<=n) && decide (n<=100000000)) with
 | false=>simp only [hb,cond_false] at hr; cases hr
 | true=>
  simp only [hb,cond_true] at hr;simp only [Bool.and_eq_true,decide_eq_true_eq] at hb;obtain ⟨⟨h1,h2⟩,h3⟩:=hb;have h1:xs=[]:=by simpa using h1
  subst h1;obtain ⟨k,rfl⟩:∃ k:Nat,n=(k:Int):=⟨n.toNat,(Int.toNat_of_nonneg h2).symm⟩;by_cases h0:((k:Int):Int)=0
  . have h0':k=0:=by omega
    subst h0';rw [if_pos h0] at hr;refine ⟨some ((),(none,())),hr,fun s vx va r1 r2 hv1 hv2 hn=>?_⟩;simp only [VKs,VK] at hv1 hv2;obtain ⟨rfl,rfl⟩:=hv1;obtain ⟨v,w,q1,q2,rfl,rfl,⟨rfl,rfl⟩,v2,w2,q3,q4,rfl,rfl,⟨rfl,rfl⟩,rfl,rfl⟩:=hv2;intro B g w us hinv hgl hu;cases hu with
    | cons hu1 hu2=>
     cases hu2 with
     | cons hu2 hu3=>
      cases hu3;have e1:=zC0 hu1;have e2:=zQ hu2;subst e1 e2;rw [<- hf];refine (Any8.slices_Grow_room L none 0 0 0 w (by omega) (by omega) (by omega) (by omega)).mono ?_;rintro ex w' ⟨rfl,rfl⟩;refine ⟨g,_,.refl _ _ _,hinv,.lst .nil [],?_,?_⟩
      . exact yR (by unfold RC; exact .inl ⟨rfl,rfl,trivial⟩)
      . exact ⟨[.lst .nil []],[],[],by simp only [VKs]; exact ⟨trivial,trivial⟩,by simp only [VKs,VK]; exact ⟨_,[],[],[],rfl,rfl,⟨rfl,rfl⟩,rfl,rfl⟩,by simp,rfl⟩
  . have h0':0 < k:=by omega
    rw [if_neg h0] at hr;refine ⟨some ((),(some [],())),hr,fun s vx va r1 r2 hv1 hv2 hn=>?_⟩;simp only [VKs,VK] at hv1 hv2;obtain ⟨rfl,rfl⟩:=hv1;obtain ⟨v,w,q1,q2,rfl,rfl,⟨rfl,rfl⟩,v2,w2,q3,q4,rfl,rfl,⟨rfl,rfl⟩,rfl,rfl⟩:=hv2;intro B g w us hinv hgl hu;cases hu with
    | cons hu1 hu2=>
     cases hu2 with
     | cons hu2 hu3=>
      cases hu3;have e1:=zC0 hu1;have e2:=zQ hu2;subst e1 e2;rw [<- hf];obtain ⟨i0,z,i1,i2,i3,i4,i5⟩:=hi;rw [<- he] at i1;have hbb:(0+k) * i0.bytes<=140737488355328:=by
       rw [i4,Nat.zero_add];have:k * by_<=100000000 * 1000:=Nat.mul_le_mul (by omega) hby
       omega
      refine (Any8.slices_Grow_grow L i0 z i1 i2 (by omega) none 0 0 k [] w (by omega) (by omega) hbb (by omega) (by simp) (fun _=>rfl) (fun a e=>by cases e)).mono ?_;rintro ex w' ⟨rfl,rfl⟩;have hG:=grownCap_ge w (0+k) 0 (ρ.t 25);generalize grownCap w (0+k) 0 (ρ.t 25)=G at hG ⊢;have ho1:=zAE hinv (w.drawn+1);have hsz2:(Builtin.zeroCells z.cells (0+k - 0)).toList.length+(Builtin.zeroCells z.cells (G - (0+k))).toList.length=G * sz:=by
       rw [Array.length_toList,Array.length_toList,size_zeroCells,size_zeroCells,i5,<- Nat.add_mul];have:0+k - 0+(G - (0+k))=G:=by omega
       rw [this]
      generalize Builtin.zeroCells z.cells (0+k - 0)=ZA at hsz2 ⊢;generalize Builtin.zeroCells z.cells (G - (0+k))=ZB at hsz2 ⊢;obtain ⟨g',ho⟩:=zTI (X:=⟨B,⟨0,[]⟩,none,[]⟩) (w:=w.drew) ho1.inv (es:=[]) (us:=[]) (by simp [RCs]) rfl (ρ.t 25) (ZA.toList++ZB.toList) (G * sz) (by
       rw [List.length_nil,Nat.zero_add,List.length_append]; exact hsz2)
      have earr:([]++(ZA.toList++ZB.toList)).toArray=([]:List Value).toArray++ZA++ZB:=by
       apply Array.ext';rw [Array.toList_append,Array.toList_append];rfl
      rw [earr] at ho;refine ⟨g',_,ho1.step.trans ho.step,ho.inv,.at (.slice (some ⟨w.heap.size,0,none⟩) 0 G),RV_at_mk rfl,?_⟩;refine ⟨[.at (.slice (some ⟨w.heap.size,0,none⟩) 0 G)],[],[.inr w.heap.size],by simp only [VKs]; exact ⟨trivial,trivial⟩,?_,List.nodup_cons.2 ⟨List.not_mem_nil,List.nodup_nil⟩,rfl⟩;simp only [VKs,VK];refine ⟨_,[],[.inr w.heap.size],[],rfl,rfl,⟨w.heap.size,G,rfl,Nat.zero_le _,?_,rfl⟩,rfl,rfl⟩;show Al.look (lay _ w.drew.heap.size (zO [],G * sz)) w.heap.size=some (zO [],G * zK8 ti);rw [zf];exact (if_pos rfl).trans (by rw [hsz])
def c64:=zDV (i:=.tk)
theorem ok64:CPOk CC Tryz.prog syn 64 (cF ([.dl TI.tk,.int .i64]:LK) ([.arr TI.tk]:LK) c64):=zBN (sz:=9) (by_:=88) rfl (by omega) zG7 lays64 rfl rfl info92 (by omega)
def c93:=zDV (i:=.str)
theorem ok93:CPOk CC Tryz.prog syn 93 (cF ([.dl TI.str,.int .i64]:LK) ([.arr TI.str]:LK) c93):=zBN (sz:=1) (by_:=16) rfl (by omega) zGR lays93 rfl rfl info9 (by omega)
end
section
open Go.Al Go.Den
abbrev as22:List (AK UU):=[.ls TI.tok]
abbrev rs22:List (AK UU):=[.dl TI.tk]
abbrev as23:List (AK UU):=[.ls TI.tk]
abbrev rs23:List (AK UU):=[.dl TI.tok]
abbrev as44:List (AK UU):=[.st TI.tk,.str]
abbrev rs44:List (AK UU):=[.bool]
abbrev as45:List (AK UU):=[.st TI.tk,.str]
abbrev rs45:List (AK UU):=[.bool]
abbrev as51:List (AK UU):=[.st TI.mac,.str]
abbrev rs51:List (AK UU):=[.int .i64]
abbrev as80:List (AK UU):=[.st TI.mac,.int .i64]
abbrev rs80:List (AK UU):=[.int .i64]
abbrev as82:List (AK UU):=[.st TI.mac,.int .i64]
abbrev rs82:List (AK UU):=[.bool]
def kf22:Nat->List Nat
 | 0=>[0]
 | 1=>[0,3]
 | 2=>[0,3,4]
 | 3=>[3,4,7,8,9]
 | 4=>[3,4,7,8,9,10]
 | 5=>[3,4,6,7,8,9]
 | 6=>[3,4,6,7,8,9,15]
 | 7=>[3,4,7,8,9]
 | 8=>[3,6,7,8,9]
 | 9=>[3,4,6,7,8,9]
 | 10=>[3,4,7,8,9]
 | 11=>[3,4,7,8,9]
 | 12=>[2]
 | _=>[]
def hd22:List (Nat×Head UU):=[(4,⟨[7,8],[(3,.ow true TI.tk),(4,.bool),(9,.int .i64)],[]⟩)]
noncomputable def fd22:FD UU:=⟨⟨fun d=>hasN [] d,fun d=>hasN [] d,kf22,zB hd22,zB [],zm [],zl []⟩,zR Tryz.f22,29,[.tmp 2]⟩
def kf23:Nat->List Nat
 | 0=>[0]
 | 1=>[0,3]
 | 2=>[3,6,7,8]
 | 3=>[3,6,7,8,9]
 | 4=>[3,5,6,7,8]
 | 5=>[3,6,7,8]
 | 6=>[3,6,7,8]
 | 7=>[2]
 | _=>[]
def hd23:List (Nat×Head UU):=[(3,⟨[6,7],[(3,.ow true TI.tok),(8,.int .i64)],[]⟩)]
noncomputable def fd23:FD UU:=⟨⟨fun d=>hasN [] d,fun d=>hasN [] d,kf23,zB hd23,zB [],zm [],zl []⟩,zR Tryz.f23,19,[.tmp 2]⟩
def kf44:Nat->List Nat
 | 0=>[1,2]
 | 1=>[4]
 | _=>[]
noncomputable def fd44:FD UU:=⟨⟨fun d=>hasN [] d,fun d=>hasN [] d,kf44,zB [],zB [],zm [],zl []⟩,zR Tryz.f44,9,[.tmp 4]⟩
def kf45:Nat->List Nat
 | 0=>[1,2]
 | 1=>[4]
 | _=>[]
noncomputable def fd45:FD UU:=⟨⟨fun d=>hasN [] d,fun d=>hasN [] d,kf45,zB [],zB [],zm [],zl []⟩,zR Tryz.f45,21,[.tmp 4]⟩
def kf50:Nat->List Nat
 | 0=>[0,1]
 | 1=>[4]
 | _=>[]
noncomputable def fd50:FD UU:=⟨⟨fun d=>hasN [] d,fun d=>hasN [] d,kf50,zB [],zB [],zm [],zl []⟩,zR Tryz.f50,9,[.tmp 4]⟩
def kf65:Nat->List Nat
 | 0=>[0,1]
 | 1=>[0,1,7,8]
 | 2=>[0,1,7,8,9]
 | 3=>[0,1,5,7,8]
 | 4=>[0,1,5,7,8,16]
 | 5=>[4]
 | 6=>[0,1,7,8]
 | 7=>[4]
 | _=>[]
def hd65:List (Nat×Head UU):=[(2,⟨[0,1,7],[(8,.int .i64)],[]⟩)]
noncomputable def fd65:FD UU:=⟨⟨fun d=>hasN [] d,fun d=>hasN [] d,kf65,zB hd65,zB [],zm [],zl []⟩,zR Tryz.f65,19,[.tmp 4]⟩
def kf80:Nat->List Nat
 | 0=>[1,2]
 | 1=>[1,2,27]
 | 2=>[4]
 | 3=>[4]
 | _=>[]
noncomputable def fd80:FD UU:=⟨⟨fun d=>hasN [] d,fun d=>hasN [] d,kf80,zB [],zB [],zm [],zl []⟩,zR Tryz.f80,36,[.tmp 4]⟩
def kf82:Nat->List Nat
 | 0=>[1,2]
 | 1=>[4]
 | _=>[]
noncomputable def fd82:FD UU:=⟨⟨fun d=>hasN [] d,fun d=>hasN [] d,kf82,zB [],zB [],zm [],zl []⟩,zR Tryz.f82,36,[.tmp 4]⟩
noncomputable def run22 (fu:Nat) (nf:Nat->Bool) (x0:List TokT):Option (zK rs22):=
 xK CC Tb fu 2 (zB []) (zB []) (zB []) (zB []) fd22 as22 rs22 nf (x0,())
theorem fdok22:FDOk Tryz.prog (hasN []) (hasN []) 22 fd22:=fdk Tryz.func22 Tryz.ntmps22 Tryz.results22
noncomputable def run23 (fu:Nat) (nf:Nat->Bool) (x0:List TkT):Option (zK rs23):=
 xK CC Tb fu 2 (zB []) (zB []) (zB []) (zB []) fd23 as23 rs23 nf (x0,())
theorem fdok23:FDOk Tryz.prog (hasN []) (hasN []) 23 fd23:=fdk Tryz.func23 Tryz.ntmps23 Tryz.results23
noncomputable def run44 (fu:Nat) (nf:Nat->Bool) (x0:TkT) (x1:List UInt8):Option (zK rs44):=
 xK CC Tb fu 4 (zB [(50,fd50),(65,fd65)]) (zB []) (zB []) (zB []) fd44 as44 rs44 nf (x0,x1,())
theorem fdok44:FDOk Tryz.prog (hasN []) (hasN []) 44 fd44:=fdk Tryz.func44 Tryz.ntmps44 Tryz.results44
theorem zPH:FDOk Tryz.prog (hasN []) (hasN []) 50 fd50:=fdk Tryz.func50 Tryz.ntmps50 Tryz.results50
theorem zOa:FDOk Tryz.prog (hasN []) (hasN []) 65 fd65:=fdk Tryz.func65 Tryz.ntmps65 Tryz.results65
noncomputable def run45 (fu:Nat) (nf:Nat->Bool) (x0:TkT) (x1:List UInt8):Option (zK rs45):=
 xK CC Tb fu 2 (zB []) (zB []) (zB []) (zB []) fd45 as45 rs45 nf (x0,x1,())
theorem fdok45:FDOk Tryz.prog (hasN []) (hasN []) 45 fd45:=fdk Tryz.func45 Tryz.ntmps45 Tryz.results45
noncomputable def run80 (fu:Nat) (nf:Nat->Bool) (x0:MacT) (x1:Int):Option (zK rs80):=
 xK CC Tb fu 2 (zB []) (zB [(51,(⟨as51,rs51,nn as51 rs51⟩:Con UU))]) (zB []) (zB []) fd80 as80 rs80 nf (x0,x1,())
theorem fdok80:FDOk Tryz.prog (hasN [51]) (hasN []) 80 fd80:=fdk Tryz.func80 Tryz.ntmps80 Tryz.results80
noncomputable def run82 (fu:Nat) (c80:MacT×Int×Unit->Option (Int×Unit)) (nf:Nat->Bool) (x0:MacT) (x1:Int):Option (zK rs82):=
 xK CC Tb fu 2 (zB []) (zB [(80,(⟨as80,rs80,c80⟩:Con UU))]) (zB []) (zB []) fd82 as82 rs82 nf (x0,x1,())
theorem fdok82:FDOk Tryz.prog (hasN [80]) (hasN []) 82 fd82:=fdk Tryz.func82 Tryz.ntmps82 Tryz.results82
end
section
open Go.Al Go.Den
abbrev as61:List (AK UU):=[.ls TI.str,.ls TI.str]
abbrev rs61:List (AK UU):=[.dl TI.str]
abbrev as74:List (AK UU):=[.st TI.mac,.ls TI.tkl,.ls TI.tkl]
abbrev rs74:List (AK UU):=[.dl TI.tk]
abbrev as77:List (AK UU):=[.dl TI.str,.dl TI.str]
abbrev rs77:List (AK UU):=[.dl TI.str]
abbrev as81:List (AK UU):=[.st TI.mac,.int .i64]
abbrev rs81:List (AK UU):=[.bool]
abbrev as83:List (AK UU):=[.st TI.tok,.st TI.tok]
abbrev rs83:List (AK UU):=[.st TI.tok,.int .i64]
abbrev as84:List (AK UU):=[.ls TI.tok]
abbrev rs84:List (AK UU):=[.st TI.tok]
abbrev as85:List (AK UU):=[.ls TI.tk,.bool]
abbrev rs85:List (AK UU):=[.dl TI.tk]
abbrev as87:List (AK UU):=[.ls TI.strs]
abbrev rs87:List (AK UU):=[.dl TI.str]
abbrev as88:List (AK UU):=[.ls TI.str]
abbrev rs88:List (AK UU):=[]
abbrev as89:List (AK UU):=[.dl TI.str]
abbrev rs89:List (AK UU):=[.dl TI.str]
def kf73:Nat->List Nat
 | 0=>[0]
 | 1=>[0,4]
 | 2=>[0,4,5]
 | 3=>[0,4,5,13]
 | 4=>[0,4,5]
 | 5=>[0,4,5,33]
 | 6=>[0,4,5]
 | 7=>[0,4,5]
 | 8=>[0,4,5,6,7]
 | 9=>[0,4,5,6,7,8,9]
 | 10=>[0,4,5,6,7,8,9,63]
 | 11=>[2,3]
 | 12=>[0,4,5]
 | 13=>[0,4,5,6,7,79]
 | 14=>[0,4,5,6,7,82]
 | 15=>[0,4,5,6,7]
 | 16=>[0,4,5]
 | 17=>[2,3]
 | _=>[]
def hd73:List (Nat×Head UU):=[(3,⟨[0],[(4,.arr TI.tk),(5,.int .i64)],[]⟩)]
noncomputable def fd73:FD UU:=⟨⟨fun d=>hasN [40] d,fun d=>hasN [] d,kf73,zB hd73,zB [],zm [],zl []⟩,zR Tryz.f73,98,[.tmp 2,.tmp 3]⟩
def kf74:Nat->List Nat
 | 0=>[1,2,3]
 | 1=>[1,2,3,7]
 | 2=>[1,2,3,7,8]
 | 3=>[1,2,3,7,8,16]
 | 4=>[1,2,3,7,8]
 | 5=>[1,2,3,7,8,9]
 | 6=>[1,2,3,7,8,9,10]
 | 7=>[1,2,3,7,8]
 | 8=>[1,2,3,7,8,9,10,32]
 | 9=>[1,2,3,7,8,9,11]
 | 10=>[1,2,3,7,8,11]
 | 11=>[1,2,3,7,8]
 | 12=>[1,2,3,7,8]
 | 13=>[1,2,3,7,8,9,10,64]
 | 14=>[1,2,3,7,8]
 | 15=>[1,2,3,7,8,9,10,78]
 | 16=>[1,2,3,7,8]
 | 17=>[1,2,3,7,8,9,10,101]
 | 18=>[1,2,3,7,8]
 | 19=>[1,2,3,7,8,9,10,118]
 | 20=>[1,2,3,7,8]
 | 21=>[6]
 | _=>[]
def hd74:List (Nat×Head UU):=[(3,⟨[1,2,3],[(7,.ow true TI.tk),(8,.int .i64)],[(3,maK)]⟩)]
noncomputable def fd74:FD UU:=⟨⟨fun d=>hasN [] d,fun d=>hasN [] d,kf74,zB hd74,zB [],zm [(10,[(1000053,45,9),(1000054,45,9),(1000055,45,9),(1000056,45,9),(1000053,47,9),(1000054,47,9),(1000055,47,9),(1000056,47,9),(1000053,49,9),(1000054,49,9),(1000055,49,9),(1000056,49,9),(1000053,51,9),(1000054,51,9),(1000055,51,9),(1000056,51,9)])],zl []⟩,zR Tryz.f74,131,[.tmp 6]⟩
def kf75:Nat->List Nat
 | 0=>[0,1]
 | 1=>[0,1,5]
 | 2=>[0,1,5,12]
 | 3=>[4]
 | 4=>[0,1,5,6]
 | 5=>[0,1,5,6,19]
 | 6=>[0,1,5,6]
 | 7=>[0,1,5,6,7]
 | 8=>[0,1,5,6,7,29]
 | 9=>[0,1,5,6]
 | 10=>[0,1,5,6]
 | 11=>[0,5]
 | 12=>[4]
 | _=>[]
def hd75:List (Nat×Head UU):=[(5,⟨[0,1],[(5,.int .i64),(6,.int .i64)],[(0,.arr TI.tk)]⟩)]
noncomputable def fd75:FD UU:=⟨⟨fun d=>hasN [] d,fun d=>hasN [] d,kf75,zB hd75,zB [],zm [],zl []⟩,zR Tryz.f75,42,[.tmp 4]⟩
def kf76:Nat->List Nat
 | 0=>[1]
 | 1=>[2]
 | _=>[]
noncomputable def fd76:FD UU:=⟨⟨fun d=>hasN [] d,fun d=>hasN [] d,kf76,zB [],zB [],zm [],zl []⟩,zR Tryz.f76,5,[.tmp 2]⟩
def kf77:Nat->List Nat
 | 0=>[0,1]
 | 1=>[5]
 | 2=>[5]
 | 3=>[4]
 | _=>[]
noncomputable def fd77:FD UU:=⟨⟨fun d=>hasN [] d,fun d=>hasN [] d,kf77,zB [],zB [],zm [],zl []⟩,zR Tryz.f77,14,[.tmp 4]⟩
def kf86:Nat->List Nat
 | 0=>[0,1]
 | 1=>[0,1,7,8]
 | 2=>[0,1,7,8,9]
 | 3=>[0,1,5,7,8]
 | 4=>[0,1,5,7,8,16]
 | 5=>[4]
 | 6=>[0,1,7,8]
 | 7=>[4]
 | _=>[]
def hd86:List (Nat×Head UU):=[(2,⟨[0,1,7],[(8,.int .i64)],[(0,.arr TI.tk)]⟩)]
noncomputable def fd86:FD UU:=⟨⟨fun d=>hasN [] d,fun d=>hasN [] d,kf86,zB hd86,zB [],zm [],zl []⟩,zR Tryz.f86,19,[.tmp 4]⟩
noncomputable def run74 (fu:Nat) (c23:List TkT×Unit->Option (List TokT×Unit)) (c80:MacT×Int×Unit->Option (Int×Unit)) (c82:MacT×Int×Unit->Option (Bool×Unit)) (nf:Nat->Bool) (x0:MacT) (x1:List (Bool×List TkT)) (x2:List (Bool×List TkT)):Option (zK rs74):=
 xK CC Tb fu 2 (zB []) (zB [(23,(⟨as23,rs23,c23⟩:Con UU)),(80,(⟨as80,rs80,c80⟩:Con UU)),(81,(⟨as81,rs81,nn as81 rs81⟩:Con UU)),(82,(⟨as82,rs82,c82⟩:Con UU)),(84,(⟨as84,rs84,nn as84 rs84⟩:Con UU)),(85,(⟨as85,rs85,nn as85 rs85⟩:Con UU))]) (zB []) (zB []) fd74 as74 rs74 nf (x0,x1,x2,())
theorem fdok74:FDOk Tryz.prog (hasN [23,80,81,82,84,85]) (hasN []) 74 fd74:=fdk Tryz.func74 Tryz.ntmps74 Tryz.results74
noncomputable def run73 (fu:Nat) (x:zA k0) (a:zA kD):Option (Option (zA k0×zA kF)):=
 zEp CC Tb fu 2 (zB []) (zB [(61,(⟨as61,rs61,nn as61 rs61⟩:Con UU)),(83,(⟨as83,rs83,nn as83 rs83⟩:Con UU))]) (zB []) (zB []) fd73 k0 k0 kD kF x a
theorem fdok73:FDOk Tryz.prog (hasN [61,83]) (hasN []) 73 fd73:=fdk Tryz.func73 Tryz.ntmps73 Tryz.results73
noncomputable def run75 (fu:Nat) (x:zA k0) (a:zA ([.arr TI.tk,.fn 76]:LK)):Option (Option (zA k0×zA kA)):=
 zEp CC Tb fu 4 (zB [(76,fd76),(86,fd86)]) (zB []) (zB []) (zB []) fd75 k0 k0 ([.arr TI.tk,.fn 76]:LK) kA x a
theorem fdok75:FDOk Tryz.prog (hasN []) (hasN []) 75 fd75:=fdk Tryz.func75 Tryz.ntmps75 Tryz.results75
theorem zPe:FDOk Tryz.prog (hasN []) (hasN []) 76 fd76:=fdk Tryz.func76 Tryz.ntmps76 Tryz.results76
theorem zOm:FDOk Tryz.prog (hasN []) (hasN []) 86 fd86:=fdk Tryz.func86 Tryz.ntmps86 Tryz.results86
noncomputable def run77 (fu:Nat) (c87:(List (Bool×List (List UInt8)))×Unit->Option (List (List UInt8)×Unit)) (c88:List (List UInt8)×Unit->Option (Unit)) (c89:List (List UInt8)×Unit->Option (List (List UInt8)×Unit)) (nf:Nat->Bool) (x0:List (List UInt8)) (x1:List (List UInt8)):Option (zK rs77):=
 xK CC Tb fu 2 (zB []) (zB [(87,(⟨as87,rs87,c87⟩:Con UU)),(88,(⟨as88,rs88,c88⟩:Con UU)),(89,(⟨as89,rs89,c89⟩:Con UU))]) (zB []) (zB []) fd77 as77 rs77 nf (x0,x1,())
theorem fdok77:FDOk Tryz.prog (hasN [87,88,89]) (hasN []) 77 fd77:=fdk Tryz.func77 Tryz.ntmps77 Tryz.results77
end
section
open Go.Al Go.Den
abbrev as48:List (AK UU):=[.ls TI.tkl]
abbrev rs48:List (AK UU):=[.dl TI.tk]
abbrev as60:List (AK UU):=[.ls TI.tk]
abbrev rs60:List (AK UU):=[.dl TI.tkl,.dl TI.tk,.int .i64]
abbrev as62:List (AK UU):=[.st TI.mac,.ls TI.tkl,.ls TI.tk]
abbrev rs62:List (AK UU):=[.dl TI.tkl,.int .i64]
abbrev as78:List (AK UU):=[.dl TI.str]
abbrev rs78:List (AK UU):=[.dl TI.str]
def kf21:Nat->List Nat
 | 0=>[0,1]
 | 1=>[0,1,6]
 | 2=>[0,1,6,16]
 | 3=>[0,1,6,7]
 | 4=>[0,1,6,7,8,9]
 | 5=>[0,1,6,7,8,61]
 | 6=>[0,1,6]
 | 7=>[0,1,6,68]
 | 8=>[0,4,5]
 | 9=>[0,1,6]
 | 10=>[0,1,6,7,10,11,12]
 | 11=>[0,1,6,7,10,11,12,80]
 | 12=>[0,4,5]
 | 13=>[0,6,7,10,13]
 | 14=>[0,6,7,10,13,86]
 | 15=>[0,6,10,13]
 | 16=>[0,6,10,13,97]
 | 17=>[0,6,10,13]
 | 18=>[0,6,10,13]
 | 19=>[0,1,6]
 | 20=>[0,4,5]
 | _=>[]
def hd21:List (Nat×Head UU):=[(2,⟨[0],[(1,.bl TI.tk),(6,.ow true TI.tk)],[(0,woK)]⟩)]
noncomputable def fd21:FD UU:=⟨⟨fun d=>hasN [] d,fun d=>hasN [] d,kf21,zB hd21,zB [],zm [],zl [(19,[10,13])]⟩,zR Tryz.f21,117,[.tmp 4,.tmp 5]⟩
def kf46:Nat->List Nat
 | 0=>[0,2,4,7]
 | 1=>[0,2,4,7,9]
 | 2=>[0,2,4,7,9,10]
 | 3=>[0,2,4,7,9,10,11]
 | 4=>[0,2,4,7,9,10,11,17]
 | 5=>[0,2,4,7,9,10,11]
 | 6=>[0,2,4,7,9,10,11,26]
 | 7=>[0,6,7,8]
 | 8=>[0,4,7,9,10,11]
 | 9=>[0,4,7,9,10,11,38]
 | 10=>[0,6,7,8]
 | 11=>[0,4,7,9,10,11]
 | 12=>[0,4,7,9,10,11,47]
 | 13=>[0,4,7,8,9,11]
 | 14=>[0,4,7,8,9,11,56]
 | 15=>[0,6,7,8]
 | 16=>[0,6,7,8]
 | 17=>[0,6,7,8]
 | _=>[]
def jn46:List (Nat×Head UU):=[(16,⟨[0,4,11],[(7,.int .i64),(9,.dl TI.tkl)],[(0,woK),(4,maK)]⟩),(9,⟨[0,4],[(7,.int .i64),(9,.dl TI.tkl),(10,.dl TI.tk),(11,.dl TI.str)],[(0,woK),(4,maK)]⟩)]
noncomputable def fd46:FD UU:=⟨⟨fun d=>hasN [] d,fun d=>hasN [] d,kf46,zB [],zB jn46,zm [],zl []⟩,zR Tryz.f46,69,[.tmp 6,.tmp 7,.tmp 8]⟩
def kf63:Nat->List Nat
 | 0=>[0,2,3,5]
 | 1=>[0,2,3,5,10,11]
 | 2=>[0,2,3,5,10,11,22]
 | 3=>[0,8,9]
 | 4=>[0,3,5,11,12]
 | 5=>[0,3,5,11,12,33]
 | 6=>[0,8,9]
 | 7=>[0,3,5,12]
 | 8=>[0,3,5,12,38,39]
 | 9=>[0,3,5,12,38,39,40]
 | 10=>[0,3,5,12,13,38,39]
 | 11=>[0,3,5,12,13,38,39]
 | 12=>[0,3,5,12,38,39]
 | 13=>[0,3,5,12,38,39]
 | 14=>[0,12,65]
 | 15=>[0,8,9]
 | 16=>[0,8,9]
 | _=>[]
def hd63:List (Nat×Head UU):=[(9,⟨[0,3,5,12,38],[(39,.int .i64)],[(0,woK),(5,maK),(12,.arr TI.tk)]⟩)]
noncomputable def fd63:FD UU:=⟨⟨fun d=>hasN [] d,fun d=>hasN [] d,kf63,zB hd63,zB [],zm [],zl []⟩,zR Tryz.f63,67,[.tmp 8,.tmp 9]⟩
def kf78:Nat->List Nat
 | 0=>[0]
 | 1=>[0,4]
 | 2=>[2]
 | 3=>[2]
 | _=>[]
noncomputable def fd78:FD UU:=⟨⟨fun d=>hasN [] d,fun d=>hasN [] d,kf78,zB [],zB [],zm [],zl []⟩,zR Tryz.f78,8,[.tmp 2]⟩
noncomputable def run46 (fu:Nat) (c63:zA ([.st TI.mac,.dl TI.tkl,.dl TI.str]:LK)->WW (zA kF)) (x:zA [woK]) (a:zA kM):Option (Option (zA [woK]×zA kG)):=
 zEp CC Tb fu 2 (zB []) (zB [(60,(⟨as60,rs60,nn as60 rs60⟩:Con UU)),(61,(⟨as61,rs61,nn as61 rs61⟩:Con UU)),(62,(⟨as62,rs62,nn as62 rs62⟩:Con UU))]) (zB []) (zB [(63,cW ([.st TI.mac,.dl TI.tkl,.dl TI.str]:LK) kF c63)]) fd46 [woK] [woK] kM kG x a
theorem fdok46:FDOk Tryz.prog (hasN [60,61,62]) (hasN []) 46 fd46:=fdk Tryz.func46 Tryz.ntmps46 Tryz.results46
noncomputable def run63 (fu:Nat) (c74:MacT×(List (Bool×List TkT))×(List (Bool×List TkT))×Unit->Option (List TkT×Unit)) (c77:List (List UInt8)×List (List UInt8)×Unit->Option (List (List UInt8)×Unit)) (c78:List (List UInt8)×Unit->Option (List (List UInt8)×Unit)) (c72:zA ([.st TI.mac,.dl TI.tkl]:LK)->WW (zA ([.bl TI.tkl,.int .i64]:LK))) (c73:zA kD->Option (zA kF)) (c75:zA ([.arr TI.tk,.fn 76]:LK)->Option (zA kA)) (x:zA [woK]) (a:zA ([.st TI.mac,.dl TI.tkl,.dl TI.str]:LK)):Option (Option (zA [woK]×zA kF)):=
 zEp CC Tb fu 2 (zB []) (zB [(74,(⟨as74,rs74,c74⟩:Con UU)),(77,(⟨as77,rs77,c77⟩:Con UU)),(78,(⟨as78,rs78,c78⟩:Con UU))]) (zB []) (zB [(72,cW ([.st TI.mac,.dl TI.tkl]:LK) ([.bl TI.tkl,.int .i64]:LK) c72),(73,cF kD kF c73),(75,cF ([.arr TI.tk,.fn 76]:LK) kA c75)]) fd63 [woK] [woK] ([.st TI.mac,.dl TI.tkl,.dl TI.str]:LK) kF x a
theorem fdok63:FDOk Tryz.prog (hasN [74,77,78]) (hasN []) 63 fd63:=fdk Tryz.func63 Tryz.ntmps63 Tryz.results63
noncomputable def run21 (fu:Nat) (c44:TkT×List UInt8×Unit->Option (Bool×Unit)) (c45:TkT×List UInt8×Unit->Option (Bool×Unit)) (c48:(List (Bool×List TkT))×Unit->Option (List TkT×Unit)) (c46:zA kM->WW (zA kG)) (x:zA [woK]) (a:zA kL):Option (Option (zA [woK]×zA kE)):=
 runP CC Tb fu 2 (zB []) (zB [(44,(⟨as44,rs44,c44⟩:Con UU)),(45,(⟨as45,rs45,c45⟩:Con UU)),(48,(⟨as48,rs48,c48⟩:Con UU))]) (zB []) (zB [(46,cW kM kG c46)]) fd21 [woK] [woK] kL kE x a
theorem fdok21:FDOk Tryz.prog (hasN [44,45,48]) (hasN []) 21 fd21:=fdk Tryz.func21 Tryz.ntmps21 Tryz.results21
noncomputable def run78 (fu:Nat) (nf:Nat->Bool) (x0:List (List UInt8)):Option (zK rs78):=
 xK CC Tb fu 2 (zB []) (zB []) (zB []) (zB []) fd78 as78 rs78 nf (x0,())
theorem fdok78:FDOk Tryz.prog (hasN []) (hasN []) 78 fd78:=fdk Tryz.func78 Tryz.ntmps78 Tryz.results78
end
section
open Go.Al Go.Den
def kf48:Nat->List Nat
 | 0=>[0]
 | 1=>[0,3]
 | 2=>[0,3,9,10,11]
 | 3=>[0,3,9,10,11,12]
 | 4=>[0,3,5,9,10,11]
 | 5=>[0,3,9,10,11]
 | 6=>[0,3,9,10,11,20]
 | 7=>[0,3,9,10,11]
 | 8=>[0,3,9,10,11]
 | 9=>[0,6]
 | 10=>[6,25,26,27]
 | 11=>[6,25,26,27,28]
 | 12=>[6,8,25,26,27]
 | 13=>[6,25,26,27]
 | 14=>[6,25,26,27]
 | 15=>[2]
 | _=>[]
def hd48:List (Nat×Head UU):=[(3,⟨[0,9,10],[(3,.int .i64),(11,.int .i64)],[]⟩),(11,⟨[25,26],[(6,.arr TI.tk),(27,.int .i64)],[]⟩)]
noncomputable def fd48:FD UU:=⟨⟨fun d=>hasN [33] d,fun d=>hasN [] d,kf48,zB hd48,zB [],zm [],zl []⟩,zR Tryz.f48,36,[.tmp 2]⟩
def kf87:Nat->List Nat
 | 0=>[0]
 | 1=>[0,3]
 | 2=>[0,3,9,10,11]
 | 3=>[0,3,9,10,11,12]
 | 4=>[0,3,5,9,10,11]
 | 5=>[0,3,9,10,11]
 | 6=>[0,3,9,10,11,20]
 | 7=>[0,3,9,10,11]
 | 8=>[0,3,9,10,11]
 | 9=>[0,6]
 | 10=>[6,25,26,27]
 | 11=>[6,25,26,27,28]
 | 12=>[6,8,25,26,27]
 | 13=>[6,25,26,27]
 | 14=>[6,25,26,27]
 | 15=>[2]
 | _=>[]
def hd87:List (Nat×Head UU):=[(3,⟨[0,9,10],[(3,.int .i64),(11,.int .i64)],[]⟩),(11,⟨[25,26],[(6,.arr TI.str),(27,.int .i64)],[]⟩)]
noncomputable def fd87:FD UU:=⟨⟨fun d=>hasN [33] d,fun d=>hasN [] d,kf87,zB hd87,zB [],zm [],zl []⟩,zR Tryz.f87,36,[.tmp 2]⟩
def kf89:Nat->List Nat
 | 0=>[0]
 | 1=>[0,8]
 | 2=>[2]
 | 3=>[0,3]
 | 4=>[0,3,13]
 | 5=>[0,3]
 | 6=>[0,3,25]
 | 7=>[0,3,4]
 | 8=>[0,3,4,5]
 | 9=>[0,3,4,5,32]
 | 10=>[0,3,4,5]
 | 11=>[0,3,4,5,44]
 | 12=>[0,3,4,5]
 | 13=>[0,3,4,5]
 | 14=>[0,3]
 | 15=>[2]
 | 16=>[2]
 | _=>[]
def hd89:List (Nat×Head UU):=[(4,⟨[0],[(3,.int .i64)],[]⟩),(9,⟨[0,4],[(3,.int .i64),(5,.int .i64)],[]⟩)]
noncomputable def fd89:FD UU:=⟨⟨fun d=>hasN [] d,fun d=>hasN [] d,kf89,zB hd89,zB [],zm [],zl []⟩,zR Tryz.f89,61,[.tmp 2]⟩
noncomputable def run48 (fu:Nat) (c64:zA kE->Option (zA kA)) (nf:Nat->Bool) (x0:List (Bool×List TkT)):Option (zK rs48):=
 xK CC Tb fu 2 (zB []) (zB []) (zB []) (zB [(64,cF kE kA c64)]) fd48 as48 rs48 nf (x0,())
theorem fdok48:FDOk Tryz.prog (hasN []) (hasN []) 48 fd48:=fdk Tryz.func48 Tryz.ntmps48 Tryz.results48
noncomputable def run87 (fu:Nat) (c93:zA ([.dl TI.str,.int .i64]:LK)->Option (zA ([.arr TI.str]:LK))) (nf:Nat->Bool) (x0:List (Bool×List (List UInt8))):Option (zK rs87):=
 xK CC Tb fu 2 (zB []) (zB []) (zB []) (zB [(93,cF ([.dl TI.str,.int .i64]:LK) ([.arr TI.str]:LK) c93)]) fd87 as87 rs87 nf (x0,())
theorem fdok87:FDOk Tryz.prog (hasN []) (hasN []) 87 fd87:=fdk Tryz.func87 Tryz.ntmps87 Tryz.results87
noncomputable def run89 (fu:Nat) (nf:Nat->Bool) (x0:List (List UInt8)):Option (zK rs89):=
 xK CC Tb fu 2 (zB []) (zB []) (zB []) (zB []) fd89 as89 rs89 nf (x0,())
theorem fdok89:FDOk Tryz.prog (hasN []) (hasN []) 89 fd89:=fdk Tryz.func89 Tryz.ntmps89 Tryz.results89
end
section
open Go.Al Go.Den Go.RowKit Go.Shelf
attribute [local go_sem] Oper.semAt_some
set_option maxRecDepth 100000 in
set_option maxHeartbeats 2000000 in
theorem zQ7 (m n:Nat) (hn:n<=1) (p:Option Addr) (cap:Nat) (k:Int) (w:World):CallsIn Fence.wide m Tryz.prog 110 #[.int .u64 (n:Int)] w fun e w'=>(∃ k:Int,e = .returned (.int .i64 k))/\w' = w:=by
 have hF:∀ f,Fence.wide.fn f:=fun _=>trivial;have hdd:∀ k:Nat,(Fence.wide.depth.isSome=true->1<=k):=fun k h=>by cases h
 have:n=0\/n=1:=by omega
 rcases this with rfl | rfl
 all_goals
  refine callsIn_of_wp Tryz.func110 rfl trivial ?_ rfl;simp only [Tryz.ntmps110,List.size_toArray,List.length_cons,List.length_nil,Nat.reduceAdd,Nat.reduceSub,Array.replicate_succ,Array.replicate_zero,List.push_toArray,List.append_toArray,List.nil_append,List.cons_append];gi_wp2;go_ret;exact ⟨⟨_,rfl⟩,rfl⟩
set_option maxRecDepth 100000 in
set_option maxHeartbeats 2000000 in
theorem len_in (m n:Nat) (hn:n<=1) (p:Option Addr) (cap:Nat) (k:Int) (w:World):CallsIn Fence.wide m Tryz.prog 95 #[.int .u64 (n:Int)] w fun e w'=>(∃ k:Int,e = .returned (.int .i64 k))/\w' = w:=by
 have hF:∀ f,Fence.wide.fn f:=fun _=>trivial;have hdd:∀ k:Nat,(Fence.wide.depth.isSome=true->1<=k):=fun k h=>by cases h
 have:n=0\/n=1:=by omega
 rcases this with rfl | rfl
 all_goals
  refine callsIn_of_wp Tryz.func95 rfl trivial ?_ rfl;simp only [Tryz.ntmps95,List.size_toArray,List.length_cons,List.length_nil,Nat.reduceAdd,Nat.reduceSub,Array.replicate_succ,Array.replicate_zero,List.push_toArray,List.append_toArray,List.nil_append,List.cons_append]
  gi_wp2_with ((try refine ⟨hdd _,?_⟩); gi_at_call 110; refine (zQ7 _ _ (by omega) p cap k _).mono ?_; rintro e w' ⟨⟨k',rfl⟩,rfl⟩)
  go_ret;exact ⟨⟨_,rfl⟩,rfl⟩
set_option maxRecDepth 100000 in
set_option maxHeartbeats 2000000 in
theorem ins_in (m n:Nat) (hn:n<=1) (p:Option Addr) (cap:Nat) (k:Int) (w:World):CallsIn Fence.wide m Tryz.prog 100 #[.slice p n cap,.int .i64 0,.int .i64 (n:Int)] w fun e w'=>e = .returned (.tuple #[])/\w' = w:=by
 have hF:∀ f,Fence.wide.fn f:=fun _=>trivial;have hdd:∀ k:Nat,(Fence.wide.depth.isSome=true->1<=k):=fun k h=>by cases h
 have:n=0\/n=1:=by omega
 rcases this with rfl | rfl
 all_goals
  refine callsIn_of_wp Tryz.func100 rfl trivial ?_ rfl;simp only [Tryz.ntmps100,List.size_toArray,List.length_cons,List.length_nil,Nat.reduceAdd,Nat.reduceSub,Array.replicate_succ,Array.replicate_zero,List.push_toArray,List.append_toArray,List.nil_append,List.cons_append];gi_wp2;refine wpIn_loop_rounds 1 ?_;rw [roundsIn_succ];gi_wp2;go_end0;exact ⟨rfl,rfl⟩
set_option maxRecDepth 100000 in
set_option maxHeartbeats 2000000 in
theorem pdq_in (m n:Nat) (hn:n<=1) (p:Option Addr) (cap:Nat) (k:Int) (w:World):CallsIn Fence.wide m Tryz.prog 94 #[.slice p n cap,.int .i64 0,.int .i64 (n:Int),.int .i64 k] w fun e w'=>e = .returned (.tuple #[])/\w' = w:=by
 have hF:∀ f,Fence.wide.fn f:=fun _=>trivial;have hdd:∀ k:Nat,(Fence.wide.depth.isSome=true->1<=k):=fun k h=>by cases h
 have:n=0\/n=1:=by omega
 rcases this with rfl | rfl
 all_goals
  refine callsIn_of_wp Tryz.func94 rfl trivial ?_ rfl;simp only [Tryz.ntmps94,List.size_toArray,List.length_cons,List.length_nil,Nat.reduceAdd,Nat.reduceSub,Array.replicate_succ,Array.replicate_zero,List.push_toArray,List.append_toArray,List.nil_append,List.cons_append];gi_wp2;refine wpIn_loop_rounds 1 ?_;rw [roundsIn_succ]
  gi_wp2_with ((try refine ⟨hdd _,?_⟩); gi_at_call 100; refine (ins_in _ _ (by omega) p cap k _).mono ?_; rintro e w' ⟨rfl,rfl⟩)
  (try simp only [Exit.inBlock,Exit.then]); refine bodyPost_ret (results_none rfl _ _ _) rfl ?_
  exact ⟨rfl,rfl⟩
set_option maxRecDepth 100000 in
set_option maxHeartbeats 2000000 in
theorem zS7 (m n:Nat) (hn:n<=1) (p:Option Addr) (cap:Nat) (k:Int) (w:World):CallsIn Fence.wide m Tryz.prog 88 #[.slice p n cap] w fun e w'=>e = .returned (.tuple #[])/\w' = w:=by
 have hF:∀ f,Fence.wide.fn f:=fun _=>trivial;have hdd:∀ k:Nat,(Fence.wide.depth.isSome=true->1<=k):=fun k h=>by cases h
 have:n=0\/n=1:=by omega
 rcases this with rfl | rfl
 all_goals
  refine callsIn_of_wp Tryz.func88 rfl trivial ?_ rfl;simp only [Tryz.ntmps88,List.size_toArray,List.length_cons,List.length_nil,Nat.reduceAdd,Nat.reduceSub,Array.replicate_succ,Array.replicate_zero,List.push_toArray,List.append_toArray,List.nil_append,List.cons_append]
  gi_wp2_with (first
   | ((try refine ⟨hdd _,?_⟩); gi_at_call 95; refine (len_in _ _ (by omega) p cap k _).mono ?_; rintro e w' ⟨⟨k',rfl⟩,rfl⟩)
   | ((try refine ⟨hdd _,?_⟩); gi_at_call 94; refine (pdq_in _ _ (by omega) p cap k' _).mono ?_; rintro e w' ⟨rfl,rfl⟩))
  go_end0;exact ⟨rfl,rfl⟩
def c88 (x:List Str×Unit):Option Unit:=if x.1.length<=1 then some () else none
theorem ok88:ConOk CC Tryz.prog 88 ⟨as88,rs88,c88⟩:=fun x y hx vs hvs=>by
 obtain ⟨l,u⟩:=x;change List Str at l;by_cases h:l.length<=1
 . obtain ⟨v,vs',rfl,hv,hvs⟩:=hvs;replace hvs:vs' = []:=hvs;subst hvs;have hv:∃ tg,v = .lst tg (l.map (CC.encV TI.str)):=by
    obtain ⟨n,hn⟩:=hv;exact ⟨_,hn⟩
   obtain ⟨tg,rfl⟩:=hv;intro wm w us hwm hgl hu;cases hu with
   | cons hu1 hu2=>
    cases hu2;have hsl:∃ p cap,(‹Value›:Value) = .slice p l.length cap:=by
     obtain ⟨us',h1,h2⟩:=hu1;simp only [RC] at h1;rcases h1 with ⟨h1,h3,_⟩ | ⟨b,o,cap,us2,h1,_⟩
     . have:l=[]:=List.map_eq_nil_iff.1 h1;subst this;subst h3;exact ⟨_,_,h2⟩
     . subst h1;have hl:(List.map (CC.encV TI.str) l).length=l.length:=List.length_map ..;exact ⟨some ⟨b,o,none⟩,cap,h2.trans (congrArg (fun n=>Value.slice (some ⟨b,o,none⟩) n cap) hl)⟩
    obtain ⟨p,cap,rfl⟩:=hsl;refine (callsIn_wide.1 (zS7 0 l.length h p cap 0 w)).mono ?_;rintro e w' ⟨rfl,rfl⟩;obtain ⟨q1,q2⟩:=qU hwm (Below.refl _ _);replace hx:(if l.length<=1 then some () else none)=some y:=hx;rw [if_pos h] at hx;injection hx with hx
    exact ⟨_,wm,rfl,q1,q2,[],.nil,rfl⟩
 . replace hx:(if l.length<=1 then some () else none)=some y:=hx;rw [if_neg h] at hx;cases hx
end
section
open Go.Al Go.Den Go.RowKit Go.Shelf
attribute [local go_sem] Oper.semAt_some
theorem info63:∃ i0 z,Tryz.prog.info? 63=some i0/\i0.zero=some z/\i0.bytes=24:=by
 have h:(match Tryz.prog.info? 63 with | some i=>(match i.zero with | some z=>i.bytes == 24 | none=>false) | none=>false)=true:=by kernel_rfl
 split at h
 . rename_i i0 h1;split at h
   . rename_i z h2;exact ⟨i0,z,h1,h2,by simpa using h⟩
   . cases h
 . cases h
set_option maxRecDepth 100000 in
set_option maxHeartbeats 2000000 in
theorem zLX (m:Nat) (pv u1 u2 u3 u4 u5:Value) (w:World) :
 CallsIn Fence.wide m Tryz.prog 72 #[pv,.agg #[u1,u2,u3,u4,u5],.slice none 0 0] w fun e w'=>(∃ b,e = .returned (.tuple #[.slice (some ⟨b,0,none⟩) 0 0,.int .i64 0]))/\Below w.heap.size w w':=by
 have hF:∀ f,Fence.wide.fn f:=fun _=>trivial;have hdd:∀ k:Nat,(Fence.wide.depth.isSome=true->1<=k):=fun k h=>by cases h
 obtain ⟨i0,z,i1,i2,i3⟩:=info63;obtain ⟨W1,hmk,hown,hg1⟩:=run_make_full (P:=Tryz.prog) (w.alloc (.cells #[u1,u2,u3,u4,u5] 32)) w.heap.size 105 63 i0 z i0.size Tryz.underlying105 i1 i2 rfl .i64 .i64 0 (by omega) (by simp only [maxLen]; omega) (by simp);replace hmk:(Instr.makeSlice 105 (.int .i64 0) (.int .i64 0)).run Tryz.prog (w.alloc (.cells #[u1,u2,u3,u4,u5] 32)) = .ok (.slice (some ⟨(w.alloc (.cells #[u1,u2,u3,u4,u5] 32)).heap.size,0,none⟩) 0 0) W1:=hmk;have hb:Below w.heap.size w W1:=((Below.refl _ w).alloc (Nat.le_refl _) _).grown hg1 (by simp) (fun k e=>by cases e);generalize (w.alloc (.cells #[u1,u2,u3,u4,u5] 32)).heap.size=q at hmk;clear hown hg1;refine callsIn_of_wp Tryz.func72 rfl trivial ?_ rfl;simp only [Tryz.ntmps72,List.size_toArray,List.length_cons,List.length_nil,Nat.reduceAdd,Nat.reduceSub,Array.replicate_succ,Array.replicate_zero,List.push_toArray,List.append_toArray,List.nil_append,List.cons_append];gi_wp2;refine wpIn_loop_rounds 1 ?_;rw [roundsIn_succ];gi_wp2
 go_ret2
 exact ⟨⟨_,rfl⟩,hb⟩
def c72 (a:MacT×List (Bool×List TkT)×Unit) (ms:MapM) (n:Int):Option (((Bool×List (Bool×List TkT))×Int×Unit)×MapM×Int):=if a.2.1.isEmpty then some (((false,[]),0,()),ms,n) else none
theorem ok72:CPOk CC Tryz.prog syn 72 (cW ([.st TI.mac,.dl TI.tkl]:LK) ([.bl TI.tkl,.int .i64]:LK) c72):=by
 intro x a R pan K r hr;obtain ⟨⟨ms,n,u⟩,u'⟩:=x;obtain ⟨m,l,u2⟩:=a;change List (Bool×List TkT) at l;replace hr:Option.bind (c72 (m,l,u2) ms n) (fun y=>K ((y.2.1,y.2.2,()),()) y.1)=some r:=hr;unfold c72 at hr;by_cases h:l.isEmpty=true
 . have:l=[]:=by simpa using h
   subst this;rw [if_pos h] at hr;refine ⟨some (((ms,n,()),()),((false,[]),(0:Int),())),hr,fun s vx va r1 r2 hv1 hv2 hn=>?_⟩;have hk:=xQ ([woK]:LK) (((ms,n,u),u'):zA ([woK]:LK)) hv1 ((zAV s (r1++r2)).mono fun y hy=>List.mem_append_left _ hy);have hn1:=(List.nodup_append.1 hn).1;generalize subS s (r1++r2)=s0 at hk ⊢;obtain ⟨v1,w1,p1,p2,rfl,rfl,⟨b0,cs,p3,rfl,_⟩,rfl,rfl⟩:∃ v1 w1 p1 p2,vx=v1::w1/\r1=p1++p2/\(∃ b0 cs p3,v1 = .at (.pointer (some ⟨b0,0,none⟩))/\Al.look s.box b0=some (cs,cs.length))/\w1=[]/\p2=[]:=by
    simp only [VKs,VK] at hv1;obtain ⟨v1,w1,p1,p2,h1,h2,⟨b,vs,rs',h3,h4,_⟩,h5,h6⟩:=hv1;exact ⟨v1,w1,p1,p2,h1,h2,⟨b,vs,(),h3,h4⟩,h5,h6⟩
   obtain ⟨v2,w2,q1,q2,rfl,rfl,⟨rfl,rfl⟩,v3,w3,q3,q4,rfl,rfl,⟨rfl,rfl⟩,rfl,rfl⟩:∃ v w p q,va=v::w/\r2=p++q/\(v=CC.encV TI.mac m/\p=[])/\∃ v' w' p' q',w=v' :: w'/\q=p' ++ q'/\(v' = .lst .nil []/\p' = [])/\w' = []/\q' = []:=by
    simp only [VKs,VK] at hv2;exact hv2
   intro B g w us hinv hgl hu;cases hu with
   | cons hu1 hu2=>
    cases hu2 with
    | cons hu2 hu3=>
     cases hu3 with
     | cons hu3 hu4=>
      cases hu4;have e1:=zQ hu1;have e3:=zC0 hu3;subst e1 e3;obtain ⟨us',h1,rfl⟩:=zBU (fs:=[.at (.string ⟨List.toArray (MacT.name m)⟩),.at (.bool (MacT.func m)),.lst (zg ((MacT.params m).map zAb)) ((MacT.params m).map zAb),.at (.bool (MacT.variadic m)),.lst (if (MacT.body m).1 then .nil else .no) ((MacT.body m).2.map qo)]) hu2;have hl:us'.length=5:=zb _ _ _ _ h1
      match us',hl with
      | [u1,u2,u3,u4,u5],_=>
       refine (callsIn_wide.1 (zLX 0 _ u1 u2 u3 u4 u5 w)).mono ?_;rintro e w' ⟨⟨b,rfl⟩,hb⟩;have hla:Later g w g w':=⟨fun _=>Nat.le_refl _,fun _ _ h=>h,fun b o ho=>by
        have hb2:b < w.heap.size:=by
         rcases Nat.lt_or_ge b w.heap.size with h | h
         . exact h
         . rw [hinv.fresh b h] at ho; omega
        exact World.cell?_of_block (hb.block b hb2)⟩
       refine ⟨g,s0,⟨hla,hb.mono hinv.base,fun b h=>⟨?_,rfl⟩,fun _ _=>rfl,rfl⟩,hinv.grow hla hb.size (fun b h=>hb.block b h) (fun _ _=>rfl) (fun b h=>hinv.fresh b (Nat.le_trans hb.size h)) rfl rfl,.tup [.lst .no [],.at (.int .i64 0)],?_,?_⟩
       . exact hb.block b (hinv.ex.frz b h).1
       . exact ⟨_,.cons (yR (by
          simp only [RC];refine .inr ⟨b,0,0,[],rfl,Nat.le_refl _,trivial,by simp [RCs],⟨0,?_,?_⟩,?_⟩
          . intro x hx; cases hx
          . intro t nb s e; cases e
          . intro k u hk; simp at hk)) (.cons (RV_at_mk rfl) .nil),rfl⟩
       . refine ⟨[.lst .no [],.at (.int .i64 0)],_,[],hk,?_,?_,rfl⟩
         . simp only [VKs,VK];exact ⟨_,_,[],[],rfl,rfl,⟨rfl,rfl⟩,_,_,[],[],rfl,rfl,⟨rfl,rfl⟩,rfl,rfl⟩
         . simpa using hn1
 . rw [if_neg h] at hr;cases hr
end
section
open Go.Al Go.Den
def sh22 (fu:Nat) (nf:Nat->Bool) (x0:LT):(Option ((List TkT)×Unit)):=iter fu (fun (rec1:(((List TkT)×(Bool×(Int×Unit)))×Unit)->Option ((List TkT)×Unit)) (s1:(((List TkT)×(Bool×(Int×Unit)))×Unit))=>cond (ilt s1.1.2.2.1 (lenI x0)) (cond (inB s1.1.2.2.1 (List.length x0)) (cond (ieq (TokT.kind (List.getD x0 (Int.toNat s1.1.2.2.1) tokD)) 7) (rec1 ((s1.1.1,(true,((iadd .i64 s1.1.2.2.1 1),()))),())) (cond (TokT.blank (List.getD x0 (Int.toNat s1.1.2.2.1) tokD)) (cond (okN 88 ((List.length s1.1.1)+(List.length [(TkT.mk (TokT.kind (List.getD x0 (Int.toNat s1.1.2.2.1) tokD)) (TokT.text (List.getD x0 (Int.toNat s1.1.2.2.1) tokD)) (TokT.file (List.getD x0 (Int.toNat s1.1.2.2.1) tokD)) (TokT.ffrom (List.getD x0 (Int.toNat s1.1.2.2.1) tokD)) (TokT.fto (List.getD x0 (Int.toNat s1.1.2.2.1) tokD)) true [] false false)]))) (rec1 (((s1.1.1++[(TkT.mk (TokT.kind (List.getD x0 (Int.toNat s1.1.2.2.1) tokD)) (TokT.text (List.getD x0 (Int.toNat s1.1.2.2.1) tokD)) (TokT.file (List.getD x0 (Int.toNat s1.1.2.2.1) tokD)) (TokT.ffrom (List.getD x0 (Int.toNat s1.1.2.2.1) tokD)) (TokT.fto (List.getD x0 (Int.toNat s1.1.2.2.1) tokD)) true [] false false)]),(false,((iadd .i64 s1.1.2.2.1 1),()))),())) (none)) (cond (okN 88 ((List.length s1.1.1)+(List.length [(TkT.mk (TokT.kind (List.getD x0 (Int.toNat s1.1.2.2.1) tokD)) (TokT.text (List.getD x0 (Int.toNat s1.1.2.2.1) tokD)) (TokT.file (List.getD x0 (Int.toNat s1.1.2.2.1) tokD)) (TokT.ffrom (List.getD x0 (Int.toNat s1.1.2.2.1) tokD)) (TokT.fto (List.getD x0 (Int.toNat s1.1.2.2.1) tokD)) s1.1.2.1 [] false false)]))) (rec1 (((s1.1.1++[(TkT.mk (TokT.kind (List.getD x0 (Int.toNat s1.1.2.2.1) tokD)) (TokT.text (List.getD x0 (Int.toNat s1.1.2.2.1) tokD)) (TokT.file (List.getD x0 (Int.toNat s1.1.2.2.1) tokD)) (TokT.ffrom (List.getD x0 (Int.toNat s1.1.2.2.1) tokD)) (TokT.fto (List.getD x0 (Int.toNat s1.1.2.2.1) tokD)) s1.1.2.1 [] false false)]),(false,((iadd .i64 s1.1.2.2.1 1),()))),())) (none)))) (none)) (some (s1.1.1,()))) (([],(false,(0,()))),())
theorem eq22:@run22 = @sh22:=by kernel_rfl
def sh23 (fu:Nat) (nf:Nat->Bool) (x0:(List TkT)):(Option (LT×Unit)):=iter fu (fun (rec1:((LT×(Int×Unit))×Unit)->Option (LT×Unit)) (s1:((LT×(Int×Unit))×Unit))=>cond (ilt s1.1.2.1 (lenI x0)) (cond (inB s1.1.2.1 (List.length x0)) (cond (okN 56 ((List.length s1.1.1)+(List.length [(TokT.mk (TkT.kind (List.getD x0 (Int.toNat s1.1.2.1) tkD)) (TkT.text (List.getD x0 (Int.toNat s1.1.2.1) tkD)) (TkT.file (List.getD x0 (Int.toNat s1.1.2.1) tkD)) (TkT.ffrom (List.getD x0 (Int.toNat s1.1.2.1) tkD)) (TkT.fto (List.getD x0 (Int.toNat s1.1.2.1) tkD)) (TkT.blank (List.getD x0 (Int.toNat s1.1.2.1) tkD)))]))) (rec1 (((s1.1.1++[(TokT.mk (TkT.kind (List.getD x0 (Int.toNat s1.1.2.1) tkD)) (TkT.text (List.getD x0 (Int.toNat s1.1.2.1) tkD)) (TkT.file (List.getD x0 (Int.toNat s1.1.2.1) tkD)) (TkT.ffrom (List.getD x0 (Int.toNat s1.1.2.1) tkD)) (TkT.fto (List.getD x0 (Int.toNat s1.1.2.1) tkD)) (TkT.blank (List.getD x0 (Int.toNat s1.1.2.1) tkD)))]),((iadd .i64 s1.1.2.1 1),())),())) (none)) (none)) (some (s1.1.1,()))) (([],(0,())),())
theorem eq23:@run23 = @sh23:=by kernel_rfl
def sh44 (fu:Nat) (nf:Nat->Bool) (x0:TkT) (x1:Str):(Option (Bool×Unit)):=iter fu (fun (rec1:((Int×Unit)×Unit)->Option (Bool×Unit)) (s1:((Int×Unit)×Unit))=>cond (ilt s1.1.1 (lenI (TkT.hide x0))) (cond (inB s1.1.1 (List.length (TkT.hide x0))) (cond (seq x1 (List.getD (TkT.hide x0) (Int.toNat s1.1.1) [])) (some ((ile 0 s1.1.1),())) (rec1 (((iadd .i64 s1.1.1 1),()),()))) (none)) (some ((ile 0 (Neg.neg 1)),()))) ((0,()),())
theorem eq44:@run44 = @sh44:=by kernel_rfl
def sh45 (fu:Nat) (nf:Nat->Bool) (x0:TkT) (x1:Str):(Option (Bool×Unit)):=cond (!(TkT.mark x0)) (cond (ieq (TkT.kind x0) 5) (some ((seq (TkT.text x0) x1),())) (some (false,()))) (some (false,()))
theorem eq45:@run45 = @sh45:=by kernel_rfl
def sh80 (fu:Nat) (nf:Nat->Bool) (x0:MacT) (x1:Int):(Option (Int×Unit)):=cond (ilt x1 0) (some ((Neg.neg 1),())) (cond (ile (lenI (MacT.body x0).2) x1) (some ((Neg.neg 1),())) (cond (inB x1 (List.length (MacT.body x0).2)) (cond (ine (TokT.kind (List.getD (MacT.body x0).2 (Int.toNat x1) tokD)) 1) (some ((Neg.neg 1),())) (cond (!(MacT.func x0)) (some ((Neg.neg 1),())) (cond (inB x1 (List.length (MacT.body x0).2)) (none) (none)))) (none)))
theorem eq80:@run80 = @sh80:=by kernel_rfl
def sh82 (fu:Nat) (c80:(MacT×(Int×Unit))->(Option (Int×Unit))) (nf:Nat->Bool) (x0:MacT) (x1:Int):(Option (Bool×Unit)):=cond (MacT.func x0) (cond (ile 0 x1) (cond (inB x1 (List.length (MacT.body x0).2)) (cond (ieq (TokT.kind (List.getD (MacT.body x0).2 (Int.toNat x1) tokD)) 5) (cond (inB x1 (List.length (MacT.body x0).2)) (cond (seq (TokT.text (List.getD (MacT.body x0).2 (Int.toNat x1) tokD)) [35]) (Option.bind (c80 (x0,((iadd .i64 x1 1),()))) fun y0=>some ((ile 0 y0.1),())) (some (false,()))) (none)) (some (false,()))) (none)) (some (false,()))) (some (false,()))
theorem eq82:@run82 = @sh82:=by kernel_rfl
theorem con22 (fu:Nat) :ConOk CC Tryz.prog 22 ⟨as22,rs22,fun x=>sh22 fu (fun _=>false) x.1⟩:=
 rfk zC zC zC zC fdok22 rfl (zu rfl) (fun nf x=>by show run22 fu nf x.1=_; rw [eq22]; rfl)
theorem con23 (fu:Nat) :ConOk CC Tryz.prog 23 ⟨as23,rs23,fun x=>sh23 fu (fun _=>false) x.1⟩:=
 rfk zC zC zC zC fdok23 rfl (zu rfl) (fun nf x=>by show run23 fu nf x.1=_; rw [eq23]; rfl)
theorem con44 (fu:Nat) :ConOk CC Tryz.prog 44 ⟨as44,rs44,fun x=>sh44 fu (fun _=>false) x.1 x.2.1⟩:=
 rfk (lo:=[]) (lr:=[]) (zH zPH (zH zOa zC)) zC zC zC fdok44 rfl (zu rfl) (fun nf x=>by show run44 fu nf x.1 x.2.1=_; rw [eq44]; rfl)
theorem con45 (fu:Nat) :ConOk CC Tryz.prog 45 ⟨as45,rs45,fun x=>sh45 fu (fun _=>false) x.1 x.2.1⟩:=
 rfk zC zC zC zC fdok45 rfl (zu rfl) (fun nf x=>by show run45 fu nf x.1 x.2.1=_; rw [eq45]; rfl)
theorem con80 (fu:Nat) :ConOk CC Tryz.prog 80 ⟨as80,rs80,fun x=>sh80 fu (fun _=>false) x.1 x.2.1⟩:=
 rfk zC (zH (OrcOk.of ⟨code51,zAv⟩ rfl) zC) zC zC fdok80 rfl (zu rfl) (fun nf x=>by show run80 fu nf x.1 x.2.1=_; rw [eq80]; rfl)
theorem con82 (fu:Nat) (c80:zK as80->Option (zK rs80)) (h80:ConOk CC Tryz.prog 80 ⟨as80,rs80,c80⟩):ConOk CC Tryz.prog 82 ⟨as82,rs82,fun x=>sh82 fu c80 (fun _=>false) x.1 x.2.1⟩:=
 rfk zC (zH (OrcOk.of ⟨zPY,h80⟩ rfl) zC) zC zC fdok82 rfl (zu rfl) (fun nf x=>by show run82 fu c80 nf x.1 x.2.1=_; rw [eq82]; rfl)
end
section
open Go.Al Go.Den
def sh74 (fu:Nat) (c23:((List TkT)×Unit)->(Option (LT×Unit))) (c80:(MacT×(Int×Unit))->(Option (Int×Unit))) (c82:(MacT×(Int×Unit))->(Option (Bool×Unit))) (nf:Nat->Bool) (x0:MacT) (x1:(List (Bool×(List TkT)))) (x2:(List (Bool×(List TkT)))):(Option ((List TkT)×Unit)):=iter fu (fun (rec1:(((List TkT)×(Int×Unit))×((Str×(Bool×((List Str)×(Bool×((Bool×LT)×Unit)))))×Unit))->Option ((List TkT)×Unit)) (s1:(((List TkT)×(Int×Unit))×((Str×(Bool×((List Str)×(Bool×((Bool×LT)×Unit)))))×Unit)))=>cond (ilt s1.1.2.1 (lenI s1.2.1.2.2.2.2.1.2)) (cond (inB s1.1.2.1 (List.length s1.2.1.2.2.2.2.1.2)) (Option.bind (c80 ((MacT.mk s1.2.1.1 s1.2.1.2.1 s1.2.1.2.2.1 s1.2.1.2.2.2.1 (s1.2.1.2.2.2.2.1.1,s1.2.1.2.2.2.2.1.2)),(s1.1.2.1,()))) fun y0=>Option.bind (c82 ((MacT.mk s1.2.1.1 s1.2.1.2.1 s1.2.1.2.2.1 s1.2.1.2.2.2.1 (s1.2.1.2.2.2.2.1.1,s1.2.1.2.2.2.2.1.2)),(s1.1.2.1,()))) fun y1=>cond y1.1 (Option.bind (c80 ((MacT.mk s1.2.1.1 s1.2.1.2.1 s1.2.1.2.2.1 s1.2.1.2.2.2.1 (s1.2.1.2.2.2.2.1.1,s1.2.1.2.2.2.2.1.2)),((iadd .i64 s1.1.2.1 1),()))) fun y2=>cond (inB y2.1 (List.length x1)) (Option.bind (c23 ((List.getD x1 (Int.toNat y2.1) (true,[])).2,())) fun y3=>none) (none)) (cond (ieq (TokT.kind (List.getD s1.2.1.2.2.2.2.1.2 (Int.toNat s1.1.2.1) tokD)) 5) (cond (seq (TokT.text (List.getD s1.2.1.2.2.2.2.1.2 (Int.toNat s1.1.2.1) tokD)) [35,35]) (cond (okN 88 ((List.length s1.1.1)+(List.length [(TkT.mk (TokT.kind (List.getD s1.2.1.2.2.2.2.1.2 (Int.toNat s1.1.2.1) tokD)) (TokT.text (List.getD s1.2.1.2.2.2.2.1.2 (Int.toNat s1.1.2.1) tokD)) (TokT.file (List.getD s1.2.1.2.2.2.2.1.2 (Int.toNat s1.1.2.1) tokD)) (TokT.ffrom (List.getD s1.2.1.2.2.2.2.1.2 (Int.toNat s1.1.2.1) tokD)) (TokT.fto (List.getD s1.2.1.2.2.2.2.1.2 (Int.toNat s1.1.2.1) tokD)) (TokT.blank (List.getD s1.2.1.2.2.2.2.1.2 (Int.toNat s1.1.2.1) tokD)) [] false true)]))) (rec1 (((s1.1.1++[(TkT.mk (TokT.kind (List.getD s1.2.1.2.2.2.2.1.2 (Int.toNat s1.1.2.1) tokD)) (TokT.text (List.getD s1.2.1.2.2.2.2.1.2 (Int.toNat s1.1.2.1) tokD)) (TokT.file (List.getD s1.2.1.2.2.2.2.1.2 (Int.toNat s1.1.2.1) tokD)) (TokT.ffrom (List.getD s1.2.1.2.2.2.2.1.2 (Int.toNat s1.1.2.1) tokD)) (TokT.fto (List.getD s1.2.1.2.2.2.2.1.2 (Int.toNat s1.1.2.1) tokD)) (TokT.blank (List.getD s1.2.1.2.2.2.2.1.2 (Int.toNat s1.1.2.1) tokD)) [] false true)]),((iadd .i64 s1.1.2.1 1),())),((s1.2.1.1,(s1.2.1.2.1,(s1.2.1.2.2.1,(s1.2.1.2.2.2.1,((s1.2.1.2.2.2.2.1.1,s1.2.1.2.2.2.2.1.2),()))))),()))) (none)) (cond (ile 0 y0.1) (none) (cond (ile 0 y0.1) (none) (cond (ile 0 y0.1) (cond (inB y0.1 (List.length x2)) (none) (none)) (cond (okN 88 ((List.length s1.1.1)+(List.length [(TkT.mk (TokT.kind (List.getD s1.2.1.2.2.2.2.1.2 (Int.toNat s1.1.2.1) tokD)) (TokT.text (List.getD s1.2.1.2.2.2.2.1.2 (Int.toNat s1.1.2.1) tokD)) (TokT.file (List.getD s1.2.1.2.2.2.2.1.2 (Int.toNat s1.1.2.1) tokD)) (TokT.ffrom (List.getD s1.2.1.2.2.2.2.1.2 (Int.toNat s1.1.2.1) tokD)) (TokT.fto (List.getD s1.2.1.2.2.2.2.1.2 (Int.toNat s1.1.2.1) tokD)) (TokT.blank (List.getD s1.2.1.2.2.2.2.1.2 (Int.toNat s1.1.2.1) tokD)) [] false false)]))) (rec1 (((s1.1.1++[(TkT.mk (TokT.kind (List.getD s1.2.1.2.2.2.2.1.2 (Int.toNat s1.1.2.1) tokD)) (TokT.text (List.getD s1.2.1.2.2.2.2.1.2 (Int.toNat s1.1.2.1) tokD)) (TokT.file (List.getD s1.2.1.2.2.2.2.1.2 (Int.toNat s1.1.2.1) tokD)) (TokT.ffrom (List.getD s1.2.1.2.2.2.2.1.2 (Int.toNat s1.1.2.1) tokD)) (TokT.fto (List.getD s1.2.1.2.2.2.2.1.2 (Int.toNat s1.1.2.1) tokD)) (TokT.blank (List.getD s1.2.1.2.2.2.2.1.2 (Int.toNat s1.1.2.1) tokD)) [] false false)]),((iadd .i64 s1.1.2.1 1),())),((s1.2.1.1,(s1.2.1.2.1,(s1.2.1.2.2.1,(s1.2.1.2.2.2.1,((s1.2.1.2.2.2.2.1.1,s1.2.1.2.2.2.2.1.2),()))))),()))) (none)))))) (cond (ile 0 y0.1) (none) (cond (ile 0 y0.1) (none) (cond (ile 0 y0.1) (cond (inB y0.1 (List.length x2)) (none) (none)) (cond (okN 88 ((List.length s1.1.1)+(List.length [(TkT.mk (TokT.kind (List.getD s1.2.1.2.2.2.2.1.2 (Int.toNat s1.1.2.1) tokD)) (TokT.text (List.getD s1.2.1.2.2.2.2.1.2 (Int.toNat s1.1.2.1) tokD)) (TokT.file (List.getD s1.2.1.2.2.2.2.1.2 (Int.toNat s1.1.2.1) tokD)) (TokT.ffrom (List.getD s1.2.1.2.2.2.2.1.2 (Int.toNat s1.1.2.1) tokD)) (TokT.fto (List.getD s1.2.1.2.2.2.2.1.2 (Int.toNat s1.1.2.1) tokD)) (TokT.blank (List.getD s1.2.1.2.2.2.2.1.2 (Int.toNat s1.1.2.1) tokD)) [] false false)]))) (rec1 (((s1.1.1++[(TkT.mk (TokT.kind (List.getD s1.2.1.2.2.2.2.1.2 (Int.toNat s1.1.2.1) tokD)) (TokT.text (List.getD s1.2.1.2.2.2.2.1.2 (Int.toNat s1.1.2.1) tokD)) (TokT.file (List.getD s1.2.1.2.2.2.2.1.2 (Int.toNat s1.1.2.1) tokD)) (TokT.ffrom (List.getD s1.2.1.2.2.2.2.1.2 (Int.toNat s1.1.2.1) tokD)) (TokT.fto (List.getD s1.2.1.2.2.2.2.1.2 (Int.toNat s1.1.2.1) tokD)) (TokT.blank (List.getD s1.2.1.2.2.2.2.1.2 (Int.toNat s1.1.2.1) tokD)) [] false false)]),((iadd .i64 s1.1.2.1 1),())),((s1.2.1.1,(s1.2.1.2.1,(s1.2.1.2.2.1,(s1.2.1.2.2.2.1,((s1.2.1.2.2.2.2.1.1,s1.2.1.2.2.2.2.1.2),()))))),()))) (none))))))) (none)) (some (s1.1.1,()))) (([],(0,())),(((MacT.name x0),((MacT.func x0),((MacT.params x0),((MacT.variadic x0),(((MacT.body x0).1,(MacT.body x0).2),()))))),()))
theorem eq74:@run74 = @sh74:=by kernel_rfl
def sh73 (fu:Nat) (x:Unit) (a:((List TkT)×Unit)):(Option (Option (Unit×((Option (List TkT))×(Int×Unit))))):=iter fu (fun (rec1:(((Option (List TkT))×(Int×Unit))×Unit)->Option (Option (Unit×((Option (List TkT))×(Int×Unit))))) (s1:(((Option (List TkT))×(Int×Unit))×Unit))=>zd s1.1.1 (cond (ilt s1.1.2.1 (lenI a.1)) (cond (inB s1.1.2.1 (List.length a.1)) (cond (!(TkT.op (List.getD a.1 (Int.toNat s1.1.2.1) tkD))) (cond (inB s1.1.2.1 (List.length a.1)) (cond (okN 88 (List.length [(List.getD a.1 (Int.toNat s1.1.2.1) tkD)])) (cond (eqN (List.length [(List.getD a.1 (Int.toNat s1.1.2.1) tkD)]) (List.length (zF (List.length [(List.getD a.1 (Int.toNat s1.1.2.1) tkD)]) [(List.getD a.1 (Int.toNat s1.1.2.1) tkD)]))) (rec1 (((some (zF (List.length [(List.getD a.1 (Int.toNat s1.1.2.1) tkD)]) [(List.getD a.1 (Int.toNat s1.1.2.1) tkD)])),((iadd .i64 s1.1.2.1 1),())),())) (none)) (none)) (none)) (cond (ieq 0 0) (cond (inB s1.1.2.1 (List.length a.1)) (cond (okN 88 (List.length [(List.getD a.1 (Int.toNat s1.1.2.1) tkD)])) (cond (eqN (List.length [(List.getD a.1 (Int.toNat s1.1.2.1) tkD)]) (List.length (zF (List.length [(List.getD a.1 (Int.toNat s1.1.2.1) tkD)]) [(List.getD a.1 (Int.toNat s1.1.2.1) tkD)]))) (rec1 (((some (zF (List.length [(List.getD a.1 (Int.toNat s1.1.2.1) tkD)]) [(List.getD a.1 (Int.toNat s1.1.2.1) tkD)])),((iadd .i64 s1.1.2.1 1),())),())) (none)) (none)) (none)) (cond (ieq (iadd .i64 s1.1.2.1 1) (lenI a.1)) (cond (inB s1.1.2.1 (List.length a.1)) (cond (okN 88 (List.length [(List.getD a.1 (Int.toNat s1.1.2.1) tkD)])) (cond (eqN (List.length [(List.getD a.1 (Int.toNat s1.1.2.1) tkD)]) (List.length (zF (List.length [(List.getD a.1 (Int.toNat s1.1.2.1) tkD)]) [(List.getD a.1 (Int.toNat s1.1.2.1) tkD)]))) (rec1 (((some (zF (List.length [(List.getD a.1 (Int.toNat s1.1.2.1) tkD)]) [(List.getD a.1 (Int.toNat s1.1.2.1) tkD)])),((iadd .i64 s1.1.2.1 1),())),())) (none)) (none)) (none)) (none)))) (none)) (some (some ((),(none,(0,())))))) fun y0=>cond (ilt s1.1.2.1 (lenI a.1)) (cond (inB s1.1.2.1 (List.length a.1)) (cond (!(TkT.op (List.getD a.1 (Int.toNat s1.1.2.1) tkD))) (cond (inB s1.1.2.1 (List.length a.1)) (cond ((Nat.ble (List.length y0) (List.length y0)) && (okN 88 ((List.length y0)+(List.length [(List.getD a.1 (Int.toNat s1.1.2.1) tkD)])))) (cond (eqN ((List.length y0)+(List.length [(List.getD a.1 (Int.toNat s1.1.2.1) tkD)])) (List.length (zF ((List.length y0)+(List.length [(List.getD a.1 (Int.toNat s1.1.2.1) tkD)])) ((List.take (List.length y0) y0)++[(List.getD a.1 (Int.toNat s1.1.2.1) tkD)])))) (rec1 (((some (zF ((List.length y0)+(List.length [(List.getD a.1 (Int.toNat s1.1.2.1) tkD)])) ((List.take (List.length y0) y0)++[(List.getD a.1 (Int.toNat s1.1.2.1) tkD)]))),((iadd .i64 s1.1.2.1 1),())),())) (none)) (none)) (none)) (cond (ieq (Int.ofNat (List.length y0)) 0) (cond (inB s1.1.2.1 (List.length a.1)) (cond ((Nat.ble (List.length y0) (List.length y0)) && (okN 88 ((List.length y0)+(List.length [(List.getD a.1 (Int.toNat s1.1.2.1) tkD)])))) (cond (eqN ((List.length y0)+(List.length [(List.getD a.1 (Int.toNat s1.1.2.1) tkD)])) (List.length (zF ((List.length y0)+(List.length [(List.getD a.1 (Int.toNat s1.1.2.1) tkD)])) ((List.take (List.length y0) y0)++[(List.getD a.1 (Int.toNat s1.1.2.1) tkD)])))) (rec1 (((some (zF ((List.length y0)+(List.length [(List.getD a.1 (Int.toNat s1.1.2.1) tkD)])) ((List.take (List.length y0) y0)++[(List.getD a.1 (Int.toNat s1.1.2.1) tkD)]))),((iadd .i64 s1.1.2.1 1),())),())) (none)) (none)) (none)) (cond (ieq (iadd .i64 s1.1.2.1 1) (lenI a.1)) (cond (inB s1.1.2.1 (List.length a.1)) (cond ((Nat.ble (List.length y0) (List.length y0)) && (okN 88 ((List.length y0)+(List.length [(List.getD a.1 (Int.toNat s1.1.2.1) tkD)])))) (cond (eqN ((List.length y0)+(List.length [(List.getD a.1 (Int.toNat s1.1.2.1) tkD)])) (List.length (zF ((List.length y0)+(List.length [(List.getD a.1 (Int.toNat s1.1.2.1) tkD)])) ((List.take (List.length y0) y0)++[(List.getD a.1 (Int.toNat s1.1.2.1) tkD)])))) (rec1 (((some (zF ((List.length y0)+(List.length [(List.getD a.1 (Int.toNat s1.1.2.1) tkD)])) ((List.take (List.length y0) y0)++[(List.getD a.1 (Int.toNat s1.1.2.1) tkD)]))),((iadd .i64 s1.1.2.1 1),())),())) (none)) (none)) (none)) (cond (inB (isub .i64 (Int.ofNat (List.length y0)) 1) (List.length y0)) (cond (inB (iadd .i64 s1.1.2.1 1) (List.length a.1)) (cond (TkT.mark (List.getD a.1 (Int.toNat (iadd .i64 s1.1.2.1 1)) tkD)) (cond (eqN (List.length y0) (List.length (zF (List.length y0) y0))) (rec1 (((some (zF (List.length y0) y0)),((iadd .i64 (iadd .i64 s1.1.2.1 1) 1),())),())) (none)) (cond (Nat.blt (Int.toNat (isub .i64 (Int.ofNat (List.length y0)) 1)) (List.length y0)) (cond (TkT.mark (List.getD y0 (Int.toNat (isub .i64 (Int.ofNat (List.length y0)) 1)) tkD)) (cond (Nat.blt (Int.toNat (isub .i64 (Int.ofNat (List.length y0)) 1)) (List.length y0)) (cond (Nat.blt (Int.toNat (isub .i64 (Int.ofNat (List.length y0)) 1)) (List.length y0)) (cond (eqN (List.length y0) (List.length (zF (List.length y0) (List.set y0 (Int.toNat (isub .i64 (Int.ofNat (List.length y0)) 1)) (tkBl (List.getD a.1 (Int.toNat (iadd .i64 s1.1.2.1 1)) tkD) (TkT.blank (List.getD y0 (Int.toNat (isub .i64 (Int.ofNat (List.length y0)) 1)) tkD))))))) (rec1 (((some (zF (List.length y0) (List.set y0 (Int.toNat (isub .i64 (Int.ofNat (List.length y0)) 1)) (tkBl (List.getD a.1 (Int.toNat (iadd .i64 s1.1.2.1 1)) tkD) (TkT.blank (List.getD y0 (Int.toNat (isub .i64 (Int.ofNat (List.length y0)) 1)) tkD)))))),((iadd .i64 (iadd .i64 s1.1.2.1 1) 1),())),())) (none)) (none)) (none)) (cond (Nat.blt (Int.toNat (isub .i64 (Int.ofNat (List.length y0)) 1)) (List.length y0)) (none) (none))) (none))) (none)) (none))))) (none)) (cond (eqN (List.length y0) (List.length y0)) (some (some ((),((some y0),(0,()))))) (none))) ((none,(0,())),())
theorem eq73:@run73 = @sh73:=by kernel_rfl
def sh75 (fu:Nat) (x:Unit) (a:((Option (List TkT))×(Unit×Unit))):(Option (Option (Unit×((Option (List TkT))×Unit)))):=zd a.1 (iter fu (fun (rec1:((Int×Unit)×((Option (List TkT))×Unit))->Option (Option (Unit×((Option (List TkT))×Unit)))) (s1:((Int×Unit)×((Option (List TkT))×Unit)))=>zd s1.2.1 (cond (ilt s1.1.1 0) (none) (cond (ieq (Neg.neg 1) (Neg.neg 1)) (some (some ((),(none,())))) (iter fu (fun (rec2:((Int×(Int×Unit))×((Option (List TkT))×Unit))->Option (Option (Unit×((Option (List TkT))×Unit)))) (s2:((Int×(Int×Unit))×((Option (List TkT))×Unit)))=>zd s2.2.1 (cond (ilt s2.1.2.1 0) (none) (none)) fun y0=>none) (((Neg.neg 1),((iadd .i64 (Neg.neg 1) 1),())),(none,()))))) fun y0=>none) ((0,()),(none,()))) fun y0=>cond (eqN (List.length y0) (List.length (zF (List.length y0) y0))) (iter fu (fun (rec1:((Int×Unit)×((Option (List TkT))×Unit))->Option (Option (Unit×((Option (List TkT))×Unit)))) (s1:((Int×Unit)×((Option (List TkT))×Unit)))=>zd s1.2.1 (none) fun y1=>cond (ilt s1.1.1 (Int.ofNat (List.length y0))) (cond (inB s1.1.1 (List.length y0)) (cond (Nat.blt (Int.toNat s1.1.1) (List.length y1)) (cond (TkT.mark (List.getD y1 (Int.toNat s1.1.1) tkD)) (cond (ieq s1.1.1 (Neg.neg 1)) (cond (eqN (List.length y0) (List.length y1)) (some (some ((),((some y1),())))) (none)) (cond (eqN (List.length y0) (List.length (zF (List.length y0) y1))) (iter fu (fun (rec2:((Int×(Int×Unit))×((Option (List TkT))×Unit))->Option (Option (Unit×((Option (List TkT))×Unit)))) (s2:((Int×(Int×Unit))×((Option (List TkT))×Unit)))=>zd s2.2.1 (none) fun y2=>cond (ilt s2.1.2.1 (Int.ofNat (List.length y0))) (cond (inB s2.1.2.1 (List.length y0)) (cond (Nat.blt (Int.toNat s2.1.2.1) (List.length y2)) (cond (!(TkT.mark (List.getD y2 (Int.toNat s2.1.2.1) tkD))) (cond (inB s2.1.1 (List.length y0)) (cond (Nat.blt (Int.toNat s2.1.1) (List.length y2)) (cond (eqN (List.length y0) (List.length (zF (List.length y0) (List.set y2 (Int.toNat s2.1.1) (List.getD y2 (Int.toNat s2.1.2.1) tkD))))) (rec2 (((iadd .i64 s2.1.1 1),((iadd .i64 s2.1.2.1 1),())),((some (zF (List.length y0) (List.set y2 (Int.toNat s2.1.1) (List.getD y2 (Int.toNat s2.1.2.1) tkD)))),()))) (none)) (none)) (none)) (cond (eqN (List.length y0) (List.length (zF (List.length y0) y2))) (rec2 ((s2.1.1,((iadd .i64 s2.1.2.1 1),())),((some (zF (List.length y0) y2)),()))) (none))) (none)) (none)) (cond (inS s2.1.1 (Int.ofNat (List.length y0)) (List.length y2)) (cond (Nat.ble ((Int.toNat s2.1.1)+((Int.toNat (Int.ofNat (List.length y0))) - (Int.toNat s2.1.1))) (List.length y2)) (cond (Nat.beq ((Int.toNat (Int.ofNat (List.length y0))) - (Int.toNat s2.1.1)) 0) (cond (inS 0 s2.1.1 (List.length y2)) (cond (eqN (Int.toNat s2.1.1) (List.length y2)) (some (some ((),((some y2),())))) (none)) (none)) (cond (inS 0 s2.1.1 (List.length (zF (Int.toNat s2.1.1) y2))) (cond (eqN (Int.toNat s2.1.1) (List.length (zF (Int.toNat s2.1.1) y2))) (some (some ((),((some (zF (Int.toNat s2.1.1) y2)),())))) (none)) (none))) (none)) (none))) ((s1.1.1,((iadd .i64 s1.1.1 1),())),((some (zF (List.length y0) y1)),()))) (none))) (cond (eqN (List.length y0) (List.length (zF (List.length y0) y1))) (rec1 (((iadd .i64 s1.1.1 1),()),((some (zF (List.length y0) y1)),()))) (none))) (none)) (none)) (cond (ieq (Neg.neg 1) (Neg.neg 1)) (cond (eqN (List.length y0) (List.length y1)) (some (some ((),((some y1),())))) (none)) (cond (eqN (List.length y0) (List.length (zF (List.length y0) y1))) (iter fu (fun (rec2:((Int×(Int×Unit))×((Option (List TkT))×Unit))->Option (Option (Unit×((Option (List TkT))×Unit)))) (s2:((Int×(Int×Unit))×((Option (List TkT))×Unit)))=>zd s2.2.1 (none) fun y2=>cond (ilt s2.1.2.1 (Int.ofNat (List.length y0))) (cond (inB s2.1.2.1 (List.length y0)) (cond (Nat.blt (Int.toNat s2.1.2.1) (List.length y2)) (cond (!(TkT.mark (List.getD y2 (Int.toNat s2.1.2.1) tkD))) (cond (inB s2.1.1 (List.length y0)) (cond (Nat.blt (Int.toNat s2.1.1) (List.length y2)) (cond (eqN (List.length y0) (List.length (zF (List.length y0) (List.set y2 (Int.toNat s2.1.1) (List.getD y2 (Int.toNat s2.1.2.1) tkD))))) (rec2 (((iadd .i64 s2.1.1 1),((iadd .i64 s2.1.2.1 1),())),((some (zF (List.length y0) (List.set y2 (Int.toNat s2.1.1) (List.getD y2 (Int.toNat s2.1.2.1) tkD)))),()))) (none)) (none)) (none)) (cond (eqN (List.length y0) (List.length (zF (List.length y0) y2))) (rec2 ((s2.1.1,((iadd .i64 s2.1.2.1 1),())),((some (zF (List.length y0) y2)),()))) (none))) (none)) (none)) (cond (inS s2.1.1 (Int.ofNat (List.length y0)) (List.length y2)) (cond (Nat.ble ((Int.toNat s2.1.1)+((Int.toNat (Int.ofNat (List.length y0))) - (Int.toNat s2.1.1))) (List.length y2)) (cond (Nat.beq ((Int.toNat (Int.ofNat (List.length y0))) - (Int.toNat s2.1.1)) 0) (cond (inS 0 s2.1.1 (List.length y2)) (cond (eqN (Int.toNat s2.1.1) (List.length y2)) (some (some ((),((some y2),())))) (none)) (none)) (cond (inS 0 s2.1.1 (List.length (zF (Int.toNat s2.1.1) y2))) (cond (eqN (Int.toNat s2.1.1) (List.length (zF (Int.toNat s2.1.1) y2))) (some (some ((),((some (zF (Int.toNat s2.1.1) y2)),())))) (none)) (none))) (none)) (none))) (((Neg.neg 1),((iadd .i64 (Neg.neg 1) 1),())),((some (zF (List.length y0) y1)),()))) (none)))) ((0,()),((some (zF (List.length y0) y0)),()))) (none)
theorem eq75:@run75 = @sh75:=by kernel_rfl
def sh77 (fu:Nat) (c87:((List (Bool×(List Str)))×Unit)->(Option ((List Str)×Unit))) (c88:((List Str)×Unit)->(Option Unit)) (c89:((List Str)×Unit)->(Option ((List Str)×Unit))) (nf:Nat->Bool) (x0:(List Str)) (x1:(List Str)):(Option ((List Str)×Unit)):=Option.bind (c87 ([((List.isEmpty x0),x0),((List.isEmpty x1),x1)],())) fun y0=>Option.bind (c88 (y0.1,())) fun y1=>Option.bind (c89 (y0.1,())) fun y2=>some (y2.1,())
theorem eq77:@run77 = @sh77:=by kernel_rfl
theorem con74 (fu:Nat) (c23:zK as23->Option (zK rs23)) (h23:ConOk CC Tryz.prog 23 ⟨as23,rs23,c23⟩) (c80:zK as80->Option (zK rs80)) (h80:ConOk CC Tryz.prog 80 ⟨as80,rs80,c80⟩) (c82:zK as82->Option (zK rs82)) (h82:ConOk CC Tryz.prog 82 ⟨as82,rs82,c82⟩):ConOk CC Tryz.prog 74 ⟨as74,rs74,fun x=>sh74 fu c23 c80 c82 (fun _=>false) x.1 x.2.1 x.2.2.1⟩:=
 rfk zC (zH (OrcOk.of ⟨zPk,h23⟩ rfl) (zH (OrcOk.of ⟨zPY,h80⟩ rfl) (zH (OrcOk.of ⟨code81,zAv⟩ rfl) (zH (OrcOk.of ⟨code82,h82⟩ rfl) (zH (OrcOk.of ⟨code84,zAv⟩ rfl) (zH (OrcOk.of ⟨code85,zAv⟩ rfl) zC)))))) zC zC fdok74 rfl (zu rfl) (fun nf x=>by show run74 fu c23 c80 c82 nf x.1 x.2.1 x.2.2.1=_; rw [eq74]; rfl)
theorem con73 (fu:Nat) :CQ 73 (cF kD kF (mF (sh73 fu))):=
 cF_of (zDD (syn:=syn) (fu:=fu) (d:=2) (inl:=zB []) (orc:=zB [(61,(⟨as61,rs61,nn as61 rs61⟩:Con UU)),(83,(⟨as83,rs83,nn as83 rs83⟩:Con UU))]) (orr:=zB []) (orp:=zB []) (pf:=hasN [61,83]) (rf:=hasN []) zDE CCok mixed (fun g=>(zx (α:=Con UU) (l:=[(61,(⟨as61,rs61,nn as61 rs61⟩:Con UU)),(83,(⟨as83,rs83,nn as83 rs83⟩:Con UU))]) g).symm) (fun g=>(zx (α:=CR UU) (l:=[]) g).symm) zC (zH (OrcOk.of ⟨zOy,zAv⟩ rfl) (zH (OrcOk.of ⟨code83,zAv⟩ rfl) zC)) zC zC fdok73 (by show (k0:LK).length+(kD:LK).length<=98; decide) (fun x a=>by show run73 fu x a=sh73 fu x a; rw [eq73]))
theorem con75 (fu:Nat) :CQ 75 (cF ([.arr TI.tk,.fn 76]:LK) kA (mF (sh75 fu))):=
 cF_of (zDD (syn:=syn) (fu:=fu) (d:=4) (inl:=zB [(76,fd76),(86,fd86)]) (orc:=zB []) (orr:=zB []) (orp:=zB []) (pf:=hasN []) (rf:=hasN []) zDE CCok mixed (fun g=>(zx (α:=Con UU) (l:=[]) g).symm) (fun g=>(zx (α:=CR UU) (l:=[]) g).symm) (zH zPe (zH zOm zC)) zC zC zC fdok75 (by show (k0:LK).length+(([.arr TI.tk,.fn 76]:LK):LK).length<=42; decide) (fun x a=>by show run75 fu x a=sh75 fu x a; rw [eq75]))
theorem con77 (fu:Nat) (c87:zK as87->Option (zK rs87)) (h87:ConOk CC Tryz.prog 87 ⟨as87,rs87,c87⟩) (c88:zK as88->Option (zK rs88)) (h88:ConOk CC Tryz.prog 88 ⟨as88,rs88,c88⟩) (c89:zK as89->Option (zK rs89)) (h89:ConOk CC Tryz.prog 89 ⟨as89,rs89,c89⟩):ConOk CC Tryz.prog 77 ⟨as77,rs77,fun x=>sh77 fu c87 c88 c89 (fun _=>false) x.1 x.2.1⟩:=
 rfk zC (zH (OrcOk.of ⟨code87,h87⟩ rfl) (zH (OrcOk.of ⟨code88,h88⟩ rfl) (zH (OrcOk.of ⟨code89,h89⟩ rfl) zC))) zC zC fdok77 rfl (zu rfl) (fun nf x=>by show run77 fu c87 c88 c89 nf x.1 x.2.1=_; rw [eq77]; rfl)
end
section
open Go.Al Go.Den
def sh46 (fu:Nat) (c63:(MacT×((List (Bool×(List TkT)))×((List Str)×Unit)))->(List (Str×MacT))->Int->(Option (((Option (List TkT))×(Int×Unit))×((List (Str×MacT))×Int)))) (x:(((List (Str×MacT))×(Int×Unit))×Unit)) (a:(MacT×((Bool×(List TkT))×Unit))):(Option (Option ((((List (Str×MacT))×(Int×Unit))×Unit)×((Option (List TkT))×(Int×(Int×Unit)))))):=cond (inB 0 (List.length a.2.1.2)) (zA3 (fun (join0:((Int×((List (Bool×(List TkT)))×((List TkT)×((List Str)×Unit))))×(((List (Str×MacT))×(Int×Unit))×((Str×(Bool×((List Str)×(Bool×((Bool×LT)×Unit)))))×Unit)))->Option (Option ((((List (Str×MacT))×(Int×Unit))×Unit)×((Option (List TkT))×(Int×(Int×Unit))))))=>cond (MacT.func a.1) (cond (inS 1 (lenI a.2.1.2) (List.length a.2.1.2)) (none) (none)) (join0 ((0,([],([],((TkT.hide (List.getD a.2.1.2 0 tkD)),())))),((x.1.1,(x.1.2.1,())),(((MacT.name a.1),((MacT.func a.1),((MacT.params a.1),((MacT.variadic a.1),(((MacT.body a.1).1,(MacT.body a.1).2),()))))),()))))) (fun (t0:((Int×((List (Bool×(List TkT)))×((List TkT)×((List Str)×Unit))))×(((List (Str×MacT))×(Int×Unit))×((Str×(Bool×((List Str)×(Bool×((Bool×LT)×Unit)))))×Unit))))=>cond (ieq t0.2.1.2.1 1000) (some (some (((t0.2.1.1,(t0.2.1.2.1,())),()),(none,(0,(82,())))))) (zA3 (fun (join0:((Int×((List (Bool×(List TkT)))×Unit))×(((List (Str×MacT))×(Int×Unit))×((Str×(Bool×((List Str)×(Bool×((Bool×LT)×Unit)))))×Unit)))->Option (Option ((((List (Str×MacT))×(Int×Unit))×Unit)×((Option (List TkT))×(Int×(Int×Unit))))))=>cond t0.2.2.1.2.1 (none) (join0 ((t0.1.1,(t0.1.2.1,())),((t0.2.1.1,((iadd .i64 t0.2.1.2.1 1),())),((t0.2.2.1.1,(t0.2.2.1.2.1,(t0.2.2.1.2.2.1,(t0.2.2.1.2.2.2.1,((t0.2.2.1.2.2.2.2.1.1,t0.2.2.1.2.2.2.2.1.2),()))))),()))))) (fun (t1:((Int×((List (Bool×(List TkT)))×Unit))×(((List (Str×MacT))×(Int×Unit))×((Str×(Bool×((List Str)×(Bool×((Bool×LT)×Unit)))))×Unit))))=>Option.bind (c63 ((MacT.mk t1.2.2.1.1 t1.2.2.1.2.1 t1.2.2.1.2.2.1 t1.2.2.1.2.2.2.1 (t1.2.2.1.2.2.2.2.1.1,t1.2.2.1.2.2.2.2.1.2)),(t1.1.2.1,(t0.1.2.2.2.1,()))) t1.2.1.1 t1.2.1.2.1) fun y0=>zd y0.1.1 (some (some (((y0.2.1,(y0.2.2,())),()),(none,(t1.1.1,(y0.1.2.1,())))))) fun y1=>cond (eqN (List.length y1) (List.length y1)) (some (some (((y0.2.1,(y0.2.2,())),()),((some y1),(t1.1.1,(y0.1.2.1,())))))) (none))))) (none)
theorem eq46:@run46 = @sh46:=by kernel_rfl
def sh63 (fu:Nat) (c74:(MacT×((List (Bool×(List TkT)))×((List (Bool×(List TkT)))×Unit)))->(Option ((List TkT)×Unit))) (c77:((List Str)×((List Str)×Unit))->(Option ((List Str)×Unit))) (c78:((List Str)×Unit)->(Option ((List Str)×Unit))) (c72:(MacT×((List (Bool×(List TkT)))×Unit))->(List (Str×MacT))->Int->(Option (((Bool×(List (Bool×(List TkT))))×(Int×Unit))×((List (Str×MacT))×Int)))) (c73:((List TkT)×Unit)->(Option ((Option (List TkT))×(Int×Unit)))) (c75:((Option (List TkT))×(Unit×Unit))->(Option ((Option (List TkT))×Unit))) (x:(((List (Str×MacT))×(Int×Unit))×Unit)) (a:(MacT×((List (Bool×(List TkT)))×((List Str)×Unit)))):(Option (Option ((((List (Str×MacT))×(Int×Unit))×Unit)×((Option (List TkT))×(Int×Unit))))):=Option.bind (c72 (a.1,(a.2.1,())) x.1.1 x.1.2.1) fun y0=>cond (ine y0.1.2.1 0) (some (some (((y0.2.1,(y0.2.2,())),()),(none,(y0.1.2.1,()))))) (Option.bind (c74 (a.1,(a.2.1,(y0.1.1.2,())))) fun y1=>Option.bind (c73 (y1.1,())) fun y2=>zd y2.1 (cond (ine y2.2.1 0) (some (some (((y0.2.1,(y0.2.2,())),()),(none,(y2.2.1,()))))) (Option.bind (c75 (none,((),()))) fun y3=>zd y3.1 (iter fu (fun (rec1:((Int×Unit)×(((List (Str×MacT))×(Int×Unit))×((Str×(Bool×((List Str)×(Bool×((Bool×LT)×Unit)))))×((Option (List TkT))×Unit))))->Option (Option ((((List (Str×MacT))×(Int×Unit))×Unit)×((Option (List TkT))×(Int×Unit))))) (s1:((Int×Unit)×(((List (Str×MacT))×(Int×Unit))×((Str×(Bool×((List Str)×(Bool×((Bool×LT)×Unit)))))×((Option (List TkT))×Unit)))))=>zd s1.2.2.2.1 (cond (ilt s1.1.1 0) (none) (cond (ilt 4000 0) (some (some (((s1.2.1.1,(s1.2.1.2.1,())),()),(none,(82,()))))) (some (some (((s1.2.1.1,(s1.2.1.2.1,())),()),(none,(0,()))))))) fun y4=>none) ((0,()),((y0.2.1,(y0.2.2,())),(((MacT.name a.1),((MacT.func a.1),((MacT.params a.1),((MacT.variadic a.1),(((MacT.body a.1).1,(MacT.body a.1).2),()))))),(none,()))))) fun y4=>cond (eqN (List.length y4) (List.length (zF (List.length y4) y4))) (iter fu (fun (rec1:((Int×Unit)×(((List (Str×MacT))×(Int×Unit))×((Str×(Bool×((List Str)×(Bool×((Bool×LT)×Unit)))))×((Option (List TkT))×Unit))))->Option (Option ((((List (Str×MacT))×(Int×Unit))×Unit)×((Option (List TkT))×(Int×Unit))))) (s1:((Int×Unit)×(((List (Str×MacT))×(Int×Unit))×((Str×(Bool×((List Str)×(Bool×((Bool×LT)×Unit)))))×((Option (List TkT))×Unit)))))=>zd s1.2.2.2.1 (none) fun y5=>cond (ilt s1.1.1 (Int.ofNat (List.length y4))) (cond (inB s1.1.1 (List.length y4)) (cond (Nat.blt (Int.toNat s1.1.1) (List.length y5)) (Option.bind (c78 (a.2.2.1,())) fun y6=>cond (List.isEmpty y6.1) (cond (okN 16 (List.length [s1.2.2.1.1])) (Option.bind (c77 ((TkT.hide (List.getD y5 (Int.toNat s1.1.1) tkD)),([s1.2.2.1.1],()))) fun y7=>cond (inB s1.1.1 (List.length y4)) (cond (Nat.blt (Int.toNat s1.1.1) (List.length y5)) (cond (inB s1.1.1 (List.length y4)) (cond (Nat.blt (Int.toNat s1.1.1) (List.length (List.set y5 (Int.toNat s1.1.1) (tkHd (List.getD y5 (Int.toNat s1.1.1) tkD) y7.1)))) (cond (eqN (List.length y4) (List.length (zF (List.length y4) (List.set (List.set y5 (Int.toNat s1.1.1) (tkHd (List.getD y5 (Int.toNat s1.1.1) tkD) y7.1)) (Int.toNat s1.1.1) (tkOp (List.getD (List.set y5 (Int.toNat s1.1.1) (tkHd (List.getD y5 (Int.toNat s1.1.1) tkD) y7.1)) (Int.toNat s1.1.1) tkD) false))))) (rec1 (((iadd .i64 s1.1.1 1),()),((s1.2.1.1,(s1.2.1.2.1,())),((s1.2.2.1.1,(s1.2.2.1.2.1,(s1.2.2.1.2.2.1,(s1.2.2.1.2.2.2.1,((s1.2.2.1.2.2.2.2.1.1,s1.2.2.1.2.2.2.2.1.2),()))))),((some (zF (List.length y4) (List.set (List.set y5 (Int.toNat s1.1.1) (tkHd (List.getD y5 (Int.toNat s1.1.1) tkD) y7.1)) (Int.toNat s1.1.1) (tkOp (List.getD (List.set y5 (Int.toNat s1.1.1) (tkHd (List.getD y5 (Int.toNat s1.1.1) tkD) y7.1)) (Int.toNat s1.1.1) tkD) false)))),()))))) (none)) (none)) (none)) (none)) (none)) (none)) (none)) (none)) (none)) (cond (ilt 4000 (Int.ofNat (List.length y4))) (some (some (((s1.2.1.1,(s1.2.1.2.1,())),()),(none,(82,()))))) (cond (eqN (List.length y4) (List.length y5)) (some (some (((s1.2.1.1,(s1.2.1.2.1,())),()),((some y5),(0,()))))) (none)))) ((0,()),((y0.2.1,(y0.2.2,())),(((MacT.name a.1),((MacT.func a.1),((MacT.params a.1),((MacT.variadic a.1),(((MacT.body a.1).1,(MacT.body a.1).2),()))))),((some (zF (List.length y4) y4)),()))))) (none))) fun y3=>cond (ine y2.2.1 0) (some (some (((y0.2.1,(y0.2.2,())),()),(none,(y2.2.1,()))))) (cond (eqN (List.length y3) (List.length y3)) (Option.bind (c75 ((some y3),((),()))) fun y4=>zd y4.1 (iter fu (fun (rec1:((Int×Unit)×(((List (Str×MacT))×(Int×Unit))×((Str×(Bool×((List Str)×(Bool×((Bool×LT)×Unit)))))×((Option (List TkT))×Unit))))->Option (Option ((((List (Str×MacT))×(Int×Unit))×Unit)×((Option (List TkT))×(Int×Unit))))) (s1:((Int×Unit)×(((List (Str×MacT))×(Int×Unit))×((Str×(Bool×((List Str)×(Bool×((Bool×LT)×Unit)))))×((Option (List TkT))×Unit)))))=>zd s1.2.2.2.1 (cond (ilt s1.1.1 0) (none) (cond (ilt 4000 0) (some (some (((s1.2.1.1,(s1.2.1.2.1,())),()),(none,(82,()))))) (some (some (((s1.2.1.1,(s1.2.1.2.1,())),()),(none,(0,()))))))) fun y5=>none) ((0,()),((y0.2.1,(y0.2.2,())),(((MacT.name a.1),((MacT.func a.1),((MacT.params a.1),((MacT.variadic a.1),(((MacT.body a.1).1,(MacT.body a.1).2),()))))),(none,()))))) fun y5=>cond (eqN (List.length y5) (List.length (zF (List.length y5) y5))) (iter fu (fun (rec1:((Int×Unit)×(((List (Str×MacT))×(Int×Unit))×((Str×(Bool×((List Str)×(Bool×((Bool×LT)×Unit)))))×((Option (List TkT))×Unit))))->Option (Option ((((List (Str×MacT))×(Int×Unit))×Unit)×((Option (List TkT))×(Int×Unit))))) (s1:((Int×Unit)×(((List (Str×MacT))×(Int×Unit))×((Str×(Bool×((List Str)×(Bool×((Bool×LT)×Unit)))))×((Option (List TkT))×Unit)))))=>zd s1.2.2.2.1 (none) fun y6=>cond (ilt s1.1.1 (Int.ofNat (List.length y5))) (cond (inB s1.1.1 (List.length y5)) (cond (Nat.blt (Int.toNat s1.1.1) (List.length y6)) (Option.bind (c78 (a.2.2.1,())) fun y7=>cond (List.isEmpty y7.1) (cond (okN 16 (List.length [s1.2.2.1.1])) (Option.bind (c77 ((TkT.hide (List.getD y6 (Int.toNat s1.1.1) tkD)),([s1.2.2.1.1],()))) fun y8=>cond (inB s1.1.1 (List.length y5)) (cond (Nat.blt (Int.toNat s1.1.1) (List.length y6)) (cond (inB s1.1.1 (List.length y5)) (cond (Nat.blt (Int.toNat s1.1.1) (List.length (List.set y6 (Int.toNat s1.1.1) (tkHd (List.getD y6 (Int.toNat s1.1.1) tkD) y8.1)))) (cond (eqN (List.length y5) (List.length (zF (List.length y5) (List.set (List.set y6 (Int.toNat s1.1.1) (tkHd (List.getD y6 (Int.toNat s1.1.1) tkD) y8.1)) (Int.toNat s1.1.1) (tkOp (List.getD (List.set y6 (Int.toNat s1.1.1) (tkHd (List.getD y6 (Int.toNat s1.1.1) tkD) y8.1)) (Int.toNat s1.1.1) tkD) false))))) (rec1 (((iadd .i64 s1.1.1 1),()),((s1.2.1.1,(s1.2.1.2.1,())),((s1.2.2.1.1,(s1.2.2.1.2.1,(s1.2.2.1.2.2.1,(s1.2.2.1.2.2.2.1,((s1.2.2.1.2.2.2.2.1.1,s1.2.2.1.2.2.2.2.1.2),()))))),((some (zF (List.length y5) (List.set (List.set y6 (Int.toNat s1.1.1) (tkHd (List.getD y6 (Int.toNat s1.1.1) tkD) y8.1)) (Int.toNat s1.1.1) (tkOp (List.getD (List.set y6 (Int.toNat s1.1.1) (tkHd (List.getD y6 (Int.toNat s1.1.1) tkD) y8.1)) (Int.toNat s1.1.1) tkD) false)))),()))))) (none)) (none)) (none)) (none)) (none)) (none)) (none)) (none)) (none)) (cond (ilt 4000 (Int.ofNat (List.length y5))) (some (some (((s1.2.1.1,(s1.2.1.2.1,())),()),(none,(82,()))))) (cond (eqN (List.length y5) (List.length y6)) (some (some (((s1.2.1.1,(s1.2.1.2.1,())),()),((some y6),(0,()))))) (none)))) ((0,()),((y0.2.1,(y0.2.2,())),(((MacT.name a.1),((MacT.func a.1),((MacT.params a.1),((MacT.variadic a.1),(((MacT.body a.1).1,(MacT.body a.1).2),()))))),((some (zF (List.length y5) y5)),()))))) (none)) (none)))
theorem eq63:@run63 = @sh63:=by kernel_rfl
def sh21 (fu:Nat) (c44:(TkT×(Str×Unit))->(Option (Bool×Unit))) (c45:(TkT×(Str×Unit))->(Option (Bool×Unit))) (c48:((List (Bool×(List TkT)))×Unit)->(Option ((List TkT)×Unit))) (c46:(MacT×((Bool×(List TkT))×Unit))->(List (Str×MacT))->Int->(Option (((Option (List TkT))×(Int×(Int×Unit)))×((List (Str×MacT))×Int)))) (x:(((List (Str×MacT))×(Int×Unit))×Unit)) (a:((Bool×(List TkT))×Unit)):(Option (Option ((((List (Str×MacT))×(Int×Unit))×Unit)×((List TkT)×(Int×Unit))))):=iter fu (fun (rec1:(((Bool×(List TkT))×((List TkT)×Unit))×(((List (Str×MacT))×(Int×Unit))×Unit))->Option (Option ((((List (Str×MacT))×(Int×Unit))×Unit)×((List TkT)×(Int×Unit))))) (s1:(((Bool×(List TkT))×((List TkT)×Unit))×(((List (Str×MacT))×(Int×Unit))×Unit)))=>cond (ilt 0 (lenI s1.1.1.2)) (cond (inB 0 (List.length s1.1.1.2)) (cond (ine (TkT.kind (List.getD s1.1.1.2 0 tkD)) 1) (cond (okN 88 ((List.length s1.1.2.1)+(List.length [(List.getD s1.1.1.2 0 tkD)]))) (cond (ilt 4000 (lenI (s1.1.2.1++[(List.getD s1.1.1.2 0 tkD)]))) (some (some (((s1.2.1.1,(s1.2.1.2.1,())),()),([],(82,()))))) (cond (inS 1 (lenI s1.1.1.2) (List.length s1.1.1.2)) (rec1 (((s1.1.1.1,(cutL s1.1.1.2 1 (lenI s1.1.1.2))),((s1.1.2.1++[(List.getD s1.1.1.2 0 tkD)]),())),((s1.2.1.1,(s1.2.1.2.1,())),()))) (none))) (none)) (Option.bind (c44 ((List.getD s1.1.1.2 0 tkD),((TkT.text (List.getD s1.1.1.2 0 tkD)),()))) fun y0=>cond y0.1 (cond (okN 88 ((List.length s1.1.2.1)+(List.length [(List.getD s1.1.1.2 0 tkD)]))) (cond (ilt 4000 (lenI (s1.1.2.1++[(List.getD s1.1.1.2 0 tkD)]))) (some (some (((s1.2.1.1,(s1.2.1.2.1,())),()),([],(82,()))))) (cond (inS 1 (lenI s1.1.1.2) (List.length s1.1.1.2)) (rec1 (((s1.1.1.1,(cutL s1.1.1.2 1 (lenI s1.1.1.2))),((s1.1.2.1++[(List.getD s1.1.1.2 0 tkD)]),())),((s1.2.1.1,(s1.2.1.2.1,())),()))) (none))) (none)) (cond (!(mcH s1.2.1.1 (TkT.text (List.getD s1.1.1.2 0 tkD)))) (cond (okN 88 ((List.length s1.1.2.1)+(List.length [(List.getD s1.1.1.2 0 tkD)]))) (cond (ilt 4000 (lenI (s1.1.2.1++[(List.getD s1.1.1.2 0 tkD)]))) (some (some (((s1.2.1.1,(s1.2.1.2.1,())),()),([],(82,()))))) (cond (inS 1 (lenI s1.1.1.2) (List.length s1.1.1.2)) (rec1 (((s1.1.1.1,(cutL s1.1.1.2 1 (lenI s1.1.1.2))),((s1.1.2.1++[(List.getD s1.1.1.2 0 tkD)]),())),((s1.2.1.1,(s1.2.1.2.1,())),()))) (none))) (none)) (cond (MacT.func (mcV macD s1.2.1.1 (TkT.text (List.getD s1.1.1.2 0 tkD)))) (cond (ilt (lenI s1.1.1.2) 2) (cond (okN 88 ((List.length s1.1.2.1)+(List.length [(List.getD s1.1.1.2 0 tkD)]))) (cond (ilt 4000 (lenI (s1.1.2.1++[(List.getD s1.1.1.2 0 tkD)]))) (some (some (((s1.2.1.1,(s1.2.1.2.1,())),()),([],(82,()))))) (cond (inS 1 (lenI s1.1.1.2) (List.length s1.1.1.2)) (rec1 (((s1.1.1.1,(cutL s1.1.1.2 1 (lenI s1.1.1.2))),((s1.1.2.1++[(List.getD s1.1.1.2 0 tkD)]),())),((s1.2.1.1,(s1.2.1.2.1,())),()))) (none))) (none)) (cond (inB 1 (List.length s1.1.1.2)) (Option.bind (c45 ((List.getD s1.1.1.2 1 tkD),([40],()))) fun y1=>cond (!y1.1) (cond (okN 88 ((List.length s1.1.2.1)+(List.length [(List.getD s1.1.1.2 0 tkD)]))) (cond (ilt 4000 (lenI (s1.1.2.1++[(List.getD s1.1.1.2 0 tkD)]))) (some (some (((s1.2.1.1,(s1.2.1.2.1,())),()),([],(82,()))))) (cond (inS 1 (lenI s1.1.1.2) (List.length s1.1.1.2)) (rec1 (((s1.1.1.1,(cutL s1.1.1.2 1 (lenI s1.1.1.2))),((s1.1.2.1++[(List.getD s1.1.1.2 0 tkD)]),())),((s1.2.1.1,(s1.2.1.2.1,())),()))) (none))) (none)) (Option.bind (c46 ((MacT.mk (MacT.name (mcV macD s1.2.1.1 (TkT.text (List.getD s1.1.1.2 0 tkD)))) (MacT.func (mcV macD s1.2.1.1 (TkT.text (List.getD s1.1.1.2 0 tkD)))) (MacT.params (mcV macD s1.2.1.1 (TkT.text (List.getD s1.1.1.2 0 tkD)))) (MacT.variadic (mcV macD s1.2.1.1 (TkT.text (List.getD s1.1.1.2 0 tkD)))) ((MacT.body (mcV macD s1.2.1.1 (TkT.text (List.getD s1.1.1.2 0 tkD)))).1,(MacT.body (mcV macD s1.2.1.1 (TkT.text (List.getD s1.1.1.2 0 tkD)))).2)),((s1.1.1.1,s1.1.1.2),())) s1.2.1.1 s1.2.1.2.1) fun y2=>zd y2.1.1 (cond (ine y2.1.2.2.1 0) (some (some (((y2.2.1,(y2.2.2,())),()),([],(y2.1.2.2.1,()))))) (cond (inS (iadd .i64 y2.1.2.1 1) (lenI s1.1.1.2) (List.length s1.1.1.2)) (cond (ilt 0 0) (none) (cond (TkT.blank (List.getD s1.1.1.2 0 tkD)) (cond (ilt 0 (lenI (cutL s1.1.1.2 (iadd .i64 y2.1.2.1 1) (lenI s1.1.1.2)))) (none) (Option.bind (c48 ([(true,[]),(s1.1.1.1,(cutL s1.1.1.2 (iadd .i64 y2.1.2.1 1) (lenI s1.1.1.2)))],())) fun y3=>rec1 ((((List.isEmpty y3.1),y3.1),(s1.1.2.1,())),((y2.2.1,(y2.2.2,())),())))) (Option.bind (c48 ([(true,[]),(s1.1.1.1,(cutL s1.1.1.2 (iadd .i64 y2.1.2.1 1) (lenI s1.1.1.2)))],())) fun y3=>rec1 ((((List.isEmpty y3.1),y3.1),(s1.1.2.1,())),((y2.2.1,(y2.2.2,())),()))))) (none))) fun y3=>cond (ine y2.1.2.2.1 0) (some (some (((y2.2.1,(y2.2.2,())),()),([],(y2.1.2.2.1,()))))) (cond (inS (iadd .i64 y2.1.2.1 1) (lenI s1.1.1.2) (List.length s1.1.1.2)) (cond (ilt 0 (Int.ofNat (List.length y3))) (cond (inB 0 (List.length y3)) (cond (Nat.blt 0 (List.length y3)) (cond (Nat.ble (List.length y3) (List.length (List.set y3 0 (tkBl (List.getD y3 0 tkD) (TkT.blank (List.getD s1.1.1.2 0 tkD)))))) (Option.bind (c48 ([(false,(zF (List.length y3) (List.set y3 0 (tkBl (List.getD y3 0 tkD) (TkT.blank (List.getD s1.1.1.2 0 tkD)))))),(s1.1.1.1,(cutL s1.1.1.2 (iadd .i64 y2.1.2.1 1) (lenI s1.1.1.2)))],())) fun y4=>rec1 ((((List.isEmpty y4.1),y4.1),(s1.1.2.1,())),((y2.2.1,(y2.2.2,())),()))) (none)) (none)) (none)) (cond (TkT.blank (List.getD s1.1.1.2 0 tkD)) (cond (ilt 0 (lenI (cutL s1.1.1.2 (iadd .i64 y2.1.2.1 1) (lenI s1.1.1.2)))) (none) (cond (Nat.ble (List.length y3) (List.length y3)) (Option.bind (c48 ([(false,(zF (List.length y3) y3)),(s1.1.1.1,(cutL s1.1.1.2 (iadd .i64 y2.1.2.1 1) (lenI s1.1.1.2)))],())) fun y4=>rec1 ((((List.isEmpty y4.1),y4.1),(s1.1.2.1,())),((y2.2.1,(y2.2.2,())),()))) (none))) (cond (Nat.ble (List.length y3) (List.length y3)) (Option.bind (c48 ([(false,(zF (List.length y3) y3)),(s1.1.1.1,(cutL s1.1.1.2 (iadd .i64 y2.1.2.1 1) (lenI s1.1.1.2)))],())) fun y4=>rec1 ((((List.isEmpty y4.1),y4.1),(s1.1.2.1,())),((y2.2.1,(y2.2.2,())),()))) (none)))) (none)))) (none))) (Option.bind (c46 ((MacT.mk (MacT.name (mcV macD s1.2.1.1 (TkT.text (List.getD s1.1.1.2 0 tkD)))) (MacT.func (mcV macD s1.2.1.1 (TkT.text (List.getD s1.1.1.2 0 tkD)))) (MacT.params (mcV macD s1.2.1.1 (TkT.text (List.getD s1.1.1.2 0 tkD)))) (MacT.variadic (mcV macD s1.2.1.1 (TkT.text (List.getD s1.1.1.2 0 tkD)))) ((MacT.body (mcV macD s1.2.1.1 (TkT.text (List.getD s1.1.1.2 0 tkD)))).1,(MacT.body (mcV macD s1.2.1.1 (TkT.text (List.getD s1.1.1.2 0 tkD)))).2)),((s1.1.1.1,s1.1.1.2),())) s1.2.1.1 s1.2.1.2.1) fun y1=>zd y1.1.1 (cond (ine y1.1.2.2.1 0) (some (some (((y1.2.1,(y1.2.2,())),()),([],(y1.1.2.2.1,()))))) (cond (inS (iadd .i64 y1.1.2.1 1) (lenI s1.1.1.2) (List.length s1.1.1.2)) (cond (ilt 0 0) (none) (cond (TkT.blank (List.getD s1.1.1.2 0 tkD)) (cond (ilt 0 (lenI (cutL s1.1.1.2 (iadd .i64 y1.1.2.1 1) (lenI s1.1.1.2)))) (none) (Option.bind (c48 ([(true,[]),(s1.1.1.1,(cutL s1.1.1.2 (iadd .i64 y1.1.2.1 1) (lenI s1.1.1.2)))],())) fun y2=>rec1 ((((List.isEmpty y2.1),y2.1),(s1.1.2.1,())),((y1.2.1,(y1.2.2,())),())))) (Option.bind (c48 ([(true,[]),(s1.1.1.1,(cutL s1.1.1.2 (iadd .i64 y1.1.2.1 1) (lenI s1.1.1.2)))],())) fun y2=>rec1 ((((List.isEmpty y2.1),y2.1),(s1.1.2.1,())),((y1.2.1,(y1.2.2,())),()))))) (none))) fun y2=>cond (ine y1.1.2.2.1 0) (some (some (((y1.2.1,(y1.2.2,())),()),([],(y1.1.2.2.1,()))))) (cond (inS (iadd .i64 y1.1.2.1 1) (lenI s1.1.1.2) (List.length s1.1.1.2)) (cond (ilt 0 (Int.ofNat (List.length y2))) (cond (inB 0 (List.length y2)) (cond (Nat.blt 0 (List.length y2)) (cond (Nat.ble (List.length y2) (List.length (List.set y2 0 (tkBl (List.getD y2 0 tkD) (TkT.blank (List.getD s1.1.1.2 0 tkD)))))) (Option.bind (c48 ([(false,(zF (List.length y2) (List.set y2 0 (tkBl (List.getD y2 0 tkD) (TkT.blank (List.getD s1.1.1.2 0 tkD)))))),(s1.1.1.1,(cutL s1.1.1.2 (iadd .i64 y1.1.2.1 1) (lenI s1.1.1.2)))],())) fun y3=>rec1 ((((List.isEmpty y3.1),y3.1),(s1.1.2.1,())),((y1.2.1,(y1.2.2,())),()))) (none)) (none)) (none)) (cond (TkT.blank (List.getD s1.1.1.2 0 tkD)) (cond (ilt 0 (lenI (cutL s1.1.1.2 (iadd .i64 y1.1.2.1 1) (lenI s1.1.1.2)))) (none) (cond (Nat.ble (List.length y2) (List.length y2)) (Option.bind (c48 ([(false,(zF (List.length y2) y2)),(s1.1.1.1,(cutL s1.1.1.2 (iadd .i64 y1.1.2.1 1) (lenI s1.1.1.2)))],())) fun y3=>rec1 ((((List.isEmpty y3.1),y3.1),(s1.1.2.1,())),((y1.2.1,(y1.2.2,())),()))) (none))) (cond (Nat.ble (List.length y2) (List.length y2)) (Option.bind (c48 ([(false,(zF (List.length y2) y2)),(s1.1.1.1,(cutL s1.1.1.2 (iadd .i64 y1.1.2.1 1) (lenI s1.1.1.2)))],())) fun y3=>rec1 ((((List.isEmpty y3.1),y3.1),(s1.1.2.1,())),((y1.2.1,(y1.2.2,())),()))) (none)))) (none))))))) (none)) (some (some (((s1.2.1.1,(s1.2.1.2.1,())),()),(s1.1.2.1,(0,())))))) (((a.1.1,a.1.2),([],())),((x.1.1,(x.1.2.1,())),()))
theorem eq21:@run21 = @sh21:=by kernel_rfl
def sh78 (fu:Nat) (nf:Nat->Bool) (x0:(List Str)):(Option ((List Str)×Unit)):=cond (nilT TM.dl x0) (some ([],())) (none)
theorem eq78:@run78 = @sh78:=by kernel_rfl
theorem con46 (fu:Nat) (c63:zA ([.st TI.mac,.dl TI.tkl,.dl TI.str]:LK)->WW (zA kF)) (h63:CQ 63 (cW ([.st TI.mac,.dl TI.tkl,.dl TI.str]:LK) kF c63)):CQ 46 (cW kM kG (mW (sh46 fu c63))):=
 zNg (zDD (syn:=syn) (fu:=fu) (d:=2) (inl:=zB []) (orc:=zB [(60,(⟨as60,rs60,nn as60 rs60⟩:Con UU)),(61,(⟨as61,rs61,nn as61 rs61⟩:Con UU)),(62,(⟨as62,rs62,nn as62 rs62⟩:Con UU))]) (orr:=zB []) (orp:=zB [(63,cW ([.st TI.mac,.dl TI.tkl,.dl TI.str]:LK) kF c63)]) (pf:=hasN [60,61,62]) (rf:=hasN []) zDE CCok mixed (fun g=>(zx (α:=Con UU) (l:=[(60,(⟨as60,rs60,nn as60 rs60⟩:Con UU)),(61,(⟨as61,rs61,nn as61 rs61⟩:Con UU)),(62,(⟨as62,rs62,nn as62 rs62⟩:Con UU))]) g).symm) (fun g=>(zx (α:=CR UU) (l:=[]) g).symm) zC (zH (OrcOk.of ⟨code60,zAv⟩ rfl) (zH (OrcOk.of ⟨zOy,zAv⟩ rfl) (zH (OrcOk.of ⟨code62,zAv⟩ rfl) zC))) zC (zH ⟨code63,h63⟩ zC) fdok46 (by show ([woK]:LK).length+(kM:LK).length<=69; decide) (fun x a=>by show run46 fu c63 x a=sh46 fu c63 x a; rw [eq46]))
theorem con63 (fu:Nat) (c74:zK as74->Option (zK rs74)) (h74:ConOk CC Tryz.prog 74 ⟨as74,rs74,c74⟩) (c77:zK as77->Option (zK rs77)) (h77:ConOk CC Tryz.prog 77 ⟨as77,rs77,c77⟩) (c78:zK as78->Option (zK rs78)) (h78:ConOk CC Tryz.prog 78 ⟨as78,rs78,c78⟩) (c72:zA ([.st TI.mac,.dl TI.tkl]:LK)->WW (zA ([.bl TI.tkl,.int .i64]:LK))) (h72:CQ 72 (cW ([.st TI.mac,.dl TI.tkl]:LK) ([.bl TI.tkl,.int .i64]:LK) c72)) (c73:zA kD->Option (zA kF)) (h73:CQ 73 (cF kD kF c73)) (c75:zA ([.arr TI.tk,.fn 76]:LK)->Option (zA kA)) (h75:CQ 75 (cF ([.arr TI.tk,.fn 76]:LK) kA c75)):CQ 63 (cW ([.st TI.mac,.dl TI.tkl,.dl TI.str]:LK) kF (mW (sh63 fu c74 c77 c78 c72 c73 c75))):=
 zNg (zDD (syn:=syn) (fu:=fu) (d:=2) (inl:=zB []) (orc:=zB [(74,(⟨as74,rs74,c74⟩:Con UU)),(77,(⟨as77,rs77,c77⟩:Con UU)),(78,(⟨as78,rs78,c78⟩:Con UU))]) (orr:=zB []) (orp:=zB [(72,cW ([.st TI.mac,.dl TI.tkl]:LK) ([.bl TI.tkl,.int .i64]:LK) c72),(73,cF kD kF c73),(75,cF ([.arr TI.tk,.fn 76]:LK) kA c75)]) (pf:=hasN [74,77,78]) (rf:=hasN []) zDE CCok mixed (fun g=>(zx (α:=Con UU) (l:=[(74,(⟨as74,rs74,c74⟩:Con UU)),(77,(⟨as77,rs77,c77⟩:Con UU)),(78,(⟨as78,rs78,c78⟩:Con UU))]) g).symm) (fun g=>(zx (α:=CR UU) (l:=[]) g).symm) zC (zH (OrcOk.of ⟨code74,h74⟩ rfl) (zH (OrcOk.of ⟨code77,h77⟩ rfl) (zH (OrcOk.of ⟨code78,h78⟩ rfl) zC))) zC (zH ⟨code72,h72⟩ (zH ⟨code73,h73⟩ (zH ⟨code75,h75⟩ zC))) fdok63 (by show ([woK]:LK).length+(([.st TI.mac,.dl TI.tkl,.dl TI.str]:LK):LK).length<=67; decide) (fun x a=>by show run63 fu c74 c77 c78 c72 c73 c75 x a=sh63 fu c74 c77 c78 c72 c73 c75 x a; rw [eq63]))
theorem con21 (fu:Nat) (c44:zK as44->Option (zK rs44)) (h44:ConOk CC Tryz.prog 44 ⟨as44,rs44,c44⟩) (c45:zK as45->Option (zK rs45)) (h45:ConOk CC Tryz.prog 45 ⟨as45,rs45,c45⟩) (c48:zK as48->Option (zK rs48)) (h48:ConOk CC Tryz.prog 48 ⟨as48,rs48,c48⟩) (c46:zA kM->WW (zA kG)) (h46:CQ 46 (cW kM kG c46)):CQ 21 (cW kL kE (mW (sh21 fu c44 c45 c48 c46))):=
 zNg (rpk zC (zH (OrcOk.of ⟨code44,h44⟩ rfl) (zH (OrcOk.of ⟨code45,h45⟩ rfl) (zH (OrcOk.of ⟨code48,h48⟩ rfl) zC))) zC (zH ⟨code46,h46⟩ zC) fdok21 rfl (fun x a=>by rw [<- eq21]; rfl))
theorem con78 (fu:Nat) :ConOk CC Tryz.prog 78 ⟨as78,rs78,fun x=>sh78 fu (fun _=>false) x.1⟩:=
 rfk zC zC zC zC fdok78 rfl (zu rfl) (fun nf x=>by show run78 fu nf x.1=_; rw [eq78]; rfl)
end
section
open Go.Al Go.Den
def sh48 (fu:Nat) (c64:((List TkT)×(Int×Unit))->(Option ((Option (List TkT))×Unit))) (nf:Nat->Bool) (x0:(List (Bool×(List TkT)))):(Option ((List TkT)×Unit)):=iter fu (fun (rec1:((Int×(Int×Unit))×Unit)->Option ((List TkT)×Unit)) (s1:((Int×(Int×Unit))×Unit))=>cond (ilt s1.1.2.1 (lenI x0)) (cond (inB s1.1.2.1 (List.length x0)) (cond (ilt (iadd .i64 s1.1.1 (lenI (List.getD x0 (Int.toNat s1.1.2.1) (true,[])).2)) 0) (none) (rec1 (((iadd .i64 s1.1.1 (lenI (List.getD x0 (Int.toNat s1.1.2.1) (true,[])).2)),((iadd .i64 s1.1.2.1 1),())),()))) (none)) (Option.bind (c64 ([],(s1.1.1,()))) fun y0=>zd y0.1 (iter fu (fun (rec2:(((Option (List TkT))×(Int×Unit))×Unit)->Option ((List TkT)×Unit)) (s2:(((Option (List TkT))×(Int×Unit))×Unit))=>zd s2.1.1 (cond (ilt s2.1.2.1 (lenI x0)) (cond (inB s2.1.2.1 (List.length x0)) (cond (okN 88 (List.length (List.getD x0 (Int.toNat s2.1.2.1) (true,[])).2)) (cond (!(List.isEmpty (List.getD x0 (Int.toNat s2.1.2.1) (true,[])).2)) (cond (eqN (List.length (List.getD x0 (Int.toNat s2.1.2.1) (true,[])).2) (List.length (zF (List.length (List.getD x0 (Int.toNat s2.1.2.1) (true,[])).2) (List.getD x0 (Int.toNat s2.1.2.1) (true,[])).2))) (rec2 (((some (zF (List.length (List.getD x0 (Int.toNat s2.1.2.1) (true,[])).2) (List.getD x0 (Int.toNat s2.1.2.1) (true,[])).2)),((iadd .i64 s2.1.2.1 1),())),())) (none)) (none)) (none)) (none)) (some ([],()))) fun y1=>cond (ilt s2.1.2.1 (lenI x0)) (cond (inB s2.1.2.1 (List.length x0)) (cond ((Nat.ble (List.length y1) (List.length y1)) && (okN 88 ((List.length y1)+(List.length (List.getD x0 (Int.toNat s2.1.2.1) (true,[])).2)))) (cond (eqN ((List.length y1)+(List.length (List.getD x0 (Int.toNat s2.1.2.1) (true,[])).2)) (List.length (zF ((List.length y1)+(List.length (List.getD x0 (Int.toNat s2.1.2.1) (true,[])).2)) ((List.take (List.length y1) y1)++(List.getD x0 (Int.toNat s2.1.2.1) (true,[])).2)))) (rec2 (((some (zF ((List.length y1)+(List.length (List.getD x0 (Int.toNat s2.1.2.1) (true,[])).2)) ((List.take (List.length y1) y1)++(List.getD x0 (Int.toNat s2.1.2.1) (true,[])).2))),((iadd .i64 s2.1.2.1 1),())),())) (none)) (none)) (none)) (cond (Nat.ble (List.length y1) (List.length y1)) (cond (cond false (List.isEmpty (zF (List.length y1) y1)) (!(List.isEmpty (zF (List.length y1) y1)))) (some ((zF (List.length y1) y1),())) (none)) (none))) ((none,(0,())),())) fun y1=>cond (eqN (List.length y1) (List.length (zF (List.length y1) y1))) (iter fu (fun (rec2:(((Option (List TkT))×(Int×Unit))×Unit)->Option ((List TkT)×Unit)) (s2:(((Option (List TkT))×(Int×Unit))×Unit))=>zd s2.1.1 (cond (ilt s2.1.2.1 (lenI x0)) (cond (inB s2.1.2.1 (List.length x0)) (cond (okN 88 (List.length (List.getD x0 (Int.toNat s2.1.2.1) (true,[])).2)) (cond (!(List.isEmpty (List.getD x0 (Int.toNat s2.1.2.1) (true,[])).2)) (cond (eqN (List.length (List.getD x0 (Int.toNat s2.1.2.1) (true,[])).2) (List.length (zF (List.length (List.getD x0 (Int.toNat s2.1.2.1) (true,[])).2) (List.getD x0 (Int.toNat s2.1.2.1) (true,[])).2))) (rec2 (((some (zF (List.length (List.getD x0 (Int.toNat s2.1.2.1) (true,[])).2) (List.getD x0 (Int.toNat s2.1.2.1) (true,[])).2)),((iadd .i64 s2.1.2.1 1),())),())) (none)) (none)) (none)) (none)) (some ([],()))) fun y2=>cond (ilt s2.1.2.1 (lenI x0)) (cond (inB s2.1.2.1 (List.length x0)) (cond ((Nat.ble (List.length y2) (List.length y2)) && (okN 88 ((List.length y2)+(List.length (List.getD x0 (Int.toNat s2.1.2.1) (true,[])).2)))) (cond (eqN ((List.length y2)+(List.length (List.getD x0 (Int.toNat s2.1.2.1) (true,[])).2)) (List.length (zF ((List.length y2)+(List.length (List.getD x0 (Int.toNat s2.1.2.1) (true,[])).2)) ((List.take (List.length y2) y2)++(List.getD x0 (Int.toNat s2.1.2.1) (true,[])).2)))) (rec2 (((some (zF ((List.length y2)+(List.length (List.getD x0 (Int.toNat s2.1.2.1) (true,[])).2)) ((List.take (List.length y2) y2)++(List.getD x0 (Int.toNat s2.1.2.1) (true,[])).2))),((iadd .i64 s2.1.2.1 1),())),())) (none)) (none)) (none)) (cond (Nat.ble (List.length y2) (List.length y2)) (cond (cond false (List.isEmpty (zF (List.length y2) y2)) (!(List.isEmpty (zF (List.length y2) y2)))) (some ((zF (List.length y2) y2),())) (none)) (none))) (((some (zF (List.length y1) y1)),(0,())),())) (none))) ((0,(0,())),())
theorem eq48:@run48 = @sh48:=by kernel_rfl
def sh87 (fu:Nat) (c93:((List Str)×(Int×Unit))->(Option ((Option (List Str))×Unit))) (nf:Nat->Bool) (x0:(List (Bool×(List Str)))):(Option ((List Str)×Unit)):=iter fu (fun (rec1:((Int×(Int×Unit))×Unit)->Option ((List Str)×Unit)) (s1:((Int×(Int×Unit))×Unit))=>cond (ilt s1.1.2.1 (lenI x0)) (cond (inB s1.1.2.1 (List.length x0)) (cond (ilt (iadd .i64 s1.1.1 (lenI (List.getD x0 (Int.toNat s1.1.2.1) (true,[])).2)) 0) (none) (rec1 (((iadd .i64 s1.1.1 (lenI (List.getD x0 (Int.toNat s1.1.2.1) (true,[])).2)),((iadd .i64 s1.1.2.1 1),())),()))) (none)) (Option.bind (c93 ([],(s1.1.1,()))) fun y0=>zd y0.1 (iter fu (fun (rec2:(((Option (List Str))×(Int×Unit))×Unit)->Option ((List Str)×Unit)) (s2:(((Option (List Str))×(Int×Unit))×Unit))=>zd s2.1.1 (cond (ilt s2.1.2.1 (lenI x0)) (cond (inB s2.1.2.1 (List.length x0)) (cond (okN 16 (List.length (List.getD x0 (Int.toNat s2.1.2.1) (true,[])).2)) (cond (!(List.isEmpty (List.getD x0 (Int.toNat s2.1.2.1) (true,[])).2)) (cond (eqN (List.length (List.getD x0 (Int.toNat s2.1.2.1) (true,[])).2) (List.length (zF (List.length (List.getD x0 (Int.toNat s2.1.2.1) (true,[])).2) (List.getD x0 (Int.toNat s2.1.2.1) (true,[])).2))) (rec2 (((some (zF (List.length (List.getD x0 (Int.toNat s2.1.2.1) (true,[])).2) (List.getD x0 (Int.toNat s2.1.2.1) (true,[])).2)),((iadd .i64 s2.1.2.1 1),())),())) (none)) (none)) (none)) (none)) (some ([],()))) fun y1=>cond (ilt s2.1.2.1 (lenI x0)) (cond (inB s2.1.2.1 (List.length x0)) (cond ((Nat.ble (List.length y1) (List.length y1)) && (okN 16 ((List.length y1)+(List.length (List.getD x0 (Int.toNat s2.1.2.1) (true,[])).2)))) (cond (eqN ((List.length y1)+(List.length (List.getD x0 (Int.toNat s2.1.2.1) (true,[])).2)) (List.length (zF ((List.length y1)+(List.length (List.getD x0 (Int.toNat s2.1.2.1) (true,[])).2)) ((List.take (List.length y1) y1)++(List.getD x0 (Int.toNat s2.1.2.1) (true,[])).2)))) (rec2 (((some (zF ((List.length y1)+(List.length (List.getD x0 (Int.toNat s2.1.2.1) (true,[])).2)) ((List.take (List.length y1) y1)++(List.getD x0 (Int.toNat s2.1.2.1) (true,[])).2))),((iadd .i64 s2.1.2.1 1),())),())) (none)) (none)) (none)) (cond (Nat.ble (List.length y1) (List.length y1)) (cond (cond false (List.isEmpty (zF (List.length y1) y1)) (!(List.isEmpty (zF (List.length y1) y1)))) (some ((zF (List.length y1) y1),())) (none)) (none))) ((none,(0,())),())) fun y1=>cond (eqN (List.length y1) (List.length (zF (List.length y1) y1))) (iter fu (fun (rec2:(((Option (List Str))×(Int×Unit))×Unit)->Option ((List Str)×Unit)) (s2:(((Option (List Str))×(Int×Unit))×Unit))=>zd s2.1.1 (cond (ilt s2.1.2.1 (lenI x0)) (cond (inB s2.1.2.1 (List.length x0)) (cond (okN 16 (List.length (List.getD x0 (Int.toNat s2.1.2.1) (true,[])).2)) (cond (!(List.isEmpty (List.getD x0 (Int.toNat s2.1.2.1) (true,[])).2)) (cond (eqN (List.length (List.getD x0 (Int.toNat s2.1.2.1) (true,[])).2) (List.length (zF (List.length (List.getD x0 (Int.toNat s2.1.2.1) (true,[])).2) (List.getD x0 (Int.toNat s2.1.2.1) (true,[])).2))) (rec2 (((some (zF (List.length (List.getD x0 (Int.toNat s2.1.2.1) (true,[])).2) (List.getD x0 (Int.toNat s2.1.2.1) (true,[])).2)),((iadd .i64 s2.1.2.1 1),())),())) (none)) (none)) (none)) (none)) (some ([],()))) fun y2=>cond (ilt s2.1.2.1 (lenI x0)) (cond (inB s2.1.2.1 (List.length x0)) (cond ((Nat.ble (List.length y2) (List.length y2)) && (okN 16 ((List.length y2)+(List.length (List.getD x0 (Int.toNat s2.1.2.1) (true,[])).2)))) (cond (eqN ((List.length y2)+(List.length (List.getD x0 (Int.toNat s2.1.2.1) (true,[])).2)) (List.length (zF ((List.length y2)+(List.length (List.getD x0 (Int.toNat s2.1.2.1) (true,[])).2)) ((List.take (List.length y2) y2)++(List.getD x0 (Int.toNat s2.1.2.1) (true,[])).2)))) (rec2 (((some (zF ((List.length y2)+(List.length (List.getD x0 (Int.toNat s2.1.2.1) (true,[])).2)) ((List.take (List.length y2) y2)++(List.getD x0 (Int.toNat s2.1.2.1) (true,[])).2))),((iadd .i64 s2.1.2.1 1),())),())) (none)) (none)) (none)) (cond (Nat.ble (List.length y2) (List.length y2)) (cond (cond false (List.isEmpty (zF (List.length y2) y2)) (!(List.isEmpty (zF (List.length y2) y2)))) (some ((zF (List.length y2) y2),())) (none)) (none))) (((some (zF (List.length y1) y1)),(0,())),())) (none))) ((0,(0,())),())
theorem eq87:@run87 = @sh87:=by kernel_rfl
def sh89 (fu:Nat) (nf:Nat->Bool) (x0:(List Str)):(Option ((List Str)×Unit)):=cond (ilt (lenI x0) 2) (some (x0,())) (iter fu (fun (rec1:((Int×Unit)×Unit)->Option ((List Str)×Unit)) (s1:((Int×Unit)×Unit))=>cond (ilt s1.1.1 (lenI x0)) (cond (inB s1.1.1 (List.length x0)) (cond (inB (isub .i64 s1.1.1 1) (List.length x0)) (cond (seq (List.getD x0 (Int.toNat s1.1.1) []) (List.getD x0 (Int.toNat (isub .i64 s1.1.1 1)) [])) (cond (inS s1.1.1 (lenI x0) (List.length x0)) (iter fu (fun (rec2:((Int×(Int×Unit))×Unit)->Option ((List Str)×Unit)) (s2:((Int×(Int×Unit))×Unit))=>cond (ilt s2.1.2.1 (lenI (cutL x0 s1.1.1 (lenI x0)))) (cond (inB s2.1.2.1 (List.length (cutL x0 s1.1.1 (lenI x0)))) (cond (inB (isub .i64 s2.1.2.1 1) (List.length (cutL x0 s1.1.1 (lenI x0)))) (cond (!(seq (List.getD (cutL x0 s1.1.1 (lenI x0)) (Int.toNat s2.1.2.1) []) (List.getD (cutL x0 s1.1.1 (lenI x0)) (Int.toNat (isub .i64 s2.1.2.1 1)) []))) (cond (inB s2.1.2.1 (List.length (cutL x0 s1.1.1 (lenI x0)))) (cond (inB s2.1.1 (List.length x0)) (none) (none)) (none)) (rec2 ((s2.1.1,((iadd .i64 s2.1.2.1 1),())),()))) (none)) (none)) (cond (inS s2.1.1 (lenI x0) (List.length x0)) (none) (none))) ((s1.1.1,(1,())),())) (none)) (rec1 (((iadd .i64 s1.1.1 1),()),()))) (none)) (none)) (some (x0,()))) ((1,()),()))
theorem eq89:@run89 = @sh89:=by kernel_rfl
theorem con48 (fu:Nat) (c64:zA kE->Option (zA kA)) (h64:CQ 64 (cF kE kA c64)):ConOk CC Tryz.prog 48 ⟨as48,rs48,fun x=>sh48 fu c64 (fun _=>false) x.1⟩:=
 rfk zC zC zC (zH ⟨code64,h64⟩ zC) fdok48 rfl (zu rfl) (fun nf x=>by show run48 fu c64 nf x.1=_; rw [eq48]; rfl)
theorem con87 (fu:Nat) (c93:zA ([.dl TI.str,.int .i64]:LK)->Option (zA ([.arr TI.str]:LK))) (h93:CQ 93 (cF ([.dl TI.str,.int .i64]:LK) ([.arr TI.str]:LK) c93)):ConOk CC Tryz.prog 87 ⟨as87,rs87,fun x=>sh87 fu c93 (fun _=>false) x.1⟩:=
 rfk zC zC zC (zH ⟨code93,h93⟩ zC) fdok87 rfl (zu rfl) (fun nf x=>by show run87 fu c93 nf x.1=_; rw [eq87]; rfl)
theorem con89 (fu:Nat) :ConOk CC Tryz.prog 89 ⟨as89,rs89,fun x=>sh89 fu (fun _=>false) x.1⟩:=
 rfk zC zC zC zC fdok89 rfl (zu rfl) (fun nf x=>by show run89 fu nf x.1=_; rw [eq89]; rfl)
end
end Go.Proofs.YtfjiiknfopmcjaaGreatDoor
