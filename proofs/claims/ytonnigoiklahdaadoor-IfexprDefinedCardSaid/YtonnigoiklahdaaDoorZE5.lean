/-
  Part 5 of what the last text needs: library, runs, contracts, plain laws. No condition of its own.
-/
import Derived.Test.YtonnigoiklahdaaDoorZE4
import Derived.Test.YtonnigoiklahdaaDoorTie
import Derived.LaidLaws
import Derived.LaidMore
import Derived.LaidHandle
import Derived.MakeChecks
import Derived.Shelf.Vars
import Derived.Handed
import Derived.SevenTiedAt
import Derived.Deep.Strs
import Derived.Test.YtonnigoiklahdaaDoorRows
import Derived.Shelf.Small.Strs
import Derived.Shelf.Strings.Search1
import Derived.Shelf.Strings.Search2
import Derived.Shelf.Strings.Search3
import Derived.Shelf.Strings.Prefix
import Derived.Shelf.Strings.Fields
import Derived.Shelf.Bits.Mul64
import Derived.Lib.QuietBelow
import GoSem.Claims
import Derived.RangeFuncNested
import Derived.RangeFuncBound
import Derived.RangeFuncLeaves
import Derived.RangeFuncWrites
import Derived.Shelf.Abstract
import Derived.OwnWalkIn
import Derived.TacticsInMore
import Derived.LoopIn
import Derived.LoopNIn
import Derived.Maps.AppendAt
set_option linter.unusedVariables false
set_option linter.unusedSimpArgs false
set_option linter.unusedSectionVars false
namespace Go.Proofs.YtonnigoiklahdaaDoor
section
open Go.Al Go.Den Go.ChangeShapes Go.WideShapes Go.ChangeAt Go.RowKit
def zFW:List (String×DataW Unit):=[("unicode.White_Space",Rows.laid_unicode_White_Space),("strings.asciiSpace",Rows.laid_strings_asciiSpace),("emend/pptok.signs",Rows.laid_emend_pptok_signs)]
theorem zId {P:Program} {W:World} {n:String} {g:Nat} {cs:Array Value} (hg:P.globalNamed n=some g) (h:W.var? P n=some cs):∃ el m,W.heap[g]? = some (.cells cs el m):=by
 unfold World.var? at h
 rw [hg] at h
 simp only [Option.bind_some] at h
 split at h
 · rename_i c el m hc
   injection h with h
   subst h
   exact ⟨el,m,hc⟩
 · cases h
theorem zHn {H:Type} {enc:TypeId×Value->H} {P:Program} {w:World} {base:Nat} {sp:Nat->Bool} {held:Bool} {fuel n:Nat} {t e:TypeId} {k:IntKind} {cs:List Value} {l:List Int} {p:List MemPlace}
 (ht:P.underlying t=some (.array n e)) (he:P.underlying e=some (.int k)) (hc:P.cellsOf e=1) (hct:P.cellsOf t=n) (h:DataW.trod enc P w base sp held fuel t cs=some (.agg (l.map fun z=>.lit (.int k z)),p)):cs=l.map fun z=>.int k z:=by
 obtain ⟨xs,m,rfl,hx,hlen,hn,hel⟩:=DataW.trod_array ht h
 injection hx with hx _
 injection hx with hx
 have hll:l.length=n:=by
  have:=congrArg List.length hx
  simp only [List.length_map] at this
  omega
 refine List.ext_getElem (by rw [hlen,hct,List.length_map,hll]) fun i h1 h2=>?_
 rw [List.getElem_map]
 have hi:i < n:=by rw [hlen,hct] at h1; exact h1
 have h3:=hel i hi
 rw [hc,Nat.mul_one,List.drop_eq_getElem_cons h1,List.take_succ_cons,List.take_zero,List.getElem?_eq_getElem (by omega)] at h3
 obtain ⟨z,e1,e2,_⟩:=DataW.trod_int he h3
 injection e1 with e1 _
 have h4:(xs.map (·.1))[i]'(by rw [List.length_map]; omega)=(l.map fun z=>DataW.lit (.int k z))[i]'(by rw [List.length_map]; omega):=by
  simp only [hx]
 rw [List.getElem_map,List.getElem_map,e2] at h4
 injection h4 with h4
 injection h4 with _ h4
 rw [e1,h4]
theorem zHE {H:Type} {enc:TypeId×Value->H} {P:Program} {w:World} {base:Nat} {sp:Nat->Bool} {held:Bool} {fuel n:Nat} {t e:TypeId} {cs:List Value} {l:List (List UInt8)} {p:List MemPlace}
 (ht:P.underlying t=some (.array n e)) (he:P.underlying e=some .string) (hc:P.cellsOf e=1) (hct:P.cellsOf t=n) (h:DataW.trod enc P w base sp held fuel t cs=some (.agg (l.map fun z=>.lit (.string z)),p)):cs=l.map fun z=>strV z:=by
 obtain ⟨xs,m,rfl,hx,hlen,hn,hel⟩:=DataW.trod_array ht h
 injection hx with hx _
 injection hx with hx
 have hll:l.length=n:=by
  have:=congrArg List.length hx
  simp only [List.length_map] at this
  omega
 refine List.ext_getElem (by rw [hlen,hct,List.length_map,hll]) fun i h1 h2=>?_
 rw [List.getElem_map]
 have hi:i < n:=by rw [hlen,hct] at h1; exact h1
 have h3:=hel i hi
 rw [hc,Nat.mul_one,List.drop_eq_getElem_cons h1,List.take_succ_cons,List.take_zero,List.getElem?_eq_getElem (by omega)] at h3
 obtain ⟨z,e1,e2,_⟩:=DataW.trod_string he h3
 injection e1 with e1 _
 have h4:(xs.map (·.1))[i]'(by rw [List.length_map]; omega)=(l.map fun z=>DataW.lit (.string z))[i]'(by rw [List.length_map]; omega):=by
  simp only [hx]
 rw [List.getElem_map,List.getElem_map] at h4
 rw [e2] at h4
 injection h4 with h4
 injection h4 with h4
 rw [e1,<- h4]
 unfold strV
 cases z; simp
theorem zIY {W:World} {g:Nat} {cs:Array Value} {el:TypeId} {m:Nat×Nat} (h:W.heap[g]? = some (.cells cs el m)):cs.toList.length<=wmOf W g:=by
 unfold wmOf
 rw [h]
 simp
def spI:List Int:=[0,0,0,0,0,0,0,0,0,1,1,1,1,1,0,0,0,0,0,0,0,0,0,0,0,0,0,0,0,0,0,0,1,0,0,0,0,0,0,0,0,0,0,0,0,0,0,0,0,0,0,0,0,0,0,0,0,0,0,0,0,0,0,0,0,0,0,0,0,0,0,0,0,0,0,0,0,0,0,0,0,0,0,0,0,0,0,0,0,0,0,0,0,0,0,0,0,0,0,0,0,0,0,0,0,0,0,0,0,0,0,0,0,0,0,0,0,0,0,0,0,0,0,0,0,0,0,0,0,0,0,0,0,0,0,0,0,0,0,0,0,0,0,0,0,0,0,0,0,0,0,0,0,0,0,0,0,0,0,0,0,0,0,0,0,0,0,0,0,0,0,0,0,0,0,0,0,0,0,0,0,0,0,0,0,0,0,0,0,0,0,0,0,0,0,0,0,0,0,0,0,0,0,0,0,0,0,0,0,0,0,0,0,0,0,0,0,0,0,0,0,0,0,0,0,0,0,0,0,0,0,0,0,0,0,0,0,0,0,0,0,0,0,0,0,0,0,0,0,0,0,0,0,0,0,0]
set_option maxRecDepth 100000 in
theorem zKo:(Rows.laid_strings_asciiSpace:DataW Unit) = .agg (spI.map fun z=>.lit (.int .u8 z)):=by kernel_rfl
set_option maxRecDepth 100000 in
theorem zLx:(spI.map fun z=>Value.int .u8 z)=zBQ:=by kernel_rfl
theorem zFk {W:World} (hsh:W.ShapedOpen Tryd.prog) (h:laidMetH Tryd.prog zFW W):GlobOk W.heap.size (wmOf W) W:=by
 rw [MakeChecks.laidMetH_plain _ _ _ (by kernel_rfl)] at h
 obtain ⟨ps,hv,_⟩:=h
 obtain ⟨g0,t0,cs0,f0,p0,q0,hg0,ht0,hv0,hd0,hv,_⟩:=hv
 obtain ⟨g1,t1,cs1,f1,p1,q1,hg1,ht1,hv1,hd1,hv,_⟩:=hv
 obtain ⟨g2,t2,cs2,f2,p2,q2,hg2,ht2,hv2,hd2,hv,_⟩:=hv
 obtain rfl:=Option.some.inj ((show Tryd.prog.globalNamed "strings.asciiSpace" = some 2 by kernel_rfl).symm.trans hg1)
 obtain rfl:=Option.some.inj ((show Tryd.prog.globalNamed "emend/pptok.signs" = some 0 by kernel_rfl).symm.trans hg2)
 obtain rfl:=Option.some.inj ((show (Tryd.prog.globals[2]?).map (·.type)=some 114 by kernel_rfl).symm.trans ht1)
 obtain rfl:=Option.some.inj ((show (Tryd.prog.globals[0]?).map (·.type)=some 108 by kernel_rfl).symm.trans ht2)
 obtain ⟨el1,m1,k1⟩:=zId hg1 hv1
 obtain ⟨el2,m2,k2⟩:=zId hg2 hv2
 have e1:cs1.toList=zBQ:=(zHn (l:=spI) (k:=.u8) Tryd.underlying114 Tryd.underlying5 (by kernel_rfl) (by kernel_rfl) (hd1.trans (congrArg (fun d=>some (d,p1)) zKo))).trans zLx
 have e2:cs2.toList=signsL.map strV:=zHE (l:=signsL) Tryd.underlying108 Tryd.underlying9 (by kernel_rfl) (by kernel_rfl) hd2
 have lt:∀ {b:Nat} {o:Obj},W.heap[b]? = some o->b < W.heap.size:=fun h=>(Array.getElem?_eq_some_iff.1 h).1
 have hml:∃ arr el m,W.heap[1]? = some (.cells arr el m)/\∃ z,arr.toList=[Value.int .i64 z]:=by
  obtain ⟨cs,hh,hs,hr⟩:=hsh.1 1 #[.int .i64 0] 3 (of_decide_eq_true (by kernel_rfl)) (by kernel_rfl)
  refine ⟨cs,_,_,hh,?_⟩
  obtain ⟨z,hz⟩:=cell_of_shapedOpen_int (P:=Tryd.prog) (w:=W) (g:=1) (t:=3) (zero:=#[.int .i64 0]) (k:=.i64) hsh (of_decide_eq_true (by kernel_rfl)) (by kernel_rfl) rfl (by kernel_rfl) (by kernel_rfl) Tryd.underlying3
  refine ⟨z,?_⟩
  unfold World.cell? at hz
  simp only [hh] at hz
  have h1:cs.size=1:=hs
  obtain ⟨l⟩:=cs
  match l,h1 with
  | [v],_=>
   simp at hz
   rw [hz]
 refine ⟨fun p hp=>?_,fun p hp=>?_⟩
 · simp only [zKX,List.mem_cons,List.not_mem_nil,or_false] at hp
   rcases hp with rfl
   obtain ⟨arr,el,m,h1,h2⟩:=hml
   exact ⟨lt h1,arr,el,m,h1,h2⟩
 · simp only [zCA,List.mem_cons,List.not_mem_nil,or_false] at hp
   rcases hp with rfl | rfl
   · exact ⟨lt k2,⟨cs2,el2,m2,k2,e2⟩,by rw [<- e2]; exact zIY k2⟩
   · exact ⟨lt k1,⟨cs1,el1,m1,k1,e1⟩,by rw [<- e1]; exact zIY k1⟩
theorem zNy {g:Gh} {w:World} (s:ByteArray):RV1 g w (.at (.string ⟨s.data.toList.toArray⟩)) (.string s):=by
 have e:(⟨s.data.toList.toArray⟩:ByteArray)=s:=by cases s; simp
 rw [e]
 exact ⟨[.string s],by simp [RC,one],rfl⟩
theorem zNF (os:Os) (args:Array Value):laidMetH Tryd.prog zFW ((World.doorLaid Tryd.prog 400 os).forCall (fun _ _=>0) ⟨#[],args,[]⟩).memory:=
 laidMetH_of_parts3 (fuel:=8) (laidMet_of_run' 8 (by kernel_rfl) (by kernel_rfl)) (by kernel_rfl) (by kernel_rfl)
theorem zCS {H:Type} {enc:TypeId×Value->H} {a:Assume} {C:Checked} {os:Os} {f:FuncId} {fn:Func} {s:ChangeSpec} {conds:List PathCond} {apart fresh handsOn again:Bool} {X:World->Array Value->Prop}
 (hX:∀ (w w':World) (args:Array Value),w.heap=w'.heap->X w args->X w' args)
 (own:ownKnob C.prog.godebug=none) (started:os.Started) (noInit:C.prog.inits.idxOf? f=none) (hfn:C.prog.funcs[f]? = some fn)
 (witness:∃ (w:World) (tape:Tape) (i:Input),w.os=os/\(w.forCall tape i).Shaped C.prog/\i.vars=[]/\Input.okWide C.prog (w.forCall tape i) .any w.heap.size f i /\
  ((s.pre enc C.prog fn conds apart (w.forCall tape i).memory i.args/\X (w.forCall tape i).memory i.args)/\sizedMet enc C.prog fn (OpenSpec.ofChange s) apart (w.forCall tape i).memory i.args)/\a.holds C.prog (lone (Frame.enter C.prog f i.args .normal) [] (w.forCall tape i)))
 (contract:∀ (W:World) (base:Nat) (args:Array Value) (ds gs:List (DataW H)) (before:List MemPlace),
  (∀ (j:Nat) t v,fn.params[j]? = some t->args[j]? = some v->Value.okWide C.prog W .any base t v)->DataW.Whole enc C.prog fn.params.toList s.vars apart W args.toList ds gs before ->
  W.ShapedOpen C.prog->X W args->Calls C.prog f args W fun e W'=>∃ v,e = .returned v/\s.post enc C.prog fn apart fresh handsOn again W args v W') :
 ReturnsInHanded a C os f .any (fun w args=>(s.pre enc C.prog fn conds apart w args/\X w args)/\sizedMet enc C.prog fn (OpenSpec.ofChange s) apart w args) (s.post enc C.prog fn apart fresh handsOn again):=by
 refine returnsInHanded_of_calls own started noInit witness ?_
 intro w tape i _ hsh _ hok hpre _
 obtain ⟨_,_,_,fn',hfn',_,_,_,_,hval⟩:=hok
 obtain rfl:fn' = fn:=Option.some.inj (hfn'.symm.trans hfn)
 obtain ⟨⟨⟨ds,gs,before,hw,_⟩,hx⟩,_⟩:=hpre
 refine (contract (w.forCall tape i) w.heap.size i.args ds gs before hval (DataW.Whole.of_heap (w':=w.forCall tape i) (by rfl) hw) hsh (hX _ _ _ (by rfl) hx)).mono ?_
 rintro e W' ⟨v,rfl,hp⟩
 exact ChangeSpec.post_blind hp
end
end Go.Proofs.YtonnigoiklahdaaDoor
namespace Go.Den
section
open Go.Al Go.ChangeShapes Go.WideShapes Go.ChangeAt Go.RowKit
theorem k9 {g:Gh} {w:World}:∀ zs:List (List UInt8),RCs g w (zs.map fun z=>V.at (.string ⟨z.toArray⟩)) (zs.map fun z=>.string ⟨z.toArray⟩)
 | []=>by simp [RCs]
 | z::r=>by
  simp only [List.map_cons,RCs]
  exact ⟨[.string ⟨z.toArray⟩],_,rfl,by simp [RC,one],k9 r⟩
theorem zKC (s:ByteArray):(⟨s.data.toList.toArray⟩:ByteArray)=s:=by
 obtain ⟨d⟩:=s
 show (⟨d.toList.toArray⟩:ByteArray)=⟨d⟩
 rw [Array.toArray_toList]
theorem zLI {P:Program} {W:World} {base:Nat} {H:Type} {enc:TypeId×Value->H} {t e:TypeId} {v:Value} {d:DataW H} {ps:List MemPlace} (ht:P.underlying t=some (.slice e)) (he:P.underlying e=some .string) (hc:P.cellsOf e=1)
 (hv:Value.okWide P W .any base t v) (hd:DataW.Trod enc P W 0 (fun _=>true) true t v d ps) :
 ∃ (n:Bool) (zs:List (List UInt8)),RV1 ⟨wmOf W,fun _=>none,Fr.no⟩ W (.lst (if n then .nil else .no) (zs.map fun z=>V.at (.string ⟨z.toArray⟩))) v:=by
 obtain ⟨a0,len0,cap0,rfl⟩:=okWide_slice ht hv
 obtain ⟨fuel,hf⟩:=hd
 rcases Go.Deep.open_strs ht he hc hf with ⟨hcs,_⟩ | ⟨x,l,c,m,Sx,hcs,_,hl,hm,hmm,_,hcell⟩
 · simp [Value.cells] at hcs
   obtain ⟨rfl,rfl,rfl⟩:=hcs
   exact ⟨true,[],[.slice none 0 0],by simp [RC,zBc],rfl⟩
 · simp [Value.cells] at hcs
   obtain ⟨rfl,rfl,rfl⟩:=hcs
   have hspot:x.spot=none:=by
    simp only [Value.okWide,ht,Cell.okWide,Cell.ok] at hv
    exact hv.2.2.2.1
   obtain ⟨b,o,sp⟩:=x
   simp only at hspot
   subst hspot
   have hmc:m=cap0:=by rw [hmm]; rfl
   subst hmc
   refine ⟨false,(List.range len0).map fun i=>(Sx i).data.toList,[.slice (some ⟨b,o,none⟩) len0 m],?_,rfl⟩
   simp only [RC,Bool.false_eq_true,if_false]
   refine .inr ⟨b,o,m,((List.range len0).map fun i=>(Sx i).data.toList).map fun z=>.string ⟨z.toArray⟩,?_,?_,trivial,k9 _,⟨1,?_,fun _ _ _ h=>by cases h⟩,?_⟩
   · simp
   · simp; omega
   · intro y hy
     obtain ⟨z,_,rfl⟩:=List.mem_map.1 hy
     rfl
   · intro k u hk
     rw [List.map_map,List.getElem?_map] at hk
     cases hq:(List.range len0)[k]? with
     | none=>rw [hq] at hk; cases hk
     | some i=>
      rw [hq] at hk
      injection hk with hk
      subst hk
      obtain ⟨hlt,rfl⟩:=List.getElem?_eq_some_iff.1 hq
      rw [List.length_range] at hlt
      rw [List.getElem_range]
      have h1:=(hcell k (by omega)).1
      have h3:(⟨b,o,none⟩:Addr).add k=⟨b,o+k,none⟩:=by
       unfold Addr.add
       split
       · rename_i h0; subst h0; rfl
       · rfl
      rw [h3] at h1
      show W.cell? ⟨b,o+k,none⟩=some (.string ⟨(Sx k).data.toList.toArray⟩)/\_
      rw [zKC]
      exact ⟨h1,zMA h1⟩
end
section
open Go.Al
theorem zH3 {P:Program} {X:Cx} {Q Q':Exit->Env->S->Prop} {c:Code} {E:Env} {s:S} (h:awp P X c Q E s) (hq:∀ ex E' s',Q ex E' s'->∃ E2 s2,Gst X E' s' E2 s2/\Q' ex E2 s2):awp P X c Q' E s:=by
 intro g a w hr
 refine wpIn_mono (h g a w hr) ?_
 rintro ex a' w' ⟨g',e',st',k1,k2,k3⟩
 obtain ⟨E2,s2,hg,hq2⟩:=hq ex e' st' k3
 obtain ⟨g2,r1,r2⟩:=hg g' a' w' k2
 exact ⟨g2,E2,s2,k1.trans r1,r2,hq2⟩
theorem zJL {X:Cx} {E:Env} {s:S} (t bb n cap sz:Nat) (es:List V) {css:List V} {kk:Nat} (ht:E.get t = .at (.slice (some ⟨bb,0,none⟩) n cap))
 (hb:Al.look s.box bb=some (css,kk)) (hn:es.length=n) (hcap:n<=cap) (hes:css.take (n * sz)=zN es) (hlen:n * sz<=css.length) (hsz:z7 sz es) (h1:∀ x ∈ es,zJ x.flat) (hu:es.map V.untag=es) :
 Gst X E s (E.put t (.lst .no es)) ⟨wipe s.box bb,s.tg,s.nx,s.ob⟩:=by
 intro g a w hr
 have hi:=hr.inv
 obtain ⟨p1,p2,p3,p4,arr,el,us,p5,p6,p7,p8⟩:=hi.box bb css kk hb
 have hlt:bb < w.heap.size:=(Array.getElem?_eq_some_iff.1 p5).1
 have hone:zJ css:=by unfold zJ; rw [List.all_eq_true]; exact p4
 have hul:=zc g w css us p7
 rw [zn hone] at hul
 have hla:Later g w ⟨fun i=>if i=bb then n * sz else g.wm i,g.tb,g.fr⟩ w:=⟨fun i=>by
  show g.wm i<=if i=bb then n * sz else g.wm i
  split
  · rename_i e1; subst e1; rw [p2]; exact Nat.zero_le _
  · exact Nat.le_refl _,fun _ _ e1=>e1,fun _ _ _=>rfl⟩
 have hs:Step X.B g w ⟨fun i=>if i=bb then n * sz else g.wm i,g.tb,g.fr⟩ w:=⟨hla,.refl _ _,fun i hi'=>⟨rfl,if_neg (fun e=>by subst e; rw [(hi.boxFr hb).1] at hi'; cases hi')⟩,fun i hi'=>if_neg (by omega),rfl⟩
 have hi1:Inv X.B ⟨fun i=>if i=bb then n * sz else g.wm i,g.tb,g.fr⟩ ⟨wipe s.box bb,s.tg,s.nx,s.ob⟩ w:=by
  refine ⟨hi.base,?_,hi.tag,?_,hi.dist,hi.nodup,fun i hi'=>?_,hi.names,hi.ex.step hla (Nat.le_refl _) rfl rfl (fun b' o fp hl j hj=>⟨rfl,if_neg (fun e=>by subst e; exact (hi.boxFr hb).2 b' o fp hl hj)⟩) (fun j hj _=>by rw [yh]; split <;> first | rfl | exact hj) (fun j _ h=>h)⟩
  · intro b' cs' k' hl
    simp only [yh] at hl
    split at hl
    · cases hl
    · rename_i e1
      obtain ⟨r1,r2,r3,r4,arr',el',us',r5,r6,r7,r8⟩:=hi.box b' cs' k' hl
      exact ⟨r1,by show (if b' = bb then _ else g.wm b')=0; rw [if_neg (fun e2=>e1 e2.symm)]; exact r2,r3,r4,arr',el',us',r5,r6,zY hla _ _ r7,r8⟩
  · intro t ht b' cap' n' sz' hb'
    obtain ⟨r1,r2,r3,r4,r5,r6⟩:=hi.own t ht b' cap' n' sz' hb'
    have e1:b'≠bb:=fun e1=>by subst e1; rw [hb] at r5; cases r5
    exact ⟨r1,by show (if b' = bb then _ else g.wm b')=_; rw [if_neg e1]; exact r2,r3,r4,by rw [yh]; split <;> first | rfl | exact r5,r6⟩
  · show (if i=bb then _ else g.wm i)=0
    rw [if_neg (by omega)]
    exact hi.fresh i hi'
 have hds:RCs g.bare w es (us.take (n * sz)):=by
  have h2:=(zk hone p7 (n * sz)).1
  rw [hes] at h2
  have h3:=jX (zCh h1 h2) h1
  rwa [hu] at h3
 have hlst:RC ⟨fun i=>if i=bb then n * sz else g.wm i,g.tb,g.fr⟩ w (.lst .no es) [.slice (some ⟨bb,0,none⟩) n cap]:=by
  simp only [RC]
  refine .inr ⟨bb,0,cap,us.take (n * sz),by rw [hn],by omega,trivial,zY hla.bare _ _ hds,⟨sz,hsz,fun _ _ _ e1=>by cases e1⟩,?_⟩
  intro i u hiu
  rw [List.getElem?_take] at hiu
  split at hiu
  · rename_i hlt2
    refine ⟨?_,?_⟩
    · rw [Nat.zero_add,cell_of_row w bb i arr el (0,0) p5]
      rw [<- p8,List.getElem?_take] at hiu
      split at hiu
      · simpa using hiu
      · cases hiu
    · show 0+i < if bb=bb then n * sz else g.wm bb
      rw [if_pos rfl]; omega
  · cases hiu
 refine ⟨_,hs,hi1,fun j=>?_,hr.size,hr.df,hr.gl.below (.refl _ _) hla.wm⟩
 rw [Env.get_put]
 split
 · rename_i e1
   subst e1
   have h0:=hr.env t
   rw [ht] at h0
   rw [zT h0]
   exact yg hlst
 · exact (hr.env j).later hla
section
variable {U:TyU} (C:Cod U) (Tb:TypeId->TD U) {R:Type}
def frzR {R:Type}:List ResultVar->En U->St U->(En U->St U->Option R)->Option R
 | [],e,st,K=>K e st
 | v::r,e,st,K=>match v with
  | .tmp t=>(match eget e t with
   | .sl l n=>(match lk st.bx l with
    | some (.ar i xs)=>bif Nat.ble n xs.length then frzR r ((t,.lst (.b false) i (zW n xs))::e) ⟨(l,none)::st.bx,st.tg,st.nl,st.nx,st.ob⟩ K else none
    | _=>none)
   | _=>frzR r e st K)
  | .cell _ _=>frzR r e st K
variable {C Tb} {P:Program} {r:R}
theorem zDc (hC:CodOk C) {X:Cx} {N:NM}:∀ (rs:List ResultVar) {e:En U} {E:Env} {st:St U} {s:S} {K:En U->St U->Option R},SSim C N st s->ESim C N st e E->frzR rs e st K=some r ->
 ∃ e' E' st' s',K e' st' = some r/\Gst X E s E' s'/\SSim C N st' s'/\ESim C N st' e' E'
 | [],e,E,st,s,K,hs,he,h=>⟨e,E,st,s,h,.refl _ _ _,hs,he⟩
 | v::rs,e,E,st,s,K,hs,he,h=>by
  have go:frzR rs e st K=some r->∃ e' E' st' s',K e' st' = some r/\Gst X E s E' s'/\SSim C N st' s'/\ESim C N st' e' E':=fun hh=>zDc hC rs hs he hh
  cases v with
  | cell p t=>simp only [frzR] at h; exact go h
  | tmp t=>
   simp only [frzR] at h
   split at h
   · rename_i l n ht
     split at h
     · rename_i i xs hl
       obtain ⟨h1,h2⟩:=zH h
       have h1:n<=xs.length:=by simpa [Nat.ble_eq] using h1
       have hw:=hs.wf l _ hl
       have hE:=((he t).1).get (by rw [ht]; simp)
       rw [ht] at hE
       have hlen:=yu hC i xs
       have htk:(zW n xs).length=n:=by unfold zW; rw [List.length_take]; omega
       have hg:Gst X E s (E.put t (.lst .no ((zW n xs).map (C.encV i)))) ⟨wipe s.box (N.bl l),s.tg,s.nx,s.ob⟩:=by
        refine zJL t (N.bl l) n (N.cp l) (C.cells i) _ hE (hs.box l _ hl) (by rw [List.length_map,htk]) (by have:=hw.2; omega) (qD hC i xs n) ?_ (ju hC i _) ?_ ?_
        · rw [hlen]; exact Nat.mul_le_mul_right _ h1
        · intro x hx
          obtain ⟨y,_,rfl⟩:=List.mem_map.1 hx
          exact hC.ones i y
        · rw [List.map_map]
          exact List.map_congr_left fun y _=>hC.untag i y
       have hs2:=hs.drop l hl
       have hb:bdd st.nl st.nx (T.lst (.b false) i (zW n xs):T U)=true:=rfl
       have he2:ESim C N ⟨(l,none)::st.bx,st.tg,st.nl,st.nx,st.ob⟩ ((t,.lst (.b false) i (zW n xs))::e) (E.put t (.lst .no ((zW n xs).map (C.encV i)))):=by
        have:=ESim.put (st:=⟨(l,none)::st.bx,st.tg,st.nl,st.nx,st.ob⟩) (e:=e) (E:=E) (v:=.lst (.b false) i (zW n xs)) (v':=.lst .no ((zW n xs).map (C.encV i))) he (.inr rfl) hb (some t)
        exact this
       obtain ⟨e',E',st',s',q1,q2,q3,q4⟩:=zDc hC rs hs2 he2 h2
       exact ⟨e',E',st',s',q1,hg.trans q2,q3,q4⟩
     · cases h
   · exact go h
def zl (C:Cod U) (Tb:TypeId->TD U) (fu d:Nat) (inl:Nat->Option (FD U)) (orc:Nat->Option (Con U)) (orr:Nat->Option (CR U)) (orp:Nat->Option (CP U)) (fd:FD U) (az rs:List (AK U)) (nf:Nat->Bool) (x:zI az):Option (zI rs):=
 drun C Tb fu (zAU C Tb fu inl orc orr orp none d) fd.fi fd.body (zAa 0 (yY C az nf 0 x)) ⟨[],[],0,0,[]⟩ fun ex e' st'=>match ex with
  | .normal=>frzR fd.rs e' st' fun e' st'=>dres C Tb e' st' fd.rs fun vs=>zAZ C rs vs some
  | .ret=>frzR fd.rs e' st' fun e' st'=>dres C Tb e' st' fd.rs fun vs=>zAZ C rs vs some
  | _=>none
theorem zV (hT:TbOk C P Tb) (hC:CodOk C) (hm:P.follows .mixedOrders=true) {syn:List PanicEntry} {pf rf:FuncId->Bool} {fu d:Nat} {inl:Nat->Option (FD U)} {orc:Nat->Option (Con U)} {orr:Nat->Option (CR U)} {orp:Nat->Option (CP U)} (hpf:∀ f,pf f=(orc f).isSome) (hrf:∀ f,rf f=(orr f).isSome)
 (hin:∀ f fd,inl f=some fd->FDOk P pf rf f fd) (hor:∀ f c,orc f=some c->OrcOk C P f c)
 (hrr:∀ f c,orr f=some c->zL P f=true/\CROk C P f c) (hpp:∀ f c,orp f=some c->zL P f=true/\CPOk C P syn f c) {f:Nat} {fd:FD U} (hfd:FDOk P pf rf f fd) {c:Con U} (hlen:c.as.length<=fd.n)
 (hrs:∀ a ∈ c.rs,∀ i,a≠.ls i) (h:∀ nf x,zl C Tb fu d inl orc orr orp fd c.as c.rs nf x=c.fn x):ConOk C P f c:=by
 intro x y hx vs hvs
 obtain ⟨fn,q1,q2,q3,q4⟩:=hfd.fn
 have hnf:∃ nf,vs=(yY C c.as nf 0 x).map (trT C ⟨id,id,id,id⟩):=by
  have key:∀ (az:List (AK U)) (x:zI az) (vs:List V) (j:Nat),zAc C az x vs->∃ nf:Nat->Bool,vs=(yY C az nf j x).map (trT C ⟨id,id,id,id⟩):=by
   intro az
   induction az with
   | nil=>intro x vs j h; exact ⟨fun _=>false,h⟩
   | cons a r ih=>
    intro x vs j h
    obtain ⟨v,vs',rfl,h1,h2⟩:=h
    obtain ⟨nf,h3⟩:=ih x.2 vs' (j+1) h2
    have h4:∃ n,v=trT C ⟨id,id,id,id⟩ (argT C a n x.1):=by
     cases a with
     | ls i=>obtain ⟨n,hn⟩:=h1; exact ⟨n,by rw [hn]; cases n <;> rfl⟩
     | _=>exact ⟨false,h1⟩
    obtain ⟨n,h4⟩:=h4
    have hcong:∀ (az:List (AK U)) (x:zI az) (nf nf':Nat->Bool) (j:Nat),(∀ m,j<=m->nf m=nf' m)->yY C az nf j x=yY C az nf' j x:=by
     intro az
     induction az with
     | nil=>intros; rfl
     | cons a r ih=>
      intro x nf nf' j hh
      simp only [yY,hh j (Nat.le_refl _),ih x.2 nf nf' (j+1) fun m hm=>hh m (by omega)]
    refine ⟨fun m=>if m=j then n else nf m,?_⟩
    simp only [yY,List.map_cons,if_true]
    rw [h3,h4,hcong r x.2 (fun m=>if m=j then n else nf m) nf (j+1) fun m hm=>if_neg (by omega)]
  exact key c.as x vs 0 hvs
 obtain ⟨nf,rfl⟩:=hnf
 have hlenA:∀ (az:List (AK U)) (nf:Nat->Bool) (j:Nat) (x:zI az),(yY C az nf j x).length=az.length:=by
  intro az
  induction az with
  | nil=>intros; rfl
  | cons a r ih=>intro nf j x; simp [yY,ih]
 have hrun:=(h nf x).trans hx
 unfold zl at hrun
 refine zI2 q1 q2 q3 q4 (by rw [List.length_map,hlenA]; exact hlen) fun B=>?_
 have resV:∀ (rs:List (AK U)),(∀ a ∈ rs,∀ i,a≠.ls i)->∀ (y:zI rs) (us:List V) (j:Nat),zAc C rs y us->us=(yY C rs (fun _=>false) j y).map (trT C ⟨id,id,id,id⟩):=by
  intro rs
  induction rs with
  | nil=>intro _ y us j hu; exact hu
  | cons a r ih=>
   intro hr y us j hu
   obtain ⟨v,vs',rfl,h1,h2⟩:=hu
   simp only [yY,List.map_cons]
   rw [<- ih (fun a ha=>hr a (by simp [ha])) y.2 vs' (j+1) h2]
   congr 1
   cases a with
   | ls i=>exact absurd rfl (hr (.ls i) (by simp) i)
   | _=>exact h1
 refine zH3 (Q:=fun ex E' s'=>∃ E2 s2,Gst ⟨B,⟨fd.n,[]⟩,none,[]⟩ E' s' E2 s2/\retE P fd.rs (fun oc _=>oc = .ret (finV ((yY C c.rs (fun _=>false) 0 y).map (trT C ⟨id,id,id,id⟩)))) ex E2 s2) ?_ (fun _ _ _ hq=>hq)
 refine xJ (X:=⟨B,⟨fd.n,[]⟩,none,[]⟩) (PP:=fun e=>e=syn/\(none:Option (zI c.rs))=some y) hT hC hm (zAR hT hC hm hpf hrf hin hor hrr hpp d fd.fi.wr fd.fi.own) fd.body (SSim.empty ⟨id,id,id,id⟩ 0 0 _) (qd (st:=⟨[],[],0,0,[]⟩) _ 0 (zAV hC c.as nf 0 x)) hrun hfd.ok hfd.hok (fun e s' hq=>by cases hq.2) ?_
 intro ex N' e' st' E' s' p1 p2 p3 p4 _
 have fin:(frzR fd.rs e' st' fun e' st'=>dres C Tb e' st' fd.rs fun vs=>zAZ C c.rs vs some)=some y->∃ E2 s2,Gst ⟨B,⟨fd.n,[]⟩,none,[]⟩ E' s' E2 s2/\yJ P fd.rs E2 s2 fun xs=>Outc.ret (finV xs) = .ret (finV ((yY C c.rs (fun _=>false) 0 y).map (trT C ⟨id,id,id,id⟩))):=fun hh=>by
  obtain ⟨e2,E2,st2,s2,u1,u2,u3,u4⟩:=zDc (X:=⟨B,⟨fd.n,[]⟩,none,[]⟩) hC fd.rs p3 p4 hh
  refine ⟨E2,s2,u2,zBL hT hC u3 u4 fd.rs u1 fun vs hv=>?_⟩
  obtain ⟨y',h1,h2⟩:=zCD hC c.rs hv
  injection h1 with h1
  subst h1
  rw [resV c.rs hrs y' _ 0 (h2 N')]
 cases ex <;> simp only at p1 <;> first | exact fin p1 | cases p1
def zJ3 (C:Cod U) (Tb:TypeId->TD U) (fu d:Nat) (inl:Nat->Option (FD U)) (orc:Nat->Option (Con U)) (orr:Nat->Option (CR U)) (orp:Nat->Option (CP U)) (fd:FD U) (io oo az rs:List (SK U)) (x:zB io) (a:zB az):Option (Option (zB oo×zB rs)):=
 xp C io x ⟨[],[],0,0,[]⟩ fun vs st=>feS st fun st=>xp C az a st fun ws st=>feS st fun st=>feA (vs++ws) fun ts=>
 drun C Tb fu (zAU C Tb fu inl orc orr orp (some none) d) fd.fi fd.body (zAa 0 ts) st fun ex e' st'=>match ex with
  | .normal=>frzR fd.rs e' st' fun e' st'=>dres C Tb e' st' fd.rs fun us=>kM C rs us fun z=>yd C oo vs st' fun y _=>some (some (y,z))
  | .ret=>frzR fd.rs e' st' fun e' st'=>dres C Tb e' st' fd.rs fun us=>kM C rs us fun z=>yd C oo vs st' fun y _=>some (some (y,z))
  | _=>none
theorem zNA (hT:TbOk C P Tb) (hC:CodOk C) (hm:P.follows .mixedOrders=true) {syn:List PanicEntry} {pf rf:FuncId->Bool} {fu d:Nat} {inl:Nat->Option (FD U)} {orc:Nat->Option (Con U)} {orr:Nat->Option (CR U)} {orp:Nat->Option (CP U)}
 (hpf:∀ f,pf f=(orc f).isSome) (hrf:∀ f,rf f=(orr f).isSome) (hin:∀ f fd,inl f=some fd->FDOk P pf rf f fd) (hor:∀ f c,orc f=some c->OrcOk C P f c)
 (hrr:∀ f c,orr f=some c->zL P f=true/\CROk C P f c) (hpp:∀ f c,orp f=some c->zL P f=true/\CPOk C P syn f c) {f:Nat} {fd:FD U} (hfd:FDOk P pf rf f fd) {io oo az rs:List (SK U)} (hlen:io.length+az.length<=fd.n)
 {fn:zB io->zB az->Option (Option (zB oo×zB rs))} (h:∀ x a,zJ3 C Tb fu d inl orc orr orp fd io oo az rs x a=fn x a):CPOk C P syn f ⟨io,oo,az,rs,fnP fn⟩:=by
 intro x a R pan K r hr
 unfold fnP at hr
 simp only at hr
 cases hx:fn x a with
 | none=>rw [hx] at hr; cases hr
 | some oc=>
  rw [hx] at hr
  simp only [Option.bind_some] at hr
  refine ⟨oc,by cases oc <;> exact hr,fun s vx va r1 r2 hv1 hv2 hn=>?_⟩
  obtain ⟨fn',q1,q2,q3,q4⟩:=hfd.fn
  have hrun:=(h x a).trans hx
  unfold zJ3 at hrun
  have hv1':=xG io x hv1 ((zAl s (r1++r2)).mono fun y hy=>List.mem_append_left _ hy)
  have hv2':=xG az a hv2 ((zAl s (r1++r2)).mono fun y hy=>List.mem_append_right _ hy)
  generalize subS s (r1++r2)=s0 at hv1' hv2' ⊢
  obtain ⟨hn1,hn2,hn3⟩:=List.nodup_append.1 hn
  have hno:∀ y,¬ Has ⟨id,id,id,id⟩ (⟨[],[],0,0,[]⟩:St U) y:=fun y hy=>by
   cases y with
   | inl n=>obtain ⟨t,ht,_⟩:=hy; cases ht
   | inr b=>obtain ⟨l,b,hl,_⟩:=hy; simp [lk] at hl
   | ob b=>obtain ⟨l,b,hl,_⟩:=hy; simp [lko] at hl
  obtain ⟨N1,vs1,st1,k1,k2,k3,k4,k5,k6⟩:=xL hC io x (SSim.empty ⟨id,id,id,id⟩ 0 0 s0) hv1' hn1 (fun y hy hh=>hno y hh) hrun
  rw [yS] at k1
  obtain ⟨N2,vs2,st2,p1,p2,p3,p4,p5,p6⟩:=xL hC az a k3 hv2' hn2 (fun y hy hh=>by
   rcases k6 y hh with q | q
   · exact hno y q
   · exact hn3 y q y hy rfl) k1
  rw [yS,jt] at p1
  have e1:vs1.map (trT C N2)=vx:=by rw [yD p2.ext k5,k4]
  have hbd:bdds st2.nl st2.nx (vs1++vs2)=true:=zAt (yA p2.nl p2.nx _ k5) p5
  have hargs:vx++va=(vs1++vs2).map (trT C N2):=by rw [List.map_append,e1,p4]
  have hl1:vx.length=io.length:=qp io x hv1
  have hl2:va.length=az.length:=qp az a hv2
  rw [hargs]
  refine zCL q1 q2 q3 q4 (by rw [<- hargs,List.length_append,hl1,hl2]; exact hlen) fun B=>?_
  refine zH3 (Q:=fun ex E' s'=>∃ E2 s2,Gst ⟨B,⟨fd.n,[]⟩,none,[]⟩ E' s' E2 s2/\retE P fd.rs (zAk C syn oo rs vx oc) ex E2 s2) ?_ (fun _ _ _ hq=>hq)
  refine xJ (X:=⟨B,⟨fd.n,[]⟩,none,[]⟩) (PP:=fun e=>e=syn/\(some none:Option (Option (zB oo×zB rs)))=some oc) hT hC hm (zAR hT hC hm hpf hrf hin hor hrr hpp d fd.fi.wr fd.fi.own) fd.body p3 (qd (vs1++vs2) 0 hbd) p1 hfd.ok hfd.hok (fun e s' hq=>by
   obtain ⟨h1,h2⟩:=hq
   injection h2 with h2
   subst h2
   exact ⟨_,_,.refl _ _ _,h1⟩) ?_
  intro ex N' e' st' E' s' u1 u2 u3 u4 _
  have fin:(frzR fd.rs e' st' fun e' st'=>dres C Tb e' st' fd.rs fun us=>kM C rs us fun z=>yd C oo vs1 st' fun y _=>some (some (y,z)))=some oc->∃ E2 s2,Gst ⟨B,⟨fd.n,[]⟩,none,[]⟩ E' s' E2 s2/\yJ P fd.rs E2 s2 fun xs=>zAk C syn oo rs vx oc (.ret (finV xs)) s2:=fun hh=>by
   obtain ⟨e2',E2,st2',s2,w1,w2,w3,w4⟩:=zDc (X:=⟨B,⟨fd.n,[]⟩,none,[]⟩) hC fd.rs u3 u4 hh
   refine ⟨E2,s2,w2,zBL hT hC w3 w4 fd.rs w1 fun us hv=>?_⟩
   obtain ⟨z,h1,h2⟩:=zEQ hC rs hv
   obtain ⟨y,st3,q,h3,_,_,_,h4,h5,_,_⟩:=xQ hC oo (vs:=vs1) (vs':=vs1.map (trT C N')) w3 (by simp) (fun j x v a b=>by
    rw [List.getElem?_map,a] at b
    injection b with b
    exact .inr b.symm) h1
   injection h3 with h3
   subst h3
   have e2:vs1.map (trT C N')=vx:=by rw [yD u2.ext (yA p2.nl p2.nx _ k5),e1]
   rw [e2] at h4
   exact ⟨_,q,[],h4,h2 N' s2,by simpa using h5,rfl⟩
  cases ex <;> simp only at u1 <;> first | exact fin u1 | cases u1
end
end
end Go.Den
namespace Go.Proofs.YtonnigoiklahdaaDoor
section
open Go.Al
inductive VT where
 | num (n:Int)
 | un (s:List UInt8) (x:VT)
 | bin (s:List UInt8) (x y:VT)
 | cho (c x y:VT)
instance:Inhabited VT:=⟨.num 0⟩
def VT.enc:VT->Value
 | .num n=>.iface 105 (.int .i64 n)
 | .un s x=>.iface 110 (.agg #[.string ⟨s.toArray⟩,x.enc])
 | .bin s x y=>.iface 104 (.agg #[.string ⟨s.toArray⟩,x.enc,y.enc])
 | .cho c x y=>.iface 88 (.agg #[c.enc,x.enc,y.enc])
def vi (n:Int):V:=.at (.int .i64 n)
def vs (s:List UInt8):V:=.at (.string ⟨s.toArray⟩)
def sl (es:List V):V:=.lst (zz es) es
inductive Nd where
 | mk (sign:List UInt8) (n:Int) (kids:List Nd)
mutual
def zDb:Nd->V
 | .mk k a l=>.agg [vs k,vi a,sl (zFX l)]
def zFX:List Nd->List V
 | []=>[]
 | x::r=>zDb x::zFX r
end
theorem zFO:∀ l:List Nd,zFX l=l.map zDb
 | []=>rfl
 | x::r=>by simp [zFX,zFO r]
theorem zIX (k:List UInt8) (a:Int) (l:List Nd):zDb (.mk k a l) = .agg [vs k,vi a,sl (l.map zDb)]:=by rw [zDb,zFO]
end
section
open Go.Al
theorem zKU:hasT Tryd.prog 3=true:=by kernel_rfl
theorem zJ2:yP Tryd.prog 3=false:=by kernel_rfl
theorem zIM:Tryd.prog.cellsOf 3=1:=by kernel_rfl
theorem zH6:Tryd.prog.bytesOf 3=8:=by kernel_rfl
theorem zKs:za Tryd.prog 3=some [.at (.int .i64 0)]:=by kernel_rfl
theorem zKM:hasT Tryd.prog 4=true:=by kernel_rfl
theorem zKn:yP Tryd.prog 4=false:=by kernel_rfl
theorem zH2:Tryd.prog.cellsOf 4=1:=by kernel_rfl
theorem zH8:Tryd.prog.bytesOf 4=1:=by kernel_rfl
theorem zIQ:kZ Tryd.prog 4=true:=by kernel_rfl
theorem zJ1:za Tryd.prog 4=some [.at (.bool false)]:=by kernel_rfl
theorem zKR:hasT Tryd.prog 5=true:=by kernel_rfl
theorem zJ9:yP Tryd.prog 5=false:=by kernel_rfl
theorem zIO:Tryd.prog.cellsOf 5=1:=by kernel_rfl
theorem zH9:Tryd.prog.bytesOf 5=1:=by kernel_rfl
theorem zKq:za Tryd.prog 5=some [.at (.int .u8 0)]:=by kernel_rfl
theorem zKu:hasT Tryd.prog 9=true:=by kernel_rfl
theorem zKz:yP Tryd.prog 9=false:=by kernel_rfl
theorem zIP:Tryd.prog.cellsOf 9=1:=by kernel_rfl
theorem zHK:Tryd.prog.bytesOf 9=16:=by kernel_rfl
theorem zKW:xh Tryd.prog 9=true:=by kernel_rfl
theorem zKa:za Tryd.prog 9=some [.at (.string .empty)]:=by kernel_rfl
theorem zIh:hasT Tryd.prog 54=true:=by kernel_rfl
theorem zIp:yP Tryd.prog 54=false:=by kernel_rfl
theorem zFz:Tryd.prog.cellsOf 54=1:=by kernel_rfl
theorem zFe:Tryd.prog.bytesOf 54=8:=by kernel_rfl
theorem zHe:za Tryd.prog 54=some [.at (.pointer none)]:=by kernel_rfl
theorem zHJ:hasT Tryd.prog 57=true:=by kernel_rfl
theorem zIG:yP Tryd.prog 57=true:=by kernel_rfl
theorem zGC:Tryd.prog.cellsOf 57=2:=by kernel_rfl
theorem zFm:Tryd.prog.bytesOf 57=24:=by kernel_rfl
theorem zCc:jv Tryd.prog 57=true:=by kernel_rfl
theorem zF7:fieldAt Tryd.prog 57 0=some (0,9):=by kernel_rfl
theorem zF5:fieldAt Tryd.prog 57 1=some (1,3):=by kernel_rfl
theorem zHm:za Tryd.prog 57=some [.at (.string .empty),.at (.int .i64 0)]:=by kernel_rfl
theorem code8:zL Tryd.prog 8=true:=by kernel_rfl
theorem code9:zL Tryd.prog 9=true:=by kernel_rfl
theorem zL9:zL Tryd.prog 10=true:=by kernel_rfl
theorem code12:zL Tryd.prog 12=true:=by kernel_rfl
theorem code13:zL Tryd.prog 13=true:=by kernel_rfl
theorem code15:zL Tryd.prog 15=true:=by kernel_rfl
theorem code18:zL Tryd.prog 18=true:=by kernel_rfl
theorem code20:zL Tryd.prog 20=true:=by kernel_rfl
theorem code21:zL Tryd.prog 21=true:=by kernel_rfl
theorem code22:zL Tryd.prog 22=true:=by kernel_rfl
theorem code23:zL Tryd.prog 23=true:=by kernel_rfl
theorem zLE:zL Tryd.prog 26=true:=by kernel_rfl
theorem code27:zL Tryd.prog 27=true:=by kernel_rfl
theorem code28:zL Tryd.prog 28=true:=by kernel_rfl
theorem code29:zL Tryd.prog 29=true:=by kernel_rfl
theorem code30:zL Tryd.prog 30=true:=by kernel_rfl
theorem code34:zL Tryd.prog 34=true:=by kernel_rfl
theorem code35:zL Tryd.prog 35=true:=by kernel_rfl
theorem code36:zL Tryd.prog 36=true:=by kernel_rfl
theorem code37:zL Tryd.prog 37=true:=by kernel_rfl
theorem code39:zL Tryd.prog 39=true:=by kernel_rfl
theorem code40:zL Tryd.prog 40=true:=by kernel_rfl
theorem code41:zL Tryd.prog 41=true:=by kernel_rfl
theorem zIV:zL Tryd.prog 44=true:=by kernel_rfl
theorem code48:zL Tryd.prog 48=true:=by kernel_rfl
theorem code49:zL Tryd.prog 49=true:=by kernel_rfl
theorem zLV:zL Tryd.prog 51=true:=by kernel_rfl
theorem zDR:zL Tryd.prog 52=true:=by kernel_rfl
theorem zFR:zL Tryd.prog 53=true:=by kernel_rfl
theorem zMJ:zL Tryd.prog 54=true:=by kernel_rfl
theorem zE4:zL Tryd.prog 56=true:=by kernel_rfl
theorem zHa:zL Tryd.prog 57=true:=by kernel_rfl
theorem code58:zL Tryd.prog 58=true:=by kernel_rfl
theorem code59:zL Tryd.prog 59=true:=by kernel_rfl
theorem code60:zL Tryd.prog 60=true:=by kernel_rfl
theorem code61:zL Tryd.prog 61=true:=by kernel_rfl
theorem code62:zL Tryd.prog 62=true:=by kernel_rfl
theorem zK7:zL Tryd.prog 65=true:=by kernel_rfl
theorem code66:zL Tryd.prog 66=true:=by kernel_rfl
theorem code67:zL Tryd.prog 67=true:=by kernel_rfl
theorem code68:zL Tryd.prog 68=true:=by kernel_rfl
theorem code69:zL Tryd.prog 69=true:=by kernel_rfl
theorem zLk:zL Tryd.prog 73=true:=by kernel_rfl
theorem code74:zL Tryd.prog 74=true:=by kernel_rfl
theorem zLY:zL Tryd.prog 79=true:=by kernel_rfl
theorem zLa:zL Tryd.prog 80=true:=by kernel_rfl
theorem code82:zL Tryd.prog 82=true:=by kernel_rfl
theorem code83:zL Tryd.prog 83=true:=by kernel_rfl
theorem zNh:zL Tryd.prog 109=true:=by kernel_rfl
theorem zOI:zL Tryd.prog 110=true:=by kernel_rfl
theorem zOA:zL Tryd.prog 111=true:=by kernel_rfl
theorem zOP:zL Tryd.prog 113=true:=by kernel_rfl
theorem zNk:zL Tryd.prog 114=true:=by kernel_rfl
theorem zNu:zL Tryd.prog 115=true:=by kernel_rfl
def ks56:Nat->List Nat
 | 0=>[0,1]
 | 1=>[0,1,16]
 | 2=>[4]
 | 3=>[4]
 | _=>[]
theorem mixed:Tryd.prog.follows .mixedOrders=true:=by kernel_rfl
end
section
open Go.Al Go.Den
def Nd.sign:Nd->List UInt8
 | .mk k _ _=>k
def Nd.num:Nd->Int
 | .mk _ a _=>a
def Nd.kids:Nd->List Nd
 | .mk _ _ l=>l
structure TokT where
 kind:Int
 text:List UInt8
 file:Int
 ffrom:Int
 fto:Int
 blank:Bool
structure CharT where
 b:Int
 fat:Int
structure UnT where
 sign:List UInt8
 x:VT
structure BinT where
 sign:List UInt8
 x:VT
 y:VT
structure ChoT where
 c:VT
 x:VT
 y:VT
inductive TI where
 | int
 | bool
 | u8
 | str
 | tok
 | char
 | val
 | un
 | bin
 | cho
 | node
def TI.no:TI->Nat
 | .int=>0
 | .bool=>1
 | .u8=>2
 | .str=>3
 | .tok=>4
 | .char=>5
 | .val=>6
 | .un=>7
 | .bin=>8
 | .cho=>9
 | .node=>10
theorem TI.no_inj:∀ a b:TI,a.no=b.no->a=b:=by intro a b h; cases a <;> cases b <;> first | rfl | (simp [TI.no] at h)
instance:DecidableEq TI:=fun a b=>if h:a.no=b.no then isTrue (TI.no_inj a b h) else isFalse (fun e=>h (by rw [e]))
def denI:TI->Type
 | .int=>Int
 | .bool=>Bool
 | .u8=>Int
 | .str=>(List UInt8)
 | .tok=>TokT
 | .char=>CharT
 | .val=>VT
 | .un=>UnT
 | .bin=>BinT
 | .cho=>ChoT
 | .node=>Nd
abbrev UU:TyU:={ I:=TI,den:=denI }
def zBR {R:Type} (v:T UU) (K:TokT->Option R):Option R:=
 match v with
 | .agg fs=>(match fs with
  | [v0,v1,v2,v3,v4,v5]=>pInt .i64 v0 fun x0=>pStr v1 fun x1=>pInt .i64 v2 fun x2=>pInt .i64 v3 fun x3=>pInt .i64 v4 fun x4=>zGv v5 fun x5=>K (TokT.mk x0 x1 x2 x3 x4 x5)
  | _=>none)
 | _=>none
def tokD:TokT:=TokT.mk 0 [] 0 0 0 false
def zAJ {R:Type} (v:T UU) (K:CharT->Option R):Option R:=
 match v with
 | .agg fs=>(match fs with
  | [v0,v1]=>pInt .u8 v0 fun x0=>pInt .i64 v1 fun x1=>K (CharT.mk x0 x1)
  | _=>none)
 | _=>none
def yM:CharT:=CharT.mk 0 0
def qE {R:Type} (v:T UU) (K:VT->Option R):Option R:=
 match v with
 | .cd i x=>(match i,x with | .val,x=>K x | _,_=>none)
 | _=>none
def kj {R:Type} (v:T UU) (K:UnT->Option R):Option R:=
 match v with
 | .agg fs=>(match fs with
  | [v0,v1]=>pStr v0 fun x0=>qE v1 fun x1=>K (UnT.mk x0 x1)
  | _=>none)
 | _=>none
def unD:UnT:=UnT.mk [] default
def jQ {R:Type} (v:T UU) (K:BinT->Option R):Option R:=
 match v with
 | .agg fs=>(match fs with
  | [v0,v1,v2]=>pStr v0 fun x0=>qE v1 fun x1=>qE v2 fun x2=>K (BinT.mk x0 x1 x2)
  | _=>none)
 | _=>none
def binD:BinT:=BinT.mk [] default default
def jT {R:Type} (v:T UU) (K:ChoT->Option R):Option R:=
 match v with
 | .agg fs=>(match fs with
  | [v0,v1,v2]=>qE v0 fun x0=>qE v1 fun x1=>qE v2 fun x2=>K (ChoT.mk x0 x1 x2)
  | _=>none)
 | _=>none
def choD:ChoT:=ChoT.mk default default default
def zEn {R:Type} (v:T UU) (K:Nd->Option R):Option R:=
 match v with
 | .agg fs=>(match fs with
  | [v0,v1,v2]=>pStr v0 fun x0=>pInt .i64 v1 fun x1=>pDl (U:=UU) TI.node v2 fun x2=>K (Nd.mk x0 x1 x2)
  | _=>none)
 | _=>none
def nodeD:Nd:=Nd.mk [] 0 []
def eV_int (x:Int):V:=.at (.int .i64 x)
def zNf (x:Bool):V:=.at (.bool x)
def eV_u8 (x:Int):V:=.at (.int .u8 x)
def eV_str (x:(List UInt8)):V:=.at (.string ⟨List.toArray x⟩)
def qy (x:TokT):V:=.agg [.at (.int .i64 (TokT.kind x)),.at (.string ⟨List.toArray (TokT.text x)⟩),.at (.int .i64 (TokT.file x)),.at (.int .i64 (TokT.ffrom x)),.at (.int .i64 (TokT.fto x)),.at (.bool (TokT.blank x))]
def z8 (x:CharT):V:=.agg [.at (.int .u8 (CharT.b x)),.at (.int .i64 (CharT.fat x))]
def eV_val (x:VT):V:=.at (VT.enc x)
def kL (x:UnT):V:=.agg [.at (.string ⟨List.toArray (UnT.sign x)⟩),.at (VT.enc (UnT.x x))]
def jK (x:BinT):V:=.agg [.at (.string ⟨List.toArray (BinT.sign x)⟩),.at (VT.enc (BinT.x x)),.at (VT.enc (BinT.y x))]
def jG (x:ChoT):V:=.agg [.at (VT.enc (ChoT.c x)),.at (VT.enc (ChoT.x x)),.at (VT.enc (ChoT.y x))]
def ql (x:Nd):V:=zDb x
def zKl:(i:TI)->denI i->V
 | .int,x=>eV_int x
 | .bool,x=>zNf x
 | .u8,x=>eV_u8 x
 | .str,x=>eV_str x
 | .tok,x=>qy x
 | .char,x=>z8 x
 | .val,x=>eV_val x
 | .un,x=>kL x
 | .bin,x=>jK x
 | .cho,x=>jG x
 | .node,x=>ql x
def encI:(i:TI)->denI i->T UU
 | .int,x=>.int .i64 x
 | .bool,x=>.bool x
 | .u8,x=>.int .u8 x
 | .str,x=>.str x
 | .tok,x=>.agg [(.int .i64 (TokT.kind x)),(.str (TokT.text x)),(.int .i64 (TokT.file x)),(.int .i64 (TokT.ffrom x)),(.int .i64 (TokT.fto x)),(.bool (TokT.blank x))]
 | .char,x=>.agg [(.int .u8 (CharT.b x)),(.int .i64 (CharT.fat x))]
 | .val,x=>.cd TI.val x
 | .un,x=>.agg [(.str (UnT.sign x)),(.cd TI.val (UnT.x x))]
 | .bin,x=>.agg [(.str (BinT.sign x)),(.cd TI.val (BinT.x x)),(.cd TI.val (BinT.y x))]
 | .cho,x=>.agg [(.cd TI.val (ChoT.c x)),(.cd TI.val (ChoT.x x)),(.cd TI.val (ChoT.y x))]
 | .node,x=>.agg [(.str (Nd.sign x)),(.int .i64 (Nd.num x)),(.lst .dl TI.node (Nd.kids x))]
def decI:(i:TI)->{R:Type}->T UU->(denI i->Option R)->Option R
 | .int,_,v,K=>pInt .i64 v K
 | .bool,_,v,K=>zGv v K
 | .u8,_,v,K=>pInt .u8 v K
 | .str,_,v,K=>pStr v K
 | .tok,_,v,K=>zBR v K
 | .char,_,v,K=>zAJ v K
 | .val,_,v,K=>qE v K
 | .un,_,v,K=>kj v K
 | .bin,_,v,K=>jQ v K
 | .cho,_,v,K=>jT v K
 | .node,_,v,K=>zEn v K
def dfltI:(i:TI)->denI i
 | .int=>(0:Int)
 | .bool=>false
 | .u8=>(0:Int)
 | .str=>([]:List UInt8)
 | .tok=>tokD
 | .char=>yM
 | .val=>(.num 0:VT)
 | .un=>unD
 | .bin=>binD
 | .cho=>choD
 | .node=>nodeD
def cellsI:TI->Nat
 | .int=>1
 | .bool=>1
 | .u8=>1
 | .str=>1
 | .tok=>6
 | .char=>2
 | .val=>1
 | .un=>2
 | .bin=>3
 | .cho=>3
 | .node=>3
def aggI:TI->Bool
 | .int=>false
 | .bool=>false
 | .u8=>false
 | .str=>false
 | .tok=>true
 | .char=>true
 | .val=>false
 | .un=>true
 | .bin=>true
 | .cho=>true
 | .node=>true
def plainI:TI->Bool
 | .int=>true
 | .bool=>true
 | .u8=>true
 | .str=>true
 | .tok=>true
 | .char=>true
 | .val=>true
 | .un=>true
 | .bin=>true
 | .cho=>true
 | .node=>false
def ifvI:(i:TI)->denI i->Value
 | .int,_=>.nilIface
 | .bool,_=>.nilIface
 | .u8,_=>.nilIface
 | .str,_=>.nilIface
 | .tok,_=>.nilIface
 | .char,_=>.nilIface
 | .val,x=>VT.enc x
 | .un,_=>.nilIface
 | .bin,_=>.nilIface
 | .cho,_=>.nilIface
 | .node,_=>.nilIface
def u8I:(i:TI)->Option (denI i->Int)
 | .int=>none
 | .bool=>none
 | .u8=>some fun x=>x
 | .str=>none
 | .tok=>none
 | .char=>none
 | .val=>none
 | .un=>none
 | .bin=>none
 | .cho=>none
 | .node=>none
def CC:Cod UU:=⟨encI,zKl,decI,dfltI,cellsI,aggI,plainI,ifvI,u8I⟩
theorem yC {R:Type} {v:T UU} {K:VT->Option R} {r:R} (h:qE v K=some r):∃ x,K x=some r/\(∀ N,trT CC N v = .at (VT.enc x))/\∀ N,zd (trT CC N v) = .at (VT.enc x):=by
 unfold qE at h
 split at h
 · split at h
   · exact ⟨_,h,fun _=>rfl,fun _=>rfl⟩
   · cases h
 · cases h
theorem zJx {R:Type} {v:T UU} {K:TokT->Option R} {r:R} (h:zBR v K=some r):∃ x,K x=some r/\∀ N,(trT CC N v).untag=qy x:=by
 unfold zBR at h
 split at h
 · split at h
   · obtain ⟨x0,h,_,e0⟩:=yK (C:=CC) h
     obtain ⟨x1,h,_,e1⟩:=qG (C:=CC) h
     obtain ⟨x2,h,_,e2⟩:=yK (C:=CC) h
     obtain ⟨x3,h,_,e3⟩:=yK (C:=CC) h
     obtain ⟨x4,h,_,e4⟩:=yK (C:=CC) h
     obtain ⟨x5,h,_,e5⟩:=zCE (C:=CC) h
     refine ⟨_,h,fun N=>?_⟩
     simp only [trT,trTs,V.untag,List.map_cons,List.map_nil,e0 N,e1 N,e2 N,e3 N,e4 N,e5 N]
     rfl
   · cases h
 · cases h
theorem zJI {R:Type} {v:T UU} {K:TokT->Option R} {r:R} (h:zBR v K=some r):∃ x,K x=some r/\∀ N,trT CC N v=qy x:=by
 unfold zBR at h
 split at h
 · split at h
   · obtain ⟨x0,h,e0,_⟩:=yK (C:=CC) h
     obtain ⟨x1,h,e1,_⟩:=qG (C:=CC) h
     obtain ⟨x2,h,e2,_⟩:=yK (C:=CC) h
     obtain ⟨x3,h,e3,_⟩:=yK (C:=CC) h
     obtain ⟨x4,h,e4,_⟩:=yK (C:=CC) h
     obtain ⟨x5,h,e5,_⟩:=zCE (C:=CC) h
     refine ⟨_,h,fun N=>?_⟩
     simp only [trT,trTs,e0 N,e1 N,e2 N,e3 N,e4 N,e5 N]
     rfl
   · cases h
 · cases h
theorem jl (x:TokT):qy x = .agg [.at (.int .i64 (TokT.kind x)),.at (.string ⟨List.toArray (TokT.text x)⟩),.at (.int .i64 (TokT.file x)),.at (.int .i64 (TokT.ffrom x)),.at (.int .i64 (TokT.fto x)),.at (.bool (TokT.blank x))]:=by
 rfl
theorem zJG {R:Type} {v:T UU} {K:CharT->Option R} {r:R} (h:zAJ v K=some r):∃ x,K x=some r/\∀ N,(trT CC N v).untag=z8 x:=by
 unfold zAJ at h
 split at h
 · split at h
   · obtain ⟨x0,h,_,e0⟩:=yK (C:=CC) h
     obtain ⟨x1,h,_,e1⟩:=yK (C:=CC) h
     refine ⟨_,h,fun N=>?_⟩
     simp only [trT,trTs,V.untag,List.map_cons,List.map_nil,e0 N,e1 N]
     rfl
   · cases h
 · cases h
theorem zIU {R:Type} {v:T UU} {K:CharT->Option R} {r:R} (h:zAJ v K=some r):∃ x,K x=some r/\∀ N,trT CC N v=z8 x:=by
 unfold zAJ at h
 split at h
 · split at h
   · obtain ⟨x0,h,e0,_⟩:=yK (C:=CC) h
     obtain ⟨x1,h,e1,_⟩:=yK (C:=CC) h
     refine ⟨_,h,fun N=>?_⟩
     simp only [trT,trTs,e0 N,e1 N]
     rfl
   · cases h
 · cases h
theorem jF (x:CharT):z8 x = .agg [.at (.int .u8 (CharT.b x)),.at (.int .i64 (CharT.fat x))]:=by
 rfl
theorem zL1 {R:Type} {v:T UU} {K:UnT->Option R} {r:R} (h:kj v K=some r):∃ x,K x=some r/\∀ N,(trT CC N v).untag=kL x:=by
 unfold kj at h
 split at h
 · split at h
   · obtain ⟨x0,h,_,e0⟩:=qG (C:=CC) h
     obtain ⟨x1,h,_,e1⟩:=yC h
     refine ⟨_,h,fun N=>?_⟩
     simp only [trT,trTs,V.untag,List.map_cons,List.map_nil,e0 N,e1 N]
     rfl
   · cases h
 · cases h
theorem zFZ {R:Type} {v:T UU} {K:UnT->Option R} {r:R} (h:kj v K=some r):∃ x,K x=some r/\∀ N,trT CC N v=kL x:=by
 unfold kj at h
 split at h
 · split at h
   · obtain ⟨x0,h,e0,_⟩:=qG (C:=CC) h
     obtain ⟨x1,h,e1,_⟩:=yC h
     refine ⟨_,h,fun N=>?_⟩
     simp only [trT,trTs,e0 N,e1 N]
     rfl
   · cases h
 · cases h
theorem jS (x:UnT):kL x = .agg [.at (.string ⟨List.toArray (UnT.sign x)⟩),.at (VT.enc (UnT.x x))]:=by
 rfl
theorem zKS {R:Type} {v:T UU} {K:BinT->Option R} {r:R} (h:jQ v K=some r):∃ x,K x=some r/\∀ N,(trT CC N v).untag=jK x:=by
 unfold jQ at h
 split at h
 · split at h
   · obtain ⟨x0,h,_,e0⟩:=qG (C:=CC) h
     obtain ⟨x1,h,_,e1⟩:=yC h
     obtain ⟨x2,h,_,e2⟩:=yC h
     refine ⟨_,h,fun N=>?_⟩
     simp only [trT,trTs,V.untag,List.map_cons,List.map_nil,e0 N,e1 N,e2 N]
     rfl
   · cases h
 · cases h
theorem zDw {R:Type} {v:T UU} {K:BinT->Option R} {r:R} (h:jQ v K=some r):∃ x,K x=some r/\∀ N,trT CC N v=jK x:=by
 unfold jQ at h
 split at h
 · split at h
   · obtain ⟨x0,h,e0,_⟩:=qG (C:=CC) h
     obtain ⟨x1,h,e1,_⟩:=yC h
     obtain ⟨x2,h,e2,_⟩:=yC h
     refine ⟨_,h,fun N=>?_⟩
     simp only [trT,trTs,e0 N,e1 N,e2 N]
     rfl
   · cases h
 · cases h
theorem qf (x:BinT):jK x = .agg [.at (.string ⟨List.toArray (BinT.sign x)⟩),.at (VT.enc (BinT.x x)),.at (VT.enc (BinT.y x))]:=by
 rfl
theorem zKT {R:Type} {v:T UU} {K:ChoT->Option R} {r:R} (h:jT v K=some r):∃ x,K x=some r/\∀ N,(trT CC N v).untag=jG x:=by
 unfold jT at h
 split at h
 · split at h
   · obtain ⟨x0,h,_,e0⟩:=yC h
     obtain ⟨x1,h,_,e1⟩:=yC h
     obtain ⟨x2,h,_,e2⟩:=yC h
     refine ⟨_,h,fun N=>?_⟩
     simp only [trT,trTs,V.untag,List.map_cons,List.map_nil,e0 N,e1 N,e2 N]
     rfl
   · cases h
 · cases h
theorem zDr {R:Type} {v:T UU} {K:ChoT->Option R} {r:R} (h:jT v K=some r):∃ x,K x=some r/\∀ N,trT CC N v=jG x:=by
 unfold jT at h
 split at h
 · split at h
   · obtain ⟨x0,h,e0,_⟩:=yC h
     obtain ⟨x1,h,e1,_⟩:=yC h
     obtain ⟨x2,h,e2,_⟩:=yC h
     refine ⟨_,h,fun N=>?_⟩
     simp only [trT,trTs,e0 N,e1 N,e2 N]
     rfl
   · cases h
 · cases h
theorem qg (x:ChoT):jG x = .agg [.at (VT.enc (ChoT.c x)),.at (VT.enc (ChoT.x x)),.at (VT.enc (ChoT.y x))]:=by
 rfl
theorem zI6 {R:Type} {v:T UU} {K:Nd->Option R} {r:R} (h:zEn v K=some r):∃ x,K x=some r/\∀ N,(trT CC N v).untag=ql x:=by
 unfold zEn at h
 split at h
 · split at h
   · obtain ⟨x0,h,_,e0⟩:=qG (C:=CC) h
     obtain ⟨x1,h,_,e1⟩:=yK (C:=CC) h
     obtain ⟨x2,h,e2⟩:=pDl_ok (C:=CC) h
     refine ⟨_,h,fun N=>?_⟩
     simp only [trT,trTs,V.untag,List.map_cons,List.map_nil,e0 N,e1 N,e2 N]
     exact (zIX x0 x1 x2).symm
   · cases h
 · cases h
theorem qw (x:Nd):ql x = .agg [.at (.string ⟨List.toArray (Nd.sign x)⟩),.at (.int .i64 (Nd.num x)),.lst (zz ((Nd.kids x).map (zKl TI.node))) ((Nd.kids x).map (zKl TI.node))]:=by
 cases x; exact zIX _ _ _
theorem sz_tok (x:TokT):(qy x).size=6:=by rw [jl]; rfl
theorem ag_tok (x:TokT):(qy x).isAgg=true:=by rw [jl]; rfl
theorem on_tok (x:TokT):zJ (qy x).flat:=by rw [jl]; rfl
theorem un_tok (x:TokT):(qy x).untag=qy x:=by rw [jl]; simp only [V.untag,List.map_cons,List.map_nil,qe,jO]
theorem zF6 (x:CharT):(z8 x).size=2:=by rw [jF]; rfl
theorem zNZ (x:CharT):(z8 x).isAgg=true:=by rw [jF]; rfl
theorem zNs (x:CharT):zJ (z8 x).flat:=by rw [jF]; rfl
theorem zOX (x:CharT):(z8 x).untag=z8 x:=by rw [jF]; simp only [V.untag,List.map_cons,List.map_nil,qe,jO]
theorem sz_un (x:UnT):(kL x).size=2:=by rw [jS]; rfl
theorem ag_un (x:UnT):(kL x).isAgg=true:=by rw [jS]; rfl
theorem on_un (x:UnT):zJ (kL x).flat:=by rw [jS]; rfl
theorem un_un (x:UnT):(kL x).untag=kL x:=by rw [jS]; simp only [V.untag,List.map_cons,List.map_nil,qe,jO]
theorem sz_bin (x:BinT):(jK x).size=3:=by rw [qf]; rfl
theorem ag_bin (x:BinT):(jK x).isAgg=true:=by rw [qf]; rfl
theorem on_bin (x:BinT):zJ (jK x).flat:=by rw [qf]; rfl
theorem un_bin (x:BinT):(jK x).untag=jK x:=by rw [qf]; simp only [V.untag,List.map_cons,List.map_nil,qe,jO]
theorem sz_cho (x:ChoT):(jG x).size=3:=by rw [qg]; rfl
theorem ag_cho (x:ChoT):(jG x).isAgg=true:=by rw [qg]; rfl
theorem on_cho (x:ChoT):zJ (jG x).flat:=by rw [qg]; rfl
theorem un_cho (x:ChoT):(jG x).untag=jG x:=by rw [qg]; simp only [V.untag,List.map_cons,List.map_nil,qe,jO]
theorem zNd (x:Nd):(ql x).size=3:=by rw [qw]; rfl
theorem zOQ (x:Nd):(ql x).isAgg=true:=by rw [qw]; rfl
theorem zOF (x:Nd):zJ (ql x).flat:=by rw [qw]; rfl
theorem zNo (x:Nd):(ql x).untag=ql x:=by rw [qw]; simp only [V.untag,List.map_cons,List.map_nil,qe,jO]
theorem CCok:CodOk CC:=by
 refine ⟨?_,?_,?_,?_,?_,?_,?_,?_,?_,?_,?_⟩
 · intro N i x
   cases i with
   | int=>rfl
   | bool=>rfl
   | u8=>rfl
   | str=>rfl
   | tok=>exact (jl x).symm
   | char=>exact (jF x).symm
   | val=>rfl
   | un=>exact (jS x).symm
   | bin=>exact (qf x).symm
   | cho=>exact (qg x).symm
   | node=>exact (qw x).symm
 · intro i x
   cases i <;> rfl
 · intro i R v k r h
   cases i with
   | int=>obtain ⟨x,h1,_,h2⟩:=yK (C:=CC) h; exact ⟨x,h1,fun N=>by have:=h2 N; exact jz this⟩
   | bool=>obtain ⟨x,h1,_,h2⟩:=zCE (C:=CC) h; exact ⟨x,h1,fun N=>by have:=h2 N; exact jz this⟩
   | u8=>obtain ⟨x,h1,_,h2⟩:=yK (C:=CC) h; exact ⟨x,h1,fun N=>by have:=h2 N; exact jz this⟩
   | str=>obtain ⟨x,h1,_,h2⟩:=qG (C:=CC) h; exact ⟨x,h1,fun N=>by have:=h2 N; exact jz this⟩
   | tok=>exact zJx h
   | char=>exact zJG h
   | val=>obtain ⟨x,h1,_,h2⟩:=yC h; exact ⟨x,h1,fun N=>by have:=h2 N; exact jz this⟩
   | un=>exact zL1 h
   | bin=>exact zKS h
   | cho=>exact zKT h
   | node=>exact zI6 h
 · intro i R v k r hp h
   cases i with
   | int=>obtain ⟨x,h1,h2,_⟩:=yK (C:=CC) h; exact ⟨x,h1,h2⟩
   | bool=>obtain ⟨x,h1,h2,_⟩:=zCE (C:=CC) h; exact ⟨x,h1,h2⟩
   | u8=>obtain ⟨x,h1,h2,_⟩:=yK (C:=CC) h; exact ⟨x,h1,h2⟩
   | str=>obtain ⟨x,h1,h2,_⟩:=qG (C:=CC) h; exact ⟨x,h1,h2⟩
   | tok=>exact zJI h
   | char=>exact zIU h
   | val=>obtain ⟨x,h1,h2,_⟩:=yC h; exact ⟨x,h1,h2⟩
   | un=>exact zFZ h
   | bin=>exact zDw h
   | cho=>exact zDr h
   | node=>cases hp
 · intro i x
   cases i with
   | int=>rfl
   | bool=>rfl
   | u8=>rfl
   | str=>rfl
   | tok=>exact sz_tok x
   | char=>exact zF6 x
   | val=>rfl
   | un=>exact sz_un x
   | bin=>exact sz_bin x
   | cho=>exact sz_cho x
   | node=>exact zNd x
 · intro i x
   cases i with
   | int=>rfl
   | bool=>rfl
   | u8=>rfl
   | str=>rfl
   | tok=>exact ag_tok x
   | char=>exact zNZ x
   | val=>rfl
   | un=>exact ag_un x
   | bin=>exact ag_bin x
   | cho=>exact ag_cho x
   | node=>exact zOQ x
 · intro i x
   cases i with
   | int=>rfl
   | bool=>rfl
   | u8=>rfl
   | str=>rfl
   | tok=>exact on_tok x
   | char=>exact zNs x
   | val=>rfl
   | un=>exact on_un x
   | bin=>exact on_bin x
   | cho=>exact on_cho x
   | node=>exact zOF x
 · intro i x
   cases i with
   | int=>rfl
   | bool=>rfl
   | u8=>rfl
   | str=>rfl
   | tok=>exact un_tok x
   | char=>exact zOX x
   | val=>rfl
   | un=>exact un_un x
   | bin=>exact un_bin x
   | cho=>exact un_cho x
   | node=>exact zNo x
 · intro i h
   cases i <;> first | rfl | cases h
 · intro i
   cases i <;> decide
 · intro i f h x
   cases i <;> first | (cases h; done) | (cases h; rfl)
theorem zZ {P:Program} {t:TypeId} {l:List KQ} (h:(none:Option (List KQ))=some l):∀ us,vkq l us=true->zBV P t us=true:=by cases h
def td2:TD UU:={ has:=true,agg:=false,cells:=1,bytes:=8,code:=some TI.int,ik:=some .i64,zero:=some [.int .i64 0] }
theorem td2_ok:Facts CC Tryd.prog 2 td2:=⟨by kernel_rfl,by kernel_rfl,by kernel_rfl,by kernel_rfl,by kernel_rfl,by kernel_rfl,by kernel_rfl,by kernel_rfl,by kernel_rfl,by kernel_rfl,by kernel_rfl,fun N=>by kernel_rfl,fun i h=>(by first | (injection h with h; subst h; exact ⟨rfl,rfl⟩) | cases h),fun n i h=>(by cases h),.inr rfl,.inr rfl,fun x k r h=>(by cases h),fun l h=>zZ h⟩
def td3:TD UU:={ has:=true,agg:=false,cells:=1,bytes:=8,code:=some TI.int,ik:=some .i64,zero:=some [.int .i64 0] }
theorem td3_ok:Facts CC Tryd.prog 3 td3:=⟨by kernel_rfl,by kernel_rfl,by kernel_rfl,by kernel_rfl,by kernel_rfl,by kernel_rfl,by kernel_rfl,by kernel_rfl,by kernel_rfl,by kernel_rfl,by kernel_rfl,fun N=>by kernel_rfl,fun i h=>(by first | (injection h with h; subst h; exact ⟨rfl,rfl⟩) | cases h),fun n i h=>(by cases h),.inr rfl,.inr rfl,fun x k r h=>(by cases h),fun l h=>zZ h⟩
def td4:TD UU:={ has:=true,agg:=false,cells:=1,bytes:=1,code:=some TI.bool,isBool:=true,zero:=some [.bool false] }
theorem td4_ok:Facts CC Tryd.prog 4 td4:=⟨by kernel_rfl,by kernel_rfl,by kernel_rfl,by kernel_rfl,by kernel_rfl,by kernel_rfl,by kernel_rfl,by kernel_rfl,by kernel_rfl,by kernel_rfl,by kernel_rfl,fun N=>by kernel_rfl,fun i h=>(by first | (injection h with h; subst h; exact ⟨rfl,rfl⟩) | cases h),fun n i h=>(by cases h),.inr rfl,.inr rfl,fun x k r h=>(by cases h),fun l h=>zZ h⟩
def td5:TD UU:={ has:=true,agg:=false,cells:=1,bytes:=1,code:=some TI.u8,ik:=some .u8,zero:=some [.int .u8 0] }
theorem td5_ok:Facts CC Tryd.prog 5 td5:=⟨by kernel_rfl,by kernel_rfl,by kernel_rfl,by kernel_rfl,by kernel_rfl,by kernel_rfl,by kernel_rfl,by kernel_rfl,by kernel_rfl,by kernel_rfl,by kernel_rfl,fun N=>by kernel_rfl,fun i h=>(by first | (injection h with h; subst h; exact ⟨rfl,rfl⟩) | cases h),fun n i h=>(by cases h),.inr rfl,.inr rfl,fun x k r h=>(by cases h),fun l h=>zZ h⟩
def td9:TD UU:={ has:=true,agg:=false,cells:=1,bytes:=16,code:=some TI.str,isStr:=true,zero:=some [.str []] }
theorem td9_ok:Facts CC Tryd.prog 9 td9:=⟨by kernel_rfl,by kernel_rfl,by kernel_rfl,by kernel_rfl,by kernel_rfl,by kernel_rfl,by kernel_rfl,by kernel_rfl,by kernel_rfl,by kernel_rfl,by kernel_rfl,fun N=>by kernel_rfl,fun i h=>(by first | (injection h with h; subst h; exact ⟨rfl,rfl⟩) | cases h),fun n i h=>(by cases h),.inr rfl,.inr rfl,fun x k r h=>(by cases h),fun l h=>zZ h⟩
def td21:TD UU:={ has:=true,agg:=false,cells:=1,bytes:=4,ik:=some .i32,zero:=some [.int .i32 0] }
theorem zNe:Facts CC Tryd.prog 21 td21:=⟨by kernel_rfl,by kernel_rfl,by kernel_rfl,by kernel_rfl,by kernel_rfl,by kernel_rfl,by kernel_rfl,by kernel_rfl,by kernel_rfl,by kernel_rfl,by kernel_rfl,fun N=>by kernel_rfl,fun i h=>(by first | (injection h with h; subst h; exact ⟨rfl,rfl⟩) | cases h),fun n i h=>(by cases h),.inr rfl,.inr rfl,fun x k r h=>(by cases h),fun l h=>zZ h⟩
def td23:TD UU:={ has:=true,agg:=false,cells:=1,bytes:=8,code:=some TI.int,ik:=some .i64,zero:=some [.int .i64 0] }
theorem zOC:Facts CC Tryd.prog 23 td23:=⟨by kernel_rfl,by kernel_rfl,by kernel_rfl,by kernel_rfl,by kernel_rfl,by kernel_rfl,by kernel_rfl,by kernel_rfl,by kernel_rfl,by kernel_rfl,by kernel_rfl,fun N=>by kernel_rfl,fun i h=>(by first | (injection h with h; subst h; exact ⟨rfl,rfl⟩) | cases h),fun n i h=>(by cases h),.inr rfl,.inr rfl,fun x k r h=>(by cases h),fun l h=>zZ h⟩
def td26:TD UU:={ has:=true,agg:=false,cells:=1,bytes:=24,el:=some 43,zero:=some [.nil] }
theorem zOH:Facts CC Tryd.prog 26 td26:=⟨by kernel_rfl,by kernel_rfl,by kernel_rfl,by kernel_rfl,by kernel_rfl,by kernel_rfl,by kernel_rfl,by kernel_rfl,by kernel_rfl,by kernel_rfl,by kernel_rfl,fun N=>by kernel_rfl,fun i h=>(by first | (injection h with h; subst h; exact ⟨rfl,rfl⟩) | cases h),fun n i h=>(by cases h),.inr rfl,.inr rfl,fun x k r h=>(by cases h),fun l h=>zZ h⟩
def td30:TD UU:={ has:=true,agg:=false,cells:=1,bytes:=24,el:=some 9,zero:=some [.nil] }
theorem zN5:Facts CC Tryd.prog 30 td30:=⟨by kernel_rfl,by kernel_rfl,by kernel_rfl,by kernel_rfl,by kernel_rfl,by kernel_rfl,by kernel_rfl,by kernel_rfl,by kernel_rfl,by kernel_rfl,by kernel_rfl,fun N=>by kernel_rfl,fun i h=>(by first | (injection h with h; subst h; exact ⟨rfl,rfl⟩) | cases h),fun n i h=>(by cases h),.inr rfl,.inr rfl,fun x k r h=>(by cases h),fun l h=>zZ h⟩
def td40:TD UU:={ has:=true,agg:=false,cells:=1,bytes:=8,zero:=some [.con (.pointer none)] }
theorem zNY:Facts CC Tryd.prog 40 td40:=⟨by kernel_rfl,by kernel_rfl,by kernel_rfl,by kernel_rfl,by kernel_rfl,by kernel_rfl,by kernel_rfl,by kernel_rfl,by kernel_rfl,by kernel_rfl,by kernel_rfl,fun N=>by kernel_rfl,fun i h=>(by first | (injection h with h; subst h; exact ⟨rfl,rfl⟩) | cases h),fun n i h=>(by cases h),.inr rfl,.inr rfl,fun x k r h=>(by cases h),fun l h=>zZ h⟩
def td43:TD UU:={ has:=true,agg:=true,cells:=6,bytes:=56,code:=some TI.tok,flds:=[(0,3),(1,9),(2,3),(3,3),(4,3),(5,4)],isStruct:=true,zero:=some [.int .i64 0,.str [],.int .i64 0,.int .i64 0,.int .i64 0,.bool false],eqk:=some [.i,.s,.i,.i,.i,.b] }
theorem eqq43 (us:List Value) (h:vkq [.i,.s,.i,.i,.i,.b] us=true):zBV Tryd.prog 43 us=true:=by
 obtain ⟨k0,n0,u0,rfl,h0⟩:=zG5 h
 obtain ⟨s1,u1,rfl,h1⟩:=vkq_s h0
 obtain ⟨k2,n2,u2,rfl,h2⟩:=zG5 h1
 obtain ⟨k3,n3,u3,rfl,h3⟩:=zG5 h2
 obtain ⟨k4,n4,u4,rfl,h4⟩:=zG5 h3
 obtain ⟨b5,u5,rfl,h5⟩:=vkq_b h4
 obtain rfl:=zOW h5
 kernel_rfl
theorem eqqs43 {l:List KQ} (h:some [KQ.i,.s,.i,.i,.i,.b]=some l) (us:List Value) (hv:vkq l us=true):zBV Tryd.prog 43 us=true:=by
 rw [<- Option.some.inj h] at hv
 exact eqq43 us hv
theorem zN6:Facts CC Tryd.prog 43 td43:=⟨by kernel_rfl,by kernel_rfl,by kernel_rfl,by kernel_rfl,by kernel_rfl,by kernel_rfl,by kernel_rfl,by kernel_rfl,by kernel_rfl,by kernel_rfl,by kernel_rfl,fun N=>by kernel_rfl,fun i h=>(by first | (injection h with h; subst h; exact ⟨rfl,rfl⟩) | cases h),fun n i h=>(by cases h),.inr rfl,.inr rfl,fun x k r h=>(by cases h),fun l h=>eqqs43 h⟩
def td47:TD UU:={ has:=true,agg:=true,cells:=3,bytes:=40,flds:=[(0,26),(1,4),(2,23)],isStruct:=true,zero:=some [.nil,.bool false,.int .i64 0] }
theorem zNw:Facts CC Tryd.prog 47 td47:=⟨by kernel_rfl,by kernel_rfl,by kernel_rfl,by kernel_rfl,by kernel_rfl,by kernel_rfl,by kernel_rfl,by kernel_rfl,by kernel_rfl,by kernel_rfl,by kernel_rfl,fun N=>by kernel_rfl,fun i h=>(by first | (injection h with h; subst h; exact ⟨rfl,rfl⟩) | cases h),fun n i h=>(by cases h),.inr rfl,.inr rfl,fun x k r h=>(by cases h),fun l h=>zZ h⟩
def td49:TD UU:={ has:=true,agg:=false,cells:=1,bytes:=16,code:=some TI.val,isIfc:=true,zero:=some [.con .nilIface] }
theorem zN3:Facts CC Tryd.prog 49 td49:=⟨by kernel_rfl,by kernel_rfl,by kernel_rfl,by kernel_rfl,by kernel_rfl,by kernel_rfl,by kernel_rfl,by kernel_rfl,by kernel_rfl,by kernel_rfl,by kernel_rfl,fun N=>by kernel_rfl,fun i h=>(by first | (injection h with h; subst h; exact ⟨rfl,rfl⟩) | cases h),fun n i h=>(by cases h),.inr rfl,.inr rfl,fun x k r h=>(by cases h),fun l h=>zZ h⟩
def td52:TD UU:={ has:=true,agg:=false,cells:=1,bytes:=24,el:=some 61,zero:=some [.nil] }
theorem zNr:Facts CC Tryd.prog 52 td52:=⟨by kernel_rfl,by kernel_rfl,by kernel_rfl,by kernel_rfl,by kernel_rfl,by kernel_rfl,by kernel_rfl,by kernel_rfl,by kernel_rfl,by kernel_rfl,by kernel_rfl,fun N=>by kernel_rfl,fun i h=>(by first | (injection h with h; subst h; exact ⟨rfl,rfl⟩) | cases h),fun n i h=>(by cases h),.inr rfl,.inr rfl,fun x k r h=>(by cases h),fun l h=>zZ h⟩
def td54:TD UU:={ has:=true,agg:=false,cells:=1,bytes:=8,zero:=some [.con (.pointer none)] }
theorem zOU:Facts CC Tryd.prog 54 td54:=⟨by kernel_rfl,by kernel_rfl,by kernel_rfl,by kernel_rfl,by kernel_rfl,by kernel_rfl,by kernel_rfl,by kernel_rfl,by kernel_rfl,by kernel_rfl,by kernel_rfl,fun N=>by kernel_rfl,fun i h=>(by first | (injection h with h; subst h; exact ⟨rfl,rfl⟩) | cases h),fun n i h=>(by cases h),.inr rfl,.inr rfl,fun x k r h=>(by cases h),fun l h=>zZ h⟩
def td57:TD UU:={ has:=true,agg:=true,cells:=2,bytes:=24,flds:=[(0,9),(1,3)],isStruct:=true,zero:=some [.str [],.int .i64 0] }
theorem zOY:Facts CC Tryd.prog 57 td57:=⟨by kernel_rfl,by kernel_rfl,by kernel_rfl,by kernel_rfl,by kernel_rfl,by kernel_rfl,by kernel_rfl,by kernel_rfl,by kernel_rfl,by kernel_rfl,by kernel_rfl,fun N=>by kernel_rfl,fun i h=>(by first | (injection h with h; subst h; exact ⟨rfl,rfl⟩) | cases h),fun n i h=>(by cases h),.inr rfl,.inr rfl,fun x k r h=>(by cases h),fun l h=>zZ h⟩
def td61:TD UU:={ has:=true,agg:=true,cells:=2,bytes:=16,code:=some TI.char,flds:=[(0,5),(1,3)],isStruct:=true,zero:=some [.int .u8 0,.int .i64 0] }
theorem zNc:Facts CC Tryd.prog 61 td61:=⟨by kernel_rfl,by kernel_rfl,by kernel_rfl,by kernel_rfl,by kernel_rfl,by kernel_rfl,by kernel_rfl,by kernel_rfl,by kernel_rfl,by kernel_rfl,by kernel_rfl,fun N=>by kernel_rfl,fun i h=>(by first | (injection h with h; subst h; exact ⟨rfl,rfl⟩) | cases h),fun n i h=>(by cases h),.inr rfl,.inr rfl,fun x k r h=>(by cases h),fun l h=>zZ h⟩
def td62:TD UU:={ has:=true,agg:=false,cells:=1,bytes:=24,el:=some 64,zero:=some [.nil] }
theorem zNP:Facts CC Tryd.prog 62 td62:=⟨by kernel_rfl,by kernel_rfl,by kernel_rfl,by kernel_rfl,by kernel_rfl,by kernel_rfl,by kernel_rfl,by kernel_rfl,by kernel_rfl,by kernel_rfl,by kernel_rfl,fun N=>by kernel_rfl,fun i h=>(by first | (injection h with h; subst h; exact ⟨rfl,rfl⟩) | cases h),fun n i h=>(by cases h),.inr rfl,.inr rfl,fun x k r h=>(by cases h),fun l h=>zZ h⟩
def td64:TD UU:={ has:=true,agg:=true,cells:=3,bytes:=48,code:=some TI.node,flds:=[(0,9),(1,2),(2,62)],isStruct:=true,zero:=some [.str [],.int .i64 0,.nil] }
theorem zOD:Facts CC Tryd.prog 64 td64:=⟨by kernel_rfl,by kernel_rfl,by kernel_rfl,by kernel_rfl,by kernel_rfl,by kernel_rfl,by kernel_rfl,by kernel_rfl,by kernel_rfl,by kernel_rfl,by kernel_rfl,fun N=>by kernel_rfl,fun i h=>(by first | (injection h with h; subst h; exact ⟨rfl,rfl⟩) | cases h),fun n i h=>(by cases h),.inr rfl,.inr rfl,fun x k r h=>(by cases h),fun l h=>zZ h⟩
def td69:TD UU:={ has:=true,agg:=false,cells:=1,bytes:=8,ik:=some .u64,zero:=some [.int .u64 0] }
theorem zNQ:Facts CC Tryd.prog 69 td69:=⟨by kernel_rfl,by kernel_rfl,by kernel_rfl,by kernel_rfl,by kernel_rfl,by kernel_rfl,by kernel_rfl,by kernel_rfl,by kernel_rfl,by kernel_rfl,by kernel_rfl,fun N=>by kernel_rfl,fun i h=>(by first | (injection h with h; subst h; exact ⟨rfl,rfl⟩) | cases h),fun n i h=>(by cases h),.inr rfl,.inr rfl,fun x k r h=>(by cases h),fun l h=>zZ h⟩
def td76:TD UU:={ has:=true,agg:=false,cells:=1,bytes:=24,el:=some 5,zero:=some [.nil],isByt:=true }
theorem zNR:Facts CC Tryd.prog 76 td76:=⟨by kernel_rfl,by kernel_rfl,by kernel_rfl,by kernel_rfl,by kernel_rfl,by kernel_rfl,by kernel_rfl,by kernel_rfl,by kernel_rfl,by kernel_rfl,by kernel_rfl,fun N=>by kernel_rfl,fun i h=>(by first | (injection h with h; subst h; exact ⟨rfl,rfl⟩) | cases h),fun n i h=>(by cases h),.inl (by kernel_rfl),.inr rfl,fun x k r h=>(by cases h),fun l h=>zZ h⟩
def td78:TD UU:={ has:=true,agg:=false,cells:=1,bytes:=8,ik:=some .u64,zero:=some [.int .u64 0] }
theorem zNm:Facts CC Tryd.prog 78 td78:=⟨by kernel_rfl,by kernel_rfl,by kernel_rfl,by kernel_rfl,by kernel_rfl,by kernel_rfl,by kernel_rfl,by kernel_rfl,by kernel_rfl,by kernel_rfl,by kernel_rfl,fun N=>by kernel_rfl,fun i h=>(by first | (injection h with h; subst h; exact ⟨rfl,rfl⟩) | cases h),fun n i h=>(by cases h),.inr rfl,.inr rfl,fun x k r h=>(by cases h),fun l h=>zZ h⟩
def td88:TD UU:={ has:=true,agg:=true,cells:=3,bytes:=48,code:=some TI.cho,flds:=[(0,49),(1,49),(2,49)],isStruct:=true,zero:=some [.con .nilIface,.con .nilIface,.con .nilIface],mki:=fun v k=>jT v fun u=>k TI.val (.cho u.c u.x u.y) }
theorem zNU:Facts CC Tryd.prog 88 td88:=⟨by kernel_rfl,by kernel_rfl,by kernel_rfl,by kernel_rfl,by kernel_rfl,by kernel_rfl,by kernel_rfl,by kernel_rfl,by kernel_rfl,by kernel_rfl,by kernel_rfl,fun N=>by kernel_rfl,fun i h=>(by first | (injection h with h; subst h; exact ⟨rfl,rfl⟩) | cases h),fun n i h=>(by cases h),.inr rfl,.inr rfl,fun v k r h=>(by have h:jT v (fun u=>k TI.val (.cho u.c u.x u.y))=some r:=h; obtain ⟨u,h1,h2⟩:=zDr h; exact ⟨by kernel_rfl,_,_,h1,fun N=>by rw [h2 N,qg]; rfl⟩),fun l h=>zZ h⟩
def td99:TD UU:={ has:=true,agg:=true,cells:=5,bytes:=80,zero:=some [.str [],.str [],.str [],.str [],.str []],arr:=some (5,TI.str),bpl:=[(0,9),(1,9),(2,9),(3,9),(4,9)] }
set_option maxRecDepth 100000 in
theorem zOO:Facts CC Tryd.prog 99 td99:=⟨by kernel_rfl,by kernel_rfl,by kernel_rfl,by kernel_rfl,by kernel_rfl,by kernel_rfl,by kernel_rfl,by kernel_rfl,by kernel_rfl,by kernel_rfl,by kernel_rfl,fun N=>by kernel_rfl,fun i h=>(by first | (injection h with h; subst h; exact ⟨rfl,rfl⟩) | cases h),fun n i h=>(by injection h with h; injection h with h _; subst h; kernel_rfl),.inr rfl,.inl (by kernel_rfl),fun x k r h=>(by cases h),fun l h=>zZ h⟩
def td100:TD UU:={ has:=true,agg:=true,cells:=3,bytes:=48,zero:=some [.str [],.str [],.str []],arr:=some (3,TI.str),bpl:=[(0,9),(1,9),(2,9)] }
set_option maxRecDepth 100000 in
theorem zMs:Facts CC Tryd.prog 100 td100:=⟨by kernel_rfl,by kernel_rfl,by kernel_rfl,by kernel_rfl,by kernel_rfl,by kernel_rfl,by kernel_rfl,by kernel_rfl,by kernel_rfl,by kernel_rfl,by kernel_rfl,fun N=>by kernel_rfl,fun i h=>(by first | (injection h with h; subst h; exact ⟨rfl,rfl⟩) | cases h),fun n i h=>(by injection h with h; injection h with h _; subst h; kernel_rfl),.inr rfl,.inl (by kernel_rfl),fun x k r h=>(by cases h),fun l h=>zZ h⟩
def td104:TD UU:={ has:=true,agg:=true,cells:=3,bytes:=48,code:=some TI.bin,flds:=[(0,9),(1,49),(2,49)],isStruct:=true,zero:=some [.str [],.con .nilIface,.con .nilIface],mki:=fun v k=>jQ v fun u=>k TI.val (.bin u.sign u.x u.y) }
theorem zM2:Facts CC Tryd.prog 104 td104:=⟨by kernel_rfl,by kernel_rfl,by kernel_rfl,by kernel_rfl,by kernel_rfl,by kernel_rfl,by kernel_rfl,by kernel_rfl,by kernel_rfl,by kernel_rfl,by kernel_rfl,fun N=>by kernel_rfl,fun i h=>(by first | (injection h with h; subst h; exact ⟨rfl,rfl⟩) | cases h),fun n i h=>(by cases h),.inr rfl,.inr rfl,fun v k r h=>(by have h:jQ v (fun u=>k TI.val (.bin u.sign u.x u.y))=some r:=h; obtain ⟨u,h1,h2⟩:=zDw h; exact ⟨by kernel_rfl,_,_,h1,fun N=>by rw [h2 N,qf]; rfl⟩),fun l h=>zZ h⟩
def td105:TD UU:={ has:=true,agg:=false,cells:=1,bytes:=8,code:=some TI.int,ik:=some .i64,zero:=some [.int .i64 0],mki:=fun v k=>pInt .i64 v fun n=>k TI.val (.num n) }
theorem zMk:Facts CC Tryd.prog 105 td105:=⟨by kernel_rfl,by kernel_rfl,by kernel_rfl,by kernel_rfl,by kernel_rfl,by kernel_rfl,by kernel_rfl,by kernel_rfl,by kernel_rfl,by kernel_rfl,by kernel_rfl,fun N=>by kernel_rfl,fun i h=>(by first | (injection h with h; subst h; exact ⟨rfl,rfl⟩) | cases h),fun n i h=>(by cases h),.inr rfl,.inr rfl,fun v k r h=>(by have h:pInt .i64 v (fun n=>k TI.val (.num n))=some r:=h; obtain ⟨n,h1,h2,_⟩:=yK (C:=CC) h; exact ⟨by kernel_rfl,_,_,h1,fun N=>by rw [h2 N]; rfl⟩),fun l h=>zZ h⟩
def td108:TD UU:={ has:=true,agg:=true,cells:=48,bytes:=768,zero:=some [.str [],.str [],.str [],.str [],.str [],.str [],.str [],.str [],.str [],.str [],.str [],.str [],.str [],.str [],.str [],.str [],.str [],.str [],.str [],.str [],.str [],.str [],.str [],.str [],.str [],.str [],.str [],.str [],.str [],.str [],.str [],.str [],.str [],.str [],.str [],.str [],.str [],.str [],.str [],.str [],.str [],.str [],.str [],.str [],.str [],.str [],.str [],.str []],arr:=some (48,TI.str),bpl:=[(0,9),(1,9),(2,9),(3,9),(4,9),(5,9),(6,9),(7,9),(8,9),(9,9),(10,9),(11,9),(12,9),(13,9),(14,9),(15,9),(16,9),(17,9),(18,9),(19,9),(20,9),(21,9),(22,9),(23,9),(24,9),(25,9),(26,9),(27,9),(28,9),(29,9),(30,9),(31,9),(32,9),(33,9),(34,9),(35,9),(36,9),(37,9),(38,9),(39,9),(40,9),(41,9),(42,9),(43,9),(44,9),(45,9),(46,9),(47,9)] }
set_option maxRecDepth 100000 in
theorem zMY:Facts CC Tryd.prog 108 td108:=⟨by kernel_rfl,by kernel_rfl,by kernel_rfl,by kernel_rfl,by kernel_rfl,by kernel_rfl,by kernel_rfl,by kernel_rfl,by kernel_rfl,by kernel_rfl,by kernel_rfl,fun N=>by kernel_rfl,fun i h=>(by first | (injection h with h; subst h; exact ⟨rfl,rfl⟩) | cases h),fun n i h=>(by injection h with h; injection h with h _; subst h; kernel_rfl),.inr rfl,.inl (by kernel_rfl),fun x k r h=>(by cases h),fun l h=>zZ h⟩
def td110:TD UU:={ has:=true,agg:=true,cells:=2,bytes:=32,code:=some TI.un,flds:=[(0,9),(1,49)],isStruct:=true,zero:=some [.str [],.con .nilIface],mki:=fun v k=>kj v fun u=>k TI.val (.un u.sign u.x) }
theorem zNK:Facts CC Tryd.prog 110 td110:=⟨by kernel_rfl,by kernel_rfl,by kernel_rfl,by kernel_rfl,by kernel_rfl,by kernel_rfl,by kernel_rfl,by kernel_rfl,by kernel_rfl,by kernel_rfl,by kernel_rfl,fun N=>by kernel_rfl,fun i h=>(by first | (injection h with h; subst h; exact ⟨rfl,rfl⟩) | cases h),fun n i h=>(by cases h),.inr rfl,.inr rfl,fun v k r h=>(by have h:kj v (fun u=>k TI.val (.un u.sign u.x))=some r:=h; obtain ⟨u,h1,h2⟩:=zFZ h; exact ⟨by kernel_rfl,_,_,h1,fun N=>by rw [h2 N,jS]; rfl⟩),fun l h=>zZ h⟩
def td111:TD UU:={ has:=true,agg:=true,cells:=10,bytes:=160,zero:=some [.str [],.str [],.str [],.str [],.str [],.str [],.str [],.str [],.str [],.str []],arr:=some (10,TI.str),bpl:=[(0,9),(1,9),(2,9),(3,9),(4,9),(5,9),(6,9),(7,9),(8,9),(9,9)] }
set_option maxRecDepth 100000 in
theorem zNB:Facts CC Tryd.prog 111 td111:=⟨by kernel_rfl,by kernel_rfl,by kernel_rfl,by kernel_rfl,by kernel_rfl,by kernel_rfl,by kernel_rfl,by kernel_rfl,by kernel_rfl,by kernel_rfl,by kernel_rfl,fun N=>by kernel_rfl,fun i h=>(by first | (injection h with h; subst h; exact ⟨rfl,rfl⟩) | cases h),fun n i h=>(by injection h with h; injection h with h _; subst h; kernel_rfl),.inr rfl,.inl (by kernel_rfl),fun x k r h=>(by cases h),fun l h=>zZ h⟩
def tdL:List (Nat×TD UU):=[(2,td2),(3,td3),(4,td4),(5,td5),(9,td9),(21,td21),(23,td23),(26,td26),(30,td30),(40,td40),(43,td43),(47,td47),(49,td49),(52,td52),(54,td54),(57,td57),(61,td61),(62,td62),(64,td64),(69,td69),(76,td76),(78,td78),(88,td88),(99,td99),(100,td100),(104,td104),(105,td105),(108,td108),(110,td110),(111,td111)]
def Tb:Nat->TD UU:=zFY tdL
theorem zX:TbOk CC Tryd.prog Tb:=zIi (by
 intro p hp
 simp only [tdL,List.mem_cons,List.not_mem_nil,or_false] at hp
 rcases hp with rfl | rfl | rfl | rfl | rfl | rfl | rfl | rfl | rfl | rfl | rfl | rfl | rfl | rfl | rfl | rfl | rfl | rfl | rfl | rfl | rfl | rfl | rfl | rfl | rfl | rfl | rfl | rfl | rfl | rfl
 · exact td2_ok
 · exact td3_ok
 · exact td4_ok
 · exact td5_ok
 · exact td9_ok
 · exact zNe
 · exact zOC
 · exact zOH
 · exact zN5
 · exact zNY
 · exact zN6
 · exact zNw
 · exact zN3
 · exact zNr
 · exact zOU
 · exact zOY
 · exact zNc
 · exact zNP
 · exact zOD
 · exact zNQ
 · exact zNR
 · exact zNm
 · exact zNU
 · exact zOO
 · exact zMs
 · exact zM2
 · exact zMk
 · exact zMY
 · exact zNK
 · exact zNB)
end
end Go.Proofs.YtonnigoiklahdaaDoor
section
namespace Go.Den
def zR (l:List (Nat×List (Nat×Nat×Nat))) (n:Nat):List (Nat×Nat×Nat):=(zA l n).getD []
end Go.Den
namespace Go.Proofs.YtonnigoiklahdaaDoor
open Go.Al Go.Den
abbrev LK:=List (SK UU)
abbrev Str:=List UInt8
def syn:List PanicEntry:=[]
abbrev rdK:SK UU:=.box [.str,.int .i64]
abbrev RdT:=Str×Int×Unit
abbrev k0:LK:=[]
abbrev kN:LK:=[.st TI.val]
abbrev kB:LK:=[.bool]
abbrev kS:LK:=[.str]
abbrev kI:LK:=[.int .i64]
abbrev CQ:=CPOk CC Tryd.prog syn
abbrev LT:=List TokT
abbrev ck {ρ:Type} (n:Nat) (x:Option ρ):Option ρ:=cond (okN 40 n) x none
abbrev bo {α ρ:Type} (x:Option (Option α)) (f:α->Option (Option ρ)):Option (Option ρ):=Option.bind x fun o=>zu o (some none) f
abbrev DD (α:Type):=Str->Int->Option (α×Int)
def fD {aa rs:List (SK UU)} (m:zB aa->DD (zB rs)) {R:Type} (x:RdT×Unit) (a:zB aa) (K:RdT×Unit->zB rs->Option R):Option R:=
 Option.bind (m a x.1.1 x.1.2.1) fun y=>K ((x.1.1,y.2,()),()) y.1
abbrev cD (aa rs:List (SK UU)) (m:zB aa->DD (zB rs)):CP UU:=⟨[rdK],[rdK],aa,rs,fun x a _ K=>fD m x a K⟩
def fRD {aa rs:List (SK UU)} (m:zB aa->Str->Int->Option (zB rs)) {R:Type} (x:RdT×zB aa) (K:zB rs->Option R):Option R:=
 Option.bind (m x.2 x.1.1 x.1.2.1) fun y=>K y
abbrev cRD (aa rs:List (SK UU)) (m:zB aa->Str->Int->Option (zB rs)):CR UU:=⟨rdK::aa,rs,fun x K=>fRD m x K⟩
abbrev exK:SK UU:=.box [.bl TI.tok,.bool,.int .i64]
abbrev ExT:=(Bool×List TokT)×Bool×Int×Unit
abbrev ES:=(Bool×List TokT)×Bool×Int
def exI (x:ExT×Unit):ES:=(x.1.1,x.1.2.1,x.1.2.2.1)
def exO (y:ES):ExT×Unit:=((y.1,y.2.1,y.2.2,()),())
abbrev EE (α:Type):=ES->Option (α×ES)
def fE {aa rs:List (SK UU)} (m:zB aa->EE (zB rs)) {R:Type} (x:ExT×Unit) (a:zB aa) (K:ExT×Unit->zB rs->Option R):Option R:=
 Option.bind (m a (x.1.1,x.1.2.1,x.1.2.2.1)) fun y=>K ((y.2.1,y.2.2.1,y.2.2.2,()),()) y.1
abbrev cE (aa rs:List (SK UU)) (m:zB aa->EE (zB rs)):CP UU:=⟨[exK],[exK],aa,rs,fun x a _ K=>fE m x a K⟩
def fF {aa rs:List (SK UU)} (m:zB aa->Option (zB rs)) {R:Type} (x:Unit) (a:zB aa) (K:Unit->zB rs->Option R):Option R:=
 Option.bind (m a) fun y=>K () y
abbrev cF (aa rs:List (SK UU)) (m:zB aa->Option (zB rs)):CP UU:=⟨[],[],aa,rs,fun x a _ K=>fF m x a K⟩
end Go.Proofs.YtonnigoiklahdaaDoor
end
namespace Go.Proofs.YtonnigoiklahdaaDoor
section
open Go.Al Go.Den
abbrev as44:List (AK UU):=[.str,.int .u8]
abbrev rs44:List (AK UU):=[.int .i64]
abbrev as58:List (AK UU):=[.str,.str]
abbrev rs58:List (AK UU):=[.int .i64]
def kf29:Nat->List Nat
 | 0=>[0]
 | 1=>[0,6]
 | 2=>[0,6,7]
 | 3=>[0,6,7]
 | 4=>[0,6,7]
 | 5=>[0,6,7]
 | 6=>[0,7]
 | 7=>[0]
 | 8=>[0,2]
 | 9=>[0,21]
 | 10=>[0,3]
 | 11=>[0,3,33]
 | 12=>[0,3]
 | 13=>[0]
 | 14=>[0,2]
 | 15=>[0,54]
 | 16=>[0,2]
 | 17=>[0,4]
 | 18=>[0,4,67]
 | 19=>[0,2]
 | 20=>[0]
 | 21=>[0,2]
 | _=>[]
def hd29:List (Nat×Head UU):=[]
def jn29:List (Nat×Head UU):=[(7,⟨[0],[(7,.bool)],[(0,rdK)]⟩),(13,⟨[0],[(3,.int .i64)],[(0,rdK)]⟩),(9,⟨[0],[],[(0,rdK)]⟩)]
noncomputable def fd29:FD UU:=⟨⟨fun d=>hasN [] d,fun d=>hasN [] d,kf29,zA hd29,zA jn29,zR []⟩,zO Tryd.f29,77,[.tmp 2]⟩
def kf30:Nat->List Nat
 | 0=>[0]
 | 1=>[0,10]
 | 2=>[0,2,3]
 | 3=>[0,4]
 | 4=>[0,4,14]
 | 5=>[0,2,3]
 | 6=>[0,5]
 | 7=>[0,5,19]
 | 8=>[0,2,3]
 | 9=>[0,6]
 | 10=>[0,6,24]
 | 11=>[0,2,3]
 | 12=>[0,7]
 | 13=>[0,7,29]
 | 14=>[0,2,3]
 | 15=>[0,8]
 | 16=>[0,8,34]
 | 17=>[0,2,3]
 | 18=>[0,2,3]
 | _=>[]
def hd30:List (Nat×Head UU):=[]
def jn30:List (Nat×Head UU):=[]
noncomputable def fd30:FD UU:=⟨⟨fun d=>hasN [] d,fun d=>hasN [] d,kf30,zA hd30,zA jn30,zR []⟩,zO Tryd.f30,36,[.tmp 2,.tmp 3]⟩
def kf38:Nat->List Nat
 | 0=>[0,1]
 | 1=>[4]
 | _=>[]
def hd38:List (Nat×Head UU):=[]
def jn38:List (Nat×Head UU):=[]
noncomputable def fd38:FD UU:=⟨⟨fun d=>hasN [] d,fun d=>hasN [] d,kf38,zA hd38,zA jn38,zR []⟩,zO Tryd.f38,8,[.tmp 4]⟩
def kf57:Nat->List Nat
 | 0=>[0,1]
 | 1=>[0,4]
 | _=>[]
def hd57:List (Nat×Head UU):=[]
def jn57:List (Nat×Head UU):=[]
noncomputable def fd57:FD UU:=⟨⟨fun d=>hasN [] d,fun d=>hasN [] d,kf57,zA hd57,zA jn57,zR []⟩,zO Tryd.f57,16,[.tmp 4]⟩
def kf59:Nat->List Nat
 | 0=>[0]
 | 1=>[0,3]
 | 2=>[0,3,17]
 | 3=>[0,3]
 | 4=>[0,2]
 | _=>[]
def hd59:List (Nat×Head UU):=[(2,⟨[0],[(3,.int .i64)],[(0,rdK)]⟩)]
def jn59:List (Nat×Head UU):=[]
noncomputable def fd59:FD UU:=⟨⟨fun d=>hasN [] d,fun d=>hasN [] d,kf59,zA hd59,zA jn59,zR []⟩,zO Tryd.f59,21,[.tmp 2]⟩
def kf60:Nat->List Nat
 | 0=>[0]
 | 1=>[0,20]
 | 2=>[0,2]
 | 3=>[0,3]
 | 4=>[0,3,4,5]
 | 5=>[0,2]
 | 6=>[0,3,4,29]
 | 7=>[0,3]
 | 8=>[0,3,43]
 | 9=>[0,3]
 | _=>[]
def hd60:List (Nat×Head UU):=[(4,⟨[0],[(3,.int .i64)],[(0,rdK)]⟩)]
def jn60:List (Nat×Head UU):=[]
noncomputable def fd60:FD UU:=⟨⟨fun d=>hasN [] d,fun d=>hasN [] d,kf60,zA hd60,zA jn60,zR []⟩,zO Tryd.f60,56,[.tmp 2]⟩
def kf61:Nat->List Nat
 | 0=>[0,1]
 | 1=>[0,1,21]
 | 2=>[0,4]
 | 3=>[0,1,5]
 | 4=>[0,1,5,33]
 | 5=>[0,1,5]
 | 6=>[0,1,5,38]
 | 7=>[0,1,5,38,39]
 | 8=>[0,5,47]
 | 9=>[0,4]
 | 10=>[0,4]
 | 11=>[0,1,5,38,50]
 | 12=>[0,4]
 | 13=>[0,1,5,52]
 | 14=>[0,1,5]
 | 15=>[0,1,5,73]
 | 16=>[0,4]
 | 17=>[0,4]
 | _=>[]
def hd61:List (Nat×Head UU):=[(4,⟨[0,1],[(5,.int .i64)],[(0,rdK)]⟩)]
def jn61:List (Nat×Head UU):=[]
noncomputable def fd61:FD UU:=⟨⟨fun d=>hasN [] d,fun d=>hasN [] d,kf61,zA hd61,zA jn61,zR []⟩,zO Tryd.f61,74,[.tmp 4]⟩
def kf62:Nat->List Nat
 | 0=>[0]
 | 1=>[0,3]
 | 2=>[0,3,6,7]
 | 3=>[0,3,6,7,8]
 | 4=>[0,3,5,6,7]
 | 5=>[0,3,5,6,7,19]
 | 6=>[0,3,6,7]
 | 7=>[0,3,6,7]
 | 8=>[0,2]
 | _=>[]
def hd62:List (Nat×Head UU):=[(3,⟨[0,6],[(3,.int .i64),(7,.int .i64)],[(0,rdK)]⟩)]
def jn62:List (Nat×Head UU):=[]
noncomputable def fd62:FD UU:=⟨⟨fun d=>hasN [] d,fun d=>hasN [] d,kf62,zA hd62,zA jn62,zR []⟩,zO Tryd.f62,24,[.tmp 2]⟩
def kf70:Nat->List Nat
 | 0=>[0,1]
 | 1=>[4]
 | _=>[]
def hd70:List (Nat×Head UU):=[]
def jn70:List (Nat×Head UU):=[]
noncomputable def fd70:FD UU:=⟨⟨fun d=>hasN [] d,fun d=>hasN [] d,kf70,zA hd70,zA jn70,zR []⟩,zO Tryd.f70,18,[.tmp 4]⟩
def kf77:Nat->List Nat
 | 0=>[0]
 | 1=>[2]
 | _=>[]
def hd77:List (Nat×Head UU):=[]
def jn77:List (Nat×Head UU):=[]
noncomputable def fd77:FD UU:=⟨⟨fun d=>hasN [] d,fun d=>hasN [] d,kf77,zA hd77,zA jn77,zR []⟩,zO Tryd.f77,21,[.tmp 2]⟩
def kf78:Nat->List Nat
 | 0=>[0]
 | 1=>[2]
 | _=>[]
def hd78:List (Nat×Head UU):=[]
def jn78:List (Nat×Head UU):=[]
noncomputable def fd78:FD UU:=⟨⟨fun d=>hasN [] d,fun d=>hasN [] d,kf78,zA hd78,zA jn78,zR []⟩,zO Tryd.f78,9,[.tmp 2]⟩
noncomputable def run29 (fu:Nat) (c44:List UInt8×Int×Unit->Option (Int×Unit)) (c58:List UInt8×List UInt8×Unit->Option (Int×Unit)) (c56:zB ([.int .i64]:LK)->Str->Int->Option (zB ([.int .u8]:LK))) (c57:zB ([.str]:LK)->DD (zB ([.bool]:LK))) (x:zB [rdK]) (a:zB ([]:LK)):Option (Option (zB [rdK]×zB ([.bool]:LK))):=
 runP CC Tb fu 2 (zA []) (zA [(44,(⟨as44,rs44,c44⟩:Con UU)),(58,(⟨as58,rs58,c58⟩:Con UU))]) (zA [(56,cRD ([.int .i64]:LK) ([.int .u8]:LK) c56)]) (zA [(57,cD ([.str]:LK) ([.bool]:LK) c57)]) fd29 [rdK] [rdK] ([]:LK) ([.bool]:LK) x a
theorem fdok29:FDOk Tryd.prog (hasN [44,58]) (hasN [56]) 29 fd29:=⟨⟨Tryd.f29,Tryd.func29,by kernel_rfl,Tryd.ntmps29,Tryd.results29⟩,by kernel_rfl,by kernel_rfl,by kernel_rfl⟩
noncomputable def run30 (fu:Nat) (c57:zB ([.str]:LK)->DD (zB ([.bool]:LK))) (c59:zB ([]:LK)->DD (zB ([.int .i64]:LK))) (c60:zB ([]:LK)->DD (zB ([.int .i64]:LK))) (c61:zB ([.int .u8]:LK)->DD (zB ([.int .i64]:LK))) (c62:zB ([]:LK)->DD (zB ([.int .i64]:LK))) (x:zB [rdK]) (a:zB ([]:LK)):Option (Option (zB [rdK]×zB ([.int .i64,.int .i64]:LK))):=
 runP CC Tb fu 2 (zA []) (zA []) (zA []) (zA [(57,cD ([.str]:LK) ([.bool]:LK) c57),(59,cD ([]:LK) ([.int .i64]:LK) c59),(60,cD ([]:LK) ([.int .i64]:LK) c60),(61,cD ([.int .u8]:LK) ([.int .i64]:LK) c61),(62,cD ([]:LK) ([.int .i64]:LK) c62)]) fd30 [rdK] [rdK] ([]:LK) ([.int .i64,.int .i64]:LK) x a
theorem fdok30:FDOk Tryd.prog (hasN []) (hasN []) 30 fd30:=⟨⟨Tryd.f30,Tryd.func30,by kernel_rfl,Tryd.ntmps30,Tryd.results30⟩,by kernel_rfl,by kernel_rfl,by kernel_rfl⟩
noncomputable def run57 (fu:Nat) (x:zB [rdK]) (a:zB ([.str]:LK)):Option (Option (zB [rdK]×zB ([.bool]:LK))):=
 runP CC Tb fu 4 (zA [(38,fd38),(70,fd70)]) (zA []) (zA []) (zA []) fd57 [rdK] [rdK] ([.str]:LK) ([.bool]:LK) x a
theorem fdok57:FDOk Tryd.prog (hasN []) (hasN []) 57 fd57:=⟨⟨Tryd.f57,Tryd.func57,by kernel_rfl,Tryd.ntmps57,Tryd.results57⟩,by kernel_rfl,by kernel_rfl,by kernel_rfl⟩
theorem zLS:FDOk Tryd.prog (hasN []) (hasN []) 38 fd38:=⟨⟨Tryd.f38,Tryd.func38,by kernel_rfl,Tryd.ntmps38,Tryd.results38⟩,by kernel_rfl,by kernel_rfl,by kernel_rfl⟩
theorem zLG:FDOk Tryd.prog (hasN []) (hasN []) 70 fd70:=⟨⟨Tryd.f70,Tryd.func70,by kernel_rfl,Tryd.ntmps70,Tryd.results70⟩,by kernel_rfl,by kernel_rfl,by kernel_rfl⟩
noncomputable def run59 (fu:Nat) (c56:zB ([.int .i64]:LK)->Str->Int->Option (zB ([.int .u8]:LK))) (x:zB [rdK]) (a:zB ([]:LK)):Option (Option (zB [rdK]×zB ([.int .i64]:LK))):=
 runP CC Tb fu 4 (zA [(77,fd77),(78,fd78)]) (zA []) (zA [(56,cRD ([.int .i64]:LK) ([.int .u8]:LK) c56)]) (zA []) fd59 [rdK] [rdK] ([]:LK) ([.int .i64]:LK) x a
theorem fdok59:FDOk Tryd.prog (hasN []) (hasN [56]) 59 fd59:=⟨⟨Tryd.f59,Tryd.func59,by kernel_rfl,Tryd.ntmps59,Tryd.results59⟩,by kernel_rfl,by kernel_rfl,by kernel_rfl⟩
theorem zLw:FDOk Tryd.prog (hasN []) (hasN [56]) 77 fd77:=⟨⟨Tryd.f77,Tryd.func77,by kernel_rfl,Tryd.ntmps77,Tryd.results77⟩,by kernel_rfl,by kernel_rfl,by kernel_rfl⟩
theorem zMF:FDOk Tryd.prog (hasN []) (hasN [56]) 78 fd78:=⟨⟨Tryd.f78,Tryd.func78,by kernel_rfl,Tryd.ntmps78,Tryd.results78⟩,by kernel_rfl,by kernel_rfl,by kernel_rfl⟩
noncomputable def run60 (fu:Nat) (c44:List UInt8×Int×Unit->Option (Int×Unit)) (c56:zB ([.int .i64]:LK)->Str->Int->Option (zB ([.int .u8]:LK))) (x:zB [rdK]) (a:zB ([]:LK)):Option (Option (zB [rdK]×zB ([.int .i64]:LK))):=
 runP CC Tb fu 4 (zA [(77,fd77),(78,fd78)]) (zA [(44,(⟨as44,rs44,c44⟩:Con UU))]) (zA [(56,cRD ([.int .i64]:LK) ([.int .u8]:LK) c56)]) (zA []) fd60 [rdK] [rdK] ([]:LK) ([.int .i64]:LK) x a
theorem fdok60:FDOk Tryd.prog (hasN [44]) (hasN [56]) 60 fd60:=⟨⟨Tryd.f60,Tryd.func60,by kernel_rfl,Tryd.ntmps60,Tryd.results60⟩,by kernel_rfl,by kernel_rfl,by kernel_rfl⟩
theorem zLZ:FDOk Tryd.prog (hasN [44]) (hasN [56]) 77 fd77:=⟨⟨Tryd.f77,Tryd.func77,by kernel_rfl,Tryd.ntmps77,Tryd.results77⟩,by kernel_rfl,by kernel_rfl,by kernel_rfl⟩
theorem zK2:FDOk Tryd.prog (hasN [44]) (hasN [56]) 78 fd78:=⟨⟨Tryd.f78,Tryd.func78,by kernel_rfl,Tryd.ntmps78,Tryd.results78⟩,by kernel_rfl,by kernel_rfl,by kernel_rfl⟩
noncomputable def run61 (fu:Nat) (c56:zB ([.int .i64]:LK)->Str->Int->Option (zB ([.int .u8]:LK))) (x:zB [rdK]) (a:zB ([.int .u8]:LK)):Option (Option (zB [rdK]×zB ([.int .i64]:LK))):=
 runP CC Tb fu 2 (zA []) (zA []) (zA [(56,cRD ([.int .i64]:LK) ([.int .u8]:LK) c56)]) (zA []) fd61 [rdK] [rdK] ([.int .u8]:LK) ([.int .i64]:LK) x a
theorem fdok61:FDOk Tryd.prog (hasN []) (hasN [56]) 61 fd61:=⟨⟨Tryd.f61,Tryd.func61,by kernel_rfl,Tryd.ntmps61,Tryd.results61⟩,by kernel_rfl,by kernel_rfl,by kernel_rfl⟩
noncomputable def run62 (fu:Nat) (c57:zB ([.str]:LK)->DD (zB ([.bool]:LK))) (x:zB [rdK]) (a:zB ([]:LK)):Option (Option (zB [rdK]×zB ([.int .i64]:LK))):=
 runP CC Tb fu 2 (zA []) (zA []) (zA []) (zA [(57,cD ([.str]:LK) ([.bool]:LK) c57)]) fd62 [rdK] [rdK] ([]:LK) ([.int .i64]:LK) x a
theorem fdok62:FDOk Tryd.prog (hasN []) (hasN []) 62 fd62:=⟨⟨Tryd.f62,Tryd.func62,by kernel_rfl,Tryd.ntmps62,Tryd.results62⟩,by kernel_rfl,by kernel_rfl,by kernel_rfl⟩
end
section
open Go.Al Go.Den
abbrev as9:List (AK UU):=[.dl TI.tok]
abbrev rs9:List (AK UU):=[.int .i64,.int .i64]
abbrev as10:List (AK UU):=[.int .i64,.str]
abbrev rs10:List (AK UU):=[.dl TI.tok]
abbrev as13:List (AK UU):=[.str]
abbrev rs13:List (AK UU):=[.int .i64,.int .i64]
abbrev as15:List (AK UU):=[.str]
abbrev rs15:List (AK UU):=[.int .i64,.int .i64]
abbrev as18:List (AK UU):=[.str]
abbrev rs18:List (AK UU):=[.int .i64]
abbrev as27:List (AK UU):=[.str]
abbrev rs27:List (AK UU):=[.dl TI.char]
abbrev as28:List (AK UU):=[.dl TI.char]
abbrev rs28:List (AK UU):=[.str]
abbrev as39:List (AK UU):=[.int .u8]
abbrev rs39:List (AK UU):=[.int .u64]
abbrev as40:List (AK UU):=[.int .u64,.int .u64]
abbrev rs40:List (AK UU):=[.int .u64,.int .u64]
abbrev as41:List (AK UU):=[.str]
abbrev rs41:List (AK UU):=[.bool]
abbrev as74:List (AK UU):=[.str]
abbrev rs74:List (AK UU):=[.int .i64]
abbrev as83:List (AK UU):=[.str]
abbrev rs83:List (AK UU):=[.dl TI.str]
abbrev zKd:List (AK UU):=[.st TI.cho]
abbrev zG7:List (AK UU):=[.int .i64,.int .i64]
abbrev zKN:List (AK UU):=[.st TI.bin]
abbrev zG6:List (AK UU):=[.int .i64,.int .i64]
abbrev jc:List (AK UU):=[.str,.int .i64,.int .i64]
abbrev qq:List (AK UU):=[.int .i64,.int .i64]
abbrev jh:List (AK UU):=[.str,.int .i64,.int .i64]
abbrev jI:List (AK UU):=[.int .i64]
abbrev zKH:List (AK UU):=[.int .i64]
abbrev zGy:List (AK UU):=[.int .i64,.int .i64]
abbrev zKg:List (AK UU):=[.st TI.un]
abbrev zG4:List (AK UU):=[.int .i64,.int .i64]
abbrev zf:List (AK UU):=[.st TI.val]
abbrev ze:List (AK UU):=[.int .i64,.int .i64]
def kf9:Nat->List Nat
 | 0=>[0]
 | 1=>[4]
 | 2=>[4,5]
 | 3=>[4,5,13]
 | 4=>[2,3]
 | 5=>[4,5,26]
 | 6=>[2,3]
 | 7=>[2,3]
 | _=>[]
def hd9:List (Nat×Head UU):=[]
def jn9:List (Nat×Head UU):=[]
noncomputable def fd9:FD UU:=⟨⟨fun d=>hasN [] d,fun d=>hasN [] d,kf9,zA hd9,zA jn9,zR []⟩,zO Tryd.f9,40,[.tmp 2,.tmp 3]⟩
def kf10:Nat->List Nat
 | 0=>[0,1]
 | 1=>[0,5]
 | 2=>[0,5,6]
 | 3=>[0,5,6,7]
 | 4=>[0,5,6,7,8]
 | 5=>[0,5,6,7,8,32]
 | 6=>[0,5,6,7,8]
 | 7=>[0,5,6,7,8,43]
 | 8=>[4]
 | 9=>[0,5,6,7,8,9,10]
 | 10=>[0,5,6,7,8,10]
 | 11=>[0,5,6,7,8,10]
 | 12=>[0,5,6,7,8]
 | 13=>[0,5,6,7]
 | _=>[]
def hd10:List (Nat×Head UU):=[(4,⟨[0,5,6],[(7,.ow true TI.tok)],[(6,rdK)]⟩),(5,⟨[0,5,6,8],[(7,.ow true TI.tok)],[(6,rdK),(8,.box [.int .i64,.str,.int .i64,.int .i64,.int .i64,.bool])]⟩)]
def jn10:List (Nat×Head UU):=[]
noncomputable def fd10:FD UU:=⟨⟨fun d=>hasN [] d,fun d=>hasN [] d,kf10,zA hd10,zA jn10,zR [(10,[(1000066,53,6),(1000067,53,6),(1000066,57,6),(1000067,57,6),(1000066,61,6),(1000067,61,6)]),(11,[(1000088,71,6),(1000089,71,6),(1000088,74,6),(1000089,74,6),(1000088,79,6),(1000089,79,6),(1000088,85,6),(1000089,85,6)])]⟩,zO Tryd.f10,102,[.tmp 4]⟩
def kf13:Nat->List Nat
 | 0=>[0]
 | 1=>[0,4,5]
 | 2=>[0,4,5,12]
 | 3=>[4,5]
 | 4=>[4,5,21]
 | 5=>[4,5]
 | 6=>[4,5,6,7]
 | 7=>[4,5,6,7,27]
 | 8=>[4,5,6,7]
 | 9=>[4,5,6,7,8]
 | 10=>[4,5,6,7,8,36]
 | 11=>[4,5,7,8,9,10]
 | 12=>[4,5,7,8,10,54]
 | 13=>[2,3]
 | 14=>[4,5,6,7]
 | 15=>[6,66]
 | 16=>[2,3]
 | 17=>[2,3]
 | _=>[]
def hd13:List (Nat×Head UU):=[(7,⟨[4,5],[(6,.int .u64),(7,.int .i64)],[]⟩)]
def jn13:List (Nat×Head UU):=[]
noncomputable def fd13:FD UU:=⟨⟨fun d=>hasN [] d,fun d=>hasN [] d,kf13,zA hd13,zA jn13,zR []⟩,zO Tryd.f13,69,[.tmp 2,.tmp 3]⟩
def kf15:Nat->List Nat
 | 0=>[0]
 | 1=>[0,21]
 | 2=>[2,3]
 | 3=>[4]
 | 4=>[4,27]
 | 5=>[2,3]
 | 6=>[4,39]
 | 7=>[2,3]
 | 8=>[4,5]
 | 9=>[4,5,52]
 | 10=>[2,3]
 | 11=>[4,59]
 | 12=>[2,3]
 | 13=>[2,3]
 | _=>[]
def hd15:List (Nat×Head UU):=[]
def jn15:List (Nat×Head UU):=[]
noncomputable def fd15:FD UU:=⟨⟨fun d=>hasN [] d,fun d=>hasN [] d,kf15,zA hd15,zA jn15,zR []⟩,zO Tryd.f15,63,[.tmp 2,.tmp 3]⟩
def kf18:Nat->List Nat
 | 0=>[0]
 | 1=>[3,4]
 | 2=>[3,4,12]
 | 3=>[2]
 | 4=>[2]
 | _=>[]
def hd18:List (Nat×Head UU):=[]
def jn18:List (Nat×Head UU):=[]
noncomputable def fd18:FD UU:=⟨⟨fun d=>hasN [] d,fun d=>hasN [] d,kf18,zA hd18,zA jn18,zR []⟩,zO Tryd.f18,16,[.tmp 2]⟩
def kf23:Nat->List Nat
 | 0=>[0,1]
 | 1=>[0,1,5]
 | 2=>[0,1,5,12]
 | 3=>[4]
 | 4=>[0,1,5,6]
 | 5=>[0,1,5,6,19]
 | 6=>[0,1,5,6]
 | 7=>[0,1,5,6,7]
 | 8=>[0,1,5,6,7,29]
 | 9=>[0,1,5,6]
 | 10=>[0,1,5,6]
 | 11=>[0,5]
 | 12=>[4]
 | _=>[]
def hd23:List (Nat×Head UU):=[(5,⟨[0,1],[(5,.int .i64),(6,.int .i64)],[(0,.arr TI.tok)]⟩)]
def jn23:List (Nat×Head UU):=[]
noncomputable def fd23:FD UU:=⟨⟨fun d=>hasN [] d,fun d=>hasN [] d,kf23,zA hd23,zA jn23,zR []⟩,zO Tryd.f23,42,[.tmp 4]⟩
def kf24:Nat->List Nat
 | 0=>[0]
 | 1=>[0,4]
 | 2=>[2]
 | 3=>[2]
 | _=>[]
def hd24:List (Nat×Head UU):=[]
def jn24:List (Nat×Head UU):=[]
noncomputable def fd24:FD UU:=⟨⟨fun d=>hasN [5,7] d,fun d=>hasN [] d,kf24,zA hd24,zA jn24,zR []⟩,zO Tryd.f24,8,[.tmp 2]⟩
def kf25:Nat->List Nat
 | 0=>[1]
 | 1=>[2]
 | _=>[]
def hd25:List (Nat×Head UU):=[]
def jn25:List (Nat×Head UU):=[]
noncomputable def fd25:FD UU:=⟨⟨fun d=>hasN [] d,fun d=>hasN [] d,kf25,zA hd25,zA jn25,zR []⟩,zO Tryd.f25,6,[.tmp 2]⟩
def kf26:Nat->List Nat
 | 0=>[0,1]
 | 1=>[0,1,5]
 | 2=>[0,1,5,18]
 | 3=>[0,4]
 | 4=>[0,1,5]
 | 5=>[0,1,5,6]
 | 6=>[0,1,5,6]
 | 7=>[0,4]
 | _=>[]
def hd26:List (Nat×Head UU):=[]
def jn26:List (Nat×Head UU):=[]
noncomputable def fd26:FD UU:=⟨⟨fun d=>hasN [] d,fun d=>hasN [] d,kf26,zA hd26,zA jn26,zR []⟩,zO Tryd.f26,34,[.tmp 4]⟩
def kf39:Nat->List Nat
 | 0=>[0]
 | 1=>[0,3]
 | 2=>[2]
 | 3=>[0,13]
 | 4=>[2]
 | 5=>[0,24]
 | 6=>[2]
 | 7=>[2]
 | _=>[]
def hd39:List (Nat×Head UU):=[]
def jn39:List (Nat×Head UU):=[]
noncomputable def fd39:FD UU:=⟨⟨fun d=>hasN [] d,fun d=>hasN [] d,kf39,zA hd39,zA jn39,zR []⟩,zO Tryd.f39,35,[.tmp 2]⟩
def kf41:Nat->List Nat
 | 0=>[0]
 | 1=>[0,7,8]
 | 2=>[0,7,8,9]
 | 3=>[0,4,7,8]
 | 4=>[0,4,7,8,11,12]
 | 5=>[0,4,7,8,11,12,13]
 | 6=>[0,4,6,7,8,11,12]
 | 7=>[0,4,7,8,11,12,26]
 | 8=>[2]
 | 9=>[0,4,7,8,11,12]
 | 10=>[0,7,8]
 | 11=>[2]
 | _=>[]
def hd41:List (Nat×Head UU):=[(2,⟨[0,7],[(8,.int .i64)],[]⟩),(5,⟨[0,4,7,8,11],[(12,.int .i64)],[]⟩)]
def jn41:List (Nat×Head UU):=[]
noncomputable def fd41:FD UU:=⟨⟨fun d=>hasN [] d,fun d=>hasN [] d,kf41,zA hd41,zA jn41,zR []⟩,zO Tryd.f41,29,[.tmp 2]⟩
def kf48:Nat->List Nat
 | 0=>[0,1]
 | 1=>[4]
 | _=>[]
def hd48:List (Nat×Head UU):=[]
def jn48:List (Nat×Head UU):=[]
noncomputable def fd48:FD UU:=⟨⟨fun d=>hasN [] d,fun d=>hasN [] d,kf48,zA hd48,zA jn48,zR []⟩,zO Tryd.f48,9,[.tmp 4]⟩
def kf50:Nat->List Nat
 | 0=>[0,1]
 | 1=>[0,1,7,8]
 | 2=>[0,1,7,8,9]
 | 3=>[0,1,5,7,8]
 | 4=>[0,1,5,7,8,16]
 | 5=>[4]
 | 6=>[0,1,7,8]
 | 7=>[4]
 | _=>[]
def hd50:List (Nat×Head UU):=[(2,⟨[0,1,7],[(8,.int .i64)],[(0,.arr TI.tok)]⟩)]
def jn50:List (Nat×Head UU):=[]
noncomputable def fd50:FD UU:=⟨⟨fun d=>hasN [] d,fun d=>hasN [] d,kf50,zA hd50,zA jn50,zR []⟩,zO Tryd.f50,19,[.tmp 4]⟩
def kf51:Nat->List Nat
 | 0=>[0,1,2]
 | 1=>[0,1,2,7]
 | 2=>[0,1,2,7,17]
 | 3=>[0,1,2,7,8]
 | 4=>[0,1,2,7,8,9]
 | 5=>[0,1,2,7,8,9,28]
 | 6=>[0,6]
 | 7=>[0,1,2,7,8,9]
 | 8=>[0,1,2,7]
 | 9=>[0,6]
 | _=>[]
def hd51:List (Nat×Head UU):=[(2,⟨[0,1,2],[(7,.st TI.val)],[(0,exK)]⟩)]
def jn51:List (Nat×Head UU):=[]
noncomputable def fd51:FD UU:=⟨⟨fun d=>hasN [] d,fun d=>hasN [] d,kf51,zA hd51,zA jn51,zR []⟩,zO Tryd.f51,43,[.tmp 6]⟩
def kf52:Nat->List Nat
 | 0=>[0]
 | 1=>[0,18]
 | 2=>[0,2]
 | 3=>[0,2]
 | _=>[]
def hd52:List (Nat×Head UU):=[]
def jn52:List (Nat×Head UU):=[]
noncomputable def fd52:FD UU:=⟨⟨fun d=>hasN [] d,fun d=>hasN [] d,kf52,zA hd52,zA jn52,zR []⟩,zO Tryd.f52,26,[.tmp 2]⟩
def kf53:Nat->List Nat
 | 0=>[0,7]
 | 1=>[0]
 | 2=>[0]
 | _=>[]
def hd53:List (Nat×Head UU):=[]
def jn53:List (Nat×Head UU):=[]
noncomputable def fd53:FD UU:=⟨⟨fun d=>hasN [] d,fun d=>hasN [] d,kf53,zA hd53,zA jn53,zR []⟩,zO Tryd.f53,19,[]⟩
def kf54:Nat->List Nat
 | 0=>[0,1]
 | 1=>[0,1,12]
 | 2=>[0]
 | 3=>[0,4]
 | 4=>[0,4]
 | _=>[]
def hd54:List (Nat×Head UU):=[]
def jn54:List (Nat×Head UU):=[]
noncomputable def fd54:FD UU:=⟨⟨fun d=>hasN [] d,fun d=>hasN [] d,kf54,zA hd54,zA jn54,zR []⟩,zO Tryd.f54,21,[.tmp 4]⟩
def kf72:Nat->List Nat
 | 0=>[0,1]
 | 1=>[0,1,7,8]
 | 2=>[0,1,7,8,9]
 | 3=>[0,1,5,7,8]
 | 4=>[0,1,5,7,8,16]
 | 5=>[4]
 | 6=>[0,1,7,8]
 | 7=>[4]
 | _=>[]
def hd72:List (Nat×Head UU):=[(2,⟨[0,1,7],[(8,.int .i64)],[]⟩)]
def jn72:List (Nat×Head UU):=[]
noncomputable def fd72:FD UU:=⟨⟨fun d=>hasN [] d,fun d=>hasN [] d,kf72,zA hd72,zA jn72,zR []⟩,zO Tryd.f72,19,[.tmp 4]⟩
def kf73:Nat->List Nat
 | 0=>[0,1]
 | 1=>[0,1,5]
 | 2=>[0,1,5,21]
 | 3=>[0,4]
 | 4=>[0,1,5,26]
 | 5=>[0]
 | 6=>[0,4]
 | 7=>[0,1,5]
 | 8=>[0,4]
 | _=>[]
def hd73:List (Nat×Head UU):=[]
def jn73:List (Nat×Head UU):=[]
noncomputable def fd73:FD UU:=⟨⟨fun d=>hasN [] d,fun d=>hasN [] d,kf73,zA hd73,zA jn73,zR []⟩,zO Tryd.f73,41,[.tmp 4]⟩
def kf74:Nat->List Nat
 | 0=>[0]
 | 1=>[0,5,6]
 | 2=>[0,5,6,7]
 | 3=>[0,3,4,5,6]
 | 4=>[0,3,5,6,13]
 | 5=>[2]
 | 6=>[0,5,6]
 | 7=>[2]
 | _=>[]
def hd74:List (Nat×Head UU):=[(2,⟨[0,5],[(6,.int .i64)],[]⟩)]
def jn74:List (Nat×Head UU):=[]
noncomputable def fd74:FD UU:=⟨⟨fun d=>hasN [] d,fun d=>hasN [] d,kf74,zA hd74,zA jn74,zR []⟩,zO Tryd.f74,17,[.tmp 2]⟩
def kf82:Nat->List Nat
 | 0=>[0,1]
 | 1=>[0,1,11]
 | 2=>[0,1]
 | 3=>[0,5]
 | 4=>[0,5]
 | 5=>[0,4]
 | 6=>[0,25]
 | 7=>[0]
 | 8=>[0,4]
 | 9=>[0,6]
 | 10=>[0,6]
 | 11=>[0,6,7,8]
 | 12=>[0,6,7,8,45]
 | 13=>[0,7,8]
 | 14=>[0,6,7,8,45,49]
 | 15=>[0,7,8]
 | 16=>[0,6,7,8,45,57]
 | 17=>[0,7,8]
 | 18=>[0,7,8,65]
 | 19=>[0,7,8,71]
 | 20=>[0,7]
 | 21=>[0,4]
 | _=>[]
def hd82:List (Nat×Head UU):=[]
def jn82:List (Nat×Head UU):=[(19,⟨[0],[(7,.int .i64),(8,.int .i64)],[(0,exK)]⟩)]
noncomputable def fd82:FD UU:=⟨⟨fun d=>hasN [] d,fun d=>hasN [] d,kf82,zA hd82,zA jn82,zR []⟩,zO Tryd.f82,78,[.tmp 4]⟩
def kf109:Nat->List Nat
 | 0=>[1]
 | 1=>[1,4,5]
 | 2=>[1,4,5,12]
 | 3=>[2,3]
 | 4=>[1,16]
 | 5=>[2,3]
 | 6=>[2,3]
 | _=>[]
def hd109:List (Nat×Head UU):=[]
def jn109:List (Nat×Head UU):=[]
noncomputable def fd109:FD UU:=⟨⟨fun d=>hasN [] d,fun d=>hasN [] d,kf109,zA hd109,zA jn109,zR []⟩,zO Tryd.f109,29,[.tmp 2,.tmp 3]⟩
def kf110:Nat->List Nat
 | 0=>[1]
 | 1=>[1,4,5]
 | 2=>[1,4,5,13]
 | 3=>[2,3]
 | 4=>[1,4,17]
 | 5=>[2,3]
 | 6=>[1,4,25]
 | 7=>[2,3]
 | 8=>[1,4,5,6]
 | 9=>[1,4,5,6,40]
 | 10=>[2,3]
 | 11=>[2,3]
 | _=>[]
def hd110:List (Nat×Head UU):=[]
def jn110:List (Nat×Head UU):=[]
noncomputable def fd110:FD UU:=⟨⟨fun d=>hasN [] d,fun d=>hasN [] d,kf110,zA hd110,zA jn110,zR []⟩,zO Tryd.f110,49,[.tmp 2,.tmp 3]⟩
def kf111:Nat->List Nat
 | 0=>[0,1,2]
 | 1=>[0,1,2,8]
 | 2=>[0,1,2,8,9]
 | 3=>[0,1,2,8,9]
 | 4=>[0,1,2,13]
 | 5=>[6,7]
 | 6=>[0,1,2,15]
 | 7=>[6,7]
 | 8=>[1,2,23]
 | 9=>[6,7]
 | 10=>[6,7]
 | 11=>[0,1,2,8,30]
 | 12=>[0,1,2,8,30]
 | 13=>[0,1,2,38]
 | 14=>[6,7]
 | 15=>[1,2,40]
 | 16=>[6,7]
 | 17=>[6,7]
 | 18=>[0,1,2,8,47]
 | 19=>[0,1,2,47]
 | 20=>[6,7]
 | 21=>[6,7]
 | _=>[]
def hd111:List (Nat×Head UU):=[]
def jn111:List (Nat×Head UU):=[]
noncomputable def fd111:FD UU:=⟨⟨fun d=>hasN [] d,fun d=>hasN [] d,kf111,zA hd111,zA jn111,zR []⟩,zO Tryd.f111,57,[.tmp 6,.tmp 7]⟩
def kf112:Nat->List Nat
 | 0=>[0]
 | 1=>[3]
 | 2=>[2]
 | 3=>[2]
 | _=>[]
def hd112:List (Nat×Head UU):=[]
def jn112:List (Nat×Head UU):=[]
noncomputable def kK:FD UU:=⟨⟨fun d=>hasN [] d,fun d=>hasN [] d,kf112,zA hd112,zA jn112,zR []⟩,zO Tryd.f112,4,[.tmp 2]⟩
def kf113:Nat->List Nat
 | 0=>[0,1,2]
 | 1=>[1,2,7]
 | 2=>[1,2,7,8]
 | 3=>[6]
 | 4=>[1,2,7,13]
 | 5=>[6]
 | 6=>[1,2,7,18]
 | 7=>[6]
 | 8=>[1,2,7,23]
 | 9=>[6]
 | 10=>[1,2,7,28]
 | 11=>[6]
 | 12=>[1,2,7,33]
 | 13=>[6]
 | 14=>[1,2,7,38]
 | 15=>[6]
 | 16=>[1,2,7,44]
 | 17=>[6]
 | 18=>[1,2,7,50]
 | 19=>[6]
 | 20=>[1,2,7,56]
 | 21=>[6]
 | 22=>[1,2,62]
 | 23=>[6]
 | 24=>[6]
 | _=>[]
def hd113:List (Nat×Head UU):=[]
def jn113:List (Nat×Head UU):=[]
noncomputable def fd113:FD UU:=⟨⟨fun d=>hasN [] d,fun d=>hasN [] d,kf113,zA hd113,zA jn113,zR []⟩,zO Tryd.f113,72,[.tmp 6]⟩
def kf114:Nat->List Nat
 | 0=>[0]
 | 1=>[2,3]
 | _=>[]
def hd114:List (Nat×Head UU):=[]
def jn114:List (Nat×Head UU):=[]
noncomputable def fd114:FD UU:=⟨⟨fun d=>hasN [] d,fun d=>hasN [] d,kf114,zA hd114,zA jn114,zR []⟩,zO Tryd.f114,5,[.tmp 2,.tmp 3]⟩
def kf115:Nat->List Nat
 | 0=>[1]
 | 1=>[1,4,5]
 | 2=>[4,5,13]
 | 3=>[4,5,13,14]
 | 4=>[4,5]
 | 5=>[4,5,13,18]
 | 6=>[4,5]
 | 7=>[4,5,23]
 | 8=>[4,5]
 | 9=>[4,5,28]
 | 10=>[2,3]
 | 11=>[2,3]
 | _=>[]
def hd115:List (Nat×Head UU):=[]
def jn115:List (Nat×Head UU):=[]
noncomputable def fd115:FD UU:=⟨⟨fun d=>hasN [] d,fun d=>hasN [] d,kf115,zA hd115,zA jn115,zR []⟩,zO Tryd.f115,31,[.tmp 2,.tmp 3]⟩
noncomputable def run39 (fu:Nat) (nf:Nat->Bool) (x0:Int):Option (zI rs39):=
 zl CC Tb fu 2 (zA []) (zA []) (zA []) (zA []) fd39 as39 rs39 nf (x0,())
theorem fdok39:FDOk Tryd.prog (hasN []) (hasN []) 39 fd39:=⟨⟨Tryd.f39,Tryd.func39,by kernel_rfl,Tryd.ntmps39,Tryd.results39⟩,by kernel_rfl,by kernel_rfl,by kernel_rfl⟩
noncomputable def run41 (fu:Nat) (nf:Nat->Bool) (x0:List UInt8):Option (zI rs41):=
 zl CC Tb fu 2 (zA []) (zA []) (zA []) (zA []) fd41 as41 rs41 nf (x0,())
theorem fdok41:FDOk Tryd.prog (hasN []) (hasN []) 41 fd41:=⟨⟨Tryd.f41,Tryd.func41,by kernel_rfl,Tryd.ntmps41,Tryd.results41⟩,by kernel_rfl,by kernel_rfl,by kernel_rfl⟩
noncomputable def run13 (fu:Nat) (c39:Int×Unit->Option (Int×Unit)) (c40:Int×Int×Unit->Option (Int×Int×Unit)) (c41:List UInt8×Unit->Option (Bool×Unit)) (nf:Nat->Bool) (x0:List UInt8):Option (zI rs13):=
 zl CC Tb fu 4 (zA [(38,fd38),(70,fd70)]) (zA [(39,(⟨as39,rs39,c39⟩:Con UU)),(40,(⟨as40,rs40,c40⟩:Con UU)),(41,(⟨as41,rs41,c41⟩:Con UU))]) (zA []) (zA []) fd13 as13 rs13 nf (x0,())
theorem fdok13:FDOk Tryd.prog (hasN [39,40,41]) (hasN []) 13 fd13:=⟨⟨Tryd.f13,Tryd.func13,by kernel_rfl,Tryd.ntmps13,Tryd.results13⟩,by kernel_rfl,by kernel_rfl,by kernel_rfl⟩
theorem zLh:FDOk Tryd.prog (hasN [39,40,41]) (hasN []) 38 fd38:=⟨⟨Tryd.f38,Tryd.func38,by kernel_rfl,Tryd.ntmps38,Tryd.results38⟩,by kernel_rfl,by kernel_rfl,by kernel_rfl⟩
theorem zLt:FDOk Tryd.prog (hasN [39,40,41]) (hasN []) 70 fd70:=⟨⟨Tryd.f70,Tryd.func70,by kernel_rfl,Tryd.ntmps70,Tryd.results70⟩,by kernel_rfl,by kernel_rfl,by kernel_rfl⟩
noncomputable def run15 (fu:Nat) (c44:List UInt8×Int×Unit->Option (Int×Unit)) (nf:Nat->Bool) (x0:List UInt8):Option (zI rs15):=
 zl CC Tb fu 2 (zA []) (zA [(44,(⟨as44,rs44,c44⟩:Con UU))]) (zA []) (zA []) fd15 as15 rs15 nf (x0,())
theorem fdok15:FDOk Tryd.prog (hasN [44]) (hasN []) 15 fd15:=⟨⟨Tryd.f15,Tryd.func15,by kernel_rfl,Tryd.ntmps15,Tryd.results15⟩,by kernel_rfl,by kernel_rfl,by kernel_rfl⟩
noncomputable def run113 (fu:Nat) (nf:Nat->Bool) (x0:List UInt8) (x1:Int) (x2:Int):Option (zI jI):=
 zl CC Tb fu 3 (zA [(112,kK)]) (zA []) (zA []) (zA []) fd113 jh jI nf (x0,x1,x2,())
theorem zNj:FDOk Tryd.prog (hasN []) (hasN []) 113 fd113:=⟨⟨Tryd.f113,Tryd.func113,by kernel_rfl,Tryd.ntmps113,Tryd.results113⟩,by kernel_rfl,by kernel_rfl,by kernel_rfl⟩
theorem zJE:FDOk Tryd.prog (hasN []) (hasN []) 112 kK:=⟨⟨Tryd.f112,Tryd.func112,by kernel_rfl,Tryd.ntmps112,Tryd.results112⟩,by kernel_rfl,by kernel_rfl,by kernel_rfl⟩
noncomputable def run111 (fu:Nat) (c113:List UInt8×Int×Int×Unit->Option (Int×Unit)) (nf:Nat->Bool) (x0:List UInt8) (x1:Int) (x2:Int):Option (zI qq):=
 zl CC Tb fu 3 (zA [(112,kK)]) (zA [(113,(⟨jh,jI,c113⟩:Con UU))]) (zA []) (zA []) fd111 jc qq nf (x0,x1,x2,())
theorem zOS:FDOk Tryd.prog (hasN [113]) (hasN []) 111 fd111:=⟨⟨Tryd.f111,Tryd.func111,by kernel_rfl,Tryd.ntmps111,Tryd.results111⟩,by kernel_rfl,by kernel_rfl,by kernel_rfl⟩
theorem zJR:FDOk Tryd.prog (hasN [113]) (hasN []) 112 kK:=⟨⟨Tryd.f112,Tryd.func112,by kernel_rfl,Tryd.ntmps112,Tryd.results112⟩,by kernel_rfl,by kernel_rfl,by kernel_rfl⟩
noncomputable def run74 (fu:Nat) (c83:List UInt8×Unit->Option (List (List UInt8)×Unit)) (nf:Nat->Bool) (x0:List UInt8):Option (zI rs74):=
 zl CC Tb fu 4 (zA [(48,fd48),(72,fd72)]) (zA [(83,(⟨as83,rs83,c83⟩:Con UU))]) (zA []) (zA []) fd74 as74 rs74 nf (x0,())
theorem fdok74:FDOk Tryd.prog (hasN [83]) (hasN []) 74 fd74:=⟨⟨Tryd.f74,Tryd.func74,by kernel_rfl,Tryd.ntmps74,Tryd.results74⟩,by kernel_rfl,by kernel_rfl,by kernel_rfl⟩
theorem zLd:FDOk Tryd.prog (hasN [83]) (hasN []) 48 fd48:=⟨⟨Tryd.f48,Tryd.func48,by kernel_rfl,Tryd.ntmps48,Tryd.results48⟩,by kernel_rfl,by kernel_rfl,by kernel_rfl⟩
theorem zMG:FDOk Tryd.prog (hasN [83]) (hasN []) 72 fd72:=⟨⟨Tryd.f72,Tryd.func72,by kernel_rfl,Tryd.ntmps72,Tryd.results72⟩,by kernel_rfl,by kernel_rfl,by kernel_rfl⟩
noncomputable def run114 (fu:Nat) (nf:Nat->Bool) (x0:Int):Option (zI zGy):=
 zl CC Tb fu 2 (zA []) (zA []) (zA []) (zA []) fd114 zKH zGy nf (x0,())
theorem zOc:FDOk Tryd.prog (hasN []) (hasN []) 114 fd114:=⟨⟨Tryd.f114,Tryd.func114,by kernel_rfl,Tryd.ntmps114,Tryd.results114⟩,by kernel_rfl,by kernel_rfl,by kernel_rfl⟩
noncomputable def run115 (fu:Nat) (c1000000:VT×Unit->Option (Int×Int×Unit)) (nf:Nat->Bool) (x0:UnT):Option (zI zG4):=
 zl CC Tb fu 3 (zA [(112,kK)]) (zA [(1000000,(⟨zf,ze,c1000000⟩:Con UU))]) (zA []) (zA []) fd115 zKg zG4 nf (x0,())
theorem zOG:FDOk Tryd.prog (hasN [1000000]) (hasN []) 115 fd115:=⟨⟨Tryd.f115,Tryd.func115,by kernel_rfl,Tryd.ntmps115,Tryd.results115⟩,by kernel_rfl,by kernel_rfl,by kernel_rfl⟩
theorem zI4:FDOk Tryd.prog (hasN [1000000]) (hasN []) 112 kK:=⟨⟨Tryd.f112,Tryd.func112,by kernel_rfl,Tryd.ntmps112,Tryd.results112⟩,by kernel_rfl,by kernel_rfl,by kernel_rfl⟩
noncomputable def run110 (fu:Nat) (c111:List UInt8×Int×Int×Unit->Option (Int×Int×Unit)) (c1000000:VT×Unit->Option (Int×Int×Unit)) (nf:Nat->Bool) (x0:BinT):Option (zI zG6):=
 zl CC Tb fu 2 (zA []) (zA [(111,(⟨jc,qq,c111⟩:Con UU)),(1000000,(⟨zf,ze,c1000000⟩:Con UU))]) (zA []) (zA []) fd110 zKN zG6 nf (x0,())
theorem zOZ:FDOk Tryd.prog (hasN [111,1000000]) (hasN []) 110 fd110:=⟨⟨Tryd.f110,Tryd.func110,by kernel_rfl,Tryd.ntmps110,Tryd.results110⟩,by kernel_rfl,by kernel_rfl,by kernel_rfl⟩
noncomputable def run109 (fu:Nat) (c1000000:VT×Unit->Option (Int×Int×Unit)) (nf:Nat->Bool) (x0:ChoT):Option (zI zG7):=
 zl CC Tb fu 2 (zA []) (zA [(1000000,(⟨zf,ze,c1000000⟩:Con UU))]) (zA []) (zA []) fd109 zKd zG7 nf (x0,())
theorem zNx:FDOk Tryd.prog (hasN [1000000]) (hasN []) 109 fd109:=⟨⟨Tryd.f109,Tryd.func109,by kernel_rfl,Tryd.ntmps109,Tryd.results109⟩,by kernel_rfl,by kernel_rfl,by kernel_rfl⟩
noncomputable def run52 (fu:Nat) (x:zB [exK]) (a:zB ([]:LK)):Option (Option (zB [exK]×zB ([.str]:LK))):=
 runP CC Tb fu 2 (zA []) (zA []) (zA []) (zA []) fd52 [exK] [exK] ([]:LK) ([.str]:LK) x a
theorem fdok52:FDOk Tryd.prog (hasN []) (hasN []) 52 fd52:=⟨⟨Tryd.f52,Tryd.func52,by kernel_rfl,Tryd.ntmps52,Tryd.results52⟩,by kernel_rfl,by kernel_rfl,by kernel_rfl⟩
noncomputable def run53 (fu:Nat) (c52:zB ([]:LK)->EE (zB ([.str]:LK))) (x:zB [exK]) (a:zB ([.str]:LK)):Option (Option (zB [exK]×zB ([]:LK))):=
 runP CC Tb fu 2 (zA []) (zA []) (zA []) (zA [(52,cE ([]:LK) ([.str]:LK) c52)]) fd53 [exK] [exK] ([.str]:LK) ([]:LK) x a
theorem fdok53:FDOk Tryd.prog (hasN []) (hasN []) 53 fd53:=⟨⟨Tryd.f53,Tryd.func53,by kernel_rfl,Tryd.ntmps53,Tryd.results53⟩,by kernel_rfl,by kernel_rfl,by kernel_rfl⟩
noncomputable def run54 (fu:Nat) (c26:zB ([.int .i64]:LK)->EE (zB ([.st TI.val]:LK))) (x:zB [exK]) (a:zB ([.int .i64]:LK)):Option (Option (zB [exK]×zB ([.st TI.val]:LK))):=
 runP CC Tb fu 2 (zA []) (zA []) (zA []) (zA [(26,cE ([.int .i64]:LK) ([.st TI.val]:LK) c26)]) fd54 [exK] [exK] ([.int .i64]:LK) ([.st TI.val]:LK) x a
theorem fdok54:FDOk Tryd.prog (hasN []) (hasN []) 54 fd54:=⟨⟨Tryd.f54,Tryd.func54,by kernel_rfl,Tryd.ntmps54,Tryd.results54⟩,by kernel_rfl,by kernel_rfl,by kernel_rfl⟩
noncomputable def run26 (fu:Nat) (c51:zB ([.int .i64,.int .i64]:LK)->EE (zB ([.st TI.val]:LK))) (c52:zB ([]:LK)->EE (zB ([.str]:LK))) (c53:zB ([.str]:LK)->EE (zB ([]:LK))) (c54:zB ([.int .i64]:LK)->EE (zB ([.st TI.val]:LK))) (x:zB [exK]) (a:zB ([.int .i64]:LK)):Option (Option (zB [exK]×zB ([.st TI.val]:LK))):=
 runP CC Tb fu 2 (zA []) (zA []) (zA []) (zA [(51,cE ([.int .i64,.int .i64]:LK) ([.st TI.val]:LK) c51),(52,cE ([]:LK) ([.str]:LK) c52),(53,cE ([.str]:LK) ([]:LK) c53),(54,cE ([.int .i64]:LK) ([.st TI.val]:LK) c54)]) fd26 [exK] [exK] ([.int .i64]:LK) ([.st TI.val]:LK) x a
theorem fdok26:FDOk Tryd.prog (hasN []) (hasN []) 26 fd26:=⟨⟨Tryd.f26,Tryd.func26,by kernel_rfl,Tryd.ntmps26,Tryd.results26⟩,by kernel_rfl,by kernel_rfl,by kernel_rfl⟩
noncomputable def run51 (fu:Nat) (c74:List UInt8×Unit->Option (Int×Unit)) (c51:zB ([.int .i64,.int .i64]:LK)->EE (zB ([.st TI.val]:LK))) (c52:zB ([]:LK)->EE (zB ([.str]:LK))) (c53:zB ([.str]:LK)->EE (zB ([]:LK))) (c73:zB ([.int .i64]:LK)->EE (zB ([.st TI.val]:LK))) (x:zB [exK]) (a:zB ([.int .i64,.int .i64]:LK)):Option (Option (zB [exK]×zB ([.st TI.val]:LK))):=
 runP CC Tb fu 2 (zA []) (zA [(74,(⟨as74,rs74,c74⟩:Con UU))]) (zA []) (zA [(51,cE ([.int .i64,.int .i64]:LK) ([.st TI.val]:LK) c51),(52,cE ([]:LK) ([.str]:LK) c52),(53,cE ([.str]:LK) ([]:LK) c53),(73,cE ([.int .i64]:LK) ([.st TI.val]:LK) c73)]) fd51 [exK] [exK] ([.int .i64,.int .i64]:LK) ([.st TI.val]:LK) x a
theorem fdok51:FDOk Tryd.prog (hasN [74]) (hasN []) 51 fd51:=⟨⟨Tryd.f51,Tryd.func51,by kernel_rfl,Tryd.ntmps51,Tryd.results51⟩,by kernel_rfl,by kernel_rfl,by kernel_rfl⟩
noncomputable def run73 (fu:Nat) (c52:zB ([]:LK)->EE (zB ([.str]:LK))) (c53:zB ([.str]:LK)->EE (zB ([]:LK))) (c73:zB ([.int .i64]:LK)->EE (zB ([.st TI.val]:LK))) (c82:zB ([.int .i64]:LK)->EE (zB ([.st TI.val]:LK))) (x:zB [exK]) (a:zB ([.int .i64]:LK)):Option (Option (zB [exK]×zB ([.st TI.val]:LK))):=
 runP CC Tb fu 2 (zA []) (zA []) (zA []) (zA [(52,cE ([]:LK) ([.str]:LK) c52),(53,cE ([.str]:LK) ([]:LK) c53),(73,cE ([.int .i64]:LK) ([.st TI.val]:LK) c73),(82,cE ([.int .i64]:LK) ([.st TI.val]:LK) c82)]) fd73 [exK] [exK] ([.int .i64]:LK) ([.st TI.val]:LK) x a
theorem fdok73:FDOk Tryd.prog (hasN []) (hasN []) 73 fd73:=⟨⟨Tryd.f73,Tryd.func73,by kernel_rfl,Tryd.ntmps73,Tryd.results73⟩,by kernel_rfl,by kernel_rfl,by kernel_rfl⟩
noncomputable def run82 (fu:Nat) (c13:List UInt8×Unit->Option (Int×Int×Unit)) (c15:List UInt8×Unit->Option (Int×Int×Unit)) (c52:zB ([]:LK)->EE (zB ([.str]:LK))) (c53:zB ([.str]:LK)->EE (zB ([]:LK))) (c54:zB ([.int .i64]:LK)->EE (zB ([.st TI.val]:LK))) (x:zB [exK]) (a:zB ([.int .i64]:LK)):Option (Option (zB [exK]×zB ([.st TI.val]:LK))):=
 runP CC Tb fu 2 (zA []) (zA [(13,(⟨as13,rs13,c13⟩:Con UU)),(15,(⟨as15,rs15,c15⟩:Con UU))]) (zA []) (zA [(52,cE ([]:LK) ([.str]:LK) c52),(53,cE ([.str]:LK) ([]:LK) c53),(54,cE ([.int .i64]:LK) ([.st TI.val]:LK) c54)]) fd82 [exK] [exK] ([.int .i64]:LK) ([.st TI.val]:LK) x a
theorem fdok82:FDOk Tryd.prog (hasN [13,15]) (hasN []) 82 fd82:=⟨⟨Tryd.f82,Tryd.func82,by kernel_rfl,Tryd.ntmps82,Tryd.results82⟩,by kernel_rfl,by kernel_rfl,by kernel_rfl⟩
noncomputable def run23 (fu:Nat) (x:zB ([]:LK)) (a:zB ([.arr TI.tok,.fn 25]:LK)):Option (Option (zB ([]:LK)×zB ([.bl TI.tok]:LK))):=
 zJ3 CC Tb fu 4 (zA [(25,fd25),(50,fd50)]) (zA []) (zA []) (zA []) fd23 ([]:LK) ([]:LK) ([.arr TI.tok,.fn 25]:LK) ([.bl TI.tok]:LK) x a
theorem fdok23:FDOk Tryd.prog (hasN []) (hasN []) 23 fd23:=⟨⟨Tryd.f23,Tryd.func23,by kernel_rfl,Tryd.ntmps23,Tryd.results23⟩,by kernel_rfl,by kernel_rfl,by kernel_rfl⟩
theorem zLf:FDOk Tryd.prog (hasN []) (hasN []) 25 fd25:=⟨⟨Tryd.f25,Tryd.func25,by kernel_rfl,Tryd.ntmps25,Tryd.results25⟩,by kernel_rfl,by kernel_rfl,by kernel_rfl⟩
theorem zLT:FDOk Tryd.prog (hasN []) (hasN []) 50 fd50:=⟨⟨Tryd.f50,Tryd.func50,by kernel_rfl,Tryd.ntmps50,Tryd.results50⟩,by kernel_rfl,by kernel_rfl,by kernel_rfl⟩
noncomputable def run9 (fu:Nat) (c1000000:VT×Unit->Option (Int×Int×Unit)) (c23:zB ([.arr TI.tok,.fn 25]:LK)->Option (zB ([.bl TI.tok]:LK))) (c26:zB ([.int .i64]:LK)->EE (zB ([.st TI.val]:LK))) (nf:Nat->Bool) (x0:List TokT):Option (zI rs9):=
 zl CC Tb fu 3 (zA [(24,fd24)]) (zA [(1000000,(⟨zf,ze,c1000000⟩:Con UU))]) (zA []) (zA [(23,cF ([.arr TI.tok,.fn 25]:LK) ([.bl TI.tok]:LK) c23),(26,cE ([.int .i64]:LK) ([.st TI.val]:LK) c26)]) fd9 as9 rs9 nf (x0,())
theorem fdok9:FDOk Tryd.prog (hasN [1000000]) (hasN []) 9 fd9:=⟨⟨Tryd.f9,Tryd.func9,by kernel_rfl,Tryd.ntmps9,Tryd.results9⟩,by kernel_rfl,by kernel_rfl,by kernel_rfl⟩
theorem zMe:FDOk Tryd.prog (hasN [1000000]) (hasN []) 24 fd24:=⟨⟨Tryd.f24,Tryd.func24,by kernel_rfl,Tryd.ntmps24,Tryd.results24⟩,by kernel_rfl,by kernel_rfl,by kernel_rfl⟩
noncomputable def run18 (fu:Nat) (c9:List TokT×Unit->Option (Int×Int×Unit)) (c10:Int×List UInt8×Unit->Option (List TokT×Unit)) (nf:Nat->Bool) (x0:List UInt8):Option (zI rs18):=
 zl CC Tb fu 2 (zA []) (zA [(9,(⟨as9,rs9,c9⟩:Con UU)),(10,(⟨as10,rs10,c10⟩:Con UU))]) (zA []) (zA []) fd18 as18 rs18 nf (x0,())
theorem fdok18:FDOk Tryd.prog (hasN [9,10]) (hasN []) 18 fd18:=⟨⟨Tryd.f18,Tryd.func18,by kernel_rfl,Tryd.ntmps18,Tryd.results18⟩,by kernel_rfl,by kernel_rfl,by kernel_rfl⟩
noncomputable def run10 (fu:Nat) (c27:List UInt8×Unit->Option (List CharT×Unit)) (c28:List CharT×Unit->Option (List UInt8×Unit)) (c29:zB ([]:LK)->DD (zB ([.bool]:LK))) (c30:zB ([]:LK)->DD (zB ([.int .i64,.int .i64]:LK))) (nf:Nat->Bool) (x0:Int) (x1:List UInt8):Option (zI rs10):=
 zl CC Tb fu 2 (zA []) (zA [(27,(⟨as27,rs27,c27⟩:Con UU)),(28,(⟨as28,rs28,c28⟩:Con UU))]) (zA []) (zA [(29,cD ([]:LK) ([.bool]:LK) c29),(30,cD ([]:LK) ([.int .i64,.int .i64]:LK) c30)]) fd10 as10 rs10 nf (x0,x1,())
theorem fdok10:FDOk Tryd.prog (hasN [27,28]) (hasN []) 10 fd10:=⟨⟨Tryd.f10,Tryd.func10,by kernel_rfl,Tryd.ntmps10,Tryd.results10⟩,by kernel_rfl,by kernel_rfl,by kernel_rfl⟩
end
section
open Go.Al Go.Den
abbrev as8:List (AK UU):=[]
abbrev rs8:List (AK UU):=[.bool]
def kf8:Nat->List Nat
 | 0=>[]
 | 1=>[1]
 | 2=>[1,2]
 | 3=>[1,2,3]
 | 4=>[0]
 | _=>[]
def hd8:List (Nat×Head UU):=[]
def jn8:List (Nat×Head UU):=[]
noncomputable def fd8:FD UU:=⟨⟨fun d=>hasN [] d,fun d=>hasN [] d,kf8,zA hd8,zA jn8,zR []⟩,zO Tryd.f8,61,[.tmp 0]⟩
noncomputable def run8 (fu:Nat) (c18:List UInt8×Unit->Option (Int×Unit)) (nf:Nat->Bool) :Option (zI rs8):=
 zl CC Tb fu 2 (zA []) (zA [(18,(⟨as18,rs18,c18⟩:Con UU))]) (zA []) (zA []) fd8 as8 rs8 nf ()
theorem fdok8:FDOk Tryd.prog (hasN [18]) (hasN []) 8 fd8:=⟨⟨Tryd.f8,Tryd.func8,by kernel_rfl,Tryd.ntmps8,Tryd.results8⟩,by kernel_rfl,by kernel_rfl,by kernel_rfl⟩
end
section
open Go.Al Go.Den
abbrev as12:List (AK UU):=[.int .i64,.str]
abbrev rs12:List (AK UU):=[.dl TI.tok]
abbrev as34:List (AK UU):=[.str]
abbrev rs34:List (AK UU):=[.dl TI.char]
abbrev as35:List (AK UU):=[.ls TI.char]
abbrev rs35:List (AK UU):=[.str]
abbrev as36:List (AK UU):=[.str,.int .i64]
abbrev rs36:List (AK UU):=[.int .i64]
abbrev as37:List (AK UU):=[.str,.int .i64]
abbrev rs37:List (AK UU):=[.int .i64,.int .i64]
abbrev as65:List (AK UU):=[.str,.int .i64,.str]
abbrev rs65:List (AK UU):=[.bool]
abbrev as66:List (AK UU):=[.str,.int .i64]
abbrev rs66:List (AK UU):=[.int .i64]
abbrev as67:List (AK UU):=[.str,.int .i64]
abbrev rs67:List (AK UU):=[.int .i64]
abbrev as68:List (AK UU):=[.str,.int .i64,.int .u8]
abbrev rs68:List (AK UU):=[.int .i64]
abbrev as69:List (AK UU):=[.str,.int .i64]
abbrev rs69:List (AK UU):=[.int .i64]
abbrev as79:List (AK UU):=[.int .u8]
abbrev rs79:List (AK UU):=[.bool]
abbrev as80:List (AK UU):=[.int .u8]
abbrev rs80:List (AK UU):=[.bool]
def kf12:Nat->List Nat
 | 0=>[0,1]
 | 1=>[0,5]
 | 2=>[0,5,6]
 | 3=>[0,5,6,7]
 | 4=>[0,5,6,7,8]
 | 5=>[0,5,6,7,8,9]
 | 6=>[0,5,6,7,8,9,20]
 | 7=>[0,5,6,7,8,9,10]
 | 8=>[0,5,6,7,8,9,10,26]
 | 9=>[0,5,6,7,8]
 | 10=>[0,5,6,7,8,9]
 | 11=>[0,5,6,7,8,9,11,12]
 | 12=>[0,5,6,7,8,12]
 | 13=>[0,5,6,7,8,9,12]
 | 14=>[0,5,6,7,8,9]
 | 15=>[4]
 | _=>[]
def hd12:List (Nat×Head UU):=[(6,⟨[0,5,6],[(7,.ow true TI.tok),(8,.int .i64),(9,.bool)],[]⟩)]
def jn12:List (Nat×Head UU):=[]
noncomputable def fd12:FD UU:=⟨⟨fun d=>hasN [] d,fun d=>hasN [] d,kf12,zA hd12,zA jn12,zR []⟩,zO Tryd.f12,65,[.tmp 4]⟩
def kf34:Nat->List Nat
 | 0=>[0]
 | 1=>[0,3]
 | 2=>[0,3,4]
 | 3=>[0,3,4,8]
 | 4=>[0,3,4,26]
 | 5=>[0,3,4]
 | 6=>[0,3,4]
 | 7=>[0,3,4]
 | 8=>[2]
 | _=>[]
def hd34:List (Nat×Head UU):=[(3,⟨[0],[(3,.ow true TI.char),(4,.int .i64)],[]⟩)]
def jn34:List (Nat×Head UU):=[]
noncomputable def fd34:FD UU:=⟨⟨fun d=>hasN [] d,fun d=>hasN [] d,kf34,zA hd34,zA jn34,zR []⟩,zO Tryd.f34,40,[.tmp 2]⟩
def kf35:Nat->List Nat
 | 0=>[0]
 | 1=>[0,3]
 | 2=>[0,3,4]
 | 3=>[0,3,4,8]
 | 4=>[0,3,4]
 | 5=>[0,3,4]
 | 6=>[2]
 | _=>[]
def hd35:List (Nat×Head UU):=[(3,⟨[0],[(3,.str),(4,.int .i64)],[]⟩)]
def jn35:List (Nat×Head UU):=[]
noncomputable def fd35:FD UU:=⟨⟨fun d=>hasN [] d,fun d=>hasN [] d,kf35,zA hd35,zA jn35,zR []⟩,zO Tryd.f35,21,[.tmp 2]⟩
def kf36:Nat->List Nat
 | 0=>[0,1]
 | 1=>[0,1,30]
 | 2=>[4]
 | 3=>[0,1,5]
 | 4=>[0,1,36]
 | 5=>[0,1,46]
 | 6=>[0,1]
 | 7=>[4]
 | 8=>[0,1,6]
 | 9=>[0,1,53]
 | 10=>[0,1,7]
 | 11=>[0,1,7,59]
 | 12=>[0,1,7]
 | 13=>[0,1,7,8]
 | 14=>[0,1,7,65]
 | 15=>[4]
 | 16=>[4]
 | _=>[]
def hd36:List (Nat×Head UU):=[(5,⟨[0],[(1,.int .i64)],[]⟩),(11,⟨[0,1],[(7,.int .i64)],[]⟩)]
def jn36:List (Nat×Head UU):=[]
noncomputable def fd36:FD UU:=⟨⟨fun d=>hasN [] d,fun d=>hasN [] d,kf36,zA hd36,zA jn36,zR []⟩,zO Tryd.f36,69,[.tmp 4]⟩
def kf37:Nat->List Nat
 | 0=>[0,1]
 | 1=>[0,1,10]
 | 2=>[4,5]
 | 3=>[0,1,6]
 | 4=>[0,1,6,15]
 | 5=>[4,5]
 | 6=>[0,1,6]
 | 7=>[0,1,6,21]
 | 8=>[4,5]
 | 9=>[0,1,6]
 | 10=>[0,1,6,27]
 | 11=>[4,5]
 | 12=>[0,1,6]
 | 13=>[0,1,6,33]
 | 14=>[4,5]
 | 15=>[6]
 | 16=>[6,39]
 | 17=>[4,5]
 | 18=>[4,5]
 | _=>[]
def hd37:List (Nat×Head UU):=[]
def jn37:List (Nat×Head UU):=[]
noncomputable def fd37:FD UU:=⟨⟨fun d=>hasN [] d,fun d=>hasN [] d,kf37,zA hd37,zA jn37,zR []⟩,zO Tryd.f37,41,[.tmp 4,.tmp 5]⟩
def kf65:Nat->List Nat
 | 0=>[0,1,2]
 | 1=>[6]
 | _=>[]
def hd65:List (Nat×Head UU):=[]
def jn65:List (Nat×Head UU):=[]
noncomputable def fd65:FD UU:=⟨⟨fun d=>hasN [] d,fun d=>hasN [] d,kf65,zA hd65,zA jn65,zR []⟩,zO Tryd.f65,25,[.tmp 6]⟩
def kf66:Nat->List Nat
 | 0=>[0,1]
 | 1=>[0,1,5]
 | 2=>[0,1,5,31]
 | 3=>[0,1,5]
 | 4=>[4]
 | _=>[]
def hd66:List (Nat×Head UU):=[(2,⟨[0,1],[(5,.int .i64)],[]⟩)]
def jn66:List (Nat×Head UU):=[]
noncomputable def fd66:FD UU:=⟨⟨fun d=>hasN [] d,fun d=>hasN [] d,kf66,zA hd66,zA jn66,zR []⟩,zO Tryd.f66,35,[.tmp 4]⟩
def kf67:Nat->List Nat
 | 0=>[0,1]
 | 1=>[0,1,5]
 | 2=>[0,1,35]
 | 3=>[4]
 | 4=>[0,1,6]
 | 5=>[0,1,6,41]
 | 6=>[0,1,6,7]
 | 7=>[0,1,6,7,8]
 | 8=>[0,1,6,7,88]
 | 9=>[0,1,6]
 | 10=>[0,1,6,102]
 | 11=>[0,1,6]
 | 12=>[4]
 | _=>[]
def hd67:List (Nat×Head UU):=[(5,⟨[0,1],[(6,.int .i64)],[]⟩)]
def jn67:List (Nat×Head UU):=[]
noncomputable def fd67:FD UU:=⟨⟨fun d=>hasN [] d,fun d=>hasN [] d,kf67,zA hd67,zA jn67,zR []⟩,zO Tryd.f67,106,[.tmp 4]⟩
def kf68:Nat->List Nat
 | 0=>[0,1,2]
 | 1=>[0,1,2,12]
 | 2=>[6]
 | 3=>[0,1,2,7]
 | 4=>[0,1,2,7,26]
 | 5=>[0,1,2,7,33]
 | 6=>[7,39]
 | 7=>[6]
 | 8=>[6]
 | 9=>[0,1,2,7,47]
 | 10=>[0,1,2,7]
 | 11=>[0,1,2,7,63]
 | 12=>[6]
 | 13=>[0,1,2,7]
 | 14=>[6]
 | _=>[]
def hd68:List (Nat×Head UU):=[(4,⟨[0,1,2],[(7,.int .i64)],[]⟩)]
def jn68:List (Nat×Head UU):=[]
noncomputable def fd68:FD UU:=⟨⟨fun d=>hasN [] d,fun d=>hasN [] d,kf68,zA hd68,zA jn68,zR []⟩,zO Tryd.f68,66,[.tmp 6]⟩
def kf69:Nat->List Nat
 | 0=>[0,1]
 | 1=>[0,1,5]
 | 2=>[0,1,5,6]
 | 3=>[0,1,5,6,7]
 | 4=>[0,1,5,6,7,8]
 | 5=>[0,1,5,6,7,8,18]
 | 6=>[0,1,5,6,7,8]
 | 7=>[0,1,5,6,7,8,9]
 | 8=>[0,1,5,6,7,8,28]
 | 9=>[4]
 | 10=>[0,1,6,7,10]
 | 11=>[0,1,6,7,10,32]
 | 12=>[0,1,6,7,10]
 | 13=>[0,1,6,7,10,11]
 | 14=>[0,1,6,7,10,42]
 | 15=>[4]
 | 16=>[0,1,7,12]
 | 17=>[0,1,7,12,46]
 | 18=>[0,1,7,12]
 | 19=>[0,1,7,12,55]
 | 20=>[4]
 | 21=>[4]
 | _=>[]
def hd69:List (Nat×Head UU):=[(5,⟨[0,1,5,6,7],[(8,.int .i64)],[]⟩),(11,⟨[0,1,6,7],[(10,.int .i64)],[]⟩),(17,⟨[0,1,7],[(12,.int .i64)],[]⟩)]
def jn69:List (Nat×Head UU):=[]
noncomputable def fd69:FD UU:=⟨⟨fun d=>hasN [] d,fun d=>hasN [] d,kf69,zA hd69,zA jn69,zR []⟩,zO Tryd.f69,56,[.tmp 4]⟩
def kf79:Nat->List Nat
 | 0=>[0]
 | 1=>[2]
 | _=>[]
def hd79:List (Nat×Head UU):=[]
def jn79:List (Nat×Head UU):=[]
noncomputable def fd79:FD UU:=⟨⟨fun d=>hasN [] d,fun d=>hasN [] d,kf79,zA hd79,zA jn79,zR []⟩,zO Tryd.f79,21,[.tmp 2]⟩
def kf80:Nat->List Nat
 | 0=>[0]
 | 1=>[2]
 | _=>[]
def hd80:List (Nat×Head UU):=[]
def jn80:List (Nat×Head UU):=[]
noncomputable def fd80:FD UU:=⟨⟨fun d=>hasN [] d,fun d=>hasN [] d,kf80,zA hd80,zA jn80,zR []⟩,zO Tryd.f80,9,[.tmp 2]⟩
noncomputable def run79 (fu:Nat) (nf:Nat->Bool) (x0:Int):Option (zI rs79):=
 zl CC Tb fu 2 (zA []) (zA []) (zA []) (zA []) fd79 as79 rs79 nf (x0,())
theorem fdok79:FDOk Tryd.prog (hasN []) (hasN []) 79 fd79:=⟨⟨Tryd.f79,Tryd.func79,by kernel_rfl,Tryd.ntmps79,Tryd.results79⟩,by kernel_rfl,by kernel_rfl,by kernel_rfl⟩
noncomputable def run80 (fu:Nat) (nf:Nat->Bool) (x0:Int):Option (zI rs80):=
 zl CC Tb fu 2 (zA []) (zA []) (zA []) (zA []) fd80 as80 rs80 nf (x0,())
theorem fdok80:FDOk Tryd.prog (hasN []) (hasN []) 80 fd80:=⟨⟨Tryd.f80,Tryd.func80,by kernel_rfl,Tryd.ntmps80,Tryd.results80⟩,by kernel_rfl,by kernel_rfl,by kernel_rfl⟩
noncomputable def run65 (fu:Nat) (nf:Nat->Bool) (x0:List UInt8) (x1:Int) (x2:List UInt8):Option (zI rs65):=
 zl CC Tb fu 2 (zA []) (zA []) (zA []) (zA []) fd65 as65 rs65 nf (x0,x1,x2,())
theorem fdok65:FDOk Tryd.prog (hasN []) (hasN []) 65 fd65:=⟨⟨Tryd.f65,Tryd.func65,by kernel_rfl,Tryd.ntmps65,Tryd.results65⟩,by kernel_rfl,by kernel_rfl,by kernel_rfl⟩
noncomputable def run66 (fu:Nat) (c79:Int×Unit->Option (Bool×Unit)) (c80:Int×Unit->Option (Bool×Unit)) (nf:Nat->Bool) (x0:List UInt8) (x1:Int):Option (zI rs66):=
 zl CC Tb fu 2 (zA []) (zA [(79,(⟨as79,rs79,c79⟩:Con UU)),(80,(⟨as80,rs80,c80⟩:Con UU))]) (zA []) (zA []) fd66 as66 rs66 nf (x0,x1,())
theorem fdok66:FDOk Tryd.prog (hasN [79,80]) (hasN []) 66 fd66:=⟨⟨Tryd.f66,Tryd.func66,by kernel_rfl,Tryd.ntmps66,Tryd.results66⟩,by kernel_rfl,by kernel_rfl,by kernel_rfl⟩
noncomputable def run67 (fu:Nat) (c79:Int×Unit->Option (Bool×Unit)) (c80:Int×Unit->Option (Bool×Unit)) (nf:Nat->Bool) (x0:List UInt8) (x1:Int):Option (zI rs67):=
 zl CC Tb fu 2 (zA []) (zA [(79,(⟨as79,rs79,c79⟩:Con UU)),(80,(⟨as80,rs80,c80⟩:Con UU))]) (zA []) (zA []) fd67 as67 rs67 nf (x0,x1,())
theorem fdok67:FDOk Tryd.prog (hasN [79,80]) (hasN []) 67 fd67:=⟨⟨Tryd.f67,Tryd.func67,by kernel_rfl,Tryd.ntmps67,Tryd.results67⟩,by kernel_rfl,by kernel_rfl,by kernel_rfl⟩
noncomputable def run68 (fu:Nat) (nf:Nat->Bool) (x0:List UInt8) (x1:Int) (x2:Int):Option (zI rs68):=
 zl CC Tb fu 2 (zA []) (zA []) (zA []) (zA []) fd68 as68 rs68 nf (x0,x1,x2,())
theorem fdok68:FDOk Tryd.prog (hasN []) (hasN []) 68 fd68:=⟨⟨Tryd.f68,Tryd.func68,by kernel_rfl,Tryd.ntmps68,Tryd.results68⟩,by kernel_rfl,by kernel_rfl,by kernel_rfl⟩
noncomputable def run69 (fu:Nat) (c65:List UInt8×Int×List UInt8×Unit->Option (Bool×Unit)) (nf:Nat->Bool) (x0:List UInt8) (x1:Int):Option (zI rs69):=
 zl CC Tb fu 2 (zA []) (zA [(65,(⟨as65,rs65,c65⟩:Con UU))]) (zA []) (zA []) fd69 as69 rs69 nf (x0,x1,())
theorem fdok69:FDOk Tryd.prog (hasN [65]) (hasN []) 69 fd69:=⟨⟨Tryd.f69,Tryd.func69,by kernel_rfl,Tryd.ntmps69,Tryd.results69⟩,by kernel_rfl,by kernel_rfl,by kernel_rfl⟩
noncomputable def run36 (fu:Nat) (c65:List UInt8×Int×List UInt8×Unit->Option (Bool×Unit)) (nf:Nat->Bool) (x0:List UInt8) (x1:Int):Option (zI rs36):=
 zl CC Tb fu 2 (zA []) (zA [(65,(⟨as65,rs65,c65⟩:Con UU))]) (zA []) (zA []) fd36 as36 rs36 nf (x0,x1,())
theorem fdok36:FDOk Tryd.prog (hasN [65]) (hasN []) 36 fd36:=⟨⟨Tryd.f36,Tryd.func36,by kernel_rfl,Tryd.ntmps36,Tryd.results36⟩,by kernel_rfl,by kernel_rfl,by kernel_rfl⟩
noncomputable def run37 (fu:Nat) (c66:List UInt8×Int×Unit->Option (Int×Unit)) (c67:List UInt8×Int×Unit->Option (Int×Unit)) (c68:List UInt8×Int×Int×Unit->Option (Int×Unit)) (c69:List UInt8×Int×Unit->Option (Int×Unit)) (nf:Nat->Bool) (x0:List UInt8) (x1:Int):Option (zI rs37):=
 zl CC Tb fu 2 (zA []) (zA [(66,(⟨as66,rs66,c66⟩:Con UU)),(67,(⟨as67,rs67,c67⟩:Con UU)),(68,(⟨as68,rs68,c68⟩:Con UU)),(69,(⟨as69,rs69,c69⟩:Con UU))]) (zA []) (zA []) fd37 as37 rs37 nf (x0,x1,())
theorem fdok37:FDOk Tryd.prog (hasN [66,67,68,69]) (hasN []) 37 fd37:=⟨⟨Tryd.f37,Tryd.func37,by kernel_rfl,Tryd.ntmps37,Tryd.results37⟩,by kernel_rfl,by kernel_rfl,by kernel_rfl⟩
noncomputable def run34 (fu:Nat) (nf:Nat->Bool) (x0:List UInt8):Option (zI rs34):=
 zl CC Tb fu 2 (zA []) (zA []) (zA []) (zA []) fd34 as34 rs34 nf (x0,())
theorem fdok34:FDOk Tryd.prog (hasN []) (hasN []) 34 fd34:=⟨⟨Tryd.f34,Tryd.func34,by kernel_rfl,Tryd.ntmps34,Tryd.results34⟩,by kernel_rfl,by kernel_rfl,by kernel_rfl⟩
noncomputable def run35 (fu:Nat) (nf:Nat->Bool) (x0:List CharT):Option (zI rs35):=
 zl CC Tb fu 2 (zA []) (zA []) (zA []) (zA []) fd35 as35 rs35 nf (x0,())
theorem fdok35:FDOk Tryd.prog (hasN []) (hasN []) 35 fd35:=⟨⟨Tryd.f35,Tryd.func35,by kernel_rfl,Tryd.ntmps35,Tryd.results35⟩,by kernel_rfl,by kernel_rfl,by kernel_rfl⟩
noncomputable def run12 (fu:Nat) (c34:List UInt8×Unit->Option (List CharT×Unit)) (c35:List CharT×Unit->Option (List UInt8×Unit)) (c36:List UInt8×Int×Unit->Option (Int×Unit)) (c37:List UInt8×Int×Unit->Option (Int×Int×Unit)) (nf:Nat->Bool) (x0:Int) (x1:List UInt8):Option (zI rs12):=
 zl CC Tb fu 2 (zA []) (zA [(34,(⟨as34,rs34,c34⟩:Con UU)),(35,(⟨as35,rs35,c35⟩:Con UU)),(36,(⟨as36,rs36,c36⟩:Con UU)),(37,(⟨as37,rs37,c37⟩:Con UU))]) (zA []) (zA []) fd12 as12 rs12 nf (x0,x1,())
theorem fdok12:FDOk Tryd.prog (hasN [34,35,36,37]) (hasN []) 12 fd12:=⟨⟨Tryd.f12,Tryd.func12,by kernel_rfl,Tryd.ntmps12,Tryd.results12⟩,by kernel_rfl,by kernel_rfl,by kernel_rfl⟩
end
section
open Go.Al Go.Den
abbrev as21:List (AK UU):=[.ls TI.tok,.ls TI.str]
abbrev rs21:List (AK UU):=[.dl TI.tok,.int .i64]
abbrev as22:List (AK UU):=[.ls TI.tok,.ls TI.tok]
abbrev rs22:List (AK UU):=[.bool]
abbrev as49:List (AK UU):=[.ls TI.tok,.int .i64,.str]
abbrev rs49:List (AK UU):=[.bool]
def kf21:Nat->List Nat
 | 0=>[0,1]
 | 1=>[0,1,6]
 | 2=>[0,1,6,7]
 | 3=>[0,1,6,7,16]
 | 4=>[0,1,6,7,8]
 | 5=>[0,1,6,7,8,28]
 | 6=>[0,1,6,7]
 | 7=>[0,1,6,7]
 | 8=>[0,1,6,8,9]
 | 9=>[0,1,6,8,9,10]
 | 10=>[0,1,6,8,9,10,40]
 | 11=>[0,1,6,8,9,10]
 | 12=>[0,1,6,8,9,10,54]
 | 13=>[4,5]
 | 14=>[0,1,6,8,9,10]
 | 15=>[0,1,6,8,9,10]
 | 16=>[0,1,6,8,9,10,11]
 | 17=>[0,1,6,8,9,10,11,60]
 | 18=>[0,1,6,8,9,10,11]
 | 19=>[0,1,6,8,9,10,11,72]
 | 20=>[0,1,6,8,9,10,11]
 | 21=>[0,1,6,7,8,10]
 | 22=>[0,1,6,7,8,76]
 | 23=>[0,1,6,7,8,12]
 | 24=>[0,1,6,7,8,81]
 | 25=>[4,5]
 | 26=>[0,1,6,7,8]
 | 27=>[0,1,6,7]
 | 28=>[4,5]
 | _=>[]
def hd21:List (Nat×Head UU):=[(3,⟨[0,1],[(6,.ow true TI.tok),(7,.int .i64)],[]⟩),(17,⟨[0,1,8,9,10],[(6,.ow true TI.tok),(11,.int .i64)],[(8,.box [.int .i64,.str,.int .i64,.int .i64,.int .i64,.bool])]⟩)]
def jn21:List (Nat×Head UU):=[]
noncomputable def fd21:FD UU:=⟨⟨fun d=>hasN [] d,fun d=>hasN [] d,kf21,zA hd21,zA jn21,zR []⟩,zO Tryd.f21,89,[.tmp 4,.tmp 5]⟩
def kf22:Nat->List Nat
 | 0=>[0,1]
 | 1=>[0,1,10]
 | 2=>[4]
 | 3=>[0,1,5]
 | 4=>[0,1,5,14]
 | 5=>[0,1,5]
 | 6=>[0,1,5,25]
 | 7=>[4]
 | 8=>[4]
 | _=>[]
def hd22:List (Nat×Head UU):=[(4,⟨[0,1],[(5,.int .i64)],[]⟩)]
def jn22:List (Nat×Head UU):=[]
noncomputable def fd22:FD UU:=⟨⟨fun d=>hasN [] d,fun d=>hasN [] d,kf22,zA hd22,zA jn22,zR []⟩,zO Tryd.f22,26,[.tmp 4]⟩
def kf49:Nat->List Nat
 | 0=>[0,1,2]
 | 1=>[6]
 | _=>[]
def hd49:List (Nat×Head UU):=[]
def jn49:List (Nat×Head UU):=[]
noncomputable def fd49:FD UU:=⟨⟨fun d=>hasN [] d,fun d=>hasN [] d,kf49,zA hd49,zA jn49,zR []⟩,zO Tryd.f49,28,[.tmp 6]⟩
noncomputable def run49 (fu:Nat) (nf:Nat->Bool) (x0:List TokT) (x1:Int) (x2:List UInt8):Option (zI rs49):=
 zl CC Tb fu 2 (zA []) (zA []) (zA []) (zA []) fd49 as49 rs49 nf (x0,x1,x2,())
theorem fdok49:FDOk Tryd.prog (hasN []) (hasN []) 49 fd49:=⟨⟨Tryd.f49,Tryd.func49,by kernel_rfl,Tryd.ntmps49,Tryd.results49⟩,by kernel_rfl,by kernel_rfl,by kernel_rfl⟩
noncomputable def run21 (fu:Nat) (c49:List TokT×Int×List UInt8×Unit->Option (Bool×Unit)) (nf:Nat->Bool) (x0:List TokT) (x1:List (List UInt8)):Option (zI rs21):=
 zl CC Tb fu 2 (zA []) (zA [(49,(⟨as49,rs49,c49⟩:Con UU))]) (zA []) (zA []) fd21 as21 rs21 nf (x0,x1,())
theorem fdok21:FDOk Tryd.prog (hasN [49]) (hasN []) 21 fd21:=⟨⟨Tryd.f21,Tryd.func21,by kernel_rfl,Tryd.ntmps21,Tryd.results21⟩,by kernel_rfl,by kernel_rfl,by kernel_rfl⟩
noncomputable def run22 (fu:Nat) (nf:Nat->Bool) (x0:List TokT) (x1:List TokT):Option (zI rs22):=
 zl CC Tb fu 2 (zA []) (zA []) (zA []) (zA []) fd22 as22 rs22 nf (x0,x1,())
theorem fdok22:FDOk Tryd.prog (hasN []) (hasN []) 22 fd22:=⟨⟨Tryd.f22,Tryd.func22,by kernel_rfl,Tryd.ntmps22,Tryd.results22⟩,by kernel_rfl,by kernel_rfl,by kernel_rfl⟩
end
section
open Go.Al Go.Den
abbrev as7:List (AK UU):=[.str,.ls TI.str]
abbrev rs7:List (AK UU):=[.bool]
abbrev as20:List (AK UU):=[.dl TI.tok,.ls TI.str]
abbrev rs20:List (AK UU):=[.dl TI.tok,.int .i64]
abbrev as48:List (AK UU):=[.ls TI.str,.str]
abbrev rs48:List (AK UU):=[.bool]
def kf7:Nat->List Nat
 | 0=>[0,1]
 | 1=>[0,1,5]
 | 2=>[0,1,5,18]
 | 3=>[4]
 | 4=>[0,1,5,6,7]
 | 5=>[5,6,7,8,9]
 | 6=>[4]
 | _=>[]
def hd7:List (Nat×Head UU):=[]
def jn7:List (Nat×Head UU):=[]
noncomputable def fd7:FD UU:=⟨⟨fun d=>hasN [] d,fun d=>hasN [] d,kf7,zA hd7,zA jn7,zR []⟩,zO Tryd.f7,45,[.tmp 4]⟩
def kf20:Nat->List Nat
 | 0=>[1,2]
 | 1=>[1,2,6]
 | 2=>[1,2,6,7]
 | 3=>[1,2,6,7,8]
 | 4=>[1,2,6,7,8,9]
 | 5=>[1,2,6,7,8,9,18]
 | 6=>[1,2,6,7,8,9]
 | 7=>[1,2,6,7,8,9,10]
 | 8=>[1,2,6,7,8,9,10,32]
 | 9=>[1,2,6,7,8,9]
 | 10=>[1,2,6,7,8,9,10,11,12]
 | 11=>[1,2,6,7,8,9,10,11,12,44]
 | 12=>[1,2,6,7,8,10,11,12]
 | 13=>[1,2,6,7,8,10,11,12,63]
 | 14=>[4,5]
 | 15=>[1,2,6,7,8,10,11,12]
 | 16=>[1,2,6,7,8,10,12,72]
 | 17=>[1,2,6,7,8,10,12]
 | 18=>[1,2,6,7,8,12]
 | 19=>[1,2,6,7,8,9]
 | 20=>[4,5]
 | _=>[]
def hd20:List (Nat×Head UU):=[(5,⟨[1,2,6,7],[(8,.ow true TI.tok),(9,.int .i64)],[(2,.box [.dl TI.tok])]⟩)]
def jn20:List (Nat×Head UU):=[]
noncomputable def fd20:FD UU:=⟨⟨fun d=>hasN [] d,fun d=>hasN [] d,kf20,zA hd20,zA jn20,zR []⟩,zO Tryd.f20,80,[.tmp 4,.tmp 5]⟩
def kf46:Nat->List Nat
 | 0=>[0,1,2]
 | 1=>[5]
 | _=>[]
def hd46:List (Nat×Head UU):=[]
def jn46:List (Nat×Head UU):=[]
noncomputable def fd46:FD UU:=⟨⟨fun d=>hasN [] d,fun d=>hasN [] d,kf46,zA hd46,zA jn46,zR []⟩,zO Tryd.f46,27,[.tmp 5]⟩
def kf47:Nat->List Nat
 | 0=>[0,1]
 | 1=>[3]
 | _=>[]
def hd47:List (Nat×Head UU):=[]
def jn47:List (Nat×Head UU):=[]
noncomputable def fd47:FD UU:=⟨⟨fun d=>hasN [] d,fun d=>hasN [] d,kf47,zA hd47,zA jn47,zR []⟩,zO Tryd.f47,16,[.tmp 3]⟩
noncomputable def run48 (fu:Nat) (nf:Nat->Bool) (x0:List (List UInt8)) (x1:List UInt8):Option (zI rs48):=
 zl CC Tb fu 3 (zA [(72,fd72)]) (zA []) (zA []) (zA []) fd48 as48 rs48 nf (x0,x1,())
theorem fdok48:FDOk Tryd.prog (hasN []) (hasN []) 48 fd48:=⟨⟨Tryd.f48,Tryd.func48,by kernel_rfl,Tryd.ntmps48,Tryd.results48⟩,by kernel_rfl,by kernel_rfl,by kernel_rfl⟩
theorem zLW:FDOk Tryd.prog (hasN []) (hasN []) 72 fd72:=⟨⟨Tryd.f72,Tryd.func72,by kernel_rfl,Tryd.ntmps72,Tryd.results72⟩,by kernel_rfl,by kernel_rfl,by kernel_rfl⟩
noncomputable def run20 (fu:Nat) (c48:List (List UInt8)×List UInt8×Unit->Option (Bool×Unit)) (nf:Nat->Bool) (x0:List TokT) (x1:List (List UInt8)):Option (zI rs20):=
 zl CC Tb fu 4 (zA [(46,fd46),(47,fd47)]) (zA [(48,(⟨as48,rs48,c48⟩:Con UU))]) (zA []) (zA []) fd20 as20 rs20 nf (x0,x1,())
theorem fdok20:FDOk Tryd.prog (hasN [48]) (hasN []) 20 fd20:=⟨⟨Tryd.f20,Tryd.func20,by kernel_rfl,Tryd.ntmps20,Tryd.results20⟩,by kernel_rfl,by kernel_rfl,by kernel_rfl⟩
theorem zMD:FDOk Tryd.prog (hasN [48]) (hasN []) 46 fd46:=⟨⟨Tryd.f46,Tryd.func46,by kernel_rfl,Tryd.ntmps46,Tryd.results46⟩,by kernel_rfl,by kernel_rfl,by kernel_rfl⟩
theorem zK8:FDOk Tryd.prog (hasN [48]) (hasN []) 47 fd47:=⟨⟨Tryd.f47,Tryd.func47,by kernel_rfl,Tryd.ntmps47,Tryd.results47⟩,by kernel_rfl,by kernel_rfl,by kernel_rfl⟩
noncomputable def run7 (fu:Nat) (c8:Unit->Option (Bool×Unit)) (c10:Int×List UInt8×Unit->Option (List TokT×Unit)) (c12:Int×List UInt8×Unit->Option (List TokT×Unit)) (c20:List TokT×List (List UInt8)×Unit->Option (List TokT×Int×Unit)) (c21:List TokT×List (List UInt8)×Unit->Option (List TokT×Int×Unit)) (c22:List TokT×List TokT×Unit->Option (Bool×Unit)) (nf:Nat->Bool) (x0:List UInt8) (x1:List (List UInt8)):Option (zI rs7):=
 zl CC Tb fu 2 (zA []) (zA [(8,(⟨as8,rs8,c8⟩:Con UU)),(10,(⟨as10,rs10,c10⟩:Con UU)),(12,(⟨as12,rs12,c12⟩:Con UU)),(20,(⟨as20,rs20,c20⟩:Con UU)),(21,(⟨as21,rs21,c21⟩:Con UU)),(22,(⟨as22,rs22,c22⟩:Con UU))]) (zA []) (zA []) fd7 as7 rs7 nf (x0,x1,())
theorem fdok7:FDOk Tryd.prog (hasN [8,10,12,20,21,22]) (hasN []) 7 fd7:=⟨⟨Tryd.f7,Tryd.func7,by kernel_rfl,Tryd.ntmps7,Tryd.results7⟩,by kernel_rfl,by kernel_rfl,by kernel_rfl⟩
end
section
open Go.Al Go.Den
instance:DecidableEq TokT:=fun a b=>
 if h:a.kind=b.kind/\a.text=b.text/\a.file=b.file/\a.ffrom=b.ffrom/\a.fto=b.fto/\a.blank=b.blank then
  isTrue (by obtain ⟨_,_,_,_,_,_⟩:=a; obtain ⟨_,_,_,_,_,_⟩:=b; simp only at h; obtain ⟨rfl,rfl,rfl,rfl,rfl,rfl⟩:=h; rfl)
 else isFalse fun e=>h (by subst e; exact ⟨rfl,rfl,rfl,rfl,rfl,rfl⟩)
theorem zHk {P:Program} {f:Nat} {io oo aa rs:List (SK UU)} {sh:zB io->zB aa->Option (Option (zB oo×zB rs))} (h:CPOk CC P syn f ⟨io,oo,aa,rs,fnP sh⟩) (x:zB io) (a:zB aa) (oc:Option (zB oo×zB rs)) (hx:sh x a=some oc) :
 ∀ s vx va r1 r2,VKs CC s io x vx r1->VKs CC s aa a va r2->(r1++r2).Nodup->FnC P f (vx++va) (subS s (r1++r2)) (zAk CC syn oo rs vx oc):=by
 cases oc with
 | none=>
  obtain ⟨oc,h1,h2⟩:=h x a (R:=Unit) (some ()) (fun _ _=>none) () (by simp only [fnP,hx]; rfl)
  cases oc with
  | none=>exact h2
  | some y=>cases h1
 | some y=>
  obtain ⟨oc,h1,h2⟩:=h x a (R:=zB oo×zB rs) none (fun u v=>some (u,v)) y (by simp only [fnP,hx]; rfl)
  cases oc with
  | none=>cases h1
  | some y'=>
   injection h1 with h1
   have:y' = y:=h1
   subst this
   exact h2
def outD {β:Type} (l:Str):Option (Option ((RdT×Unit)×β))->Option (β×Int)
 | some (some y)=>if y.1.1.1=l then some (y.2,y.1.1.2.1) else none
 | _=>none
noncomputable def mD {aa rs:LK} (sh:RdT×Unit->zB aa->Option (Option ((RdT×Unit)×zB rs))):zB aa->DD (zB rs):=fun a l i=>outD l (sh ((l,i,()),()) a)
theorem zBd {P:Program} {f:Nat} {aa rs:LK} {sh:zB ([rdK]:LK)->zB aa->Option (Option (zB ([rdK]:LK)×zB rs))} (h:CPOk CC P syn f ⟨[rdK],[rdK],aa,rs,fnP sh⟩):CPOk CC P syn f (cD aa rs (mD sh)):=by
 intro x a R pan K r hr
 obtain ⟨⟨l,i,u⟩,u'⟩:=x
 have key:∀ oo:Option (Option ((RdT×Unit)×zB rs)),sh ((l,i,()),()) a=oo->(Option.bind (outD l oo) fun y=>K ((l,y.2,()),()) y.1)=some r ->
  ∃ oc:Option (zB ([rdK]:LK)×zB rs),(match oc with | none=>pan=some r | some y=>K y.1 y.2=some r)/\∀ s vx va r1 r2,VKs CC s [rdK] ((l,i,u),u') vx r1->VKs CC s aa a va r2->(r1++r2).Nodup->FnC P f (vx++va) (subS s (r1++r2)) (zAk CC syn [rdK] rs vx oc):=by
  intro oo hs hr
  cases oo with
  | none=>cases hr
  | some oc=>
   have hh:=zHk h ((l,i,()),()) a oc hs
   cases oc with
   | none=>cases hr
   | some y=>
    obtain ⟨⟨⟨l',i',w⟩,v2⟩,z⟩:=y
    unfold outD at hr
    simp only at hr
    split at hr
    · rename_i hy
      subst hy
      exact ⟨some (((l',i',()),()),z),hr,hh⟩
    · cases hr
 obtain ⟨oc,h1,h2⟩:=key _ rfl hr
 exact ⟨oc,by cases oc <;> exact h1,h2⟩
def outE {β:Type}:Option (Option ((ExT×Unit)×β))->Option (β×ES)
 | some (some y)=>some (y.2,exI y.1)
 | _=>none
noncomputable def mE {aa rs:LK} (sh:ExT×Unit->zB aa->Option (Option ((ExT×Unit)×zB rs))):zB aa->EE (zB rs):=fun a l=>outE (sh (exO l) a)
theorem zBv {P:Program} {f:Nat} {aa rs:LK} {sh:zB ([exK]:LK)->zB aa->Option (Option (zB ([exK]:LK)×zB rs))} (h:CPOk CC P syn f ⟨[exK],[exK],aa,rs,fnP sh⟩):CPOk CC P syn f (cE aa rs (mE sh)):=by
 intro x a R pan K r hr
 obtain ⟨⟨l,i,j,u⟩,u'⟩:=x
 have key:∀ oo:Option (Option ((ExT×Unit)×zB rs)),sh ((l,i,j,()),()) a=oo->(Option.bind (outE oo) fun y=>K (exO y.2) y.1)=some r ->
  ∃ oc:Option (zB ([exK]:LK)×zB rs),(match oc with | none=>pan=some r | some y=>K y.1 y.2=some r)/\∀ s vx va r1 r2,VKs CC s [exK] ((l,i,j,u),u') vx r1->VKs CC s aa a va r2->(r1++r2).Nodup->FnC P f (vx++va) (subS s (r1++r2)) (zAk CC syn [exK] rs vx oc):=by
  intro oo hs hr
  cases oo with
  | none=>cases hr
  | some oc=>
   have hh:=zHk h ((l,i,j,()),()) a oc hs
   cases oc with
   | none=>cases hr
   | some y=>
    obtain ⟨⟨⟨l',i',j',w⟩,v2⟩,z⟩:=y
    exact ⟨some (((l',i',j',()),()),z),hr,hh⟩
 obtain ⟨oc,h1,h2⟩:=key _ rfl hr
 exact ⟨oc,by cases oc <;> exact h1,h2⟩
def outF {β:Type}:Option (Option (Unit×β))->Option β
 | some (some y)=>some y.2
 | _=>none
noncomputable def mF {aa rs:LK} (sh:Unit->zB aa->Option (Option (Unit×zB rs))):zB aa->Option (zB rs):=fun a=>outF (sh () a)
theorem cF_of {P:Program} {f:Nat} {aa rs:LK} {sh:zB ([]:LK)->zB aa->Option (Option (zB ([]:LK)×zB rs))} (h:CPOk CC P syn f ⟨[],[],aa,rs,fnP sh⟩):CPOk CC P syn f (cF aa rs (mF sh)):=by
 intro x a R pan K r hr
 have key:∀ oo:Option (Option (Unit×zB rs)),sh () a=oo->(Option.bind (outF oo) fun y=>K () y)=some r ->
  ∃ oc:Option (zB ([]:LK)×zB rs),(match oc with | none=>pan=some r | some y=>K y.1 y.2=some r)/\∀ s vx va r1 r2,VKs CC s ([]:LK) x vx r1->VKs CC s aa a va r2->(r1++r2).Nodup->FnC P f (vx++va) (subS s (r1++r2)) (zAk CC syn ([]:LK) rs vx oc):=by
  intro oo hs hr
  cases oo with
  | none=>cases hr
  | some oc=>
   have hh:=zHk h () a oc hs
   cases oc with
   | none=>cases hr
   | some y=>
    obtain ⟨y1,z⟩:=y
    exact ⟨some ((),z),hr,hh⟩
 obtain ⟨oc,h1,h2⟩:=key _ rfl hr
 exact ⟨oc,by cases oc <;> exact h1,h2⟩
end
section
open Go.Al Go.Den
def sh48 (fu:Nat) (nf:Nat->Bool) (x0:(List Str)) (x1:Str):(Option (Bool×Unit)):=iter fu (fun (rec1:((Int×Unit)×Unit)->Option (Bool×Unit)) (s1:((Int×Unit)×Unit))=>cond (ilt s1.1.1 (lenI x0)) (cond (inB s1.1.1 (List.length x0)) (cond (seq x1 (List.getD x0 (Int.toNat s1.1.1) [])) (some ((ile 0 s1.1.1),())) (rec1 (((iadd .i64 s1.1.1 1),()),()))) (none)) (some ((ile 0 (Neg.neg 1)),()))) ((0,()),())
theorem eq48:@run48 = @sh48:=by kernel_rfl
def sh20 (fu:Nat) (c48:((List Str)×(Str×Unit))->(Option (Bool×Unit))) (nf:Nat->Bool) (x0:LT) (x1:(List Str)):(Option (LT×(Int×Unit))):=iter fu (fun (rec1:((LT×(Int×Unit))×((LT×Unit)×Unit))->Option (LT×(Int×Unit))) (s1:((LT×(Int×Unit))×((LT×Unit)×Unit)))=>cond (ilt s1.1.2.1 (lenI s1.2.1.1)) (cond (inB s1.1.2.1 (List.length s1.2.1.1)) (cond (ine (TokT.kind (List.getD s1.2.1.1 (Int.toNat s1.1.2.1) tokD)) 1) (cond (okN 56 ((List.length s1.1.1)+(List.length [(TokT.mk (TokT.kind (List.getD s1.2.1.1 (Int.toNat s1.1.2.1) tokD)) (TokT.text (List.getD s1.2.1.1 (Int.toNat s1.1.2.1) tokD)) (TokT.file (List.getD s1.2.1.1 (Int.toNat s1.1.2.1) tokD)) (TokT.ffrom (List.getD s1.2.1.1 (Int.toNat s1.1.2.1) tokD)) (TokT.fto (List.getD s1.2.1.1 (Int.toNat s1.1.2.1) tokD)) (TokT.blank (List.getD s1.2.1.1 (Int.toNat s1.1.2.1) tokD)))]))) (rec1 (((s1.1.1++[(TokT.mk (TokT.kind (List.getD s1.2.1.1 (Int.toNat s1.1.2.1) tokD)) (TokT.text (List.getD s1.2.1.1 (Int.toNat s1.1.2.1) tokD)) (TokT.file (List.getD s1.2.1.1 (Int.toNat s1.1.2.1) tokD)) (TokT.ffrom (List.getD s1.2.1.1 (Int.toNat s1.1.2.1) tokD)) (TokT.fto (List.getD s1.2.1.1 (Int.toNat s1.1.2.1) tokD)) (TokT.blank (List.getD s1.2.1.1 (Int.toNat s1.1.2.1) tokD)))]),((iadd .i64 s1.1.2.1 1),())),((s1.2.1.1,()),()))) (none)) (cond (!(seq (TokT.text (List.getD s1.2.1.1 (Int.toNat s1.1.2.1) tokD)) [100,101,102,105,110,101,100])) (cond (okN 56 ((List.length s1.1.1)+(List.length [(TokT.mk (TokT.kind (List.getD s1.2.1.1 (Int.toNat s1.1.2.1) tokD)) (TokT.text (List.getD s1.2.1.1 (Int.toNat s1.1.2.1) tokD)) (TokT.file (List.getD s1.2.1.1 (Int.toNat s1.1.2.1) tokD)) (TokT.ffrom (List.getD s1.2.1.1 (Int.toNat s1.1.2.1) tokD)) (TokT.fto (List.getD s1.2.1.1 (Int.toNat s1.1.2.1) tokD)) (TokT.blank (List.getD s1.2.1.1 (Int.toNat s1.1.2.1) tokD)))]))) (rec1 (((s1.1.1++[(TokT.mk (TokT.kind (List.getD s1.2.1.1 (Int.toNat s1.1.2.1) tokD)) (TokT.text (List.getD s1.2.1.1 (Int.toNat s1.1.2.1) tokD)) (TokT.file (List.getD s1.2.1.1 (Int.toNat s1.1.2.1) tokD)) (TokT.ffrom (List.getD s1.2.1.1 (Int.toNat s1.1.2.1) tokD)) (TokT.fto (List.getD s1.2.1.1 (Int.toNat s1.1.2.1) tokD)) (TokT.blank (List.getD s1.2.1.1 (Int.toNat s1.1.2.1) tokD)))]),((iadd .i64 s1.1.2.1 1),())),((s1.2.1.1,()),()))) (none)) (cond (ilt (iadd .i64 s1.1.2.1 1) (lenI s1.2.1.1)) (cond (inB (iadd .i64 s1.1.2.1 1) (List.length s1.2.1.1)) (cond (ieq (TokT.kind (List.getD s1.2.1.1 (Int.toNat (iadd .i64 s1.1.2.1 1)) tokD)) 5) (cond (inB (iadd .i64 s1.1.2.1 1) (List.length s1.2.1.1)) (cond (seq (TokT.text (List.getD s1.2.1.1 (Int.toNat (iadd .i64 s1.1.2.1 1)) tokD)) [40]) (cond (ilt (iadd .i64 s1.1.2.1 2) (lenI s1.2.1.1)) (cond (inB (iadd .i64 s1.1.2.1 2) (List.length s1.2.1.1)) (cond (!(ieq (TokT.kind (List.getD s1.2.1.1 (Int.toNat (iadd .i64 s1.1.2.1 2)) tokD)) 1)) (some ([],(90,()))) (cond (ine (iadd .i64 s1.1.2.1 2) (iadd .i64 s1.1.2.1 3)) (cond (ilt (iadd .i64 s1.1.2.1 3) (lenI s1.2.1.1)) (cond (inB (iadd .i64 s1.1.2.1 3) (List.length s1.2.1.1)) (cond (ieq (TokT.kind (List.getD s1.2.1.1 (Int.toNat (iadd .i64 s1.1.2.1 3)) tokD)) 5) (cond (inB (iadd .i64 s1.1.2.1 3) (List.length s1.2.1.1)) (cond (!(seq (TokT.text (List.getD s1.2.1.1 (Int.toNat (iadd .i64 s1.1.2.1 3)) tokD)) [41])) (some ([],(90,()))) (cond (inB (iadd .i64 s1.1.2.1 2) (List.length s1.2.1.1)) (Option.bind (c48 (x1,((TokT.text (List.getD s1.2.1.1 (Int.toNat (iadd .i64 s1.1.2.1 2)) tokD)),()))) fun y0=>cond y0.1 (cond (okN 56 ((List.length s1.1.1)+(List.length [(TokT.mk 2 [49] (TokT.file (List.getD s1.2.1.1 (Int.toNat s1.1.2.1) tokD)) (TokT.ffrom (List.getD s1.2.1.1 (Int.toNat s1.1.2.1) tokD)) (TokT.fto (List.getD s1.2.1.1 (Int.toNat s1.1.2.1) tokD)) (TokT.blank (List.getD s1.2.1.1 (Int.toNat s1.1.2.1) tokD)))]))) (rec1 (((s1.1.1++[(TokT.mk 2 [49] (TokT.file (List.getD s1.2.1.1 (Int.toNat s1.1.2.1) tokD)) (TokT.ffrom (List.getD s1.2.1.1 (Int.toNat s1.1.2.1) tokD)) (TokT.fto (List.getD s1.2.1.1 (Int.toNat s1.1.2.1) tokD)) (TokT.blank (List.getD s1.2.1.1 (Int.toNat s1.1.2.1) tokD)))]),((iadd .i64 (iadd .i64 s1.1.2.1 3) 1),())),((s1.2.1.1,()),()))) (none)) (cond (okN 56 ((List.length s1.1.1)+(List.length [(TokT.mk 2 [48] (TokT.file (List.getD s1.2.1.1 (Int.toNat s1.1.2.1) tokD)) (TokT.ffrom (List.getD s1.2.1.1 (Int.toNat s1.1.2.1) tokD)) (TokT.fto (List.getD s1.2.1.1 (Int.toNat s1.1.2.1) tokD)) (TokT.blank (List.getD s1.2.1.1 (Int.toNat s1.1.2.1) tokD)))]))) (rec1 (((s1.1.1++[(TokT.mk 2 [48] (TokT.file (List.getD s1.2.1.1 (Int.toNat s1.1.2.1) tokD)) (TokT.ffrom (List.getD s1.2.1.1 (Int.toNat s1.1.2.1) tokD)) (TokT.fto (List.getD s1.2.1.1 (Int.toNat s1.1.2.1) tokD)) (TokT.blank (List.getD s1.2.1.1 (Int.toNat s1.1.2.1) tokD)))]),((iadd .i64 (iadd .i64 s1.1.2.1 3) 1),())),((s1.2.1.1,()),()))) (none))) (none))) (none)) (some ([],(90,())))) (none)) (some ([],(90,())))) (cond (inB (iadd .i64 s1.1.2.1 2) (List.length s1.2.1.1)) (Option.bind (c48 (x1,((TokT.text (List.getD s1.2.1.1 (Int.toNat (iadd .i64 s1.1.2.1 2)) tokD)),()))) fun y0=>cond y0.1 (cond (okN 56 ((List.length s1.1.1)+(List.length [(TokT.mk 2 [49] (TokT.file (List.getD s1.2.1.1 (Int.toNat s1.1.2.1) tokD)) (TokT.ffrom (List.getD s1.2.1.1 (Int.toNat s1.1.2.1) tokD)) (TokT.fto (List.getD s1.2.1.1 (Int.toNat s1.1.2.1) tokD)) (TokT.blank (List.getD s1.2.1.1 (Int.toNat s1.1.2.1) tokD)))]))) (rec1 (((s1.1.1++[(TokT.mk 2 [49] (TokT.file (List.getD s1.2.1.1 (Int.toNat s1.1.2.1) tokD)) (TokT.ffrom (List.getD s1.2.1.1 (Int.toNat s1.1.2.1) tokD)) (TokT.fto (List.getD s1.2.1.1 (Int.toNat s1.1.2.1) tokD)) (TokT.blank (List.getD s1.2.1.1 (Int.toNat s1.1.2.1) tokD)))]),((iadd .i64 (iadd .i64 s1.1.2.1 3) 1),())),((s1.2.1.1,()),()))) (none)) (cond (okN 56 ((List.length s1.1.1)+(List.length [(TokT.mk 2 [48] (TokT.file (List.getD s1.2.1.1 (Int.toNat s1.1.2.1) tokD)) (TokT.ffrom (List.getD s1.2.1.1 (Int.toNat s1.1.2.1) tokD)) (TokT.fto (List.getD s1.2.1.1 (Int.toNat s1.1.2.1) tokD)) (TokT.blank (List.getD s1.2.1.1 (Int.toNat s1.1.2.1) tokD)))]))) (rec1 (((s1.1.1++[(TokT.mk 2 [48] (TokT.file (List.getD s1.2.1.1 (Int.toNat s1.1.2.1) tokD)) (TokT.ffrom (List.getD s1.2.1.1 (Int.toNat s1.1.2.1) tokD)) (TokT.fto (List.getD s1.2.1.1 (Int.toNat s1.1.2.1) tokD)) (TokT.blank (List.getD s1.2.1.1 (Int.toNat s1.1.2.1) tokD)))]),((iadd .i64 (iadd .i64 s1.1.2.1 3) 1),())),((s1.2.1.1,()),()))) (none))) (none)))) (none)) (some ([],(90,())))) (cond (ilt (iadd .i64 s1.1.2.1 1) (lenI s1.2.1.1)) (cond (inB (iadd .i64 s1.1.2.1 1) (List.length s1.2.1.1)) (cond (!(ieq (TokT.kind (List.getD s1.2.1.1 (Int.toNat (iadd .i64 s1.1.2.1 1)) tokD)) 1)) (some ([],(90,()))) (cond (ine (iadd .i64 s1.1.2.1 1) (iadd .i64 s1.1.2.1 1)) (cond (ilt (iadd .i64 s1.1.2.1 1) (lenI s1.2.1.1)) (cond (inB (iadd .i64 s1.1.2.1 1) (List.length s1.2.1.1)) (cond (ieq (TokT.kind (List.getD s1.2.1.1 (Int.toNat (iadd .i64 s1.1.2.1 1)) tokD)) 5) (cond (inB (iadd .i64 s1.1.2.1 1) (List.length s1.2.1.1)) (cond (!(seq (TokT.text (List.getD s1.2.1.1 (Int.toNat (iadd .i64 s1.1.2.1 1)) tokD)) [41])) (some ([],(90,()))) (cond (inB (iadd .i64 s1.1.2.1 1) (List.length s1.2.1.1)) (Option.bind (c48 (x1,((TokT.text (List.getD s1.2.1.1 (Int.toNat (iadd .i64 s1.1.2.1 1)) tokD)),()))) fun y0=>cond y0.1 (cond (okN 56 ((List.length s1.1.1)+(List.length [(TokT.mk 2 [49] (TokT.file (List.getD s1.2.1.1 (Int.toNat s1.1.2.1) tokD)) (TokT.ffrom (List.getD s1.2.1.1 (Int.toNat s1.1.2.1) tokD)) (TokT.fto (List.getD s1.2.1.1 (Int.toNat s1.1.2.1) tokD)) (TokT.blank (List.getD s1.2.1.1 (Int.toNat s1.1.2.1) tokD)))]))) (rec1 (((s1.1.1++[(TokT.mk 2 [49] (TokT.file (List.getD s1.2.1.1 (Int.toNat s1.1.2.1) tokD)) (TokT.ffrom (List.getD s1.2.1.1 (Int.toNat s1.1.2.1) tokD)) (TokT.fto (List.getD s1.2.1.1 (Int.toNat s1.1.2.1) tokD)) (TokT.blank (List.getD s1.2.1.1 (Int.toNat s1.1.2.1) tokD)))]),((iadd .i64 (iadd .i64 s1.1.2.1 1) 1),())),((s1.2.1.1,()),()))) (none)) (cond (okN 56 ((List.length s1.1.1)+(List.length [(TokT.mk 2 [48] (TokT.file (List.getD s1.2.1.1 (Int.toNat s1.1.2.1) tokD)) (TokT.ffrom (List.getD s1.2.1.1 (Int.toNat s1.1.2.1) tokD)) (TokT.fto (List.getD s1.2.1.1 (Int.toNat s1.1.2.1) tokD)) (TokT.blank (List.getD s1.2.1.1 (Int.toNat s1.1.2.1) tokD)))]))) (rec1 (((s1.1.1++[(TokT.mk 2 [48] (TokT.file (List.getD s1.2.1.1 (Int.toNat s1.1.2.1) tokD)) (TokT.ffrom (List.getD s1.2.1.1 (Int.toNat s1.1.2.1) tokD)) (TokT.fto (List.getD s1.2.1.1 (Int.toNat s1.1.2.1) tokD)) (TokT.blank (List.getD s1.2.1.1 (Int.toNat s1.1.2.1) tokD)))]),((iadd .i64 (iadd .i64 s1.1.2.1 1) 1),())),((s1.2.1.1,()),()))) (none))) (none))) (none)) (some ([],(90,())))) (none)) (some ([],(90,())))) (cond (inB (iadd .i64 s1.1.2.1 1) (List.length s1.2.1.1)) (Option.bind (c48 (x1,((TokT.text (List.getD s1.2.1.1 (Int.toNat (iadd .i64 s1.1.2.1 1)) tokD)),()))) fun y0=>cond y0.1 (cond (okN 56 ((List.length s1.1.1)+(List.length [(TokT.mk 2 [49] (TokT.file (List.getD s1.2.1.1 (Int.toNat s1.1.2.1) tokD)) (TokT.ffrom (List.getD s1.2.1.1 (Int.toNat s1.1.2.1) tokD)) (TokT.fto (List.getD s1.2.1.1 (Int.toNat s1.1.2.1) tokD)) (TokT.blank (List.getD s1.2.1.1 (Int.toNat s1.1.2.1) tokD)))]))) (rec1 (((s1.1.1++[(TokT.mk 2 [49] (TokT.file (List.getD s1.2.1.1 (Int.toNat s1.1.2.1) tokD)) (TokT.ffrom (List.getD s1.2.1.1 (Int.toNat s1.1.2.1) tokD)) (TokT.fto (List.getD s1.2.1.1 (Int.toNat s1.1.2.1) tokD)) (TokT.blank (List.getD s1.2.1.1 (Int.toNat s1.1.2.1) tokD)))]),((iadd .i64 (iadd .i64 s1.1.2.1 1) 1),())),((s1.2.1.1,()),()))) (none)) (cond (okN 56 ((List.length s1.1.1)+(List.length [(TokT.mk 2 [48] (TokT.file (List.getD s1.2.1.1 (Int.toNat s1.1.2.1) tokD)) (TokT.ffrom (List.getD s1.2.1.1 (Int.toNat s1.1.2.1) tokD)) (TokT.fto (List.getD s1.2.1.1 (Int.toNat s1.1.2.1) tokD)) (TokT.blank (List.getD s1.2.1.1 (Int.toNat s1.1.2.1) tokD)))]))) (rec1 (((s1.1.1++[(TokT.mk 2 [48] (TokT.file (List.getD s1.2.1.1 (Int.toNat s1.1.2.1) tokD)) (TokT.ffrom (List.getD s1.2.1.1 (Int.toNat s1.1.2.1) tokD)) (TokT.fto (List.getD s1.2.1.1 (Int.toNat s1.1.2.1) tokD)) (TokT.blank (List.getD s1.2.1.1 (Int.toNat s1.1.2.1) tokD)))]),((iadd .i64 (iadd .i64 s1.1.2.1 1) 1),())),((s1.2.1.1,()),()))) (none))) (none)))) (none)) (some ([],(90,()))))) (none)) (cond (ilt (iadd .i64 s1.1.2.1 1) (lenI s1.2.1.1)) (cond (inB (iadd .i64 s1.1.2.1 1) (List.length s1.2.1.1)) (cond (!(ieq (TokT.kind (List.getD s1.2.1.1 (Int.toNat (iadd .i64 s1.1.2.1 1)) tokD)) 1)) (some ([],(90,()))) (cond (ine (iadd .i64 s1.1.2.1 1) (iadd .i64 s1.1.2.1 1)) (cond (ilt (iadd .i64 s1.1.2.1 1) (lenI s1.2.1.1)) (cond (inB (iadd .i64 s1.1.2.1 1) (List.length s1.2.1.1)) (cond (ieq (TokT.kind (List.getD s1.2.1.1 (Int.toNat (iadd .i64 s1.1.2.1 1)) tokD)) 5) (cond (inB (iadd .i64 s1.1.2.1 1) (List.length s1.2.1.1)) (cond (!(seq (TokT.text (List.getD s1.2.1.1 (Int.toNat (iadd .i64 s1.1.2.1 1)) tokD)) [41])) (some ([],(90,()))) (cond (inB (iadd .i64 s1.1.2.1 1) (List.length s1.2.1.1)) (Option.bind (c48 (x1,((TokT.text (List.getD s1.2.1.1 (Int.toNat (iadd .i64 s1.1.2.1 1)) tokD)),()))) fun y0=>cond y0.1 (cond (okN 56 ((List.length s1.1.1)+(List.length [(TokT.mk 2 [49] (TokT.file (List.getD s1.2.1.1 (Int.toNat s1.1.2.1) tokD)) (TokT.ffrom (List.getD s1.2.1.1 (Int.toNat s1.1.2.1) tokD)) (TokT.fto (List.getD s1.2.1.1 (Int.toNat s1.1.2.1) tokD)) (TokT.blank (List.getD s1.2.1.1 (Int.toNat s1.1.2.1) tokD)))]))) (rec1 (((s1.1.1++[(TokT.mk 2 [49] (TokT.file (List.getD s1.2.1.1 (Int.toNat s1.1.2.1) tokD)) (TokT.ffrom (List.getD s1.2.1.1 (Int.toNat s1.1.2.1) tokD)) (TokT.fto (List.getD s1.2.1.1 (Int.toNat s1.1.2.1) tokD)) (TokT.blank (List.getD s1.2.1.1 (Int.toNat s1.1.2.1) tokD)))]),((iadd .i64 (iadd .i64 s1.1.2.1 1) 1),())),((s1.2.1.1,()),()))) (none)) (cond (okN 56 ((List.length s1.1.1)+(List.length [(TokT.mk 2 [48] (TokT.file (List.getD s1.2.1.1 (Int.toNat s1.1.2.1) tokD)) (TokT.ffrom (List.getD s1.2.1.1 (Int.toNat s1.1.2.1) tokD)) (TokT.fto (List.getD s1.2.1.1 (Int.toNat s1.1.2.1) tokD)) (TokT.blank (List.getD s1.2.1.1 (Int.toNat s1.1.2.1) tokD)))]))) (rec1 (((s1.1.1++[(TokT.mk 2 [48] (TokT.file (List.getD s1.2.1.1 (Int.toNat s1.1.2.1) tokD)) (TokT.ffrom (List.getD s1.2.1.1 (Int.toNat s1.1.2.1) tokD)) (TokT.fto (List.getD s1.2.1.1 (Int.toNat s1.1.2.1) tokD)) (TokT.blank (List.getD s1.2.1.1 (Int.toNat s1.1.2.1) tokD)))]),((iadd .i64 (iadd .i64 s1.1.2.1 1) 1),())),((s1.2.1.1,()),()))) (none))) (none))) (none)) (some ([],(90,())))) (none)) (some ([],(90,())))) (cond (inB (iadd .i64 s1.1.2.1 1) (List.length s1.2.1.1)) (Option.bind (c48 (x1,((TokT.text (List.getD s1.2.1.1 (Int.toNat (iadd .i64 s1.1.2.1 1)) tokD)),()))) fun y0=>cond y0.1 (cond (okN 56 ((List.length s1.1.1)+(List.length [(TokT.mk 2 [49] (TokT.file (List.getD s1.2.1.1 (Int.toNat s1.1.2.1) tokD)) (TokT.ffrom (List.getD s1.2.1.1 (Int.toNat s1.1.2.1) tokD)) (TokT.fto (List.getD s1.2.1.1 (Int.toNat s1.1.2.1) tokD)) (TokT.blank (List.getD s1.2.1.1 (Int.toNat s1.1.2.1) tokD)))]))) (rec1 (((s1.1.1++[(TokT.mk 2 [49] (TokT.file (List.getD s1.2.1.1 (Int.toNat s1.1.2.1) tokD)) (TokT.ffrom (List.getD s1.2.1.1 (Int.toNat s1.1.2.1) tokD)) (TokT.fto (List.getD s1.2.1.1 (Int.toNat s1.1.2.1) tokD)) (TokT.blank (List.getD s1.2.1.1 (Int.toNat s1.1.2.1) tokD)))]),((iadd .i64 (iadd .i64 s1.1.2.1 1) 1),())),((s1.2.1.1,()),()))) (none)) (cond (okN 56 ((List.length s1.1.1)+(List.length [(TokT.mk 2 [48] (TokT.file (List.getD s1.2.1.1 (Int.toNat s1.1.2.1) tokD)) (TokT.ffrom (List.getD s1.2.1.1 (Int.toNat s1.1.2.1) tokD)) (TokT.fto (List.getD s1.2.1.1 (Int.toNat s1.1.2.1) tokD)) (TokT.blank (List.getD s1.2.1.1 (Int.toNat s1.1.2.1) tokD)))]))) (rec1 (((s1.1.1++[(TokT.mk 2 [48] (TokT.file (List.getD s1.2.1.1 (Int.toNat s1.1.2.1) tokD)) (TokT.ffrom (List.getD s1.2.1.1 (Int.toNat s1.1.2.1) tokD)) (TokT.fto (List.getD s1.2.1.1 (Int.toNat s1.1.2.1) tokD)) (TokT.blank (List.getD s1.2.1.1 (Int.toNat s1.1.2.1) tokD)))]),((iadd .i64 (iadd .i64 s1.1.2.1 1) 1),())),((s1.2.1.1,()),()))) (none))) (none)))) (none)) (some ([],(90,()))))) (none)) (cond (ilt (iadd .i64 s1.1.2.1 1) (lenI s1.2.1.1)) (cond (inB (iadd .i64 s1.1.2.1 1) (List.length s1.2.1.1)) (cond (!(ieq (TokT.kind (List.getD s1.2.1.1 (Int.toNat (iadd .i64 s1.1.2.1 1)) tokD)) 1)) (some ([],(90,()))) (cond (ine (iadd .i64 s1.1.2.1 1) (iadd .i64 s1.1.2.1 1)) (cond (ilt (iadd .i64 s1.1.2.1 1) (lenI s1.2.1.1)) (cond (inB (iadd .i64 s1.1.2.1 1) (List.length s1.2.1.1)) (cond (ieq (TokT.kind (List.getD s1.2.1.1 (Int.toNat (iadd .i64 s1.1.2.1 1)) tokD)) 5) (cond (inB (iadd .i64 s1.1.2.1 1) (List.length s1.2.1.1)) (cond (!(seq (TokT.text (List.getD s1.2.1.1 (Int.toNat (iadd .i64 s1.1.2.1 1)) tokD)) [41])) (some ([],(90,()))) (cond (inB (iadd .i64 s1.1.2.1 1) (List.length s1.2.1.1)) (Option.bind (c48 (x1,((TokT.text (List.getD s1.2.1.1 (Int.toNat (iadd .i64 s1.1.2.1 1)) tokD)),()))) fun y0=>cond y0.1 (cond (okN 56 ((List.length s1.1.1)+(List.length [(TokT.mk 2 [49] (TokT.file (List.getD s1.2.1.1 (Int.toNat s1.1.2.1) tokD)) (TokT.ffrom (List.getD s1.2.1.1 (Int.toNat s1.1.2.1) tokD)) (TokT.fto (List.getD s1.2.1.1 (Int.toNat s1.1.2.1) tokD)) (TokT.blank (List.getD s1.2.1.1 (Int.toNat s1.1.2.1) tokD)))]))) (rec1 (((s1.1.1++[(TokT.mk 2 [49] (TokT.file (List.getD s1.2.1.1 (Int.toNat s1.1.2.1) tokD)) (TokT.ffrom (List.getD s1.2.1.1 (Int.toNat s1.1.2.1) tokD)) (TokT.fto (List.getD s1.2.1.1 (Int.toNat s1.1.2.1) tokD)) (TokT.blank (List.getD s1.2.1.1 (Int.toNat s1.1.2.1) tokD)))]),((iadd .i64 (iadd .i64 s1.1.2.1 1) 1),())),((s1.2.1.1,()),()))) (none)) (cond (okN 56 ((List.length s1.1.1)+(List.length [(TokT.mk 2 [48] (TokT.file (List.getD s1.2.1.1 (Int.toNat s1.1.2.1) tokD)) (TokT.ffrom (List.getD s1.2.1.1 (Int.toNat s1.1.2.1) tokD)) (TokT.fto (List.getD s1.2.1.1 (Int.toNat s1.1.2.1) tokD)) (TokT.blank (List.getD s1.2.1.1 (Int.toNat s1.1.2.1) tokD)))]))) (rec1 (((s1.1.1++[(TokT.mk 2 [48] (TokT.file (List.getD s1.2.1.1 (Int.toNat s1.1.2.1) tokD)) (TokT.ffrom (List.getD s1.2.1.1 (Int.toNat s1.1.2.1) tokD)) (TokT.fto (List.getD s1.2.1.1 (Int.toNat s1.1.2.1) tokD)) (TokT.blank (List.getD s1.2.1.1 (Int.toNat s1.1.2.1) tokD)))]),((iadd .i64 (iadd .i64 s1.1.2.1 1) 1),())),((s1.2.1.1,()),()))) (none))) (none))) (none)) (some ([],(90,())))) (none)) (some ([],(90,())))) (cond (inB (iadd .i64 s1.1.2.1 1) (List.length s1.2.1.1)) (Option.bind (c48 (x1,((TokT.text (List.getD s1.2.1.1 (Int.toNat (iadd .i64 s1.1.2.1 1)) tokD)),()))) fun y0=>cond y0.1 (cond (okN 56 ((List.length s1.1.1)+(List.length [(TokT.mk 2 [49] (TokT.file (List.getD s1.2.1.1 (Int.toNat s1.1.2.1) tokD)) (TokT.ffrom (List.getD s1.2.1.1 (Int.toNat s1.1.2.1) tokD)) (TokT.fto (List.getD s1.2.1.1 (Int.toNat s1.1.2.1) tokD)) (TokT.blank (List.getD s1.2.1.1 (Int.toNat s1.1.2.1) tokD)))]))) (rec1 (((s1.1.1++[(TokT.mk 2 [49] (TokT.file (List.getD s1.2.1.1 (Int.toNat s1.1.2.1) tokD)) (TokT.ffrom (List.getD s1.2.1.1 (Int.toNat s1.1.2.1) tokD)) (TokT.fto (List.getD s1.2.1.1 (Int.toNat s1.1.2.1) tokD)) (TokT.blank (List.getD s1.2.1.1 (Int.toNat s1.1.2.1) tokD)))]),((iadd .i64 (iadd .i64 s1.1.2.1 1) 1),())),((s1.2.1.1,()),()))) (none)) (cond (okN 56 ((List.length s1.1.1)+(List.length [(TokT.mk 2 [48] (TokT.file (List.getD s1.2.1.1 (Int.toNat s1.1.2.1) tokD)) (TokT.ffrom (List.getD s1.2.1.1 (Int.toNat s1.1.2.1) tokD)) (TokT.fto (List.getD s1.2.1.1 (Int.toNat s1.1.2.1) tokD)) (TokT.blank (List.getD s1.2.1.1 (Int.toNat s1.1.2.1) tokD)))]))) (rec1 (((s1.1.1++[(TokT.mk 2 [48] (TokT.file (List.getD s1.2.1.1 (Int.toNat s1.1.2.1) tokD)) (TokT.ffrom (List.getD s1.2.1.1 (Int.toNat s1.1.2.1) tokD)) (TokT.fto (List.getD s1.2.1.1 (Int.toNat s1.1.2.1) tokD)) (TokT.blank (List.getD s1.2.1.1 (Int.toNat s1.1.2.1) tokD)))]),((iadd .i64 (iadd .i64 s1.1.2.1 1) 1),())),((s1.2.1.1,()),()))) (none))) (none)))) (none)) (some ([],(90,()))))))) (none)) (some (s1.1.1,(0,())))) (([],(0,())),((x0,()),()))
theorem eq20:@run20 = @sh20:=by kernel_rfl
def sh7 (fu:Nat) (c8:Unit->(Option (Bool×Unit))) (c10:(Int×(Str×Unit))->(Option (LT×Unit))) (c12:(Int×(Str×Unit))->(Option (LT×Unit))) (c20:(LT×((List Str)×Unit))->(Option (LT×(Int×Unit)))) (c21:(LT×((List Str)×Unit))->(Option (LT×(Int×Unit)))) (c22:(LT×(LT×Unit))->(Option (Bool×Unit))) (nf:Nat->Bool) (x0:Str) (x1:(List Str)):(Option (Bool×Unit)):=Option.bind (c8 ()) fun y0=>cond (ilt 500 (lenI x0)) (some (y0.1,())) (cond (ilt 50 (lenI x1)) (some (y0.1,())) (Option.bind (c10 (0,(x0,()))) fun y1=>Option.bind (c20 (y1.1,(x1,()))) fun y2=>Option.bind (c12 (0,(x0,()))) fun y3=>Option.bind (c21 (y3.1,(x1,()))) fun y4=>cond y0.1 (cond (ieq y2.2.1 y4.2.1) (Option.bind (c22 (y2.1,(y4.1,()))) fun y5=>some (y5.1,())) (some (false,()))) (some (false,()))))
theorem eq7:@run7 = @sh7:=by kernel_rfl
theorem con48 (fu:Nat) :ConOk CC Tryd.prog 48 ⟨as48,rs48,fun x=>sh48 fu (fun _=>false) x.1 x.2.1⟩:=
 zV (c:=⟨as48,rs48,fun x=>sh48 fu (fun _=>false) x.1 x.2.1⟩) (syn:=syn) (fu:=fu) (d:=3) (inl:=zA [(72,fd72)]) (orc:=zA []) (orr:=zA []) (orp:=zA []) (pf:=hasN []) (rf:=hasN []) zX CCok mixed (fun g=>(zE (α:=Con UU) (l:=[]) g).symm) (fun g=>(zE (α:=CR UU) (l:=[]) g).symm) (zF zLW (zC)) (zC) (zC) (zC) fdok48 (by show 2<=9; decide) (zQ rfl) (fun nf x=>by show run48 fu nf x.1 x.2.1=_; rw [eq48]; rfl)
theorem con20 (fu:Nat) (c48:zI as48->Option (zI rs48)) (h48:ConOk CC Tryd.prog 48 ⟨as48,rs48,c48⟩):ConOk CC Tryd.prog 20 ⟨as20,rs20,fun x=>sh20 fu c48 (fun _=>false) x.1 x.2.1⟩:=
 zV (c:=⟨as20,rs20,fun x=>sh20 fu c48 (fun _=>false) x.1 x.2.1⟩) (syn:=syn) (fu:=fu) (d:=4) (inl:=zA [(46,fd46),(47,fd47)]) (orc:=zA [(48,(⟨as48,rs48,c48⟩:Con UU))]) (orr:=zA []) (orp:=zA []) (pf:=hasN [48]) (rf:=hasN []) zX CCok mixed (fun g=>(zE (α:=Con UU) (l:=[(48,(⟨as48,rs48,c48⟩:Con UU))]) g).symm) (fun g=>(zE (α:=CR UU) (l:=[]) g).symm) (zF zMD (zF zK8 (zC))) (zF (OrcOk.of ⟨code48,h48⟩ rfl) (zC)) (zC) (zC) fdok20 (by show 2<=80; decide) (zQ rfl) (fun nf x=>by show run20 fu c48 nf x.1 x.2.1=_; rw [eq20]; rfl)
theorem con7 (fu:Nat) (c8:zI as8->Option (zI rs8)) (h8:ConOk CC Tryd.prog 8 ⟨as8,rs8,c8⟩) (c10:zI as10->Option (zI rs10)) (h10:ConOk CC Tryd.prog 10 ⟨as10,rs10,c10⟩) (c12:zI as12->Option (zI rs12)) (h12:ConOk CC Tryd.prog 12 ⟨as12,rs12,c12⟩) (c20:zI as20->Option (zI rs20)) (h20:ConOk CC Tryd.prog 20 ⟨as20,rs20,c20⟩) (c21:zI as21->Option (zI rs21)) (h21:ConOk CC Tryd.prog 21 ⟨as21,rs21,c21⟩) (c22:zI as22->Option (zI rs22)) (h22:ConOk CC Tryd.prog 22 ⟨as22,rs22,c22⟩):ConOk CC Tryd.prog 7 ⟨as7,rs7,fun x=>sh7 fu c8 c10 c12 c20 c21 c22 (fun _=>false) x.1 x.2.1⟩:=
 zV (c:=⟨as7,rs7,fun x=>sh7 fu c8 c10 c12 c20 c21 c22 (fun _=>false) x.1 x.2.1⟩) (syn:=syn) (fu:=fu) (d:=2) (inl:=zA []) (orc:=zA [(8,(⟨as8,rs8,c8⟩:Con UU)),(10,(⟨as10,rs10,c10⟩:Con UU)),(12,(⟨as12,rs12,c12⟩:Con UU)),(20,(⟨as20,rs20,c20⟩:Con UU)),(21,(⟨as21,rs21,c21⟩:Con UU)),(22,(⟨as22,rs22,c22⟩:Con UU))]) (orr:=zA []) (orp:=zA []) (pf:=hasN [8,10,12,20,21,22]) (rf:=hasN []) zX CCok mixed (fun g=>(zE (α:=Con UU) (l:=[(8,(⟨as8,rs8,c8⟩:Con UU)),(10,(⟨as10,rs10,c10⟩:Con UU)),(12,(⟨as12,rs12,c12⟩:Con UU)),(20,(⟨as20,rs20,c20⟩:Con UU)),(21,(⟨as21,rs21,c21⟩:Con UU)),(22,(⟨as22,rs22,c22⟩:Con UU))]) g).symm) (fun g=>(zE (α:=CR UU) (l:=[]) g).symm) (zC) (zF (OrcOk.of ⟨code8,h8⟩ rfl) (zF (OrcOk.of ⟨zL9,h10⟩ rfl) (zF (OrcOk.of ⟨code12,h12⟩ rfl) (zF (OrcOk.of ⟨code20,h20⟩ rfl) (zF (OrcOk.of ⟨code21,h21⟩ rfl) (zF (OrcOk.of ⟨code22,h22⟩ rfl) (zC))))))) (zC) (zC) fdok7 (by show 2<=45; decide) (zQ rfl) (fun nf x=>by show run7 fu c8 c10 c12 c20 c21 c22 nf x.1 x.2.1=_; rw [eq7]; rfl)
end
section
open Go.Al Go.Den
abbrev NdsT:Type:=List Nd×PUnit
def sh49 (fu:Nat) (nf:Nat->Bool) (x0:LT) (x1:Int) (x2:Str):(Option (Bool×Unit)):=cond (ilt x1 (lenI x0)) (cond (inB x1 (List.length x0)) (cond (ieq (TokT.kind (List.getD x0 (Int.toNat x1) tokD)) 5) (cond (inB x1 (List.length x0)) (some ((seq (TokT.text (List.getD x0 (Int.toNat x1) tokD)) x2),())) (none)) (some (false,()))) (none)) (some (false,()))
theorem eq49:@run49 = @sh49:=by kernel_rfl
def sh64 (fu:Nat) (nf:Nat->Bool) (x0:Int):(Option ((List Str)×Unit)):=cond (ieq x0 1) (some ([[124,124]],())) (cond (ieq x0 2) (some ([[38,38]],())) (cond (ieq x0 3) (some ([[124]],())) (cond (ieq x0 4) (some ([[94]],())) (cond (ieq x0 5) (some ([[38]],())) (cond (ieq x0 6) (some ([[61,61],[33,61]],())) (cond (ieq x0 7) (some ([[60],[62],[60,61],[62,61]],())) (cond (ieq x0 8) (some ([[60,60],[62,62]],())) (cond (ieq x0 9) (some ([[43],[45]],())) (some ([[42],[47],[37]],()))))))))))
def sh63 (fu:Nat) (c14:(Str×Unit)->(Option (Int×(Int×Unit)))) (c16:(Str×Unit)->(Option (Int×(Int×Unit)))) (c31:(LT×(Int×(Int×(Int×Unit))))->(Option (Nd×(Int×Unit)))) (c49:(LT×(Int×(Str×Unit)))->(Option (Bool×Unit))) (nf:Nat->Bool) (x0:LT) (x1:Int) (x2:Int):(Option (Nd×(Int×Unit))):=cond (inB x1 (List.length x0)) (cond (ieq (TokT.kind (List.getD x0 (Int.toNat x1) tokD)) 5) (cond (seq (TokT.text (List.getD x0 (Int.toNat x1) tokD)) [43]) (Option.bind (c31 (x0,((iadd .i64 x1 1),(11,((iadd .i64 x2 1),()))))) fun y0=>some ((Nd.mk (TokT.text (List.getD x0 (Int.toNat x1) tokD)) 0 [(Nd.mk (Nd.sign y0.1) (Nd.num y0.1) (Nd.kids y0.1))]),(y0.2.1,()))) (cond (seq (TokT.text (List.getD x0 (Int.toNat x1) tokD)) [45]) (Option.bind (c31 (x0,((iadd .i64 x1 1),(11,((iadd .i64 x2 1),()))))) fun y0=>some ((Nd.mk (TokT.text (List.getD x0 (Int.toNat x1) tokD)) 0 [(Nd.mk (Nd.sign y0.1) (Nd.num y0.1) (Nd.kids y0.1))]),(y0.2.1,()))) (cond (seq (TokT.text (List.getD x0 (Int.toNat x1) tokD)) [33]) (Option.bind (c31 (x0,((iadd .i64 x1 1),(11,((iadd .i64 x2 1),()))))) fun y0=>some ((Nd.mk (TokT.text (List.getD x0 (Int.toNat x1) tokD)) 0 [(Nd.mk (Nd.sign y0.1) (Nd.num y0.1) (Nd.kids y0.1))]),(y0.2.1,()))) (cond (seq (TokT.text (List.getD x0 (Int.toNat x1) tokD)) [126]) (Option.bind (c31 (x0,((iadd .i64 x1 1),(11,((iadd .i64 x2 1),()))))) fun y0=>some ((Nd.mk (TokT.text (List.getD x0 (Int.toNat x1) tokD)) 0 [(Nd.mk (Nd.sign y0.1) (Nd.num y0.1) (Nd.kids y0.1))]),(y0.2.1,()))) (Option.bind (c49 (x0,(x1,([40],())))) fun y0=>cond y0.1 (Option.bind (c31 (x0,((iadd .i64 x1 1),(0,((iadd .i64 x2 1),()))))) fun y1=>cond (ile 0 y1.2.1) (Option.bind (c49 (x0,(y1.2.1,([41],())))) fun y2=>cond (!y2.1) (some ((Nd.mk (Nd.sign y1.1) (Nd.num y1.1) (Nd.kids y1.1)),((Neg.neg 1),()))) (some ((Nd.mk (Nd.sign y1.1) (Nd.num y1.1) (Nd.kids y1.1)),((iadd .i64 y1.2.1 1),())))) (some ((Nd.mk (Nd.sign y1.1) (Nd.num y1.1) (Nd.kids y1.1)),((Neg.neg 1),())))) (cond (ieq (TokT.kind (List.getD x0 (Int.toNat x1) tokD)) 2) (Option.bind (c14 ((TokT.text (List.getD x0 (Int.toNat x1) tokD)),())) fun y1=>cond (ine y1.2.1 0) (some ((Nd.mk [98,97,100] 0 []),((iadd .i64 x1 1),()))) (some ((Nd.mk [] y1.1 []),((iadd .i64 x1 1),())))) (cond (ieq (TokT.kind (List.getD x0 (Int.toNat x1) tokD)) 3) (Option.bind (c16 ((TokT.text (List.getD x0 (Int.toNat x1) tokD)),())) fun y1=>cond (ine y1.2.1 0) (some ((Nd.mk [98,97,100] 0 []),((iadd .i64 x1 1),()))) (some ((Nd.mk [] y1.1 []),((iadd .i64 x1 1),())))) (cond (ine (TokT.kind (List.getD x0 (Int.toNat x1) tokD)) 1) (some ((Nd.mk [] 0 []),((Neg.neg 1),()))) (cond (ine 0 0) (some ((Nd.mk [98,97,100] 0 []),((iadd .i64 x1 1),()))) (some ((Nd.mk [] 0 []),((iadd .i64 x1 1),())))))))))))) (Option.bind (c49 (x0,(x1,([40],())))) fun y0=>cond y0.1 (Option.bind (c31 (x0,((iadd .i64 x1 1),(0,((iadd .i64 x2 1),()))))) fun y1=>cond (ile 0 y1.2.1) (Option.bind (c49 (x0,(y1.2.1,([41],())))) fun y2=>cond (!y2.1) (some ((Nd.mk (Nd.sign y1.1) (Nd.num y1.1) (Nd.kids y1.1)),((Neg.neg 1),()))) (some ((Nd.mk (Nd.sign y1.1) (Nd.num y1.1) (Nd.kids y1.1)),((iadd .i64 y1.2.1 1),())))) (some ((Nd.mk (Nd.sign y1.1) (Nd.num y1.1) (Nd.kids y1.1)),((Neg.neg 1),())))) (cond (ieq (TokT.kind (List.getD x0 (Int.toNat x1) tokD)) 2) (Option.bind (c14 ((TokT.text (List.getD x0 (Int.toNat x1) tokD)),())) fun y1=>cond (ine y1.2.1 0) (some ((Nd.mk [98,97,100] 0 []),((iadd .i64 x1 1),()))) (some ((Nd.mk [] y1.1 []),((iadd .i64 x1 1),())))) (cond (ieq (TokT.kind (List.getD x0 (Int.toNat x1) tokD)) 3) (Option.bind (c16 ((TokT.text (List.getD x0 (Int.toNat x1) tokD)),())) fun y1=>cond (ine y1.2.1 0) (some ((Nd.mk [98,97,100] 0 []),((iadd .i64 x1 1),()))) (some ((Nd.mk [] y1.1 []),((iadd .i64 x1 1),())))) (cond (ine (TokT.kind (List.getD x0 (Int.toNat x1) tokD)) 1) (some ((Nd.mk [] 0 []),((Neg.neg 1),()))) (cond (ine 0 0) (some ((Nd.mk [98,97,100] 0 []),((iadd .i64 x1 1),()))) (some ((Nd.mk [] 0 []),((iadd .i64 x1 1),()))))))))) (none)
def sh31 (fu:Nat) (c31:(LT×(Int×(Int×(Int×Unit))))->(Option (Nd×(Int×Unit)))) (c49:(LT×(Int×(Str×Unit)))->(Option (Bool×Unit))) (c63:(LT×(Int×(Int×Unit)))->(Option (Nd×(Int×Unit)))) (c64:(Int×Unit)->(Option ((List Str)×Unit))) (nf:Nat->Bool) (x0:LT) (x1:Int) (x2:Int) (x3:Int):(Option (Nd×(Int×Unit))):=cond (ilt 60 x3) (some ((Nd.mk [] 0 []),((Neg.neg 1),()))) (cond (ile (lenI x0) x1) (some ((Nd.mk [] 0 []),((Neg.neg 1),()))) (cond (ieq x2 11) (Option.bind (c63 (x0,(x1,(x3,())))) fun y0=>some ((Nd.mk (Nd.sign y0.1) (Nd.num y0.1) (Nd.kids y0.1)),(y0.2.1,()))) (Option.bind (c31 (x0,(x1,((iadd .i64 x2 1),(x3,()))))) fun y0=>cond (ilt y0.2.1 0) (some ((Nd.mk (Nd.sign y0.1) (Nd.num y0.1) (Nd.kids y0.1)),(y0.2.1,()))) (cond (ieq x2 0) (Option.bind (c49 (x0,(y0.2.1,([63],())))) fun y1=>cond (!y1.1) (some ((Nd.mk (Nd.sign y0.1) (Nd.num y0.1) (Nd.kids y0.1)),(y0.2.1,()))) (Option.bind (c31 (x0,((iadd .i64 y0.2.1 1),(0,((iadd .i64 x3 1),()))))) fun y2=>cond (ile 0 y2.2.1) (Option.bind (c49 (x0,(y2.2.1,([58],())))) fun y3=>cond (!y3.1) (some ((Nd.mk (Nd.sign y0.1) (Nd.num y0.1) (Nd.kids y0.1)),((Neg.neg 1),()))) (Option.bind (c31 (x0,((iadd .i64 y2.2.1 1),(0,((iadd .i64 x3 1),()))))) fun y4=>some ((Nd.mk [63] 0 [(Nd.mk (Nd.sign y0.1) (Nd.num y0.1) (Nd.kids y0.1)),(Nd.mk (Nd.sign y2.1) (Nd.num y2.1) (Nd.kids y2.1)),(Nd.mk (Nd.sign y4.1) (Nd.num y4.1) (Nd.kids y4.1))]),(y4.2.1,())))) (some ((Nd.mk (Nd.sign y0.1) (Nd.num y0.1) (Nd.kids y0.1)),((Neg.neg 1),()))))) (iter fu (fun (rec1:((Int×Unit)×((Str×(Int×NdsT))×((Str×(Int×NdsT))×Unit)))->Option (Nd×(Int×Unit))) (s1:((Int×Unit)×((Str×(Int×NdsT))×((Str×(Int×NdsT))×Unit))))=>Option.bind (c64 (x2,())) fun y1=>iter fu (fun (rec2:((Str×(Int×Unit))×((Str×(Int×NdsT))×((Str×(Int×NdsT))×Unit)))->Option (Nd×(Int×Unit))) (s2:((Str×(Int×Unit))×((Str×(Int×NdsT))×((Str×(Int×NdsT))×Unit))))=>cond (ilt s2.1.2.1 (lenI y1.1)) (cond (inB s2.1.2.1 (List.length y1.1)) (Option.bind (c49 (x0,(s1.1.1,((List.getD y1.1 (Int.toNat s2.1.2.1) []),())))) fun y2=>cond y2.1 (cond (inB s2.1.2.1 (List.length y1.1)) (rec2 (((List.getD y1.1 (Int.toNat s2.1.2.1) []),((iadd .i64 s2.1.2.1 1),())),(s2.2.1,(s2.2.2.1,())))) (none)) (rec2 ((s2.1.1,((iadd .i64 s2.1.2.1 1),())),(s2.2.1,(s2.2.2.1,()))))) (none)) (cond (seq s2.1.1 []) (some ((Nd.mk s2.2.2.1.1 s2.2.2.1.2.1 s2.2.2.1.2.2.1),(s1.1.1,()))) (Option.bind (c31 (x0,((iadd .i64 s1.1.1 1),((iadd .i64 x2 1),(x3,()))))) fun y2=>cond (ilt y2.2.1 0) (some ((Nd.mk s2.2.2.1.1 s2.2.2.1.2.1 s2.2.2.1.2.2.1),(y2.2.1,()))) (rec1 ((y2.2.1,()),(s2.2.1,((s2.1.1,(0,([(Nd.mk s2.2.2.1.1 s2.2.2.1.2.1 s2.2.2.1.2.2.1),(Nd.mk (Nd.sign y2.1) (Nd.num y2.1) (Nd.kids y2.1))],()))),()))))))) (([],(0,())),(s1.2.1,(s1.2.2.1,())))) ((y0.2.1,()),(([],(0,([],()))),(((Nd.sign y0.1),((Nd.num y0.1),((Nd.kids y0.1),()))),()))))))))
def sh21 (fu:Nat) (c49:(LT×(Int×(Str×Unit)))->(Option (Bool×Unit))) (nf:Nat->Bool) (x0:LT) (x1:(List Str)):(Option (LT×(Int×Unit))):=iter fu (fun (rec1:((LT×(Int×Unit))×Unit)->Option (LT×(Int×Unit))) (s1:((LT×(Int×Unit))×Unit))=>cond (ilt s1.1.2.1 (lenI x0)) (cond (inB s1.1.2.1 (List.length x0)) (cond (ine (TokT.kind (List.getD x0 (Int.toNat s1.1.2.1) tokD)) 1) (cond (okN 56 ((List.length s1.1.1)+(List.length [(TokT.mk (TokT.kind (List.getD x0 (Int.toNat s1.1.2.1) tokD)) (TokT.text (List.getD x0 (Int.toNat s1.1.2.1) tokD)) (TokT.file (List.getD x0 (Int.toNat s1.1.2.1) tokD)) (TokT.ffrom (List.getD x0 (Int.toNat s1.1.2.1) tokD)) (TokT.fto (List.getD x0 (Int.toNat s1.1.2.1) tokD)) (TokT.blank (List.getD x0 (Int.toNat s1.1.2.1) tokD)))]))) (rec1 (((s1.1.1++[(TokT.mk (TokT.kind (List.getD x0 (Int.toNat s1.1.2.1) tokD)) (TokT.text (List.getD x0 (Int.toNat s1.1.2.1) tokD)) (TokT.file (List.getD x0 (Int.toNat s1.1.2.1) tokD)) (TokT.ffrom (List.getD x0 (Int.toNat s1.1.2.1) tokD)) (TokT.fto (List.getD x0 (Int.toNat s1.1.2.1) tokD)) (TokT.blank (List.getD x0 (Int.toNat s1.1.2.1) tokD)))]),((iadd .i64 s1.1.2.1 1),())),())) (none)) (cond (!(seq (TokT.text (List.getD x0 (Int.toNat s1.1.2.1) tokD)) [100,101,102,105,110,101,100])) (cond (okN 56 ((List.length s1.1.1)+(List.length [(TokT.mk (TokT.kind (List.getD x0 (Int.toNat s1.1.2.1) tokD)) (TokT.text (List.getD x0 (Int.toNat s1.1.2.1) tokD)) (TokT.file (List.getD x0 (Int.toNat s1.1.2.1) tokD)) (TokT.ffrom (List.getD x0 (Int.toNat s1.1.2.1) tokD)) (TokT.fto (List.getD x0 (Int.toNat s1.1.2.1) tokD)) (TokT.blank (List.getD x0 (Int.toNat s1.1.2.1) tokD)))]))) (rec1 (((s1.1.1++[(TokT.mk (TokT.kind (List.getD x0 (Int.toNat s1.1.2.1) tokD)) (TokT.text (List.getD x0 (Int.toNat s1.1.2.1) tokD)) (TokT.file (List.getD x0 (Int.toNat s1.1.2.1) tokD)) (TokT.ffrom (List.getD x0 (Int.toNat s1.1.2.1) tokD)) (TokT.fto (List.getD x0 (Int.toNat s1.1.2.1) tokD)) (TokT.blank (List.getD x0 (Int.toNat s1.1.2.1) tokD)))]),((iadd .i64 s1.1.2.1 1),())),())) (none)) (Option.bind (c49 (x0,((iadd .i64 s1.1.2.1 1),([40],())))) fun y0=>cond y0.1 (cond (ile (lenI x0) (iadd .i64 (iadd .i64 s1.1.2.1 1) 1)) (some ([],(90,()))) (cond (inB (iadd .i64 (iadd .i64 s1.1.2.1 1) 1) (List.length x0)) (cond (ine (TokT.kind (List.getD x0 (Int.toNat (iadd .i64 (iadd .i64 s1.1.2.1 1) 1)) tokD)) 1) (some ([],(90,()))) (iter fu (fun (rec2:((LT×(Int×Unit))×((Int×(Str×(Int×(Int×(Int×(Bool×Unit))))))×Unit))->Option (LT×(Int×Unit))) (s2:((LT×(Int×Unit))×((Int×(Str×(Int×(Int×(Int×(Bool×Unit))))))×Unit)))=>cond (ilt s2.1.2.1 (lenI x1)) (cond (inB s2.1.2.1 (List.length x1)) (cond (inB (iadd .i64 (iadd .i64 s1.1.2.1 1) 1) (List.length x0)) (cond (seq (List.getD x1 (Int.toNat s2.1.2.1) []) (TokT.text (List.getD x0 (Int.toNat (iadd .i64 (iadd .i64 s1.1.2.1 1) 1)) tokD))) (rec2 ((s2.1.1,((iadd .i64 s2.1.2.1 1),())),((s2.2.1.1,([49],(s2.2.1.2.2.1,s2.2.1.2.2.2))),()))) (rec2 ((s2.1.1,((iadd .i64 s2.1.2.1 1),())),((s2.2.1.1,(s2.2.1.2.1,(s2.2.1.2.2.1,s2.2.1.2.2.2))),())))) (none)) (none)) (cond y0.1 (Option.bind (c49 (x0,((iadd .i64 (iadd .i64 (iadd .i64 s1.1.2.1 1) 1) 1),([41],())))) fun y1=>cond (!y1.1) (some ([],(90,()))) (cond (okN 56 ((List.length s2.1.1)+(List.length [(TokT.mk s2.2.1.1 s2.2.1.2.1 s2.2.1.2.2.1 s2.2.1.2.2.2.1 s2.2.1.2.2.2.2.1 s2.2.1.2.2.2.2.2.1)]))) (rec1 (((s2.1.1++[(TokT.mk s2.2.1.1 s2.2.1.2.1 s2.2.1.2.2.1 s2.2.1.2.2.2.1 s2.2.1.2.2.2.2.1 s2.2.1.2.2.2.2.2.1)]),((iadd .i64 (iadd .i64 (iadd .i64 (iadd .i64 s1.1.2.1 1) 1) 1) 1),())),())) (none))) (cond (okN 56 ((List.length s2.1.1)+(List.length [(TokT.mk s2.2.1.1 s2.2.1.2.1 s2.2.1.2.2.1 s2.2.1.2.2.2.1 s2.2.1.2.2.2.2.1 s2.2.1.2.2.2.2.2.1)]))) (rec1 (((s2.1.1++[(TokT.mk s2.2.1.1 s2.2.1.2.1 s2.2.1.2.2.1 s2.2.1.2.2.2.1 s2.2.1.2.2.2.2.1 s2.2.1.2.2.2.2.2.1)]),((iadd .i64 (iadd .i64 (iadd .i64 s1.1.2.1 1) 1) 1),())),())) (none)))) ((s1.1.1,(0,())),((2,([48],((TokT.file (List.getD x0 (Int.toNat s1.1.2.1) tokD)),((TokT.ffrom (List.getD x0 (Int.toNat s1.1.2.1) tokD)),((TokT.fto (List.getD x0 (Int.toNat s1.1.2.1) tokD)),((TokT.blank (List.getD x0 (Int.toNat s1.1.2.1) tokD)),())))))),())))) (none))) (cond (ile (lenI x0) (iadd .i64 s1.1.2.1 1)) (some ([],(90,()))) (cond (inB (iadd .i64 s1.1.2.1 1) (List.length x0)) (cond (ine (TokT.kind (List.getD x0 (Int.toNat (iadd .i64 s1.1.2.1 1)) tokD)) 1) (some ([],(90,()))) (iter fu (fun (rec2:((LT×(Int×Unit))×((Int×(Str×(Int×(Int×(Int×(Bool×Unit))))))×Unit))->Option (LT×(Int×Unit))) (s2:((LT×(Int×Unit))×((Int×(Str×(Int×(Int×(Int×(Bool×Unit))))))×Unit)))=>cond (ilt s2.1.2.1 (lenI x1)) (cond (inB s2.1.2.1 (List.length x1)) (cond (inB (iadd .i64 s1.1.2.1 1) (List.length x0)) (cond (seq (List.getD x1 (Int.toNat s2.1.2.1) []) (TokT.text (List.getD x0 (Int.toNat (iadd .i64 s1.1.2.1 1)) tokD))) (rec2 ((s2.1.1,((iadd .i64 s2.1.2.1 1),())),((s2.2.1.1,([49],(s2.2.1.2.2.1,s2.2.1.2.2.2))),()))) (rec2 ((s2.1.1,((iadd .i64 s2.1.2.1 1),())),((s2.2.1.1,(s2.2.1.2.1,(s2.2.1.2.2.1,s2.2.1.2.2.2))),())))) (none)) (none)) (cond y0.1 (Option.bind (c49 (x0,((iadd .i64 (iadd .i64 s1.1.2.1 1) 1),([41],())))) fun y1=>cond (!y1.1) (some ([],(90,()))) (cond (okN 56 ((List.length s2.1.1)+(List.length [(TokT.mk s2.2.1.1 s2.2.1.2.1 s2.2.1.2.2.1 s2.2.1.2.2.2.1 s2.2.1.2.2.2.2.1 s2.2.1.2.2.2.2.2.1)]))) (rec1 (((s2.1.1++[(TokT.mk s2.2.1.1 s2.2.1.2.1 s2.2.1.2.2.1 s2.2.1.2.2.2.1 s2.2.1.2.2.2.2.1 s2.2.1.2.2.2.2.2.1)]),((iadd .i64 (iadd .i64 (iadd .i64 s1.1.2.1 1) 1) 1),())),())) (none))) (cond (okN 56 ((List.length s2.1.1)+(List.length [(TokT.mk s2.2.1.1 s2.2.1.2.1 s2.2.1.2.2.1 s2.2.1.2.2.2.1 s2.2.1.2.2.2.2.1 s2.2.1.2.2.2.2.2.1)]))) (rec1 (((s2.1.1++[(TokT.mk s2.2.1.1 s2.2.1.2.1 s2.2.1.2.2.1 s2.2.1.2.2.2.1 s2.2.1.2.2.2.2.1 s2.2.1.2.2.2.2.2.1)]),((iadd .i64 (iadd .i64 s1.1.2.1 1) 1),())),())) (none)))) ((s1.1.1,(0,())),((2,([48],((TokT.file (List.getD x0 (Int.toNat s1.1.2.1) tokD)),((TokT.ffrom (List.getD x0 (Int.toNat s1.1.2.1) tokD)),((TokT.fto (List.getD x0 (Int.toNat s1.1.2.1) tokD)),((TokT.blank (List.getD x0 (Int.toNat s1.1.2.1) tokD)),())))))),())))) (none)))))) (none)) (some (s1.1.1,(0,())))) (([],(0,())),())
theorem eq21:@run21 = @sh21:=by kernel_rfl
def sh22 (fu:Nat) (nf:Nat->Bool) (x0:LT) (x1:LT):(Option (Bool×Unit)):=cond (ine (lenI x0) (lenI x1)) (some (false,())) (iter fu (fun (rec1:((Int×Unit)×Unit)->Option (Bool×Unit)) (s1:((Int×Unit)×Unit))=>cond (ilt s1.1.1 (lenI x0)) (cond (inB s1.1.1 (List.length x0)) (cond (inB s1.1.1 (List.length x1)) (cond (ieq (TokT.kind (List.getD x0 (Int.toNat s1.1.1) tokD)) (TokT.kind (List.getD x1 (Int.toNat s1.1.1) tokD))) (cond (seq (TokT.text (List.getD x0 (Int.toNat s1.1.1) tokD)) (TokT.text (List.getD x1 (Int.toNat s1.1.1) tokD))) (cond (ieq (TokT.file (List.getD x0 (Int.toNat s1.1.1) tokD)) (TokT.file (List.getD x1 (Int.toNat s1.1.1) tokD))) (cond (ieq (TokT.ffrom (List.getD x0 (Int.toNat s1.1.1) tokD)) (TokT.ffrom (List.getD x1 (Int.toNat s1.1.1) tokD))) (cond (ieq (TokT.fto (List.getD x0 (Int.toNat s1.1.1) tokD)) (TokT.fto (List.getD x1 (Int.toNat s1.1.1) tokD))) (cond (beqB (TokT.blank (List.getD x0 (Int.toNat s1.1.1) tokD)) (TokT.blank (List.getD x1 (Int.toNat s1.1.1) tokD))) (rec1 (((iadd .i64 s1.1.1 1),()),())) (none)) (none)) (none)) (none)) (none)) (none)) (none)) (none)) (some (true,()))) ((0,()),()))
theorem eq22:@run22 = @sh22:=by kernel_rfl
theorem con49 (fu:Nat) :ConOk CC Tryd.prog 49 ⟨as49,rs49,fun x=>sh49 fu (fun _=>false) x.1 x.2.1 x.2.2.1⟩:=
 zV (c:=⟨as49,rs49,fun x=>sh49 fu (fun _=>false) x.1 x.2.1 x.2.2.1⟩) (syn:=syn) (fu:=fu) (d:=2) (inl:=zA []) (orc:=zA []) (orr:=zA []) (orp:=zA []) (pf:=hasN []) (rf:=hasN []) zX CCok mixed (fun g=>(zE (α:=Con UU) (l:=[]) g).symm) (fun g=>(zE (α:=CR UU) (l:=[]) g).symm) (zC) (zC) (zC) (zC) fdok49 (by show 3<=28; decide) (zQ rfl) (fun nf x=>by show run49 fu nf x.1 x.2.1 x.2.2.1=_; rw [eq49]; rfl)
theorem con21 (fu:Nat) (c49:zI as49->Option (zI rs49)) (h49:ConOk CC Tryd.prog 49 ⟨as49,rs49,c49⟩):ConOk CC Tryd.prog 21 ⟨as21,rs21,fun x=>sh21 fu c49 (fun _=>false) x.1 x.2.1⟩:=
 zV (c:=⟨as21,rs21,fun x=>sh21 fu c49 (fun _=>false) x.1 x.2.1⟩) (syn:=syn) (fu:=fu) (d:=2) (inl:=zA []) (orc:=zA [(49,(⟨as49,rs49,c49⟩:Con UU))]) (orr:=zA []) (orp:=zA []) (pf:=hasN [49]) (rf:=hasN []) zX CCok mixed (fun g=>(zE (α:=Con UU) (l:=[(49,(⟨as49,rs49,c49⟩:Con UU))]) g).symm) (fun g=>(zE (α:=CR UU) (l:=[]) g).symm) (zC) (zF (OrcOk.of ⟨code49,h49⟩ rfl) (zC)) (zC) (zC) fdok21 (by show 2<=89; decide) (zQ rfl) (fun nf x=>by show run21 fu c49 nf x.1 x.2.1=_; rw [eq21]; rfl)
theorem con22 (fu:Nat) :ConOk CC Tryd.prog 22 ⟨as22,rs22,fun x=>sh22 fu (fun _=>false) x.1 x.2.1⟩:=
 zV (c:=⟨as22,rs22,fun x=>sh22 fu (fun _=>false) x.1 x.2.1⟩) (syn:=syn) (fu:=fu) (d:=2) (inl:=zA []) (orc:=zA []) (orr:=zA []) (orp:=zA []) (pf:=hasN []) (rf:=hasN []) zX CCok mixed (fun g=>(zE (α:=Con UU) (l:=[]) g).symm) (fun g=>(zE (α:=CR UU) (l:=[]) g).symm) (zC) (zC) (zC) (zC) fdok22 (by show 2<=26; decide) (zQ rfl) (fun nf x=>by show run22 fu nf x.1 x.2.1=_; rw [eq22]; rfl)
end
end Go.Proofs.YtonnigoiklahdaaDoor
section
namespace Go.Proofs
open Go.Shelf
def Tryd.lays137_ren:Go.Shelf.Ren:=⟨fun | 137=>44 | 217=>71 | 266=>81 | n=>n,fun | 9=>9 | 5=>5 | 3=>3 | n=>n,fun | n=>n⟩
theorem Tryd.lays137:Go.Proofs.Lays.n137 Tryd.prog Tryd.lays137_ren:={
 mixed:=by kernel_rfl
 f137:=Tryd.func44.trans (congrArg some (by kernel_rfl))
 f217:=Tryd.func71.trans (congrArg some (by kernel_rfl))
 f266:=Tryd.func81.trans (congrArg some (by kernel_rfl))
 t3:=Tryd.underlying3
 a3:=Tryd.isAgg3
 z3:=Tryd.sizeOf3
 v3:=Tryd.zeroValue3
 t5:=Tryd.underlying5
 a5:=Tryd.isAgg5
 z5:=Tryd.sizeOf5
 v5:=Tryd.zeroValue5
 t9:=Tryd.underlying9
 a9:=Tryd.isAgg9
 z9:=Tryd.sizeOf9
 v9:=Tryd.zeroValue9 }
open Go.RowKit in
theorem Tryd.strings_IndexByte (s:ByteArray) (c:Int) (w:World) :
 Calls Tryd.prog 44 #[.string s,.int .u8 c] w fun e w'=>e = .returned (.int .i64 (Lib.indexByte s.data.toList c.toNat.toUInt8))/\w' = w:=Any.strings_IndexByte Tryd.lays137 s c w
def Tryd.lays143_ren:Go.Shelf.Ren:=⟨fun | 143=>58 | 219=>76 | 217=>71 | 225=>84 | 224=>85 | 267=>86 | 266=>81 | 314=>89 | n=>n,fun | 9=>9 | 3=>3 | 4=>4 | 5=>5 | 46=>78 | 146=>117 | 51=>116 | n=>n,fun | 1=>1 | n=>n⟩
theorem Tryd.lays143:Go.Proofs.Lays.n143 Tryd.prog Tryd.lays143_ren:={
 mixed:=by kernel_rfl
 f143:=Tryd.func58.trans (congrArg some (by kernel_rfl))
 f217:=Tryd.func71.trans (congrArg some (by kernel_rfl))
 f219:=Tryd.func76.trans (congrArg some (by kernel_rfl))
 f224:=Tryd.func85.trans (congrArg some (by kernel_rfl))
 f225:=Tryd.func84.trans (congrArg some (by kernel_rfl))
 f266:=Tryd.func81.trans (congrArg some (by kernel_rfl))
 f267:=Tryd.func86.trans (congrArg some (by kernel_rfl))
 f314:=Tryd.func89.trans (congrArg some (by kernel_rfl))
 t3:=Tryd.underlying3
 a3:=Tryd.isAgg3
 z3:=Tryd.sizeOf3
 v3:=Tryd.zeroValue3
 t4:=Tryd.underlying4
 a4:=Tryd.isAgg4
 z4:=Tryd.sizeOf4
 v4:=Tryd.zeroValue4
 t5:=Tryd.underlying5
 a5:=Tryd.isAgg5
 z5:=Tryd.sizeOf5
 v5:=Tryd.zeroValue5
 t9:=Tryd.underlying9
 a9:=Tryd.isAgg9
 z9:=Tryd.sizeOf9
 v9:=Tryd.zeroValue9
 t46:=Tryd.underlying78
 a46:=Tryd.isAgg78
 z46:=Tryd.sizeOf78
 v46:=Tryd.zeroValue78
 t51:=Tryd.underlying116
 a51:=Tryd.isAgg116
 z51:=Tryd.sizeOf116
 v51:=Tryd.zeroValue116
 t146:=Tryd.underlying117
 a146:=Tryd.isAgg117
 z146:=Tryd.sizeOf117
 v146:=Tryd.zeroValue117
 g1:=by kernel_rfl }
open Go.RowKit Go.Lib in
theorem Tryd.strings_Index (s sub:ByteArray) (m:Int) (w:World) (hs:s.size < 4294967281) (hm:w.cell? ⟨1,0,none⟩=some (.int .i64 m)) :
 Calls Tryd.prog 58 #[.string s,.string sub] w fun e w'=>e = .returned (.int .i64 (Lib.index s.data.toList sub.data.toList))/\w' = w:=Any.strings_Index Tryd.lays143 s sub m w hs hm
def Tryd.lays157_ren:Go.Shelf.Ren:=⟨fun | 157=>83 | 229=>87 | 199=>88 | 261=>90 | 311=>91 | 312=>92 | n=>n,fun | 9=>9 | 31=>30 | 3=>3 | 5=>5 | 4=>4 | 119=>114 | 0=>0 | 40=>35 | 152=>119 | 21=>21 | 154=>121 | 51=>116 | 141=>123 | 196=>127 | 193=>124 | 198=>130 | 49=>128 | 194=>125 | 201=>133 | 226=>135 | 46=>78 | 227=>136 | n=>n,fun | 0=>2 | 6=>3 | n=>n⟩
theorem Tryd.lays157:Go.Proofs.Lays.n157 Tryd.prog Tryd.lays157_ren:={
 mixed:=by kernel_rfl
 f157:=Tryd.func83.trans (congrArg some (by kernel_rfl))
 f199:=Tryd.func88.trans (congrArg some (by kernel_rfl))
 f229:=Tryd.func87.trans (congrArg some (by kernel_rfl))
 f261:=Tryd.func90.trans (congrArg some (by kernel_rfl))
 f311:=Tryd.func91.trans (congrArg some (by kernel_rfl))
 f312:=Tryd.func92.trans (congrArg some (by kernel_rfl))
 t0:=Tryd.underlying0
 a0:=Tryd.isAgg0
 z0:=Tryd.sizeOf0
 v0:=Tryd.zeroValue0
 t3:=Tryd.underlying3
 a3:=Tryd.isAgg3
 z3:=Tryd.sizeOf3
 v3:=Tryd.zeroValue3
 t4:=Tryd.underlying4
 a4:=Tryd.isAgg4
 z4:=Tryd.sizeOf4
 v4:=Tryd.zeroValue4
 t5:=Tryd.underlying5
 a5:=Tryd.isAgg5
 z5:=Tryd.sizeOf5
 v5:=Tryd.zeroValue5
 t9:=Tryd.underlying9
 a9:=Tryd.isAgg9
 z9:=Tryd.sizeOf9
 v9:=Tryd.zeroValue9
 t21:=Tryd.underlying21
 a21:=Tryd.isAgg21
 z21:=Tryd.sizeOf21
 v21:=Tryd.zeroValue21
 t31:=Tryd.underlying30
 a31:=Tryd.isAgg30
 z31:=Tryd.sizeOf30
 v31:=Tryd.zeroValue30
 t40:=Tryd.underlying35
 a40:=Tryd.isAgg35
 z40:=Tryd.sizeOf35
 v40:=Tryd.zeroValue35
 t46:=Tryd.underlying78
 a46:=Tryd.isAgg78
 z46:=Tryd.sizeOf78
 v46:=Tryd.zeroValue78
 t49:=Tryd.underlying128
 a49:=Tryd.isAgg128
 z49:=Tryd.sizeOf128
 v49:=Tryd.zeroValue128
 t51:=Tryd.underlying116
 a51:=Tryd.isAgg116
 z51:=Tryd.sizeOf116
 v51:=Tryd.zeroValue116
 t119:=Tryd.underlying114
 a119:=Tryd.isAgg114
 z119:=Tryd.sizeOf114
 t141:=Tryd.underlying123
 a141:=Tryd.isAgg123
 z141:=Tryd.sizeOf123
 v141:=Tryd.zeroValue123
 t152:=Tryd.underlying119
 a152:=Tryd.isAgg119
 z152:=Tryd.sizeOf119
 v152:=Tryd.zeroValue119
 t154:=Tryd.underlying121
 a154:=Tryd.isAgg121
 z154:=Tryd.sizeOf121
 v154:=Tryd.zeroValue121
 t193:=Tryd.underlying124
 a193:=Tryd.isAgg124
 z193:=Tryd.sizeOf124
 v193:=Tryd.zeroValue124
 t194:=Tryd.underlying125
 a194:=Tryd.isAgg125
 z194:=Tryd.sizeOf125
 v194:=Tryd.zeroValue125
 t196:=Tryd.underlying127
 a196:=Tryd.isAgg127
 z196:=Tryd.sizeOf127
 v196:=Tryd.zeroValue127
 t198:=Tryd.underlying130
 a198:=Tryd.isAgg130
 z198:=Tryd.sizeOf130
 v198:=Tryd.zeroValue130
 t201:=Tryd.underlying133
 a201:=Tryd.isAgg133
 z201:=Tryd.sizeOf133
 v201:=Tryd.zeroValue133
 t226:=Tryd.underlying135
 a226:=Tryd.isAgg135
 z226:=Tryd.sizeOf135
 v226:=Tryd.zeroValue135
 t227:=Tryd.underlying136
 a227:=Tryd.isAgg136
 z227:=Tryd.sizeOf136
 v227:=Tryd.zeroValue136
 g0:=by kernel_rfl
 g6:=by kernel_rfl }
open Go.RowKit Go.Lib in
theorem Tryd.strings_Fields (s:ByteArray) (w:World) (hs:s.size < 4294967281) (hascii:∀ (j:Nat) b,s.data.toList[j]? = some b->b.toNat < 128) (htab:Lib.TabIs Tryd.prog w "strings.asciiSpace" .u8 Lib.asciiSpaceTab) :
 Calls Tryd.prog 83 #[.string s] w fun e w'=>
  e = .returned (.slice (some ⟨w.heap.size,0,none⟩) (Lib.fields s.data.toList).length (Lib.fields s.data.toList).length)/\w' = w.alloc (.cells ((Lib.fields s.data.toList).map fun l=>Value.string ⟨l.toArray⟩).toArray 9):=Any.strings_Fields Tryd.lays157 (by kernel_rfl) (by kernel_rfl) s w hs hascii htab
def Tryd.lays264_ren:Go.Shelf.Ren:=⟨fun | 264=>40 | n=>n,fun | 53=>69 | 46=>78 | n=>n,fun | n=>n⟩
theorem Tryd.lays264:Go.Proofs.Lays.n264 Tryd.prog Tryd.lays264_ren:={
 mixed:=by kernel_rfl
 f264:=Tryd.func40.trans (congrArg some (by kernel_rfl))
 t46:=Tryd.underlying78
 a46:=Tryd.isAgg78
 z46:=Tryd.sizeOf78
 v46:=Tryd.zeroValue78
 t53:=Tryd.underlying69
 a53:=Tryd.isAgg69
 z53:=Tryd.sizeOf69
 v53:=Tryd.zeroValue69 }
open Go.RowKit Go.Lib in
theorem Tryd.bits_Mul64 (x y:Nat) (hx:x < 18446744073709551616) (hy:y < 18446744073709551616) (w:World) :
 Calls Tryd.prog 40 #[.int .u64 x,.int .u64 y] w fun e w'=>e = .returned (.tuple #[.int .u64 ((x * y / 18446744073709551616:Nat):Int),.int .u64 ((x * y % 18446744073709551616:Nat):Int)])/\w' = w:=Any.bits_Mul64 Tryd.lays264 x y hx hy w
def Tryd.lays99_ren:Go.Shelf.Ren:=⟨fun | 99=>38 | 206=>70 | n=>n,fun | 9=>9 | 4=>4 | 3=>3 | n=>n,fun | n=>n⟩
theorem Tryd.lays99:Go.Proofs.Lays.n99 Tryd.prog Tryd.lays99_ren:={
 mixed:=by kernel_rfl
 f99:=Tryd.func38.trans (congrArg some (by kernel_rfl))
 f206:=Tryd.func70.trans (congrArg some (by kernel_rfl))
 t3:=Tryd.underlying3
 a3:=Tryd.isAgg3
 z3:=Tryd.sizeOf3
 v3:=Tryd.zeroValue3
 t4:=Tryd.underlying4
 a4:=Tryd.isAgg4
 z4:=Tryd.sizeOf4
 v4:=Tryd.zeroValue4
 t9:=Tryd.underlying9
 a9:=Tryd.isAgg9
 z9:=Tryd.sizeOf9
 v9:=Tryd.zeroValue9 }
open Go.RowKit Go.Lib in
theorem Tryd.strings_HasPrefix (s p:ByteArray) (w:World) :
 Calls Tryd.prog 38 #[.string s,.string p] w fun e w'=>e = .returned (.bool (Lib.hasPrefix s.data.toList p.data.toList))/\w' = w:=Any.strings_HasPrefix Tryd.lays99 s p w
end Go.Proofs
namespace Go.Proofs.YtonnigoiklahdaaDoor
open Go.Al Go.Den Go.RowKit Go.Sort
theorem zJS {B:Nat} {wm:Nat->Nat} {w:World} (h:GlobOk B wm w):∃ m,w.cell? ⟨1,0,none⟩=some (.int .i64 m):=by
 obtain ⟨h0,arr,el,m,h1,z,h2⟩:=h.one (1,fun us=>∃ m,us=[.int .i64 m]) (by simp [zKX])
 refine ⟨z,?_⟩
 unfold World.cell?
 replace h1:w.heap[1]? = some (.cells arr el m):=h1
 simp only [h1]
 have:arr=[Value.int .i64 z].toArray:=by rw [<- h2]
 rw [this]
 rfl
theorem xg {wm:Nat->Nat} {w w':World} (hwm:∀ b,w.heap.size<=b->wm b=0) (hb:Below w.heap.size w w') :
 (∀ b,w'.heap.size<=b->wm b=0)/\Step w.heap.size ⟨wm,fun _=>none,Fr.no⟩ w ⟨wm,fun _=>none,Fr.no⟩ w':=by
 have hL:Later ⟨wm,fun _=>none,Fr.no⟩ w ⟨wm,fun _=>none,Fr.no⟩ w':=⟨fun _=>Nat.le_refl _,fun _ _ h=>h,fun b o ho=>by
  have hb2:b < w.heap.size:=by
   rcases Nat.lt_or_ge b w.heap.size with h | h
   · exact h
   · replace ho:o < wm b:=ho
     rw [hwm b h] at ho; omega
  exact World.cell?_of_block (hb.block b hb2)⟩
 exact ⟨fun b hb2=>hwm b (Nat.le_trans hb.size hb2),⟨hL,hb,fun b h=>(by simp [Fr.no] at h),fun _ _=>rfl,rfl⟩⟩
theorem pure44 (s:Str) (c:Int):xc Tryd.prog 44 [.at (.string ⟨s.toArray⟩),.at (.int .u8 c)] (.at (.int .i64 (Lib.indexByte s c.toNat.toUInt8))):=by
 intro wm w us hwm hgl hu
 cases hu with
 | cons hu1 hu2=>
  cases hu2 with
  | cons hu2 hu3=>
   cases hu3
   have e:=zT hu1
   subst e
   have e:=zT hu2
   subst e
   refine (Tryd.strings_IndexByte ⟨s.toArray⟩ c w).mono ?_
   rintro e w' ⟨rfl,rfl⟩
   obtain ⟨q1,q2⟩:=xg hwm (Below.refl _ _)
   exact ⟨_,wm,rfl,q1,q2,zo rfl⟩
theorem pure58 (s t:Str) (h:s.length < 4294967281):xc Tryd.prog 58 [.at (.string ⟨s.toArray⟩),.at (.string ⟨t.toArray⟩)] (.at (.int .i64 (Lib.index s t))):=by
 intro wm w us hwm hgl hu
 cases hu with
 | cons hu1 hu2=>
  cases hu2 with
  | cons hu2 hu3=>
   cases hu3
   have e:=zT hu1
   subst e
   have e:=zT hu2
   subst e
   obtain ⟨m,hm⟩:=zJS hgl
   refine (Tryd.strings_Index ⟨s.toArray⟩ ⟨t.toArray⟩ m w (by simpa [ByteArray.size] using h) hm).mono ?_
   rintro e w' ⟨rfl,rfl⟩
   obtain ⟨q1,q2⟩:=xg hwm (Below.refl _ _)
   exact ⟨_,wm,rfl,q1,q2,zo rfl⟩
def c44 (x:Str×Int×Unit):Option (Int×Unit):=some (Lib.indexByte x.1 x.2.1.toNat.toUInt8,())
theorem ok44' (s:Str) (c:Int) (u:Unit) (vs:List V) (hvs:zAc CC as44 ((s,c,u):zI as44) vs):xc Tryd.prog 44 vs (.at (.int .i64 (Lib.indexByte s c.toNat.toUInt8))):=by
 obtain ⟨v,vs',rfl,hv,v2,vs2,rfl,hv2,hvs⟩:=hvs
 replace hvs:vs2=[]:=hvs
 subst hvs
 replace hv:v = .at (.string ⟨List.toArray s⟩):=hv
 replace hv2:v2 = .at (.int .u8 c):=hv2
 subst hv hv2
 exact pure44 s c
theorem ok44:ConOk CC Tryd.prog 44 ⟨as44,rs44,c44⟩:=fun x y hx vs hvs=>by
 have:=ok44' x.1 x.2.1 x.2.2 vs hvs
 injection hx with hx
 subst hx
 exact this
def c58 (x:Str×Str×Unit):Option (Int×Unit):=if x.1.length < 4294967281 then some (Lib.index x.1 x.2.1,()) else none
theorem ok58' (s t:Str) (h:s.length < 4294967281) (u:Unit) (vs:List V) (hvs:zAc CC as58 ((s,t,u):zI as58) vs):xc Tryd.prog 58 vs (.at (.int .i64 (Lib.index s t))):=by
 obtain ⟨v,vs',rfl,hv,v2,vs2,rfl,hv2,hvs⟩:=hvs
 replace hvs:vs2=[]:=hvs
 subst hvs
 replace hv:v = .at (.string ⟨List.toArray s⟩):=hv
 replace hv2:v2 = .at (.string ⟨List.toArray t⟩):=hv2
 subst hv hv2
 exact pure58 s t h
theorem ok58:ConOk CC Tryd.prog 58 ⟨as58,rs58,c58⟩:=fun x y hx vs hvs=>by
 obtain ⟨s,t,u⟩:=x
 by_cases h:List.length (show Str from s) < 4294967281
 · have h2:c58 (s,t,u)=some (Lib.index s t,()):=if_pos h
   replace hx:c58 (s,t,u)=some y:=hx
   rw [h2] at hx
   injection hx with hx
   subst hx
   exact ok58' s t h u vs hvs
 · have h2:c58 (s,t,u)=none:=if_neg h
   replace hx:c58 (s,t,u)=some y:=hx
   rw [h2] at hx
   cases hx
theorem zL4:(zBQ=Lib.asciiSpaceTab.map (Value.int .u8)):=by kernel_rfl
theorem zJz {B:Nat} {wm:Nat->Nat} {w:World} (h:GlobOk B wm w):Lib.TabIs Tryd.prog w "strings.asciiSpace" .u8 Lib.asciiSpaceTab:=by
 obtain ⟨h0,⟨arr,el,m,h1,h2⟩,h3⟩:=h.all (2,zBQ) (by simp [zCA])
 unfold Lib.TabIs World.var?
 have e:Tryd.prog.globalNamed "strings.asciiSpace" = some 2:=by kernel_rfl
 rw [e]
 simp only [Option.bind_some]
 replace h1:w.heap[2]? = some (.cells arr el m):=h1
 rw [h1]
 replace h2:arr.toList=zBQ:=h2
 have:arr=(Lib.asciiSpaceTab.map (Value.int .u8)).toArray:=by rw [<- zL4,<- h2]
 rw [this]
theorem k9 (g:Gh) (w:World):∀ l:List Str,RCs g w (l.map fun s=>V.at (.string ⟨s.toArray⟩)) (l.map fun s=>Value.string ⟨s.toArray⟩)
 | []=>by simp [RCs]
 | s::r=>by
  simp only [List.map_cons,RCs]
  exact ⟨[.string ⟨s.toArray⟩],_,rfl,by simp [RC,one],k9 g w r⟩
theorem pure83 (s:Str) (hs:s.length < 4294967281) (ha:∀ b ∈ s,b.toNat < 128):xc Tryd.prog 83 [.at (.string ⟨s.toArray⟩)] (.lst .no ((Lib.fields s).map fun s=>V.at (.string ⟨s.toArray⟩))):=by
 intro wm w us hwm hgl hu
 cases hu with
 | cons hu1 hu2=>
  cases hu2
  have e:=zT hu1
  subst e
  refine (Tryd.strings_Fields ⟨s.toArray⟩ w (by simpa [ByteArray.size] using hs) (fun j b hb=>ha b (List.mem_of_getElem? hb)) (zJz hgl)).mono ?_
  rintro e w' ⟨rfl,rfl⟩
  simp only
  generalize hf:Lib.fields s=l
  have hnew:(w.alloc (.cells (l.map fun l=>Value.string ⟨l.toArray⟩).toArray 9)).heap[w.heap.size]? = some (.cells (l.map fun l=>Value.string ⟨l.toArray⟩).toArray 9 (0,0)):=xz w _
  have hbel:Below w.heap.size w (w.alloc (.cells (l.map fun l=>Value.string ⟨l.toArray⟩).toArray 9)):=(Below.refl _ w).alloc (Nat.le_refl _) _
  refine ⟨_,fun b=>if b=w.heap.size then l.length else wm b,rfl,?_,?_,?_⟩
  · intro b hb
    have:(w.alloc (.cells (l.map fun l=>Value.string ⟨l.toArray⟩).toArray 9)).heap.size=w.heap.size+1:=by simp
    show (if b=w.heap.size then _ else wm b)=0
    rw [if_neg (by omega)]
    exact hwm b (by omega)
  · have hL:Later ⟨wm,fun _=>none,Fr.no⟩ w ⟨fun b=>if b=w.heap.size then l.length else wm b,fun _=>none,Fr.no⟩ (w.alloc (.cells (l.map fun l=>Value.string ⟨l.toArray⟩).toArray 9)):=⟨fun b=>by
     show wm b<=if b=w.heap.size then l.length else wm b
     split
     · rename_i e; rw [e,hwm _ (Nat.le_refl _)]; exact Nat.zero_le _
     · exact Nat.le_refl _,fun _ _ h=>h,fun b o ho=>by
     have hb2:b < w.heap.size:=by
      rcases Nat.lt_or_ge b w.heap.size with h | h
      · exact h
      · replace ho:o < wm b:=ho
        rw [hwm b h] at ho; omega
     exact World.cell?_of_block (hbel.block b hb2)⟩
    exact ⟨hL,hbel,fun b h=>(by simp [Fr.no] at h),fun b hb=>if_neg (by omega),rfl⟩
  · refine RV.of_RV1 ⟨[.slice (some ⟨w.heap.size,0,none⟩) l.length l.length],?_,rfl⟩
    simp only [RC]
    refine .inr ⟨w.heap.size,0,l.length,l.map fun l=>Value.string ⟨l.toArray⟩,by rw [List.length_map],by rw [List.length_map]; exact Nat.le_refl _,trivial,k9 _ _ l,⟨1,fun x hx=>?_,fun _ _ _ e1=>by cases e1⟩,?_⟩
    · obtain ⟨y,_,rfl⟩:=List.mem_map.1 hx
      rfl
    · intro k u hk
      have hk2:k < l.length:=by
       have:=(List.getElem?_eq_some_iff.1 hk).1
       simpa using this
      refine ⟨?_,?_⟩
      · rw [Nat.zero_add,cell_of_row _ w.heap.size k _ 9 (0,0) hnew]
        simpa using hk
      · show 0+k < if w.heap.size=w.heap.size then l.length else _
        rw [if_pos rfl]; omega
theorem pure40 (x y:Nat) (hx:x < 18446744073709551616) (hy:y < 18446744073709551616):xc Tryd.prog 40 [.at (.int .u64 x),.at (.int .u64 y)] (.tup [.at (.int .u64 ((x * y / 18446744073709551616:Nat):Int)),.at (.int .u64 ((x * y % 18446744073709551616:Nat):Int))]):=by
 intro wm w us hwm hgl hu
 cases hu with
 | cons hu1 hu2=>
  cases hu2 with
  | cons hu2 hu3=>
   cases hu3
   have e:=zT hu1
   subst e
   have e:=zT hu2
   subst e
   refine (Tryd.bits_Mul64 x y hx hy w).mono ?_
   rintro e w' ⟨rfl,rfl⟩
   obtain ⟨q1,q2⟩:=xg hwm (Below.refl _ _)
   exact ⟨_,wm,rfl,q1,q2,_,.cons ⟨_,by simp [RC,one]; rfl,rfl⟩ (.cons ⟨_,by simp [RC,one]; rfl,rfl⟩ .nil),rfl⟩
end Go.Proofs.YtonnigoiklahdaaDoor
end
namespace Go.Proofs.YtonnigoiklahdaaDoor
section
open Go.Al Go.Den Go.RowKit Go.Shelf
attribute [local go_sem] Oper.semAt_some
def exb (bx:Nat) (W:World) (b:Nat):Prop:=b=bx\/∃ o l c,W.cell? ⟨bx,0,none⟩=some (.slice (some ⟨b,o,none⟩) l c)
def BoxOk (n0 bx:Nat) (W:World):Prop:=n0<=bx/\(∃ arr t m,W.heap[bx]? = some (.cells arr t m))/\∀ b,exb bx W b->n0<=b/\b < W.heap.size
structure Kept (n0 bx:Nat) (A B:World):Prop where
 ok:BoxOk n0 bx B
 size:A.heap.size<=B.heap.size
 same:∀ b o v,A.cell? ⟨b,o,none⟩=some v->¬ exb bx A b->B.cell? ⟨b,o,none⟩=some v
 ex:∀ b,exb bx B b->exb bx A b\/A.heap.size<=b
 low:∀ b,b < n0->B.heap[b]? = A.heap[b]?
def jw (n0 bx:Nat) (A B:World):Prop:=BoxOk n0 bx A->Kept n0 bx A B
theorem zDf {A:World} {b o:Nat} {v:Value} (h:A.cell? ⟨b,o,none⟩=some v):b < A.heap.size:=by
 rcases Nat.lt_or_ge b A.heap.size with h1 | h1
 · exact h1
 · unfold World.cell? at h
   have:A.heap[b]? = none:=Array.getElem?_eq_none h1
   simp only [this] at h
   cases h
theorem xX {A B:World} {b:Nat} (h:B.heap[b]? = A.heap[b]?) (o:Nat):B.cell? ⟨b,o,none⟩=A.cell? ⟨b,o,none⟩:=World.cell?_of_block h
theorem Kept.refl {n0 bx:Nat} {A:World} (h:BoxOk n0 bx A):Kept n0 bx A A:=⟨h,Nat.le_refl _,fun _ _ _ h _=>h,fun _ h=>.inl h,fun _ _=>rfl⟩
theorem Kept.trans {n0 bx:Nat} {A B C:World} (h:Kept n0 bx A B) (k:Kept n0 bx B C):Kept n0 bx A C:=by
 refine ⟨k.ok,Nat.le_trans h.size k.size,fun b o v hb hx=>?_,fun b hb=>?_,fun b hb=>(k.low b hb).trans (h.low b hb)⟩
 · refine k.same b o v (h.same b o v hb hx) (fun hx2=>?_)
   rcases h.ex b hx2 with h1 | h1
   · exact hx h1
   · have:=zDf hb; omega
 · rcases k.ex b hb with h1 | h1
   · exact h.ex b h1
   · exact .inr (Nat.le_trans h.size h1)
theorem zMx {n0 bx:Nat} {A B C:World} (h:jw n0 bx A B) (k:jw n0 bx B C):jw n0 bx A C:=fun hA=>(h hA).trans (k (h hA).ok)
theorem j7 {bx:Nat} {A B:World} (h:B.heap[bx]? = A.heap[bx]?) (b:Nat):exb bx B b↔exb bx A b:=by
 unfold exb; rw [xX h]
theorem BoxOk.grown {n0 bx:Nat} {A B:World} (h:BoxOk n0 bx A) (hs:A.heap.size<=B.heap.size) (hb:B.heap[bx]? = A.heap[bx]?):BoxOk n0 bx B:=by
 obtain ⟨h1,⟨arr,t,m,h2⟩,h3⟩:=h
 exact ⟨h1,⟨arr,t,m,hb.trans h2⟩,fun b hx=>⟨(h3 b ((j7 hb b).1 hx)).1,Nat.lt_of_lt_of_le (h3 b ((j7 hb b).1 hx)).2 hs⟩⟩
theorem BoxOk.lt {n0 bx:Nat} {A:World} (h:BoxOk n0 bx A):bx < A.heap.size:=(h.2.2 bx (.inl rfl)).2
theorem Kept.grown {n0 bx:Nat} {A B:World} (h:BoxOk n0 bx A) (hg:A.grownBy B none):Kept n0 bx A B:=by
 have hb:∀ b,b < A.heap.size->B.heap[b]? = A.heap[b]?:=fun b hb=>hg.block b hb (by simp)
 refine ⟨h.grown hg.size (hb bx h.lt),hg.size,fun b o v ho _=>(xX (hb b (zDf ho)) o).trans ho,fun b hx=>.inl ((j7 (hb bx h.lt) b).1 hx),fun b hl=>hb b (Nat.lt_trans (Nat.lt_of_lt_of_le hl h.1) h.lt)⟩
theorem zMP {n0 bx:Nat} (W:World) (l:Nat) (o o':Obj) (hl:n0<=l) (h:W.heap[l]? = some o) (hc:o.isCells=false):jw n0 bx W (W.putObj l o'):=by
 intro hW
 have hne:bx≠l:=by
  rintro rfl
  obtain ⟨_,⟨arr,t,m,h2⟩,_⟩:=hW
  rw [h] at h2; injection h2 with h2; subst h2; cases hc
 have hb:(W.putObj l o').heap[bx]? = W.heap[bx]?:=World.putObj_heap_other hne
 have hsz:(W.putObj l o').heap.size=W.heap.size:=by simp [World.putObj]
 refine ⟨hW.grown (Nat.le_of_eq hsz.symm) hb,Nat.le_of_eq hsz.symm,fun b o1 v h1 _=>(xX (World.putObj_heap_other ?_) o1).trans h1,fun b hx=>.inl ((j7 hb b).1 hx),fun b hb=>World.putObj_heap_other (by omega)⟩
 rintro rfl
 unfold World.cell? at h1
 simp only [h] at h1
 cases o <;> first | (cases hc; done) | (cases h1; done) | (simp at h1; done)
theorem zCp {F:Fence} {n:Nat} {P:Program} (w:World) {ops:Array Oper} {rest:List Oper} {o:Oper} {a:Act} {Q:Exit->Act->World->Prop}
 (hg:o.guard=none) (s x:Operand) (t:TypeId) (hop:o.op=Op.call { callee:=Callee.builtin Builtin.append,args:=#[s,x],argTypes:=#[t,t] })
 (base:Nat) (e:TypeId) (i:TypeInfo) (z:Value) (size bytes:Nat) (h1:P.underlying t=some (.slice e)) (h2:P.info? e=some i) (h3:i.zero=some z) (h4:i.size=size) (h5:i.bytes=bytes) (h6:z.cells.size=size) (h7:0 < size)
 (v:Value) (k:Nat) (xs:List Value) (hs:a.eval s=v) (hown:w.ownsRow base e size v k xs) (ad:Addr) (m c:Nat) (news:List Value) (hx:a.eval x = .slice (some ad) m c) (hn:news.length=m * size)
 (hc:∀ j u,news[j]? = some u->w.cell? (ad.add j)=some u) (h1c:∀ u ∈ news,u.oneCell' = true) (b1:k+m<=maxLen) (b2:(k+m) * bytes<=140737488355328) (b3:base<=w.heap.size)
 (hK:∀ v' w',w'.ownsRow base e size v' (k+m) (xs++news)->w.grownBy w' v.ownBlock->(v' = .slice none 0 0↔v = .slice none 0 0/\m=0)->(v'.ownBlock=v.ownBlock\/v'.ownBlock=some w.heap.size)->wpListIn F n P ops Q rest (a.put o.dst v') w') :
 wpListIn F n P ops Q (o::rest) a w:=by
 refine wpListIn_plain hg fun K hK'=>?_
 obtain ⟨v',w',hrun,r1,r2,r3,r4⟩:=run_append_own_at (P:=P) w base t o.type e i z size bytes h1 h2 h3 h4 h5 h6 h7 v k xs hown ad m c news hn hc h1c b1 b2 b3
 unfold Oper.wpIn
 refine ⟨?_,?_⟩
 · simp [Oper.about,hop,resolve,Target.leads,Sem.run_pure]
 · rw [Oper.semAt_plain F _ _ (by rw [hop]; intro c hc'; cases hc')]
   simp [execOp,hop,resolve,invoke,builtin,hs,hx,hrun,Result.andThen]
   exact hK' _ _ (hK v' w' r1 r2 r3 r4)
theorem zIj {W:World} {base:Nat} {e:TypeId} {size:Nat} {v:Value} {k:Nat} {xs:List Value} (h:W.ownsRow base e size v k xs) {j:Nat} {o:Obj} (hj:W.heap[j]? = some o) (hno:∀ cur,o≠.cells cur e (0,0)) :
 v.ownBlock=none\/v.ownBlock≠some j:=by
 rcases h.2 with ⟨rfl,_⟩ | ⟨g,cap,cur,rfl,_,hgb,_⟩
 · exact .inl rfl
 · refine .inr fun e'=>?_
   have:g=j:=by simpa [Value.ownBlock] using e'
   subst this; rw [hgb] at hj; cases hj; exact hno cur rfl
def Grow (n0 bx:Nat) (t e:TypeId) (size:Nat) (w:World) (xs:List Value) (n:Nat) (W:World):Prop:=
 ∃ v,W.heap[bx]? = some (.cells #[v] t (0,0))/\W.ownsRow n0 e size v n xs/\(n=0->v = .slice none 0 0)/\Below n0 w W
theorem Grow.exb {n0 bx:Nat} {t e:TypeId} {size:Nat} {w:World} {xs:List Value} {n:Nat} {W:World} {v:Value} (hv:W.heap[bx]? = some (.cells #[v] t (0,0))) (hr:W.ownsRow n0 e size v n xs) (b:Nat) :
 exb bx W b↔b=bx\/v.ownBlock=some b:=by
 have hc:W.cell? ⟨bx,0,none⟩=some v:=by simp [World.cell?,hv]
 unfold Go.Proofs.YtonnigoiklahdaaDoor.exb
 rw [hc]
 refine or_congr Iff.rfl ⟨fun ⟨o,l,c,h⟩=>?_,fun h=>?_⟩
 · injection h with h; subst h; rfl
 · rcases hr.2 with ⟨rfl,_⟩ | ⟨g,cap,cur,rfl,_,hgb,_⟩
   · cases h
   · have:g=b:=by simpa [Value.ownBlock] using h
     subst this; exact ⟨_,_,_,rfl⟩
theorem Grow.box {n0 bx:Nat} {t e:TypeId} {size:Nat} {w:World} {xs:List Value} {n:Nat} {W:World} (h0:n0<=bx) (h:Grow n0 bx t e size w xs n W):BoxOk n0 bx W:=by
 obtain ⟨v,hv,hr,_,hb⟩:=h
 refine ⟨h0,⟨_,_,_,hv⟩,fun b hx=>?_⟩
 rcases (Grow.exb (w:=w) hv hr b).1 hx with rfl | h
 · exact ⟨h0,(Array.getElem?_eq_some_iff.1 hv).1⟩
 · rcases hr.2 with ⟨rfl,_⟩ | ⟨g,cap,cur,rfl,hg,hgb,_⟩
   · cases h
   · have:g=b:=by simpa [Value.ownBlock] using h
     subst this; exact ⟨hg,(Array.getElem?_eq_some_iff.1 hgb).1⟩
theorem Grow.own {n0 bx:Nat} {t e:TypeId} {size:Nat} {w:World} {xs:List Value} {n:Nat} {A B:World} {row:Option Nat} (h0:n0<=w.heap.size) (h:Grow n0 bx t e size w xs n A) (hg:A.grownBy B row) (hr:∀ r,row=some r->n0<=r/\∃ o:Obj,A.heap[r]? = some o/\o.isCells=false):Grow n0 bx t e size w xs n B:=by
 obtain ⟨v,hv,hr',hz,hb⟩:=h
 have hne:∀ {b:Nat} {o:Obj},A.heap[b]? = some o->o.isCells=true->some b≠row:=fun hb hc e=>by
  obtain ⟨_,o',ho,hc'⟩:=hr _ e.symm
  rw [hb] at ho; injection ho with ho; subst ho; rw [hc] at hc'; cases hc'
 refine ⟨v,(hg.block bx (Array.getElem?_eq_some_iff.1 hv).1 (hne hv rfl)).trans hv,hr'.kept hg ?_,hz,hb.grown hg (Nat.le_trans h0 hb.size) (fun k e=>(hr k e).1)⟩
 rcases hr'.2 with ⟨rfl,_⟩ | ⟨g,cap,cur,rfl,_,hgb,_⟩
 · exact .inl rfl
 · exact .inr (hne hgb rfl)
theorem Grow.kept {n0 bx:Nat} {t e:TypeId} {size:Nat} {w:World} {xs xs':List Value} {n n':Nat} {A B:World} (h0:n0<=bx) {v v':Value} (hv:A.heap[bx]? = some (.cells #[v] t (0,0))) (hr:A.ownsRow n0 e size v n xs)
 (hv':B.heap[bx]? = some (.cells #[v'] t (0,0))) (hr':B.ownsRow n0 e size v' n' xs') (hz:n' = 0->v' = .slice none 0 0) (hB:Below n0 w B) (hs:A.heap.size<=B.heap.size)
 (hne:v'.ownBlock=v.ownBlock\/∃ b,v'.ownBlock=some b/\A.heap.size<=b) (h:∀ b,b < A.heap.size->b≠bx->v.ownBlock≠some b->B.heap[b]? = A.heap[b]?):Kept n0 bx A B:=by
 have hlow:∀ b,b < n0->v.ownBlock≠some b:=fun b hb e1=>by
  rcases hr.2 with ⟨rfl,_⟩ | ⟨g,cap,cur,rfl,hg,hgb,_⟩
  · cases e1
  · have:g=b:=by simpa [Value.ownBlock] using e1
    omega
 have hbx:=(Array.getElem?_eq_some_iff.1 hv).1
 refine ⟨Grow.box h0 ⟨v',hv',hr',hz,hB⟩,hs,fun b o u hb hx=>?_,fun b hx=>?_,fun b hb=>h b (by omega) (by omega) (hlow b hb)⟩
 · have h1:b≠bx:=fun e1=>hx ((Grow.exb (w:=w) hv hr b).2 (.inl e1))
   have h2:v.ownBlock≠some b:=fun e1=>hx ((Grow.exb (w:=w) hv hr b).2 (.inr e1))
   exact (xX (h b (zDf hb) h1 h2) o).trans hb
 · rcases (Grow.exb (w:=w) hv' hr' b).1 hx with rfl | h1
   · exact .inl (.inl rfl)
   · rcases hne with e1 | ⟨b',e1,e2⟩
     · exact .inl ((Grow.exb (w:=w) hv hr b).2 (.inr (e1 ▸ h1)))
     · rw [e1] at h1; injection h1 with h1; subst h1; exact .inr e2
theorem Grow.round {n0 bx K0:Nat} {t e:TypeId} {size:Nat} {w:World} {xs xs':List Value} {n n':Nat} {A B:World} (h0:n0<=bx) {v v':Value} (hv:A.heap[bx]? = some (.cells #[v] t (0,0))) (hr:A.ownsRow n0 e size v n xs)
 (hv':B.heap[bx]? = some (.cells #[v'] t (0,0))) (hr':B.ownsRow n0 e size v' n' xs') (hz:n' = 0->v' = .slice none 0 0) (hB:Below n0 w B) (hs:A.heap.size<=B.heap.size)
 (hne:v'.ownBlock=v.ownBlock\/∃ b,v'.ownBlock=some b/\A.heap.size<=b) (h:∀ b,b < A.heap.size->b≠bx->v.ownBlock≠some b->B.heap[b]? = A.heap[b]?) :
 KeepsFrom K0 A B/\jw n0 bx A B/\Grow n0 bx t e size w xs' n' B:=by
 refine ⟨⟨hs,fun k o _ hk hc=>(h k (Array.getElem?_eq_some_iff.1 hk).1 (fun e1=>?_) (fun e1=>?_)).trans hk⟩,fun _=>Grow.kept h0 hv hr hv' hr' hz hB hs hne h,v',hv',hr',hz,hB⟩
 · subst e1; rw [hv] at hk; injection hk with hk; subst hk; cases hc
 · rcases hr.2 with ⟨rfl,_⟩ | ⟨g,cap,cur,rfl,_,hgb,_⟩
   · cases e1
   · have:g=k:=by simpa [Value.ownBlock] using e1
     subst this; rw [hgb] at hk; injection hk with hk; subst hk; cases hc
theorem zIv {W:World} {B:Nat} {v:Value} {t:TypeId} (v':Value) (h:W.heap[B]? = some (.cells #[v] t (0,0))):(W.setCell ⟨B,0,none⟩ v').heap[B]? = some (.cells #[v'] t (0,0)):=by
 obtain ⟨hlt,hk⟩:=Array.getElem?_eq_some_iff.1 h
 show (W.heap.modify B _)[B]? = _
 rw [Array.getElem?_eq_getElem (by rw [Array.size_modify]; exact hlt),Array.getElem_modify_self,hk]
 rfl
theorem zNl {W:World} {base:Nat} {e:TypeId} {size:Nat} {v:Value} {k:Nat} {xs:List Value} (h:W.ownsRow base e size v k xs) {b:Nat} (hb:v.ownBlock=some b):base<=b:=by
 rcases h.2 with ⟨rfl,_⟩ | ⟨g,cap,cur,rfl,hg,_⟩
 · cases hb
 · have:g=b:=by simpa [Value.ownBlock] using hb
   omega
theorem zMi {wm:Nat->Nat} {w W':World} (hwm:∀ b,w.heap.size<=b->wm b=0) (hbel:Below w.heap.size w W') {size n:Nat} {e:TypeId} {v:Value} {ds:List Value} (hrow:W'.ownsRow w.heap.size e size v n ds) (hz:n=0->v = .slice none 0 0)
 (es:List V) (hl:n=es.length) (hu:∀ x ∈ es,x.size=size) (hrc:RCs ⟨wm,fun _=>none,Fr.no⟩ w es ds) :
 ∃ wm',(∀ b,W'.heap.size<=b->wm' b=0)/\Step w.heap.size ⟨wm,fun _=>none,Fr.no⟩ w ⟨wm',fun _=>none,Fr.no⟩ W'/\RV ⟨wm',fun _=>none,Fr.no⟩ W' (.lst (zz es) es) v:=by
 subst hl
 obtain ⟨q1,q2⟩:=xg hwm hbel
 cases es with
 | nil=>
  refine ⟨wm,q1,q2,?_⟩
  rw [hz rfl]
  exact yg (by unfold RC; exact .inl ⟨rfl,rfl,trivial⟩)
 | cons x r=>
  obtain ⟨hlen,⟨_,h0⟩ | ⟨g,cap,cur,rfl,hg,hgb,hn,hm,hcs,htk⟩⟩:=hrow
  · simp at h0
  · have hgl:=(Array.getElem?_eq_some_iff.1 hgb).1
    have hL:Later ⟨wm,fun _=>none,Fr.no⟩ w ⟨fun b=>if b=g then ds.length else wm b,fun _=>none,Fr.no⟩ W':=by
     refine ⟨fun b=>?_,fun _ _ h=>h,q2.later.cell⟩
     show wm b<=if b=g then ds.length else wm b
     split
     · rename_i h; rw [h,hwm g hg]; exact Nat.zero_le _
     · exact Nat.le_refl _
    refine ⟨fun b=>if b=g then ds.length else wm b,fun b hb=>?_,⟨hL,q2.below,fun b h=>(by simp [Fr.no] at h),fun b hb=>?_,rfl⟩,yg ?_⟩
    · show (if b=g then ds.length else wm b)=0
      rw [if_neg (by omega)]
      exact q1 b hb
    · show (if b=g then ds.length else wm b)=wm b
      rw [if_neg (by omega)]
    · simp only [RC]
      refine .inr ⟨g,0,cap,ds,rfl,hn,by simp [zz,zFV],zY hL _ _ hrc,⟨size,hu,by intro t nb s h; simp [zz] at h⟩,fun k u hk=>⟨?_,?_⟩⟩
      · have hk1:k < ds.length:=(List.getElem?_eq_some_iff.1 hk).1
        rw [<- htk,List.getElem?_take] at hk
        split at hk
        · simp only [World.cell?,hgb,Nat.zero_add]
          rw [Array.getElem?_toList] at hk
          simpa using hk
        · cases hk
      · have hk1:k < ds.length:=(List.getElem?_eq_some_iff.1 hk).1
        show 0+k < if g=g then ds.length else wm g
        rw [if_pos rfl]; omega
def chG:List UInt8->Nat->List CharT
 | [],_=>[]
 | [c],i=>[⟨(c.toNat:Int),(i:Int)⟩]
 | c::d::r,i=>cond (c == 92 && d == 10) (chG r (i+2)) (⟨(c.toNat:Int),(i:Int)⟩::chG (d::r) (i+1))
theorem kR:∀ (s:List UInt8) (i:Nat),(chG s i).length<=s.length
 | [],_=>Nat.le_refl _
 | [c],i=>Nat.le_refl _
 | c::d::r,i=>by
  have h1:=kR r (i+2)
  have h2:=kR (d::r) (i+1)
  simp only [chG]
  cases (c == 92 && d == 10)
  · simp only [cond_false,List.length_cons] at *; omega
  · simp only [cond_true,List.length_cons] at *; omega
theorem zMm (s:List UInt8) (k:Nat) (h:k < s.length) :
 (Lib.hasPrefix (List.take (s.length - k) (s.drop k)) [92,10]=true->k+2<=s.length/\chG (s.drop k) k=chG (s.drop (k+2)) (k+2)) /\
 (Lib.hasPrefix (List.take (s.length - k) (s.drop k)) [92,10]=false->chG (s.drop k) k=⟨(s[k].toNat:Int),(k:Int)⟩::chG (s.drop (k+1)) (k+1)):=by
 have ht:List.take (s.length - k) (s.drop k)=s.drop k:=List.take_of_length_le (by simp)
 rw [ht,List.drop_eq_getElem_cons h]
 unfold Lib.hasPrefix
 by_cases h2:k+1 < s.length
 · rw [List.drop_eq_getElem_cons h2]
   have e:[92,10].isPrefixOf (s[k]::s[k+1]::s.drop (k+1+1))=(s[k] == 92 && s[k+1] == 10):=by
    simp only [List.isPrefixOf,Bool.and_true,Bool.beq_comm]
   rw [e]
   refine ⟨fun hh=>⟨by omega,?_⟩,fun hh=>?_⟩
   · simp only [chG,hh,cond_true]
   · simp only [chG,hh,cond_false]
 · have e0:s.drop (k+1)=[]:=List.drop_eq_nil_of_le (by omega)
   rw [e0]
   refine ⟨fun hh=>by simp [List.isPrefixOf] at hh,fun _=>by simp [chG]⟩
def chV (x:CharT):Value:=.agg #[.int .u8 x.b,.int .i64 x.fat]
def chC (x:CharT):List Value:=[.int .u8 x.b,.int .i64 x.fat]
set_option maxRecDepth 100000 in
set_option maxHeartbeats 2000000 in
theorem zMC (n n0 bx:Nat) (l Bs:Nat) (s:Str) (hreach:s.length < 1100000) (J Jx:List CharT->World->Prop)
 (hY:∀ pre x W,J pre W->pre.length < s.length->YieldAt Fence.wide (n - 1) Tryd.prog l #[chV x] W fun e W'=>
  (e = .returned (.bool true)/\J (pre++[x]) W'/\jw n0 bx W W')\/(e = .returned (.bool false)/\Jx (pre++[x]) W'))
 (W:World) (hB:BoxOk n0 bx W) (hxs:¬ exb bx W Bs) (hBs:W.cell? ⟨Bs,0,none⟩=some (.string ⟨s.toArray⟩)) (h0:J [] W) :
 CallsIn Fence.wide n Tryd.prog 75 #[.func (.yield l) #[] #[],.pointer (some ⟨Bs,0,none⟩)] W fun e W'=>(∃ v,e = .returned v) /\
  ((∃ ys,ys=chG s 0/\J ys W')\/(∃ pre,True/\Jx pre W')):=by
 refine callsIn_of_wp Tryd.func75 rfl trivial ?_ rfl
 simp only [Tryd.ntmps75,List.size_toArray,List.length_cons,List.length_nil,Nat.reduceAdd,Nat.reduceSub,Array.replicate_succ,Array.replicate_zero,List.push_toArray,List.append_toArray,List.nil_append,List.cons_append]
 have hsz:(⟨s.toArray⟩:ByteArray).size=s.length:=by simp [ByteArray.size]
 gi_wp2
 gi_loopw [3] (fun i wr=>∃ (k:Nat) (pre:List CharT),k<=s.length/\i = .int .i64 (k:Int)/\pre++chG (s.drop k) k=chG s 0/\J pre wr/\Kept n0 bx W wr)
  (fun i _=>match i with | .int _ z=>s.length - z.toNat | _=>0)
 case atStart=>exact ⟨0,[],Nat.zero_le _,rfl,by simp,h0,Kept.refl hB⟩
 case round=>
  obtain ⟨k,pre,hk,rfl,hpre,hJs,hnx⟩:=hrel
  have hBs':=hnx.same _ _ _ hBs hxs
  by_cases hlt:k < s.length
  · have hF:∀ f,Fence.wide.fn f:=fun _=>trivial
    have hdd:∀ k:Nat,(Fence.wide.depth.isSome=true->1<=k):=fun k h=>by cases h
    have hlt2:(k:Int) < (s.length:Int):=by omega
    have hge2:¬ ((k:Int) < 0):=by omega
    obtain ⟨hs1,hs2⟩:=zMm s k hlt
    have hbk:∀ h:k < (⟨s.toArray⟩:ByteArray).size,(⟨s.toArray⟩:ByteArray)[k]'h=s[k]:=fun _=>rfl
    cases hp:Lib.hasPrefix (List.take (s.length - k) (s.drop k)) [92,10] with
    | true=>
     obtain ⟨hk2,hc2⟩:=hs1 hp
     gi_wp2_with ((try refine ⟨hdd _,?_⟩); gi_at_call 38; refine (callsIn_wide.2 (Tryd.strings_HasPrefix _ _ _)).mono ?_; rintro e w' ⟨rfl,rfl⟩)
     refine ⟨⟨k+2,pre,hk2,rfl,by rw [<- hc2]; exact hpre,hJs,hnx⟩,?_⟩
     show s.length - Int.toNat ((k:Int)+1+1) < s.length - Int.toNat (k:Int)
     omega
    | false=>
     have hc2:=hs2 hp
     have hpl:pre.length < s.length:=by
      have e1:=congrArg List.length hpre
      have e2:=kR s 0
      rw [hc2] at e1
      simp only [List.length_append,List.length_cons] at e1
      omega
     obtain ⟨fn,tmps,assign,body,hy,hR⟩:=hY pre ⟨(s[k].toNat:Int),(k:Int)⟩ wr hJs hpl
     dsimp only [chV] at hy
     gi_wp2_with (first
      | ((try refine ⟨hdd _,?_⟩); gi_at_call 38; refine (callsIn_wide.2 (Tryd.strings_HasPrefix _ _ _)).mono ?_; rintro e w' ⟨rfl,rfl⟩)
      | ((try refine ⟨hdd _,?_⟩); refine hR.mono ?_; clear hR; rintro e W3 (⟨rfl,hJ3,hk3⟩ | ⟨rfl,hJx3⟩)))
     · refine ⟨⟨k+1,pre++[⟨(s[k].toNat:Int),(k:Int)⟩],hlt,rfl,by rw [List.append_assoc,List.singleton_append,<- hc2]; exact hpre,hJ3,hnx.trans (hk3 hnx.ok)⟩,?_⟩
       show s.length - Int.toNat ((k:Int)+1) < s.length - Int.toNat (k:Int)
       omega
     · refine bodyPost_ret (results_none rfl _ _ _) rfl ?_
       exact ⟨⟨_,rfl⟩,.inr ⟨_,trivial,hJx3⟩⟩
  · obtain rfl:k=s.length:=by omega
    gi_wp2
    go_end0
    have e:s.drop s.length=[]:=List.drop_eq_nil_of_le (Nat.le_refl _)
    rw [e] at hpre
    exact ⟨⟨_,rfl⟩,.inl ⟨pre,by simpa [chG] using hpre,hJs⟩⟩
theorem zJH (n n0 bx Bs:Nat) (s:Str) (hreach:s.length < 1100000) (w:World) (hB:BoxOk n0 bx w) (hxs:¬ exb bx w Bs) (hbs:w.heap[Bs]? = some (.cells #[.string ⟨s.toArray⟩] 9 (0,0))) :
 SeqStopsK Fence.wide n Tryd.prog 75 #[.pointer (some ⟨Bs,0,none⟩)] (fun x:CharT=>#[chV x]) (jw n0 bx) (fun ys=>ys=chG s 0) (fun _=>True) s.length w:=fun l J Jx W hW _ _ hY h0=>by
 have hbx:W.heap[bx]? = w.heap[bx]?:=hW.block _ hB.lt
 have h1:W.heap[Bs]? = some (.cells #[.string ⟨s.toArray⟩] 9 (0,0)):=(hW.block _ (Array.getElem?_eq_some_iff.1 hbs).1).trans hbs
 exact zMC n n0 bx l Bs s hreach J Jx hY W (hB.grown hW.size hbx) (fun h=>hxs ((j7 hbx Bs).1 h)) (by simp [World.cell?,h1]) h0
set_option maxRecDepth 100000 in
set_option maxHeartbeats 1000000 in
theorem zMV (m:Nat) (s:ByteArray) (w:World) :
 CallsIn Fence.wide m Tryd.prog 55 #[.string s] w fun e w'=>e = .returned (.func (.func 75) #[] #[.pointer (some ⟨w.heap.size,0,none⟩)])/\w' = w.alloc (.cells #[.string s] 9):=by
 refine callsIn_of_wp Tryd.func55 rfl trivial ?_ rfl
 simp only [Tryd.ntmps55,List.size_toArray,List.length_cons,List.length_nil,Nat.reduceAdd,Nat.reduceSub,Array.replicate_succ,Array.replicate_zero,List.push_toArray,List.append_toArray,List.nil_append,List.cons_append]
 gi_wp2
 go_ret
 exact ⟨rfl,rfl⟩
theorem info61:(Tryd.prog.info? 61).map (fun i=>(i.zero,i.size,i.bytes))=some (some (.agg #[.int .u8 0,.int .i64 0]),2,16):=by kernel_rfl
def chCs (l:List CharT):List Value:=l.flatMap chC
theorem zMa (l:List CharT) (x:CharT):chCs (l++[x])=chCs l++chC x:=by simp [chCs]
theorem zIo (w:World) (u v:Value) (t:TypeId) (m:Nat×Nat):∀ j x,[u,v][j]? = some x->(w.alloc (.cells #[u,v] t m)).cell? ((⟨w.heap.size,0,none⟩:Addr).add j)=some x:=by
 intro j x hx
 have hn:=World.alloc_heap_new w (.cells #[u,v] t m)
 match j,hx with
 | 0,hx=>
  have:u=x:=by simpa using hx
  subst this
  show (w.alloc (.cells #[u,v] t m)).cell? ⟨w.heap.size,0,none⟩=some u
  unfold World.cell?
  simp only [hn]; rfl
 | 1,hx=>
  have:v=x:=by simpa using hx
  subst this
  show (w.alloc (.cells #[u,v] t m)).cell? ⟨w.heap.size,1,none⟩=some v
  unfold World.cell?
  simp only [hn]; rfl
 | j+2,hx=>simp at hx
set_option maxRecDepth 100000 in
set_option maxHeartbeats 1000000 in
theorem zOb (m:Nat) (hm:3<=m) (s:Str) (hlen:s.length < 1100000) (w:World) :
 CallsIn Fence.wide m Tryd.prog 27 #[.string ⟨s.toArray⟩] w fun e W'=>∃ v',e = .returned v'/\W'.ownsRow w.heap.size 61 2 v' (chG s 0).length (chCs (chG s 0))/\((chG s 0).length=0->v' = .slice none 0 0)/\Below w.heap.size w W':=by
 have hF:∀ f,Fence.wide.fn f:=fun _=>trivial
 have hdd:∀ k:Nat,(Fence.wide.depth.isSome=true->1<=k):=fun k h=>by cases h
 refine callsIn_of_wp_marks Tryd.func27 rfl (hF _) ?_ rfl
 simp only [Tryd.ntmps27,List.size_toArray,List.length_cons,List.length_nil,Nat.reduceAdd,Nat.reduceSub,Array.replicate_succ,Array.replicate_zero,List.push_toArray,List.append_toArray,List.nil_append,List.cons_append]
 gi_wp2_with ((try refine ⟨hdd _,?_⟩); gi_at_call 55; refine (zMV _ _ _).mono ?_; rintro e w' ⟨rfl,rfl⟩)
 obtain ⟨W2,hW2⟩:∃ W2,(w.alloc (.cells #[.slice none 0 0] 52)).alloc (.cells #[.string ⟨s.toArray⟩] 9)=W2:=⟨_,rfl⟩
 have hsz2:W2.heap.size=w.heap.size+2:=by rw [<- hW2]; simp
 have hb2:Below w.heap.size w W2:=by rw [<- hW2]; exact ((Below.refl _ w).alloc (Nat.le_refl _) _).alloc (by simp) _
 have hbx2:W2.heap[w.heap.size]? = some (.cells #[.slice none 0 0] 52 (0,0)):=by
  rw [<- hW2,Below.heap_alloc _ _ _ (by simp)]
  exact World.alloc_heap_new w _
 have hbt2:W2.heap[w.heap.size+1]? = some (.cells #[.string ⟨s.toArray⟩] 9 (0,0)):=by
  rw [<- hW2]
  have:=World.alloc_heap_new (w.alloc (.cells #[.slice none 0 0] 52)) (.cells #[.string ⟨s.toArray⟩] 9 (0,0))
  simpa using this
 have hG0:Grow w.heap.size w.heap.size 52 61 2 w [] 0 W2:=⟨_,hbx2,World.ownsRow_nil W2 _ _ _,fun _=>rfl,hb2⟩
 have hB2:=hG0.box (Nat.le_refl _)
 have hx2:¬ exb w.heap.size W2 (w.heap.size+1):=fun h=>by
  rcases h with h | ⟨o,l,c,h⟩
  · omega
  · simp [World.cell?,hbx2] at h
 rw [hW2]
 refine wpIn_rangeFunc_ownH rfl (by omega) (gf:=75) (lb:=#[.pointer (some ⟨w.heap.size+1,0,none⟩)]) (by simp [Act.eval]) (hF 75) (enters_of Tryd.func75 (by kernel_rfl) rfl)
  (zJH (m - 1) w.heap.size w.heap.size (w.heap.size+1) s hlen W2 hB2 hx2 hbt2) zMx (fun W l o o' hl h1 h2 _=>zMP W l o o' (by omega) h1 h2) (Below.refl _ _) (fun _=>rfl)
  (fun pre W=>Grow w.heap.size w.heap.size 52 61 2 w (chCs pre) pre.length W)
  (fun _ _ _=>False) ?hI (fun _ _ _ _ _ hs _ _=>hs) hG0
  (fun x a' W=>∃ B4,a' = { tmps:=#[.string ⟨s.toArray⟩,undef,.slice none 0 0,.pointer (some ⟨w.heap.size,0,none⟩),.pointer (some ⟨B4,0,none⟩),.string ⟨s.toArray⟩,.func (.func 75) #[] #[.pointer (some ⟨w.heap.size+1,0,none⟩)],chV x,undef,undef,undef,undef,undef],defers:=[] }/\W.heap[B4]? = some (.cells #[.int .u8 x.b,.int .i64 x.fat] 61 (0,0)))
  ?hAx ?assign ?body ?done ?stop
 case hI=>exact fun pre A B row h hg hr=>h.own (Nat.le_refl _) hg (fun r e=>by obtain ⟨h1,h2⟩:=hr r e; exact ⟨by omega,h2⟩)
 case hAx=>
  rintro x a' _ A B row ⟨B4,e3,e4⟩ hg hr
  refine ⟨B4,e3,(hg.block B4 (Array.getElem?_eq_some_iff.1 e4).1 fun e=>?_).trans e4⟩
  obtain ⟨_,o,ho,hc⟩:=hr B4 e.symm
  rw [e4] at ho; injection ho with ho; subst ho; cases hc
 case assign=>
  rintro l pre ⟨xb,xa⟩ W K hI hK
  have hfin:∀ a2,a2=({ tmps:=#[.string ⟨s.toArray⟩,undef,.slice none 0 0,.pointer (some ⟨w.heap.size,0,none⟩),.pointer (some ⟨W.heap.size,0,none⟩),.string ⟨s.toArray⟩,.func (.func 75) #[] #[.pointer (some ⟨w.heap.size+1,0,none⟩)],chV ⟨xb,xa⟩,undef,undef,undef,undef,undef],defers:=[] }:Act)->K a2 (W.alloc (.cells #[.int .u8 xb,.int .i64 xa] 61)):=fun a2 e=>hK a2 _ ((KeepsOthers.alloc W _).from _) (fun hB=>Kept.grown hB (World.grownBy_alloc W _ none))
   (hI.own (Nat.le_refl _) (World.grownBy_alloc W _ none) (fun r e=>by cases e)) ⟨W.heap.size,e,World.alloc_heap_new W _⟩
  unfold chV at *
  gi_wp2
  rfl
 case body=>
  rintro l pre ⟨xb,xa⟩ a' W hl hL ⟨bv,hbv,hrow,hz,hbel⟩ ⟨B4,rfl,hB4⟩ hlen2
  replace hB4:W.heap[B4]? = some (.cells #[.int .u8 xb,.int .i64 xa] 61 (0,0)):=hB4
  have c0:W.cell? ⟨B4,0,none⟩=some (.int .u8 xb):=by simp [World.cell?,hB4]
  have c1:W.cell? ⟨B4,1,none⟩=some (.int .i64 xa):=by simp [World.cell?,hB4]
  have cb:W.cell? ⟨w.heap.size,0,none⟩=some bv:=by simp [World.cell?,hbv]
  obtain ⟨i0,hi,hz0,hz1,hz2⟩:=info_parts info61
  have hb1:pre.length+1<=1100000:=by omega
  have hsz:w.heap.size<=W.heap.size:=hbel.size
  have hlt:w.heap.size < W.heap.size:=(Array.getElem?_eq_some_iff.1 hbv).1
  have hnb:some w.heap.size≠bv.ownBlock:=by
   rcases zIj hrow hbv (fun cur e=>by cases e) with e | e
   · rw [e]; simp
   · exact fun e'=>e e'.symm
  gi_wp2_with (
   gi_at_builtin
   refine zCp _ rfl _ _ 52 rfl w.heap.size 61 i0 (.agg #[.int .u8 0,.int .i64 0]) 2 16 Tryd.underlying52 hi hz0 hz1 hz2 rfl (by decide) _ _ _ rfl (hrow.alloc _) ⟨W.heap.size,0,none⟩ 1 1 [.int .u8 xb,.int .i64 xa] rfl rfl (zIo _ _ _ _ _) (by simp [Value.oneCell']) (Nat.le_trans hb1 (by decide)) (Nat.le_trans (Nat.mul_le_mul_right 16 hb1) (by decide)) (by simp; omega) ?_
   intro v' w3 hown' hg3 hnil3 hat
   have hv3:w3.heap[w.heap.size]? = some (.cells #[bv] 52 (0,0)):=(hg3.block _ (by simp; omega) hnb).trans ((Below.heap_alloc _ _ _ hlt).trans hbv)
   obtain ⟨hc3,hf3⟩:w3.cell? ⟨w.heap.size,0,none⟩=some bv/\w3.frozen? ⟨w.heap.size,0,none⟩=false:=by constructor <;> simp [World.cell?,World.frozen?,hv3]
   obtain ⟨g',cap',cur',rfl,hbase',hgb',hr1,hr2,hr3,hr4⟩:∃ g' cap' cur',v' = .slice (some ⟨g',0,none⟩) (pre.length+1) cap'/\w.heap.size<=g'/\w3.heap[g']? = some (.cells cur' 61 (0,0))/\pre.length+1<=cap'/\cap'<=maxLen/\cur'.size=cap' * 2/\cur'.toList.take ((pre.length+1) * 2)=chCs pre++[.int .u8 xb,.int .i64 xa]:=by
    rcases hown'.2 with ⟨_,h0⟩ | h'
    · exact absurd h0 (by omega)
    · exact h')
  have hg4:=grownBy_setCell' w3 w.heap.size (.slice (some ⟨g',0,none⟩) (pre.length+1) cap')
  have hg3':(W.alloc (.cells #[.int .u8 xb,.int .i64 xa] 61)).grownBy w3 bv.ownBlock:=hg3
  have hs3:W.heap.size+1<=w3.heap.size:=by have:=hg3'.size; simpa using this
  refine (?_:KeepsFrom _ _ _/\jw _ _ _ _/\Grow _ _ _ _ _ _ (chCs (pre++[_])) (pre++[_]).length _)
  rw [zMa,List.length_append,List.length_cons,List.length_nil]
  have hbel3:Below w.heap.size w w3:=(hbel.alloc hsz _).grown hg3' (by simp; omega) (fun k e=>zNl hrow e)
  refine Grow.round (Nat.le_refl _) hbv hrow (zIv _ hv3) (hown'.kept hg4 (zIj hown' hv3 (fun cur e=>by cases e))) (fun e=>absurd e (by omega)) (hbel3.grown hg4 hbel3.size (fun k e=>by injection e with e; omega)) (by simp; omega) ?_ (fun b hb h1 h2=>?_)
  · rcases hat with e | e
    · exact .inl e
    · exact .inr ⟨_,e,by simp⟩
  · exact ((hg4.block b (by omega) (fun e=>h1 (by injection e))).trans (hg3'.block b (by simp; omega) (fun e=>h2 e.symm))).trans (Below.heap_alloc _ _ _ hb)
 case stop=>
  rintro D c pre W _ _ h _
  exact h.elim
 case done=>
  rintro D ys W hD hys ⟨bv,hbv,hrow,hz,hbel⟩ hK
  have cb:W.cell? ⟨w.heap.size,0,none⟩=some bv:=by simp [World.cell?,hbv]
  gi_wp2
  refine ⟨by simp,.inl ⟨_,_,rfl,run_takeDeferred hK,?_⟩⟩
  have hgD:=grownBy_putObj' W D (.deferred none)
  subst hys
  refine ⟨_,results_tmp rfl _ _ _,_,rfl,?_⟩
  refine ⟨hrow.kept hgD (zIj hrow hK (fun cur e=>by cases e)),hz,hbel.grown hgD hbel.size (fun k e=>by injection e with e; omega)⟩
theorem zGQ {g:Gh} {w:World}:∀ l:List CharT,RCs g w (l.map z8) (chCs l)
 | []=>by simp [RCs,chCs]
 | x::r=>by
  have ih:=zGQ (g:=g) (w:=w) r
  simp only [List.map_cons,RCs]
  refine ⟨chC x,chCs r,by simp [chCs],?_,ih⟩
  show RC g w (.agg [.at (.int .u8 (CharT.b x)),.at (.int .i64 (CharT.fat x))]) _
  simp only [RC,RCs,chC]
  exact ⟨[.int .u8 x.b],[.int .i64 x.fat],rfl,⟨rfl,rfl⟩,[.int .i64 x.fat],[],rfl,⟨rfl,rfl⟩,rfl⟩
theorem pure27 (s:Str) (hlen:s.length < 1100000):xc Tryd.prog 27 [.at (.string ⟨s.toArray⟩)] (.lst (zz ((chG s 0).map z8)) ((chG s 0).map z8)):=by
 intro wm w us hwm hgl hu
 cases hu with
 | cons hu1 hu2=>
  cases hu2
  have e:=zT hu1
  subst e
  refine callsIn_wide.1 ((zOb 3 (Nat.le_refl _) s hlen w).mono ?_)
  rintro e w' ⟨v',rfl,hrow,hz,hbel⟩
  obtain ⟨wm',h1,h2,h3⟩:=zMi hwm hbel hrow hz ((chG s 0).map z8) (by simp) (fun x hx=>by obtain ⟨y,_,rfl⟩:=List.mem_map.1 hx; exact zF6 y) (zGQ _)
  exact ⟨_,wm',rfl,h1,h2,h3⟩
def c27 (x:Str×Unit):Option (List CharT×Unit):=if x.1.length < 1100000 then some (chG x.1 0,()) else none
theorem ok27:ConOk CC Tryd.prog 27 ⟨as27,rs27,c27⟩:=fun x y hx vs hvs=>by
 obtain ⟨s,u⟩:=x
 obtain ⟨v,vs',rfl,hv,hvs⟩:=hvs
 replace hvs:vs' = []:=hvs
 subst hvs
 replace hv:v = .at (.string ⟨List.toArray s⟩):=hv
 subst hv
 by_cases h:List.length (show Str from s) < 1100000
 · have h2:c27 (s,u)=some (chG s 0,()):=if_pos h
   replace hx:c27 (s,u)=some y:=hx
   rw [h2] at hx
   injection hx with hx
   subst hx
   exact pure27 s h
 · have h2:c27 (s,u)=none:=if_neg h
   replace hx:c27 (s,u)=some y:=hx
   rw [h2] at hx
   cases hx
theorem zC9 {g:Gh} {w:World}:∀ {l:List CharT} {us:List Value} (i:Nat) (h:i < l.length),RCs g w (l.map z8) us->us[2 * i]? = some (.int .u8 l[i].b)/\us[2 * i+1]? = some (.int .i64 l[i].fat)
 | x::r,us,0,_,h=>by
  simp only [List.map_cons,RCs] at h
  obtain ⟨u1,u2,rfl,h1,h2⟩:=h
  have h1':RC g w (.agg [.at (.int .u8 (CharT.b x)),.at (.int .i64 (CharT.fat x))]) u1:=h1
  simp only [RC,RCs] at h1'
  obtain ⟨v1,v2,rfl,⟨rfl,_⟩,v3,v4,rfl,⟨rfl,_⟩,rfl⟩:=h1'
  exact ⟨rfl,rfl⟩
 | x::r,us,i+1,hi,h=>by
  simp only [List.map_cons,RCs] at h
  obtain ⟨u1,u2,rfl,h1,h2⟩:=h
  have h3:=xY g w _ _ h1
  have h4:u1.length=2:=by rw [h3]; exact zF6 x
  obtain ⟨k0,k1⟩:=zC9 i (by simpa using hi) h2
  have ap:∀ j,(u1++u2)[2 * (i+1)+j]? = u2[2 * i+j]?:=fun j=>by
   rw [List.getElem?_append_right (by omega),h4]; congr 1; omega
  exact ⟨(ap 0).trans k0,(ap 1).trans k1⟩
theorem zMv {wm:Nat->Nat} {w:World} {l:List CharT} {sv:Value} (h:RC ⟨wm,fun _=>none,Fr.no⟩ w (.lst (zz (l.map z8)) (l.map z8)) [sv]) :
 ∃ ad cap,sv = .slice ad l.length cap/\∀ i (hi:i < l.length),∃ b o,ad=some ⟨b,o,none⟩/\(w.cell? ⟨b,o+2 * i,none⟩=some (.int .u8 l[i].b)/\o+2 * i < wm b)/\(w.cell? ⟨b,o+(2 * i+1),none⟩=some (.int .i64 l[i].fat)/\o+(2 * i+1) < wm b):=by
 have hl:(l.map z8).length=l.length:=by simp
 simp only [RC] at h
 rcases h with ⟨he,hu,_⟩ | ⟨b,o,cap,ds,hu,hc,_,hr,_,ha⟩
 · have h0:l=[]:=by simpa using he
   subst h0
   injection hu with hu
   exact ⟨none,0,hu,fun i hi=>absurd hi (by simp)⟩
 · injection hu with hu
   refine ⟨_,cap,by rw [hu,hl],fun i hi=>?_⟩
   obtain ⟨k1,k2⟩:=zC9 i hi hr
   exact ⟨b,o,rfl,ha _ _ k1,ha _ _ k2⟩
theorem info5:(Tryd.prog.info? 5).map (fun i=>(i.zero,i.size,i.bytes))=some (some (.int .u8 0),1,1):=by kernel_rfl
theorem zDp (W:World) (b i:Nat) (v:Value):W.grownBy (W.setCell ⟨b,i,none⟩ v) (some b):=
 ⟨rfl,rfl,rfl,(KeepsWalks.setCell W _ v).size,fun k _ hk=>Below.heap_setCell _ _ _ k (fun e=>hk (by rw [e]))⟩
theorem zJJ {W:World} {B i:Nat} {c:Array Value} {t:TypeId} (v':Value) (h:W.heap[B]? = some (.cells c t (0,0))):(W.setCell ⟨B,i,none⟩ v').heap[B]? = some (.cells (c.setIfInBounds i v') t (0,0)):=by
 obtain ⟨hlt,hk⟩:=Array.getElem?_eq_some_iff.1 h
 show (W.heap.modify B _)[B]? = _
 rw [Array.getElem?_eq_getElem (by rw [Array.size_modify]; exact hlt),Array.getElem_modify_self,hk]
 rfl
def TRow (n0 g:Nat) (w:World) (xs:List Int) (n k:Nat) (W:World):Prop:=
 Below n0 w W/\∃ cur,W.heap[g]? = some (.cells cur 5 (0,0))/\cur.size=n/\(∀ i,i < k->cur[i]? = some (.int .u8 (xs.getD i 0)))/\∀ i,i < n->∃ z,cur[i]? = some (.int .u8 z)
set_option maxRecDepth 100000 in
set_option maxHeartbeats 1000000 in
theorem zNi (m:Nat) (l:List CharT) (hlen:l.length < 1100000) (wm:Nat->Nat) (w:World) (hwm:∀ b,w.heap.size<=b->wm b=0) (ad:Option Addr) (cap:Nat)
 (hch:∀ i (hi:i < l.length),∃ b o,ad=some ⟨b,o,none⟩/\(w.cell? ⟨b,o+2 * i,none⟩=some (.int .u8 l[i].b)/\o+2 * i < wm b)/\(w.cell? ⟨b,o+(2 * i+1),none⟩=some (.int .i64 l[i].fat)/\o+(2 * i+1) < wm b)) :
 CallsIn Fence.wide m Tryd.prog 28 #[.slice ad l.length cap] w fun e W'=>e = .returned (.string (strOfNums (l.map CharT.b)))/\Below w.heap.size w W':=by
 have hF:∀ f,Fence.wide.fn f:=fun _=>trivial
 refine callsIn_of_wp Tryd.func28 rfl trivial ?_ rfl
 simp only [Tryd.ntmps28,List.size_toArray,List.length_cons,List.length_nil,Nat.reduceAdd,Nat.reduceSub,Array.replicate_succ,Array.replicate_zero,List.push_toArray,List.append_toArray,List.nil_append,List.cons_append]
 obtain ⟨i0,hi,hz0,hz1,hz2⟩:=info_parts info5
 obtain ⟨W1,hmk,hown,hg1⟩:=run_make_full (P:=Tryd.prog) w w.heap.size 76 5 i0 (.int .u8 0) 1 Tryd.underlying76 hi hz0 hz1 .i64 .i64 l.length (by rw [hz2]; omega) (by simp only [maxLen]; omega) (Nat.le_refl _)
 have h0:TRow w.heap.size w.heap.size w (l.map CharT.b) l.length 0 W1:=by
  refine ⟨(Below.refl _ w).grown hg1 (Nat.le_refl _) (fun k e=>by cases e),?_⟩
  rcases hown.2 with ⟨h,_⟩ | ⟨g,cap',cur,h,_,hgb,_,_,hcs,htk⟩
  · cases h
  · injection h with e1 _ e3
    injection e1 with e1
    injection e1 with e1
    subst e1 e3
    refine ⟨cur,hgb,by omega,fun i h=>by omega,fun i hi=>⟨0,?_⟩⟩
    have hh:(List.take (l.length * 1) cur.toList)[i]? = (madeCells (Value.int .u8 0).cells (l.length * 1)).toList[i]?:=by rw [htk]
    rw [List.getElem?_take,if_pos (by omega),Array.getElem?_toList,Array.getElem?_toList] at hh
    rw [hh]
    have hz:(Value.int IntKind.u8 0).cells = #[.int .u8 0]:=rfl
    rw [hz]
    simp [madeCells,hi,Nat.mod_one]
 have hgl:w.heap.size≠W1.heap.size:=by
  obtain ⟨_,cur,h,_⟩:=h0
  have:=(Array.getElem?_eq_some_iff.1 h).1
  omega
 gi_wp2_with (rw [hmk])
 gi_loopw [11] (fun u wr=>∃ k:Nat,k<=l.length/\u = .int .i64 (k:Int)/\TRow w.heap.size w.heap.size w (l.map CharT.b) l.length k wr)
  (fun u _=>match u with | .int _ z=>l.length - z.toNat | _=>0)
 case atStart=>exact ⟨0,Nat.zero_le _,rfl,h0⟩
 case round=>
  obtain ⟨k,hk,rfl,hbel,cur,hgb,hcs,hc1,hc2⟩:=hrel
  by_cases hlt:k < l.length
  · obtain ⟨b,o,rfl,⟨a0,b0⟩,⟨a1,b1⟩⟩:=hch k hlt
    have hbl:b < w.heap.size:=by
     rcases Nat.lt_or_ge b w.heap.size with h | h
     · exact h
     · rw [hwm b h] at b0; omega
    have f0:wr.cell? ⟨b,o+k * 2,none⟩=some (.int .u8 l[k].b):=by rw [Nat.mul_comm k 2]; exact (xX (hbel.block b hbl) _).trans a0
    have f1:wr.cell? ⟨b,o+k * 2+1,none⟩=some (.int .i64 l[k].fat):=by rw [Nat.mul_comm k 2]; exact (xX (hbel.block b hbl) _).trans a1
    have hgs:=(Array.getElem?_eq_some_iff.1 hgb).1
    obtain ⟨W3,hW3⟩:∃ W3,wr.alloc (.cells #[.int .u8 l[k].b,.int .i64 l[k].fat] 61)=W3:=⟨_,rfl⟩
    have hg3:W3.heap[w.heap.size]? = some (.cells cur 5 (0,0)):=by rw [<- hW3,Below.heap_alloc _ _ _ hgs]; exact hgb
    have hn3:W3.heap[wr.heap.size]? = some (.cells #[.int .u8 l[k].b,.int .i64 l[k].fat] 61 (0,0)):=by rw [<- hW3]; exact World.alloc_heap_new wr _
    have g0:W3.cell? ⟨wr.heap.size,0,none⟩=some (.int .u8 l[k].b):=by simp [World.cell?,hn3]
    obtain ⟨z,hz⟩:=hc2 k hlt
    have hck:W3.cell? ⟨w.heap.size,k,none⟩=some (.int .u8 z):=by simp [World.cell?,hg3,hz]
    have hfk:W3.frozen? ⟨w.heap.size,k,none⟩=false:=by simp [World.frozen?,hg3]
    gi_wp2_with (rw [hW3])
    refine ⟨⟨k+1,hlt,rfl,?_⟩,?_⟩
    · have hbel3:Below w.heap.size w W3:=by rw [<- hW3]; exact hbel.alloc hbel.size _
      refine ⟨hbel3.grown (zDp W3 w.heap.size k (.int .u8 l[k].b)) hbel3.size (fun j e=>by injection e with e; omega),cur.setIfInBounds k (.int .u8 l[k].b),zJJ _ hg3,by simpa using hcs,fun i hi=>?_,fun i hi=>?_⟩
      · rw [Array.getElem?_setIfInBounds]
        by_cases e:k=i
        · subst e
          rw [if_pos rfl,if_pos (by omega)]
          simp [hlt]
        · rw [if_neg e]; exact hc1 i (by omega)
      · rw [Array.getElem?_setIfInBounds]
        by_cases e:k=i
        · subst e
          rw [if_pos rfl,if_pos (by omega)]
          exact ⟨_,rfl⟩
        · rw [if_neg e]; exact hc2 i hi
    · show l.length - Int.toNat ((k:Int)+1) < l.length - Int.toNat (k:Int)
      omega
  · obtain rfl:k=l.length:=by omega
    have hcv:=run_convert_bytes_arg (P:=Tryd.prog) wr 76 5 Tryd.underlying76 Tryd.underlying5 w.heap.size 0 l.length l.length (l.map CharT.b) (by simp) (fun i hi=>by
     have:=hc1 i hi
     simp [World.cell?,hgb,this]) 9 Tryd.underlying9
    gi_wp2_with (rw [hcv])
    go_ret
    exact ⟨rfl,hbel⟩
def c28 (x:List CharT×Unit):Option (Str×Unit):=if x.1.length < 1100000 then some (x.1.map (fun c=>UInt8.ofNat c.b.toNat),()) else none
theorem pure28 (l:List CharT) (hlen:l.length < 1100000):xc Tryd.prog 28 [.lst (zz (l.map z8)) (l.map z8)] (.at (.string ⟨(l.map (fun c=>UInt8.ofNat c.b.toNat)).toArray⟩)):=by
 intro wm w us hwm hgl hu
 obtain ⟨v,rfl⟩:∃ v,us=[v]:=by cases hu with | cons _ hv=>cases hv; exact ⟨_,rfl⟩
 cases hu with
 | cons h _=>
  obtain ⟨us,h1,h2⟩:=h
  have hle:=xY _ _ _ _ h1
  obtain ⟨sv,rfl⟩:=List.length_eq_one_iff.1 (show us.length=1 from hle)
  obtain ⟨ad,cap,rfl,hch⟩:=zMv h1
  have:v = .slice ad l.length cap:=h2
  subst this
  refine callsIn_wide.1 ((zNi 3 l hlen wm w hwm ad cap hch).mono ?_)
  rintro e w' ⟨rfl,hbel⟩
  obtain ⟨q1,q2⟩:=xg hwm hbel
  refine ⟨_,wm,rfl,q1,q2,?_⟩
  have e2:strOfNums (l.map CharT.b)=⟨(l.map (fun c=>UInt8.ofNat c.b.toNat)).toArray⟩:=by simp [strOfNums,List.map_map,Function.comp_def]
  rw [e2]
  exact zo rfl
theorem ok28:ConOk CC Tryd.prog 28 ⟨as28,rs28,c28⟩:=fun x y hx vs hvs=>by
 obtain ⟨s,u⟩:=x
 obtain ⟨v,vs',rfl,hv,hvs⟩:=hvs
 replace hvs:vs' = []:=hvs
 subst hvs
 change List CharT at s
 replace hv:v = .lst (zz (s.map z8)) (s.map z8):=hv
 subst hv
 by_cases h:s.length < 1100000
 · have h2:c28 (s,u)=some (s.map (fun c=>UInt8.ofNat c.b.toNat),()):=if_pos h
   replace hx:c28 (s,u)=some y:=hx
   rw [h2] at hx
   injection hx with hx
   subst hx
   exact pure28 s h
 · have h2:c28 (s,u)=none:=if_neg h
   replace hx:c28 (s,u)=some y:=hx
   rw [h2] at hx
   cases hx
end
section
open Go.Al Go.Den
theorem zDO (P:Program) (op:BinOp) (t:TypeId) (c:Bool) (k k':IntKind) (a b:Int) (K:V->Prop):zAg P op t c (.at (.int k a)) (.at (.int k' b)) K=aBin P op t (.at (.int k a)) (.at (.int k' b)) K:=rfl
abbrev polN:Pol:=⟨fun _=>false,fun _=>false,fun _=>false,fun _=>false,[],fun _=>[]⟩
theorem zFp (d:Nat):polN.wr d=false:=rfl
theorem zEg (d:Nat):polN.own d=false:=rfl
def kJ (s:Str) (n:Int):Int:=if n < s.length then zD s n else 0
def c56 (a:Int×Unit) (s:Str) (i:Int):Option (Int×Unit):=if 0<=i+a.1/\i+a.1 < 9223372036854775808/\s.length < 9223372036854775808 then some (kJ s (i+a.1),()) else none
set_option maxRecDepth 100000 in
theorem ok56:CROk CC Tryd.prog 56 (cRD [.int .i64] [.int .u8] c56):=by
 intro x R K r hr
 obtain ⟨⟨s0,i,u⟩,k,u'⟩:=x
 change Str at s0
 change Int at i
 change Int at k
 replace hr:Option.bind (c56 (k,()) s0 i) (fun y=>K y)=some r:=hr
 unfold c56 at hr
 split at hr
 rotate_left
 · cases hr
 rename_i h
 replace hr:K (kJ s0 (i+k),())=some r:=hr
 replace h:0<=i+k/\i+k < 9223372036854775808/\s0.length < 9223372036854775808:=h
 refine ⟨_,hr,fun s va q hv hn=>?_⟩
 simp only [VKs,VK] at hv
 obtain ⟨v,w,q1,q2,rfl,rfl,⟨b0,cs,q3,rfl,e1,⟨v2,w2,q4,q5,rfl,rfl,⟨rfl,rfl⟩,v4,w4,q8,q9,rfl,rfl,⟨rfl,rfl⟩,rfl,rfl⟩,rfl⟩,v3,w3,q6,q7,rfl,rfl,⟨rfl,rfl⟩,rfl,rfl⟩:=hv
 refine ⟨[.at (.int .u8 (kJ s0 (i+k)))],fun s'=>⟨_,[],[],[],rfl,rfl,⟨rfl,rfl⟩,rfl,rfl⟩,?_⟩
 simp only [List.nil_append,List.append_nil,List.cons_append]
 have e2:=(yW s [.inr b0] b0).1 (by simp)
 rw [e1] at e2
 show FnC Tryd.prog 56 _ (subS s [.inr b0]) fun oc s'=>oc = .ret (finV [.at (.int .u8 (kJ s0 (i+k)))])/\s' = subS s [.inr b0]
 generalize subS s [.inr b0]=s1 at e2 ⊢
 refine zCL Tryd.func56 rfl Tryd.ntmps56 Tryd.results56 (by show 2<=28; decide) fun B=>?_
 simp only [List.cons_append,List.nil_append,List.append_nil,qv,Nat.reduceAdd]
 replace e2:Al.look s1.box b0=some ([.at (.string ⟨List.toArray s0⟩),.at (.int .i64 i)],2):=e2
 have hw:IntKind.i64.wrap (i+k)=i+k:=IntWalk.i64_in _ (by omega)
 have hsz:(⟨List.toArray s0⟩:ByteArray).size=s0.length:=by simp [ByteArray.size]
 (repeat (first | (refine zDm ?_) | (refine zAQ ?_; simp -failIfUnchanged only [yL,yH]) | (refine zDo ?_; simp -failIfUnchanged only [qi,qH,zEc,zC1]) | (refine zB4 ?_; simp -failIfUnchanged only [qF,xl,yL,yH,reduceIte]) | (refine zAj ?_) | ((first | (refine zDj polN ks56 _ rfl rfl ?_) | (refine zBq polN mixed ks56 _ rfl rfl (by kernel_rfl) (by kernel_rfl) ?_)); simp only [↓zCY,↓zIm,↓zGE,↓zCj,↓zFr,↓zII,↓zKJ,↓zBu,↓zEU,↓zAE,↓zAP,↓zEF,↓zFt,↓zD4,↓zEi,↓zHb,↓zEW,↓kD,↓zAq,↓zD3,↓zHj,↓zIu,↓zCU,yL,qF,qi,zA1,yH,xl,qH,kw,zC4,zC8,zEf,zF4,zHQ,zEI,zF1,zIC,zF9,zDC,zHX,zIs,zBb,zCV,zEL,zCa,zEp,zEA,zEj,zEh,zDz,zEE,zER,zEJ,zD6,zEr,zEt,zCl,zCi,zFw,zF3,zD7,zB0,zEb,zES,zCK,kp,jY,kE,zBz,zCq,zB1,zBx,zAw,jL,zAF,jN,zAS,zBa,zA5,ja,zAs,qa,kz,zB2,zCZ,zAx,zDP,zAy,kx,zCk,zBo,zBr,zCM,zAp,zB9,zEm,zGB,zGI,zEZ,qS,spl,jV,zEl,zFh,zFy,zIH,yk,zDS,zBy,zKv,kC,kA,jZ,Option.map_some,List.mem_cons,true_or,implies_true,false_implies,true_implies,Nat.reduceLT,List.erase_cons_head,Nat.one_mul,zAr,Go.Al.untag_at,zCH,zC3,zB6,zEo,zDQ,zDL,xx,zC6,zBt,zDK,zCG,zAv,kt,j8,kv,List.map_cons,List.map_nil,List.cons_append,List.nil_append,List.append_nil,and_self,beq_self_eq_true,fits,ym,yO,zJ,V.isOne,V.isAgg,V.size,V.flat,xd,List.all_cons,List.all_nil,List.length_cons,List.length_nil,List.drop_zero,List.drop_succ_cons,List.take_succ_cons,List.take_zero,List.take_nil,List.getD_cons_zero,List.getD_cons_succ,List.length_map,Bool.and_true,Bool.true_and,Bool.and_self,Option.isSome_some,if_true,if_false,and_true,true_and,Nat.reduceAdd,Nat.reduceEqDiff,Nat.reduceLeDiff,Nat.reduceMul,Nat.reduceSub,reduceIte,reduceCtorEq,Bool.false_eq_true,eq_self,Nat.zero_add,Nat.add_zero,Nat.lt_irrefl,Nat.le_refl,Nat.zero_lt_one,Nat.zero_le,Nat.lt_add_one,yF,yh,zEq,zCB,zBf,zCm,zDG,zA4,jx,j9,zAN,kg,zA3,zCe,zCX,Option.map_none,zN,qJ,zDI,Env.get_put,yE,Nat.reduceBEq,Bool.or_true,Bool.true_or,Bool.or_false,Bool.or_self,Nat.zero_mul,zKU,zJ2,zIM,zH6,zKs,zKM,zKn,zH2,zH8,zIQ,zJ1,zKR,zJ9,zIO,zH9,zKq,zKu,zKz,zIP,zHK,zKW,zKa,zIh,zIp,zFz,zFe,zHe,zHJ,zIG,zGC,zFm,zCc,zF7,zF5,zHm,ks56,e2,zDO,hw,hsz,zFp,zEg])))
 refine zHc rfl (fun h1=>?_) (fun h1=>?_)
 · have h2:i+k >= s0.length:=of_decide_eq_true h1
   have h3:kJ s0 (i+k)=0:=if_neg (by omega)
   (repeat (first | (refine zDm ?_) | (refine zAQ ?_; simp -failIfUnchanged only [yL,yH]) | (refine zDo ?_; simp -failIfUnchanged only [qi,qH,zEc,zC1]) | (refine zB4 ?_; simp -failIfUnchanged only [qF,xl,yL,yH,reduceIte]) | (refine zAj ?_) | ((first | (refine zDj polN ks56 _ rfl rfl ?_) | (refine zBq polN mixed ks56 _ rfl rfl (by kernel_rfl) (by kernel_rfl) ?_)); simp only [↓zCY,↓zIm,↓zGE,↓zCj,↓zFr,↓zII,↓zKJ,↓zBu,↓zEU,↓zAE,↓zAP,↓zEF,↓zFt,↓zD4,↓zEi,↓zHb,↓zEW,↓kD,↓zAq,↓zD3,↓zHj,↓zIu,↓zCU,yL,qF,qi,zA1,yH,xl,qH,kw,zC4,zC8,zEf,zF4,zHQ,zEI,zF1,zIC,zF9,zDC,zHX,zIs,zBb,zCV,zEL,zCa,zEp,zEA,zEj,zEh,zDz,zEE,zER,zEJ,zD6,zEr,zEt,zCl,zCi,zFw,zF3,zD7,zB0,zEb,zES,zCK,kp,jY,kE,zBz,zCq,zB1,zBx,zAw,jL,zAF,jN,zAS,zBa,zA5,ja,zAs,qa,kz,zB2,zCZ,zAx,zDP,zAy,kx,zCk,zBo,zBr,zCM,zAp,zB9,zEm,zGB,zGI,zEZ,qS,spl,jV,zEl,zFh,zFy,zIH,yk,zDS,zBy,zKv,kC,kA,jZ,Option.map_some,List.mem_cons,true_or,implies_true,false_implies,true_implies,Nat.reduceLT,List.erase_cons_head,Nat.one_mul,zAr,Go.Al.untag_at,zCH,zC3,zB6,zEo,zDQ,zDL,xx,zC6,zBt,zDK,zCG,zAv,kt,j8,kv,List.map_cons,List.map_nil,List.cons_append,List.nil_append,List.append_nil,and_self,beq_self_eq_true,fits,ym,yO,zJ,V.isOne,V.isAgg,V.size,V.flat,xd,List.all_cons,List.all_nil,List.length_cons,List.length_nil,List.drop_zero,List.drop_succ_cons,List.take_succ_cons,List.take_zero,List.take_nil,List.getD_cons_zero,List.getD_cons_succ,List.length_map,Bool.and_true,Bool.true_and,Bool.and_self,Option.isSome_some,if_true,if_false,and_true,true_and,Nat.reduceAdd,Nat.reduceEqDiff,Nat.reduceLeDiff,Nat.reduceMul,Nat.reduceSub,reduceIte,reduceCtorEq,Bool.false_eq_true,eq_self,Nat.zero_add,Nat.add_zero,Nat.lt_irrefl,Nat.le_refl,Nat.zero_lt_one,Nat.zero_le,Nat.lt_add_one,yF,yh,zEq,zCB,zBf,zCm,zDG,zA4,jx,j9,zAN,kg,zA3,zCe,zCX,Option.map_none,zN,qJ,zDI,Env.get_put,yE,Nat.reduceBEq,Bool.or_true,Bool.true_or,Bool.or_false,Bool.or_self,Nat.zero_mul,zKU,zJ2,zIM,zH6,zKs,zKM,zKn,zH2,zH8,zIQ,zJ1,zKR,zJ9,zIO,zH9,zKq,zKu,zKz,zIP,zHK,zKW,zKa,zIh,zIp,zFz,zFe,zHe,zHJ,zIG,zGC,zFm,zCc,zF7,zF5,zHm,ks56,e2,zDO,hw,hsz,zFp,zEg])))
   simp only [yJ]
   rw [h3]
   exact ⟨rfl,rfl,trivial⟩
 · have h2:¬ i+k >= s0.length:=of_decide_eq_false h1
   have h3:kJ s0 (i+k)=zD s0 (i+k):=if_pos (by omega)
   refine zAQ ?_
   simp -failIfUnchanged only [yL,yH]
   have hin:0<=i+k/\i+k < (s0.length:Int):=by omega
   (repeat (first | (refine zDm ?_) | (refine zAQ ?_; simp -failIfUnchanged only [yL,yH]) | (refine zDo ?_; simp -failIfUnchanged only [qi,qH,zEc,zC1]) | (refine zB4 ?_; simp -failIfUnchanged only [qF,xl,yL,yH,reduceIte]) | (refine zAj ?_) | ((first | (refine zDj polN ks56 _ rfl rfl ?_) | (refine zBq polN mixed ks56 _ rfl rfl (by kernel_rfl) (by kernel_rfl) ?_)); simp only [↓zCY,↓zIm,↓zGE,↓zCj,↓zFr,↓zII,↓zKJ,↓zBu,↓zEU,↓zAE,↓zAP,↓zEF,↓zFt,↓zD4,↓zEi,↓zHb,↓zEW,↓kD,↓zAq,↓zD3,↓zHj,↓zIu,↓zCU,yL,qF,qi,zA1,yH,xl,qH,kw,zC4,zC8,zEf,zF4,zHQ,zEI,zF1,zIC,zF9,zDC,zHX,zIs,zBb,zCV,zEL,zCa,zEp,zEA,zEj,zEh,zDz,zEE,zER,zEJ,zD6,zEr,zEt,zCl,zCi,zFw,zF3,zD7,zB0,zEb,zES,zCK,kp,jY,kE,zBz,zCq,zB1,zBx,zAw,jL,zAF,jN,zAS,zBa,zA5,ja,zAs,qa,kz,zB2,zCZ,zAx,zDP,zAy,kx,zCk,zBo,zBr,zCM,zAp,zB9,zEm,zGB,zGI,zEZ,qS,spl,jV,zEl,zFh,zFy,zIH,yk,zDS,zBy,zKv,kC,kA,jZ,Option.map_some,List.mem_cons,true_or,implies_true,false_implies,true_implies,Nat.reduceLT,List.erase_cons_head,Nat.one_mul,zAr,Go.Al.untag_at,zCH,zC3,zB6,zEo,zDQ,zDL,xx,zC6,zBt,zDK,zCG,zAv,kt,j8,kv,List.map_cons,List.map_nil,List.cons_append,List.nil_append,List.append_nil,and_self,beq_self_eq_true,fits,ym,yO,zJ,V.isOne,V.isAgg,V.size,V.flat,xd,List.all_cons,List.all_nil,List.length_cons,List.length_nil,List.drop_zero,List.drop_succ_cons,List.take_succ_cons,List.take_zero,List.take_nil,List.getD_cons_zero,List.getD_cons_succ,List.length_map,Bool.and_true,Bool.true_and,Bool.and_self,Option.isSome_some,if_true,if_false,and_true,true_and,Nat.reduceAdd,Nat.reduceEqDiff,Nat.reduceLeDiff,Nat.reduceMul,Nat.reduceSub,reduceIte,reduceCtorEq,Bool.false_eq_true,eq_self,Nat.zero_add,Nat.add_zero,Nat.lt_irrefl,Nat.le_refl,Nat.zero_lt_one,Nat.zero_le,Nat.lt_add_one,yF,yh,zEq,zCB,zBf,zCm,zDG,zA4,jx,j9,zAN,kg,zA3,zCe,zCX,Option.map_none,zN,qJ,zDI,Env.get_put,yE,Nat.reduceBEq,Bool.or_true,Bool.true_or,Bool.or_false,Bool.or_self,Nat.zero_mul,zKU,zJ2,zIM,zH6,zKs,zKM,zKn,zH2,zH8,zIQ,zJ1,zKR,zJ9,zIO,zH9,zKq,zKu,zKz,zIP,zHK,zKW,zKa,zIh,zIp,zFz,zFe,zHe,zHJ,zIG,zGC,zFm,zCc,zF7,zF5,zHm,ks56,e2,zDO,hw,hsz,hin,zFp,zEg])))
   have hg:(List.toArray s0).getD (i+k).toNat 0=s0.getD (i+k).toNat 0:=by simp [Array.getD_eq_getD_getElem?,List.getD_eq_getElem?_getD]
   simp only [yJ]
   rw [h3,hg]
   exact ⟨rfl,rfl,trivial⟩
end
end Go.Proofs.YtonnigoiklahdaaDoor
