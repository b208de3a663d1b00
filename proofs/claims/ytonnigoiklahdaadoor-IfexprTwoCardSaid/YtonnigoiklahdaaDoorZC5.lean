/-
  Part 5 of what the last text needs: library, runs, contracts, plain laws. No condition of its own.
-/
import Derived.Test.YtonnigoiklahdaaDoorZC4
import Derived.Test.YtonnigoiklahdaaDoorTie
import Derived.LaidLaws
import Derived.LaidMore
import Derived.LaidHandle
import Derived.MakeChecks
import Derived.Shelf.Vars
import Derived.Handed
import Derived.SevenTiedAt
import Derived.Test.YtonnigoiklahdaaDoorRows
import Derived.Shelf.Small.Strs
import Derived.Shelf.Strings.Search1
import Derived.Shelf.Strings.Search2
import Derived.Shelf.Strings.Search3
import Derived.Shelf.Strings.Prefix
import Derived.Shelf.Strings.Fields
import Derived.Shelf.Bits.Mul64
import Derived.Lib.QuietBelow
import GoSem.Claims
import Derived.RangeFuncNested
import Derived.RangeFuncBound
import Derived.RangeFuncLeaves
import Derived.RangeFuncWrites
import Derived.Shelf.Abstract
import Derived.OwnWalkIn
import Derived.TacticsInMore
import Derived.LoopIn
import Derived.LoopNIn
import Derived.Maps.AppendAt
set_option linter.unusedVariables false
set_option linter.unusedSimpArgs false
set_option linter.unusedSectionVars false
namespace Go.Proofs.YtonnigoiklahdaaDoor
section
open Go.Al Go.Den Go.ChangeShapes Go.WideShapes Go.ChangeAt Go.RowKit
def zE4:List (String×DataW Unit):=[("unicode.White_Space",Rows.laid_unicode_White_Space),("strings.asciiSpace",Rows.laid_strings_asciiSpace),("emend/pptok.signs",Rows.laid_emend_pptok_signs)]
theorem zH2 {P:Program} {W:World} {n:String} {g:Nat} {cs:Array Value} (hg:P.globalNamed n=some g) (h:W.var? P n=some cs):∃ el m,W.heap[g]? = some (.cells cs el m):=by
 unfold World.var? at h
 rw [hg] at h
 simp only [Option.bind_some] at h
 split at h
 · rename_i c el m hc
   injection h with h
   subst h
   exact ⟨el,m,hc⟩
 · cases h
theorem zIK {H:Type} {enc:TypeId×Value->H} {P:Program} {w:World} {base:Nat} {sp:Nat->Bool} {held:Bool} {fuel n:Nat} {t e:TypeId} {k:IntKind} {cs:List Value} {l:List Int} {p:List MemPlace}
 (ht:P.underlying t=some (.array n e)) (he:P.underlying e=some (.int k)) (hc:P.cellsOf e=1) (hct:P.cellsOf t=n) (h:DataW.trod enc P w base sp held fuel t cs=some (.agg (l.map fun z=>.lit (.int k z)),p)):cs=l.map fun z=>.int k z:=by
 obtain ⟨xs,m,rfl,hx,hlen,hn,hel⟩:=DataW.trod_array ht h
 injection hx with hx _
 injection hx with hx
 have hll:l.length=n:=by
  have:=congrArg List.length hx
  simp only [List.length_map] at this
  omega
 refine List.ext_getElem (by rw [hlen,hct,List.length_map,hll]) fun i h1 h2=>?_
 rw [List.getElem_map]
 have hi:i < n:=by rw [hlen,hct] at h1; exact h1
 have h3:=hel i hi
 rw [hc,Nat.mul_one,List.drop_eq_getElem_cons h1,List.take_succ_cons,List.take_zero,List.getElem?_eq_getElem (by omega)] at h3
 obtain ⟨z,e1,e2,_⟩:=DataW.trod_int he h3
 injection e1 with e1 _
 have h4:(xs.map (·.1))[i]'(by rw [List.length_map]; omega)=(l.map fun z=>DataW.lit (.int k z))[i]'(by rw [List.length_map]; omega):=by
  simp only [hx]
 rw [List.getElem_map,List.getElem_map,e2] at h4
 injection h4 with h4
 injection h4 with _ h4
 rw [e1,h4]
theorem zIw {H:Type} {enc:TypeId×Value->H} {P:Program} {w:World} {base:Nat} {sp:Nat->Bool} {held:Bool} {fuel n:Nat} {t e:TypeId} {cs:List Value} {l:List (List UInt8)} {p:List MemPlace}
 (ht:P.underlying t=some (.array n e)) (he:P.underlying e=some .string) (hc:P.cellsOf e=1) (hct:P.cellsOf t=n) (h:DataW.trod enc P w base sp held fuel t cs=some (.agg (l.map fun z=>.lit (.string z)),p)):cs=l.map fun z=>strV z:=by
 obtain ⟨xs,m,rfl,hx,hlen,hn,hel⟩:=DataW.trod_array ht h
 injection hx with hx _
 injection hx with hx
 have hll:l.length=n:=by
  have:=congrArg List.length hx
  simp only [List.length_map] at this
  omega
 refine List.ext_getElem (by rw [hlen,hct,List.length_map,hll]) fun i h1 h2=>?_
 rw [List.getElem_map]
 have hi:i < n:=by rw [hlen,hct] at h1; exact h1
 have h3:=hel i hi
 rw [hc,Nat.mul_one,List.drop_eq_getElem_cons h1,List.take_succ_cons,List.take_zero,List.getElem?_eq_getElem (by omega)] at h3
 obtain ⟨z,e1,e2,_⟩:=DataW.trod_string he h3
 injection e1 with e1 _
 have h4:(xs.map (·.1))[i]'(by rw [List.length_map]; omega)=(l.map fun z=>DataW.lit (.string z))[i]'(by rw [List.length_map]; omega):=by
  simp only [hx]
 rw [List.getElem_map,List.getElem_map] at h4
 rw [e2] at h4
 injection h4 with h4
 injection h4 with h4
 rw [e1,<- h4]
 unfold strV
 cases z; simp
theorem zHh {W:World} {g:Nat} {cs:Array Value} {el:TypeId} {m:Nat×Nat} (h:W.heap[g]? = some (.cells cs el m)):cs.toList.length<=wmOf W g:=by
 unfold wmOf
 rw [h]
 simp
def spI:List Int:=[0,0,0,0,0,0,0,0,0,1,1,1,1,1,0,0,0,0,0,0,0,0,0,0,0,0,0,0,0,0,0,0,1,0,0,0,0,0,0,0,0,0,0,0,0,0,0,0,0,0,0,0,0,0,0,0,0,0,0,0,0,0,0,0,0,0,0,0,0,0,0,0,0,0,0,0,0,0,0,0,0,0,0,0,0,0,0,0,0,0,0,0,0,0,0,0,0,0,0,0,0,0,0,0,0,0,0,0,0,0,0,0,0,0,0,0,0,0,0,0,0,0,0,0,0,0,0,0,0,0,0,0,0,0,0,0,0,0,0,0,0,0,0,0,0,0,0,0,0,0,0,0,0,0,0,0,0,0,0,0,0,0,0,0,0,0,0,0,0,0,0,0,0,0,0,0,0,0,0,0,0,0,0,0,0,0,0,0,0,0,0,0,0,0,0,0,0,0,0,0,0,0,0,0,0,0,0,0,0,0,0,0,0,0,0,0,0,0,0,0,0,0,0,0,0,0,0,0,0,0,0,0,0,0,0,0,0,0,0,0,0,0,0,0,0,0,0,0,0,0,0,0,0,0,0,0]
set_option maxRecDepth 100000 in
theorem zLK:(Rows.laid_strings_asciiSpace:DataW Unit) = .agg (spI.map fun z=>.lit (.int .u8 z)):=by kernel_rfl
set_option maxRecDepth 100000 in
theorem zLU:(spI.map fun z=>Value.int .u8 z)=zBD:=by kernel_rfl
theorem zF0 {W:World} (hsh:W.ShapedOpen Tryd.prog) (h:laidMetH Tryd.prog zE4 W):GlobOk W.heap.size (wmOf W) W:=by
 rw [MakeChecks.laidMetH_plain _ _ _ (by kernel_rfl)] at h
 obtain ⟨ps,hv,_⟩:=h
 obtain ⟨g0,t0,cs0,f0,p0,q0,hg0,ht0,hv0,hd0,hv,_⟩:=hv
 obtain ⟨g1,t1,cs1,f1,p1,q1,hg1,ht1,hv1,hd1,hv,_⟩:=hv
 obtain ⟨g2,t2,cs2,f2,p2,q2,hg2,ht2,hv2,hd2,hv,_⟩:=hv
 obtain rfl:=Option.some.inj ((show Tryd.prog.globalNamed "strings.asciiSpace" = some 2 by kernel_rfl).symm.trans hg1)
 obtain rfl:=Option.some.inj ((show Tryd.prog.globalNamed "emend/pptok.signs" = some 0 by kernel_rfl).symm.trans hg2)
 obtain rfl:=Option.some.inj ((show (Tryd.prog.globals[2]?).map (·.type)=some 114 by kernel_rfl).symm.trans ht1)
 obtain rfl:=Option.some.inj ((show (Tryd.prog.globals[0]?).map (·.type)=some 108 by kernel_rfl).symm.trans ht2)
 obtain ⟨el1,m1,k1⟩:=zH2 hg1 hv1
 obtain ⟨el2,m2,k2⟩:=zH2 hg2 hv2
 have e1:cs1.toList=zBD:=(zIK (l:=spI) (k:=.u8) Tryd.underlying114 Tryd.underlying5 (by kernel_rfl) (by kernel_rfl) (hd1.trans (congrArg (fun d=>some (d,p1)) zLK))).trans zLU
 have e2:cs2.toList=signsL.map strV:=zIw (l:=signsL) Tryd.underlying108 Tryd.underlying9 (by kernel_rfl) (by kernel_rfl) hd2
 have lt:∀ {b:Nat} {o:Obj},W.heap[b]? = some o->b < W.heap.size:=fun h=>(Array.getElem?_eq_some_iff.1 h).1
 have hml:∃ arr el m,W.heap[1]? = some (.cells arr el m)/\∃ z,arr.toList=[Value.int .i64 z]:=by
  obtain ⟨cs,hh,hs,hr⟩:=hsh.1 1 #[.int .i64 0] 3 (of_decide_eq_true (by kernel_rfl)) (by kernel_rfl)
  refine ⟨cs,_,_,hh,?_⟩
  obtain ⟨z,hz⟩:=cell_of_shapedOpen_int (P:=Tryd.prog) (w:=W) (g:=1) (t:=3) (zero:=#[.int .i64 0]) (k:=.i64) hsh (of_decide_eq_true (by kernel_rfl)) (by kernel_rfl) rfl (by kernel_rfl) (by kernel_rfl) Tryd.underlying3
  refine ⟨z,?_⟩
  unfold World.cell? at hz
  simp only [hh] at hz
  have h1:cs.size=1:=hs
  obtain ⟨l⟩:=cs
  match l,h1 with
  | [v],_=>
   simp at hz
   rw [hz]
 refine ⟨fun p hp=>?_,fun p hp=>?_⟩
 · simp only [zKz,List.mem_cons,List.not_mem_nil,or_false] at hp
   rcases hp with rfl
   obtain ⟨arr,el,m,h1,h2⟩:=hml
   exact ⟨lt h1,arr,el,m,h1,h2⟩
 · simp only [zBn,List.mem_cons,List.not_mem_nil,or_false] at hp
   rcases hp with rfl | rfl
   · exact ⟨lt k2,⟨cs2,el2,m2,k2,e2⟩,by rw [<- e2]; exact zHh k2⟩
   · exact ⟨lt k1,⟨cs1,el1,m1,k1,e1⟩,by rw [<- e1]; exact zHh k1⟩
theorem zGL {g:Gh} {w:World} (k:IntKind) (n:Int):RV1 g w (.at (.int k n)) (.int k n):=⟨[.int k n],by simp [RC,one],rfl⟩
theorem zNO (os:Os) (args:Array Value):laidMetH Tryd.prog zE4 ((World.doorLaid Tryd.prog 400 os).forCall (fun _ _=>0) ⟨#[],args,[]⟩).memory:=
 laidMetH_of_parts3 (fuel:=8) (laidMet_of_run' 8 (by kernel_rfl) (by kernel_rfl)) (by kernel_rfl) (by kernel_rfl)
theorem zCY {H:Type} {enc:TypeId×Value->H} {a:Assume} {C:Checked} {os:Os} {f:FuncId} {fn:Func} {s:ChangeSpec} {conds:List PathCond} {apart fresh handsOn again:Bool} {X:World->Array Value->Prop}
 (hX:∀ (w w':World) (args:Array Value),w.heap=w'.heap->X w args->X w' args)
 (own:ownKnob C.prog.godebug=none) (started:os.Started) (noInit:C.prog.inits.idxOf? f=none) (hfn:C.prog.funcs[f]? = some fn)
 (witness:∃ (w:World) (tape:Tape) (i:Input),w.os=os/\(w.forCall tape i).Shaped C.prog/\i.vars=[]/\Input.okWide C.prog (w.forCall tape i) .any w.heap.size f i /\
  ((s.pre enc C.prog fn conds apart (w.forCall tape i).memory i.args/\X (w.forCall tape i).memory i.args)/\sizedMet enc C.prog fn (OpenSpec.ofChange s) apart (w.forCall tape i).memory i.args)/\a.holds C.prog (lone (Frame.enter C.prog f i.args .normal) [] (w.forCall tape i)))
 (contract:∀ (W:World) (base:Nat) (args:Array Value) (ds gs:List (DataW H)) (before:List MemPlace),
  (∀ (j:Nat) t v,fn.params[j]? = some t->args[j]? = some v->Value.okWide C.prog W .any base t v)->DataW.Whole enc C.prog fn.params.toList s.vars apart W args.toList ds gs before ->
  W.ShapedOpen C.prog->X W args->Calls C.prog f args W fun e W'=>∃ v,e = .returned v/\s.post enc C.prog fn apart fresh handsOn again W args v W') :
 ReturnsInHanded a C os f .any (fun w args=>(s.pre enc C.prog fn conds apart w args/\X w args)/\sizedMet enc C.prog fn (OpenSpec.ofChange s) apart w args) (s.post enc C.prog fn apart fresh handsOn again):=by
 refine returnsInHanded_of_calls own started noInit witness ?_
 intro w tape i _ hsh _ hok hpre _
 obtain ⟨_,_,_,fn',hfn',_,_,_,_,hval⟩:=hok
 obtain rfl:fn' = fn:=Option.some.inj (hfn'.symm.trans hfn)
 obtain ⟨⟨⟨ds,gs,before,hw,_⟩,hx⟩,_⟩:=hpre
 refine (contract (w.forCall tape i) w.heap.size i.args ds gs before hval (DataW.Whole.of_heap (w':=w.forCall tape i) (by rfl) hw) hsh (hX _ _ _ (by rfl) hx)).mono ?_
 rintro e W' ⟨v,rfl,hp⟩
 exact ChangeSpec.post_blind hp
end
end Go.Proofs.YtonnigoiklahdaaDoor
namespace Go.Den
section
open Go.Al
theorem zJC {P:Program} {X:Cx} {Q Q':Exit->Env->S->Prop} {c:Code} {E:Env} {s:S} (h:awp P X c Q E s) (hq:∀ ex E' s',Q ex E' s'->∃ E2 s2,Gst X E' s' E2 s2/\Q' ex E2 s2):awp P X c Q' E s:=by
 intro g a w hr
 refine wpIn_mono (h g a w hr) ?_
 rintro ex a' w' ⟨g',e',st',k1,k2,k3⟩
 obtain ⟨E2,s2,hg,hq2⟩:=hq ex e' st' k3
 obtain ⟨g2,r1,r2⟩:=hg g' a' w' k2
 exact ⟨g2,E2,s2,k1.trans r1,r2,hq2⟩
theorem zJW {X:Cx} {E:Env} {s:S} (t bb n cap sz:Nat) (es:List V) {css:List V} {kk:Nat} (ht:E.get t = .at (.slice (some ⟨bb,0,none⟩) n cap))
 (hb:Al.look s.box bb=some (css,kk)) (hn:es.length=n) (hcap:n<=cap) (hes:css.take (n * sz)=zN es) (hlen:n * sz<=css.length) (hsz:zw sz es) (h1:∀ x ∈ es,zG x.flat) (hu:es.map V.untag=es) :
 Gst X E s (E.put t (.lst .no es)) ⟨wipe s.box bb,s.tg,s.nx,s.ob⟩:=by
 intro g a w hr
 have hi:=hr.inv
 obtain ⟨p1,p2,p3,p4,arr,el,us,p5,p6,p7,p8⟩:=hi.box bb css kk hb
 have hlt:bb < w.heap.size:=(Array.getElem?_eq_some_iff.1 p5).1
 have hone:zG css:=by unfold zG; rw [List.all_eq_true]; exact p4
 have hul:=zY g w css us p7
 rw [zh hone] at hul
 have hla:Later g w ⟨fun i=>if i=bb then n * sz else g.wm i,g.tb,g.fr⟩ w:=⟨fun i=>by
  show g.wm i<=if i=bb then n * sz else g.wm i
  split
  · rename_i e1; subst e1; rw [p2]; exact Nat.zero_le _
  · exact Nat.le_refl _,fun _ _ e1=>e1,fun _ _ _=>rfl⟩
 have hs:Step X.B g w ⟨fun i=>if i=bb then n * sz else g.wm i,g.tb,g.fr⟩ w:=⟨hla,.refl _ _,fun i hi'=>⟨rfl,if_neg (fun e=>by subst e; rw [(hi.boxFr hb).1] at hi'; cases hi')⟩,fun i hi'=>if_neg (by omega),rfl⟩
 have hi1:Inv X.B ⟨fun i=>if i=bb then n * sz else g.wm i,g.tb,g.fr⟩ ⟨wipe s.box bb,s.tg,s.nx,s.ob⟩ w:=by
  refine ⟨hi.base,?_,hi.tag,?_,hi.dist,hi.nodup,fun i hi'=>?_,hi.names,hi.ex.step hla (Nat.le_refl _) rfl rfl (fun b' o fp hl j hj=>⟨rfl,if_neg (fun e=>by subst e; exact (hi.boxFr hb).2 b' o fp hl hj)⟩) (fun j hj _=>by rw [yd]; split <;> first | rfl | exact hj) (fun j _ h=>h)⟩
  · intro b' cs' k' hl
    simp only [yd] at hl
    split at hl
    · cases hl
    · rename_i e1
      obtain ⟨r1,r2,r3,r4,arr',el',us',r5,r6,r7,r8⟩:=hi.box b' cs' k' hl
      exact ⟨r1,by show (if b' = bb then _ else g.wm b')=0; rw [if_neg (fun e2=>e1 e2.symm)]; exact r2,r3,r4,arr',el',us',r5,r6,zU hla _ _ r7,r8⟩
  · intro t ht b' cap' n' sz' hb'
    obtain ⟨r1,r2,r3,r4,r5,r6⟩:=hi.own t ht b' cap' n' sz' hb'
    have e1:b'≠bb:=fun e1=>by subst e1; rw [hb] at r5; cases r5
    exact ⟨r1,by show (if b' = bb then _ else g.wm b')=_; rw [if_neg e1]; exact r2,r3,r4,by rw [yd]; split <;> first | rfl | exact r5,r6⟩
  · show (if i=bb then _ else g.wm i)=0
    rw [if_neg (by omega)]
    exact hi.fresh i hi'
 have hds:RCs g.bare w es (us.take (n * sz)):=by
  have h2:=(zg hone p7 (n * sz)).1
  rw [hes] at h2
  have h3:=jR (zCo h1 h2) h1
  rwa [hu] at h3
 have hlst:RC ⟨fun i=>if i=bb then n * sz else g.wm i,g.tb,g.fr⟩ w (.lst .no es) [.slice (some ⟨bb,0,none⟩) n cap]:=by
  simp only [RC]
  refine .inr ⟨bb,0,cap,us.take (n * sz),by rw [hn],by omega,trivial,zU hla.bare _ _ hds,⟨sz,hsz,fun _ _ _ e1=>by cases e1⟩,?_⟩
  intro i u hiu
  rw [List.getElem?_take] at hiu
  split at hiu
  · rename_i hlt2
    refine ⟨?_,?_⟩
    · rw [Nat.zero_add,cell_of_row w bb i arr el (0,0) p5]
      rw [<- p8,List.getElem?_take] at hiu
      split at hiu
      · simpa using hiu
      · cases hiu
    · show 0+i < if bb=bb then n * sz else g.wm bb
      rw [if_pos rfl]; omega
  · cases hiu
 refine ⟨_,hs,hi1,fun j=>?_,hr.size,hr.df,hr.gl.below (.refl _ _) hla.wm⟩
 rw [Env.get_put]
 split
 · rename_i e1
   subst e1
   have h0:=hr.env t
   rw [ht] at h0
   rw [zR h0]
   exact yg hlst
 · exact (hr.env j).later hla
section
variable {U:TyU} (C:Cod U) (Tb:TypeId->TD U) {R:Type}
def frzR {R:Type}:List ResultVar->En U->St U->(En U->St U->Option R)->Option R
 | [],e,st,K=>K e st
 | v::r,e,st,K=>match v with
  | .tmp t=>(match eget e t with
   | .sl l n=>(match lk st.bx l with
    | some (.ar i xs)=>bif Nat.ble n xs.length then frzR r ((t,.lst (.b false) i (zQ n xs))::e) ⟨(l,none)::st.bx,st.tg,st.nl,st.nx,st.ob⟩ K else none
    | _=>none)
   | _=>frzR r e st K)
  | .cell _ _=>frzR r e st K
variable {C Tb} {P:Program} {r:R}
theorem zDt (hC:CodOk C) {X:Cx} {N:NM}:∀ (rs:List ResultVar) {e:En U} {E:Env} {st:St U} {s:S} {K:En U->St U->Option R},SSim C N st s->ESim C N st e E->frzR rs e st K=some r ->
 ∃ e' E' st' s',K e' st' = some r/\Gst X E s E' s'/\SSim C N st' s'/\ESim C N st' e' E'
 | [],e,E,st,s,K,hs,he,h=>⟨e,E,st,s,h,.refl _ _ _,hs,he⟩
 | v::rs,e,E,st,s,K,hs,he,h=>by
  have go:frzR rs e st K=some r->∃ e' E' st' s',K e' st' = some r/\Gst X E s E' s'/\SSim C N st' s'/\ESim C N st' e' E':=fun hh=>zDt hC rs hs he hh
  cases v with
  | cell p t=>simp only [frzR] at h; exact go h
  | tmp t=>
   simp only [frzR] at h
   split at h
   · rename_i l n ht
     split at h
     · rename_i i xs hl
       obtain ⟨h1,h2⟩:=zF h
       have h1:n<=xs.length:=by simpa [Nat.ble_eq] using h1
       have hw:=hs.wf l _ hl
       have hE:=((he t).1).get (by rw [ht]; simp)
       rw [ht] at hE
       have hlen:=yw hC i xs
       have htk:(zQ n xs).length=n:=by unfold zQ; rw [List.length_take]; omega
       have hg:Gst X E s (E.put t (.lst .no ((zQ n xs).map (C.encV i)))) ⟨wipe s.box (N.bl l),s.tg,s.nx,s.ob⟩:=by
        refine zJW t (N.bl l) n (N.cp l) (C.cells i) _ hE (hs.box l _ hl) (by rw [List.length_map,htk]) (by have:=hw.2; omega) (qK hC i xs n) ?_ (j8 hC i _) ?_ ?_
        · rw [hlen]; exact Nat.mul_le_mul_right _ h1
        · intro x hx
          obtain ⟨y,_,rfl⟩:=List.mem_map.1 hx
          exact hC.ones i y
        · rw [List.map_map]
          exact List.map_congr_left fun y _=>hC.untag i y
       have hs2:=hs.drop l hl
       have hb:bdd st.nl st.nx (T.lst (.b false) i (zQ n xs):T U)=true:=rfl
       have he2:ESim C N ⟨(l,none)::st.bx,st.tg,st.nl,st.nx,st.ob⟩ ((t,.lst (.b false) i (zQ n xs))::e) (E.put t (.lst .no ((zQ n xs).map (C.encV i)))):=by
        have:=ESim.put (st:=⟨(l,none)::st.bx,st.tg,st.nl,st.nx,st.ob⟩) (e:=e) (E:=E) (v:=.lst (.b false) i (zQ n xs)) (v':=.lst .no ((zQ n xs).map (C.encV i))) he (.inr rfl) hb (some t)
        exact this
       obtain ⟨e',E',st',s',q1,q2,q3,q4⟩:=zDt hC rs hs2 he2 h2
       exact ⟨e',E',st',s',q1,hg.trans q2,q3,q4⟩
     · cases h
   · exact go h
def yY (C:Cod U) (Tb:TypeId->TD U) (fu d:Nat) (inl:Nat->Option (FD U)) (orc:Nat->Option (Con U)) (orr:Nat->Option (CR U)) (orp:Nat->Option (CP U)) (fd:FD U) (az rs:List (AK U)) (nf:Nat->Bool) (x:zJ az):Option (zJ rs):=
 drun C Tb fu (zBs C Tb fu inl orc orr orp none d) fd.fi fd.body (zBz 0 (yT C az nf 0 x)) ⟨[],[],0,0,[]⟩ fun ex e' st'=>match ex with
  | .normal=>frzR fd.rs e' st' fun e' st'=>dres C Tb e' st' fd.rs fun vs=>zAf C rs vs some
  | .ret=>frzR fd.rs e' st' fun e' st'=>dres C Tb e' st' fd.rs fun vs=>zAf C rs vs some
  | _=>none
theorem zr (hT:TbOk C P Tb) (hC:CodOk C) (hm:P.follows .mixedOrders=true) {syn:List PanicEntry} {pf rf:FuncId->Bool} {fu d:Nat} {inl:Nat->Option (FD U)} {orc:Nat->Option (Con U)} {orr:Nat->Option (CR U)} {orp:Nat->Option (CP U)} (hpf:∀ f,pf f=(orc f).isSome) (hrf:∀ f,rf f=(orr f).isSome)
 (hin:∀ f fd,inl f=some fd->FDOk P pf rf f fd) (hor:∀ f c,orc f=some c->OrcOk C P f c)
 (hrr:∀ f c,orr f=some c->zO P f=true/\CROk C P f c) (hpp:∀ f c,orp f=some c->zO P f=true/\CPOk C P syn f c) {f:Nat} {fd:FD U} (hfd:FDOk P pf rf f fd) {c:Con U} (hlen:c.as.length<=fd.n)
 (hrs:∀ a ∈ c.rs,∀ i,a≠.ls i) (h:∀ nf x,yY C Tb fu d inl orc orr orp fd c.as c.rs nf x=c.fn x):ConOk C P f c:=by
 intro x y hx vs hvs
 obtain ⟨fn,q1,q2,q3,q4⟩:=hfd.fn
 have hnf:∃ nf,vs=(yT C c.as nf 0 x).map (trT C ⟨id,id,id,id⟩):=by
  have key:∀ (az:List (AK U)) (x:zJ az) (vs:List V) (j:Nat),zAo C az x vs->∃ nf:Nat->Bool,vs=(yT C az nf j x).map (trT C ⟨id,id,id,id⟩):=by
   intro az
   induction az with
   | nil=>intro x vs j h; exact ⟨fun _=>false,h⟩
   | cons a r ih=>
    intro x vs j h
    obtain ⟨v,vs',rfl,h1,h2⟩:=h
    obtain ⟨nf,h3⟩:=ih x.2 vs' (j+1) h2
    have h4:∃ n,v=trT C ⟨id,id,id,id⟩ (argT C a n x.1):=by
     cases a with
     | ls i=>obtain ⟨n,hn⟩:=h1; exact ⟨n,by rw [hn]; cases n <;> rfl⟩
     | _=>exact ⟨false,h1⟩
    obtain ⟨n,h4⟩:=h4
    have hcong:∀ (az:List (AK U)) (x:zJ az) (nf nf':Nat->Bool) (j:Nat),(∀ m,j<=m->nf m=nf' m)->yT C az nf j x=yT C az nf' j x:=by
     intro az
     induction az with
     | nil=>intros; rfl
     | cons a r ih=>
      intro x nf nf' j hh
      simp only [yT,hh j (Nat.le_refl _),ih x.2 nf nf' (j+1) fun m hm=>hh m (by omega)]
    refine ⟨fun m=>if m=j then n else nf m,?_⟩
    simp only [yT,List.map_cons,if_true]
    rw [h3,h4,hcong r x.2 (fun m=>if m=j then n else nf m) nf (j+1) fun m hm=>if_neg (by omega)]
  exact key c.as x vs 0 hvs
 obtain ⟨nf,rfl⟩:=hnf
 have hlenA:∀ (az:List (AK U)) (nf:Nat->Bool) (j:Nat) (x:zJ az),(yT C az nf j x).length=az.length:=by
  intro az
  induction az with
  | nil=>intros; rfl
  | cons a r ih=>intro nf j x; simp [yT,ih]
 have hrun:=(h nf x).trans hx
 unfold yY at hrun
 refine zJn q1 q2 q3 q4 (by rw [List.length_map,hlenA]; exact hlen) fun B=>?_
 have resV:∀ (rs:List (AK U)),(∀ a ∈ rs,∀ i,a≠.ls i)->∀ (y:zJ rs) (us:List V) (j:Nat),zAo C rs y us->us=(yT C rs (fun _=>false) j y).map (trT C ⟨id,id,id,id⟩):=by
  intro rs
  induction rs with
  | nil=>intro _ y us j hu; exact hu
  | cons a r ih=>
   intro hr y us j hu
   obtain ⟨v,vs',rfl,h1,h2⟩:=hu
   simp only [yT,List.map_cons]
   rw [<- ih (fun a ha=>hr a (by simp [ha])) y.2 vs' (j+1) h2]
   congr 1
   cases a with
   | ls i=>exact absurd rfl (hr (.ls i) (by simp) i)
   | _=>exact h1
 refine zJC (Q:=fun ex E' s'=>∃ E2 s2,Gst ⟨B,⟨fd.n,[]⟩,none,[]⟩ E' s' E2 s2/\retE P fd.rs (fun oc _=>oc = .ret (finV ((yT C c.rs (fun _=>false) 0 y).map (trT C ⟨id,id,id,id⟩)))) ex E2 s2) ?_ (fun _ _ _ hq=>hq)
 refine xc (X:=⟨B,⟨fd.n,[]⟩,none,[]⟩) (PP:=fun e=>e=syn/\(none:Option (zJ c.rs))=some y) hT hC hm (zBr hT hC hm hpf hrf hin hor hrr hpp d fd.fi.wr fd.fi.own) fd.body (SSim.empty ⟨id,id,id,id⟩ 0 0 _) (jx (st:=⟨[],[],0,0,[]⟩) _ 0 (zAm hC c.as nf 0 x)) hrun hfd.ok hfd.hok (fun e s' hq=>by cases hq.2) ?_
 intro ex N' e' st' E' s' p1 p2 p3 p4 _
 have fin:(frzR fd.rs e' st' fun e' st'=>dres C Tb e' st' fd.rs fun vs=>zAf C c.rs vs some)=some y->∃ E2 s2,Gst ⟨B,⟨fd.n,[]⟩,none,[]⟩ E' s' E2 s2/\yE P fd.rs E2 s2 fun xs=>Outc.ret (finV xs) = .ret (finV ((yT C c.rs (fun _=>false) 0 y).map (trT C ⟨id,id,id,id⟩))):=fun hh=>by
  obtain ⟨e2,E2,st2,s2,u1,u2,u3,u4⟩:=zDt (X:=⟨B,⟨fd.n,[]⟩,none,[]⟩) hC fd.rs p3 p4 hh
  refine ⟨E2,s2,u2,zBM hT hC u3 u4 fd.rs u1 fun vs hv=>?_⟩
  obtain ⟨y',h1,h2⟩:=zCS hC c.rs hv
  injection h1 with h1
  subst h1
  rw [resV c.rs hrs y' _ 0 (h2 N')]
 cases ex <;> simp only at p1 <;> first | exact fin p1 | cases p1
def zKy (C:Cod U) (Tb:TypeId->TD U) (fu d:Nat) (inl:Nat->Option (FD U)) (orc:Nat->Option (Con U)) (orr:Nat->Option (CR U)) (orp:Nat->Option (CP U)) (fd:FD U) (io oo az rs:List (SK U)) (x:zB io) (a:zB az):Option (Option (zB oo×zB rs)):=
 xu C io x ⟨[],[],0,0,[]⟩ fun vs st=>feS st fun st=>xu C az a st fun ws st=>feS st fun st=>feA (vs++ws) fun ts=>
 drun C Tb fu (zBs C Tb fu inl orc orr orp (some none) d) fd.fi fd.body (zBz 0 ts) st fun ex e' st'=>match ex with
  | .normal=>frzR fd.rs e' st' fun e' st'=>dres C Tb e' st' fd.rs fun us=>kY C rs us fun z=>yZ C oo vs st' fun y _=>some (some (y,z))
  | .ret=>frzR fd.rs e' st' fun e' st'=>dres C Tb e' st' fd.rs fun us=>kY C rs us fun z=>yZ C oo vs st' fun y _=>some (some (y,z))
  | _=>none
theorem zNK (hT:TbOk C P Tb) (hC:CodOk C) (hm:P.follows .mixedOrders=true) {syn:List PanicEntry} {pf rf:FuncId->Bool} {fu d:Nat} {inl:Nat->Option (FD U)} {orc:Nat->Option (Con U)} {orr:Nat->Option (CR U)} {orp:Nat->Option (CP U)}
 (hpf:∀ f,pf f=(orc f).isSome) (hrf:∀ f,rf f=(orr f).isSome) (hin:∀ f fd,inl f=some fd->FDOk P pf rf f fd) (hor:∀ f c,orc f=some c->OrcOk C P f c)
 (hrr:∀ f c,orr f=some c->zO P f=true/\CROk C P f c) (hpp:∀ f c,orp f=some c->zO P f=true/\CPOk C P syn f c) {f:Nat} {fd:FD U} (hfd:FDOk P pf rf f fd) {io oo az rs:List (SK U)} (hlen:io.length+az.length<=fd.n)
 {fn:zB io->zB az->Option (Option (zB oo×zB rs))} (h:∀ x a,zKy C Tb fu d inl orc orr orp fd io oo az rs x a=fn x a):CPOk C P syn f ⟨io,oo,az,rs,fnP fn⟩:=by
 intro x a R pan K r hr
 unfold fnP at hr
 simp only at hr
 cases hx:fn x a with
 | none=>rw [hx] at hr; cases hr
 | some oc=>
  rw [hx] at hr
  simp only [Option.bind_some] at hr
  refine ⟨oc,by cases oc <;> exact hr,fun s vx va r1 r2 hv1 hv2 hn=>?_⟩
  obtain ⟨fn',q1,q2,q3,q4⟩:=hfd.fn
  have hrun:=(h x a).trans hx
  unfold zKy at hrun
  have hv1':=xL io x hv1 ((zAg s (r1++r2)).mono fun y hy=>List.mem_append_left _ hy)
  have hv2':=xL az a hv2 ((zAg s (r1++r2)).mono fun y hy=>List.mem_append_right _ hy)
  generalize subS s (r1++r2)=s0 at hv1' hv2' ⊢
  obtain ⟨hn1,hn2,hn3⟩:=List.nodup_append.1 hn
  have hno:∀ y,¬ Has ⟨id,id,id,id⟩ (⟨[],[],0,0,[]⟩:St U) y:=fun y hy=>by
   cases y with
   | inl n=>obtain ⟨t,ht,_⟩:=hy; cases ht
   | inr b=>obtain ⟨l,b,hl,_⟩:=hy; simp [lk] at hl
   | ob b=>obtain ⟨l,b,hl,_⟩:=hy; simp [lko] at hl
  obtain ⟨N1,vs1,st1,k1,k2,k3,k4,k5,k6⟩:=xR hC io x (SSim.empty ⟨id,id,id,id⟩ 0 0 s0) hv1' hn1 (fun y hy hh=>hno y hh) hrun
  rw [yK] at k1
  obtain ⟨N2,vs2,st2,p1,p2,p3,p4,p5,p6⟩:=xR hC az a k3 hv2' hn2 (fun y hy hh=>by
   rcases k6 y hh with q | q
   · exact hno y q
   · exact hn3 y q y hy rfl) k1
  rw [yK,kA] at p1
  have e1:vs1.map (trT C N2)=vx:=by rw [yA p2.ext k5,k4]
  have hbd:bdds st2.nl st2.nx (vs1++vs2)=true:=zA7 (zy p2.nl p2.nx _ k5) p5
  have hargs:vx++va=(vs1++vs2).map (trT C N2):=by rw [List.map_append,e1,p4]
  have hl1:vx.length=io.length:=jC io x hv1
  have hl2:va.length=az.length:=jC az a hv2
  rw [hargs]
  refine zB5 q1 q2 q3 q4 (by rw [<- hargs,List.length_append,hl1,hl2]; exact hlen) fun B=>?_
  refine zJC (Q:=fun ex E' s'=>∃ E2 s2,Gst ⟨B,⟨fd.n,[]⟩,none,[]⟩ E' s' E2 s2/\retE P fd.rs (zAd C syn oo rs vx oc) ex E2 s2) ?_ (fun _ _ _ hq=>hq)
  refine xc (X:=⟨B,⟨fd.n,[]⟩,none,[]⟩) (PP:=fun e=>e=syn/\(some none:Option (Option (zB oo×zB rs)))=some oc) hT hC hm (zBr hT hC hm hpf hrf hin hor hrr hpp d fd.fi.wr fd.fi.own) fd.body p3 (jx (vs1++vs2) 0 hbd) p1 hfd.ok hfd.hok (fun e s' hq=>by
   obtain ⟨h1,h2⟩:=hq
   injection h2 with h2
   subst h2
   exact ⟨_,_,.refl _ _ _,h1⟩) ?_
  intro ex N' e' st' E' s' u1 u2 u3 u4 _
  have fin:(frzR fd.rs e' st' fun e' st'=>dres C Tb e' st' fd.rs fun us=>kY C rs us fun z=>yZ C oo vs1 st' fun y _=>some (some (y,z)))=some oc->∃ E2 s2,Gst ⟨B,⟨fd.n,[]⟩,none,[]⟩ E' s' E2 s2/\yE P fd.rs E2 s2 fun xs=>zAd C syn oo rs vx oc (.ret (finV xs)) s2:=fun hh=>by
   obtain ⟨e2',E2,st2',s2,w1,w2,w3,w4⟩:=zDt (X:=⟨B,⟨fd.n,[]⟩,none,[]⟩) hC fd.rs u3 u4 hh
   refine ⟨E2,s2,w2,zBM hT hC w3 w4 fd.rs w1 fun us hv=>?_⟩
   obtain ⟨z,h1,h2⟩:=zD6 hC rs hv
   obtain ⟨y,st3,q,h3,_,_,_,h4,h5,_,_⟩:=xP hC oo (vs:=vs1) (vs':=vs1.map (trT C N')) w3 (by simp) (fun j x v a b=>by
    rw [List.getElem?_map,a] at b
    injection b with b
    exact .inr b.symm) h1
   injection h3 with h3
   subst h3
   have e2:vs1.map (trT C N')=vx:=by rw [yA u2.ext (zy p2.nl p2.nx _ k5),e1]
   rw [e2] at h4
   exact ⟨_,q,[],h4,h2 N' s2,by simpa using h5,rfl⟩
  cases ex <;> simp only at u1 <;> first | exact fin u1 | cases u1
end
end
end Go.Den
namespace Go.Proofs.YtonnigoiklahdaaDoor
section
open Go.Al
inductive VT where
 | num (n:Int)
 | un (s:List UInt8) (x:VT)
 | bin (s:List UInt8) (x y:VT)
 | cho (c x y:VT)
instance:Inhabited VT:=⟨.num 0⟩
def VT.enc:VT->Value
 | .num n=>.iface 105 (.int .i64 n)
 | .un s x=>.iface 110 (.agg #[.string ⟨s.toArray⟩,x.enc])
 | .bin s x y=>.iface 104 (.agg #[.string ⟨s.toArray⟩,x.enc,y.enc])
 | .cho c x y=>.iface 88 (.agg #[c.enc,x.enc,y.enc])
def vi (n:Int):V:=.at (.int .i64 n)
def vs (s:List UInt8):V:=.at (.string ⟨s.toArray⟩)
def sl (es:List V):V:=.lst (zu es) es
inductive Nd where
 | mk (sign:List UInt8) (n:Int) (kids:List Nd)
mutual
def zDn:Nd->V
 | .mk k a l=>.agg [vs k,vi a,sl (zE3 l)]
def zE3:List Nd->List V
 | []=>[]
 | x::r=>zDn x::zE3 r
end
theorem zFL:∀ l:List Nd,zE3 l=l.map zDn
 | []=>rfl
 | x::r=>by simp [zE3,zFL r]
theorem zIZ (k:List UInt8) (a:Int) (l:List Nd):zDn (.mk k a l) = .agg [vs k,vi a,sl (l.map zDn)]:=by rw [zDn,zFL]
end
section
open Go.Al
theorem zKc:hasT Tryd.prog 3=true:=by kernel_rfl
theorem zKL:yU Tryd.prog 3=false:=by kernel_rfl
theorem zIV:Tryd.prog.cellsOf 3=1:=by kernel_rfl
theorem zHw:Tryd.prog.bytesOf 3=8:=by kernel_rfl
theorem zLH:zV Tryd.prog 3=some [.at (.int .i64 0)]:=by kernel_rfl
theorem zK3:hasT Tryd.prog 4=true:=by kernel_rfl
theorem zKR:yU Tryd.prog 4=false:=by kernel_rfl
theorem zJG:Tryd.prog.cellsOf 4=1:=by kernel_rfl
theorem zIb:Tryd.prog.bytesOf 4=1:=by kernel_rfl
theorem zIs:kp Tryd.prog 4=true:=by kernel_rfl
theorem zKj:zV Tryd.prog 4=some [.at (.bool false)]:=by kernel_rfl
theorem zKb:hasT Tryd.prog 5=true:=by kernel_rfl
theorem zLP:yU Tryd.prog 5=false:=by kernel_rfl
theorem zIX:Tryd.prog.cellsOf 5=1:=by kernel_rfl
theorem zJF:Tryd.prog.bytesOf 5=1:=by kernel_rfl
theorem zKN:zV Tryd.prog 5=some [.at (.int .u8 0)]:=by kernel_rfl
theorem zKP:hasT Tryd.prog 9=true:=by kernel_rfl
theorem zKw:yU Tryd.prog 9=false:=by kernel_rfl
theorem zIJ:Tryd.prog.cellsOf 9=1:=by kernel_rfl
theorem zHy:Tryd.prog.bytesOf 9=16:=by kernel_rfl
theorem zKu:xm Tryd.prog 9=true:=by kernel_rfl
theorem zKm:zV Tryd.prog 9=some [.at (.string .empty)]:=by kernel_rfl
theorem zJQ:hasT Tryd.prog 54=true:=by kernel_rfl
theorem zHr:yU Tryd.prog 54=false:=by kernel_rfl
theorem zGQ:Tryd.prog.cellsOf 54=1:=by kernel_rfl
theorem zGI:Tryd.prog.bytesOf 54=8:=by kernel_rfl
theorem zHn:zV Tryd.prog 54=some [.at (.pointer none)]:=by kernel_rfl
theorem zIU:hasT Tryd.prog 57=true:=by kernel_rfl
theorem zJI:yU Tryd.prog 57=true:=by kernel_rfl
theorem zGJ:Tryd.prog.cellsOf 57=2:=by kernel_rfl
theorem zF9:Tryd.prog.bytesOf 57=24:=by kernel_rfl
theorem zCe:jy Tryd.prog 57=true:=by kernel_rfl
theorem zFq:fieldAt Tryd.prog 57 0=some (0,9):=by kernel_rfl
theorem zFx:fieldAt Tryd.prog 57 1=some (1,3):=by kernel_rfl
theorem zIN:zV Tryd.prog 57=some [.at (.string .empty),.at (.int .i64 0)]:=by kernel_rfl
theorem code8:zO Tryd.prog 8=true:=by kernel_rfl
theorem code9:zO Tryd.prog 9=true:=by kernel_rfl
theorem code10:zO Tryd.prog 10=true:=by kernel_rfl
theorem code13:zO Tryd.prog 13=true:=by kernel_rfl
theorem code15:zO Tryd.prog 15=true:=by kernel_rfl
theorem code17:zO Tryd.prog 17=true:=by kernel_rfl
theorem zMK:zO Tryd.prog 18=true:=by kernel_rfl
theorem code19:zO Tryd.prog 19=true:=by kernel_rfl
theorem code23:zO Tryd.prog 23=true:=by kernel_rfl
theorem zMi:zO Tryd.prog 26=true:=by kernel_rfl
theorem code27:zO Tryd.prog 27=true:=by kernel_rfl
theorem code28:zO Tryd.prog 28=true:=by kernel_rfl
theorem code29:zO Tryd.prog 29=true:=by kernel_rfl
theorem code30:zO Tryd.prog 30=true:=by kernel_rfl
theorem code39:zO Tryd.prog 39=true:=by kernel_rfl
theorem code40:zO Tryd.prog 40=true:=by kernel_rfl
theorem code41:zO Tryd.prog 41=true:=by kernel_rfl
theorem zI4:zO Tryd.prog 44=true:=by kernel_rfl
theorem code45:zO Tryd.prog 45=true:=by kernel_rfl
theorem zMM:zO Tryd.prog 51=true:=by kernel_rfl
theorem zDC:zO Tryd.prog 52=true:=by kernel_rfl
theorem zFN:zO Tryd.prog 53=true:=by kernel_rfl
theorem zLj:zO Tryd.prog 54=true:=by kernel_rfl
theorem zFO:zO Tryd.prog 56=true:=by kernel_rfl
theorem zID:zO Tryd.prog 57=true:=by kernel_rfl
theorem code58:zO Tryd.prog 58=true:=by kernel_rfl
theorem code59:zO Tryd.prog 59=true:=by kernel_rfl
theorem code60:zO Tryd.prog 60=true:=by kernel_rfl
theorem code61:zO Tryd.prog 61=true:=by kernel_rfl
theorem code62:zO Tryd.prog 62=true:=by kernel_rfl
theorem zLn:zO Tryd.prog 73=true:=by kernel_rfl
theorem code74:zO Tryd.prog 74=true:=by kernel_rfl
theorem code82:zO Tryd.prog 82=true:=by kernel_rfl
theorem code83:zO Tryd.prog 83=true:=by kernel_rfl
theorem zOP:zO Tryd.prog 109=true:=by kernel_rfl
theorem zOe:zO Tryd.prog 110=true:=by kernel_rfl
theorem zOr:zO Tryd.prog 111=true:=by kernel_rfl
theorem zOa:zO Tryd.prog 113=true:=by kernel_rfl
theorem zOT:zO Tryd.prog 114=true:=by kernel_rfl
theorem zO2:zO Tryd.prog 115=true:=by kernel_rfl
def ks56:Nat->List Nat
 | 0=>[0,1]
 | 1=>[0,1,16]
 | 2=>[4]
 | 3=>[4]
 | _=>[]
theorem mixed:Tryd.prog.follows .mixedOrders=true:=by kernel_rfl
end
section
open Go.Al Go.Den
def Nd.sign:Nd->List UInt8
 | .mk k _ _=>k
def Nd.num:Nd->Int
 | .mk _ a _=>a
def Nd.kids:Nd->List Nd
 | .mk _ _ l=>l
structure TokT where
 kind:Int
 text:List UInt8
 file:Int
 ffrom:Int
 fto:Int
 blank:Bool
structure CharT where
 b:Int
 fat:Int
structure UnT where
 sign:List UInt8
 x:VT
structure BinT where
 sign:List UInt8
 x:VT
 y:VT
structure ChoT where
 c:VT
 x:VT
 y:VT
inductive TI where
 | int
 | bool
 | u8
 | str
 | tok
 | char
 | val
 | un
 | bin
 | cho
 | node
def TI.no:TI->Nat
 | .int=>0
 | .bool=>1
 | .u8=>2
 | .str=>3
 | .tok=>4
 | .char=>5
 | .val=>6
 | .un=>7
 | .bin=>8
 | .cho=>9
 | .node=>10
theorem TI.no_inj:∀ a b:TI,a.no=b.no->a=b:=by intro a b h; cases a <;> cases b <;> first | rfl | (simp [TI.no] at h)
instance:DecidableEq TI:=fun a b=>if h:a.no=b.no then isTrue (TI.no_inj a b h) else isFalse (fun e=>h (by rw [e]))
def denI:TI->Type
 | .int=>Int
 | .bool=>Bool
 | .u8=>Int
 | .str=>(List UInt8)
 | .tok=>TokT
 | .char=>CharT
 | .val=>VT
 | .un=>UnT
 | .bin=>BinT
 | .cho=>ChoT
 | .node=>Nd
abbrev UU:TyU:={ I:=TI,den:=denI }
def zBQ {R:Type} (v:T UU) (K:TokT->Option R):Option R:=
 match v with
 | .agg fs=>(match fs with
  | [v0,v1,v2,v3,v4,v5]=>pInt .i64 v0 fun x0=>pStr v1 fun x1=>pInt .i64 v2 fun x2=>pInt .i64 v3 fun x3=>pInt .i64 v4 fun x4=>zHU v5 fun x5=>K (TokT.mk x0 x1 x2 x3 x4 x5)
  | _=>none)
 | _=>none
def tokD:TokT:=TokT.mk 0 [] 0 0 0 false
def zAK {R:Type} (v:T UU) (K:CharT->Option R):Option R:=
 match v with
 | .agg fs=>(match fs with
  | [v0,v1]=>pInt .u8 v0 fun x0=>pInt .i64 v1 fun x1=>K (CharT.mk x0 x1)
  | _=>none)
 | _=>none
def yX:CharT:=CharT.mk 0 0
def qF {R:Type} (v:T UU) (K:VT->Option R):Option R:=
 match v with
 | .cd i x=>(match i,x with | .val,x=>K x | _,_=>none)
 | _=>none
def zAE {R:Type} (v:T UU) (K:UnT->Option R):Option R:=
 match v with
 | .agg fs=>(match fs with
  | [v0,v1]=>pStr v0 fun x0=>qF v1 fun x1=>K (UnT.mk x0 x1)
  | _=>none)
 | _=>none
def unD:UnT:=UnT.mk [] default
def jX {R:Type} (v:T UU) (K:BinT->Option R):Option R:=
 match v with
 | .agg fs=>(match fs with
  | [v0,v1,v2]=>pStr v0 fun x0=>qF v1 fun x1=>qF v2 fun x2=>K (BinT.mk x0 x1 x2)
  | _=>none)
 | _=>none
def binD:BinT:=BinT.mk [] default default
def jZ {R:Type} (v:T UU) (K:ChoT->Option R):Option R:=
 match v with
 | .agg fs=>(match fs with
  | [v0,v1,v2]=>qF v0 fun x0=>qF v1 fun x1=>qF v2 fun x2=>K (ChoT.mk x0 x1 x2)
  | _=>none)
 | _=>none
def choD:ChoT:=ChoT.mk default default default
def zEE {R:Type} (v:T UU) (K:Nd->Option R):Option R:=
 match v with
 | .agg fs=>(match fs with
  | [v0,v1,v2]=>pStr v0 fun x0=>pInt .i64 v1 fun x1=>pDl (U:=UU) TI.node v2 fun x2=>K (Nd.mk x0 x1 x2)
  | _=>none)
 | _=>none
def nodeD:Nd:=Nd.mk [] 0 []
def eV_int (x:Int):V:=.at (.int .i64 x)
def zOR (x:Bool):V:=.at (.bool x)
def eV_u8 (x:Int):V:=.at (.int .u8 x)
def eV_str (x:(List UInt8)):V:=.at (.string ⟨List.toArray x⟩)
def jB (x:TokT):V:=.agg [.at (.int .i64 (TokT.kind x)),.at (.string ⟨List.toArray (TokT.text x)⟩),.at (.int .i64 (TokT.file x)),.at (.int .i64 (TokT.ffrom x)),.at (.int .i64 (TokT.fto x)),.at (.bool (TokT.blank x))]
def zx (x:CharT):V:=.agg [.at (.int .u8 (CharT.b x)),.at (.int .i64 (CharT.fat x))]
def eV_val (x:VT):V:=.at (VT.enc x)
def kP (x:UnT):V:=.agg [.at (.string ⟨List.toArray (UnT.sign x)⟩),.at (VT.enc (UnT.x x))]
def jD (x:BinT):V:=.agg [.at (.string ⟨List.toArray (BinT.sign x)⟩),.at (VT.enc (BinT.x x)),.at (VT.enc (BinT.y x))]
def qt (x:ChoT):V:=.agg [.at (VT.enc (ChoT.c x)),.at (VT.enc (ChoT.x x)),.at (VT.enc (ChoT.y x))]
def qn (x:Nd):V:=zDn x
def zK1:(i:TI)->denI i->V
 | .int,x=>eV_int x
 | .bool,x=>zOR x
 | .u8,x=>eV_u8 x
 | .str,x=>eV_str x
 | .tok,x=>jB x
 | .char,x=>zx x
 | .val,x=>eV_val x
 | .un,x=>kP x
 | .bin,x=>jD x
 | .cho,x=>qt x
 | .node,x=>qn x
def encI:(i:TI)->denI i->T UU
 | .int,x=>.int .i64 x
 | .bool,x=>.bool x
 | .u8,x=>.int .u8 x
 | .str,x=>.str x
 | .tok,x=>.agg [(.int .i64 (TokT.kind x)),(.str (TokT.text x)),(.int .i64 (TokT.file x)),(.int .i64 (TokT.ffrom x)),(.int .i64 (TokT.fto x)),(.bool (TokT.blank x))]
 | .char,x=>.agg [(.int .u8 (CharT.b x)),(.int .i64 (CharT.fat x))]
 | .val,x=>.cd TI.val x
 | .un,x=>.agg [(.str (UnT.sign x)),(.cd TI.val (UnT.x x))]
 | .bin,x=>.agg [(.str (BinT.sign x)),(.cd TI.val (BinT.x x)),(.cd TI.val (BinT.y x))]
 | .cho,x=>.agg [(.cd TI.val (ChoT.c x)),(.cd TI.val (ChoT.x x)),(.cd TI.val (ChoT.y x))]
 | .node,x=>.agg [(.str (Nd.sign x)),(.int .i64 (Nd.num x)),(.lst .dl TI.node (Nd.kids x))]
def decI:(i:TI)->{R:Type}->T UU->(denI i->Option R)->Option R
 | .int,_,v,K=>pInt .i64 v K
 | .bool,_,v,K=>zHU v K
 | .u8,_,v,K=>pInt .u8 v K
 | .str,_,v,K=>pStr v K
 | .tok,_,v,K=>zBQ v K
 | .char,_,v,K=>zAK v K
 | .val,_,v,K=>qF v K
 | .un,_,v,K=>zAE v K
 | .bin,_,v,K=>jX v K
 | .cho,_,v,K=>jZ v K
 | .node,_,v,K=>zEE v K
def dfltI:(i:TI)->denI i
 | .int=>(0:Int)
 | .bool=>false
 | .u8=>(0:Int)
 | .str=>([]:List UInt8)
 | .tok=>tokD
 | .char=>yX
 | .val=>(.num 0:VT)
 | .un=>unD
 | .bin=>binD
 | .cho=>choD
 | .node=>nodeD
def cellsI:TI->Nat
 | .int=>1
 | .bool=>1
 | .u8=>1
 | .str=>1
 | .tok=>6
 | .char=>2
 | .val=>1
 | .un=>2
 | .bin=>3
 | .cho=>3
 | .node=>3
def aggI:TI->Bool
 | .int=>false
 | .bool=>false
 | .u8=>false
 | .str=>false
 | .tok=>true
 | .char=>true
 | .val=>false
 | .un=>true
 | .bin=>true
 | .cho=>true
 | .node=>true
def plainI:TI->Bool
 | .int=>true
 | .bool=>true
 | .u8=>true
 | .str=>true
 | .tok=>true
 | .char=>true
 | .val=>true
 | .un=>true
 | .bin=>true
 | .cho=>true
 | .node=>false
def ifvI:(i:TI)->denI i->Value
 | .int,_=>.nilIface
 | .bool,_=>.nilIface
 | .u8,_=>.nilIface
 | .str,_=>.nilIface
 | .tok,_=>.nilIface
 | .char,_=>.nilIface
 | .val,x=>VT.enc x
 | .un,_=>.nilIface
 | .bin,_=>.nilIface
 | .cho,_=>.nilIface
 | .node,_=>.nilIface
def u8I:(i:TI)->Option (denI i->Int)
 | .int=>none
 | .bool=>none
 | .u8=>some fun x=>x
 | .str=>none
 | .tok=>none
 | .char=>none
 | .val=>none
 | .un=>none
 | .bin=>none
 | .cho=>none
 | .node=>none
def CC:Cod UU:=⟨encI,zK1,decI,dfltI,cellsI,aggI,plainI,ifvI,u8I⟩
theorem z8 {R:Type} {v:T UU} {K:VT->Option R} {r:R} (h:qF v K=some r):∃ x,K x=some r/\(∀ N,trT CC N v = .at (VT.enc x))/\∀ N,zX (trT CC N v) = .at (VT.enc x):=by
 unfold qF at h
 split at h
 · split at h
   · exact ⟨_,h,fun _=>rfl,fun _=>rfl⟩
   · cases h
 · cases h
theorem zKV {R:Type} {v:T UU} {K:TokT->Option R} {r:R} (h:zBQ v K=some r):∃ x,K x=some r/\∀ N,(trT CC N v).untag=jB x:=by
 unfold zBQ at h
 split at h
 · split at h
   · obtain ⟨x0,h,_,e0⟩:=yG (C:=CC) h
     obtain ⟨x1,h,_,e1⟩:=qM (C:=CC) h
     obtain ⟨x2,h,_,e2⟩:=yG (C:=CC) h
     obtain ⟨x3,h,_,e3⟩:=yG (C:=CC) h
     obtain ⟨x4,h,_,e4⟩:=yG (C:=CC) h
     obtain ⟨x5,h,_,e5⟩:=zBy (C:=CC) h
     refine ⟨_,h,fun N=>?_⟩
     simp only [trT,trTs,V.untag,List.map_cons,List.map_nil,e0 N,e1 N,e2 N,e3 N,e4 N,e5 N]
     rfl
   · cases h
 · cases h
theorem zJp {R:Type} {v:T UU} {K:TokT->Option R} {r:R} (h:zBQ v K=some r):∃ x,K x=some r/\∀ N,trT CC N v=jB x:=by
 unfold zBQ at h
 split at h
 · split at h
   · obtain ⟨x0,h,e0,_⟩:=yG (C:=CC) h
     obtain ⟨x1,h,e1,_⟩:=qM (C:=CC) h
     obtain ⟨x2,h,e2,_⟩:=yG (C:=CC) h
     obtain ⟨x3,h,e3,_⟩:=yG (C:=CC) h
     obtain ⟨x4,h,e4,_⟩:=yG (C:=CC) h
     obtain ⟨x5,h,e5,_⟩:=zBy (C:=CC) h
     refine ⟨_,h,fun N=>?_⟩
     simp only [trT,trTs,e0 N,e1 N,e2 N,e3 N,e4 N,e5 N]
     rfl
   · cases h
 · cases h
theorem js (x:TokT):jB x = .agg [.at (.int .i64 (TokT.kind x)),.at (.string ⟨List.toArray (TokT.text x)⟩),.at (.int .i64 (TokT.file x)),.at (.int .i64 (TokT.ffrom x)),.at (.int .i64 (TokT.fto x)),.at (.bool (TokT.blank x))]:=by
 rfl
theorem zJi {R:Type} {v:T UU} {K:CharT->Option R} {r:R} (h:zAK v K=some r):∃ x,K x=some r/\∀ N,(trT CC N v).untag=zx x:=by
 unfold zAK at h
 split at h
 · split at h
   · obtain ⟨x0,h,_,e0⟩:=yG (C:=CC) h
     obtain ⟨x1,h,_,e1⟩:=yG (C:=CC) h
     refine ⟨_,h,fun N=>?_⟩
     simp only [trT,trTs,V.untag,List.map_cons,List.map_nil,e0 N,e1 N]
     rfl
   · cases h
 · cases h
theorem zHe {R:Type} {v:T UU} {K:CharT->Option R} {r:R} (h:zAK v K=some r):∃ x,K x=some r/\∀ N,trT CC N v=zx x:=by
 unfold zAK at h
 split at h
 · split at h
   · obtain ⟨x0,h,e0,_⟩:=yG (C:=CC) h
     obtain ⟨x1,h,e1,_⟩:=yG (C:=CC) h
     refine ⟨_,h,fun N=>?_⟩
     simp only [trT,trTs,e0 N,e1 N]
     rfl
   · cases h
 · cases h
theorem qr (x:CharT):zx x = .agg [.at (.int .u8 (CharT.b x)),.at (.int .i64 (CharT.fat x))]:=by
 rfl
theorem zMl {R:Type} {v:T UU} {K:UnT->Option R} {r:R} (h:zAE v K=some r):∃ x,K x=some r/\∀ N,(trT CC N v).untag=kP x:=by
 unfold zAE at h
 split at h
 · split at h
   · obtain ⟨x0,h,_,e0⟩:=qM (C:=CC) h
     obtain ⟨x1,h,_,e1⟩:=z8 h
     refine ⟨_,h,fun N=>?_⟩
     simp only [trT,trTs,V.untag,List.map_cons,List.map_nil,e0 N,e1 N]
     rfl
   · cases h
 · cases h
theorem zFA {R:Type} {v:T UU} {K:UnT->Option R} {r:R} (h:zAE v K=some r):∃ x,K x=some r/\∀ N,trT CC N v=kP x:=by
 unfold zAE at h
 split at h
 · split at h
   · obtain ⟨x0,h,e0,_⟩:=qM (C:=CC) h
     obtain ⟨x1,h,e1,_⟩:=z8 h
     refine ⟨_,h,fun N=>?_⟩
     simp only [trT,trTs,e0 N,e1 N]
     rfl
   · cases h
 · cases h
theorem jP (x:UnT):kP x = .agg [.at (.string ⟨List.toArray (UnT.sign x)⟩),.at (VT.enc (UnT.x x))]:=by
 rfl
theorem zKO {R:Type} {v:T UU} {K:BinT->Option R} {r:R} (h:jX v K=some r):∃ x,K x=some r/\∀ N,(trT CC N v).untag=jD x:=by
 unfold jX at h
 split at h
 · split at h
   · obtain ⟨x0,h,_,e0⟩:=qM (C:=CC) h
     obtain ⟨x1,h,_,e1⟩:=z8 h
     obtain ⟨x2,h,_,e2⟩:=z8 h
     refine ⟨_,h,fun N=>?_⟩
     simp only [trT,trTs,V.untag,List.map_cons,List.map_nil,e0 N,e1 N,e2 N]
     rfl
   · cases h
 · cases h
theorem zDz {R:Type} {v:T UU} {K:BinT->Option R} {r:R} (h:jX v K=some r):∃ x,K x=some r/\∀ N,trT CC N v=jD x:=by
 unfold jX at h
 split at h
 · split at h
   · obtain ⟨x0,h,e0,_⟩:=qM (C:=CC) h
     obtain ⟨x1,h,e1,_⟩:=z8 h
     obtain ⟨x2,h,e2,_⟩:=z8 h
     refine ⟨_,h,fun N=>?_⟩
     simp only [trT,trTs,e0 N,e1 N,e2 N]
     rfl
   · cases h
 · cases h
theorem qf (x:BinT):jD x = .agg [.at (.string ⟨List.toArray (BinT.sign x)⟩),.at (VT.enc (BinT.x x)),.at (VT.enc (BinT.y x))]:=by
 rfl
theorem zKe {R:Type} {v:T UU} {K:ChoT->Option R} {r:R} (h:jZ v K=some r):∃ x,K x=some r/\∀ N,(trT CC N v).untag=qt x:=by
 unfold jZ at h
 split at h
 · split at h
   · obtain ⟨x0,h,_,e0⟩:=z8 h
     obtain ⟨x1,h,_,e1⟩:=z8 h
     obtain ⟨x2,h,_,e2⟩:=z8 h
     refine ⟨_,h,fun N=>?_⟩
     simp only [trT,trTs,V.untag,List.map_cons,List.map_nil,e0 N,e1 N,e2 N]
     rfl
   · cases h
 · cases h
theorem zD2 {R:Type} {v:T UU} {K:ChoT->Option R} {r:R} (h:jZ v K=some r):∃ x,K x=some r/\∀ N,trT CC N v=qt x:=by
 unfold jZ at h
 split at h
 · split at h
   · obtain ⟨x0,h,e0,_⟩:=z8 h
     obtain ⟨x1,h,e1,_⟩:=z8 h
     obtain ⟨x2,h,e2,_⟩:=z8 h
     refine ⟨_,h,fun N=>?_⟩
     simp only [trT,trTs,e0 N,e1 N,e2 N]
     rfl
   · cases h
 · cases h
theorem qp (x:ChoT):qt x = .agg [.at (VT.enc (ChoT.c x)),.at (VT.enc (ChoT.x x)),.at (VT.enc (ChoT.y x))]:=by
 rfl
theorem zJZ {R:Type} {v:T UU} {K:Nd->Option R} {r:R} (h:zEE v K=some r):∃ x,K x=some r/\∀ N,(trT CC N v).untag=qn x:=by
 unfold zEE at h
 split at h
 · split at h
   · obtain ⟨x0,h,_,e0⟩:=qM (C:=CC) h
     obtain ⟨x1,h,_,e1⟩:=yG (C:=CC) h
     obtain ⟨x2,h,e2⟩:=pDl_ok (C:=CC) h
     refine ⟨_,h,fun N=>?_⟩
     simp only [trT,trTs,V.untag,List.map_cons,List.map_nil,e0 N,e1 N,e2 N]
     exact (zIZ x0 x1 x2).symm
   · cases h
 · cases h
theorem qy (x:Nd):qn x = .agg [.at (.string ⟨List.toArray (Nd.sign x)⟩),.at (.int .i64 (Nd.num x)),.lst (zu ((Nd.kids x).map (zK1 TI.node))) ((Nd.kids x).map (zK1 TI.node))]:=by
 cases x; exact zIZ _ _ _
theorem sz_tok (x:TokT):(jB x).size=6:=by rw [js]; rfl
theorem ag_tok (x:TokT):(jB x).isAgg=true:=by rw [js]; rfl
theorem on_tok (x:TokT):zG (jB x).flat:=by rw [js]; rfl
theorem un_tok (x:TokT):(jB x).untag=jB x:=by rw [js]; simp only [V.untag,List.map_cons,List.map_nil,qk,jc]
theorem zGR (x:CharT):(zx x).size=2:=by rw [qr]; rfl
theorem zN7 (x:CharT):(zx x).isAgg=true:=by rw [qr]; rfl
theorem zOJ (x:CharT):zG (zx x).flat:=by rw [qr]; rfl
theorem zPI (x:CharT):(zx x).untag=zx x:=by rw [qr]; simp only [V.untag,List.map_cons,List.map_nil,qk,jc]
theorem sz_un (x:UnT):(kP x).size=2:=by rw [jP]; rfl
theorem ag_un (x:UnT):(kP x).isAgg=true:=by rw [jP]; rfl
theorem on_un (x:UnT):zG (kP x).flat:=by rw [jP]; rfl
theorem un_un (x:UnT):(kP x).untag=kP x:=by rw [jP]; simp only [V.untag,List.map_cons,List.map_nil,qk,jc]
theorem sz_bin (x:BinT):(jD x).size=3:=by rw [qf]; rfl
theorem ag_bin (x:BinT):(jD x).isAgg=true:=by rw [qf]; rfl
theorem on_bin (x:BinT):zG (jD x).flat:=by rw [qf]; rfl
theorem un_bin (x:BinT):(jD x).untag=jD x:=by rw [qf]; simp only [V.untag,List.map_cons,List.map_nil,qk,jc]
theorem sz_cho (x:ChoT):(qt x).size=3:=by rw [qp]; rfl
theorem ag_cho (x:ChoT):(qt x).isAgg=true:=by rw [qp]; rfl
theorem on_cho (x:ChoT):zG (qt x).flat:=by rw [qp]; rfl
theorem un_cho (x:ChoT):(qt x).untag=qt x:=by rw [qp]; simp only [V.untag,List.map_cons,List.map_nil,qk,jc]
theorem zN9 (x:Nd):(qn x).size=3:=by rw [qy]; rfl
theorem zOt (x:Nd):(qn x).isAgg=true:=by rw [qy]; rfl
theorem zOF (x:Nd):zG (qn x).flat:=by rw [qy]; rfl
theorem zOY (x:Nd):(qn x).untag=qn x:=by rw [qy]; simp only [V.untag,List.map_cons,List.map_nil,qk,jc]
theorem CCok:CodOk CC:=by
 refine ⟨?_,?_,?_,?_,?_,?_,?_,?_,?_,?_,?_⟩
 · intro N i x
   cases i with
   | int=>rfl
   | bool=>rfl
   | u8=>rfl
   | str=>rfl
   | tok=>exact (js x).symm
   | char=>exact (qr x).symm
   | val=>rfl
   | un=>exact (jP x).symm
   | bin=>exact (qf x).symm
   | cho=>exact (qp x).symm
   | node=>exact (qy x).symm
 · intro i x
   cases i <;> rfl
 · intro i R v k r h
   cases i with
   | int=>obtain ⟨x,h1,_,h2⟩:=yG (C:=CC) h; exact ⟨x,h1,fun N=>by have:=h2 N; exact j7 this⟩
   | bool=>obtain ⟨x,h1,_,h2⟩:=zBy (C:=CC) h; exact ⟨x,h1,fun N=>by have:=h2 N; exact j7 this⟩
   | u8=>obtain ⟨x,h1,_,h2⟩:=yG (C:=CC) h; exact ⟨x,h1,fun N=>by have:=h2 N; exact j7 this⟩
   | str=>obtain ⟨x,h1,_,h2⟩:=qM (C:=CC) h; exact ⟨x,h1,fun N=>by have:=h2 N; exact j7 this⟩
   | tok=>exact zKV h
   | char=>exact zJi h
   | val=>obtain ⟨x,h1,_,h2⟩:=z8 h; exact ⟨x,h1,fun N=>by have:=h2 N; exact j7 this⟩
   | un=>exact zMl h
   | bin=>exact zKO h
   | cho=>exact zKe h
   | node=>exact zJZ h
 · intro i R v k r hp h
   cases i with
   | int=>obtain ⟨x,h1,h2,_⟩:=yG (C:=CC) h; exact ⟨x,h1,h2⟩
   | bool=>obtain ⟨x,h1,h2,_⟩:=zBy (C:=CC) h; exact ⟨x,h1,h2⟩
   | u8=>obtain ⟨x,h1,h2,_⟩:=yG (C:=CC) h; exact ⟨x,h1,h2⟩
   | str=>obtain ⟨x,h1,h2,_⟩:=qM (C:=CC) h; exact ⟨x,h1,h2⟩
   | tok=>exact zJp h
   | char=>exact zHe h
   | val=>obtain ⟨x,h1,h2,_⟩:=z8 h; exact ⟨x,h1,h2⟩
   | un=>exact zFA h
   | bin=>exact zDz h
   | cho=>exact zD2 h
   | node=>cases hp
 · intro i x
   cases i with
   | int=>rfl
   | bool=>rfl
   | u8=>rfl
   | str=>rfl
   | tok=>exact sz_tok x
   | char=>exact zGR x
   | val=>rfl
   | un=>exact sz_un x
   | bin=>exact sz_bin x
   | cho=>exact sz_cho x
   | node=>exact zN9 x
 · intro i x
   cases i with
   | int=>rfl
   | bool=>rfl
   | u8=>rfl
   | str=>rfl
   | tok=>exact ag_tok x
   | char=>exact zN7 x
   | val=>rfl
   | un=>exact ag_un x
   | bin=>exact ag_bin x
   | cho=>exact ag_cho x
   | node=>exact zOt x
 · intro i x
   cases i with
   | int=>rfl
   | bool=>rfl
   | u8=>rfl
   | str=>rfl
   | tok=>exact on_tok x
   | char=>exact zOJ x
   | val=>rfl
   | un=>exact on_un x
   | bin=>exact on_bin x
   | cho=>exact on_cho x
   | node=>exact zOF x
 · intro i x
   cases i with
   | int=>rfl
   | bool=>rfl
   | u8=>rfl
   | str=>rfl
   | tok=>exact un_tok x
   | char=>exact zPI x
   | val=>rfl
   | un=>exact un_un x
   | bin=>exact un_bin x
   | cho=>exact un_cho x
   | node=>exact zOY x
 · intro i h
   cases i <;> first | rfl | cases h
 · intro i
   cases i <;> decide
 · intro i f h x
   cases i <;> first | (cases h; done) | (cases h; rfl)
def td2:TD UU:={ has:=true,agg:=false,cells:=1,bytes:=8,code:=some TI.int,ik:=some .i64,zero:=some [.int .i64 0] }
theorem td2_ok:Facts CC Tryd.prog 2 td2:=⟨by kernel_rfl,by kernel_rfl,by kernel_rfl,by kernel_rfl,by kernel_rfl,by kernel_rfl,by kernel_rfl,by kernel_rfl,by kernel_rfl,by kernel_rfl,by kernel_rfl,fun N=>by kernel_rfl,fun i h=>(by first | (injection h with h; subst h; exact ⟨rfl,rfl⟩) | cases h),fun n i h=>(by cases h),.inr rfl,.inr rfl,fun x k r h=>(by cases h)⟩
def td3:TD UU:={ has:=true,agg:=false,cells:=1,bytes:=8,code:=some TI.int,ik:=some .i64,zero:=some [.int .i64 0] }
theorem td3_ok:Facts CC Tryd.prog 3 td3:=⟨by kernel_rfl,by kernel_rfl,by kernel_rfl,by kernel_rfl,by kernel_rfl,by kernel_rfl,by kernel_rfl,by kernel_rfl,by kernel_rfl,by kernel_rfl,by kernel_rfl,fun N=>by kernel_rfl,fun i h=>(by first | (injection h with h; subst h; exact ⟨rfl,rfl⟩) | cases h),fun n i h=>(by cases h),.inr rfl,.inr rfl,fun x k r h=>(by cases h)⟩
def td4:TD UU:={ has:=true,agg:=false,cells:=1,bytes:=1,code:=some TI.bool,isBool:=true,zero:=some [.bool false] }
theorem td4_ok:Facts CC Tryd.prog 4 td4:=⟨by kernel_rfl,by kernel_rfl,by kernel_rfl,by kernel_rfl,by kernel_rfl,by kernel_rfl,by kernel_rfl,by kernel_rfl,by kernel_rfl,by kernel_rfl,by kernel_rfl,fun N=>by kernel_rfl,fun i h=>(by first | (injection h with h; subst h; exact ⟨rfl,rfl⟩) | cases h),fun n i h=>(by cases h),.inr rfl,.inr rfl,fun x k r h=>(by cases h)⟩
def td5:TD UU:={ has:=true,agg:=false,cells:=1,bytes:=1,code:=some TI.u8,ik:=some .u8,zero:=some [.int .u8 0] }
theorem td5_ok:Facts CC Tryd.prog 5 td5:=⟨by kernel_rfl,by kernel_rfl,by kernel_rfl,by kernel_rfl,by kernel_rfl,by kernel_rfl,by kernel_rfl,by kernel_rfl,by kernel_rfl,by kernel_rfl,by kernel_rfl,fun N=>by kernel_rfl,fun i h=>(by first | (injection h with h; subst h; exact ⟨rfl,rfl⟩) | cases h),fun n i h=>(by cases h),.inr rfl,.inr rfl,fun x k r h=>(by cases h)⟩
def td9:TD UU:={ has:=true,agg:=false,cells:=1,bytes:=16,code:=some TI.str,isStr:=true,zero:=some [.str []] }
theorem td9_ok:Facts CC Tryd.prog 9 td9:=⟨by kernel_rfl,by kernel_rfl,by kernel_rfl,by kernel_rfl,by kernel_rfl,by kernel_rfl,by kernel_rfl,by kernel_rfl,by kernel_rfl,by kernel_rfl,by kernel_rfl,fun N=>by kernel_rfl,fun i h=>(by first | (injection h with h; subst h; exact ⟨rfl,rfl⟩) | cases h),fun n i h=>(by cases h),.inr rfl,.inr rfl,fun x k r h=>(by cases h)⟩
def td21:TD UU:={ has:=true,agg:=false,cells:=1,bytes:=4,ik:=some .i32,zero:=some [.int .i32 0] }
theorem zOU:Facts CC Tryd.prog 21 td21:=⟨by kernel_rfl,by kernel_rfl,by kernel_rfl,by kernel_rfl,by kernel_rfl,by kernel_rfl,by kernel_rfl,by kernel_rfl,by kernel_rfl,by kernel_rfl,by kernel_rfl,fun N=>by kernel_rfl,fun i h=>(by first | (injection h with h; subst h; exact ⟨rfl,rfl⟩) | cases h),fun n i h=>(by cases h),.inr rfl,.inr rfl,fun x k r h=>(by cases h)⟩
def td23:TD UU:={ has:=true,agg:=false,cells:=1,bytes:=8,code:=some TI.int,ik:=some .i64,zero:=some [.int .i64 0] }
theorem zN6:Facts CC Tryd.prog 23 td23:=⟨by kernel_rfl,by kernel_rfl,by kernel_rfl,by kernel_rfl,by kernel_rfl,by kernel_rfl,by kernel_rfl,by kernel_rfl,by kernel_rfl,by kernel_rfl,by kernel_rfl,fun N=>by kernel_rfl,fun i h=>(by first | (injection h with h; subst h; exact ⟨rfl,rfl⟩) | cases h),fun n i h=>(by cases h),.inr rfl,.inr rfl,fun x k r h=>(by cases h)⟩
def td26:TD UU:={ has:=true,agg:=false,cells:=1,bytes:=24,el:=some 43,zero:=some [.nil] }
theorem zOl:Facts CC Tryd.prog 26 td26:=⟨by kernel_rfl,by kernel_rfl,by kernel_rfl,by kernel_rfl,by kernel_rfl,by kernel_rfl,by kernel_rfl,by kernel_rfl,by kernel_rfl,by kernel_rfl,by kernel_rfl,fun N=>by kernel_rfl,fun i h=>(by first | (injection h with h; subst h; exact ⟨rfl,rfl⟩) | cases h),fun n i h=>(by cases h),.inr rfl,.inr rfl,fun x k r h=>(by cases h)⟩
def td30:TD UU:={ has:=true,agg:=false,cells:=1,bytes:=24,el:=some 9,zero:=some [.nil] }
theorem zOO:Facts CC Tryd.prog 30 td30:=⟨by kernel_rfl,by kernel_rfl,by kernel_rfl,by kernel_rfl,by kernel_rfl,by kernel_rfl,by kernel_rfl,by kernel_rfl,by kernel_rfl,by kernel_rfl,by kernel_rfl,fun N=>by kernel_rfl,fun i h=>(by first | (injection h with h; subst h; exact ⟨rfl,rfl⟩) | cases h),fun n i h=>(by cases h),.inr rfl,.inr rfl,fun x k r h=>(by cases h)⟩
def td40:TD UU:={ has:=true,agg:=false,cells:=1,bytes:=8,zero:=some [.con (.pointer none)] }
theorem zPC:Facts CC Tryd.prog 40 td40:=⟨by kernel_rfl,by kernel_rfl,by kernel_rfl,by kernel_rfl,by kernel_rfl,by kernel_rfl,by kernel_rfl,by kernel_rfl,by kernel_rfl,by kernel_rfl,by kernel_rfl,fun N=>by kernel_rfl,fun i h=>(by first | (injection h with h; subst h; exact ⟨rfl,rfl⟩) | cases h),fun n i h=>(by cases h),.inr rfl,.inr rfl,fun x k r h=>(by cases h)⟩
def td43:TD UU:={ has:=true,agg:=true,cells:=6,bytes:=56,code:=some TI.tok,flds:=[(0,3),(1,9),(2,3),(3,3),(4,3),(5,4)],isStruct:=true,zero:=some [.int .i64 0,.str [],.int .i64 0,.int .i64 0,.int .i64 0,.bool false] }
theorem zPE:Facts CC Tryd.prog 43 td43:=⟨by kernel_rfl,by kernel_rfl,by kernel_rfl,by kernel_rfl,by kernel_rfl,by kernel_rfl,by kernel_rfl,by kernel_rfl,by kernel_rfl,by kernel_rfl,by kernel_rfl,fun N=>by kernel_rfl,fun i h=>(by first | (injection h with h; subst h; exact ⟨rfl,rfl⟩) | cases h),fun n i h=>(by cases h),.inr rfl,.inr rfl,fun x k r h=>(by cases h)⟩
def td47:TD UU:={ has:=true,agg:=true,cells:=3,bytes:=40,flds:=[(0,26),(1,4),(2,23)],isStruct:=true,zero:=some [.nil,.bool false,.int .i64 0] }
theorem zOS:Facts CC Tryd.prog 47 td47:=⟨by kernel_rfl,by kernel_rfl,by kernel_rfl,by kernel_rfl,by kernel_rfl,by kernel_rfl,by kernel_rfl,by kernel_rfl,by kernel_rfl,by kernel_rfl,by kernel_rfl,fun N=>by kernel_rfl,fun i h=>(by first | (injection h with h; subst h; exact ⟨rfl,rfl⟩) | cases h),fun n i h=>(by cases h),.inr rfl,.inr rfl,fun x k r h=>(by cases h)⟩
def td49:TD UU:={ has:=true,agg:=false,cells:=1,bytes:=16,code:=some TI.val,isIfc:=true,zero:=some [.con .nilIface] }
theorem zOv:Facts CC Tryd.prog 49 td49:=⟨by kernel_rfl,by kernel_rfl,by kernel_rfl,by kernel_rfl,by kernel_rfl,by kernel_rfl,by kernel_rfl,by kernel_rfl,by kernel_rfl,by kernel_rfl,by kernel_rfl,fun N=>by kernel_rfl,fun i h=>(by first | (injection h with h; subst h; exact ⟨rfl,rfl⟩) | cases h),fun n i h=>(by cases h),.inr rfl,.inr rfl,fun x k r h=>(by cases h)⟩
def td52:TD UU:={ has:=true,agg:=false,cells:=1,bytes:=24,el:=some 61,zero:=some [.nil] }
theorem zOH:Facts CC Tryd.prog 52 td52:=⟨by kernel_rfl,by kernel_rfl,by kernel_rfl,by kernel_rfl,by kernel_rfl,by kernel_rfl,by kernel_rfl,by kernel_rfl,by kernel_rfl,by kernel_rfl,by kernel_rfl,fun N=>by kernel_rfl,fun i h=>(by first | (injection h with h; subst h; exact ⟨rfl,rfl⟩) | cases h),fun n i h=>(by cases h),.inr rfl,.inr rfl,fun x k r h=>(by cases h)⟩
def td54:TD UU:={ has:=true,agg:=false,cells:=1,bytes:=8,zero:=some [.con (.pointer none)] }
theorem zOZ:Facts CC Tryd.prog 54 td54:=⟨by kernel_rfl,by kernel_rfl,by kernel_rfl,by kernel_rfl,by kernel_rfl,by kernel_rfl,by kernel_rfl,by kernel_rfl,by kernel_rfl,by kernel_rfl,by kernel_rfl,fun N=>by kernel_rfl,fun i h=>(by first | (injection h with h; subst h; exact ⟨rfl,rfl⟩) | cases h),fun n i h=>(by cases h),.inr rfl,.inr rfl,fun x k r h=>(by cases h)⟩
def td57:TD UU:={ has:=true,agg:=true,cells:=2,bytes:=24,flds:=[(0,9),(1,3)],isStruct:=true,zero:=some [.str [],.int .i64 0] }
theorem zOi:Facts CC Tryd.prog 57 td57:=⟨by kernel_rfl,by kernel_rfl,by kernel_rfl,by kernel_rfl,by kernel_rfl,by kernel_rfl,by kernel_rfl,by kernel_rfl,by kernel_rfl,by kernel_rfl,by kernel_rfl,fun N=>by kernel_rfl,fun i h=>(by first | (injection h with h; subst h; exact ⟨rfl,rfl⟩) | cases h),fun n i h=>(by cases h),.inr rfl,.inr rfl,fun x k r h=>(by cases h)⟩
def td61:TD UU:={ has:=true,agg:=true,cells:=2,bytes:=16,code:=some TI.char,flds:=[(0,5),(1,3)],isStruct:=true,zero:=some [.int .u8 0,.int .i64 0] }
theorem zOz:Facts CC Tryd.prog 61 td61:=⟨by kernel_rfl,by kernel_rfl,by kernel_rfl,by kernel_rfl,by kernel_rfl,by kernel_rfl,by kernel_rfl,by kernel_rfl,by kernel_rfl,by kernel_rfl,by kernel_rfl,fun N=>by kernel_rfl,fun i h=>(by first | (injection h with h; subst h; exact ⟨rfl,rfl⟩) | cases h),fun n i h=>(by cases h),.inr rfl,.inr rfl,fun x k r h=>(by cases h)⟩
def td62:TD UU:={ has:=true,agg:=false,cells:=1,bytes:=24,el:=some 64,zero:=some [.nil] }
theorem zN1:Facts CC Tryd.prog 62 td62:=⟨by kernel_rfl,by kernel_rfl,by kernel_rfl,by kernel_rfl,by kernel_rfl,by kernel_rfl,by kernel_rfl,by kernel_rfl,by kernel_rfl,by kernel_rfl,by kernel_rfl,fun N=>by kernel_rfl,fun i h=>(by first | (injection h with h; subst h; exact ⟨rfl,rfl⟩) | cases h),fun n i h=>(by cases h),.inr rfl,.inr rfl,fun x k r h=>(by cases h)⟩
def td64:TD UU:={ has:=true,agg:=true,cells:=3,bytes:=48,code:=some TI.node,flds:=[(0,9),(1,2),(2,62)],isStruct:=true,zero:=some [.str [],.int .i64 0,.nil] }
theorem zO7:Facts CC Tryd.prog 64 td64:=⟨by kernel_rfl,by kernel_rfl,by kernel_rfl,by kernel_rfl,by kernel_rfl,by kernel_rfl,by kernel_rfl,by kernel_rfl,by kernel_rfl,by kernel_rfl,by kernel_rfl,fun N=>by kernel_rfl,fun i h=>(by first | (injection h with h; subst h; exact ⟨rfl,rfl⟩) | cases h),fun n i h=>(by cases h),.inr rfl,.inr rfl,fun x k r h=>(by cases h)⟩
def td69:TD UU:={ has:=true,agg:=false,cells:=1,bytes:=8,ik:=some .u64,zero:=some [.int .u64 0] }
theorem zN2:Facts CC Tryd.prog 69 td69:=⟨by kernel_rfl,by kernel_rfl,by kernel_rfl,by kernel_rfl,by kernel_rfl,by kernel_rfl,by kernel_rfl,by kernel_rfl,by kernel_rfl,by kernel_rfl,by kernel_rfl,fun N=>by kernel_rfl,fun i h=>(by first | (injection h with h; subst h; exact ⟨rfl,rfl⟩) | cases h),fun n i h=>(by cases h),.inr rfl,.inr rfl,fun x k r h=>(by cases h)⟩
def td76:TD UU:={ has:=true,agg:=false,cells:=1,bytes:=24,el:=some 5,zero:=some [.nil],isByt:=true }
theorem zOj:Facts CC Tryd.prog 76 td76:=⟨by kernel_rfl,by kernel_rfl,by kernel_rfl,by kernel_rfl,by kernel_rfl,by kernel_rfl,by kernel_rfl,by kernel_rfl,by kernel_rfl,by kernel_rfl,by kernel_rfl,fun N=>by kernel_rfl,fun i h=>(by first | (injection h with h; subst h; exact ⟨rfl,rfl⟩) | cases h),fun n i h=>(by cases h),.inl (by kernel_rfl),.inr rfl,fun x k r h=>(by cases h)⟩
def td78:TD UU:={ has:=true,agg:=false,cells:=1,bytes:=8,ik:=some .u64,zero:=some [.int .u64 0] }
theorem zOX:Facts CC Tryd.prog 78 td78:=⟨by kernel_rfl,by kernel_rfl,by kernel_rfl,by kernel_rfl,by kernel_rfl,by kernel_rfl,by kernel_rfl,by kernel_rfl,by kernel_rfl,by kernel_rfl,by kernel_rfl,fun N=>by kernel_rfl,fun i h=>(by first | (injection h with h; subst h; exact ⟨rfl,rfl⟩) | cases h),fun n i h=>(by cases h),.inr rfl,.inr rfl,fun x k r h=>(by cases h)⟩
def td88:TD UU:={ has:=true,agg:=true,cells:=3,bytes:=48,code:=some TI.cho,flds:=[(0,49),(1,49),(2,49)],isStruct:=true,zero:=some [.con .nilIface,.con .nilIface,.con .nilIface],mki:=fun v k=>jZ v fun u=>k TI.val (.cho u.c u.x u.y) }
theorem zOm:Facts CC Tryd.prog 88 td88:=⟨by kernel_rfl,by kernel_rfl,by kernel_rfl,by kernel_rfl,by kernel_rfl,by kernel_rfl,by kernel_rfl,by kernel_rfl,by kernel_rfl,by kernel_rfl,by kernel_rfl,fun N=>by kernel_rfl,fun i h=>(by first | (injection h with h; subst h; exact ⟨rfl,rfl⟩) | cases h),fun n i h=>(by cases h),.inr rfl,.inr rfl,fun v k r h=>(by have h:jZ v (fun u=>k TI.val (.cho u.c u.x u.y))=some r:=h; obtain ⟨u,h1,h2⟩:=zD2 h; exact ⟨by kernel_rfl,_,_,h1,fun N=>by rw [h2 N,qp]; rfl⟩)⟩
def td99:TD UU:={ has:=true,agg:=true,cells:=5,bytes:=80,zero:=some [.str [],.str [],.str [],.str [],.str []],arr:=some (5,TI.str),bpl:=[(0,9),(1,9),(2,9),(3,9),(4,9)] }
set_option maxRecDepth 100000 in
theorem zOf:Facts CC Tryd.prog 99 td99:=⟨by kernel_rfl,by kernel_rfl,by kernel_rfl,by kernel_rfl,by kernel_rfl,by kernel_rfl,by kernel_rfl,by kernel_rfl,by kernel_rfl,by kernel_rfl,by kernel_rfl,fun N=>by kernel_rfl,fun i h=>(by first | (injection h with h; subst h; exact ⟨rfl,rfl⟩) | cases h),fun n i h=>(by injection h with h; injection h with h _; subst h; kernel_rfl),.inr rfl,.inl (by kernel_rfl),fun x k r h=>(by cases h)⟩
def td100:TD UU:={ has:=true,agg:=true,cells:=3,bytes:=48,zero:=some [.str [],.str [],.str []],arr:=some (3,TI.str),bpl:=[(0,9),(1,9),(2,9)] }
set_option maxRecDepth 100000 in
theorem zMp:Facts CC Tryd.prog 100 td100:=⟨by kernel_rfl,by kernel_rfl,by kernel_rfl,by kernel_rfl,by kernel_rfl,by kernel_rfl,by kernel_rfl,by kernel_rfl,by kernel_rfl,by kernel_rfl,by kernel_rfl,fun N=>by kernel_rfl,fun i h=>(by first | (injection h with h; subst h; exact ⟨rfl,rfl⟩) | cases h),fun n i h=>(by injection h with h; injection h with h _; subst h; kernel_rfl),.inr rfl,.inl (by kernel_rfl),fun x k r h=>(by cases h)⟩
def td104:TD UU:={ has:=true,agg:=true,cells:=3,bytes:=48,code:=some TI.bin,flds:=[(0,9),(1,49),(2,49)],isStruct:=true,zero:=some [.str [],.con .nilIface,.con .nilIface],mki:=fun v k=>jX v fun u=>k TI.val (.bin u.sign u.x u.y) }
theorem zNU:Facts CC Tryd.prog 104 td104:=⟨by kernel_rfl,by kernel_rfl,by kernel_rfl,by kernel_rfl,by kernel_rfl,by kernel_rfl,by kernel_rfl,by kernel_rfl,by kernel_rfl,by kernel_rfl,by kernel_rfl,fun N=>by kernel_rfl,fun i h=>(by first | (injection h with h; subst h; exact ⟨rfl,rfl⟩) | cases h),fun n i h=>(by cases h),.inr rfl,.inr rfl,fun v k r h=>(by have h:jX v (fun u=>k TI.val (.bin u.sign u.x u.y))=some r:=h; obtain ⟨u,h1,h2⟩:=zDz h; exact ⟨by kernel_rfl,_,_,h1,fun N=>by rw [h2 N,qf]; rfl⟩)⟩
def td105:TD UU:={ has:=true,agg:=false,cells:=1,bytes:=8,code:=some TI.int,ik:=some .i64,zero:=some [.int .i64 0],mki:=fun v k=>pInt .i64 v fun n=>k TI.val (.num n) }
theorem zNE:Facts CC Tryd.prog 105 td105:=⟨by kernel_rfl,by kernel_rfl,by kernel_rfl,by kernel_rfl,by kernel_rfl,by kernel_rfl,by kernel_rfl,by kernel_rfl,by kernel_rfl,by kernel_rfl,by kernel_rfl,fun N=>by kernel_rfl,fun i h=>(by first | (injection h with h; subst h; exact ⟨rfl,rfl⟩) | cases h),fun n i h=>(by cases h),.inr rfl,.inr rfl,fun v k r h=>(by have h:pInt .i64 v (fun n=>k TI.val (.num n))=some r:=h; obtain ⟨n,h1,h2,_⟩:=yG (C:=CC) h; exact ⟨by kernel_rfl,_,_,h1,fun N=>by rw [h2 N]; rfl⟩)⟩
def td108:TD UU:={ has:=true,agg:=true,cells:=48,bytes:=768,zero:=some [.str [],.str [],.str [],.str [],.str [],.str [],.str [],.str [],.str [],.str [],.str [],.str [],.str [],.str [],.str [],.str [],.str [],.str [],.str [],.str [],.str [],.str [],.str [],.str [],.str [],.str [],.str [],.str [],.str [],.str [],.str [],.str [],.str [],.str [],.str [],.str [],.str [],.str [],.str [],.str [],.str [],.str [],.str [],.str [],.str [],.str [],.str [],.str []],arr:=some (48,TI.str),bpl:=[(0,9),(1,9),(2,9),(3,9),(4,9),(5,9),(6,9),(7,9),(8,9),(9,9),(10,9),(11,9),(12,9),(13,9),(14,9),(15,9),(16,9),(17,9),(18,9),(19,9),(20,9),(21,9),(22,9),(23,9),(24,9),(25,9),(26,9),(27,9),(28,9),(29,9),(30,9),(31,9),(32,9),(33,9),(34,9),(35,9),(36,9),(37,9),(38,9),(39,9),(40,9),(41,9),(42,9),(43,9),(44,9),(45,9),(46,9),(47,9)] }
set_option maxRecDepth 100000 in
theorem zNT:Facts CC Tryd.prog 108 td108:=⟨by kernel_rfl,by kernel_rfl,by kernel_rfl,by kernel_rfl,by kernel_rfl,by kernel_rfl,by kernel_rfl,by kernel_rfl,by kernel_rfl,by kernel_rfl,by kernel_rfl,fun N=>by kernel_rfl,fun i h=>(by first | (injection h with h; subst h; exact ⟨rfl,rfl⟩) | cases h),fun n i h=>(by injection h with h; injection h with h _; subst h; kernel_rfl),.inr rfl,.inl (by kernel_rfl),fun x k r h=>(by cases h)⟩
def td110:TD UU:={ has:=true,agg:=true,cells:=2,bytes:=32,code:=some TI.un,flds:=[(0,9),(1,49)],isStruct:=true,zero:=some [.str [],.con .nilIface],mki:=fun v k=>zAE v fun u=>k TI.val (.un u.sign u.x) }
theorem zMz:Facts CC Tryd.prog 110 td110:=⟨by kernel_rfl,by kernel_rfl,by kernel_rfl,by kernel_rfl,by kernel_rfl,by kernel_rfl,by kernel_rfl,by kernel_rfl,by kernel_rfl,by kernel_rfl,by kernel_rfl,fun N=>by kernel_rfl,fun i h=>(by first | (injection h with h; subst h; exact ⟨rfl,rfl⟩) | cases h),fun n i h=>(by cases h),.inr rfl,.inr rfl,fun v k r h=>(by have h:zAE v (fun u=>k TI.val (.un u.sign u.x))=some r:=h; obtain ⟨u,h1,h2⟩:=zFA h; exact ⟨by kernel_rfl,_,_,h1,fun N=>by rw [h2 N,jP]; rfl⟩)⟩
def td111:TD UU:={ has:=true,agg:=true,cells:=10,bytes:=160,zero:=some [.str [],.str [],.str [],.str [],.str [],.str [],.str [],.str [],.str [],.str []],arr:=some (10,TI.str),bpl:=[(0,9),(1,9),(2,9),(3,9),(4,9),(5,9),(6,9),(7,9),(8,9),(9,9)] }
set_option maxRecDepth 100000 in
theorem zMy:Facts CC Tryd.prog 111 td111:=⟨by kernel_rfl,by kernel_rfl,by kernel_rfl,by kernel_rfl,by kernel_rfl,by kernel_rfl,by kernel_rfl,by kernel_rfl,by kernel_rfl,by kernel_rfl,by kernel_rfl,fun N=>by kernel_rfl,fun i h=>(by first | (injection h with h; subst h; exact ⟨rfl,rfl⟩) | cases h),fun n i h=>(by injection h with h; injection h with h _; subst h; kernel_rfl),.inr rfl,.inl (by kernel_rfl),fun x k r h=>(by cases h)⟩
def tdL:List (Nat×TD UU):=[(2,td2),(3,td3),(4,td4),(5,td5),(9,td9),(21,td21),(23,td23),(26,td26),(30,td30),(40,td40),(43,td43),(47,td47),(49,td49),(52,td52),(54,td54),(57,td57),(61,td61),(62,td62),(64,td64),(69,td69),(76,td76),(78,td78),(88,td88),(99,td99),(100,td100),(104,td104),(105,td105),(108,td108),(110,td110),(111,td111)]
def Tb:Nat->TD UU:=zE1 tdL
theorem zl:TbOk CC Tryd.prog Tb:=zH6 (by
 intro p hp
 simp only [tdL,List.mem_cons,List.not_mem_nil,or_false] at hp
 rcases hp with rfl | rfl | rfl | rfl | rfl | rfl | rfl | rfl | rfl | rfl | rfl | rfl | rfl | rfl | rfl | rfl | rfl | rfl | rfl | rfl | rfl | rfl | rfl | rfl | rfl | rfl | rfl | rfl | rfl | rfl
 · exact td2_ok
 · exact td3_ok
 · exact td4_ok
 · exact td5_ok
 · exact td9_ok
 · exact zOU
 · exact zN6
 · exact zOl
 · exact zOO
 · exact zPC
 · exact zPE
 · exact zOS
 · exact zOv
 · exact zOH
 · exact zOZ
 · exact zOi
 · exact zOz
 · exact zN1
 · exact zO7
 · exact zN2
 · exact zOj
 · exact zOX
 · exact zOm
 · exact zOf
 · exact zMp
 · exact zNU
 · exact zNE
 · exact zNT
 · exact zMz
 · exact zMy)
end
end Go.Proofs.YtonnigoiklahdaaDoor
section
namespace Go.Den
def zW (l:List (Nat×List (Nat×Nat×Nat))) (n:Nat):List (Nat×Nat×Nat):=(zA l n).getD []
end Go.Den
namespace Go.Proofs.YtonnigoiklahdaaDoor
open Go.Al Go.Den
abbrev LK:=List (SK UU)
abbrev Str:=List UInt8
def syn:List PanicEntry:=[]
abbrev rdK:SK UU:=.box [.str,.int .i64]
abbrev RdT:=Str×Int×Unit
abbrev k0:LK:=[]
abbrev kN:LK:=[.st TI.val]
abbrev kB:LK:=[.bool]
abbrev kS:LK:=[.str]
abbrev kI:LK:=[.int .i64]
abbrev CQ:=CPOk CC Tryd.prog syn
abbrev LT:=List TokT
abbrev ck {ρ:Type} (n:Nat) (x:Option ρ):Option ρ:=cond (okN 40 n) x none
abbrev bo {α ρ:Type} (x:Option (Option α)) (f:α->Option (Option ρ)):Option (Option ρ):=Option.bind x fun o=>zn o (some none) f
abbrev DD (α:Type):=Str->Int->Option (α×Int)
def fD {aa rs:List (SK UU)} (m:zB aa->DD (zB rs)) {R:Type} (x:RdT×Unit) (a:zB aa) (K:RdT×Unit->zB rs->Option R):Option R:=
 Option.bind (m a x.1.1 x.1.2.1) fun y=>K ((x.1.1,y.2,()),()) y.1
abbrev cD (aa rs:List (SK UU)) (m:zB aa->DD (zB rs)):CP UU:=⟨[rdK],[rdK],aa,rs,fun x a _ K=>fD m x a K⟩
def fRD {aa rs:List (SK UU)} (m:zB aa->Str->Int->Option (zB rs)) {R:Type} (x:RdT×zB aa) (K:zB rs->Option R):Option R:=
 Option.bind (m x.2 x.1.1 x.1.2.1) fun y=>K y
abbrev cRD (aa rs:List (SK UU)) (m:zB aa->Str->Int->Option (zB rs)):CR UU:=⟨rdK::aa,rs,fun x K=>fRD m x K⟩
abbrev exK:SK UU:=.box [.bl TI.tok,.bool,.int .i64]
abbrev ExT:=(Bool×List TokT)×Bool×Int×Unit
abbrev ES:=(Bool×List TokT)×Bool×Int
def exI (x:ExT×Unit):ES:=(x.1.1,x.1.2.1,x.1.2.2.1)
def exO (y:ES):ExT×Unit:=((y.1,y.2.1,y.2.2,()),())
abbrev EE (α:Type):=ES->Option (α×ES)
def fE {aa rs:List (SK UU)} (m:zB aa->EE (zB rs)) {R:Type} (x:ExT×Unit) (a:zB aa) (K:ExT×Unit->zB rs->Option R):Option R:=
 Option.bind (m a (x.1.1,x.1.2.1,x.1.2.2.1)) fun y=>K ((y.2.1,y.2.2.1,y.2.2.2,()),()) y.1
abbrev cE (aa rs:List (SK UU)) (m:zB aa->EE (zB rs)):CP UU:=⟨[exK],[exK],aa,rs,fun x a _ K=>fE m x a K⟩
def fF {aa rs:List (SK UU)} (m:zB aa->Option (zB rs)) {R:Type} (x:Unit) (a:zB aa) (K:Unit->zB rs->Option R):Option R:=
 Option.bind (m a) fun y=>K () y
abbrev cF (aa rs:List (SK UU)) (m:zB aa->Option (zB rs)):CP UU:=⟨[],[],aa,rs,fun x a _ K=>fF m x a K⟩
end Go.Proofs.YtonnigoiklahdaaDoor
end
namespace Go.Proofs.YtonnigoiklahdaaDoor
section
open Go.Al Go.Den
abbrev as44:List (AK UU):=[.str,.int .u8]
abbrev rs44:List (AK UU):=[.int .i64]
abbrev as58:List (AK UU):=[.str,.str]
abbrev rs58:List (AK UU):=[.int .i64]
def kf29:Nat->List Nat
 | 0=>[0]
 | 1=>[0,6]
 | 2=>[0,6,7]
 | 3=>[0,6,7]
 | 4=>[0,6,7]
 | 5=>[0,6,7]
 | 6=>[0,7]
 | 7=>[0]
 | 8=>[0,2]
 | 9=>[0,21]
 | 10=>[0,3]
 | 11=>[0,3,33]
 | 12=>[0,3]
 | 13=>[0]
 | 14=>[0,2]
 | 15=>[0,54]
 | 16=>[0,2]
 | 17=>[0,4]
 | 18=>[0,4,67]
 | 19=>[0,2]
 | 20=>[0]
 | 21=>[0,2]
 | _=>[]
def hd29:List (Nat×Head UU):=[]
def jn29:List (Nat×Head UU):=[(7,⟨[0],[(7,.bool)],[(0,rdK)]⟩),(13,⟨[0],[(3,.int .i64)],[(0,rdK)]⟩),(9,⟨[0],[],[(0,rdK)]⟩)]
noncomputable def fd29:FD UU:=⟨⟨fun d=>hasN [] d,fun d=>hasN [] d,kf29,zA hd29,zA jn29,zW []⟩,zT Tryd.f29,77,[.tmp 2]⟩
def kf30:Nat->List Nat
 | 0=>[0]
 | 1=>[0,10]
 | 2=>[0,2,3]
 | 3=>[0,4]
 | 4=>[0,4,14]
 | 5=>[0,2,3]
 | 6=>[0,5]
 | 7=>[0,5,19]
 | 8=>[0,2,3]
 | 9=>[0,6]
 | 10=>[0,6,24]
 | 11=>[0,2,3]
 | 12=>[0,7]
 | 13=>[0,7,29]
 | 14=>[0,2,3]
 | 15=>[0,8]
 | 16=>[0,8,34]
 | 17=>[0,2,3]
 | 18=>[0,2,3]
 | _=>[]
def hd30:List (Nat×Head UU):=[]
def jn30:List (Nat×Head UU):=[]
noncomputable def fd30:FD UU:=⟨⟨fun d=>hasN [] d,fun d=>hasN [] d,kf30,zA hd30,zA jn30,zW []⟩,zT Tryd.f30,36,[.tmp 2,.tmp 3]⟩
def kf38:Nat->List Nat
 | 0=>[0,1]
 | 1=>[4]
 | _=>[]
def hd38:List (Nat×Head UU):=[]
def jn38:List (Nat×Head UU):=[]
noncomputable def fd38:FD UU:=⟨⟨fun d=>hasN [] d,fun d=>hasN [] d,kf38,zA hd38,zA jn38,zW []⟩,zT Tryd.f38,8,[.tmp 4]⟩
def kf57:Nat->List Nat
 | 0=>[0,1]
 | 1=>[0,4]
 | _=>[]
def hd57:List (Nat×Head UU):=[]
def jn57:List (Nat×Head UU):=[]
noncomputable def fd57:FD UU:=⟨⟨fun d=>hasN [] d,fun d=>hasN [] d,kf57,zA hd57,zA jn57,zW []⟩,zT Tryd.f57,16,[.tmp 4]⟩
def kf59:Nat->List Nat
 | 0=>[0]
 | 1=>[0,3]
 | 2=>[0,3,17]
 | 3=>[0,3]
 | 4=>[0,2]
 | _=>[]
def hd59:List (Nat×Head UU):=[(2,⟨[0],[(3,.int .i64)],[(0,rdK)]⟩)]
def jn59:List (Nat×Head UU):=[]
noncomputable def fd59:FD UU:=⟨⟨fun d=>hasN [] d,fun d=>hasN [] d,kf59,zA hd59,zA jn59,zW []⟩,zT Tryd.f59,21,[.tmp 2]⟩
def kf60:Nat->List Nat
 | 0=>[0]
 | 1=>[0,20]
 | 2=>[0,2]
 | 3=>[0,3]
 | 4=>[0,3,4,5]
 | 5=>[0,2]
 | 6=>[0,3,4,29]
 | 7=>[0,3]
 | 8=>[0,3,43]
 | 9=>[0,3]
 | _=>[]
def hd60:List (Nat×Head UU):=[(4,⟨[0],[(3,.int .i64)],[(0,rdK)]⟩)]
def jn60:List (Nat×Head UU):=[]
noncomputable def fd60:FD UU:=⟨⟨fun d=>hasN [] d,fun d=>hasN [] d,kf60,zA hd60,zA jn60,zW []⟩,zT Tryd.f60,56,[.tmp 2]⟩
def kf61:Nat->List Nat
 | 0=>[0,1]
 | 1=>[0,1,21]
 | 2=>[0,4]
 | 3=>[0,1,5]
 | 4=>[0,1,5,33]
 | 5=>[0,1,5]
 | 6=>[0,1,5,38]
 | 7=>[0,1,5,38,39]
 | 8=>[0,5,47]
 | 9=>[0,4]
 | 10=>[0,4]
 | 11=>[0,1,5,38,50]
 | 12=>[0,4]
 | 13=>[0,1,5,52]
 | 14=>[0,1,5]
 | 15=>[0,1,5,73]
 | 16=>[0,4]
 | 17=>[0,4]
 | _=>[]
def hd61:List (Nat×Head UU):=[(4,⟨[0,1],[(5,.int .i64)],[(0,rdK)]⟩)]
def jn61:List (Nat×Head UU):=[]
noncomputable def fd61:FD UU:=⟨⟨fun d=>hasN [] d,fun d=>hasN [] d,kf61,zA hd61,zA jn61,zW []⟩,zT Tryd.f61,74,[.tmp 4]⟩
def kf62:Nat->List Nat
 | 0=>[0]
 | 1=>[0,3]
 | 2=>[0,3,6,7]
 | 3=>[0,3,6,7,8]
 | 4=>[0,3,5,6,7]
 | 5=>[0,3,5,6,7,19]
 | 6=>[0,3,6,7]
 | 7=>[0,3,6,7]
 | 8=>[0,2]
 | _=>[]
def hd62:List (Nat×Head UU):=[(3,⟨[0,6],[(3,.int .i64),(7,.int .i64)],[(0,rdK)]⟩)]
def jn62:List (Nat×Head UU):=[]
noncomputable def fd62:FD UU:=⟨⟨fun d=>hasN [] d,fun d=>hasN [] d,kf62,zA hd62,zA jn62,zW []⟩,zT Tryd.f62,24,[.tmp 2]⟩
def kf70:Nat->List Nat
 | 0=>[0,1]
 | 1=>[4]
 | _=>[]
def hd70:List (Nat×Head UU):=[]
def jn70:List (Nat×Head UU):=[]
noncomputable def fd70:FD UU:=⟨⟨fun d=>hasN [] d,fun d=>hasN [] d,kf70,zA hd70,zA jn70,zW []⟩,zT Tryd.f70,18,[.tmp 4]⟩
def kf77:Nat->List Nat
 | 0=>[0]
 | 1=>[2]
 | _=>[]
def hd77:List (Nat×Head UU):=[]
def jn77:List (Nat×Head UU):=[]
noncomputable def fd77:FD UU:=⟨⟨fun d=>hasN [] d,fun d=>hasN [] d,kf77,zA hd77,zA jn77,zW []⟩,zT Tryd.f77,21,[.tmp 2]⟩
def kf78:Nat->List Nat
 | 0=>[0]
 | 1=>[2]
 | _=>[]
def hd78:List (Nat×Head UU):=[]
def jn78:List (Nat×Head UU):=[]
noncomputable def fd78:FD UU:=⟨⟨fun d=>hasN [] d,fun d=>hasN [] d,kf78,zA hd78,zA jn78,zW []⟩,zT Tryd.f78,9,[.tmp 2]⟩
noncomputable def run29 (fu:Nat) (c44:List UInt8×Int×Unit->Option (Int×Unit)) (c58:List UInt8×List UInt8×Unit->Option (Int×Unit)) (c56:zB ([.int .i64]:LK)->Str->Int->Option (zB ([.int .u8]:LK))) (c57:zB ([.str]:LK)->DD (zB ([.bool]:LK))) (x:zB [rdK]) (a:zB ([]:LK)):Option (Option (zB [rdK]×zB ([.bool]:LK))):=
 runP CC Tb fu 2 (zA []) (zA [(44,(⟨as44,rs44,c44⟩:Con UU)),(58,(⟨as58,rs58,c58⟩:Con UU))]) (zA [(56,cRD ([.int .i64]:LK) ([.int .u8]:LK) c56)]) (zA [(57,cD ([.str]:LK) ([.bool]:LK) c57)]) fd29 [rdK] [rdK] ([]:LK) ([.bool]:LK) x a
theorem fdok29:FDOk Tryd.prog (hasN [44,58]) (hasN [56]) 29 fd29:=⟨⟨Tryd.f29,Tryd.func29,by kernel_rfl,Tryd.ntmps29,Tryd.results29⟩,by kernel_rfl,by kernel_rfl,by kernel_rfl⟩
noncomputable def run30 (fu:Nat) (c57:zB ([.str]:LK)->DD (zB ([.bool]:LK))) (c59:zB ([]:LK)->DD (zB ([.int .i64]:LK))) (c60:zB ([]:LK)->DD (zB ([.int .i64]:LK))) (c61:zB ([.int .u8]:LK)->DD (zB ([.int .i64]:LK))) (c62:zB ([]:LK)->DD (zB ([.int .i64]:LK))) (x:zB [rdK]) (a:zB ([]:LK)):Option (Option (zB [rdK]×zB ([.int .i64,.int .i64]:LK))):=
 runP CC Tb fu 2 (zA []) (zA []) (zA []) (zA [(57,cD ([.str]:LK) ([.bool]:LK) c57),(59,cD ([]:LK) ([.int .i64]:LK) c59),(60,cD ([]:LK) ([.int .i64]:LK) c60),(61,cD ([.int .u8]:LK) ([.int .i64]:LK) c61),(62,cD ([]:LK) ([.int .i64]:LK) c62)]) fd30 [rdK] [rdK] ([]:LK) ([.int .i64,.int .i64]:LK) x a
theorem fdok30:FDOk Tryd.prog (hasN []) (hasN []) 30 fd30:=⟨⟨Tryd.f30,Tryd.func30,by kernel_rfl,Tryd.ntmps30,Tryd.results30⟩,by kernel_rfl,by kernel_rfl,by kernel_rfl⟩
noncomputable def run57 (fu:Nat) (x:zB [rdK]) (a:zB ([.str]:LK)):Option (Option (zB [rdK]×zB ([.bool]:LK))):=
 runP CC Tb fu 4 (zA [(38,fd38),(70,fd70)]) (zA []) (zA []) (zA []) fd57 [rdK] [rdK] ([.str]:LK) ([.bool]:LK) x a
theorem fdok57:FDOk Tryd.prog (hasN []) (hasN []) 57 fd57:=⟨⟨Tryd.f57,Tryd.func57,by kernel_rfl,Tryd.ntmps57,Tryd.results57⟩,by kernel_rfl,by kernel_rfl,by kernel_rfl⟩
theorem zMP:FDOk Tryd.prog (hasN []) (hasN []) 38 fd38:=⟨⟨Tryd.f38,Tryd.func38,by kernel_rfl,Tryd.ntmps38,Tryd.results38⟩,by kernel_rfl,by kernel_rfl,by kernel_rfl⟩
theorem zL4:FDOk Tryd.prog (hasN []) (hasN []) 70 fd70:=⟨⟨Tryd.f70,Tryd.func70,by kernel_rfl,Tryd.ntmps70,Tryd.results70⟩,by kernel_rfl,by kernel_rfl,by kernel_rfl⟩
noncomputable def run59 (fu:Nat) (c56:zB ([.int .i64]:LK)->Str->Int->Option (zB ([.int .u8]:LK))) (x:zB [rdK]) (a:zB ([]:LK)):Option (Option (zB [rdK]×zB ([.int .i64]:LK))):=
 runP CC Tb fu 4 (zA [(77,fd77),(78,fd78)]) (zA []) (zA [(56,cRD ([.int .i64]:LK) ([.int .u8]:LK) c56)]) (zA []) fd59 [rdK] [rdK] ([]:LK) ([.int .i64]:LK) x a
theorem fdok59:FDOk Tryd.prog (hasN []) (hasN [56]) 59 fd59:=⟨⟨Tryd.f59,Tryd.func59,by kernel_rfl,Tryd.ntmps59,Tryd.results59⟩,by kernel_rfl,by kernel_rfl,by kernel_rfl⟩
theorem zLY:FDOk Tryd.prog (hasN []) (hasN [56]) 77 fd77:=⟨⟨Tryd.f77,Tryd.func77,by kernel_rfl,Tryd.ntmps77,Tryd.results77⟩,by kernel_rfl,by kernel_rfl,by kernel_rfl⟩
theorem zLu:FDOk Tryd.prog (hasN []) (hasN [56]) 78 fd78:=⟨⟨Tryd.f78,Tryd.func78,by kernel_rfl,Tryd.ntmps78,Tryd.results78⟩,by kernel_rfl,by kernel_rfl,by kernel_rfl⟩
noncomputable def run60 (fu:Nat) (c44:List UInt8×Int×Unit->Option (Int×Unit)) (c56:zB ([.int .i64]:LK)->Str->Int->Option (zB ([.int .u8]:LK))) (x:zB [rdK]) (a:zB ([]:LK)):Option (Option (zB [rdK]×zB ([.int .i64]:LK))):=
 runP CC Tb fu 4 (zA [(77,fd77),(78,fd78)]) (zA [(44,(⟨as44,rs44,c44⟩:Con UU))]) (zA [(56,cRD ([.int .i64]:LK) ([.int .u8]:LK) c56)]) (zA []) fd60 [rdK] [rdK] ([]:LK) ([.int .i64]:LK) x a
theorem fdok60:FDOk Tryd.prog (hasN [44]) (hasN [56]) 60 fd60:=⟨⟨Tryd.f60,Tryd.func60,by kernel_rfl,Tryd.ntmps60,Tryd.results60⟩,by kernel_rfl,by kernel_rfl,by kernel_rfl⟩
theorem zMI:FDOk Tryd.prog (hasN [44]) (hasN [56]) 77 fd77:=⟨⟨Tryd.f77,Tryd.func77,by kernel_rfl,Tryd.ntmps77,Tryd.results77⟩,by kernel_rfl,by kernel_rfl,by kernel_rfl⟩
theorem zLc:FDOk Tryd.prog (hasN [44]) (hasN [56]) 78 fd78:=⟨⟨Tryd.f78,Tryd.func78,by kernel_rfl,Tryd.ntmps78,Tryd.results78⟩,by kernel_rfl,by kernel_rfl,by kernel_rfl⟩
noncomputable def run61 (fu:Nat) (c56:zB ([.int .i64]:LK)->Str->Int->Option (zB ([.int .u8]:LK))) (x:zB [rdK]) (a:zB ([.int .u8]:LK)):Option (Option (zB [rdK]×zB ([.int .i64]:LK))):=
 runP CC Tb fu 2 (zA []) (zA []) (zA [(56,cRD ([.int .i64]:LK) ([.int .u8]:LK) c56)]) (zA []) fd61 [rdK] [rdK] ([.int .u8]:LK) ([.int .i64]:LK) x a
theorem fdok61:FDOk Tryd.prog (hasN []) (hasN [56]) 61 fd61:=⟨⟨Tryd.f61,Tryd.func61,by kernel_rfl,Tryd.ntmps61,Tryd.results61⟩,by kernel_rfl,by kernel_rfl,by kernel_rfl⟩
noncomputable def run62 (fu:Nat) (c57:zB ([.str]:LK)->DD (zB ([.bool]:LK))) (x:zB [rdK]) (a:zB ([]:LK)):Option (Option (zB [rdK]×zB ([.int .i64]:LK))):=
 runP CC Tb fu 2 (zA []) (zA []) (zA []) (zA [(57,cD ([.str]:LK) ([.bool]:LK) c57)]) fd62 [rdK] [rdK] ([]:LK) ([.int .i64]:LK) x a
theorem fdok62:FDOk Tryd.prog (hasN []) (hasN []) 62 fd62:=⟨⟨Tryd.f62,Tryd.func62,by kernel_rfl,Tryd.ntmps62,Tryd.results62⟩,by kernel_rfl,by kernel_rfl,by kernel_rfl⟩
end
section
open Go.Al Go.Den
abbrev as9:List (AK UU):=[.dl TI.tok]
abbrev rs9:List (AK UU):=[.int .i64,.int .i64]
abbrev as10:List (AK UU):=[.int .i64,.str]
abbrev rs10:List (AK UU):=[.dl TI.tok]
abbrev as13:List (AK UU):=[.str]
abbrev rs13:List (AK UU):=[.int .i64,.int .i64]
abbrev as15:List (AK UU):=[.str]
abbrev rs15:List (AK UU):=[.int .i64,.int .i64]
abbrev as17:List (AK UU):=[.int .i32]
abbrev rs17:List (AK UU):=[.str]
abbrev as18:List (AK UU):=[.str]
abbrev rs18:List (AK UU):=[.int .i64]
abbrev as19:List (AK UU):=[.str,.int .i64,.int .i64]
abbrev rs19:List (AK UU):=[.int .i64,.int .i64]
abbrev as27:List (AK UU):=[.str]
abbrev rs27:List (AK UU):=[.dl TI.char]
abbrev as28:List (AK UU):=[.dl TI.char]
abbrev rs28:List (AK UU):=[.str]
abbrev as39:List (AK UU):=[.int .u8]
abbrev rs39:List (AK UU):=[.int .u64]
abbrev as40:List (AK UU):=[.int .u64,.int .u64]
abbrev rs40:List (AK UU):=[.int .u64,.int .u64]
abbrev as41:List (AK UU):=[.str]
abbrev rs41:List (AK UU):=[.bool]
abbrev as45:List (AK UU):=[.bool]
abbrev rs45:List (AK UU):=[.int .i64]
abbrev as74:List (AK UU):=[.str]
abbrev rs74:List (AK UU):=[.int .i64]
abbrev as83:List (AK UU):=[.str]
abbrev rs83:List (AK UU):=[.dl TI.str]
abbrev zKn:List (AK UU):=[.st TI.cho]
abbrev zHH:List (AK UU):=[.int .i64,.int .i64]
abbrev zKl:List (AK UU):=[.st TI.bin]
abbrev zHF:List (AK UU):=[.int .i64,.int .i64]
abbrev jj:List (AK UU):=[.str,.int .i64,.int .i64]
abbrev jN:List (AK UU):=[.int .i64,.int .i64]
abbrev jl:List (AK UU):=[.str,.int .i64,.int .i64]
abbrev jM:List (AK UU):=[.int .i64]
abbrev zKp:List (AK UU):=[.int .i64]
abbrev zHR:List (AK UU):=[.int .i64,.int .i64]
abbrev zK7:List (AK UU):=[.st TI.un]
abbrev zHN:List (AK UU):=[.int .i64,.int .i64]
abbrev za:List (AK UU):=[.st TI.val]
abbrev zZ:List (AK UU):=[.int .i64,.int .i64]
def kf9:Nat->List Nat
 | 0=>[0]
 | 1=>[4]
 | 2=>[4,5]
 | 3=>[4,5,13]
 | 4=>[2,3]
 | 5=>[4,5,26]
 | 6=>[2,3]
 | 7=>[2,3]
 | _=>[]
def hd9:List (Nat×Head UU):=[]
def jn9:List (Nat×Head UU):=[]
noncomputable def fd9:FD UU:=⟨⟨fun d=>hasN [] d,fun d=>hasN [] d,kf9,zA hd9,zA jn9,zW []⟩,zT Tryd.f9,40,[.tmp 2,.tmp 3]⟩
def kf10:Nat->List Nat
 | 0=>[0,1]
 | 1=>[0,5]
 | 2=>[0,5,6]
 | 3=>[0,5,6,7]
 | 4=>[0,5,6,7,8]
 | 5=>[0,5,6,7,8,32]
 | 6=>[0,5,6,7,8]
 | 7=>[0,5,6,7,8,43]
 | 8=>[4]
 | 9=>[0,5,6,7,8,9,10]
 | 10=>[0,5,6,7,8,10]
 | 11=>[0,5,6,7,8,10]
 | 12=>[0,5,6,7,8]
 | 13=>[0,5,6,7]
 | _=>[]
def hd10:List (Nat×Head UU):=[(4,⟨[0,5,6],[(7,.ow true TI.tok)],[(6,rdK)]⟩),(5,⟨[0,5,6,8],[(7,.ow true TI.tok)],[(6,rdK),(8,.box [.int .i64,.str,.int .i64,.int .i64,.int .i64,.bool])]⟩)]
def jn10:List (Nat×Head UU):=[]
noncomputable def fd10:FD UU:=⟨⟨fun d=>hasN [] d,fun d=>hasN [] d,kf10,zA hd10,zA jn10,zW [(10,[(1000066,53,6),(1000067,53,6),(1000066,57,6),(1000067,57,6),(1000066,61,6),(1000067,61,6)]),(11,[(1000088,71,6),(1000089,71,6),(1000088,74,6),(1000089,74,6),(1000088,79,6),(1000089,79,6),(1000088,85,6),(1000089,85,6)])]⟩,zT Tryd.f10,102,[.tmp 4]⟩
def kf13:Nat->List Nat
 | 0=>[0]
 | 1=>[0,4,5]
 | 2=>[0,4,5,12]
 | 3=>[4,5]
 | 4=>[4,5,21]
 | 5=>[4,5]
 | 6=>[4,5,6,7]
 | 7=>[4,5,6,7,27]
 | 8=>[4,5,6,7]
 | 9=>[4,5,6,7,8]
 | 10=>[4,5,6,7,8,36]
 | 11=>[4,5,7,8,9,10]
 | 12=>[4,5,7,8,10,54]
 | 13=>[2,3]
 | 14=>[4,5,6,7]
 | 15=>[6,66]
 | 16=>[2,3]
 | 17=>[2,3]
 | _=>[]
def hd13:List (Nat×Head UU):=[(7,⟨[4,5],[(6,.int .u64),(7,.int .i64)],[]⟩)]
def jn13:List (Nat×Head UU):=[]
noncomputable def fd13:FD UU:=⟨⟨fun d=>hasN [] d,fun d=>hasN [] d,kf13,zA hd13,zA jn13,zW []⟩,zT Tryd.f13,69,[.tmp 2,.tmp 3]⟩
def kf15:Nat->List Nat
 | 0=>[0]
 | 1=>[0,21]
 | 2=>[2,3]
 | 3=>[4]
 | 4=>[4,27]
 | 5=>[2,3]
 | 6=>[4,39]
 | 7=>[2,3]
 | 8=>[4,5]
 | 9=>[4,5,52]
 | 10=>[2,3]
 | 11=>[4,59]
 | 12=>[2,3]
 | 13=>[2,3]
 | _=>[]
def hd15:List (Nat×Head UU):=[]
def jn15:List (Nat×Head UU):=[]
noncomputable def fd15:FD UU:=⟨⟨fun d=>hasN [] d,fun d=>hasN [] d,kf15,zA hd15,zA jn15,zW []⟩,zT Tryd.f15,63,[.tmp 2,.tmp 3]⟩
def kf17:Nat->List Nat
 | 0=>[0]
 | 1=>[3]
 | 2=>[3,4]
 | 3=>[3,4,9]
 | 4=>[3,4]
 | 5=>[3,4]
 | 6=>[3,4,5]
 | 7=>[3,4,5,13]
 | 8=>[3,4,5]
 | 9=>[3,4,5]
 | 10=>[4,5,25]
 | 11=>[2]
 | 12=>[2]
 | _=>[]
def hd17:List (Nat×Head UU):=[(7,⟨[4],[(3,.int .i64),(5,.str)],[]⟩)]
def jn17:List (Nat×Head UU):=[]
noncomputable def fd17:FD UU:=⟨⟨fun d=>hasN [] d,fun d=>hasN [] d,kf17,zA hd17,zA jn17,zW []⟩,zT Tryd.f17,29,[.tmp 2]⟩
def kf18:Nat->List Nat
 | 0=>[0]
 | 1=>[3,4]
 | 2=>[3,4,12]
 | 3=>[2]
 | 4=>[2]
 | _=>[]
def hd18:List (Nat×Head UU):=[]
def jn18:List (Nat×Head UU):=[]
noncomputable def fd18:FD UU:=⟨⟨fun d=>hasN [] d,fun d=>hasN [] d,kf18,zA hd18,zA jn18,zW []⟩,zT Tryd.f18,16,[.tmp 2]⟩
def kf19:Nat->List Nat
 | 0=>[0,1,2]
 | 1=>[0,1,2,10]
 | 2=>[0,1,2,10,11]
 | 3=>[0,1,2,10,11]
 | 4=>[6,7]
 | 5=>[0,1,2,10,17]
 | 6=>[6,7]
 | 7=>[0,1,2,10,22]
 | 8=>[6,7]
 | 9=>[0,1,2,10,27]
 | 10=>[6,7]
 | 11=>[0,1,2,10,32]
 | 12=>[6,7]
 | 13=>[0,1,2,10,38]
 | 14=>[6,7]
 | 15=>[0,1,2,10,44]
 | 16=>[6,7]
 | 17=>[0,1,2,10,50]
 | 18=>[6,7]
 | 19=>[0,1,2,10,56]
 | 20=>[6,7]
 | 21=>[0,1,2,10,62]
 | 22=>[6,7]
 | 23=>[0,1,2,10,68]
 | 24=>[6,7]
 | 25=>[0,1,2,10,73]
 | 26=>[6,7]
 | 27=>[0,1,2,78]
 | 28=>[6,7]
 | 29=>[0,1,2,88]
 | 30=>[0,1,2,94]
 | 31=>[6,7]
 | 32=>[0,1,2,8]
 | 33=>[0,1,2,8,97]
 | 34=>[0,1,2,8]
 | 35=>[0,1,2,8,101]
 | 36=>[0,1,2,8]
 | 37=>[0,1,2,8]
 | 38=>[6,7]
 | 39=>[0,1,2,108]
 | 40=>[6,7]
 | 41=>[0,1,2,9]
 | 42=>[1,2,9,113]
 | 43=>[6,7]
 | 44=>[6,7]
 | _=>[]
def hd19:List (Nat×Head UU):=[(33,⟨[0,2],[(1,.int .i64),(8,.int .i64)],[]⟩)]
def jn19:List (Nat×Head UU):=[]
noncomputable def fd19:FD UU:=⟨⟨fun d=>hasN [] d,fun d=>hasN [] d,kf19,zA hd19,zA jn19,zW []⟩,zT Tryd.f19,120,[.tmp 6,.tmp 7]⟩
def kf23:Nat->List Nat
 | 0=>[0,1]
 | 1=>[0,1,5]
 | 2=>[0,1,5,12]
 | 3=>[4]
 | 4=>[0,1,5,6]
 | 5=>[0,1,5,6,19]
 | 6=>[0,1,5,6]
 | 7=>[0,1,5,6,7]
 | 8=>[0,1,5,6,7,29]
 | 9=>[0,1,5,6]
 | 10=>[0,1,5,6]
 | 11=>[0,5]
 | 12=>[4]
 | _=>[]
def hd23:List (Nat×Head UU):=[(5,⟨[0,1],[(5,.int .i64),(6,.int .i64)],[(0,.arr TI.tok)]⟩)]
def jn23:List (Nat×Head UU):=[]
noncomputable def fd23:FD UU:=⟨⟨fun d=>hasN [] d,fun d=>hasN [] d,kf23,zA hd23,zA jn23,zW []⟩,zT Tryd.f23,42,[.tmp 4]⟩
def kf24:Nat->List Nat
 | 0=>[0]
 | 1=>[0,4]
 | 2=>[2]
 | 3=>[2]
 | _=>[]
def hd24:List (Nat×Head UU):=[]
def jn24:List (Nat×Head UU):=[]
noncomputable def fd24:FD UU:=⟨⟨fun d=>hasN [5,7] d,fun d=>hasN [] d,kf24,zA hd24,zA jn24,zW []⟩,zT Tryd.f24,8,[.tmp 2]⟩
def kf25:Nat->List Nat
 | 0=>[1]
 | 1=>[2]
 | _=>[]
def hd25:List (Nat×Head UU):=[]
def jn25:List (Nat×Head UU):=[]
noncomputable def fd25:FD UU:=⟨⟨fun d=>hasN [] d,fun d=>hasN [] d,kf25,zA hd25,zA jn25,zW []⟩,zT Tryd.f25,6,[.tmp 2]⟩
def kf26:Nat->List Nat
 | 0=>[0,1]
 | 1=>[0,1,5]
 | 2=>[0,1,5,18]
 | 3=>[0,4]
 | 4=>[0,1,5]
 | 5=>[0,1,5,6]
 | 6=>[0,1,5,6]
 | 7=>[0,4]
 | _=>[]
def hd26:List (Nat×Head UU):=[]
def jn26:List (Nat×Head UU):=[]
noncomputable def fd26:FD UU:=⟨⟨fun d=>hasN [] d,fun d=>hasN [] d,kf26,zA hd26,zA jn26,zW []⟩,zT Tryd.f26,34,[.tmp 4]⟩
def kf39:Nat->List Nat
 | 0=>[0]
 | 1=>[0,3]
 | 2=>[2]
 | 3=>[0,13]
 | 4=>[2]
 | 5=>[0,24]
 | 6=>[2]
 | 7=>[2]
 | _=>[]
def hd39:List (Nat×Head UU):=[]
def jn39:List (Nat×Head UU):=[]
noncomputable def fd39:FD UU:=⟨⟨fun d=>hasN [] d,fun d=>hasN [] d,kf39,zA hd39,zA jn39,zW []⟩,zT Tryd.f39,35,[.tmp 2]⟩
def kf41:Nat->List Nat
 | 0=>[0]
 | 1=>[0,7,8]
 | 2=>[0,7,8,9]
 | 3=>[0,4,7,8]
 | 4=>[0,4,7,8,11,12]
 | 5=>[0,4,7,8,11,12,13]
 | 6=>[0,4,6,7,8,11,12]
 | 7=>[0,4,7,8,11,12,26]
 | 8=>[2]
 | 9=>[0,4,7,8,11,12]
 | 10=>[0,7,8]
 | 11=>[2]
 | _=>[]
def hd41:List (Nat×Head UU):=[(2,⟨[0,7],[(8,.int .i64)],[]⟩),(5,⟨[0,4,7,8,11],[(12,.int .i64)],[]⟩)]
def jn41:List (Nat×Head UU):=[]
noncomputable def fd41:FD UU:=⟨⟨fun d=>hasN [] d,fun d=>hasN [] d,kf41,zA hd41,zA jn41,zW []⟩,zT Tryd.f41,29,[.tmp 2]⟩
def kf48:Nat->List Nat
 | 0=>[0,1]
 | 1=>[4]
 | _=>[]
def hd48:List (Nat×Head UU):=[]
def jn48:List (Nat×Head UU):=[]
noncomputable def fd48:FD UU:=⟨⟨fun d=>hasN [] d,fun d=>hasN [] d,kf48,zA hd48,zA jn48,zW []⟩,zT Tryd.f48,9,[.tmp 4]⟩
def kf50:Nat->List Nat
 | 0=>[0,1]
 | 1=>[0,1,7,8]
 | 2=>[0,1,7,8,9]
 | 3=>[0,1,5,7,8]
 | 4=>[0,1,5,7,8,16]
 | 5=>[4]
 | 6=>[0,1,7,8]
 | 7=>[4]
 | _=>[]
def hd50:List (Nat×Head UU):=[(2,⟨[0,1,7],[(8,.int .i64)],[(0,.arr TI.tok)]⟩)]
def jn50:List (Nat×Head UU):=[]
noncomputable def fd50:FD UU:=⟨⟨fun d=>hasN [] d,fun d=>hasN [] d,kf50,zA hd50,zA jn50,zW []⟩,zT Tryd.f50,19,[.tmp 4]⟩
def kf51:Nat->List Nat
 | 0=>[0,1,2]
 | 1=>[0,1,2,7]
 | 2=>[0,1,2,7,17]
 | 3=>[0,1,2,7,8]
 | 4=>[0,1,2,7,8,9]
 | 5=>[0,1,2,7,8,9,28]
 | 6=>[0,6]
 | 7=>[0,1,2,7,8,9]
 | 8=>[0,1,2,7]
 | 9=>[0,6]
 | _=>[]
def hd51:List (Nat×Head UU):=[(2,⟨[0,1,2],[(7,.st TI.val)],[(0,exK)]⟩)]
def jn51:List (Nat×Head UU):=[]
noncomputable def fd51:FD UU:=⟨⟨fun d=>hasN [] d,fun d=>hasN [] d,kf51,zA hd51,zA jn51,zW []⟩,zT Tryd.f51,43,[.tmp 6]⟩
def kf52:Nat->List Nat
 | 0=>[0]
 | 1=>[0,18]
 | 2=>[0,2]
 | 3=>[0,2]
 | _=>[]
def hd52:List (Nat×Head UU):=[]
def jn52:List (Nat×Head UU):=[]
noncomputable def fd52:FD UU:=⟨⟨fun d=>hasN [] d,fun d=>hasN [] d,kf52,zA hd52,zA jn52,zW []⟩,zT Tryd.f52,26,[.tmp 2]⟩
def kf53:Nat->List Nat
 | 0=>[0,7]
 | 1=>[0]
 | 2=>[0]
 | _=>[]
def hd53:List (Nat×Head UU):=[]
def jn53:List (Nat×Head UU):=[]
noncomputable def fd53:FD UU:=⟨⟨fun d=>hasN [] d,fun d=>hasN [] d,kf53,zA hd53,zA jn53,zW []⟩,zT Tryd.f53,19,[]⟩
def kf54:Nat->List Nat
 | 0=>[0,1]
 | 1=>[0,1,12]
 | 2=>[0]
 | 3=>[0,4]
 | 4=>[0,4]
 | _=>[]
def hd54:List (Nat×Head UU):=[]
def jn54:List (Nat×Head UU):=[]
noncomputable def fd54:FD UU:=⟨⟨fun d=>hasN [] d,fun d=>hasN [] d,kf54,zA hd54,zA jn54,zW []⟩,zT Tryd.f54,21,[.tmp 4]⟩
def kf72:Nat->List Nat
 | 0=>[0,1]
 | 1=>[0,1,7,8]
 | 2=>[0,1,7,8,9]
 | 3=>[0,1,5,7,8]
 | 4=>[0,1,5,7,8,16]
 | 5=>[4]
 | 6=>[0,1,7,8]
 | 7=>[4]
 | _=>[]
def hd72:List (Nat×Head UU):=[(2,⟨[0,1,7],[(8,.int .i64)],[]⟩)]
def jn72:List (Nat×Head UU):=[]
noncomputable def fd72:FD UU:=⟨⟨fun d=>hasN [] d,fun d=>hasN [] d,kf72,zA hd72,zA jn72,zW []⟩,zT Tryd.f72,19,[.tmp 4]⟩
def kf73:Nat->List Nat
 | 0=>[0,1]
 | 1=>[0,1,5]
 | 2=>[0,1,5,21]
 | 3=>[0,4]
 | 4=>[0,1,5,26]
 | 5=>[0]
 | 6=>[0,4]
 | 7=>[0,1,5]
 | 8=>[0,4]
 | _=>[]
def hd73:List (Nat×Head UU):=[]
def jn73:List (Nat×Head UU):=[]
noncomputable def fd73:FD UU:=⟨⟨fun d=>hasN [] d,fun d=>hasN [] d,kf73,zA hd73,zA jn73,zW []⟩,zT Tryd.f73,41,[.tmp 4]⟩
def kf74:Nat->List Nat
 | 0=>[0]
 | 1=>[0,5,6]
 | 2=>[0,5,6,7]
 | 3=>[0,3,4,5,6]
 | 4=>[0,3,5,6,13]
 | 5=>[2]
 | 6=>[0,5,6]
 | 7=>[2]
 | _=>[]
def hd74:List (Nat×Head UU):=[(2,⟨[0,5],[(6,.int .i64)],[]⟩)]
def jn74:List (Nat×Head UU):=[]
noncomputable def fd74:FD UU:=⟨⟨fun d=>hasN [] d,fun d=>hasN [] d,kf74,zA hd74,zA jn74,zW []⟩,zT Tryd.f74,17,[.tmp 2]⟩
def kf82:Nat->List Nat
 | 0=>[0,1]
 | 1=>[0,1,11]
 | 2=>[0,1]
 | 3=>[0,5]
 | 4=>[0,5]
 | 5=>[0,4]
 | 6=>[0,25]
 | 7=>[0]
 | 8=>[0,4]
 | 9=>[0,6]
 | 10=>[0,6]
 | 11=>[0,6,7,8]
 | 12=>[0,6,7,8,45]
 | 13=>[0,7,8]
 | 14=>[0,6,7,8,45,49]
 | 15=>[0,7,8]
 | 16=>[0,6,7,8,45,57]
 | 17=>[0,7,8]
 | 18=>[0,7,8,65]
 | 19=>[0,7,8,71]
 | 20=>[0,7]
 | 21=>[0,4]
 | _=>[]
def hd82:List (Nat×Head UU):=[]
def jn82:List (Nat×Head UU):=[(19,⟨[0],[(7,.int .i64),(8,.int .i64)],[(0,exK)]⟩)]
noncomputable def fd82:FD UU:=⟨⟨fun d=>hasN [] d,fun d=>hasN [] d,kf82,zA hd82,zA jn82,zW []⟩,zT Tryd.f82,78,[.tmp 4]⟩
def kf109:Nat->List Nat
 | 0=>[1]
 | 1=>[1,4,5]
 | 2=>[1,4,5,12]
 | 3=>[2,3]
 | 4=>[1,16]
 | 5=>[2,3]
 | 6=>[2,3]
 | _=>[]
def hd109:List (Nat×Head UU):=[]
def jn109:List (Nat×Head UU):=[]
noncomputable def fd109:FD UU:=⟨⟨fun d=>hasN [] d,fun d=>hasN [] d,kf109,zA hd109,zA jn109,zW []⟩,zT Tryd.f109,29,[.tmp 2,.tmp 3]⟩
def kf110:Nat->List Nat
 | 0=>[1]
 | 1=>[1,4,5]
 | 2=>[1,4,5,13]
 | 3=>[2,3]
 | 4=>[1,4,17]
 | 5=>[2,3]
 | 6=>[1,4,25]
 | 7=>[2,3]
 | 8=>[1,4,5,6]
 | 9=>[1,4,5,6,40]
 | 10=>[2,3]
 | 11=>[2,3]
 | _=>[]
def hd110:List (Nat×Head UU):=[]
def jn110:List (Nat×Head UU):=[]
noncomputable def fd110:FD UU:=⟨⟨fun d=>hasN [] d,fun d=>hasN [] d,kf110,zA hd110,zA jn110,zW []⟩,zT Tryd.f110,49,[.tmp 2,.tmp 3]⟩
def kf111:Nat->List Nat
 | 0=>[0,1,2]
 | 1=>[0,1,2,8]
 | 2=>[0,1,2,8,9]
 | 3=>[0,1,2,8,9]
 | 4=>[0,1,2,13]
 | 5=>[6,7]
 | 6=>[0,1,2,15]
 | 7=>[6,7]
 | 8=>[1,2,23]
 | 9=>[6,7]
 | 10=>[6,7]
 | 11=>[0,1,2,8,30]
 | 12=>[0,1,2,8,30]
 | 13=>[0,1,2,38]
 | 14=>[6,7]
 | 15=>[1,2,40]
 | 16=>[6,7]
 | 17=>[6,7]
 | 18=>[0,1,2,8,47]
 | 19=>[0,1,2,47]
 | 20=>[6,7]
 | 21=>[6,7]
 | _=>[]
def hd111:List (Nat×Head UU):=[]
def jn111:List (Nat×Head UU):=[]
noncomputable def fd111:FD UU:=⟨⟨fun d=>hasN [] d,fun d=>hasN [] d,kf111,zA hd111,zA jn111,zW []⟩,zT Tryd.f111,57,[.tmp 6,.tmp 7]⟩
def kf112:Nat->List Nat
 | 0=>[0]
 | 1=>[3]
 | 2=>[2]
 | 3=>[2]
 | _=>[]
def hd112:List (Nat×Head UU):=[]
def jn112:List (Nat×Head UU):=[]
noncomputable def kO:FD UU:=⟨⟨fun d=>hasN [] d,fun d=>hasN [] d,kf112,zA hd112,zA jn112,zW []⟩,zT Tryd.f112,4,[.tmp 2]⟩
def kf113:Nat->List Nat
 | 0=>[0,1,2]
 | 1=>[1,2,7]
 | 2=>[1,2,7,8]
 | 3=>[6]
 | 4=>[1,2,7,13]
 | 5=>[6]
 | 6=>[1,2,7,18]
 | 7=>[6]
 | 8=>[1,2,7,23]
 | 9=>[6]
 | 10=>[1,2,7,28]
 | 11=>[6]
 | 12=>[1,2,7,33]
 | 13=>[6]
 | 14=>[1,2,7,38]
 | 15=>[6]
 | 16=>[1,2,7,44]
 | 17=>[6]
 | 18=>[1,2,7,50]
 | 19=>[6]
 | 20=>[1,2,7,56]
 | 21=>[6]
 | 22=>[1,2,62]
 | 23=>[6]
 | 24=>[6]
 | _=>[]
def hd113:List (Nat×Head UU):=[]
def jn113:List (Nat×Head UU):=[]
noncomputable def fd113:FD UU:=⟨⟨fun d=>hasN [] d,fun d=>hasN [] d,kf113,zA hd113,zA jn113,zW []⟩,zT Tryd.f113,72,[.tmp 6]⟩
def kf114:Nat->List Nat
 | 0=>[0]
 | 1=>[2,3]
 | _=>[]
def hd114:List (Nat×Head UU):=[]
def jn114:List (Nat×Head UU):=[]
noncomputable def fd114:FD UU:=⟨⟨fun d=>hasN [] d,fun d=>hasN [] d,kf114,zA hd114,zA jn114,zW []⟩,zT Tryd.f114,5,[.tmp 2,.tmp 3]⟩
def kf115:Nat->List Nat
 | 0=>[1]
 | 1=>[1,4,5]
 | 2=>[4,5,13]
 | 3=>[4,5,13,14]
 | 4=>[4,5]
 | 5=>[4,5,13,18]
 | 6=>[4,5]
 | 7=>[4,5,23]
 | 8=>[4,5]
 | 9=>[4,5,28]
 | 10=>[2,3]
 | 11=>[2,3]
 | _=>[]
def hd115:List (Nat×Head UU):=[]
def jn115:List (Nat×Head UU):=[]
noncomputable def fd115:FD UU:=⟨⟨fun d=>hasN [] d,fun d=>hasN [] d,kf115,zA hd115,zA jn115,zW []⟩,zT Tryd.f115,31,[.tmp 2,.tmp 3]⟩
noncomputable def run39 (fu:Nat) (nf:Nat->Bool) (x0:Int):Option (zJ rs39):=
 yY CC Tb fu 2 (zA []) (zA []) (zA []) (zA []) fd39 as39 rs39 nf (x0,())
theorem fdok39:FDOk Tryd.prog (hasN []) (hasN []) 39 fd39:=⟨⟨Tryd.f39,Tryd.func39,by kernel_rfl,Tryd.ntmps39,Tryd.results39⟩,by kernel_rfl,by kernel_rfl,by kernel_rfl⟩
noncomputable def run41 (fu:Nat) (nf:Nat->Bool) (x0:List UInt8):Option (zJ rs41):=
 yY CC Tb fu 2 (zA []) (zA []) (zA []) (zA []) fd41 as41 rs41 nf (x0,())
theorem fdok41:FDOk Tryd.prog (hasN []) (hasN []) 41 fd41:=⟨⟨Tryd.f41,Tryd.func41,by kernel_rfl,Tryd.ntmps41,Tryd.results41⟩,by kernel_rfl,by kernel_rfl,by kernel_rfl⟩
noncomputable def run13 (fu:Nat) (c39:Int×Unit->Option (Int×Unit)) (c40:Int×Int×Unit->Option (Int×Int×Unit)) (c41:List UInt8×Unit->Option (Bool×Unit)) (nf:Nat->Bool) (x0:List UInt8):Option (zJ rs13):=
 yY CC Tb fu 4 (zA [(38,fd38),(70,fd70)]) (zA [(39,(⟨as39,rs39,c39⟩:Con UU)),(40,(⟨as40,rs40,c40⟩:Con UU)),(41,(⟨as41,rs41,c41⟩:Con UU))]) (zA []) (zA []) fd13 as13 rs13 nf (x0,())
theorem fdok13:FDOk Tryd.prog (hasN [39,40,41]) (hasN []) 13 fd13:=⟨⟨Tryd.f13,Tryd.func13,by kernel_rfl,Tryd.ntmps13,Tryd.results13⟩,by kernel_rfl,by kernel_rfl,by kernel_rfl⟩
theorem zMD:FDOk Tryd.prog (hasN [39,40,41]) (hasN []) 38 fd38:=⟨⟨Tryd.f38,Tryd.func38,by kernel_rfl,Tryd.ntmps38,Tryd.results38⟩,by kernel_rfl,by kernel_rfl,by kernel_rfl⟩
theorem zL3:FDOk Tryd.prog (hasN [39,40,41]) (hasN []) 70 fd70:=⟨⟨Tryd.f70,Tryd.func70,by kernel_rfl,Tryd.ntmps70,Tryd.results70⟩,by kernel_rfl,by kernel_rfl,by kernel_rfl⟩
noncomputable def run15 (fu:Nat) (c44:List UInt8×Int×Unit->Option (Int×Unit)) (nf:Nat->Bool) (x0:List UInt8):Option (zJ rs15):=
 yY CC Tb fu 2 (zA []) (zA [(44,(⟨as44,rs44,c44⟩:Con UU))]) (zA []) (zA []) fd15 as15 rs15 nf (x0,())
theorem fdok15:FDOk Tryd.prog (hasN [44]) (hasN []) 15 fd15:=⟨⟨Tryd.f15,Tryd.func15,by kernel_rfl,Tryd.ntmps15,Tryd.results15⟩,by kernel_rfl,by kernel_rfl,by kernel_rfl⟩
noncomputable def run113 (fu:Nat) (nf:Nat->Bool) (x0:List UInt8) (x1:Int) (x2:Int):Option (zJ jM):=
 yY CC Tb fu 3 (zA [(112,kO)]) (zA []) (zA []) (zA []) fd113 jl jM nf (x0,x1,x2,())
theorem zOp:FDOk Tryd.prog (hasN []) (hasN []) 113 fd113:=⟨⟨Tryd.f113,Tryd.func113,by kernel_rfl,Tryd.ntmps113,Tryd.results113⟩,by kernel_rfl,by kernel_rfl,by kernel_rfl⟩
theorem zJj:FDOk Tryd.prog (hasN []) (hasN []) 112 kO:=⟨⟨Tryd.f112,Tryd.func112,by kernel_rfl,Tryd.ntmps112,Tryd.results112⟩,by kernel_rfl,by kernel_rfl,by kernel_rfl⟩
noncomputable def run111 (fu:Nat) (c113:List UInt8×Int×Int×Unit->Option (Int×Unit)) (nf:Nat->Bool) (x0:List UInt8) (x1:Int) (x2:Int):Option (zJ jN):=
 yY CC Tb fu 3 (zA [(112,kO)]) (zA [(113,(⟨jl,jM,c113⟩:Con UU))]) (zA []) (zA []) fd111 jj jN nf (x0,x1,x2,())
theorem zOx:FDOk Tryd.prog (hasN [113]) (hasN []) 111 fd111:=⟨⟨Tryd.f111,Tryd.func111,by kernel_rfl,Tryd.ntmps111,Tryd.results111⟩,by kernel_rfl,by kernel_rfl,by kernel_rfl⟩
theorem zJf:FDOk Tryd.prog (hasN [113]) (hasN []) 112 kO:=⟨⟨Tryd.f112,Tryd.func112,by kernel_rfl,Tryd.ntmps112,Tryd.results112⟩,by kernel_rfl,by kernel_rfl,by kernel_rfl⟩
noncomputable def run74 (fu:Nat) (c83:List UInt8×Unit->Option (List (List UInt8)×Unit)) (nf:Nat->Bool) (x0:List UInt8):Option (zJ rs74):=
 yY CC Tb fu 4 (zA [(48,fd48),(72,fd72)]) (zA [(83,(⟨as83,rs83,c83⟩:Con UU))]) (zA []) (zA []) fd74 as74 rs74 nf (x0,())
theorem fdok74:FDOk Tryd.prog (hasN [83]) (hasN []) 74 fd74:=⟨⟨Tryd.f74,Tryd.func74,by kernel_rfl,Tryd.ntmps74,Tryd.results74⟩,by kernel_rfl,by kernel_rfl,by kernel_rfl⟩
theorem zMG:FDOk Tryd.prog (hasN [83]) (hasN []) 48 fd48:=⟨⟨Tryd.f48,Tryd.func48,by kernel_rfl,Tryd.ntmps48,Tryd.results48⟩,by kernel_rfl,by kernel_rfl,by kernel_rfl⟩
theorem zL7:FDOk Tryd.prog (hasN [83]) (hasN []) 72 fd72:=⟨⟨Tryd.f72,Tryd.func72,by kernel_rfl,Tryd.ntmps72,Tryd.results72⟩,by kernel_rfl,by kernel_rfl,by kernel_rfl⟩
noncomputable def run114 (fu:Nat) (nf:Nat->Bool) (x0:Int):Option (zJ zHR):=
 yY CC Tb fu 2 (zA []) (zA []) (zA []) (zA []) fd114 zKp zHR nf (x0,())
theorem zNy:FDOk Tryd.prog (hasN []) (hasN []) 114 fd114:=⟨⟨Tryd.f114,Tryd.func114,by kernel_rfl,Tryd.ntmps114,Tryd.results114⟩,by kernel_rfl,by kernel_rfl,by kernel_rfl⟩
noncomputable def run115 (fu:Nat) (c1000000:VT×Unit->Option (Int×Int×Unit)) (nf:Nat->Bool) (x0:UnT):Option (zJ zHN):=
 yY CC Tb fu 3 (zA [(112,kO)]) (zA [(1000000,(⟨za,zZ,c1000000⟩:Con UU))]) (zA []) (zA []) fd115 zK7 zHN nf (x0,())
theorem zOC:FDOk Tryd.prog (hasN [1000000]) (hasN []) 115 fd115:=⟨⟨Tryd.f115,Tryd.func115,by kernel_rfl,Tryd.ntmps115,Tryd.results115⟩,by kernel_rfl,by kernel_rfl,by kernel_rfl⟩
theorem zJl:FDOk Tryd.prog (hasN [1000000]) (hasN []) 112 kO:=⟨⟨Tryd.f112,Tryd.func112,by kernel_rfl,Tryd.ntmps112,Tryd.results112⟩,by kernel_rfl,by kernel_rfl,by kernel_rfl⟩
noncomputable def run110 (fu:Nat) (c111:List UInt8×Int×Int×Unit->Option (Int×Int×Unit)) (c1000000:VT×Unit->Option (Int×Int×Unit)) (nf:Nat->Bool) (x0:BinT):Option (zJ zHF):=
 yY CC Tb fu 2 (zA []) (zA [(111,(⟨jj,jN,c111⟩:Con UU)),(1000000,(⟨za,zZ,c1000000⟩:Con UU))]) (zA []) (zA []) fd110 zKl zHF nf (x0,())
theorem zO9:FDOk Tryd.prog (hasN [111,1000000]) (hasN []) 110 fd110:=⟨⟨Tryd.f110,Tryd.func110,by kernel_rfl,Tryd.ntmps110,Tryd.results110⟩,by kernel_rfl,by kernel_rfl,by kernel_rfl⟩
noncomputable def run109 (fu:Nat) (c1000000:VT×Unit->Option (Int×Int×Unit)) (nf:Nat->Bool) (x0:ChoT):Option (zJ zHH):=
 yY CC Tb fu 2 (zA []) (zA [(1000000,(⟨za,zZ,c1000000⟩:Con UU))]) (zA []) (zA []) fd109 zKn zHH nf (x0,())
theorem zPG:FDOk Tryd.prog (hasN [1000000]) (hasN []) 109 fd109:=⟨⟨Tryd.f109,Tryd.func109,by kernel_rfl,Tryd.ntmps109,Tryd.results109⟩,by kernel_rfl,by kernel_rfl,by kernel_rfl⟩
noncomputable def run17 (fu:Nat) (nf:Nat->Bool) (x0:Int):Option (zJ rs17):=
 yY CC Tb fu 2 (zA []) (zA []) (zA []) (zA []) fd17 as17 rs17 nf (x0,())
theorem fdok17:FDOk Tryd.prog (hasN []) (hasN []) 17 fd17:=⟨⟨Tryd.f17,Tryd.func17,by kernel_rfl,Tryd.ntmps17,Tryd.results17⟩,by kernel_rfl,by kernel_rfl,by kernel_rfl⟩
noncomputable def run19 (fu:Nat) (c45:Bool×Unit->Option (Int×Unit)) (nf:Nat->Bool) (x0:List UInt8) (x1:Int) (x2:Int):Option (zJ rs19):=
 yY CC Tb fu 2 (zA []) (zA [(45,(⟨as45,rs45,c45⟩:Con UU))]) (zA []) (zA []) fd19 as19 rs19 nf (x0,x1,x2,())
theorem fdok19:FDOk Tryd.prog (hasN [45]) (hasN []) 19 fd19:=⟨⟨Tryd.f19,Tryd.func19,by kernel_rfl,Tryd.ntmps19,Tryd.results19⟩,by kernel_rfl,by kernel_rfl,by kernel_rfl⟩
noncomputable def run52 (fu:Nat) (x:zB [exK]) (a:zB ([]:LK)):Option (Option (zB [exK]×zB ([.str]:LK))):=
 runP CC Tb fu 2 (zA []) (zA []) (zA []) (zA []) fd52 [exK] [exK] ([]:LK) ([.str]:LK) x a
theorem fdok52:FDOk Tryd.prog (hasN []) (hasN []) 52 fd52:=⟨⟨Tryd.f52,Tryd.func52,by kernel_rfl,Tryd.ntmps52,Tryd.results52⟩,by kernel_rfl,by kernel_rfl,by kernel_rfl⟩
noncomputable def run53 (fu:Nat) (c52:zB ([]:LK)->EE (zB ([.str]:LK))) (x:zB [exK]) (a:zB ([.str]:LK)):Option (Option (zB [exK]×zB ([]:LK))):=
 runP CC Tb fu 2 (zA []) (zA []) (zA []) (zA [(52,cE ([]:LK) ([.str]:LK) c52)]) fd53 [exK] [exK] ([.str]:LK) ([]:LK) x a
theorem fdok53:FDOk Tryd.prog (hasN []) (hasN []) 53 fd53:=⟨⟨Tryd.f53,Tryd.func53,by kernel_rfl,Tryd.ntmps53,Tryd.results53⟩,by kernel_rfl,by kernel_rfl,by kernel_rfl⟩
noncomputable def run54 (fu:Nat) (c26:zB ([.int .i64]:LK)->EE (zB ([.st TI.val]:LK))) (x:zB [exK]) (a:zB ([.int .i64]:LK)):Option (Option (zB [exK]×zB ([.st TI.val]:LK))):=
 runP CC Tb fu 2 (zA []) (zA []) (zA []) (zA [(26,cE ([.int .i64]:LK) ([.st TI.val]:LK) c26)]) fd54 [exK] [exK] ([.int .i64]:LK) ([.st TI.val]:LK) x a
theorem fdok54:FDOk Tryd.prog (hasN []) (hasN []) 54 fd54:=⟨⟨Tryd.f54,Tryd.func54,by kernel_rfl,Tryd.ntmps54,Tryd.results54⟩,by kernel_rfl,by kernel_rfl,by kernel_rfl⟩
noncomputable def run26 (fu:Nat) (c51:zB ([.int .i64,.int .i64]:LK)->EE (zB ([.st TI.val]:LK))) (c52:zB ([]:LK)->EE (zB ([.str]:LK))) (c53:zB ([.str]:LK)->EE (zB ([]:LK))) (c54:zB ([.int .i64]:LK)->EE (zB ([.st TI.val]:LK))) (x:zB [exK]) (a:zB ([.int .i64]:LK)):Option (Option (zB [exK]×zB ([.st TI.val]:LK))):=
 runP CC Tb fu 2 (zA []) (zA []) (zA []) (zA [(51,cE ([.int .i64,.int .i64]:LK) ([.st TI.val]:LK) c51),(52,cE ([]:LK) ([.str]:LK) c52),(53,cE ([.str]:LK) ([]:LK) c53),(54,cE ([.int .i64]:LK) ([.st TI.val]:LK) c54)]) fd26 [exK] [exK] ([.int .i64]:LK) ([.st TI.val]:LK) x a
theorem fdok26:FDOk Tryd.prog (hasN []) (hasN []) 26 fd26:=⟨⟨Tryd.f26,Tryd.func26,by kernel_rfl,Tryd.ntmps26,Tryd.results26⟩,by kernel_rfl,by kernel_rfl,by kernel_rfl⟩
noncomputable def run51 (fu:Nat) (c74:List UInt8×Unit->Option (Int×Unit)) (c51:zB ([.int .i64,.int .i64]:LK)->EE (zB ([.st TI.val]:LK))) (c52:zB ([]:LK)->EE (zB ([.str]:LK))) (c53:zB ([.str]:LK)->EE (zB ([]:LK))) (c73:zB ([.int .i64]:LK)->EE (zB ([.st TI.val]:LK))) (x:zB [exK]) (a:zB ([.int .i64,.int .i64]:LK)):Option (Option (zB [exK]×zB ([.st TI.val]:LK))):=
 runP CC Tb fu 2 (zA []) (zA [(74,(⟨as74,rs74,c74⟩:Con UU))]) (zA []) (zA [(51,cE ([.int .i64,.int .i64]:LK) ([.st TI.val]:LK) c51),(52,cE ([]:LK) ([.str]:LK) c52),(53,cE ([.str]:LK) ([]:LK) c53),(73,cE ([.int .i64]:LK) ([.st TI.val]:LK) c73)]) fd51 [exK] [exK] ([.int .i64,.int .i64]:LK) ([.st TI.val]:LK) x a
theorem fdok51:FDOk Tryd.prog (hasN [74]) (hasN []) 51 fd51:=⟨⟨Tryd.f51,Tryd.func51,by kernel_rfl,Tryd.ntmps51,Tryd.results51⟩,by kernel_rfl,by kernel_rfl,by kernel_rfl⟩
noncomputable def run73 (fu:Nat) (c52:zB ([]:LK)->EE (zB ([.str]:LK))) (c53:zB ([.str]:LK)->EE (zB ([]:LK))) (c73:zB ([.int .i64]:LK)->EE (zB ([.st TI.val]:LK))) (c82:zB ([.int .i64]:LK)->EE (zB ([.st TI.val]:LK))) (x:zB [exK]) (a:zB ([.int .i64]:LK)):Option (Option (zB [exK]×zB ([.st TI.val]:LK))):=
 runP CC Tb fu 2 (zA []) (zA []) (zA []) (zA [(52,cE ([]:LK) ([.str]:LK) c52),(53,cE ([.str]:LK) ([]:LK) c53),(73,cE ([.int .i64]:LK) ([.st TI.val]:LK) c73),(82,cE ([.int .i64]:LK) ([.st TI.val]:LK) c82)]) fd73 [exK] [exK] ([.int .i64]:LK) ([.st TI.val]:LK) x a
theorem fdok73:FDOk Tryd.prog (hasN []) (hasN []) 73 fd73:=⟨⟨Tryd.f73,Tryd.func73,by kernel_rfl,Tryd.ntmps73,Tryd.results73⟩,by kernel_rfl,by kernel_rfl,by kernel_rfl⟩
noncomputable def run82 (fu:Nat) (c13:List UInt8×Unit->Option (Int×Int×Unit)) (c15:List UInt8×Unit->Option (Int×Int×Unit)) (c52:zB ([]:LK)->EE (zB ([.str]:LK))) (c53:zB ([.str]:LK)->EE (zB ([]:LK))) (c54:zB ([.int .i64]:LK)->EE (zB ([.st TI.val]:LK))) (x:zB [exK]) (a:zB ([.int .i64]:LK)):Option (Option (zB [exK]×zB ([.st TI.val]:LK))):=
 runP CC Tb fu 2 (zA []) (zA [(13,(⟨as13,rs13,c13⟩:Con UU)),(15,(⟨as15,rs15,c15⟩:Con UU))]) (zA []) (zA [(52,cE ([]:LK) ([.str]:LK) c52),(53,cE ([.str]:LK) ([]:LK) c53),(54,cE ([.int .i64]:LK) ([.st TI.val]:LK) c54)]) fd82 [exK] [exK] ([.int .i64]:LK) ([.st TI.val]:LK) x a
theorem fdok82:FDOk Tryd.prog (hasN [13,15]) (hasN []) 82 fd82:=⟨⟨Tryd.f82,Tryd.func82,by kernel_rfl,Tryd.ntmps82,Tryd.results82⟩,by kernel_rfl,by kernel_rfl,by kernel_rfl⟩
noncomputable def run23 (fu:Nat) (x:zB ([]:LK)) (a:zB ([.arr TI.tok,.fn 25]:LK)):Option (Option (zB ([]:LK)×zB ([.bl TI.tok]:LK))):=
 zKy CC Tb fu 4 (zA [(25,fd25),(50,fd50)]) (zA []) (zA []) (zA []) fd23 ([]:LK) ([]:LK) ([.arr TI.tok,.fn 25]:LK) ([.bl TI.tok]:LK) x a
theorem fdok23:FDOk Tryd.prog (hasN []) (hasN []) 23 fd23:=⟨⟨Tryd.f23,Tryd.func23,by kernel_rfl,Tryd.ntmps23,Tryd.results23⟩,by kernel_rfl,by kernel_rfl,by kernel_rfl⟩
theorem zMd:FDOk Tryd.prog (hasN []) (hasN []) 25 fd25:=⟨⟨Tryd.f25,Tryd.func25,by kernel_rfl,Tryd.ntmps25,Tryd.results25⟩,by kernel_rfl,by kernel_rfl,by kernel_rfl⟩
theorem zLT:FDOk Tryd.prog (hasN []) (hasN []) 50 fd50:=⟨⟨Tryd.f50,Tryd.func50,by kernel_rfl,Tryd.ntmps50,Tryd.results50⟩,by kernel_rfl,by kernel_rfl,by kernel_rfl⟩
noncomputable def run9 (fu:Nat) (c1000000:VT×Unit->Option (Int×Int×Unit)) (c23:zB ([.arr TI.tok,.fn 25]:LK)->Option (zB ([.bl TI.tok]:LK))) (c26:zB ([.int .i64]:LK)->EE (zB ([.st TI.val]:LK))) (nf:Nat->Bool) (x0:List TokT):Option (zJ rs9):=
 yY CC Tb fu 3 (zA [(24,fd24)]) (zA [(1000000,(⟨za,zZ,c1000000⟩:Con UU))]) (zA []) (zA [(23,cF ([.arr TI.tok,.fn 25]:LK) ([.bl TI.tok]:LK) c23),(26,cE ([.int .i64]:LK) ([.st TI.val]:LK) c26)]) fd9 as9 rs9 nf (x0,())
theorem fdok9:FDOk Tryd.prog (hasN [1000000]) (hasN []) 9 fd9:=⟨⟨Tryd.f9,Tryd.func9,by kernel_rfl,Tryd.ntmps9,Tryd.results9⟩,by kernel_rfl,by kernel_rfl,by kernel_rfl⟩
theorem zMw:FDOk Tryd.prog (hasN [1000000]) (hasN []) 24 fd24:=⟨⟨Tryd.f24,Tryd.func24,by kernel_rfl,Tryd.ntmps24,Tryd.results24⟩,by kernel_rfl,by kernel_rfl,by kernel_rfl⟩
noncomputable def run18 (fu:Nat) (c9:List TokT×Unit->Option (Int×Int×Unit)) (c10:Int×List UInt8×Unit->Option (List TokT×Unit)) (nf:Nat->Bool) (x0:List UInt8):Option (zJ rs18):=
 yY CC Tb fu 2 (zA []) (zA [(9,(⟨as9,rs9,c9⟩:Con UU)),(10,(⟨as10,rs10,c10⟩:Con UU))]) (zA []) (zA []) fd18 as18 rs18 nf (x0,())
theorem fdok18:FDOk Tryd.prog (hasN [9,10]) (hasN []) 18 fd18:=⟨⟨Tryd.f18,Tryd.func18,by kernel_rfl,Tryd.ntmps18,Tryd.results18⟩,by kernel_rfl,by kernel_rfl,by kernel_rfl⟩
noncomputable def run10 (fu:Nat) (c27:List UInt8×Unit->Option (List CharT×Unit)) (c28:List CharT×Unit->Option (List UInt8×Unit)) (c29:zB ([]:LK)->DD (zB ([.bool]:LK))) (c30:zB ([]:LK)->DD (zB ([.int .i64,.int .i64]:LK))) (nf:Nat->Bool) (x0:Int) (x1:List UInt8):Option (zJ rs10):=
 yY CC Tb fu 2 (zA []) (zA [(27,(⟨as27,rs27,c27⟩:Con UU)),(28,(⟨as28,rs28,c28⟩:Con UU))]) (zA []) (zA [(29,cD ([]:LK) ([.bool]:LK) c29),(30,cD ([]:LK) ([.int .i64,.int .i64]:LK) c30)]) fd10 as10 rs10 nf (x0,x1,())
theorem fdok10:FDOk Tryd.prog (hasN [27,28]) (hasN []) 10 fd10:=⟨⟨Tryd.f10,Tryd.func10,by kernel_rfl,Tryd.ntmps10,Tryd.results10⟩,by kernel_rfl,by kernel_rfl,by kernel_rfl⟩
end
end Go.Proofs.YtonnigoiklahdaaDoor
section
namespace Go.Proofs
open Go.Shelf
def Tryd.lays137_ren:Go.Shelf.Ren:=⟨fun | 137=>44 | 217=>71 | 266=>81 | n=>n,fun | 9=>9 | 5=>5 | 3=>3 | n=>n,fun | n=>n⟩
theorem Tryd.lays137:Go.Proofs.Lays.n137 Tryd.prog Tryd.lays137_ren:={
 mixed:=by kernel_rfl
 f137:=Tryd.func44.trans (congrArg some (by kernel_rfl))
 f217:=Tryd.func71.trans (congrArg some (by kernel_rfl))
 f266:=Tryd.func81.trans (congrArg some (by kernel_rfl))
 t3:=Tryd.underlying3
 a3:=Tryd.isAgg3
 z3:=Tryd.sizeOf3
 v3:=Tryd.zeroValue3
 t5:=Tryd.underlying5
 a5:=Tryd.isAgg5
 z5:=Tryd.sizeOf5
 v5:=Tryd.zeroValue5
 t9:=Tryd.underlying9
 a9:=Tryd.isAgg9
 z9:=Tryd.sizeOf9
 v9:=Tryd.zeroValue9 }
open Go.RowKit in
theorem Tryd.strings_IndexByte (s:ByteArray) (c:Int) (w:World) :
 Calls Tryd.prog 44 #[.string s,.int .u8 c] w fun e w'=>e = .returned (.int .i64 (Lib.indexByte s.data.toList c.toNat.toUInt8))/\w' = w:=Any.strings_IndexByte Tryd.lays137 s c w
def Tryd.lays143_ren:Go.Shelf.Ren:=⟨fun | 143=>58 | 219=>76 | 217=>71 | 225=>84 | 224=>85 | 267=>86 | 266=>81 | 314=>89 | n=>n,fun | 9=>9 | 3=>3 | 4=>4 | 5=>5 | 46=>78 | 146=>117 | 51=>116 | n=>n,fun | 1=>1 | n=>n⟩
theorem Tryd.lays143:Go.Proofs.Lays.n143 Tryd.prog Tryd.lays143_ren:={
 mixed:=by kernel_rfl
 f143:=Tryd.func58.trans (congrArg some (by kernel_rfl))
 f217:=Tryd.func71.trans (congrArg some (by kernel_rfl))
 f219:=Tryd.func76.trans (congrArg some (by kernel_rfl))
 f224:=Tryd.func85.trans (congrArg some (by kernel_rfl))
 f225:=Tryd.func84.trans (congrArg some (by kernel_rfl))
 f266:=Tryd.func81.trans (congrArg some (by kernel_rfl))
 f267:=Tryd.func86.trans (congrArg some (by kernel_rfl))
 f314:=Tryd.func89.trans (congrArg some (by kernel_rfl))
 t3:=Tryd.underlying3
 a3:=Tryd.isAgg3
 z3:=Tryd.sizeOf3
 v3:=Tryd.zeroValue3
 t4:=Tryd.underlying4
 a4:=Tryd.isAgg4
 z4:=Tryd.sizeOf4
 v4:=Tryd.zeroValue4
 t5:=Tryd.underlying5
 a5:=Tryd.isAgg5
 z5:=Tryd.sizeOf5
 v5:=Tryd.zeroValue5
 t9:=Tryd.underlying9
 a9:=Tryd.isAgg9
 z9:=Tryd.sizeOf9
 v9:=Tryd.zeroValue9
 t46:=Tryd.underlying78
 a46:=Tryd.isAgg78
 z46:=Tryd.sizeOf78
 v46:=Tryd.zeroValue78
 t51:=Tryd.underlying116
 a51:=Tryd.isAgg116
 z51:=Tryd.sizeOf116
 v51:=Tryd.zeroValue116
 t146:=Tryd.underlying117
 a146:=Tryd.isAgg117
 z146:=Tryd.sizeOf117
 v146:=Tryd.zeroValue117
 g1:=by kernel_rfl }
open Go.RowKit Go.Lib in
theorem Tryd.strings_Index (s sub:ByteArray) (m:Int) (w:World) (hs:s.size < 4294967281) (hm:w.cell? ⟨1,0,none⟩=some (.int .i64 m)) :
 Calls Tryd.prog 58 #[.string s,.string sub] w fun e w'=>e = .returned (.int .i64 (Lib.index s.data.toList sub.data.toList))/\w' = w:=Any.strings_Index Tryd.lays143 s sub m w hs hm
def Tryd.lays157_ren:Go.Shelf.Ren:=⟨fun | 157=>83 | 229=>87 | 199=>88 | 261=>90 | 311=>91 | 312=>92 | n=>n,fun | 9=>9 | 31=>30 | 3=>3 | 5=>5 | 4=>4 | 119=>114 | 0=>0 | 40=>35 | 152=>119 | 21=>21 | 154=>121 | 51=>116 | 141=>123 | 196=>127 | 193=>124 | 198=>130 | 49=>128 | 194=>125 | 201=>133 | 226=>135 | 46=>78 | 227=>136 | n=>n,fun | 0=>2 | 6=>3 | n=>n⟩
theorem Tryd.lays157:Go.Proofs.Lays.n157 Tryd.prog Tryd.lays157_ren:={
 mixed:=by kernel_rfl
 f157:=Tryd.func83.trans (congrArg some (by kernel_rfl))
 f199:=Tryd.func88.trans (congrArg some (by kernel_rfl))
 f229:=Tryd.func87.trans (congrArg some (by kernel_rfl))
 f261:=Tryd.func90.trans (congrArg some (by kernel_rfl))
 f311:=Tryd.func91.trans (congrArg some (by kernel_rfl))
 f312:=Tryd.func92.trans (congrArg some (by kernel_rfl))
 t0:=Tryd.underlying0
 a0:=Tryd.isAgg0
 z0:=Tryd.sizeOf0
 v0:=Tryd.zeroValue0
 t3:=Tryd.underlying3
 a3:=Tryd.isAgg3
 z3:=Tryd.sizeOf3
 v3:=Tryd.zeroValue3
 t4:=Tryd.underlying4
 a4:=Tryd.isAgg4
 z4:=Tryd.sizeOf4
 v4:=Tryd.zeroValue4
 t5:=Tryd.underlying5
 a5:=Tryd.isAgg5
 z5:=Tryd.sizeOf5
 v5:=Tryd.zeroValue5
 t9:=Tryd.underlying9
 a9:=Tryd.isAgg9
 z9:=Tryd.sizeOf9
 v9:=Tryd.zeroValue9
 t21:=Tryd.underlying21
 a21:=Tryd.isAgg21
 z21:=Tryd.sizeOf21
 v21:=Tryd.zeroValue21
 t31:=Tryd.underlying30
 a31:=Tryd.isAgg30
 z31:=Tryd.sizeOf30
 v31:=Tryd.zeroValue30
 t40:=Tryd.underlying35
 a40:=Tryd.isAgg35
 z40:=Tryd.sizeOf35
 v40:=Tryd.zeroValue35
 t46:=Tryd.underlying78
 a46:=Tryd.isAgg78
 z46:=Tryd.sizeOf78
 v46:=Tryd.zeroValue78
 t49:=Tryd.underlying128
 a49:=Tryd.isAgg128
 z49:=Tryd.sizeOf128
 v49:=Tryd.zeroValue128
 t51:=Tryd.underlying116
 a51:=Tryd.isAgg116
 z51:=Tryd.sizeOf116
 v51:=Tryd.zeroValue116
 t119:=Tryd.underlying114
 a119:=Tryd.isAgg114
 z119:=Tryd.sizeOf114
 t141:=Tryd.underlying123
 a141:=Tryd.isAgg123
 z141:=Tryd.sizeOf123
 v141:=Tryd.zeroValue123
 t152:=Tryd.underlying119
 a152:=Tryd.isAgg119
 z152:=Tryd.sizeOf119
 v152:=Tryd.zeroValue119
 t154:=Tryd.underlying121
 a154:=Tryd.isAgg121
 z154:=Tryd.sizeOf121
 v154:=Tryd.zeroValue121
 t193:=Tryd.underlying124
 a193:=Tryd.isAgg124
 z193:=Tryd.sizeOf124
 v193:=Tryd.zeroValue124
 t194:=Tryd.underlying125
 a194:=Tryd.isAgg125
 z194:=Tryd.sizeOf125
 v194:=Tryd.zeroValue125
 t196:=Tryd.underlying127
 a196:=Tryd.isAgg127
 z196:=Tryd.sizeOf127
 v196:=Tryd.zeroValue127
 t198:=Tryd.underlying130
 a198:=Tryd.isAgg130
 z198:=Tryd.sizeOf130
 v198:=Tryd.zeroValue130
 t201:=Tryd.underlying133
 a201:=Tryd.isAgg133
 z201:=Tryd.sizeOf133
 v201:=Tryd.zeroValue133
 t226:=Tryd.underlying135
 a226:=Tryd.isAgg135
 z226:=Tryd.sizeOf135
 v226:=Tryd.zeroValue135
 t227:=Tryd.underlying136
 a227:=Tryd.isAgg136
 z227:=Tryd.sizeOf136
 v227:=Tryd.zeroValue136
 g0:=by kernel_rfl
 g6:=by kernel_rfl }
open Go.RowKit Go.Lib in
theorem Tryd.strings_Fields (s:ByteArray) (w:World) (hs:s.size < 4294967281) (hascii:∀ (j:Nat) b,s.data.toList[j]? = some b->b.toNat < 128) (htab:Lib.TabIs Tryd.prog w "strings.asciiSpace" .u8 Lib.asciiSpaceTab) :
 Calls Tryd.prog 83 #[.string s] w fun e w'=>
  e = .returned (.slice (some ⟨w.heap.size,0,none⟩) (Lib.fields s.data.toList).length (Lib.fields s.data.toList).length)/\w' = w.alloc (.cells ((Lib.fields s.data.toList).map fun l=>Value.string ⟨l.toArray⟩).toArray 9):=Any.strings_Fields Tryd.lays157 (by kernel_rfl) (by kernel_rfl) s w hs hascii htab
def Tryd.lays264_ren:Go.Shelf.Ren:=⟨fun | 264=>40 | n=>n,fun | 53=>69 | 46=>78 | n=>n,fun | n=>n⟩
theorem Tryd.lays264:Go.Proofs.Lays.n264 Tryd.prog Tryd.lays264_ren:={
 mixed:=by kernel_rfl
 f264:=Tryd.func40.trans (congrArg some (by kernel_rfl))
 t46:=Tryd.underlying78
 a46:=Tryd.isAgg78
 z46:=Tryd.sizeOf78
 v46:=Tryd.zeroValue78
 t53:=Tryd.underlying69
 a53:=Tryd.isAgg69
 z53:=Tryd.sizeOf69
 v53:=Tryd.zeroValue69 }
open Go.RowKit Go.Lib in
theorem Tryd.bits_Mul64 (x y:Nat) (hx:x < 18446744073709551616) (hy:y < 18446744073709551616) (w:World) :
 Calls Tryd.prog 40 #[.int .u64 x,.int .u64 y] w fun e w'=>e = .returned (.tuple #[.int .u64 ((x * y / 18446744073709551616:Nat):Int),.int .u64 ((x * y % 18446744073709551616:Nat):Int)])/\w' = w:=Any.bits_Mul64 Tryd.lays264 x y hx hy w
def Tryd.lays99_ren:Go.Shelf.Ren:=⟨fun | 99=>38 | 206=>70 | n=>n,fun | 9=>9 | 4=>4 | 3=>3 | n=>n,fun | n=>n⟩
theorem Tryd.lays99:Go.Proofs.Lays.n99 Tryd.prog Tryd.lays99_ren:={
 mixed:=by kernel_rfl
 f99:=Tryd.func38.trans (congrArg some (by kernel_rfl))
 f206:=Tryd.func70.trans (congrArg some (by kernel_rfl))
 t3:=Tryd.underlying3
 a3:=Tryd.isAgg3
 z3:=Tryd.sizeOf3
 v3:=Tryd.zeroValue3
 t4:=Tryd.underlying4
 a4:=Tryd.isAgg4
 z4:=Tryd.sizeOf4
 v4:=Tryd.zeroValue4
 t9:=Tryd.underlying9
 a9:=Tryd.isAgg9
 z9:=Tryd.sizeOf9
 v9:=Tryd.zeroValue9 }
open Go.RowKit Go.Lib in
theorem Tryd.strings_HasPrefix (s p:ByteArray) (w:World) :
 Calls Tryd.prog 38 #[.string s,.string p] w fun e w'=>e = .returned (.bool (Lib.hasPrefix s.data.toList p.data.toList))/\w' = w:=Any.strings_HasPrefix Tryd.lays99 s p w
end Go.Proofs
namespace Go.Proofs.YtonnigoiklahdaaDoor
open Go.Al Go.Den Go.RowKit Go.Sort
theorem zJm {B:Nat} {wm:Nat->Nat} {w:World} (h:GlobOk B wm w):∃ m,w.cell? ⟨1,0,none⟩=some (.int .i64 m):=by
 obtain ⟨h0,arr,el,m,h1,z,h2⟩:=h.one (1,fun us=>∃ m,us=[.int .i64 m]) (by simp [zKz])
 refine ⟨z,?_⟩
 unfold World.cell?
 replace h1:w.heap[1]? = some (.cells arr el m):=h1
 simp only [h1]
 have:arr=[Value.int .i64 z].toArray:=by rw [<- h2]
 rw [this]
 rfl
theorem xn {wm:Nat->Nat} {w w':World} (hwm:∀ b,w.heap.size<=b->wm b=0) (hb:Below w.heap.size w w') :
 (∀ b,w'.heap.size<=b->wm b=0)/\Step w.heap.size ⟨wm,fun _=>none,Fr.no⟩ w ⟨wm,fun _=>none,Fr.no⟩ w':=by
 have hL:Later ⟨wm,fun _=>none,Fr.no⟩ w ⟨wm,fun _=>none,Fr.no⟩ w':=⟨fun _=>Nat.le_refl _,fun _ _ h=>h,fun b o ho=>by
  have hb2:b < w.heap.size:=by
   rcases Nat.lt_or_ge b w.heap.size with h | h
   · exact h
   · replace ho:o < wm b:=ho
     rw [hwm b h] at ho; omega
  exact World.cell?_of_block (hb.block b hb2)⟩
 exact ⟨fun b hb2=>hwm b (Nat.le_trans hb.size hb2),⟨hL,hb,fun b h=>(by simp [Fr.no] at h),fun _ _=>rfl,rfl⟩⟩
theorem pure44 (s:Str) (c:Int):xh Tryd.prog 44 [.at (.string ⟨s.toArray⟩),.at (.int .u8 c)] (.at (.int .i64 (Lib.indexByte s c.toNat.toUInt8))):=by
 intro wm w us hwm hgl hu
 cases hu with
 | cons hu1 hu2=>
  cases hu2 with
  | cons hu2 hu3=>
   cases hu3
   have e:=zR hu1
   subst e
   have e:=zR hu2
   subst e
   refine (Tryd.strings_IndexByte ⟨s.toArray⟩ c w).mono ?_
   rintro e w' ⟨rfl,rfl⟩
   obtain ⟨q1,q2⟩:=xn hwm (Below.refl _ _)
   exact ⟨_,wm,rfl,q1,q2,zk rfl⟩
theorem pure58 (s t:Str) (h:s.length < 4294967281):xh Tryd.prog 58 [.at (.string ⟨s.toArray⟩),.at (.string ⟨t.toArray⟩)] (.at (.int .i64 (Lib.index s t))):=by
 intro wm w us hwm hgl hu
 cases hu with
 | cons hu1 hu2=>
  cases hu2 with
  | cons hu2 hu3=>
   cases hu3
   have e:=zR hu1
   subst e
   have e:=zR hu2
   subst e
   obtain ⟨m,hm⟩:=zJm hgl
   refine (Tryd.strings_Index ⟨s.toArray⟩ ⟨t.toArray⟩ m w (by simpa [ByteArray.size] using h) hm).mono ?_
   rintro e w' ⟨rfl,rfl⟩
   obtain ⟨q1,q2⟩:=xn hwm (Below.refl _ _)
   exact ⟨_,wm,rfl,q1,q2,zk rfl⟩
def c44 (x:Str×Int×Unit):Option (Int×Unit):=some (Lib.indexByte x.1 x.2.1.toNat.toUInt8,())
theorem ok44' (s:Str) (c:Int) (u:Unit) (vs:List V) (hvs:zAo CC as44 ((s,c,u):zJ as44) vs):xh Tryd.prog 44 vs (.at (.int .i64 (Lib.indexByte s c.toNat.toUInt8))):=by
 obtain ⟨v,vs',rfl,hv,v2,vs2,rfl,hv2,hvs⟩:=hvs
 replace hvs:vs2=[]:=hvs
 subst hvs
 replace hv:v = .at (.string ⟨List.toArray s⟩):=hv
 replace hv2:v2 = .at (.int .u8 c):=hv2
 subst hv hv2
 exact pure44 s c
theorem ok44:ConOk CC Tryd.prog 44 ⟨as44,rs44,c44⟩:=fun x y hx vs hvs=>by
 have:=ok44' x.1 x.2.1 x.2.2 vs hvs
 injection hx with hx
 subst hx
 exact this
def c58 (x:Str×Str×Unit):Option (Int×Unit):=if x.1.length < 4294967281 then some (Lib.index x.1 x.2.1,()) else none
theorem ok58' (s t:Str) (h:s.length < 4294967281) (u:Unit) (vs:List V) (hvs:zAo CC as58 ((s,t,u):zJ as58) vs):xh Tryd.prog 58 vs (.at (.int .i64 (Lib.index s t))):=by
 obtain ⟨v,vs',rfl,hv,v2,vs2,rfl,hv2,hvs⟩:=hvs
 replace hvs:vs2=[]:=hvs
 subst hvs
 replace hv:v = .at (.string ⟨List.toArray s⟩):=hv
 replace hv2:v2 = .at (.string ⟨List.toArray t⟩):=hv2
 subst hv hv2
 exact pure58 s t h
theorem ok58:ConOk CC Tryd.prog 58 ⟨as58,rs58,c58⟩:=fun x y hx vs hvs=>by
 obtain ⟨s,t,u⟩:=x
 by_cases h:List.length (show Str from s) < 4294967281
 · have h2:c58 (s,t,u)=some (Lib.index s t,()):=if_pos h
   replace hx:c58 (s,t,u)=some y:=hx
   rw [h2] at hx
   injection hx with hx
   subst hx
   exact ok58' s t h u vs hvs
 · have h2:c58 (s,t,u)=none:=if_neg h
   replace hx:c58 (s,t,u)=some y:=hx
   rw [h2] at hx
   cases hx
theorem zMF:(zBD=Lib.asciiSpaceTab.map (Value.int .u8)):=by kernel_rfl
theorem zKs {B:Nat} {wm:Nat->Nat} {w:World} (h:GlobOk B wm w):Lib.TabIs Tryd.prog w "strings.asciiSpace" .u8 Lib.asciiSpaceTab:=by
 obtain ⟨h0,⟨arr,el,m,h1,h2⟩,h3⟩:=h.all (2,zBD) (by simp [zBn])
 unfold Lib.TabIs World.var?
 have e:Tryd.prog.globalNamed "strings.asciiSpace" = some 2:=by kernel_rfl
 rw [e]
 simp only [Option.bind_some]
 replace h1:w.heap[2]? = some (.cells arr el m):=h1
 rw [h1]
 replace h2:arr.toList=zBD:=h2
 have:arr=(Lib.asciiSpaceTab.map (Value.int .u8)).toArray:=by rw [<- zMF,<- h2]
 rw [this]
theorem zJE (g:Gh) (w:World):∀ l:List Str,RCs g w (l.map fun s=>V.at (.string ⟨s.toArray⟩)) (l.map fun s=>Value.string ⟨s.toArray⟩)
 | []=>by simp [RCs]
 | s::r=>by
  simp only [List.map_cons,RCs]
  exact ⟨[.string ⟨s.toArray⟩],_,rfl,by simp [RC,one],zJE g w r⟩
theorem pure83 (s:Str) (hs:s.length < 4294967281) (ha:∀ b ∈ s,b.toNat < 128):xh Tryd.prog 83 [.at (.string ⟨s.toArray⟩)] (.lst .no ((Lib.fields s).map fun s=>V.at (.string ⟨s.toArray⟩))):=by
 intro wm w us hwm hgl hu
 cases hu with
 | cons hu1 hu2=>
  cases hu2
  have e:=zR hu1
  subst e
  refine (Tryd.strings_Fields ⟨s.toArray⟩ w (by simpa [ByteArray.size] using hs) (fun j b hb=>ha b (List.mem_of_getElem? hb)) (zKs hgl)).mono ?_
  rintro e w' ⟨rfl,rfl⟩
  simp only
  generalize hf:Lib.fields s=l
  have hnew:(w.alloc (.cells (l.map fun l=>Value.string ⟨l.toArray⟩).toArray 9)).heap[w.heap.size]? = some (.cells (l.map fun l=>Value.string ⟨l.toArray⟩).toArray 9 (0,0)):=qC w _
  have hbel:Below w.heap.size w (w.alloc (.cells (l.map fun l=>Value.string ⟨l.toArray⟩).toArray 9)):=(Below.refl _ w).alloc (Nat.le_refl _) _
  refine ⟨_,fun b=>if b=w.heap.size then l.length else wm b,rfl,?_,?_,?_⟩
  · intro b hb
    have:(w.alloc (.cells (l.map fun l=>Value.string ⟨l.toArray⟩).toArray 9)).heap.size=w.heap.size+1:=by simp
    show (if b=w.heap.size then _ else wm b)=0
    rw [if_neg (by omega)]
    exact hwm b (by omega)
  · have hL:Later ⟨wm,fun _=>none,Fr.no⟩ w ⟨fun b=>if b=w.heap.size then l.length else wm b,fun _=>none,Fr.no⟩ (w.alloc (.cells (l.map fun l=>Value.string ⟨l.toArray⟩).toArray 9)):=⟨fun b=>by
     show wm b<=if b=w.heap.size then l.length else wm b
     split
     · rename_i e; rw [e,hwm _ (Nat.le_refl _)]; exact Nat.zero_le _
     · exact Nat.le_refl _,fun _ _ h=>h,fun b o ho=>by
     have hb2:b < w.heap.size:=by
      rcases Nat.lt_or_ge b w.heap.size with h | h
      · exact h
      · replace ho:o < wm b:=ho
        rw [hwm b h] at ho; omega
     exact World.cell?_of_block (hbel.block b hb2)⟩
    exact ⟨hL,hbel,fun b h=>(by simp [Fr.no] at h),fun b hb=>if_neg (by omega),rfl⟩
  · refine RV.of_RV1 ⟨[.slice (some ⟨w.heap.size,0,none⟩) l.length l.length],?_,rfl⟩
    simp only [RC]
    refine .inr ⟨w.heap.size,0,l.length,l.map fun l=>Value.string ⟨l.toArray⟩,by rw [List.length_map],by rw [List.length_map]; exact Nat.le_refl _,trivial,zJE _ _ l,⟨1,fun x hx=>?_,fun _ _ _ e1=>by cases e1⟩,?_⟩
    · obtain ⟨y,_,rfl⟩:=List.mem_map.1 hx
      rfl
    · intro k u hk
      have hk2:k < l.length:=by
       have:=(List.getElem?_eq_some_iff.1 hk).1
       simpa using this
      refine ⟨?_,?_⟩
      · rw [Nat.zero_add,cell_of_row _ w.heap.size k _ 9 (0,0) hnew]
        simpa using hk
      · show 0+k < if w.heap.size=w.heap.size then l.length else _
        rw [if_pos rfl]; omega
theorem pure40 (x y:Nat) (hx:x < 18446744073709551616) (hy:y < 18446744073709551616):xh Tryd.prog 40 [.at (.int .u64 x),.at (.int .u64 y)] (.tup [.at (.int .u64 ((x * y / 18446744073709551616:Nat):Int)),.at (.int .u64 ((x * y % 18446744073709551616:Nat):Int))]):=by
 intro wm w us hwm hgl hu
 cases hu with
 | cons hu1 hu2=>
  cases hu2 with
  | cons hu2 hu3=>
   cases hu3
   have e:=zR hu1
   subst e
   have e:=zR hu2
   subst e
   refine (Tryd.bits_Mul64 x y hx hy w).mono ?_
   rintro e w' ⟨rfl,rfl⟩
   obtain ⟨q1,q2⟩:=xn hwm (Below.refl _ _)
   exact ⟨_,wm,rfl,q1,q2,_,.cons ⟨_,by simp [RC,one]; rfl,rfl⟩ (.cons ⟨_,by simp [RC,one]; rfl,rfl⟩ .nil),rfl⟩
end Go.Proofs.YtonnigoiklahdaaDoor
end
namespace Go.Proofs.YtonnigoiklahdaaDoor
section
open Go.Al Go.Den Go.RowKit Go.Shelf
attribute [local go_sem] Oper.semAt_some
def exb (bx:Nat) (W:World) (b:Nat):Prop:=b=bx\/∃ o l c,W.cell? ⟨bx,0,none⟩=some (.slice (some ⟨b,o,none⟩) l c)
def BoxOk (n0 bx:Nat) (W:World):Prop:=n0<=bx/\(∃ arr t m,W.heap[bx]? = some (.cells arr t m))/\∀ b,exb bx W b->n0<=b/\b < W.heap.size
structure Kept (n0 bx:Nat) (A B:World):Prop where
 ok:BoxOk n0 bx B
 size:A.heap.size<=B.heap.size
 same:∀ b o v,A.cell? ⟨b,o,none⟩=some v->¬ exb bx A b->B.cell? ⟨b,o,none⟩=some v
 ex:∀ b,exb bx B b->exb bx A b\/A.heap.size<=b
 low:∀ b,b < n0->B.heap[b]? = A.heap[b]?
def kE (n0 bx:Nat) (A B:World):Prop:=BoxOk n0 bx A->Kept n0 bx A B
theorem zDj {A:World} {b o:Nat} {v:Value} (h:A.cell? ⟨b,o,none⟩=some v):b < A.heap.size:=by
 rcases Nat.lt_or_ge b A.heap.size with h1 | h1
 · exact h1
 · unfold World.cell? at h
   have:A.heap[b]? = none:=Array.getElem?_eq_none h1
   simp only [this] at h
   cases h
theorem xY {A B:World} {b:Nat} (h:B.heap[b]? = A.heap[b]?) (o:Nat):B.cell? ⟨b,o,none⟩=A.cell? ⟨b,o,none⟩:=World.cell?_of_block h
theorem Kept.refl {n0 bx:Nat} {A:World} (h:BoxOk n0 bx A):Kept n0 bx A A:=⟨h,Nat.le_refl _,fun _ _ _ h _=>h,fun _ h=>.inl h,fun _ _=>rfl⟩
theorem Kept.trans {n0 bx:Nat} {A B C:World} (h:Kept n0 bx A B) (k:Kept n0 bx B C):Kept n0 bx A C:=by
 refine ⟨k.ok,Nat.le_trans h.size k.size,fun b o v hb hx=>?_,fun b hb=>?_,fun b hb=>(k.low b hb).trans (h.low b hb)⟩
 · refine k.same b o v (h.same b o v hb hx) (fun hx2=>?_)
   rcases h.ex b hx2 with h1 | h1
   · exact hx h1
   · have:=zDj hb; omega
 · rcases k.ex b hb with h1 | h1
   · exact h.ex b h1
   · exact .inr (Nat.le_trans h.size h1)
theorem zNm {n0 bx:Nat} {A B C:World} (h:kE n0 bx A B) (k:kE n0 bx B C):kE n0 bx A C:=fun hA=>(h hA).trans (k (h hA).ok)
theorem jz {bx:Nat} {A B:World} (h:B.heap[bx]? = A.heap[bx]?) (b:Nat):exb bx B b↔exb bx A b:=by
 unfold exb; rw [xY h]
theorem BoxOk.grown {n0 bx:Nat} {A B:World} (h:BoxOk n0 bx A) (hs:A.heap.size<=B.heap.size) (hb:B.heap[bx]? = A.heap[bx]?):BoxOk n0 bx B:=by
 obtain ⟨h1,⟨arr,t,m,h2⟩,h3⟩:=h
 exact ⟨h1,⟨arr,t,m,hb.trans h2⟩,fun b hx=>⟨(h3 b ((jz hb b).1 hx)).1,Nat.lt_of_lt_of_le (h3 b ((jz hb b).1 hx)).2 hs⟩⟩
theorem BoxOk.lt {n0 bx:Nat} {A:World} (h:BoxOk n0 bx A):bx < A.heap.size:=(h.2.2 bx (.inl rfl)).2
theorem Kept.grown {n0 bx:Nat} {A B:World} (h:BoxOk n0 bx A) (hg:A.grownBy B none):Kept n0 bx A B:=by
 have hb:∀ b,b < A.heap.size->B.heap[b]? = A.heap[b]?:=fun b hb=>hg.block b hb (by simp)
 refine ⟨h.grown hg.size (hb bx h.lt),hg.size,fun b o v ho _=>(xY (hb b (zDj ho)) o).trans ho,fun b hx=>.inl ((jz (hb bx h.lt) b).1 hx),fun b hl=>hb b (Nat.lt_trans (Nat.lt_of_lt_of_le hl h.1) h.lt)⟩
theorem zM1 {n0 bx:Nat} (W:World) (l:Nat) (o o':Obj) (hl:n0<=l) (h:W.heap[l]? = some o) (hc:o.isCells=false):kE n0 bx W (W.putObj l o'):=by
 intro hW
 have hne:bx≠l:=by
  rintro rfl
  obtain ⟨_,⟨arr,t,m,h2⟩,_⟩:=hW
  rw [h] at h2; injection h2 with h2; subst h2; cases hc
 have hb:(W.putObj l o').heap[bx]? = W.heap[bx]?:=World.putObj_heap_other hne
 have hsz:(W.putObj l o').heap.size=W.heap.size:=by simp [World.putObj]
 refine ⟨hW.grown (Nat.le_of_eq hsz.symm) hb,Nat.le_of_eq hsz.symm,fun b o1 v h1 _=>(xY (World.putObj_heap_other ?_) o1).trans h1,fun b hx=>.inl ((jz hb b).1 hx),fun b hb=>World.putObj_heap_other (by omega)⟩
 rintro rfl
 unfold World.cell? at h1
 simp only [h] at h1
 cases o <;> first | (cases hc; done) | (cases h1; done) | (simp at h1; done)
theorem zCs {F:Fence} {n:Nat} {P:Program} (w:World) {ops:Array Oper} {rest:List Oper} {o:Oper} {a:Act} {Q:Exit->Act->World->Prop}
 (hg:o.guard=none) (s x:Operand) (t:TypeId) (hop:o.op=Op.call { callee:=Callee.builtin Builtin.append,args:=#[s,x],argTypes:=#[t,t] })
 (base:Nat) (e:TypeId) (i:TypeInfo) (z:Value) (size bytes:Nat) (h1:P.underlying t=some (.slice e)) (h2:P.info? e=some i) (h3:i.zero=some z) (h4:i.size=size) (h5:i.bytes=bytes) (h6:z.cells.size=size) (h7:0 < size)
 (v:Value) (k:Nat) (xs:List Value) (hs:a.eval s=v) (hown:w.ownsRow base e size v k xs) (ad:Addr) (m c:Nat) (news:List Value) (hx:a.eval x = .slice (some ad) m c) (hn:news.length=m * size)
 (hc:∀ j u,news[j]? = some u->w.cell? (ad.add j)=some u) (h1c:∀ u ∈ news,u.oneCell' = true) (b1:k+m<=maxLen) (b2:(k+m) * bytes<=140737488355328) (b3:base<=w.heap.size)
 (hK:∀ v' w',w'.ownsRow base e size v' (k+m) (xs++news)->w.grownBy w' v.ownBlock->(v' = .slice none 0 0↔v = .slice none 0 0/\m=0)->(v'.ownBlock=v.ownBlock\/v'.ownBlock=some w.heap.size)->wpListIn F n P ops Q rest (a.put o.dst v') w') :
 wpListIn F n P ops Q (o::rest) a w:=by
 refine wpListIn_plain hg fun K hK'=>?_
 obtain ⟨v',w',hrun,r1,r2,r3,r4⟩:=run_append_own_at (P:=P) w base t o.type e i z size bytes h1 h2 h3 h4 h5 h6 h7 v k xs hown ad m c news hn hc h1c b1 b2 b3
 unfold Oper.wpIn
 refine ⟨?_,?_⟩
 · simp [Oper.about,hop,resolve,Target.leads,Sem.run_pure]
 · rw [Oper.semAt_plain F _ _ (by rw [hop]; intro c hc'; cases hc')]
   simp [execOp,hop,resolve,invoke,builtin,hs,hx,hrun,Result.andThen]
   exact hK' _ _ (hK v' w' r1 r2 r3 r4)
theorem zI8 {W:World} {base:Nat} {e:TypeId} {size:Nat} {v:Value} {k:Nat} {xs:List Value} (h:W.ownsRow base e size v k xs) {j:Nat} {o:Obj} (hj:W.heap[j]? = some o) (hno:∀ cur,o≠.cells cur e (0,0)) :
 v.ownBlock=none\/v.ownBlock≠some j:=by
 rcases h.2 with ⟨rfl,_⟩ | ⟨g,cap,cur,rfl,_,hgb,_⟩
 · exact .inl rfl
 · refine .inr fun e'=>?_
   have:g=j:=by simpa [Value.ownBlock] using e'
   subst this; rw [hgb] at hj; cases hj; exact hno cur rfl
def Grow (n0 bx:Nat) (t e:TypeId) (size:Nat) (w:World) (xs:List Value) (n:Nat) (W:World):Prop:=
 ∃ v,W.heap[bx]? = some (.cells #[v] t (0,0))/\W.ownsRow n0 e size v n xs/\(n=0->v = .slice none 0 0)/\Below n0 w W
theorem Grow.exb {n0 bx:Nat} {t e:TypeId} {size:Nat} {w:World} {xs:List Value} {n:Nat} {W:World} {v:Value} (hv:W.heap[bx]? = some (.cells #[v] t (0,0))) (hr:W.ownsRow n0 e size v n xs) (b:Nat) :
 exb bx W b↔b=bx\/v.ownBlock=some b:=by
 have hc:W.cell? ⟨bx,0,none⟩=some v:=by simp [World.cell?,hv]
 unfold Go.Proofs.YtonnigoiklahdaaDoor.exb
 rw [hc]
 refine or_congr Iff.rfl ⟨fun ⟨o,l,c,h⟩=>?_,fun h=>?_⟩
 · injection h with h; subst h; rfl
 · rcases hr.2 with ⟨rfl,_⟩ | ⟨g,cap,cur,rfl,_,hgb,_⟩
   · cases h
   · have:g=b:=by simpa [Value.ownBlock] using h
     subst this; exact ⟨_,_,_,rfl⟩
theorem Grow.box {n0 bx:Nat} {t e:TypeId} {size:Nat} {w:World} {xs:List Value} {n:Nat} {W:World} (h0:n0<=bx) (h:Grow n0 bx t e size w xs n W):BoxOk n0 bx W:=by
 obtain ⟨v,hv,hr,_,hb⟩:=h
 refine ⟨h0,⟨_,_,_,hv⟩,fun b hx=>?_⟩
 rcases (Grow.exb (w:=w) hv hr b).1 hx with rfl | h
 · exact ⟨h0,(Array.getElem?_eq_some_iff.1 hv).1⟩
 · rcases hr.2 with ⟨rfl,_⟩ | ⟨g,cap,cur,rfl,hg,hgb,_⟩
   · cases h
   · have:g=b:=by simpa [Value.ownBlock] using h
     subst this; exact ⟨hg,(Array.getElem?_eq_some_iff.1 hgb).1⟩
theorem Grow.own {n0 bx:Nat} {t e:TypeId} {size:Nat} {w:World} {xs:List Value} {n:Nat} {A B:World} {row:Option Nat} (h0:n0<=w.heap.size) (h:Grow n0 bx t e size w xs n A) (hg:A.grownBy B row) (hr:∀ r,row=some r->n0<=r/\∃ o:Obj,A.heap[r]? = some o/\o.isCells=false):Grow n0 bx t e size w xs n B:=by
 obtain ⟨v,hv,hr',hz,hb⟩:=h
 have hne:∀ {b:Nat} {o:Obj},A.heap[b]? = some o->o.isCells=true->some b≠row:=fun hb hc e=>by
  obtain ⟨_,o',ho,hc'⟩:=hr _ e.symm
  rw [hb] at ho; injection ho with ho; subst ho; rw [hc] at hc'; cases hc'
 refine ⟨v,(hg.block bx (Array.getElem?_eq_some_iff.1 hv).1 (hne hv rfl)).trans hv,hr'.kept hg ?_,hz,hb.grown hg (Nat.le_trans h0 hb.size) (fun k e=>(hr k e).1)⟩
 rcases hr'.2 with ⟨rfl,_⟩ | ⟨g,cap,cur,rfl,_,hgb,_⟩
 · exact .inl rfl
 · exact .inr (hne hgb rfl)
theorem Grow.kept {n0 bx:Nat} {t e:TypeId} {size:Nat} {w:World} {xs xs':List Value} {n n':Nat} {A B:World} (h0:n0<=bx) {v v':Value} (hv:A.heap[bx]? = some (.cells #[v] t (0,0))) (hr:A.ownsRow n0 e size v n xs)
 (hv':B.heap[bx]? = some (.cells #[v'] t (0,0))) (hr':B.ownsRow n0 e size v' n' xs') (hz:n' = 0->v' = .slice none 0 0) (hB:Below n0 w B) (hs:A.heap.size<=B.heap.size)
 (hne:v'.ownBlock=v.ownBlock\/∃ b,v'.ownBlock=some b/\A.heap.size<=b) (h:∀ b,b < A.heap.size->b≠bx->v.ownBlock≠some b->B.heap[b]? = A.heap[b]?):Kept n0 bx A B:=by
 have hlow:∀ b,b < n0->v.ownBlock≠some b:=fun b hb e1=>by
  rcases hr.2 with ⟨rfl,_⟩ | ⟨g,cap,cur,rfl,hg,hgb,_⟩
  · cases e1
  · have:g=b:=by simpa [Value.ownBlock] using e1
    omega
 have hbx:=(Array.getElem?_eq_some_iff.1 hv).1
 refine ⟨Grow.box h0 ⟨v',hv',hr',hz,hB⟩,hs,fun b o u hb hx=>?_,fun b hx=>?_,fun b hb=>h b (by omega) (by omega) (hlow b hb)⟩
 · have h1:b≠bx:=fun e1=>hx ((Grow.exb (w:=w) hv hr b).2 (.inl e1))
   have h2:v.ownBlock≠some b:=fun e1=>hx ((Grow.exb (w:=w) hv hr b).2 (.inr e1))
   exact (xY (h b (zDj hb) h1 h2) o).trans hb
 · rcases (Grow.exb (w:=w) hv' hr' b).1 hx with rfl | h1
   · exact .inl (.inl rfl)
   · rcases hne with e1 | ⟨b',e1,e2⟩
     · exact .inl ((Grow.exb (w:=w) hv hr b).2 (.inr (e1 ▸ h1)))
     · rw [e1] at h1; injection h1 with h1; subst h1; exact .inr e2
theorem Grow.round {n0 bx K0:Nat} {t e:TypeId} {size:Nat} {w:World} {xs xs':List Value} {n n':Nat} {A B:World} (h0:n0<=bx) {v v':Value} (hv:A.heap[bx]? = some (.cells #[v] t (0,0))) (hr:A.ownsRow n0 e size v n xs)
 (hv':B.heap[bx]? = some (.cells #[v'] t (0,0))) (hr':B.ownsRow n0 e size v' n' xs') (hz:n' = 0->v' = .slice none 0 0) (hB:Below n0 w B) (hs:A.heap.size<=B.heap.size)
 (hne:v'.ownBlock=v.ownBlock\/∃ b,v'.ownBlock=some b/\A.heap.size<=b) (h:∀ b,b < A.heap.size->b≠bx->v.ownBlock≠some b->B.heap[b]? = A.heap[b]?) :
 KeepsFrom K0 A B/\kE n0 bx A B/\Grow n0 bx t e size w xs' n' B:=by
 refine ⟨⟨hs,fun k o _ hk hc=>(h k (Array.getElem?_eq_some_iff.1 hk).1 (fun e1=>?_) (fun e1=>?_)).trans hk⟩,fun _=>Grow.kept h0 hv hr hv' hr' hz hB hs hne h,v',hv',hr',hz,hB⟩
 · subst e1; rw [hv] at hk; injection hk with hk; subst hk; cases hc
 · rcases hr.2 with ⟨rfl,_⟩ | ⟨g,cap,cur,rfl,_,hgb,_⟩
   · cases e1
   · have:g=k:=by simpa [Value.ownBlock] using e1
     subst this; rw [hgb] at hk; injection hk with hk; subst hk; cases hc
theorem zJL {W:World} {B:Nat} {v:Value} {t:TypeId} (v':Value) (h:W.heap[B]? = some (.cells #[v] t (0,0))):(W.setCell ⟨B,0,none⟩ v').heap[B]? = some (.cells #[v'] t (0,0)):=by
 obtain ⟨hlt,hk⟩:=Array.getElem?_eq_some_iff.1 h
 show (W.heap.modify B _)[B]? = _
 rw [Array.getElem?_eq_getElem (by rw [Array.size_modify]; exact hlt),Array.getElem_modify_self,hk]
 rfl
theorem zOA {W:World} {base:Nat} {e:TypeId} {size:Nat} {v:Value} {k:Nat} {xs:List Value} (h:W.ownsRow base e size v k xs) {b:Nat} (hb:v.ownBlock=some b):base<=b:=by
 rcases h.2 with ⟨rfl,_⟩ | ⟨g,cap,cur,rfl,hg,_⟩
 · cases hb
 · have:g=b:=by simpa [Value.ownBlock] using hb
   omega
theorem zMx {wm:Nat->Nat} {w W':World} (hwm:∀ b,w.heap.size<=b->wm b=0) (hbel:Below w.heap.size w W') {size n:Nat} {e:TypeId} {v:Value} {ds:List Value} (hrow:W'.ownsRow w.heap.size e size v n ds) (hz:n=0->v = .slice none 0 0)
 (es:List V) (hl:n=es.length) (hu:∀ x ∈ es,x.size=size) (hrc:RCs ⟨wm,fun _=>none,Fr.no⟩ w es ds) :
 ∃ wm',(∀ b,W'.heap.size<=b->wm' b=0)/\Step w.heap.size ⟨wm,fun _=>none,Fr.no⟩ w ⟨wm',fun _=>none,Fr.no⟩ W'/\RV ⟨wm',fun _=>none,Fr.no⟩ W' (.lst (zu es) es) v:=by
 subst hl
 obtain ⟨q1,q2⟩:=xn hwm hbel
 cases es with
 | nil=>
  refine ⟨wm,q1,q2,?_⟩
  rw [hz rfl]
  exact yg (by unfold RC; exact .inl ⟨rfl,rfl,trivial⟩)
 | cons x r=>
  obtain ⟨hlen,⟨_,h0⟩ | ⟨g,cap,cur,rfl,hg,hgb,hn,hm,hcs,htk⟩⟩:=hrow
  · simp at h0
  · have hgl:=(Array.getElem?_eq_some_iff.1 hgb).1
    have hL:Later ⟨wm,fun _=>none,Fr.no⟩ w ⟨fun b=>if b=g then ds.length else wm b,fun _=>none,Fr.no⟩ W':=by
     refine ⟨fun b=>?_,fun _ _ h=>h,q2.later.cell⟩
     show wm b<=if b=g then ds.length else wm b
     split
     · rename_i h; rw [h,hwm g hg]; exact Nat.zero_le _
     · exact Nat.le_refl _
    refine ⟨fun b=>if b=g then ds.length else wm b,fun b hb=>?_,⟨hL,q2.below,fun b h=>(by simp [Fr.no] at h),fun b hb=>?_,rfl⟩,yg ?_⟩
    · show (if b=g then ds.length else wm b)=0
      rw [if_neg (by omega)]
      exact q1 b hb
    · show (if b=g then ds.length else wm b)=wm b
      rw [if_neg (by omega)]
    · simp only [RC]
      refine .inr ⟨g,0,cap,ds,rfl,hn,by simp [zu,zFg],zU hL _ _ hrc,⟨size,hu,by intro t nb s h; simp [zu] at h⟩,fun k u hk=>⟨?_,?_⟩⟩
      · have hk1:k < ds.length:=(List.getElem?_eq_some_iff.1 hk).1
        rw [<- htk,List.getElem?_take] at hk
        split at hk
        · simp only [World.cell?,hgb,Nat.zero_add]
          rw [Array.getElem?_toList] at hk
          simpa using hk
        · cases hk
      · have hk1:k < ds.length:=(List.getElem?_eq_some_iff.1 hk).1
        show 0+k < if g=g then ds.length else wm g
        rw [if_pos rfl]; omega
def chG:List UInt8->Nat->List CharT
 | [],_=>[]
 | [c],i=>[⟨(c.toNat:Int),(i:Int)⟩]
 | c::d::r,i=>cond (c == 92 && d == 10) (chG r (i+2)) (⟨(c.toNat:Int),(i:Int)⟩::chG (d::r) (i+1))
theorem zBB:∀ (s:List UInt8) (i:Nat),(chG s i).length<=s.length
 | [],_=>Nat.le_refl _
 | [c],i=>Nat.le_refl _
 | c::d::r,i=>by
  have h1:=zBB r (i+2)
  have h2:=zBB (d::r) (i+1)
  simp only [chG]
  cases (c == 92 && d == 10)
  · simp only [cond_false,List.length_cons] at *; omega
  · simp only [cond_true,List.length_cons] at *; omega
theorem zNe (s:List UInt8) (k:Nat) (h:k < s.length) :
 (Lib.hasPrefix (List.take (s.length - k) (s.drop k)) [92,10]=true->k+2<=s.length/\chG (s.drop k) k=chG (s.drop (k+2)) (k+2)) /\
 (Lib.hasPrefix (List.take (s.length - k) (s.drop k)) [92,10]=false->chG (s.drop k) k=⟨(s[k].toNat:Int),(k:Int)⟩::chG (s.drop (k+1)) (k+1)):=by
 have ht:List.take (s.length - k) (s.drop k)=s.drop k:=List.take_of_length_le (by simp)
 rw [ht,List.drop_eq_getElem_cons h]
 unfold Lib.hasPrefix
 by_cases h2:k+1 < s.length
 · rw [List.drop_eq_getElem_cons h2]
   have e:[92,10].isPrefixOf (s[k]::s[k+1]::s.drop (k+1+1))=(s[k] == 92 && s[k+1] == 10):=by
    simp only [List.isPrefixOf,Bool.and_true,Bool.beq_comm]
   rw [e]
   refine ⟨fun hh=>⟨by omega,?_⟩,fun hh=>?_⟩
   · simp only [chG,hh,cond_true]
   · simp only [chG,hh,cond_false]
 · have e0:s.drop (k+1)=[]:=List.drop_eq_nil_of_le (by omega)
   rw [e0]
   refine ⟨fun hh=>by simp [List.isPrefixOf] at hh,fun _=>by simp [chG]⟩
def chV (x:CharT):Value:=.agg #[.int .u8 x.b,.int .i64 x.fat]
def chC (x:CharT):List Value:=[.int .u8 x.b,.int .i64 x.fat]
set_option maxRecDepth 100000 in
set_option maxHeartbeats 2000000 in
theorem zLf (n n0 bx:Nat) (l Bs:Nat) (s:Str) (hreach:s.length < 1100000) (J Jx:List CharT->World->Prop)
 (hY:∀ pre x W,J pre W->pre.length < s.length->YieldAt Fence.wide (n - 1) Tryd.prog l #[chV x] W fun e W'=>
  (e = .returned (.bool true)/\J (pre++[x]) W'/\kE n0 bx W W')\/(e = .returned (.bool false)/\Jx (pre++[x]) W'))
 (W:World) (hB:BoxOk n0 bx W) (hxs:¬ exb bx W Bs) (hBs:W.cell? ⟨Bs,0,none⟩=some (.string ⟨s.toArray⟩)) (h0:J [] W) :
 CallsIn Fence.wide n Tryd.prog 75 #[.func (.yield l) #[] #[],.pointer (some ⟨Bs,0,none⟩)] W fun e W'=>(∃ v,e = .returned v) /\
  ((∃ ys,ys=chG s 0/\J ys W')\/(∃ pre,True/\Jx pre W')):=by
 refine callsIn_of_wp Tryd.func75 rfl trivial ?_ rfl
 simp only [Tryd.ntmps75,List.size_toArray,List.length_cons,List.length_nil,Nat.reduceAdd,Nat.reduceSub,Array.replicate_succ,Array.replicate_zero,List.push_toArray,List.append_toArray,List.nil_append,List.cons_append]
 have hsz:(⟨s.toArray⟩:ByteArray).size=s.length:=by simp [ByteArray.size]
 gi_wp2
 gi_loopw [3] (fun i wr=>∃ (k:Nat) (pre:List CharT),k<=s.length/\i = .int .i64 (k:Int)/\pre++chG (s.drop k) k=chG s 0/\J pre wr/\Kept n0 bx W wr)
  (fun i _=>match i with | .int _ z=>s.length - z.toNat | _=>0)
 case atStart=>exact ⟨0,[],Nat.zero_le _,rfl,by simp,h0,Kept.refl hB⟩
 case round=>
  obtain ⟨k,pre,hk,rfl,hpre,hJs,hnx⟩:=hrel
  have hBs':=hnx.same _ _ _ hBs hxs
  by_cases hlt:k < s.length
  · have hF:∀ f,Fence.wide.fn f:=fun _=>trivial
    have hdd:∀ k:Nat,(Fence.wide.depth.isSome=true->1<=k):=fun k h=>by cases h
    have hlt2:(k:Int) < (s.length:Int):=by omega
    have hge2:¬ ((k:Int) < 0):=by omega
    obtain ⟨hs1,hs2⟩:=zNe s k hlt
    have hbk:∀ h:k < (⟨s.toArray⟩:ByteArray).size,(⟨s.toArray⟩:ByteArray)[k]'h=s[k]:=fun _=>rfl
    cases hp:Lib.hasPrefix (List.take (s.length - k) (s.drop k)) [92,10] with
    | true=>
     obtain ⟨hk2,hc2⟩:=hs1 hp
     gi_wp2_with ((try refine ⟨hdd _,?_⟩); gi_at_call 38; refine (callsIn_wide.2 (Tryd.strings_HasPrefix _ _ _)).mono ?_; rintro e w' ⟨rfl,rfl⟩)
     refine ⟨⟨k+2,pre,hk2,rfl,by rw [<- hc2]; exact hpre,hJs,hnx⟩,?_⟩
     show s.length - Int.toNat ((k:Int)+1+1) < s.length - Int.toNat (k:Int)
     omega
    | false=>
     have hc2:=hs2 hp
     have hpl:pre.length < s.length:=by
      have e1:=congrArg List.length hpre
      have e2:=zBB s 0
      rw [hc2] at e1
      simp only [List.length_append,List.length_cons] at e1
      omega
     obtain ⟨fn,tmps,assign,body,hy,hR⟩:=hY pre ⟨(s[k].toNat:Int),(k:Int)⟩ wr hJs hpl
     dsimp only [chV] at hy
     gi_wp2_with (first
      | ((try refine ⟨hdd _,?_⟩); gi_at_call 38; refine (callsIn_wide.2 (Tryd.strings_HasPrefix _ _ _)).mono ?_; rintro e w' ⟨rfl,rfl⟩)
      | ((try refine ⟨hdd _,?_⟩); refine hR.mono ?_; clear hR; rintro e W3 (⟨rfl,hJ3,hk3⟩ | ⟨rfl,hJx3⟩)))
     · refine ⟨⟨k+1,pre++[⟨(s[k].toNat:Int),(k:Int)⟩],hlt,rfl,by rw [List.append_assoc,List.singleton_append,<- hc2]; exact hpre,hJ3,hnx.trans (hk3 hnx.ok)⟩,?_⟩
       show s.length - Int.toNat ((k:Int)+1) < s.length - Int.toNat (k:Int)
       omega
     · refine bodyPost_ret (results_none rfl _ _ _) rfl ?_
       exact ⟨⟨_,rfl⟩,.inr ⟨_,trivial,hJx3⟩⟩
  · obtain rfl:k=s.length:=by omega
    gi_wp2
    go_end0
    have e:s.drop s.length=[]:=List.drop_eq_nil_of_le (Nat.le_refl _)
    rw [e] at hpre
    exact ⟨⟨_,rfl⟩,.inl ⟨pre,by simpa [chG] using hpre,hJs⟩⟩
theorem zJk (n n0 bx Bs:Nat) (s:Str) (hreach:s.length < 1100000) (w:World) (hB:BoxOk n0 bx w) (hxs:¬ exb bx w Bs) (hbs:w.heap[Bs]? = some (.cells #[.string ⟨s.toArray⟩] 9 (0,0))) :
 SeqStopsK Fence.wide n Tryd.prog 75 #[.pointer (some ⟨Bs,0,none⟩)] (fun x:CharT=>#[chV x]) (kE n0 bx) (fun ys=>ys=chG s 0) (fun _=>True) s.length w:=fun l J Jx W hW _ _ hY h0=>by
 have hbx:W.heap[bx]? = w.heap[bx]?:=hW.block _ hB.lt
 have h1:W.heap[Bs]? = some (.cells #[.string ⟨s.toArray⟩] 9 (0,0)):=(hW.block _ (Array.getElem?_eq_some_iff.1 hbs).1).trans hbs
 exact zLf n n0 bx l Bs s hreach J Jx hY W (hB.grown hW.size hbx) (fun h=>hxs ((jz hbx Bs).1 h)) (by simp [World.cell?,h1]) h0
set_option maxRecDepth 100000 in
set_option maxHeartbeats 1000000 in
theorem zNJ (m:Nat) (s:ByteArray) (w:World) :
 CallsIn Fence.wide m Tryd.prog 55 #[.string s] w fun e w'=>e = .returned (.func (.func 75) #[] #[.pointer (some ⟨w.heap.size,0,none⟩)])/\w' = w.alloc (.cells #[.string s] 9):=by
 refine callsIn_of_wp Tryd.func55 rfl trivial ?_ rfl
 simp only [Tryd.ntmps55,List.size_toArray,List.length_cons,List.length_nil,Nat.reduceAdd,Nat.reduceSub,Array.replicate_succ,Array.replicate_zero,List.push_toArray,List.append_toArray,List.nil_append,List.cons_append]
 gi_wp2
 go_ret
 exact ⟨rfl,rfl⟩
theorem info61:(Tryd.prog.info? 61).map (fun i=>(i.zero,i.size,i.bytes))=some (some (.agg #[.int .u8 0,.int .i64 0]),2,16):=by kernel_rfl
def chCs (l:List CharT):List Value:=l.flatMap chC
theorem zNc (l:List CharT) (x:CharT):chCs (l++[x])=chCs l++chC x:=by simp [chCs]
theorem zHf (w:World) (u v:Value) (t:TypeId) (m:Nat×Nat):∀ j x,[u,v][j]? = some x->(w.alloc (.cells #[u,v] t m)).cell? ((⟨w.heap.size,0,none⟩:Addr).add j)=some x:=by
 intro j x hx
 have hn:=World.alloc_heap_new w (.cells #[u,v] t m)
 match j,hx with
 | 0,hx=>
  have:u=x:=by simpa using hx
  subst this
  show (w.alloc (.cells #[u,v] t m)).cell? ⟨w.heap.size,0,none⟩=some u
  unfold World.cell?
  simp only [hn]; rfl
 | 1,hx=>
  have:v=x:=by simpa using hx
  subst this
  show (w.alloc (.cells #[u,v] t m)).cell? ⟨w.heap.size,1,none⟩=some v
  unfold World.cell?
  simp only [hn]; rfl
 | j+2,hx=>simp at hx
set_option maxRecDepth 100000 in
set_option maxHeartbeats 1000000 in
theorem zOD (m:Nat) (hm:3<=m) (s:Str) (hlen:s.length < 1100000) (w:World) :
 CallsIn Fence.wide m Tryd.prog 27 #[.string ⟨s.toArray⟩] w fun e W'=>∃ v',e = .returned v'/\W'.ownsRow w.heap.size 61 2 v' (chG s 0).length (chCs (chG s 0))/\((chG s 0).length=0->v' = .slice none 0 0)/\Below w.heap.size w W':=by
 have hF:∀ f,Fence.wide.fn f:=fun _=>trivial
 have hdd:∀ k:Nat,(Fence.wide.depth.isSome=true->1<=k):=fun k h=>by cases h
 refine callsIn_of_wp_marks Tryd.func27 rfl (hF _) ?_ rfl
 simp only [Tryd.ntmps27,List.size_toArray,List.length_cons,List.length_nil,Nat.reduceAdd,Nat.reduceSub,Array.replicate_succ,Array.replicate_zero,List.push_toArray,List.append_toArray,List.nil_append,List.cons_append]
 gi_wp2_with ((try refine ⟨hdd _,?_⟩); gi_at_call 55; refine (zNJ _ _ _).mono ?_; rintro e w' ⟨rfl,rfl⟩)
 obtain ⟨W2,hW2⟩:∃ W2,(w.alloc (.cells #[.slice none 0 0] 52)).alloc (.cells #[.string ⟨s.toArray⟩] 9)=W2:=⟨_,rfl⟩
 have hsz2:W2.heap.size=w.heap.size+2:=by rw [<- hW2]; simp
 have hb2:Below w.heap.size w W2:=by rw [<- hW2]; exact ((Below.refl _ w).alloc (Nat.le_refl _) _).alloc (by simp) _
 have hbx2:W2.heap[w.heap.size]? = some (.cells #[.slice none 0 0] 52 (0,0)):=by
  rw [<- hW2,Below.heap_alloc _ _ _ (by simp)]
  exact World.alloc_heap_new w _
 have hbt2:W2.heap[w.heap.size+1]? = some (.cells #[.string ⟨s.toArray⟩] 9 (0,0)):=by
  rw [<- hW2]
  have:=World.alloc_heap_new (w.alloc (.cells #[.slice none 0 0] 52)) (.cells #[.string ⟨s.toArray⟩] 9 (0,0))
  simpa using this
 have hG0:Grow w.heap.size w.heap.size 52 61 2 w [] 0 W2:=⟨_,hbx2,World.ownsRow_nil W2 _ _ _,fun _=>rfl,hb2⟩
 have hB2:=hG0.box (Nat.le_refl _)
 have hx2:¬ exb w.heap.size W2 (w.heap.size+1):=fun h=>by
  rcases h with h | ⟨o,l,c,h⟩
  · omega
  · simp [World.cell?,hbx2] at h
 rw [hW2]
 refine wpIn_rangeFunc_ownH rfl (by omega) (gf:=75) (lb:=#[.pointer (some ⟨w.heap.size+1,0,none⟩)]) (by simp [Act.eval]) (hF 75) (enters_of Tryd.func75 (by kernel_rfl) rfl)
  (zJk (m - 1) w.heap.size w.heap.size (w.heap.size+1) s hlen W2 hB2 hx2 hbt2) zNm (fun W l o o' hl h1 h2 _=>zM1 W l o o' (by omega) h1 h2) (Below.refl _ _) (fun _=>rfl)
  (fun pre W=>Grow w.heap.size w.heap.size 52 61 2 w (chCs pre) pre.length W)
  (fun _ _ _=>False) ?hI (fun _ _ _ _ _ hs _ _=>hs) hG0
  (fun x a' W=>∃ B4,a' = { tmps:=#[.string ⟨s.toArray⟩,undef,.slice none 0 0,.pointer (some ⟨w.heap.size,0,none⟩),.pointer (some ⟨B4,0,none⟩),.string ⟨s.toArray⟩,.func (.func 75) #[] #[.pointer (some ⟨w.heap.size+1,0,none⟩)],chV x,undef,undef,undef,undef,undef],defers:=[] }/\W.heap[B4]? = some (.cells #[.int .u8 x.b,.int .i64 x.fat] 61 (0,0)))
  ?hAx ?assign ?body ?done ?stop
 case hI=>exact fun pre A B row h hg hr=>h.own (Nat.le_refl _) hg (fun r e=>by obtain ⟨h1,h2⟩:=hr r e; exact ⟨by omega,h2⟩)
 case hAx=>
  rintro x a' _ A B row ⟨B4,e3,e4⟩ hg hr
  refine ⟨B4,e3,(hg.block B4 (Array.getElem?_eq_some_iff.1 e4).1 fun e=>?_).trans e4⟩
  obtain ⟨_,o,ho,hc⟩:=hr B4 e.symm
  rw [e4] at ho; injection ho with ho; subst ho; cases hc
 case assign=>
  rintro l pre ⟨xb,xa⟩ W K hI hK
  have hfin:∀ a2,a2=({ tmps:=#[.string ⟨s.toArray⟩,undef,.slice none 0 0,.pointer (some ⟨w.heap.size,0,none⟩),.pointer (some ⟨W.heap.size,0,none⟩),.string ⟨s.toArray⟩,.func (.func 75) #[] #[.pointer (some ⟨w.heap.size+1,0,none⟩)],chV ⟨xb,xa⟩,undef,undef,undef,undef,undef],defers:=[] }:Act)->K a2 (W.alloc (.cells #[.int .u8 xb,.int .i64 xa] 61)):=fun a2 e=>hK a2 _ ((KeepsOthers.alloc W _).from _) (fun hB=>Kept.grown hB (World.grownBy_alloc W _ none))
   (hI.own (Nat.le_refl _) (World.grownBy_alloc W _ none) (fun r e=>by cases e)) ⟨W.heap.size,e,World.alloc_heap_new W _⟩
  unfold chV at *
  gi_wp2
  rfl
 case body=>
  rintro l pre ⟨xb,xa⟩ a' W hl hL ⟨bv,hbv,hrow,hz,hbel⟩ ⟨B4,rfl,hB4⟩ hlen2
  replace hB4:W.heap[B4]? = some (.cells #[.int .u8 xb,.int .i64 xa] 61 (0,0)):=hB4
  have c0:W.cell? ⟨B4,0,none⟩=some (.int .u8 xb):=by simp [World.cell?,hB4]
  have c1:W.cell? ⟨B4,1,none⟩=some (.int .i64 xa):=by simp [World.cell?,hB4]
  have cb:W.cell? ⟨w.heap.size,0,none⟩=some bv:=by simp [World.cell?,hbv]
  obtain ⟨i0,hi,hz0,hz1,hz2⟩:=info_parts info61
  have hb1:pre.length+1<=1100000:=by omega
  have hsz:w.heap.size<=W.heap.size:=hbel.size
  have hlt:w.heap.size < W.heap.size:=(Array.getElem?_eq_some_iff.1 hbv).1
  have hnb:some w.heap.size≠bv.ownBlock:=by
   rcases zI8 hrow hbv (fun cur e=>by cases e) with e | e
   · rw [e]; simp
   · exact fun e'=>e e'.symm
  gi_wp2_with (
   gi_at_builtin
   refine zCs _ rfl _ _ 52 rfl w.heap.size 61 i0 (.agg #[.int .u8 0,.int .i64 0]) 2 16 Tryd.underlying52 hi hz0 hz1 hz2 rfl (by decide) _ _ _ rfl (hrow.alloc _) ⟨W.heap.size,0,none⟩ 1 1 [.int .u8 xb,.int .i64 xa] rfl rfl (zHf _ _ _ _ _) (by simp [Value.oneCell']) (Nat.le_trans hb1 (by decide)) (Nat.le_trans (Nat.mul_le_mul_right 16 hb1) (by decide)) (by simp; omega) ?_
   intro v' w3 hown' hg3 hnil3 hat
   have hv3:w3.heap[w.heap.size]? = some (.cells #[bv] 52 (0,0)):=(hg3.block _ (by simp; omega) hnb).trans ((Below.heap_alloc _ _ _ hlt).trans hbv)
   obtain ⟨hc3,hf3⟩:w3.cell? ⟨w.heap.size,0,none⟩=some bv/\w3.frozen? ⟨w.heap.size,0,none⟩=false:=by constructor <;> simp [World.cell?,World.frozen?,hv3]
   obtain ⟨g',cap',cur',rfl,hbase',hgb',hr1,hr2,hr3,hr4⟩:∃ g' cap' cur',v' = .slice (some ⟨g',0,none⟩) (pre.length+1) cap'/\w.heap.size<=g'/\w3.heap[g']? = some (.cells cur' 61 (0,0))/\pre.length+1<=cap'/\cap'<=maxLen/\cur'.size=cap' * 2/\cur'.toList.take ((pre.length+1) * 2)=chCs pre++[.int .u8 xb,.int .i64 xa]:=by
    rcases hown'.2 with ⟨_,h0⟩ | h'
    · exact absurd h0 (by omega)
    · exact h')
  have hg4:=grownBy_setCell' w3 w.heap.size (.slice (some ⟨g',0,none⟩) (pre.length+1) cap')
  have hg3':(W.alloc (.cells #[.int .u8 xb,.int .i64 xa] 61)).grownBy w3 bv.ownBlock:=hg3
  have hs3:W.heap.size+1<=w3.heap.size:=by have:=hg3'.size; simpa using this
  refine (?_:KeepsFrom _ _ _/\kE _ _ _ _/\Grow _ _ _ _ _ _ (chCs (pre++[_])) (pre++[_]).length _)
  rw [zNc,List.length_append,List.length_cons,List.length_nil]
  have hbel3:Below w.heap.size w w3:=(hbel.alloc hsz _).grown hg3' (by simp; omega) (fun k e=>zOA hrow e)
  refine Grow.round (Nat.le_refl _) hbv hrow (zJL _ hv3) (hown'.kept hg4 (zI8 hown' hv3 (fun cur e=>by cases e))) (fun e=>absurd e (by omega)) (hbel3.grown hg4 hbel3.size (fun k e=>by injection e with e; omega)) (by simp; omega) ?_ (fun b hb h1 h2=>?_)
  · rcases hat with e | e
    · exact .inl e
    · exact .inr ⟨_,e,by simp⟩
  · exact ((hg4.block b (by omega) (fun e=>h1 (by injection e))).trans (hg3'.block b (by simp; omega) (fun e=>h2 e.symm))).trans (Below.heap_alloc _ _ _ hb)
 case stop=>
  rintro D c pre W _ _ h _
  exact h.elim
 case done=>
  rintro D ys W hD hys ⟨bv,hbv,hrow,hz,hbel⟩ hK
  have cb:W.cell? ⟨w.heap.size,0,none⟩=some bv:=by simp [World.cell?,hbv]
  gi_wp2
  refine ⟨by simp,.inl ⟨_,_,rfl,run_takeDeferred hK,?_⟩⟩
  have hgD:=grownBy_putObj' W D (.deferred none)
  subst hys
  refine ⟨_,results_tmp rfl _ _ _,_,rfl,?_⟩
  refine ⟨hrow.kept hgD (zI8 hrow hK (fun cur e=>by cases e)),hz,hbel.grown hgD hbel.size (fun k e=>by injection e with e; omega)⟩
theorem zGp {g:Gh} {w:World}:∀ l:List CharT,RCs g w (l.map zx) (chCs l)
 | []=>by simp [RCs,chCs]
 | x::r=>by
  have ih:=zGp (g:=g) (w:=w) r
  simp only [List.map_cons,RCs]
  refine ⟨chC x,chCs r,by simp [chCs],?_,ih⟩
  show RC g w (.agg [.at (.int .u8 (CharT.b x)),.at (.int .i64 (CharT.fat x))]) _
  simp only [RC,RCs,chC]
  exact ⟨[.int .u8 x.b],[.int .i64 x.fat],rfl,⟨rfl,rfl⟩,[.int .i64 x.fat],[],rfl,⟨rfl,rfl⟩,rfl⟩
theorem pure27 (s:Str) (hlen:s.length < 1100000):xh Tryd.prog 27 [.at (.string ⟨s.toArray⟩)] (.lst (zu ((chG s 0).map zx)) ((chG s 0).map zx)):=by
 intro wm w us hwm hgl hu
 cases hu with
 | cons hu1 hu2=>
  cases hu2
  have e:=zR hu1
  subst e
  refine callsIn_wide.1 ((zOD 3 (Nat.le_refl _) s hlen w).mono ?_)
  rintro e w' ⟨v',rfl,hrow,hz,hbel⟩
  obtain ⟨wm',h1,h2,h3⟩:=zMx hwm hbel hrow hz ((chG s 0).map zx) (by simp) (fun x hx=>by obtain ⟨y,_,rfl⟩:=List.mem_map.1 hx; exact zGR y) (zGp _)
  exact ⟨_,wm',rfl,h1,h2,h3⟩
def c27 (x:Str×Unit):Option (List CharT×Unit):=if x.1.length < 1100000 then some (chG x.1 0,()) else none
theorem ok27:ConOk CC Tryd.prog 27 ⟨as27,rs27,c27⟩:=fun x y hx vs hvs=>by
 obtain ⟨s,u⟩:=x
 obtain ⟨v,vs',rfl,hv,hvs⟩:=hvs
 replace hvs:vs' = []:=hvs
 subst hvs
 replace hv:v = .at (.string ⟨List.toArray s⟩):=hv
 subst hv
 by_cases h:List.length (show Str from s) < 1100000
 · have h2:c27 (s,u)=some (chG s 0,()):=if_pos h
   replace hx:c27 (s,u)=some y:=hx
   rw [h2] at hx
   injection hx with hx
   subst hx
   exact pure27 s h
 · have h2:c27 (s,u)=none:=if_neg h
   replace hx:c27 (s,u)=some y:=hx
   rw [h2] at hx
   cases hx
theorem zCn {g:Gh} {w:World}:∀ {l:List CharT} {us:List Value} (i:Nat) (h:i < l.length),RCs g w (l.map zx) us->us[2 * i]? = some (.int .u8 l[i].b)/\us[2 * i+1]? = some (.int .i64 l[i].fat)
 | x::r,us,0,_,h=>by
  simp only [List.map_cons,RCs] at h
  obtain ⟨u1,u2,rfl,h1,h2⟩:=h
  have h1':RC g w (.agg [.at (.int .u8 (CharT.b x)),.at (.int .i64 (CharT.fat x))]) u1:=h1
  simp only [RC,RCs] at h1'
  obtain ⟨v1,v2,rfl,⟨rfl,_⟩,v3,v4,rfl,⟨rfl,_⟩,rfl⟩:=h1'
  exact ⟨rfl,rfl⟩
 | x::r,us,i+1,hi,h=>by
  simp only [List.map_cons,RCs] at h
  obtain ⟨u1,u2,rfl,h1,h2⟩:=h
  have h3:=xe g w _ _ h1
  have h4:u1.length=2:=by rw [h3]; exact zGR x
  obtain ⟨k0,k1⟩:=zCn i (by simpa using hi) h2
  have ap:∀ j,(u1++u2)[2 * (i+1)+j]? = u2[2 * i+j]?:=fun j=>by
   rw [List.getElem?_append_right (by omega),h4]; congr 1; omega
  exact ⟨(ap 0).trans k0,(ap 1).trans k1⟩
theorem zMr {wm:Nat->Nat} {w:World} {l:List CharT} {sv:Value} (h:RC ⟨wm,fun _=>none,Fr.no⟩ w (.lst (zu (l.map zx)) (l.map zx)) [sv]) :
 ∃ ad cap,sv = .slice ad l.length cap/\∀ i (hi:i < l.length),∃ b o,ad=some ⟨b,o,none⟩/\(w.cell? ⟨b,o+2 * i,none⟩=some (.int .u8 l[i].b)/\o+2 * i < wm b)/\(w.cell? ⟨b,o+(2 * i+1),none⟩=some (.int .i64 l[i].fat)/\o+(2 * i+1) < wm b):=by
 have hl:(l.map zx).length=l.length:=by simp
 simp only [RC] at h
 rcases h with ⟨he,hu,_⟩ | ⟨b,o,cap,ds,hu,hc,_,hr,_,ha⟩
 · have h0:l=[]:=by simpa using he
   subst h0
   injection hu with hu
   exact ⟨none,0,hu,fun i hi=>absurd hi (by simp)⟩
 · injection hu with hu
   refine ⟨_,cap,by rw [hu,hl],fun i hi=>?_⟩
   obtain ⟨k1,k2⟩:=zCn i hi hr
   exact ⟨b,o,rfl,ha _ _ k1,ha _ _ k2⟩
theorem info5:(Tryd.prog.info? 5).map (fun i=>(i.zero,i.size,i.bytes))=some (some (.int .u8 0),1,1):=by kernel_rfl
theorem zDw (W:World) (b i:Nat) (v:Value):W.grownBy (W.setCell ⟨b,i,none⟩ v) (some b):=
 ⟨rfl,rfl,rfl,(KeepsWalks.setCell W _ v).size,fun k _ hk=>Below.heap_setCell _ _ _ k (fun e=>hk (by rw [e]))⟩
theorem zJc {W:World} {B i:Nat} {c:Array Value} {t:TypeId} (v':Value) (h:W.heap[B]? = some (.cells c t (0,0))):(W.setCell ⟨B,i,none⟩ v').heap[B]? = some (.cells (c.setIfInBounds i v') t (0,0)):=by
 obtain ⟨hlt,hk⟩:=Array.getElem?_eq_some_iff.1 h
 show (W.heap.modify B _)[B]? = _
 rw [Array.getElem?_eq_getElem (by rw [Array.size_modify]; exact hlt),Array.getElem_modify_self,hk]
 rfl
def TRow (n0 g:Nat) (w:World) (xs:List Int) (n k:Nat) (W:World):Prop:=
 Below n0 w W/\∃ cur,W.heap[g]? = some (.cells cur 5 (0,0))/\cur.size=n/\(∀ i,i < k->cur[i]? = some (.int .u8 (xs.getD i 0)))/\∀ i,i < n->∃ z,cur[i]? = some (.int .u8 z)
set_option maxRecDepth 100000 in
set_option maxHeartbeats 1000000 in
theorem zO3 (m:Nat) (l:List CharT) (hlen:l.length < 1100000) (wm:Nat->Nat) (w:World) (hwm:∀ b,w.heap.size<=b->wm b=0) (ad:Option Addr) (cap:Nat)
 (hch:∀ i (hi:i < l.length),∃ b o,ad=some ⟨b,o,none⟩/\(w.cell? ⟨b,o+2 * i,none⟩=some (.int .u8 l[i].b)/\o+2 * i < wm b)/\(w.cell? ⟨b,o+(2 * i+1),none⟩=some (.int .i64 l[i].fat)/\o+(2 * i+1) < wm b)) :
 CallsIn Fence.wide m Tryd.prog 28 #[.slice ad l.length cap] w fun e W'=>e = .returned (.string (strOfNums (l.map CharT.b)))/\Below w.heap.size w W':=by
 have hF:∀ f,Fence.wide.fn f:=fun _=>trivial
 refine callsIn_of_wp Tryd.func28 rfl trivial ?_ rfl
 simp only [Tryd.ntmps28,List.size_toArray,List.length_cons,List.length_nil,Nat.reduceAdd,Nat.reduceSub,Array.replicate_succ,Array.replicate_zero,List.push_toArray,List.append_toArray,List.nil_append,List.cons_append]
 obtain ⟨i0,hi,hz0,hz1,hz2⟩:=info_parts info5
 obtain ⟨W1,hmk,hown,hg1⟩:=run_make_full (P:=Tryd.prog) w w.heap.size 76 5 i0 (.int .u8 0) 1 Tryd.underlying76 hi hz0 hz1 .i64 .i64 l.length (by rw [hz2]; omega) (by simp only [maxLen]; omega) (Nat.le_refl _)
 have h0:TRow w.heap.size w.heap.size w (l.map CharT.b) l.length 0 W1:=by
  refine ⟨(Below.refl _ w).grown hg1 (Nat.le_refl _) (fun k e=>by cases e),?_⟩
  rcases hown.2 with ⟨h,_⟩ | ⟨g,cap',cur,h,_,hgb,_,_,hcs,htk⟩
  · cases h
  · injection h with e1 _ e3
    injection e1 with e1
    injection e1 with e1
    subst e1 e3
    refine ⟨cur,hgb,by omega,fun i h=>by omega,fun i hi=>⟨0,?_⟩⟩
    have hh:(List.take (l.length * 1) cur.toList)[i]? = (madeCells (Value.int .u8 0).cells (l.length * 1)).toList[i]?:=by rw [htk]
    rw [List.getElem?_take,if_pos (by omega),Array.getElem?_toList,Array.getElem?_toList] at hh
    rw [hh]
    have hz:(Value.int IntKind.u8 0).cells = #[.int .u8 0]:=rfl
    rw [hz]
    simp [madeCells,hi,Nat.mod_one]
 have hgl:w.heap.size≠W1.heap.size:=by
  obtain ⟨_,cur,h,_⟩:=h0
  have:=(Array.getElem?_eq_some_iff.1 h).1
  omega
 gi_wp2_with (rw [hmk])
 gi_loopw [11] (fun u wr=>∃ k:Nat,k<=l.length/\u = .int .i64 (k:Int)/\TRow w.heap.size w.heap.size w (l.map CharT.b) l.length k wr)
  (fun u _=>match u with | .int _ z=>l.length - z.toNat | _=>0)
 case atStart=>exact ⟨0,Nat.zero_le _,rfl,h0⟩
 case round=>
  obtain ⟨k,hk,rfl,hbel,cur,hgb,hcs,hc1,hc2⟩:=hrel
  by_cases hlt:k < l.length
  · obtain ⟨b,o,rfl,⟨a0,b0⟩,⟨a1,b1⟩⟩:=hch k hlt
    have hbl:b < w.heap.size:=by
     rcases Nat.lt_or_ge b w.heap.size with h | h
     · exact h
     · rw [hwm b h] at b0; omega
    have f0:wr.cell? ⟨b,o+k * 2,none⟩=some (.int .u8 l[k].b):=by rw [Nat.mul_comm k 2]; exact (xY (hbel.block b hbl) _).trans a0
    have f1:wr.cell? ⟨b,o+k * 2+1,none⟩=some (.int .i64 l[k].fat):=by rw [Nat.mul_comm k 2]; exact (xY (hbel.block b hbl) _).trans a1
    have hgs:=(Array.getElem?_eq_some_iff.1 hgb).1
    obtain ⟨W3,hW3⟩:∃ W3,wr.alloc (.cells #[.int .u8 l[k].b,.int .i64 l[k].fat] 61)=W3:=⟨_,rfl⟩
    have hg3:W3.heap[w.heap.size]? = some (.cells cur 5 (0,0)):=by rw [<- hW3,Below.heap_alloc _ _ _ hgs]; exact hgb
    have hn3:W3.heap[wr.heap.size]? = some (.cells #[.int .u8 l[k].b,.int .i64 l[k].fat] 61 (0,0)):=by rw [<- hW3]; exact World.alloc_heap_new wr _
    have g0:W3.cell? ⟨wr.heap.size,0,none⟩=some (.int .u8 l[k].b):=by simp [World.cell?,hn3]
    obtain ⟨z,hz⟩:=hc2 k hlt
    have hck:W3.cell? ⟨w.heap.size,k,none⟩=some (.int .u8 z):=by simp [World.cell?,hg3,hz]
    have hfk:W3.frozen? ⟨w.heap.size,k,none⟩=false:=by simp [World.frozen?,hg3]
    gi_wp2_with (rw [hW3])
    refine ⟨⟨k+1,hlt,rfl,?_⟩,?_⟩
    · have hbel3:Below w.heap.size w W3:=by rw [<- hW3]; exact hbel.alloc hbel.size _
      refine ⟨hbel3.grown (zDw W3 w.heap.size k (.int .u8 l[k].b)) hbel3.size (fun j e=>by injection e with e; omega),cur.setIfInBounds k (.int .u8 l[k].b),zJc _ hg3,by simpa using hcs,fun i hi=>?_,fun i hi=>?_⟩
      · rw [Array.getElem?_setIfInBounds]
        by_cases e:k=i
        · subst e
          rw [if_pos rfl,if_pos (by omega)]
          simp [hlt]
        · rw [if_neg e]; exact hc1 i (by omega)
      · rw [Array.getElem?_setIfInBounds]
        by_cases e:k=i
        · subst e
          rw [if_pos rfl,if_pos (by omega)]
          exact ⟨_,rfl⟩
        · rw [if_neg e]; exact hc2 i hi
    · show l.length - Int.toNat ((k:Int)+1) < l.length - Int.toNat (k:Int)
      omega
  · obtain rfl:k=l.length:=by omega
    have hcv:=run_convert_bytes_arg (P:=Tryd.prog) wr 76 5 Tryd.underlying76 Tryd.underlying5 w.heap.size 0 l.length l.length (l.map CharT.b) (by simp) (fun i hi=>by
     have:=hc1 i hi
     simp [World.cell?,hgb,this]) 9 Tryd.underlying9
    gi_wp2_with (rw [hcv])
    go_ret
    exact ⟨rfl,hbel⟩
def c28 (x:List CharT×Unit):Option (Str×Unit):=if x.1.length < 1100000 then some (x.1.map (fun c=>UInt8.ofNat c.b.toNat),()) else none
theorem pure28 (l:List CharT) (hlen:l.length < 1100000):xh Tryd.prog 28 [.lst (zu (l.map zx)) (l.map zx)] (.at (.string ⟨(l.map (fun c=>UInt8.ofNat c.b.toNat)).toArray⟩)):=by
 intro wm w us hwm hgl hu
 obtain ⟨v,rfl⟩:∃ v,us=[v]:=by cases hu with | cons _ hv=>cases hv; exact ⟨_,rfl⟩
 cases hu with
 | cons h _=>
  obtain ⟨us,h1,h2⟩:=h
  have hle:=xe _ _ _ _ h1
  obtain ⟨sv,rfl⟩:=List.length_eq_one_iff.1 (show us.length=1 from hle)
  obtain ⟨ad,cap,rfl,hch⟩:=zMr h1
  have:v = .slice ad l.length cap:=h2
  subst this
  refine callsIn_wide.1 ((zO3 3 l hlen wm w hwm ad cap hch).mono ?_)
  rintro e w' ⟨rfl,hbel⟩
  obtain ⟨q1,q2⟩:=xn hwm hbel
  refine ⟨_,wm,rfl,q1,q2,?_⟩
  have e2:strOfNums (l.map CharT.b)=⟨(l.map (fun c=>UInt8.ofNat c.b.toNat)).toArray⟩:=by simp [strOfNums,List.map_map,Function.comp_def]
  rw [e2]
  exact zk rfl
theorem ok28:ConOk CC Tryd.prog 28 ⟨as28,rs28,c28⟩:=fun x y hx vs hvs=>by
 obtain ⟨s,u⟩:=x
 obtain ⟨v,vs',rfl,hv,hvs⟩:=hvs
 replace hvs:vs' = []:=hvs
 subst hvs
 change List CharT at s
 replace hv:v = .lst (zu (s.map zx)) (s.map zx):=hv
 subst hv
 by_cases h:s.length < 1100000
 · have h2:c28 (s,u)=some (s.map (fun c=>UInt8.ofNat c.b.toNat),()):=if_pos h
   replace hx:c28 (s,u)=some y:=hx
   rw [h2] at hx
   injection hx with hx
   subst hx
   exact pure28 s h
 · have h2:c28 (s,u)=none:=if_neg h
   replace hx:c28 (s,u)=some y:=hx
   rw [h2] at hx
   cases hx
end
section
open Go.Al Go.Den
theorem zCa (P:Program) (op:BinOp) (t:TypeId) (c:Bool) (k k':IntKind) (a b:Int) (K:V->Prop):zAk P op t c (.at (.int k a)) (.at (.int k' b)) K=aBin P op t (.at (.int k a)) (.at (.int k' b)) K:=rfl
abbrev polN:Pol:=⟨fun _=>false,fun _=>false,fun _=>false,fun _=>false,[],fun _=>[]⟩
theorem zGP (d:Nat):polN.wr d=false:=rfl
theorem zEM (d:Nat):polN.own d=false:=rfl
def kT (s:Str) (n:Int):Int:=if n < s.length then zK s n else 0
def c56 (a:Int×Unit) (s:Str) (i:Int):Option (Int×Unit):=if 0<=i+a.1/\i+a.1 < 9223372036854775808/\s.length < 9223372036854775808 then some (kT s (i+a.1),()) else none
set_option maxRecDepth 100000 in
theorem ok56:CROk CC Tryd.prog 56 (cRD [.int .i64] [.int .u8] c56):=by
 intro x R K r hr
 obtain ⟨⟨s0,i,u⟩,k,u'⟩:=x
 change Str at s0
 change Int at i
 change Int at k
 replace hr:Option.bind (c56 (k,()) s0 i) (fun y=>K y)=some r:=hr
 unfold c56 at hr
 split at hr
 rotate_left
 · cases hr
 rename_i h
 replace hr:K (kT s0 (i+k),())=some r:=hr
 replace h:0<=i+k/\i+k < 9223372036854775808/\s0.length < 9223372036854775808:=h
 refine ⟨_,hr,fun s va q hv hn=>?_⟩
 simp only [VKs,VK] at hv
 obtain ⟨v,w,q1,q2,rfl,rfl,⟨b0,cs,q3,rfl,e1,⟨v2,w2,q4,q5,rfl,rfl,⟨rfl,rfl⟩,v4,w4,q8,q9,rfl,rfl,⟨rfl,rfl⟩,rfl,rfl⟩,rfl⟩,v3,w3,q6,q7,rfl,rfl,⟨rfl,rfl⟩,rfl,rfl⟩:=hv
 refine ⟨[.at (.int .u8 (kT s0 (i+k)))],fun s'=>⟨_,[],[],[],rfl,rfl,⟨rfl,rfl⟩,rfl,rfl⟩,?_⟩
 simp only [List.nil_append,List.append_nil,List.cons_append]
 have e2:=(yR s [.inr b0] b0).1 (by simp)
 rw [e1] at e2
 show FnC Tryd.prog 56 _ (subS s [.inr b0]) fun oc s'=>oc = .ret (finV [.at (.int .u8 (kT s0 (i+k)))])/\s' = subS s [.inr b0]
 generalize subS s [.inr b0]=s1 at e2 ⊢
 refine zB5 Tryd.func56 rfl Tryd.ntmps56 Tryd.results56 (by show 2<=28; decide) fun B=>?_
 simp only [List.cons_append,List.nil_append,List.append_nil,qu,Nat.reduceAdd]
 replace e2:Al.look s1.box b0=some ([.at (.string ⟨List.toArray s0⟩),.at (.int .i64 i)],2):=e2
 have hw:IntKind.i64.wrap (i+k)=i+k:=IntWalk.i64_in _ (by omega)
 have hsz:(⟨List.toArray s0⟩:ByteArray).size=s0.length:=by simp [ByteArray.size]
 (repeat (first | (refine zDk ?_) | (refine zAT ?_; simp -failIfUnchanged only [yH,yC]) | (refine zDb ?_; simp -failIfUnchanged only [qg,qE,zEh,zDT]) | (refine zCH ?_; simp -failIfUnchanged only [qN,xo,yH,yC,reduceIte]) | (refine zAb ?_) | ((first | (refine zDl polN ks56 _ rfl rfl ?_) | (refine zCQ polN mixed ks56 _ rfl rfl (by kernel_rfl) (by kernel_rfl) ?_)); simp only [↓zCj,↓zHm,↓zFo,↓zDB,↓zF2,↓zIO,↓zKZ,↓zCR,↓zEG,↓zAA,↓k9,↓zER,↓zGM,↓zEe,↓zEu,↓zIa,↓zEa,↓kF,↓zA5,↓zEW,↓zHj,↓zJK,↓zCu,yH,qN,qg,zAu,yC,xo,qE,zAS,zDM,zDV,zEp,zGD,zIn,zEv,zFw,zIk,zGA,zC8,zJD,zI2,zBZ,zDL,zEx,zC2,zEB,zEg,zEQ,zD9,zEl,zD7,zEr,zEt,zEK,zEH,zEZ,zDD,zCt,zF4,zGH,zD8,zCN,zEU,zEs,zCP,kv,jW,kG,zCC,zCw,zBk,zBj,zA2,qv,zAP,jd,ky,zBh,zAy,jb,zAx,qd,kt,zCT,zCp,zAz,zDN,zA6,zAQ,zDF,zB7,zBa,zB0,zAv,zCF,zEf,zFs,zFj,zEc,qY,spl,jU,zEX,zF8,zGE,zHq,yh,zDO,zBl,zLN,kH,kK,jQ,Option.map_some,List.mem_cons,true_or,implies_true,false_implies,true_implies,Nat.reduceLT,List.erase_cons_head,Nat.one_mul,zA1,Go.Al.untag_at,zCM,zCv,zCI,zEb,zC6,zCf,x9,zDA,zCE,zC4,zB8,zA0,zAV,kJ,zAB,List.map_cons,List.map_nil,List.cons_append,List.nil_append,List.append_nil,and_self,beq_self_eq_true,fits,yl,yJ,zG,V.isOne,V.isAgg,V.size,V.flat,xj,List.all_cons,List.all_nil,List.length_cons,List.length_nil,List.drop_zero,List.drop_succ_cons,List.take_succ_cons,List.take_zero,List.take_nil,List.getD_cons_zero,List.getD_cons_succ,List.length_map,Bool.and_true,Bool.true_and,Bool.and_self,Option.isSome_some,if_true,if_false,and_true,true_and,Nat.reduceAdd,Nat.reduceEqDiff,Nat.reduceLeDiff,Nat.reduceMul,Nat.reduceSub,reduceIte,reduceCtorEq,Bool.false_eq_true,eq_self,Nat.zero_add,Nat.add_zero,Nat.lt_irrefl,Nat.le_refl,Nat.zero_lt_one,Nat.zero_le,Nat.lt_add_one,yB,yd,zEL,zB6,zCL,zCm,zDJ,zA3,kD,kL,zAH,zAN,zAr,zCi,zDK,Option.map_none,zN,qV,zDH,Env.get_put,yF,Nat.reduceBEq,Bool.or_true,Bool.true_or,Bool.or_false,Bool.or_self,Nat.zero_mul,zKc,zKL,zIV,zHw,zLH,zK3,zKR,zJG,zIb,zIs,zKj,zKb,zLP,zIX,zJF,zKN,zKP,zKw,zIJ,zHy,zKu,zKm,zJQ,zHr,zGQ,zGI,zHn,zIU,zJI,zGJ,zF9,zCe,zFq,zFx,zIN,ks56,e2,zCa,hw,hsz,zGP,zEM])))
 refine zHz rfl (fun h1=>?_) (fun h1=>?_)
 · have h2:i+k >= s0.length:=of_decide_eq_true h1
   have h3:kT s0 (i+k)=0:=if_neg (by omega)
   (repeat (first | (refine zDk ?_) | (refine zAT ?_; simp -failIfUnchanged only [yH,yC]) | (refine zDb ?_; simp -failIfUnchanged only [qg,qE,zEh,zDT]) | (refine zCH ?_; simp -failIfUnchanged only [qN,xo,yH,yC,reduceIte]) | (refine zAb ?_) | ((first | (refine zDl polN ks56 _ rfl rfl ?_) | (refine zCQ polN mixed ks56 _ rfl rfl (by kernel_rfl) (by kernel_rfl) ?_)); simp only [↓zCj,↓zHm,↓zFo,↓zDB,↓zF2,↓zIO,↓zKZ,↓zCR,↓zEG,↓zAA,↓k9,↓zER,↓zGM,↓zEe,↓zEu,↓zIa,↓zEa,↓kF,↓zA5,↓zEW,↓zHj,↓zJK,↓zCu,yH,qN,qg,zAu,yC,xo,qE,zAS,zDM,zDV,zEp,zGD,zIn,zEv,zFw,zIk,zGA,zC8,zJD,zI2,zBZ,zDL,zEx,zC2,zEB,zEg,zEQ,zD9,zEl,zD7,zEr,zEt,zEK,zEH,zEZ,zDD,zCt,zF4,zGH,zD8,zCN,zEU,zEs,zCP,kv,jW,kG,zCC,zCw,zBk,zBj,zA2,qv,zAP,jd,ky,zBh,zAy,jb,zAx,qd,kt,zCT,zCp,zAz,zDN,zA6,zAQ,zDF,zB7,zBa,zB0,zAv,zCF,zEf,zFs,zFj,zEc,qY,spl,jU,zEX,zF8,zGE,zHq,yh,zDO,zBl,zLN,kH,kK,jQ,Option.map_some,List.mem_cons,true_or,implies_true,false_implies,true_implies,Nat.reduceLT,List.erase_cons_head,Nat.one_mul,zA1,Go.Al.untag_at,zCM,zCv,zCI,zEb,zC6,zCf,x9,zDA,zCE,zC4,zB8,zA0,zAV,kJ,zAB,List.map_cons,List.map_nil,List.cons_append,List.nil_append,List.append_nil,and_self,beq_self_eq_true,fits,yl,yJ,zG,V.isOne,V.isAgg,V.size,V.flat,xj,List.all_cons,List.all_nil,List.length_cons,List.length_nil,List.drop_zero,List.drop_succ_cons,List.take_succ_cons,List.take_zero,List.take_nil,List.getD_cons_zero,List.getD_cons_succ,List.length_map,Bool.and_true,Bool.true_and,Bool.and_self,Option.isSome_some,if_true,if_false,and_true,true_and,Nat.reduceAdd,Nat.reduceEqDiff,Nat.reduceLeDiff,Nat.reduceMul,Nat.reduceSub,reduceIte,reduceCtorEq,Bool.false_eq_true,eq_self,Nat.zero_add,Nat.add_zero,Nat.lt_irrefl,Nat.le_refl,Nat.zero_lt_one,Nat.zero_le,Nat.lt_add_one,yB,yd,zEL,zB6,zCL,zCm,zDJ,zA3,kD,kL,zAH,zAN,zAr,zCi,zDK,Option.map_none,zN,qV,zDH,Env.get_put,yF,Nat.reduceBEq,Bool.or_true,Bool.true_or,Bool.or_false,Bool.or_self,Nat.zero_mul,zKc,zKL,zIV,zHw,zLH,zK3,zKR,zJG,zIb,zIs,zKj,zKb,zLP,zIX,zJF,zKN,zKP,zKw,zIJ,zHy,zKu,zKm,zJQ,zHr,zGQ,zGI,zHn,zIU,zJI,zGJ,zF9,zCe,zFq,zFx,zIN,ks56,e2,zCa,hw,hsz,zGP,zEM])))
   simp only [yE]
   rw [h3]
   exact ⟨rfl,rfl,trivial⟩
 · have h2:¬ i+k >= s0.length:=of_decide_eq_false h1
   have h3:kT s0 (i+k)=zK s0 (i+k):=if_pos (by omega)
   refine zAT ?_
   simp -failIfUnchanged only [yH,yC]
   have hin:0<=i+k/\i+k < (s0.length:Int):=by omega
   (repeat (first | (refine zDk ?_) | (refine zAT ?_; simp -failIfUnchanged only [yH,yC]) | (refine zDb ?_; simp -failIfUnchanged only [qg,qE,zEh,zDT]) | (refine zCH ?_; simp -failIfUnchanged only [qN,xo,yH,yC,reduceIte]) | (refine zAb ?_) | ((first | (refine zDl polN ks56 _ rfl rfl ?_) | (refine zCQ polN mixed ks56 _ rfl rfl (by kernel_rfl) (by kernel_rfl) ?_)); simp only [↓zCj,↓zHm,↓zFo,↓zDB,↓zF2,↓zIO,↓zKZ,↓zCR,↓zEG,↓zAA,↓k9,↓zER,↓zGM,↓zEe,↓zEu,↓zIa,↓zEa,↓kF,↓zA5,↓zEW,↓zHj,↓zJK,↓zCu,yH,qN,qg,zAu,yC,xo,qE,zAS,zDM,zDV,zEp,zGD,zIn,zEv,zFw,zIk,zGA,zC8,zJD,zI2,zBZ,zDL,zEx,zC2,zEB,zEg,zEQ,zD9,zEl,zD7,zEr,zEt,zEK,zEH,zEZ,zDD,zCt,zF4,zGH,zD8,zCN,zEU,zEs,zCP,kv,jW,kG,zCC,zCw,zBk,zBj,zA2,qv,zAP,jd,ky,zBh,zAy,jb,zAx,qd,kt,zCT,zCp,zAz,zDN,zA6,zAQ,zDF,zB7,zBa,zB0,zAv,zCF,zEf,zFs,zFj,zEc,qY,spl,jU,zEX,zF8,zGE,zHq,yh,zDO,zBl,zLN,kH,kK,jQ,Option.map_some,List.mem_cons,true_or,implies_true,false_implies,true_implies,Nat.reduceLT,List.erase_cons_head,Nat.one_mul,zA1,Go.Al.untag_at,zCM,zCv,zCI,zEb,zC6,zCf,x9,zDA,zCE,zC4,zB8,zA0,zAV,kJ,zAB,List.map_cons,List.map_nil,List.cons_append,List.nil_append,List.append_nil,and_self,beq_self_eq_true,fits,yl,yJ,zG,V.isOne,V.isAgg,V.size,V.flat,xj,List.all_cons,List.all_nil,List.length_cons,List.length_nil,List.drop_zero,List.drop_succ_cons,List.take_succ_cons,List.take_zero,List.take_nil,List.getD_cons_zero,List.getD_cons_succ,List.length_map,Bool.and_true,Bool.true_and,Bool.and_self,Option.isSome_some,if_true,if_false,and_true,true_and,Nat.reduceAdd,Nat.reduceEqDiff,Nat.reduceLeDiff,Nat.reduceMul,Nat.reduceSub,reduceIte,reduceCtorEq,Bool.false_eq_true,eq_self,Nat.zero_add,Nat.add_zero,Nat.lt_irrefl,Nat.le_refl,Nat.zero_lt_one,Nat.zero_le,Nat.lt_add_one,yB,yd,zEL,zB6,zCL,zCm,zDJ,zA3,kD,kL,zAH,zAN,zAr,zCi,zDK,Option.map_none,zN,qV,zDH,Env.get_put,yF,Nat.reduceBEq,Bool.or_true,Bool.true_or,Bool.or_false,Bool.or_self,Nat.zero_mul,zKc,zKL,zIV,zHw,zLH,zK3,zKR,zJG,zIb,zIs,zKj,zKb,zLP,zIX,zJF,zKN,zKP,zKw,zIJ,zHy,zKu,zKm,zJQ,zHr,zGQ,zGI,zHn,zIU,zJI,zGJ,zF9,zCe,zFq,zFx,zIN,ks56,e2,zCa,hw,hsz,hin,zGP,zEM])))
   have hg:(List.toArray s0).getD (i+k).toNat 0=s0.getD (i+k).toNat 0:=by simp [Array.getD_eq_getD_getElem?,List.getD_eq_getElem?_getD]
   simp only [yE]
   rw [h3,hg]
   exact ⟨rfl,rfl,trivial⟩
end
section
open Go.Al Go.Den
instance:DecidableEq TokT:=fun a b=>
 if h:a.kind=b.kind/\a.text=b.text/\a.file=b.file/\a.ffrom=b.ffrom/\a.fto=b.fto/\a.blank=b.blank then
  isTrue (by obtain ⟨_,_,_,_,_,_⟩:=a; obtain ⟨_,_,_,_,_,_⟩:=b; simp only at h; obtain ⟨rfl,rfl,rfl,rfl,rfl,rfl⟩:=h; rfl)
 else isFalse fun e=>h (by subst e; exact ⟨rfl,rfl,rfl,rfl,rfl,rfl⟩)
theorem zIo {P:Program} {f:Nat} {io oo aa rs:List (SK UU)} {sh:zB io->zB aa->Option (Option (zB oo×zB rs))} (h:CPOk CC P syn f ⟨io,oo,aa,rs,fnP sh⟩) (x:zB io) (a:zB aa) (oc:Option (zB oo×zB rs)) (hx:sh x a=some oc) :
 ∀ s vx va r1 r2,VKs CC s io x vx r1->VKs CC s aa a va r2->(r1++r2).Nodup->FnC P f (vx++va) (subS s (r1++r2)) (zAd CC syn oo rs vx oc):=by
 cases oc with
 | none=>
  obtain ⟨oc,h1,h2⟩:=h x a (R:=Unit) (some ()) (fun _ _=>none) () (by simp only [fnP,hx]; rfl)
  cases oc with
  | none=>exact h2
  | some y=>cases h1
 | some y=>
  obtain ⟨oc,h1,h2⟩:=h x a (R:=zB oo×zB rs) none (fun u v=>some (u,v)) y (by simp only [fnP,hx]; rfl)
  cases oc with
  | none=>cases h1
  | some y'=>
   injection h1 with h1
   have:y' = y:=h1
   subst this
   exact h2
def outD {β:Type} (l:Str):Option (Option ((RdT×Unit)×β))->Option (β×Int)
 | some (some y)=>if y.1.1.1=l then some (y.2,y.1.1.2.1) else none
 | _=>none
noncomputable def mD {aa rs:LK} (sh:RdT×Unit->zB aa->Option (Option ((RdT×Unit)×zB rs))):zB aa->DD (zB rs):=fun a l i=>outD l (sh ((l,i,()),()) a)
theorem zBq {P:Program} {f:Nat} {aa rs:LK} {sh:zB ([rdK]:LK)->zB aa->Option (Option (zB ([rdK]:LK)×zB rs))} (h:CPOk CC P syn f ⟨[rdK],[rdK],aa,rs,fnP sh⟩):CPOk CC P syn f (cD aa rs (mD sh)):=by
 intro x a R pan K r hr
 obtain ⟨⟨l,i,u⟩,u'⟩:=x
 have key:∀ oo:Option (Option ((RdT×Unit)×zB rs)),sh ((l,i,()),()) a=oo->(Option.bind (outD l oo) fun y=>K ((l,y.2,()),()) y.1)=some r ->
  ∃ oc:Option (zB ([rdK]:LK)×zB rs),(match oc with | none=>pan=some r | some y=>K y.1 y.2=some r)/\∀ s vx va r1 r2,VKs CC s [rdK] ((l,i,u),u') vx r1->VKs CC s aa a va r2->(r1++r2).Nodup->FnC P f (vx++va) (subS s (r1++r2)) (zAd CC syn [rdK] rs vx oc):=by
  intro oo hs hr
  cases oo with
  | none=>cases hr
  | some oc=>
   have hh:=zIo h ((l,i,()),()) a oc hs
   cases oc with
   | none=>cases hr
   | some y=>
    obtain ⟨⟨⟨l',i',w⟩,v2⟩,z⟩:=y
    unfold outD at hr
    simp only at hr
    split at hr
    · rename_i hy
      subst hy
      exact ⟨some (((l',i',()),()),z),hr,hh⟩
    · cases hr
 obtain ⟨oc,h1,h2⟩:=key _ rfl hr
 exact ⟨oc,by cases oc <;> exact h1,h2⟩
def outE {β:Type}:Option (Option ((ExT×Unit)×β))->Option (β×ES)
 | some (some y)=>some (y.2,exI y.1)
 | _=>none
noncomputable def mE {aa rs:LK} (sh:ExT×Unit->zB aa->Option (Option ((ExT×Unit)×zB rs))):zB aa->EE (zB rs):=fun a l=>outE (sh (exO l) a)
theorem zBi {P:Program} {f:Nat} {aa rs:LK} {sh:zB ([exK]:LK)->zB aa->Option (Option (zB ([exK]:LK)×zB rs))} (h:CPOk CC P syn f ⟨[exK],[exK],aa,rs,fnP sh⟩):CPOk CC P syn f (cE aa rs (mE sh)):=by
 intro x a R pan K r hr
 obtain ⟨⟨l,i,j,u⟩,u'⟩:=x
 have key:∀ oo:Option (Option ((ExT×Unit)×zB rs)),sh ((l,i,j,()),()) a=oo->(Option.bind (outE oo) fun y=>K (exO y.2) y.1)=some r ->
  ∃ oc:Option (zB ([exK]:LK)×zB rs),(match oc with | none=>pan=some r | some y=>K y.1 y.2=some r)/\∀ s vx va r1 r2,VKs CC s [exK] ((l,i,j,u),u') vx r1->VKs CC s aa a va r2->(r1++r2).Nodup->FnC P f (vx++va) (subS s (r1++r2)) (zAd CC syn [exK] rs vx oc):=by
  intro oo hs hr
  cases oo with
  | none=>cases hr
  | some oc=>
   have hh:=zIo h ((l,i,j,()),()) a oc hs
   cases oc with
   | none=>cases hr
   | some y=>
    obtain ⟨⟨⟨l',i',j',w⟩,v2⟩,z⟩:=y
    exact ⟨some (((l',i',j',()),()),z),hr,hh⟩
 obtain ⟨oc,h1,h2⟩:=key _ rfl hr
 exact ⟨oc,by cases oc <;> exact h1,h2⟩
def outF {β:Type}:Option (Option (Unit×β))->Option β
 | some (some y)=>some y.2
 | _=>none
noncomputable def mF {aa rs:LK} (sh:Unit->zB aa->Option (Option (Unit×zB rs))):zB aa->Option (zB rs):=fun a=>outF (sh () a)
theorem cF_of {P:Program} {f:Nat} {aa rs:LK} {sh:zB ([]:LK)->zB aa->Option (Option (zB ([]:LK)×zB rs))} (h:CPOk CC P syn f ⟨[],[],aa,rs,fnP sh⟩):CPOk CC P syn f (cF aa rs (mF sh)):=by
 intro x a R pan K r hr
 have key:∀ oo:Option (Option (Unit×zB rs)),sh () a=oo->(Option.bind (outF oo) fun y=>K () y)=some r ->
  ∃ oc:Option (zB ([]:LK)×zB rs),(match oc with | none=>pan=some r | some y=>K y.1 y.2=some r)/\∀ s vx va r1 r2,VKs CC s ([]:LK) x vx r1->VKs CC s aa a va r2->(r1++r2).Nodup->FnC P f (vx++va) (subS s (r1++r2)) (zAd CC syn ([]:LK) rs vx oc):=by
  intro oo hs hr
  cases oo with
  | none=>cases hr
  | some oc=>
   have hh:=zIo h () a oc hs
   cases oc with
   | none=>cases hr
   | some y=>
    obtain ⟨y1,z⟩:=y
    exact ⟨some ((),z),hr,hh⟩
 obtain ⟨oc,h1,h2⟩:=key _ rfl hr
 exact ⟨oc,by cases oc <;> exact h1,h2⟩
end
section
open Go.Al Go.Den
def sh39 (fu:Nat) (nf:Nat->Bool) (x0:Int):(Option (Int×Unit)):=cond (ile 48 x0) (cond (ile x0 57) (some ((zM .u64 (isub .u8 x0 48)),())) (cond (ile 97 x0) (cond (ile x0 102) (some ((iadd .u64 (zM .u64 (isub .u8 x0 97)) 10),())) (cond (ile 65 x0) (cond (ile x0 70) (some ((iadd .u64 (zM .u64 (isub .u8 x0 65)) 10),())) (some (16,()))) (some (16,())))) (cond (ile 65 x0) (cond (ile x0 70) (some ((iadd .u64 (zM .u64 (isub .u8 x0 65)) 10),())) (some (16,()))) (some (16,()))))) (cond (ile 97 x0) (cond (ile x0 102) (some ((iadd .u64 (zM .u64 (isub .u8 x0 97)) 10),())) (cond (ile 65 x0) (cond (ile x0 70) (some ((iadd .u64 (zM .u64 (isub .u8 x0 65)) 10),())) (some (16,()))) (some (16,())))) (cond (ile 65 x0) (cond (ile x0 70) (some ((iadd .u64 (zM .u64 (isub .u8 x0 65)) 10),())) (some (16,()))) (some (16,()))))
theorem eq39:@run39 = @sh39:=by kernel_rfl
def sh41 (fu:Nat) (nf:Nat->Bool) (x0:Str):(Option (Bool×Unit)):=iter fu (fun (rec1:((Int×Unit)×Unit)->Option (Bool×Unit)) (s1:((Int×Unit)×Unit))=>cond (ilt s1.1.1 5) (cond (inB s1.1.1 5) (iter fu (fun (rec2:((Int×Unit)×Unit)->Option (Bool×Unit)) (s2:((Int×Unit)×Unit))=>cond (ilt s2.1.1 3) (cond (inB s2.1.1 3) (cond (okS ((List.length (α:=UInt8) (List.getD [[],[108],[76],[108,108],[76,76]] (Int.toNat s1.1.1) []))+(List.length (α:=UInt8) (List.getD [[],[117],[85]] (Int.toNat s2.1.1) [])))) (cond (seq x0 ((List.getD [[],[108],[76],[108,108],[76,76]] (Int.toNat s1.1.1) [])++(List.getD [[],[117],[85]] (Int.toNat s2.1.1) []))) (some (true,())) (cond (okS ((List.length (α:=UInt8) (List.getD [[],[117],[85]] (Int.toNat s2.1.1) []))+(List.length (α:=UInt8) (List.getD [[],[108],[76],[108,108],[76,76]] (Int.toNat s1.1.1) [])))) (cond (seq x0 ((List.getD [[],[117],[85]] (Int.toNat s2.1.1) [])++(List.getD [[],[108],[76],[108,108],[76,76]] (Int.toNat s1.1.1) []))) (some (true,())) (rec2 (((iadd .i64 s2.1.1 1),()),()))) (none))) (none)) (none)) (rec1 (((iadd .i64 s1.1.1 1),()),()))) ((0,()),())) (none)) (some (false,()))) ((0,()),())
theorem eq41:@run41 = @sh41:=by kernel_rfl
def sh13 (fu:Nat) (c39:(Int×Unit)->(Option (Int×Unit))) (c40:(Int×(Int×Unit))->(Option (Int×(Int×Unit)))) (c41:(Str×Unit)->(Option (Bool×Unit))) (nf:Nat->Bool) (x0:Str):(Option (Int×(Int×Unit))):=cond (ile (lenI [48,120]) (lenI x0)) (cond (inS 0 (lenI [48,120]) (List.length x0)) (cond (seq (cutL x0 0 (lenI [48,120])) [48,120]) (cond (inS 2 (lenI x0) (List.length x0)) (iter fu (fun (rec1:((Int×(Int×Unit))×Unit)->Option (Int×(Int×Unit))) (s1:((Int×(Int×Unit))×Unit))=>cond (ilt s1.1.2.1 (lenI (cutL x0 2 (lenI x0)))) (cond (inB s1.1.2.1 (List.length (cutL x0 2 (lenI x0)))) (Option.bind (c39 ((zK (cutL x0 2 (lenI x0)) s1.1.2.1),())) fun y0=>cond (ile 16 y0.1) (cond (ieq s1.1.2.1 0) (some (0,(91,()))) (cond (inS s1.1.2.1 (lenI (cutL x0 2 (lenI x0))) (List.length (cutL x0 2 (lenI x0)))) (Option.bind (c41 ((cutL (cutL x0 2 (lenI x0)) s1.1.2.1 (lenI (cutL x0 2 (lenI x0)))),())) fun y1=>cond (!y1.1) (some (0,(91,()))) (some ((zM .i64 s1.1.1),(0,())))) (none))) (Option.bind (c40 (s1.1.1,(16,()))) fun y1=>cond (ine y1.1 0) (some (0,(91,()))) (cond (ile 9223372036854775808 y1.2.1) (some (0,(91,()))) (cond (ile 9223372036854775808 (iadd .u64 y1.2.1 y0.1)) (some (0,(91,()))) (rec1 (((iadd .u64 y1.2.1 y0.1),((iadd .i64 s1.1.2.1 1),())),())))))) (none)) (cond (ieq s1.1.2.1 0) (some (0,(91,()))) (cond (inS s1.1.2.1 (lenI (cutL x0 2 (lenI x0))) (List.length (cutL x0 2 (lenI x0)))) (Option.bind (c41 ((cutL (cutL x0 2 (lenI x0)) s1.1.2.1 (lenI (cutL x0 2 (lenI x0)))),())) fun y0=>cond (!y0.1) (some (0,(91,()))) (some ((zM .i64 s1.1.1),(0,())))) (none)))) ((0,(0,())),())) (none)) (cond (ile (lenI [48,88]) (lenI x0)) (cond (inS 0 (lenI [48,88]) (List.length x0)) (cond (seq (cutL x0 0 (lenI [48,88])) [48,88]) (cond (inS 2 (lenI x0) (List.length x0)) (iter fu (fun (rec1:((Int×(Int×Unit))×Unit)->Option (Int×(Int×Unit))) (s1:((Int×(Int×Unit))×Unit))=>cond (ilt s1.1.2.1 (lenI (cutL x0 2 (lenI x0)))) (cond (inB s1.1.2.1 (List.length (cutL x0 2 (lenI x0)))) (Option.bind (c39 ((zK (cutL x0 2 (lenI x0)) s1.1.2.1),())) fun y0=>cond (ile 16 y0.1) (cond (ieq s1.1.2.1 0) (some (0,(91,()))) (cond (inS s1.1.2.1 (lenI (cutL x0 2 (lenI x0))) (List.length (cutL x0 2 (lenI x0)))) (Option.bind (c41 ((cutL (cutL x0 2 (lenI x0)) s1.1.2.1 (lenI (cutL x0 2 (lenI x0)))),())) fun y1=>cond (!y1.1) (some (0,(91,()))) (some ((zM .i64 s1.1.1),(0,())))) (none))) (Option.bind (c40 (s1.1.1,(16,()))) fun y1=>cond (ine y1.1 0) (some (0,(91,()))) (cond (ile 9223372036854775808 y1.2.1) (some (0,(91,()))) (cond (ile 9223372036854775808 (iadd .u64 y1.2.1 y0.1)) (some (0,(91,()))) (rec1 (((iadd .u64 y1.2.1 y0.1),((iadd .i64 s1.1.2.1 1),())),())))))) (none)) (cond (ieq s1.1.2.1 0) (some (0,(91,()))) (cond (inS s1.1.2.1 (lenI (cutL x0 2 (lenI x0))) (List.length (cutL x0 2 (lenI x0)))) (Option.bind (c41 ((cutL (cutL x0 2 (lenI x0)) s1.1.2.1 (lenI (cutL x0 2 (lenI x0)))),())) fun y0=>cond (!y0.1) (some (0,(91,()))) (some ((zM .i64 s1.1.1),(0,())))) (none)))) ((0,(0,())),())) (none)) (cond (ile (lenI [48]) (lenI x0)) (cond (inS 0 (lenI [48]) (List.length x0)) (cond (seq (cutL x0 0 (lenI [48])) [48]) (iter fu (fun (rec1:((Int×(Int×Unit))×Unit)->Option (Int×(Int×Unit))) (s1:((Int×(Int×Unit))×Unit))=>cond (ilt s1.1.2.1 (lenI x0)) (cond (inB s1.1.2.1 (List.length x0)) (Option.bind (c39 ((zK x0 s1.1.2.1),())) fun y0=>cond (ile 8 y0.1) (cond (ieq s1.1.2.1 0) (some (0,(91,()))) (cond (inS s1.1.2.1 (lenI x0) (List.length x0)) (Option.bind (c41 ((cutL x0 s1.1.2.1 (lenI x0)),())) fun y1=>cond (!y1.1) (some (0,(91,()))) (some ((zM .i64 s1.1.1),(0,())))) (none))) (Option.bind (c40 (s1.1.1,(8,()))) fun y1=>cond (ine y1.1 0) (some (0,(91,()))) (cond (ile 9223372036854775808 y1.2.1) (some (0,(91,()))) (cond (ile 9223372036854775808 (iadd .u64 y1.2.1 y0.1)) (some (0,(91,()))) (rec1 (((iadd .u64 y1.2.1 y0.1),((iadd .i64 s1.1.2.1 1),())),())))))) (none)) (cond (ieq s1.1.2.1 0) (some (0,(91,()))) (cond (inS s1.1.2.1 (lenI x0) (List.length x0)) (Option.bind (c41 ((cutL x0 s1.1.2.1 (lenI x0)),())) fun y0=>cond (!y0.1) (some (0,(91,()))) (some ((zM .i64 s1.1.1),(0,())))) (none)))) ((0,(0,())),())) (iter fu (fun (rec1:((Int×(Int×Unit))×Unit)->Option (Int×(Int×Unit))) (s1:((Int×(Int×Unit))×Unit))=>cond (ilt s1.1.2.1 (lenI x0)) (cond (inB s1.1.2.1 (List.length x0)) (Option.bind (c39 ((zK x0 s1.1.2.1),())) fun y0=>cond (ile 10 y0.1) (cond (ieq s1.1.2.1 0) (some (0,(91,()))) (cond (inS s1.1.2.1 (lenI x0) (List.length x0)) (Option.bind (c41 ((cutL x0 s1.1.2.1 (lenI x0)),())) fun y1=>cond (!y1.1) (some (0,(91,()))) (some ((zM .i64 s1.1.1),(0,())))) (none))) (Option.bind (c40 (s1.1.1,(10,()))) fun y1=>cond (ine y1.1 0) (some (0,(91,()))) (cond (ile 9223372036854775808 y1.2.1) (some (0,(91,()))) (cond (ile 9223372036854775808 (iadd .u64 y1.2.1 y0.1)) (some (0,(91,()))) (rec1 (((iadd .u64 y1.2.1 y0.1),((iadd .i64 s1.1.2.1 1),())),())))))) (none)) (cond (ieq s1.1.2.1 0) (some (0,(91,()))) (cond (inS s1.1.2.1 (lenI x0) (List.length x0)) (Option.bind (c41 ((cutL x0 s1.1.2.1 (lenI x0)),())) fun y0=>cond (!y0.1) (some (0,(91,()))) (some ((zM .i64 s1.1.1),(0,())))) (none)))) ((0,(0,())),()))) (none)) (iter fu (fun (rec1:((Int×(Int×Unit))×Unit)->Option (Int×(Int×Unit))) (s1:((Int×(Int×Unit))×Unit))=>cond (ilt s1.1.2.1 (lenI x0)) (cond (inB s1.1.2.1 (List.length x0)) (Option.bind (c39 ((zK x0 s1.1.2.1),())) fun y0=>cond (ile 10 y0.1) (cond (ieq s1.1.2.1 0) (some (0,(91,()))) (cond (inS s1.1.2.1 (lenI x0) (List.length x0)) (Option.bind (c41 ((cutL x0 s1.1.2.1 (lenI x0)),())) fun y1=>cond (!y1.1) (some (0,(91,()))) (some ((zM .i64 s1.1.1),(0,())))) (none))) (Option.bind (c40 (s1.1.1,(10,()))) fun y1=>cond (ine y1.1 0) (some (0,(91,()))) (cond (ile 9223372036854775808 y1.2.1) (some (0,(91,()))) (cond (ile 9223372036854775808 (iadd .u64 y1.2.1 y0.1)) (some (0,(91,()))) (rec1 (((iadd .u64 y1.2.1 y0.1),((iadd .i64 s1.1.2.1 1),())),())))))) (none)) (cond (ieq s1.1.2.1 0) (some (0,(91,()))) (cond (inS s1.1.2.1 (lenI x0) (List.length x0)) (Option.bind (c41 ((cutL x0 s1.1.2.1 (lenI x0)),())) fun y0=>cond (!y0.1) (some (0,(91,()))) (some ((zM .i64 s1.1.1),(0,())))) (none)))) ((0,(0,())),())))) (none)) (cond (ile (lenI [48]) (lenI x0)) (cond (inS 0 (lenI [48]) (List.length x0)) (cond (seq (cutL x0 0 (lenI [48])) [48]) (iter fu (fun (rec1:((Int×(Int×Unit))×Unit)->Option (Int×(Int×Unit))) (s1:((Int×(Int×Unit))×Unit))=>cond (ilt s1.1.2.1 (lenI x0)) (cond (inB s1.1.2.1 (List.length x0)) (Option.bind (c39 ((zK x0 s1.1.2.1),())) fun y0=>cond (ile 8 y0.1) (cond (ieq s1.1.2.1 0) (some (0,(91,()))) (cond (inS s1.1.2.1 (lenI x0) (List.length x0)) (Option.bind (c41 ((cutL x0 s1.1.2.1 (lenI x0)),())) fun y1=>cond (!y1.1) (some (0,(91,()))) (some ((zM .i64 s1.1.1),(0,())))) (none))) (Option.bind (c40 (s1.1.1,(8,()))) fun y1=>cond (ine y1.1 0) (some (0,(91,()))) (cond (ile 9223372036854775808 y1.2.1) (some (0,(91,()))) (cond (ile 9223372036854775808 (iadd .u64 y1.2.1 y0.1)) (some (0,(91,()))) (rec1 (((iadd .u64 y1.2.1 y0.1),((iadd .i64 s1.1.2.1 1),())),())))))) (none)) (cond (ieq s1.1.2.1 0) (some (0,(91,()))) (cond (inS s1.1.2.1 (lenI x0) (List.length x0)) (Option.bind (c41 ((cutL x0 s1.1.2.1 (lenI x0)),())) fun y0=>cond (!y0.1) (some (0,(91,()))) (some ((zM .i64 s1.1.1),(0,())))) (none)))) ((0,(0,())),())) (iter fu (fun (rec1:((Int×(Int×Unit))×Unit)->Option (Int×(Int×Unit))) (s1:((Int×(Int×Unit))×Unit))=>cond (ilt s1.1.2.1 (lenI x0)) (cond (inB s1.1.2.1 (List.length x0)) (Option.bind (c39 ((zK x0 s1.1.2.1),())) fun y0=>cond (ile 10 y0.1) (cond (ieq s1.1.2.1 0) (some (0,(91,()))) (cond (inS s1.1.2.1 (lenI x0) (List.length x0)) (Option.bind (c41 ((cutL x0 s1.1.2.1 (lenI x0)),())) fun y1=>cond (!y1.1) (some (0,(91,()))) (some ((zM .i64 s1.1.1),(0,())))) (none))) (Option.bind (c40 (s1.1.1,(10,()))) fun y1=>cond (ine y1.1 0) (some (0,(91,()))) (cond (ile 9223372036854775808 y1.2.1) (some (0,(91,()))) (cond (ile 9223372036854775808 (iadd .u64 y1.2.1 y0.1)) (some (0,(91,()))) (rec1 (((iadd .u64 y1.2.1 y0.1),((iadd .i64 s1.1.2.1 1),())),())))))) (none)) (cond (ieq s1.1.2.1 0) (some (0,(91,()))) (cond (inS s1.1.2.1 (lenI x0) (List.length x0)) (Option.bind (c41 ((cutL x0 s1.1.2.1 (lenI x0)),())) fun y0=>cond (!y0.1) (some (0,(91,()))) (some ((zM .i64 s1.1.1),(0,())))) (none)))) ((0,(0,())),()))) (none)) (iter fu (fun (rec1:((Int×(Int×Unit))×Unit)->Option (Int×(Int×Unit))) (s1:((Int×(Int×Unit))×Unit))=>cond (ilt s1.1.2.1 (lenI x0)) (cond (inB s1.1.2.1 (List.length x0)) (Option.bind (c39 ((zK x0 s1.1.2.1),())) fun y0=>cond (ile 10 y0.1) (cond (ieq s1.1.2.1 0) (some (0,(91,()))) (cond (inS s1.1.2.1 (lenI x0) (List.length x0)) (Option.bind (c41 ((cutL x0 s1.1.2.1 (lenI x0)),())) fun y1=>cond (!y1.1) (some (0,(91,()))) (some ((zM .i64 s1.1.1),(0,())))) (none))) (Option.bind (c40 (s1.1.1,(10,()))) fun y1=>cond (ine y1.1 0) (some (0,(91,()))) (cond (ile 9223372036854775808 y1.2.1) (some (0,(91,()))) (cond (ile 9223372036854775808 (iadd .u64 y1.2.1 y0.1)) (some (0,(91,()))) (rec1 (((iadd .u64 y1.2.1 y0.1),((iadd .i64 s1.1.2.1 1),())),())))))) (none)) (cond (ieq s1.1.2.1 0) (some (0,(91,()))) (cond (inS s1.1.2.1 (lenI x0) (List.length x0)) (Option.bind (c41 ((cutL x0 s1.1.2.1 (lenI x0)),())) fun y0=>cond (!y0.1) (some (0,(91,()))) (some ((zM .i64 s1.1.1),(0,())))) (none)))) ((0,(0,())),()))))) (none)) (cond (ile (lenI [48,88]) (lenI x0)) (cond (inS 0 (lenI [48,88]) (List.length x0)) (cond (seq (cutL x0 0 (lenI [48,88])) [48,88]) (cond (inS 2 (lenI x0) (List.length x0)) (iter fu (fun (rec1:((Int×(Int×Unit))×Unit)->Option (Int×(Int×Unit))) (s1:((Int×(Int×Unit))×Unit))=>cond (ilt s1.1.2.1 (lenI (cutL x0 2 (lenI x0)))) (cond (inB s1.1.2.1 (List.length (cutL x0 2 (lenI x0)))) (Option.bind (c39 ((zK (cutL x0 2 (lenI x0)) s1.1.2.1),())) fun y0=>cond (ile 16 y0.1) (cond (ieq s1.1.2.1 0) (some (0,(91,()))) (cond (inS s1.1.2.1 (lenI (cutL x0 2 (lenI x0))) (List.length (cutL x0 2 (lenI x0)))) (Option.bind (c41 ((cutL (cutL x0 2 (lenI x0)) s1.1.2.1 (lenI (cutL x0 2 (lenI x0)))),())) fun y1=>cond (!y1.1) (some (0,(91,()))) (some ((zM .i64 s1.1.1),(0,())))) (none))) (Option.bind (c40 (s1.1.1,(16,()))) fun y1=>cond (ine y1.1 0) (some (0,(91,()))) (cond (ile 9223372036854775808 y1.2.1) (some (0,(91,()))) (cond (ile 9223372036854775808 (iadd .u64 y1.2.1 y0.1)) (some (0,(91,()))) (rec1 (((iadd .u64 y1.2.1 y0.1),((iadd .i64 s1.1.2.1 1),())),())))))) (none)) (cond (ieq s1.1.2.1 0) (some (0,(91,()))) (cond (inS s1.1.2.1 (lenI (cutL x0 2 (lenI x0))) (List.length (cutL x0 2 (lenI x0)))) (Option.bind (c41 ((cutL (cutL x0 2 (lenI x0)) s1.1.2.1 (lenI (cutL x0 2 (lenI x0)))),())) fun y0=>cond (!y0.1) (some (0,(91,()))) (some ((zM .i64 s1.1.1),(0,())))) (none)))) ((0,(0,())),())) (none)) (cond (ile (lenI [48]) (lenI x0)) (cond (inS 0 (lenI [48]) (List.length x0)) (cond (seq (cutL x0 0 (lenI [48])) [48]) (iter fu (fun (rec1:((Int×(Int×Unit))×Unit)->Option (Int×(Int×Unit))) (s1:((Int×(Int×Unit))×Unit))=>cond (ilt s1.1.2.1 (lenI x0)) (cond (inB s1.1.2.1 (List.length x0)) (Option.bind (c39 ((zK x0 s1.1.2.1),())) fun y0=>cond (ile 8 y0.1) (cond (ieq s1.1.2.1 0) (some (0,(91,()))) (cond (inS s1.1.2.1 (lenI x0) (List.length x0)) (Option.bind (c41 ((cutL x0 s1.1.2.1 (lenI x0)),())) fun y1=>cond (!y1.1) (some (0,(91,()))) (some ((zM .i64 s1.1.1),(0,())))) (none))) (Option.bind (c40 (s1.1.1,(8,()))) fun y1=>cond (ine y1.1 0) (some (0,(91,()))) (cond (ile 9223372036854775808 y1.2.1) (some (0,(91,()))) (cond (ile 9223372036854775808 (iadd .u64 y1.2.1 y0.1)) (some (0,(91,()))) (rec1 (((iadd .u64 y1.2.1 y0.1),((iadd .i64 s1.1.2.1 1),())),())))))) (none)) (cond (ieq s1.1.2.1 0) (some (0,(91,()))) (cond (inS s1.1.2.1 (lenI x0) (List.length x0)) (Option.bind (c41 ((cutL x0 s1.1.2.1 (lenI x0)),())) fun y0=>cond (!y0.1) (some (0,(91,()))) (some ((zM .i64 s1.1.1),(0,())))) (none)))) ((0,(0,())),())) (iter fu (fun (rec1:((Int×(Int×Unit))×Unit)->Option (Int×(Int×Unit))) (s1:((Int×(Int×Unit))×Unit))=>cond (ilt s1.1.2.1 (lenI x0)) (cond (inB s1.1.2.1 (List.length x0)) (Option.bind (c39 ((zK x0 s1.1.2.1),())) fun y0=>cond (ile 10 y0.1) (cond (ieq s1.1.2.1 0) (some (0,(91,()))) (cond (inS s1.1.2.1 (lenI x0) (List.length x0)) (Option.bind (c41 ((cutL x0 s1.1.2.1 (lenI x0)),())) fun y1=>cond (!y1.1) (some (0,(91,()))) (some ((zM .i64 s1.1.1),(0,())))) (none))) (Option.bind (c40 (s1.1.1,(10,()))) fun y1=>cond (ine y1.1 0) (some (0,(91,()))) (cond (ile 9223372036854775808 y1.2.1) (some (0,(91,()))) (cond (ile 9223372036854775808 (iadd .u64 y1.2.1 y0.1)) (some (0,(91,()))) (rec1 (((iadd .u64 y1.2.1 y0.1),((iadd .i64 s1.1.2.1 1),())),())))))) (none)) (cond (ieq s1.1.2.1 0) (some (0,(91,()))) (cond (inS s1.1.2.1 (lenI x0) (List.length x0)) (Option.bind (c41 ((cutL x0 s1.1.2.1 (lenI x0)),())) fun y0=>cond (!y0.1) (some (0,(91,()))) (some ((zM .i64 s1.1.1),(0,())))) (none)))) ((0,(0,())),()))) (none)) (iter fu (fun (rec1:((Int×(Int×Unit))×Unit)->Option (Int×(Int×Unit))) (s1:((Int×(Int×Unit))×Unit))=>cond (ilt s1.1.2.1 (lenI x0)) (cond (inB s1.1.2.1 (List.length x0)) (Option.bind (c39 ((zK x0 s1.1.2.1),())) fun y0=>cond (ile 10 y0.1) (cond (ieq s1.1.2.1 0) (some (0,(91,()))) (cond (inS s1.1.2.1 (lenI x0) (List.length x0)) (Option.bind (c41 ((cutL x0 s1.1.2.1 (lenI x0)),())) fun y1=>cond (!y1.1) (some (0,(91,()))) (some ((zM .i64 s1.1.1),(0,())))) (none))) (Option.bind (c40 (s1.1.1,(10,()))) fun y1=>cond (ine y1.1 0) (some (0,(91,()))) (cond (ile 9223372036854775808 y1.2.1) (some (0,(91,()))) (cond (ile 9223372036854775808 (iadd .u64 y1.2.1 y0.1)) (some (0,(91,()))) (rec1 (((iadd .u64 y1.2.1 y0.1),((iadd .i64 s1.1.2.1 1),())),())))))) (none)) (cond (ieq s1.1.2.1 0) (some (0,(91,()))) (cond (inS s1.1.2.1 (lenI x0) (List.length x0)) (Option.bind (c41 ((cutL x0 s1.1.2.1 (lenI x0)),())) fun y0=>cond (!y0.1) (some (0,(91,()))) (some ((zM .i64 s1.1.1),(0,())))) (none)))) ((0,(0,())),())))) (none)) (cond (ile (lenI [48]) (lenI x0)) (cond (inS 0 (lenI [48]) (List.length x0)) (cond (seq (cutL x0 0 (lenI [48])) [48]) (iter fu (fun (rec1:((Int×(Int×Unit))×Unit)->Option (Int×(Int×Unit))) (s1:((Int×(Int×Unit))×Unit))=>cond (ilt s1.1.2.1 (lenI x0)) (cond (inB s1.1.2.1 (List.length x0)) (Option.bind (c39 ((zK x0 s1.1.2.1),())) fun y0=>cond (ile 8 y0.1) (cond (ieq s1.1.2.1 0) (some (0,(91,()))) (cond (inS s1.1.2.1 (lenI x0) (List.length x0)) (Option.bind (c41 ((cutL x0 s1.1.2.1 (lenI x0)),())) fun y1=>cond (!y1.1) (some (0,(91,()))) (some ((zM .i64 s1.1.1),(0,())))) (none))) (Option.bind (c40 (s1.1.1,(8,()))) fun y1=>cond (ine y1.1 0) (some (0,(91,()))) (cond (ile 9223372036854775808 y1.2.1) (some (0,(91,()))) (cond (ile 9223372036854775808 (iadd .u64 y1.2.1 y0.1)) (some (0,(91,()))) (rec1 (((iadd .u64 y1.2.1 y0.1),((iadd .i64 s1.1.2.1 1),())),())))))) (none)) (cond (ieq s1.1.2.1 0) (some (0,(91,()))) (cond (inS s1.1.2.1 (lenI x0) (List.length x0)) (Option.bind (c41 ((cutL x0 s1.1.2.1 (lenI x0)),())) fun y0=>cond (!y0.1) (some (0,(91,()))) (some ((zM .i64 s1.1.1),(0,())))) (none)))) ((0,(0,())),())) (iter fu (fun (rec1:((Int×(Int×Unit))×Unit)->Option (Int×(Int×Unit))) (s1:((Int×(Int×Unit))×Unit))=>cond (ilt s1.1.2.1 (lenI x0)) (cond (inB s1.1.2.1 (List.length x0)) (Option.bind (c39 ((zK x0 s1.1.2.1),())) fun y0=>cond (ile 10 y0.1) (cond (ieq s1.1.2.1 0) (some (0,(91,()))) (cond (inS s1.1.2.1 (lenI x0) (List.length x0)) (Option.bind (c41 ((cutL x0 s1.1.2.1 (lenI x0)),())) fun y1=>cond (!y1.1) (some (0,(91,()))) (some ((zM .i64 s1.1.1),(0,())))) (none))) (Option.bind (c40 (s1.1.1,(10,()))) fun y1=>cond (ine y1.1 0) (some (0,(91,()))) (cond (ile 9223372036854775808 y1.2.1) (some (0,(91,()))) (cond (ile 9223372036854775808 (iadd .u64 y1.2.1 y0.1)) (some (0,(91,()))) (rec1 (((iadd .u64 y1.2.1 y0.1),((iadd .i64 s1.1.2.1 1),())),())))))) (none)) (cond (ieq s1.1.2.1 0) (some (0,(91,()))) (cond (inS s1.1.2.1 (lenI x0) (List.length x0)) (Option.bind (c41 ((cutL x0 s1.1.2.1 (lenI x0)),())) fun y0=>cond (!y0.1) (some (0,(91,()))) (some ((zM .i64 s1.1.1),(0,())))) (none)))) ((0,(0,())),()))) (none)) (iter fu (fun (rec1:((Int×(Int×Unit))×Unit)->Option (Int×(Int×Unit))) (s1:((Int×(Int×Unit))×Unit))=>cond (ilt s1.1.2.1 (lenI x0)) (cond (inB s1.1.2.1 (List.length x0)) (Option.bind (c39 ((zK x0 s1.1.2.1),())) fun y0=>cond (ile 10 y0.1) (cond (ieq s1.1.2.1 0) (some (0,(91,()))) (cond (inS s1.1.2.1 (lenI x0) (List.length x0)) (Option.bind (c41 ((cutL x0 s1.1.2.1 (lenI x0)),())) fun y1=>cond (!y1.1) (some (0,(91,()))) (some ((zM .i64 s1.1.1),(0,())))) (none))) (Option.bind (c40 (s1.1.1,(10,()))) fun y1=>cond (ine y1.1 0) (some (0,(91,()))) (cond (ile 9223372036854775808 y1.2.1) (some (0,(91,()))) (cond (ile 9223372036854775808 (iadd .u64 y1.2.1 y0.1)) (some (0,(91,()))) (rec1 (((iadd .u64 y1.2.1 y0.1),((iadd .i64 s1.1.2.1 1),())),())))))) (none)) (cond (ieq s1.1.2.1 0) (some (0,(91,()))) (cond (inS s1.1.2.1 (lenI x0) (List.length x0)) (Option.bind (c41 ((cutL x0 s1.1.2.1 (lenI x0)),())) fun y0=>cond (!y0.1) (some (0,(91,()))) (some ((zM .i64 s1.1.1),(0,())))) (none)))) ((0,(0,())),()))))
theorem eq13:@run13 = @sh13:=by kernel_rfl
def sh15 (fu:Nat) (c44:(Str×(Int×Unit))->(Option (Int×Unit))) (nf:Nat->Bool) (x0:Str):(Option (Int×(Int×Unit))):=cond (ilt (lenI x0) 3) (some (0,(91,()))) (cond (inB 0 (List.length x0)) (cond (ine (zK x0 0) 39) (some (0,(91,()))) (cond (inB (isub .i64 (lenI x0) 1) (List.length x0)) (cond (ine (zK x0 (isub .i64 (lenI x0) 1)) 39) (some (0,(91,()))) (cond (inS 1 (isub .i64 (lenI x0) 1) (List.length x0)) (cond (ieq (lenI (cutL x0 1 (isub .i64 (lenI x0) 1))) 1) (cond (inB 0 (List.length (cutL x0 1 (isub .i64 (lenI x0) 1)))) (cond (ine (zK (cutL x0 1 (isub .i64 (lenI x0) 1)) 0) 92) (cond (inB 0 (List.length (cutL x0 1 (isub .i64 (lenI x0) 1)))) (some ((zM .i64 (zK (cutL x0 1 (isub .i64 (lenI x0) 1)) 0)),(0,()))) (none)) (cond (ine (lenI (cutL x0 1 (isub .i64 (lenI x0) 1))) 2) (some (0,(91,()))) (cond (inB 0 (List.length (cutL x0 1 (isub .i64 (lenI x0) 1)))) (cond (ine (zK (cutL x0 1 (isub .i64 (lenI x0) 1)) 0) 92) (some (0,(91,()))) (cond (inB 1 (List.length (cutL x0 1 (isub .i64 (lenI x0) 1)))) (Option.bind (c44 ([110,116,114,48,97,98,102,118],((zK (cutL x0 1 (isub .i64 (lenI x0) 1)) 1),()))) fun y0=>cond (ile 0 y0.1) (cond (inB y0.1 8) (some ((zM .i64 (zK [10,9,13,0,7,8,12,11] y0.1)),(0,()))) (none)) (cond (inB 1 (List.length (cutL x0 1 (isub .i64 (lenI x0) 1)))) (Option.bind (c44 ([92,39,34,63],((zK (cutL x0 1 (isub .i64 (lenI x0) 1)) 1),()))) fun y1=>cond (ilt y1.1 0) (some (0,(91,()))) (cond (inB 1 (List.length (cutL x0 1 (isub .i64 (lenI x0) 1)))) (some ((zM .i64 (zK (cutL x0 1 (isub .i64 (lenI x0) 1)) 1)),(0,()))) (none))) (none))) (none))) (none)))) (none)) (cond (ine (lenI (cutL x0 1 (isub .i64 (lenI x0) 1))) 2) (some (0,(91,()))) (cond (inB 0 (List.length (cutL x0 1 (isub .i64 (lenI x0) 1)))) (cond (ine (zK (cutL x0 1 (isub .i64 (lenI x0) 1)) 0) 92) (some (0,(91,()))) (cond (inB 1 (List.length (cutL x0 1 (isub .i64 (lenI x0) 1)))) (Option.bind (c44 ([110,116,114,48,97,98,102,118],((zK (cutL x0 1 (isub .i64 (lenI x0) 1)) 1),()))) fun y0=>cond (ile 0 y0.1) (cond (inB y0.1 8) (some ((zM .i64 (zK [10,9,13,0,7,8,12,11] y0.1)),(0,()))) (none)) (cond (inB 1 (List.length (cutL x0 1 (isub .i64 (lenI x0) 1)))) (Option.bind (c44 ([92,39,34,63],((zK (cutL x0 1 (isub .i64 (lenI x0) 1)) 1),()))) fun y1=>cond (ilt y1.1 0) (some (0,(91,()))) (cond (inB 1 (List.length (cutL x0 1 (isub .i64 (lenI x0) 1)))) (some ((zM .i64 (zK (cutL x0 1 (isub .i64 (lenI x0) 1)) 1)),(0,()))) (none))) (none))) (none))) (none)))) (none))) (none))) (none))
theorem eq15:@run15 = @sh15:=by kernel_rfl
def sh113 (fu:Nat) (nf:Nat->Bool) (x0:Str) (x1:Int) (x2:Int):(Option (Int×Unit)):=cond (seq x0 [124]) (some ((jor .i64 x1 x2),())) (cond (seq x0 [94]) (some ((jxor .i64 x1 x2),())) (cond (seq x0 [38]) (some ((jand .i64 x1 x2),())) (cond (seq x0 [43]) (some ((iadd .i64 x1 x2),())) (cond (seq x0 [45]) (some ((isub .i64 x1 x2),())) (cond (seq x0 [42]) (some ((imul .i64 x1 x2),())) (cond (seq x0 [61,61]) (cond (ieq x1 x2) (some (1,())) (some (0,()))) (cond (seq x0 [33,61]) (cond (ine x1 x2) (some (1,())) (some (0,()))) (cond (seq x0 [60]) (cond (ilt x1 x2) (some (1,())) (some (0,()))) (cond (seq x0 [62]) (cond (ilt x2 x1) (some (1,())) (some (0,()))) (cond (seq x0 [60,61]) (cond (ile x1 x2) (some (1,())) (some (0,()))) (cond (ile x2 x1) (some (1,())) (some (0,())))))))))))))
theorem eq113:@run113 = @sh113:=by kernel_rfl
def sh111 (fu:Nat) (c113:(Str×(Int×(Int×Unit)))->(Option (Int×Unit))) (nf:Nat->Bool) (x0:Str) (x1:Int) (x2:Int):(Option (Int×(Int×Unit))):=cond (seq x0 [47]) (cond (ieq x2 0) (some (0,(92,()))) (cond (ieq x2 (Neg.neg 1)) (cond (seq x0 [47]) (some ((imul .i64 (isub .i64 0 x1) 1),(0,()))) (some ((imul .i64 (isub .i64 0 x1) 0),(0,())))) (cond (seq x0 [47]) (cond (ine x2 0) (some ((iquo .i64 x1 x2),(0,()))) (none)) (cond (ine x2 0) (some ((irem x1 x2),(0,()))) (none))))) (cond (seq x0 [37]) (cond (ieq x2 0) (some (0,(92,()))) (cond (ieq x2 (Neg.neg 1)) (cond (seq x0 [47]) (some ((imul .i64 (isub .i64 0 x1) 1),(0,()))) (some ((imul .i64 (isub .i64 0 x1) 0),(0,())))) (cond (seq x0 [47]) (cond (ine x2 0) (some ((iquo .i64 x1 x2),(0,()))) (none)) (cond (ine x2 0) (some ((irem x1 x2),(0,()))) (none))))) (cond (seq x0 [60,60]) (cond (ilt x2 0) (some (0,(93,()))) (cond (ilt 63 x2) (some (0,(93,()))) (cond (seq x0 [60,60]) (cond (ile 0 x2) (some ((jshl .i64 x1 x2),(0,()))) (none)) (cond (ile 0 x2) (some ((jshr .i64 x1 x2),(0,()))) (none))))) (cond (seq x0 [62,62]) (cond (ilt x2 0) (some (0,(93,()))) (cond (ilt 63 x2) (some (0,(93,()))) (cond (seq x0 [60,60]) (cond (ile 0 x2) (some ((jshl .i64 x1 x2),(0,()))) (none)) (cond (ile 0 x2) (some ((jshr .i64 x1 x2),(0,()))) (none))))) (cond (seq x0 [124,124]) (cond (ine x2 0) (some (1,(0,()))) (some (0,(0,())))) (cond (seq x0 [38,38]) (cond (ine x2 0) (some (1,(0,()))) (some (0,(0,())))) (Option.bind (c113 (x0,(x1,(x2,())))) fun y0=>some (y0.1,(0,()))))))))
theorem eq111:@run111 = @sh111:=by kernel_rfl
def sh74 (fu:Nat) (c83:(Str×Unit)->(Option ((List Str)×Unit))) (nf:Nat->Bool) (x0:Str):(Option (Int×Unit)):=iter fu (fun (rec1:((Int×Unit)×Unit)->Option (Int×Unit)) (s1:((Int×Unit)×Unit))=>cond (ilt s1.1.1 10) (cond (inB s1.1.1 10) (Option.bind (c83 ((List.getD [[124,124],[38,38],[124],[94],[38],[61,61,32,33,61],[60,32,62,32,60,61,32,62,61],[60,60,32,62,62],[43,32,45],[42,32,47,32,37]] (Int.toNat s1.1.1) []),())) fun y0=>iter fu (fun (rec2:((Int×Unit)×Unit)->Option (Int×Unit)) (s2:((Int×Unit)×Unit))=>cond (ilt s2.1.1 (lenI y0.1)) (cond (inB s2.1.1 (List.length y0.1)) (cond (seq x0 (List.getD y0.1 (Int.toNat s2.1.1) [])) (cond (ile 0 s2.1.1) (some ((iadd .i64 s1.1.1 1),())) (rec1 (((iadd .i64 s1.1.1 1),()),()))) (rec2 (((iadd .i64 s2.1.1 1),()),()))) (none)) (cond (ile 0 (Neg.neg 1)) (some ((iadd .i64 s1.1.1 1),())) (rec1 (((iadd .i64 s1.1.1 1),()),())))) ((0,()),())) (none)) (some (0,()))) ((0,()),())
theorem eq74:@run74 = @sh74:=by kernel_rfl
def sh114 (fu:Nat) (nf:Nat->Bool) (x0:Int):(Option (Int×(Int×Unit))):=some (x0,(0,()))
theorem eq114:@run114 = @sh114:=by kernel_rfl
def sh115 (fu:Nat) (c1000000:(VT×Unit)->(Option (Int×(Int×Unit)))) (nf:Nat->Bool) (x0:UnT):(Option (Int×(Int×Unit))):=Option.bind (c1000000 ((UnT.x x0),())) fun y0=>cond (seq (UnT.sign x0) [45]) (cond (ine y0.2.1 0) (some (0,(y0.2.1,()))) (some ((isub .i64 0 y0.1),(0,())))) (cond (seq (UnT.sign x0) [33]) (cond (ieq y0.1 0) (cond (ine y0.2.1 0) (some (0,(y0.2.1,()))) (some (1,(0,())))) (cond (ine y0.2.1 0) (some (0,(y0.2.1,()))) (some (0,(0,()))))) (cond (seq (UnT.sign x0) [126]) (cond (ine y0.2.1 0) (some (0,(y0.2.1,()))) (some ((jnot .i64 y0.1),(0,())))) (cond (ine y0.2.1 0) (some (0,(y0.2.1,()))) (some (y0.1,(0,()))))))
theorem eq115:@run115 = @sh115:=by kernel_rfl
def sh110 (fu:Nat) (c111:(Str×(Int×(Int×Unit)))->(Option (Int×(Int×Unit)))) (c1000000:(VT×Unit)->(Option (Int×(Int×Unit)))) (nf:Nat->Bool) (x0:BinT):(Option (Int×(Int×Unit))):=Option.bind (c1000000 ((BinT.x x0),())) fun y0=>cond (ine y0.2.1 0) (some (0,(y0.2.1,()))) (cond (seq (BinT.sign x0) [124,124]) (cond (ine y0.1 0) (some (1,(0,()))) (cond (seq (BinT.sign x0) [38,38]) (cond (ieq y0.1 0) (some (0,(0,()))) (Option.bind (c1000000 ((BinT.y x0),())) fun y1=>cond (ine y1.2.1 0) (some (0,(y1.2.1,()))) (Option.bind (c111 ((BinT.sign x0),(y0.1,(y1.1,())))) fun y2=>some (y2.1,(y2.2.1,()))))) (Option.bind (c1000000 ((BinT.y x0),())) fun y1=>cond (ine y1.2.1 0) (some (0,(y1.2.1,()))) (Option.bind (c111 ((BinT.sign x0),(y0.1,(y1.1,())))) fun y2=>some (y2.1,(y2.2.1,())))))) (cond (seq (BinT.sign x0) [38,38]) (cond (ieq y0.1 0) (some (0,(0,()))) (Option.bind (c1000000 ((BinT.y x0),())) fun y1=>cond (ine y1.2.1 0) (some (0,(y1.2.1,()))) (Option.bind (c111 ((BinT.sign x0),(y0.1,(y1.1,())))) fun y2=>some (y2.1,(y2.2.1,()))))) (Option.bind (c1000000 ((BinT.y x0),())) fun y1=>cond (ine y1.2.1 0) (some (0,(y1.2.1,()))) (Option.bind (c111 ((BinT.sign x0),(y0.1,(y1.1,())))) fun y2=>some (y2.1,(y2.2.1,()))))))
theorem eq110:@run110 = @sh110:=by kernel_rfl
def sh109 (fu:Nat) (c1000000:(VT×Unit)->(Option (Int×(Int×Unit)))) (nf:Nat->Bool) (x0:ChoT):(Option (Int×(Int×Unit))):=Option.bind (c1000000 ((ChoT.c x0),())) fun y0=>cond (ine y0.2.1 0) (some (0,(y0.2.1,()))) (cond (ine y0.1 0) (Option.bind (c1000000 ((ChoT.x x0),())) fun y1=>some (y1.1,(y1.2.1,()))) (Option.bind (c1000000 ((ChoT.y x0),())) fun y1=>some (y1.1,(y1.2.1,()))))
theorem eq109:@run109 = @sh109:=by kernel_rfl
def sh17 (fu:Nat) (nf:Nat->Bool) (x0:Int):(Option (Str×Unit)):=cond (ilt (zM .i64 x0) 0) (iter fu (fun (rec1:((Int×(Str×Unit))×Unit)->Option (Str×Unit)) (s1:((Int×(Str×Unit))×Unit))=>cond (ilt 0 s1.1.1) (cond (ine 10 0) (cond (okS ((List.length (qZ (fun x=>x) [(zM .u8 (iadd .i64 48 (irem s1.1.1 10)))]))+(List.length s1.1.2.1))) (cond (ine 10 0) (rec1 (((iquo .i64 s1.1.1 10),(((qZ (fun x=>x) [(zM .u8 (iadd .i64 48 (irem s1.1.1 10)))])++s1.1.2.1),())),())) (none)) (none)) (none)) (cond (seq s1.1.2.1 []) (some ([48],())) (cond (okS (1+(List.length s1.1.2.1))) (some (([45]++s1.1.2.1),())) (none)))) (((isub .i64 0 (zM .i64 x0)),([],())),())) (iter fu (fun (rec1:((Int×(Str×Unit))×Unit)->Option (Str×Unit)) (s1:((Int×(Str×Unit))×Unit))=>cond (ilt 0 s1.1.1) (cond (ine 10 0) (cond (okS ((List.length (qZ (fun x=>x) [(zM .u8 (iadd .i64 48 (irem s1.1.1 10)))]))+(List.length s1.1.2.1))) (cond (ine 10 0) (rec1 (((iquo .i64 s1.1.1 10),(((qZ (fun x=>x) [(zM .u8 (iadd .i64 48 (irem s1.1.1 10)))])++s1.1.2.1),())),())) (none)) (none)) (none)) (cond (seq s1.1.2.1 []) (some ([48],())) (cond (okS (0+(List.length s1.1.2.1))) (some (([]++s1.1.2.1),())) (none)))) (((zM .i64 x0),([],())),()))
theorem eq17:@run17 = @sh17:=by kernel_rfl
def sh19 (fu:Nat) (c45:(Bool×Unit)->(Option (Int×Unit))) (nf:Nat->Bool) (x0:Str) (x1:Int) (x2:Int):(Option (Int×(Int×Unit))):=cond (seq x0 [124,124]) (Option.bind (c45 ((ine x2 0),())) fun y0=>some (y0.1,(0,()))) (cond (seq x0 [38,38]) (Option.bind (c45 ((ine x2 0),())) fun y0=>some (y0.1,(0,()))) (cond (seq x0 [124]) (some ((jor .i64 x1 x2),(0,()))) (cond (seq x0 [94]) (some ((jxor .i64 x1 x2),(0,()))) (cond (seq x0 [38]) (some ((jand .i64 x1 x2),(0,()))) (cond (seq x0 [61,61]) (Option.bind (c45 ((ieq x1 x2),())) fun y0=>some (y0.1,(0,()))) (cond (seq x0 [33,61]) (Option.bind (c45 ((ine x1 x2),())) fun y0=>some (y0.1,(0,()))) (cond (seq x0 [60]) (Option.bind (c45 ((ilt x1 x2),())) fun y0=>some (y0.1,(0,()))) (cond (seq x0 [62]) (Option.bind (c45 ((ilt x2 x1),())) fun y0=>some (y0.1,(0,()))) (cond (seq x0 [60,61]) (Option.bind (c45 ((ile x1 x2),())) fun y0=>some (y0.1,(0,()))) (cond (seq x0 [62,61]) (Option.bind (c45 ((ile x2 x1),())) fun y0=>some (y0.1,(0,()))) (cond (seq x0 [43]) (some ((iadd .i64 x1 x2),(0,()))) (cond (seq x0 [45]) (some ((isub .i64 x1 x2),(0,()))) (cond (seq x0 [42]) (some ((imul .i64 x1 x2),(0,()))) (cond (seq x0 [60,60]) (cond (ilt x2 0) (some (0,(93,()))) (cond (ilt 63 x2) (some (0,(93,()))) (iter fu (fun (rec1:((Int×(Int×Unit))×Unit)->Option (Int×(Int×Unit))) (s1:((Int×(Int×Unit))×Unit))=>cond (ilt s1.1.2.1 x2) (cond (seq x0 [60,60]) (rec1 (((imul .i64 s1.1.1 2),((iadd .i64 s1.1.2.1 1),())),())) (cond (ile 0 1) (rec1 (((jshr .i64 s1.1.1 1),((iadd .i64 s1.1.2.1 1),())),())) (none))) (some (s1.1.1,(0,())))) ((x1,(0,())),())))) (cond (seq x0 [62,62]) (cond (ilt x2 0) (some (0,(93,()))) (cond (ilt 63 x2) (some (0,(93,()))) (iter fu (fun (rec1:((Int×(Int×Unit))×Unit)->Option (Int×(Int×Unit))) (s1:((Int×(Int×Unit))×Unit))=>cond (ilt s1.1.2.1 x2) (cond (seq x0 [60,60]) (rec1 (((imul .i64 s1.1.1 2),((iadd .i64 s1.1.2.1 1),())),())) (cond (ile 0 1) (rec1 (((jshr .i64 s1.1.1 1),((iadd .i64 s1.1.2.1 1),())),())) (none))) (some (s1.1.1,(0,())))) ((x1,(0,())),())))) (cond (ieq x2 0) (some (0,(92,()))) (cond (ine x2 0) (cond (seq x0 [47]) (some ((iquo .i64 x1 x2),(0,()))) (some ((isub .i64 x1 (imul .i64 (iquo .i64 x1 x2) x2)),(0,())))) (none))))))))))))))))))
theorem eq19:@run19 = @sh19:=by kernel_rfl
def sh52 (fu:Nat) (x:(((Bool×LT)×(Bool×(Int×Unit)))×Unit)) (a:Unit):(Option (Option ((((Bool×LT)×(Bool×(Int×Unit)))×Unit)×(Str×Unit)))):=cond (ieq (lenI x.1.1.2) 0) (some (some ((((x.1.1.1,x.1.1.2),(x.1.2.1,(x.1.2.2.1,()))),()),([],())))) (cond (inB 0 (List.length x.1.1.2)) (cond (ine (TokT.kind (List.getD x.1.1.2 0 tokD)) 5) (some (some ((((x.1.1.1,x.1.1.2),(x.1.2.1,(x.1.2.2.1,()))),()),([],())))) (cond (inB 0 (List.length x.1.1.2)) (some (some ((((x.1.1.1,x.1.1.2),(x.1.2.1,(x.1.2.2.1,()))),()),((TokT.text (List.getD x.1.1.2 0 tokD)),())))) (none))) (none))
theorem eq52:@run52 = @sh52:=by kernel_rfl
def sh53 (fu:Nat) (c52:Unit->((Bool×LT)×(Bool×Int))->(Option ((Str×Unit)×((Bool×LT)×(Bool×Int))))) (x:(((Bool×LT)×(Bool×(Int×Unit)))×Unit)) (a:(Str×Unit)):(Option (Option ((((Bool×LT)×(Bool×(Int×Unit)))×Unit)×Unit))):=Option.bind (c52 () ((x.1.1.1,x.1.1.2),(x.1.2.1,x.1.2.2.1))) fun y0=>cond (!(seq y0.1.1 a.1)) (some (some ((((y0.2.1.1,y0.2.1.2),(true,(y0.2.2.2,()))),()),()))) (cond (inS 1 (lenI y0.2.1.2) (List.length y0.2.1.2)) (some (some ((((y0.2.1.1,(cutL y0.2.1.2 1 (lenI y0.2.1.2))),(y0.2.2.1,(y0.2.2.2,()))),()),()))) (none))
theorem eq53:@run53 = @sh53:=by kernel_rfl
def sh54 (fu:Nat) (c26:(Int×Unit)->((Bool×LT)×(Bool×Int))->(Option ((VT×Unit)×((Bool×LT)×(Bool×Int))))) (x:(((Bool×LT)×(Bool×(Int×Unit)))×Unit)) (a:(Int×Unit)):(Option (Option ((((Bool×LT)×(Bool×(Int×Unit)))×Unit)×(VT×Unit)))):=cond (ieq a.1 60) (some (some ((((x.1.1.1,x.1.1.2),(true,(x.1.2.2.1,()))),()),((VT.num 0),())))) (cond x.1.2.1 (some (some ((((x.1.1.1,x.1.1.2),(true,(x.1.2.2.1,()))),()),((VT.num 0),())))) (Option.bind (c26 ((iadd .i64 a.1 1),()) ((x.1.1.1,x.1.1.2),(x.1.2.1,x.1.2.2.1))) fun y0=>some (some ((((y0.2.1.1,y0.2.1.2),(y0.2.2.1,(y0.2.2.2,()))),()),(y0.1.1,())))))
theorem eq54:@run54 = @sh54:=by kernel_rfl
def sh26 (fu:Nat) (c51:(Int×(Int×Unit))->((Bool×LT)×(Bool×Int))->(Option ((VT×Unit)×((Bool×LT)×(Bool×Int))))) (c52:Unit->((Bool×LT)×(Bool×Int))->(Option ((Str×Unit)×((Bool×LT)×(Bool×Int))))) (c53:(Str×Unit)->((Bool×LT)×(Bool×Int))->(Option (Unit×((Bool×LT)×(Bool×Int))))) (c54:(Int×Unit)->((Bool×LT)×(Bool×Int))->(Option ((VT×Unit)×((Bool×LT)×(Bool×Int))))) (x:(((Bool×LT)×(Bool×(Int×Unit)))×Unit)) (a:(Int×Unit)):(Option (Option ((((Bool×LT)×(Bool×(Int×Unit)))×Unit)×(VT×Unit)))):=Option.bind (c51 (1,(a.1,())) ((x.1.1.1,x.1.1.2),(x.1.2.1,x.1.2.2.1))) fun y0=>cond y0.2.2.1 (some (some ((((y0.2.1.1,y0.2.1.2),(y0.2.2.1,(y0.2.2.2,()))),()),(y0.1.1,())))) (Option.bind (c52 () ((y0.2.1.1,y0.2.1.2),(y0.2.2.1,y0.2.2.2))) fun y1=>cond (!(seq y1.1.1 [63])) (some (some ((((y1.2.1.1,y1.2.1.2),(y1.2.2.1,(y1.2.2.2,()))),()),(y0.1.1,())))) (Option.bind (c53 ([63],()) ((y1.2.1.1,y1.2.1.2),(y1.2.2.1,y1.2.2.2))) fun y2=>Option.bind (c54 (a.1,()) ((y2.2.1.1,y2.2.1.2),(y2.2.2.1,y2.2.2.2))) fun y3=>Option.bind (c53 ([58],()) ((y3.2.1.1,y3.2.1.2),(y3.2.2.1,y3.2.2.2))) fun y4=>Option.bind (c54 (a.1,()) ((y4.2.1.1,y4.2.1.2),(y4.2.2.1,y4.2.2.2))) fun y5=>some (some ((((y5.2.1.1,y5.2.1.2),(y5.2.2.1,(y5.2.2.2,()))),()),((VT.cho (ChoT.c (ChoT.mk y0.1.1 y3.1.1 y5.1.1)) (ChoT.x (ChoT.mk y0.1.1 y3.1.1 y5.1.1)) (ChoT.y (ChoT.mk y0.1.1 y3.1.1 y5.1.1))),())))))
theorem eq26:@run26 = @sh26:=by kernel_rfl
def sh51 (fu:Nat) (c74:(Str×Unit)->(Option (Int×Unit))) (c51:(Int×(Int×Unit))->((Bool×LT)×(Bool×Int))->(Option ((VT×Unit)×((Bool×LT)×(Bool×Int))))) (c52:Unit->((Bool×LT)×(Bool×Int))->(Option ((Str×Unit)×((Bool×LT)×(Bool×Int))))) (c53:(Str×Unit)->((Bool×LT)×(Bool×Int))->(Option (Unit×((Bool×LT)×(Bool×Int))))) (c73:(Int×Unit)->((Bool×LT)×(Bool×Int))->(Option ((VT×Unit)×((Bool×LT)×(Bool×Int))))) (x:(((Bool×LT)×(Bool×(Int×Unit)))×Unit)) (a:(Int×(Int×Unit))):(Option (Option ((((Bool×LT)×(Bool×(Int×Unit)))×Unit)×(VT×Unit)))):=Option.bind (c73 (a.2.1,()) ((x.1.1.1,x.1.1.2),(x.1.2.1,x.1.2.2.1))) fun y0=>iter fu (fun (rec1:((VT×Unit)×(((Bool×LT)×(Bool×(Int×Unit)))×Unit))->Option (Option ((((Bool×LT)×(Bool×(Int×Unit)))×Unit)×(VT×Unit)))) (s1:((VT×Unit)×(((Bool×LT)×(Bool×(Int×Unit)))×Unit)))=>cond (!s1.2.1.2.1) (Option.bind (c52 () ((s1.2.1.1.1,s1.2.1.1.2),(s1.2.1.2.1,s1.2.1.2.2.1))) fun y1=>Option.bind (c74 (y1.1.1,())) fun y2=>cond (ilt y2.1 a.1) (some (some ((((y1.2.1.1,y1.2.1.2),(y1.2.2.1,(y1.2.2.2,()))),()),(s1.1.1,())))) (cond (ieq y2.1 0) (some (some ((((y1.2.1.1,y1.2.1.2),(y1.2.2.1,(y1.2.2.2,()))),()),(s1.1.1,())))) (Option.bind (c53 (y1.1.1,()) ((y1.2.1.1,y1.2.1.2),(y1.2.2.1,y1.2.2.2))) fun y3=>Option.bind (c51 ((iadd .i64 y2.1 1),(a.2.1,())) ((y3.2.1.1,y3.2.1.2),(y3.2.2.1,y3.2.2.2))) fun y4=>rec1 (((VT.bin (BinT.sign (BinT.mk y1.1.1 s1.1.1 y4.1.1)) (BinT.x (BinT.mk y1.1.1 s1.1.1 y4.1.1)) (BinT.y (BinT.mk y1.1.1 s1.1.1 y4.1.1))),()),(((y4.2.1.1,y4.2.1.2),(y4.2.2.1,(y4.2.2.2,()))),()))))) (some (some ((((s1.2.1.1.1,s1.2.1.1.2),(s1.2.1.2.1,(s1.2.1.2.2.1,()))),()),(s1.1.1,()))))) ((y0.1.1,()),(((y0.2.1.1,y0.2.1.2),(y0.2.2.1,(y0.2.2.2,()))),()))
theorem eq51:@run51 = @sh51:=by kernel_rfl
def sh73 (fu:Nat) (c52:Unit->((Bool×LT)×(Bool×Int))->(Option ((Str×Unit)×((Bool×LT)×(Bool×Int))))) (c53:(Str×Unit)->((Bool×LT)×(Bool×Int))->(Option (Unit×((Bool×LT)×(Bool×Int))))) (c73:(Int×Unit)->((Bool×LT)×(Bool×Int))->(Option ((VT×Unit)×((Bool×LT)×(Bool×Int))))) (c82:(Int×Unit)->((Bool×LT)×(Bool×Int))->(Option ((VT×Unit)×((Bool×LT)×(Bool×Int))))) (x:(((Bool×LT)×(Bool×(Int×Unit)))×Unit)) (a:(Int×Unit)):(Option (Option ((((Bool×LT)×(Bool×(Int×Unit)))×Unit)×(VT×Unit)))):=Option.bind (c52 () ((x.1.1.1,x.1.1.2),(x.1.2.1,x.1.2.2.1))) fun y0=>cond (!(seq y0.1.1 [43])) (cond (!(seq y0.1.1 [45])) (cond (!(seq y0.1.1 [33])) (cond (!(seq y0.1.1 [126])) (Option.bind (c82 (a.1,()) ((y0.2.1.1,y0.2.1.2),(y0.2.2.1,y0.2.2.2))) fun y1=>some (some ((((y1.2.1.1,y1.2.1.2),(y1.2.2.1,(y1.2.2.2,()))),()),(y1.1.1,())))) (cond (ieq a.1 60) (some (some ((((y0.2.1.1,y0.2.1.2),(true,(y0.2.2.2,()))),()),((VT.num 0),())))) (Option.bind (c53 (y0.1.1,()) ((y0.2.1.1,y0.2.1.2),(y0.2.2.1,y0.2.2.2))) fun y1=>Option.bind (c73 ((iadd .i64 a.1 1),()) ((y1.2.1.1,y1.2.1.2),(y1.2.2.1,y1.2.2.2))) fun y2=>some (some ((((y2.2.1.1,y2.2.1.2),(y2.2.2.1,(y2.2.2.2,()))),()),((VT.un (UnT.sign (UnT.mk y0.1.1 y2.1.1)) (UnT.x (UnT.mk y0.1.1 y2.1.1))),())))))) (cond (ieq a.1 60) (some (some ((((y0.2.1.1,y0.2.1.2),(true,(y0.2.2.2,()))),()),((VT.num 0),())))) (Option.bind (c53 (y0.1.1,()) ((y0.2.1.1,y0.2.1.2),(y0.2.2.1,y0.2.2.2))) fun y1=>Option.bind (c73 ((iadd .i64 a.1 1),()) ((y1.2.1.1,y1.2.1.2),(y1.2.2.1,y1.2.2.2))) fun y2=>some (some ((((y2.2.1.1,y2.2.1.2),(y2.2.2.1,(y2.2.2.2,()))),()),((VT.un (UnT.sign (UnT.mk y0.1.1 y2.1.1)) (UnT.x (UnT.mk y0.1.1 y2.1.1))),())))))) (cond (ieq a.1 60) (some (some ((((y0.2.1.1,y0.2.1.2),(true,(y0.2.2.2,()))),()),((VT.num 0),())))) (Option.bind (c53 (y0.1.1,()) ((y0.2.1.1,y0.2.1.2),(y0.2.2.1,y0.2.2.2))) fun y1=>Option.bind (c73 ((iadd .i64 a.1 1),()) ((y1.2.1.1,y1.2.1.2),(y1.2.2.1,y1.2.2.2))) fun y2=>some (some ((((y2.2.1.1,y2.2.1.2),(y2.2.2.1,(y2.2.2.2,()))),()),((VT.un (UnT.sign (UnT.mk y0.1.1 y2.1.1)) (UnT.x (UnT.mk y0.1.1 y2.1.1))),())))))) (cond (ieq a.1 60) (some (some ((((y0.2.1.1,y0.2.1.2),(true,(y0.2.2.2,()))),()),((VT.num 0),())))) (Option.bind (c53 (y0.1.1,()) ((y0.2.1.1,y0.2.1.2),(y0.2.2.1,y0.2.2.2))) fun y1=>Option.bind (c73 ((iadd .i64 a.1 1),()) ((y1.2.1.1,y1.2.1.2),(y1.2.2.1,y1.2.2.2))) fun y2=>some (some ((((y2.2.1.1,y2.2.1.2),(y2.2.2.1,(y2.2.2.2,()))),()),((VT.un (UnT.sign (UnT.mk y0.1.1 y2.1.1)) (UnT.x (UnT.mk y0.1.1 y2.1.1))),())))))
theorem eq73:@run73 = @sh73:=by kernel_rfl
def sh82 (fu:Nat) (c13:(Str×Unit)->(Option (Int×(Int×Unit)))) (c15:(Str×Unit)->(Option (Int×(Int×Unit)))) (c52:Unit->((Bool×LT)×(Bool×Int))->(Option ((Str×Unit)×((Bool×LT)×(Bool×Int))))) (c53:(Str×Unit)->((Bool×LT)×(Bool×Int))->(Option (Unit×((Bool×LT)×(Bool×Int))))) (c54:(Int×Unit)->((Bool×LT)×(Bool×Int))->(Option ((VT×Unit)×((Bool×LT)×(Bool×Int))))) (x:(((Bool×LT)×(Bool×(Int×Unit)))×Unit)) (a:(Int×Unit)):(Option (Option ((((Bool×LT)×(Bool×(Int×Unit)))×Unit)×(VT×Unit)))):=Option.bind (c52 () ((x.1.1.1,x.1.1.2),(x.1.2.1,x.1.2.2.1))) fun y0=>cond (seq y0.1.1 [40]) (Option.bind (c53 ([40],()) ((y0.2.1.1,y0.2.1.2),(y0.2.2.1,y0.2.2.2))) fun y1=>Option.bind (c54 (a.1,()) ((y1.2.1.1,y1.2.1.2),(y1.2.2.1,y1.2.2.2))) fun y2=>Option.bind (c53 ([41],()) ((y2.2.1.1,y2.2.1.2),(y2.2.2.1,y2.2.2.2))) fun y3=>some (some ((((y3.2.1.1,y3.2.1.2),(y3.2.2.1,(y3.2.2.2,()))),()),(y2.1.1,())))) (cond (ieq (lenI y0.2.1.2) 0) (some (some ((((y0.2.1.1,y0.2.1.2),(true,(y0.2.2.2,()))),()),((VT.num 0),())))) (cond (inB 0 (List.length y0.2.1.2)) (cond (inS 1 (lenI y0.2.1.2) (List.length y0.2.1.2)) (zAa (fun (join0:((Int×(Int×Unit))×(((Bool×LT)×(Bool×(Int×Unit)))×Unit))->Option (Option ((((Bool×LT)×(Bool×(Int×Unit)))×Unit)×(VT×Unit))))=>cond (ieq (TokT.kind (List.getD y0.2.1.2 0 tokD)) 2) (Option.bind (c13 ((TokT.text (List.getD y0.2.1.2 0 tokD)),())) fun y1=>join0 ((y1.1,(y1.2.1,())),(((y0.2.1.1,(cutL y0.2.1.2 1 (lenI y0.2.1.2))),(y0.2.2.1,(y0.2.2.2,()))),()))) (cond (ieq (TokT.kind (List.getD y0.2.1.2 0 tokD)) 3) (Option.bind (c15 ((TokT.text (List.getD y0.2.1.2 0 tokD)),())) fun y1=>join0 ((y1.1,(y1.2.1,())),(((y0.2.1.1,(cutL y0.2.1.2 1 (lenI y0.2.1.2))),(y0.2.2.1,(y0.2.2.2,()))),()))) (cond (ieq (TokT.kind (List.getD y0.2.1.2 0 tokD)) 1) (join0 ((0,(0,())),(((y0.2.1.1,(cutL y0.2.1.2 1 (lenI y0.2.1.2))),(y0.2.2.1,(y0.2.2.2,()))),()))) (join0 ((0,(0,())),(((y0.2.1.1,(cutL y0.2.1.2 1 (lenI y0.2.1.2))),(true,(y0.2.2.2,()))),())))))) (fun (t0:((Int×(Int×Unit))×(((Bool×LT)×(Bool×(Int×Unit)))×Unit)))=>cond (ieq t0.2.1.2.2.1 0) (some (some ((((t0.2.1.1.1,t0.2.1.1.2),(t0.2.1.2.1,(t0.1.2.1,()))),()),((VT.num t0.1.1),())))) (some (some ((((t0.2.1.1.1,t0.2.1.1.2),(t0.2.1.2.1,(t0.2.1.2.2.1,()))),()),((VT.num t0.1.1),())))))) (none)) (none)))
theorem eq82:@run82 = @sh82:=by kernel_rfl
def sh23 (fu:Nat) (x:Unit) (a:((Option LT)×(Unit×Unit))):(Option (Option (Unit×((Bool×LT)×Unit)))):=zn a.1 (iter fu (fun (rec1:((Int×Unit)×((Option LT)×Unit))->Option (Option (Unit×((Bool×LT)×Unit)))) (s1:((Int×Unit)×((Option LT)×Unit)))=>zn s1.2.1 (cond (ilt s1.1.1 0) (none) (cond (ieq (Neg.neg 1) (Neg.neg 1)) (some (some ((),((true,[]),())))) (iter fu (fun (rec2:((Int×(Int×Unit))×((Option LT)×Unit))->Option (Option (Unit×((Bool×LT)×Unit)))) (s2:((Int×(Int×Unit))×((Option LT)×Unit)))=>zn s2.2.1 (cond (ilt s2.1.2.1 0) (none) (none)) fun y0=>none) (((Neg.neg 1),((iadd .i64 (Neg.neg 1) 1),())),(none,()))))) fun y0=>none) ((0,()),(none,()))) fun y0=>cond (eqN (List.length y0) (List.length (zQ (List.length y0) y0))) (iter fu (fun (rec1:((Int×Unit)×((Option LT)×Unit))->Option (Option (Unit×((Bool×LT)×Unit)))) (s1:((Int×Unit)×((Option LT)×Unit)))=>zn s1.2.1 (none) fun y1=>cond (ilt s1.1.1 (Int.ofNat (List.length y0))) (cond (inB s1.1.1 (List.length y0)) (cond (Nat.blt (Int.toNat s1.1.1) (List.length y1)) (cond (ieq (TokT.kind (List.getD y1 (Int.toNat s1.1.1) tokD)) 7) (cond (ieq s1.1.1 (Neg.neg 1)) (cond (Nat.ble (List.length y0) (List.length y1)) (some (some ((),((false,(zQ (List.length y0) y1)),())))) (none)) (cond (eqN (List.length y0) (List.length (zQ (List.length y0) y1))) (iter fu (fun (rec2:((Int×(Int×Unit))×((Option LT)×Unit))->Option (Option (Unit×((Bool×LT)×Unit)))) (s2:((Int×(Int×Unit))×((Option LT)×Unit)))=>zn s2.2.1 (none) fun y2=>cond (ilt s2.1.2.1 (Int.ofNat (List.length y0))) (cond (inB s2.1.2.1 (List.length y0)) (cond (Nat.blt (Int.toNat s2.1.2.1) (List.length y2)) (cond (!(ieq (TokT.kind (List.getD y2 (Int.toNat s2.1.2.1) tokD)) 7)) (cond (inB s2.1.1 (List.length y0)) (cond (Nat.blt (Int.toNat s2.1.1) (List.length y2)) (cond (eqN (List.length y0) (List.length (zQ (List.length y0) (List.set y2 (Int.toNat s2.1.1) (TokT.mk (TokT.kind (List.getD y2 (Int.toNat s2.1.2.1) tokD)) (TokT.text (List.getD y2 (Int.toNat s2.1.2.1) tokD)) (TokT.file (List.getD y2 (Int.toNat s2.1.2.1) tokD)) (TokT.ffrom (List.getD y2 (Int.toNat s2.1.2.1) tokD)) (TokT.fto (List.getD y2 (Int.toNat s2.1.2.1) tokD)) (TokT.blank (List.getD y2 (Int.toNat s2.1.2.1) tokD))))))) (rec2 (((iadd .i64 s2.1.1 1),((iadd .i64 s2.1.2.1 1),())),((some (zQ (List.length y0) (List.set y2 (Int.toNat s2.1.1) (TokT.mk (TokT.kind (List.getD y2 (Int.toNat s2.1.2.1) tokD)) (TokT.text (List.getD y2 (Int.toNat s2.1.2.1) tokD)) (TokT.file (List.getD y2 (Int.toNat s2.1.2.1) tokD)) (TokT.ffrom (List.getD y2 (Int.toNat s2.1.2.1) tokD)) (TokT.fto (List.getD y2 (Int.toNat s2.1.2.1) tokD)) (TokT.blank (List.getD y2 (Int.toNat s2.1.2.1) tokD)))))),()))) (none)) (none)) (none)) (cond (eqN (List.length y0) (List.length (zQ (List.length y0) y2))) (rec2 ((s2.1.1,((iadd .i64 s2.1.2.1 1),())),((some (zQ (List.length y0) y2)),()))) (none))) (none)) (none)) (cond (inS s2.1.1 (Int.ofNat (List.length y0)) (List.length y2)) (cond (Nat.ble ((Int.toNat s2.1.1)+((Int.toNat (Int.ofNat (List.length y0))) - (Int.toNat s2.1.1))) (List.length y2)) (cond (Nat.beq ((Int.toNat (Int.ofNat (List.length y0))) - (Int.toNat s2.1.1)) 0) (cond (inS 0 s2.1.1 (List.length y2)) (cond (Nat.ble (Int.toNat s2.1.1) (List.length y2)) (some (some ((),((false,(zQ (Int.toNat s2.1.1) y2)),())))) (none)) (none)) (cond (inS 0 s2.1.1 (List.length (zQ (Int.toNat s2.1.1) y2))) (cond (Nat.ble (Int.toNat s2.1.1) (List.length (zQ (Int.toNat s2.1.1) y2))) (some (some ((),((false,(zQ (Int.toNat s2.1.1) (zQ (Int.toNat s2.1.1) y2))),())))) (none)) (none))) (none)) (none))) ((s1.1.1,((iadd .i64 s1.1.1 1),())),((some (zQ (List.length y0) y1)),()))) (none))) (cond (eqN (List.length y0) (List.length (zQ (List.length y0) y1))) (rec1 (((iadd .i64 s1.1.1 1),()),((some (zQ (List.length y0) y1)),()))) (none))) (none)) (none)) (cond (ieq (Neg.neg 1) (Neg.neg 1)) (cond (Nat.ble (List.length y0) (List.length y1)) (some (some ((),((false,(zQ (List.length y0) y1)),())))) (none)) (cond (eqN (List.length y0) (List.length (zQ (List.length y0) y1))) (iter fu (fun (rec2:((Int×(Int×Unit))×((Option LT)×Unit))->Option (Option (Unit×((Bool×LT)×Unit)))) (s2:((Int×(Int×Unit))×((Option LT)×Unit)))=>zn s2.2.1 (none) fun y2=>cond (ilt s2.1.2.1 (Int.ofNat (List.length y0))) (cond (inB s2.1.2.1 (List.length y0)) (cond (Nat.blt (Int.toNat s2.1.2.1) (List.length y2)) (cond (!(ieq (TokT.kind (List.getD y2 (Int.toNat s2.1.2.1) tokD)) 7)) (cond (inB s2.1.1 (List.length y0)) (cond (Nat.blt (Int.toNat s2.1.1) (List.length y2)) (cond (eqN (List.length y0) (List.length (zQ (List.length y0) (List.set y2 (Int.toNat s2.1.1) (TokT.mk (TokT.kind (List.getD y2 (Int.toNat s2.1.2.1) tokD)) (TokT.text (List.getD y2 (Int.toNat s2.1.2.1) tokD)) (TokT.file (List.getD y2 (Int.toNat s2.1.2.1) tokD)) (TokT.ffrom (List.getD y2 (Int.toNat s2.1.2.1) tokD)) (TokT.fto (List.getD y2 (Int.toNat s2.1.2.1) tokD)) (TokT.blank (List.getD y2 (Int.toNat s2.1.2.1) tokD))))))) (rec2 (((iadd .i64 s2.1.1 1),((iadd .i64 s2.1.2.1 1),())),((some (zQ (List.length y0) (List.set y2 (Int.toNat s2.1.1) (TokT.mk (TokT.kind (List.getD y2 (Int.toNat s2.1.2.1) tokD)) (TokT.text (List.getD y2 (Int.toNat s2.1.2.1) tokD)) (TokT.file (List.getD y2 (Int.toNat s2.1.2.1) tokD)) (TokT.ffrom (List.getD y2 (Int.toNat s2.1.2.1) tokD)) (TokT.fto (List.getD y2 (Int.toNat s2.1.2.1) tokD)) (TokT.blank (List.getD y2 (Int.toNat s2.1.2.1) tokD)))))),()))) (none)) (none)) (none)) (cond (eqN (List.length y0) (List.length (zQ (List.length y0) y2))) (rec2 ((s2.1.1,((iadd .i64 s2.1.2.1 1),())),((some (zQ (List.length y0) y2)),()))) (none))) (none)) (none)) (cond (inS s2.1.1 (Int.ofNat (List.length y0)) (List.length y2)) (cond (Nat.ble ((Int.toNat s2.1.1)+((Int.toNat (Int.ofNat (List.length y0))) - (Int.toNat s2.1.1))) (List.length y2)) (cond (Nat.beq ((Int.toNat (Int.ofNat (List.length y0))) - (Int.toNat s2.1.1)) 0) (cond (inS 0 s2.1.1 (List.length y2)) (cond (Nat.ble (Int.toNat s2.1.1) (List.length y2)) (some (some ((),((false,(zQ (Int.toNat s2.1.1) y2)),())))) (none)) (none)) (cond (inS 0 s2.1.1 (List.length (zQ (Int.toNat s2.1.1) y2))) (cond (Nat.ble (Int.toNat s2.1.1) (List.length (zQ (Int.toNat s2.1.1) y2))) (some (some ((),((false,(zQ (Int.toNat s2.1.1) (zQ (Int.toNat s2.1.1) y2))),())))) (none)) (none))) (none)) (none))) (((Neg.neg 1),((iadd .i64 (Neg.neg 1) 1),())),((some (zQ (List.length y0) y1)),()))) (none)))) ((0,()),((some (zQ (List.length y0) y0)),()))) (none)
theorem eq23:@run23 = @sh23:=by kernel_rfl
def sh9 (fu:Nat) (c1000000:(VT×Unit)->(Option (Int×(Int×Unit)))) (c23:((Option LT)×(Unit×Unit))->(Option ((Bool×LT)×Unit))) (c26:(Int×Unit)->((Bool×LT)×(Bool×Int))->(Option ((VT×Unit)×((Bool×LT)×(Bool×Int))))) (nf:Nat->Bool) (x0:LT):(Option (Int×(Int×Unit))):=cond (nilT TM.dl x0) (Option.bind (c23 (none,((),()))) fun y0=>Option.bind (c26 (0,()) ((y0.1.1,y0.1.2),(false,0))) fun y1=>cond y1.2.2.1 (some (0,(90,()))) (cond (ilt 0 (lenI y1.2.1.2)) (some (0,(90,()))) (cond (ine y1.2.2.2 0) (some (0,(y1.2.2.2,()))) (Option.bind (c1000000 (y1.1.1,())) fun y2=>some (y2.1,(y2.2.1,())))))) (cond (okN 56 (0+(List.length x0))) (cond (eqN (0+(List.length x0)) (List.length ((List.take 0 [])++x0))) (Option.bind (c23 ((some ((List.take 0 [])++x0)),((),()))) fun y0=>Option.bind (c26 (0,()) ((y0.1.1,y0.1.2),(false,0))) fun y1=>cond y1.2.2.1 (some (0,(90,()))) (cond (ilt 0 (lenI y1.2.1.2)) (some (0,(90,()))) (cond (ine y1.2.2.2 0) (some (0,(y1.2.2.2,()))) (Option.bind (c1000000 (y1.1.1,())) fun y2=>some (y2.1,(y2.2.1,())))))) (none)) (none))
theorem eq9:@run9 = @sh9:=by kernel_rfl
def sh18 (fu:Nat) (c9:(LT×Unit)->(Option (Int×(Int×Unit)))) (c10:(Int×(Str×Unit))->(Option (LT×Unit))) (nf:Nat->Bool) (x0:Str):(Option (Int×Unit)):=Option.bind (c10 (0,(x0,()))) fun y0=>Option.bind (c9 (y0.1,())) fun y1=>cond (ine y1.2.1 0) (some ((isub .i64 (Neg.neg 1000) y1.2.1),())) (some (y1.1,()))
theorem eq18:@run18 = @sh18:=by kernel_rfl
def sh10 (fu:Nat) (c27:(Str×Unit)->(Option ((List CharT)×Unit))) (c28:((List CharT)×Unit)->(Option (Str×Unit))) (c29:Unit->Str->Int->(Option ((Bool×Unit)×Int))) (c30:Unit->Str->Int->(Option ((Int×(Int×Unit))×Int))) (nf:Nat->Bool) (x0:Int) (x1:Str):(Option (LT×Unit)):=Option.bind (c27 (x1,())) fun y0=>Option.bind (c28 (y0.1,())) fun y1=>iter fu (fun (rec1:((LT×Unit)×((Str×(Int×Unit))×Unit))->Option (LT×Unit)) (s1:((LT×Unit)×((Str×(Int×Unit))×Unit)))=>iter fu (fun (rec2:((LT×Unit)×((Str×(Int×Unit))×((Int×(Str×(Int×(Int×(Int×(Bool×Unit))))))×Unit)))->Option (LT×Unit)) (s2:((LT×Unit)×((Str×(Int×Unit))×((Int×(Str×(Int×(Int×(Int×(Bool×Unit))))))×Unit))))=>cond (ilt s2.2.1.2.1 (lenI s2.2.1.1)) (Option.bind (c29 () s2.2.1.1 s2.2.1.2.1) fun y2=>cond y2.1.1 (rec2 ((s2.1.1,()),((s2.2.1.1,(y2.2,())),((s2.2.2.1.1,(s2.2.2.1.2.1,(s2.2.2.1.2.2.1,(s2.2.2.1.2.2.2.1,(s2.2.2.1.2.2.2.2.1,(true,())))))),())))) (cond (ile (lenI s2.2.1.1) y2.2) (some (s2.1.1,())) (Option.bind (c30 () s2.2.1.1 y2.2) fun y3=>cond (inS y3.2 (iadd .i64 y3.2 y3.1.2.1) (List.length s2.2.1.1)) (cond (inB y3.2 (List.length y0.1)) (cond (inB (isub .i64 (iadd .i64 y3.2 y3.1.2.1) 1) (List.length y0.1)) (cond (okN 56 ((List.length s2.1.1)+(List.length [(TokT.mk y3.1.1 (cutL s2.2.1.1 y3.2 (iadd .i64 y3.2 y3.1.2.1)) s2.2.2.1.2.2.1 (CharT.fat (List.getD y0.1 (Int.toNat y3.2) yX)) (iadd .i64 (CharT.fat (List.getD y0.1 (Int.toNat (isub .i64 (iadd .i64 y3.2 y3.1.2.1) 1)) yX)) 1) s2.2.2.1.2.2.2.2.2.1)]))) (rec1 (((s2.1.1++[(TokT.mk y3.1.1 (cutL s2.2.1.1 y3.2 (iadd .i64 y3.2 y3.1.2.1)) s2.2.2.1.2.2.1 (CharT.fat (List.getD y0.1 (Int.toNat y3.2) yX)) (iadd .i64 (CharT.fat (List.getD y0.1 (Int.toNat (isub .i64 (iadd .i64 y3.2 y3.1.2.1) 1)) yX)) 1) s2.2.2.1.2.2.2.2.2.1)]),()),((s2.2.1.1,((iadd .i64 y3.2 y3.1.2.1),())),()))) (none)) (none)) (none)) (none)))) (cond (ile (lenI s2.2.1.1) s2.2.1.2.1) (some (s2.1.1,())) (Option.bind (c30 () s2.2.1.1 s2.2.1.2.1) fun y2=>cond (inS y2.2 (iadd .i64 y2.2 y2.1.2.1) (List.length s2.2.1.1)) (cond (inB y2.2 (List.length y0.1)) (cond (inB (isub .i64 (iadd .i64 y2.2 y2.1.2.1) 1) (List.length y0.1)) (cond (okN 56 ((List.length s2.1.1)+(List.length [(TokT.mk y2.1.1 (cutL s2.2.1.1 y2.2 (iadd .i64 y2.2 y2.1.2.1)) s2.2.2.1.2.2.1 (CharT.fat (List.getD y0.1 (Int.toNat y2.2) yX)) (iadd .i64 (CharT.fat (List.getD y0.1 (Int.toNat (isub .i64 (iadd .i64 y2.2 y2.1.2.1) 1)) yX)) 1) s2.2.2.1.2.2.2.2.2.1)]))) (rec1 (((s2.1.1++[(TokT.mk y2.1.1 (cutL s2.2.1.1 y2.2 (iadd .i64 y2.2 y2.1.2.1)) s2.2.2.1.2.2.1 (CharT.fat (List.getD y0.1 (Int.toNat y2.2) yX)) (iadd .i64 (CharT.fat (List.getD y0.1 (Int.toNat (isub .i64 (iadd .i64 y2.2 y2.1.2.1) 1)) yX)) 1) s2.2.2.1.2.2.2.2.2.1)]),()),((s2.2.1.1,((iadd .i64 y2.2 y2.1.2.1),())),()))) (none)) (none)) (none)) (none)))) ((s1.1.1,()),((s1.2.1.1,(s1.2.1.2.1,())),((0,([],(x0,(0,(0,(false,())))))),())))) (([],()),((y1.1,(0,())),()))
theorem eq10:@run10 = @sh10:=by kernel_rfl
theorem con39 (fu:Nat) :ConOk CC Tryd.prog 39 ⟨as39,rs39,fun x=>sh39 fu (fun _=>false) x.1⟩:=
 zr (c:=⟨as39,rs39,fun x=>sh39 fu (fun _=>false) x.1⟩) (syn:=syn) (fu:=fu) (d:=2) (inl:=zA []) (orc:=zA []) (orr:=zA []) (orp:=zA []) (pf:=hasN []) (rf:=hasN []) zl CCok mixed (fun g=>(zH (α:=Con UU) (l:=[]) g).symm) (fun g=>(zH (α:=CR UU) (l:=[]) g).symm) (zC) (zC) (zC) (zC) fdok39 (by show 1<=35; decide) (zd rfl) (fun nf x=>by show run39 fu nf x.1=_; rw [eq39]; rfl)
theorem con41 (fu:Nat) :ConOk CC Tryd.prog 41 ⟨as41,rs41,fun x=>sh41 fu (fun _=>false) x.1⟩:=
 zr (c:=⟨as41,rs41,fun x=>sh41 fu (fun _=>false) x.1⟩) (syn:=syn) (fu:=fu) (d:=2) (inl:=zA []) (orc:=zA []) (orr:=zA []) (orp:=zA []) (pf:=hasN []) (rf:=hasN []) zl CCok mixed (fun g=>(zH (α:=Con UU) (l:=[]) g).symm) (fun g=>(zH (α:=CR UU) (l:=[]) g).symm) (zC) (zC) (zC) (zC) fdok41 (by show 1<=29; decide) (zd rfl) (fun nf x=>by show run41 fu nf x.1=_; rw [eq41]; rfl)
theorem con13 (fu:Nat) (c39:zJ as39->Option (zJ rs39)) (h39:ConOk CC Tryd.prog 39 ⟨as39,rs39,c39⟩) (c40:zJ as40->Option (zJ rs40)) (h40:ConOk CC Tryd.prog 40 ⟨as40,rs40,c40⟩) (c41:zJ as41->Option (zJ rs41)) (h41:ConOk CC Tryd.prog 41 ⟨as41,rs41,c41⟩):ConOk CC Tryd.prog 13 ⟨as13,rs13,fun x=>sh13 fu c39 c40 c41 (fun _=>false) x.1⟩:=
 zr (c:=⟨as13,rs13,fun x=>sh13 fu c39 c40 c41 (fun _=>false) x.1⟩) (syn:=syn) (fu:=fu) (d:=4) (inl:=zA [(38,fd38),(70,fd70)]) (orc:=zA [(39,(⟨as39,rs39,c39⟩:Con UU)),(40,(⟨as40,rs40,c40⟩:Con UU)),(41,(⟨as41,rs41,c41⟩:Con UU))]) (orr:=zA []) (orp:=zA []) (pf:=hasN [39,40,41]) (rf:=hasN []) zl CCok mixed (fun g=>(zH (α:=Con UU) (l:=[(39,(⟨as39,rs39,c39⟩:Con UU)),(40,(⟨as40,rs40,c40⟩:Con UU)),(41,(⟨as41,rs41,c41⟩:Con UU))]) g).symm) (fun g=>(zH (α:=CR UU) (l:=[]) g).symm) (zE zMD (zE zL3 (zC))) (zE (OrcOk.of ⟨code39,h39⟩ rfl) (zE (OrcOk.of ⟨code40,h40⟩ rfl) (zE (OrcOk.of ⟨code41,h41⟩ rfl) (zC)))) (zC) (zC) fdok13 (by show 1<=69; decide) (zd rfl) (fun nf x=>by show run13 fu c39 c40 c41 nf x.1=_; rw [eq13]; rfl)
theorem con15 (fu:Nat) (c44:zJ as44->Option (zJ rs44)) (h44:ConOk CC Tryd.prog 44 ⟨as44,rs44,c44⟩):ConOk CC Tryd.prog 15 ⟨as15,rs15,fun x=>sh15 fu c44 (fun _=>false) x.1⟩:=
 zr (c:=⟨as15,rs15,fun x=>sh15 fu c44 (fun _=>false) x.1⟩) (syn:=syn) (fu:=fu) (d:=2) (inl:=zA []) (orc:=zA [(44,(⟨as44,rs44,c44⟩:Con UU))]) (orr:=zA []) (orp:=zA []) (pf:=hasN [44]) (rf:=hasN []) zl CCok mixed (fun g=>(zH (α:=Con UU) (l:=[(44,(⟨as44,rs44,c44⟩:Con UU))]) g).symm) (fun g=>(zH (α:=CR UU) (l:=[]) g).symm) (zC) (zE (OrcOk.of ⟨zI4,h44⟩ rfl) (zC)) (zC) (zC) fdok15 (by show 1<=63; decide) (zd rfl) (fun nf x=>by show run15 fu c44 nf x.1=_; rw [eq15]; rfl)
theorem con113 (fu:Nat) :ConOk CC Tryd.prog 113 ⟨jl,jM,fun x=>sh113 fu (fun _=>false) x.1 x.2.1 x.2.2.1⟩:=
 zr (c:=⟨jl,jM,fun x=>sh113 fu (fun _=>false) x.1 x.2.1 x.2.2.1⟩) (syn:=syn) (fu:=fu) (d:=3) (inl:=zA [(112,kO)]) (orc:=zA []) (orr:=zA []) (orp:=zA []) (pf:=hasN []) (rf:=hasN []) zl CCok mixed (fun g=>(zH (α:=Con UU) (l:=[]) g).symm) (fun g=>(zH (α:=CR UU) (l:=[]) g).symm) (zE zJj (zC)) (zC) (zC) (zC) zOp (by show 3<=72; decide) (zd rfl) (fun nf x=>by show run113 fu nf x.1 x.2.1 x.2.2.1=_; rw [eq113]; rfl)
theorem con111 (fu:Nat) (c113:zJ jl->Option (zJ jM)) (h113:ConOk CC Tryd.prog 113 ⟨jl,jM,c113⟩):ConOk CC Tryd.prog 111 ⟨jj,jN,fun x=>sh111 fu c113 (fun _=>false) x.1 x.2.1 x.2.2.1⟩:=
 zr (c:=⟨jj,jN,fun x=>sh111 fu c113 (fun _=>false) x.1 x.2.1 x.2.2.1⟩) (syn:=syn) (fu:=fu) (d:=3) (inl:=zA [(112,kO)]) (orc:=zA [(113,(⟨jl,jM,c113⟩:Con UU))]) (orr:=zA []) (orp:=zA []) (pf:=hasN [113]) (rf:=hasN []) zl CCok mixed (fun g=>(zH (α:=Con UU) (l:=[(113,(⟨jl,jM,c113⟩:Con UU))]) g).symm) (fun g=>(zH (α:=CR UU) (l:=[]) g).symm) (zE zJf (zC)) (zE (OrcOk.of ⟨zOa,h113⟩ rfl) (zC)) (zC) (zC) zOx (by show 3<=57; decide) (zd rfl) (fun nf x=>by show run111 fu c113 nf x.1 x.2.1 x.2.2.1=_; rw [eq111]; rfl)
theorem con74 (fu:Nat) (c83:zJ as83->Option (zJ rs83)) (h83:ConOk CC Tryd.prog 83 ⟨as83,rs83,c83⟩):ConOk CC Tryd.prog 74 ⟨as74,rs74,fun x=>sh74 fu c83 (fun _=>false) x.1⟩:=
 zr (c:=⟨as74,rs74,fun x=>sh74 fu c83 (fun _=>false) x.1⟩) (syn:=syn) (fu:=fu) (d:=4) (inl:=zA [(48,fd48),(72,fd72)]) (orc:=zA [(83,(⟨as83,rs83,c83⟩:Con UU))]) (orr:=zA []) (orp:=zA []) (pf:=hasN [83]) (rf:=hasN []) zl CCok mixed (fun g=>(zH (α:=Con UU) (l:=[(83,(⟨as83,rs83,c83⟩:Con UU))]) g).symm) (fun g=>(zH (α:=CR UU) (l:=[]) g).symm) (zE zMG (zE zL7 (zC))) (zE (OrcOk.of ⟨code83,h83⟩ rfl) (zC)) (zC) (zC) fdok74 (by show 1<=17; decide) (zd rfl) (fun nf x=>by show run74 fu c83 nf x.1=_; rw [eq74]; rfl)
theorem con114 (fu:Nat) :ConOk CC Tryd.prog 114 ⟨zKp,zHR,fun x=>sh114 fu (fun _=>false) x.1⟩:=
 zr (c:=⟨zKp,zHR,fun x=>sh114 fu (fun _=>false) x.1⟩) (syn:=syn) (fu:=fu) (d:=2) (inl:=zA []) (orc:=zA []) (orr:=zA []) (orp:=zA []) (pf:=hasN []) (rf:=hasN []) zl CCok mixed (fun g=>(zH (α:=Con UU) (l:=[]) g).symm) (fun g=>(zH (α:=CR UU) (l:=[]) g).symm) (zC) (zC) (zC) (zC) zNy (by show 1<=5; decide) (zd rfl) (fun nf x=>by show run114 fu nf x.1=_; rw [eq114]; rfl)
theorem con115 (fu:Nat) (c1000000:zJ za->Option (zJ zZ)) (h1000000:OrcOk CC Tryd.prog 1000000 ⟨za,zZ,c1000000⟩):ConOk CC Tryd.prog 115 ⟨zK7,zHN,fun x=>sh115 fu c1000000 (fun _=>false) x.1⟩:=
 zr (c:=⟨zK7,zHN,fun x=>sh115 fu c1000000 (fun _=>false) x.1⟩) (syn:=syn) (fu:=fu) (d:=3) (inl:=zA [(112,kO)]) (orc:=zA [(1000000,(⟨za,zZ,c1000000⟩:Con UU))]) (orr:=zA []) (orp:=zA []) (pf:=hasN [1000000]) (rf:=hasN []) zl CCok mixed (fun g=>(zH (α:=Con UU) (l:=[(1000000,(⟨za,zZ,c1000000⟩:Con UU))]) g).symm) (fun g=>(zH (α:=CR UU) (l:=[]) g).symm) (zE zJl (zC)) (zE h1000000 (zC)) (zC) (zC) zOC (by show 1<=31; decide) (zd rfl) (fun nf x=>by show run115 fu c1000000 nf x.1=_; rw [eq115]; rfl)
theorem con110 (fu:Nat) (c111:zJ jj->Option (zJ jN)) (h111:ConOk CC Tryd.prog 111 ⟨jj,jN,c111⟩) (c1000000:zJ za->Option (zJ zZ)) (h1000000:OrcOk CC Tryd.prog 1000000 ⟨za,zZ,c1000000⟩):ConOk CC Tryd.prog 110 ⟨zKl,zHF,fun x=>sh110 fu c111 c1000000 (fun _=>false) x.1⟩:=
 zr (c:=⟨zKl,zHF,fun x=>sh110 fu c111 c1000000 (fun _=>false) x.1⟩) (syn:=syn) (fu:=fu) (d:=2) (inl:=zA []) (orc:=zA [(111,(⟨jj,jN,c111⟩:Con UU)),(1000000,(⟨za,zZ,c1000000⟩:Con UU))]) (orr:=zA []) (orp:=zA []) (pf:=hasN [111,1000000]) (rf:=hasN []) zl CCok mixed (fun g=>(zH (α:=Con UU) (l:=[(111,(⟨jj,jN,c111⟩:Con UU)),(1000000,(⟨za,zZ,c1000000⟩:Con UU))]) g).symm) (fun g=>(zH (α:=CR UU) (l:=[]) g).symm) (zC) (zE (OrcOk.of ⟨zOr,h111⟩ rfl) (zE h1000000 (zC))) (zC) (zC) zO9 (by show 1<=49; decide) (zd rfl) (fun nf x=>by show run110 fu c111 c1000000 nf x.1=_; rw [eq110]; rfl)
theorem con109 (fu:Nat) (c1000000:zJ za->Option (zJ zZ)) (h1000000:OrcOk CC Tryd.prog 1000000 ⟨za,zZ,c1000000⟩):ConOk CC Tryd.prog 109 ⟨zKn,zHH,fun x=>sh109 fu c1000000 (fun _=>false) x.1⟩:=
 zr (c:=⟨zKn,zHH,fun x=>sh109 fu c1000000 (fun _=>false) x.1⟩) (syn:=syn) (fu:=fu) (d:=2) (inl:=zA []) (orc:=zA [(1000000,(⟨za,zZ,c1000000⟩:Con UU))]) (orr:=zA []) (orp:=zA []) (pf:=hasN [1000000]) (rf:=hasN []) zl CCok mixed (fun g=>(zH (α:=Con UU) (l:=[(1000000,(⟨za,zZ,c1000000⟩:Con UU))]) g).symm) (fun g=>(zH (α:=CR UU) (l:=[]) g).symm) (zC) (zE h1000000 (zC)) (zC) (zC) zPG (by show 1<=29; decide) (zd rfl) (fun nf x=>by show run109 fu c1000000 nf x.1=_; rw [eq109]; rfl)
theorem con17 (fu:Nat) :ConOk CC Tryd.prog 17 ⟨as17,rs17,fun x=>sh17 fu (fun _=>false) x.1⟩:=
 zr (c:=⟨as17,rs17,fun x=>sh17 fu (fun _=>false) x.1⟩) (syn:=syn) (fu:=fu) (d:=2) (inl:=zA []) (orc:=zA []) (orr:=zA []) (orp:=zA []) (pf:=hasN []) (rf:=hasN []) zl CCok mixed (fun g=>(zH (α:=Con UU) (l:=[]) g).symm) (fun g=>(zH (α:=CR UU) (l:=[]) g).symm) (zC) (zC) (zC) (zC) fdok17 (by show 1<=29; decide) (zd rfl) (fun nf x=>by show run17 fu nf x.1=_; rw [eq17]; rfl)
theorem con19 (fu:Nat) (c45:zJ as45->Option (zJ rs45)) (h45:ConOk CC Tryd.prog 45 ⟨as45,rs45,c45⟩):ConOk CC Tryd.prog 19 ⟨as19,rs19,fun x=>sh19 fu c45 (fun _=>false) x.1 x.2.1 x.2.2.1⟩:=
 zr (c:=⟨as19,rs19,fun x=>sh19 fu c45 (fun _=>false) x.1 x.2.1 x.2.2.1⟩) (syn:=syn) (fu:=fu) (d:=2) (inl:=zA []) (orc:=zA [(45,(⟨as45,rs45,c45⟩:Con UU))]) (orr:=zA []) (orp:=zA []) (pf:=hasN [45]) (rf:=hasN []) zl CCok mixed (fun g=>(zH (α:=Con UU) (l:=[(45,(⟨as45,rs45,c45⟩:Con UU))]) g).symm) (fun g=>(zH (α:=CR UU) (l:=[]) g).symm) (zC) (zE (OrcOk.of ⟨code45,h45⟩ rfl) (zC)) (zC) (zC) fdok19 (by show 3<=120; decide) (zd rfl) (fun nf x=>by show run19 fu c45 nf x.1 x.2.1 x.2.2.1=_; rw [eq19]; rfl)
theorem con52 (fu:Nat) :CQ 52 (cE k0 kS (mE (sh52 fu))):=
 zBi (yj (syn:=syn) (fu:=fu) (d:=2) (inl:=zA []) (orc:=zA []) (orr:=zA []) (orp:=zA []) (pf:=hasN []) (rf:=hasN []) zl CCok mixed (fun g=>(zH (α:=Con UU) (l:=[]) g).symm) (fun g=>(zH (α:=CR UU) (l:=[]) g).symm) (zC) (zC) (zC) (zC) fdok52 (by show ([exK]:LK).length+(k0:LK).length<=26; decide) (fun x a=>by show run52 fu x a=sh52 fu x a; rw [eq52]))
theorem con53 (fu:Nat) (c52:zB k0->EE (zB kS)) (h52:CQ 52 (cE k0 kS c52)):CQ 53 (cE kS k0 (mE (sh53 fu c52))):=
 zBi (yj (syn:=syn) (fu:=fu) (d:=2) (inl:=zA []) (orc:=zA []) (orr:=zA []) (orp:=zA [(52,cE k0 kS c52)]) (pf:=hasN []) (rf:=hasN []) zl CCok mixed (fun g=>(zH (α:=Con UU) (l:=[]) g).symm) (fun g=>(zH (α:=CR UU) (l:=[]) g).symm) (zC) (zC) (zC) (zE ⟨zDC,h52⟩ (zC)) fdok53 (by show ([exK]:LK).length+(kS:LK).length<=19; decide) (fun x a=>by show run53 fu c52 x a=sh53 fu c52 x a; rw [eq53]))
theorem con54 (fu:Nat) (c26:zB kI->EE (zB kN)) (h26:CQ 26 (cE kI kN c26)):CQ 54 (cE kI kN (mE (sh54 fu c26))):=
 zBi (yj (syn:=syn) (fu:=fu) (d:=2) (inl:=zA []) (orc:=zA []) (orr:=zA []) (orp:=zA [(26,cE kI kN c26)]) (pf:=hasN []) (rf:=hasN []) zl CCok mixed (fun g=>(zH (α:=Con UU) (l:=[]) g).symm) (fun g=>(zH (α:=CR UU) (l:=[]) g).symm) (zC) (zC) (zC) (zE ⟨zMi,h26⟩ (zC)) fdok54 (by show ([exK]:LK).length+(kI:LK).length<=21; decide) (fun x a=>by show run54 fu c26 x a=sh54 fu c26 x a; rw [eq54]))
theorem con26 (fu:Nat) (c51:zB ([.int .i64,.int .i64]:LK)->EE (zB kN)) (h51:CQ 51 (cE ([.int .i64,.int .i64]:LK) kN c51)) (c52:zB k0->EE (zB kS)) (h52:CQ 52 (cE k0 kS c52)) (c53:zB kS->EE (zB k0)) (h53:CQ 53 (cE kS k0 c53)) (c54:zB kI->EE (zB kN)) (h54:CQ 54 (cE kI kN c54)):CQ 26 (cE kI kN (mE (sh26 fu c51 c52 c53 c54))):=
 zBi (yj (syn:=syn) (fu:=fu) (d:=2) (inl:=zA []) (orc:=zA []) (orr:=zA []) (orp:=zA [(51,cE ([.int .i64,.int .i64]:LK) kN c51),(52,cE k0 kS c52),(53,cE kS k0 c53),(54,cE kI kN c54)]) (pf:=hasN []) (rf:=hasN []) zl CCok mixed (fun g=>(zH (α:=Con UU) (l:=[]) g).symm) (fun g=>(zH (α:=CR UU) (l:=[]) g).symm) (zC) (zC) (zC) (zE ⟨zMM,h51⟩ (zE ⟨zDC,h52⟩ (zE ⟨zFN,h53⟩ (zE ⟨zLj,h54⟩ (zC))))) fdok26 (by show ([exK]:LK).length+(kI:LK).length<=34; decide) (fun x a=>by show run26 fu c51 c52 c53 c54 x a=sh26 fu c51 c52 c53 c54 x a; rw [eq26]))
theorem con51 (fu:Nat) (c74:zJ as74->Option (zJ rs74)) (h74:ConOk CC Tryd.prog 74 ⟨as74,rs74,c74⟩) (c51:zB ([.int .i64,.int .i64]:LK)->EE (zB kN)) (h51:CQ 51 (cE ([.int .i64,.int .i64]:LK) kN c51)) (c52:zB k0->EE (zB kS)) (h52:CQ 52 (cE k0 kS c52)) (c53:zB kS->EE (zB k0)) (h53:CQ 53 (cE kS k0 c53)) (c73:zB kI->EE (zB kN)) (h73:CQ 73 (cE kI kN c73)):CQ 51 (cE ([.int .i64,.int .i64]:LK) kN (mE (sh51 fu c74 c51 c52 c53 c73))):=
 zBi (yj (syn:=syn) (fu:=fu) (d:=2) (inl:=zA []) (orc:=zA [(74,(⟨as74,rs74,c74⟩:Con UU))]) (orr:=zA []) (orp:=zA [(51,cE ([.int .i64,.int .i64]:LK) kN c51),(52,cE k0 kS c52),(53,cE kS k0 c53),(73,cE kI kN c73)]) (pf:=hasN [74]) (rf:=hasN []) zl CCok mixed (fun g=>(zH (α:=Con UU) (l:=[(74,(⟨as74,rs74,c74⟩:Con UU))]) g).symm) (fun g=>(zH (α:=CR UU) (l:=[]) g).symm) (zC) (zE (OrcOk.of ⟨code74,h74⟩ rfl) (zC)) (zC) (zE ⟨zMM,h51⟩ (zE ⟨zDC,h52⟩ (zE ⟨zFN,h53⟩ (zE ⟨zLn,h73⟩ (zC))))) fdok51 (by show ([exK]:LK).length+(([.int .i64,.int .i64]:LK):LK).length<=43; decide) (fun x a=>by show run51 fu c74 c51 c52 c53 c73 x a=sh51 fu c74 c51 c52 c53 c73 x a; rw [eq51]))
theorem con73 (fu:Nat) (c52:zB k0->EE (zB kS)) (h52:CQ 52 (cE k0 kS c52)) (c53:zB kS->EE (zB k0)) (h53:CQ 53 (cE kS k0 c53)) (c73:zB kI->EE (zB kN)) (h73:CQ 73 (cE kI kN c73)) (c82:zB kI->EE (zB kN)) (h82:CQ 82 (cE kI kN c82)):CQ 73 (cE kI kN (mE (sh73 fu c52 c53 c73 c82))):=
 zBi (yj (syn:=syn) (fu:=fu) (d:=2) (inl:=zA []) (orc:=zA []) (orr:=zA []) (orp:=zA [(52,cE k0 kS c52),(53,cE kS k0 c53),(73,cE kI kN c73),(82,cE kI kN c82)]) (pf:=hasN []) (rf:=hasN []) zl CCok mixed (fun g=>(zH (α:=Con UU) (l:=[]) g).symm) (fun g=>(zH (α:=CR UU) (l:=[]) g).symm) (zC) (zC) (zC) (zE ⟨zDC,h52⟩ (zE ⟨zFN,h53⟩ (zE ⟨zLn,h73⟩ (zE ⟨code82,h82⟩ (zC))))) fdok73 (by show ([exK]:LK).length+(kI:LK).length<=41; decide) (fun x a=>by show run73 fu c52 c53 c73 c82 x a=sh73 fu c52 c53 c73 c82 x a; rw [eq73]))
theorem con82 (fu:Nat) (c13:zJ as13->Option (zJ rs13)) (h13:ConOk CC Tryd.prog 13 ⟨as13,rs13,c13⟩) (c15:zJ as15->Option (zJ rs15)) (h15:ConOk CC Tryd.prog 15 ⟨as15,rs15,c15⟩) (c52:zB k0->EE (zB kS)) (h52:CQ 52 (cE k0 kS c52)) (c53:zB kS->EE (zB k0)) (h53:CQ 53 (cE kS k0 c53)) (c54:zB kI->EE (zB kN)) (h54:CQ 54 (cE kI kN c54)):CQ 82 (cE kI kN (mE (sh82 fu c13 c15 c52 c53 c54))):=
 zBi (yj (syn:=syn) (fu:=fu) (d:=2) (inl:=zA []) (orc:=zA [(13,(⟨as13,rs13,c13⟩:Con UU)),(15,(⟨as15,rs15,c15⟩:Con UU))]) (orr:=zA []) (orp:=zA [(52,cE k0 kS c52),(53,cE kS k0 c53),(54,cE kI kN c54)]) (pf:=hasN [13,15]) (rf:=hasN []) zl CCok mixed (fun g=>(zH (α:=Con UU) (l:=[(13,(⟨as13,rs13,c13⟩:Con UU)),(15,(⟨as15,rs15,c15⟩:Con UU))]) g).symm) (fun g=>(zH (α:=CR UU) (l:=[]) g).symm) (zC) (zE (OrcOk.of ⟨code13,h13⟩ rfl) (zE (OrcOk.of ⟨code15,h15⟩ rfl) (zC))) (zC) (zE ⟨zDC,h52⟩ (zE ⟨zFN,h53⟩ (zE ⟨zLj,h54⟩ (zC)))) fdok82 (by show ([exK]:LK).length+(kI:LK).length<=78; decide) (fun x a=>by show run82 fu c13 c15 c52 c53 c54 x a=sh82 fu c13 c15 c52 c53 c54 x a; rw [eq82]))
theorem con23 (fu:Nat) :CQ 23 (cF ([.arr TI.tok,.fn 25]:LK) ([.bl TI.tok]:LK) (mF (sh23 fu))):=
 cF_of (zNK (syn:=syn) (fu:=fu) (d:=4) (inl:=zA [(25,fd25),(50,fd50)]) (orc:=zA []) (orr:=zA []) (orp:=zA []) (pf:=hasN []) (rf:=hasN []) zl CCok mixed (fun g=>(zH (α:=Con UU) (l:=[]) g).symm) (fun g=>(zH (α:=CR UU) (l:=[]) g).symm) (zE zMd (zE zLT (zC))) (zC) (zC) (zC) fdok23 (by show (k0:LK).length+(([.arr TI.tok,.fn 25]:LK):LK).length<=42; decide) (fun x a=>by show run23 fu x a=sh23 fu x a; rw [eq23]))
theorem con9 (fu:Nat) (c1000000:zJ za->Option (zJ zZ)) (h1000000:OrcOk CC Tryd.prog 1000000 ⟨za,zZ,c1000000⟩) (c23:zB ([.arr TI.tok,.fn 25]:LK)->Option (zB ([.bl TI.tok]:LK))) (h23:CQ 23 (cF ([.arr TI.tok,.fn 25]:LK) ([.bl TI.tok]:LK) c23)) (c26:zB kI->EE (zB kN)) (h26:CQ 26 (cE kI kN c26)):ConOk CC Tryd.prog 9 ⟨as9,rs9,fun x=>sh9 fu c1000000 c23 c26 (fun _=>false) x.1⟩:=
 zr (c:=⟨as9,rs9,fun x=>sh9 fu c1000000 c23 c26 (fun _=>false) x.1⟩) (syn:=syn) (fu:=fu) (d:=3) (inl:=zA [(24,fd24)]) (orc:=zA [(1000000,(⟨za,zZ,c1000000⟩:Con UU))]) (orr:=zA []) (orp:=zA [(23,cF ([.arr TI.tok,.fn 25]:LK) ([.bl TI.tok]:LK) c23),(26,cE kI kN c26)]) (pf:=hasN [1000000]) (rf:=hasN []) zl CCok mixed (fun g=>(zH (α:=Con UU) (l:=[(1000000,(⟨za,zZ,c1000000⟩:Con UU))]) g).symm) (fun g=>(zH (α:=CR UU) (l:=[]) g).symm) (zE zMw (zC)) (zE h1000000 (zC)) (zC) (zE ⟨code23,h23⟩ (zE ⟨zMi,h26⟩ (zC))) fdok9 (by show 1<=40; decide) (zd rfl) (fun nf x=>by show run9 fu c1000000 c23 c26 nf x.1=_; rw [eq9]; rfl)
theorem con18 (fu:Nat) (c9:zJ as9->Option (zJ rs9)) (h9:ConOk CC Tryd.prog 9 ⟨as9,rs9,c9⟩) (c10:zJ as10->Option (zJ rs10)) (h10:ConOk CC Tryd.prog 10 ⟨as10,rs10,c10⟩):ConOk CC Tryd.prog 18 ⟨as18,rs18,fun x=>sh18 fu c9 c10 (fun _=>false) x.1⟩:=
 zr (c:=⟨as18,rs18,fun x=>sh18 fu c9 c10 (fun _=>false) x.1⟩) (syn:=syn) (fu:=fu) (d:=2) (inl:=zA []) (orc:=zA [(9,(⟨as9,rs9,c9⟩:Con UU)),(10,(⟨as10,rs10,c10⟩:Con UU))]) (orr:=zA []) (orp:=zA []) (pf:=hasN [9,10]) (rf:=hasN []) zl CCok mixed (fun g=>(zH (α:=Con UU) (l:=[(9,(⟨as9,rs9,c9⟩:Con UU)),(10,(⟨as10,rs10,c10⟩:Con UU))]) g).symm) (fun g=>(zH (α:=CR UU) (l:=[]) g).symm) (zC) (zE (OrcOk.of ⟨code9,h9⟩ rfl) (zE (OrcOk.of ⟨code10,h10⟩ rfl) (zC))) (zC) (zC) fdok18 (by show 1<=16; decide) (zd rfl) (fun nf x=>by show run18 fu c9 c10 nf x.1=_; rw [eq18]; rfl)
theorem con10 (fu:Nat) (c27:zJ as27->Option (zJ rs27)) (h27:ConOk CC Tryd.prog 27 ⟨as27,rs27,c27⟩) (c28:zJ as28->Option (zJ rs28)) (h28:ConOk CC Tryd.prog 28 ⟨as28,rs28,c28⟩) (c29:zB k0->DD (zB kB)) (h29:CQ 29 (cD k0 kB c29)) (c30:zB k0->DD (zB ([.int .i64,.int .i64]:LK))) (h30:CQ 30 (cD k0 ([.int .i64,.int .i64]:LK) c30)):ConOk CC Tryd.prog 10 ⟨as10,rs10,fun x=>sh10 fu c27 c28 c29 c30 (fun _=>false) x.1 x.2.1⟩:=
 zr (c:=⟨as10,rs10,fun x=>sh10 fu c27 c28 c29 c30 (fun _=>false) x.1 x.2.1⟩) (syn:=syn) (fu:=fu) (d:=2) (inl:=zA []) (orc:=zA [(27,(⟨as27,rs27,c27⟩:Con UU)),(28,(⟨as28,rs28,c28⟩:Con UU))]) (orr:=zA []) (orp:=zA [(29,cD k0 kB c29),(30,cD k0 ([.int .i64,.int .i64]:LK) c30)]) (pf:=hasN [27,28]) (rf:=hasN []) zl CCok mixed (fun g=>(zH (α:=Con UU) (l:=[(27,(⟨as27,rs27,c27⟩:Con UU)),(28,(⟨as28,rs28,c28⟩:Con UU))]) g).symm) (fun g=>(zH (α:=CR UU) (l:=[]) g).symm) (zC) (zE (OrcOk.of ⟨code27,h27⟩ rfl) (zE (OrcOk.of ⟨code28,h28⟩ rfl) (zC))) (zC) (zE ⟨code29,h29⟩ (zE ⟨code30,h30⟩ (zC))) fdok10 (by show 2<=102; decide) (zd rfl) (fun nf x=>by show run10 fu c27 c28 c29 c30 nf x.1 x.2.1=_; rw [eq10]; rfl)
end
section
open Go.Al Go.Den
def c40 (x:Int×Int×Unit):Option (Int×Int×Unit):=
 if 0<=x.1/\x.1 < 18446744073709551616/\0<=x.2.1/\x.2.1 < 18446744073709551616 then some (((x.1.toNat * x.2.1.toNat / 18446744073709551616:Nat):Int),((x.1.toNat * x.2.1.toNat % 18446744073709551616:Nat):Int),()) else none
theorem ok40:ConOk CC Tryd.prog 40 ⟨as40,rs40,c40⟩:=fun x y hx vs hvs=>by
 obtain ⟨a,b,u⟩:=x
 change Int at a b
 obtain ⟨v,vs',rfl,hv,v2,vs2,rfl,hv2,hvs⟩:=hvs
 replace hvs:vs2=[]:=hvs
 subst hvs
 replace hv:v = .at (.int .u64 a):=hv
 replace hv2:v2 = .at (.int .u64 b):=hv2
 subst hv hv2
 by_cases h:0<=a/\a < 18446744073709551616/\0<=b/\b < 18446744073709551616
 · have hx2:c40 (a,b,u)=some (((a.toNat * b.toNat / 18446744073709551616:Nat):Int),((a.toNat * b.toNat % 18446744073709551616:Nat):Int),()):=if_pos h
   replace hx:c40 (a,b,u)=some y:=hx
   rw [hx2] at hx
   injection hx with hx
   subst hx
   obtain ⟨h1,h2,h3,h4⟩:=h
   have e1:((Int.toNat a:Nat):Int)=a:=Int.toNat_of_nonneg h1
   have e2:((Int.toNat b:Nat):Int)=b:=Int.toNat_of_nonneg h3
   have:=pure40 (Int.toNat a) (Int.toNat b) (by omega) (by omega)
   rw [e1,e2] at this
   exact this
 · have hx2:c40 (a,b,u)=none:=if_neg h
   replace hx:c40 (a,b,u)=some y:=hx
   rw [hx2] at hx
   cases hx
def c83 (x:Str×Unit):Option (List Str×Unit):=
 if x.1.length < 4294967281/\(x.1.all fun b=>decide (b.toNat < 128))=true/\(Lib.fields x.1).isEmpty=false then some (Lib.fields x.1,()) else none
theorem ok83:ConOk CC Tryd.prog 83 ⟨as83,rs83,c83⟩:=fun x y hx vs hvs=>by
 obtain ⟨s,u⟩:=x
 change Str at s
 obtain ⟨v,vs',rfl,hv,hvs⟩:=hvs
 replace hvs:vs' = []:=hvs
 subst hvs
 replace hv:v = .at (.string ⟨List.toArray s⟩):=hv
 subst hv
 by_cases h:s.length < 4294967281/\(s.all fun b=>decide (b.toNat < 128))=true/\(Lib.fields s).isEmpty=false
 · have hx2:c83 (s,u)=some (Lib.fields s,()):=if_pos h
   replace hx:c83 (s,u)=some y:=hx
   rw [hx2] at hx
   injection hx with hx
   subst hx
   have h1:=pure83 s h.1 (fun b hb=>by simpa using List.all_eq_true.1 h.2.1 b hb)
   have h2:zu ((Lib.fields s).map fun s=>V.at (.string ⟨s.toArray⟩)) = .no:=by
    have h3:=h.2.2
    cases hf:Lib.fields s with
    | nil=>rw [hf] at h3; cases h3
    | cons a r=>rfl
   show xh _ 83 _ (.lst (zu ((Lib.fields s).map fun s=>V.at (.string ⟨s.toArray⟩))) ((Lib.fields s).map fun s=>V.at (.string ⟨s.toArray⟩)))
   rw [h2]
   exact h1
 · have hx2:c83 (s,u)=none:=if_neg h
   replace hx:c83 (s,u)=some y:=hx
   rw [hx2] at hx
   cases hx
noncomputable def c39:zJ as39->Option (zJ rs39):=fun x=>sh39 0 (fun _=>false) x.1
theorem ok39:ConOk CC Tryd.prog 39 ⟨as39,rs39,c39⟩:=con39 0
noncomputable def c41:zJ as41->Option (zJ rs41):=fun x=>sh41 20 (fun _=>false) x.1
theorem ok41:ConOk CC Tryd.prog 41 ⟨as41,rs41,c41⟩:=con41 20
noncomputable def c13 (fu:Nat):zJ as13->Option (zJ rs13):=fun x=>sh13 fu c39 c40 c41 (fun _=>false) x.1
theorem ok13 (fu:Nat):ConOk CC Tryd.prog 13 ⟨as13,rs13,c13 fu⟩:=con13 fu c39 ok39 c40 ok40 c41 ok41
noncomputable def c15:zJ as15->Option (zJ rs15):=fun x=>sh15 0 c44 (fun _=>false) x.1
theorem ok15:ConOk CC Tryd.prog 15 ⟨as15,rs15,c15⟩:=con15 0 c44 ok44
noncomputable def c113:zJ jl->Option (zJ jM):=fun x=>sh113 0 (fun _=>false) x.1 x.2.1 x.2.2.1
theorem ok113:ConOk CC Tryd.prog 113 ⟨jl,jM,c113⟩:=con113 0
noncomputable def c111:zJ jj->Option (zJ jN):=fun x=>sh111 0 c113 (fun _=>false) x.1 x.2.1 x.2.2.1
theorem ok111:ConOk CC Tryd.prog 111 ⟨jj,jN,c111⟩:=con111 0 c113 ok113
noncomputable def c74:zJ as74->Option (zJ rs74):=fun x=>sh74 20 c83 (fun _=>false) x.1
theorem ok74:ConOk CC Tryd.prog 74 ⟨as74,rs74,c74⟩:=con74 20 c83 ok83
noncomputable def cm:Nat->zJ za->Option (zJ zZ)
 | 0=>fun _=>none
 | n+1=>fun x=>match (show VT from x.1) with
  | .num k=>sh114 0 (fun _=>false) k
  | .un s y=>sh115 0 (cm n) (fun _=>false) ⟨s,y⟩
  | .bin s y z=>sh110 0 c111 (cm n) (fun _=>false) ⟨s,y,z⟩
  | .cho c y z=>sh109 0 (cm n) (fun _=>false) ⟨c,y,z⟩
theorem zMC {m:String} (h:mIx m=1000000):m = "emend/ifexpr.comes":=by
 unfold mIx at h
 cases hd:decide (m = "emend/ifexpr.comes") with
 | true=>exact of_decide_eq_true hd
 | false=>rw [hd] at h; simp at h
theorem zOo:resM Tryd.prog 105 "emend/ifexpr.comes" = some 114:=by kernel_rfl
theorem zOb:resM Tryd.prog 110 "emend/ifexpr.comes" = some 115:=by kernel_rfl
theorem zON:resM Tryd.prog 104 "emend/ifexpr.comes" = some 110:=by kernel_rfl
theorem resM88:resM Tryd.prog 88 "emend/ifexpr.comes" = some 109:=by kernel_rfl
theorem cmok:∀ n,OrcOk CC Tryd.prog 1000000 ⟨za,zZ,cm n⟩
 | 0=>⟨fun h=>absurd h (by decide),fun m _ x y hx=>by cases hx⟩
 | n+1=>⟨fun h=>absurd h (by decide),fun m hm x y hx v vs hvs=>by
  have ih:=cmok n
  rw [zMC hm]
  obtain ⟨t,u⟩:=x
  obtain ⟨v',vs',hv0,hv,hvs⟩:=hvs
  injection hv0 with e1 e2
  subst e1 e2
  replace hvs:vs=[]:=hvs
  subst hvs
  replace hv:v = .at (VT.enc t):=hv
  subst hv
  replace hx:(match (show VT from t) with
   | .num k=>sh114 0 (fun _=>false) k
   | .un s y=>sh115 0 (cm n) (fun _=>false) ⟨s,y⟩
   | .bin s y z=>sh110 0 c111 (cm n) (fun _=>false) ⟨s,y,z⟩
   | .cho c y z=>sh109 0 (cm n) (fun _=>false) ⟨c,y,z⟩)=some y:=hx
  revert hx
  cases (show VT from t) with
  | num k=>exact fun hx=>⟨105,.int .i64 k,114,rfl,zOo,zOT,rfl,con114 0 (k,()) y hx _ ⟨_,_,rfl,rfl,rfl⟩⟩
  | un s z=>exact fun hx=>⟨110,_,115,rfl,zOb,zO2,(by cases z <;> rfl),con115 0 (cm n) ih ((⟨s,z⟩:UnT),()) y hx _ ⟨_,_,rfl,(by cases z <;> rfl),rfl⟩⟩
  | bin s z1 z2=>exact fun hx=>⟨104,_,110,rfl,zON,zOe,(by cases z1 <;> cases z2 <;> rfl),con110 0 c111 ok111 (cm n) ih ((⟨s,z1,z2⟩:BinT),()) y hx _ ⟨_,_,rfl,(by cases z1 <;> cases z2 <;> rfl),rfl⟩⟩
  | cho c z1 z2=>exact fun hx=>⟨88,_,109,rfl,resM88,zOP,(by cases c <;> cases z1 <;> cases z2 <;> rfl),con109 0 (cm n) ih ((⟨c,z1,z2⟩:ChoT),()) y hx _ ⟨_,_,rfl,(by cases c <;> cases z1 <;> cases z2 <;> rfl),rfl⟩⟩⟩
end
section
open Go.Al Go.Den
def sh29 (fu:Nat) (c44:(Str×(Int×Unit))->(Option (Int×Unit))) (c58:(Str×(Str×Unit))->(Option (Int×Unit))) (c56:(Int×Unit)->Str->Int->(Option (Int×Unit))) (c57:(Str×Unit)->Str->Int->(Option ((Bool×Unit)×Int))) (x:((Str×(Int×Unit))×Unit)) (a:Unit):(Option (Option (((Str×(Int×Unit))×Unit)×(Bool×Unit)))):=zAa (fun (join0:(Unit×((Str×(Int×Unit))×Unit))->Option (Option (((Str×(Int×Unit))×Unit)×(Bool×Unit))))=>Option.bind (c56 (0,()) x.1.1 x.1.2.1) fun y0=>zAa (fun (join1:((Bool×Unit)×((Str×(Int×Unit))×Unit))->Option (Option (((Str×(Int×Unit))×Unit)×(Bool×Unit))))=>cond (ieq y0.1 32) (join1 ((true,()),((x.1.1,(x.1.2.1,())),()))) (cond (ieq y0.1 9) (join1 ((true,()),((x.1.1,(x.1.2.1,())),()))) (cond (ieq y0.1 11) (join1 ((true,()),((x.1.1,(x.1.2.1,())),()))) (cond (ieq y0.1 12) (join1 ((true,()),((x.1.1,(x.1.2.1,())),()))) (join1 (((ieq y0.1 13),()),((x.1.1,(x.1.2.1,())),()))))))) (fun (t0:((Bool×Unit)×((Str×(Int×Unit))×Unit)))=>cond t0.1.1 (some (some (((t0.2.1.1,((iadd .i64 t0.2.1.2.1 1),())),()),(true,())))) (join0 ((),((t0.2.1.1,(t0.2.1.2.1,())),()))))) (fun (t0:(Unit×((Str×(Int×Unit))×Unit)))=>Option.bind (c57 ([47,47],()) t0.2.1.1 t0.2.1.2.1) fun y0=>cond y0.1.1 (cond (inS y0.2 (lenI t0.2.1.1) (List.length t0.2.1.1)) (Option.bind (c44 ((cutL t0.2.1.1 y0.2 (lenI t0.2.1.1)),(10,()))) fun y1=>zAa (fun (join0:((Int×Unit)×((Str×(Int×Unit))×Unit))->Option (Option (((Str×(Int×Unit))×Unit)×(Bool×Unit))))=>cond (ilt y1.1 0) (join0 (((isub .i64 (lenI t0.2.1.1) y0.2),()),((t0.2.1.1,(y0.2,())),()))) (join0 ((y1.1,()),((t0.2.1.1,(y0.2,())),())))) (fun (t1:((Int×Unit)×((Str×(Int×Unit))×Unit)))=>some (some (((t1.2.1.1,((iadd .i64 t1.2.1.2.1 t1.1.1),())),()),(true,()))))) (none)) (Option.bind (c57 ([47,42],()) t0.2.1.1 y0.2) fun y1=>cond (!y1.1.1) (some (some (((t0.2.1.1,(y1.2,())),()),(false,())))) (cond (inS (iadd .i64 y1.2 2) (lenI t0.2.1.1) (List.length t0.2.1.1)) (Option.bind (c58 ((cutL t0.2.1.1 (iadd .i64 y1.2 2) (lenI t0.2.1.1)),([42,47],()))) fun y2=>cond (ilt y2.1 0) (some (some (((t0.2.1.1,(y1.2,())),()),(false,())))) (some (some (((t0.2.1.1,((iadd .i64 y1.2 (iadd .i64 y2.1 4)),())),()),(true,()))))) (none))))
theorem eq29:@run29 = @sh29:=by kernel_rfl
def sh57 (fu:Nat) (x:((Str×(Int×Unit))×Unit)) (a:(Str×Unit)):(Option (Option (((Str×(Int×Unit))×Unit)×(Bool×Unit)))):=cond (inS x.1.2.1 (lenI x.1.1) (List.length x.1.1)) (cond (ile (lenI a.1) (lenI (cutL x.1.1 x.1.2.1 (lenI x.1.1)))) (cond (inS 0 (lenI a.1) (List.length (cutL x.1.1 x.1.2.1 (lenI x.1.1)))) (some (some (((x.1.1,(x.1.2.1,())),()),((seq (cutL (cutL x.1.1 x.1.2.1 (lenI x.1.1)) 0 (lenI a.1)) a.1),())))) (none)) (some (some (((x.1.1,(x.1.2.1,())),()),(false,()))))) (none)
theorem eq57:@run57 = @sh57:=by kernel_rfl
def sh30 (fu:Nat) (c57:(Str×Unit)->Str->Int->(Option ((Bool×Unit)×Int))) (c59:Unit->Str->Int->(Option ((Int×Unit)×Int))) (c60:Unit->Str->Int->(Option ((Int×Unit)×Int))) (c61:(Int×Unit)->Str->Int->(Option ((Int×Unit)×Int))) (c62:Unit->Str->Int->(Option ((Int×Unit)×Int))) (x:((Str×(Int×Unit))×Unit)) (a:Unit):(Option (Option (((Str×(Int×Unit))×Unit)×(Int×(Int×Unit))))):=Option.bind (c57 ([10],()) x.1.1 x.1.2.1) fun y0=>cond y0.1.1 (some (some (((x.1.1,(y0.2,())),()),(7,(1,()))))) (Option.bind (c59 () x.1.1 y0.2) fun y1=>cond (ilt 0 y1.1.1) (some (some (((x.1.1,(y1.2,())),()),(1,(y1.1.1,()))))) (Option.bind (c60 () x.1.1 y1.2) fun y2=>cond (ilt 0 y2.1.1) (some (some (((x.1.1,(y2.2,())),()),(2,(y2.1.1,()))))) (Option.bind (c61 (34,()) x.1.1 y2.2) fun y3=>cond (ilt 0 y3.1.1) (some (some (((x.1.1,(y3.2,())),()),(4,(y3.1.1,()))))) (Option.bind (c61 (39,()) x.1.1 y3.2) fun y4=>cond (ilt 0 y4.1.1) (some (some (((x.1.1,(y4.2,())),()),(3,(y4.1.1,()))))) (Option.bind (c62 () x.1.1 y4.2) fun y5=>cond (ilt 0 y5.1.1) (some (some (((x.1.1,(y5.2,())),()),(5,(y5.1.1,()))))) (some (some (((x.1.1,(y5.2,())),()),(6,(1,()))))))))))
theorem eq30:@run30 = @sh30:=by kernel_rfl
def sh59 (fu:Nat) (c56:(Int×Unit)->Str->Int->(Option (Int×Unit))) (x:((Str×(Int×Unit))×Unit)) (a:Unit):(Option (Option (((Str×(Int×Unit))×Unit)×(Int×Unit)))):=iter fu (fun (rec1:((Int×Unit)×((Str×(Int×Unit))×Unit))->Option (Option (((Str×(Int×Unit))×Unit)×(Int×Unit)))) (s1:((Int×Unit)×((Str×(Int×Unit))×Unit)))=>Option.bind (c56 (s1.1.1,()) s1.2.1.1 s1.2.1.2.1) fun y0=>cond (ieq y0.1 95) (rec1 (((iadd .i64 s1.1.1 1),()),((s1.2.1.1,(s1.2.1.2.1,())),()))) (cond (ile 97 y0.1) (cond (ile y0.1 122) (rec1 (((iadd .i64 s1.1.1 1),()),((s1.2.1.1,(s1.2.1.2.1,())),()))) (cond (ile 65 y0.1) (cond (ile y0.1 90) (rec1 (((iadd .i64 s1.1.1 1),()),((s1.2.1.1,(s1.2.1.2.1,())),()))) (cond (ilt 0 s1.1.1) (Option.bind (c56 (s1.1.1,()) s1.2.1.1 s1.2.1.2.1) fun y1=>cond (ile 48 y1.1) (cond (ile y1.1 57) (rec1 (((iadd .i64 s1.1.1 1),()),((s1.2.1.1,(s1.2.1.2.1,())),()))) (some (some (((s1.2.1.1,(s1.2.1.2.1,())),()),(s1.1.1,()))))) (some (some (((s1.2.1.1,(s1.2.1.2.1,())),()),(s1.1.1,()))))) (some (some (((s1.2.1.1,(s1.2.1.2.1,())),()),(s1.1.1,())))))) (cond (ilt 0 s1.1.1) (Option.bind (c56 (s1.1.1,()) s1.2.1.1 s1.2.1.2.1) fun y1=>cond (ile 48 y1.1) (cond (ile y1.1 57) (rec1 (((iadd .i64 s1.1.1 1),()),((s1.2.1.1,(s1.2.1.2.1,())),()))) (some (some (((s1.2.1.1,(s1.2.1.2.1,())),()),(s1.1.1,()))))) (some (some (((s1.2.1.1,(s1.2.1.2.1,())),()),(s1.1.1,()))))) (some (some (((s1.2.1.1,(s1.2.1.2.1,())),()),(s1.1.1,()))))))) (cond (ile 65 y0.1) (cond (ile y0.1 90) (rec1 (((iadd .i64 s1.1.1 1),()),((s1.2.1.1,(s1.2.1.2.1,())),()))) (cond (ilt 0 s1.1.1) (Option.bind (c56 (s1.1.1,()) s1.2.1.1 s1.2.1.2.1) fun y1=>cond (ile 48 y1.1) (cond (ile y1.1 57) (rec1 (((iadd .i64 s1.1.1 1),()),((s1.2.1.1,(s1.2.1.2.1,())),()))) (some (some (((s1.2.1.1,(s1.2.1.2.1,())),()),(s1.1.1,()))))) (some (some (((s1.2.1.1,(s1.2.1.2.1,())),()),(s1.1.1,()))))) (some (some (((s1.2.1.1,(s1.2.1.2.1,())),()),(s1.1.1,())))))) (cond (ilt 0 s1.1.1) (Option.bind (c56 (s1.1.1,()) s1.2.1.1 s1.2.1.2.1) fun y1=>cond (ile 48 y1.1) (cond (ile y1.1 57) (rec1 (((iadd .i64 s1.1.1 1),()),((s1.2.1.1,(s1.2.1.2.1,())),()))) (some (some (((s1.2.1.1,(s1.2.1.2.1,())),()),(s1.1.1,()))))) (some (some (((s1.2.1.1,(s1.2.1.2.1,())),()),(s1.1.1,()))))) (some (some (((s1.2.1.1,(s1.2.1.2.1,())),()),(s1.1.1,())))))))) ((0,()),((x.1.1,(x.1.2.1,())),()))
theorem eq59:@run59 = @sh59:=by kernel_rfl
def sh60 (fu:Nat) (c44:(Str×(Int×Unit))->(Option (Int×Unit))) (c56:(Int×Unit)->Str->Int->(Option (Int×Unit))) (x:((Str×(Int×Unit))×Unit)) (a:Unit):(Option (Option (((Str×(Int×Unit))×Unit)×(Int×Unit)))):=Option.bind (c56 (0,()) x.1.1 x.1.2.1) fun y0=>cond (ile 48 y0.1) (cond (!(ile y0.1 57)) (Option.bind (c56 (0,()) x.1.1 x.1.2.1) fun y1=>cond (ine y1.1 46) (some (some (((x.1.1,(x.1.2.1,())),()),(0,())))) (Option.bind (c56 (1,()) x.1.1 x.1.2.1) fun y2=>cond (ile 48 y2.1) (cond (!(ile y2.1 57)) (some (some (((x.1.1,(x.1.2.1,())),()),(0,())))) (iter fu (fun (rec1:((Int×Unit)×((Str×(Int×Unit))×Unit))->Option (Option (((Str×(Int×Unit))×Unit)×(Int×Unit)))) (s1:((Int×Unit)×((Str×(Int×Unit))×Unit)))=>Option.bind (c56 (s1.1.1,()) s1.2.1.1 s1.2.1.2.1) fun y3=>Option.bind (c56 ((iadd .i64 s1.1.1 1),()) s1.2.1.1 s1.2.1.2.1) fun y4=>Option.bind (c44 ([101,69,112,80],(y3.1,()))) fun y5=>cond (ile 0 y5.1) (cond (ieq y4.1 43) (rec1 (((iadd .i64 s1.1.1 2),()),((s1.2.1.1,(s1.2.1.2.1,())),()))) (cond (ieq y4.1 45) (rec1 (((iadd .i64 s1.1.1 2),()),((s1.2.1.1,(s1.2.1.2.1,())),()))) (cond (ieq y3.1 95) (rec1 (((iadd .i64 s1.1.1 1),()),((s1.2.1.1,(s1.2.1.2.1,())),()))) (cond (ile 97 y3.1) (cond (ile y3.1 122) (rec1 (((iadd .i64 s1.1.1 1),()),((s1.2.1.1,(s1.2.1.2.1,())),()))) (cond (ile 65 y3.1) (cond (ile y3.1 90) (rec1 (((iadd .i64 s1.1.1 1),()),((s1.2.1.1,(s1.2.1.2.1,())),()))) (cond (ile 48 y3.1) (cond (ile y3.1 57) (rec1 (((iadd .i64 s1.1.1 1),()),((s1.2.1.1,(s1.2.1.2.1,())),()))) (cond (ieq y3.1 46) (rec1 (((iadd .i64 s1.1.1 1),()),((s1.2.1.1,(s1.2.1.2.1,())),()))) (some (some (((s1.2.1.1,(s1.2.1.2.1,())),()),(s1.1.1,())))))) (cond (ieq y3.1 46) (rec1 (((iadd .i64 s1.1.1 1),()),((s1.2.1.1,(s1.2.1.2.1,())),()))) (some (some (((s1.2.1.1,(s1.2.1.2.1,())),()),(s1.1.1,()))))))) (cond (ile 48 y3.1) (cond (ile y3.1 57) (rec1 (((iadd .i64 s1.1.1 1),()),((s1.2.1.1,(s1.2.1.2.1,())),()))) (cond (ieq y3.1 46) (rec1 (((iadd .i64 s1.1.1 1),()),((s1.2.1.1,(s1.2.1.2.1,())),()))) (some (some (((s1.2.1.1,(s1.2.1.2.1,())),()),(s1.1.1,())))))) (cond (ieq y3.1 46) (rec1 (((iadd .i64 s1.1.1 1),()),((s1.2.1.1,(s1.2.1.2.1,())),()))) (some (some (((s1.2.1.1,(s1.2.1.2.1,())),()),(s1.1.1,())))))))) (cond (ile 65 y3.1) (cond (ile y3.1 90) (rec1 (((iadd .i64 s1.1.1 1),()),((s1.2.1.1,(s1.2.1.2.1,())),()))) (cond (ile 48 y3.1) (cond (ile y3.1 57) (rec1 (((iadd .i64 s1.1.1 1),()),((s1.2.1.1,(s1.2.1.2.1,())),()))) (cond (ieq y3.1 46) (rec1 (((iadd .i64 s1.1.1 1),()),((s1.2.1.1,(s1.2.1.2.1,())),()))) (some (some (((s1.2.1.1,(s1.2.1.2.1,())),()),(s1.1.1,())))))) (cond (ieq y3.1 46) (rec1 (((iadd .i64 s1.1.1 1),()),((s1.2.1.1,(s1.2.1.2.1,())),()))) (some (some (((s1.2.1.1,(s1.2.1.2.1,())),()),(s1.1.1,()))))))) (cond (ile 48 y3.1) (cond (ile y3.1 57) (rec1 (((iadd .i64 s1.1.1 1),()),((s1.2.1.1,(s1.2.1.2.1,())),()))) (cond (ieq y3.1 46) (rec1 (((iadd .i64 s1.1.1 1),()),((s1.2.1.1,(s1.2.1.2.1,())),()))) (some (some (((s1.2.1.1,(s1.2.1.2.1,())),()),(s1.1.1,())))))) (cond (ieq y3.1 46) (rec1 (((iadd .i64 s1.1.1 1),()),((s1.2.1.1,(s1.2.1.2.1,())),()))) (some (some (((s1.2.1.1,(s1.2.1.2.1,())),()),(s1.1.1,()))))))))))) (cond (ieq y3.1 95) (rec1 (((iadd .i64 s1.1.1 1),()),((s1.2.1.1,(s1.2.1.2.1,())),()))) (cond (ile 97 y3.1) (cond (ile y3.1 122) (rec1 (((iadd .i64 s1.1.1 1),()),((s1.2.1.1,(s1.2.1.2.1,())),()))) (cond (ile 65 y3.1) (cond (ile y3.1 90) (rec1 (((iadd .i64 s1.1.1 1),()),((s1.2.1.1,(s1.2.1.2.1,())),()))) (cond (ile 48 y3.1) (cond (ile y3.1 57) (rec1 (((iadd .i64 s1.1.1 1),()),((s1.2.1.1,(s1.2.1.2.1,())),()))) (cond (ieq y3.1 46) (rec1 (((iadd .i64 s1.1.1 1),()),((s1.2.1.1,(s1.2.1.2.1,())),()))) (some (some (((s1.2.1.1,(s1.2.1.2.1,())),()),(s1.1.1,())))))) (cond (ieq y3.1 46) (rec1 (((iadd .i64 s1.1.1 1),()),((s1.2.1.1,(s1.2.1.2.1,())),()))) (some (some (((s1.2.1.1,(s1.2.1.2.1,())),()),(s1.1.1,()))))))) (cond (ile 48 y3.1) (cond (ile y3.1 57) (rec1 (((iadd .i64 s1.1.1 1),()),((s1.2.1.1,(s1.2.1.2.1,())),()))) (cond (ieq y3.1 46) (rec1 (((iadd .i64 s1.1.1 1),()),((s1.2.1.1,(s1.2.1.2.1,())),()))) (some (some (((s1.2.1.1,(s1.2.1.2.1,())),()),(s1.1.1,())))))) (cond (ieq y3.1 46) (rec1 (((iadd .i64 s1.1.1 1),()),((s1.2.1.1,(s1.2.1.2.1,())),()))) (some (some (((s1.2.1.1,(s1.2.1.2.1,())),()),(s1.1.1,())))))))) (cond (ile 65 y3.1) (cond (ile y3.1 90) (rec1 (((iadd .i64 s1.1.1 1),()),((s1.2.1.1,(s1.2.1.2.1,())),()))) (cond (ile 48 y3.1) (cond (ile y3.1 57) (rec1 (((iadd .i64 s1.1.1 1),()),((s1.2.1.1,(s1.2.1.2.1,())),()))) (cond (ieq y3.1 46) (rec1 (((iadd .i64 s1.1.1 1),()),((s1.2.1.1,(s1.2.1.2.1,())),()))) (some (some (((s1.2.1.1,(s1.2.1.2.1,())),()),(s1.1.1,())))))) (cond (ieq y3.1 46) (rec1 (((iadd .i64 s1.1.1 1),()),((s1.2.1.1,(s1.2.1.2.1,())),()))) (some (some (((s1.2.1.1,(s1.2.1.2.1,())),()),(s1.1.1,()))))))) (cond (ile 48 y3.1) (cond (ile y3.1 57) (rec1 (((iadd .i64 s1.1.1 1),()),((s1.2.1.1,(s1.2.1.2.1,())),()))) (cond (ieq y3.1 46) (rec1 (((iadd .i64 s1.1.1 1),()),((s1.2.1.1,(s1.2.1.2.1,())),()))) (some (some (((s1.2.1.1,(s1.2.1.2.1,())),()),(s1.1.1,())))))) (cond (ieq y3.1 46) (rec1 (((iadd .i64 s1.1.1 1),()),((s1.2.1.1,(s1.2.1.2.1,())),()))) (some (some (((s1.2.1.1,(s1.2.1.2.1,())),()),(s1.1.1,())))))))))) ((1,()),((x.1.1,(x.1.2.1,())),())))) (some (some (((x.1.1,(x.1.2.1,())),()),(0,())))))) (iter fu (fun (rec1:((Int×Unit)×((Str×(Int×Unit))×Unit))->Option (Option (((Str×(Int×Unit))×Unit)×(Int×Unit)))) (s1:((Int×Unit)×((Str×(Int×Unit))×Unit)))=>Option.bind (c56 (s1.1.1,()) s1.2.1.1 s1.2.1.2.1) fun y1=>Option.bind (c56 ((iadd .i64 s1.1.1 1),()) s1.2.1.1 s1.2.1.2.1) fun y2=>Option.bind (c44 ([101,69,112,80],(y1.1,()))) fun y3=>cond (ile 0 y3.1) (cond (ieq y2.1 43) (rec1 (((iadd .i64 s1.1.1 2),()),((s1.2.1.1,(s1.2.1.2.1,())),()))) (cond (ieq y2.1 45) (rec1 (((iadd .i64 s1.1.1 2),()),((s1.2.1.1,(s1.2.1.2.1,())),()))) (cond (ieq y1.1 95) (rec1 (((iadd .i64 s1.1.1 1),()),((s1.2.1.1,(s1.2.1.2.1,())),()))) (cond (ile 97 y1.1) (cond (ile y1.1 122) (rec1 (((iadd .i64 s1.1.1 1),()),((s1.2.1.1,(s1.2.1.2.1,())),()))) (cond (ile 65 y1.1) (cond (ile y1.1 90) (rec1 (((iadd .i64 s1.1.1 1),()),((s1.2.1.1,(s1.2.1.2.1,())),()))) (cond (ile 48 y1.1) (cond (ile y1.1 57) (rec1 (((iadd .i64 s1.1.1 1),()),((s1.2.1.1,(s1.2.1.2.1,())),()))) (cond (ieq y1.1 46) (rec1 (((iadd .i64 s1.1.1 1),()),((s1.2.1.1,(s1.2.1.2.1,())),()))) (some (some (((s1.2.1.1,(s1.2.1.2.1,())),()),(s1.1.1,())))))) (cond (ieq y1.1 46) (rec1 (((iadd .i64 s1.1.1 1),()),((s1.2.1.1,(s1.2.1.2.1,())),()))) (some (some (((s1.2.1.1,(s1.2.1.2.1,())),()),(s1.1.1,()))))))) (cond (ile 48 y1.1) (cond (ile y1.1 57) (rec1 (((iadd .i64 s1.1.1 1),()),((s1.2.1.1,(s1.2.1.2.1,())),()))) (cond (ieq y1.1 46) (rec1 (((iadd .i64 s1.1.1 1),()),((s1.2.1.1,(s1.2.1.2.1,())),()))) (some (some (((s1.2.1.1,(s1.2.1.2.1,())),()),(s1.1.1,())))))) (cond (ieq y1.1 46) (rec1 (((iadd .i64 s1.1.1 1),()),((s1.2.1.1,(s1.2.1.2.1,())),()))) (some (some (((s1.2.1.1,(s1.2.1.2.1,())),()),(s1.1.1,())))))))) (cond (ile 65 y1.1) (cond (ile y1.1 90) (rec1 (((iadd .i64 s1.1.1 1),()),((s1.2.1.1,(s1.2.1.2.1,())),()))) (cond (ile 48 y1.1) (cond (ile y1.1 57) (rec1 (((iadd .i64 s1.1.1 1),()),((s1.2.1.1,(s1.2.1.2.1,())),()))) (cond (ieq y1.1 46) (rec1 (((iadd .i64 s1.1.1 1),()),((s1.2.1.1,(s1.2.1.2.1,())),()))) (some (some (((s1.2.1.1,(s1.2.1.2.1,())),()),(s1.1.1,())))))) (cond (ieq y1.1 46) (rec1 (((iadd .i64 s1.1.1 1),()),((s1.2.1.1,(s1.2.1.2.1,())),()))) (some (some (((s1.2.1.1,(s1.2.1.2.1,())),()),(s1.1.1,()))))))) (cond (ile 48 y1.1) (cond (ile y1.1 57) (rec1 (((iadd .i64 s1.1.1 1),()),((s1.2.1.1,(s1.2.1.2.1,())),()))) (cond (ieq y1.1 46) (rec1 (((iadd .i64 s1.1.1 1),()),((s1.2.1.1,(s1.2.1.2.1,())),()))) (some (some (((s1.2.1.1,(s1.2.1.2.1,())),()),(s1.1.1,())))))) (cond (ieq y1.1 46) (rec1 (((iadd .i64 s1.1.1 1),()),((s1.2.1.1,(s1.2.1.2.1,())),()))) (some (some (((s1.2.1.1,(s1.2.1.2.1,())),()),(s1.1.1,()))))))))))) (cond (ieq y1.1 95) (rec1 (((iadd .i64 s1.1.1 1),()),((s1.2.1.1,(s1.2.1.2.1,())),()))) (cond (ile 97 y1.1) (cond (ile y1.1 122) (rec1 (((iadd .i64 s1.1.1 1),()),((s1.2.1.1,(s1.2.1.2.1,())),()))) (cond (ile 65 y1.1) (cond (ile y1.1 90) (rec1 (((iadd .i64 s1.1.1 1),()),((s1.2.1.1,(s1.2.1.2.1,())),()))) (cond (ile 48 y1.1) (cond (ile y1.1 57) (rec1 (((iadd .i64 s1.1.1 1),()),((s1.2.1.1,(s1.2.1.2.1,())),()))) (cond (ieq y1.1 46) (rec1 (((iadd .i64 s1.1.1 1),()),((s1.2.1.1,(s1.2.1.2.1,())),()))) (some (some (((s1.2.1.1,(s1.2.1.2.1,())),()),(s1.1.1,())))))) (cond (ieq y1.1 46) (rec1 (((iadd .i64 s1.1.1 1),()),((s1.2.1.1,(s1.2.1.2.1,())),()))) (some (some (((s1.2.1.1,(s1.2.1.2.1,())),()),(s1.1.1,()))))))) (cond (ile 48 y1.1) (cond (ile y1.1 57) (rec1 (((iadd .i64 s1.1.1 1),()),((s1.2.1.1,(s1.2.1.2.1,())),()))) (cond (ieq y1.1 46) (rec1 (((iadd .i64 s1.1.1 1),()),((s1.2.1.1,(s1.2.1.2.1,())),()))) (some (some (((s1.2.1.1,(s1.2.1.2.1,())),()),(s1.1.1,())))))) (cond (ieq y1.1 46) (rec1 (((iadd .i64 s1.1.1 1),()),((s1.2.1.1,(s1.2.1.2.1,())),()))) (some (some (((s1.2.1.1,(s1.2.1.2.1,())),()),(s1.1.1,())))))))) (cond (ile 65 y1.1) (cond (ile y1.1 90) (rec1 (((iadd .i64 s1.1.1 1),()),((s1.2.1.1,(s1.2.1.2.1,())),()))) (cond (ile 48 y1.1) (cond (ile y1.1 57) (rec1 (((iadd .i64 s1.1.1 1),()),((s1.2.1.1,(s1.2.1.2.1,())),()))) (cond (ieq y1.1 46) (rec1 (((iadd .i64 s1.1.1 1),()),((s1.2.1.1,(s1.2.1.2.1,())),()))) (some (some (((s1.2.1.1,(s1.2.1.2.1,())),()),(s1.1.1,())))))) (cond (ieq y1.1 46) (rec1 (((iadd .i64 s1.1.1 1),()),((s1.2.1.1,(s1.2.1.2.1,())),()))) (some (some (((s1.2.1.1,(s1.2.1.2.1,())),()),(s1.1.1,()))))))) (cond (ile 48 y1.1) (cond (ile y1.1 57) (rec1 (((iadd .i64 s1.1.1 1),()),((s1.2.1.1,(s1.2.1.2.1,())),()))) (cond (ieq y1.1 46) (rec1 (((iadd .i64 s1.1.1 1),()),((s1.2.1.1,(s1.2.1.2.1,())),()))) (some (some (((s1.2.1.1,(s1.2.1.2.1,())),()),(s1.1.1,())))))) (cond (ieq y1.1 46) (rec1 (((iadd .i64 s1.1.1 1),()),((s1.2.1.1,(s1.2.1.2.1,())),()))) (some (some (((s1.2.1.1,(s1.2.1.2.1,())),()),(s1.1.1,())))))))))) ((1,()),((x.1.1,(x.1.2.1,())),())))) (Option.bind (c56 (0,()) x.1.1 x.1.2.1) fun y1=>cond (ine y1.1 46) (some (some (((x.1.1,(x.1.2.1,())),()),(0,())))) (Option.bind (c56 (1,()) x.1.1 x.1.2.1) fun y2=>cond (ile 48 y2.1) (cond (!(ile y2.1 57)) (some (some (((x.1.1,(x.1.2.1,())),()),(0,())))) (iter fu (fun (rec1:((Int×Unit)×((Str×(Int×Unit))×Unit))->Option (Option (((Str×(Int×Unit))×Unit)×(Int×Unit)))) (s1:((Int×Unit)×((Str×(Int×Unit))×Unit)))=>Option.bind (c56 (s1.1.1,()) s1.2.1.1 s1.2.1.2.1) fun y3=>Option.bind (c56 ((iadd .i64 s1.1.1 1),()) s1.2.1.1 s1.2.1.2.1) fun y4=>Option.bind (c44 ([101,69,112,80],(y3.1,()))) fun y5=>cond (ile 0 y5.1) (cond (ieq y4.1 43) (rec1 (((iadd .i64 s1.1.1 2),()),((s1.2.1.1,(s1.2.1.2.1,())),()))) (cond (ieq y4.1 45) (rec1 (((iadd .i64 s1.1.1 2),()),((s1.2.1.1,(s1.2.1.2.1,())),()))) (cond (ieq y3.1 95) (rec1 (((iadd .i64 s1.1.1 1),()),((s1.2.1.1,(s1.2.1.2.1,())),()))) (cond (ile 97 y3.1) (cond (ile y3.1 122) (rec1 (((iadd .i64 s1.1.1 1),()),((s1.2.1.1,(s1.2.1.2.1,())),()))) (cond (ile 65 y3.1) (cond (ile y3.1 90) (rec1 (((iadd .i64 s1.1.1 1),()),((s1.2.1.1,(s1.2.1.2.1,())),()))) (cond (ile 48 y3.1) (cond (ile y3.1 57) (rec1 (((iadd .i64 s1.1.1 1),()),((s1.2.1.1,(s1.2.1.2.1,())),()))) (cond (ieq y3.1 46) (rec1 (((iadd .i64 s1.1.1 1),()),((s1.2.1.1,(s1.2.1.2.1,())),()))) (some (some (((s1.2.1.1,(s1.2.1.2.1,())),()),(s1.1.1,())))))) (cond (ieq y3.1 46) (rec1 (((iadd .i64 s1.1.1 1),()),((s1.2.1.1,(s1.2.1.2.1,())),()))) (some (some (((s1.2.1.1,(s1.2.1.2.1,())),()),(s1.1.1,()))))))) (cond (ile 48 y3.1) (cond (ile y3.1 57) (rec1 (((iadd .i64 s1.1.1 1),()),((s1.2.1.1,(s1.2.1.2.1,())),()))) (cond (ieq y3.1 46) (rec1 (((iadd .i64 s1.1.1 1),()),((s1.2.1.1,(s1.2.1.2.1,())),()))) (some (some (((s1.2.1.1,(s1.2.1.2.1,())),()),(s1.1.1,())))))) (cond (ieq y3.1 46) (rec1 (((iadd .i64 s1.1.1 1),()),((s1.2.1.1,(s1.2.1.2.1,())),()))) (some (some (((s1.2.1.1,(s1.2.1.2.1,())),()),(s1.1.1,())))))))) (cond (ile 65 y3.1) (cond (ile y3.1 90) (rec1 (((iadd .i64 s1.1.1 1),()),((s1.2.1.1,(s1.2.1.2.1,())),()))) (cond (ile 48 y3.1) (cond (ile y3.1 57) (rec1 (((iadd .i64 s1.1.1 1),()),((s1.2.1.1,(s1.2.1.2.1,())),()))) (cond (ieq y3.1 46) (rec1 (((iadd .i64 s1.1.1 1),()),((s1.2.1.1,(s1.2.1.2.1,())),()))) (some (some (((s1.2.1.1,(s1.2.1.2.1,())),()),(s1.1.1,())))))) (cond (ieq y3.1 46) (rec1 (((iadd .i64 s1.1.1 1),()),((s1.2.1.1,(s1.2.1.2.1,())),()))) (some (some (((s1.2.1.1,(s1.2.1.2.1,())),()),(s1.1.1,()))))))) (cond (ile 48 y3.1) (cond (ile y3.1 57) (rec1 (((iadd .i64 s1.1.1 1),()),((s1.2.1.1,(s1.2.1.2.1,())),()))) (cond (ieq y3.1 46) (rec1 (((iadd .i64 s1.1.1 1),()),((s1.2.1.1,(s1.2.1.2.1,())),()))) (some (some (((s1.2.1.1,(s1.2.1.2.1,())),()),(s1.1.1,())))))) (cond (ieq y3.1 46) (rec1 (((iadd .i64 s1.1.1 1),()),((s1.2.1.1,(s1.2.1.2.1,())),()))) (some (some (((s1.2.1.1,(s1.2.1.2.1,())),()),(s1.1.1,()))))))))))) (cond (ieq y3.1 95) (rec1 (((iadd .i64 s1.1.1 1),()),((s1.2.1.1,(s1.2.1.2.1,())),()))) (cond (ile 97 y3.1) (cond (ile y3.1 122) (rec1 (((iadd .i64 s1.1.1 1),()),((s1.2.1.1,(s1.2.1.2.1,())),()))) (cond (ile 65 y3.1) (cond (ile y3.1 90) (rec1 (((iadd .i64 s1.1.1 1),()),((s1.2.1.1,(s1.2.1.2.1,())),()))) (cond (ile 48 y3.1) (cond (ile y3.1 57) (rec1 (((iadd .i64 s1.1.1 1),()),((s1.2.1.1,(s1.2.1.2.1,())),()))) (cond (ieq y3.1 46) (rec1 (((iadd .i64 s1.1.1 1),()),((s1.2.1.1,(s1.2.1.2.1,())),()))) (some (some (((s1.2.1.1,(s1.2.1.2.1,())),()),(s1.1.1,())))))) (cond (ieq y3.1 46) (rec1 (((iadd .i64 s1.1.1 1),()),((s1.2.1.1,(s1.2.1.2.1,())),()))) (some (some (((s1.2.1.1,(s1.2.1.2.1,())),()),(s1.1.1,()))))))) (cond (ile 48 y3.1) (cond (ile y3.1 57) (rec1 (((iadd .i64 s1.1.1 1),()),((s1.2.1.1,(s1.2.1.2.1,())),()))) (cond (ieq y3.1 46) (rec1 (((iadd .i64 s1.1.1 1),()),((s1.2.1.1,(s1.2.1.2.1,())),()))) (some (some (((s1.2.1.1,(s1.2.1.2.1,())),()),(s1.1.1,())))))) (cond (ieq y3.1 46) (rec1 (((iadd .i64 s1.1.1 1),()),((s1.2.1.1,(s1.2.1.2.1,())),()))) (some (some (((s1.2.1.1,(s1.2.1.2.1,())),()),(s1.1.1,())))))))) (cond (ile 65 y3.1) (cond (ile y3.1 90) (rec1 (((iadd .i64 s1.1.1 1),()),((s1.2.1.1,(s1.2.1.2.1,())),()))) (cond (ile 48 y3.1) (cond (ile y3.1 57) (rec1 (((iadd .i64 s1.1.1 1),()),((s1.2.1.1,(s1.2.1.2.1,())),()))) (cond (ieq y3.1 46) (rec1 (((iadd .i64 s1.1.1 1),()),((s1.2.1.1,(s1.2.1.2.1,())),()))) (some (some (((s1.2.1.1,(s1.2.1.2.1,())),()),(s1.1.1,())))))) (cond (ieq y3.1 46) (rec1 (((iadd .i64 s1.1.1 1),()),((s1.2.1.1,(s1.2.1.2.1,())),()))) (some (some (((s1.2.1.1,(s1.2.1.2.1,())),()),(s1.1.1,()))))))) (cond (ile 48 y3.1) (cond (ile y3.1 57) (rec1 (((iadd .i64 s1.1.1 1),()),((s1.2.1.1,(s1.2.1.2.1,())),()))) (cond (ieq y3.1 46) (rec1 (((iadd .i64 s1.1.1 1),()),((s1.2.1.1,(s1.2.1.2.1,())),()))) (some (some (((s1.2.1.1,(s1.2.1.2.1,())),()),(s1.1.1,())))))) (cond (ieq y3.1 46) (rec1 (((iadd .i64 s1.1.1 1),()),((s1.2.1.1,(s1.2.1.2.1,())),()))) (some (some (((s1.2.1.1,(s1.2.1.2.1,())),()),(s1.1.1,())))))))))) ((1,()),((x.1.1,(x.1.2.1,())),())))) (some (some (((x.1.1,(x.1.2.1,())),()),(0,()))))))
theorem eq60:@run60 = @sh60:=by kernel_rfl
def sh61 (fu:Nat) (c56:(Int×Unit)->Str->Int->(Option (Int×Unit))) (x:((Str×(Int×Unit))×Unit)) (a:(Int×Unit)):(Option (Option (((Str×(Int×Unit))×Unit)×(Int×Unit)))):=cond (ieq x.1.2.1 (lenI x.1.1)) (some (some (((x.1.1,(x.1.2.1,())),()),(0,())))) (Option.bind (c56 (0,()) x.1.1 x.1.2.1) fun y0=>cond (ine y0.1 a.1) (some (some (((x.1.1,(x.1.2.1,())),()),(0,())))) (iter fu (fun (rec1:((Int×Unit)×((Str×(Int×Unit))×Unit))->Option (Option (((Str×(Int×Unit))×Unit)×(Int×Unit)))) (s1:((Int×Unit)×((Str×(Int×Unit))×Unit)))=>cond (ilt (iadd .i64 s1.2.1.2.1 s1.1.1) (lenI s1.2.1.1)) (Option.bind (c56 (s1.1.1,()) s1.2.1.1 s1.2.1.2.1) fun y1=>cond (ieq y1.1 a.1) (cond (ieq a.1 39) (cond (ieq s1.1.1 1) (some (some (((s1.2.1.1,(s1.2.1.2.1,())),()),(0,())))) (some (some (((s1.2.1.1,(s1.2.1.2.1,())),()),((iadd .i64 s1.1.1 1),()))))) (some (some (((s1.2.1.1,(s1.2.1.2.1,())),()),((iadd .i64 s1.1.1 1),()))))) (cond (ieq y1.1 10) (some (some (((s1.2.1.1,(s1.2.1.2.1,())),()),(0,())))) (cond (ieq y1.1 92) (Option.bind (c56 ((iadd .i64 s1.1.1 1),()) s1.2.1.1 s1.2.1.2.1) fun y2=>cond (ieq y2.1 10) (cond (ilt (iadd .i64 s1.2.1.2.1 (iadd .i64 s1.1.1 1)) (lenI s1.2.1.1)) (some (some (((s1.2.1.1,(s1.2.1.2.1,())),()),(0,())))) (rec1 (((iadd .i64 (iadd .i64 s1.1.1 1) 1),()),((s1.2.1.1,(s1.2.1.2.1,())),())))) (rec1 (((iadd .i64 (iadd .i64 s1.1.1 1) 1),()),((s1.2.1.1,(s1.2.1.2.1,())),())))) (rec1 (((iadd .i64 s1.1.1 1),()),((s1.2.1.1,(s1.2.1.2.1,())),())))))) (some (some (((s1.2.1.1,(s1.2.1.2.1,())),()),(0,()))))) ((1,()),((x.1.1,(x.1.2.1,())),()))))
theorem eq61:@run61 = @sh61:=by kernel_rfl
def sh62 (fu:Nat) (c57:(Str×Unit)->Str->Int->(Option ((Bool×Unit)×Int))) (x:((Str×(Int×Unit))×Unit)) (a:Unit):(Option (Option (((Str×(Int×Unit))×Unit)×(Int×Unit)))):=iter fu (fun (rec1:((Int×(Int×Unit))×((Str×(Int×Unit))×Unit))->Option (Option (((Str×(Int×Unit))×Unit)×(Int×Unit)))) (s1:((Int×(Int×Unit))×((Str×(Int×Unit))×Unit)))=>cond (ilt s1.1.2.1 48) (cond (inB s1.1.2.1 48) (cond (ile (lenI (α:=UInt8) (List.getD [[46,46,46],[60,60,61],[62,62,61],[45,62],[43,43],[45,45],[60,60],[62,62],[60,61],[62,61],[61,61],[33,61],[38,38],[124,124],[42,61],[47,61],[37,61],[43,61],[45,61],[38,61],[94,61],[124,61],[35,35],[91],[93],[40],[41],[123],[125],[46],[38],[42],[43],[45],[126],[33],[47],[37],[60],[62],[94],[124],[63],[58],[59],[61],[44],[35]] (Int.toNat s1.1.2.1) [])) s1.1.1) (rec1 ((s1.1.1,((iadd .i64 s1.1.2.1 1),())),((s1.2.1.1,(s1.2.1.2.1,())),()))) (Option.bind (c57 ((List.getD [[46,46,46],[60,60,61],[62,62,61],[45,62],[43,43],[45,45],[60,60],[62,62],[60,61],[62,61],[61,61],[33,61],[38,38],[124,124],[42,61],[47,61],[37,61],[43,61],[45,61],[38,61],[94,61],[124,61],[35,35],[91],[93],[40],[41],[123],[125],[46],[38],[42],[43],[45],[126],[33],[47],[37],[60],[62],[94],[124],[63],[58],[59],[61],[44],[35]] (Int.toNat s1.1.2.1) []),()) s1.2.1.1 s1.2.1.2.1) fun y0=>cond (!y0.1.1) (rec1 ((s1.1.1,((iadd .i64 s1.1.2.1 1),())),((s1.2.1.1,(y0.2,())),()))) (rec1 (((lenI (α:=UInt8) (List.getD [[46,46,46],[60,60,61],[62,62,61],[45,62],[43,43],[45,45],[60,60],[62,62],[60,61],[62,61],[61,61],[33,61],[38,38],[124,124],[42,61],[47,61],[37,61],[43,61],[45,61],[38,61],[94,61],[124,61],[35,35],[91],[93],[40],[41],[123],[125],[46],[38],[42],[43],[45],[126],[33],[47],[37],[60],[62],[94],[124],[63],[58],[59],[61],[44],[35]] (Int.toNat s1.1.2.1) [])),((iadd .i64 s1.1.2.1 1),())),((s1.2.1.1,(y0.2,())),()))))) (none)) (some (some (((s1.2.1.1,(s1.2.1.2.1,())),()),(s1.1.1,()))))) ((0,(0,())),((x.1.1,(x.1.2.1,())),()))
theorem eq62:@run62 = @sh62:=by kernel_rfl
theorem con29 (fu:Nat) (c44:zJ as44->Option (zJ rs44)) (h44:ConOk CC Tryd.prog 44 ⟨as44,rs44,c44⟩) (c58:zJ as58->Option (zJ rs58)) (h58:ConOk CC Tryd.prog 58 ⟨as58,rs58,c58⟩) (c56:zB kI->Str->Int->Option (zB ([.int .u8]:LK))) (h56:CROk CC Tryd.prog 56 (cRD kI ([.int .u8]:LK) c56)) (c57:zB kS->DD (zB kB)) (h57:CQ 57 (cD kS kB c57)):CQ 29 (cD k0 kB (mD (sh29 fu c44 c58 c56 c57))):=
 zBq (yj (syn:=syn) (fu:=fu) (d:=2) (inl:=zA []) (orc:=zA [(44,(⟨as44,rs44,c44⟩:Con UU)),(58,(⟨as58,rs58,c58⟩:Con UU))]) (orr:=zA [(56,cRD kI ([.int .u8]:LK) c56)]) (orp:=zA [(57,cD kS kB c57)]) (pf:=hasN [44,58]) (rf:=hasN [56]) zl CCok mixed (fun g=>(zH (α:=Con UU) (l:=[(44,(⟨as44,rs44,c44⟩:Con UU)),(58,(⟨as58,rs58,c58⟩:Con UU))]) g).symm) (fun g=>(zH (α:=CR UU) (l:=[(56,cRD kI ([.int .u8]:LK) c56)]) g).symm) (zC) (zE (OrcOk.of ⟨zI4,h44⟩ rfl) (zE (OrcOk.of ⟨code58,h58⟩ rfl) (zC))) (zE ⟨zFO,h56⟩ (zC)) (zE ⟨zID,h57⟩ (zC)) fdok29 (by show ([rdK]:LK).length+(k0:LK).length<=77; decide) (fun x a=>by show run29 fu c44 c58 c56 c57 x a=sh29 fu c44 c58 c56 c57 x a; rw [eq29]))
theorem con30 (fu:Nat) (c57:zB kS->DD (zB kB)) (h57:CQ 57 (cD kS kB c57)) (c59:zB k0->DD (zB kI)) (h59:CQ 59 (cD k0 kI c59)) (c60:zB k0->DD (zB kI)) (h60:CQ 60 (cD k0 kI c60)) (c61:zB ([.int .u8]:LK)->DD (zB kI)) (h61:CQ 61 (cD ([.int .u8]:LK) kI c61)) (c62:zB k0->DD (zB kI)) (h62:CQ 62 (cD k0 kI c62)):CQ 30 (cD k0 ([.int .i64,.int .i64]:LK) (mD (sh30 fu c57 c59 c60 c61 c62))):=
 zBq (yj (syn:=syn) (fu:=fu) (d:=2) (inl:=zA []) (orc:=zA []) (orr:=zA []) (orp:=zA [(57,cD kS kB c57),(59,cD k0 kI c59),(60,cD k0 kI c60),(61,cD ([.int .u8]:LK) kI c61),(62,cD k0 kI c62)]) (pf:=hasN []) (rf:=hasN []) zl CCok mixed (fun g=>(zH (α:=Con UU) (l:=[]) g).symm) (fun g=>(zH (α:=CR UU) (l:=[]) g).symm) (zC) (zC) (zC) (zE ⟨zID,h57⟩ (zE ⟨code59,h59⟩ (zE ⟨code60,h60⟩ (zE ⟨code61,h61⟩ (zE ⟨code62,h62⟩ (zC)))))) fdok30 (by show ([rdK]:LK).length+(k0:LK).length<=36; decide) (fun x a=>by show run30 fu c57 c59 c60 c61 c62 x a=sh30 fu c57 c59 c60 c61 c62 x a; rw [eq30]))
theorem con57 (fu:Nat) :CQ 57 (cD kS kB (mD (sh57 fu))):=
 zBq (yj (syn:=syn) (fu:=fu) (d:=4) (inl:=zA [(38,fd38),(70,fd70)]) (orc:=zA []) (orr:=zA []) (orp:=zA []) (pf:=hasN []) (rf:=hasN []) zl CCok mixed (fun g=>(zH (α:=Con UU) (l:=[]) g).symm) (fun g=>(zH (α:=CR UU) (l:=[]) g).symm) (zE zMP (zE zL4 (zC))) (zC) (zC) (zC) fdok57 (by show ([rdK]:LK).length+(kS:LK).length<=16; decide) (fun x a=>by show run57 fu x a=sh57 fu x a; rw [eq57]))
theorem con59 (fu:Nat) (c56:zB kI->Str->Int->Option (zB ([.int .u8]:LK))) (h56:CROk CC Tryd.prog 56 (cRD kI ([.int .u8]:LK) c56)):CQ 59 (cD k0 kI (mD (sh59 fu c56))):=
 zBq (yj (syn:=syn) (fu:=fu) (d:=4) (inl:=zA [(77,fd77),(78,fd78)]) (orc:=zA []) (orr:=zA [(56,cRD kI ([.int .u8]:LK) c56)]) (orp:=zA []) (pf:=hasN []) (rf:=hasN [56]) zl CCok mixed (fun g=>(zH (α:=Con UU) (l:=[]) g).symm) (fun g=>(zH (α:=CR UU) (l:=[(56,cRD kI ([.int .u8]:LK) c56)]) g).symm) (zE zLY (zE zLu (zC))) (zC) (zE ⟨zFO,h56⟩ (zC)) (zC) fdok59 (by show ([rdK]:LK).length+(k0:LK).length<=21; decide) (fun x a=>by show run59 fu c56 x a=sh59 fu c56 x a; rw [eq59]))
theorem con60 (fu:Nat) (c44:zJ as44->Option (zJ rs44)) (h44:ConOk CC Tryd.prog 44 ⟨as44,rs44,c44⟩) (c56:zB kI->Str->Int->Option (zB ([.int .u8]:LK))) (h56:CROk CC Tryd.prog 56 (cRD kI ([.int .u8]:LK) c56)):CQ 60 (cD k0 kI (mD (sh60 fu c44 c56))):=
 zBq (yj (syn:=syn) (fu:=fu) (d:=4) (inl:=zA [(77,fd77),(78,fd78)]) (orc:=zA [(44,(⟨as44,rs44,c44⟩:Con UU))]) (orr:=zA [(56,cRD kI ([.int .u8]:LK) c56)]) (orp:=zA []) (pf:=hasN [44]) (rf:=hasN [56]) zl CCok mixed (fun g=>(zH (α:=Con UU) (l:=[(44,(⟨as44,rs44,c44⟩:Con UU))]) g).symm) (fun g=>(zH (α:=CR UU) (l:=[(56,cRD kI ([.int .u8]:LK) c56)]) g).symm) (zE zMI (zE zLc (zC))) (zE (OrcOk.of ⟨zI4,h44⟩ rfl) (zC)) (zE ⟨zFO,h56⟩ (zC)) (zC) fdok60 (by show ([rdK]:LK).length+(k0:LK).length<=56; decide) (fun x a=>by show run60 fu c44 c56 x a=sh60 fu c44 c56 x a; rw [eq60]))
theorem con61 (fu:Nat) (c56:zB kI->Str->Int->Option (zB ([.int .u8]:LK))) (h56:CROk CC Tryd.prog 56 (cRD kI ([.int .u8]:LK) c56)):CQ 61 (cD ([.int .u8]:LK) kI (mD (sh61 fu c56))):=
 zBq (yj (syn:=syn) (fu:=fu) (d:=2) (inl:=zA []) (orc:=zA []) (orr:=zA [(56,cRD kI ([.int .u8]:LK) c56)]) (orp:=zA []) (pf:=hasN []) (rf:=hasN [56]) zl CCok mixed (fun g=>(zH (α:=Con UU) (l:=[]) g).symm) (fun g=>(zH (α:=CR UU) (l:=[(56,cRD kI ([.int .u8]:LK) c56)]) g).symm) (zC) (zC) (zE ⟨zFO,h56⟩ (zC)) (zC) fdok61 (by show ([rdK]:LK).length+(([.int .u8]:LK):LK).length<=74; decide) (fun x a=>by show run61 fu c56 x a=sh61 fu c56 x a; rw [eq61]))
theorem con62 (fu:Nat) (c57:zB kS->DD (zB kB)) (h57:CQ 57 (cD kS kB c57)):CQ 62 (cD k0 kI (mD (sh62 fu c57))):=
 zBq (yj (syn:=syn) (fu:=fu) (d:=2) (inl:=zA []) (orc:=zA []) (orr:=zA []) (orp:=zA [(57,cD kS kB c57)]) (pf:=hasN []) (rf:=hasN []) zl CCok mixed (fun g=>(zH (α:=Con UU) (l:=[]) g).symm) (fun g=>(zH (α:=CR UU) (l:=[]) g).symm) (zC) (zC) (zC) (zE ⟨zID,h57⟩ (zC)) fdok62 (by show ([rdK]:LK).length+(k0:LK).length<=24; decide) (fun x a=>by show run62 fu c57 x a=sh62 fu c57 x a; rw [eq62]))
end
section
open Go.Al Go.Den
abbrev as5:List (AK UU):=[.int .i32,.int .i32,.int .i64]
abbrev rs5:List (AK UU):=[.bool]
abbrev as8:List (AK UU):=[]
abbrev rs8:List (AK UU):=[.bool]
def kf5:Nat->List Nat
 | 0=>[0,1,2]
 | 1=>[0,1,2,7]
 | 2=>[0,1,2,7,8]
 | 3=>[0,1,2,7,8,22]
 | 4=>[6]
 | 5=>[0,1,2,7,8,9]
 | 6=>[0,1,2,7,8,9,10]
 | 7=>[0,1,7,9,10,11]
 | 8=>[0,1,7,11,12]
 | 9=>[0,7,11,12,13,14]
 | 10=>[0,7,11,12,13,14,56]
 | 11=>[0,7,11,12,13,14]
 | 12=>[7,12,13,14,62]
 | 13=>[7,12,13,14]
 | 14=>[7,12,13,14,64]
 | 15=>[6]
 | 16=>[6]
 | _=>[]
def hd5:List (Nat×Head UU):=[]
def jn5:List (Nat×Head UU):=[]
noncomputable def fd5:FD UU:=⟨⟨fun d=>hasN [] d,fun d=>hasN [] d,kf5,zA hd5,zA jn5,zW []⟩,zT Tryd.f5,78,[.tmp 6]⟩
def kf8:Nat->List Nat
 | 0=>[]
 | 1=>[1]
 | 2=>[1,2]
 | 3=>[1,2,3]
 | 4=>[0]
 | _=>[]
def hd8:List (Nat×Head UU):=[]
def jn8:List (Nat×Head UU):=[]
noncomputable def fd8:FD UU:=⟨⟨fun d=>hasN [] d,fun d=>hasN [] d,kf8,zA hd8,zA jn8,zW []⟩,zT Tryd.f8,61,[.tmp 0]⟩
def kf45:Nat->List Nat
 | 0=>[0]
 | 1=>[3]
 | 2=>[2]
 | 3=>[2]
 | _=>[]
def hd45:List (Nat×Head UU):=[]
def jn45:List (Nat×Head UU):=[]
noncomputable def fd45:FD UU:=⟨⟨fun d=>hasN [] d,fun d=>hasN [] d,kf45,zA hd45,zA jn45,zW []⟩,zT Tryd.f45,4,[.tmp 2]⟩
noncomputable def run45 (fu:Nat) (nf:Nat->Bool) (x0:Bool):Option (zJ rs45):=
 yY CC Tb fu 2 (zA []) (zA []) (zA []) (zA []) fd45 as45 rs45 nf (x0,())
theorem fdok45:FDOk Tryd.prog (hasN []) (hasN []) 45 fd45:=⟨⟨Tryd.f45,Tryd.func45,by kernel_rfl,Tryd.ntmps45,Tryd.results45⟩,by kernel_rfl,by kernel_rfl,by kernel_rfl⟩
noncomputable def run8 (fu:Nat) (c18:List UInt8×Unit->Option (Int×Unit)) (nf:Nat->Bool) :Option (zJ rs8):=
 yY CC Tb fu 2 (zA []) (zA [(18,(⟨as18,rs18,c18⟩:Con UU))]) (zA []) (zA []) fd8 as8 rs8 nf ()
theorem fdok8:FDOk Tryd.prog (hasN [18]) (hasN []) 8 fd8:=⟨⟨Tryd.f8,Tryd.func8,by kernel_rfl,Tryd.ntmps8,Tryd.results8⟩,by kernel_rfl,by kernel_rfl,by kernel_rfl⟩
noncomputable def run5 (fu:Nat) (c8:Unit->Option (Bool×Unit)) (c17:Int×Unit->Option (List UInt8×Unit)) (c18:List UInt8×Unit->Option (Int×Unit)) (c19:List UInt8×Int×Int×Unit->Option (Int×Int×Unit)) (nf:Nat->Bool) (x0:Int) (x1:Int) (x2:Int):Option (zJ rs5):=
 yY CC Tb fu 2 (zA []) (zA [(8,(⟨as8,rs8,c8⟩:Con UU)),(17,(⟨as17,rs17,c17⟩:Con UU)),(18,(⟨as18,rs18,c18⟩:Con UU)),(19,(⟨as19,rs19,c19⟩:Con UU))]) (zA []) (zA []) fd5 as5 rs5 nf (x0,x1,x2,())
theorem fdok5:FDOk Tryd.prog (hasN [8,17,18,19]) (hasN []) 5 fd5:=⟨⟨Tryd.f5,Tryd.func5,by kernel_rfl,Tryd.ntmps5,Tryd.results5⟩,by kernel_rfl,by kernel_rfl,by kernel_rfl⟩
end
end Go.Proofs.YtonnigoiklahdaaDoor
