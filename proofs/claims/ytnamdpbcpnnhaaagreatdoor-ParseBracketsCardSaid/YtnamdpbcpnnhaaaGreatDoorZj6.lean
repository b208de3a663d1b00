/-
  Part 6 of what the last text needs: library, runs, contracts, plain laws. No condition of its own.
-/
import Derived.Test.YtnamdpbcpnnhaaaGreatDoorZj5
import Derived.Test.YtnamdpbcpnnhaaaGreatDoorTie
import Derived.LaidLaws
import Derived.LaidMore
import Derived.LaidHandle
import Derived.MakeChecks
import Derived.Shelf.Vars
import Derived.Handed
import Derived.SevenTiedAt
import Derived.RangeFuncNested
import Derived.RangeFuncBound
import Derived.RangeFuncLeaves
import Derived.RangeFuncWrites
import Derived.Shelf.Abstract
import Derived.OwnWalkIn
import Derived.TacticsInMore
import Derived.LoopNIn
import Derived.LoopIn
import Derived.RecoverIn
set_option linter.unusedVariables false
set_option linter.unusedSimpArgs false
set_option linter.unusedSectionVars false
namespace Go.Proofs.YtnamdpbcpnnhaaaGreatDoor
section
open Go.Al Go.Den Go.ChangeShapes Go.WideShapes Go.ChangeAt Go.RowKit
def zGr:List (String×DataW Unit):=[("math/bits.deBruijn32tab",Rows.laid_math_bits_deBruijn32tab),("math/bits.deBruijn64tab",Rows.laid_math_bits_deBruijn64tab),("internal/strconv.uint64pow10",Rows.laid_internal_strconv_uint64pow10),("emend/pptok.signs",Rows.laid_emend_pptok_signs),("emend/parse.keywords",Rows.laid_emend_parse_keywords),("emend/parse.marks",Rows.laid_emend_parse_marks),("emend/parse.words",Rows.laid_emend_parse_words)]
theorem zCK {P:Program} {W:World} {n:String} {g:Nat} {cs:Array Value} (hg:P.globalNamed n=some g) (h:W.var? P n=some cs):∃ el m,W.heap[g]? = some (.cells cs el m):=by
 unfold World.var? at h
 rw [hg] at h
 simp only [Option.bind_some] at h
 split at h
 · rename_i c el m hc
   injection h with h
   subst h
   exact ⟨el,m,hc⟩
 · cases h
theorem zJS {H:Type} {enc:TypeId×Value->H} {P:Program} {w:World} {base:Nat} {sp:Nat->Bool} {held:Bool} {fuel n:Nat} {t e:TypeId} {k:IntKind} {cs:List Value} {l:List Int} {p:List MemPlace}
 (ht:P.underlying t=some (.array n e)) (he:P.underlying e=some (.int k)) (hc:P.cellsOf e=1) (hct:P.cellsOf t=n) (h:DataW.trod enc P w base sp held fuel t cs=some (.agg (l.map fun z=>.lit (.int k z)),p)):cs=l.map fun z=>.int k z:=by
 obtain ⟨xs,m,rfl,hx,hlen,hn,hel⟩:=DataW.trod_array ht h
 injection hx with hx _
 injection hx with hx
 have hll:l.length=n:=by
  have:=congrArg List.length hx
  simp only [List.length_map] at this
  omega
 refine List.ext_getElem (by rw [hlen,hct,List.length_map,hll]) fun i h1 h2=>?_
 rw [List.getElem_map]
 have hi:i < n:=by rw [hlen,hct] at h1; exact h1
 have h3:=hel i hi
 rw [hc,Nat.mul_one,List.drop_eq_getElem_cons h1,List.take_succ_cons,List.take_zero,List.getElem?_eq_getElem (by omega)] at h3
 obtain ⟨z,e1,e2,_⟩:=DataW.trod_int he h3
 injection e1 with e1 _
 have h4:(xs.map (·.1))[i]'(by rw [List.length_map]; omega)=(l.map fun z=>DataW.lit (.int k z))[i]'(by rw [List.length_map]; omega):=by
  simp only [hx]
 rw [List.getElem_map,List.getElem_map,e2] at h4
 injection h4 with h4
 injection h4 with _ h4
 rw [e1,h4]
theorem zAv {H:Type} {enc:TypeId×Value->H} {P:Program} {w:World} {base:Nat} {sp:Nat->Bool} {held:Bool} {fuel n:Nat} {t e:TypeId} {cs:List Value} {l:List (List UInt8)} {p:List MemPlace}
 (ht:P.underlying t=some (.array n e)) (he:P.underlying e=some .string) (hc:P.cellsOf e=1) (hct:P.cellsOf t=n) (h:DataW.trod enc P w base sp held fuel t cs=some (.agg (l.map fun z=>.lit (.string z)),p)):cs=l.map fun z=>strV z:=by
 obtain ⟨xs,m,rfl,hx,hlen,hn,hel⟩:=DataW.trod_array ht h
 injection hx with hx _
 injection hx with hx
 have hll:l.length=n:=by
  have:=congrArg List.length hx
  simp only [List.length_map] at this
  omega
 refine List.ext_getElem (by rw [hlen,hct,List.length_map,hll]) fun i h1 h2=>?_
 rw [List.getElem_map]
 have hi:i < n:=by rw [hlen,hct] at h1; exact h1
 have h3:=hel i hi
 rw [hc,Nat.mul_one,List.drop_eq_getElem_cons h1,List.take_succ_cons,List.take_zero,List.getElem?_eq_getElem (by omega)] at h3
 obtain ⟨z,e1,e2,_⟩:=DataW.trod_string he h3
 injection e1 with e1 _
 have h4:(xs.map (·.1))[i]'(by rw [List.length_map]; omega)=(l.map fun z=>DataW.lit (.string z))[i]'(by rw [List.length_map]; omega):=by
  simp only [hx]
 rw [List.getElem_map,List.getElem_map] at h4
 rw [e2] at h4
 injection h4 with h4
 injection h4 with h4
 rw [e1,<- h4]
 unfold strV
 cases z; simp
theorem zDG {W:World} {g:Nat} {cs:Array Value} {el:TypeId} {m:Nat×Nat} (h:W.heap[g]? = some (.cells cs el m)):cs.toList.length<=wmOf W g:=by
 unfold wmOf
 rw [h]
 simp
theorem zGw {W:World} (hsh:W.ShapedOpen Tryz.prog) (h:laidMetH Tryz.prog zGr W):GlobOk W.heap.size (wmOf W) W:=by
 rw [MakeChecks.laidMetH_plain _ _ _ (by kernel_rfl)] at h
 obtain ⟨ps,hv,_⟩:=h
 obtain ⟨g0,t0,cs0,f0,p0,q0,hg0,ht0,hv0,hd0,hv,_⟩:=hv
 obtain ⟨g1,t1,cs1,f1,p1,q1,hg1,ht1,hv1,hd1,hv,_⟩:=hv
 obtain ⟨g2,t2,cs2,f2,p2,q2,hg2,ht2,hv2,hd2,hv,_⟩:=hv
 obtain ⟨g3,t3,cs3,f3,p3,q3,hg3,ht3,hv3,hd3,hv,_⟩:=hv
 obtain ⟨g4,t4,cs4,f4,p4,q4,hg4,ht4,hv4,hd4,hv,_⟩:=hv
 obtain ⟨g5,t5,cs5,f5,p5,q5,hg5,ht5,hv5,hd5,hv,_⟩:=hv
 obtain ⟨g6,t6,cs6,f6,p6,q6,hg6,ht6,hv6,hd6,hv,_⟩:=hv
 obtain rfl:=Option.some.inj ((show Tryz.prog.globalNamed "internal/strconv.uint64pow10" = some 5 by kernel_rfl).symm.trans hg2)
 obtain rfl:=Option.some.inj ((show Tryz.prog.globalNamed "emend/pptok.signs" = some 3 by kernel_rfl).symm.trans hg3)
 obtain rfl:=Option.some.inj ((show Tryz.prog.globalNamed "emend/parse.keywords" = some 0 by kernel_rfl).symm.trans hg4)
 obtain rfl:=Option.some.inj ((show Tryz.prog.globalNamed "emend/parse.marks" = some 1 by kernel_rfl).symm.trans hg5)
 obtain rfl:=Option.some.inj ((show Tryz.prog.globalNamed "emend/parse.words" = some 2 by kernel_rfl).symm.trans hg6)
 obtain rfl:=Option.some.inj ((show (Tryz.prog.globals[5]?).map (·.type)=some 165 by kernel_rfl).symm.trans ht2)
 obtain rfl:=Option.some.inj ((show (Tryz.prog.globals[3]?).map (·.type)=some 146 by kernel_rfl).symm.trans ht3)
 obtain rfl:=Option.some.inj ((show (Tryz.prog.globals[0]?).map (·.type)=some 58 by kernel_rfl).symm.trans ht4)
 obtain rfl:=Option.some.inj ((show (Tryz.prog.globals[1]?).map (·.type)=some 118 by kernel_rfl).symm.trans ht5)
 obtain rfl:=Option.some.inj ((show (Tryz.prog.globals[2]?).map (·.type)=some 119 by kernel_rfl).symm.trans ht6)
 obtain ⟨el2,m2,k2⟩:=zCK hg2 hv2
 obtain ⟨el3,m3,k3⟩:=zCK hg3 hv3
 obtain ⟨el4,m4,k4⟩:=zCK hg4 hv4
 obtain ⟨el5,m5,k5⟩:=zCK hg5 hv5
 obtain ⟨el6,m6,k6⟩:=zCK hg6 hv6
 have e2:cs2.toList=pow10V:=zJS (l:=[1,10,100,1000,10000,100000,1000000,10000000,100000000,1000000000,10000000000,100000000000,1000000000000,10000000000000,100000000000000,1000000000000000,10000000000000000,100000000000000000,1000000000000000000,10000000000000000000]) (k:=.u64) Tryz.underlying165 Tryz.underlying134 (by kernel_rfl) (by kernel_rfl) hd2
 have e3:cs3.toList=signsL.map strV:=zAv (l:=signsL) Tryz.underlying146 Tryz.underlying9 (by kernel_rfl) (by kernel_rfl) hd3
 have e4:cs4.toList=kwL.map strV:=zAv (l:=kwL) Tryz.underlying58 Tryz.underlying9 (by kernel_rfl) (by kernel_rfl) hd4
 have e5:cs5.toList=marksL.map strV:=zAv (l:=marksL) Tryz.underlying118 Tryz.underlying9 (by kernel_rfl) (by kernel_rfl) hd5
 have e6:cs6.toList=wordsL.map strV:=zAv (l:=wordsL) Tryz.underlying119 Tryz.underlying9 (by kernel_rfl) (by kernel_rfl) hd6
 have lt:∀ {b:Nat} {o:Obj},W.heap[b]? = some o->b < W.heap.size:=fun h=>(Array.getElem?_eq_some_iff.1 h).1
 have hml:∃ arr el m,W.heap[4]? = some (.cells arr el m)/\∃ z,arr.toList=[Value.int .i64 z]:=by
  obtain ⟨cs,hh,hs,hr⟩:=hsh.1 4 #[.int .i64 0] 3 (of_decide_eq_true (by kernel_rfl)) (by kernel_rfl)
  refine ⟨cs,_,_,hh,?_⟩
  obtain ⟨z,hz⟩:=cell_of_shapedOpen_int (P:=Tryz.prog) (w:=W) (g:=4) (t:=3) (zero:=#[.int .i64 0]) (k:=.i64) hsh (of_decide_eq_true (by kernel_rfl)) (by kernel_rfl) rfl (by kernel_rfl) (by kernel_rfl) Tryz.underlying3
  refine ⟨z,?_⟩
  unfold World.cell? at hz
  simp only [hh] at hz
  have h1:cs.size=1:=hs
  obtain ⟨l⟩:=cs
  match l,h1 with
  | [v],_=>
   simp at hz
   rw [hz]
 refine ⟨fun p hp=>?_,fun p hp=>?_⟩
 · simp only [zIQ,List.mem_cons,List.not_mem_nil,or_false] at hp
   rcases hp with rfl | rfl
   · exact ⟨lt k2,cs2,el2,m2,k2,e2⟩
   · obtain ⟨arr,el,m,h1,h2⟩:=hml
     exact ⟨lt h1,arr,el,m,h1,h2⟩
 · simp only [zEn,List.mem_cons,List.not_mem_nil,or_false] at hp
   rcases hp with rfl | rfl | rfl | rfl
   · exact ⟨lt k4,⟨cs4,el4,m4,k4,e4⟩,by rw [<- e4]; exact zDG k4⟩
   · exact ⟨lt k5,⟨cs5,el5,m5,k5,e5⟩,by rw [<- e5]; exact zDG k5⟩
   · exact ⟨lt k6,⟨cs6,el6,m6,k6,e6⟩,by rw [<- e6]; exact zDG k6⟩
   · exact ⟨lt k3,⟨cs3,el3,m3,k3,e3⟩,by rw [<- e3]; exact zDG k3⟩
theorem zQ3 {g:Gh} {w:World} (s:ByteArray):RV1 g w (.at (.string ⟨s.data.toList.toArray⟩)) (.string s):=by
 have e:(⟨s.data.toList.toArray⟩:ByteArray)=s:=by cases s; simp
 rw [e]
 exact ⟨[.string s],by simp [RC,one],rfl⟩
theorem zO6 (os:Os) (args:Array Value):laidMetH Tryz.prog zGr ((World.doorLaid Tryz.prog 400 os).forCall (fun _ _=>0) ⟨#[],args,[]⟩).memory:=
 laidMetH_of_parts3 (fuel:=8) (laidMet_of_run' 8 (by kernel_rfl) (by kernel_rfl)) (by kernel_rfl) (by kernel_rfl)
theorem zDx {H:Type} {enc:TypeId×Value->H} {a:Assume} {C:Checked} {os:Os} {f:FuncId} {fn:Func} {s:ChangeSpec} {conds:List PathCond} {apart fresh handsOn again:Bool} {X:World->Array Value->Prop}
 (hX:∀ (w w':World) (args:Array Value),w.heap=w'.heap->X w args->X w' args)
 (own:ownKnob C.prog.godebug=none) (started:os.Started) (noInit:C.prog.inits.idxOf? f=none) (hfn:C.prog.funcs[f]? = some fn)
 (witness:∃ (w:World) (tape:Tape) (i:Input),w.os=os/\(w.forCall tape i).Shaped C.prog/\i.vars=[]/\Input.okWide C.prog (w.forCall tape i) .any w.heap.size f i /\
  ((s.pre enc C.prog fn conds apart (w.forCall tape i).memory i.args/\X (w.forCall tape i).memory i.args)/\sizedMet enc C.prog fn (OpenSpec.ofChange s) apart (w.forCall tape i).memory i.args)/\a.holds C.prog (lone (Frame.enter C.prog f i.args .normal) [] (w.forCall tape i)))
 (contract:∀ (W:World) (base:Nat) (args:Array Value) (ds gs:List (DataW H)) (before:List MemPlace),
  (∀ (j:Nat) t v,fn.params[j]? = some t->args[j]? = some v->Value.okWide C.prog W .any base t v)->DataW.Whole enc C.prog fn.params.toList s.vars apart W args.toList ds gs before ->
  W.ShapedOpen C.prog->X W args->Calls C.prog f args W fun e W'=>∃ v,e = .returned v/\s.post enc C.prog fn apart fresh handsOn again W args v W') :
 ReturnsInHanded a C os f .any (fun w args=>(s.pre enc C.prog fn conds apart w args/\X w args)/\sizedMet enc C.prog fn (OpenSpec.ofChange s) apart w args) (s.post enc C.prog fn apart fresh handsOn again):=by
 refine returnsInHanded_of_calls own started noInit witness ?_
 intro w tape i _ hsh _ hok hpre _
 obtain ⟨_,_,_,fn',hfn',_,_,_,_,hval⟩:=hok
 obtain rfl:fn' = fn:=Option.some.inj (hfn'.symm.trans hfn)
 obtain ⟨⟨⟨ds,gs,before,hw,_⟩,hx⟩,_⟩:=hpre
 refine (contract (w.forCall tape i) w.heap.size i.args ds gs before hval (DataW.Whole.of_heap (w':=w.forCall tape i) (by rfl) hw) hsh (hX _ _ _ (by rfl) hx)).mono ?_
 rintro e W' ⟨v,rfl,hp⟩
 exact ChangeSpec.post_blind hp
end
section
open Go.Al Go.Den Go.RowKit Go.Shelf
attribute [local go_sem] Oper.semAt_some
def zAu (n k:Nat):List (Fin n):=(List.finRange n).reverse.take k
theorem zGF (n k m:Nat) (h:m+k+1=n):zAu n (k+1)=zAu n k++[⟨m,by omega⟩]:=by
 unfold zAu
 rw [List.take_succ_eq_append_getElem (by simp; omega)]
 congr 2
 rw [List.getElem_reverse]
 apply Fin.ext
 simp
 omega
theorem zKE (n k:Nat) (h:k<=n):(zAu n k).length=k:=by simp [zAu,h]
def KpB (Bs b n:Nat) (A B:World):Prop:=(∀ v,A.cell? ⟨Bs,0,none⟩=some v->B.cell? ⟨Bs,0,none⟩=some v)/\∀ j v,j < n->A.cell? ⟨b,j,none⟩=some v->B.cell? ⟨b,j,none⟩=some v
theorem KpB.refl (Bs b n:Nat) (A:World):KpB Bs b n A A:=⟨fun _ h=>h,fun _ _ _ h=>h⟩
theorem KpB.trans {Bs b n:Nat} {A B C:World} (h:KpB Bs b n A B) (k:KpB Bs b n B C):KpB Bs b n A C:=⟨fun v e=>k.1 v (h.1 v e),fun j v hj e=>k.2 j v hj (h.2 j v hj e)⟩
theorem KpB.put {Bs b n:Nat} (W:World) (l:Nat) (o o':Obj) (hl:W.heap[l]? = some o) (ho:o.isCells=false):KpB Bs b n W (W.putObj l o'):=by
 have key:∀ b j v,W.cell? ⟨b,j,none⟩=some v->(W.putObj l o').cell? ⟨b,j,none⟩=some v:=fun b j v e=>by
  refine (World.cell?_of_block (World.putObj_heap_other ?_)).trans e
  intro e2
  have e2:b=l:=e2
  subst e2
  unfold World.cell? at e
  simp only [hl] at e
  cases o <;> first | (cases ho; done) | (cases e; done) | (simp at e; done)
 exact ⟨fun v e=>key _ _ _ e,fun j v _ e=>key _ _ _ e⟩
set_option maxRecDepth 100000 in
set_option maxHeartbeats 2000000 in
theorem zPK (F:Fence) (n:Nat) (h8:F.fn 129) (hro:F.round=none) (hn:1<=n) (l Bs b cap:Nat) (bs:List Nat) (hreach:bs.length < 1000000) (J Jx:List (Fin bs.length)->World->Prop)
 (hY:∀ pre x W,J pre W->pre.length < bs.length->YieldAt F (n - 1) Tryz.prog l #[.int .i64 (x.1:Int),.map (some (bs[x.1]?.getD 0))] W fun e W'=>
  (e = .returned (.bool true)/\J (pre++[x]) W'/\KpB Bs b bs.length W W')\/(e = .returned (.bool false)/\Jx (pre++[x]) W'))
 (W:World) (hBs:W.cell? ⟨Bs,0,none⟩=some (.slice (some ⟨b,0,none⟩) bs.length cap)) (hc:∀ j,j < bs.length->W.cell? ⟨b,j,none⟩=some (.map (some (bs[j]?.getD 0)))) (h0:J [] W) :
 CallsIn F n Tryz.prog 129 #[.func (.yield l) #[] #[],.pointer (some ⟨Bs,0,none⟩)] W fun e W'=>(∃ v,e = .returned v) /\
  ((∃ ys,ys=zAu bs.length bs.length/\J ys W')\/(∃ pre,(∃ k,k<=bs.length/\pre=zAu bs.length k)/\Jx pre W')):=by
 refine callsIn_of_wp Tryz.func129 rfl h8 ?_ hro
 simp only [Tryz.ntmps129,List.size_toArray,List.length_cons,List.length_nil,Nat.reduceAdd,Nat.reduceSub,Array.replicate_succ,Array.replicate_zero,List.push_toArray,List.append_toArray,List.nil_append,List.cons_append]
 have hsub:IntKind.i64.wrap ((bs.length:Int) - 1)=(bs.length:Int) - 1:=IntWalk.i64_in _ (by omega)
 gi_wp2
 gi_loopw [3] (fun i wr=>∃ k:Nat,k<=bs.length/\i = .int .i64 ((bs.length:Int) - 1 - k)/\J (zAu bs.length k) wr/\KpB Bs b bs.length W wr)
  (fun i _=>(intOf i+1).toNat)
 case atStart=>exact ⟨0,Nat.zero_le _,by simp,h0,KpB.refl _ _ _ _⟩
 case round=>
  obtain ⟨k,hk,rfl,hJs,hnx⟩:=hrel
  have hBs':=hnx.1 _ hBs
  by_cases hlt:k < bs.length
  · obtain ⟨m,hm⟩:∃ m:Nat,m+k+1=bs.length:=⟨bs.length - 1 - k,by omega⟩
    have hcx:=hnx.2 m _ (by omega) (hc m (by omega))
    have ei:(bs.length:Int) - 1 - (k:Int)=(m:Int):=by omega
    rw [ei]
    obtain ⟨fn,tmps,assign,body,hy,hR⟩:=hY _ ⟨m,by omega⟩ wr hJs (by rw [zKE _ _ hk]; exact hlt)
    dsimp only at hy
    have hlt2:(m:Int) < (bs.length:Int):=by omega
    have hge2:¬ ((m:Int) < 0):=by omega
    gi_wp2
    refine hR.mono ?_
    have hm':m=bs.length - 1 - k:=by omega
    rintro e W3 (⟨rfl,hJ3,hk3⟩ | ⟨rfl,hJx3⟩)
    · have hsub3:IntKind.i64.wrap ((m:Int) - 1)=(m:Int) - 1:=IntWalk.i64_in _ (by omega)
      gi_wp2
      go_roundw
      case rel=>exact ⟨k+1,by omega,by congr 1; omega,by rw [zGF _ _ _ hm]; exact hJ3,hnx.trans hk3⟩
      case measure=>simp [intOf]; omega
    · gi_wp2
      refine bodyPost_ret (results_none rfl _ _ _) rfl ?_
      exact ⟨⟨_,rfl⟩,.inr ⟨_,⟨k+1,by omega,(zGF _ _ _ hm).symm⟩,hJx3⟩⟩
  · obtain rfl:k=bs.length:=by omega
    gi_wp2
    go_end0
    exact ⟨⟨_,rfl⟩,.inl ⟨_,rfl,hJs⟩⟩
set_option maxHeartbeats 1000000 in
theorem zRA (F:Fence) (n:Nat) (h5:F.fn 109) (hro:F.round=none) (a:Option Addr) (len cap:Nat) (w:World) :
 CallsIn F n Tryz.prog 109 #[.slice a len cap] w fun e w'=>e = .returned (.func (.func 129) #[] #[.pointer (some ⟨w.heap.size,0,none⟩)])/\w' = w.alloc (.cells #[.slice a len cap] 64):=by
 refine callsIn_of_wp Tryz.func109 rfl h5 ?_ hro
 simp only [Tryz.ntmps109,List.size_toArray,List.length_cons,List.length_nil,Nat.reduceAdd,Nat.reduceSub,Array.replicate_succ,Array.replicate_zero,List.push_toArray,List.append_toArray,List.nil_append,List.cons_append]
 gi_wp2
 go_ret
 exact ⟨rfl,rfl⟩
theorem zLr (F:Fence) (n:Nat) (h8:F.fn 129) (hro:F.round=none) (hn:1<=n) (Bs b cap:Nat) (bs:List Nat) (hreach:bs.length < 1000000) (w:World) (hB:Bs < w.heap.size) (hb:b < w.heap.size)
 (hc:w.cell? ⟨Bs,0,none⟩=some (.slice (some ⟨b,0,none⟩) bs.length cap)) (hI:∀ j,j < bs.length->w.cell? ⟨b,j,none⟩=some (.map (some (bs[j]?.getD 0)))) :
 SeqStopsK F n Tryz.prog 129 #[.pointer (some ⟨Bs,0,none⟩)] (fun x:Fin bs.length=>#[Value.int .i64 (x.1:Int),Value.map (some (bs[x.1]?.getD 0))]) (KpB Bs b bs.length) (fun ys=>ys=zAu bs.length bs.length)
  (fun pre=>∃ k,k<=bs.length/\pre=zAu bs.length k) bs.length w:=fun l J Jx W hW _ _ hY h0=>
 zPK F n h8 hro hn l Bs b cap bs hreach J Jx hY W ((hW.cell (p:=⟨Bs,0,none⟩) hB).trans hc) (fun j hj=>(hW.cell (p:=⟨b,j,none⟩) hb).trans (hI j hj)) h0
end
section
open Go.Al Go.Den Go.RowKit Go.Shelf
attribute [local go_sem] Oper.semAt_some
attribute [local congr] qt jY js kP qC ql xW xX jC jT qr j0 qv jA xP xj qk jz jr qR jV qw qP qQ qi qn qM qu qo qS kp jx jq jX jU jP qp qO qN
def qZ (nm:Str):List MT->Bool
 | []=>false
 | m::r=>match qF m nm with
  | some n=>if n≠0 then n == 2 else qZ nm r
  | none=>qZ nm r
noncomputable def c76 (c85:Int×Unit->MM (Bool×Unit)) (a:Int×Unit):MM (Bool×Unit):=fun l s=>
 match c85 a l s with
 | some (some y)=>if y.2=s/\s.2.length < 1000000/\(y.1.1=true->0<=s.1/\0<=a.1/\s.1+a.1 < l.length/\l.length < 1000000) then
  some (some ((y.1.1 && qZ (l.getD (s.1+a.1).toNat tokD).text s.2.reverse,()),s)) else none
 | _=>none
theorem cM_use {P:Program} {f:Nat} {aa rs:LK} {m:zA aa->MM (zA rs)} (h:CPOk CC P syn f (cM aa rs m)) {l:List TokT} {i:Int} {xs:List MT} {a:zA aa} {y:zA rs×PSt} (hm:m a l (i,xs)=some (some y)) {s:S} {vx va:List V} {r1 r2:List Res}
 (h1:VKs CC s [parK] ((l,i,xs,(),()),()) vx r1) (h2:VKs CC s aa a va r2) (h3:(r1++r2).Nodup):FnC P f (vx++va) (subS s (r1++r2)) (ju CC syn [parK] rs vx (some (((l,y.2.1,y.2.2,(),()),()),y.1))):=by
 obtain ⟨oc,k1,k2⟩:=h ((l,i,xs,(),()),()) a (R:=(zA ([parK]:LK)×zA rs)) none (fun u v=>some (u,v)) (((l,y.2.1,y.2.2,(),()),()),y.1) (by
  have e:fM m ((l,i,xs,(),()),()) a (none:Option (zA ([parK]:LK)×zA rs)) (fun u v=>some (u,v))=some (((l,y.2.1,y.2.2,(),()),()),y.1):=by simp only [fM,hm]; rfl
  exact e)
 cases oc with
 | none=>cases k1
 | some y'=>
  injection k1 with k1
  have:=k2 s vx va r1 r2 h1 h2 h3
  rw [show y' = (((l,y.2.1,y.2.2,(),()),()),y.1) from k1] at this
  exact this
theorem Inv.refr {B:Nat} {wm:Nat->Nat} {tb:Nat->Option (Option (Nat×Nat×Nat×Nat))} {f1 f2:Fr} {st:S} {w:World} (h:Al.Inv B ⟨wm,tb,f1⟩ st w)
 (h1:∀ b,f2 b=true->b < w.heap.size/\Al.look st.box b=none/\∀ t ∈ st.tg,∀ d,tb t=some (some (b,d))->False) (h2:∀ b o fp,zM st.ob b=some (o,fp)->∀ j ∈ fp,f2 j=false) (h3:f2.t=f1.t):Al.Inv B ⟨wm,tb,f2⟩ st w:=by
 have hl:Later ⟨wm,tb,f1⟩ w ⟨wm,tb,f2⟩ w:=⟨fun _=>Nat.le_refl _,fun _ _ e=>e,fun _ _ _=>rfl⟩
 refine ⟨h.base,fun b cs k hb=>?_,h.tag,h.own,h.dist,h.nodup,h.fresh,h.names,h1,fun b o fp hb=>?_,h.ex.obd,fun t ht=>h.ex.ft t (by show f1.t t=true; rw [<- h3]; exact ht)⟩
 · obtain ⟨q1,q2,q3,q4,arr,el,us,q5,q6,q7,q8⟩:=h.box b cs k hb
   exact ⟨q1,q2,q3,q4,arr,el,us,q5,q6,zp hl _ _ q7,q8⟩
 · obtain ⟨q1,q2,q3⟩:=h.ex.ob b o fp hb
   refine ⟨q1.local hl (fun _ _=>rfl),q2,fun j hj=>?_⟩
   obtain ⟨r1,r2,r3,r4,r5,r6⟩:=q3 j hj
   exact ⟨r1,r2,r3,r4,r5,h2 b o fp hb j hj⟩
theorem zNO {P:Program} {f:FuncId} {args:List V} {s0:S} {Q:Outc->S->Prop} (H:FnC P f args s0 Q) {B:Nat} {g:Gh} {w W3:World} (hi:Al.Inv B g s0 w) (hgl:GlobOk B g.wm w) {vs:List Value} (hv:RVs g w args vs) (hb:Below w.heap.size w W3) :
 Calls P f vs.toArray W3 fun e W4=>∃ g4 s4,Step B g w g4 W4/\Al.Inv B g4 s4 W4/\W3.heap.size<=W4.heap.size/\(∀ j,w.heap.size<=j->j < W3.heap.size->W4.heap[j]? = W3.heap[j]?/\Al.look s4.box j=none/\g4.wm j=0/\(∀ t ∈ s4.tg,∀ d,g4.tb t=some (some (j,d))->False)/\(∀ b o fp,zM s4.ob b=some (o,fp)->j ∉ fp)) /\
  match e with
  | .returned v=>∃ r,RV g4 W4 r v/\Q (.ret r) s4
  | .panicked c=>Q (.pan c) s4
  | .outgrown=>False:=by
 obtain ⟨wm,tb,fr⟩:=g
 have hl:Later ⟨wm,tb,fr⟩ w ⟨wm,tb,fr⟩ W3:=⟨fun _=>Nat.le_refl _,fun _ _ e=>e,fun b o ho=>by
  refine World.cell?_of_block (hb.block b ?_)
  rcases Nat.lt_or_ge b w.heap.size with hh | hh
  · exact hh
  · rw [hi.fresh b hh] at ho; omega⟩
 have lt:∀ {b:Nat} {o:Obj},w.heap[b]? = some o->b < w.heap.size:=fun hh=>(Array.getElem?_eq_some_iff.1 hh).1
 have hi3:Al.Inv B ⟨wm,tb,fr⟩ s0 W3:=hi.grow hl hb.size (fun b h=>hb.block b h) (fun _ _=>rfl) (fun b h=>hi.fresh b (Nat.le_trans hb.size h)) rfl rfl
 obtain ⟨fr3,hfr3⟩:∃ fr3:Fr,fr3=⟨fun b=>fr b || (decide (w.heap.size<=b) && decide (b < W3.heap.size)),fr.t⟩:=⟨_,rfl⟩
 have hf3:∀ b,fr3 b=true↔(fr b=true\/(w.heap.size<=b/\b < W3.heap.size)):=fun b=>by
  rw [hfr3]; show (fr b || _)=true↔_
  simp
 have hi4:Al.Inv B ⟨wm,tb,fr3⟩ s0 W3:=by
  refine Inv.refr hi3 (fun b h=>?_) (fun b o fp h j hj=>?_) (by rw [hfr3])
  · rcases (hf3 b).1 h with h | ⟨h,h'⟩
    · exact hi3.ex.frz b h
    · refine ⟨h',?_,fun t ht d hd=>?_⟩
      · cases e:Al.look s0.box b with
        | none=>rfl
        | some c=>
         obtain ⟨cs,k⟩:=c
         obtain ⟨_,_,_,_,arr,el,us,h5,_⟩:=hi.box b cs k e
         have:=lt h5; omega
      · obtain ⟨d1,d2,d3⟩:=d
        obtain ⟨_,_,_,_,_,arr,el,h5,_⟩:=hi.own t ht b d1 d2 d3 hd
        have:=lt h5; omega
  · cases e:fr3 j with
    | false=>rfl
    | true=>
     obtain ⟨q1,q2,q3⟩:=hi.ex.ob b o fp h
     obtain ⟨r1,r2,r3,r4,r5,r6⟩:=q3 j hj
     rcases (hf3 j).1 e with h | ⟨h,_⟩
     · rw [show fr j=false from r6] at h; cases h
     · omega
 refine (H B ⟨wm,tb,fr3⟩ W3 vs hi4 (hgl.below (Below.mono hb hi.base) (fun _=>Nat.le_refl _)) (hv.later (g':=⟨wm,tb,fr3⟩) ⟨hl.wm,hl.tb,hl.cell⟩)).mono ?_
 rintro e W4 ⟨⟨wm4,tb4,fr4⟩,s4,h1,h2,h3⟩
 have e4:fr4=fr3:=h1.fr
 subst e4
 have hl4:Later ⟨wm4,tb4,fr4⟩ W4 ⟨wm4,tb4,fr⟩ W4:=⟨fun _=>Nat.le_refl _,fun _ _ e=>e,fun _ _ _=>rfl⟩
 have hsub:∀ b,fr b=true->fr4 b=true:=fun b h=>(hf3 b).2 (.inl h)
 refine ⟨⟨wm4,tb4,fr⟩,s4,⟨⟨fun b=>h1.later.wm b,fun t d e=>h1.later.tb t d e,fun b o ho=>(h1.later.cell b o ho).trans (hl.cell b o ho)⟩,(Below.mono hb hi.base).trans h1.below,fun b h=>?_,fun b h=>h1.wmB b h,rfl⟩,
  Inv.refr h2 (fun b h=>h2.ex.frz b (hsub b h)) (fun b o fp h j hj=>?_) (by rw [hfr3]),h1.below.size,fun j h5 h6=>?_,?_⟩
 · obtain ⟨k1,k2⟩:=h1.fz b (hsub b h)
   exact ⟨k1.trans (hb.block b (hi.ex.frz b h).1),k2⟩
 · cases e:fr j with
   | false=>rfl
   | true=>
    have:=((h2.ex.ob b o fp h).2.2 j hj).2.2.2.2.2
    rw [show fr4 j=true from hsub j e] at this; cases this
 · have h7:=(hf3 j).2 (.inr ⟨h5,h6⟩)
   obtain ⟨k1,k2⟩:=h1.fz j h7
   obtain ⟨k3,k4,k5⟩:=h2.ex.frz j h7
   refine ⟨k1,k4,k2.trans (hi.fresh j h5),k5,fun b o fp h hj=>?_⟩
   have:=((h2.ex.ob b o fp h).2.2 j hj).2.2.2.2.2
   rw [show fr4 j=true from h7] at this; cases this
 · cases e with
   | returned v=>obtain ⟨r,q1,q2⟩:=h3; exact ⟨r,q1.later hl4,q2⟩
   | panicked c=>exact h3
   | outgrown=>exact h3
theorem Inv.but' {B:Nat} {g:Gh} {st:S} {w w':World} (h:Al.Inv B g st w) (K:Nat->Prop) (hK:∀ k,K k->Al.look st.box k=none/\(∀ t ∈ st.tg,∀ d,g.tb t=some (some (k,d))->False)/\g.wm k=0)
 (hs:w.heap.size<=w'.heap.size) (hb:∀ j,j < w.heap.size->¬ K j->w'.heap[j]? = w.heap[j]?) (ho:Later g w g w'->∀ b o fp,zM st.ob b=some (o,fp)->OMem g w' b o fp):Al.Inv B g st w'/\Later g w g w':=by
 have hl:Later g w g w':=⟨fun _=>Nat.le_refl _,fun _ _ e=>e,fun b o ho=>by
  refine World.cell?_of_block (hb b ?_ ?_)
  · rcases Nat.lt_or_ge b w.heap.size with hh | hh
    · exact hh
    · rw [h.fresh b hh] at ho; omega
  · intro e; rw [(hK b e).2.2] at ho; omega⟩
 have lt:∀ {b:Nat} {o:Obj},w.heap[b]? = some o->b < w.heap.size:=fun hh=>(Array.getElem?_eq_some_iff.1 hh).1
 refine ⟨⟨Nat.le_trans h.base hs,fun b cs k' hb'=>?_,h.tag,fun t ht b cap n sz hbb=>?_,h.dist,h.nodup,fun b hb'=>h.fresh b (Nat.le_trans hs hb'),h.names,fun b hf=>?_,fun b o fp hb'=>?_,h.ex.obd,h.ex.ft⟩,hl⟩
 · obtain ⟨q1,q2,q3,q4,arr,el,us,q5,q6,q7,q8⟩:=h.box b cs k' hb'
   have hne:¬ K b:=fun e=>by have:=(hK b e).1; rw [this] at hb'; cases hb'
   exact ⟨q1,q2,q3,q4,arr,el,us,(hb b (lt q5) hne).trans q5,q6,zp hl _ _ q7,q8⟩
 · obtain ⟨q1,q2,q3,q4,q5,arr,el,q6,q7⟩:=h.own t ht b cap n sz hbb
   have hne:¬ K b:=fun e=>(hK b e).2.1 t ht _ hbb
   exact ⟨q1,q2,q3,q4,q5,arr,el,(hb b (lt q6) hne).trans q6,q7⟩
 · obtain ⟨q1,q2⟩:=h.ex.frz b hf
   exact ⟨Nat.lt_of_lt_of_le q1 hs,q2⟩
 · obtain ⟨q1,q2,q3⟩:=h.ex.ob b o fp hb'
   refine ⟨ho hl b o fp hb',q2,fun j hj=>?_⟩
   obtain ⟨r1,r2,r3⟩:=q3 j hj
   exact ⟨r1,Nat.lt_of_lt_of_le r2 hs,r3⟩
theorem zDF {g:Gh} {w:World}:∀ {c:MT} {es:List MapEntry},MapR g w (trMC c) es->∀ g' w',MapR g' w' (trMC c) es
 | [],_,h,_,_=>h
 | (k,z)::r,_,⟨e,es',h1,h2,h3,h4⟩,g',w'=>by
  refine ⟨e,es',h1,h2,?_,zDF h4 g' w'⟩
  obtain ⟨us,q1,q2⟩:=h3
  simp only [RC] at q1
  exact ⟨us,by simp only [RC]; exact q1,q2⟩
theorem zCF {P:Program} {fn:Func} {p:Nat} {t:TypeId} {tmps:Array Value} {b:Nat} {r:Bool} {w:World} (h:fn.results = #[.cell p t]) (hp:tmps.getD p undef = .pointer (some ⟨b,0,none⟩)) (hf:fits P t (.at (.bool r))) (hc:w.cell? ⟨b,0,none⟩=some (.bool r)) :
 (results fn tmps).run P w = .ok (.bool r) w:=by
 have hl:=zCC (g:=⟨fun _=>0,fun _=>none,Fr.no⟩) (w:=w) (b:=b) (o:=0) (ds:=[.bool r]) hf (by simp [RC,one]) (fun k u hk=>by
  cases k with
  | zero=>simp at hk; subst hk; exact hc
  | succ k=>simp at hk)
 have hm:(fn.results.toList.mapM (zAN ({ tmps:=tmps,defers:=[] }:Act).tmps)).run P w = .ok [.bool r] w:=by
  rw [h]
  simp only [List.mapM_cons,List.mapM_nil,Sem.run_bind,zAN,hp,asAddr,Sem.run_pure,Result.andThen_ok,hl]
  rfl
 exact kE (a:={ tmps:=tmps,defers:=[] }) hm
theorem zHN {g:Gh} {w:World} {g':Gh} {w':World}:∀ {bs:List Nat} {xs:List MT},MMems g w bs (xs.map trMC)->(∀ j ∈ bs,w'.heap[j]? = w.heap[j]?)->MMems g' w' bs (xs.map trMC)
 | [],xs,h,_=>h
 | b::bs,[],⟨c,cs,h1,_,_⟩,_=>by cases h1
 | b::bs,x::xs,⟨c,cs,h1,⟨arr,clock,h2,h3⟩,h4⟩,hh=>by
  injection h1 with h1 h5
  subst h1; subst h5
  exact ⟨_,_,rfl,⟨arr,clock,(hh b (by simp)).trans h2,zDF h3 _ _⟩,zHN h4 fun j hj=>hh j (by simp [hj])⟩
theorem zFn {g:Gh} {w:World} {g':Gh} {w':World}:∀ {bs:List Nat} {xs:List MT},bs.length=xs.length->(∀ (i j:Nat) (c:MT),bs[i]? = some j->xs[i]? = some c->∃ (arr:Array MapEntry) (clock:Nat),w'.heap[j]? = some (Obj.map arr clock)/\∀ g w,MapR g w (trMC c) arr.toList)->MMems g' w' bs (xs.map trMC)
 | [],[],_,_=>rfl
 | [],_::_,h,_=>by simp at h
 | _::_,[],h,_=>by simp at h
 | b::bs,x::xs,h,hh=>by
  obtain ⟨arr,clock,h1,h2⟩:=hh 0 b x rfl rfl
  exact ⟨_,_,rfl,⟨arr,clock,h1,h2 _ _⟩,zFn (g:=g) (w:=w) (by simpa using h) fun i j c h3 h4=>hh (i+1) j c (by simpa using h3) (by simpa using h4)⟩
theorem zHf {g:Gh} {w:World}:∀ {bs:List Nat} {xs:List MT},MMems g w bs (xs.map trMC)->∀ (i j:Nat) (c:MT),bs[i]? = some j->xs[i]? = some c->∃ (arr:Array MapEntry) (clock:Nat),w.heap[j]? = some (Obj.map arr clock)/\∀ g w,MapR g w (trMC c) arr.toList
 | [],_,_,_,_,_,h,_=>by simp at h
 | b::bs,[],⟨c,cs,h1,_,_⟩,_,_,_,_,_=>by cases h1
 | b::bs,x::xs,⟨c,cs,h1,⟨arr,clock,h2,h3⟩,h4⟩,i,j,d,e1,e2=>by
  injection h1 with h1 h5
  subst h1; subst h5
  cases i with
  | zero=>simp at e1 e2; subst e1; subst e2; exact ⟨arr,clock,h2,zDF h3⟩
  | succ i=>exact zHf h4 i j d (by simpa using e1) (by simpa using e2)
theorem zKL {W:World} {k:Nat} {v u:Value} {t:TypeId} {m:Nat×Nat} (h:W.heap[k]? = some (.cells #[v] t m)):(W.setCell ⟨k,0,none⟩ u).heap[k]? = some (.cells #[u] t m):=by
 obtain ⟨hlt,hk⟩:=Array.getElem?_eq_some_iff.1 h
 show (W.heap.modify k _)[k]? = _
 rw [Array.getElem?_eq_getElem (by rw [Array.size_modify]; exact hlt),Array.getElem_modify_self,hk]
 rfl
def zfM (nm:Str) (m:MT):Int:=(qF m nm).getD 0
theorem zAp (nm:Str) (m:MT) (r:List MT):qZ nm (m::r)=if zfM nm m≠0 then zfM nm m == 2 else qZ nm r:=by
 show (match qF m nm with | some n=>if n≠0 then n == 2 else qZ nm r | none=>qZ nm r)=_
 unfold zfM
 cases qF m nm <;> simp
theorem zGb {nm:Str}:∀ {r:List MT},(∀ m ∈ r,zfM nm m=0)->qZ nm r=false
 | [],_=>rfl
 | m::r,h=>by rw [zAp,if_neg (by simp [h m]),zGb fun m hm=>h m (by simp [hm])]
theorem zHR {nm:Str} {m:MT} {r:List MT}:∀ {p:List MT},(∀ m ∈ p,zfM nm m=0)->zfM nm m≠0->qZ nm (p++m::r)=(zfM nm m == 2)
 | [],_,h=>by rw [List.nil_append,zAp,if_pos h]
 | q::p,hp,h=>by rw [List.cons_append,zAp,if_neg (by simp [hp q]),zHR (fun m hm=>hp m (by simp [hm])) h]
theorem zJ1 (xs:List MT) (n:Nat) (h:n=xs.length):xs.reverse=(List.finRange n).reverse.map fun x=>xs[x.1]?.getD []:=by
 subst h
 rw [List.map_reverse]
 congr 1
 apply List.ext_getElem
 · simp
 · intro i h1 h2
   simp
theorem look63 {st5:S} {bj:Nat} {c:MT} {fp:List Nat} {s:Str} (l2:zM st5.ob bj=some (.mp (trMC c),fp)) {K:V->Prop} (hK:K (.at (.int .i64 ((qF c s).getD 0)))):zA7 Tryz.prog st5 63 (.at (.map (some bj))) (.at (.string ⟨s.toArray⟩)) false K:=by
 have h1:mapT Tryz.prog 63=some 3:=by kernel_rfl
 have h2:zAE Tryz.prog 3=some (.int .i64 0):=by kernel_rfl
 unfold zA7
 simp only [h1,h2,l2,zLb]
 refine ⟨rfl,?_⟩
 cases h:qF c s with
 | none=>rw [h] at hK; exact hK
 | some z=>rw [h] at hK; exact hK
def zBm:Nat->List Nat:=fun _=>[2,3,4,6,7,35]
theorem zJi {l n:Nat} {c:Code} {P:Program} {Q:Exit->Act->World->Prop} {a:Act} {w:World} (h:c.wpIn (fen (some l)) 0 P Q a w):c.wpIn (Fence.wide.inRound l) n P Q a w:=
 fun b k cs h1 h2 _=>h b k cs h1 h2 (room_wide _)
structure IsI (W5 W:World) (bs:List Nat) (xs:List MT) (k2:Nat) (r:Bool):Prop where
 below:Below 0 W5 W
 blk:∀ b,b < W5.heap.size->b ∉ bs->b≠k2->W.heap[b]? = W5.heap[b]?
 mp:∀ (i j:Nat) (c:MT),bs[i]? = some j->xs[i]? = some c->∃ (arr:Array MapEntry) (clock:Nat),W.heap[j]? = some (Obj.map arr clock)/\∀ g w,MapR g w (trMC c) arr.toList
 res:∃ t,W.heap[k2]? = some (.cells #[.bool r] t (0,0))
theorem IsI.set {W5 W:World} {bs:List Nat} {xs:List MT} {k2:Nat} {r:Bool} (h:IsI W5 W bs xs k2 r) (hk:k2 ∉ bs) (r':Bool):IsI W5 (W.setCell ⟨k2,0,none⟩ (.bool r')) bs xs k2 r':=by
 have hoth:∀ j,j≠k2->(W.setCell ⟨k2,0,none⟩ (.bool r')).heap[j]? = W.heap[j]?:=fun j hj=>Below.heap_setCell _ _ _ j hj
 refine ⟨h.below.setCell (p:=⟨k2,0,none⟩) (Nat.zero_le _) _,fun b h1 h2 h3=>(hoth b h3).trans (h.blk b h1 h2 h3),fun i j c e1 e2=>?_,h.res.imp fun t e=>zKL e⟩
 obtain ⟨arr,ck,q1,q2⟩:=h.mp i j c e1 e2
 exact ⟨arr,ck,(hoth j (fun e=>hk (by rw [<- e]; exact List.mem_of_getElem? e1))).trans q1,q2⟩
theorem IsI.grown {W5 A C:World} {bs:List Nat} {xs:List MT} {k2:Nat} {r:Bool} (h:IsI W5 A bs xs k2 r) (hl:bs.length=xs.length) (h1:∀ j ∈ bs,j < W5.heap.size) (h2:k2 < W5.heap.size) {row:Option Nat} (hg:A.grownBy C row) (hr:∀ k,row=some k->W5.heap.size<=k/\∃ o:Obj,A.heap[k]? = some o/\o.isCells=false):IsI W5 C bs xs k2 r:=by
 have hsz:=h.below.size
 have key:∀ b,b < W5.heap.size->C.heap[b]? = A.heap[b]?:=fun b hb=>hg.block b (by omega) (fun e=>by have:=(hr b e.symm).1; omega)
 refine ⟨h.below.trans (Below.grown (Below.refl 0 A) hg (Nat.zero_le _) (fun k e=>Nat.zero_le _)),fun b hb q1 q2=>(key b hb).trans (h.blk b hb q1 q2),fun i j c q1 q2=>?_,h.res.imp fun t e=>(key k2 h2).trans e⟩
 obtain ⟨arr,clock,q3,q4⟩:=h.mp i j c q1 q2
 exact ⟨arr,clock,(key j (h1 j (List.mem_of_getElem? q1))).trans q3,q4⟩
def zD0:Code->Option Code
 | .seq a b=>(zD0 a).or (zD0 b)
 | .block _ c=>zD0 c
 | .rangeFunc _ _ _ b=>some b
 | _=>none
set_option maxRecDepth 100000 in
theorem zRn (B l' n2 len':Nat) (b':Nat) (i far:Int) (cap':Nat) (m':Option Nat) (es:List V) (bs:List Nat) (bj:Nat) (xs:List MT) (c:MT) (nm:Str) (tk:TokT) (st5:S)
 (hi1:0<=i+far) (hll:i+far < (es.length:Int)) (hadd:IntKind.i64.wrap (i+far)=i+far)
 (hidx:es.getD (i+far).toNat .any = .agg [.at (.int .i64 tk.kind),.at (.string ⟨tk.text.toArray⟩),.at (.int .i64 tk.file),.at (.int .i64 tk.ffrom),.at (.int .i64 tk.fto),.at (.bool tk.blank)]) (hnmD:nm=tk.text)
 (l1:Al.look st5.box n2=some ([.at (.bool false)],1)) (l2:zM st5.ob bj=some (.mp (trMC c),[bj])) (l3:st5.ob=mps bs (xs.map trMC)) :
 awp Tryz.prog ⟨B,⟨38,[]⟩,some l',[]⟩ ((zD0 (zV Tryz.f76)).getD .skip) (fun ex e' s'=>(ex = .normal/\(qF c nm).getD 0=0/\Al.look s'.box n2=some ([.at (.bool false)],1)/\s'.ob=mps bs (xs.map trMC))\/(ex = .ret/\(qF c nm).getD 0≠0/\Al.look s'.box n2=some ([.at (.bool ((qF c nm).getD 0 == 2))],1)/\s'.ob=mps bs (xs.map trMC)))
  [(2,.rptr (.rptr (.agg [.lst (zk es) es,.at (.int .i64 i),.at (.slice (some ⟨b',0,none⟩) len' cap'),.at (.map m')]))),(3,.rptr (.at (.int .i64 far))),(4,.at (.pointer (some ⟨n2,0,none⟩))),(6,.at (.map (some bj)))] st5:=by
 simp only [zV,Tryz.f76,Option.getD_some,zD0,Option.or_some,Option.some_or,Option.none_or,Option.or_none]
 refine zy ?_
 (repeat (first | (refine yd ?_) | (refine zv ?_; simp -failIfUnchanged only [zI,zN]) | (refine ye ?_; simp -failIfUnchanged only [yE,zx,yP,yC]) | (refine yK ?_; simp -failIfUnchanged only [zw,zq,zI,zN,reduceIte]) | (refine zy ?_) | ((first | (refine yc polN zBm _ rfl rfl ?_) | (refine yL polN mixed zBm _ rfl rfl (by kernel_rfl) (by kernel_rfl) ?_)); simp only [↓xO,↓zFS,↓zLy,↓zHD,↓zID,↓zH0,↓qh,↓zIb,zI,zFK,zJc,zt,yF,yS,xG,yG,yD,qm,zFe,zG6,zMR,zF1,zJD,zGz,zKf,implies_true,List.map_cons,List.map_nil,and_self,fits,yh,yV,zK,V.isOne,V.isAgg,V.size,jl,List.all_cons,List.all_nil,List.length_cons,List.length_nil,List.drop_zero,List.drop_succ_cons,List.take_succ_cons,List.take_zero,List.getD_cons_zero,List.getD_cons_succ,Bool.true_and,Bool.and_self,if_true,if_false,true_and,Nat.reduceAdd,Nat.reduceEqDiff,Nat.reduceLeDiff,reduceCtorEq,Bool.false_eq_true,Nat.zero_add,Nat.add_zero,Nat.lt_add_one,zGP,zGQ,zEb,zME,zLn,zIX,hasT24,aggT24,zQ4,elT24,hasT26,zRa,zP4,hasT62,aggT62,zQe,zRK,zRc,zBm,qI,hadd,hidx,zL6])))
 refine ⟨⟨hi1,hll⟩,look63 l2 ?_⟩
 rw [<- hnmD]
 generalize (qF c nm).getD 0=z
 (repeat (first | (refine yd ?_) | (refine zv ?_; simp -failIfUnchanged only [zI,zN]) | (refine ye ?_; simp -failIfUnchanged only [yE,zx,yP,yC]) | (refine yK ?_; simp -failIfUnchanged only [zw,zq,zI,zN,reduceIte]) | (refine zy ?_) | ((first | (refine yc polN zBm _ rfl rfl ?_) | (refine yL polN mixed zBm _ rfl rfl (by kernel_rfl) (by kernel_rfl) ?_)); simp only [↓xO,↓zFS,↓zHD,zI,zt,yF,yS,xG,xV,kn,yG,yD,qm,zO5,if_true,if_false,Nat.reduceEqDiff,zBm,qI])))
 refine jw rfl (fun ht=>?_) (fun ht=>?_)
 · have hz0:z≠0:=by simpa using ht
   (repeat (first | (refine yd ?_) | (refine zv ?_; simp -failIfUnchanged only [zI,zN]) | (refine ye ?_; simp -failIfUnchanged only [yE,zx,yP,yC]) | (refine yK ?_; simp -failIfUnchanged only [zw,zq,zI,zN,reduceIte]) | (refine zy ?_) | ((first | (refine yc polN zBm _ rfl rfl ?_) | (refine yL polN mixed zBm _ rfl rfl (by kernel_rfl) (by kernel_rfl) ?_)); simp only [↓xO,↓zFS,↓zHD,↓zBA,zI,zt,jh,yF,yS,xG,xV,kn,yG,yD,qm,zFd,kt,qe,spl,List.nil_append,List.append_nil,and_self,zK,V.isOne,V.flat,List.all_cons,List.all_nil,List.length_cons,List.length_nil,List.drop_zero,List.drop_succ_cons,List.take_zero,Bool.true_and,Bool.and_self,if_true,if_false,true_and,Nat.reduceEqDiff,Nat.zero_add,Nat.le_refl,zIG,zGE,zBm,qI,l1])))
   refine Or.inr ⟨trivial,hz0,?_,l3⟩
   simp [zW]
 · have hz0:z=0:=by simpa using ht
   refine zv ?_
   exact .inl ⟨rfl,hz0,l1,l3⟩
set_option maxRecDepth 100000 in
set_option maxHeartbeats 2000000 in
theorem ok76 (c85:Int×Unit->MM (Bool×Unit)) (h85:CPOk CC Tryz.prog syn 85 (cM [.int .i64] [.bool] c85)):CPOk CC Tryz.prog syn 76 (cM [.int .i64] [.bool] (c76 c85)):=by
 refine zD3 fun l i xs a o ho st vx va r1 r2 h1 h2 hn=>?_
 obtain ⟨far,ua⟩:=a
 change Int at far
 obtain ⟨b0,b,cap,fp,m,rfl,k1,k2,rfl⟩:=zBa h1
 have h2':=h2
 simp only [VKs,VK] at h2
 obtain ⟨v1,w1,q1,q2,rfl,rfl,⟨rfl,rfl⟩,rfl,rfl⟩:=h2
 unfold c76 at ho
 split at ho
 rotate_left
 · cases ho
 rename_i y hy
 split at ho
 rotate_left
 · cases ho
 rename_i hcond
 obtain ⟨hys,hlen,hin⟩:=hcond
 injection ho with ho
 subst ho
 have H:=cM_use h85 hy h1 h2' hn
 rw [hys] at H
 simp only [List.append_nil] at H hn ⊢
 have e1:=(yp st [.inr b0,.ob b] b0).1 (by simp)
 have e2:=(xM st [.inr b0,.ob b] b).1 (by simp)
 rw [k1] at e1; rw [k2] at e2
 generalize subS st [.inr b0,.ob b]=s0 at e1 e2 H ⊢
 clear k1 k2 h1 h2'
 intro B g w vs hi hgl hv
 obtain ⟨x1,x2,rfl⟩:∃ x1 x2,vs=[x1,x2]:=by
  cases hv with
  | cons _ hv=>cases hv with
   | cons _ hv=>cases hv; exact ⟨_,_,rfl⟩
 have hx1:x1 = .pointer (some ⟨b0,0,none⟩):=by cases hv with | cons h _=>exact zm h
 have hx2:x2 = .int .i64 far:=by cases hv with | cons _ h=>cases h with | cons h _=>exact zm h
 subst hx1; subst hx2
 refine (callsIn_wide (n:=6)).1 ?_
 have hF:∀ f,Fence.wide.fn f:=fun _=>trivial
 refine callsIn_of_wp_marks Tryz.func76 rfl (hF _) ?_ rfl
 simp only [Tryz.ntmps76,List.size_toArray,List.length_cons,List.length_nil,Nat.reduceAdd,Nat.reduceSub,Array.replicate_succ,Array.replicate_zero,List.push_toArray,List.append_toArray,List.nil_append,List.cons_append]
 obtain ⟨W3,hW3⟩:∃ W3,((w.alloc (.cells #[.pointer (some ⟨b0,0,none⟩)] 62)).alloc (.cells #[.int .i64 far] 3)).alloc (.cells #[.bool false] 4)=W3:=⟨_,rfl⟩
 have hsz:W3.heap.size=w.heap.size+3:=by rw [<- hW3]; simp
 have hh0:W3.heap[w.heap.size]? = some (.cells #[.pointer (some ⟨b0,0,none⟩)] 62 (0,0)):=by
  rw [<- hW3,Below.heap_alloc _ _ _ (by simp; omega),Below.heap_alloc _ _ _ (by simp)]
  exact World.alloc_heap_new w _
 have hh1:W3.heap[w.heap.size+1]? = some (.cells #[.int .i64 far] 3 (0,0)):=by
  rw [<- hW3,Below.heap_alloc _ _ _ (by simp)]
  have:=World.alloc_heap_new (w.alloc (.cells #[.pointer (some ⟨b0,0,none⟩)] 62)) (.cells #[.int .i64 far] 3)
  simpa using this
 have hh2:W3.heap[w.heap.size+1+1]? = some (.cells #[.bool false] 4 (0,0)):=by
  rw [<- hW3]
  have:=World.alloc_heap_new ((w.alloc (.cells #[.pointer (some ⟨b0,0,none⟩)] 62)).alloc (.cells #[.int .i64 far] 3)) (.cells #[.bool false] 4)
  simpa using this
 have hc0:W3.cell? ⟨w.heap.size,0,none⟩=some (.pointer (some ⟨b0,0,none⟩)):=by simp [World.cell?,hh0]
 have hc1:W3.cell? ⟨w.heap.size+1,0,none⟩=some (.int .i64 far):=by simp [World.cell?,hh1]
 have hc2:W3.cell? ⟨w.heap.size+1+1,0,none⟩=some (.bool false):=by simp [World.cell?,hh2]
 have hbw3:Below w.heap.size w W3:=by rw [<- hW3]; exact (((Below.refl _ w).alloc (Nat.le_refl _) _).alloc (by simp) _).alloc (by simp; omega) _
 have X85:CallsIn Fence.wide 5 Tryz.prog 85 #[.pointer (some ⟨b0,0,none⟩),.int .i64 far] W3 fun e W4=>e = .returned (.bool y.1.1) /\
  ∃ g4 s4 b' cap' fp' m',Step B g w g4 W4/\Al.Inv B g4 s4 W4/\W3.heap.size<=W4.heap.size /\
   (∀ j,w.heap.size<=j->j < W3.heap.size->W4.heap[j]? = W3.heap[j]?/\Al.look s4.box j=none/\g4.wm j=0/\(∀ t ∈ s4.tg,∀ d,g4.tb t=some (some (j,d))->False)/\(∀ b o fp,zM s4.ob b=some (o,fp)->j ∉ fp)) /\
   Al.look s4.box b0=some ([.lst (zk (l.map (CC.encV TI.tok))) (l.map (CC.encV TI.tok)),.at (.int .i64 i),.at (.slice (some ⟨b',0,none⟩) xs.length cap'),.at (.map m')],4)/\zM s4.ob b' = some (.sc (xs.map trMC) cap',fp'):=by
  refine callsIn_wide.2 ((zNO H hi hgl hv hbw3).mono ?_)
  rintro e W4 ⟨g4,s4,h1,h2,h3,h4,h5⟩
  cases e with
  | outgrown=>exact h5.elim
  | panicked c=>exact h5.elim
  | returned v=>
   obtain ⟨r,h6,ws,q1,q2,h7,h8,_,rfl⟩:=h5
   simp only [VKs,VK] at h8
   obtain ⟨v1,w1,q3,q4,rfl,rfl,⟨rfl,rfl⟩,rfl,rfl⟩:=h8
   obtain ⟨b0',b',cap',fp',m',e3,k1,k2,rfl⟩:=zBa h7
   injection e3 with e3 _
   injection e3 with e3
   injection e3 with e3
   injection e3 with e3
   injection e3 with e3 _ _
   subst e3
   exact ⟨congrArg Ending.returned (zm h6),g4,s4,b',cap',fp',m',h1,h2,h3,h4,k1,k2⟩
 have hdd:∀ k:Nat,(Fence.wide.depth.isSome=true->1<=k):=fun k h=>by cases h
 have fin:∀ (g4:Gh) (s4:S) (b' cap':Nat) (fp':List Nat) (m':Option Nat) (W4:World),Step B g w g4 W4->Al.Inv B g4 s4 W4->W3.heap.size<=W4.heap.size ->
  (∀ j,w.heap.size<=j->j < W3.heap.size->W4.heap[j]? = W3.heap[j]?/\Al.look s4.box j=none/\g4.wm j=0/\(∀ t ∈ s4.tg,∀ d,g4.tb t=some (some (j,d))->False)/\(∀ b o fp,zM s4.ob b=some (o,fp)->j ∉ fp)) ->
  Al.look s4.box b0=some ([.lst (zk (l.map (CC.encV TI.tok))) (l.map (CC.encV TI.tok)),.at (.int .i64 i),.at (.slice (some ⟨b',0,none⟩) xs.length cap'),.at (.map m')],4)->zM s4.ob b' = some (.sc (xs.map trMC) cap',fp') ->
  ∀ (W':World) (r:Bool),Below 0 W4 W'->(∀ j,j < W4.heap.size->j ∉ fp'.tail->j≠w.heap.size+1+1->W'.heap[j]? = W4.heap[j]?)->MMems g4 W' fp'.tail (xs.map trMC) ->
  ∃ g' st',Step B g w g' W'/\Al.Inv B g' st' W'/\∃ u,RV g' W' u (.bool r)/\ju CC syn [parK] [.bool] [.at (.pointer (some ⟨b0,0,none⟩))] (some (((l,i,xs,(),()),()),(r,()))) (.ret u) st':=by
  intro g4 s4 b' cap' fp' m' W4 p1 p2 p3 p4 p5 p6 W' r q1 q2 q3
  obtain ⟨bs,rfl,hnd,hbl,hcap,_⟩:=p2.unpack p6
  obtain ⟨o1,o2,o3⟩:=p2.ex.ob _ _ _ p6
  obtain ⟨k1,k2,k3,k4,k5⟩:=p4 (w.heap.size+1+1) (by omega) (by omega)
  have hK:∀ k,(k ∈ bs\/k=w.heap.size+1+1)->Al.look s4.box k=none/\(∀ t ∈ s4.tg,∀ d,g4.tb t=some (some (k,d))->False)/\g4.wm k=0:=by
   rintro k (hk | rfl)
   · obtain ⟨r1,r2,r3,r4,r5,r6⟩:=o3 k (by simp [hk])
     exact ⟨r4,r5,r3⟩
   · exact ⟨k2,k4,k3⟩
  obtain ⟨hI,hL⟩:=Inv.but' (w':=W') p2 (fun k=>k ∈ bs\/k=w.heap.size+1+1) hK q1.size (fun j hj hk=>by
   simp only [not_or] at hk
   exact q2 j hj hk.1 hk.2) (fun hl bb o fp hb=>by
   obtain ⟨t1,t2,t3⟩:=p2.ex.ob bb o fp hb
   by_cases e:bb=b'
   · subst e
     rw [p6] at hb
     injection hb with hb
     obtain ⟨rfl,rfl⟩:=Prod.mk.inj hb
     obtain ⟨bs',arr,el,u1,u2,u3,u4,u5,u6,u7⟩:=t1
     injection u1 with _ u1
     subst u1
     refine ⟨bs,arr,el,rfl,u2,?_,u4,u5,u6,q3⟩
     have hbb:=(List.nodup_cons.1 hnd).1
     rw [q2 bb (o3 bb (by simp)).2.1 hbb (fun e=>k5 _ _ _ p6 (by simp [e]))]
     exact u3
   · refine t1.local hl fun j hj=>?_
     have hj1:j ∉ bs:=fun hm=>e (p2.ex.obd bb o fp b' _ _ j hb p6 hj (by simp [hm]))
     exact q2 j (t3 j hj).2.1 hj1 (fun e=>k5 _ _ _ hb (by rw [<- e]; exact hj)))
  have hst:Step B g4 W4 g4 W':=by
   refine ⟨hL,⟨q1.os,q1.tape,q1.output,q1.size,fun k hk=>?_⟩,fun b hb=>⟨?_,rfl⟩,fun _ _=>rfl,rfl⟩
   · have hB:=hi.base
     refine q2 k (by omega) (fun (hm:k ∈ bs)=>?_) (by omega)
     have:=(o3 k (by simp [hm])).1; omega
   · obtain ⟨t1,t2,t3⟩:=p2.ex.frz b hb
     refine q2 b t1 (fun (hm:b ∈ bs)=>?_) (fun e=>?_)
     · have:=(o3 b (by simp [hm])).2.2.2.2.2
       rw [this] at hb; cases hb
     · have h7:g.fr b=true:=by rw [<- p1.fr]; exact hb
       have:=(hi.ex.frz b h7).1; omega
  exact ⟨g4,s4,p1.trans hst,hI,.at (.bool r),zz rfl,[.at (.bool r)],[.inr b0,.ob b'],[],zBW rfl p5 p6,⟨_,[],[],[],rfl,rfl,⟨rfl,rfl⟩,rfl,rfl⟩,by simp,rfl⟩
 have hy1:∀ r:Bool,r=(y.1.1 && qZ (l.getD (i+far).toNat tokD).text xs.reverse)->(some (((l,i,xs,(),()),()),(r,())):Option (zA ([parK]:LK)×zA ([.bool]:LK)))=(some ((y.1.1 && qZ (l.getD (i+far).toNat tokD).text xs.reverse,()),i,xs)).map fun y=>(((l,y.2.1,y.2.2,(),()),()),y.1):=fun r hr=>by subst hr; rfl
 cases hnm:y.1.1 with
 | false=>
  rw [hnm] at X85
  gi_wp2_with ((try refine ⟨hdd _,?_⟩); gi_at_call 85; fail)
  refine X85.mono ?_
  rintro e W4 ⟨rfl,g4,s4,b',cap',fp',m',p1,p2,p3,p4,p5,p6⟩
  have hd2h:=(p4 (w.heap.size+1+1) (by omega) (by omega)).1.trans hh2
  have hd2:W4.cell? ⟨w.heap.size+1+1,0,none⟩=some (.bool false):=by simp [World.cell?,hd2h]
  have hf2:W4.frozen? ⟨w.heap.size+1+1,0,none⟩=false:=by simp [World.frozen?,hd2h]
  gi_wp2
  have hcc:=World.cell?_setCell_same' W4 ⟨w.heap.size+1+1,0,none⟩ (.bool false) (by rw [hd2]; rfl)
  refine ⟨_,zCF rfl rfl ⟨zIG,by rw [zGE]; rfl,aggT4.symm⟩ hcc,?_⟩
  have hoth:∀ j,j≠w.heap.size+1+1->(W4.setCell ⟨w.heap.size+1+1,0,none⟩ (.bool false)).heap[j]? = W4.heap[j]?:=fun j hj=>Below.heap_setCell _ _ _ j hj
  obtain ⟨bs,rfl,hnd,hbl,hcap,_⟩:=p2.unpack p6
  obtain ⟨⟨bs',arr,el,u1,u2,u3,u4,u5,u6,u7⟩,o2,o3⟩:=p2.ex.ob _ _ _ p6
  injection u1 with _ u1
  subst u1
  obtain ⟨g',st',z1,z2,u,z3,z4⟩:=fin g4 s4 b' cap' _ m' W4 p1 p2 p3 p4 p5 p6 (W4.setCell ⟨w.heap.size+1+1,0,none⟩ (.bool false)) false ((Below.refl 0 W4).setCell (p:=⟨w.heap.size+1+1,0,none⟩) (Nat.zero_le _) _) (fun j _ _ hj=>hoth j hj)
   (zHN u7 fun j hj=>hoth j (fun e=>(p4 (w.heap.size+1+1) (by omega) (by omega)).2.2.2.2 _ _ _ p6 (by rw [<- e]; exact List.mem_cons_of_mem _ hj)))
  exact ⟨g',st',z1,z2,u,z3,z4⟩
 | true=>
  rw [hnm] at X85
  gi_wp2_with ((try refine ⟨hdd _,?_⟩); gi_at_call 85; fail)
  refine X85.mono ?_
  rintro e W4 ⟨rfl,g4,s4,b',cap',fp',m',p1,p2,p3,p4,p5,p6⟩
  obtain ⟨u0,arr0,el0,ha0,hs0,hu0,hb0t,hb00⟩:∃ u0 arr0 el0,W4.heap[b0]? = some (.cells arr0 el0 (0,0))/\arr0.size=4/\arr0.toList=[u0,.int .i64 i,.slice (some ⟨b',0,none⟩) xs.length cap',.map m']/\RC g4 W4 (.lst (zk (l.map (CC.encV TI.tok))) (l.map (CC.encV TI.tok))) [u0]/\b0 < W4.heap.size:=by
   obtain ⟨t1,t2,t3,t4,arr,el,us,t5,t6,t7,t8⟩:=p2.box _ _ _ p5
   simp only [RCs] at t7
   obtain ⟨u1,u2,rfl,k1,u3,u4,rfl,k2,u5,u6,rfl,k3,u7,u8,rfl,k4,rfl⟩:=t7
   have k1':=qG _ _ _ _ k1
   obtain ⟨u0,rfl⟩:∃ u0,u1=[u0]:=by
    match u1,k1' with
    | [u0],_=>exact ⟨u0,rfl⟩
   simp only [RC] at k2 k3 k4
   rw [k2.1,k3.1,k4.1] at t8
   refine ⟨u0,arr,el,t5,t6,?_,k1,(Array.getElem?_eq_some_iff.1 t5).1⟩
   rw [List.take_of_length_le (by simpa using Nat.le_of_eq t6)] at t8
   simpa using t8
  have harr0:arr0 = #[u0,.int .i64 i,.slice (some ⟨b',0,none⟩) xs.length cap',.map m']:=by
   apply Array.ext'; rw [hu0]
  subst harr0
  have hd0h:=(p4 w.heap.size (by omega) (by omega)).1.trans hh0
  have hd1h:=(p4 (w.heap.size+1) (by omega) (by omega)).1.trans hh1
  have hd2h:=(p4 (w.heap.size+1+1) (by omega) (by omega)).1.trans hh2
  have hd0:W4.cell? ⟨w.heap.size,0,none⟩=some (.pointer (some ⟨b0,0,none⟩)):=by simp [World.cell?,hd0h]
  have hd1:W4.cell? ⟨w.heap.size+1,0,none⟩=some (.int .i64 far):=by simp [World.cell?,hd1h]
  have hd2:W4.cell? ⟨w.heap.size+1+1,0,none⟩=some (.bool false):=by simp [World.cell?,hd2h]
  have hb2:W4.cell? ⟨b0,2,none⟩=some (.slice (some ⟨b',0,none⟩) xs.length cap'):=by simp [World.cell?,ha0]
  gi_wp2_with ((try refine ⟨hdd _,?_⟩); gi_at_call 109; refine (zRA Fence.wide _ (hF _) rfl _ _ _ _).mono ?_; rintro e w' ⟨rfl,rfl⟩)
  obtain ⟨bs,rfl,hnd,hbl,hcap,_⟩:=p2.unpack p6
  rw [List.length_map] at hbl
  obtain ⟨⟨bs',arr,el,u1,u2,u3,u4,u5,u6,u7⟩,o2,o3⟩:=p2.ex.ob _ _ _ p6
  injection u1 with _ u1
  subst u1
  obtain ⟨W5,hW5⟩:∃ W5,W4.alloc (.cells #[.slice (some ⟨b',0,none⟩) xs.length cap'] 64)=W5:=⟨_,rfl⟩
  rw [hW5]
  have hsz5:W5.heap.size=W4.heap.size+1:=by rw [<- hW5]; simp
  have hold5:∀ j,j < W4.heap.size->W5.heap[j]? = W4.heap[j]?:=fun j hj=>by rw [<- hW5]; exact Below.heap_alloc _ _ _ hj
  have hB5:Below 0 W4 W5:=by rw [<- hW5]; exact (Below.refl 0 W4).alloc (Nat.zero_le _) _
  have hBs5:W5.heap[W4.heap.size]? = some (.cells #[.slice (some ⟨b',0,none⟩) xs.length cap'] 64 (0,0)):=by rw [<- hW5]; exact World.alloc_heap_new W4 _
  have hcB:W5.cell? ⟨W4.heap.size,0,none⟩=some (.slice (some ⟨b',0,none⟩) bs.length cap'):=by rw [hbl]; simp [World.cell?,hBs5]
  have hb'lt:b' < W4.heap.size:=(o3 b' (by simp)).2.1
  have hcb:∀ j,j < bs.length->W5.cell? ⟨b',j,none⟩=some (.map (some (bs[j]?.getD 0))):=fun j hj=>by
   have h7:=congrArg (fun l:List Value=>l[j]?) u6
   simp only [List.getElem?_take,hj,if_true,List.getElem?_map] at h7
   simp only [World.cell?,hold5 b' hb'lt,u3]
   rw [Array.getElem?_toList] at h7
   simp only [h7]
   rw [List.getElem?_eq_getElem hj]; rfl
  have hbs4:∀ j ∈ bs,j < W4.heap.size:=fun j hj=>(o3 j (by simp [hj])).2.1
  have hn2:w.heap.size+1+1 < W4.heap.size:=by omega
  have hII:IsI W5 W5 bs xs (w.heap.size+1+1) false:=⟨Below.refl _ _,fun _ _ _ _=>rfl,fun i j c e1 e2=>by
   obtain ⟨ar,ck,k1,k2⟩:=zHf u7 i j c e1 e2
   exact ⟨ar,ck,(hold5 j (hbs4 j (List.mem_of_getElem? e1))).trans k1,k2⟩,4,(hold5 _ hn2).trans hd2h⟩
  obtain ⟨nm,hnmD⟩:∃ nm,nm=(l.getD (i+far).toNat tokD).text:=⟨_,rfl⟩
  obtain ⟨hin1,hin2,hin3,hin4⟩:=hin hnm
  have hn2b:w.heap.size+1+1 ∉ bs:=fun hm=>(p4 (w.heap.size+1+1) (by omega) (by omega)).2.2.2.2 _ _ _ p6 (List.mem_cons_of_mem _ hm)
  have endW:∀ (W:World) (D:Nat) (r:Bool),IsI W5 W bs xs (w.heap.size+1+1) r->W5.heap.size<=D->(W.putObj D (.deferred none)).cell? ⟨w.heap.size+1+1,0,none⟩=some (.bool r)/\∃ g' st',Step B g w g' (W.putObj D (.deferred none))/\Al.Inv B g' st' (W.putObj D (.deferred none))/\∃ u,RV g' (W.putObj D (.deferred none)) u (.bool r)/\ju CC syn [parK] [.bool] [.at (.pointer (some ⟨b0,0,none⟩))] (some (((l,i,xs,(),()),()),(r,()))) (.ret u) st':=by
   intro W D r hI hD
   obtain ⟨tt,hres⟩:=hI.res
   have hoth:∀ j,j≠D->(W.putObj D (.deferred none)).heap[j]? = W.heap[j]?:=fun j hj=>World.putObj_heap_other hj
   refine ⟨by rw [show (W.putObj D (.deferred none)).cell? ⟨w.heap.size+1+1,0,none⟩=W.cell? ⟨w.heap.size+1+1,0,none⟩ from World.cell?_of_block (hoth _ (fun e=>by replace e:w.heap.size+1+1=D:=e; omega))]; simp [World.cell?,hres],?_⟩
   refine fin g4 s4 b' cap' _ m' W4 p1 p2 p3 p4 p5 p6 _ r (hB5.trans (hI.below.trans ⟨rfl,rfl,rfl,by simp [World.putObj],fun k hk=>absurd hk (Nat.not_lt_zero k)⟩)) (fun j h1 h2 h3=>?_) (zFn (g:=g4) (w:=W4) hbl fun i' j c q1 q2=>?_)
   · rw [hoth j (by omega),hI.blk j (by omega) h2 h3,hold5 j h1]
   · obtain ⟨ar,ck,k1,k2⟩:=hI.mp i' j c q1 q2
     have:=hbs4 j (List.mem_of_getElem? q1)
     exact ⟨ar,ck,(hoth j (by omega)).trans k1,k2⟩
  have enc:∀ j ∈ bs,j < W5.heap.size:=fun j hj=>by have:=hbs4 j hj; omega
  refine wpIn_rangeFunc_ownG rfl (by omega) (gf:=129) (lb:=#[.pointer (some ⟨W4.heap.size,0,none⟩)]) (by simp [Act.eval]) (hF 129) (enters_of Tryz.func129 (by kernel_rfl) rfl)
   (zLr Fence.wide 5 (hF _) rfl (by omega) W4.heap.size b' cap' bs (by omega) W5 (by omega) (by omega) hcB hcb) (fun h k=>h.trans k) (fun W l o o' _ hl h1 _=>KpB.put W l o o' hl h1) (Below.refl _ _) (fun _=>rfl)
   (fun pre W=>IsI W5 W bs xs (w.heap.size+1+1) false/\∀ x ∈ pre,zfM nm (xs[x.1]?.getD [])=0)
   (fun c pre W=>c = .ret/\∃ ini last,pre=ini++[last]/\(∀ x ∈ ini,zfM nm (xs[x.1]?.getD [])=0)/\zfM nm (xs[last.1]?.getD [])≠0/\IsI W5 W bs xs (w.heap.size+1+1) (zfM nm (xs[last.1]?.getD []) == 2))
   (fun pre A C row h hg hr=>⟨h.1.grown hbl enc (by omega) hg (fun k e=>by obtain ⟨h1,h2⟩:=hr k e; exact ⟨h1,h2⟩),h.2⟩)
   (fun c pre A C row h hg hr=>by
    obtain ⟨h0,ini,last,h1,h2,h3,h4⟩:=h
    exact ⟨h0,ini,last,h1,h2,h3,h4.grown hbl enc (by omega) hg (fun k e=>by obtain ⟨h1,h2⟩:=hr k e; exact ⟨h1,h2⟩)⟩)
   ⟨hII,by simp⟩
   (fun x=>{ tmps:=#[.pointer (some ⟨b0,0,none⟩),.int .i64 far,.pointer (some ⟨w.heap.size,0,none⟩),.pointer (some ⟨w.heap.size+1,0,none⟩),.pointer (some ⟨w.heap.size+1+1,0,none⟩),undef,.map (some (bs[x.1]?.getD 0)),undef,.pointer (some ⟨b0,0,none⟩),.int .i64 far,.bool true,.bool false,.pointer (some ⟨b0,0,none⟩),.pointer (some ⟨b0,0,none⟩),.pointer (some ⟨b0,2,none⟩),.slice (some ⟨b',0,none⟩) xs.length cap',.func (.func 129) #[] #[.pointer (some ⟨W4.heap.size,0,none⟩)],.int .i64 (x.1:Int),.map (some (bs[x.1]?.getD 0)),undef,undef,undef,undef,undef,undef,undef,undef,undef,undef,undef,undef,undef,undef,undef,undef,undef,undef,undef],defers:=[] })
   ?assign ?body ?done ?stop
  case assign=>
   intro l x W K hK
   gi_wp2
   exact hK
  case body=>
   rintro l' pre x W ⟨hI,hzz⟩ hlen
   have hx:=x.2
   obtain ⟨bj,hbj⟩:∃ bj,bs[x.1]? = some bj:=⟨bs[x.1],by simp⟩
   obtain ⟨c,hc⟩:∃ c,xs[x.1]? = some c:=⟨xs[x.1]'(by omega),by simp⟩
   have hbjm:bj ∈ bs:=List.mem_of_getElem? hbj
   have hbelow:=hI.below.size
   have hb0n:b0 ∉ bs:=fun hm=>by
    have:=(o3 b0 (by simp [hm])).2.2.2.1
    rw [this] at p5; cases p5
   have hb0n2:b0≠w.heap.size+1+1:=fun e=>by
    have:=(p4 (w.heap.size+1+1) (by omega) (by omega)).2.1
    rw [<- e,p5] at this; cases this
   have hn0:w.heap.size ∉ bs:=fun hm=>(p4 w.heap.size (by omega) (by omega)).2.2.2.2 _ _ _ p6 (List.mem_cons_of_mem _ hm)
   have hn1:w.heap.size+1 ∉ bs:=fun hm=>(p4 (w.heap.size+1) (by omega) (by omega)).2.2.2.2 _ _ _ p6 (List.mem_cons_of_mem _ hm)
   have hWb:∀ b,b < W4.heap.size->b ∉ bs->b≠w.heap.size+1+1->W.heap[b]? = W4.heap[b]?:=fun b h1 h2 h3=>(hI.blk b (by omega) h2 h3).trans (hold5 b h1)
   have hwm0:∀ b,(b ∈ bs\/b=w.heap.size+1+1)->g4.wm b=0:=by
    rintro b (h | rfl)
    · exact (o3 b (by simp [h])).2.2.1
    · exact (p4 (w.heap.size+1+1) (by omega) (by omega)).2.2.1
   obtain ⟨g5,hg5⟩:∃ g5:Gh,g5=⟨fun b=>if b ∈ bs\/b=w.heap.size+1+1 then 0 else if b < W5.heap.size then max (g4.wm b) (match W.heap[b]? with | some (.cells arr _ _)=>arr.size | _=>0) else 0,g4.tb,⟨fun b=>decide (b < W.heap.size) && decide (b ∉ bs) && decide (b≠w.heap.size+1+1),fun _=>false⟩⟩:=⟨_,rfl⟩
   have hwm5:∀ b,g5.wm b=if b ∈ bs\/b=w.heap.size+1+1 then 0 else if b < W5.heap.size then max (g4.wm b) (match W.heap[b]? with | some (.cells arr _ _)=>arr.size | _=>0) else 0:=fun b=>by rw [hg5]
   have hfr5:∀ b,g5.fr b=true↔b < W.heap.size/\b ∉ bs/\b≠w.heap.size+1+1:=fun b=>by rw [hg5]; simp [and_assoc]
   have hle5:∀ b,g4.wm b<=g5.wm b:=fun b=>by
    rw [hwm5]
    split
    · rename_i h; rw [hwm0 b h]; exact Nat.zero_le _
    · split
      · exact Nat.le_max_left _ _
      · rename_i h; rw [p2.fresh b (by omega)]; exact Nat.zero_le _
   have hL5:Later g4 W4 g5 W:=⟨hle5,fun t d e=>by rw [hg5]; exact e,fun b o ho=>by
    have hb4:b < W4.heap.size:=by
     rcases Nat.lt_or_ge b W4.heap.size with h | h
     · exact h
     · rw [p2.fresh b h] at ho; omega
    have hnk:¬ (b ∈ bs\/b=w.heap.size+1+1):=fun h=>by rw [hwm0 b h] at ho; omega
    simp only [not_or] at hnk
    exact World.cell?_of_block (hWb b hb4 hnk.1 hnk.2)⟩
   have hat:∀ b (arr:Array Value) el m (ds:List Value),b < W4.heap.size->b ∉ bs->b≠w.heap.size+1+1->W4.heap[b]? = some (.cells arr el m)->arr.toList=ds->At g5 W b 0 ds:=fun b arr el m ds h1 h2 h3 h4 h5 k u hk=>by
    have hh:W.heap[b]? = some (.cells arr el m):=(hWb b h1 h2 h3).trans h4
    subst h5
    rw [Array.getElem?_toList] at hk
    have hks:=(Array.getElem?_eq_some_iff.1 hk).1
    refine ⟨by simp [World.cell?,hh,hk],?_⟩
    rw [hwm5,if_neg (by simp only [not_or]; exact ⟨h2,h3⟩),if_pos (by omega),hh]
    simp only
    omega
   have hMM:MMems g5 W bs (xs.map trMC):=zFn (g:=g4) (w:=W4) hbl hI.mp
   have hInv:Al.Inv B g5 ⟨[(w.heap.size+1+1,[.at (.bool false)],1)],[],s4.nx,mps bs (xs.map trMC)⟩ W:=by
    have hB:=hi.base
    have hlk:∀ b c,Al.look [(w.heap.size+1+1,[V.at (.bool false)],1)] b=some c->b=w.heap.size+1+1/\c=([V.at (.bool false)],1):=fun b c h=>by
     by_cases e:w.heap.size+1+1=b
     · subst e; simp [Al.look] at h; exact ⟨rfl,h.symm⟩
     · simp [Al.look,e] at h
    refine ⟨by omega,fun b cs k h=>?_,fun t ht=>(by cases ht),fun t ht=>(by cases ht),fun t ht=>(by cases ht),by simp,fun b hb=>?_,fun t ht=>by rw [hg5]; exact p2.names t ht,fun b hb=>?_,fun b o fp h=>?_,fun b o fp b2 o2 fp2 j h1 h2 h3 h4=>?_,fun t ht=>by rw [hg5] at ht; cases ht⟩
    · obtain ⟨rfl,e⟩:=hlk b _ h
      injection e with e1 e2
      subst e1; subst e2
      obtain ⟨tt,hres⟩:=hI.res
      exact ⟨by omega,by rw [hwm5,if_pos (.inr rfl)],Nat.le_refl _,by simp [V.isOne],_,_,[.bool false],hres,rfl,by simp [RCs,RC,one],rfl⟩
    · rw [hwm5]
      split
      · rfl
      · rw [if_neg (by omega)]
    · obtain ⟨q1,q2,q3⟩:=(hfr5 b).1 hb
      refine ⟨q1,?_,fun t ht=>(by cases ht)⟩
      cases e:Al.look [(w.heap.size+1+1,[V.at (.bool false)],1)] b with
      | none=>rfl
      | some c=>exact absurd (hlk b c e).1 q3
    · obtain ⟨d,rfl,rfl,hm,hd⟩:=zCx hMM h
      refine ⟨⟨rfl,hd⟩,by simp,fun j hj=>?_⟩
      simp only [List.mem_singleton] at hj
      subst hj
      have q:=o3 j (by simp [hm])
      refine ⟨q.1,by omega,by rw [hwm5,if_pos (.inl hm)],?_,fun t ht=>(by cases ht),?_⟩
      · cases e:Al.look [(w.heap.size+1+1,[V.at (.bool false)],1)] j with
        | none=>rfl
        | some c=>exact absurd ((hlk j c e).1 ▸ hm) hn2b
      · cases e:g5.fr j with
        | false=>rfl
        | true=>exact absurd hm ((hfr5 j).1 e).2.1
    · obtain ⟨_,_,rfl,_,_⟩:=zCx hMM h1
      obtain ⟨_,_,rfl,_,_⟩:=zCx hMM h2
      simp only [List.mem_singleton] at h3 h4
      exact h3.symm.trans h4
   have htoks:RC g5.bare W (.lst (zk (l.map (CC.encV TI.tok))) (l.map (CC.encV TI.tok))) [u0]:=by
    have:=zBE (zBG hL5 _ _ hb0t) rfl
    rw [zA9] at this; exact this
   have hagg:RC g5.bare W (.agg [.lst (zk (l.map (CC.encV TI.tok))) (l.map (CC.encV TI.tok)),.at (.int .i64 i),.at (.slice (some ⟨b',0,none⟩) xs.length cap'),.at (.map m')]) [u0,.int .i64 i,.slice (some ⟨b',0,none⟩) xs.length cap',.map m']:=by
    simp only [RC,RCs]
    exact ⟨[u0],_,rfl,htoks,[_],_,rfl,⟨rfl,rfl⟩,[_],_,rfl,⟨rfl,rfl⟩,[_],_,rfl,⟨rfl,rfl⟩,rfl⟩
   have hE:∀ k,RV g5 W (Env.get [(2,.rptr (.rptr (.agg [.lst (zk (l.map (CC.encV TI.tok))) (l.map (CC.encV TI.tok)),.at (.int .i64 i),.at (.slice (some ⟨b',0,none⟩) xs.length cap'),.at (.map m')]))),(3,.rptr (.at (.int .i64 far))),(4,.at (.pointer (some ⟨w.heap.size+1+1,0,none⟩))),(6,.at (.map (some bj)))] k)
    ((#[.pointer (some ⟨b0,0,none⟩),.int .i64 far,.pointer (some ⟨w.heap.size,0,none⟩),.pointer (some ⟨w.heap.size+1,0,none⟩),.pointer (some ⟨w.heap.size+1+1,0,none⟩),undef,.map (some (bs[x.1]?.getD 0)),undef,.pointer (some ⟨b0,0,none⟩),.int .i64 far,.bool true,.bool false,.pointer (some ⟨b0,0,none⟩),.pointer (some ⟨b0,0,none⟩),.pointer (some ⟨b0,2,none⟩),.slice (some ⟨b',0,none⟩) xs.length cap',.func (.func 129) #[] #[.pointer (some ⟨W4.heap.size,0,none⟩)],.int .i64 (x.1:Int),.map (some (bs[x.1]?.getD 0)),undef,undef,undef,undef,undef,undef,undef,undef,undef,undef,undef,undef,undef,undef,undef,undef,undef,undef,undef]:Array Value).getD k undef):=by
    intro k1
    by_cases e2:k1=2
    · subst e2
      refine zBj ?_ (hat _ _ _ _ [_] (by omega) hn0 (by omega) hd0h rfl)
      simp only [RC]
      exact ⟨b0,0,_,rfl,hagg,hat b0 _ _ _ _ hb00 hb0n hb0n2 ha0 rfl⟩
    · by_cases e3:k1=3
      · subst e3
        refine zBj ?_ (hat _ _ _ _ [_] (by omega) hn1 (by omega) hd1h rfl)
        simp [RC,one]
      · by_cases e4:k1=4
        · subst e4; exact zz rfl
        · by_cases e6:k1=6
          · subst e6
            rw [hbj]
            exact zz rfl
          · have:Env.get [(2,.rptr (.rptr (.agg [.lst (zk (l.map (CC.encV TI.tok))) (l.map (CC.encV TI.tok)),.at (.int .i64 i),.at (.slice (some ⟨b',0,none⟩) xs.length cap'),.at (.map m')]))),(3,.rptr (.at (.int .i64 far))),(4,.at (.pointer (some ⟨w.heap.size+1+1,0,none⟩))),(6,.at (.map (some bj)))] k1=V.any:=by
             simp only [Env.get,Ne.symm e2,Ne.symm e3,Ne.symm e4,Ne.symm e6,if_false]
            rw [this]
            trivial
   have hglob:GlobOk B g5.wm W:=by
    have hB:=hi.base
    have hbel:Below B w W:=by
     have hbb:∀ k,k < B->k ∉ bs/\k≠w.heap.size+1+1:=fun k hk=>⟨fun hm=>by have:=(o3 k (by simp [hm])).1; omega,by omega⟩
     refine ⟨hI.below.os.trans (hB5.os.trans p1.below.os),hI.below.tape.trans (hB5.tape.trans p1.below.tape),hI.below.output.trans (hB5.output.trans p1.below.output),by omega,fun k hk=>?_⟩
     exact (hWb k (by omega) (hbb k hk).1 (hbb k hk).2).trans (p1.below.block k hk)
    exact hgl.below hbel fun b=>Nat.le_trans (p1.later.wm b) (hle5 b)
   have hadd:IntKind.i64.wrap (i+far)=i+far:=IntWalk.i64_in _ (by omega)
   obtain ⟨tk,htk⟩:∃ tk,l.getD (i+far).toNat tokD=tk:=⟨_,rfl⟩
   have hidx:(l.map (CC.encV TI.tok)).getD (i+far).toNat .any = .agg [.at (.int .i64 tk.kind),.at (.string ⟨tk.text.toArray⟩),.at (.int .i64 tk.file),.at (.int .i64 tk.ffrom),.at (.int .i64 tk.fto),.at (.bool tk.blank)]:=by
    have hlt:(i+far).toNat < l.length:=by omega
    rw [<- htk,List.getD_eq_getElem?_getD,show (l.map (CC.encV TI.tok))[(i+far).toNat]? = (l[(i+far).toNat]?).map (CC.encV TI.tok) from List.getElem?_map,List.getD_eq_getElem?_getD,List.getElem?_eq_getElem hlt]
    rfl
   rw [htk] at hnmD
   have hlook:Al.look [(w.heap.size+1+1,[V.at (.bool false)],1)] (w.heap.size+1+1)=some ([.at (.bool false)],1):=by simp [Al.look]
   have hol:zM (mps bs (xs.map trMC)) bj=some (.mp (trMC c),[bj]):=by
    have h1:=zDC (bs:=bs) (xs:=xs.map trMC) [] (List.nodup_cons.1 hnd).2 (by simpa using hbl)
    rw [List.append_nil] at h1
    exact Mps.at h1 hbj (by rw [List.getElem?_map,hc]; rfl)
   obtain ⟨st5,hst5⟩:∃ st5:S,st5=⟨[(w.heap.size+1+1,[.at (.bool false)],1)],[],s4.nx,mps bs (xs.map trMC)⟩:=⟨_,rfl⟩
   rw [<- hst5] at hInv
   have l1:Al.look st5.box (w.heap.size+1+1)=some ([.at (.bool false)],1):=by rw [hst5]; exact hlook
   have l2:zM st5.ob bj=some (.mp (trMC c),[bj]):=by rw [hst5]; exact hol
   have l3:st5.ob=mps bs (xs.map trMC):=by rw [hst5]
   have hz:zfM nm (xs[x.1]?.getD [])=(qF c nm).getD 0:=by rw [hc]; rfl
   refine zJi (wpIn_mono ((?_:awp Tryz.prog ⟨B,⟨38,[]⟩,some l',[]⟩ _ (fun ex e' s'=>(ex = .normal/\(qF c nm).getD 0=0/\Al.look s'.box (w.heap.size+1+1)=some ([.at (.bool false)],1)/\s'.ob=mps bs (xs.map trMC))\/(ex = .ret/\(qF c nm).getD 0≠0/\Al.look s'.box (w.heap.size+1+1)=some ([.at (.bool ((qF c nm).getD 0 == 2))],1)/\s'.ob=mps bs (xs.map trMC))) _ st5) g5 _ W ⟨hInv,hE,⟨rfl,fun _ hp=>(by cases hp)⟩,rfl,hglob⟩) ?_)
   · exact zRn B l' _ _ _ i far _ _ _ bs bj xs c nm tk st5 (by omega) (by rw [show (l.map (CC.encV TI.tok)).length=l.length from List.length_map _]; omega) hadd hidx hnmD l1 l2 l3
   · rintro ex a2 w2 ⟨g',e',s',q1,q2,q3⟩
     have hsame:∀ b,b < W.heap.size->b ∉ bs->b≠w.heap.size+1+1->w2.heap[b]? = W.heap[b]?:=fun b h1 h2 h3=>(q1.fz b ((hfr5 b).2 ⟨h1,h2,h3⟩)).1
     have hob:s'.ob=mps bs (xs.map trMC):=by rcases q3 with ⟨_,_,_,h⟩ | ⟨_,_,_,h⟩ <;> exact h
     have hI2:∀ r,Al.look s'.box (w.heap.size+1+1)=some ([.at (.bool r)],1)->IsI W5 w2 bs xs (w.heap.size+1+1) r:=fun r hr=>by
      refine ⟨hI.below.trans (q1.below.mono (Nat.zero_le _)),fun b h1 h2 h3=>(hsame b (by omega) h2 h3).trans (hI.blk b h1 h2 h3),fun i' j d h1 h2=>?_,?_⟩
      · have h3:=zDC (bs:=bs) (xs:=xs.map trMC) [] (List.nodup_cons.1 hnd).2 (by simpa using hbl)
        rw [List.append_nil,<- hob] at h3
        have h4:=Mps.at h3 h1 (c:=trMC d) (by rw [List.getElem?_map,h2]; rfl)
        obtain ⟨⟨_,arr,ck,h5,h6⟩,_⟩:=q2.inv.ex.ob _ _ _ h4
        exact ⟨arr,ck,h5,zDF h6⟩
      · obtain ⟨t1,t2,t3,t4,arr,el,us,t5,t6,t7,t8⟩:=q2.inv.box _ _ _ hr
        simp only [RCs,RC] at t7
        obtain ⟨u1,u2,rfl,⟨rfl,_⟩,rfl⟩:=t7
        have harr:arr = #[.bool r]:=by
         apply Array.ext'
         rw [List.take_of_length_le (by simpa using Nat.le_of_eq t6)] at t8
         simpa using t8
        exact ⟨el,by rw [t5,harr]⟩
     have hkf:KeepsFrom W5.heap.size W w2:=⟨q1.below.size,fun k o hk hko hc=>by
      have hklt:=(Array.getElem?_eq_some_iff.1 hko).1
      exact (hsame k hklt (fun hm=>by have:=hbs4 k hm; omega) (by omega)).trans hko⟩
     have hkp:KpB W4.heap.size b' bs.length W w2:=by
      have hb'n:b' ∉ bs:=(List.nodup_cons.1 hnd).1
      have hb'2:b'≠w.heap.size+1+1:=fun e=>(p4 (w.heap.size+1+1) (by omega) (by omega)).2.2.2.2 _ _ _ p6 (by simp [e])
      refine ⟨fun v hv=>(World.cell?_of_block (hsame W4.heap.size (by omega) (fun hm=>by have:=hbs4 _ hm; omega) (by omega))).trans hv,fun j v _ hv=>(World.cell?_of_block (hsame b' (by omega) hb'n hb'2)).trans hv⟩
     rcases q3 with ⟨rfl,k1,k2,_⟩ | ⟨rfl,k1,k2,_⟩
     · refine ⟨hkf,hkp,hI2 _ k2,fun x' hx'=>?_⟩
       rcases List.mem_append.1 hx' with h | h
       · exact hzz x' h
       · simp only [List.mem_singleton] at h
         subst h; rw [hz]; exact k1
     · exact ⟨hkf,rfl,pre,x,rfl,hzz,by rw [hz]; exact k1,by rw [hz]; exact hI2 _ k2⟩
  case done=>
   rintro D ys W hD rfl ⟨hI,hz⟩ hK
   obtain ⟨tt,hres⟩:=hI.res
   have hcw:W.cell? ⟨w.heap.size+1+1,0,none⟩=some (.bool false):=by simp [World.cell?,hres]
   have hfw:W.frozen? ⟨w.heap.size+1+1,0,none⟩=false:=by simp [World.frozen?,hres]
   gi_wp2
   have hI2:=hI.set hn2b false
   have hK2:(W.setCell ⟨w.heap.size+1+1,0,none⟩ (.bool false)).heap[D]? = some (.deferred (some [])):=(Below.heap_setCell _ _ _ D (fun e=>by replace e:D=w.heap.size+1+1:=e; omega)).trans hK
   refine ⟨by simp,.inl ⟨_,_,rfl,run_takeDeferred hK2,?_⟩⟩
   obtain ⟨hcr,g',st',z1,z2,u,z3,z4⟩:=endW _ D false hI2 hD
   refine ⟨_,zCF rfl rfl ⟨zIG,by rw [zGE]; rfl,aggT4.symm⟩ hcr,?_⟩
   have hT:qZ (l.getD (i+far).toNat tokD).text xs.reverse=false:=by
    rw [<- hnmD,zJ1 xs bs.length hbl]
    refine zGb fun m hm=>?_
    obtain ⟨x,hx,rfl⟩:=List.mem_map.1 hm
    exact hz x (by rw [zAu,List.take_of_length_le (by simp)]; exact hx)
   rw [List.getD_eq_getElem?_getD] at hT
   refine ⟨g',z1,st',z2,u,z3,?_⟩
   rw [hT]; exact z4
  case stop=>
   rintro D c pre W hD ⟨k,hk,hpre⟩ ⟨rfl,ini,last,e1,e2,e3,hI⟩ hK
   gi_wp2
   refine ⟨by simp,.inl ⟨_,_,rfl,run_takeDeferred hK,?_⟩⟩
   obtain ⟨hcr,g',st',z1,z2,u,z3,z4⟩:=endW _ D _ hI hD
   refine ⟨_,zCF rfl rfl ⟨zIG,by rw [zGE]; rfl,aggT4.symm⟩ hcr,?_⟩
   have hT:qZ (l.getD (i+far).toNat tokD).text xs.reverse=(zfM nm (xs[last.1]?.getD []) == 2):=by
    rw [<- hnmD,zJ1 xs bs.length hbl,<- List.take_append_drop k ((List.finRange bs.length).reverse),show (List.finRange bs.length).reverse.take k=ini++[last] from hpre.symm.trans e1]
    rw [List.map_append,List.map_append,List.append_assoc]
    refine zHR (fun m hm=>?_) e3
    obtain ⟨x,hx,rfl⟩:=List.mem_map.1 hm
    exact e2 x hx
   rw [List.getD_eq_getElem?_getD] at hT
   refine ⟨g',z1,st',z2,u,z3,?_⟩
   rw [hT]; exact z4
end
section
open Go.Al Go.Den
def c33 (x:List Str×Str×Unit):Option (Bool×Unit):=if x.1.length < 1000 then some (x.1.contains x.2.1,()) else none
theorem zP7 (fu:Nat) (hfu:1000 < fu) (nf:Nat->Bool) (x0:List Str) (x1:Str) (h:x0.length < 1000):sh33 fu nf x0 x1=some (x0.contains x1,()):=by
 unfold sh33
 refine zFc (fun s=>∃ k:Nat,s=((((k:Int),()),()):(Int×PUnit)×PUnit)/\k<=x0.length/\(x0.take k).contains x1=false) (fun s=>x0.length - s.1.1.toNat) ?_ fu _ ⟨0,rfl,Nat.zero_le _,by simp⟩ (by simp; omega)
 rintro rec s ⟨k,rfl,hk,hc⟩ hrec
 simp only [ilt,lenI,inB,ile]
 by_cases hlt:k < x0.length
 · have h1:((k:Int) < (x0.length:Int)):=by omega
   have h2:(0:Int)<=(k:Int):=by omega
   simp only [h1,h2,decide_true,Bool.and_self,cond_true,Int.toNat_natCast]
   have hg:x0.getD k []=x0[k]:=by simp [List.getD_eq_getElem?_getD,hlt]
   rw [hg]
   by_cases e:x1=x0[k]
   · have:seq x1 x0[k]=true:=by simp [seq,e]
     rw [this,cond_true]
     have hm:x1 ∈ x0:=by rw [e]; exact List.getElem_mem _
     simp [hm]
   · have:seq x1 x0[k]=false:=by simp [seq,e]
     rw [this,cond_false]
     have hw:iadd .i64 (k:Int) 1=((k+1:Nat):Int):=by unfold iadd; rw [IntWalk.i64_in _ (by omega)]; omega
     refine hrec _ ⟨k+1,by rw [hw],hlt,?_⟩ (by simp only [hw]; simp; omega)
     rw [List.take_succ_eq_append_getElem hlt]
     simp only [List.contains_eq_mem,List.mem_append,List.mem_singleton,decide_eq_false_iff_not,not_or] at hc ⊢
     exact ⟨hc,e⟩
 · obtain rfl:k=x0.length:=by omega
   have h1:¬ ((x0.length:Int) < (x0.length:Int)):=by omega
   simp only [h1,decide_false,cond_false]
   rw [List.take_length] at hc
   rw [hc]; rfl
theorem ok33:ConOk CC Tryz.prog 33 ⟨as33,rs33,c33⟩:=by
 refine (con33 1001).sub ?_
 rintro ⟨x0,x1,u⟩ y hy
 unfold c33 at hy
 split at hy
 · rename_i h
   injection hy with hy
   subst hy
   exact zP7 1001 (by omega) _ _ _ h
 · cases hy
def c15 (x:Str×Unit):Option (Bool×Unit):=some (kwL.contains x.1,())
theorem ok15:ConOk CC Tryz.prog 15 ⟨as15,rs15,c15⟩:=by
 refine (con15 0 c33 ok33).sub ?_
 rintro ⟨x0,u⟩ y hy
 injection hy with hy
 subst hy
 rfl
def c143 (x:Str×Unit):Option (Int×Unit):=sh143 0 (fun _=>false) x.1
theorem ok143:ConOk CC Tryz.prog 143 ⟨zDs,zCX,c143⟩:=con143 0
noncomputable def b72 (fu:Nat):zA kI->MM (zA kS):=mJ (sh72 fu )
theorem ok72 (fu:Nat):CQ 72 (cJ (kI) (kS) (b72 fu)):=con72 fu
noncomputable def b54 (fu:Nat):zA kL->MM (zA kB):=mJ (sh54 fu c33 (b72 fu))
theorem ok54 (fu:Nat):CQ 54 (cJ (kL) (kB) (b54 fu)):=con54 fu c33 ok33 (b72 fu) (ok72 fu)
noncomputable def b85 (fu:Nat):zA kI->MM (zA kB):=mM (sh85 fu c15)
theorem ok85 (fu:Nat):CQ 85 (cM (kI) (kB) (b85 fu)):=con85 fu c15 ok15
noncomputable def b112 (fu:Nat):zA kI->MM (zA kB):=mM (sh112 fu )
theorem ok112 (fu:Nat):CQ 112 (cM (kI) (kB) (b112 fu)):=con112 fu
noncomputable def b73 (fu:Nat):zA k0->MM (zA kN):=mM (sh73 fu )
theorem ok73 (fu:Nat):CQ 73 (cM (k0) (kN) (b73 fu)):=con73 fu (ok77)
noncomputable def b78 (fu:Nat):zA kS->MM (zA kN):=mM (sh78 fu (b54 fu) (b73 fu))
theorem ok78 (fu:Nat):CQ 78 (cM (kS) (kN) (b78 fu)):=con78 fu (b54 fu) (ok54 fu) (b73 fu) (ok73 fu) (ok77)
noncomputable def b80 (fu:Nat):zA k0->MM (zA kN):=mM (sh80 fu (b73 fu) (b85 fu))
theorem ok80 (fu:Nat):CQ 80 (cM (k0) (kN) (b80 fu)):=con80 fu (b73 fu) (ok73 fu) (ok77) (b85 fu) (ok85 fu)
noncomputable def b76 (fu:Nat):Int×Unit->MM (Bool×Unit):=c76 (b85 fu)
theorem ok76' (fu:Nat):CQ 76 (cM kI kB (b76 fu)):=ok76 _ (ok85 fu)
noncomputable def b84 (fu:Nat):zA kI->MM (zA kB):=mM (sh84 fu c33 (b72 fu) (b76 fu))
theorem ok84 (fu:Nat):CQ 84 (cM (kI) (kB) (b84 fu)):=con84 fu c33 ok33 (b72 fu) (ok72 fu) (b76 fu) (ok76' fu)
noncomputable def RS.next (fu:Nat) (r:RS):RS where
 c53:=mM (sh53 fu c33 (b72 fu) (b73 fu) r.c74 r.c75 (b76 fu))
 c74:=mM (sh74 fu (b54 fu) (b73 fu) (b85 fu) r.c107)
 c107:=mM (sh107 fu r.c53 (b54 fu) r.c56 (b73 fu) (b78 fu))
 c75:=mM (sh75 fu (b54 fu) (b73 fu) (b78 fu) (b85 fu) r.c108)
 c108:=mM (sh108 fu (b54 fu) (c58) (b72 fu) (b73 fu) (b80 fu) r.c114)
 c79:=mX (sh79 fu (b54 fu) (b73 fu))
 c82:=mX (sh82 fu (b54 fu) (b73 fu) (b78 fu) r.c81 r.c111)
 c56:=mN (sh56 fu (b54 fu) r.c56 (b72 fu) (b73 fu) (b78 fu) r.c79 (b80 fu) r.c81 r.c82)
 c130:=mM (sh130 fu (b54 fu) (b72 fu) (b73 fu) (b76 fu) (b78 fu) r.c79 r.c82 (b85 fu) r.c130)
 c81:=mL (sh81 fu (b54 fu) (c59) (c61) (b73 fu) (b78 fu) r.c110)
 c110:=mM (sh110 fu r.c53 (c58) r.c130)
 c151:=mM (sh151 fu r.c53 r.c130)
 c83:=mM (sh83 fu (b54 fu) (b73 fu) (b78 fu) r.c83 r.c111)
 c57:=mM (sh57 fu (b54 fu) (c58) (b73 fu) r.c83)
 c55:=mM (sh55 fu (b54 fu) r.c56 r.c57 (b73 fu) (b78 fu))
 c37:=mM (sh37 fu r.c53 (b54 fu) r.c55 r.c56 r.c57 (c58) (c59) r.c60 (c61))
 c60:=mM (sh60 fu r.c37 (b54 fu) (b72 fu) (b73 fu) (b78 fu) (b84 fu) (b85 fu) r.c86)
 c86:=mM (sh86 fu (b54 fu) (c59) r.c60 (c61) (b72 fu) (b73 fu) (b78 fu) (b80 fu) (b85 fu) r.c86 (b112 fu) r.c113 r.c114 r.c115 r.c116 r.c117)
 c116:=mM (sh116 fu r.c37 (c59) (c61) (b78 fu) (b84 fu) r.c86 r.c117)
 c115:=mX (sh115 fu (b78 fu) r.c113)
 c117:=mX (sh117 fu (b54 fu) (b78 fu) r.c113)
 c113:=mM (sh113 fu (b54 fu) (b73 fu) r.c111 r.c113)
 c111:=mM (sh111 fu (b54 fu) (b73 fu) r.c111 r.c114)
 c114:=mM (sh114 fu (b54 fu) (b73 fu) (b78 fu) r.c113 r.c114 r.c131)
 c131:=mM (sh131 fu c143 (b72 fu) (b73 fu) r.c131 r.c142)
 c142:=mM (sh142 fu (b54 fu) (b73 fu) (b78 fu) (b84 fu) r.c142 r.c150 r.c151)
 c150:=mM (sh150 fu (b54 fu) (b73 fu) (b78 fu) (b84 fu) r.c142 r.c150 r.c151 r.c154 r.c155)
 c154:=mM (sh154 fu (b54 fu) (b73 fu) (b78 fu) (b80 fu) r.c111 r.c113)
 c155:=mM (sh155 fu (b73 fu) (b85 fu) (b112 fu) r.c115)
noncomputable def rs (fu:Nat):Nat->RS
 | 0=>RS.zero
 | n+1=>(rs fu n).next fu
noncomputable def prS (fu:Nat):PS:=⟨c33,c143,b54 fu,b72 fu,b73 fu,b76 fu,b78 fu,b80 fu,b84 fu,b85 fu,b112 fu,c58,c59,c61⟩
theorem ya (fu:Nat):POk (prS fu):=⟨ok33,ok143,ok38,ok77,ok54 fu,ok72 fu,ok73 fu,ok76' fu,ok78 fu,ok80 fu,ok84 fu,ok85 fu,ok112 fu,ok58,ok59,ok61⟩
theorem ROk.next (fu:Nat) {r:RS} (h:ROk r):ROk (r.next fu) where
 h53:=con53 fu (ya fu) h
 h74:=con74 fu (ya fu) h
 h107:=con107 fu (ya fu) h
 h75:=con75 fu (ya fu) h
 h108:=con108 fu (ya fu) h
 h79:=con79 fu (ya fu) h
 h82:=con82 fu (ya fu) h
 h56:=con56 fu (ya fu) h
 h130:=con130 fu (ya fu) h
 h81:=con81 fu (ya fu) h
 h110:=con110 fu (ya fu) h
 h151:=con151 fu (ya fu) h
 h83:=con83 fu (ya fu) h
 h57:=con57 fu (ya fu) h
 h55:=con55 fu (ya fu) h
 h37:=con37 fu (ya fu) h
 h60:=con60 fu (ya fu) h
 h86:=con86 fu (ya fu) h
 h116:=con116 fu (ya fu) h
 h115:=con115 fu (ya fu) h
 h117:=con117 fu (ya fu) h
 h113:=con113 fu (ya fu) h
 h111:=con111 fu (ya fu) h
 h114:=con114 fu (ya fu) h
 h131:=con131 fu (ya fu) h
 h142:=con142 fu (ya fu) h
 h150:=con150 fu (ya fu) h
 h154:=con154 fu (ya fu) h
 h155:=con155 fu (ya fu) h
theorem rok (fu:Nat):∀ n,ROk (rs fu n)
 | 0=>ROk.zero
 | n+1=>(rok fu n).next fu
end
section
open Go.Al Go.Den
def tkA (l:List TokT) (p:Int):TokT:=l.getD p.toNat tokD
def zH (l:List TokT) (p:Int):Str:=if (l.length:Int)<=p then [] else if (tkA l p).kind=1\/(tkA l p).kind=5 then (tkA l p).text else []
def zh (l:List TokT) (p:Int):Bool:=decide (p < l.length) && (decide ((tkA l p).kind=1) && !kwL.contains (tkA l p).text)
def yn (k:Int) (l:List TokT) (p:Int):Bool:=decide (p < l.length) && decide ((tkA l p).kind=k)
def isF (L:List Str) (l:List TokT) (p:Int):Bool:=!seq (zH l p) [] && L.contains (zH l p)
def yy (l:List TokT) (xs:List MT) (p:Int):Bool:=zh l p && qZ (tkA l p).text xs.reverse
def ym (l:List TokT) (xs:List MT) (p:Int):Bool:=
 yy l xs p || (marksL.contains (zH l p) || (wordsL.contains (zH l p) || (seq (zH l p) [101,110,117,109] || (seq (zH l p) [115,116,114,117,99,116] || seq (zH l p) [117,110,105,111,110]))))
noncomputable def q72 (fu:Nat):Int×Unit->MM (Str×Unit):=b72 fu
noncomputable def q54 (fu:Nat):List Str×Unit->MM (Bool×Unit):=b54 fu
noncomputable def q85 (fu:Nat):Int×Unit->MM (Bool×Unit):=b85 fu
noncomputable def q112 (fu:Nat):Int×Unit->MM (Bool×Unit):=b112 fu
noncomputable def q73 (fu:Nat):Unit->MM (Nd×Unit):=b73 fu
noncomputable def q78 (fu:Nat):Str×Unit->MM (Nd×Unit):=b78 fu
noncomputable def q80 (fu:Nat):Unit->MM (Nd×Unit):=b80 fu
noncomputable def q76 (fu:Nat):Int×Unit->MM (Bool×Unit):=b76 fu
noncomputable def q84 (fu:Nat):Int×Unit->MM (Bool×Unit):=b84 fu
section
variable (fu:Nat) {l:List TokT} {xs:List MT} {i:Int}
theorem zN1 {i f:Int} {n:Nat} (h0:0<=i) (h1:i<=n) (hl:n < 1000000) (f0:0<=f) (f1:f < 1000000):iadd .i64 i f=i+f:=xB _ _ (by omega) (by omega)
def aJ {β:Type} (l:List TokT) (i:Int) (xs:List MT) (b:β):Option (Option ((xl×Unit)×β)):=some (some (((l,i,xs,none,()),()),b))
def aM {β:Type} (l:List TokT) (i:Int) (xs:List MT) (b:β):Option (Option ((ParT×Unit)×β)):=some (some (((l,i,xs,(),()),()),b))
theorem zCt {β:Type} (b:β):outJ l (aJ l i xs b)=some (some (b,(i,xs))):=if_pos rfl
theorem qU {β:Type} (b:β):outM l (aM l i xs b)=some (some (b,(i,xs))):=if_pos rfl
theorem zGp (f:Int) (h0:0<=i) (h1:i<=l.length) (hl:l.length < 1000000) (f0:0<=f) (f1:f < 1000000):q72 fu (f,()) l (i,xs)=some (some ((zH l (i+f),()),(i,xs))):=by
 show outJ l (cond (ile (lenI l) (iadd .i64 i f)) (aJ l i xs (([]:Str),())) (cond (inB (iadd .i64 i f) l.length) (cond (ine (TokT.kind (tkA l (iadd .i64 i f))) 1) (cond (ine (TokT.kind (tkA l (iadd .i64 i f))) 5) (aJ l i xs (([]:Str),())) (aJ l i xs (TokT.text (tkA l (iadd .i64 i f)),()))) (aJ l i xs (TokT.text (tkA l (iadd .i64 i f)),()))) none))=_
 rw [zN1 h0 h1 hl f0 f1]
 unfold zH
 by_cases h:(l.length:Int)<=i+f
 · rw [show ile (lenI l) (i+f)=true from decide_eq_true h,if_pos h,cond_true,zCt]
 · rw [show ile (lenI l) (i+f)=false from decide_eq_false h,if_neg h,cond_false]
   rw [show inB (i+f) l.length=true from by unfold inB; simp; omega,cond_true]
   rw [zEi,zEi]
   by_cases k1:(tkA l (i+f)).kind=1
   · rw [if_pos (.inl k1),show (!decide ((tkA l (i+f)).kind=1))=false by simp [k1],cond_false,zCt]
   · rw [show (!decide ((tkA l (i+f)).kind=1))=true by simp [k1],cond_true]
     by_cases k5:(tkA l (i+f)).kind=5
     · rw [if_pos (.inr k5),show (!decide ((tkA l (i+f)).kind=5))=false by simp [k5],cond_false,zCt]
     · rw [if_neg (by simp [k1,k5]),show (!decide ((tkA l (i+f)).kind=5))=true by simp [k5],cond_true,zCt]
theorem zIv (L:List Str) (hL:L.length < 1000) (h0:0<=i) (h1:i<=l.length) (hl:l.length < 1000000):q54 fu (L,()) l (i,xs)=some (some ((isF L l i,()),(i,xs))):=by
 have e72:=zGp (xs:=xs) fu 0 h0 h1 hl (by omega) (by omega)
 rw [Int.add_zero] at e72
 have e33:c33 (L,zH l i,())=some (L.contains (zH l i),()):=if_pos hL
 show outJ l (Option.bind (q72 fu (0,()) l (i,xs)) fun y0=>zJ y0 (some none) fun y1=>cond (!seq y1.1.1 []) (Option.bind (c33 (L,y1.1.1,())) fun y2=>aJ l y1.2.1 y1.2.2 (y2.1,())) (aJ l y1.2.1 y1.2.2 (false,())))=_
 rw [e72]
 show outJ l (cond (!seq (zH l i) []) (Option.bind (c33 (L,zH l i,())) fun y2=>aJ l i xs (y2.1,())) (aJ l i xs (false,())))=_
 rw [e33]
 unfold isF
 cases h:seq (zH l i) []
 · rw [Bool.not_false,cond_true,Option.bind_some,zCt,Bool.true_and]
 · rw [Bool.not_true,cond_false,zCt,Bool.false_and]
theorem zGi (f:Int) (h0:0<=i) (h1:i<=l.length) (hl:l.length < 1000000) (f0:0<=f) (f1:f < 1000000):q85 fu (f,()) l (i,xs)=some (some ((zh l (i+f),()),(i,xs))):=by
 show outM l (cond (ilt (iadd .i64 i f) (lenI l)) (cond (inB (iadd .i64 i f) l.length) (cond (ieq (TokT.kind (tkA l (iadd .i64 i f))) 1) (cond (inB (iadd .i64 i f) l.length) (Option.bind (c15 (TokT.text (tkA l (iadd .i64 i f)),())) fun y0=>aM l i xs (!y0.1,())) none) (aM l i xs (false,()))) none) (aM l i xs (false,())))=_
 rw [zN1 h0 h1 hl f0 f1]
 unfold zh
 by_cases h:i+f < (l.length:Int)
 · rw [show ilt (i+f) (lenI l)=true from decide_eq_true h,cond_true]
   rw [show inB (i+f) l.length=true from by unfold inB; simp; omega,cond_true,cond_true,zGx]
   by_cases k1:(tkA l (i+f)).kind=1
   · rw [show decide ((tkA l (i+f)).kind=1)=true from decide_eq_true k1,cond_true,decide_eq_true h,Bool.true_and,Bool.true_and]
     rw [show c15 (TokT.text (tkA l (i+f)),())=some (kwL.contains (tkA l (i+f)).text,()) from rfl,Option.bind_some,qU]
   · rw [show decide ((tkA l (i+f)).kind=1)=false from decide_eq_false k1,cond_false,Bool.false_and,Bool.and_false,qU]
 · rw [show ilt (i+f) (lenI l)=false from decide_eq_false h,cond_false,decide_eq_false h,Bool.false_and,qU]
theorem zK2 (k:Int) (h0:0<=i) (h1:i<=l.length) (hl:l.length < 1000000):q112 fu (k,()) l (i,xs)=some (some ((yn k l i,()),(i,xs))):=by
 show outM l (cond (ilt i (lenI l)) (cond (inB i l.length) (aM l i xs (ieq (TokT.kind (tkA l i)) k,())) none) (aM l i xs (false,())))=_
 unfold yn
 by_cases h:i < (l.length:Int)
 · rw [show ilt i (lenI l)=true from decide_eq_true h,cond_true]
   rw [show inB i l.length=true from by unfold inB; simp; omega,cond_true,zGx,decide_eq_true h,Bool.true_and,qU]
 · rw [show ilt i (lenI l)=false from decide_eq_false h,cond_false,decide_eq_false h,Bool.false_and,qU]
theorem zF8 (h0:0<=i) (h1:i<=l.length) (hl:l.length < 1000000):q73 fu () l (i,xs)=if i < (l.length:Int) then some (some ((Nd.mk 0 i [],()),(i+1,xs))) else some none:=by
 show outM l (cond (ilt i (lenI l)) (aM l (iadd .i64 i 1) xs (Nd.mk 0 (isub .i64 (iadd .i64 i 1) 1) [],())) (some none))=_
 by_cases h:i < (l.length:Int)
 · have e1:iadd .i64 i 1=i+1:=xB _ _ (by omega) (by omega)
   have e2:isub .i64 (i+1) 1=i:=by rw [zGu _ _ (by omega) (by omega)]; omega
   rw [show ilt i (lenI l)=true from decide_eq_true h,cond_true,if_pos h,e1,e2,qU]
 · rw [show ilt i (lenI l)=false from decide_eq_false h,cond_false,if_neg h]
   rfl
theorem zAy {L:List Str} (h:isF L l i=true):i < (l.length:Int):=by
 unfold isF zH at h
 by_cases hh:(l.length:Int)<=i
 · rw [if_pos hh] at h; simp [seq] at h
 · omega
theorem jS (h:zh l i=true):i < (l.length:Int):=by
 unfold zh at h
 simp only [Bool.and_eq_true,decide_eq_true_eq] at h
 exact h.1
theorem zI8 (s:Str) (h0:0<=i) (h1:i<=l.length) (hl:l.length < 1000000):q78 fu (s,()) l (i,xs)=if isF [s] l i=true then some (some ((Nd.mk 0 i [],()),(i+1,xs))) else some none:=by
 show outM l (Option.bind (q54 fu ([s],()) l (i,xs)) fun y0=>zJ y0 (some none) fun y1=>cond y1.1.1 (Option.bind (q73 fu () l (y1.2.1,y1.2.2)) fun y2=>zJ y2 (some none) fun y3=>aM l y3.2.1 y3.2.2 (ndE y3.1.1,())) (some none))=_
 rw [zIv fu [s] (by simp) h0 h1 hl]
 show outM l (cond (isF [s] l i) (Option.bind (q73 fu () l (i,xs)) fun y2=>zJ y2 (some none) fun y3=>aM l y3.2.1 y3.2.2 (ndE y3.1.1,())) (some none))=_
 cases h:isF [s] l i with
 | false=>rfl
 | true=>
  rw [zF8 fu h0 h1 hl,if_pos (zAy h),if_pos rfl]
  exact qU _
theorem q80_eq (h0:0<=i) (h1:i<=l.length) (hl:l.length < 1000000):q80 fu () l (i,xs)=if zh l i=true then some (some ((Nd.mk 0 i [],()),(i+1,xs))) else some none:=by
 show outM l (Option.bind (q85 fu (0,()) l (i,xs)) fun y0=>zJ y0 (some none) fun y1=>cond y1.1.1 (Option.bind (q73 fu () l (y1.2.1,y1.2.2)) fun y2=>zJ y2 (some none) fun y3=>aM l y3.2.1 y3.2.2 (ndE y3.1.1,())) (some none))=_
 rw [zGi fu 0 h0 h1 hl (by omega) (by omega),Int.add_zero]
 show outM l (cond (zh l i) (Option.bind (q73 fu () l (i,xs)) fun y2=>zJ y2 (some none) fun y3=>aM l y3.2.1 y3.2.2 (ndE y3.1.1,())) (some none))=_
 cases h:zh l i with
 | false=>rfl
 | true=>
  rw [zF8 fu h0 h1 hl,if_pos (jS h),if_pos rfl]
  exact qU _
theorem zN5 (f:Int) (h0:0<=i) (h1:i<=l.length) (hl:l.length < 1000000) (f0:0<=f) (f1:f < 1000000) (hx:xs.length < 1000000):q76 fu (f,()) l (i,xs)=some (some ((yy l xs (i+f),()),(i,xs))):=by
 show c76 (q85 fu) (f,()) l (i,xs)=_
 unfold c76
 rw [zGi fu f h0 h1 hl f0 f1]
 dsimp only
 rw [if_pos ⟨rfl,hx,fun h=>⟨h0,f0,jS h,hl⟩⟩]
 rfl
theorem zNX (f:Int) (h0:0<=i) (h1:i<=l.length) (hl:l.length < 1000000) (f0:0<=f) (f1:f < 1000000) (hx:xs.length < 1000000):q84 fu (f,()) l (i,xs)=some (some ((ym l xs (i+f),()),(i,xs))):=by
 have e1:c33 (marksL,zH l (i+f),())=some (marksL.contains (zH l (i+f)),()):=if_pos (show marksL.length < 1000 by decide)
 have e2:c33 (wordsL,zH l (i+f),())=some (wordsL.contains (zH l (i+f)),()):=if_pos (show wordsL.length < 1000 by decide)
 show outM l (Option.bind (q72 fu (f,()) l (i,xs)) fun y0=>zJ y0 (some none) fun y1=>Option.bind (q76 fu (f,()) l (y1.2.1,y1.2.2)) fun y2=>zJ y2 (some none) fun y3=>cond y3.1.1 (aM l y3.2.1 y3.2.2 (true,()))
  (Option.bind (c33 (marksL,y1.1.1,())) fun y4=>cond y4.1 (aM l y3.2.1 y3.2.2 (true,())) (Option.bind (c33 (wordsL,y1.1.1,())) fun y5=>cond y5.1 (aM l y3.2.1 y3.2.2 (true,()))
   (cond (seq y1.1.1 [101,110,117,109]) (aM l y3.2.1 y3.2.2 (true,())) (cond (seq y1.1.1 [115,116,114,117,99,116]) (aM l y3.2.1 y3.2.2 (true,())) (aM l y3.2.1 y3.2.2 (seq y1.1.1 [117,110,105,111,110],())))))))=_
 rw [zGp fu f h0 h1 hl f0 f1]
 show outM l (Option.bind (q76 fu (f,()) l (i,xs)) fun y2=>zJ y2 (some none) fun y3=>cond y3.1.1 (aM l y3.2.1 y3.2.2 (true,()))
  (Option.bind (c33 (marksL,zH l (i+f),())) fun y4=>cond y4.1 (aM l y3.2.1 y3.2.2 (true,())) (Option.bind (c33 (wordsL,zH l (i+f),())) fun y5=>cond y5.1 (aM l y3.2.1 y3.2.2 (true,()))
   (cond (seq (zH l (i+f)) [101,110,117,109]) (aM l y3.2.1 y3.2.2 (true,())) (cond (seq (zH l (i+f)) [115,116,114,117,99,116]) (aM l y3.2.1 y3.2.2 (true,())) (aM l y3.2.1 y3.2.2 (seq (zH l (i+f)) [117,110,105,111,110],())))))))=_
 rw [zN5 fu f h0 h1 hl f0 f1 hx,e1,e2]
 unfold ym
 show outM l (cond (yy l xs (i+f)) (aM l i xs (true,())) (cond (marksL.contains (zH l (i+f))) (aM l i xs (true,())) (cond (wordsL.contains (zH l (i+f))) (aM l i xs (true,()))
  (cond (seq (zH l (i+f)) [101,110,117,109]) (aM l i xs (true,())) (cond (seq (zH l (i+f)) [115,116,114,117,99,116]) (aM l i xs (true,())) (aM l i xs (seq (zH l (i+f)) [117,110,105,111,110],())))))))=_
 cases yy l xs (i+f)
 · cases marksL.contains (zH l (i+f))
   · cases wordsL.contains (zH l (i+f))
     · cases seq (zH l (i+f)) [101,110,117,109]
       · cases seq (zH l (i+f)) [115,116,114,117,99,116] <;> exact qU _
       · exact qU _
     · exact qU _
   · exact qU _
 · exact qU _
end
end
section
open Go.Al Go.Den
mutual
def shN (d:Int):Nd->Nd
 | .mk k p l=>.mk k (if k=0 then p+d else p) (shL d l)
def shL (d:Int):List Nd->List Nd
 | []=>[]
 | x::r=>shN d x::shL d r
end
mutual
/-- The leaves' tokens. -/
def lvN:Nd->List Int
 | .mk k p l=>if k=0 then [p] else lvL l
def lvL:List Nd->List Int
 | []=>[]
 | x::r=>lvN x++lvL r
end
def prK (k kk:Int):Bool:=decide (kk=0) || ((decide (kk=11) && !decide (k=11)) || ((decide (k=4) && (decide (kk=5) || decide (kk=6))) || ((decide (k=9) && decide (kk=10)) || ((decide (k=12) || decide (k=14)) && decide (kk=4)))))
mutual
/-- A leaf has no parts; what has a kind has no token. -/
def okT:Nd->Prop
 | .mk k p l=>(k=0->l=[])/\(k≠0->p=0)/\l.length<=(lvL l).length/\(∀ x,l=[x]->prK k x.kind=true)/\okL l
def okL:List Nd->Prop
 | []=>True
 | x::r=>(okT x/\lvN x≠[])/\okL r
end
theorem zC (d:Int):∀ (a b:List Nd),shL d (a++b)=shL d a++shL d b
 | [],b=>rfl
 | x::a,b=>by rw [List.cons_append,shL,shL,zC d a b]; rfl
theorem zU (d:Int):∀ (a:List Nd),(shL d a).length=a.length
 | []=>rfl
 | x::a=>by rw [shL,List.length_cons,List.length_cons,zU d a]
theorem zGI:∀ (a b:List Nd),lvL (a++b)=lvL a++lvL b
 | [],b=>rfl
 | x::a,b=>by rw [List.cons_append,lvL,lvL,zGI a b,List.append_assoc]
theorem zGh:∀ (a b:List Nd),okL (a++b)↔okL a/\okL b
 | [],b=>by simp [okL]
 | x::a,b=>by rw [List.cons_append,okL,okL,zGh a b]; exact (and_assoc).symm
def jM (a b:Int):List Int:=(List.range (b - a).toNat).map fun k:Nat=>a+(k:Int)
theorem zKU (a:Int):jM a a=[]:=by unfold jM; rw [Int.sub_self]; rfl
theorem kA (a b:Int):(jM a b).length=(b - a).toNat:=by unfold jM; rw [List.length_map,List.length_range]
theorem zMG (a:Int):jM a (a+1)=[a]:=by
 unfold jM
 rw [show a+1 - a=1 by omega]
 show [a+((0:Nat):Int)]=[a]
 simp
theorem zH1 {a m b:Int} (h1:a<=m) (h2:m<=b):jM a m++jM m b=jM a b:=by
 unfold jM
 obtain ⟨x,hx⟩:∃ x:Nat,m=a+x:=⟨(m - a).toNat,by omega⟩
 obtain ⟨y,hy⟩:∃ y:Nat,b=m+y:=⟨(b - m).toNat,by omega⟩
 rw [show (m - a).toNat=x by omega,show (b - m).toNat=y by omega,show (b - a).toNat=x+y by omega,List.range_add,List.map_append,List.map_map]
 congr 1
 refine List.map_congr_left fun k _=>?_
 show m+(k:Int)=a+((x+k:Nat):Int)
 omega
def Tr (a b:Int) (nd:Nd):Prop:=a < b/\lvN nd=jM a b/\okT nd
def Pt (a b:Int) (ps:List Nd):Prop:=a<=b/\lvL ps=jM a b/\okL ps/\(ps.length:Int)<=b - a
theorem Tr.leaf (p:Int):Tr p (p+1) (Nd.mk 0 p []):=⟨by omega,by rw [zMG]; rfl,by simp [okT,okL,lvL]⟩
theorem Tr.lt {a b:Int} {nd:Nd} (h:Tr a b nd):a < b:=h.1
theorem Pt.nil (a:Int):Pt a a []:=⟨by omega,by rw [zKU]; rfl,trivial,by simp⟩
theorem Pt.le {a b:Int} {ps:List Nd} (h:Pt a b ps):a<=b:=h.1
theorem Pt.len {a b:Int} {ps:List Nd} (h:Pt a b ps):(ps.length:Int)<=b - a:=h.2.2.2
theorem Pt.one {a b:Int} {nd:Nd} (h:Tr a b nd):Pt a b [nd]:=⟨Int.le_of_lt h.1,by show lvN nd++[]=_; rw [List.append_nil,h.2.1],⟨⟨h.2.2,fun e=>by
 have h1:=h.1
 have h2:=congrArg List.length h.2.1
 rw [kA,e] at h2
 change 0=_ at h2
 omega⟩,trivial⟩,by have:=h.1; simp; omega⟩
theorem Pt.app {a m b:Int} {ps qs:List Nd} (h:Pt a m ps) (h2:Pt m b qs):Pt a b (ps++qs):=
 ⟨by have:=h.1; have:=h2.1; omega,by rw [zGI,h.2.1,h2.2.1,zH1 h.1 h2.1],(zGh _ _).2 ⟨h.2.2.1,h2.2.2.1⟩,by rw [List.length_append]; have:=h.2.2.2; have:=h2.2.2.2; omega⟩
theorem Pt.cons {a m b:Int} {nd:Nd} {qs:List Nd} (h:Tr a m nd) (h2:Pt m b qs):Pt a b (nd::qs):=(Pt.one h).app h2
theorem Pt.snoc {a m b:Int} {ps:List Nd} {nd:Nd} (h:Pt a m ps) (h2:Tr m b nd):Pt a b (ps++[nd]):=h.app (Pt.one h2)
theorem Tr.mk {a b:Int} {ps:List Nd} {k:Int} (h:Pt a b ps) (hl:a < b) (hk:k≠0) (h1:∀ x,ps=[x]->prK k x.kind=true):Tr a b (Nd.mk k 0 ps):=
 ⟨hl,by show (if k=0 then [0] else lvL ps)=_; rw [if_neg hk,h.2.1],⟨fun e=>absurd e hk,fun _=>rfl,by have h1:=h.len; rw [h.2.1,kA]; omega,h1,h.2.2.1⟩⟩
theorem Pt.ne {a b:Int} {ps:List Nd} (h:Pt a b ps) (hl:a < b):ps≠[]:=fun e=>by
 subst e
 have h2:=congrArg List.length h.2.1
 rw [kA] at h2
 change 0=_ at h2
 omega
section
variable {k:Int} {ps:List Nd} {n n2 n3:Nd}
theorem zLA {x:Nd} (e:ps++[n]=[x]):n=x:=by
 cases ps with
 | nil=>injection e
 | cons a r=>simp at e
theorem zM8 {x:Nd} (e:ps++[n,n2]=[x]):False:=by have:=congrArg List.length e; simp at this
theorem zIo {x:Nd} (e:ps++[n,n2,n3]=[x]):False:=by have:=congrArg List.length e; simp at this
theorem zZ (h:prK k n.kind=true):∀ x,ps++[n]=[x]->prK k x.kind=true:=fun _ e=>zLA e ▸ h
theorem zc (h:prK k n.kind=true):∀ x,[n]=[x]->prK k x.kind=true:=fun _ e=>by injection e with e; exact e ▸ h
theorem zT {kk:Int} (h:n.kind=kk) (h2:prK k kk=true):∀ x,ps++[n]=[x]->prK k x.kind=true:=zZ (h ▸ h2)
theorem za {kk:Int} (h:n.kind=kk) (h2:prK k kk=true):∀ x,[n]=[x]->prK k x.kind=true:=zc (h ▸ h2)
theorem zd:∀ x,ps++[n,n2]=[x]->prK k x.kind=true:=fun _ e=>(zM8 e).elim
theorem zS:∀ x,ps++[n,n2,n3]=[x]->prK k x.kind=true:=fun _ e=>(zIo e).elim
theorem zl (h:ps≠[]):∀ x,ps++[n]=[x]->prK k x.kind=true:=fun _ e=>by
 cases ps with
 | nil=>exact absurd rfl h
 | cons a r=>simp at e
def pk (ps:List Nd):Prop:=∀ x,ps=[x]->x.kind=0\/x.kind=11
theorem xf:pk []:=fun _ e=>by cases e
theorem xi (h:n.kind=0\/n.kind=11):pk [n]:=fun _ e=>by injection e with e; exact e ▸ h
theorem zo (h:n.kind=0\/n.kind=11):pk (ps++[n]):=fun _ e=>zLA e ▸ h
theorem xm:pk (ps++[n,n2]):=fun _ e=>(zM8 e).elim
theorem yw:pk (ps++[n,n2,n3]):=fun _ e=>(zIo e).elim
theorem zj (hk:k≠11) (h:pk ps):∀ x,ps=[x]->prK k x.kind=true:=fun x e=>by
 unfold prK
 rcases h x e with h | h
 · rw [h]; rfl
 · rw [h,decide_eq_false hk]; rfl
end
theorem Pt.empty {a b:Int} (h:Pt a b []):b=a:=by
 obtain ⟨h1,h2,_,_⟩:=h
 have h3:=congrArg List.length h2
 simp only [jM,List.length_map,List.length_range] at h3
 change 0=_ at h3
 omega
theorem zn (d k:Int) (ps:List Nd) (hk:k≠0):shN d (Nd.mk k 0 ps)=Nd.mk k 0 (shL d ps):=by
 show Nd.mk k (if k=0 then 0+d else 0) (shL d ps)=_
 rw [if_neg hk]
def weakW:List Str:=[[99,111,110,115,116],[101,120,116,101,114,110],[105,110,108,105,110,101],[114,101,103,105,115,116,101,114],[115,116,97,116,105,99],[97,117,116,111],[116,121,112,101,100,101,102],[118,111,108,97,116,105,108,101],
 [99,104,97,114],[100,111,117,98,108,101],[102,108,111,97,116],[105,110,116],[108,111,110,103],[115,104,111,114,116],[115,105,103,110,101,100],[117,110,115,105,103,110,101,100],[118,111,105,100],
 [115,116,114,117,99,116],[117,110,105,111,110],[101,110,117,109],[123],[125],[44],[61],[42],[40],[91],[93],[46,46,46],[58],[63],[46],[45,62],[43,43],[45,45],[38],[43],[45],[126],[33],[115,105,122,101,111,102],
 [42,61],[47,61],[37,61],[43,61],[45,61],[60,60,61],[62,62,61],[38,61],[94,61],[124,61],[124,124],[38,38],[124],[94],[61,61],[33,61],[60],[62],[60,61],[62,61],[60,60],[62,62],[47],[37],
 [99,97,115,101],[100,101,102,97,117,108,116],[105,102],[101,108,115,101],[119,104,105,108,101],[115,119,105,116,99,104],[100,111],[102,111,114],[114,101,116,117,114,110],[98,114,101,97,107],[99,111,110,116,105,110,117,101],[103,111,116,111]]
def fullW:List Str:=[[41],[59]]
def lvlF (t:Str):Int:=(sh143 0 (fun _=>false) t).elim 0 fun y=>y.1
structure Sim where
 A:List TokT
 B:List TokT
 d:Int
 Ag:Int->Prop
 SR:List MT->List MT->Prop
 MR:MT->MT->Prop
 TD:Prop
 lo:Int
structure Sim.Ok (W:Sim):Prop where
 lenA:W.A.length<=4000
 lenB:W.B.length < 1000000
 d0:0<=W.d
 lo0:0<=W.lo
 lenAB:(W.A.length:Int)+W.d<=W.B.length
 mono:∀ {a b},a<=b->W.Ag b->W.Ag a
 weak:∀ p,W.lo<=p->p<=(W.A.length:Int)->W.Ag (2 * p+1)->∀ w ∈ weakW,(zH W.A p=w↔zH W.B (p+W.d)=w)
 full:∀ p,W.lo<=p->p<=(W.A.length:Int)->W.Ag (2 * p+2)->∀ w ∈ fullW,(zH W.A p=w↔zH W.B (p+W.d)=w)
 name:∀ p,W.lo<=p->p<=(W.A.length:Int)->W.Ag (2 * p+1)->zh W.A p=zh W.B (p+W.d)
 kind:∀ k p,W.lo<=p->p<=(W.A.length:Int)->W.Ag (2 * p+1)->yn k W.A p=yn k W.B (p+W.d)
 type:∀ p xs ys,W.lo<=p->p<=(W.A.length:Int)->W.SR xs ys->W.Ag (2 * p+1)->yy W.A xs p=yy W.B ys (p+W.d)
 srlen:∀ {xs ys},W.SR xs ys->xs.length=ys.length
 push:∀ {xs ys m m'},W.SR xs ys->W.MR m m'->W.SR (xs++[m]) (ys++[m'])
 mr0:W.MR [] []
 pop:∀ {xs ys m m'},W.SR (xs++[m]) (ys++[m'])->xs≠[]->W.SR xs ys/\W.MR m m'
 dcl:∀ {xs ys m m' p v},W.SR (xs++[m]) (ys++[m'])->W.lo<=p->zh W.A p=true->(v=1\/v=2/\W.TD)->W.SR (xs++[xy m (zH W.A p) v]) (ys++[xy m' (zH W.B (p+W.d)) v])
 nameE:∀ p,W.lo<=p->zh W.A p=true->(zH W.A p=[]↔zH W.B (p+W.d)=[])
 td:∀ p,zH W.A p=[116,121,112,101,100,101,102]->W.TD
structure Pr where
 c54:List Str×Unit->MM (Bool×Unit)
 c72:Int×Unit->MM (Str×Unit)
 c73:Unit->MM (Nd×Unit)
 c76:Int×Unit->MM (Bool×Unit)
 c78:Str×Unit->MM (Nd×Unit)
 c80:Unit->MM (Nd×Unit)
 c84:Int×Unit->MM (Bool×Unit)
 c85:Int×Unit->MM (Bool×Unit)
 c112:Int×Unit->MM (Bool×Unit)
structure Pr.Ok (P:Pr):Prop where
 e54:∀ {l:List TokT} {xs:List MT} {i:Int} (L:List Str),L.length < 1000->0<=i->i<=l.length->l.length < 1000000->P.c54 (L,()) l (i,xs)=some (some ((isF L l i,()),(i,xs)))
 e72:∀ {l:List TokT} {xs:List MT} {i:Int} (f:Int),0<=i->i<=l.length->l.length < 1000000->0<=f->f < 1000000->P.c72 (f,()) l (i,xs)=some (some ((zH l (i+f),()),(i,xs)))
 e85:∀ {l:List TokT} {xs:List MT} {i:Int} (f:Int),0<=i->i<=l.length->l.length < 1000000->0<=f->f < 1000000->P.c85 (f,()) l (i,xs)=some (some ((zh l (i+f),()),(i,xs)))
 e112:∀ {l:List TokT} {xs:List MT} {i:Int} (k:Int),0<=i->i<=l.length->l.length < 1000000->P.c112 (k,()) l (i,xs)=some (some ((yn k l i,()),(i,xs)))
 e73:∀ {l:List TokT} {xs:List MT} {i:Int},0<=i->i<=l.length->l.length < 1000000->P.c73 () l (i,xs)=if i < (l.length:Int) then some (some ((Nd.mk 0 i [],()),(i+1,xs))) else some none
 e78:∀ {l:List TokT} {xs:List MT} {i:Int} (s:Str),0<=i->i<=l.length->l.length < 1000000->P.c78 (s,()) l (i,xs)=if isF [s] l i=true then some (some ((Nd.mk 0 i [],()),(i+1,xs))) else some none
 e80:∀ {l:List TokT} {xs:List MT} {i:Int},0<=i->i<=l.length->l.length < 1000000->P.c80 () l (i,xs)=if zh l i=true then some (some ((Nd.mk 0 i [],()),(i+1,xs))) else some none
 e76:∀ {l:List TokT} {xs:List MT} {i:Int} (f:Int),0<=i->i<=l.length->l.length < 1000000->0<=f->f < 1000000->xs.length < 1000000->P.c76 (f,()) l (i,xs)=some (some ((yy l xs (i+f),()),(i,xs)))
 e84:∀ {l:List TokT} {xs:List MT} {i:Int} (f:Int),0<=i->i<=l.length->l.length < 1000000->0<=f->f < 1000000->xs.length < 1000000->P.c84 (f,()) l (i,xs)=some (some ((ym l xs (i+f),()),(i,xs)))
noncomputable def prF (fu:Nat):Pr:=⟨b54 fu,b72 fu,b73 fu,b76 fu,b78 fu,b80 fu,b84 fu,b85 fu,b112 fu⟩
theorem yY (fu:Nat):(prF fu).Ok where
 e54:=fun L=>zIv fu L
 e72:=fun f=>zGp fu f
 e85:=fun f=>zGi fu f
 e112:=fun k=>zK2 fu k
 e73:=zF8 fu
 e78:=fun s=>zI8 fu s
 e80:=q80_eq fu
 e76:=fun f=>zN5 fu f
 e84:=fun f=>zNX fu f
section
variable (W:Sim)
structure Sta (n:Nat) (p:Int) (xs ys:List MT):Prop where
 p0:W.lo<=p
 p1:p<=(W.A.length:Int)
 n1:1<=n
 hn:xs.length=n
 sr:W.SR xs ys
def NR (s s':Str):Prop:=(s=[]/\s' = [])\/∃ p,W.lo<=p/\zh W.A p=true/\s=zH W.A p/\s' = zH W.B (p+W.d)
def J {ρ:Type} (lev:ρ->Int) (b:Int) (a a':Option (Option ρ)) (Q:ρ->ρ->Prop):Prop:=
 ∃ o,a=some o/\∀ y,o=some y->b<=lev y/\∃ y',Q y y'/\(W.Ag (lev y)->a' = some (some y'))
end
section
variable {W:Sim} {ρ:Type} {lev:ρ->Int} {b:Int} {Q:ρ->ρ->Prop}
theorem z8 {X:Option (Option ρ)}:J W lev b (some none) X Q:=⟨none,rfl,fun y h=>by cases h⟩
theorem zIE {y y':ρ} (h1:b<=lev y) (h2:Q y y'):J W lev b (some (some y)) (some (some y')) Q:=⟨some y,rfl,fun z h=>by injection h with h; subst h; exact ⟨h1,y',h2,fun _=>rfl⟩⟩
theorem J.raise (r:Int) {a a':Option (Option ρ)} (h:J W lev (max b r) a a' Q):J W lev b a a' Q:=by
 obtain ⟨o,h1,h2⟩:=h
 refine ⟨o,h1,fun y hy=>?_⟩
 obtain ⟨h3,h4⟩:=h2 y hy
 exact ⟨by omega,h4⟩
theorem J.low {c:Int} {a a':Option (Option ρ)} (h:J W lev c a a' Q) (hc:b<=c):J W lev b a a' Q:=by
 obtain ⟨o,h1,h2⟩:=h
 refine ⟨o,h1,fun y hy=>?_⟩
 obtain ⟨h3,h4⟩:=h2 y hy
 exact ⟨by omega,h4⟩
theorem J.sub (hW:W.Ok) {a a' a'':Option (Option ρ)} (h:W.Ag b->a' = a'') (hj:J W lev b a a'' Q):J W lev b a a' Q:=by
 obtain ⟨o,h1,h2⟩:=hj
 refine ⟨o,h1,fun y hy=>?_⟩
 obtain ⟨h3,y',h4,h5⟩:=h2 y hy
 exact ⟨h3,y',h4,fun hA=>by rw [h (hW.mono h3 hA)]; exact h5 hA⟩
theorem zAI {c:Bool} {t f t' f':Option (Option ρ)} (h1:c=true->J W lev b t t' Q) (h2:c=false->J W lev b f f' Q):J W lev b (cond c t f) (cond c t' f') Q:=by
 cases c
 · exact h2 rfl
 · exact h1 rfl
theorem yM {k k':Nat} {t t':Option (Option ρ)} (hk:k' = k) (hb:k<=100000) (h:J W lev b t t' Q):J W lev b (cond (okN 40 k) t none) (cond (okN 40 k') t' none) Q:=by
 subst hk
 rw [show okN 40 k' = true from kj (by omega) (by simp [maxLen]; omega),cond_true,cond_true]
 exact h
theorem qz {σ:Type} {F G:(σ->Option (Option ρ))->σ->Option (Option ρ)} (I:Int->σ->σ->Prop) (μ:σ->Nat)
 (step:∀ (rec rec':σ->Option (Option ρ)) b s s',I b s s'->(∀ b' t t',I b' t t'->μ t < μ s->J W lev b' (rec t) (rec' t') Q)->J W lev b (F rec s) (G rec' s') Q) :
 ∀ (n:Nat) b s s',I b s s'->μ s < n->J W lev b (iter n F s) (iter n G s') Q:=by
 intro n
 induction n with
 | zero=>intro b s s' _ h; omega
 | succ n ih=>
  intro b s s' hs hn
  exact step _ _ b s s' hs fun b' t t' ht hlt=>ih b' t t' ht (by omega)
theorem J_bind (hW:W.Ok) {ρ1:Type} {lev1:ρ1->Int} {b1:Int} {Q1:ρ1->ρ1->Prop} {X X':Option (Option ρ1)} {F G:ρ1->Option (Option ρ)} (hX:J W lev1 b1 X X' Q1)
 (h:∀ y y',Q1 y y'->J W lev (max b (lev1 y)) (F y) (G y') Q):J W lev b (Option.bind X fun y0=>zJ y0 (some none) F) (Option.bind X' fun y0=>zJ y0 (some none) G) Q:=by
 obtain ⟨o,rfl,h2⟩:=hX
 cases o with
 | none=>exact ⟨none,rfl,fun y h=>by cases h⟩
 | some y=>
  obtain ⟨h3,y',h4,h5⟩:=h2 y rfl
  obtain ⟨o,h6,h7⟩:=h y y' h4
  refine ⟨o,h6,fun z hz=>?_⟩
  obtain ⟨h8,z',h9,h10⟩:=h7 z hz
  refine ⟨by omega,z',h9,fun hA=>?_⟩
  rw [h5 (hW.mono (by omega) hA)]
  exact h10 hA
end
def SpJ (W:Sim) {β:Type} (κ:Int) (n:Nat) (p:Int) (xs ys:List MT) (f f':MM β) (R:Int->β->β->Prop):Prop:=
 J W (fun y:β×PSt=>2 * y.2.1+κ) (2 * p) (f W.A (p,xs)) (f' W.B (p+W.d,ys)) fun y y'=>Sta W n y.2.1 y.2.2 y'.2.2/\y'.2.1=y.2.1+W.d/\R y.2.1 y.1 y'.1
section
variable {W:Sim} {ρ:Type} {lev:ρ->Int} {b:Int} {Q:ρ->ρ->Prop} {n:Nat} {p:Int} {xs ys:List MT}
theorem qX (hW:W.Ok) {β:Type} {κ:Int} {f f':MM β} {R:Int->β->β->Prop} {F G:β×PSt->Option (Option ρ)} (hs:SpJ W κ n p xs ys f f' R)
 (h:∀ q zs zs' r r',Sta W n q zs zs'->R q r r'->J W lev (max b (2 * q+κ)) (F (r,(q,zs))) (G (r',(q+W.d,zs'))) Q) :
 J W lev b (Option.bind (f W.A (p,xs)) fun y0=>zJ y0 (some none) F) (Option.bind (f' W.B (p+W.d,ys)) fun y0=>zJ y0 (some none) G) Q:=by
 refine J_bind hW hs ?_
 rintro ⟨r,q,zs⟩ ⟨r',q',zs'⟩ ⟨h1,h2,h3⟩
 replace h2:q' = q+W.d:=h2
 subst h2
 exact h q zs zs' r r' h1 h3
variable {P:Pr} {F G:(Bool×Unit)×PSt->Option (Option ρ)}
theorem Sta.ok (hW:W.Ok) (hS:Sta W n p xs ys):0<=p/\p<=(W.A.length:Int)/\W.A.length < 1000000/\0<=p+W.d/\p+W.d<=(W.B.length:Int)/\W.B.length < 1000000/\xs.length=ys.length:=
 ⟨Int.le_trans hW.lo0 hS.p0,hS.p1,by have:=hW.lenA; omega,by have:=hW.d0; have:=hS.p0; have:=hW.lo0; omega,by have:=hW.lenAB; have:=hS.p1; omega,hW.lenB,hW.srlen hS.sr⟩
theorem zG7 {l:List TokT} {L:List Str} {i:Int} (hL:[] ∉ L):isF L l i=decide (zH l i ∈ L):=by
 unfold isF
 by_cases h:zH l i ∈ L
 · have:zH l i≠[]:=fun e=>hL (e ▸ h)
   simp [h,seq,this]
 · simp [h]
theorem zLN {L:List Str} {i:Int} (hL:[] ∉ L) (h:∀ w ∈ L,(zH W.A i=w↔zH W.B (i+W.d)=w)):isF L W.A i=isF L W.B (i+W.d):=by
 rw [zG7 hL,zG7 hL]
 congr 1
 refine propext ⟨fun h1=>?_,fun h1=>?_⟩
 · rw [(h _ h1).1 rfl]; exact h1
 · rw [(h _ h1).2 rfl]; exact h1
theorem zKq (hW:W.Ok) (hS:Sta W n p xs ys) {L:List Str} (hL:(L.all fun w=>weakW.contains w)=true) (hA:W.Ag (2 * p+1)):isF L W.A p=isF L W.B (p+W.d):=by
 have h2:∀ w ∈ L,w ∈ weakW:=fun w hw=>by simpa using List.all_eq_true.1 hL w hw
 exact zLN (fun h=>absurd (h2 _ h) (by decide)) fun w hw=>hW.weak p hS.p0 hS.p1 hA w (h2 w hw)
theorem zLP (hW:W.Ok) (hS:Sta W n p xs ys) {L:List Str} (hL:(L.all fun w=>fullW.contains w)=true) (hA:W.Ag (2 * p+2)):isF L W.A p=isF L W.B (p+W.d):=by
 have h2:∀ w ∈ L,w ∈ fullW:=fun w hw=>by simpa using List.all_eq_true.1 hL w hw
 exact zLN (fun h=>absurd (h2 _ h) (by decide)) fun w hw=>hW.full p hS.p0 hS.p1 hA w (h2 w hw)
theorem J_is (hP:P.Ok) (hW:W.Ok) (hS:Sta W n p xs ys) {L:List Str} (hL:(L.all fun w=>weakW.contains w)=true) (hl:L.length < 1000)
 (h:∀ t,isF L W.A p=t->J W lev (max b (2 * p+1)) (F ((t,()),(p,xs))) (G ((t,()),(p+W.d,ys))) Q) :
 J W lev b (Option.bind (P.c54 (L,()) W.A (p,xs)) fun y0=>zJ y0 (some none) F) (Option.bind (P.c54 (L,()) W.B (p+W.d,ys)) fun y0=>zJ y0 (some none) G) Q:=by
 obtain ⟨h1,h2,h3,h4,h5,h6,_⟩:=hS.ok hW
 have e1:P.c54 (L,()) W.A (p,xs)=_:=hP.e54 L hl h1 h2 h3
 have e2:P.c54 (L,()) W.B (p+W.d,ys)=_:=hP.e54 L hl h4 h5 h6
 rw [e1,e2]
 refine J.raise (2 * p+1) (J.sub hW (a'':=G ((isF L W.A p,()),(p+W.d,ys))) (fun hA=>?_) (h _ rfl))
 show G ((isF L W.B (p+W.d),()),(p+W.d,ys))=_
 rw [zKq hW hS hL (hW.mono (by omega) hA)]
theorem J_isf (hP:P.Ok) (hW:W.Ok) (hS:Sta W n p xs ys) {L:List Str} (hL:(L.all fun w=>fullW.contains w)=true) (hl:L.length < 1000)
 (h:∀ t,isF L W.A p=t->J W lev (max b (2 * p+2)) (F ((t,()),(p,xs))) (G ((t,()),(p+W.d,ys))) Q) :
 J W lev b (Option.bind (P.c54 (L,()) W.A (p,xs)) fun y0=>zJ y0 (some none) F) (Option.bind (P.c54 (L,()) W.B (p+W.d,ys)) fun y0=>zJ y0 (some none) G) Q:=by
 obtain ⟨h1,h2,h3,h4,h5,h6,_⟩:=hS.ok hW
 have e1:P.c54 (L,()) W.A (p,xs)=_:=hP.e54 L hl h1 h2 h3
 have e2:P.c54 (L,()) W.B (p+W.d,ys)=_:=hP.e54 L hl h4 h5 h6
 rw [e1,e2]
 refine J.raise (2 * p+2) (J.sub hW (a'':=G ((isF L W.A p,()),(p+W.d,ys))) (fun hA=>?_) (h _ rfl))
 show G ((isF L W.B (p+W.d),()),(p+W.d,ys))=_
 rw [zLP hW hS hL (hW.mono (by omega) hA)]
theorem zNP (hP:P.Ok) (hW:W.Ok) (hS:Sta W n p xs ys) {F G:(Str×Unit)×PSt->Option (Option ρ)} (f:Int) (f0:0<=f) (f1:f < 1000000)
 (h:J W lev b (F ((zH W.A (p+f),()),(p,xs))) (G ((zH W.B (p+f+W.d),()),(p+W.d,ys))) Q) :
 J W lev b (Option.bind (P.c72 (f,()) W.A (p,xs)) fun y0=>zJ y0 (some none) F) (Option.bind (P.c72 (f,()) W.B (p+W.d,ys)) fun y0=>zJ y0 (some none) G) Q:=by
 obtain ⟨h1,h2,h3,h4,h5,h6,_⟩:=hS.ok hW
 have e1:P.c72 (f,()) W.A (p,xs)=_:=hP.e72 f h1 h2 h3 f0 f1
 have e2:P.c72 (f,()) W.B (p+W.d,ys)=_:=hP.e72 f h4 h5 h6 f0 f1
 rw [e1,e2]
 rw [show p+W.d+f=p+f+W.d by omega]
 exact h
theorem zAT (hP:P.Ok) (hW:W.Ok) (hS:Sta W n p xs ys) {F G:(Str×Unit)×PSt->Option (Option ρ)}
 (h:J W lev b (F ((zH W.A p,()),(p,xs))) (G ((zH W.B (p+W.d),()),(p+W.d,ys))) Q) :
 J W lev b (Option.bind (P.c72 (0,()) W.A (p,xs)) fun y0=>zJ y0 (some none) F) (Option.bind (P.c72 (0,()) W.B (p+W.d,ys)) fun y0=>zJ y0 (some none) G) Q:=
 zNP hP hW hS 0 (by omega) (by omega) (by rw [Int.add_zero]; exact h)
theorem zAb (hP:P.Ok) (hW:W.Ok) (hS:Sta W n p xs ys) {F G:(Str×Unit)×PSt->Option (Option ρ)}
 (h:J W lev b (F ((zH W.A (p+1),()),(p,xs))) (G ((zH W.B (p+1+W.d),()),(p+W.d,ys))) Q) :
 J W lev b (Option.bind (P.c72 (1,()) W.A (p,xs)) fun y0=>zJ y0 (some none) F) (Option.bind (P.c72 (1,()) W.B (p+W.d,ys)) fun y0=>zJ y0 (some none) G) Q:=
 zNP hP hW hS 1 (by omega) (by omega) h
theorem zIP (hW:W.Ok) {w:Str} {t f t' f':Option (Option ρ)} (q:Int) (q0:W.lo<=q) (q1:q<=(W.A.length:Int)) (hw:weakW.contains w=true)
 (h1:zH W.A q=w->J W lev (max b (2 * q+1)) t t' Q) (h2:zH W.A q≠w->J W lev (max b (2 * q+1)) f f' Q) :
 J W lev b (cond (seq (zH W.A q) w) t f) (cond (seq (zH W.B (q+W.d)) w) t' f') Q:=by
 refine J.raise (2 * q+1) (J.sub hW (a'':=cond (seq (zH W.A q) w) t' f') (fun hA=>?_) (zAI (fun e=>h1 ?_) fun e=>h2 ?_))
 · have:=hW.weak q q0 q1 (hW.mono (by omega) hA) w (by simpa using hw)
   rw [xd,xd]
   congr 1
   simp only [this]
 · rw [xd] at e; exact of_decide_eq_true e
 · rw [xd] at e; exact of_decide_eq_false e
theorem J_seqf (hW:W.Ok) {w:Str} {t f t' f':Option (Option ρ)} (q:Int) (q0:W.lo<=q) (q1:q<=(W.A.length:Int)) (hw:fullW.contains w=true)
 (h1:zH W.A q=w->J W lev (max b (2 * q+2)) t t' Q) (h2:zH W.A q≠w->J W lev (max b (2 * q+2)) f f' Q) :
 J W lev b (cond (seq (zH W.A q) w) t f) (cond (seq (zH W.B (q+W.d)) w) t' f') Q:=by
 refine J.raise (2 * q+2) (J.sub hW (a'':=cond (seq (zH W.A q) w) t' f') (fun hA=>?_) (zAI (fun e=>h1 ?_) fun e=>h2 ?_))
 · have:=hW.full q q0 q1 (hW.mono (by omega) hA) w (by simpa using hw)
   rw [xd,xd]
   congr 1
   simp only [this]
 · rw [xd] at e; exact of_decide_eq_true e
 · rw [xd] at e; exact of_decide_eq_false e
theorem zFq {L:List Str} {i:Int} (h:∀ w ∈ L,(zH W.A i=w↔zH W.B (i+W.d)=w)):L.contains (zH W.A i)=L.contains (zH W.B (i+W.d)):=by
 rw [List.contains_eq_mem,List.contains_eq_mem]
 congr 1
 refine propext ⟨fun h1=>?_,fun h1=>?_⟩
 · rw [(h _ h1).1 rfl]; exact h1
 · rw [(h _ h1).2 rfl]; exact h1
theorem J_c33 (hW:W.Ok) {L:List Str} {F G:Bool×Unit->Option (Option ρ)} (q:Int) (q0:W.lo<=q) (q1:q<=(W.A.length:Int)) (hL:(L.all fun w=>weakW.contains w)=true) (hl:L.length < 1000)
 (h:∀ t,L.contains (zH W.A q)=t->J W lev (max b (2 * q+1)) (F (t,())) (G (t,())) Q) :
 J W lev b (Option.bind (c33 (L,(zH W.A q,()))) F) (Option.bind (c33 (L,(zH W.B (q+W.d),()))) G) Q:=by
 have e1:c33 (L,(zH W.A q,()))=some (L.contains (zH W.A q),()):=if_pos hl
 have e2:c33 (L,(zH W.B (q+W.d),()))=some (L.contains (zH W.B (q+W.d)),()):=if_pos hl
 rw [e1,e2]
 refine J.raise (2 * q+1) (J.sub hW (a'':=G (L.contains (zH W.A q),())) (fun hA=>?_) (h _ rfl))
 have h2:∀ w ∈ L,w ∈ weakW:=fun w hw=>by simpa using List.all_eq_true.1 hL w hw
 have e3:=zFq (L:=L) (i:=q) fun w hw=>hW.weak q q0 q1 (hW.mono (by omega) hA) w (h2 w hw)
 show G (L.contains (zH W.B (q+W.d)),())=_
 rw [e3]
theorem zPR {q:Int} (h:∀ w ∈ weakW,(zH W.A q=w↔zH W.B (q+W.d)=w)):lvlF (zH W.A q)=lvlF (zH W.B (q+W.d)):=by
 have hs:∀ w ∈ weakW,seq (zH W.A q) w=seq (zH W.B (q+W.d)) w:=fun w hw=>by
  rw [xd,xd]; congr 1; simp only [h w hw]
 unfold lvlF sh143
 rw [hs [124,124] (by decide),hs [38,38] (by decide),hs [124] (by decide),hs [94] (by decide),hs [38] (by decide),hs [61,61] (by decide),hs [33,61] (by decide),hs [60] (by decide),hs [62] (by decide),hs [60,61] (by decide),hs [62,61] (by decide),hs [60,60] (by decide),hs [62,62] (by decide),hs [43] (by decide),hs [45] (by decide),hs [42] (by decide),hs [47] (by decide),hs [37] (by decide)]
theorem zGt (t:Str):c143 (t,())=some (lvlF t,()):=by
 show sh143 0 (fun _=>false) t=some ((sh143 0 (fun _=>false) t).elim 0 fun y=>y.1,())
 have:∃ k,sh143 0 (fun _=>false) t=some (k,()):=by
  unfold sh143
  repeat (first | exact ⟨_,rfl⟩ | (rename_i c; fail) | (refine (show ∀ (c:Bool) (x y:Option (Int×Unit)),(∃ k,x=some (k,()))->(∃ k,y=some (k,()))->∃ k,cond c x y=some (k,()) from fun c x y h1 h2=>by cases c; exact h2; exact h1) _ _ _ ⟨_,rfl⟩ ?_))
 obtain ⟨k,hk⟩:=this
 rw [hk]; rfl
theorem J_c143 (hW:W.Ok) {F G:Int×Unit->Option (Option ρ)} (q:Int) (q0:W.lo<=q) (q1:q<=(W.A.length:Int))
 (h:J W lev (max b (2 * q+1)) (F (lvlF (zH W.A q),())) (G (lvlF (zH W.A q),())) Q) :
 J W lev b (Option.bind (c143 (zH W.A q,())) F) (Option.bind (c143 (zH W.B (q+W.d),())) G) Q:=by
 rw [zGt,zGt]
 refine J.raise (2 * q+1) (J.sub hW (a'':=G (lvlF (zH W.A q),())) (fun hA=>?_) h)
 show G (lvlF (zH W.B (q+W.d)),())=_
 rw [zPR (hW.weak q q0 q1 (hW.mono (by omega) hA))]
theorem zQz (hP:P.Ok) (hW:W.Ok) (hS:Sta W n p xs ys) (h:∀ t,zh W.A p=t->J W lev (max b (2 * p+1)) (F ((t,()),(p,xs))) (G ((t,()),(p+W.d,ys))) Q) :
 J W lev b (Option.bind (P.c85 (0,()) W.A (p,xs)) fun y0=>zJ y0 (some none) F) (Option.bind (P.c85 (0,()) W.B (p+W.d,ys)) fun y0=>zJ y0 (some none) G) Q:=by
 obtain ⟨h1,h2,h3,h4,h5,h6,_⟩:=hS.ok hW
 have e1:P.c85 (0,()) W.A (p,xs)=some (some ((zh W.A (p+0),()),(p,xs))):=hP.e85 0 h1 h2 h3 (by omega) (by omega)
 have e2:P.c85 (0,()) W.B (p+W.d,ys)=some (some ((zh W.B (p+W.d+0),()),(p+W.d,ys))):=hP.e85 0 h4 h5 h6 (by omega) (by omega)
 rw [e1,e2,Int.add_zero,Int.add_zero]
 refine J.raise (2 * p+1) (J.sub hW (a'':=G ((zh W.A p,()),(p+W.d,ys))) (fun hA=>?_) (h _ rfl))
 show G ((zh W.B (p+W.d),()),(p+W.d,ys))=_
 rw [hW.name p hS.p0 h2 (hW.mono (by omega) hA)]
theorem zQD (hP:P.Ok) (hW:W.Ok) (hS:Sta W n p xs ys) (hp:p < (W.A.length:Int)) (h:∀ t,zh W.A (p+1)=t->J W lev (max b (2 * (p+1)+1)) (F ((t,()),(p,xs))) (G ((t,()),(p+W.d,ys))) Q) :
 J W lev b (Option.bind (P.c85 (1,()) W.A (p,xs)) fun y0=>zJ y0 (some none) F) (Option.bind (P.c85 (1,()) W.B (p+W.d,ys)) fun y0=>zJ y0 (some none) G) Q:=by
 obtain ⟨h1,h2,h3,h4,h5,h6,_⟩:=hS.ok hW
 have e1:P.c85 (1,()) W.A (p,xs)=some (some ((zh W.A (p+1),()),(p,xs))):=hP.e85 1 h1 h2 h3 (by omega) (by omega)
 have e2:P.c85 (1,()) W.B (p+W.d,ys)=some (some ((zh W.B (p+W.d+1),()),(p+W.d,ys))):=hP.e85 1 h4 h5 h6 (by omega) (by omega)
 rw [e1,e2,show p+W.d+1=p+1+W.d by omega]
 refine J.raise (2 * (p+1)+1) (J.sub hW (a'':=G ((zh W.A (p+1),()),(p+W.d,ys))) (fun hA=>?_) (h _ rfl))
 show G ((zh W.B (p+1+W.d),()),(p+W.d,ys))=_
 rw [hW.name (p+1) (by have:=hS.p0; omega) (by omega) (hW.mono (by omega) hA)]
theorem J_kind (hP:P.Ok) (hW:W.Ok) (hS:Sta W n p xs ys) (k:Int) (h:∀ t,yn k W.A p=t->J W lev (max b (2 * p+1)) (F ((t,()),(p,xs))) (G ((t,()),(p+W.d,ys))) Q) :
 J W lev b (Option.bind (P.c112 (k,()) W.A (p,xs)) fun y0=>zJ y0 (some none) F) (Option.bind (P.c112 (k,()) W.B (p+W.d,ys)) fun y0=>zJ y0 (some none) G) Q:=by
 obtain ⟨h1,h2,h3,h4,h5,h6,_⟩:=hS.ok hW
 have e1:P.c112 (k,()) W.A (p,xs)=_:=hP.e112 k h1 h2 h3
 have e2:P.c112 (k,()) W.B (p+W.d,ys)=_:=hP.e112 k h4 h5 h6
 rw [e1,e2]
 refine J.raise (2 * p+1) (J.sub hW (a'':=G ((yn k W.A p,()),(p+W.d,ys))) (fun hA=>?_) (h _ rfl))
 show G ((yn k W.B (p+W.d),()),(p+W.d,ys))=_
 rw [hW.kind k p hS.p0 h2 (hW.mono (by omega) hA)]
theorem Sta.small (hW:W.Ok) (hS:Sta W n p xs ys) (hn:(n:Int)<=2 * p+3):xs.length < 1000000/\ys.length < 1000000:=by
 have:=hS.p1; have:=hW.lenA; have:=hS.hn; have:=hW.srlen hS.sr
 omega
theorem zMg (hP:P.Ok) (hW:W.Ok) (hS:Sta W n p xs ys) (hn:(n:Int)<=2 * p+3) (f:Int) (f0:0<=f) (f1:f < 1000000) (hp:p+f<=(W.A.length:Int)) (h:∀ t,yy W.A xs (p+f)=t->J W lev (max b (2 * (p+f)+1)) (F ((t,()),(p,xs))) (G ((t,()),(p+W.d,ys))) Q) :
 J W lev b (Option.bind (P.c76 (f,()) W.A (p,xs)) fun y0=>zJ y0 (some none) F) (Option.bind (P.c76 (f,()) W.B (p+W.d,ys)) fun y0=>zJ y0 (some none) G) Q:=by
 obtain ⟨h1,h2,h3,h4,h5,h6,_⟩:=hS.ok hW
 obtain ⟨h7,h8⟩:=hS.small hW hn
 have e1:P.c76 (f,()) W.A (p,xs)=_:=hP.e76 f h1 h2 h3 f0 f1 h7
 have e2:P.c76 (f,()) W.B (p+W.d,ys)=_:=hP.e76 f h4 h5 h6 f0 f1 h8
 rw [e1,e2,show p+W.d+f=p+f+W.d by omega]
 refine J.raise (2 * (p+f)+1) (J.sub hW (a'':=G ((yy W.A xs (p+f),()),(p+W.d,ys))) (fun hA=>?_) (h _ rfl))
 show G ((yy W.B ys (p+f+W.d),()),(p+W.d,ys))=_
 rw [hW.type (p+f) xs ys (by have:=hS.p0; omega) hp hS.sr (hW.mono (by omega) hA)]
theorem zQq (hP:P.Ok) (hW:W.Ok) (hS:Sta W n p xs ys) (hn:(n:Int)<=2 * p+3) (h:∀ t,yy W.A xs p=t->J W lev (max b (2 * p+1)) (F ((t,()),(p,xs))) (G ((t,()),(p+W.d,ys))) Q) :
 J W lev b (Option.bind (P.c76 (0,()) W.A (p,xs)) fun y0=>zJ y0 (some none) F) (Option.bind (P.c76 (0,()) W.B (p+W.d,ys)) fun y0=>zJ y0 (some none) G) Q:=
 zMg hP hW hS hn 0 (by omega) (by omega) (by have:=hS.p1; omega) (by rw [Int.add_zero]; exact h)
theorem zGc (hW:W.Ok) {q:Int} (q0:W.lo<=q) (q1:q<=(W.A.length:Int)) (hS:W.SR xs ys) (hA:W.Ag (2 * q+1)):ym W.A xs q=ym W.B ys (q+W.d):=by
 unfold ym
 have hs:∀ w ∈ weakW,seq (zH W.A q) w=seq (zH W.B (q+W.d)) w:=fun w hw=>by
  rw [xd,xd]; congr 1; simp only [hW.weak q q0 q1 hA w hw]
 rw [hW.type q xs ys q0 q1 hS hA,zFq (L:=marksL) fun w hw=>hW.weak q q0 q1 hA w ((show ∀ w ∈ marksL,w ∈ weakW by decide) w hw),zFq (L:=wordsL) fun w hw=>hW.weak q q0 q1 hA w ((show ∀ w ∈ wordsL,w ∈ weakW by decide) w hw),
  hs _ (by decide),hs [115,116,114,117,99,116] (by decide),hs [117,110,105,111,110] (by decide)]
theorem zKn (hP:P.Ok) (hW:W.Ok) (hS:Sta W n p xs ys) (hn:(n:Int)<=2 * p+3) (f:Int) (f0:0<=f) (f1:f < 1000000) (hp:p+f<=(W.A.length:Int)) (h:∀ t,ym W.A xs (p+f)=t->J W lev (max b (2 * (p+f)+1)) (F ((t,()),(p,xs))) (G ((t,()),(p+W.d,ys))) Q) :
 J W lev b (Option.bind (P.c84 (f,()) W.A (p,xs)) fun y0=>zJ y0 (some none) F) (Option.bind (P.c84 (f,()) W.B (p+W.d,ys)) fun y0=>zJ y0 (some none) G) Q:=by
 obtain ⟨h1,h2,h3,h4,h5,h6,_⟩:=hS.ok hW
 obtain ⟨h7,h8⟩:=hS.small hW hn
 have e1:P.c84 (f,()) W.A (p,xs)=_:=hP.e84 f h1 h2 h3 f0 f1 h7
 have e2:P.c84 (f,()) W.B (p+W.d,ys)=_:=hP.e84 f h4 h5 h6 f0 f1 h8
 rw [e1,e2,show p+W.d+f=p+f+W.d by omega]
 refine J.raise (2 * (p+f)+1) (J.sub hW (a'':=G ((ym W.A xs (p+f),()),(p+W.d,ys))) (fun hA=>?_) (h _ rfl))
 show G ((ym W.B ys (p+f+W.d),()),(p+W.d,ys))=_
 rw [zGc hW (by have:=hS.p0; omega) hp hS.sr (hW.mono (by omega) hA)]
theorem zO0 (hP:P.Ok) (hW:W.Ok) (hS:Sta W n p xs ys) (hn:(n:Int)<=2 * p+3) (h:∀ t,ym W.A xs p=t->J W lev (max b (2 * p+1)) (F ((t,()),(p,xs))) (G ((t,()),(p+W.d,ys))) Q) :
 J W lev b (Option.bind (P.c84 (0,()) W.A (p,xs)) fun y0=>zJ y0 (some none) F) (Option.bind (P.c84 (0,()) W.B (p+W.d,ys)) fun y0=>zJ y0 (some none) G) Q:=
 zKn hP hW hS hn 0 (by omega) (by omega) (by have:=hS.p1; omega) (by rw [Int.add_zero]; exact h)
theorem Sta.step (hS:Sta W n p xs ys) (hp:p < (W.A.length:Int)):Sta W n (p+1) xs ys:=⟨by have:=hS.p0; omega,by omega,hS.n1,hS.hn,hS.sr⟩
variable {F' G':(Nd×Unit)×PSt->Option (Option ρ)}
theorem yI (hP:P.Ok) (hW:W.Ok) (hS:Sta W n p xs ys) (h:p < (W.A.length:Int)->Sta W n (p+1) xs ys->Tr p (p+1) (Nd.mk 0 p [])->J W lev (max b (2 * p+2)) (F' ((Nd.mk 0 p [],()),(p+1,xs))) (G' ((shN W.d (Nd.mk 0 p []),()),(p+1+W.d,ys))) Q) :
 J W lev b (Option.bind (P.c73 () W.A (p,xs)) fun y0=>zJ y0 (some none) F') (Option.bind (P.c73 () W.B (p+W.d,ys)) fun y0=>zJ y0 (some none) G') Q:=by
 obtain ⟨h1,h2,h3,h4,h5,h6,_⟩:=hS.ok hW
 have e1:P.c73 () W.A (p,xs)=_:=hP.e73 h1 h2 h3
 have e2:P.c73 () W.B (p+W.d,ys)=_:=hP.e73 h4 h5 h6
 rw [e1,e2]
 by_cases hp:p < (W.A.length:Int)
 · rw [if_pos hp,if_pos (by have:=hW.lenAB; omega),show p+W.d+1=p+1+W.d by omega]
   exact J.raise (2 * p+2) (h hp (hS.step hp) (Tr.leaf p))
 · rw [if_neg hp]
   exact z8
theorem yg (hP:P.Ok) (hW:W.Ok) (hS:Sta W n p xs ys) {s:Str} (hs:weakW.contains s=true) (h:p < (W.A.length:Int)->Sta W n (p+1) xs ys->Tr p (p+1) (Nd.mk 0 p [])->J W lev (max b (2 * p+2)) (F' ((Nd.mk 0 p [],()),(p+1,xs))) (G' ((shN W.d (Nd.mk 0 p []),()),(p+1+W.d,ys))) Q) :
 J W lev b (Option.bind (P.c78 (s,()) W.A (p,xs)) fun y0=>zJ y0 (some none) F') (Option.bind (P.c78 (s,()) W.B (p+W.d,ys)) fun y0=>zJ y0 (some none) G') Q:=by
 obtain ⟨h1,h2,h3,h4,h5,h6,_⟩:=hS.ok hW
 have e1:P.c78 (s,()) W.A (p,xs)=_:=hP.e78 s h1 h2 h3
 have e2:P.c78 (s,()) W.B (p+W.d,ys)=_:=hP.e78 s h4 h5 h6
 rw [e1,e2]
 by_cases hp:isF [s] W.A p=true
 · rw [if_pos hp,show p+W.d+1=p+1+W.d by omega]
   refine J.raise (2 * p+2) (J.sub hW (fun hA=>?_) (h (zAy hp) (hS.step (zAy hp)) (Tr.leaf p)))
   rw [if_pos (by rw [<- zKq hW hS (L:=[s]) (by rw [List.all_cons,hs]; rfl) (hW.mono (by omega) hA)]; exact hp)]
   rfl
 · rw [if_neg hp]
   exact z8
theorem yX (hP:P.Ok) (hW:W.Ok) (hS:Sta W n p xs ys) {s:Str} (hs:fullW.contains s=true) (h:p < (W.A.length:Int)->Sta W n (p+1) xs ys->Tr p (p+1) (Nd.mk 0 p [])->J W lev (max b (2 * p+2)) (F' ((Nd.mk 0 p [],()),(p+1,xs))) (G' ((shN W.d (Nd.mk 0 p []),()),(p+1+W.d,ys))) Q) :
 J W lev b (Option.bind (P.c78 (s,()) W.A (p,xs)) fun y0=>zJ y0 (some none) F') (Option.bind (P.c78 (s,()) W.B (p+W.d,ys)) fun y0=>zJ y0 (some none) G') Q:=by
 obtain ⟨h1,h2,h3,h4,h5,h6,_⟩:=hS.ok hW
 have e1:P.c78 (s,()) W.A (p,xs)=_:=hP.e78 s h1 h2 h3
 have e2:P.c78 (s,()) W.B (p+W.d,ys)=_:=hP.e78 s h4 h5 h6
 rw [e1,e2]
 by_cases hp:isF [s] W.A p=true
 · rw [if_pos hp,show p+W.d+1=p+1+W.d by omega]
   refine J.raise (2 * p+2) (J.sub hW (fun hA=>?_) (h (zAy hp) (hS.step (zAy hp)) (Tr.leaf p)))
   rw [if_pos (by rw [<- zLP hW hS (L:=[s]) (by rw [List.all_cons,hs]; rfl) (hW.mono (by omega) hA)]; exact hp)]
   rfl
 · rw [if_neg hp]
   exact z8
theorem zAm (hP:P.Ok) (hW:W.Ok) (hS:Sta W n p xs ys) (h:zh W.A p=true->p < (W.A.length:Int)->Sta W n (p+1) xs ys->Tr p (p+1) (Nd.mk 0 p [])->J W lev (max b (2 * p+2)) (F' ((Nd.mk 0 p [],()),(p+1,xs))) (G' ((shN W.d (Nd.mk 0 p []),()),(p+1+W.d,ys))) Q) :
 J W lev b (Option.bind (P.c80 () W.A (p,xs)) fun y0=>zJ y0 (some none) F') (Option.bind (P.c80 () W.B (p+W.d,ys)) fun y0=>zJ y0 (some none) G') Q:=by
 obtain ⟨h1,h2,h3,h4,h5,h6,_⟩:=hS.ok hW
 have e1:P.c80 () W.A (p,xs)=_:=hP.e80 h1 h2 h3
 have e2:P.c80 () W.B (p+W.d,ys)=_:=hP.e80 h4 h5 h6
 rw [e1,e2]
 by_cases hp:zh W.A p=true
 · rw [if_pos hp,show p+W.d+1=p+1+W.d by omega]
   refine J.raise (2 * p+2) (J.sub hW (fun hA=>?_) (h hp (jS hp) (hS.step (jS hp)) (Tr.leaf p)))
   rw [if_pos (by rw [<- hW.name p hS.p0 h2 (hW.mono (by omega) hA)]; exact hp)]
   rfl
 · rw [if_neg hp]
   exact z8
theorem zBh {xs:List MT} (h:1<=xs.length):∃ l m,xs=l++[m]/\l.length+1=xs.length:=by
 rcases List.eq_nil_or_concat xs with rfl | ⟨l,m,rfl⟩
 · simp at h
 · exact ⟨l,m,List.concat_eq_append,by simp⟩
variable {F1 G1:Unit×PSt->Option (Option ρ)}
theorem zAC (hW:W.Ok) (hS:Sta W n p xs ys) (hn:(n:Int)<=2 * p+3) {m m':MT} (hm:W.MR m m') (h:∀ zs zs',Sta W (n+1) p zs zs'->J W lev b (F1 ((),(p,zs))) (G1 ((),(p+W.d,zs'))) Q) :
 J W lev b (Option.bind (c59 (some m,()) W.A (p,xs)) fun y0=>zJ y0 (some none) F1) (Option.bind (c59 (some m',()) W.B (p+W.d,ys)) fun y0=>zJ y0 (some none) G1) Q:=by
 obtain ⟨h7,h8⟩:=hS.small hW hn
 have e1:c59 (some m,()) W.A (p,xs)=some (some ((),(p,xs++[m]))):=if_pos h7
 have e2:c59 (some m',()) W.B (p+W.d,ys)=some (some ((),(p+W.d,ys++[m']))):=if_pos h8
 rw [e1,e2]
 exact h _ _ ⟨hS.p0,hS.p1,by omega,by rw [List.length_append,hS.hn]; rfl,hW.push hS.sr hm⟩
variable {F2 G2:(Option MT×Unit)×PSt->Option (Option ρ)}
theorem zGM (hW:W.Ok) (hS:Sta W (n+1) p xs ys) (hn:1<=n) (h9:(n:Int)<=2 * p+2) (h:∀ m m' zs zs',W.MR m m'->Sta W n p zs zs'->J W lev b (F2 ((some m,()),(p,zs))) (G2 ((some m',()),(p+W.d,zs'))) Q) :
 J W lev b (Option.bind (c61 () W.A (p,xs)) fun y0=>zJ y0 (some none) F2) (Option.bind (c61 () W.B (p+W.d,ys)) fun y0=>zJ y0 (some none) G2) Q:=by
 obtain ⟨h7,h8⟩:=hS.small hW (by omega)
 have hl:=hW.srlen hS.sr
 have hn':=hS.hn
 obtain ⟨l,m,rfl,e1⟩:=zBh (xs:=xs) (by omega)
 obtain ⟨l',m',rfl,e2⟩:=zBh (xs:=ys) (by omega)
 have e3:c61 () W.A (p,l++[m])=some (some ((some m,()),(p,l))):=by
  unfold c61; rw [if_pos h7]; simp
 have e4:c61 () W.B (p+W.d,l' ++ [m'])=some (some ((some m',()),(p+W.d,l'))):=by
  unfold c61; rw [if_pos h8]; simp
 rw [e3,e4]
 obtain ⟨k1,k2⟩:=hW.pop hS.sr (fun e=>by subst e; simp at hn'; omega)
 exact h m m' l l' k2 ⟨hS.p0,hS.p1,hn,by omega,k1⟩
theorem zII (hW:W.Ok) (hS:Sta W n p xs ys) (hn:(n:Int)<=2 * p+3) {s s':Str} {t:Bool} (hs:NR W s s') (ht:t=true->W.TD) (h:∀ zs zs',Sta W n p zs zs'->J W lev b (F1 ((),(p,zs))) (G1 ((),(p+W.d,zs'))) Q) :
 J W lev b (Option.bind (c58 (s,(t,())) W.A (p,xs)) fun y0=>zJ y0 (some none) F1) (Option.bind (c58 (s',(t,())) W.B (p+W.d,ys)) fun y0=>zJ y0 (some none) G1) Q:=by
 obtain ⟨h7,h8⟩:=hS.small hW hn
 have skip:∀ {s:Str} {l:List TokT} {i:Int} {zs:List MT},s=[]->c58 (s,(t,())) l (i,zs)=some (some ((),(i,zs))):=fun e=>if_pos e
 by_cases e0:s=[]
 · have e1:s' = []:=by
    rcases hs with ⟨_,h2⟩ | ⟨q,q0,h1,h2,h3⟩
    · exact h2
    · rw [h3]; exact (hW.nameE q q0 h1).1 (h2 ▸ e0)
   rw [skip e0,skip e1]
   exact h _ _ hS
 · obtain ⟨q,hq0,hq1,hq2,hq3⟩:∃ q,W.lo<=q/\zh W.A q=true/\s=zH W.A q/\s' = zH W.B (q+W.d):=by
    rcases hs with ⟨h2,_⟩ | h2
    · exact absurd h2 e0
    · exact h2
   have e1:s'≠[]:=fun e=>e0 (by rw [hq2]; exact (hW.nameE q hq0 hq1).2 (hq3 ▸ e))
   have hl:=hW.srlen hS.sr
   have hn':=hS.hn
   have h1n:=hS.n1
   obtain ⟨l,m,rfl,e2⟩:=zBh (xs:=xs) (by omega)
   obtain ⟨l',m',rfl,e3⟩:=zBh (xs:=ys) (by omega)
   have go:∀ {s:Str} {l:List TokT} {i:Int} {zs:List MT} {m:MT},s≠[]->(zs++[m]).length < 1000000->c58 (s,(t,())) l (i,zs++[m])=some (some ((),(i,zs++[xy m s (if t=true then 2 else 1)]))):=fun e hh=>by
    unfold c58; rw [if_neg e,if_pos hh]; simp
   rw [go e0 h7,go e1 h8]
   refine h _ _ ⟨hS.p0,hS.p1,h1n,by rw [List.length_append] at hn' ⊢; exact hn',?_⟩
   rw [hq2,hq3]
   refine hW.dcl hS.sr hq0 hq1 ?_
   cases t
   · exact .inl rfl
   · exact .inr ⟨rfl,ht rfl⟩
theorem yx (hP:P.Ok) (hW:W.Ok) (hS:Sta W n p xs ys) {L:List Str} (hL:(L.all fun w=>weakW.contains w)=true) (hl:L.length < 1000)
 (h1:isF L W.A p=true->p < (W.A.length:Int)->J W lev (max b (2 * p+1)) (F ((true,()),(p,xs))) (G ((true,()),(p+W.d,ys))) Q)
 (h0:isF L W.A p=false->J W lev (max b (2 * p+1)) (F ((false,()),(p,xs))) (G ((false,()),(p+W.d,ys))) Q) :
 J W lev b (Option.bind (P.c54 (L,()) W.A (p,xs)) fun y0=>zJ y0 (some none) F) (Option.bind (P.c54 (L,()) W.B (p+W.d,ys)) fun y0=>zJ y0 (some none) G) Q:=
 J_is hP hW hS hL hl fun t ht=>by cases t; exact h0 ht; exact h1 ht (zAy ht)
theorem yO (hP:P.Ok) (hW:W.Ok) (hS:Sta W n p xs ys) {L:List Str} (hL:(L.all fun w=>fullW.contains w)=true) (hl:L.length < 1000)
 (h1:isF L W.A p=true->p < (W.A.length:Int)->J W lev (max b (2 * p+2)) (F ((true,()),(p,xs))) (G ((true,()),(p+W.d,ys))) Q)
 (h0:isF L W.A p=false->J W lev (max b (2 * p+2)) (F ((false,()),(p,xs))) (G ((false,()),(p+W.d,ys))) Q) :
 J W lev b (Option.bind (P.c54 (L,()) W.A (p,xs)) fun y0=>zJ y0 (some none) F) (Option.bind (P.c54 (L,()) W.B (p+W.d,ys)) fun y0=>zJ y0 (some none) G) Q:=
 J_isf hP hW hS hL hl fun t ht=>by cases t; exact h0 ht; exact h1 ht (zAy ht)
theorem kJ (hP:P.Ok) (hW:W.Ok) (hS:Sta W n p xs ys)
 (h1:zh W.A p=true->p < (W.A.length:Int)->J W lev (max b (2 * p+1)) (F ((true,()),(p,xs))) (G ((true,()),(p+W.d,ys))) Q)
 (h0:zh W.A p=false->J W lev (max b (2 * p+1)) (F ((false,()),(p,xs))) (G ((false,()),(p+W.d,ys))) Q) :
 J W lev b (Option.bind (P.c85 (0,()) W.A (p,xs)) fun y0=>zJ y0 (some none) F) (Option.bind (P.c85 (0,()) W.B (p+W.d,ys)) fun y0=>zJ y0 (some none) G) Q:=
 zQz hP hW hS fun t ht=>by cases t; exact h0 ht; exact h1 ht (jS ht)
theorem zOc {l:List TokT} {k i:Int} (h:yn k l i=true):i < (l.length:Int):=by
 unfold yn at h
 simp only [Bool.and_eq_true,decide_eq_true_eq] at h
 exact h.1
theorem zE7 (hP:P.Ok) (hW:W.Ok) (hS:Sta W n p xs ys) {k:Int}
 (h1:yn k W.A p=true->p < (W.A.length:Int)->J W lev (max b (2 * p+1)) (F ((true,()),(p,xs))) (G ((true,()),(p+W.d,ys))) Q)
 (h0:yn k W.A p=false->J W lev (max b (2 * p+1)) (F ((false,()),(p,xs))) (G ((false,()),(p+W.d,ys))) Q) :
 J W lev b (Option.bind (P.c112 (k,()) W.A (p,xs)) fun y0=>zJ y0 (some none) F) (Option.bind (P.c112 (k,()) W.B (p+W.d,ys)) fun y0=>zJ y0 (some none) G) Q:=
 J_kind hP hW hS k fun t ht=>by cases t; exact h0 ht; exact h1 ht (zOc ht)
theorem zLi {l:List TokT} {zs:List MT} {i:Int} (h:yy l zs i=true):zh l i=true:=by
 unfold yy at h
 rw [Bool.and_eq_true] at h
 exact h.1
theorem zLR (hP:P.Ok) (hW:W.Ok) (hS:Sta W n p xs ys) (hn:(n:Int)<=2 * p+3)
 (h1:yy W.A xs p=true->p < (W.A.length:Int)->J W lev (max b (2 * p+1)) (F ((true,()),(p,xs))) (G ((true,()),(p+W.d,ys))) Q)
 (h0:yy W.A xs p=false->J W lev (max b (2 * p+1)) (F ((false,()),(p,xs))) (G ((false,()),(p+W.d,ys))) Q) :
 J W lev b (Option.bind (P.c76 (0,()) W.A (p,xs)) fun y0=>zJ y0 (some none) F) (Option.bind (P.c76 (0,()) W.B (p+W.d,ys)) fun y0=>zJ y0 (some none) G) Q:=
 zQq hP hW hS hn fun t ht=>by cases t; exact h0 ht; exact h1 ht (jS (zLi ht))
theorem zB0 (hP:P.Ok) (hW:W.Ok) (hS:Sta W n p xs ys) (hn:(n:Int)<=2 * p+3)
 (h1:ym W.A xs p=true->J W lev (max b (2 * p+1)) (F ((true,()),(p,xs))) (G ((true,()),(p+W.d,ys))) Q)
 (h0:ym W.A xs p=false->J W lev (max b (2 * p+1)) (F ((false,()),(p,xs))) (G ((false,()),(p+W.d,ys))) Q) :
 J W lev b (Option.bind (P.c84 (0,()) W.A (p,xs)) fun y0=>zJ y0 (some none) F) (Option.bind (P.c84 (0,()) W.B (p+W.d,ys)) fun y0=>zJ y0 (some none) G) Q:=
 zO0 hP hW hS hn fun t ht=>by cases t; exact h0 ht; exact h1 ht
theorem zB9 (hP:P.Ok) (hW:W.Ok) (hS:Sta W n p xs ys) (hn:(n:Int)<=2 * p+3) (hp:p < (W.A.length:Int))
 (h1:ym W.A xs (p+1)=true->J W lev (max b (2 * (p+1)+1)) (F ((true,()),(p,xs))) (G ((true,()),(p+W.d,ys))) Q)
 (h0:ym W.A xs (p+1)=false->J W lev (max b (2 * (p+1)+1)) (F ((false,()),(p,xs))) (G ((false,()),(p+W.d,ys))) Q) :
 J W lev b (Option.bind (P.c84 (1,()) W.A (p,xs)) fun y0=>zJ y0 (some none) F) (Option.bind (P.c84 (1,()) W.B (p+W.d,ys)) fun y0=>zJ y0 (some none) G) Q:=
 zKn hP hW hS hn 1 (by omega) (by omega) (by omega) fun t ht=>by cases t; exact h0 ht; exact h1 ht
theorem kF (hP:P.Ok) (hW:W.Ok) (hS:Sta W n p xs ys) (hp:p < (W.A.length:Int))
 (h1:zh W.A (p+1)=true->J W lev (max b (2 * (p+1)+1)) (F ((true,()),(p,xs))) (G ((true,()),(p+W.d,ys))) Q)
 (h0:zh W.A (p+1)=false->J W lev (max b (2 * (p+1)+1)) (F ((false,()),(p,xs))) (G ((false,()),(p+W.d,ys))) Q) :
 J W lev b (Option.bind (P.c85 (1,()) W.A (p,xs)) fun y0=>zJ y0 (some none) F) (Option.bind (P.c85 (1,()) W.B (p+W.d,ys)) fun y0=>zJ y0 (some none) G) Q:=
 zQD hP hW hS hp fun t ht=>by cases t; exact h0 ht; exact h1 ht
theorem zKm (hP:P.Ok) (hW:W.Ok) (hS:Sta W n p xs ys) (hn:(n:Int)<=2 * p+3) (hp:p < (W.A.length:Int))
 (h1:yy W.A xs (p+1)=true->J W lev (max b (2 * (p+1)+1)) (F ((true,()),(p,xs))) (G ((true,()),(p+W.d,ys))) Q)
 (h0:yy W.A xs (p+1)=false->J W lev (max b (2 * (p+1)+1)) (F ((false,()),(p,xs))) (G ((false,()),(p+W.d,ys))) Q) :
 J W lev b (Option.bind (P.c76 (1,()) W.A (p,xs)) fun y0=>zJ y0 (some none) F) (Option.bind (P.c76 (1,()) W.B (p+W.d,ys)) fun y0=>zJ y0 (some none) G) Q:=
 zMg hP hW hS hn 1 (by omega) (by omega) (by omega) fun t ht=>by cases t; exact h0 ht; exact h1 ht
end
section
variable {W:Sim} {n:Nat} {p q κ b:Int} {xs ys zs zs':List MT}
theorem zG (d:Int):shL d []=[]:=rfl
theorem zF (d:Int) (x:Nd) (l:List Nd):shL d (x::l)=shN d x::shL d l:=rfl
def QM (W:Sim) {β:Type} (n:Nat) (R:Int->β->β->Prop) (y y':(ParT×Unit)×β):Prop:=
 y.1.1.1=W.A/\y'.1.1.1=W.B/\Sta W n y.1.1.2.1 y.1.1.2.2.1 y'.1.1.2.2.1/\y'.1.1.2.1=y.1.1.2.1+W.d/\R y.1.1.2.1 y.2 y'.2
theorem xk {aa rs:LK} {sh sh':ParT×Unit->zA aa->Option (Option ((ParT×Unit)×zA rs))} {a a':zA aa} {R:Int->zA rs->zA rs->Prop}
 (h:J W (fun y:(ParT×Unit)×zA rs=>2 * y.1.1.2.1+κ) (2 * p) (sh ((W.A,(p,(xs,((),())))),()) a) (sh' ((W.B,(p+W.d,(ys,((),())))),()) a') (QM W n R)):SpJ W κ n p xs ys (mM sh a) (mM sh' a') R:=by
 obtain ⟨o,h1,h2⟩:=h
 cases o with
 | none=>exact ⟨none,by show outM W.A (sh ((W.A,(p,(xs,((),())))),()) a)=_; rw [h1]; rfl,fun y h=>by cases h⟩
 | some y=>
  obtain ⟨h3,y',⟨k1,k2,k3,k4,k5⟩,h5⟩:=h2 y rfl
  refine ⟨some (y.2,(y.1.1.2.1,y.1.1.2.2.1)),?_,fun z hz=>?_⟩
  · show outM W.A (sh ((W.A,(p,(xs,((),())))),()) a)=_
    rw [h1]; exact if_pos k1
  · injection hz with hz
    subst hz
    refine ⟨h3,(y'.2,(y'.1.1.2.1,y'.1.1.2.2.1)),⟨k3,k4,k5⟩,fun hA=>?_⟩
    show outM W.B (sh' ((W.B,(p+W.d,(ys,((),())))),()) a')=_
    rw [h5 hA]; exact if_pos k2
theorem zu {β:Type} {R:Int->β->β->Prop} {r r':β} (hS:Sta W n q zs zs') (hb:b<=2 * q+κ) (hR:R q r r') :
 J W (fun y:(ParT×Unit)×β=>2 * y.1.1.2.1+κ) b (some (some (((W.A,(q,(zs,((),())))),()),r))) (some (some (((W.B,(q+W.d,(zs',((),())))),()),r'))) (QM W n R):=
 zIE hb ⟨rfl,rfl,hS,rfl,hR⟩
def QX (W:Sim) {β:Type} (n:Nat) (R:Int->β×List Nd->β×List Nd->Prop) (y y':(ParT×NdsT×Unit)×β):Prop:=
 y.1.1.1=W.A/\y'.1.1.1=W.B/\Sta W n y.1.1.2.1 y.1.1.2.2.1 y'.1.1.2.2.1/\y'.1.1.2.1=y.1.1.2.1+W.d/\R y.1.1.2.1 (y.2,y.1.2.1.1) (y'.2,y'.1.2.1.1)
theorem zIF {aa rs:LK} {sh sh':ParT×NdsT×Unit->zA aa->Option (Option ((ParT×NdsT×Unit)×zA rs))} {a a':zA aa} {ps ps':List Nd} {R:Int->zA rs×List Nd->zA rs×List Nd->Prop}
 (h:J W (fun y:(ParT×NdsT×Unit)×zA rs=>2 * y.1.1.2.1+κ) (2 * p) (sh ((W.A,(p,(xs,((),())))),((ps,()),())) a) (sh' ((W.B,(p+W.d,(ys,((),())))),((ps',()),())) a') (QX W n R)):SpJ W κ n p xs ys (mX sh a ps) (mX sh' a' ps') R:=by
 obtain ⟨o,h1,h2⟩:=h
 cases o with
 | none=>exact ⟨none,by show outX W.A (sh ((W.A,(p,(xs,((),())))),((ps,()),())) a)=_; rw [h1]; rfl,fun y h=>by cases h⟩
 | some y=>
  obtain ⟨h3,y',⟨k1,k2,k3,k4,k5⟩,h5⟩:=h2 y rfl
  refine ⟨some ((y.2,y.1.2.1.1),(y.1.1.2.1,y.1.1.2.2.1)),?_,fun z hz=>?_⟩
  · show outX W.A (sh ((W.A,(p,(xs,((),())))),((ps,()),())) a)=_
    rw [h1]; exact if_pos k1
  · injection hz with hz
    subst hz
    refine ⟨h3,((y'.2,y'.1.2.1.1),(y'.1.1.2.1,y'.1.1.2.2.1)),⟨k3,k4,k5⟩,fun hA=>?_⟩
    show outX W.B (sh' ((W.B,(p+W.d,(ys,((),())))),((ps',()),())) a')=_
    rw [h5 hA]; exact if_pos k2
theorem zGd {β:Type} {R:Int->β×List Nd->β×List Nd->Prop} {r r':β} {ps ps':List Nd} (hS:Sta W n q zs zs') (hb:b<=2 * q+κ) (hR:R q (r,ps) (r',ps')) :
 J W (fun y:(ParT×NdsT×Unit)×β=>2 * y.1.1.2.1+κ) b (some (some (((W.A,(q,(zs,((),())))),((ps,()),())),r))) (some (some (((W.B,(q+W.d,(zs',((),())))),((ps',()),())),r'))) (QX W n R):=
 zIE hb ⟨rfl,rfl,hS,rfl,hR⟩
def QL (W:Sim) {β:Type} (n:Nat) (R:Int->β×Option MT->β×Option MT->Prop) (y y':(zBM×Unit)×β):Prop:=
 y.1.1.1=W.A/\y'.1.1.1=W.B/\Sta W n y.1.1.2.1 y.1.1.2.2.1 y'.1.1.2.2.1/\y'.1.1.2.1=y.1.1.2.1+W.d/\R y.1.1.2.1 (y.2,y.1.1.2.2.2.1) (y'.2,y'.1.1.2.2.2.1)
theorem SpJ_L {aa rs:LK} {sh sh':ParT×Unit->zA aa->Option (Option ((zBM×Unit)×zA rs))} {a a':zA aa} {R:Int->zA rs×Option MT->zA rs×Option MT->Prop}
 (h:J W (fun y:(zBM×Unit)×zA rs=>2 * y.1.1.2.1+κ) (2 * p) (sh ((W.A,(p,(xs,((),())))),()) a) (sh' ((W.B,(p+W.d,(ys,((),())))),()) a') (QL W n R)):SpJ W κ n p xs ys (mL sh a) (mL sh' a') R:=by
 obtain ⟨o,h1,h2⟩:=h
 cases o with
 | none=>exact ⟨none,by show outL W.A (sh ((W.A,(p,(xs,((),())))),()) a)=_; rw [h1]; rfl,fun y h=>by cases h⟩
 | some y=>
  obtain ⟨h3,y',⟨k1,k2,k3,k4,k5⟩,h5⟩:=h2 y rfl
  refine ⟨some ((y.2,y.1.1.2.2.2.1),(y.1.1.2.1,y.1.1.2.2.1)),?_,fun z hz=>?_⟩
  · show outL W.A (sh ((W.A,(p,(xs,((),())))),()) a)=_
    rw [h1]; exact if_pos k1
  · injection hz with hz
    subst hz
    refine ⟨h3,((y'.2,y'.1.1.2.2.2.1),(y'.1.1.2.1,y'.1.1.2.2.1)),⟨k3,k4,k5⟩,fun hA=>?_⟩
    show outL W.B (sh' ((W.B,(p+W.d,(ys,((),())))),()) a')=_
    rw [h5 hA]; exact if_pos k2
theorem J_retL {β:Type} {R:Int->β×Option MT->β×Option MT->Prop} {r r':β} {mo mo':Option MT} (hS:Sta W n q zs zs') (hb:b<=2 * q+κ) (hR:R q (r,mo) (r',mo')) :
 J W (fun y:(zBM×Unit)×β=>2 * y.1.1.2.1+κ) b (some (some (((W.A,(q,(zs,(mo,())))),()),r))) (some (some (((W.B,(q+W.d,(zs',(mo',())))),()),r'))) (QL W n R):=
 zIE hb ⟨rfl,rfl,hS,rfl,hR⟩
def QN (W:Sim) {β:Type} (n:Nat) (R:Int->β×Option (Option MT)->β×Option (Option MT)->Prop) (y y':(xl×Unit)×β):Prop:=
 y.1.1.1=W.A/\y'.1.1.1=W.B/\Sta W n y.1.1.2.1 y.1.1.2.2.1 y'.1.1.2.2.1/\y'.1.1.2.1=y.1.1.2.1+W.d/\R y.1.1.2.1 (y.2,y.1.1.2.2.2.1) (y'.2,y'.1.1.2.2.2.1)
theorem SpJ_N {aa rs:LK} {sh sh':ParT×Unit->zA aa->Option (Option ((xl×Unit)×zA rs))} {a a':zA aa} {R:Int->zA rs×Option (Option MT)->zA rs×Option (Option MT)->Prop}
 (h:J W (fun y:(xl×Unit)×zA rs=>2 * y.1.1.2.1+κ) (2 * p) (sh ((W.A,(p,(xs,((),())))),()) a) (sh' ((W.B,(p+W.d,(ys,((),())))),()) a') (QN W n R)):SpJ W κ n p xs ys (mN sh a) (mN sh' a') R:=by
 obtain ⟨o,h1,h2⟩:=h
 cases o with
 | none=>exact ⟨none,by show outN W.A (sh ((W.A,(p,(xs,((),())))),()) a)=_; rw [h1]; rfl,fun y h=>by cases h⟩
 | some y=>
  obtain ⟨h3,y',⟨k1,k2,k3,k4,k5⟩,h5⟩:=h2 y rfl
  refine ⟨some ((y.2,y.1.1.2.2.2.1),(y.1.1.2.1,y.1.1.2.2.1)),?_,fun z hz=>?_⟩
  · show outN W.A (sh ((W.A,(p,(xs,((),())))),()) a)=_
    rw [h1]; exact if_pos k1
  · injection hz with hz
    subst hz
    refine ⟨h3,((y'.2,y'.1.1.2.2.2.1),(y'.1.1.2.1,y'.1.1.2.2.1)),⟨k3,k4,k5⟩,fun hA=>?_⟩
    show outN W.B (sh' ((W.B,(p+W.d,(ys,((),())))),()) a')=_
    rw [h5 hA]; exact if_pos k2
theorem J_retN {β:Type} {R:Int->β×Option (Option MT)->β×Option (Option MT)->Prop} {r r':β} {mo mo':Option (Option MT)} (hS:Sta W n q zs zs') (hb:b<=2 * q+κ) (hR:R q (r,mo) (r',mo')) :
 J W (fun y:(xl×Unit)×β=>2 * y.1.1.2.1+κ) b (some (some (((W.A,(q,(zs,(mo,())))),()),r))) (some (some (((W.B,(q+W.d,(zs',(mo',())))),()),r'))) (QN W n R):=
 zIE hb ⟨rfl,rfl,hS,rfl,hR⟩
end
end
section
open Go.Al Go.Den
section
variable (W:Sim) (κ:Int) (k m:Nat)
def zIK (p:Int) (q:Int) (r r':Nd×Unit):Prop:=Tr p q r.1/\r'.1=shN W.d r.1
def SpN (c c':Unit->MM (Nd×Unit)):Prop:=∀ n p xs ys,Sta W n p xs ys->(n:Int)<=2 * p+2->20 * ((W.A.length:Int) - p)+k < m->SpJ W κ n p xs ys (c ()) (c' ()) (zIK W p)
def SpM (K:Int) (c c':Unit->MM (Nd×Unit)):Prop:=∀ n p xs ys,Sta W n p xs ys->(n:Int)<=2 * p+2->20 * ((W.A.length:Int) - p)+k < m->SpJ W κ n p xs ys (c ()) (c' ()) fun q r r'=>Tr p q r.1/\r'.1=shN W.d r.1/\r.1.kind=K
def SpB (c c':Unit->MM (Nd×Unit)):Prop:=∀ n p xs ys,Sta W n p xs ys->(n:Int)<=2 * p+3->20 * ((W.A.length:Int) - p)+k < m->SpJ W κ n p xs ys (c ()) (c' ()) (zIK W p)
def SpS (c c':Unit->MM (Nd×Bool×Unit)):Prop:=∀ n p xs ys,Sta W n p xs ys->(n:Int)<=2 * p+2->20 * ((W.A.length:Int) - p)+k < m ->
 SpJ W κ n p xs ys (c ()) (c' ()) fun q r r'=>Tr p q r.1/\r'.1=shN W.d r.1/\r'.2.1=r.2.1/\(r.2.1=true->W.TD)/\r.1.kind=4
def SpP (δ:Int) (c c':Unit->List Nd->MM (Unit×List Nd)):Prop:=∀ n p xs ys a0 ps,Sta W n p xs ys->(n:Int)<=2 * p+2->20 * ((W.A.length:Int) - p)+k < m->Pt a0 p ps->0<=a0->pk ps ->
 SpJ W κ n p xs ys (c () ps) (c' () (shL W.d ps)) fun q r r'=>p+δ<=q/\Pt a0 q r.2/\r'.2=shL W.d r.2/\pk r.2
def SpD (c c':Unit->List Nd->MM (Unit×List Nd)):Prop:=∀ n p xs ys a0 ps,Sta W n p xs ys->(n:Int)<=2 * p+2->20 * ((W.A.length:Int) - p)+k < m->Pt a0 p ps->0<=a0->pk ps ->
 SpJ W κ n p xs ys (c () ps) (c' () (shL W.d ps)) fun q r r'=>p<=q/\(isF [[40],[91]] W.A p=true->p < q)/\Pt a0 q r.2/\r'.2=shL W.d r.2/\pk r.2
def SpU (c c':Str×Unit->List Nd->MM (Unit×List Nd)):Prop:=∀ n p xs ys a0 ps s,fullW.contains s=true->Sta W n p xs ys->(n:Int)<=2 * p+2->20 * ((W.A.length:Int) - p)+k < m->Pt a0 p ps->0<=a0 ->
 SpJ W κ n p xs ys (c (s,()) ps) (c' (s,()) (shL W.d ps)) fun q r r'=>p < q/\Pt a0 q r.2/\r'.2=shL W.d r.2/\pk r.2
def MO (fn:Bool) (mo mo':Option (Option MT)):Prop:=(mo=none/\mo' = none/\fn=false)\/(mo=some none/\mo' = some none/\fn=false)\/∃ x x',mo=some (some x)/\mo' = some (some x')/\W.MR x x'
def SpC (c c':Unit->MM ((Nd×Str×Bool×Unit)×Option (Option MT))):Prop:=∀ n p xs ys,Sta W n p xs ys->(n:Int)<=2 * p+2->20 * ((W.A.length:Int) - p)+k < m ->
 SpJ W κ n p xs ys (c ()) (c' ()) fun q r r'=>Tr p q r.1.1/\r'.1.1=shN W.d r.1.1/\NR W r.1.2.1 r'.1.2.1/\r'.1.2.2.1=r.1.2.2.1/\MO W r.1.2.2.1 r.2 r'.2/\r.1.1.kind=10
def SpK (c c':Bool×Unit->MM (Nd×Str×Bool×Unit)):Prop:=∀ n p xs ys nm,Sta W n p xs ys->(n:Int)<=2 * p+2->20 * ((W.A.length:Int) - p)+k < m ->
 SpJ W κ n p xs ys (c (nm,())) (c' (nm,())) fun q r r'=>p<=q/\(r.2.2.1=true->Tr p q r.1)/\r'.1=shN W.d r.1/\NR W r.2.1 r'.2.1/\r'.2.2.1=r.2.2.1/\(r.2.2.1=false->q=p)/\r.1.kind=10
def SpL (c c':Unit->MM ((Nd×Unit)×Option MT)):Prop:=∀ n p xs ys,Sta W n p xs ys->(n:Int)<=2 * p+2->20 * ((W.A.length:Int) - p)+k < m ->
 SpJ W κ n p xs ys (c ()) (c' ()) fun q r r'=>Tr p q r.1.1/\r'.1.1=shN W.d r.1.1/\r.1.1.kind=11/\∃ x x',r.2=some x/\r'.2=some x'/\W.MR x x'
def SpI (c c':Nd×Str×Bool×Unit->MM (Nd×Unit)):Prop:=∀ n p xs ys a0 nd s s' t,Sta W n p xs ys->(n:Int)<=2 * p+2->20 * ((W.A.length:Int) - p)+k < m->Tr a0 p nd->0<=a0->NR W s s'->(t=true->W.TD)->nd.kind=10 ->
 SpJ W κ n p xs ys (c (nd,(s,(t,())))) (c' (shN W.d nd,(s',(t,())))) fun q r r'=>p<=q/\Tr a0 q r.1/\r'.1=shN W.d r.1
def SpR (c c':(List Nd×Unit)×Bool×Unit->MM (Nd×Unit)):Prop:=∀ n p xs ys a0 ps t,Sta W n p xs ys->(n:Int)<=2 * p+2->20 * ((W.A.length:Int) - p)+k < m->Pt a0 p ps->0<=a0->(t=true->W.TD) ->
 SpJ W κ n p xs ys (c ((ps,()),(t,()))) (c' ((shL W.d ps,()),(t,()))) fun q r r'=>p < q/\Tr a0 q r.1/\r'.1=shN W.d r.1
def SpE (c c':Bool×Unit->MM (Nd×Unit)):Prop:=∀ n p xs ys t,Sta W n p xs ys->(n:Int)<=2 * p+2->20 * ((W.A.length:Int) - p)+k < m->SpJ W κ n p xs ys (c (t,())) (c' (t,())) (zIK W p)
def SpF (c c':(List Nd×Unit)×Unit->MM (Nd×Unit)):Prop:=∀ n p xs ys a0 ps,Sta W n p xs ys->(n:Int)<=2 * p+2->20 * ((W.A.length:Int) - p)+k < m->Pt a0 p ps->0<=a0 ->
 SpJ W κ n p xs ys (c ((ps,()),())) (c' ((shL W.d ps,()),())) fun q r r'=>p < q/\Tr a0 q r.1/\r'.1=shN W.d r.1
def SpG (c c':Int×Unit->MM (Nd×Unit)):Prop:=∀ n p xs ys z,Sta W n p xs ys->(n:Int)<=2 * p+2->20 * ((W.A.length:Int) - p)+k < m->SpJ W κ n p xs ys (c (z,())) (c' (z,())) (zIK W p)
def SpH (c c':Nd×Unit->MM (Nd×Unit)):Prop:=∀ n p xs ys a0 nd,Sta W n p xs ys->(n:Int)<=2 * p+2->20 * ((W.A.length:Int) - p)+k < m->Tr a0 p nd->0<=a0 ->
 SpJ W κ n p xs ys (c (nd,())) (c' (shN W.d nd,())) fun q r r'=>p<=q/\Tr a0 q r.1/\r'.1=shN W.d r.1
end
structure RSp (W:Sim) (m:Nat) (r s:RS):Prop where
 h53:SpS W 1 3 m r.c53 s.c53
 h74:SpM W 1 1 m 5 r.c74 s.c74
 h107:SpN W 1 4 m r.c107 s.c107
 h75:SpM W 1 1 m 6 r.c75 s.c75
 h108:SpN W 1 1 m r.c108 s.c108
 h79:SpP W 1 1 m 0 r.c79 s.c79
 h82:SpD W 1 2 m r.c82 s.c82
 h56:SpC W 1 2 m r.c56 s.c56
 h130:SpK W 1 3 m r.c130 s.c130
 h81:SpL W 1 1 m r.c81 s.c81
 h110:SpN W 1 4 m r.c110 s.c110
 h151:SpN W 1 4 m r.c151 s.c151
 h83:SpN W 1 8 m r.c83 s.c83
 h57:SpI W 1 1 m r.c57 s.c57
 h55:SpR W 0 1 m r.c55 s.c55
 h37:SpE W 0 5 m r.c37 s.c37
 h60:SpB W 0 1 m r.c60 s.c60
 h86:SpN W 1 10 m r.c86 s.c86
 h116:SpF W 1 1 m r.c116 s.c116
 h115:SpP W 0 1 m 1 r.c115 s.c115
 h117:SpU W 0 9 m r.c117 s.c117
 h113:SpN W 1 8 m r.c113 s.c113
 h111:SpN W 1 7 m r.c111 s.c111
 h114:SpN W 1 6 m r.c114 s.c114
 h131:SpG W 1 5 m r.c131 s.c131
 h142:SpN W 1 4 m r.c142 s.c142
 h150:SpN W 1 3 m r.c150 s.c150
 h154:SpH W 1 1 m r.c154 s.c154
 h155:SpN W 1 2 m r.c155 s.c155
section
variable {W:Sim} {ρ:Type} {lev:ρ->Int} {b κ:Int} {Q:ρ->ρ->Prop} {n k m:Nat} {p:Int} {xs ys:List MT}
variable {F G:(Nd×Unit)×PSt->Option (Option ρ)}
theorem J_N (hW:W.Ok) {c c':Unit->MM (Nd×Unit)} (hc:SpN W κ k m c c') (hS:Sta W n p xs ys) (hn:(n:Int)<=2 * p+2) (hm:20 * ((W.A.length:Int) - p)+k < m)
 (h:∀ q zs zs' nd,Sta W n q zs zs'->q<=(W.A.length:Int)->p < q->Tr p q nd->J W lev (max b (2 * q+κ)) (F ((nd,()),(q,zs))) (G ((shN W.d nd,()),(q+W.d,zs'))) Q) :
 J W lev b (Option.bind (c () W.A (p,xs)) fun y0=>zJ y0 (some none) F) (Option.bind (c' () W.B (p+W.d,ys)) fun y0=>zJ y0 (some none) G) Q:=by
 refine qX hW (hc n p xs ys hS hn hm) ?_
 rintro q zs zs' ⟨nd,_⟩ ⟨nd',_⟩ h1 ⟨h2,rfl⟩
 exact h q zs zs' nd h1 h1.p1 h2.lt h2
theorem J_M (hW:W.Ok) {c c':Unit->MM (Nd×Unit)} {K:Int} (hc:SpM W κ k m K c c') (hS:Sta W n p xs ys) (hn:(n:Int)<=2 * p+2) (hm:20 * ((W.A.length:Int) - p)+k < m)
 (h:∀ q zs zs' nd,Sta W n q zs zs'->q<=(W.A.length:Int)->p < q->Tr p q nd->nd.kind=K->J W lev (max b (2 * q+κ)) (F ((nd,()),(q,zs))) (G ((shN W.d nd,()),(q+W.d,zs'))) Q) :
 J W lev b (Option.bind (c () W.A (p,xs)) fun y0=>zJ y0 (some none) F) (Option.bind (c' () W.B (p+W.d,ys)) fun y0=>zJ y0 (some none) G) Q:=by
 refine qX hW (hc n p xs ys hS hn hm) ?_
 rintro q zs zs' ⟨nd,_⟩ ⟨nd',_⟩ h1 ⟨h2,rfl,h5⟩
 exact h q zs zs' nd h1 h1.p1 h2.lt h2 h5
theorem J_B (hW:W.Ok) {c c':Unit->MM (Nd×Unit)} (hc:SpB W κ k m c c') (hS:Sta W n p xs ys) (hn:(n:Int)<=2 * p+3) (hm:20 * ((W.A.length:Int) - p)+k < m)
 (h:∀ q zs zs' nd,Sta W n q zs zs'->q<=(W.A.length:Int)->p < q->Tr p q nd->J W lev (max b (2 * q+κ)) (F ((nd,()),(q,zs))) (G ((shN W.d nd,()),(q+W.d,zs'))) Q) :
 J W lev b (Option.bind (c () W.A (p,xs)) fun y0=>zJ y0 (some none) F) (Option.bind (c' () W.B (p+W.d,ys)) fun y0=>zJ y0 (some none) G) Q:=by
 refine qX hW (hc n p xs ys hS hn hm) ?_
 rintro q zs zs' ⟨nd,_⟩ ⟨nd',_⟩ h1 ⟨h2,rfl⟩
 exact h q zs zs' nd h1 h1.p1 h2.lt h2
theorem J_S (hW:W.Ok) {c c':Unit->MM (Nd×Bool×Unit)} {F G:(Nd×Bool×Unit)×PSt->Option (Option ρ)} (hc:SpS W κ k m c c') (hS:Sta W n p xs ys) (hn:(n:Int)<=2 * p+2) (hm:20 * ((W.A.length:Int) - p)+k < m)
 (h:∀ q zs zs' nd t,Sta W n q zs zs'->q<=(W.A.length:Int)->p < q->Tr p q nd->(t=true->W.TD)->nd.kind=4->J W lev (max b (2 * q+κ)) (F ((nd,(t,())),(q,zs))) (G ((shN W.d nd,(t,())),(q+W.d,zs'))) Q) :
 J W lev b (Option.bind (c () W.A (p,xs)) fun y0=>zJ y0 (some none) F) (Option.bind (c' () W.B (p+W.d,ys)) fun y0=>zJ y0 (some none) G) Q:=by
 refine qX hW (hc n p xs ys hS hn hm) ?_
 rintro q zs zs' ⟨nd,t,_⟩ ⟨nd',t',_⟩ h1 ⟨h2,h3,h4,h5,h6⟩
 replace h3:nd' = shN W.d nd:=h3
 replace h4:t' = t:=h4
 subst h3 h4
 exact h q zs zs' nd t' h1 h1.p1 h2.lt h2 h5 h6
variable {FX GX:(Unit×List Nd)×PSt->Option (Option ρ)}
theorem J_P (hW:W.Ok) {δ:Int} {c c':Unit->List Nd->MM (Unit×List Nd)} {a0:Int} {ps pz:List Nd} (hc:SpP W κ k m δ c c') (hS:Sta W n p xs ys) (hn:(n:Int)<=2 * p+2) (hm:20 * ((W.A.length:Int) - p)+k < m) (hP:Pt a0 p ps) (ha:0<=a0) (he:pz=shL W.d ps) (hk:pk ps)
 (h:∀ q zs zs' ps',Sta W n q zs zs'->q<=(W.A.length:Int)->p+δ<=q->Pt a0 q ps'->(ps'.length:Int)<=q - a0->pk ps'->J W lev (max b (2 * q+κ)) (FX (((),ps'),(q,zs))) (GX (((),shL W.d ps'),(q+W.d,zs'))) Q) :
 J W lev b (Option.bind (c () ps W.A (p,xs)) fun y0=>zJ y0 (some none) FX) (Option.bind (c' () pz W.B (p+W.d,ys)) fun y0=>zJ y0 (some none) GX) Q:=by
 subst he
 refine qX hW (hc n p xs ys a0 ps hS hn hm hP ha hk) ?_
 rintro q zs zs' ⟨_,ps1⟩ ⟨_,ps2⟩ h1 ⟨h2,h3,h4,h5⟩
 replace h4:ps2=shL W.d ps1:=h4
 subst h4
 exact h q zs zs' ps1 h1 h1.p1 h2 h3 h3.len h5
theorem J_D (hW:W.Ok) {c c':Unit->List Nd->MM (Unit×List Nd)} {a0:Int} {ps pz:List Nd} (hc:SpD W κ k m c c') (hS:Sta W n p xs ys) (hn:(n:Int)<=2 * p+2) (hm:20 * ((W.A.length:Int) - p)+k < m) (hP:Pt a0 p ps) (ha:0<=a0) (he:pz=shL W.d ps) (hk:pk ps)
 (h:∀ q zs zs' ps',Sta W n q zs zs'->q<=(W.A.length:Int)->p<=q->(isF [[40],[91]] W.A p=true->p < q)->Pt a0 q ps'->(ps'.length:Int)<=q - a0->pk ps'->J W lev (max b (2 * q+κ)) (FX (((),ps'),(q,zs))) (GX (((),shL W.d ps'),(q+W.d,zs'))) Q) :
 J W lev b (Option.bind (c () ps W.A (p,xs)) fun y0=>zJ y0 (some none) FX) (Option.bind (c' () pz W.B (p+W.d,ys)) fun y0=>zJ y0 (some none) GX) Q:=by
 subst he
 refine qX hW (hc n p xs ys a0 ps hS hn hm hP ha hk) ?_
 rintro q zs zs' ⟨_,ps1⟩ ⟨_,ps2⟩ h1 ⟨h2,h3,h4,h5,h6⟩
 replace h5:ps2=shL W.d ps1:=h5
 subst h5
 exact h q zs zs' ps1 h1 h1.p1 h2 h3 h4 h4.len h6
theorem J_U (hW:W.Ok) {c c':Str×Unit->List Nd->MM (Unit×List Nd)} {a0:Int} {ps pz:List Nd} {s:Str} (hs:fullW.contains s=true) (hc:SpU W κ k m c c') (hS:Sta W n p xs ys) (hn:(n:Int)<=2 * p+2) (hm:20 * ((W.A.length:Int) - p)+k < m) (hP:Pt a0 p ps) (ha:0<=a0) (he:pz=shL W.d ps)
 (h:∀ q zs zs' ps',Sta W n q zs zs'->q<=(W.A.length:Int)->p < q->Pt a0 q ps'->(ps'.length:Int)<=q - a0->pk ps'->J W lev (max b (2 * q+κ)) (FX (((),ps'),(q,zs))) (GX (((),shL W.d ps'),(q+W.d,zs'))) Q) :
 J W lev b (Option.bind (c (s,()) ps W.A (p,xs)) fun y0=>zJ y0 (some none) FX) (Option.bind (c' (s,()) pz W.B (p+W.d,ys)) fun y0=>zJ y0 (some none) GX) Q:=by
 subst he
 refine qX hW (hc n p xs ys a0 ps s hs hS hn hm hP ha) ?_
 rintro q zs zs' ⟨_,ps1⟩ ⟨_,ps2⟩ h1 ⟨h2,h3,h4,h5⟩
 replace h4:ps2=shL W.d ps1:=h4
 subst h4
 exact h q zs zs' ps1 h1 h1.p1 h2 h3 h3.len h5
theorem J_C (hW:W.Ok) {c c':Unit->MM ((Nd×Str×Bool×Unit)×Option (Option MT))} {F G:((Nd×Str×Bool×Unit)×Option (Option MT))×PSt->Option (Option ρ)} (hc:SpC W κ k m c c') (hS:Sta W n p xs ys) (hn:(n:Int)<=2 * p+2) (hm:20 * ((W.A.length:Int) - p)+k < m)
 (h:∀ q zs zs' nd s s' fn mo mo',Sta W n q zs zs'->q<=(W.A.length:Int)->p < q->Tr p q nd->NR W s s'->MO W fn mo mo'->nd.kind=10->J W lev (max b (2 * q+κ)) (F (((nd,(s,(fn,()))),mo),(q,zs))) (G (((shN W.d nd,(s',(fn,()))),mo'),(q+W.d,zs'))) Q) :
 J W lev b (Option.bind (c () W.A (p,xs)) fun y0=>zJ y0 (some none) F) (Option.bind (c' () W.B (p+W.d,ys)) fun y0=>zJ y0 (some none) G) Q:=by
 refine qX hW (hc n p xs ys hS hn hm) ?_
 rintro q zs zs' ⟨⟨nd,s,fn,_⟩,mo⟩ ⟨⟨nd',s',fn',_⟩,mo'⟩ h1 ⟨h2,h3,h4,h5,h6,h7⟩
 replace h3:nd' = shN W.d nd:=h3
 replace h5:fn' = fn:=h5
 subst h3 h5
 exact h q zs zs' nd s s' fn' mo mo' h1 h1.p1 h2.lt h2 h4 h6 h7
theorem J_K (hW:W.Ok) {c c':Bool×Unit->MM (Nd×Str×Bool×Unit)} {nm:Bool} {F G:(Nd×Str×Bool×Unit)×PSt->Option (Option ρ)} (hc:SpK W κ k m c c') (hS:Sta W n p xs ys) (hn:(n:Int)<=2 * p+2) (hm:20 * ((W.A.length:Int) - p)+k < m)
 (h1:∀ q zs zs' nd s s',Sta W n q zs zs'->q<=(W.A.length:Int)->p < q->Tr p q nd->NR W s s'->nd.kind=10->J W lev (max b (2 * q+κ)) (F ((nd,(s,(true,()))),(q,zs))) (G ((shN W.d nd,(s',(true,()))),(q+W.d,zs'))) Q)
 (h0:∀ zs zs' nd s s',Sta W n p zs zs'->NR W s s'->J W lev (max b (2 * p+κ)) (F ((nd,(s,(false,()))),(p,zs))) (G ((shN W.d nd,(s',(false,()))),(p+W.d,zs'))) Q) :
 J W lev b (Option.bind (c (nm,()) W.A (p,xs)) fun y0=>zJ y0 (some none) F) (Option.bind (c' (nm,()) W.B (p+W.d,ys)) fun y0=>zJ y0 (some none) G) Q:=by
 refine qX hW (hc n p xs ys nm hS hn hm) ?_
 rintro q zs zs' ⟨nd,s,fn,_⟩ ⟨nd',s',fn',_⟩ k1 ⟨k2,k3,k4,k5,k6,k7,k8⟩
 replace k4:nd' = shN W.d nd:=k4
 replace k6:fn' = fn:=k6
 subst k4 k6
 cases fn' with
 | true=>exact h1 q zs zs' nd s s' k1 k1.p1 (k3 rfl).lt (k3 rfl) k5 k8
 | false=>
  obtain rfl:q=p:=k7 rfl
  exact h0 zs zs' nd s s' k1 k5
theorem J_L (hW:W.Ok) {c c':Unit->MM ((Nd×Unit)×Option MT)} {F G:((Nd×Unit)×Option MT)×PSt->Option (Option ρ)} (hc:SpL W κ k m c c') (hS:Sta W n p xs ys) (hn:(n:Int)<=2 * p+2) (hm:20 * ((W.A.length:Int) - p)+k < m)
 (h:∀ q zs zs' nd x x',Sta W n q zs zs'->q<=(W.A.length:Int)->p < q->Tr p q nd->W.MR x x'->nd.kind=11->J W lev (max b (2 * q+κ)) (F (((nd,()),some x),(q,zs))) (G (((shN W.d nd,()),some x'),(q+W.d,zs'))) Q) :
 J W lev b (Option.bind (c () W.A (p,xs)) fun y0=>zJ y0 (some none) F) (Option.bind (c' () W.B (p+W.d,ys)) fun y0=>zJ y0 (some none) G) Q:=by
 refine qX hW (hc n p xs ys hS hn hm) ?_
 rintro q zs zs' ⟨⟨nd,_⟩,mo⟩ ⟨⟨nd',_⟩,mo'⟩ h1 ⟨h2,h3,h7,x,x',h4,h5,h6⟩
 replace h3:nd' = shN W.d nd:=h3
 replace h4:mo=some x:=h4
 replace h5:mo' = some x':=h5
 subst h3 h4 h5
 exact h q zs zs' nd x x' h1 h1.p1 h2.lt h2 h6 h7
theorem J_I (hW:W.Ok) {c c':Nd×Str×Bool×Unit->MM (Nd×Unit)} {a0:Int} {nd:Nd} {s s':Str} {t:Bool} (hc:SpI W κ k m c c') (hS:Sta W n p xs ys) (hn:(n:Int)<=2 * p+2) (hm:20 * ((W.A.length:Int) - p)+k < m) (hT:Tr a0 p nd) (ha:0<=a0) (hs:NR W s s') (ht:t=true->W.TD) (h10:nd.kind=10)
 (h:∀ q zs zs' nd,Sta W n q zs zs'->q<=(W.A.length:Int)->p<=q->Tr a0 q nd->J W lev (max b (2 * q+κ)) (F ((nd,()),(q,zs))) (G ((shN W.d nd,()),(q+W.d,zs'))) Q) :
 J W lev b (Option.bind (c (nd,(s,(t,()))) W.A (p,xs)) fun y0=>zJ y0 (some none) F) (Option.bind (c' (shN W.d nd,(s',(t,()))) W.B (p+W.d,ys)) fun y0=>zJ y0 (some none) G) Q:=by
 refine qX hW (hc n p xs ys a0 nd s s' t hS hn hm hT ha hs ht h10) ?_
 rintro q zs zs' ⟨nd,_⟩ ⟨nd',_⟩ h1 ⟨h2,h3,rfl⟩
 exact h q zs zs' nd h1 h1.p1 h2 h3
theorem J_R (hW:W.Ok) {c c':(List Nd×Unit)×Bool×Unit->MM (Nd×Unit)} {a0:Int} {ps ps':List Nd} {t:Bool} (hc:SpR W κ k m c c') (hS:Sta W n p xs ys) (hn:(n:Int)<=2 * p+2) (hm:20 * ((W.A.length:Int) - p)+k < m) (hP:Pt a0 p ps) (ha:0<=a0) (he:ps' = shL W.d ps) (ht:t=true->W.TD)
 (h:∀ q zs zs' nd,Sta W n q zs zs'->q<=(W.A.length:Int)->p < q->Tr a0 q nd->J W lev (max b (2 * q+κ)) (F ((nd,()),(q,zs))) (G ((shN W.d nd,()),(q+W.d,zs'))) Q) :
 J W lev b (Option.bind (c ((ps,()),(t,())) W.A (p,xs)) fun y0=>zJ y0 (some none) F) (Option.bind (c' ((ps',()),(t,())) W.B (p+W.d,ys)) fun y0=>zJ y0 (some none) G) Q:=by
 subst he
 refine qX hW (hc n p xs ys a0 ps t hS hn hm hP ha ht) ?_
 rintro q zs zs' ⟨nd,_⟩ ⟨nd',_⟩ h1 ⟨h2,h3,rfl⟩
 exact h q zs zs' nd h1 h1.p1 h2 h3
theorem J_E (hW:W.Ok) {c c':Bool×Unit->MM (Nd×Unit)} {t:Bool} (hc:SpE W κ k m c c') (hS:Sta W n p xs ys) (hn:(n:Int)<=2 * p+2) (hm:20 * ((W.A.length:Int) - p)+k < m)
 (h:∀ q zs zs' nd,Sta W n q zs zs'->q<=(W.A.length:Int)->p < q->Tr p q nd->J W lev (max b (2 * q+κ)) (F ((nd,()),(q,zs))) (G ((shN W.d nd,()),(q+W.d,zs'))) Q) :
 J W lev b (Option.bind (c (t,()) W.A (p,xs)) fun y0=>zJ y0 (some none) F) (Option.bind (c' (t,()) W.B (p+W.d,ys)) fun y0=>zJ y0 (some none) G) Q:=by
 refine qX hW (hc n p xs ys t hS hn hm) ?_
 rintro q zs zs' ⟨nd,_⟩ ⟨nd',_⟩ h1 ⟨h2,rfl⟩
 exact h q zs zs' nd h1 h1.p1 h2.lt h2
theorem J_F (hW:W.Ok) {c c':(List Nd×Unit)×Unit->MM (Nd×Unit)} {a0:Int} {ps ps':List Nd} (hc:SpF W κ k m c c') (hS:Sta W n p xs ys) (hn:(n:Int)<=2 * p+2) (hm:20 * ((W.A.length:Int) - p)+k < m) (hP:Pt a0 p ps) (ha:0<=a0) (he:ps' = shL W.d ps)
 (h:∀ q zs zs' nd,Sta W n q zs zs'->q<=(W.A.length:Int)->p < q->Tr a0 q nd->J W lev (max b (2 * q+κ)) (F ((nd,()),(q,zs))) (G ((shN W.d nd,()),(q+W.d,zs'))) Q) :
 J W lev b (Option.bind (c ((ps,()),()) W.A (p,xs)) fun y0=>zJ y0 (some none) F) (Option.bind (c' ((ps',()),()) W.B (p+W.d,ys)) fun y0=>zJ y0 (some none) G) Q:=by
 subst he
 refine qX hW (hc n p xs ys a0 ps hS hn hm hP ha) ?_
 rintro q zs zs' ⟨nd,_⟩ ⟨nd',_⟩ h1 ⟨h2,h3,rfl⟩
 exact h q zs zs' nd h1 h1.p1 h2 h3
theorem J_G (hW:W.Ok) {c c':Int×Unit->MM (Nd×Unit)} {z:Int} (hc:SpG W κ k m c c') (hS:Sta W n p xs ys) (hn:(n:Int)<=2 * p+2) (hm:20 * ((W.A.length:Int) - p)+k < m)
 (h:∀ q zs zs' nd,Sta W n q zs zs'->q<=(W.A.length:Int)->p < q->Tr p q nd->J W lev (max b (2 * q+κ)) (F ((nd,()),(q,zs))) (G ((shN W.d nd,()),(q+W.d,zs'))) Q) :
 J W lev b (Option.bind (c (z,()) W.A (p,xs)) fun y0=>zJ y0 (some none) F) (Option.bind (c' (z,()) W.B (p+W.d,ys)) fun y0=>zJ y0 (some none) G) Q:=by
 refine qX hW (hc n p xs ys z hS hn hm) ?_
 rintro q zs zs' ⟨nd,_⟩ ⟨nd',_⟩ h1 ⟨h2,rfl⟩
 exact h q zs zs' nd h1 h1.p1 h2.lt h2
theorem J_H (hW:W.Ok) {c c':Nd×Unit->MM (Nd×Unit)} {a0:Int} {nd:Nd} (hc:SpH W κ k m c c') (hS:Sta W n p xs ys) (hn:(n:Int)<=2 * p+2) (hm:20 * ((W.A.length:Int) - p)+k < m) (hT:Tr a0 p nd) (ha:0<=a0)
 (h:∀ q zs zs' nd,Sta W n q zs zs'->q<=(W.A.length:Int)->p<=q->Tr a0 q nd->J W lev (max b (2 * q+κ)) (F ((nd,()),(q,zs))) (G ((shN W.d nd,()),(q+W.d,zs'))) Q) :
 J W lev b (Option.bind (c (nd,()) W.A (p,xs)) fun y0=>zJ y0 (some none) F) (Option.bind (c' (shN W.d nd,()) W.B (p+W.d,ys)) fun y0=>zJ y0 (some none) G) Q:=by
 refine qX hW (hc n p xs ys a0 nd hS hn hm hT ha) ?_
 rintro q zs zs' ⟨nd,_⟩ ⟨nd',_⟩ h1 ⟨h2,h3,rfl⟩
 exact h q zs zs' nd h1 h1.p1 h2 h3
theorem zJK (d:Int) (ps:List Nd):lenI (shL d ps)=lenI ps:=by show ((shL d ps).length:Int)=(ps.length:Int); rw [zU]
theorem zIL {t f t' f':Option (Option ρ)} {z:Int} {ps:List Nd} (h1:z < (ps.length:Int)->J W lev b t t' Q) (h0:(ps.length:Int)<=z->J W lev b f f' Q) :
 J W lev b (cond (ilt z (lenI ps)) t f) (cond (ilt z (lenI (shL W.d ps))) t' f') Q:=by
 rw [zJK]
 refine zAI (fun e=>h1 (of_decide_eq_true e)) fun e=>h0 ?_
 have:=of_decide_eq_false e
 change ¬ z < (ps.length:Int) at this
 omega
theorem zF0 {c c':Bool} {t f t' f':Option (Option ρ)} (h:J W lev b (cond c f t) (cond c' f' t') Q):J W lev b (cond (!c) t f) (cond (!c') t' f') Q:=by
 cases c <;> cases c' <;> exact h
theorem J_D1 (hW:W.Ok) {FX GX:(Unit×List Nd)×PSt->Option (Option ρ)} {c c':Unit->List Nd->MM (Unit×List Nd)} {a0:Int} {ps pz:List Nd} (hc:SpD W κ k m c c') (hS:Sta W n p xs ys) (hn:(n:Int)<=2 * p+2) (hm:20 * ((W.A.length:Int) - p)+k < m) (hP:Pt a0 p ps) (ha:0<=a0) (he:pz=shL W.d ps) (hk:pk ps) (hp:isF [[40]] W.A p=true)
 (h:∀ q zs zs' ps',Sta W n q zs zs'->q<=(W.A.length:Int)->p < q->Pt a0 q ps'->(ps'.length:Int)<=q - a0->pk ps'->J W lev (max b (2 * q+κ)) (FX (((),ps'),(q,zs))) (GX (((),shL W.d ps'),(q+W.d,zs'))) Q) :
 J W lev b (Option.bind (c () ps W.A (p,xs)) fun y0=>zJ y0 (some none) FX) (Option.bind (c' () pz W.B (p+W.d,ys)) fun y0=>zJ y0 (some none) GX) Q:=by
 refine J_D hW hc hS hn hm hP ha he hk fun q zs zs' ps' h1 h2 h3 h4 h5 h6 h7=>h q zs zs' ps' h1 h2 (h4 ?_) h5 h6 h7
 rw [zG7 (by decide)] at hp ⊢
 have:=of_decide_eq_true hp
 simp only [List.mem_singleton] at this
 rw [this]
 decide
theorem J_recS (hW:W.Ok) {σ1 σ2:Type} {rec rec':(Bool×σ1)×σ2->Option (Option ρ)} {w:Str} {X X':σ1} {Y Y':σ2} (q:Int) (q0:W.lo<=q) (q1:q<=(W.A.length:Int)) (hw:weakW.contains w=true)
 (h:J W lev (max b (2 * q+1)) (rec ((seq (zH W.A q) w,X),Y)) (rec' ((seq (zH W.A q) w,X'),Y')) Q):J W lev b (rec ((seq (zH W.A q) w,X),Y)) (rec' ((seq (zH W.B (q+W.d)) w,X'),Y')) Q:=by
 refine J.raise (2 * q+1) (J.sub hW (fun hA=>?_) h)
 have:=hW.weak q q0 q1 (hW.mono (by omega) hA) w (by simpa using hw)
 have e:seq (zH W.B (q+W.d)) w=seq (zH W.A q) w:=by rw [xd,xd]; congr 1; simp only [this]
 rw [e]
theorem yB (k t:Int) (l:List Nd):Nd.kind (Nd.mk k t l)=k:=rfl
theorem yU (k t:Int) (l:List Nd):Nd.tok (Nd.mk k t l)=t:=rfl
theorem yA (k t:Int) (l:List Nd):Nd.kids (Nd.mk k t l)=l:=rfl
theorem zC6 (x:Nd):Nd.mk x.kind x.tok x.kids=x:=by cases x; rfl
theorem zKr {p q:Int} {ps:List Nd} (h:Pt p q ps) (hk:pk ps):(ilt 0 (lenI ps)=true->Tr p q (Nd.mk 10 0 ps))/\(ilt 0 (lenI ps)=false->q=p):=by
 refine ⟨fun e=>?_,fun e=>?_⟩
 · have h1:(0:Int) < (ps.length:Int):=of_decide_eq_true e
   have:=h.len
   exact Tr.mk h (by omega) (by decide) (zj (by decide) hk)
 · have h1:¬ (0:Int) < (ps.length:Int):=of_decide_eq_false e
   obtain rfl:ps=[]:=List.length_eq_zero_iff.1 (by omega)
   exact h.empty
end
end
section
open Go.Al Go.Den
variable {W:Sim} {m fu:Nat} {r s0:RS} {P:Pr}
theorem sp113 (hW:W.Ok) (hP:P.Ok) (hfu:5000 < fu) (h:RSp W m r s0):SpN W 1 8 (m+1) (mM (aa:=([]:LK)) (rs:=([.st TI.node]:LK)) (sh113 fu P.c54 P.c73 r.c111 r.c113)) (mM (aa:=([]:LK)) (rs:=([.st TI.node]:LK)) (sh113 fu P.c54 P.c73 s0.c111 s0.c113)):=by
 have hA:=hW.lenA
 have lo0:=hW.lo0
 intro n p xs ys hS hn hm
 have p0:=hS.p0
 have p1:=hS.p1
 have n1:=hS.n1
 refine xk ?_
 simp only [sh113,zg,yB,yU,yA]
 try dsimp only [zQ]
 repeat' ((first
  | exact z8
  | (refine yM (by simp only [zU,zC,zF,zG,List.length_append,List.length_cons,List.length_nil]) (by first | omega | (simp only [List.length_append,List.length_cons,List.length_nil]; omega)) ?_)
  | (refine yx hP hW ‹_› (by decide) (by decide) ?_ ?_)
  | (refine yO hP hW ‹_› (by decide) (by decide) ?_ ?_)
  | (refine yI hP hW ‹_› ?_)
  | (refine J_N hW h.h111 ‹_› (by omega) (by omega) ?_)
  | (refine J_N hW h.h113 ‹_› (by omega) (by omega) ?_)
  | (refine zu ‹_› (by repeat' (first | refine Int.max_le.2 ⟨?_,?_⟩ | omega)) ⟨(by first | assumption | exact Tr.mk (by repeat' (first | assumption | exact Pt.nil _ | apply Pt.cons | apply Pt.app)) (by omega) (by decide) (by first | assumption | exact zZ rfl | exact zc rfl | exact zd | exact zS | exact zj (by decide) ‹_› | exact zT ‹_› (by rfl) | exact za ‹_› (by rfl) | exact zl (Pt.ne ‹_› (by omega)) | (intro x e; simp at e))),(by first | rfl | (refine Eq.trans ?_ (zn _ _ _ (by decide)).symm; simp only [zC,zF,zG]))⟩)) <;> intros <;> (try dsimp only [cond_true,cond_false,Bool.not_true,Bool.not_false,zY,zX,zQ]))
theorem sp111 (hW:W.Ok) (hP:P.Ok) (hfu:5000 < fu) (h:RSp W m r s0):SpN W 1 7 (m+1) (mM (aa:=([]:LK)) (rs:=([.st TI.node]:LK)) (sh111 fu P.c54 P.c73 r.c111 r.c114)) (mM (aa:=([]:LK)) (rs:=([.st TI.node]:LK)) (sh111 fu P.c54 P.c73 s0.c111 s0.c114)):=by
 have hA:=hW.lenA
 have lo0:=hW.lo0
 intro n p xs ys hS hn hm
 have p0:=hS.p0
 have p1:=hS.p1
 have n1:=hS.n1
 refine xk ?_
 simp only [sh111,zg,yB,yU,yA]
 try dsimp only [zQ]
 repeat' ((first
  | exact z8
  | (refine yM (by simp only [zU,zC,zF,zG,List.length_append,List.length_cons,List.length_nil]) (by first | omega | (simp only [List.length_append,List.length_cons,List.length_nil]; omega)) ?_)
  | (refine yx hP hW ‹_› (by decide) (by decide) ?_ ?_)
  | (refine yO hP hW ‹_› (by decide) (by decide) ?_ ?_)
  | (refine yI hP hW ‹_› ?_)
  | (refine J_N hW h.h111 ‹_› (by omega) (by omega) ?_)
  | (refine J_N hW h.h114 ‹_› (by omega) (by omega) ?_)
  | (refine zu ‹_› (by repeat' (first | refine Int.max_le.2 ⟨?_,?_⟩ | omega)) ⟨(by first | assumption | exact Tr.mk (by repeat' (first | assumption | exact Pt.nil _ | apply Pt.cons | apply Pt.app)) (by omega) (by decide) (by first | assumption | exact zZ rfl | exact zc rfl | exact zd | exact zS | exact zj (by decide) ‹_› | exact zT ‹_› (by rfl) | exact za ‹_› (by rfl) | exact zl (Pt.ne ‹_› (by omega)) | (intro x e; simp at e))),(by first | rfl | (refine Eq.trans ?_ (zn _ _ _ (by decide)).symm; simp only [zC,zF,zG]))⟩)) <;> intros <;> (try dsimp only [cond_true,cond_false,Bool.not_true,Bool.not_false,zY,zX,zQ]))
theorem sp114 (hW:W.Ok) (hP:P.Ok) (hfu:5000 < fu) (h:RSp W m r s0):SpN W 1 6 (m+1) (mM (aa:=([]:LK)) (rs:=([.st TI.node]:LK)) (sh114 fu P.c54 P.c73 P.c78 r.c113 r.c114 r.c131)) (mM (aa:=([]:LK)) (rs:=([.st TI.node]:LK)) (sh114 fu P.c54 P.c73 P.c78 s0.c113 s0.c114 s0.c131)):=by
 have hA:=hW.lenA
 have lo0:=hW.lo0
 intro n p xs ys hS hn hm
 have p0:=hS.p0
 have p1:=hS.p1
 have n1:=hS.n1
 refine xk ?_
 simp only [sh114,zg,yB,yU,yA]
 try dsimp only [zQ]
 repeat' ((first
  | exact z8
  | (refine yM (by simp only [zU,zC,zF,zG,List.length_append,List.length_cons,List.length_nil]) (by first | omega | (simp only [List.length_append,List.length_cons,List.length_nil]; omega)) ?_)
  | (refine yx hP hW ‹_› (by decide) (by decide) ?_ ?_)
  | (refine yO hP hW ‹_› (by decide) (by decide) ?_ ?_)
  | (refine yI hP hW ‹_› ?_)
  | (refine yg hP hW ‹_› (by decide) ?_)
  | (refine yX hP hW ‹_› (by decide) ?_)
  | (refine J_N hW h.h113 ‹_› (by omega) (by omega) ?_)
  | (refine J_N hW h.h114 ‹_› (by omega) (by omega) ?_)
  | (refine J_G hW h.h131 ‹_› (by omega) (by omega) ?_)
  | (refine zu ‹_› (by repeat' (first | refine Int.max_le.2 ⟨?_,?_⟩ | omega)) ⟨(by first | assumption | exact Tr.mk (by repeat' (first | assumption | exact Pt.nil _ | apply Pt.cons | apply Pt.app)) (by omega) (by decide) (by first | assumption | exact zZ rfl | exact zc rfl | exact zd | exact zS | exact zj (by decide) ‹_› | exact zT ‹_› (by rfl) | exact za ‹_› (by rfl) | exact zl (Pt.ne ‹_› (by omega)) | (intro x e; simp at e))),(by first | rfl | (refine Eq.trans ?_ (zn _ _ _ (by decide)).symm; simp only [zC,zF,zG]))⟩)) <;> intros <;> (try dsimp only [cond_true,cond_false,Bool.not_true,Bool.not_false,zY,zX,zQ]))
theorem sp142 (hW:W.Ok) (hP:P.Ok) (hfu:5000 < fu) (h:RSp W m r s0):SpN W 1 4 (m+1) (mM (aa:=([]:LK)) (rs:=([.st TI.node]:LK)) (sh142 fu P.c54 P.c73 P.c78 P.c84 r.c142 r.c150 r.c151)) (mM (aa:=([]:LK)) (rs:=([.st TI.node]:LK)) (sh142 fu P.c54 P.c73 P.c78 P.c84 s0.c142 s0.c150 s0.c151)):=by
 have hA:=hW.lenA
 have lo0:=hW.lo0
 intro n p xs ys hS hn hm
 have p0:=hS.p0
 have p1:=hS.p1
 have n1:=hS.n1
 refine xk ?_
 simp only [sh142,zg,yB,yU,yA]
 try dsimp only [zQ]
 repeat' ((first
  | exact z8
  | (refine yM (by simp only [zU,zC,zF,zG,List.length_append,List.length_cons,List.length_nil]) (by first | omega | (simp only [List.length_append,List.length_cons,List.length_nil]; omega)) ?_)
  | (refine yx hP hW ‹_› (by decide) (by decide) ?_ ?_)
  | (refine yO hP hW ‹_› (by decide) (by decide) ?_ ?_)
  | (refine yI hP hW ‹_› ?_)
  | (refine yg hP hW ‹_› (by decide) ?_)
  | (refine yX hP hW ‹_› (by decide) ?_)
  | (refine zB0 hP hW ‹_› (by omega) ?_ ?_)
  | (refine zB9 hP hW ‹_› (by omega) (by omega) ?_ ?_)
  | (refine J_N hW h.h142 ‹_› (by omega) (by omega) ?_)
  | (refine J_N hW h.h150 ‹_› (by omega) (by omega) ?_)
  | (refine J_N hW h.h151 ‹_› (by omega) (by omega) ?_)
  | (refine zu ‹_› (by repeat' (first | refine Int.max_le.2 ⟨?_,?_⟩ | omega)) ⟨(by first | assumption | exact Tr.mk (by repeat' (first | assumption | exact Pt.nil _ | apply Pt.cons | apply Pt.app)) (by omega) (by decide) (by first | assumption | exact zZ rfl | exact zc rfl | exact zd | exact zS | exact zj (by decide) ‹_› | exact zT ‹_› (by rfl) | exact za ‹_› (by rfl) | exact zl (Pt.ne ‹_› (by omega)) | (intro x e; simp at e))),(by first | rfl | (refine Eq.trans ?_ (zn _ _ _ (by decide)).symm; simp only [zC,zF,zG]))⟩)) <;> intros <;> (try dsimp only [cond_true,cond_false,Bool.not_true,Bool.not_false,zY,zX,zQ]))
theorem sp150 (hW:W.Ok) (hP:P.Ok) (hfu:5000 < fu) (h:RSp W m r s0):SpN W 1 3 (m+1) (mM (aa:=([]:LK)) (rs:=([.st TI.node]:LK)) (sh150 fu P.c54 P.c73 P.c78 P.c84 r.c142 r.c150 r.c151 r.c154 r.c155)) (mM (aa:=([]:LK)) (rs:=([.st TI.node]:LK)) (sh150 fu P.c54 P.c73 P.c78 P.c84 s0.c142 s0.c150 s0.c151 s0.c154 s0.c155)):=by
 have hA:=hW.lenA
 have lo0:=hW.lo0
 intro n p xs ys hS hn hm
 have p0:=hS.p0
 have p1:=hS.p1
 have n1:=hS.n1
 refine xk ?_
 simp only [sh150,zg,yB,yU,yA]
 try dsimp only [zQ]
 repeat' ((first
  | exact z8
  | (refine yM (by simp only [zU,zC,zF,zG,List.length_append,List.length_cons,List.length_nil]) (by first | omega | (simp only [List.length_append,List.length_cons,List.length_nil]; omega)) ?_)
  | (refine yx hP hW ‹_› (by decide) (by decide) ?_ ?_)
  | (refine yO hP hW ‹_› (by decide) (by decide) ?_ ?_)
  | (refine yI hP hW ‹_› ?_)
  | (refine yg hP hW ‹_› (by decide) ?_)
  | (refine yX hP hW ‹_› (by decide) ?_)
  | (refine zB0 hP hW ‹_› (by omega) ?_ ?_)
  | (refine zB9 hP hW ‹_› (by omega) (by omega) ?_ ?_)
  | (refine J_N hW h.h142 ‹_› (by omega) (by omega) ?_)
  | (refine J_N hW h.h150 ‹_› (by omega) (by omega) ?_)
  | (refine J_N hW h.h151 ‹_› (by omega) (by omega) ?_)
  | (refine J_H hW h.h154 ‹_› (by omega) (by omega) (by first | assumption | exact Tr.mk (by repeat' (first | assumption | exact Pt.nil _ | apply Pt.cons | apply Pt.app)) (by omega) (by decide) (by first | assumption | exact zZ rfl | exact zc rfl | exact zd | exact zS | exact zj (by decide) ‹_› | exact zT ‹_› (by rfl) | exact za ‹_› (by rfl) | exact zl (Pt.ne ‹_› (by omega)) | (intro x e; simp at e))) (by omega) ?_)
  | (refine J_N hW h.h155 ‹_› (by omega) (by omega) ?_)
  | (refine zu ‹_› (by repeat' (first | refine Int.max_le.2 ⟨?_,?_⟩ | omega)) ⟨(by first | assumption | exact Tr.mk (by repeat' (first | assumption | exact Pt.nil _ | apply Pt.cons | apply Pt.app)) (by omega) (by decide) (by first | assumption | exact zZ rfl | exact zc rfl | exact zd | exact zS | exact zj (by decide) ‹_› | exact zT ‹_› (by rfl) | exact za ‹_› (by rfl) | exact zl (Pt.ne ‹_› (by omega)) | (intro x e; simp at e))),(by first | rfl | (refine Eq.trans ?_ (zn _ _ _ (by decide)).symm; simp only [zC,zF,zG]))⟩)) <;> intros <;> (try dsimp only [cond_true,cond_false,Bool.not_true,Bool.not_false,zY,zX,zQ]))
theorem sp151 (hW:W.Ok) (hP:P.Ok) (hfu:5000 < fu) (h:RSp W m r s0):SpN W 1 4 (m+1) (mM (aa:=([]:LK)) (rs:=([.st TI.node]:LK)) (sh151 fu r.c53 r.c130)) (mM (aa:=([]:LK)) (rs:=([.st TI.node]:LK)) (sh151 fu s0.c53 s0.c130)):=by
 have hA:=hW.lenA
 have lo0:=hW.lo0
 intro n p xs ys hS hn hm
 have p0:=hS.p0
 have p1:=hS.p1
 have n1:=hS.n1
 refine xk ?_
 simp only [sh151,zg,yB,yU,yA]
 try dsimp only [zQ]
 repeat' ((first
  | exact z8
  | (refine yM (by simp only [zU,zC,zF,zG,List.length_append,List.length_cons,List.length_nil]) (by first | omega | (simp only [List.length_append,List.length_cons,List.length_nil]; omega)) ?_)
  | (refine J_S hW h.h53 ‹_› (by omega) (by omega) ?_)
  | (refine J_K hW h.h130 ‹_› (by omega) (by omega) ?_ ?_)
  | (refine zu ‹_› (by repeat' (first | refine Int.max_le.2 ⟨?_,?_⟩ | omega)) ⟨(by first | assumption | exact Tr.mk (by repeat' (first | assumption | exact Pt.nil _ | apply Pt.cons | apply Pt.app)) (by omega) (by decide) (by first | assumption | exact zZ rfl | exact zc rfl | exact zd | exact zS | exact zj (by decide) ‹_› | exact zT ‹_› (by rfl) | exact za ‹_› (by rfl) | exact zl (Pt.ne ‹_› (by omega)) | (intro x e; simp at e))),(by first | rfl | (refine Eq.trans ?_ (zn _ _ _ (by decide)).symm; simp only [zC,zF,zG]))⟩)) <;> intros <;> (try dsimp only [cond_true,cond_false,Bool.not_true,Bool.not_false,zY,zX,zQ]))
theorem sp110 (hW:W.Ok) (hP:P.Ok) (hfu:5000 < fu) (h:RSp W m r s0):SpN W 1 4 (m+1) (mM (aa:=([]:LK)) (rs:=([.st TI.node]:LK)) (sh110 fu r.c53 c58 r.c130)) (mM (aa:=([]:LK)) (rs:=([.st TI.node]:LK)) (sh110 fu s0.c53 c58 s0.c130)):=by
 have hA:=hW.lenA
 have lo0:=hW.lo0
 intro n p xs ys hS hn hm
 have p0:=hS.p0
 have p1:=hS.p1
 have n1:=hS.n1
 refine xk ?_
 simp only [sh110,zg,yB,yU,yA]
 try dsimp only [zQ]
 repeat' ((first
  | exact z8
  | (refine yM (by simp only [zU,zC,zF,zG,List.length_append,List.length_cons,List.length_nil]) (by first | omega | (simp only [List.length_append,List.length_cons,List.length_nil]; omega)) ?_)
  | (refine zII hW ‹_› (by omega) (by first | assumption | exact .inl ⟨rfl,rfl⟩ | exact .inr ⟨_,by omega,by assumption,rfl,rfl⟩) (by first | assumption | (intro e; cases e)) ?_)
  | (refine J_S hW h.h53 ‹_› (by omega) (by omega) ?_)
  | (refine J_K hW h.h130 ‹_› (by omega) (by omega) ?_ ?_)
  | (refine zu ‹_› (by repeat' (first | refine Int.max_le.2 ⟨?_,?_⟩ | omega)) ⟨(by first | assumption | exact Tr.mk (by repeat' (first | assumption | exact Pt.nil _ | apply Pt.cons | apply Pt.app)) (by omega) (by decide) (by first | assumption | exact zZ rfl | exact zc rfl | exact zd | exact zS | exact zj (by decide) ‹_› | exact zT ‹_› (by rfl) | exact za ‹_› (by rfl) | exact zl (Pt.ne ‹_› (by omega)) | (intro x e; simp at e))),(by first | rfl | (refine Eq.trans ?_ (zn _ _ _ (by decide)).symm; simp only [zC,zF,zG]))⟩)) <;> intros <;> (try dsimp only [cond_true,cond_false,Bool.not_true,Bool.not_false,zY,zX,zQ]))
theorem sp108 (hW:W.Ok) (hP:P.Ok) (hfu:5000 < fu) (h:RSp W m r s0):SpN W 1 1 (m+1) (mM (aa:=([]:LK)) (rs:=([.st TI.node]:LK)) (sh108 fu P.c54 c58 P.c72 P.c73 P.c80 r.c114)) (mM (aa:=([]:LK)) (rs:=([.st TI.node]:LK)) (sh108 fu P.c54 c58 P.c72 P.c73 P.c80 s0.c114)):=by
 have hA:=hW.lenA
 have lo0:=hW.lo0
 intro n p xs ys hS hn hm
 have p0:=hS.p0
 have p1:=hS.p1
 have n1:=hS.n1
 refine xk ?_
 simp only [sh108,zg,yB,yU,yA]
 try dsimp only [zQ]
 repeat' ((first
  | exact z8
  | (refine yM (by simp only [zU,zC,zF,zG,List.length_append,List.length_cons,List.length_nil]) (by first | omega | (simp only [List.length_append,List.length_cons,List.length_nil]; omega)) ?_)
  | (refine zII hW ‹_› (by omega) (by first | assumption | exact .inl ⟨rfl,rfl⟩ | exact .inr ⟨_,by omega,by assumption,rfl,rfl⟩) (by first | assumption | (intro e; cases e)) ?_)
  | (refine yx hP hW ‹_› (by decide) (by decide) ?_ ?_)
  | (refine yO hP hW ‹_› (by decide) (by decide) ?_ ?_)
  | (refine zAT hP hW ‹_› ?_)
  | (refine zAb hP hW ‹_› ?_)
  | (refine yI hP hW ‹_› ?_)
  | (refine zAm hP hW ‹_› ?_)
  | (refine J_N hW h.h114 ‹_› (by omega) (by omega) ?_)
  | (refine zu ‹_› (by repeat' (first | refine Int.max_le.2 ⟨?_,?_⟩ | omega)) ⟨(by first | assumption | exact Tr.mk (by repeat' (first | assumption | exact Pt.nil _ | apply Pt.cons | apply Pt.app)) (by omega) (by decide) (by first | assumption | exact zZ rfl | exact zc rfl | exact zd | exact zS | exact zj (by decide) ‹_› | exact zT ‹_› (by rfl) | exact za ‹_› (by rfl) | exact zl (Pt.ne ‹_› (by omega)) | (intro x e; simp at e))),(by first | rfl | (refine Eq.trans ?_ (zn _ _ _ (by decide)).symm; simp only [zC,zF,zG]))⟩)) <;> intros <;> (try dsimp only [cond_true,cond_false,Bool.not_true,Bool.not_false,zY,zX,zQ]))
theorem sp57 (hW:W.Ok) (hP:P.Ok) (hfu:5000 < fu) (h:RSp W m r s0):SpI W 1 1 (m+1) (mM (aa:=([.st TI.node,.str,.bool]:LK)) (rs:=([.st TI.node]:LK)) (sh57 fu P.c54 c58 P.c73 r.c83)) (mM (aa:=([.st TI.node,.str,.bool]:LK)) (rs:=([.st TI.node]:LK)) (sh57 fu P.c54 c58 P.c73 s0.c83)):=by
 have hA:=hW.lenA
 have lo0:=hW.lo0
 intro n p xs ys a0 nd s s' t hS hn hm hT ha hs ht h10
 have p0:=hS.p0
 have p1:=hS.p1
 have n1:=hS.n1
 refine xk ?_
 simp only [sh57,zg,yB,yU,yA]
 have hl1:=hT.lt
 try dsimp only [zQ]
 repeat' ((first
  | exact z8
  | (refine yM (by simp only [zU,zC,zF,zG,List.length_append,List.length_cons,List.length_nil]) (by first | omega | (simp only [List.length_append,List.length_cons,List.length_nil]; omega)) ?_)
  | (refine zII hW ‹_› (by omega) (by first | assumption | exact .inl ⟨rfl,rfl⟩ | exact .inr ⟨_,by omega,by assumption,rfl,rfl⟩) (by first | assumption | (intro e; cases e)) ?_)
  | (refine zu ‹_› (by repeat' (first | refine Int.max_le.2 ⟨?_,?_⟩ | omega)) ⟨(by omega),(by first | assumption | exact Tr.mk (by repeat' (first | assumption | exact Pt.nil _ | apply Pt.cons | apply Pt.app)) (by omega) (by decide) (by first | assumption | exact zZ rfl | exact zc rfl | exact zd | exact zS | exact zj (by decide) ‹_› | exact zT ‹_› (by rfl) | exact za ‹_› (by rfl) | exact zl (Pt.ne ‹_› (by omega)) | (intro x e; simp at e))),(by first | rfl | (refine Eq.trans ?_ (zn _ _ _ (by decide)).symm; simp only [zC,zF,zG]))⟩)
  | (refine yx hP hW ‹_› (by decide) (by decide) ?_ ?_)
  | (refine yO hP hW ‹_› (by decide) (by decide) ?_ ?_)
  | (refine yI hP hW ‹_› ?_)
  | (refine J_N hW h.h83 ‹_› (by omega) (by omega) ?_)
  | (refine zu ‹_› (by repeat' (first | refine Int.max_le.2 ⟨?_,?_⟩ | omega)) ⟨(by first | assumption | exact Tr.mk (by repeat' (first | assumption | exact Pt.nil _ | apply Pt.cons | apply Pt.app)) (by omega) (by decide) (by first | assumption | exact zZ rfl | exact zc rfl | exact zd | exact zS | exact zj (by decide) ‹_› | exact zT ‹_› (by rfl) | exact za ‹_› (by rfl) | exact zl (Pt.ne ‹_› (by omega)) | (intro x e; simp at e))),(by first | rfl | (refine Eq.trans ?_ (zn _ _ _ (by decide)).symm; simp only [zC,zF,zG]))⟩)) <;> intros <;> (try dsimp only [cond_true,cond_false,Bool.not_true,Bool.not_false,zY,zX,zQ]))
theorem sp115 (hW:W.Ok) (hP:P.Ok) (hfu:5000 < fu) (h:RSp W m r s0):SpP W 0 1 (m+1) 1 (mX (aa:=([]:LK)) (rs:=([]:LK)) (sh115 fu P.c78 r.c113)) (mX (aa:=([]:LK)) (rs:=([]:LK)) (sh115 fu P.c78 s0.c113)):=by
 have hA:=hW.lenA
 have lo0:=hW.lo0
 intro n p xs ys a0 ps hS hn hm hQ ha hpk
 have p0:=hS.p0
 have p1:=hS.p1
 have n1:=hS.n1
 refine zIF ?_
 simp only [sh115,zg,yB,yU,yA]
 have hl:=hQ.len
 try dsimp only [zQ]
 repeat' ((first
  | exact z8
  | (refine yM (by simp only [zU,zC,zF,zG,List.length_append,List.length_cons,List.length_nil]) (by first | omega | (simp only [List.length_append,List.length_cons,List.length_nil]; omega)) ?_)
  | (refine zGd ‹_› (by repeat' (first | refine Int.max_le.2 ⟨?_,?_⟩ | omega)) ⟨(by omega),(by repeat' (first | assumption | exact Pt.nil _ | apply Pt.cons | apply Pt.app)),(by first | rfl | simp only [zC,zF,zG]),(by first | assumption | exact xf | exact zo (.inl rfl) | exact xi (.inl rfl) | exact xm | exact yw | exact zo (.inr ‹_›))⟩)
  | (refine yg hP hW ‹_› (by decide) ?_)
  | (refine yX hP hW ‹_› (by decide) ?_)
  | (refine J_N hW h.h113 ‹_› (by omega) (by omega) ?_)
  | (refine zu ‹_› (by repeat' (first | refine Int.max_le.2 ⟨?_,?_⟩ | omega)) ⟨(by first | assumption | exact Tr.mk (by repeat' (first | assumption | exact Pt.nil _ | apply Pt.cons | apply Pt.app)) (by omega) (by decide) (by first | assumption | exact zZ rfl | exact zc rfl | exact zd | exact zS | exact zj (by decide) ‹_› | exact zT ‹_› (by rfl) | exact za ‹_› (by rfl) | exact zl (Pt.ne ‹_› (by omega)) | (intro x e; simp at e))),(by first | rfl | (refine Eq.trans ?_ (zn _ _ _ (by decide)).symm; simp only [zC,zF,zG]))⟩)) <;> intros <;> (try dsimp only [cond_true,cond_false,Bool.not_true,Bool.not_false,zY,zX,zQ]))
end
section
open Go.Al Go.Den
variable {W:Sim} {m fu:Nat} {r s0:RS} {P:Pr}
set_option maxHeartbeats 1000000 in
theorem sp74 (hW:W.Ok) (hP:P.Ok) (hfu:5000 < fu) (h:RSp W m r s0):SpM W 1 1 (m+1) 5 (mM (aa:=([]:LK)) (rs:=([.st TI.node]:LK)) (sh74 fu P.c54 P.c73 P.c85 r.c107)) (mM (aa:=([]:LK)) (rs:=([.st TI.node]:LK)) (sh74 fu P.c54 P.c73 P.c85 s0.c107)):=by
 have hA:=hW.lenA
 have lo0:=hW.lo0
 intro n p xs ys hS hn hm
 have p0:=hS.p0
 have p1:=hS.p1
 have n1:=hS.n1
 refine xk ?_
 simp only [sh74,zg,yB,yU,yA]
 try dsimp only [zQ]
 repeat' ((first
  | exact z8
  | (refine yM (by simp only [zU,zC,zF,zG,List.length_append,List.length_cons,List.length_nil]) (by first | omega | (simp only [List.length_append,List.length_cons,List.length_nil]; omega)) ?_)
  | (refine zu ‹_› (by repeat' (first | refine Int.max_le.2 ⟨?_,?_⟩ | omega)) ⟨(by first | assumption | exact Tr.mk (by repeat' (first | assumption | exact Pt.nil _ | apply Pt.cons | apply Pt.app)) (by omega) (by decide) (by first | assumption | exact zZ rfl | exact zc rfl | exact zd | exact zS | exact zj (by decide) ‹_› | exact zT ‹_› (by rfl) | exact za ‹_› (by rfl) | exact zl (Pt.ne ‹_› (by omega)) | (intro x e; simp at e))),(by first | rfl | (refine Eq.trans ?_ (zn _ _ _ (by decide)).symm; simp only [zC,zF,zG])),rfl⟩)
  | (refine yx hP hW ‹_› (by decide) (by decide) ?_ ?_)
  | (refine yO hP hW ‹_› (by decide) (by decide) ?_ ?_)
  | (refine yI hP hW ‹_› ?_)
  | (refine kJ hP hW ‹_› ?_ ?_)
  | (refine kF hP hW ‹_› (by omega) ?_ ?_)
  | (refine J_N hW h.h107 ‹_› (by omega) (by omega) ?_)
  | (refine zu ‹_› (by repeat' (first | refine Int.max_le.2 ⟨?_,?_⟩ | omega)) ⟨(by first | assumption | exact Tr.mk (by repeat' (first | assumption | exact Pt.nil _ | apply Pt.cons | apply Pt.app)) (by omega) (by decide) (by first | assumption | exact zZ rfl | exact zc rfl | exact zd | exact zS | exact zj (by decide) ‹_› | exact zT ‹_› (by rfl) | exact za ‹_› (by rfl) | exact zl (Pt.ne ‹_› (by omega)) | (intro x e; simp at e))),(by first | rfl | (refine Eq.trans ?_ (zn _ _ _ (by decide)).symm; simp only [zC,zF,zG]))⟩)) <;> intros <;> (try dsimp only [cond_true,cond_false,Bool.not_true,Bool.not_false,zY,zX,zQ]))
 all_goals
  refine qz (I:=fun b s s'=>∃ (q:Int) (zs zs':List MT) (ps ps':List Nd) (j:Int×(Int×NdsT)),s=((),((W.A,(q,(zs,((),())))),(j,((ps,()),()))))/\s' = ((),((W.B,(q+W.d,(zs',((),())))),(j,((ps',()),()))))/\ps' = shL W.d ps/\Sta W n q zs zs'/\q<=(W.A.length:Int)/\p < q/\Pt p q ps/\(ps.length:Int)<=q - p/\b<=2 * q+1) (μ:=fun s=>((W.A.length:Int) - s.2.1.2.1).toNat) ?_ fu _ _ _ ⟨_,_,_,_,_,_,rfl,rfl,(by first | rfl | simp only [zC,zF,zG]),‹_›,(by omega),(by omega),(by repeat' (first | assumption | exact Pt.nil _ | apply Pt.cons | apply Pt.app)),(by first | omega | (simp only [List.length_append,List.length_cons,List.length_nil]; omega)),(by repeat' (first | refine Int.max_le.2 ⟨?_,?_⟩ | omega))⟩ (by dsimp only; omega)
  rintro rec rec' b s s' ⟨q,zs,zs',ps,ps',j,rfl,rfl,rfl,hS1,hq1,hq,hP1,hl1,hb⟩ hrec
  dsimp only
  repeat' ((first
   | exact z8
   | (refine yM (by simp only [zU,zC,zF,zG,List.length_append,List.length_cons,List.length_nil]) (by first | omega | (simp only [List.length_append,List.length_cons,List.length_nil]; omega)) ?_)
   | (refine hrec _ _ _ ⟨_,_,_,_,_,_,rfl,rfl,(by first | rfl | simp only [zC,zF,zG]),‹_›,(by omega),(by omega),(by repeat' (first | assumption | exact Pt.nil _ | apply Pt.cons | apply Pt.app)),(by first | omega | (simp only [List.length_append,List.length_cons,List.length_nil]; omega)),(by repeat' (first | refine Int.max_le.2 ⟨?_,?_⟩ | omega))⟩ (by dsimp only; omega))
   | (refine yx hP hW ‹_› (by decide) (by decide) ?_ ?_)
   | (refine yO hP hW ‹_› (by decide) (by decide) ?_ ?_)
   | (refine yI hP hW ‹_› ?_)
   | (refine kJ hP hW ‹_› ?_ ?_)
   | (refine kF hP hW ‹_› (by omega) ?_ ?_)
   | (refine J_N hW h.h107 ‹_› (by omega) (by omega) ?_)
   | (refine zu ‹_› (by repeat' (first | refine Int.max_le.2 ⟨?_,?_⟩ | omega)) ⟨(by first | assumption | exact Tr.mk (by repeat' (first | assumption | exact Pt.nil _ | apply Pt.cons | apply Pt.app)) (by omega) (by decide) (by first | assumption | exact zZ rfl | exact zc rfl | exact zd | exact zS | exact zj (by decide) ‹_› | exact zT ‹_› (by rfl) | exact za ‹_› (by rfl) | exact zl (Pt.ne ‹_› (by omega)) | (intro x e; simp at e))),(by first | rfl | (refine Eq.trans ?_ (zn _ _ _ (by decide)).symm; simp only [zC,zF,zG])),rfl⟩)) <;> intros <;> (try dsimp only [cond_true,cond_false,Bool.not_true,Bool.not_false,zY,zX,zQ]))
set_option maxHeartbeats 1000000 in
theorem sp60 (hW:W.Ok) (hP:P.Ok) (hfu:5000 < fu) (h:RSp W m r s0):SpB W 0 1 (m+1) (mM (aa:=([]:LK)) (rs:=([.st TI.node]:LK)) (sh60 fu r.c37 P.c54 P.c72 P.c73 P.c78 P.c84 P.c85 r.c86)) (mM (aa:=([]:LK)) (rs:=([.st TI.node]:LK)) (sh60 fu s0.c37 P.c54 P.c72 P.c73 P.c78 P.c84 P.c85 s0.c86)):=by
 have hA:=hW.lenA
 have lo0:=hW.lo0
 intro n p xs ys hS hn hm
 have p0:=hS.p0
 have p1:=hS.p1
 have n1:=hS.n1
 refine xk ?_
 simp only [sh60,zg,yB,yU,yA]
 try dsimp only [zQ]
 repeat' ((first
  | exact z8
  | (refine yM (by simp only [zU,zC,zF,zG,List.length_append,List.length_cons,List.length_nil]) (by first | omega | (simp only [List.length_append,List.length_cons,List.length_nil]; omega)) ?_)
  | (refine yx hP hW ‹_› (by decide) (by decide) ?_ ?_)
  | (refine yO hP hW ‹_› (by decide) (by decide) ?_ ?_)
  | (refine zAT hP hW ‹_› ?_)
  | (refine zAb hP hW ‹_› ?_)
  | (refine yI hP hW ‹_› ?_)
  | (refine yg hP hW ‹_› (by decide) ?_)
  | (refine yX hP hW ‹_› (by decide) ?_)
  | (refine zB0 hP hW ‹_› (by omega) ?_ ?_)
  | (refine zB9 hP hW ‹_› (by omega) (by omega) ?_ ?_)
  | (refine kJ hP hW ‹_› ?_ ?_)
  | (refine kF hP hW ‹_› (by omega) ?_ ?_)
  | (refine J_E hW h.h37 ‹_› (by omega) (by omega) ?_)
  | (refine J_N hW h.h86 ‹_› (by omega) (by omega) ?_)
  | (refine zu ‹_› (by repeat' (first | refine Int.max_le.2 ⟨?_,?_⟩ | omega)) ⟨(by first | assumption | exact Tr.mk (by repeat' (first | assumption | exact Pt.nil _ | apply Pt.cons | apply Pt.app)) (by omega) (by decide) (by first | assumption | exact zZ rfl | exact zc rfl | exact zd | exact zS | exact zj (by decide) ‹_› | exact zT ‹_› (by rfl) | exact za ‹_› (by rfl) | exact zl (Pt.ne ‹_› (by omega)) | (intro x e; simp at e))),(by first | rfl | (refine Eq.trans ?_ (zn _ _ _ (by decide)).symm; simp only [zC,zF,zG]))⟩)) <;> intros <;> (try dsimp only [cond_true,cond_false,Bool.not_true,Bool.not_false,zY,zX,zQ]))
 all_goals
  refine qz (I:=fun b s s'=>∃ (q:Int) (zs zs':List MT) (ps ps':List Nd) (j:Int×(Int×NdsT)),s=((),((W.A,(q,(zs,((),())))),(j,((ps,()),()))))/\s' = ((),((W.B,(q+W.d,(zs',((),())))),(j,((ps',()),()))))/\ps' = shL W.d ps/\Sta W n q zs zs'/\q<=(W.A.length:Int)/\p < q/\Pt p q ps/\(ps.length:Int)<=q - p/\b<=2 * q+1) (μ:=fun s=>((W.A.length:Int) - s.2.1.2.1).toNat) ?_ fu _ _ _ ⟨_,_,_,_,_,_,rfl,rfl,(by first | rfl | simp only [zC,zF,zG]),‹_›,(by omega),(by omega),(by repeat' (first | assumption | exact Pt.nil _ | apply Pt.cons | apply Pt.app)),(by first | omega | (simp only [List.length_append,List.length_cons,List.length_nil]; omega)),(by repeat' (first | refine Int.max_le.2 ⟨?_,?_⟩ | omega))⟩ (by dsimp only; omega)
  rintro rec rec' b s s' ⟨q,zs,zs',ps,ps',j,rfl,rfl,rfl,hS1,hq1,hq,hP1,hl1,hb⟩ hrec
  dsimp only
  repeat' ((first
   | exact z8
   | (refine yM (by simp only [zU,zC,zF,zG,List.length_append,List.length_cons,List.length_nil]) (by first | omega | (simp only [List.length_append,List.length_cons,List.length_nil]; omega)) ?_)
   | (refine hrec _ _ _ ⟨_,_,_,_,_,_,rfl,rfl,(by first | rfl | simp only [zC,zF,zG]),‹_›,(by omega),(by omega),(by repeat' (first | assumption | exact Pt.nil _ | apply Pt.cons | apply Pt.app)),(by first | omega | (simp only [List.length_append,List.length_cons,List.length_nil]; omega)),(by repeat' (first | refine Int.max_le.2 ⟨?_,?_⟩ | omega))⟩ (by dsimp only; omega))
   | (refine zF0 ?_)
   | (refine zIP hW _ (by omega) (by omega) (by decide) ?_ ?_)
   | (refine yx hP hW ‹_› (by decide) (by decide) ?_ ?_)
   | (refine yO hP hW ‹_› (by decide) (by decide) ?_ ?_)
   | (refine zAT hP hW ‹_› ?_)
   | (refine zAb hP hW ‹_› ?_)
   | (refine yI hP hW ‹_› ?_)
   | (refine yg hP hW ‹_› (by decide) ?_)
   | (refine yX hP hW ‹_› (by decide) ?_)
   | (refine zB0 hP hW ‹_› (by omega) ?_ ?_)
   | (refine zB9 hP hW ‹_› (by omega) (by omega) ?_ ?_)
   | (refine kJ hP hW ‹_› ?_ ?_)
   | (refine kF hP hW ‹_› (by omega) ?_ ?_)
   | (refine J_E hW h.h37 ‹_› (by omega) (by omega) ?_)
   | (refine J_N hW h.h86 ‹_› (by omega) (by omega) ?_)
   | (refine zu ‹_› (by repeat' (first | refine Int.max_le.2 ⟨?_,?_⟩ | omega)) ⟨(by first | assumption | exact Tr.mk (by repeat' (first | assumption | exact Pt.nil _ | apply Pt.cons | apply Pt.app)) (by omega) (by decide) (by first | assumption | exact zZ rfl | exact zc rfl | exact zd | exact zS | exact zj (by decide) ‹_› | exact zT ‹_› (by rfl) | exact za ‹_› (by rfl) | exact zl (Pt.ne ‹_› (by omega)) | (intro x e; simp at e))),(by first | rfl | (refine Eq.trans ?_ (zn _ _ _ (by decide)).symm; simp only [zC,zF,zG]))⟩)) <;> intros <;> (try dsimp only [cond_true,cond_false,Bool.not_true,Bool.not_false,zY,zX,zQ]))
set_option maxHeartbeats 1000000 in
theorem sp83 (hW:W.Ok) (hP:P.Ok) (hfu:5000 < fu) (h:RSp W m r s0):SpN W 1 8 (m+1) (mM (aa:=([]:LK)) (rs:=([.st TI.node]:LK)) (sh83 fu P.c54 P.c73 P.c78 r.c83 r.c111)) (mM (aa:=([]:LK)) (rs:=([.st TI.node]:LK)) (sh83 fu P.c54 P.c73 P.c78 s0.c83 s0.c111)):=by
 have hA:=hW.lenA
 have lo0:=hW.lo0
 intro n p xs ys hS hn hm
 have p0:=hS.p0
 have p1:=hS.p1
 have n1:=hS.n1
 refine xk ?_
 simp only [sh83,zg,yB,yU,yA]
 try dsimp only [zQ]
 repeat' ((first
  | exact z8
  | (refine yM (by simp only [zU,zC,zF,zG,List.length_append,List.length_cons,List.length_nil]) (by first | omega | (simp only [List.length_append,List.length_cons,List.length_nil]; omega)) ?_)
  | (refine yx hP hW ‹_› (by decide) (by decide) ?_ ?_)
  | (refine yO hP hW ‹_› (by decide) (by decide) ?_ ?_)
  | (refine yI hP hW ‹_› ?_)
  | (refine yg hP hW ‹_› (by decide) ?_)
  | (refine yX hP hW ‹_› (by decide) ?_)
  | (refine J_N hW h.h83 ‹_› (by omega) (by omega) ?_)
  | (refine J_N hW h.h111 ‹_› (by omega) (by omega) ?_)
  | (refine zu ‹_› (by repeat' (first | refine Int.max_le.2 ⟨?_,?_⟩ | omega)) ⟨(by first | assumption | exact Tr.mk (by repeat' (first | assumption | exact Pt.nil _ | apply Pt.cons | apply Pt.app)) (by omega) (by decide) (by first | assumption | exact zZ rfl | exact zc rfl | exact zd | exact zS | exact zj (by decide) ‹_› | exact zT ‹_› (by rfl) | exact za ‹_› (by rfl) | exact zl (Pt.ne ‹_› (by omega)) | (intro x e; simp at e))),(by first | rfl | (refine Eq.trans ?_ (zn _ _ _ (by decide)).symm; simp only [zC,zF,zG]))⟩)) <;> intros <;> (try dsimp only [cond_true,cond_false,Bool.not_true,Bool.not_false,zY,zX,zQ]))
 all_goals
  refine qz (I:=fun b s s'=>∃ (q:Int) (zs zs':List MT) (ps ps':List Nd) (j:Int×(Int×NdsT)),s=((),((W.A,(q,(zs,((),())))),(j,((ps,()),()))))/\s' = ((),((W.B,(q+W.d,(zs',((),())))),(j,((ps',()),()))))/\ps' = shL W.d ps/\Sta W n q zs zs'/\q<=(W.A.length:Int)/\p < q/\Pt p q ps/\(ps.length:Int)<=q - p/\b<=2 * q+1) (μ:=fun s=>((W.A.length:Int) - s.2.1.2.1).toNat) ?_ fu _ _ _ ⟨_,_,_,_,_,_,rfl,rfl,(by first | rfl | simp only [zC,zF,zG]),‹_›,(by omega),(by omega),(by repeat' (first | assumption | exact Pt.nil _ | apply Pt.cons | apply Pt.app)),(by first | omega | (simp only [List.length_append,List.length_cons,List.length_nil]; omega)),(by repeat' (first | refine Int.max_le.2 ⟨?_,?_⟩ | omega))⟩ (by dsimp only; omega)
  rintro rec rec' b s s' ⟨q,zs,zs',ps,ps',j,rfl,rfl,rfl,hS1,hq1,hq,hP1,hl1,hb⟩ hrec
  dsimp only
  repeat' ((first
   | exact z8
   | (refine yM (by simp only [zU,zC,zF,zG,List.length_append,List.length_cons,List.length_nil]) (by first | omega | (simp only [List.length_append,List.length_cons,List.length_nil]; omega)) ?_)
   | (refine hrec _ _ _ ⟨_,_,_,_,_,_,rfl,rfl,(by first | rfl | simp only [zC,zF,zG]),‹_›,(by omega),(by omega),(by repeat' (first | assumption | exact Pt.nil _ | apply Pt.cons | apply Pt.app)),(by first | omega | (simp only [List.length_append,List.length_cons,List.length_nil]; omega)),(by repeat' (first | refine Int.max_le.2 ⟨?_,?_⟩ | omega))⟩ (by dsimp only; omega))
   | (refine yx hP hW ‹_› (by decide) (by decide) ?_ ?_)
   | (refine yO hP hW ‹_› (by decide) (by decide) ?_ ?_)
   | (refine yI hP hW ‹_› ?_)
   | (refine yg hP hW ‹_› (by decide) ?_)
   | (refine yX hP hW ‹_› (by decide) ?_)
   | (refine J_N hW h.h83 ‹_› (by omega) (by omega) ?_)
   | (refine J_N hW h.h111 ‹_› (by omega) (by omega) ?_)
   | (refine zu ‹_› (by repeat' (first | refine Int.max_le.2 ⟨?_,?_⟩ | omega)) ⟨(by first | assumption | exact Tr.mk (by repeat' (first | assumption | exact Pt.nil _ | apply Pt.cons | apply Pt.app)) (by omega) (by decide) (by first | assumption | exact zZ rfl | exact zc rfl | exact zd | exact zS | exact zj (by decide) ‹_› | exact zT ‹_› (by rfl) | exact za ‹_› (by rfl) | exact zl (Pt.ne ‹_› (by omega)) | (intro x e; simp at e))),(by first | rfl | (refine Eq.trans ?_ (zn _ _ _ (by decide)).symm; simp only [zC,zF,zG]))⟩)) <;> intros <;> (try dsimp only [cond_true,cond_false,Bool.not_true,Bool.not_false,zY,zX,zQ]))
set_option maxHeartbeats 1000000 in
theorem sp75 (hW:W.Ok) (hP:P.Ok) (hfu:5000 < fu) (h:RSp W m r s0):SpM W 1 1 (m+1) 6 (mM (aa:=([]:LK)) (rs:=([.st TI.node]:LK)) (sh75 fu P.c54 P.c73 P.c78 P.c85 r.c108)) (mM (aa:=([]:LK)) (rs:=([.st TI.node]:LK)) (sh75 fu P.c54 P.c73 P.c78 P.c85 s0.c108)):=by
 have hA:=hW.lenA
 have lo0:=hW.lo0
 intro n p xs ys hS hn hm
 have p0:=hS.p0
 have p1:=hS.p1
 have n1:=hS.n1
 refine xk ?_
 simp only [sh75,zg,yB,yU,yA]
 try dsimp only [zQ]
 repeat' ((first
  | exact z8
  | (refine yM (by simp only [zU,zC,zF,zG,List.length_append,List.length_cons,List.length_nil]) (by first | omega | (simp only [List.length_append,List.length_cons,List.length_nil]; omega)) ?_)
  | (refine zu ‹_› (by repeat' (first | refine Int.max_le.2 ⟨?_,?_⟩ | omega)) ⟨(by first | assumption | exact Tr.mk (by repeat' (first | assumption | exact Pt.nil _ | apply Pt.cons | apply Pt.app)) (by omega) (by decide) (by first | assumption | exact zZ rfl | exact zc rfl | exact zd | exact zS | exact zj (by decide) ‹_› | exact zT ‹_› (by rfl) | exact za ‹_› (by rfl) | exact zl (Pt.ne ‹_› (by omega)) | (intro x e; simp at e))),(by first | rfl | (refine Eq.trans ?_ (zn _ _ _ (by decide)).symm; simp only [zC,zF,zG])),rfl⟩)
  | (refine yx hP hW ‹_› (by decide) (by decide) ?_ ?_)
  | (refine yO hP hW ‹_› (by decide) (by decide) ?_ ?_)
  | (refine yI hP hW ‹_› ?_)
  | (refine yg hP hW ‹_› (by decide) ?_)
  | (refine yX hP hW ‹_› (by decide) ?_)
  | (refine kJ hP hW ‹_› ?_ ?_)
  | (refine kF hP hW ‹_› (by omega) ?_ ?_)
  | (refine J_N hW h.h108 ‹_› (by omega) (by omega) ?_)
  | (refine zu ‹_› (by repeat' (first | refine Int.max_le.2 ⟨?_,?_⟩ | omega)) ⟨(by first | assumption | exact Tr.mk (by repeat' (first | assumption | exact Pt.nil _ | apply Pt.cons | apply Pt.app)) (by omega) (by decide) (by first | assumption | exact zZ rfl | exact zc rfl | exact zd | exact zS | exact zj (by decide) ‹_› | exact zT ‹_› (by rfl) | exact za ‹_› (by rfl) | exact zl (Pt.ne ‹_› (by omega)) | (intro x e; simp at e))),(by first | rfl | (refine Eq.trans ?_ (zn _ _ _ (by decide)).symm; simp only [zC,zF,zG]))⟩)) <;> intros <;> (try dsimp only [cond_true,cond_false,Bool.not_true,Bool.not_false,zY,zX,zQ]))
 all_goals
  refine qz (I:=fun b s s'=>∃ (q:Int) (zs zs':List MT) (ps ps':List Nd) (j:Int×(Int×NdsT)),s=((),((W.A,(q,(zs,((),())))),(j,((ps,()),()))))/\s' = ((),((W.B,(q+W.d,(zs',((),())))),(j,((ps',()),()))))/\ps' = shL W.d ps/\Sta W n q zs zs'/\q<=(W.A.length:Int)/\p < q/\Pt p q ps/\(ps.length:Int)<=q - p/\b<=2 * q+1) (μ:=fun s=>((W.A.length:Int) - s.2.1.2.1).toNat) ?_ fu _ _ _ ⟨_,_,_,_,_,_,rfl,rfl,(by first | rfl | simp only [zC,zF,zG]),‹_›,(by omega),(by omega),(by repeat' (first | assumption | exact Pt.nil _ | apply Pt.cons | apply Pt.app)),(by first | omega | (simp only [List.length_append,List.length_cons,List.length_nil]; omega)),(by repeat' (first | refine Int.max_le.2 ⟨?_,?_⟩ | omega))⟩ (by dsimp only; omega)
  rintro rec rec' b s s' ⟨q,zs,zs',ps,ps',j,rfl,rfl,rfl,hS1,hq1,hq,hP1,hl1,hb⟩ hrec
  dsimp only
  repeat' ((first
   | exact z8
   | (refine yM (by simp only [zU,zC,zF,zG,List.length_append,List.length_cons,List.length_nil]) (by first | omega | (simp only [List.length_append,List.length_cons,List.length_nil]; omega)) ?_)
   | (refine hrec _ _ _ ⟨_,_,_,_,_,_,rfl,rfl,(by first | rfl | simp only [zC,zF,zG]),‹_›,(by omega),(by omega),(by repeat' (first | assumption | exact Pt.nil _ | apply Pt.cons | apply Pt.app)),(by first | omega | (simp only [List.length_append,List.length_cons,List.length_nil]; omega)),(by repeat' (first | refine Int.max_le.2 ⟨?_,?_⟩ | omega))⟩ (by dsimp only; omega))
   | (refine yx hP hW ‹_› (by decide) (by decide) ?_ ?_)
   | (refine yO hP hW ‹_› (by decide) (by decide) ?_ ?_)
   | (refine yI hP hW ‹_› ?_)
   | (refine yg hP hW ‹_› (by decide) ?_)
   | (refine yX hP hW ‹_› (by decide) ?_)
   | (refine kJ hP hW ‹_› ?_ ?_)
   | (refine kF hP hW ‹_› (by omega) ?_ ?_)
   | (refine J_N hW h.h108 ‹_› (by omega) (by omega) ?_)
   | (refine zu ‹_› (by repeat' (first | refine Int.max_le.2 ⟨?_,?_⟩ | omega)) ⟨(by first | assumption | exact Tr.mk (by repeat' (first | assumption | exact Pt.nil _ | apply Pt.cons | apply Pt.app)) (by omega) (by decide) (by first | assumption | exact zZ rfl | exact zc rfl | exact zd | exact zS | exact zj (by decide) ‹_› | exact zT ‹_› (by rfl) | exact za ‹_› (by rfl) | exact zl (Pt.ne ‹_› (by omega)) | (intro x e; simp at e))),(by first | rfl | (refine Eq.trans ?_ (zn _ _ _ (by decide)).symm; simp only [zC,zF,zG])),rfl⟩)) <;> intros <;> (try dsimp only [cond_true,cond_false,Bool.not_true,Bool.not_false,zY,zX,zQ]))
set_option maxHeartbeats 1000000 in
theorem sp107 (hW:W.Ok) (hP:P.Ok) (hfu:5000 < fu) (h:RSp W m r s0):SpN W 1 4 (m+1) (mM (aa:=([]:LK)) (rs:=([.st TI.node]:LK)) (sh107 fu r.c53 P.c54 r.c56 P.c73 P.c78)) (mM (aa:=([]:LK)) (rs:=([.st TI.node]:LK)) (sh107 fu s0.c53 P.c54 s0.c56 P.c73 P.c78)):=by
 have hA:=hW.lenA
 have lo0:=hW.lo0
 intro n p xs ys hS hn hm
 have p0:=hS.p0
 have p1:=hS.p1
 have n1:=hS.n1
 refine xk ?_
 simp only [sh107,zg,yB,yU,yA]
 try dsimp only [zQ]
 repeat' ((first
  | exact z8
  | (refine yM (by simp only [zU,zC,zF,zG,List.length_append,List.length_cons,List.length_nil]) (by first | omega | (simp only [List.length_append,List.length_cons,List.length_nil]; omega)) ?_)
  | (refine yx hP hW ‹_› (by decide) (by decide) ?_ ?_)
  | (refine yO hP hW ‹_› (by decide) (by decide) ?_ ?_)
  | (refine yI hP hW ‹_› ?_)
  | (refine yg hP hW ‹_› (by decide) ?_)
  | (refine yX hP hW ‹_› (by decide) ?_)
  | (refine J_S hW h.h53 ‹_› (by omega) (by omega) ?_)
  | (refine J_C hW h.h56 ‹_› (by omega) (by omega) ?_)
  | (refine zu ‹_› (by repeat' (first | refine Int.max_le.2 ⟨?_,?_⟩ | omega)) ⟨(by first | assumption | exact Tr.mk (by repeat' (first | assumption | exact Pt.nil _ | apply Pt.cons | apply Pt.app)) (by omega) (by decide) (by first | assumption | exact zZ rfl | exact zc rfl | exact zd | exact zS | exact zj (by decide) ‹_› | exact zT ‹_› (by rfl) | exact za ‹_› (by rfl) | exact zl (Pt.ne ‹_› (by omega)) | (intro x e; simp at e))),(by first | rfl | (refine Eq.trans ?_ (zn _ _ _ (by decide)).symm; simp only [zC,zF,zG]))⟩)) <;> intros <;> (try dsimp only [cond_true,cond_false,Bool.not_true,Bool.not_false,zY,zX,zQ]))
 all_goals
  refine qz (I:=fun b s s'=>∃ (q:Int) (zs zs':List MT) (ps ps':List Nd) (j:Int×(Int×NdsT)) (mr:Bool),s=((mr,()),((W.A,(q,(zs,((),())))),(j,((ps,()),()))))/\s' = ((mr,()),((W.B,(q+W.d,(zs',((),())))),(j,((ps',()),()))))/\ps' = shL W.d ps/\Sta W n q zs zs'/\q<=(W.A.length:Int)/\p < q/\Pt p q ps/\(ps.length:Int)<=q - p/\b<=2 * q+2) (μ:=fun s=>((W.A.length:Int) - s.2.1.2.1).toNat) ?_ fu _ _ _ ⟨_,_,_,_,_,_,_,rfl,rfl,(by first | rfl | simp only [zC,zF,zG]),‹_›,(by omega),(by omega),(by repeat' (first | assumption | exact Pt.nil _ | apply Pt.cons | apply Pt.app)),(by first | omega | (simp only [List.length_append,List.length_cons,List.length_nil]; omega)),(by repeat' (first | refine Int.max_le.2 ⟨?_,?_⟩ | omega))⟩ (by dsimp only; omega)
  rintro rec rec' b s s' ⟨q,zs,zs',ps,ps',j,mr,rfl,rfl,rfl,hS1,hq1,hq,hP1,hl1,hb⟩ hrec
  dsimp only
  repeat' ((first
   | exact z8
   | (refine yM (by simp only [zU,zC,zF,zG,List.length_append,List.length_cons,List.length_nil]) (by first | omega | (simp only [List.length_append,List.length_cons,List.length_nil]; omega)) ?_)
   | (refine hrec _ _ _ ⟨_,_,_,_,_,_,_,rfl,rfl,(by first | rfl | simp only [zC,zF,zG]),‹_›,(by omega),(by omega),(by repeat' (first | assumption | exact Pt.nil _ | apply Pt.cons | apply Pt.app)),(by first | omega | (simp only [List.length_append,List.length_cons,List.length_nil]; omega)),(by repeat' (first | refine Int.max_le.2 ⟨?_,?_⟩ | omega))⟩ (by dsimp only; omega))
   | (refine zIL ?_ ?_)
   | (refine zAI ?_ ?_)
   | (refine yx hP hW ‹_› (by decide) (by decide) ?_ ?_)
   | (refine yO hP hW ‹_› (by decide) (by decide) ?_ ?_)
   | (refine yI hP hW ‹_› ?_)
   | (refine yg hP hW ‹_› (by decide) ?_)
   | (refine yX hP hW ‹_› (by decide) ?_)
   | (refine J_S hW h.h53 ‹_› (by omega) (by omega) ?_)
   | (refine J_C hW h.h56 ‹_› (by omega) (by omega) ?_)
   | (refine zu ‹_› (by repeat' (first | refine Int.max_le.2 ⟨?_,?_⟩ | omega)) ⟨(by first | assumption | exact Tr.mk (by repeat' (first | assumption | exact Pt.nil _ | apply Pt.cons | apply Pt.app)) (by omega) (by decide) (by first | assumption | exact zZ rfl | exact zc rfl | exact zd | exact zS | exact zj (by decide) ‹_› | exact zT ‹_› (by rfl) | exact za ‹_› (by rfl) | exact zl (Pt.ne ‹_› (by omega)) | (intro x e; simp at e))),(by first | rfl | (refine Eq.trans ?_ (zn _ _ _ (by decide)).symm; simp only [zC,zF,zG]))⟩)) <;> intros <;> (try dsimp only [cond_true,cond_false,Bool.not_true,Bool.not_false,zY,zX,zQ]))
set_option maxHeartbeats 1000000 in
theorem sp81 (hW:W.Ok) (hP:P.Ok) (hfu:5000 < fu) (h:RSp W m r s0):SpL W 1 1 (m+1) (mL (aa:=([]:LK)) (rs:=([.st TI.node]:LK)) (sh81 fu P.c54 c59 c61 P.c73 P.c78 r.c110)) (mL (aa:=([]:LK)) (rs:=([.st TI.node]:LK)) (sh81 fu P.c54 c59 c61 P.c73 P.c78 s0.c110)):=by
 have hA:=hW.lenA
 have lo0:=hW.lo0
 intro n p xs ys hS hn hm
 have p0:=hS.p0
 have p1:=hS.p1
 have n1:=hS.n1
 refine SpJ_L ?_
 simp only [sh81,zg,yB,yU,yA]
 try dsimp only [zQ]
 repeat' ((first
  | exact z8
  | (refine yM (by simp only [zU,zC,zF,zG,List.length_append,List.length_cons,List.length_nil]) (by first | omega | (simp only [List.length_append,List.length_cons,List.length_nil]; omega)) ?_)
  | (refine yx hP hW ‹_› (by decide) (by decide) ?_ ?_)
  | (refine yO hP hW ‹_› (by decide) (by decide) ?_ ?_)
  | (refine zAC hW ‹_› (by omega) hW.mr0 ?_)
  | (refine zAC hW ‹_› (by omega) ‹_› ?_)
  | (refine zGM hW ‹_› (by omega) (by omega) ?_)
  | (refine yI hP hW ‹_› ?_)
  | (refine yg hP hW ‹_› (by decide) ?_)
  | (refine yX hP hW ‹_› (by decide) ?_)
  | (refine J_N hW h.h110 ‹_› (by omega) (by omega) ?_)
  | (refine zu ‹_› (by repeat' (first | refine Int.max_le.2 ⟨?_,?_⟩ | omega)) ⟨(by first | assumption | exact Tr.mk (by repeat' (first | assumption | exact Pt.nil _ | apply Pt.cons | apply Pt.app)) (by omega) (by decide) (by first | assumption | exact zZ rfl | exact zc rfl | exact zd | exact zS | exact zj (by decide) ‹_› | exact zT ‹_› (by rfl) | exact za ‹_› (by rfl) | exact zl (Pt.ne ‹_› (by omega)) | (intro x e; simp at e))),(by first | rfl | (refine Eq.trans ?_ (zn _ _ _ (by decide)).symm; simp only [zC,zF,zG]))⟩)) <;> intros <;> (try dsimp only [cond_true,cond_false,Bool.not_true,Bool.not_false,zY,zX,zQ]))
 all_goals
  refine qz (I:=fun b s s'=>∃ (q:Int) (zs zs':List MT) (ps ps':List Nd) (j:Int×(Int×NdsT)) (mr:Bool),s=((mr,()),((W.A,(q,(zs,((),())))),(j,((ps,()),()))))/\s' = ((mr,()),((W.B,(q+W.d,(zs',((),())))),(j,((ps',()),()))))/\ps' = shL W.d ps/\Sta W (n+1) q zs zs'/\q<=(W.A.length:Int)/\p < q/\Pt p q ps/\(ps.length:Int)<=q - p/\b<=2 * q+2) (μ:=fun s=>((W.A.length:Int) - s.2.1.2.1).toNat) ?_ fu _ _ _ ⟨_,_,_,_,_,_,_,rfl,rfl,(by first | rfl | simp only [zC,zF,zG]),‹_›,(by omega),(by omega),(by repeat' (first | assumption | exact Pt.nil _ | apply Pt.cons | apply Pt.app)),(by first | omega | (simp only [List.length_append,List.length_cons,List.length_nil]; omega)),(by repeat' (first | refine Int.max_le.2 ⟨?_,?_⟩ | omega))⟩ (by dsimp only; omega)
  rintro rec rec' b s s' ⟨q,zs,zs',ps,ps',j,mr,rfl,rfl,rfl,hS1,hq1,hq,hP1,hl1,hb⟩ hrec
  dsimp only
  repeat' ((first
   | exact z8
   | (refine yM (by simp only [zU,zC,zF,zG,List.length_append,List.length_cons,List.length_nil]) (by first | omega | (simp only [List.length_append,List.length_cons,List.length_nil]; omega)) ?_)
   | (refine hrec _ _ _ ⟨_,_,_,_,_,_,_,rfl,rfl,(by first | rfl | simp only [zC,zF,zG]),‹_›,(by omega),(by omega),(by repeat' (first | assumption | exact Pt.nil _ | apply Pt.cons | apply Pt.app)),(by first | omega | (simp only [List.length_append,List.length_cons,List.length_nil]; omega)),(by repeat' (first | refine Int.max_le.2 ⟨?_,?_⟩ | omega))⟩ (by dsimp only; omega))
   | (refine zIL ?_ ?_)
   | (refine zAI ?_ ?_)
   | (refine yx hP hW ‹_› (by decide) (by decide) ?_ ?_)
   | (refine yO hP hW ‹_› (by decide) (by decide) ?_ ?_)
   | (refine zAC hW ‹_› (by omega) hW.mr0 ?_)
   | (refine zAC hW ‹_› (by omega) ‹_› ?_)
   | (refine zGM hW ‹_› (by omega) (by omega) ?_)
   | (refine yI hP hW ‹_› ?_)
   | (refine yg hP hW ‹_› (by decide) ?_)
   | (refine yX hP hW ‹_› (by decide) ?_)
   | (refine J_N hW h.h110 ‹_› (by omega) (by omega) ?_)
   | (refine J_retL ‹_› (by repeat' (first | refine Int.max_le.2 ⟨?_,?_⟩ | omega)) ⟨(by first | assumption | exact Tr.mk (by repeat' (first | assumption | exact Pt.nil _ | apply Pt.cons | apply Pt.app)) (by omega) (by decide) (by first | assumption | exact zZ rfl | exact zc rfl | exact zd | exact zS | exact zj (by decide) ‹_› | exact zT ‹_› (by rfl) | exact za ‹_› (by rfl) | exact zl (Pt.ne ‹_› (by omega)) | (intro x e; simp at e))),(by first | rfl | (refine Eq.trans ?_ (zn _ _ _ (by decide)).symm; simp only [zC,zF,zG])),rfl,_,_,rfl,rfl,‹_›⟩)) <;> intros <;> (try dsimp only [cond_true,cond_false,Bool.not_true,Bool.not_false,zY,zX,zQ]))
set_option maxHeartbeats 1000000 in
theorem sp55 (hW:W.Ok) (hP:P.Ok) (hfu:5000 < fu) (h:RSp W m r s0):SpR W 0 1 (m+1) (mM (aa:=([.ag [.ow true TI.node],.bool]:LK)) (rs:=([.st TI.node]:LK)) (sh55 fu P.c54 r.c56 r.c57 P.c73 P.c78)) (mM (aa:=([.ag [.ow true TI.node],.bool]:LK)) (rs:=([.st TI.node]:LK)) (sh55 fu P.c54 s0.c56 s0.c57 P.c73 P.c78)):=by
 have hA:=hW.lenA
 have lo0:=hW.lo0
 intro n p xs ys a0 ps t hS hn hm hQ ha ht
 have p0:=hS.p0
 have p1:=hS.p1
 have n1:=hS.n1
 refine xk ?_
 simp only [sh55,zg,yB,yU,yA]
 have hl:=hQ.len
 have hle:=hQ.le
 try dsimp only [zQ]
 repeat' ((first
  | exact z8
  | (refine yM (by simp only [zU,zC,zF,zG,List.length_append,List.length_cons,List.length_nil]) (by first | omega | (simp only [List.length_append,List.length_cons,List.length_nil]; omega)) ?_)
  | (refine yx hP hW ‹_› (by decide) (by decide) ?_ ?_)
  | (refine yO hP hW ‹_› (by decide) (by decide) ?_ ?_)
  | (refine yI hP hW ‹_› ?_)
  | (refine yg hP hW ‹_› (by decide) ?_)
  | (refine yX hP hW ‹_› (by decide) ?_)
  | (refine J_C hW h.h56 ‹_› (by omega) (by omega) ?_)
  | (refine J_I hW h.h57 ‹_› (by omega) (by omega) (by first | assumption | exact Tr.mk (by repeat' (first | assumption | exact Pt.nil _ | apply Pt.cons | apply Pt.app)) (by omega) (by decide) (by first | assumption | exact zZ rfl | exact zc rfl | exact zd | exact zS | exact zj (by decide) ‹_› | exact zT ‹_› (by rfl) | exact za ‹_› (by rfl) | exact zl (Pt.ne ‹_› (by omega)) | (intro x e; simp at e))) (by omega) ‹_› ‹_› ‹_› ?_)
  | (refine zu ‹_› (by repeat' (first | refine Int.max_le.2 ⟨?_,?_⟩ | omega)) ⟨(by first | assumption | exact Tr.mk (by repeat' (first | assumption | exact Pt.nil _ | apply Pt.cons | apply Pt.app)) (by omega) (by decide) (by first | assumption | exact zZ rfl | exact zc rfl | exact zd | exact zS | exact zj (by decide) ‹_› | exact zT ‹_› (by rfl) | exact za ‹_› (by rfl) | exact zl (Pt.ne ‹_› (by omega)) | (intro x e; simp at e))),(by first | rfl | (refine Eq.trans ?_ (zn _ _ _ (by decide)).symm; simp only [zC,zF,zG]))⟩)) <;> intros <;> (try dsimp only [cond_true,cond_false,Bool.not_true,Bool.not_false,zY,zX,zQ]))
 all_goals
  refine qz (I:=fun b s s'=>∃ (q:Int) (zs zs':List MT) (ps ps':List Nd) (j:Int×(Int×NdsT)),s=((),((W.A,(q,(zs,((),())))),((ps,()),(j,()))))/\s' = ((),((W.B,(q+W.d,(zs',((),())))),((ps',()),(j,()))))/\ps' = shL W.d ps/\Sta W n q zs zs'/\q<=(W.A.length:Int)/\p<=q/\Pt a0 q ps/\(ps.length:Int)<=q - a0/\b<=2 * q+1) (μ:=fun s=>((W.A.length:Int) - s.2.1.2.1).toNat) ?_ fu _ _ _ ⟨_,_,_,_,_,_,rfl,rfl,(by first | rfl | simp only [zC,zF,zG]),‹_›,(by omega),(by omega),(by repeat' (first | assumption | exact Pt.nil _ | apply Pt.cons | apply Pt.app)),(by first | omega | (simp only [List.length_append,List.length_cons,List.length_nil]; omega)),(by repeat' (first | refine Int.max_le.2 ⟨?_,?_⟩ | omega))⟩ (by dsimp only; omega)
  rintro rec rec' b s s' ⟨q,zs,zs',ps,ps',j,rfl,rfl,rfl,hS1,hq1,hq,hP1,hl1,hb⟩ hrec
  dsimp only
  repeat' ((first
   | exact z8
   | (refine yM (by simp only [zU,zC,zF,zG,List.length_append,List.length_cons,List.length_nil]) (by first | omega | (simp only [List.length_append,List.length_cons,List.length_nil]; omega)) ?_)
   | (refine hrec _ _ _ ⟨_,_,_,_,_,_,rfl,rfl,(by first | rfl | simp only [zC,zF,zG]),‹_›,(by omega),(by omega),(by repeat' (first | assumption | exact Pt.nil _ | apply Pt.cons | apply Pt.app)),(by first | omega | (simp only [List.length_append,List.length_cons,List.length_nil]; omega)),(by repeat' (first | refine Int.max_le.2 ⟨?_,?_⟩ | omega))⟩ (by dsimp only; omega))
   | (refine yx hP hW ‹_› (by decide) (by decide) ?_ ?_)
   | (refine yO hP hW ‹_› (by decide) (by decide) ?_ ?_)
   | (refine yI hP hW ‹_› ?_)
   | (refine yg hP hW ‹_› (by decide) ?_)
   | (refine yX hP hW ‹_› (by decide) ?_)
   | (refine J_C hW h.h56 ‹_› (by omega) (by omega) ?_)
   | (refine J_I hW h.h57 ‹_› (by omega) (by omega) (by first | assumption | exact Tr.mk (by repeat' (first | assumption | exact Pt.nil _ | apply Pt.cons | apply Pt.app)) (by omega) (by decide) (by first | assumption | exact zZ rfl | exact zc rfl | exact zd | exact zS | exact zj (by decide) ‹_› | exact zT ‹_› (by rfl) | exact za ‹_› (by rfl) | exact zl (Pt.ne ‹_› (by omega)) | (intro x e; simp at e))) (by omega) ‹_› ‹_› ‹_› ?_)
   | (refine zu ‹_› (by repeat' (first | refine Int.max_le.2 ⟨?_,?_⟩ | omega)) ⟨(by omega),(by first | assumption | exact Tr.mk (by repeat' (first | assumption | exact Pt.nil _ | apply Pt.cons | apply Pt.app)) (by omega) (by decide) (by first | assumption | exact zZ rfl | exact zc rfl | exact zd | exact zS | exact zj (by decide) ‹_› | exact zT ‹_› (by rfl) | exact za ‹_› (by rfl) | exact zl (Pt.ne ‹_› (by omega)) | (intro x e; simp at e))),(by first | rfl | (refine Eq.trans ?_ (zn _ _ _ (by decide)).symm; simp only [zC,zF,zG]))⟩)) <;> intros <;> (try dsimp only [cond_true,cond_false,Bool.not_true,Bool.not_false,zY,zX,zQ]))
end
section
open Go.Al Go.Den
variable {W:Sim} {m fu:Nat} {r s0:RS} {P:Pr}
set_option maxHeartbeats 1000000 in
theorem sp56 (hW:W.Ok) (hP:P.Ok) (hfu:5000 < fu) (h:RSp W m r s0):SpC W 1 2 (m+1) (mN (aa:=([]:LK)) (rs:=([.st TI.node,.str,.bool]:LK)) (sh56 fu P.c54 r.c56 P.c72 P.c73 P.c78 r.c79 P.c80 r.c81 r.c82)) (mN (aa:=([]:LK)) (rs:=([.st TI.node,.str,.bool]:LK)) (sh56 fu P.c54 s0.c56 P.c72 P.c73 P.c78 s0.c79 P.c80 s0.c81 s0.c82)):=by
 have hA:=hW.lenA
 have lo0:=hW.lo0
 intro n p xs ys hS hn hm
 have p0:=hS.p0
 have p1:=hS.p1
 have n1:=hS.n1
 refine SpJ_N ?_
 simp only [sh56,zg,yB,yU,yA]
 try dsimp only [zQ]
 repeat' ((first
  | exact z8
  | (refine yM (by simp only [zU,zC,zF,zG,List.length_append,List.length_cons,List.length_nil]) (by first | omega | (simp only [List.length_append,List.length_cons,List.length_nil]; omega)) ?_)
  | (refine J_retN ‹_› (by repeat' (first | refine Int.max_le.2 ⟨?_,?_⟩ | omega)) ⟨(by first | assumption | exact Tr.mk (by repeat' (first | assumption | exact Pt.nil _ | apply Pt.cons | apply Pt.app)) (by omega) (by decide) (by first | assumption | exact zZ rfl | exact zc rfl | exact zd | exact zS | exact zj (by decide) ‹_› | exact zT ‹_› (by rfl) | exact za ‹_› (by rfl) | exact zl (Pt.ne ‹_› (by omega)) | (intro x e; simp at e))),(by first | rfl | (refine Eq.trans ?_ (zn _ _ _ (by decide)).symm; simp only [zC,zF,zG])),(by first | assumption | exact .inl ⟨rfl,rfl⟩ | exact .inr ⟨_,by omega,by assumption,rfl,rfl⟩),rfl,(by first | exact .inl ⟨rfl,rfl,rfl⟩ | exact .inr (.inl ⟨rfl,rfl,rfl⟩) | exact .inr (.inr ⟨_,_,rfl,rfl,by assumption⟩)),rfl⟩)
  | (refine yx hP hW ‹_› (by decide) (by decide) ?_ ?_)
  | (refine yO hP hW ‹_› (by decide) (by decide) ?_ ?_)
  | (refine zAT hP hW ‹_› ?_)
  | (refine zAb hP hW ‹_› ?_)
  | (refine yI hP hW ‹_› ?_)
  | (refine yg hP hW ‹_› (by decide) ?_)
  | (refine yX hP hW ‹_› (by decide) ?_)
  | (refine zAm hP hW ‹_› ?_)
  | (refine J_C hW h.h56 ‹_› (by omega) (by omega) ?_)
  | (refine J_P hW h.h79 ‹_› (by omega) (by omega) (by repeat' (first | assumption | exact Pt.nil _ | apply Pt.cons | apply Pt.app)) (by omega) (by first | rfl | simp only [zC,zF,zG]) (by first | assumption | exact xf | exact zo (.inl rfl) | exact xi (.inl rfl) | exact xm | exact yw | exact zo (.inr ‹_›)) ?_)
  | (refine J_L hW h.h81 ‹_› (by omega) (by omega) ?_)
  | (refine J_D1 hW h.h82 ‹_› (by omega) (by omega) (by repeat' (first | assumption | exact Pt.nil _ | apply Pt.cons | apply Pt.app)) (by omega) (by first | rfl | simp only [zC,zF,zG]) (by first | assumption | exact xf | exact zo (.inl rfl) | exact xi (.inl rfl) | exact xm | exact yw | exact zo (.inr ‹_›)) ‹_› ?_) | (refine J_D hW h.h82 ‹_› (by omega) (by omega) (by repeat' (first | assumption | exact Pt.nil _ | apply Pt.cons | apply Pt.app)) (by omega) (by first | rfl | simp only [zC,zF,zG]) (by first | assumption | exact xf | exact zo (.inl rfl) | exact xi (.inl rfl) | exact xm | exact yw | exact zo (.inr ‹_›)) ?_)
  | (refine zu ‹_› (by repeat' (first | refine Int.max_le.2 ⟨?_,?_⟩ | omega)) ⟨(by first | assumption | exact Tr.mk (by repeat' (first | assumption | exact Pt.nil _ | apply Pt.cons | apply Pt.app)) (by omega) (by decide) (by first | assumption | exact zZ rfl | exact zc rfl | exact zd | exact zS | exact zj (by decide) ‹_› | exact zT ‹_› (by rfl) | exact za ‹_› (by rfl) | exact zl (Pt.ne ‹_› (by omega)) | (intro x e; simp at e))),(by first | rfl | (refine Eq.trans ?_ (zn _ _ _ (by decide)).symm; simp only [zC,zF,zG]))⟩)) <;> intros <;> (try dsimp only [cond_true,cond_false,Bool.not_true,Bool.not_false,zY,zX,zQ]))
set_option maxHeartbeats 1000000 in
theorem sp37 (hW:W.Ok) (hP:P.Ok) (hfu:5000 < fu) (h:RSp W m r s0):SpE W 0 5 (m+1) (mM (aa:=([.bool]:LK)) (rs:=([.st TI.node]:LK)) (sh37 fu r.c53 P.c54 r.c55 r.c56 r.c57 c58 c59 r.c60 c61)) (mM (aa:=([.bool]:LK)) (rs:=([.st TI.node]:LK)) (sh37 fu s0.c53 P.c54 s0.c55 s0.c56 s0.c57 c58 c59 s0.c60 c61)):=by
 have hA:=hW.lenA
 have lo0:=hW.lo0
 intro n p xs ys t hS hn hm
 have p0:=hS.p0
 have p1:=hS.p1
 have n1:=hS.n1
 refine xk ?_
 simp only [sh37,zg,yB,yU,yA]
 try dsimp only [zQ]
 repeat' ((first
  | exact z8
  | (refine yM (by simp only [zU,zC,zF,zG,List.length_append,List.length_cons,List.length_nil]) (by first | omega | (simp only [List.length_append,List.length_cons,List.length_nil]; omega)) ?_)
  | exact absurd (by assumption:false=true) Bool.false_ne_true
  | (rcases (‹MO W _ _ _›) with ⟨rfl,rfl,rfl⟩ | ⟨rfl,rfl,rfl⟩ | ⟨x,x',rfl,rfl,hx⟩)
  | (refine zF0 ?_)
  | (refine zAI ?_ ?_)
  | (refine zII hW ‹_› (by omega) (by first | assumption | exact .inl ⟨rfl,rfl⟩ | exact .inr ⟨_,by omega,by assumption,rfl,rfl⟩) (by first | assumption | (intro e; cases e)) ?_)
  | (refine yx hP hW ‹_› (by decide) (by decide) ?_ ?_)
  | (refine yO hP hW ‹_› (by decide) (by decide) ?_ ?_)
  | (refine zAC hW ‹_› (by omega) hW.mr0 ?_)
  | (refine zAC hW ‹_› (by omega) ‹_› ?_)
  | (refine zGM hW ‹_› (by omega) (by omega) ?_)
  | (refine J_S hW h.h53 ‹_› (by omega) (by omega) ?_)
  | (refine J_R hW h.h55 ‹_› (by omega) (by omega) (by repeat' (first | assumption | exact Pt.nil _ | apply Pt.cons | apply Pt.app)) (by omega) (by first | rfl | simp only [zC,zF,zG]) ‹_› ?_)
  | (refine J_C hW h.h56 ‹_› (by omega) (by omega) ?_)
  | (refine J_I hW h.h57 ‹_› (by omega) (by omega) (by first | assumption | exact Tr.mk (by repeat' (first | assumption | exact Pt.nil _ | apply Pt.cons | apply Pt.app)) (by omega) (by decide) (by first | assumption | exact zZ rfl | exact zc rfl | exact zd | exact zS | exact zj (by decide) ‹_› | exact zT ‹_› (by rfl) | exact za ‹_› (by rfl) | exact zl (Pt.ne ‹_› (by omega)) | (intro x e; simp at e))) (by omega) ‹_› ‹_› ‹_› ?_)
  | (refine J_B hW h.h60 ‹_› (by omega) (by omega) ?_)
  | (refine zu ‹_› (by repeat' (first | refine Int.max_le.2 ⟨?_,?_⟩ | omega)) ⟨(by first | assumption | exact Tr.mk (by repeat' (first | assumption | exact Pt.nil _ | apply Pt.cons | apply Pt.app)) (by omega) (by decide) (by first | assumption | exact zZ rfl | exact zc rfl | exact zd | exact zS | exact zj (by decide) ‹_› | exact zT ‹_› (by rfl) | exact za ‹_› (by rfl) | exact zl (Pt.ne ‹_› (by omega)) | (intro x e; simp at e))),(by first | rfl | (refine Eq.trans ?_ (zn _ _ _ (by decide)).symm; simp only [zC,zF,zG]))⟩)) <;> intros <;> (try dsimp only [cond_true,cond_false,Bool.not_true,Bool.not_false,zY,zX,zQ]))
set_option maxHeartbeats 1000000 in
theorem sp116 (hW:W.Ok) (hP:P.Ok) (hfu:5000 < fu) (h:RSp W m r s0):SpF W 1 1 (m+1) (mM (aa:=([.ag [.ow true TI.node]]:LK)) (rs:=([.st TI.node]:LK)) (sh116 fu r.c37 c59 c61 P.c78 P.c84 r.c86 r.c117)) (mM (aa:=([.ag [.ow true TI.node]]:LK)) (rs:=([.st TI.node]:LK)) (sh116 fu s0.c37 c59 c61 P.c78 P.c84 s0.c86 s0.c117)):=by
 have hA:=hW.lenA
 have lo0:=hW.lo0
 intro n p xs ys a0 ps hS hn hm hQ ha
 have p0:=hS.p0
 have p1:=hS.p1
 have n1:=hS.n1
 refine xk ?_
 simp only [sh116,zg,yB,yU,yA]
 have hl:=hQ.len
 have hle:=hQ.le
 try dsimp only [zQ]
 repeat' ((first
  | exact z8
  | (refine yM (by simp only [zU,zC,zF,zG,List.length_append,List.length_cons,List.length_nil]) (by first | omega | (simp only [List.length_append,List.length_cons,List.length_nil]; omega)) ?_)
  | (refine zu ‹_› (by repeat' (first | refine Int.max_le.2 ⟨?_,?_⟩ | omega)) ⟨(by omega),(by first | assumption | exact Tr.mk (by repeat' (first | assumption | exact Pt.nil _ | apply Pt.cons | apply Pt.app)) (by omega) (by decide) (by first | assumption | exact zZ rfl | exact zc rfl | exact zd | exact zS | exact zj (by decide) ‹_› | exact zT ‹_› (by rfl) | exact za ‹_› (by rfl) | exact zl (Pt.ne ‹_› (by omega)) | (intro x e; simp at e))),(by first | rfl | (refine Eq.trans ?_ (zn _ _ _ (by decide)).symm; simp only [zC,zF,zG]))⟩)
  | (refine zAC hW ‹_› (by omega) hW.mr0 ?_)
  | (refine zAC hW ‹_› (by omega) ‹_› ?_)
  | (refine zGM hW ‹_› (by omega) (by omega) ?_)
  | (refine yg hP hW ‹_› (by decide) ?_)
  | (refine yX hP hW ‹_› (by decide) ?_)
  | (refine zB0 hP hW ‹_› (by omega) ?_ ?_)
  | (refine zB9 hP hW ‹_› (by omega) (by omega) ?_ ?_)
  | (refine J_E hW h.h37 ‹_› (by omega) (by omega) ?_)
  | (refine J_N hW h.h86 ‹_› (by omega) (by omega) ?_)
  | (refine J_U hW (by decide) h.h117 ‹_› (by omega) (by omega) (by repeat' (first | assumption | exact Pt.nil _ | apply Pt.cons | apply Pt.app)) (by omega) (by first | rfl | simp only [zC,zF,zG]) ?_)
  | (refine zu ‹_› (by repeat' (first | refine Int.max_le.2 ⟨?_,?_⟩ | omega)) ⟨(by first | assumption | exact Tr.mk (by repeat' (first | assumption | exact Pt.nil _ | apply Pt.cons | apply Pt.app)) (by omega) (by decide) (by first | assumption | exact zZ rfl | exact zc rfl | exact zd | exact zS | exact zj (by decide) ‹_› | exact zT ‹_› (by rfl) | exact za ‹_› (by rfl) | exact zl (Pt.ne ‹_› (by omega)) | (intro x e; simp at e))),(by first | rfl | (refine Eq.trans ?_ (zn _ _ _ (by decide)).symm; simp only [zC,zF,zG]))⟩)) <;> intros <;> (try dsimp only [cond_true,cond_false,Bool.not_true,Bool.not_false,zY,zX,zQ]))
set_option maxHeartbeats 1000000 in
theorem sp117 (hW:W.Ok) (hP:P.Ok) (hfu:5000 < fu) (h:RSp W m r s0):SpU W 0 9 (m+1) (mX (aa:=([.str]:LK)) (rs:=([]:LK)) (sh117 fu P.c54 P.c78 r.c113)) (mX (aa:=([.str]:LK)) (rs:=([]:LK)) (sh117 fu P.c54 P.c78 s0.c113)):=by
 have hA:=hW.lenA
 have lo0:=hW.lo0
 intro n p xs ys a0 ps s hs hS hn hm hQ ha
 have p0:=hS.p0
 have p1:=hS.p1
 have n1:=hS.n1
 refine zIF ?_
 simp only [sh117,zg,yB,yU,yA]
 have hl:=hQ.len
 have hle:=hQ.le
 try dsimp only [zQ]
 repeat' ((first
  | exact z8
  | (refine yM (by simp only [zU,zC,zF,zG,List.length_append,List.length_cons,List.length_nil]) (by first | omega | (simp only [List.length_append,List.length_cons,List.length_nil]; omega)) ?_)
  | (refine yO hP hW ‹_› (by simp only [List.all_cons,List.all_nil,hs,Bool.and_self]) (by simp) ?_ ?_)
  | (refine yX hP hW ‹_› hs ?_)
  | (refine zGd ‹_› (by repeat' (first | refine Int.max_le.2 ⟨?_,?_⟩ | omega)) ⟨(by omega),(by repeat' (first | assumption | exact Pt.nil _ | apply Pt.cons | apply Pt.app)),(by first | rfl | simp only [zC,zF,zG]),(by first | assumption | exact xf | exact zo (.inl rfl) | exact xi (.inl rfl) | exact xm | exact yw | exact zo (.inr ‹_›))⟩)
  | (refine yx hP hW ‹_› (by decide) (by decide) ?_ ?_)
  | (refine yO hP hW ‹_› (by decide) (by decide) ?_ ?_)
  | (refine yg hP hW ‹_› (by decide) ?_)
  | (refine yX hP hW ‹_› (by decide) ?_)
  | (refine J_N hW h.h113 ‹_› (by omega) (by omega) ?_)
  | (refine zu ‹_› (by repeat' (first | refine Int.max_le.2 ⟨?_,?_⟩ | omega)) ⟨(by first | assumption | exact Tr.mk (by repeat' (first | assumption | exact Pt.nil _ | apply Pt.cons | apply Pt.app)) (by omega) (by decide) (by first | assumption | exact zZ rfl | exact zc rfl | exact zd | exact zS | exact zj (by decide) ‹_› | exact zT ‹_› (by rfl) | exact za ‹_› (by rfl) | exact zl (Pt.ne ‹_› (by omega)) | (intro x e; simp at e))),(by first | rfl | (refine Eq.trans ?_ (zn _ _ _ (by decide)).symm; simp only [zC,zF,zG]))⟩)) <;> intros <;> (try dsimp only [cond_true,cond_false,Bool.not_true,Bool.not_false,zY,zX,zQ]))
set_option maxHeartbeats 4000000 in
theorem sp86 (hW:W.Ok) (hP:P.Ok) (hfu:5000 < fu) (h:RSp W m r s0):SpN W 1 10 (m+1) (mM (aa:=([]:LK)) (rs:=([.st TI.node]:LK)) (sh86 fu P.c54 c59 r.c60 c61 P.c72 P.c73 P.c78 P.c80 P.c85 r.c86 P.c112 r.c113 r.c114 r.c115 r.c116 r.c117)) (mM (aa:=([]:LK)) (rs:=([.st TI.node]:LK)) (sh86 fu P.c54 c59 s0.c60 c61 P.c72 P.c73 P.c78 P.c80 P.c85 s0.c86 P.c112 s0.c113 s0.c114 s0.c115 s0.c116 s0.c117)):=by
 have hA:=hW.lenA
 have lo0:=hW.lo0
 intro n p xs ys hS hn hm
 have p0:=hS.p0
 have p1:=hS.p1
 have n1:=hS.n1
 refine xk ?_
 simp only [sh86,zg,yB,yU,yA]
 try dsimp only [zQ]
 repeat' ((first
  | exact z8
  | (refine yM (by simp only [zU,zC,zF,zG,List.length_append,List.length_cons,List.length_nil]) (by first | omega | (simp only [List.length_append,List.length_cons,List.length_nil]; omega)) ?_)
  | (refine zF0 ?_)
  | (refine zIP hW _ (by omega) (by omega) (by decide) ?_ ?_)
  | (refine J_seqf hW _ (by omega) (by omega) (by decide) ?_ ?_)
  | (refine yx hP hW ‹_› (by decide) (by decide) ?_ ?_)
  | (refine yO hP hW ‹_› (by decide) (by decide) ?_ ?_)
  | (refine zAC hW ‹_› (by omega) hW.mr0 ?_)
  | (refine zAC hW ‹_› (by omega) ‹_› ?_)
  | (refine zGM hW ‹_› (by omega) (by omega) ?_)
  | (refine zAT hP hW ‹_› ?_)
  | (refine zAb hP hW ‹_› ?_)
  | (refine yI hP hW ‹_› ?_)
  | (refine yg hP hW ‹_› (by decide) ?_)
  | (refine yX hP hW ‹_› (by decide) ?_)
  | (refine zAm hP hW ‹_› ?_)
  | (refine kJ hP hW ‹_› ?_ ?_)
  | (refine kF hP hW ‹_› (by omega) ?_ ?_)
  | (refine zE7 hP hW ‹_› ?_ ?_)
  | (refine J_B hW h.h60 ‹_› (by omega) (by omega) ?_)
  | (refine J_N hW h.h86 ‹_› (by omega) (by omega) ?_)
  | (refine J_N hW h.h113 ‹_› (by omega) (by omega) ?_)
  | (refine J_N hW h.h114 ‹_› (by omega) (by omega) ?_)
  | (refine J_P hW h.h115 ‹_› (by omega) (by omega) (by repeat' (first | assumption | exact Pt.nil _ | apply Pt.cons | apply Pt.app)) (by omega) (by first | rfl | simp only [zC,zF,zG]) (by first | assumption | exact xf | exact zo (.inl rfl) | exact xi (.inl rfl) | exact xm | exact yw | exact zo (.inr ‹_›)) ?_)
  | (refine J_F hW h.h116 ‹_› (by omega) (by omega) (by repeat' (first | assumption | exact Pt.nil _ | apply Pt.cons | apply Pt.app)) (by omega) (by first | rfl | simp only [zC,zF,zG]) ?_)
  | (refine J_U hW (by decide) h.h117 ‹_› (by omega) (by omega) (by repeat' (first | assumption | exact Pt.nil _ | apply Pt.cons | apply Pt.app)) (by omega) (by first | rfl | simp only [zC,zF,zG]) ?_)
  | (refine zu ‹_› (by repeat' (first | refine Int.max_le.2 ⟨?_,?_⟩ | omega)) ⟨(by first | assumption | exact Tr.mk (by repeat' (first | assumption | exact Pt.nil _ | apply Pt.cons | apply Pt.app)) (by omega) (by decide) (by first | assumption | exact zZ rfl | exact zc rfl | exact zd | exact zS | exact zj (by decide) ‹_› | exact zT ‹_› (by rfl) | exact za ‹_› (by rfl) | exact zl (Pt.ne ‹_› (by omega)) | (intro x e; simp at e))),(by first | rfl | (refine Eq.trans ?_ (zn _ _ _ (by decide)).symm; simp only [zC,zF,zG]))⟩)) <;> intros <;> (try dsimp only [cond_true,cond_false,Bool.not_true,Bool.not_false,zY,zX,zQ]))
end
section
open Go.Al Go.Den
variable {W:Sim} {m fu:Nat} {r s0:RS} {P:Pr}
set_option maxHeartbeats 1000000 in
theorem sp130 (hW:W.Ok) (hP:P.Ok) (hfu:5000 < fu) (h:RSp W m r s0):SpK W 1 3 (m+1) (mM (aa:=([.bool]:LK)) (rs:=([.st TI.node,.str,.bool]:LK)) (sh130 fu P.c54 P.c72 P.c73 P.c76 P.c78 r.c79 r.c82 P.c85 r.c130)) (mM (aa:=([.bool]:LK)) (rs:=([.st TI.node,.str,.bool]:LK)) (sh130 fu P.c54 P.c72 P.c73 P.c76 P.c78 s0.c79 s0.c82 P.c85 s0.c130)):=by
 have hA:=hW.lenA
 have lo0:=hW.lo0
 intro n p xs ys nm hS hn hm
 have p0:=hS.p0
 have p1:=hS.p1
 have n1:=hS.n1
 refine xk ?_
 simp only [sh130,zg,yB,yU,yA]
 try dsimp only [zQ]
 repeat' ((first
  | exact z8
  | (refine yM (by simp only [zU,zC,zF,zG,List.length_append,List.length_cons,List.length_nil]) (by first | omega | (simp only [List.length_append,List.length_cons,List.length_nil]; omega)) ?_)
  | (refine zF0 ?_)
  | (refine zIP hW _ (by omega) (by omega) (by decide) ?_ ?_)
  | (refine zAI ?_ ?_)
  | (refine zu ‹_› (by repeat' (first | refine Int.max_le.2 ⟨?_,?_⟩ | omega)) ⟨(by omega),(zKr ‹_› ‹_›).1,(by first | rfl | (refine Eq.trans ?_ (zn _ _ _ (by decide)).symm; simp only [zC,zF,zG])),(by first | assumption | exact .inl ⟨rfl,rfl⟩ | exact .inr ⟨_,by omega,by assumption,rfl,rfl⟩),(by rw [zJK]),(zKr ‹_› ‹_›).2,rfl⟩)
  | (refine yx hP hW ‹_› (by decide) (by decide) ?_ ?_)
  | (refine yO hP hW ‹_› (by decide) (by decide) ?_ ?_)
  | (refine zAT hP hW ‹_› ?_)
  | (refine zAb hP hW ‹_› ?_)
  | (refine yI hP hW ‹_› ?_)
  | (refine zLR hP hW ‹_› (by omega) ?_ ?_)
  | (refine zKm hP hW ‹_› (by omega) (by omega) ?_ ?_)
  | (refine yg hP hW ‹_› (by decide) ?_)
  | (refine yX hP hW ‹_› (by decide) ?_)
  | (refine kJ hP hW ‹_› ?_ ?_)
  | (refine kF hP hW ‹_› (by omega) ?_ ?_)
  | (refine J_P hW h.h79 ‹_› (by omega) (by omega) (by repeat' (first | assumption | exact Pt.nil _ | apply Pt.cons | apply Pt.app)) (by omega) (by first | rfl | simp only [zC,zF,zG]) (by first | assumption | exact xf | exact zo (.inl rfl) | exact xi (.inl rfl) | exact xm | exact yw | exact zo (.inr ‹_›)) ?_)
  | (refine J_D1 hW h.h82 ‹_› (by omega) (by omega) (by repeat' (first | assumption | exact Pt.nil _ | apply Pt.cons | apply Pt.app)) (by omega) (by first | rfl | simp only [zC,zF,zG]) (by first | assumption | exact xf | exact zo (.inl rfl) | exact xi (.inl rfl) | exact xm | exact yw | exact zo (.inr ‹_›)) ‹_› ?_) | (refine J_D hW h.h82 ‹_› (by omega) (by omega) (by repeat' (first | assumption | exact Pt.nil _ | apply Pt.cons | apply Pt.app)) (by omega) (by first | rfl | simp only [zC,zF,zG]) (by first | assumption | exact xf | exact zo (.inl rfl) | exact xi (.inl rfl) | exact xm | exact yw | exact zo (.inr ‹_›)) ?_)
  | (refine J_K hW h.h130 ‹_› (by omega) (by omega) ?_ ?_)
  | (refine zu ‹_› (by repeat' (first | refine Int.max_le.2 ⟨?_,?_⟩ | omega)) ⟨(by first | assumption | exact Tr.mk (by repeat' (first | assumption | exact Pt.nil _ | apply Pt.cons | apply Pt.app)) (by omega) (by decide) (by first | assumption | exact zZ rfl | exact zc rfl | exact zd | exact zS | exact zj (by decide) ‹_› | exact zT ‹_› (by rfl) | exact za ‹_› (by rfl) | exact zl (Pt.ne ‹_› (by omega)) | (intro x e; simp at e))),(by first | rfl | (refine Eq.trans ?_ (zn _ _ _ (by decide)).symm; simp only [zC,zF,zG]))⟩)) <;> intros <;> (try dsimp only [cond_true,cond_false,Bool.not_true,Bool.not_false,zY,zX,zQ]))
set_option maxHeartbeats 1000000 in
theorem sp131 (hW:W.Ok) (hP:P.Ok) (hfu:5000 < fu) (h:RSp W m r s0):SpG W 1 5 (m+1) (mM (aa:=([.int .i64]:LK)) (rs:=([.st TI.node]:LK)) (sh131 fu c143 P.c72 P.c73 r.c131 r.c142)) (mM (aa:=([.int .i64]:LK)) (rs:=([.st TI.node]:LK)) (sh131 fu c143 P.c72 P.c73 s0.c131 s0.c142)):=by
 have hA:=hW.lenA
 have lo0:=hW.lo0
 intro n p xs ys z hS hn hm
 have p0:=hS.p0
 have p1:=hS.p1
 have n1:=hS.n1
 refine xk ?_
 simp only [sh131,zg,yB,yU,yA]
 refine J_N hW h.h142 hS hn (by omega) ?_
 intro q zs zs' nd hS0 hq0 hq1 hT0
 dsimp only
 refine qz (I:=fun b s s'=>∃ (q:Int) (zs zs':List MT) (j:Int×(Int×NdsT)) (k t:Int) (ks:List Nd) (k' t':Int) (ks':List Nd),s=((),((W.A,(q,(zs,((),())))),(j,((k,(t,(ks,()))),()))))/\s' = ((),((W.B,(q+W.d,(zs',((),())))),(j,((k',(t',(ks',()))),()))))/\Nd.mk k' t' ks' = shN W.d (Nd.mk k t ks)/\Sta W n q zs zs'/\q<=(W.A.length:Int)/\p < q/\Tr p q (Nd.mk k t ks)/\b<=2 * q+1) (μ:=fun s=>((W.A.length:Int) - s.2.1.2.1).toNat) ?_ fu _ _ _ ⟨_,_,_,_,_,_,_,_,_,_,rfl,rfl,(by simp only [zC6]),hS0,hq0,hq1,(by rw [zC6]; exact hT0),(by repeat' (first | refine Int.max_le.2 ⟨?_,?_⟩ | omega))⟩ (by dsimp only; omega)
 rintro rec rec' b s s' ⟨q,zs,zs',j,k,t,ks,k',t',ks',rfl,rfl,hE,hS1,hq2,hq3,hT1,hb⟩ hrec
 dsimp only
 simp only [hE]
 generalize Nd.mk k t ks=nd1 at hT1 ⊢
 repeat' ((first
  | exact z8
  | (refine yM (by simp only [zU,zC,zF,zG,List.length_append,List.length_cons,List.length_nil]) (by first | omega | (simp only [List.length_append,List.length_cons,List.length_nil]; omega)) ?_)
  | (refine hrec _ _ _ ⟨_,_,_,_,_,_,_,_,_,_,rfl,rfl,(by first | rfl | (refine Eq.trans ?_ (zn _ _ _ (by decide)).symm; simp only [zC,zF,zG])),‹_›,(by omega),(by omega),(by first | assumption | exact Tr.mk (by repeat' (first | assumption | exact Pt.nil _ | apply Pt.cons | apply Pt.app)) (by omega) (by decide) (by first | assumption | exact zZ rfl | exact zc rfl | exact zd | exact zS | exact zj (by decide) ‹_› | exact zT ‹_› (by rfl) | exact za ‹_› (by rfl) | exact zl (Pt.ne ‹_› (by omega)) | (intro x e; simp at e))),(by repeat' (first | refine Int.max_le.2 ⟨?_,?_⟩ | omega))⟩ (by dsimp only; omega))
  | (refine J_c143 hW _ (by omega) (by omega) ?_)
  | (refine zAI ?_ ?_)
  | (refine zAT hP hW ‹_› ?_)
  | (refine zAb hP hW ‹_› ?_)
  | (refine yI hP hW ‹_› ?_)
  | (refine J_G hW h.h131 ‹_› (by omega) (by omega) ?_)
  | (refine zu ‹_› (by repeat' (first | refine Int.max_le.2 ⟨?_,?_⟩ | omega)) ⟨(by first | assumption | exact Tr.mk (by repeat' (first | assumption | exact Pt.nil _ | apply Pt.cons | apply Pt.app)) (by omega) (by decide) (by first | assumption | exact zZ rfl | exact zc rfl | exact zd | exact zS | exact zj (by decide) ‹_› | exact zT ‹_› (by rfl) | exact za ‹_› (by rfl) | exact zl (Pt.ne ‹_› (by omega)) | (intro x e; simp at e))),(by first | rfl | (refine Eq.trans ?_ (zn _ _ _ (by decide)).symm; simp only [zC,zF,zG]))⟩)) <;> intros <;> (try dsimp only [cond_true,cond_false,Bool.not_true,Bool.not_false,zY,zX,zQ]))
set_option maxHeartbeats 1000000 in
theorem sp154 (hW:W.Ok) (hP:P.Ok) (hfu:5000 < fu) (h:RSp W m r s0):SpH W 1 1 (m+1) (mM (aa:=([.st TI.node]:LK)) (rs:=([.st TI.node]:LK)) (sh154 fu P.c54 P.c73 P.c78 P.c80 r.c111 r.c113)) (mM (aa:=([.st TI.node]:LK)) (rs:=([.st TI.node]:LK)) (sh154 fu P.c54 P.c73 P.c78 P.c80 s0.c111 s0.c113)):=by
 have hA:=hW.lenA
 have lo0:=hW.lo0
 intro n p xs ys a0 nd hS hn hm hT ha
 have p0:=hS.p0
 have p1:=hS.p1
 have n1:=hS.n1
 refine xk ?_
 simp only [sh154,zg,yB,yU,yA]
 have hlt:=hT.lt
 refine qz (I:=fun b s s'=>∃ (q:Int) (zs zs':List MT) (j:Int×(Int×NdsT)) (k t:Int) (ks:List Nd) (k' t':Int) (ks':List Nd),s=((),((W.A,(q,(zs,((),())))),((k,(t,(ks,()))),(j,()))))/\s' = ((),((W.B,(q+W.d,(zs',((),())))),((k',(t',(ks',()))),(j,()))))/\Nd.mk k' t' ks' = shN W.d (Nd.mk k t ks)/\Sta W n q zs zs'/\q<=(W.A.length:Int)/\p<=q/\Tr a0 q (Nd.mk k t ks)/\b<=2 * q+1) (μ:=fun s=>((W.A.length:Int) - s.2.1.2.1).toNat) ?_ fu _ _ _ ⟨_,_,_,_,_,_,_,_,_,_,rfl,rfl,(by simp only [zC6]),hS,p1,(Int.le_refl _),(by rw [zC6]; exact hT),(by repeat' (first | refine Int.max_le.2 ⟨?_,?_⟩ | omega))⟩ (by dsimp only; omega)
 rintro rec rec' b s s' ⟨q,zs,zs',j,k,t,ks,k',t',ks',rfl,rfl,hE,hS1,hq2,hq3,hT1,hb⟩ hrec
 dsimp only
 simp only [hE]
 generalize Nd.mk k t ks=nd1 at hT1 ⊢
 have hlt1:=hT1.lt
 repeat' ((first
  | exact z8
  | (refine yM (by simp only [zU,zC,zF,zG,List.length_append,List.length_cons,List.length_nil]) (by first | omega | (simp only [List.length_append,List.length_cons,List.length_nil]; omega)) ?_)
  | (refine hrec _ _ _ ⟨_,_,_,_,_,_,_,_,_,_,rfl,rfl,(by first | rfl | (refine Eq.trans ?_ (zn _ _ _ (by decide)).symm; simp only [zC,zF,zG])),‹_›,(by omega),(by omega),(by first | assumption | exact Tr.mk (by repeat' (first | assumption | exact Pt.nil _ | apply Pt.cons | apply Pt.app)) (by omega) (by decide) (by first | assumption | exact zZ rfl | exact zc rfl | exact zd | exact zS | exact zj (by decide) ‹_› | exact zT ‹_› (by rfl) | exact za ‹_› (by rfl) | exact zl (Pt.ne ‹_› (by omega)) | (intro x e; simp at e))),(by repeat' (first | refine Int.max_le.2 ⟨?_,?_⟩ | omega))⟩ (by dsimp only; omega))
  | (refine yx hP hW ‹_› (by decide) (by decide) ?_ ?_)
  | (refine yO hP hW ‹_› (by decide) (by decide) ?_ ?_)
  | (refine yI hP hW ‹_› ?_)
  | (refine yg hP hW ‹_› (by decide) ?_)
  | (refine yX hP hW ‹_› (by decide) ?_)
  | (refine zAm hP hW ‹_› ?_)
  | (refine J_N hW h.h111 ‹_› (by omega) (by omega) ?_)
  | (refine J_N hW h.h113 ‹_› (by omega) (by omega) ?_)
  | (refine zu ‹_› (by repeat' (first | refine Int.max_le.2 ⟨?_,?_⟩ | omega)) ⟨(by omega),(by first | assumption | exact Tr.mk (by repeat' (first | assumption | exact Pt.nil _ | apply Pt.cons | apply Pt.app)) (by omega) (by decide) (by first | assumption | exact zZ rfl | exact zc rfl | exact zd | exact zS | exact zj (by decide) ‹_› | exact zT ‹_› (by rfl) | exact za ‹_› (by rfl) | exact zl (Pt.ne ‹_› (by omega)) | (intro x e; simp at e))),(by first | rfl | (refine Eq.trans ?_ (zn _ _ _ (by decide)).symm; simp only [zC,zF,zG]))⟩)) <;> intros <;> (try dsimp only [cond_true,cond_false,Bool.not_true,Bool.not_false,zY,zX,zQ]))
 all_goals
  refine qz (I:=fun b s s'=>∃ (q2:Int) (zs zs':List MT) (ps ps':List Nd) (j1 j1' j2:Int×(Int×NdsT)) (mr:Bool),s=((mr,()),((W.A,(q2,(zs,((),())))),(j1,(j2,((ps,()),())))))/\s' = ((mr,()),((W.B,(q2+W.d,(zs',((),())))),(j1',(j2,((ps',()),())))))/\ps' = shL W.d ps/\Sta W n q2 zs zs'/\q2<=(W.A.length:Int)/\q < q2/\Pt a0 q2 ps/\(ps.length:Int)<=q2 - a0/\b<=2 * q2+2) (μ:=fun s=>((W.A.length:Int) - s.2.1.2.1).toNat) ?_ fu _ _ _ ⟨_,_,_,_,_,_,_,_,_,rfl,rfl,(by first | rfl | simp only [zC,zF,zG]),‹_›,(by omega),(by omega),(by repeat' (first | assumption | exact Pt.nil _ | apply Pt.cons | apply Pt.app)),(by first | omega | (simp only [List.length_append,List.length_cons,List.length_nil]; omega)),(by repeat' (first | refine Int.max_le.2 ⟨?_,?_⟩ | omega))⟩ (by dsimp only; omega)
  rintro rec2 rec2' b2 s2 s2' ⟨q2,zs2,zs2',ps,ps',j1,j1',j2,mr,rfl,rfl,rfl,hS2,hq4,hq5,hP2,hl2,hb2⟩ hrec2
  dsimp only
  repeat' ((first
   | exact z8
   | (refine yM (by simp only [zU,zC,zF,zG,List.length_append,List.length_cons,List.length_nil]) (by first | omega | (simp only [List.length_append,List.length_cons,List.length_nil]; omega)) ?_)
   | (refine hrec2 _ _ _ ⟨_,_,_,_,_,_,_,_,_,rfl,rfl,(by first | rfl | simp only [zC,zF,zG]),‹_›,(by omega),(by omega),(by repeat' (first | assumption | exact Pt.nil _ | apply Pt.cons | apply Pt.app)),(by first | omega | (simp only [List.length_append,List.length_cons,List.length_nil]; omega)),(by repeat' (first | refine Int.max_le.2 ⟨?_,?_⟩ | omega))⟩ (by dsimp only; omega))
   | (refine hrec _ _ _ ⟨_,_,_,_,_,_,_,_,_,_,rfl,rfl,(by first | rfl | (refine Eq.trans ?_ (zn _ _ _ (by decide)).symm; simp only [zC,zF,zG])),‹_›,(by omega),(by omega),(by first | assumption | exact Tr.mk (by repeat' (first | assumption | exact Pt.nil _ | apply Pt.cons | apply Pt.app)) (by omega) (by decide) (by first | assumption | exact zZ rfl | exact zc rfl | exact zd | exact zS | exact zj (by decide) ‹_› | exact zT ‹_› (by rfl) | exact za ‹_› (by rfl) | exact zl (Pt.ne ‹_› (by omega)) | (intro x e; simp at e))),(by repeat' (first | refine Int.max_le.2 ⟨?_,?_⟩ | omega))⟩ (by dsimp only; omega))
   | (refine zIL ?_ ?_)
   | (refine zAI ?_ ?_)
   | (refine yx hP hW ‹_› (by decide) (by decide) ?_ ?_)
   | (refine yO hP hW ‹_› (by decide) (by decide) ?_ ?_)
   | (refine yI hP hW ‹_› ?_)
   | (refine yg hP hW ‹_› (by decide) ?_)
   | (refine yX hP hW ‹_› (by decide) ?_)
   | (refine zAm hP hW ‹_› ?_)
   | (refine J_N hW h.h111 ‹_› (by omega) (by omega) ?_)) <;> intros <;> (try dsimp only [cond_true,cond_false,Bool.not_true,Bool.not_false,zY,zX,zQ]))
set_option maxHeartbeats 1000000 in
theorem sp155 (hW:W.Ok) (hP:P.Ok) (hfu:5000 < fu) (h:RSp W m r s0):SpN W 1 2 (m+1) (mM (aa:=([]:LK)) (rs:=([.st TI.node]:LK)) (sh155 fu P.c73 P.c85 P.c112 r.c115)) (mM (aa:=([]:LK)) (rs:=([.st TI.node]:LK)) (sh155 fu P.c73 P.c85 P.c112 s0.c115)):=by
 have hA:=hW.lenA
 have lo0:=hW.lo0
 intro n p xs ys hS hn hm
 have p0:=hS.p0
 have p1:=hS.p1
 have n1:=hS.n1
 refine xk ?_
 simp only [sh155,zg,yB,yU,yA]
 try dsimp only [zQ]
 repeat' ((first
  | exact z8
  | (refine yM (by simp only [zU,zC,zF,zG,List.length_append,List.length_cons,List.length_nil]) (by first | omega | (simp only [List.length_append,List.length_cons,List.length_nil]; omega)) ?_)
  | (refine yI hP hW ‹_› ?_)
  | (refine kJ hP hW ‹_› ?_ ?_)
  | (refine kF hP hW ‹_› (by omega) ?_ ?_)
  | (refine zE7 hP hW ‹_› ?_ ?_)
  | (refine J_P hW h.h115 ‹_› (by omega) (by omega) (by repeat' (first | assumption | exact Pt.nil _ | apply Pt.cons | apply Pt.app)) (by omega) (by first | rfl | simp only [zC,zF,zG]) (by first | assumption | exact xf | exact zo (.inl rfl) | exact xi (.inl rfl) | exact xm | exact yw | exact zo (.inr ‹_›)) ?_)
  | (refine zu ‹_› (by repeat' (first | refine Int.max_le.2 ⟨?_,?_⟩ | omega)) ⟨(by first | assumption | exact Tr.mk (by repeat' (first | assumption | exact Pt.nil _ | apply Pt.cons | apply Pt.app)) (by omega) (by decide) (by first | assumption | exact zZ rfl | exact zc rfl | exact zd | exact zS | exact zj (by decide) ‹_› | exact zT ‹_› (by rfl) | exact za ‹_› (by rfl) | exact zl (Pt.ne ‹_› (by omega)) | (intro x e; simp at e))),(by first | rfl | (refine Eq.trans ?_ (zn _ _ _ (by decide)).symm; simp only [zC,zF,zG]))⟩)) <;> intros <;> (try dsimp only [cond_true,cond_false,Bool.not_true,Bool.not_false,zY,zX,zQ]))
 all_goals
  refine qz (I:=fun b s s'=>∃ (q:Int) (zs zs':List MT) (ps ps':List Nd) (j:Int×(Int×NdsT)),s=((),((W.A,(q,(zs,((),())))),(j,((ps,()),()))))/\s' = ((),((W.B,(q+W.d,(zs',((),())))),(j,((ps',()),()))))/\ps' = shL W.d ps/\Sta W n q zs zs'/\q<=(W.A.length:Int)/\p<=q/\(q=p->yn 4 W.A p=true)/\Pt p q ps/\(ps.length:Int)<=q - p/\b<=2 * q+1/\pk ps) (μ:=fun s=>((W.A.length:Int) - s.2.1.2.1).toNat) ?_ fu _ _ _ ⟨_,_,_,_,_,_,rfl,rfl,(by first | rfl | simp only [zC,zF,zG]),‹_›,(by omega),(by omega),(fun _=>by assumption),(by repeat' (first | assumption | exact Pt.nil _ | apply Pt.cons | apply Pt.app)),(by first | omega | (simp only [List.length_append,List.length_cons,List.length_nil]; omega)),(by repeat' (first | refine Int.max_le.2 ⟨?_,?_⟩ | omega)),xf⟩ (by dsimp only; omega)
  rintro rec rec' b s s' ⟨q,zs,zs',ps,ps',j,rfl,rfl,rfl,hS1,hq1,hq2,hq3,hP1,hl1,hb,hpk1⟩ hrec
  dsimp only
  refine zE7 hP hW hS1 ?_ ?_ <;> intros <;> (try dsimp only [cond_true,cond_false])
  · repeat' ((first
   | exact z8
   | (refine yM (by simp only [zU,zC,zF,zG,List.length_append,List.length_cons,List.length_nil]) (by first | omega | (simp only [List.length_append,List.length_cons,List.length_nil]; omega)) ?_)
   | (refine hrec _ _ _ ⟨_,_,_,_,_,_,rfl,rfl,(by first | rfl | simp only [zC,zF,zG]),‹_›,(by omega),(by omega),(fun e=>absurd e (by omega)),(by repeat' (first | assumption | exact Pt.nil _ | apply Pt.cons | apply Pt.app)),(by first | omega | (simp only [List.length_append,List.length_cons,List.length_nil]; omega)),(by repeat' (first | refine Int.max_le.2 ⟨?_,?_⟩ | omega)),(by first | assumption | exact xf | exact zo (.inl rfl) | exact xi (.inl rfl) | exact xm | exact yw | exact zo (.inr ‹_›))⟩ (by dsimp only; omega))
   | (refine yI hP hW ‹_› ?_)
   | (refine kJ hP hW ‹_› ?_ ?_)
   | (refine kF hP hW ‹_› (by omega) ?_ ?_)
   | (refine zE7 hP hW ‹_› ?_ ?_)) <;> intros <;> (try dsimp only [cond_true,cond_false,Bool.not_true,Bool.not_false,zY,zX,zQ]))
  · have hqp:p < q:=by
     rcases Int.lt_or_eq_of_le hq2 with h1 | h1
     · exact h1
     · subst h1
       rename_i h2
       rw [hq3 rfl] at h2
       cases h2
    exact zu hS1 (by repeat' (first | refine Int.max_le.2 ⟨?_,?_⟩ | omega)) ⟨(by first | assumption | exact Tr.mk (by repeat' (first | assumption | exact Pt.nil _ | apply Pt.cons | apply Pt.app)) (by omega) (by decide) (by first | assumption | exact zZ rfl | exact zc rfl | exact zd | exact zS | exact zj (by decide) ‹_› | exact zT ‹_› (by rfl) | exact za ‹_› (by rfl) | exact zl (Pt.ne ‹_› (by omega)) | (intro x e; simp at e))),(by first | rfl | (refine Eq.trans ?_ (zn _ _ _ (by decide)).symm; simp only [zC,zF,zG]))⟩
set_option maxHeartbeats 1000000 in
theorem sp79 (hW:W.Ok) (hP:P.Ok) (hfu:5000 < fu) (h:RSp W m r s0):SpP W 1 1 (m+1) 0 (mX (aa:=([]:LK)) (rs:=([]:LK)) (sh79 fu P.c54 P.c73)) (mX (aa:=([]:LK)) (rs:=([]:LK)) (sh79 fu P.c54 P.c73)):=by
 have hA:=hW.lenA
 have lo0:=hW.lo0
 intro n p xs ys a0 ps hS hn hm hQ ha hpk
 have p0:=hS.p0
 have p1:=hS.p1
 have n1:=hS.n1
 refine zIF ?_
 simp only [sh79,zg,yB,yU,yA]
 have hl:=hQ.len
 have hle:=hQ.le
 refine qz (I:=fun b s s'=>∃ (q:Int) (zs zs':List MT) (ps ps':List Nd),s=((),((W.A,(q,(zs,((),())))),((ps,()),())))/\s' = ((),((W.B,(q+W.d,(zs',((),())))),((ps',()),())))/\ps' = shL W.d ps/\Sta W n q zs zs'/\q<=(W.A.length:Int)/\p<=q/\Pt a0 q ps/\(ps.length:Int)<=q - a0/\b<=2 * q+1/\pk ps) (μ:=fun s=>((W.A.length:Int) - s.2.1.2.1).toNat) ?_ fu _ _ _ ⟨_,_,_,_,_,rfl,rfl,(by first | rfl | simp only [zC,zF,zG]),‹_›,(by omega),(by omega),(by repeat' (first | assumption | exact Pt.nil _ | apply Pt.cons | apply Pt.app)),(by first | omega | (simp only [List.length_append,List.length_cons,List.length_nil]; omega)),(by repeat' (first | refine Int.max_le.2 ⟨?_,?_⟩ | omega)),(by first | assumption | exact xf | exact zo (.inl rfl) | exact xi (.inl rfl) | exact xm | exact yw | exact zo (.inr ‹_›))⟩ (by dsimp only; omega)
 rintro rec rec' b s s' ⟨q,zs,zs',ps,ps',rfl,rfl,rfl,hS1,hq1,hq,hP1,hl1,hb,hpk1⟩ hrec
 dsimp only
 repeat' ((first
  | exact z8
  | (refine yM (by simp only [zU,zC,zF,zG,List.length_append,List.length_cons,List.length_nil]) (by first | omega | (simp only [List.length_append,List.length_cons,List.length_nil]; omega)) ?_)
  | (refine zGd ‹_› (by repeat' (first | refine Int.max_le.2 ⟨?_,?_⟩ | omega)) ⟨(by omega),(by repeat' (first | assumption | exact Pt.nil _ | apply Pt.cons | apply Pt.app)),(by first | rfl | simp only [zC,zF,zG]),(by first | assumption | exact xf | exact zo (.inl rfl) | exact xi (.inl rfl) | exact xm | exact yw | exact zo (.inr ‹_›))⟩)
  | (refine yx hP hW ‹_› (by decide) (by decide) ?_ ?_)
  | (refine yO hP hW ‹_› (by decide) (by decide) ?_ ?_)
  | (refine yI hP hW ‹_› ?_)) <;> intros <;> (try dsimp only [cond_true,cond_false,Bool.not_true,Bool.not_false,zY,zX,zQ]))
 all_goals
  refine qz (I:=fun b s s'=>∃ (q2:Int) (zs zs':List MT) (ps ps':List Nd),s=((),((W.A,(q2,(zs,((),())))),((ps,()),())))/\s' = ((),((W.B,(q2+W.d,(zs',((),())))),((ps',()),())))/\ps' = shL W.d ps/\Sta W n q2 zs zs'/\q2<=(W.A.length:Int)/\q < q2/\Pt a0 q2 ps/\(ps.length:Int)<=q2 - a0/\b<=2 * q2+1/\pk ps) (μ:=fun s=>((W.A.length:Int) - s.2.1.2.1).toNat) ?_ fu _ _ _ ⟨_,_,_,_,_,rfl,rfl,(by first | rfl | simp only [zC,zF,zG]),‹_›,(by omega),(by omega),(by repeat' (first | assumption | exact Pt.nil _ | apply Pt.cons | apply Pt.app)),(by first | omega | (simp only [List.length_append,List.length_cons,List.length_nil]; omega)),(by repeat' (first | refine Int.max_le.2 ⟨?_,?_⟩ | omega)),(by first | assumption | exact xf | exact zo (.inl rfl) | exact xi (.inl rfl) | exact xm | exact yw | exact zo (.inr ‹_›))⟩ (by dsimp only; omega)
  rintro rec2 rec2' b2 s2 s2' ⟨q2,zs2,zs2',ps2,ps2',rfl,rfl,rfl,hS2,hq4,hq5,hP2,hl2,hb2,hpk2⟩ hrec2
  dsimp only
  repeat' ((first
   | exact z8
   | (refine yM (by simp only [zU,zC,zF,zG,List.length_append,List.length_cons,List.length_nil]) (by first | omega | (simp only [List.length_append,List.length_cons,List.length_nil]; omega)) ?_)
   | (refine hrec2 _ _ _ ⟨_,_,_,_,_,rfl,rfl,(by first | rfl | simp only [zC,zF,zG]),‹_›,(by omega),(by omega),(by repeat' (first | assumption | exact Pt.nil _ | apply Pt.cons | apply Pt.app)),(by first | omega | (simp only [List.length_append,List.length_cons,List.length_nil]; omega)),(by repeat' (first | refine Int.max_le.2 ⟨?_,?_⟩ | omega)),(by first | assumption | exact xf | exact zo (.inl rfl) | exact xi (.inl rfl) | exact xm | exact yw | exact zo (.inr ‹_›))⟩ (by dsimp only; omega))
   | (refine hrec _ _ _ ⟨_,_,_,_,_,rfl,rfl,(by first | rfl | simp only [zC,zF,zG]),‹_›,(by omega),(by omega),(by repeat' (first | assumption | exact Pt.nil _ | apply Pt.cons | apply Pt.app)),(by first | omega | (simp only [List.length_append,List.length_cons,List.length_nil]; omega)),(by repeat' (first | refine Int.max_le.2 ⟨?_,?_⟩ | omega)),(by first | assumption | exact xf | exact zo (.inl rfl) | exact xi (.inl rfl) | exact xm | exact yw | exact zo (.inr ‹_›))⟩ (by dsimp only; omega))
   | (refine yx hP hW ‹_› (by decide) (by decide) ?_ ?_)
   | (refine yO hP hW ‹_› (by decide) (by decide) ?_ ?_)
   | (refine yI hP hW ‹_› ?_)) <;> intros <;> (try dsimp only [cond_true,cond_false,Bool.not_true,Bool.not_false,zY,zX,zQ]))
set_option maxHeartbeats 1000000 in
theorem sp82 (hW:W.Ok) (hP:P.Ok) (hfu:5000 < fu) (h:RSp W m r s0):SpD W 1 2 (m+1) (mX (aa:=([]:LK)) (rs:=([]:LK)) (sh82 fu P.c54 P.c73 P.c78 r.c81 r.c111)) (mX (aa:=([]:LK)) (rs:=([]:LK)) (sh82 fu P.c54 P.c73 P.c78 s0.c81 s0.c111)):=by
 have hA:=hW.lenA
 have lo0:=hW.lo0
 intro n p xs ys a0 ps hS hn hm hQ ha hpk
 have p0:=hS.p0
 have p1:=hS.p1
 have n1:=hS.n1
 refine zIF ?_
 simp only [sh82,zg,yB,yU,yA]
 have hl:=hQ.len
 have hle:=hQ.le
 refine qz (I:=fun b s s'=>∃ (q:Int) (zs zs':List MT) (ps ps':List Nd),s=((),((W.A,(q,(zs,((),())))),((ps,()),())))/\s' = ((),((W.B,(q+W.d,(zs',((),())))),((ps',()),())))/\ps' = shL W.d ps/\Sta W n q zs zs'/\q<=(W.A.length:Int)/\p<=q/\Pt a0 q ps/\(ps.length:Int)<=q - a0/\b<=2 * q+1/\pk ps) (μ:=fun s=>((W.A.length:Int) - s.2.1.2.1).toNat) ?_ fu _ _ _ ⟨_,_,_,_,_,rfl,rfl,(by first | rfl | simp only [zC,zF,zG]),‹_›,(by omega),(by omega),(by repeat' (first | assumption | exact Pt.nil _ | apply Pt.cons | apply Pt.app)),(by first | omega | (simp only [List.length_append,List.length_cons,List.length_nil]; omega)),(by repeat' (first | refine Int.max_le.2 ⟨?_,?_⟩ | omega)),(by first | assumption | exact xf | exact zo (.inl rfl) | exact xi (.inl rfl) | exact xm | exact yw | exact zo (.inr ‹_›))⟩ (by dsimp only; omega)
 rintro rec rec' b s s' ⟨q,zs,zs',ps,ps',rfl,rfl,rfl,hS1,hq1,hq,hP1,hl1,hb,hpk1⟩ hrec
 dsimp only
 repeat' ((first
  | exact z8
  | (refine yM (by simp only [zU,zC,zF,zG,List.length_append,List.length_cons,List.length_nil]) (by first | omega | (simp only [List.length_append,List.length_cons,List.length_nil]; omega)) ?_)
  | (refine hrec _ _ _ ⟨_,_,_,_,_,rfl,rfl,(by first | rfl | simp only [zC,zF,zG]),‹_›,(by omega),(by omega),(by repeat' (first | assumption | exact Pt.nil _ | apply Pt.cons | apply Pt.app)),(by first | omega | (simp only [List.length_append,List.length_cons,List.length_nil]; omega)),(by repeat' (first | refine Int.max_le.2 ⟨?_,?_⟩ | omega)),(by first | assumption | exact xf | exact zo (.inl rfl) | exact xi (.inl rfl) | exact xm | exact yw | exact zo (.inr ‹_›))⟩ (by dsimp only; omega))
  | (refine zGd ‹_› (by repeat' (first | refine Int.max_le.2 ⟨?_,?_⟩ | omega)) ⟨(by omega),(by intro e; rcases Int.lt_or_eq_of_le hq with h1 | h1; exact h1; subst h1; exact absurd e (by rw [(by assumption:isF [[40],[91]] W.A _=false)]; decide)),(by repeat' (first | assumption | exact Pt.nil _ | apply Pt.cons | apply Pt.app)),(by first | rfl | simp only [zC,zF,zG]),(by first | assumption | exact xf | exact zo (.inl rfl) | exact xi (.inl rfl) | exact xm | exact yw | exact zo (.inr ‹_›))⟩)
  | (refine yx hP hW ‹_› (by decide) (by decide) ?_ ?_)
  | (refine yO hP hW ‹_› (by decide) (by decide) ?_ ?_)
  | (refine yI hP hW ‹_› ?_)
  | (refine yg hP hW ‹_› (by decide) ?_)
  | (refine yX hP hW ‹_› (by decide) ?_)
  | (refine J_L hW h.h81 ‹_› (by omega) (by omega) ?_)
  | (refine J_N hW h.h111 ‹_› (by omega) (by omega) ?_)) <;> intros <;> (try dsimp only [cond_true,cond_false,Bool.not_true,Bool.not_false,zY,zX,zQ]))
set_option maxHeartbeats 1000000 in
theorem sp53 (hW:W.Ok) (hP:P.Ok) (hfu:5000 < fu) (h:RSp W m r s0):SpS W 1 3 (m+1) (mM (aa:=([]:LK)) (rs:=([.st TI.node,.bool]:LK)) (sh53 fu c33 P.c72 P.c73 r.c74 r.c75 P.c76)) (mM (aa:=([]:LK)) (rs:=([.st TI.node,.bool]:LK)) (sh53 fu c33 P.c72 P.c73 s0.c74 s0.c75 P.c76)):=by
 have hA:=hW.lenA
 have lo0:=hW.lo0
 intro n p xs ys hS hn hm
 have p0:=hS.p0
 have p1:=hS.p1
 have n1:=hS.n1
 refine xk ?_
 simp only [sh53,zg,yB,yU,yA]
 refine qz (I:=fun b s s'=>∃ (q:Int) (zs zs':List MT) (ps ps':List Nd) (j:Int×(Int×NdsT)) (td sm sg:Bool),s=((td,(sm,(sg,()))),((W.A,(q,(zs,((),())))),(j,((ps,()),()))))/\s' = ((td,(sm,(sg,()))),((W.B,(q+W.d,(zs',((),())))),(j,((ps',()),()))))/\ps' = shL W.d ps/\Sta W n q zs zs'/\q<=(W.A.length:Int)/\p<=q/\Pt p q ps/\(ps.length:Int)<=q - p/\b<=2 * q+1/\(td=true->W.TD)/\(∀ x,ps=[x]->prK 4 x.kind=true)) (μ:=fun s=>((W.A.length:Int) - s.2.1.2.1).toNat) ?_ fu _ _ _ ⟨_,_,_,_,_,_,_,_,_,rfl,rfl,(by first | rfl | simp only [zC,zF,zG]),‹_›,(by omega),(by omega),(by repeat' (first | assumption | exact Pt.nil _ | apply Pt.cons | apply Pt.app)),(by simp),(by repeat' (first | refine Int.max_le.2 ⟨?_,?_⟩ | omega)),(by intro e; cases e),(by intro x e; cases e)⟩ (by dsimp only; omega)
 rintro rec rec' b s s' ⟨q,zs,zs',ps,ps',j,td,sm,sg,rfl,rfl,rfl,hS1,hq1,hq2,hP1,hl1,hb,htd,hone⟩ hrec
 dsimp only
 repeat' ((first
  | exact z8
  | (refine yM (by simp only [zU,zC,zF,zG,List.length_append,List.length_cons,List.length_nil]) (by first | omega | (simp only [List.length_append,List.length_cons,List.length_nil]; omega)) ?_)
  | (refine hrec _ _ _ ⟨_,_,_,_,_,_,_,_,_,rfl,rfl,(by first | rfl | simp only [zC,zF,zG]),‹_›,(by omega),(by omega),(by repeat' (first | assumption | exact Pt.nil _ | apply Pt.cons | apply Pt.app)),(by first | omega | (simp only [List.length_append,List.length_cons,List.length_nil]; omega)),(by repeat' (first | refine Int.max_le.2 ⟨?_,?_⟩ | omega)),(by first | assumption | exact (fun _=>htd (by assumption)) | exact (fun e=>hW.td _ (by rw [xd] at e; exact of_decide_eq_true e))),(by first | assumption | exact zZ rfl | exact zc rfl | exact zd | exact zS | exact zj (by decide) ‹_› | exact zT ‹_› (by rfl) | exact za ‹_› (by rfl) | exact zl (Pt.ne ‹_› (by omega)) | (intro x e; simp at e))⟩ (by dsimp only; omega))
  | (refine J_recS hW _ (by omega) (by omega) (by decide) ?_)
  | (refine J_c33 hW _ (by omega) (by omega) (by decide) (by decide) ?_; intro t _; cases t)
  | (refine zIL ?_ ?_)
  | (refine zF0 ?_)
  | (refine zIP hW _ (by omega) (by omega) (by decide) ?_ ?_)
  | (refine zAI ?_ ?_)
  | (refine zAT hP hW ‹_› ?_)
  | (refine zAb hP hW ‹_› ?_)
  | (refine yI hP hW ‹_› ?_)
  | (refine zLR hP hW ‹_› (by omega) ?_ ?_)
  | (refine zKm hP hW ‹_› (by omega) (by omega) ?_ ?_)
  | (refine J_M hW h.h74 ‹_› (by omega) (by omega) ?_)
  | (refine J_M hW h.h75 ‹_› (by omega) (by omega) ?_)
  | (refine zu ‹_› (by repeat' (first | refine Int.max_le.2 ⟨?_,?_⟩ | omega)) ⟨(by first | assumption | exact Tr.mk (by repeat' (first | assumption | exact Pt.nil _ | apply Pt.cons | apply Pt.app)) (by omega) (by decide) (by first | assumption | exact zZ rfl | exact zc rfl | exact zd | exact zS | exact zj (by decide) ‹_› | exact zT ‹_› (by rfl) | exact za ‹_› (by rfl) | exact zl (Pt.ne ‹_› (by omega)) | (intro x e; simp at e))),(by first | rfl | (refine Eq.trans ?_ (zn _ _ _ (by decide)).symm; simp only [zC,zF,zG])),rfl,‹_›,rfl⟩)) <;> intros <;> (try dsimp only [cond_true,cond_false,Bool.not_true,Bool.not_false,zY,zX,zQ]))
end
section
open Go.Al Go.Den Go.RowKit
attribute [local congr] qt jY js kP qC ql xW xX jC jT qr j0 qv jA xP xj qk jz jr qR jV qw qP qQ qi qn qM qu qo qS kp jx jq jX jU jP qp qO qN
theorem zN8 (fu:Nat) (v2 v3:Value) (c37:Bool×Unit->MM (Nd×Unit)) (h37:CPOk CC Tryz.prog syn 37 (cM ([.bool]:LK) ([.st TI.node]:LK) c37)) {X:Cx} (hX:X.N=⟨28,[(2,v2),(3,v3)]⟩) {x:zA k17} {oc:Option (zA ([parK,ptsK]:LK))} (h:sh17 fu v2 v3 c37 x=some oc)
 {s0:S} {vx:List V} {rs:List Res} (hv:VKs CC s0 k17 x vx rs) (hn:rs.Nodup):awp Tryz.prog X zCr (zIH CC syn ([parK,ptsK]:LK) false [(2,v2),(3,v3)] [4,5] oc) (conE [(2,v2),(3,v3)] (zipE [0,4,5] vx)) s0:=by
 have e:run17 fu v2 v3 c37 x=some oc:=by rw [eq17]; exact h
 exact zG2 (fu:=fu) (d:=3) (inl:=zB [(36,fd36)]) (orc:=zB []) (orr:=zB [(38,jg)]) (orp:=zB [(37,cM ([.bool]:LK) ([.st TI.node]:LK) c37)]) (pf:=hasN []) (rf:=hasN [38]) yo CCok mixed (fun g=>(zL (α:=Con UU) (l:=[]) g).symm) (fun g=>(zL (α:=CR UU) (l:=[(38,jg)]) g).symm)
  (zE zHO zD) zD (zE ⟨zF7,ok38⟩ zD) (zE ⟨zOA,h37⟩ zD) (fi:=fd17.fi) (cs:=[(2,v2),(3,v3)]) (slots:=[0,4,5]) (oslots:=[4,5]) (by rw [hX]; kernel_rfl) (by kernel_rfl) e (by
   intro p hp
   have hd:dsts fd17.fi zCr=[16,17,18,19,20,21,22,23,24,25,26]:=by kernel_rfl
   rw [hd]
   simp only [List.mem_cons,List.not_mem_nil,or_false] at hp
   rcases hp with rfl | rfl
   · show (2:Nat) ∉ _; decide
   · show (3:Nat) ∉ _; decide) hv hn
set_option maxRecDepth 100000 in
set_option maxHeartbeats 1000000 in
theorem long17 (a:Option Addr) (n cap:Nat) (h:4000 < n) (w:World) :
 Calls Tryz.prog 17 #[.slice a n cap] w fun e w'=>e = .returned (.tuple #[.agg #[.int .i64 0,.int .i64 0,.slice none 0 0],.int .i64 2])/\Below w.heap.size w w':=by
 have h4:(4000:Int) < (n:Int):=by omega
 go_enter_defers Tryz.func17,Tryz.ntmps17
 go_wp2
 simp [bodyPostD,Leaves,results,Tryz.results17,go_sem]
 exact ((Below.refl _ w).alloc (Nat.le_refl _) _).alloc (by simp) _
def z18 (l:List Nd):zA k17c:=(show (Int×Int×List Nd×Unit)×(Int×Unit)×Unit from ((1,0,l,()),(0,()),()))
theorem zNC {X:Cx} (hX:X.N=⟨28,[]⟩) {x:zA k17b} {s0:S} {vx:List V} {rs:List Res} (hv:VKs CC s0 k17b x vx rs) (hn:rs.Nodup):awp Tryz.prog X rest17b (zIH CC syn k17c true [] [2,3] (some (z18 x.2.2.1.1))) (conE [] (zipE [2,3,5] vx)) s0:=by
 have e:zMu x=some (some (z18 x.2.2.1.1)):=by rw [eq17r]; rfl
 exact zG2 (fu:=0) (d:=2) (inl:=zB []) (orc:=zB []) (orr:=zB [(38,jg)]) (orp:=zB []) (pf:=hasN []) (rf:=hasN [38]) yo CCok mixed (fun g=>(zL (α:=Con UU) (l:=[]) g).symm) (fun g=>(zL (α:=CR UU) (l:=[(38,jg)]) g).symm)
  zD zD (zE ⟨zF7,ok38⟩ zD) zD (fi:=fd17.fi) (cs:=[]) (slots:=[2,3,5]) (oslots:=[2,3]) (by rw [hX]; kernel_rfl) (by kernel_rfl) e (by simp) hv hn
theorem inv17 {wm:Nat->Nat} {w W6:World} {toks:V} {u0:Value} {tm tn tp:TypeId} (hwm:∀ b,w.heap.size<=b->wm b=0) (hsz:W6.heap.size=w.heap.size+6)
 (h2:W6.heap[w.heap.size+2]? = some (.map #[] 0)) (h3:W6.heap[w.heap.size+3]? = some (.cells #[.map (some (w.heap.size+2))] tm (0,0)))
 (h4:W6.heap[w.heap.size+4]? = some (.cells #[u0,.int .i64 0,.slice (some ⟨w.heap.size+3,0,none⟩) 1 1,.map none] tn (0,0))) (h5:W6.heap[w.heap.size+5]? = some (.cells #[.slice none 0 0] tp (0,0)))
 (h1:toks.isOne=true) (hu:RC ⟨wm,fun t=>if t=0 then some none else none,Fr.no⟩ W6 toks [u0]) :
 Al.Inv (w.heap.size+2) ⟨wm,fun t=>if t=0 then some none else none,Fr.no⟩ ⟨[(w.heap.size+4,[toks,.at (.int .i64 0),.at (.slice (some ⟨w.heap.size+3,0,none⟩) 1 1),.at (.map none)],4),(w.heap.size+5,[.lst (.own 0 true 3) []],1)],[0],1,[(w.heap.size+3,.sc [[]] 1,[w.heap.size+3,w.heap.size+2])]⟩ W6:=by
 have hno:∀ (t:Nat) (d:Nat×Nat×Nat×Nat),(if t=0 then some (none:Option (Nat×Nat×Nat×Nat)) else none)=some (some d)->False:=fun t d h=>by
  by_cases e:t=0 <;> simp [e] at h
 have hlk:∀ b c,Al.look [(w.heap.size+4,[toks,.at (.int .i64 0),.at (.slice (some ⟨w.heap.size+3,0,none⟩) 1 1),.at (.map none)],4),(w.heap.size+5,[.lst (.own 0 true 3) []],1)] b=some c->(b=w.heap.size+4/\c=([toks,.at (.int .i64 0),.at (.slice (some ⟨w.heap.size+3,0,none⟩) 1 1),.at (.map none)],4))\/(b=w.heap.size+5/\c=([.lst (.own 0 true 3) []],1)):=fun b c h=>by
  by_cases e:w.heap.size+4=b
  · subst e; simp [Al.look] at h; exact .inl ⟨rfl,h.symm⟩
  · by_cases e2:w.heap.size+5=b
    · subst e2; simp [Al.look] at h; exact .inr ⟨rfl,h.symm⟩
    · simp [Al.look,e,e2] at h
 have hlo:∀ b o fp,zM [(w.heap.size+3,OV.sc [[]] 1,[w.heap.size+3,w.heap.size+2])] b=some (o,fp)->b=w.heap.size+3/\o = .sc [[]] 1/\fp=[w.heap.size+3,w.heap.size+2]:=fun b o fp h=>by
  rw [z7] at h
  by_cases e:w.heap.size+3=b
  · rw [if_pos e] at h; injection h with h; obtain ⟨h1,h2⟩:=Prod.mk.inj h; exact ⟨e.symm,h1.symm,h2.symm⟩
  · rw [if_neg e] at h; cases h
 refine ⟨by omega,fun b cs k h=>?_,fun t ht=>?_,fun t ht b cap n sz h=>(hno t _ h).elim,fun t ht t' ht' b x y h=>(hno t _ h).elim,by simp,fun b hb=>hwm b (by omega),fun t ht=>?_,fun b hb=>(by cases hb),fun b o fp h=>?_,fun b o fp b' o' fp' j h h' _ _=>(hlo b _ _ h).1.trans (hlo b' _ _ h').1.symm,fun t ht=>(by cases ht)⟩
 · rcases hlk b _ h with ⟨rfl,e⟩ | ⟨rfl,e⟩
   · obtain ⟨rfl,rfl⟩:=Prod.mk.inj e
     refine ⟨by omega,hwm _ (by omega),Nat.le_refl _,fun c hc=>(by simp at hc; rcases hc with rfl | rfl | rfl | rfl <;> first | exact h1 | rfl),_,_,_,h4,rfl,?_,rfl⟩
     simp only [RCs]
     exact ⟨[u0],_,rfl,hu,[_],_,rfl,by simp [RC,one],[_],_,rfl,by simp [RC,one],[_],_,rfl,by simp [RC,one],rfl⟩
   · obtain ⟨rfl,rfl⟩:=Prod.mk.inj e
     refine ⟨by omega,hwm _ (by omega),Nat.le_refl _,by simp [V.isOne],_,_,[.slice none 0 0],h5,rfl,?_,rfl⟩
     simp only [RCs,RC]
     exact ⟨_,[],rfl,.inl ⟨trivial,rfl,rfl,rfl⟩,rfl⟩
 · simp only [List.mem_singleton] at ht; subst ht; exact ⟨none,rfl⟩
 · show (if t=0 then _ else _)=_
   rw [if_neg (by show t≠0; have:1<=t:=ht; omega)]
 · obtain ⟨rfl,rfl,rfl⟩:=hlo b o fp h
   refine ⟨⟨[w.heap.size+2],_,_,rfl,by simp,h3,rfl,Nat.le_refl _,rfl,⟨[],[],rfl,⟨_,_,h2,rfl⟩,rfl⟩⟩,by simp,fun j hj=>?_⟩
   simp only [List.mem_cons,List.not_mem_nil,or_false] at hj
   refine ⟨by rcases hj with rfl | rfl <;> omega,by rcases hj with rfl | rfl <;> omega,hwm j (by rcases hj with rfl | rfl <;> omega),?_,fun t ht d hd=>hno t _ hd,rfl⟩
   cases e:Al.look [(w.heap.size+4,[toks,.at (.int .i64 0),.at (.slice (some ⟨w.heap.size+3,0,none⟩) 1 1),.at (.map none)],4),(w.heap.size+5,[.lst (.own 0 true 3) []],1)] j with
   | none=>rfl
   | some c=>rcases hlk j c e with ⟨e1,_⟩ | ⟨e1,_⟩ <;> rcases hj with rfl | rfl <;> omega
end
section
open Go.Al Go.Den Go.RowKit
attribute [local congr] qt jY js kP qC ql xW xX jC jT qr j0 qv jA xP xj qk jz jr qR jV qw qP qQ qi qn qM qu qo qS kp jx jq jX jU jP qp qO qN
theorem Inv.lower {B B':Nat} {g:Gh} {st:S} {w:World} (h:Al.Inv B g st w) (hB:B'<=B):Al.Inv B' g st w:=
 ⟨Nat.le_trans hB h.base,fun b cs k hb=>let ⟨q1,q⟩:=h.box b cs k hb; ⟨Nat.le_trans hB q1,q⟩,h.tag,fun t ht b cap n sz hb=>let ⟨q1,q⟩:=h.own t ht b cap n sz hb; ⟨Nat.le_trans hB q1,q⟩,h.dist,h.nodup,h.fresh,h.names,
  h.ex.frz,fun b o fp hl=>let ⟨q1,q2,q3⟩:=h.ex.ob b o fp hl; ⟨q1,q2,fun j hj=>let ⟨r1,r⟩:=q3 j hj; ⟨Nat.le_trans hB r1,r⟩⟩,h.ex.obd,h.ex.ft⟩
abbrev pv (n:Nat):Value:=.pointer (some ⟨n,0,none⟩)
abbrev zEy (n:Nat):List Deferred:=[{ target:=.fn (.func 35) #[pv n,pv (n+1)],args:=#[] }]
theorem inv35 (n:Nat) (W:World):(invoke (.fn (.func 35) #[pv n,pv (n+1)]) #[]).run Tryz.prog W = .ok (.enter 35 #[pv n,pv (n+1)]) W:=by kernel_rfl
set_option maxHeartbeats 1000000 in
theorem zNI {k0:SK UU} {n:Nat} {g:Gh} {a:Act} {W:World} {e:Env} {s:S} (h2:Rel ⟨n+2,⟨28,[(2,pv n),(3,pv (n+1))]⟩,none,zEy n⟩ g e s a W) {y:zA ([k0,ptsK]:LK)}
 (hq:QEnd CC ([k0,ptsK]:LK) [(2,pv n),(3,pv (n+1))] [4,5] (some y) e s) (hn:W.heap[n]? = some (.cells #[.int .i64 0,.int .i64 0,.slice none 0 0] 29 (0,0))) (hn1:W.heap[n+1]? = some (.cells #[.int .i64 0] 30 (0,0)))
 (hw0:g.wm n=0) (hw1:g.wm (n+1)=0) (hgl:GlobOk n g.wm W) (hfr:g.fr=Fr.no) {R:Ending->World->Prop}
 (hR:∀ g' W' v,Step n g W g' W'->(∀ b,W'.heap.size<=b->g'.wm b=0)->RV g'.bare W' (.tup [z6 (Nd.mk 1 0 y.2.1.1),.at (.int .i64 0)]) v->R (.returned v) W') :
 rest17b.wp Tryz.prog (bodyPostD Tryz.prog Tryz.f17 R) a W:=by
 obtain ⟨hc,y',hy,q,hv,hnd⟩:=hq
 injection hy with hy
 subst hy
 simp only [List.map_cons,List.map_nil] at hv
 obtain ⟨v4,vs4,r4,r4',e4,rfl,k4,hv⟩:=hv
 obtain ⟨v5,vs5,r5,r5',e5,rfl,k5,hv⟩:=hv
 obtain ⟨rfl,rfl⟩:=hv
 subst e5
 injection e4 with e4 e4'
 injection e4' with e5 _
 obtain ⟨b,vs,rs',rfl,hl5,hv5,rfl⟩:=k5
 obtain ⟨vo,_,_,_,rfl,rfl,⟨m,rfl,hm1,hm2,rfl⟩,rfl,rfl⟩:=hv5
 have i0:=Inv.lower h2.inv (Nat.le_add_right n 2)
 have hlk:∀ b c,Al.look s.box b=some c->n+2<=b:=fun b c h=>(h2.inv.box b c.1 c.2 h).1
 have hno:∀ j,j < n+2->∀ t ∈ s.tg,∀ d,g.tb t=some (some (j,d))->False:=fun j hj t ht d hd=>by
  obtain ⟨cap,n',sz⟩:=d
  have:=(h2.inv.own t ht j cap n' sz hd).1
  simp only at this
  omega
 have hob:∀ j,j < n+2->∀ b' o fp,zM s.ob b' = some (o,fp)->j ∉ fp:=fun j hj b' o fp h hm=>by
  have:=((h2.inv.ex.ob b' o fp h).2.2 j hm).1
  simp only at this
  omega
 have i1:=i0.addBox (b:=n) (cs:=[.at (.int .i64 0),.at (.int .i64 0),.lst .nil []]) (us:=[.int .i64 0,.int .i64 0,.slice none 0 0]) (Nat.le_refl _) hw0 hn (by simp) (by simp [V.isOne])
  (by simp only [RCs,RC]; exact ⟨[_],_,rfl,⟨rfl,rfl⟩,[_],_,rfl,⟨rfl,rfl⟩,[_],[],rfl,.inl ⟨trivial,rfl,trivial⟩,rfl⟩) rfl (hno n (by omega)) (by rw [hfr]; rfl) (hob n (by omega))
 have i2:=i1.addBox (b:=n+1) (cs:=[.at (.int .i64 0)]) (us:=[.int .i64 0]) (Nat.le_succ _) hw1 hn1 (by simp) (by simp [V.isOne])
  (by simp only [RCs,RC]; exact ⟨[_],[],rfl,⟨rfl,rfl⟩,rfl⟩) rfl (hno (n+1) (by omega)) (by rw [hfr]; rfl) (hob (n+1) (by omega))
 have r2:Rel ⟨n,⟨28,[]⟩,none,zEy n⟩ g (conE [] (zipE [2,3,5] [.at (pv n),.at (pv (n+1)),.at (pv b)])) _ a W:=⟨i2,fun k=>by
  rcases (Env.sub_of e [(2,.at (pv n)),(3,.at (pv (n+1))),(5,.at (pv b))] (fun p hp=>by
   simp only [List.mem_cons,List.not_mem_nil,or_false] at hp
   rcases hp with rfl | rfl | rfl
   · exact hc (2,pv n) (by simp)
   · exact hc (3,pv (n+1)) (by simp)
   · exact e5)) k with hk | hk
  · show RV g W (Env.get [(2,.at (pv n)),(3,.at (pv (n+1))),(5,.at (pv b))] k) _
    rw [hk]
    exact h2.env k
  · show RV g W (Env.get [(2,.at (pv n)),(3,.at (pv (n+1))),(5,.at (pv b))] k) _
    rw [hk]
    trivial,⟨h2.size.1,by simp⟩,h2.df,hgl⟩
 have hb5:=hlk _ _ hl5
 have hV:VKs CC ⟨lay (lay s.box n ([.at (.int .i64 0),.at (.int .i64 0),.lst .nil []],3)) (n+1) ([.at (.int .i64 0)],1),s.tg,s.nx,s.ob⟩ k17b (show (Int×Int×List Nd×Unit)×(Int×Unit)×(List Nd×Unit)×Unit from ((0,0,[],()),(0,()),(y.2.1.1,()),())) [.at (pv n),.at (pv (n+1)),.at (pv b)] [.inr n,.inr (n+1),.inr b,.inl m]:=
  ⟨_,_,[.inr n],[.inr (n+1),.inr b,.inl m],rfl,rfl,⟨n,_,[],rfl,by simp only [zW,if_neg (show ¬ n+1=n by omega),if_true]; rfl,⟨_,_,[],[],rfl,rfl,⟨rfl,rfl⟩,_,_,[],[],rfl,rfl,⟨rfl,rfl⟩,_,_,[],[],rfl,rfl,⟨rfl,rfl⟩,rfl,rfl⟩,rfl⟩,
   _,_,[.inr (n+1)],[.inr b,.inl m],rfl,rfl,⟨n+1,_,[],rfl,by simp only [zW,if_true]; rfl,⟨_,_,[],[],rfl,rfl,⟨rfl,rfl⟩,rfl,rfl⟩,rfl⟩,
   _,_,[.inr b,.inl m],[],rfl,rfl,⟨b,_,[.inl m],rfl,by simp only [zW,if_neg (show ¬ n+1=b by omega),if_neg (show ¬ n=b by omega)]; exact hl5,⟨_,_,[.inl m],[],rfl,rfl,⟨m,rfl,hm1,hm2,rfl⟩,rfl,rfl⟩,rfl⟩,rfl,rfl⟩
 have H:=zNC (X:=⟨n,⟨28,[]⟩,none,zEy n⟩) rfl hV (by simp; omega) g a W r2
 refine wpIn_wide.1 (wpIn_mono H ?_)
 rintro ex a3 W3 ⟨g3,e3,s3,k1,k2,k3⟩
 have fin:QEnd CC k17c [] [2,3] (some (z18 y.2.1.1)) e3 s3->Leaves Tryz.prog Tryz.f17 a3.tmps R a3.defers .returning W3:=by
  rintro ⟨_,y',hy,q,hv,hnd⟩
  injection hy with hy
  subst hy
  obtain ⟨v2,vs2,_,_,e2,rfl,⟨b2,cs2,_,rfl,hl2,hv2,rfl⟩,hv⟩:=hv
  obtain ⟨v3,vs3,_,_,e3',rfl,⟨b3,cs3,_,rfl,hl3,hv3,rfl⟩,rfl,rfl⟩:=hv
  subst e3'
  obtain ⟨_,_,_,_,rfl,rfl,⟨rfl,rfl⟩,_,_,_,_,rfl,rfl,⟨rfl,rfl⟩,_,_,_,_,rfl,rfl,⟨rfl,rfl⟩,rfl,rfl⟩:=hv2
  obtain ⟨_,_,_,_,rfl,rfl,⟨rfl,rfl⟩,rfl,rfl⟩:=hv3
  injection e2 with e2 e2'
  injection e2' with e3' _
  rw [k2.df]
  refine leaves_cons (f:=35) (args:=#[pv n,pv (n+1)]) (by simp) (inv35 n W3) (CallsD.mono (idle35 ⟨n,0,none⟩ ⟨n+1,0,none⟩ W3) ?_)
  rintro en u' w' ⟨rfl,rfl,rfl⟩
  have hres:yl Tryz.prog [.cell 2 29,.cell 3 30] e3 s3 fun xs=>xs=[z6 (Nd.mk 1 0 y.2.1.1),.at (.int .i64 0)]:=by
   simp only [yl,xQ,e2,e3',hl2,hl3,yh,yV,zEa,hasT30,zBx,zQR,zD6,aggT30]
   refine ⟨⟨trivial,by simp,by simp⟩,by simp [V.flat,zb,zK,V.isOne],⟨trivial,by simp,by simp⟩,by simp [V.flat,zK,V.isOne],?_⟩
   have e1:z6 (Nd.mk 1 0 y.2.1.1) = .agg [.at (.int .i64 1),.at (.int .i64 0),.lst (zk (y.2.1.1.map (CC.encV TI.node))) (y.2.1.1.map (CC.encV TI.node))]:=kT 1 0 (show List Nd from y.2.1.1)
   have e2:=CCok.untag TI.node (Nd.mk 1 0 y.2.1.1)
   change (z6 (Nd.mk 1 0 y.2.1.1)).untag=z6 (Nd.mk 1 0 y.2.1.1) at e2
   simp only [if_true,Bool.false_eq_true,if_false]
   show [Al.V.untag (.agg [.at (.int .i64 1),.at (.int .i64 0),.lst (zk (y.2.1.1.map (CC.encV TI.node))) (y.2.1.1.map (CC.encV TI.node))]),Al.V.untag (.at (.int .i64 0))]=_
   rw [<- e1,e2]
   rfl
  obtain ⟨xs,us,rfl,j2,j3⟩:=j8 hres k2
  have hrs:Tryz.f17.results.toList=[.cell 2 29,.cell 3 30]:=by rw [Tryz.results17]
  refine ⟨_,kE (by rw [hrs]; exact j3),hR g3 _ _ k1 k2.inv.fresh (zDA j2)⟩
 cases ex with
 | normal=>exact fin k3
 | ret=>exact fin k3.2
 | exit id=>cases k3.1.2
 | panic c=>cases k3.2
 | goto l=>exact k3.elim
 | outgrown=>exact k3.elim
end
section
open Go.Al Go.Den Go.RowKit
attribute [local congr] qt jY js kP qC ql xW xX jC jT qr j0 qv jA xP xj qk jz jr qR jV qw qP qQ qi qn qM qu qo qS kp jx jq jX jU jP qp qO qN
set_option maxHeartbeats 1000000 in
theorem bad17 {n:Nat} {a:Act} {W:World} (ht2:a.tmps.getD 2 undef=pv n) (ht3:a.tmps.getD 3 undef=pv (n+1)) (hdf:a.defers=zEy n)
 (hn:W.heap[n]? = some (.cells #[.int .i64 0,.int .i64 0,.slice none 0 0] 29 (0,0))) (hn1:W.heap[n+1]? = some (.cells #[.int .i64 0] 30 (0,0))) {R:Ending->World->Prop}
 (hR:∀ W',W.heap.size<=W'.heap.size->(∀ j,j < W.heap.size->j≠n->j≠n+1->W'.heap[j]? = W.heap[j]?)->W'.os=W.os->W'.tape=W.tape->W'.output=W.output->R (.returned (.tuple #[.agg #[.int .i64 0,.int .i64 0,.slice none 0 0],.int .i64 160])) W') :
 Leaves Tryz.prog Tryz.f17 a.tmps R a.defers (.panicking syn) W:=by
 rw [hdf]
 refine leaves_cons (f:=35) (args:=#[pv n,pv (n+1)]) (by simp) (inv35 n W) (CallsD.mono (syn35 n (n+1) _ _ _ _ _ _ [] W hn hn1 (by omega)) ?_)
 rintro en u' w' ⟨rfl,rfl,q1,q2,q3,q4,q5,q6,q7⟩
 have hrs:Tryz.f17.results.toList=[.cell 2 29,.cell 3 30]:=by rw [Tryz.results17]
 refine ⟨_,kE (us:=[.agg #[.int .i64 0,.int .i64 0,.slice none 0 0],.int .i64 160]) ?_,hR w' q1 q4 q5 q6 q7⟩
 rw [hrs]
 have c0:w'.cell? ⟨n,0,none⟩=some (.int .i64 0):=by simp [World.cell?,q2]
 have c1:w'.cell? ⟨n,1,none⟩=some (.int .i64 0):=by simp [World.cell?,q2]
 have c2:w'.cell? ⟨n,2,none⟩=some (.slice none 0 0):=by simp [World.cell?,q2]
 have c3:w'.cell? ⟨n+1,0,none⟩=some (.int .i64 160):=by simp [World.cell?,q3]
 simp [zAN,ht2,ht3,go_sem,c0,c1,c2,c3]
theorem six (w:World) (o0 o1 o2 o3 o4 o5:Obj) {W6:World} (h:((((((w.alloc o0).alloc o1).alloc o2).alloc o3).alloc o4).alloc o5)=W6) :
 W6.heap.size=w.heap.size+6/\W6.heap[w.heap.size]? = some o0/\W6.heap[w.heap.size+1]? = some o1/\W6.heap[w.heap.size+2]? = some o2/\W6.heap[w.heap.size+3]? = some o3/\W6.heap[w.heap.size+4]? = some o4/\W6.heap[w.heap.size+5]? = some o5:=by
 have e:W6.heap=(((((w.heap.push o0).push o1).push o2).push o3).push o4).push o5:=by rw [<- h]; rfl
 rw [e]
 generalize w.heap=H
 have L:∀ (A:Array Obj) (x:Obj) (i:Nat),i < A.size->(A.push x)[i]? = A[i]?:=fun A x i h=>by simp [Array.getElem?_push,Nat.ne_of_lt h]
 have N:∀ (A:Array Obj) (x:Obj) (i:Nat),i=A.size->(A.push x)[i]? = some x:=fun A x i h=>by subst h; simp
 refine ⟨by simp,?_,?_,?_,?_,?_,?_⟩ <;> (repeat rw [L _ _ _ (by simp only [Array.size_push]; omega)]) <;> exact N _ _ _ (by simp [Array.size_push])
abbrev x17 (l:List TokT):zA k17:=(show List TokT×ParT×NdsT×Unit from (l,(l,0,[[]],(),()),([],()),()))
def ans17:Option (ParT×NdsT×Unit)->V
 | none=>.tup [z6 (Nd.mk 0 0 []),.at (.int .i64 160)]
 | some y=>.tup [z6 (Nd.mk 1 0 y.2.1.1),.at (.int .i64 0)]
set_option maxRecDepth 100000 in
set_option maxHeartbeats 2000000 in
theorem zQL (fu:Nat) (c37:Bool×Unit->MM (Nd×Unit)) (h37:CPOk CC Tryz.prog syn 37 (cM ([.bool]:LK) ([.st TI.node]:LK) c37)) {l:List TokT} {oc:Option (ParT×NdsT×Unit)} (hlen:l.length<=4000)
 (hoc:sh17 fu (.int .i64 0) (.int .i64 0) c37 (x17 l)=some oc) (a:Option Addr) (cap:Nat) (wm:Nat->Nat) (w:World) (hwm:∀ b,w.heap.size<=b->wm b=0) (hgl:GlobOk w.heap.size wm w)
 (hu:RC ⟨wm,fun _=>none,Fr.no⟩ w (.lst (zk (l.map (CC.encV TI.tok))) (l.map (CC.encV TI.tok))) [.slice a l.length cap]) :
 Calls Tryz.prog 17 #[.slice a l.length cap] w fun e w'=>∃ v wm',e = .returned v/\(∀ b,w'.heap.size<=b->wm' b=0)/\Step w.heap.size ⟨wm,fun _=>none,Fr.no⟩ w ⟨wm',fun _=>none,Fr.no⟩ w'/\RV ⟨wm',fun _=>none,Fr.no⟩ w' (ans17 oc) v:=by
 have h4:¬ ((4000:Int) < (l.length:Int)):=by omega
 have hmf:∀ fn first cap w,(Instr.makeFunc fn first cap).run Tryz.prog w = .ok (.func fn first cap) w:=fun _ _ _ _=>rfl
 have hmk:∀ w,(Instr.makeMap 63 none).run Tryz.prog w = .ok (.map (some w.heap.size)) (w.alloc (.map #[] 0)):=fun _=>by kernel_rfl
 go_enter_defers Tryz.func17,Tryz.ntmps17
 go_wp2
 rename_i hle K hK
 have B0:Below w.heap.size w ((((((w.alloc (.cells #[.int .i64 0,.int .i64 0,.slice none 0 0] 29)).alloc (.cells #[.int .i64 0] 30)).alloc (.map #[] 0)).alloc (.cells #[.map (some (w.heap.size+1+1))] 63)).alloc
  (.cells #[.slice a l.length cap,.int .i64 0,.slice (some ⟨w.heap.size+1+1+1,0,none⟩) 1 1,.map none] 66)).alloc (.cells #[.slice none 0 0] 68)):=
  ((((((Below.refl _ w).alloc (Nat.le_refl _) _).alloc (by simp) _).alloc (by simp; omega) _).alloc (by simp; omega) _).alloc (by simp; omega) _).alloc (by simp; omega) _
 obtain ⟨W6,hW6⟩:∃ W6,((((((w.alloc (.cells #[.int .i64 0,.int .i64 0,.slice none 0 0] 29)).alloc (.cells #[.int .i64 0] 30)).alloc (.map #[] 0)).alloc (.cells #[.map (some (w.heap.size+1+1))] 63)).alloc
  (.cells #[.slice a l.length cap,.int .i64 0,.slice (some ⟨w.heap.size+1+1+1,0,none⟩) 1 1,.map none] 66)).alloc (.cells #[.slice none 0 0] 68))=W6:=⟨_,rfl⟩
 obtain ⟨hsz,q0,q1,q2,q3,q4,q5⟩:=six w _ _ _ _ _ _ hW6
 rw [hW6] at B0 ⊢
 have hL:Later ⟨wm,fun _=>none,Fr.no⟩ w ⟨wm,fun t=>if t=0 then some none else none,Fr.no⟩ W6:=⟨fun _=>Nat.le_refl _,(fun _ _ e=>(by cases e)),fun b o ho=>World.cell?_of_block (B0.block b (by
  rcases Nat.lt_or_ge b w.heap.size with hh | hh
  · exact hh
  · replace ho:o < wm b:=ho; rw [hwm b hh] at ho; omega))⟩
 have hu':=zBG hL _ _ hu
 have i0:=inv17 (toks:=.lst (zk (l.map (CC.encV TI.tok))) (l.map (CC.encV TI.tok))) hwm hsz q2 q3 q4 q5 rfl hu'
 have hV:VKs CC ⟨[(w.heap.size+4,[.lst (zk (l.map (CC.encV TI.tok))) (l.map (CC.encV TI.tok)),.at (.int .i64 0),.at (.slice (some ⟨w.heap.size+3,0,none⟩) 1 1),.at (.map none)],4),(w.heap.size+5,[.lst (.own 0 true 3) []],1)],[0],1,[(w.heap.size+3,.sc [[]] 1,[w.heap.size+3,w.heap.size+2])]⟩
  k17 (x17 l) [.lst (zk (l.map (CC.encV TI.tok))) (l.map (CC.encV TI.tok)),.at (pv (w.heap.size+4)),.at (pv (w.heap.size+5))] [.inr (w.heap.size+4),.ob (w.heap.size+3),.inr (w.heap.size+5),.inl 0]:=
  ⟨_,_,[],_,rfl,rfl,⟨rfl,rfl⟩,_,_,[.inr (w.heap.size+4),.ob (w.heap.size+3)],[.inr (w.heap.size+5),.inl 0],rfl,rfl,⟨_,_,[.ob (w.heap.size+3)],rfl,by simp [Al.look],
   ⟨_,_,[],[.ob (w.heap.size+3)],rfl,rfl,⟨rfl,rfl⟩,_,_,[],[.ob (w.heap.size+3)],rfl,rfl,⟨rfl,rfl⟩,_,_,[.ob (w.heap.size+3)],[],rfl,rfl,⟨w.heap.size+3,1,_,rfl,by rw [z7,if_pos rfl]; rfl,rfl⟩,_,_,[],[],rfl,rfl,⟨⟨none,rfl⟩,rfl⟩,rfl,rfl⟩,rfl⟩,
   _,_,[.inr (w.heap.size+5),.inl 0],[],rfl,rfl,⟨_,[.lst (.own 0 true 3) []],[.inl 0],rfl,by simp [Al.look],⟨_,_,[.inl 0],[],rfl,rfl,⟨0,rfl,by simp,by simp,rfl⟩,rfl,rfl⟩,rfl⟩,rfl,rfl⟩
 have H:=zN8 fu (pv w.heap.size) (pv (w.heap.size+1)) c37 h37 (X:=⟨w.heap.size+2,⟨28,[(2,pv w.heap.size),(3,pv (w.heap.size+1))]⟩,none,zEy w.heap.size⟩) rfl (x:=x17 l) (oc:=oc) hoc hV (by simp)
 refine wpIn_wide.1 (wpIn_mono (H ⟨wm,fun t=>if t=0 then some none else none,Fr.no⟩ _ W6 ⟨i0,fun k=>?_,⟨rfl,fun p hp=>?_⟩,rfl,(hgl.below B0 fun _=>Nat.le_refl _).mono (Nat.le_add_right _ 2)⟩) ?_)
 · have hat:∀ v:Value,one v=true->RV ⟨wm,fun t=>if t=0 then some none else none,Fr.no⟩ W6 (.at v) v:=fun v hv=>RV.of_RV1 ⟨[v],by simp [RC,hv],rfl⟩
   show RV _ _ (Env.get [(2,.at (pv w.heap.size)),(3,.at (pv (w.heap.size+1))),(0,.lst (zk (l.map (CC.encV TI.tok))) (l.map (CC.encV TI.tok))),(4,.at (pv (w.heap.size+4))),(5,.at (pv (w.heap.size+5)))] k) _
   simp only [Env.get]
   split
   · rename_i e; subst e; exact hat _ rfl
   split
   · rename_i e; subst e; exact hat _ rfl
   split
   · rename_i e; subst e; exact RV.of_RV1 ⟨_,hu',rfl⟩
   split
   · rename_i e; subst e; exact hat _ rfl
   split
   · rename_i e; subst e; exact hat _ rfl
   trivial
 · simp only [List.mem_cons,List.not_mem_nil,or_false] at hp
   rcases hp with rfl | rfl <;> rfl
 · rintro ex a' w' ⟨g',e',s',k1,k2,k3⟩
   have S1:Step w.heap.size ⟨wm,fun t=>if t=0 then some none else none,Fr.no⟩ W6 g' w':=⟨k1.later,k1.below.mono (Nat.le_add_right _ 2),k1.fz,fun b hb=>k1.wmB b (Nat.lt_of_lt_of_le hb (Nat.le_add_right _ 2)),k1.fr⟩
   have p0:w'.heap[w.heap.size]? = _:=(k1.below.block _ (by show w.heap.size < w.heap.size+2; omega)).trans q0
   have p1:w'.heap[w.heap.size+1]? = _:=(k1.below.block _ (by show w.heap.size+1 < w.heap.size+2; omega)).trans q1
   have hw0:g'.wm w.heap.size=0:=(k1.wmB _ (by show w.heap.size < w.heap.size+2; omega)).trans (hwm _ (Nat.le_refl _))
   have hw1:g'.wm (w.heap.size+1)=0:=(k1.wmB _ (by show w.heap.size+1 < w.heap.size+2; omega)).trans (hwm _ (Nat.le_succ _))
   have hg':GlobOk w.heap.size g'.wm w':=hgl.below (B0.trans S1.below) fun b=>k1.later.wm b
   have all:∀ g2 W2,Step w.heap.size ⟨wm,fun t=>if t=0 then some none else none,Fr.no⟩ W6 g2 W2->Step w.heap.size ⟨wm,fun _=>none,Fr.no⟩ w ⟨g2.wm,fun _=>none,Fr.no⟩ W2:=fun g2 W2 S2=>
    ⟨⟨S2.later.wm,(fun _ _ e=>(by cases e)),fun b o ho=>(S2.later.cell b o ho).trans (hL.cell b o ho)⟩,B0.trans S2.below,(fun b hb=>by cases hb),S2.wmB,rfl⟩
   have good:QEnd CC ([parK,ptsK]:LK) [(2,pv w.heap.size),(3,pv (w.heap.size+1))] [4,5] oc e' s'->K a' w':=by
    rintro ⟨m1,y,rfl,m2⟩
    refine hK a' w' (zNI k2 ⟨m1,y,rfl,m2⟩ p0 p1 hw0 hw1 hg' k1.fr fun g2 W2 v r1 r2 r3=>?_)
    exact ⟨v,g2.wm,rfl,r2,all g2 W2 (S1.trans r1),RV.fr _ _ r3⟩
   cases ex with
   | normal=>exact good k3
   | ret=>cases k3.1
   | exit id=>
    obtain ⟨⟨rfl,_⟩,k3⟩:=k3
    exact good k3
   | panic c=>
    obtain ⟨rfl,rfl⟩:=k3
    refine bad17 (k2.size.2 (2,pv w.heap.size) (by simp)) (k2.size.2 (3,pv (w.heap.size+1)) (by simp)) k2.df p0 p1 fun W2 r1 r2 r3 r4 r5=>?_
    have hL2:Later g' w' g' W2:=⟨fun _=>Nat.le_refl _,fun _ _ e=>e,fun b o ho=>World.cell?_of_block (r2 b (by
     rcases Nat.lt_or_ge b w'.heap.size with hh | hh
     · exact hh
     · rw [k2.inv.fresh b hh] at ho; omega) (fun e=>by subst e; rw [hw0] at ho; omega) (fun e=>by subst e; rw [hw1] at ho; omega))⟩
    have hb:Below w.heap.size w' W2:=⟨r3,r4,r5,r1,fun k hk=>r2 k (by have:=(B0.trans S1.below).size; omega) (by omega) (by omega)⟩
    refine ⟨_,g'.wm,rfl,fun b hb=>k2.inv.fresh b (Nat.le_trans r1 hb),all g' W2 (S1.trans ⟨hL2,hb,fun b hb=>(by rw [k1.fr] at hb; cases hb),fun _ _=>rfl,rfl⟩),?_⟩
    refine zDA (xs:=[z6 (Nd.mk 0 0 []),.at (.int .i64 160)]) (us:=[.agg #[.int .i64 0,.int .i64 0,.slice none 0 0],.int .i64 160]) (.cons ⟨[.int .i64 0,.int .i64 0,.slice none 0 0],?_,rfl⟩ (.cons ⟨[.int .i64 160],?_,rfl⟩ .nil))
    · rw [kT]
      simp only [RC,RCs,vi,sl]
      exact ⟨[_],_,rfl,⟨rfl,rfl⟩,[_],_,rfl,⟨rfl,rfl⟩,[_],[],rfl,.inl ⟨rfl,rfl,trivial⟩,rfl⟩
    · simp only [RC]
      exact ⟨trivial,rfl⟩
   | goto l=>exact k3.elim
   | outgrown=>exact k3.elim
theorem zKe {l:List TokT} (hl:4000 < l.length):xz Tryz.prog 17 [.lst (zk (l.map (CC.encV TI.tok))) (l.map (CC.encV TI.tok))] (.tup [z6 (Nd.mk 0 0 []),.at (.int .i64 2)]):=by
 intro wm w vs hwm hgl hv
 obtain ⟨v,rfl⟩:∃ v,vs=[v]:=by cases hv with | cons _ hv=>cases hv; exact ⟨_,rfl⟩
 cases hv with
 | cons h _=>
  obtain ⟨us,h1,h2⟩:=h
  have hml:(l.map (CC.encV TI.tok)).length=l.length:=List.length_map _
  obtain ⟨a,cap,rfl⟩:∃ a cap,v = .slice a l.length cap:=by
   simp only [RC] at h1
   rcases h1 with ⟨e,rfl,_⟩ | ⟨b,o,cap,ds,rfl,_⟩
   · have:l=[]:=List.map_eq_nil_iff.1 e
     subst this
     simp at hl
   · exact ⟨some ⟨b,o,none⟩,cap,h2.trans (congrArg (fun n=>Value.slice (some ⟨b,o,none⟩) n cap) hml)⟩
  refine Calls.mono (long17 a l.length cap hl w) ?_
  rintro e w' ⟨rfl,hb⟩
  have hL:Later ⟨wm,fun _=>none,Fr.no⟩ w ⟨wm,fun _=>none,Fr.no⟩ w':=⟨fun _=>Nat.le_refl _,fun _ _ e=>e,fun b o ho=>World.cell?_of_block (hb.block b (by
   rcases Nat.lt_or_ge b w.heap.size with hh | hh
   · exact hh
   · replace ho:o < wm b:=ho; rw [hwm b hh] at ho; omega))⟩
  refine ⟨_,wm,rfl,fun b hh=>hwm b (Nat.le_trans hb.size hh),⟨hL,hb,(fun b hb=>by cases hb),fun _ _=>rfl,rfl⟩,?_⟩
  refine zDA (xs:=[z6 (Nd.mk 0 0 []),.at (.int .i64 2)]) (us:=[.agg #[.int .i64 0,.int .i64 0,.slice none 0 0],.int .i64 2]) (.cons ⟨[.int .i64 0,.int .i64 0,.slice none 0 0],?_,rfl⟩ (.cons ⟨[.int .i64 2],?_,rfl⟩ .nil))
  · rw [kT]
    simp only [RC,RCs,vi,sl]
    exact ⟨[_],_,rfl,⟨rfl,rfl⟩,[_],_,rfl,⟨rfl,rfl⟩,[_],[],rfl,.inl ⟨rfl,rfl,trivial⟩,rfl⟩
  · simp only [RC]
    exact ⟨trivial,rfl⟩
theorem pure17 (fu:Nat) (c37:Bool×Unit->MM (Nd×Unit)) (h37:CPOk CC Tryz.prog syn 37 (cM ([.bool]:LK) ([.st TI.node]:LK) c37)) {l:List TokT} {oc:Option (ParT×NdsT×Unit)} (hlen:l.length<=4000)
 (hoc:sh17 fu (.int .i64 0) (.int .i64 0) c37 (x17 l)=some oc):xz Tryz.prog 17 [.lst (zk (l.map (CC.encV TI.tok))) (l.map (CC.encV TI.tok))] (ans17 oc):=by
 intro wm w vs hwm hgl hv
 obtain ⟨v,rfl⟩:∃ v,vs=[v]:=by cases hv with | cons _ hv=>cases hv; exact ⟨_,rfl⟩
 cases hv with
 | cons h _=>
  obtain ⟨us,h1,h2⟩:=h
  have hml:(l.map (CC.encV TI.tok)).length=l.length:=List.length_map _
  obtain ⟨a,cap,rfl,rfl⟩:∃ a cap,v = .slice a l.length cap/\us=[.slice a l.length cap]:=by
   have h1':=h1
   simp only [RC] at h1
   rcases h1 with ⟨e,rfl,_⟩ | ⟨b,o,cap,ds,rfl,_⟩
   · have:l=[]:=List.map_eq_nil_iff.1 e
     subst this
     exact ⟨none,0,by rw [h2]; simp [pack],rfl⟩
   · exact ⟨some ⟨b,o,none⟩,cap,h2.trans (congrArg (fun n=>Value.slice (some ⟨b,o,none⟩) n cap) hml),congrArg (fun n=>[Value.slice (some ⟨b,o,none⟩) n cap]) hml⟩
  exact zQL fu c37 h37 hlen hoc a cap wm w hwm hgl h1
end
section
open Go.Al Go.Den
def cv17:Option (ParT×NdsT×Unit)->Nd×Int×Unit
 | none=>(Nd.mk 0 0 [],160,())
 | some y=>(Nd.mk 1 0 y.2.1.1,0,())
noncomputable def c17 (fu n:Nat) (x:List TokT×Unit):Option (Nd×Int×Unit):=
 if x.1.length<=4000 then (sh17 fu (.int .i64 0) (.int .i64 0) (rs fu n).c37 (x17 x.1)).map cv17 else some (Nd.mk 0 0 [],2,())
theorem zNj (nd:Nd) (e:Int):finV ((xI CC rs17 (fun _=>false) 0 (nd,e,())).map (trT CC ⟨id,id,id,id⟩)) = .tup [z6 nd,.at (.int .i64 e)]:=by
 have h:=CCok.enc ⟨id,id,id,id⟩ TI.node nd
 show V.tup [trT CC ⟨id,id,id,id⟩ (CC.enc TI.node nd),.at (.int .i64 e)]=_
 rw [h]; rfl
theorem zL4 (fu n:Nat) (l:List TokT) (u:Unit) (y:Nd×Int×Unit) (hx:c17 fu n (l,u)=some y) (vs:List V) (hvs:zBg CC as17 ((l,u):zR as17) vs):xz Tryz.prog 17 vs (.tup [z6 y.1,.at (.int .i64 y.2.1)]):=by
 obtain ⟨v,vs',rfl,hv,hvs⟩:=hvs
 replace hvs:vs' = []:=hvs
 subst hvs
 replace hv:v = .lst (zk (l.map (CC.encV TI.tok))) (l.map (CC.encV TI.tok)):=hv
 subst hv
 by_cases h:l.length<=4000
 · have h2:c17 fu n (l,u)=(sh17 fu (.int .i64 0) (.int .i64 0) (rs fu n).c37 (x17 l)).map cv17:=if_pos h
   rw [h2] at hx
   cases hoc:sh17 fu (.int .i64 0) (.int .i64 0) (rs fu n).c37 (x17 l) with
   | none=>rw [hoc] at hx; cases hx
   | some oc=>
    rw [hoc] at hx
    injection hx with hx
    subst hx
    have hp:=pure17 fu (rs fu n).c37 (rok fu n).h37 h hoc
    cases oc with
    | none=>exact hp
    | some z=>exact hp
 · have h2:c17 fu n (l,u)=some (Nd.mk 0 0 [],2,()):=if_neg h
   rw [h2] at hx
   injection hx with hx
   subst hx
   exact zKe (Nat.lt_of_not_le h)
theorem ok17 (fu n:Nat):ConOk CC Tryz.prog 17 ⟨as17,rs17,c17 fu n⟩:=fun x y hx vs hvs=>by
 have h:=zL4 fu n x.1 x.2 y hx vs hvs
 have e:finV ((xI CC rs17 (fun _=>false) 0 y).map (trT CC ⟨id,id,id,id⟩))=_:=zNj y.1 y.2.1
 show xz Tryz.prog 17 vs (finV ((xI CC rs17 (fun _=>false) 0 y).map (trT CC ⟨id,id,id,id⟩)))
 rw [e]
 exact h
end
end Go.Proofs.YtnamdpbcpnnhaaaGreatDoor
