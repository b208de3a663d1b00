/-
  Part 5 of what the last text needs: library, runs, contracts, plain laws. No condition of its own.
-/
import Derived.Test.YtnamdpbcpnnhaaaGreatDoorZS4
import Derived.Test.YtnamdpbcpnnhaaaGreatDoorTie
import Derived.LaidLaws
import Derived.LaidMore
import Derived.LaidHandle
import Derived.MakeChecks
import Derived.Shelf.Vars
import Derived.Handed
import Derived.SevenTiedAt
import Derived.Test.YtnamdpbcpnnhaaaGreatDoorRows
import Derived.Deep.SlicePairs
set_option linter.unusedVariables false
set_option linter.unusedSimpArgs false
set_option linter.unusedSectionVars false
namespace Go.Proofs.YtnamdpbcpnnhaaaGreatDoor
section
open Go.Al Go.Den Go.ChangeShapes Go.WideShapes Go.ChangeAt Go.RowKit
theorem zDn {P:Program} {W:World} {n:String} {g:Nat} {cs:Array Value} (hg:P.globalNamed n=some g) (h:W.var? P n=some cs):∃ el m,W.heap[g]? = some (.cells cs el m):=by
 unfold World.var? at h;rw [hg] at h;simp only [Option.bind_some] at h;split at h
 . rename_i c el m hc;injection h with h
   subst h;exact ⟨el,m,hc⟩
 . cases h
theorem zAe {H:Type} {enc:TypeId×Value->H} {P:Program} {w:World} {base:Nat} {sp:Nat->Bool} {held:Bool} {fuel n:Nat} {t e:TypeId} {cs:List Value} {l:List (List UInt8)} {p:List MemPlace}
 (ht:P.underlying t=some (.array n e)) (he:P.underlying e=some .string) (hc:P.cellsOf e=1) (hct:P.cellsOf t=n) (h:DataW.trod enc P w base sp held fuel t cs=some (.agg (l.map fun z=>.lit (.string z)),p)):cs=l.map fun z=>strV z:=by
 obtain ⟨xs,m,rfl,hx,hlen,hn,hel⟩:=DataW.trod_array ht h;injection hx with hx _
 injection hx with hx
 have hll:l.length=n:=by
  have:=congrArg List.length hx;simp only [List.length_map] at this;omega
 refine List.ext_getElem (by rw [hlen,hct,List.length_map,hll]) fun i h1 h2=>?_;rw [List.getElem_map];have hi:i < n:=by rw [hlen,hct] at h1; exact h1
 have h3:=hel i hi;rw [hc,Nat.mul_one,List.drop_eq_getElem_cons h1,List.take_succ_cons,List.take_zero,List.getElem?_eq_getElem (by omega)] at h3;obtain ⟨z,e1,e2,_⟩:=DataW.trod_string he h3;injection e1 with e1 _
 have h4:(xs.map (·.1))[i]'(by rw [List.length_map]; omega)=(l.map fun z=>DataW.lit (.string z))[i]'(by rw [List.length_map]; omega):=by
  simp only [hx]
 rw [List.getElem_map,List.getElem_map] at h4;rw [e2] at h4;injection h4 with h4
 injection h4 with h4
 rw [e1,<- h4];unfold strV;cases z; simp
theorem zDQ {W:World} {g:Nat} {cs:Array Value} {el:TypeId} {m:Nat×Nat} (h:W.heap[g]? = some (.cells cs el m)):cs.toList.length<=wmOf W g:=by
 unfold wmOf;rw [h];simp
theorem zRE {g:Gh} {w:World} (k:IntKind) (n:Int):RV1 g w (.at (.int k n)) (.int k n):=⟨[.int k n],by simp [RC,one],rfl⟩
theorem zEE {H:Type} {enc:TypeId×Value->H} {a:Assume} {C:Checked} {os:Os} {f:FuncId} {fn:Func} {s:ChangeSpec} {conds:List PathCond} {apart fresh handsOn again:Bool} {X:World->Array Value->Prop}
 (hX:∀ (w w':World) (args:Array Value),w.heap=w'.heap->X w args->X w' args)
 (own:ownKnob C.prog.godebug=none) (started:os.Started) (noInit:C.prog.inits.idxOf? f=none) (hfn:C.prog.funcs[f]? = some fn)
 (witness:∃ (w:World) (tape:Tape) (i:Input),w.os=os/\(w.forCall tape i).Shaped C.prog/\i.vars=[]/\Input.okWide C.prog (w.forCall tape i) .any w.heap.size f i /\
  ((s.pre enc C.prog fn conds apart (w.forCall tape i).memory i.args/\X (w.forCall tape i).memory i.args)/\sizedMet enc C.prog fn (OpenSpec.ofChange s) apart (w.forCall tape i).memory i.args)/\a.holds C.prog (lone (Frame.enter C.prog f i.args .normal) [] (w.forCall tape i)))
 (contract:∀ (W:World) (base:Nat) (args:Array Value) (ds gs:List (DataW H)) (before:List MemPlace),
  (∀ (j:Nat) t v,fn.params[j]? = some t->args[j]? = some v->Value.okWide C.prog W .any base t v)->DataW.Whole enc C.prog fn.params.toList s.vars apart W args.toList ds gs before ->
  W.ShapedOpen C.prog->X W args->Calls C.prog f args W fun e W'=>∃ v,e = .returned v/\s.post enc C.prog fn apart fresh handsOn again W args v W') :
 ReturnsInHanded a C os f .any (fun w args=>(s.pre enc C.prog fn conds apart w args/\X w args)/\sizedMet enc C.prog fn (OpenSpec.ofChange s) apart w args) (s.post enc C.prog fn apart fresh handsOn again):=by
 refine returnsInHanded_of_calls own started noInit witness ?_;intro w tape i _ hsh _ hok hpre _;obtain ⟨_,_,_,fn',hfn',_,_,_,_,hval⟩:=hok;obtain rfl:fn' = fn:=Option.some.inj (hfn'.symm.trans hfn);obtain ⟨⟨⟨ds,gs,before,hw,_⟩,hx⟩,_⟩:=hpre;refine (contract (w.forCall tape i) w.heap.size i.args ds gs before hval (DataW.Whole.of_heap (w':=w.forCall tape i) (by rfl) hw) hsh (hX _ _ _ (by rfl) hx)).mono ?_;rintro e W' ⟨v,rfl,hp⟩;exact ChangeSpec.post_blind hp
end
section
open Go.Al Go.Den Go.ChangeShapes Go.WideShapes Go.ChangeAt Go.RowKit
def zGp:List (String×DataW Unit):=[("emend/pptok.signs",Rows.laid_emend_pptok_signs),("emend/parse.keywords",Rows.laid_emend_parse_keywords),("emend/parse.marks",Rows.laid_emend_parse_marks),("emend/parse.words",Rows.laid_emend_parse_words)]
theorem glob4 {W:World} (hsh:W.ShapedOpen Tryz.prog) (h:laidMetH Tryz.prog zGp W):GlobOk W.heap.size (wmOf W) W:=by
 rw [MakeChecks.laidMetH_plain _ _ _ (by kernel_rfl)] at h;obtain ⟨ps,hv,_⟩:=h;obtain ⟨g3,t3,cs3,f3,p3,q3,hg3,ht3,hv3,hd3,hv,_⟩:=hv;obtain ⟨g4,t4,cs4,f4,p4,q4,hg4,ht4,hv4,hd4,hv,_⟩:=hv;obtain ⟨g5,t5,cs5,f5,p5,q5,hg5,ht5,hv5,hd5,hv,_⟩:=hv;obtain ⟨g6,t6,cs6,f6,p6,q6,hg6,ht6,hv6,hd6,hv,_⟩:=hv;obtain rfl:=Option.some.inj ((show Tryz.prog.globalNamed "emend/pptok.signs" = some 3 by kernel_rfl).symm.trans hg3);obtain rfl:=Option.some.inj ((show Tryz.prog.globalNamed "emend/parse.keywords" = some 0 by kernel_rfl).symm.trans hg4);obtain rfl:=Option.some.inj ((show Tryz.prog.globalNamed "emend/parse.marks" = some 1 by kernel_rfl).symm.trans hg5);obtain rfl:=Option.some.inj ((show Tryz.prog.globalNamed "emend/parse.words" = some 2 by kernel_rfl).symm.trans hg6);obtain rfl:=Option.some.inj ((show (Tryz.prog.globals[3]?).map (·.type)=some 146 by kernel_rfl).symm.trans ht3);obtain rfl:=Option.some.inj ((show (Tryz.prog.globals[0]?).map (·.type)=some 58 by kernel_rfl).symm.trans ht4);obtain rfl:=Option.some.inj ((show (Tryz.prog.globals[1]?).map (·.type)=some 118 by kernel_rfl).symm.trans ht5);obtain rfl:=Option.some.inj ((show (Tryz.prog.globals[2]?).map (·.type)=some 119 by kernel_rfl).symm.trans ht6);obtain ⟨el3,m3,k3⟩:=zDn hg3 hv3;obtain ⟨el4,m4,k4⟩:=zDn hg4 hv4;obtain ⟨el5,m5,k5⟩:=zDn hg5 hv5;obtain ⟨el6,m6,k6⟩:=zDn hg6 hv6;have e3:cs3.toList=signsL.map strV:=zAe (l:=signsL) Tryz.underlying146 Tryz.underlying9 (by kernel_rfl) (by kernel_rfl) hd3;have e4:cs4.toList=kwL.map strV:=zAe (l:=kwL) Tryz.underlying58 Tryz.underlying9 (by kernel_rfl) (by kernel_rfl) hd4;have e5:cs5.toList=marksL.map strV:=zAe (l:=marksL) Tryz.underlying118 Tryz.underlying9 (by kernel_rfl) (by kernel_rfl) hd5;have e6:cs6.toList=wordsL.map strV:=zAe (l:=wordsL) Tryz.underlying119 Tryz.underlying9 (by kernel_rfl) (by kernel_rfl) hd6;have lt:∀ {b:Nat} {o:Obj},W.heap[b]? = some o->b < W.heap.size:=fun h=>(Array.getElem?_eq_some_iff.1 h).1;have hml:∃ arr el m,W.heap[4]? = some (.cells arr el m)/\∃ z,arr.toList=[Value.int .i64 z]:=by
  obtain ⟨cs,hh,hs,hr⟩:=hsh.1 4 #[.int .i64 0] 3 (of_decide_eq_true (by kernel_rfl)) (by kernel_rfl);refine ⟨cs,_,_,hh,?_⟩;obtain ⟨z,hz⟩:=cell_of_shapedOpen_int (P:=Tryz.prog) (w:=W) (g:=4) (t:=3) (zero:=#[.int .i64 0]) (k:=.i64) hsh (of_decide_eq_true (by kernel_rfl)) (by kernel_rfl) rfl (by kernel_rfl) (by kernel_rfl) Tryz.underlying3;refine ⟨z,?_⟩;unfold World.cell? at hz;simp only [hh] at hz;have h1:cs.size=1:=hs;obtain ⟨l⟩:=cs
  match l,h1 with
  | [v],_=>
   simp at hz;rw [hz]
 refine ⟨fun p hp=>?_,fun p hp=>?_⟩
 . simp only [zLn,List.mem_cons,List.not_mem_nil,or_false] at hp;subst hp;obtain ⟨arr,el,m,h1,h2⟩:=hml;exact ⟨lt h1,arr,el,m,h1,h2⟩
 . simp only [zE9,List.mem_cons,List.not_mem_nil,or_false] at hp;rcases hp with rfl | rfl | rfl | rfl
   . exact ⟨lt k4,⟨cs4,el4,m4,k4,e4⟩,by rw [<- e4]; exact zDQ k4⟩
   . exact ⟨lt k5,⟨cs5,el5,m5,k5,e5⟩,by rw [<- e5]; exact zDQ k5⟩
   . exact ⟨lt k6,⟨cs6,el6,m6,k6,e6⟩,by rw [<- e6]; exact zDQ k6⟩
   . exact ⟨lt k3,⟨cs3,el3,m3,k3,e3⟩,by rw [<- e3]; exact zDQ k3⟩
theorem door4 (os:Os) (args:Array Value):laidMetH Tryz.prog zGp ((World.doorLaid Tryz.prog 400 os).forCall (fun _ _=>0) ⟨#[],args,[]⟩).memory:=
 laidMetH_of_parts3 (fuel:=8) (laidMet_of_run' 8 (by kernel_rfl) (by kernel_rfl)) (by kernel_rfl) (by kernel_rfl)
end
end Go.Proofs.YtnamdpbcpnnhaaaGreatDoor
namespace Go.Den
section
open Go.Al
theorem zN9 {P:Program} {X:Cx} {Q Q':Exit->Env->S->Prop} {c:Code} {E:Env} {s:S} (h:awp P X c Q E s) (hq:∀ ex E' s',Q ex E' s'->∃ E2 s2,Gst X E' s' E2 s2/\Q' ex E2 s2):awp P X c Q' E s:=by
 intro g a w hr;refine wpIn_mono (h g a w hr) ?_;rintro ex a' w' ⟨g',e',st',k1,k2,k3⟩;obtain ⟨E2,s2,hg,hq2⟩:=hq ex e' st' k3;obtain ⟨g2,r1,r2⟩:=hg g' a' w' k2;exact ⟨g2,E2,s2,k1.trans r1,r2,hq2⟩
theorem zKP {X:Cx} {E:Env} {s:S} (t bb n cap sz:Nat) (es:List V) {css:List V} {kk:Nat} (ht:E.get t = .at (.slice (some ⟨bb,0,none⟩) n cap))
 (hb:Al.look s.box bb=some (css,kk)) (hn:es.length=n) (hcap:n<=cap) (hes:css.take (n * sz)=zo es) (hlen:n * sz<=css.length) (hsz:xj sz es) (h1:∀ x ∈ es,zL x.flat) (hu:es.map V.untag=es) :
 Gst X E s (E.put t (.lst .no es)) ⟨wipe s.box bb,s.tg,s.nx,s.ob⟩:=by
 intro g a w hr;have hi:=hr.inv;obtain ⟨p1,p2,p3,p4,arr,el,us,p5,p6,p7,p8⟩:=hi.box bb css kk hb;have hlt:bb < w.heap.size:=(Array.getElem?_eq_some_iff.1 p5).1;have hone:zL css:=by unfold zL; rw [List.all_eq_true]; exact p4
 have hul:=yQ g w css us p7;rw [xD hone] at hul;have hla:Later g w ⟨fun i=>if i=bb then n * sz else g.wm i,g.tb,g.fr⟩ w:=⟨fun i=>by
  show g.wm i<=if i=bb then n * sz else g.wm i
  split
  . rename_i e1; subst e1; rw [p2]; exact Nat.zero_le _
  . exact Nat.le_refl _,fun _ _ e1=>e1,fun _ _ _=>rfl⟩
 have hs:Step X.B g w ⟨fun i=>if i=bb then n * sz else g.wm i,g.tb,g.fr⟩ w:=⟨hla,.refl _ _,fun i hi'=>⟨rfl,if_neg (fun e=>by subst e; rw [(hi.boxFr hb).1] at hi'; cases hi')⟩,fun i hi'=>if_neg (by omega),rfl⟩;have hi1:Inv X.B ⟨fun i=>if i=bb then n * sz else g.wm i,g.tb,g.fr⟩ ⟨wipe s.box bb,s.tg,s.nx,s.ob⟩ w:=by
  refine ⟨hi.base,?_,hi.tag,?_,hi.dist,hi.nodup,fun i hi'=>?_,hi.names,hi.ex.step hla (Nat.le_refl _) rfl rfl (fun b' o fp hl j hj=>⟨rfl,if_neg (fun e=>by subst e; exact (hi.boxFr hb).2 b' o fp hl hj)⟩) (fun j hj _=>by rw [yJ]; split <;> first | rfl | exact hj) (fun j _ h=>h)⟩
  . intro b' cs' k' hl;simp only [yJ] at hl;split at hl
    . cases hl
    . rename_i e1;obtain ⟨r1,r2,r3,r4,arr',el',us',r5,r6,r7,r8⟩:=hi.box b' cs' k' hl;exact ⟨r1,by show (if b' = bb then _ else g.wm b')=0; rw [if_neg (fun e2=>e1 e2.symm)]; exact r2,r3,r4,arr',el',us',r5,r6,z8 hla _ _ r7,r8⟩
  . intro t ht b' cap' n' sz' hb';obtain ⟨r1,r2,r3,r4,r5,r6⟩:=hi.own t ht b' cap' n' sz' hb';have e1:b'≠bb:=fun e1=>by subst e1; rw [hb] at r5; cases r5
    exact ⟨r1,by show (if b' = bb then _ else g.wm b')=_; rw [if_neg e1]; exact r2,r3,r4,by rw [yJ]; split <;> first | rfl | exact r5,r6⟩
  . show (if i=bb then _ else g.wm i)=0;rw [if_neg (by omega)];exact hi.fresh i hi'
 have hds:RCs g.bare w es (us.take (n * sz)):=by
  have h2:=(xC hone p7 (n * sz)).1;rw [hes] at h2;have h3:=zAv (zEr h1 h2) h1
  rwa [hu] at h3
 have hlst:RC ⟨fun i=>if i=bb then n * sz else g.wm i,g.tb,g.fr⟩ w (.lst .no es) [.slice (some ⟨bb,0,none⟩) n cap]:=by
  simp only [RC];refine .inr ⟨bb,0,cap,us.take (n * sz),by rw [hn],by omega,trivial,z8 hla.bare _ _ hds,⟨sz,hsz,fun _ _ _ e1=>by cases e1⟩,?_⟩;intro i u hiu;rw [List.getElem?_take] at hiu;split at hiu
  . rename_i hlt2;refine ⟨?_,?_⟩
    . rw [Nat.zero_add,cell_of_row w bb i arr el (0,0) p5];rw [<- p8,List.getElem?_take] at hiu;split at hiu
      . simpa using hiu
      . cases hiu
    . show 0+i < if bb=bb then n * sz else g.wm bb
      rw [if_pos rfl]; omega
  . cases hiu
 refine ⟨_,hs,hi1,fun j=>?_,hr.size,hr.df,hr.gl.below (.refl _ _) hla.wm⟩;rw [Env.get_put];split
 . rename_i e1;subst e1;have h0:=hr.env t;rw [ht] at h0;rw [yA h0];exact qF hlst
 . exact (hr.env j).later hla
section
variable {U:TyU} (C:Cod U) (Tb:TypeId->TD U) {R:Type}
def frzR {R:Type}:List ResultVar->En U->St U->(En U->St U->Option R)->Option R
 | [],e,st,K=>K e st
 | v::r,e,st,K=>match v with
  | .tmp t=>(match eget e t with
   | .sl l n=>(match lk st.bx l with
    | some (.ar i xs)=>bif Nat.ble n xs.length then frzR r ((t,.lst (.b false) i (qN n xs))::e) ⟨(l,none)::st.bx,st.tg,st.nl,st.nx,st.ob⟩ K else none
    | _=>none)
   | _=>frzR r e st K)
  | .cell _ _=>frzR r e st K
variable {C Tb} {P:Program} {r:R}
theorem zG9 (hC:CodOk C) {X:Cx} {N:NM}:∀ (rs:List ResultVar) {e:En U} {E:Env} {st:St U} {s:S} {K:En U->St U->Option R},SSim C N st s->ESim C N st e E->frzR rs e st K=some r ->
 ∃ e' E' st' s',K e' st' = some r/\Gst X E s E' s'/\SSim C N st' s'/\ESim C N st' e' E'
 | [],e,E,st,s,K,hs,he,h=>⟨e,E,st,s,h,.refl _ _ _,hs,he⟩
 | v::rs,e,E,st,s,K,hs,he,h=>by
  have go:frzR rs e st K=some r->∃ e' E' st' s',K e' st' = some r/\Gst X E s E' s'/\SSim C N st' s'/\ESim C N st' e' E':=fun hh=>zG9 hC rs hs he hh;cases v with
  | cell p t=>simp only [frzR] at h; exact go h
  | tmp t=>
   simp only [frzR] at h;split at h
   . rename_i l n ht;split at h
     . rename_i i xs hl;obtain ⟨h1,h2⟩:=zO h;have h1:n<=xs.length:=by simpa [Nat.ble_eq] using h1
       have hw:=hs.wf l _ hl;have hE:=((he t).1).get (by rw [ht]; simp);rw [ht] at hE;have hlen:=jZ hC i xs;have htk:(qN n xs).length=n:=by unfold qN; rw [List.length_take]; omega
       have hg:Gst X E s (E.put t (.lst .no ((qN n xs).map (C.encV i)))) ⟨wipe s.box (N.bl l),s.tg,s.nx,s.ob⟩:=by
        refine zKP t (N.bl l) n (N.cp l) (C.cells i) _ hE (hs.box l _ hl) (by rw [List.length_map,htk]) (by have:=hw.2; omega) (zAm hC i xs n) ?_ (zBM hC i _) ?_ ?_
        . rw [hlen]; exact Nat.mul_le_mul_right _ h1
        . intro x hx;obtain ⟨y,_,rfl⟩:=List.mem_map.1 hx;exact hC.ones i y
        . rw [List.map_map];exact List.map_congr_left fun y _=>hC.untag i y
       have hs2:=hs.drop l hl;have hb:bdd st.nl st.nx (T.lst (.b false) i (qN n xs):T U)=true:=rfl;have he2:ESim C N ⟨(l,none)::st.bx,st.tg,st.nl,st.nx,st.ob⟩ ((t,.lst (.b false) i (qN n xs))::e) (E.put t (.lst .no ((qN n xs).map (C.encV i)))):=by
        have:=ESim.put (st:=⟨(l,none)::st.bx,st.tg,st.nl,st.nx,st.ob⟩) (e:=e) (E:=E) (v:=.lst (.b false) i (qN n xs)) (v':=.lst .no ((qN n xs).map (C.encV i))) he (.inr rfl) hb (some t);exact this
       obtain ⟨e',E',st',s',q1,q2,q3,q4⟩:=zG9 hC rs hs2 he2 h2;exact ⟨e',E',st',s',q1,hg.trans q2,q3,q4⟩
     . cases h
   . exact go h
def jF (C:Cod U) (Tb:TypeId->TD U) (fu d:Nat) (inl:Nat->Option (FD U)) (orc:Nat->Option (Con U)) (orr:Nat->Option (CR U)) (orp:Nat->Option (CP U)) (fd:FD U) (az rs:List (AK U)) (nf:Nat->Bool) (x:zh az):Option (zh rs):=
 drun C Tb fu (zCk C Tb fu inl orc orr orp none d) fd.fi fd.body (zDc 0 (xz C az nf 0 x)) ⟨[],[],0,0,[]⟩ fun ex e' st'=>match ex with
  | .normal=>frzR fd.rs e' st' fun e' st'=>dres C Tb e' st' fd.rs fun vs=>zCp C rs vs some
  | .ret=>frzR fd.rs e' st' fun e' st'=>dres C Tb e' st' fd.rs fun vs=>zCp C rs vs some
  | _=>none
theorem zOv (hT:TbOk C P Tb) (hC:CodOk C) (hm:P.follows .mixedOrders=true) {syn:List PanicEntry} {pf rf:FuncId->Bool} {fu d:Nat} {inl:Nat->Option (FD U)} {orc:Nat->Option (Con U)} {orr:Nat->Option (CR U)} {orp:Nat->Option (CP U)} (hpf:∀ f,pf f=(orc f).isSome) (hrf:∀ f,rf f=(orr f).isSome)
 (hin:∀ f fd,inl f=some fd->FDOk P pf rf f fd) (hor:∀ f c,orc f=some c->OrcOk C P f c)
 (hrr:∀ f c,orr f=some c->zQ P f=true/\CROk C P f c) (hpp:∀ f c,orp f=some c->zQ P f=true/\CPOk C P syn f c) {f:Nat} {fd:FD U} (hfd:FDOk P pf rf f fd) {c:Con U} (hlen:c.as.length<=fd.n)
 (hrs:∀ a ∈ c.rs,∀ i,a≠.ls i) (h:∀ nf x,jF C Tb fu d inl orc orr orp fd c.as c.rs nf x=c.fn x):ConOk C P f c:=by
 intro x y hx vs hvs;obtain ⟨fn,q1,q2,q3,q4⟩:=hfd.fn;have hnf:∃ nf,vs=(xz C c.as nf 0 x).map (trT C ⟨id,id,id,id⟩):=by
  have key:∀ (az:List (AK U)) (x:zh az) (vs:List V) (j:Nat),zBD C az x vs->∃ nf:Nat->Bool,vs=(xz C az nf j x).map (trT C ⟨id,id,id,id⟩):=by
   intro az
   induction az with
   | nil=>intro x vs j h; exact ⟨fun _=>false,h⟩
   | cons a r ih=>
    intro x vs j h;obtain ⟨v,vs',rfl,h1,h2⟩:=h;obtain ⟨nf,h3⟩:=ih x.2 vs' (j+1) h2;have h4:∃ n,v=trT C ⟨id,id,id,id⟩ (argT C a n x.1):=by
     cases a with
     | ls i=>obtain ⟨n,hn⟩:=h1; exact ⟨n,by rw [hn]; cases n <;> rfl⟩
     | _=>exact ⟨false,h1⟩
    obtain ⟨n,h4⟩:=h4;have hcong:∀ (az:List (AK U)) (x:zh az) (nf nf':Nat->Bool) (j:Nat),(∀ m,j<=m->nf m=nf' m)->xz C az nf j x=xz C az nf' j x:=by
     intro az
     induction az with
     | nil=>intros; rfl
     | cons a r ih=>
      intro x nf nf' j hh;simp only [xz,hh j (Nat.le_refl _),ih x.2 nf nf' (j+1) fun m hm=>hh m (by omega)]
    refine ⟨fun m=>if m=j then n else nf m,?_⟩;simp only [xz,List.map_cons,if_true];rw [h3,h4,hcong r x.2 (fun m=>if m=j then n else nf m) nf (j+1) fun m hm=>if_neg (by omega)]
  exact key c.as x vs 0 hvs
 obtain ⟨nf,rfl⟩:=hnf;have hlenA:∀ (az:List (AK U)) (nf:Nat->Bool) (j:Nat) (x:zh az),(xz C az nf j x).length=az.length:=by
  intro az
  induction az with
  | nil=>intros; rfl
  | cons a r ih=>intro nf j x; simp [xz,ih]
 have hrun:=(h nf x).trans hx;unfold jF at hrun;refine zKI q1 q2 q3 q4 (by rw [List.length_map,hlenA]; exact hlen) fun B=>?_;have resV:∀ (rs:List (AK U)),(∀ a ∈ rs,∀ i,a≠.ls i)->∀ (y:zh rs) (us:List V) (j:Nat),zBD C rs y us->us=(xz C rs (fun _=>false) j y).map (trT C ⟨id,id,id,id⟩):=by
  intro rs
  induction rs with
  | nil=>intro _ y us j hu; exact hu
  | cons a r ih=>
   intro hr y us j hu;obtain ⟨v,vs',rfl,h1,h2⟩:=hu;simp only [xz,List.map_cons];rw [<- ih (fun a ha=>hr a (by simp [ha])) y.2 vs' (j+1) h2];congr 1;cases a with
   | ls i=>exact absurd rfl (hr (.ls i) (by simp) i)
   | _=>exact h1
 refine zN9 (Q:=fun ex E' s'=>∃ E2 s2,Gst ⟨B,⟨fd.n,[]⟩,none,[]⟩ E' s' E2 s2/\retE P fd.rs (fun oc _=>oc = .ret (finV ((xz C c.rs (fun _=>false) 0 y).map (trT C ⟨id,id,id,id⟩)))) ex E2 s2) ?_ (fun _ _ _ hq=>hq);refine jJ (X:=⟨B,⟨fd.n,[]⟩,none,[]⟩) (PP:=fun e=>e=syn/\(none:Option (zh c.rs))=some y) hT hC hm (zCH hT hC hm hpf hrf hin hor hrr hpp d fd.fi.wr fd.fi.own) fd.body (SSim.empty ⟨id,id,id,id⟩ 0 0 _) (zBN (st:=⟨[],[],0,0,[]⟩) _ 0 (zCa hC c.as nf 0 x)) hrun hfd.ok hfd.hok (fun e s' hq=>by cases hq.2) ?_;intro ex N' e' st' E' s' p1 p2 p3 p4 _;have fin:(frzR fd.rs e' st' fun e' st'=>dres C Tb e' st' fd.rs fun vs=>zCp C c.rs vs some)=some y->∃ E2 s2,Gst ⟨B,⟨fd.n,[]⟩,none,[]⟩ E' s' E2 s2/\ya P fd.rs E2 s2 fun xs=>Outc.ret (finV xs) = .ret (finV ((xz C c.rs (fun _=>false) 0 y).map (trT C ⟨id,id,id,id⟩))):=fun hh=>by
  obtain ⟨e2,E2,st2,s2,u1,u2,u3,u4⟩:=zG9 (X:=⟨B,⟨fd.n,[]⟩,none,[]⟩) hC fd.rs p3 p4 hh;refine ⟨E2,s2,u2,zFD hT hC u3 u4 fd.rs u1 fun vs hv=>?_⟩;obtain ⟨y',h1,h2⟩:=zDq hC c.rs hv;injection h1 with h1
  subst h1;rw [resV c.rs hrs y' _ 0 (h2 N')]
 cases ex <;> simp only at p1 <;> first | exact fin p1 | cases p1
end
end
end Go.Den
namespace Go.Proofs.YtnamdpbcpnnhaaaGreatDoor
section
open Go.Al
def vi (n:Int):V:=.at (.int .i64 n)
def sl (es:List V):V:=.lst (zw es) es
inductive Nd where
 | mk (kind tok:Int) (kids:List Nd)
mutual
def zc:Nd->V
 | .mk k a l=>.agg [vi k,vi a,sl (qn l)]
def qn:List Nd->List V
 | []=>[]
 | x::r=>zc x::qn r
end
theorem zDp:∀ l:List Nd,qn l=l.map zc
 | []=>rfl
 | x::r=>by simp [qn,zDp r]
theorem qH (k a:Int) (l:List Nd):zc (.mk k a l) = .agg [vi k,vi a,sl (l.map zc)]:=by rw [zc,zDp]
end
section
open Go.Al
theorem zDP:hasT Tryz.prog 3=true:=by kernel_rfl
theorem zDa:xR Tryz.prog 3=false:=by kernel_rfl
theorem zB1:Tryz.prog.cellsOf 3=1:=by kernel_rfl
theorem zII:hasT Tryz.prog 4=true:=by kernel_rfl
theorem aggT4:xR Tryz.prog 4=false:=by kernel_rfl
theorem zGX:Tryz.prog.cellsOf 4=1:=by kernel_rfl
theorem zGO:hasT Tryz.prog 9=true:=by kernel_rfl
theorem zGi:xR Tryz.prog 9=false:=by kernel_rfl
theorem zEZ:Tryz.prog.cellsOf 9=1:=by kernel_rfl
theorem strT9:zAV Tryz.prog 9=true:=by kernel_rfl
theorem zJW:hasT Tryz.prog 24=true:=by kernel_rfl
theorem zJz:xR Tryz.prog 24=false:=by kernel_rfl
theorem zG4:Tryz.prog.cellsOf 24=1:=by kernel_rfl
theorem zLW:elT Tryz.prog 24=some 26:=by kernel_rfl
theorem zJQ:hasT Tryz.prog 26=true:=by kernel_rfl
theorem zG2:Tryz.prog.cellsOf 26=6:=by kernel_rfl
theorem zHG:fieldAt Tryz.prog 26 1=some (1,9):=by kernel_rfl
theorem kO:hasT Tryz.prog 27=true:=by kernel_rfl
theorem zAY:xR Tryz.prog 27=false:=by kernel_rfl
theorem ja:Tryz.prog.cellsOf 27=1:=by kernel_rfl
theorem zCc:elT Tryz.prog 27=some 29:=by kernel_rfl
theorem jd:hasT Tryz.prog 29=true:=by kernel_rfl
theorem zAc:xR Tryz.prog 29=true:=by kernel_rfl
theorem qy:Tryz.prog.cellsOf 29=3:=by kernel_rfl
theorem zLQ:Tryz.prog.bytesOf 29=40:=by kernel_rfl
theorem zLH:fieldAt Tryz.prog 29 0=some (0,3):=by kernel_rfl
theorem zLB:fieldAt Tryz.prog 29 1=some (1,3):=by kernel_rfl
theorem zBv:fieldAt Tryz.prog 29 2=some (2,27):=by kernel_rfl
theorem zGZ:xB Tryz.prog 29=some [.at (.int .i64 0),.at (.int .i64 0),.lst .nil []]:=by kernel_rfl
theorem hasT30:hasT Tryz.prog 30=true:=by kernel_rfl
theorem aggT30:xR Tryz.prog 30=false:=by kernel_rfl
theorem zPz:Tryz.prog.cellsOf 30=1:=by kernel_rfl
theorem hasT44:hasT Tryz.prog 44=true:=by kernel_rfl
theorem aggT44:xR Tryz.prog 44=false:=by kernel_rfl
theorem zP6:Tryz.prog.cellsOf 44=1:=by kernel_rfl
theorem elT44:elT Tryz.prog 44=some 47:=by kernel_rfl
theorem hasT47:hasT Tryz.prog 47=true:=by kernel_rfl
theorem zQj:Tryz.prog.cellsOf 47=2:=by kernel_rfl
theorem hasT62:hasT Tryz.prog 62=true:=by kernel_rfl
theorem aggT62:xR Tryz.prog 62=false:=by kernel_rfl
theorem zQc:Tryz.prog.cellsOf 62=1:=by kernel_rfl
theorem ql:hasT Tryz.prog 63=true:=by kernel_rfl
theorem zAf:xR Tryz.prog 63=false:=by kernel_rfl
theorem qC:Tryz.prog.cellsOf 63=1:=by kernel_rfl
theorem zQ0:Tryz.prog.bytesOf 63=8:=by kernel_rfl
theorem zero63:xB Tryz.prog 63=some [.at (.map none)]:=by kernel_rfl
theorem zC4:hasT Tryz.prog 64=true:=by kernel_rfl
theorem zEn:xR Tryz.prog 64=false:=by kernel_rfl
theorem zBu:Tryz.prog.cellsOf 64=1:=by kernel_rfl
theorem zGe:elT Tryz.prog 64=some 63:=by kernel_rfl
theorem zQe:fieldAt Tryz.prog 66 0=some (0,24):=by kernel_rfl
theorem zQf:fieldAt Tryz.prog 66 1=some (1,3):=by kernel_rfl
theorem zDI:fieldAt Tryz.prog 66 2=some (2,64):=by kernel_rfl
theorem zQ9:fieldAt Tryz.prog 68 0=some (0,27):=by kernel_rfl
theorem kw:hasT Tryz.prog 76=true:=by kernel_rfl
theorem kz:xR Tryz.prog 76=false:=by kernel_rfl
theorem ju:Tryz.prog.cellsOf 76=1:=by kernel_rfl
theorem jf:hasT Tryz.prog 77=true:=by kernel_rfl
theorem kJ:xR Tryz.prog 77=false:=by kernel_rfl
theorem qx:Tryz.prog.cellsOf 77=1:=by kernel_rfl
theorem zK4:fieldAt Tryz.prog 79 0=some (0,24):=by kernel_rfl
theorem zP3:fieldAt Tryz.prog 79 1=some (1,44):=by kernel_rfl
theorem kg:fieldAt Tryz.prog 79 2=some (2,77):=by kernel_rfl
theorem zKh:fieldAt Tryz.prog 79 4=some (4,63):=by kernel_rfl
theorem zQh:fieldAt Tryz.prog 79 5=some (5,77):=by kernel_rfl
theorem zIc:fieldAt Tryz.prog 104 0=some (0,9):=by kernel_rfl
theorem zKH:fieldAt Tryz.prog 104 1=some (1,3):=by kernel_rfl
theorem zDB:hasT Tryz.prog 114=true:=by kernel_rfl
theorem zCA:Tryz.prog.cellsOf 114=2:=by kernel_rfl
theorem zJG:fieldAt Tryz.prog 114 0=some (0,63):=by kernel_rfl
theorem zFb:fieldAt Tryz.prog 114 1=some (1,63):=by kernel_rfl
theorem zB9:fieldAt Tryz.prog 116 0=some (0,114):=by kernel_rfl
theorem zBx:fieldAt Tryz.prog 116 1=some (2,77):=by kernel_rfl
theorem zI1:zQ Tryz.prog 15=true:=by kernel_rfl
theorem code17:zQ Tryz.prog 17=true:=by kernel_rfl
theorem code24:zQ Tryz.prog 24=true:=by kernel_rfl
theorem code25:zQ Tryz.prog 25=true:=by kernel_rfl
theorem code26:zQ Tryz.prog 26=true:=by kernel_rfl
theorem code27:zQ Tryz.prog 27=true:=by kernel_rfl
theorem code28:zQ Tryz.prog 28=true:=by kernel_rfl
theorem zM8:zQ Tryz.prog 29=true:=by kernel_rfl
theorem code30:zQ Tryz.prog 30=true:=by kernel_rfl
theorem zM3:zQ Tryz.prog 32=true:=by kernel_rfl
theorem zGY:zQ Tryz.prog 33=true:=by kernel_rfl
theorem zNI:zQ Tryz.prog 37=true:=by kernel_rfl
theorem zJS:zQ Tryz.prog 38=true:=by kernel_rfl
theorem code39:zQ Tryz.prog 39=true:=by kernel_rfl
theorem code41:zQ Tryz.prog 41=true:=by kernel_rfl
theorem code43:zQ Tryz.prog 43=true:=by kernel_rfl
theorem code44:zQ Tryz.prog 44=true:=by kernel_rfl
theorem zJI:zQ Tryz.prog 45=true:=by kernel_rfl
theorem ku:zQ Tryz.prog 46=true:=by kernel_rfl
theorem zNK:zQ Tryz.prog 47=true:=by kernel_rfl
theorem zEG:zQ Tryz.prog 48=true:=by kernel_rfl
theorem code49:zQ Tryz.prog 49=true:=by kernel_rfl
theorem code53:zQ Tryz.prog 53=true:=by kernel_rfl
theorem zNB:zQ Tryz.prog 54=true:=by kernel_rfl
theorem code55:zQ Tryz.prog 55=true:=by kernel_rfl
theorem code56:zQ Tryz.prog 56=true:=by kernel_rfl
theorem code57:zQ Tryz.prog 57=true:=by kernel_rfl
theorem code58:zQ Tryz.prog 58=true:=by kernel_rfl
theorem code59:zQ Tryz.prog 59=true:=by kernel_rfl
theorem code60:zQ Tryz.prog 60=true:=by kernel_rfl
theorem code61:zQ Tryz.prog 61=true:=by kernel_rfl
theorem code62:zQ Tryz.prog 62=true:=by kernel_rfl
theorem code63:zQ Tryz.prog 63=true:=by kernel_rfl
theorem code64:zQ Tryz.prog 64=true:=by kernel_rfl
theorem code65:zQ Tryz.prog 65=true:=by kernel_rfl
theorem zEt:zQ Tryz.prog 67=true:=by kernel_rfl
theorem zCQ:zQ Tryz.prog 68=true:=by kernel_rfl
theorem zIs:zQ Tryz.prog 72=true:=by kernel_rfl
theorem zJL:zQ Tryz.prog 73=true:=by kernel_rfl
theorem code74:zQ Tryz.prog 74=true:=by kernel_rfl
theorem code75:zQ Tryz.prog 75=true:=by kernel_rfl
theorem zM2:zQ Tryz.prog 76=true:=by kernel_rfl
theorem zGB:zQ Tryz.prog 77=true:=by kernel_rfl
theorem code78:zQ Tryz.prog 78=true:=by kernel_rfl
theorem code79:zQ Tryz.prog 79=true:=by kernel_rfl
theorem code80:zQ Tryz.prog 80=true:=by kernel_rfl
theorem code81:zQ Tryz.prog 81=true:=by kernel_rfl
theorem code82:zQ Tryz.prog 82=true:=by kernel_rfl
theorem code83:zQ Tryz.prog 83=true:=by kernel_rfl
theorem code84:zQ Tryz.prog 84=true:=by kernel_rfl
theorem zNX:zQ Tryz.prog 85=true:=by kernel_rfl
theorem code86:zQ Tryz.prog 86=true:=by kernel_rfl
theorem zGh:zQ Tryz.prog 88=true:=by kernel_rfl
theorem zJE:zQ Tryz.prog 89=true:=by kernel_rfl
theorem zNF:zQ Tryz.prog 90=true:=by kernel_rfl
theorem code92:zQ Tryz.prog 92=true:=by kernel_rfl
theorem code93:zQ Tryz.prog 93=true:=by kernel_rfl
theorem code94:zQ Tryz.prog 94=true:=by kernel_rfl
theorem code95:zQ Tryz.prog 95=true:=by kernel_rfl
theorem code98:zQ Tryz.prog 98=true:=by kernel_rfl
theorem code99:zQ Tryz.prog 99=true:=by kernel_rfl
theorem zQO:zQ Tryz.prog 100=true:=by kernel_rfl
theorem zPy:zQ Tryz.prog 101=true:=by kernel_rfl
theorem zLL:zQ Tryz.prog 102=true:=by kernel_rfl
theorem zEx:zQ Tryz.prog 103=true:=by kernel_rfl
theorem zKt:zQ Tryz.prog 104=true:=by kernel_rfl
theorem zRL:zQ Tryz.prog 105=true:=by kernel_rfl
theorem zQt:zQ Tryz.prog 107=true:=by kernel_rfl
theorem zPP:zQ Tryz.prog 108=true:=by kernel_rfl
theorem zQW:zQ Tryz.prog 110=true:=by kernel_rfl
theorem zPO:zQ Tryz.prog 111=true:=by kernel_rfl
theorem zP2:zQ Tryz.prog 112=true:=by kernel_rfl
theorem zP0:zQ Tryz.prog 113=true:=by kernel_rfl
theorem zPp:zQ Tryz.prog 114=true:=by kernel_rfl
theorem zQX:zQ Tryz.prog 115=true:=by kernel_rfl
theorem zPi:zQ Tryz.prog 116=true:=by kernel_rfl
theorem zQV:zQ Tryz.prog 117=true:=by kernel_rfl
theorem zRG:zQ Tryz.prog 124=true:=by kernel_rfl
theorem zK9:zQ Tryz.prog 125=true:=by kernel_rfl
theorem zP8:zQ Tryz.prog 126=true:=by kernel_rfl
theorem zAP:zQ Tryz.prog 127=true:=by kernel_rfl
theorem zPL:zQ Tryz.prog 130=true:=by kernel_rfl
theorem zPj:zQ Tryz.prog 131=true:=by kernel_rfl
theorem zQz:zQ Tryz.prog 142=true:=by kernel_rfl
theorem zPV:zQ Tryz.prog 143=true:=by kernel_rfl
theorem zPt:zQ Tryz.prog 150=true:=by kernel_rfl
theorem zQd:zQ Tryz.prog 151=true:=by kernel_rfl
theorem zQ7:zQ Tryz.prog 154=true:=by kernel_rfl
theorem zQE:zQ Tryz.prog 155=true:=by kernel_rfl
def ks38:Nat->List Nat
 | 0=>[0,1,4]
 | 1=>[4]
 | _=>[]
def ks46:Nat->List Nat
 | 0=>[0,1]
 | 1=>[4]
 | _=>[]
def ks47:Nat->List Nat
 | 0=>[]
 | _=>[]
def ks58:Nat->List Nat
 | 0=>[0,1,2,8]
 | 1=>[0,1,2,6]
 | 2=>[0,1,6,9]
 | 3=>[0,1,6]
 | 4=>[]
 | _=>[]
def ks59:Nat->List Nat
 | 0=>[]
 | _=>[]
def ks61:Nat->List Nat
 | 0=>[0]
 | 1=>[0,3]
 | 2=>[3]
 | 3=>[2]
 | _=>[]
def ks77:Nat->List Nat
 | 0=>[3]
 | 1=>[]
 | _=>[]
def ks88:Nat->List Nat
 | 0=>[0,1]
 | 1=>[0,1,16]
 | 2=>[4]
 | 3=>[4]
 | _=>[]
def ks98:Nat->List Nat
 | 0=>[2,3]
 | 1=>[2,3]
 | 2=>[2,3,4]
 | 3=>[2,3,4,5]
 | 4=>[2,3,5]
 | 5=>[2,3,5]
 | 6=>[2,3,5]
 | 9=>[2,3,5]
 | 10=>[2,3]
 | 11=>[2]
 | 12=>[]
 | _=>[]
def jE:Nat->List Nat
 | 0=>[0,1,6]
 | 1=>[0,1,4]
 | 2=>[0,1,4,20]
 | 3=>[0,1,4]
 | 4=>[]
 | _=>[]
def zLi:Nat->List Nat
 | 0=>[0]
 | 1=>[0,3]
 | 2=>[3]
 | 3=>[2]
 | _=>[]
def zCo:Nat->List Nat
 | 0=>[1]
 | 1=>[2]
 | _=>[]
def qb:Nat->List Nat
 | 0=>[0,1,4]
 | 1=>[0,1,4,5]
 | 2=>[0,1,4,5,15]
 | 3=>[0,1,4,5]
 | 4=>[0,1,4,5]
 | 5=>[]
 | _=>[]
def yZ:Nat->List Nat
 | 0=>[0,1,2,6]
 | 1=>[0,1,2,6,7]
 | 2=>[0,1,2,6,7,8]
 | 3=>[0,1,2,6,7,8,38]
 | 4=>[0,1,2,6,7,8]
 | 5=>[0,1,2,6,7,8]
 | 6=>[0,1,6,7,51]
 | 7=>[0,1,6,7]
 | 8=>[0,1,7]
 | 9=>[]
 | _=>[]
def zL3:Nat->List Nat
 | 0=>[]
 | _=>[]
theorem mixed:Tryz.prog.follows .mixedOrders=true:=by kernel_rfl
end
section
open Go.Al Go.Den
def Nd.kind:Nd->Int
 | .mk k _ _=>k
def Nd.tok:Nd->Int
 | .mk _ a _=>a
def Nd.kids:Nd->List Nd
 | .mk _ _ l=>l
structure TokT where
 kind:Int
 text:List UInt8
 file:Int
 ffrom:Int
 fto:Int
 blank:Bool
structure CharT where
 b:Int
 fat:Int
structure BindT where
 space:Int
 fto:Int
inductive TI where
 | int
 | bool
 | u8
 | str
 | tok
 | char
 | bind
 | node
def TI.no:TI->Nat
 | .int=>0
 | .bool=>1
 | .u8=>2
 | .str=>3
 | .tok=>4
 | .char=>5
 | .bind=>6
 | .node=>7
theorem TI.no_inj:∀ a b:TI,a.no=b.no->a=b:=by intro a b h; cases a <;> cases b <;> first | rfl | (simp [TI.no] at h)
instance:DecidableEq TI:=fun a b=>if h:a.no=b.no then isTrue (TI.no_inj a b h) else isFalse (fun e=>h (by rw [e]))
def denI:TI->Type
 | .int=>Int
 | .bool=>Bool
 | .u8=>Int
 | .str=>(List UInt8)
 | .tok=>TokT
 | .char=>CharT
 | .bind=>BindT
 | .node=>Nd
abbrev UU:TyU:={ I:=TI,den:=denI }
def zDE {R:Type} (v:T UU) (K:TokT->Option R):Option R:=
 match v with
 | .agg fs=>(match fs with
  | [v0,v1,v2,v3,v4,v5]=>pInt .i64 v0 fun x0=>pStr v1 fun x1=>pInt .i64 v2 fun x2=>pInt .i64 v3 fun x3=>pInt .i64 v4 fun x4=>zIT v5 fun x5=>K (TokT.mk x0 x1 x2 x3 x4 x5)
  | _=>none)
 | _=>none
def tokD:TokT:=TokT.mk 0 [] 0 0 0 false
def zCP {R:Type} (v:T UU) (K:CharT->Option R):Option R:=
 match v with
 | .agg fs=>(match fs with
  | [v0,v1]=>pInt .u8 v0 fun x0=>pInt .i64 v1 fun x1=>K (CharT.mk x0 x1)
  | _=>none)
 | _=>none
def zGg:CharT:=CharT.mk 0 0
def zCM {R:Type} (v:T UU) (K:BindT->Option R):Option R:=
 match v with
 | .agg fs=>(match fs with
  | [v0,v1]=>pInt .i64 v0 fun x0=>pInt .i64 v1 fun x1=>K (BindT.mk x0 x1)
  | _=>none)
 | _=>none
def yG:BindT:=BindT.mk 0 0
def zFt {R:Type} (v:T UU) (K:Nd->Option R):Option R:=
 match v with
 | .agg fs=>(match fs with
  | [v0,v1,v2]=>pInt .i64 v0 fun x0=>pInt .i64 v1 fun x1=>pDl (U:=UU) TI.node v2 fun x2=>K (Nd.mk x0 x1 x2)
  | _=>none)
 | _=>none
def qh:Nd:=Nd.mk 0 0 []
def eV_int (x:Int):V:=.at (.int .i64 x)
def zRP (x:Bool):V:=.at (.bool x)
def eV_u8 (x:Int):V:=.at (.int .u8 x)
def eV_str (x:(List UInt8)):V:=.at (.string ⟨List.toArray x⟩)
def zAn (x:TokT):V:=.agg [.at (.int .i64 (TokT.kind x)),.at (.string ⟨List.toArray (TokT.text x)⟩),.at (.int .i64 (TokT.file x)),.at (.int .i64 (TokT.ffrom x)),.at (.int .i64 (TokT.fto x)),.at (.bool (TokT.blank x))]
def xc (x:CharT):V:=.agg [.at (.int .u8 (CharT.b x)),.at (.int .i64 (CharT.fat x))]
def kV (x:BindT):V:=.agg [.at (.int .i64 (BindT.space x)),.at (.int .i64 (BindT.fto x))]
def zAO (x:Nd):V:=zc x
def zLV:(i:TI)->denI i->V
 | .int,x=>eV_int x
 | .bool,x=>zRP x
 | .u8,x=>eV_u8 x
 | .str,x=>eV_str x
 | .tok,x=>zAn x
 | .char,x=>xc x
 | .bind,x=>kV x
 | .node,x=>zAO x
def encI:(i:TI)->denI i->T UU
 | .int,x=>.int .i64 x
 | .bool,x=>.bool x
 | .u8,x=>.int .u8 x
 | .str,x=>.str x
 | .tok,x=>.agg [(.int .i64 (TokT.kind x)),(.str (TokT.text x)),(.int .i64 (TokT.file x)),(.int .i64 (TokT.ffrom x)),(.int .i64 (TokT.fto x)),(.bool (TokT.blank x))]
 | .char,x=>.agg [(.int .u8 (CharT.b x)),(.int .i64 (CharT.fat x))]
 | .bind,x=>.agg [(.int .i64 (BindT.space x)),(.int .i64 (BindT.fto x))]
 | .node,x=>.agg [(.int .i64 (Nd.kind x)),(.int .i64 (Nd.tok x)),(.lst .dl TI.node (Nd.kids x))]
def decI:(i:TI)->{R:Type}->T UU->(denI i->Option R)->Option R
 | .int,_,v,K=>pInt .i64 v K
 | .bool,_,v,K=>zIT v K
 | .u8,_,v,K=>pInt .u8 v K
 | .str,_,v,K=>pStr v K
 | .tok,_,v,K=>zDE v K
 | .char,_,v,K=>zCP v K
 | .bind,_,v,K=>zCM v K
 | .node,_,v,K=>zFt v K
def dfltI:(i:TI)->denI i
 | .int=>(0:Int)
 | .bool=>false
 | .u8=>(0:Int)
 | .str=>([]:List UInt8)
 | .tok=>tokD
 | .char=>zGg
 | .bind=>yG
 | .node=>qh
def cellsI:TI->Nat
 | .int=>1
 | .bool=>1
 | .u8=>1
 | .str=>1
 | .tok=>6
 | .char=>2
 | .bind=>2
 | .node=>3
def aggI:TI->Bool
 | .int=>false
 | .bool=>false
 | .u8=>false
 | .str=>false
 | .tok=>true
 | .char=>true
 | .bind=>true
 | .node=>true
def plainI:TI->Bool
 | .int=>true
 | .bool=>true
 | .u8=>true
 | .str=>true
 | .tok=>true
 | .char=>true
 | .bind=>true
 | .node=>false
def ifvI:(i:TI)->denI i->Value
 | .int,_=>.nilIface
 | .bool,_=>.nilIface
 | .u8,_=>.nilIface
 | .str,_=>.nilIface
 | .tok,_=>.nilIface
 | .char,_=>.nilIface
 | .bind,_=>.nilIface
 | .node,_=>.nilIface
def u8I:(i:TI)->Option (denI i->Int)
 | .int=>none
 | .bool=>none
 | .u8=>some fun x=>x
 | .str=>none
 | .tok=>none
 | .char=>none
 | .bind=>none
 | .node=>none
def CC:Cod UU:=⟨encI,zLV,decI,dfltI,cellsI,aggI,plainI,ifvI,u8I⟩
theorem zL4 {R:Type} {v:T UU} {K:TokT->Option R} {r:R} (h:zDE v K=some r):∃ x,K x=some r/\∀ N,(trT CC N v).untag=zAn x:=by
 unfold zDE at h;split at h
 . split at h
   . obtain ⟨x0,h,_,e0⟩:=xS (C:=CC) h;obtain ⟨x1,h,_,e1⟩:=zFI (C:=CC) h;obtain ⟨x2,h,_,e2⟩:=xS (C:=CC) h;obtain ⟨x3,h,_,e3⟩:=xS (C:=CC) h;obtain ⟨x4,h,_,e4⟩:=xS (C:=CC) h;obtain ⟨x5,h,_,e5⟩:=zD6 (C:=CC) h;refine ⟨_,h,fun N=>?_⟩;simp only [trT,trTs,V.untag,List.map_cons,List.map_nil,e0 N,e1 N,e2 N,e3 N,e4 N,e5 N];rfl
   . cases h
 . cases h
theorem zKU {R:Type} {v:T UU} {K:TokT->Option R} {r:R} (h:zDE v K=some r):∃ x,K x=some r/\∀ N,trT CC N v=zAn x:=by
 unfold zDE at h;split at h
 . split at h
   . obtain ⟨x0,h,e0,_⟩:=xS (C:=CC) h;obtain ⟨x1,h,e1,_⟩:=zFI (C:=CC) h;obtain ⟨x2,h,e2,_⟩:=xS (C:=CC) h;obtain ⟨x3,h,e3,_⟩:=xS (C:=CC) h;obtain ⟨x4,h,e4,_⟩:=xS (C:=CC) h;obtain ⟨x5,h,e5,_⟩:=zD6 (C:=CC) h;refine ⟨_,h,fun N=>?_⟩;simp only [trT,trTs,e0 N,e1 N,e2 N,e3 N,e4 N,e5 N];rfl
   . cases h
 . cases h
theorem zBW (x:TokT):zAn x = .agg [.at (.int .i64 (TokT.kind x)),.at (.string ⟨List.toArray (TokT.text x)⟩),.at (.int .i64 (TokT.file x)),.at (.int .i64 (TokT.ffrom x)),.at (.int .i64 (TokT.fto x)),.at (.bool (TokT.blank x))]:=by
 rfl
theorem zKJ {R:Type} {v:T UU} {K:CharT->Option R} {r:R} (h:zCP v K=some r):∃ x,K x=some r/\∀ N,(trT CC N v).untag=xc x:=by
 unfold zCP at h;split at h
 . split at h
   . obtain ⟨x0,h,_,e0⟩:=xS (C:=CC) h;obtain ⟨x1,h,_,e1⟩:=xS (C:=CC) h;refine ⟨_,h,fun N=>?_⟩;simp only [trT,trTs,V.untag,List.map_cons,List.map_nil,e0 N,e1 N];rfl
   . cases h
 . cases h
theorem zJM {R:Type} {v:T UU} {K:CharT->Option R} {r:R} (h:zCP v K=some r):∃ x,K x=some r/\∀ N,trT CC N v=xc x:=by
 unfold zCP at h;split at h
 . split at h
   . obtain ⟨x0,h,e0,_⟩:=xS (C:=CC) h;obtain ⟨x1,h,e1,_⟩:=xS (C:=CC) h;refine ⟨_,h,fun N=>?_⟩;simp only [trT,trTs,e0 N,e1 N];rfl
   . cases h
 . cases h
theorem zAj (x:CharT):xc x = .agg [.at (.int .u8 (CharT.b x)),.at (.int .i64 (CharT.fat x))]:=by
 rfl
theorem zKd {R:Type} {v:T UU} {K:BindT->Option R} {r:R} (h:zCM v K=some r):∃ x,K x=some r/\∀ N,(trT CC N v).untag=kV x:=by
 unfold zCM at h;split at h
 . split at h
   . obtain ⟨x0,h,_,e0⟩:=xS (C:=CC) h;obtain ⟨x1,h,_,e1⟩:=xS (C:=CC) h;refine ⟨_,h,fun N=>?_⟩;simp only [trT,trTs,V.untag,List.map_cons,List.map_nil,e0 N,e1 N];rfl
   . cases h
 . cases h
theorem zJw {R:Type} {v:T UU} {K:BindT->Option R} {r:R} (h:zCM v K=some r):∃ x,K x=some r/\∀ N,trT CC N v=kV x:=by
 unfold zCM at h;split at h
 . split at h
   . obtain ⟨x0,h,e0,_⟩:=xS (C:=CC) h;obtain ⟨x1,h,e1,_⟩:=xS (C:=CC) h;refine ⟨_,h,fun N=>?_⟩;simp only [trT,trTs,e0 N,e1 N];rfl
   . cases h
 . cases h
theorem zAl (x:BindT):kV x = .agg [.at (.int .i64 (BindT.space x)),.at (.int .i64 (BindT.fto x))]:=by
 rfl
theorem zKK {R:Type} {v:T UU} {K:Nd->Option R} {r:R} (h:zFt v K=some r):∃ x,K x=some r/\∀ N,(trT CC N v).untag=zAO x:=by
 unfold zFt at h;split at h
 . split at h
   . obtain ⟨x0,h,_,e0⟩:=xS (C:=CC) h;obtain ⟨x1,h,_,e1⟩:=xS (C:=CC) h;obtain ⟨x2,h,e2⟩:=pDl_ok (C:=CC) h;refine ⟨_,h,fun N=>?_⟩;simp only [trT,trTs,V.untag,List.map_cons,List.map_nil,e0 N,e1 N,e2 N];exact (qH x0 x1 x2).symm
   . cases h
 . cases h
theorem zAa (x:Nd):zAO x = .agg [.at (.int .i64 (Nd.kind x)),.at (.int .i64 (Nd.tok x)),.lst (zw ((Nd.kids x).map (zLV TI.node))) ((Nd.kids x).map (zLV TI.node))]:=by
 cases x; exact qH _ _ _
theorem sz_tok (x:TokT):(zAn x).size=6:=by rw [zBW]; rfl
theorem ag_tok (x:TokT):(zAn x).isAgg=true:=by rw [zBW]; rfl
theorem on_tok (x:TokT):zL (zAn x).flat:=by rw [zBW]; rfl
theorem un_tok (x:TokT):(zAn x).untag=zAn x:=by rw [zBW]; simp only [V.untag,List.map_cons,List.map_nil,zCi,zAF]
theorem zHF (x:CharT):(xc x).size=2:=by rw [zAj]; rfl
theorem zP4 (x:CharT):(xc x).isAgg=true:=by rw [zAj]; rfl
theorem zRX (x:CharT):zL (xc x).flat:=by rw [zAj]; rfl
theorem zQ3 (x:CharT):(xc x).untag=xc x:=by rw [zAj]; simp only [V.untag,List.map_cons,List.map_nil,zCi,zAF]
theorem zRJ (x:BindT):(kV x).size=2:=by rw [zAl]; rfl
theorem zRQ (x:BindT):(kV x).isAgg=true:=by rw [zAl]; rfl
theorem zQs (x:BindT):zL (kV x).flat:=by rw [zAl]; rfl
theorem zQC (x:BindT):(kV x).untag=kV x:=by rw [zAl]; simp only [V.untag,List.map_cons,List.map_nil,zCi,zAF]
theorem zRB (x:Nd):(zAO x).size=3:=by rw [zAa]; rfl
theorem zRR (x:Nd):(zAO x).isAgg=true:=by rw [zAa]; rfl
theorem zQS (x:Nd):zL (zAO x).flat:=by rw [zAa]; rfl
theorem zPg (x:Nd):(zAO x).untag=zAO x:=by rw [zAa]; simp only [V.untag,List.map_cons,List.map_nil,zCi,zAF]
theorem CCok:CodOk CC:=by
 refine ⟨?_,?_,?_,?_,?_,?_,?_,?_,?_,?_,?_⟩
 . intro N i x;cases i with
   | int=>rfl
   | bool=>rfl
   | u8=>rfl
   | str=>rfl
   | tok=>exact (zBW x).symm
   | char=>exact (zAj x).symm
   | bind=>exact (zAl x).symm
   | node=>exact (zAa x).symm
 . intro i x;cases i <;> rfl
 . intro i R v k r h;cases i with
   | int=>obtain ⟨x,h1,_,h2⟩:=xS (C:=CC) h; exact ⟨x,h1,fun N=>by have:=h2 N; exact zCe this⟩
   | bool=>obtain ⟨x,h1,_,h2⟩:=zD6 (C:=CC) h; exact ⟨x,h1,fun N=>by have:=h2 N; exact zCe this⟩
   | u8=>obtain ⟨x,h1,_,h2⟩:=xS (C:=CC) h; exact ⟨x,h1,fun N=>by have:=h2 N; exact zCe this⟩
   | str=>obtain ⟨x,h1,_,h2⟩:=zFI (C:=CC) h; exact ⟨x,h1,fun N=>by have:=h2 N; exact zCe this⟩
   | tok=>exact zL4 h
   | char=>exact zKJ h
   | bind=>exact zKd h
   | node=>exact zKK h
 . intro i R v k r hp h;cases i with
   | int=>obtain ⟨x,h1,h2,_⟩:=xS (C:=CC) h; exact ⟨x,h1,h2⟩
   | bool=>obtain ⟨x,h1,h2,_⟩:=zD6 (C:=CC) h; exact ⟨x,h1,h2⟩
   | u8=>obtain ⟨x,h1,h2,_⟩:=xS (C:=CC) h; exact ⟨x,h1,h2⟩
   | str=>obtain ⟨x,h1,h2,_⟩:=zFI (C:=CC) h; exact ⟨x,h1,h2⟩
   | tok=>exact zKU h
   | char=>exact zJM h
   | bind=>exact zJw h
   | node=>cases hp
 . intro i x;cases i with
   | int=>rfl
   | bool=>rfl
   | u8=>rfl
   | str=>rfl
   | tok=>exact sz_tok x
   | char=>exact zHF x
   | bind=>exact zRJ x
   | node=>exact zRB x
 . intro i x;cases i with
   | int=>rfl
   | bool=>rfl
   | u8=>rfl
   | str=>rfl
   | tok=>exact ag_tok x
   | char=>exact zP4 x
   | bind=>exact zRQ x
   | node=>exact zRR x
 . intro i x;cases i with
   | int=>rfl
   | bool=>rfl
   | u8=>rfl
   | str=>rfl
   | tok=>exact on_tok x
   | char=>exact zRX x
   | bind=>exact zQs x
   | node=>exact zQS x
 . intro i x;cases i with
   | int=>rfl
   | bool=>rfl
   | u8=>rfl
   | str=>rfl
   | tok=>exact un_tok x
   | char=>exact zQ3 x
   | bind=>exact zQC x
   | node=>exact zPg x
 . intro i h;cases i <;> first | rfl | cases h
 . intro i;cases i <;> decide
 . intro i f h x;cases i <;> first | (cases h; done) | (cases h; rfl)
def td3:TD UU:={ has:=true,agg:=false,cells:=1,bytes:=8,code:=some TI.int,ik:=some .i64,zero:=some [.int .i64 0] }
theorem td3_ok:Facts CC Tryz.prog 3 td3:=⟨by kernel_rfl,by kernel_rfl,by kernel_rfl,by kernel_rfl,by kernel_rfl,by kernel_rfl,by kernel_rfl,by kernel_rfl,by kernel_rfl,by kernel_rfl,by kernel_rfl,fun N=>by kernel_rfl,fun i h=>(by first | (injection h with h; subst h; exact ⟨rfl,rfl⟩) | cases h),fun n i h=>(by cases h),.inr rfl,.inr rfl,fun x k r h=>(by cases h),fun l h=>z7 h,fun h=>(by cases h)⟩
def td4:TD UU:={ has:=true,agg:=false,cells:=1,bytes:=1,code:=some TI.bool,isBool:=true,zero:=some [.bool false] }
theorem td4_ok:Facts CC Tryz.prog 4 td4:=⟨by kernel_rfl,by kernel_rfl,by kernel_rfl,by kernel_rfl,by kernel_rfl,by kernel_rfl,by kernel_rfl,by kernel_rfl,by kernel_rfl,by kernel_rfl,by kernel_rfl,fun N=>by kernel_rfl,fun i h=>(by first | (injection h with h; subst h; exact ⟨rfl,rfl⟩) | cases h),fun n i h=>(by cases h),.inr rfl,.inr rfl,fun x k r h=>(by cases h),fun l h=>z7 h,fun h=>(by cases h)⟩
def td5:TD UU:={ has:=true,agg:=false,cells:=1,bytes:=1,code:=some TI.u8,ik:=some .u8,zero:=some [.int .u8 0] }
theorem td5_ok:Facts CC Tryz.prog 5 td5:=⟨by kernel_rfl,by kernel_rfl,by kernel_rfl,by kernel_rfl,by kernel_rfl,by kernel_rfl,by kernel_rfl,by kernel_rfl,by kernel_rfl,by kernel_rfl,by kernel_rfl,fun N=>by kernel_rfl,fun i h=>(by first | (injection h with h; subst h; exact ⟨rfl,rfl⟩) | cases h),fun n i h=>(by cases h),.inr rfl,.inr rfl,fun x k r h=>(by cases h),fun l h=>z7 h,fun h=>(by cases h)⟩
def td9:TD UU:={ has:=true,agg:=false,cells:=1,bytes:=16,code:=some TI.str,isStr:=true,zero:=some [.str []] }
theorem td9_ok:Facts CC Tryz.prog 9 td9:=⟨by kernel_rfl,by kernel_rfl,by kernel_rfl,by kernel_rfl,by kernel_rfl,by kernel_rfl,by kernel_rfl,by kernel_rfl,by kernel_rfl,by kernel_rfl,by kernel_rfl,fun N=>by kernel_rfl,fun i h=>(by first | (injection h with h; subst h; exact ⟨rfl,rfl⟩) | cases h),fun n i h=>(by cases h),.inr rfl,.inr rfl,fun x k r h=>(by cases h),fun l h=>z7 h,fun h=>(by cases h)⟩
def td20:TD UU:={ has:=true,agg:=false,cells:=1,bytes:=16,isIfc:=true,zero:=some [.con .nilIface] }
theorem zQF:Facts CC Tryz.prog 20 td20:=⟨by kernel_rfl,by kernel_rfl,by kernel_rfl,by kernel_rfl,by kernel_rfl,by kernel_rfl,by kernel_rfl,by kernel_rfl,by kernel_rfl,by kernel_rfl,by kernel_rfl,fun N=>by kernel_rfl,fun i h=>(by first | (injection h with h; subst h; exact ⟨rfl,rfl⟩) | cases h),fun n i h=>(by cases h),.inr rfl,.inr rfl,fun x k r h=>(by cases h),fun l h=>z7 h,fun h=>(by cases h)⟩
def td24:TD UU:={ has:=true,agg:=false,cells:=1,bytes:=24,el:=some 26,zero:=some [.nil] }
theorem zQB:Facts CC Tryz.prog 24 td24:=⟨by kernel_rfl,by kernel_rfl,by kernel_rfl,by kernel_rfl,by kernel_rfl,by kernel_rfl,by kernel_rfl,by kernel_rfl,by kernel_rfl,by kernel_rfl,by kernel_rfl,fun N=>by kernel_rfl,fun i h=>(by first | (injection h with h; subst h; exact ⟨rfl,rfl⟩) | cases h),fun n i h=>(by cases h),.inr rfl,.inr rfl,fun x k r h=>(by cases h),fun l h=>z7 h,fun h=>(by cases h)⟩
def td26:TD UU:={ has:=true,agg:=true,cells:=6,bytes:=56,code:=some TI.tok,flds:=[(0,3),(1,9),(2,3),(3,3),(4,3),(5,4)],isStruct:=true,zero:=some [.int .i64 0,.str [],.int .i64 0,.int .i64 0,.int .i64 0,.bool false] }
theorem zQm:Facts CC Tryz.prog 26 td26:=⟨by kernel_rfl,by kernel_rfl,by kernel_rfl,by kernel_rfl,by kernel_rfl,by kernel_rfl,by kernel_rfl,by kernel_rfl,by kernel_rfl,by kernel_rfl,by kernel_rfl,fun N=>by kernel_rfl,fun i h=>(by first | (injection h with h; subst h; exact ⟨rfl,rfl⟩) | cases h),fun n i h=>(by cases h),.inr rfl,.inr rfl,fun x k r h=>(by cases h),fun l h=>z7 h,fun h=>(by cases h)⟩
def td27:TD UU:={ has:=true,agg:=false,cells:=1,bytes:=24,el:=some 29,zero:=some [.nil] }
theorem zPe:Facts CC Tryz.prog 27 td27:=⟨by kernel_rfl,by kernel_rfl,by kernel_rfl,by kernel_rfl,by kernel_rfl,by kernel_rfl,by kernel_rfl,by kernel_rfl,by kernel_rfl,by kernel_rfl,by kernel_rfl,fun N=>by kernel_rfl,fun i h=>(by first | (injection h with h; subst h; exact ⟨rfl,rfl⟩) | cases h),fun n i h=>(by cases h),.inr rfl,.inr rfl,fun x k r h=>(by cases h),fun l h=>z7 h,fun h=>(by cases h)⟩
def td29:TD UU:={ has:=true,agg:=true,cells:=3,bytes:=40,code:=some TI.node,flds:=[(0,3),(1,3),(2,27)],isStruct:=true,zero:=some [.int .i64 0,.int .i64 0,.nil] }
theorem zQQ:Facts CC Tryz.prog 29 td29:=⟨by kernel_rfl,by kernel_rfl,by kernel_rfl,by kernel_rfl,by kernel_rfl,by kernel_rfl,by kernel_rfl,by kernel_rfl,by kernel_rfl,by kernel_rfl,by kernel_rfl,fun N=>by kernel_rfl,fun i h=>(by first | (injection h with h; subst h; exact ⟨rfl,rfl⟩) | cases h),fun n i h=>(by cases h),.inr rfl,.inr rfl,fun x k r h=>(by cases h),fun l h=>z7 h,fun h=>(by cases h)⟩
def td30:TD UU:={ has:=true,agg:=false,cells:=1,bytes:=8,code:=some TI.int,ik:=some .i64,zero:=some [.int .i64 0] }
theorem zPZ:Facts CC Tryz.prog 30 td30:=⟨by kernel_rfl,by kernel_rfl,by kernel_rfl,by kernel_rfl,by kernel_rfl,by kernel_rfl,by kernel_rfl,by kernel_rfl,by kernel_rfl,by kernel_rfl,by kernel_rfl,fun N=>by kernel_rfl,fun i h=>(by first | (injection h with h; subst h; exact ⟨rfl,rfl⟩) | cases h),fun n i h=>(by cases h),.inr rfl,.inr rfl,fun x k r h=>(by cases h),fun l h=>z7 h,fun h=>(by cases h)⟩
def td44:TD UU:={ has:=true,agg:=false,cells:=1,bytes:=24,el:=some 47,zero:=some [.nil] }
theorem zPS:Facts CC Tryz.prog 44 td44:=⟨by kernel_rfl,by kernel_rfl,by kernel_rfl,by kernel_rfl,by kernel_rfl,by kernel_rfl,by kernel_rfl,by kernel_rfl,by kernel_rfl,by kernel_rfl,by kernel_rfl,fun N=>by kernel_rfl,fun i h=>(by first | (injection h with h; subst h; exact ⟨rfl,rfl⟩) | cases h),fun n i h=>(by cases h),.inr rfl,.inr rfl,fun x k r h=>(by cases h),fun l h=>z7 h,fun h=>(by cases h)⟩
def td47:TD UU:={ has:=true,agg:=true,cells:=2,bytes:=16,code:=some TI.bind,flds:=[(0,3),(1,3)],isStruct:=true,zero:=some [.int .i64 0,.int .i64 0],eqk:=some [.i,.i] }
theorem eqq47 (us vs:List Value) (h:vkq [KQ.i,.i] us vs=true):zDk Tryz.prog 47 us vs=true/\zDS Tryz.prog 47 us vs=eqVs us vs:=by
 obtain ⟨k0,n0,m0,u0,v0,rfl,rfl,h0⟩:=zMI h;obtain ⟨k1,n1,m1,u1,v1,rfl,rfl,h1⟩:=zMI h0;obtain ⟨rfl,rfl⟩:=zKs h1;exact ⟨by kernel_rfl,by kernel_rfl⟩
theorem eqqs47 {l:List KQ} (h:some [KQ.i,.i]=some l) (us vs:List Value) (hv:vkq l us vs=true):zDk Tryz.prog 47 us vs=true/\zDS Tryz.prog 47 us vs=eqVs us vs:=by
 rw [<- Option.some.inj h] at hv;exact eqq47 us vs hv
theorem zPK:Facts CC Tryz.prog 47 td47:=⟨by kernel_rfl,by kernel_rfl,by kernel_rfl,by kernel_rfl,by kernel_rfl,by kernel_rfl,by kernel_rfl,by kernel_rfl,by kernel_rfl,by kernel_rfl,by kernel_rfl,fun N=>by kernel_rfl,fun i h=>(by first | (injection h with h; subst h; exact ⟨rfl,rfl⟩) | cases h),fun n i h=>(by cases h),.inr rfl,.inr rfl,fun x k r h=>(by cases h),fun l h=>eqqs47 h,fun h=>(by cases h)⟩
def td49:TD UU:={ has:=true,agg:=false,cells:=1,bytes:=24,el:=some 3,zero:=some [.nil] }
theorem zPM:Facts CC Tryz.prog 49 td49:=⟨by kernel_rfl,by kernel_rfl,by kernel_rfl,by kernel_rfl,by kernel_rfl,by kernel_rfl,by kernel_rfl,by kernel_rfl,by kernel_rfl,by kernel_rfl,by kernel_rfl,fun N=>by kernel_rfl,fun i h=>(by first | (injection h with h; subst h; exact ⟨rfl,rfl⟩) | cases h),fun n i h=>(by cases h),.inr rfl,.inr rfl,fun x k r h=>(by cases h),fun l h=>z7 h,fun h=>(by cases h)⟩
def td57:TD UU:={ has:=true,agg:=false,cells:=1,bytes:=24,el:=some 9,zero:=some [.nil] }
theorem zQq:Facts CC Tryz.prog 57 td57:=⟨by kernel_rfl,by kernel_rfl,by kernel_rfl,by kernel_rfl,by kernel_rfl,by kernel_rfl,by kernel_rfl,by kernel_rfl,by kernel_rfl,by kernel_rfl,by kernel_rfl,fun N=>by kernel_rfl,fun i h=>(by first | (injection h with h; subst h; exact ⟨rfl,rfl⟩) | cases h),fun n i h=>(by cases h),.inr rfl,.inr rfl,fun x k r h=>(by cases h),fun l h=>z7 h,fun h=>(by cases h)⟩
def td58:TD UU:={ has:=true,agg:=true,cells:=33,bytes:=528,zero:=some [.str [],.str [],.str [],.str [],.str [],.str [],.str [],.str [],.str [],.str [],.str [],.str [],.str [],.str [],.str [],.str [],.str [],.str [],.str [],.str [],.str [],.str [],.str [],.str [],.str [],.str [],.str [],.str [],.str [],.str [],.str [],.str [],.str []],arr:=some (33,TI.str),bpl:=[(0,9),(1,9),(2,9),(3,9),(4,9),(5,9),(6,9),(7,9),(8,9),(9,9),(10,9),(11,9),(12,9),(13,9),(14,9),(15,9),(16,9),(17,9),(18,9),(19,9),(20,9),(21,9),(22,9),(23,9),(24,9),(25,9),(26,9),(27,9),(28,9),(29,9),(30,9),(31,9),(32,9)] }
set_option maxRecDepth 100000 in
theorem zPu:Facts CC Tryz.prog 58 td58:=⟨by kernel_rfl,by kernel_rfl,by kernel_rfl,by kernel_rfl,by kernel_rfl,by kernel_rfl,by kernel_rfl,by kernel_rfl,by kernel_rfl,by kernel_rfl,by kernel_rfl,fun N=>by kernel_rfl,fun i h=>(by first | (injection h with h; subst h; exact ⟨rfl,rfl⟩) | cases h),fun n i h=>(by injection h with h; injection h with h _; subst h; kernel_rfl),.inr rfl,.inl (by kernel_rfl),fun x k r h=>(by cases h),fun l h=>z7 h,fun h=>(by cases h)⟩
def td61:TD UU:={ has:=true,agg:=true,cells:=0,bytes:=0,flds:=[],isStruct:=true,zero:=some [] }
theorem zRU:Facts CC Tryz.prog 61 td61:=⟨by kernel_rfl,by kernel_rfl,by kernel_rfl,by kernel_rfl,by kernel_rfl,by kernel_rfl,by kernel_rfl,by kernel_rfl,by kernel_rfl,by kernel_rfl,by kernel_rfl,fun N=>by kernel_rfl,fun i h=>(by first | (injection h with h; subst h; exact ⟨rfl,rfl⟩) | cases h),fun n i h=>(by cases h),.inr rfl,.inr rfl,fun x k r h=>(by cases h),fun l h=>z7 h,fun h=>(by cases h)⟩
def td62:TD UU:={ has:=true,agg:=false,cells:=1,bytes:=8,zero:=some [.con (.pointer none)] }
theorem zQy:Facts CC Tryz.prog 62 td62:=⟨by kernel_rfl,by kernel_rfl,by kernel_rfl,by kernel_rfl,by kernel_rfl,by kernel_rfl,by kernel_rfl,by kernel_rfl,by kernel_rfl,by kernel_rfl,by kernel_rfl,fun N=>by kernel_rfl,fun i h=>(by first | (injection h with h; subst h; exact ⟨rfl,rfl⟩) | cases h),fun n i h=>(by cases h),.inr rfl,.inr rfl,fun x k r h=>(by cases h),fun l h=>z7 h,fun h=>(by cases h)⟩
def td63:TD UU:={ has:=true,agg:=false,cells:=1,bytes:=8,zero:=some [.con (.map none)],mpi:=true }
theorem zPU:Facts CC Tryz.prog 63 td63:=⟨by kernel_rfl,by kernel_rfl,by kernel_rfl,by kernel_rfl,by kernel_rfl,by kernel_rfl,by kernel_rfl,by kernel_rfl,by kernel_rfl,by kernel_rfl,by kernel_rfl,fun N=>by kernel_rfl,fun i h=>(by first | (injection h with h; subst h; exact ⟨rfl,rfl⟩) | cases h),fun n i h=>(by cases h),.inr rfl,.inr rfl,fun x k r h=>(by cases h),fun l h=>z7 h,fun _=>⟨3,by kernel_rfl,by kernel_rfl⟩⟩
def td64:TD UU:={ has:=true,agg:=false,cells:=1,bytes:=24,el:=some 63,zero:=some [.nil] }
theorem zQp:Facts CC Tryz.prog 64 td64:=⟨by kernel_rfl,by kernel_rfl,by kernel_rfl,by kernel_rfl,by kernel_rfl,by kernel_rfl,by kernel_rfl,by kernel_rfl,by kernel_rfl,by kernel_rfl,by kernel_rfl,fun N=>by kernel_rfl,fun i h=>(by first | (injection h with h; subst h; exact ⟨rfl,rfl⟩) | cases h),fun n i h=>(by cases h),.inr rfl,.inr rfl,fun x k r h=>(by cases h),fun l h=>z7 h,fun h=>(by cases h)⟩
def td66:TD UU:={ has:=true,agg:=true,cells:=4,bytes:=64,flds:=[(0,24),(1,3),(2,64),(3,63)],isStruct:=true,zero:=some [.nil,.int .i64 0,.nil,.con (.map none)] }
theorem zPW:Facts CC Tryz.prog 66 td66:=⟨by kernel_rfl,by kernel_rfl,by kernel_rfl,by kernel_rfl,by kernel_rfl,by kernel_rfl,by kernel_rfl,by kernel_rfl,by kernel_rfl,by kernel_rfl,by kernel_rfl,fun N=>by kernel_rfl,fun i h=>(by first | (injection h with h; subst h; exact ⟨rfl,rfl⟩) | cases h),fun n i h=>(by cases h),.inr rfl,.inr rfl,fun x k r h=>(by cases h),fun l h=>z7 h,fun h=>(by cases h)⟩
def td68:TD UU:={ has:=true,agg:=true,cells:=1,bytes:=24,flds:=[(0,27)],isStruct:=true,zero:=some [.nil] }
theorem zQP:Facts CC Tryz.prog 68 td68:=⟨by kernel_rfl,by kernel_rfl,by kernel_rfl,by kernel_rfl,by kernel_rfl,by kernel_rfl,by kernel_rfl,by kernel_rfl,by kernel_rfl,by kernel_rfl,by kernel_rfl,fun N=>by kernel_rfl,fun i h=>(by first | (injection h with h; subst h; exact ⟨rfl,rfl⟩) | cases h),fun n i h=>(by cases h),.inr rfl,.inr rfl,fun x k r h=>(by cases h),fun l h=>z7 h,fun h=>(by cases h)⟩
def td76:TD UU:={ has:=true,agg:=false,cells:=1,bytes:=8,zero:=some [.con (.pointer none)] }
theorem zRS:Facts CC Tryz.prog 76 td76:=⟨by kernel_rfl,by kernel_rfl,by kernel_rfl,by kernel_rfl,by kernel_rfl,by kernel_rfl,by kernel_rfl,by kernel_rfl,by kernel_rfl,by kernel_rfl,by kernel_rfl,fun N=>by kernel_rfl,fun i h=>(by first | (injection h with h; subst h; exact ⟨rfl,rfl⟩) | cases h),fun n i h=>(by cases h),.inr rfl,.inr rfl,fun x k r h=>(by cases h),fun l h=>z7 h,fun h=>(by cases h)⟩
def td77:TD UU:={ has:=true,agg:=false,cells:=1,bytes:=8,zero:=some [.con (.pointer none)] }
theorem zQU:Facts CC Tryz.prog 77 td77:=⟨by kernel_rfl,by kernel_rfl,by kernel_rfl,by kernel_rfl,by kernel_rfl,by kernel_rfl,by kernel_rfl,by kernel_rfl,by kernel_rfl,by kernel_rfl,by kernel_rfl,fun N=>by kernel_rfl,fun i h=>(by first | (injection h with h; subst h; exact ⟨rfl,rfl⟩) | cases h),fun n i h=>(by cases h),.inr rfl,.inr rfl,fun x k r h=>(by cases h),fun l h=>z7 h,fun h=>(by cases h)⟩
def td79:TD UU:={ has:=true,agg:=true,cells:=6,bytes:=80,flds:=[(0,24),(1,44),(2,77),(3,63),(4,63),(5,77)],isStruct:=true,zero:=some [.nil,.nil,.con (.pointer none),.con (.map none),.con (.map none),.con (.pointer none)] }
theorem zQb:Facts CC Tryz.prog 79 td79:=⟨by kernel_rfl,by kernel_rfl,by kernel_rfl,by kernel_rfl,by kernel_rfl,by kernel_rfl,by kernel_rfl,by kernel_rfl,by kernel_rfl,by kernel_rfl,by kernel_rfl,fun N=>by kernel_rfl,fun i h=>(by first | (injection h with h; subst h; exact ⟨rfl,rfl⟩) | cases h),fun n i h=>(by cases h),.inr rfl,.inr rfl,fun x k r h=>(by cases h),fun l h=>z7 h,fun h=>(by cases h)⟩
def td88:TD UU:={ has:=true,agg:=false,cells:=1,bytes:=8,zero:=some [.con (.pointer none)] }
theorem zPs:Facts CC Tryz.prog 88 td88:=⟨by kernel_rfl,by kernel_rfl,by kernel_rfl,by kernel_rfl,by kernel_rfl,by kernel_rfl,by kernel_rfl,by kernel_rfl,by kernel_rfl,by kernel_rfl,by kernel_rfl,fun N=>by kernel_rfl,fun i h=>(by first | (injection h with h; subst h; exact ⟨rfl,rfl⟩) | cases h),fun n i h=>(by cases h),.inr rfl,.inr rfl,fun x k r h=>(by cases h),fun l h=>z7 h,fun h=>(by cases h)⟩
def td99:TD UU:={ has:=true,agg:=false,cells:=1,bytes:=24,el:=some 108,zero:=some [.nil] }
theorem zPq:Facts CC Tryz.prog 99 td99:=⟨by kernel_rfl,by kernel_rfl,by kernel_rfl,by kernel_rfl,by kernel_rfl,by kernel_rfl,by kernel_rfl,by kernel_rfl,by kernel_rfl,by kernel_rfl,by kernel_rfl,fun N=>by kernel_rfl,fun i h=>(by first | (injection h with h; subst h; exact ⟨rfl,rfl⟩) | cases h),fun n i h=>(by cases h),.inr rfl,.inr rfl,fun x k r h=>(by cases h),fun l h=>z7 h,fun h=>(by cases h)⟩
def td101:TD UU:={ has:=true,agg:=false,cells:=1,bytes:=8,zero:=some [.con (.pointer none)] }
theorem zN3:Facts CC Tryz.prog 101 td101:=⟨by kernel_rfl,by kernel_rfl,by kernel_rfl,by kernel_rfl,by kernel_rfl,by kernel_rfl,by kernel_rfl,by kernel_rfl,by kernel_rfl,by kernel_rfl,by kernel_rfl,fun N=>by kernel_rfl,fun i h=>(by first | (injection h with h; subst h; exact ⟨rfl,rfl⟩) | cases h),fun n i h=>(by cases h),.inr rfl,.inr rfl,fun x k r h=>(by cases h),fun l h=>z7 h,fun h=>(by cases h)⟩
def td104:TD UU:={ has:=true,agg:=true,cells:=2,bytes:=24,flds:=[(0,9),(1,3)],isStruct:=true,zero:=some [.str [],.int .i64 0] }
theorem zOJ:Facts CC Tryz.prog 104 td104:=⟨by kernel_rfl,by kernel_rfl,by kernel_rfl,by kernel_rfl,by kernel_rfl,by kernel_rfl,by kernel_rfl,by kernel_rfl,by kernel_rfl,by kernel_rfl,by kernel_rfl,fun N=>by kernel_rfl,fun i h=>(by first | (injection h with h; subst h; exact ⟨rfl,rfl⟩) | cases h),fun n i h=>(by cases h),.inr rfl,.inr rfl,fun x k r h=>(by cases h),fun l h=>z7 h,fun h=>(by cases h)⟩
def td108:TD UU:={ has:=true,agg:=true,cells:=2,bytes:=16,code:=some TI.char,flds:=[(0,5),(1,3)],isStruct:=true,zero:=some [.int .u8 0,.int .i64 0] }
theorem zPE:Facts CC Tryz.prog 108 td108:=⟨by kernel_rfl,by kernel_rfl,by kernel_rfl,by kernel_rfl,by kernel_rfl,by kernel_rfl,by kernel_rfl,by kernel_rfl,by kernel_rfl,by kernel_rfl,by kernel_rfl,fun N=>by kernel_rfl,fun i h=>(by first | (injection h with h; subst h; exact ⟨rfl,rfl⟩) | cases h),fun n i h=>(by cases h),.inr rfl,.inr rfl,fun x k r h=>(by cases h),fun l h=>z7 h,fun h=>(by cases h)⟩
def td109:TD UU:={ has:=true,agg:=false,cells:=1,bytes:=8,ik:=some .u64,zero:=some [.int .u64 0] }
theorem zOD:Facts CC Tryz.prog 109 td109:=⟨by kernel_rfl,by kernel_rfl,by kernel_rfl,by kernel_rfl,by kernel_rfl,by kernel_rfl,by kernel_rfl,by kernel_rfl,by kernel_rfl,by kernel_rfl,by kernel_rfl,fun N=>by kernel_rfl,fun i h=>(by first | (injection h with h; subst h; exact ⟨rfl,rfl⟩) | cases h),fun n i h=>(by cases h),.inr rfl,.inr rfl,fun x k r h=>(by cases h),fun l h=>z7 h,fun h=>(by cases h)⟩
def td114:TD UU:={ has:=true,agg:=true,cells:=2,bytes:=16,flds:=[(0,63),(1,63)],isStruct:=true,zero:=some [.con (.map none),.con (.map none)] }
theorem zO5:Facts CC Tryz.prog 114 td114:=⟨by kernel_rfl,by kernel_rfl,by kernel_rfl,by kernel_rfl,by kernel_rfl,by kernel_rfl,by kernel_rfl,by kernel_rfl,by kernel_rfl,by kernel_rfl,by kernel_rfl,fun N=>by kernel_rfl,fun i h=>(by first | (injection h with h; subst h; exact ⟨rfl,rfl⟩) | cases h),fun n i h=>(by cases h),.inr rfl,.inr rfl,fun x k r h=>(by cases h),fun l h=>z7 h,fun h=>(by cases h)⟩
def td116:TD UU:={ has:=true,agg:=true,cells:=3,bytes:=24,flds:=[(0,114),(2,77)],isStruct:=true,zero:=some [.con (.map none),.con (.map none),.con (.pointer none)] }
theorem zN1:Facts CC Tryz.prog 116 td116:=⟨by kernel_rfl,by kernel_rfl,by kernel_rfl,by kernel_rfl,by kernel_rfl,by kernel_rfl,by kernel_rfl,by kernel_rfl,by kernel_rfl,by kernel_rfl,by kernel_rfl,fun N=>by kernel_rfl,fun i h=>(by first | (injection h with h; subst h; exact ⟨rfl,rfl⟩) | cases h),fun n i h=>(by cases h),.inr rfl,.inr rfl,fun x k r h=>(by cases h),fun l h=>z7 h,fun h=>(by cases h)⟩
def td118:TD UU:={ has:=true,agg:=true,cells:=8,bytes:=128,zero:=some [.str [],.str [],.str [],.str [],.str [],.str [],.str [],.str []],arr:=some (8,TI.str),bpl:=[(0,9),(1,9),(2,9),(3,9),(4,9),(5,9),(6,9),(7,9)] }
set_option maxRecDepth 100000 in
theorem zOQ:Facts CC Tryz.prog 118 td118:=⟨by kernel_rfl,by kernel_rfl,by kernel_rfl,by kernel_rfl,by kernel_rfl,by kernel_rfl,by kernel_rfl,by kernel_rfl,by kernel_rfl,by kernel_rfl,by kernel_rfl,fun N=>by kernel_rfl,fun i h=>(by first | (injection h with h; subst h; exact ⟨rfl,rfl⟩) | cases h),fun n i h=>(by injection h with h; injection h with h _; subst h; kernel_rfl),.inr rfl,.inl (by kernel_rfl),fun x k r h=>(by cases h),fun l h=>z7 h,fun h=>(by cases h)⟩
def td119:TD UU:={ has:=true,agg:=true,cells:=9,bytes:=144,zero:=some [.str [],.str [],.str [],.str [],.str [],.str [],.str [],.str [],.str []],arr:=some (9,TI.str),bpl:=[(0,9),(1,9),(2,9),(3,9),(4,9),(5,9),(6,9),(7,9),(8,9)] }
set_option maxRecDepth 100000 in
theorem zPB:Facts CC Tryz.prog 119 td119:=⟨by kernel_rfl,by kernel_rfl,by kernel_rfl,by kernel_rfl,by kernel_rfl,by kernel_rfl,by kernel_rfl,by kernel_rfl,by kernel_rfl,by kernel_rfl,by kernel_rfl,fun N=>by kernel_rfl,fun i h=>(by first | (injection h with h; subst h; exact ⟨rfl,rfl⟩) | cases h),fun n i h=>(by injection h with h; injection h with h _; subst h; kernel_rfl),.inr rfl,.inl (by kernel_rfl),fun x k r h=>(by cases h),fun l h=>z7 h,fun h=>(by cases h)⟩
def td125:TD UU:={ has:=true,agg:=false,cells:=1,bytes:=24,el:=some 5,zero:=some [.nil],isByt:=true }
theorem zOc:Facts CC Tryz.prog 125 td125:=⟨by kernel_rfl,by kernel_rfl,by kernel_rfl,by kernel_rfl,by kernel_rfl,by kernel_rfl,by kernel_rfl,by kernel_rfl,by kernel_rfl,by kernel_rfl,by kernel_rfl,fun N=>by kernel_rfl,fun i h=>(by first | (injection h with h; subst h; exact ⟨rfl,rfl⟩) | cases h),fun n i h=>(by cases h),.inl (by kernel_rfl),.inr rfl,fun x k r h=>(by cases h),fun l h=>z7 h,fun h=>(by cases h)⟩
def td131:TD UU:={ has:=true,agg:=false,cells:=1,bytes:=4,ik:=some .u32,zero:=some [.int .u32 0] }
theorem zOW:Facts CC Tryz.prog 131 td131:=⟨by kernel_rfl,by kernel_rfl,by kernel_rfl,by kernel_rfl,by kernel_rfl,by kernel_rfl,by kernel_rfl,by kernel_rfl,by kernel_rfl,by kernel_rfl,by kernel_rfl,fun N=>by kernel_rfl,fun i h=>(by first | (injection h with h; subst h; exact ⟨rfl,rfl⟩) | cases h),fun n i h=>(by cases h),.inr rfl,.inr rfl,fun x k r h=>(by cases h),fun l h=>z7 h,fun h=>(by cases h)⟩
def td134:TD UU:={ has:=true,agg:=false,cells:=1,bytes:=8,ik:=some .u64,zero:=some [.int .u64 0] }
theorem zPH:Facts CC Tryz.prog 134 td134:=⟨by kernel_rfl,by kernel_rfl,by kernel_rfl,by kernel_rfl,by kernel_rfl,by kernel_rfl,by kernel_rfl,by kernel_rfl,by kernel_rfl,by kernel_rfl,by kernel_rfl,fun N=>by kernel_rfl,fun i h=>(by first | (injection h with h; subst h; exact ⟨rfl,rfl⟩) | cases h),fun n i h=>(by cases h),.inr rfl,.inr rfl,fun x k r h=>(by cases h),fun l h=>z7 h,fun h=>(by cases h)⟩
def td146:TD UU:={ has:=true,agg:=true,cells:=48,bytes:=768,zero:=some [.str [],.str [],.str [],.str [],.str [],.str [],.str [],.str [],.str [],.str [],.str [],.str [],.str [],.str [],.str [],.str [],.str [],.str [],.str [],.str [],.str [],.str [],.str [],.str [],.str [],.str [],.str [],.str [],.str [],.str [],.str [],.str [],.str [],.str [],.str [],.str [],.str [],.str [],.str [],.str [],.str [],.str [],.str [],.str [],.str [],.str [],.str [],.str []],arr:=some (48,TI.str),bpl:=[(0,9),(1,9),(2,9),(3,9),(4,9),(5,9),(6,9),(7,9),(8,9),(9,9),(10,9),(11,9),(12,9),(13,9),(14,9),(15,9),(16,9),(17,9),(18,9),(19,9),(20,9),(21,9),(22,9),(23,9),(24,9),(25,9),(26,9),(27,9),(28,9),(29,9),(30,9),(31,9),(32,9),(33,9),(34,9),(35,9),(36,9),(37,9),(38,9),(39,9),(40,9),(41,9),(42,9),(43,9),(44,9),(45,9),(46,9),(47,9)] }
set_option maxRecDepth 100000 in
theorem zOp:Facts CC Tryz.prog 146 td146:=⟨by kernel_rfl,by kernel_rfl,by kernel_rfl,by kernel_rfl,by kernel_rfl,by kernel_rfl,by kernel_rfl,by kernel_rfl,by kernel_rfl,by kernel_rfl,by kernel_rfl,fun N=>by kernel_rfl,fun i h=>(by first | (injection h with h; subst h; exact ⟨rfl,rfl⟩) | cases h),fun n i h=>(by injection h with h; injection h with h _; subst h; kernel_rfl),.inr rfl,.inl (by kernel_rfl),fun x k r h=>(by cases h),fun l h=>z7 h,fun h=>(by cases h)⟩
def tdL:List (Nat×TD UU):=[(3,td3),(4,td4),(5,td5),(9,td9),(20,td20),(24,td24),(26,td26),(27,td27),(29,td29),(30,td30),(44,td44),(47,td47),(49,td49),(57,td57),(58,td58),(61,td61),(62,td62),(63,td63),(64,td64),(66,td66),(68,td68),(76,td76),(77,td77),(79,td79),(88,td88),(99,td99),(101,td101),(104,td104),(108,td108),(109,td109),(114,td114),(116,td116),(118,td118),(119,td119),(125,td125),(131,td131),(134,td134),(146,td146)]
def Tb:Nat->TD UU:=zGW tdL
theorem zGA:TbOk CC Tryz.prog Tb:=zJF (by
 intro p hp;simp only [tdL,List.mem_cons,List.not_mem_nil,or_false] at hp;rcases hp with rfl | rfl | rfl | rfl | rfl | rfl | rfl | rfl | rfl | rfl | rfl | rfl | rfl | rfl | rfl | rfl | rfl | rfl | rfl | rfl | rfl | rfl | rfl | rfl | rfl | rfl | rfl | rfl | rfl | rfl | rfl | rfl | rfl | rfl | rfl | rfl | rfl | rfl
 . exact td3_ok
 . exact td4_ok
 . exact td5_ok
 . exact td9_ok
 . exact zQF
 . exact zQB
 . exact zQm
 . exact zPe
 . exact zQQ
 . exact zPZ
 . exact zPS
 . exact zPK
 . exact zPM
 . exact zQq
 . exact zPu
 . exact zRU
 . exact zQy
 . exact zPU
 . exact zQp
 . exact zPW
 . exact zQP
 . exact zRS
 . exact zQU
 . exact zQb
 . exact zPs
 . exact zPq
 . exact zN3
 . exact zOJ
 . exact zPE
 . exact zOD
 . exact zO5
 . exact zN1
 . exact zOQ
 . exact zPB
 . exact zOc
 . exact zOW
 . exact zPH
 . exact zOp)
end
section
open Go.Al Go.Den Go.ChangeShapes Go.WideShapes Go.ChangeAt Go.RowKit
theorem zHR {g:Gh} {w:World} (B:Nat->BindT):∀ l:List Nat,RCs g w ((l.map B).map (CC.encV TI.bind)) (l.flatMap fun i=>[.int .i64 (B i).space,.int .i64 (B i).fto])
 | []=>rfl
 | z::r=>by
  show RCs g w (V.agg [.at (.int .i64 (B z).space),.at (.int .i64 (B z).fto)]::(r.map B).map (CC.encV TI.bind)) ([.int .i64 (B z).space,.int .i64 (B z).fto]++r.flatMap _);simp only [RCs,RC];exact ⟨_,_,rfl,⟨[_],_,rfl,⟨rfl,rfl⟩,[_],_,rfl,⟨rfl,rfl⟩,rfl⟩,zHR B r⟩
theorem zEY (F G:Nat->Value):∀ n,((List.range n).flatMap fun i=>[F i,G i]).length=n * 2
 | 0=>rfl
 | n+1=>by rw [List.range_succ,List.flatMap_append,List.length_append,zEY F G n]; simp; omega
theorem zFP (F G:Nat->Value):∀ (n k:Nat),k < n * 2->((List.range n).flatMap fun i=>[F i,G i])[k]? = some (if k % 2=0 then F (k / 2) else G (k / 2))
 | 0,k,h=>by omega
 | n+1,k,h=>by
  rw [List.range_succ,List.flatMap_append];have hl:=zEY F G n;rcases Nat.lt_or_ge k (n * 2) with h1 | h1
  . rw [List.getElem?_append_left (by omega)];exact zFP F G n k h1
  . rw [List.getElem?_append_right (by omega),hl];rcases (show k=n * 2\/k=n * 2+1 by omega) with rfl | rfl
    . simp
    . have e1:(n * 2+1) % 2=1:=by omega
      have e2:(n * 2+1) / 2=n:=by omega
      simp [e1,e2]
theorem zF7 {P:Program} {W:World} {base:Nat} {H:Type} {enc:TypeId×Value->H} {t e:TypeId} {f0 f1:Field} {v:Value} {d:DataW H} {ps:List MemPlace} (ht:P.underlying t=some (.slice e)) (he:P.underlying e=some (.struct #[f0,f1]))
 (ce:P.cellsOf e=2) (o0:f0.offset=0) (o1:f1.offset=1) (c0:P.cellsOf f0.type=1) (c1:P.cellsOf f1.type=1) (i0:P.underlying f0.type=some (.int .i64)) (i1:P.underlying f1.type=some (.int .i64))
 (hv:Value.okWide P W .any base t v) (hd:DataW.Trod enc P W 0 (fun _=>true) true t v d ps) :
 ∃ (n:Bool) (zs:List BindT),RV1 ⟨wmOf W,fun _=>none,Fr.no⟩ W (.lst (if n then .nil else .no) (zs.map (CC.encV TI.bind))) v:=by
 obtain ⟨a0,len0,cap0,rfl⟩:=okWide_slice ht hv;obtain ⟨fuel,hf⟩:=hd;rcases Go.Deep.open_slice_pairs ht he ce o0 o1 c0 c1 hf with ⟨hcs,_⟩ | ⟨x,l,c,m,n,V0,V1,D0,D1,P0,P1,hcs,_,hl,hm,hmm,_,hcell⟩
 . simp [Value.cells] at hcs;obtain ⟨rfl,rfl,rfl⟩:=hcs;exact ⟨true,[],[.slice none 0 0],by unfold RC; exact .inl ⟨rfl,rfl,by simp [zDu]⟩,rfl⟩
 . simp [Value.cells] at hcs;obtain ⟨rfl,rfl,rfl⟩:=hcs;have hspot:x.spot=none:=by
    simp only [Value.okWide,ht,Cell.okWide,Cell.ok] at hv;exact hv.2.2.2.1
   obtain ⟨b,o,sp⟩:=x;simp only at hspot;subst hspot;have hmc:m=cap0:=by rw [hmm]; rfl
   subst hmc;obtain ⟨zi,hzi⟩:∃ zi:Value->Int,zi=fun v=>match v with | .int _ z=>z | _=>0:=⟨_,rfl⟩
   have hV:∀ i,i < m->V0 i = .int .i64 (zi (V0 i))/\V1 i = .int .i64 (zi (V1 i)):=fun i hi=>by
    obtain ⟨_,_,q1,q2⟩:=hcell i hi;obtain ⟨z0,e0,_⟩:=DataW.trod_int i0 q1;obtain ⟨z1,e1,_⟩:=DataW.trod_int i1 q2;injection e0 with e0 _
    injection e1 with e1 _
    rw [e0,e1,hzi];exact ⟨rfl,rfl⟩
   obtain ⟨B,hB⟩:∃ B:Nat->BindT,B=fun i=>BindT.mk (zi (V0 i)) (zi (V1 i)):=⟨_,rfl⟩;have hlen:(((List.range len0).map B).map (CC.encV TI.bind)).length=len0:=(List.length_map _).trans ((List.length_map _).trans List.length_range);refine ⟨false,(List.range len0).map B,[.slice (some ⟨b,o,none⟩) len0 m],?_,rfl⟩;simp only [RC,Bool.false_eq_true,if_false];refine .inr ⟨b,o,m,(List.range len0).flatMap fun i=>[.int .i64 (B i).space,.int .i64 (B i).fto],?_,?_,trivial,zHR B _,⟨2,?_,fun _ _ _ h=>by cases h⟩,?_⟩
   . rw [hlen]
   . rw [hlen]; omega
   . intro y hy;obtain ⟨z,_,rfl⟩:=List.mem_map.1 hy;rfl
   . intro k u hk;have hlt:k < len0 * 2:=by
      have h1:=(List.getElem?_eq_some_iff.1 hk).1;have h2:=zEY (fun i=>Value.int .i64 (B i).space) (fun i=>Value.int .i64 (B i).fto) len0;omega
     rw [zFP _ _ len0 k hlt] at hk;injection hk with hk
     have hadd:∀ j,(⟨b,o,none⟩:Addr).add j=⟨b,o+j,none⟩:=fun j=>by
      unfold Addr.add;split
      . rename_i h0; subst h0; rfl
      . rfl
     obtain ⟨q1,q2,_,_⟩:=hcell (k / 2) (by omega);obtain ⟨g0,g1⟩:=hV (k / 2) (by omega);rw [hadd] at q1 q2;have key:W.cell? ⟨b,o+k,none⟩=some u:=by
      rw [<- hk];split
      . rename_i h0;have e:k / 2 * 2=k:=by omega
        rw [e] at q1;rw [q1,g0,hB]
      . rename_i h0;have e:k / 2 * 2+1=k:=by omega
        rw [e] at q2;rw [q2,g1,hB]
     exact ⟨key,zNU key⟩
end
end Go.Proofs.YtnamdpbcpnnhaaaGreatDoor
section
namespace Go.Den
def zn (l:List (Nat×List (Nat×Nat×Nat))) (n:Nat):List (Nat×Nat×Nat):=(zD l n).getD []
end Go.Den
namespace Go.Proofs.YtnamdpbcpnnhaaaGreatDoor
open Go.Al Go.Den
abbrev PSt:=Int×List MT
abbrev MM (α:Type):=List TokT->PSt->Option (Option (α×PSt))
abbrev LK:=List (SK UU)
abbrev Str:=List UInt8
abbrev NdsT:=List Nd×Unit
def ndE (x:Nd):Nd:=Nd.mk (Nd.kind x) (Nd.tok x) (Nd.kids x)
abbrev parK:SK UU:=.box [.dl TI.tok,.int .i64,.scs,.jm]
abbrev parL:SK UU:=.box [.dl TI.tok,.int .i64,.scs,.mpo]
abbrev ptsK:SK UU:=.box [.ow true TI.node]
def syn:List PanicEntry:=[{ v:=.iface 61 (.agg #[]),recovered:=false }]
abbrev ParT:=List TokT×Int×List MT×Unit×Unit
abbrev k0:LK:=[]
abbrev kN:LK:=[.st TI.node]
abbrev kB:LK:=[.bool]
abbrev kS:LK:=[.str]
abbrev kI:LK:=[.int .i64]
abbrev kL:LK:=[.dl TI.str]
abbrev kM:LK:=[.mpo]
abbrev CQ:=CPOk CC Tryz.prog syn
abbrev JT:=Int×(Int×NdsT)
abbrev LT:=List TokT
abbrev ck {ρ:Type} (n:Nat) (x:Option ρ):Option ρ:=cond (okN 40 n) x none
abbrev bo {α ρ:Type} (x:Option (Option α)) (f:α->Option (Option ρ)):Option (Option ρ):=Option.bind x fun o=>zr o (some none) f
theorem rpk {fu d:Nat} {li:List (Nat×FD UU)} {lo:List (Nat×Con UU)} {lr:List (Nat×CR UU)} {lp:List (Nat×CP UU)} {f:Nat} {fd:FD UU} {io oo az rs:LK} {fn:zA io->zA az->Option (Option (zA oo×zA rs))} (h1:∀ f fd,zD li f=some fd->FDOk Tryz.prog (hasN (lo.map (·.1))) (hasN (lr.map (·.1))) f fd) (h2:∀ f c,zD lo f=some c->OrcOk CC Tryz.prog f c) (h3:∀ f c,zD lr f=some c->zQ Tryz.prog f=true/\CROk CC Tryz.prog f c) (h4:∀ f c,zD lp f=some c->zQ Tryz.prog f=true/\CPOk CC Tryz.prog syn f c) (h5:FDOk Tryz.prog (hasN (lo.map (·.1))) (hasN (lr.map (·.1))) f fd) (h6:Nat.ble (io.length+az.length) fd.n=true) (h:∀ x a,runP CC Tb fu d (zD li) (zD lo) (zD lr) (zD lp) fd io oo az rs x a=fn x a):CPOk CC Tryz.prog syn f ⟨io,oo,az,rs,fnP fn⟩:=zKx zGA CCok mixed (fun g=>(qI (l:=lo) g).symm) (fun g=>(qI (l:=lr) g).symm) h1 h2 h3 h4 h5 (Nat.le_of_ble_eq_true h6) h
theorem rfk {fu d:Nat} {li:List (Nat×FD UU)} {lo:List (Nat×Con UU)} {lr:List (Nat×CR UU)} {lp:List (Nat×CP UU)} {f:Nat} {fd:FD UU} {c:Con UU} (h1:∀ f fd,zD li f=some fd->FDOk Tryz.prog (hasN (lo.map (·.1))) (hasN (lr.map (·.1))) f fd) (h2:∀ f c,zD lo f=some c->OrcOk CC Tryz.prog f c) (h3:∀ f c,zD lr f=some c->zQ Tryz.prog f=true/\CROk CC Tryz.prog f c) (h4:∀ f c,zD lp f=some c->zQ Tryz.prog f=true/\CPOk CC Tryz.prog syn f c) (h5:FDOk Tryz.prog (hasN (lo.map (·.1))) (hasN (lr.map (·.1))) f fd) (h6:Nat.ble (Con.as c).length fd.n=true) (h7:∀ a ∈ c.rs,∀ i,a≠.ls i) (h:∀ nf x,jF CC Tb fu d (zD li) (zD lo) (zD lr) (zD lp) fd (Con.as c) c.rs nf x=c.fn x):ConOk CC Tryz.prog f c:=zOv zGA CCok mixed (fun g=>(qI (l:=lo) g).symm) (fun g=>(qI (l:=lr) g).symm) h1 h2 h3 h4 h5 (Nat.le_of_ble_eq_true h6) h7 h
theorem fdk {f:Nat} {fn:Func} {fd:FD UU} {pf rf:FuncId->Bool} (h:Tryz.prog.funcs[f]? = some fn) (h1:fn.ntmps=fd.n) (h2:fn.results=fd.rs.toArray) (h3:fn.body=some fd.body:=by kernel_rfl) (h4:zQ Tryz.prog f=true:=by kernel_rfl) (h5:qd pf rf fd.fi ⟨fd.n,[]⟩ fd.body=true:=by kernel_rfl) (h6:qj fd.fi fd.body=true:=by kernel_rfl):FDOk Tryz.prog pf rf f fd:=⟨⟨fn,h,h3,h1,h2⟩,h4,h5,h6⟩
abbrev zFE:=List TokT×Int×List MT×Option MT×Unit
def fM {aa rs:List (SK UU)} (m:zA aa->MM (zA rs)) {R:Type} (x:ParT×Unit) (a:zA aa) (pan:Option R) (K:ParT×Unit->zA rs->Option R):Option R:=
 Option.bind (m a x.1.1 (x.1.2.1,x.1.2.2.1)) fun o=>zr o pan fun y=>K ((x.1.1,y.2.1,y.2.2,(),()),()) y.1
abbrev cM (aa rs:List (SK UU)) (m:zA aa->MM (zA rs)):CP UU:=⟨[parK],[parK],aa,rs,fun x a pan K=>fM m x a pan K⟩
def fX {aa rs:List (SK UU)} (m:zA aa->List Nd->MM (zA rs×List Nd)) {R:Type} (x:ParT×(List Nd×Unit)×Unit) (a:zA aa) (pan:Option R) (K:ParT×(List Nd×Unit)×Unit->zA rs->Option R):Option R:=
 Option.bind (m a x.2.1.1 x.1.1 (x.1.2.1,x.1.2.2.1)) fun o=>zr o pan fun y=>K ((x.1.1,y.2.1,y.2.2,(),()),(y.1.2,()),()) y.1.1
abbrev cX (aa rs:List (SK UU)) (m:zA aa->List Nd->MM (zA rs×List Nd)):CP UU:=⟨[parK,ptsK],[parK,ptsK],aa,rs,fun x a pan K=>fX m x a pan K⟩
def fL {aa rs:List (SK UU)} (m:zA aa->MM (zA rs×Option MT)) {R:Type} (x:ParT×Unit) (a:zA aa) (pan:Option R) (K:zFE×Unit->zA rs->Option R):Option R:=
 Option.bind (m a x.1.1 (x.1.2.1,x.1.2.2.1)) fun o=>zr o pan fun y=>K ((x.1.1,y.2.1,y.2.2,y.1.2,()),()) y.1.1
abbrev cL (aa rs:List (SK UU)) (m:zA aa->MM (zA rs×Option MT)):CP UU:=⟨[parK],[parL],aa,rs,fun x a pan K=>fL m x a pan K⟩
def fLj {aa rs:List (SK UU)} (m:zA aa->MM (zA rs×Option MT)) {R:Type} (x:ParT×Unit) (a:zA aa) (pan:Option R) (K:ParT×Unit->zA rs->Option R):Option R:=
 Option.bind (m a x.1.1 (x.1.2.1,x.1.2.2.1)) fun o=>zr o pan fun y=>K ((x.1.1,y.2.1,y.2.2,(),()),()) y.1.1
abbrev cLj (aa rs:List (SK UU)) (m:zA aa->MM (zA rs×Option MT)):CP UU:=⟨[parK],[parK],aa,rs,fun x a pan K=>fLj m x a pan K⟩
abbrev parJ:SK UU:=.box [.dl TI.tok,.int .i64,.scs,.mpj]
abbrev jD:=List TokT×Int×List MT×Option (Option MT)×Unit
def fJ {aa rs:List (SK UU)} (m:zA aa->MM (zA rs)) {R:Type} (x:jD×Unit) (a:zA aa) (pan:Option R) (K:jD×Unit->zA rs->Option R):Option R:=
 Option.bind (m a x.1.1 (x.1.2.1,x.1.2.2.1)) fun o=>zr o pan fun y=>K ((x.1.1,y.2.1,y.2.2,x.1.2.2.2.1,()),()) y.1
abbrev cJ (aa rs:List (SK UU)) (m:zA aa->MM (zA rs)):CP UU:=⟨[parJ],[parJ],aa,rs,fun x a pan K=>fJ m x a pan K⟩
def fN {aa rs:List (SK UU)} (m:zA aa->MM (zA rs×Option (Option MT))) {R:Type} (x:ParT×Unit) (a:zA aa) (pan:Option R) (K:jD×Unit->zA rs->Option R):Option R:=
 Option.bind (m a x.1.1 (x.1.2.1,x.1.2.2.1)) fun o=>zr o pan fun y=>K ((x.1.1,y.2.1,y.2.2,y.1.2,()),()) y.1.1
abbrev cN (aa rs:List (SK UU)) (m:zA aa->MM (zA rs×Option (Option MT))):CP UU:=⟨[parK],[parJ],aa,rs,fun x a pan K=>fN m x a pan K⟩
def fNj {aa rs:List (SK UU)} (m:zA aa->MM (zA rs×Option (Option MT))) {R:Type} (x:ParT×Unit) (a:zA aa) (pan:Option R) (K:ParT×Unit->zA rs->Option R):Option R:=
 Option.bind (m a x.1.1 (x.1.2.1,x.1.2.2.1)) fun o=>zr o pan fun y=>K ((x.1.1,y.2.1,y.2.2,(),()),()) y.1.1
abbrev cNj (aa rs:List (SK UU)) (m:zA aa->MM (zA rs×Option (Option MT))):CP UU:=⟨[parK],[parK],aa,rs,fun x a pan K=>fNj m x a pan K⟩
abbrev zBl:CP UU:=⟨[],[],[.bool],[],fun x a pan K=>cond (show Bool×Unit from a).1 (K () ()) pan⟩
abbrev ky:CR UU:=⟨[ptsK,.int .i64],[.st TI.node],fun x K=>K (Nd.mk (show (List Nd×Unit)×Int×Unit from x).2.1 0 (show (List Nd×Unit)×Int×Unit from x).1.1,())⟩
abbrev rdK:SK UU:=.box [.str,.int .i64]
abbrev RdT:=Str×Int×Unit
abbrev DD (α:Type):=Str->Int->Option (α×Int)
def fD {aa rs:List (SK UU)} (m:zA aa->DD (zA rs)) {R:Type} (x:RdT×Unit) (a:zA aa) (K:RdT×Unit->zA rs->Option R):Option R:=
 Option.bind (m a x.1.1 x.1.2.1) fun y=>K ((x.1.1,y.2,()),()) y.1
abbrev cD (aa rs:List (SK UU)) (m:zA aa->DD (zA rs)):CP UU:=⟨[rdK],[rdK],aa,rs,fun x a _ K=>fD m x a K⟩
def fRD {aa rs:List (SK UU)} (m:zA aa->Str->Int->Option (zA rs)) {R:Type} (x:RdT×zA aa) (K:zA rs->Option R):Option R:=
 Option.bind (m x.2 x.1.1 x.1.2.1) fun y=>K y
abbrev cRD (aa rs:List (SK UU)) (m:zA aa->Str->Int->Option (zA rs)):CR UU:=⟨rdK::aa,rs,fun x K=>fRD m x K⟩
end Go.Proofs.YtnamdpbcpnnhaaaGreatDoor
end
namespace Go.Proofs.YtnamdpbcpnnhaaaGreatDoor
section
open Go.Al Go.Den
abbrev as15:List (AK UU):=[.str]
abbrev rs15:List (AK UU):=[.bool]
abbrev as33:List (AK UU):=[.dl TI.str,.str]
abbrev rs33:List (AK UU):=[.bool]
def kf40:Nat->List Nat
 | 0=>[0,2]
 | 1=>[2]
 | _=>[]
noncomputable def fd40:FD UU:=⟨⟨fun d=>hasN [] d,fun d=>hasN [] d,kf40,zD [],zD [],zn []⟩,zZ Tryz.f40,5,[.cell 2 29]⟩
def kf54:Nat->List Nat
 | 0=>[0,1]
 | 1=>[0,1,5]
 | 2=>[0,4]
 | _=>[]
noncomputable def fd54:FD UU:=⟨⟨fun d=>hasN [] d,fun d=>hasN [] d,kf54,zD [],zD [],zn []⟩,zZ Tryz.f54,15,[.tmp 4]⟩
def kf72:Nat->List Nat
 | 0=>[0,1]
 | 1=>[0,1,17]
 | 2=>[0,4]
 | 3=>[0,5]
 | 4=>[0,5,37]
 | 5=>[0,4]
 | 6=>[0,4]
 | _=>[]
noncomputable def fd72:FD UU:=⟨⟨fun d=>hasN [] d,fun d=>hasN [] d,kf72,zD [],zD [],zn []⟩,zZ Tryz.f72,40,[.tmp 4]⟩
def kf73:Nat->List Nat
 | 0=>[0,2]
 | 1=>[0,2]
 | 2=>[0,2]
 | 3=>[0,2]
 | _=>[]
noncomputable def fd73:FD UU:=⟨⟨fun d=>hasN [] d,fun d=>hasN [] d,kf73,zD [],zD [],zn []⟩,zZ Tryz.f73,27,[.cell 2 29]⟩
def kf78:Nat->List Nat
 | 0=>[0,1,4]
 | 1=>[0,4]
 | 2=>[0,4]
 | _=>[]
noncomputable def fd78:FD UU:=⟨⟨fun d=>hasN [] d,fun d=>hasN [] d,kf78,zD [],zD [],zn []⟩,zZ Tryz.f78,12,[.cell 4 29]⟩
def kf80:Nat->List Nat
 | 0=>[0,2]
 | 1=>[0,2]
 | 2=>[0,2]
 | _=>[]
noncomputable def fd80:FD UU:=⟨⟨fun d=>hasN [] d,fun d=>hasN [] d,kf80,zD [],zD [],zn []⟩,zZ Tryz.f80,8,[.cell 2 29]⟩
def kf84:Nat->List Nat
 | 0=>[0,1]
 | 1=>[0,1,5]
 | 2=>[0,4]
 | _=>[]
noncomputable def fd84:FD UU:=⟨⟨fun d=>hasN [] d,fun d=>hasN [] d,kf84,zD [],zD [],zn []⟩,zZ Tryz.f84,34,[.tmp 4]⟩
def kf85:Nat->List Nat
 | 0=>[0,1]
 | 1=>[0,4]
 | _=>[]
noncomputable def fd85:FD UU:=⟨⟨fun d=>hasN [] d,fun d=>hasN [] d,kf85,zD [],zD [],zn []⟩,zZ Tryz.f85,50,[.tmp 4]⟩
def kf112:Nat->List Nat
 | 0=>[0,1]
 | 1=>[0,4]
 | _=>[]
noncomputable def fd112:FD UU:=⟨⟨fun d=>hasN [] d,fun d=>hasN [] d,kf112,zD [],zD [],zn []⟩,zZ Tryz.f112,30,[.tmp 4]⟩
noncomputable def run72 (fu:Nat) (x:zA [parJ]) (a:zA kI):Option (Option (zA [parJ]×zA kS)):=
 runP CC Tb fu 2 (zD []) (zD []) (zD []) (zD []) fd72 [parJ] [parJ] kI kS x a
theorem fdok72:FDOk Tryz.prog (hasN []) (hasN []) 72 fd72:=fdk Tryz.func72 Tryz.ntmps72 Tryz.results72
noncomputable def run54 (fu:Nat) (c33:List (List UInt8)×List UInt8×Unit->Option (Bool×Unit)) (c72:zA kI->MM (zA kS)) (x:zA [parJ]) (a:zA kL):Option (Option (zA [parJ]×zA kB)):=
 runP CC Tb fu 2 (zD []) (zD [(33,(⟨as33,rs33,c33⟩:Con UU))]) (zD []) (zD [(72,cJ kI kS c72)]) fd54 [parJ] [parJ] kL kB x a
theorem fdok54:FDOk Tryz.prog (hasN [33]) (hasN []) 54 fd54:=fdk Tryz.func54 Tryz.ntmps54 Tryz.results54
noncomputable def run85 (fu:Nat) (c15:List UInt8×Unit->Option (Bool×Unit)) (x:zA [parK]) (a:zA kI):Option (Option (zA [parK]×zA kB)):=
 runP CC Tb fu 2 (zD []) (zD [(15,(⟨as15,rs15,c15⟩:Con UU))]) (zD []) (zD []) fd85 [parK] [parK] kI kB x a
theorem fdok85:FDOk Tryz.prog (hasN [15]) (hasN []) 85 fd85:=fdk Tryz.func85 Tryz.ntmps85 Tryz.results85
noncomputable def run112 (fu:Nat) (x:zA [parK]) (a:zA kI):Option (Option (zA [parK]×zA kB)):=
 runP CC Tb fu 2 (zD []) (zD []) (zD []) (zD []) fd112 [parK] [parK] kI kB x a
theorem zPl:FDOk Tryz.prog (hasN []) (hasN []) 112 fd112:=fdk Tryz.func112 Tryz.ntmps112 Tryz.results112
noncomputable def run73 (fu:Nat) (x:zA [parK]) (a:zA k0):Option (Option (zA [parK]×zA kN)):=
 runP CC Tb fu 3 (zD [(40,fd40)]) (zD []) (zD []) (zD [(77,zBl)]) fd73 [parK] [parK] k0 kN x a
theorem fdok73:FDOk Tryz.prog (hasN []) (hasN []) 73 fd73:=fdk Tryz.func73 Tryz.ntmps73 Tryz.results73
theorem zNt:FDOk Tryz.prog (hasN []) (hasN []) 40 fd40:=fdk Tryz.func40 Tryz.ntmps40 Tryz.results40
noncomputable def run78 (fu:Nat) (c54:zA kL->MM (zA kB)) (c73:zA k0->MM (zA kN)) (x:zA [parK]) (a:zA kS):Option (Option (zA [parK]×zA kN)):=
 runP CC Tb fu 2 (zD []) (zD []) (zD []) (zD [(54,cJ kL kB c54),(73,cM k0 kN c73),(77,zBl)]) fd78 [parK] [parK] kS kN x a
theorem fdok78:FDOk Tryz.prog (hasN []) (hasN []) 78 fd78:=fdk Tryz.func78 Tryz.ntmps78 Tryz.results78
noncomputable def run80 (fu:Nat) (c73:zA k0->MM (zA kN)) (c85:zA kI->MM (zA kB)) (x:zA [parK]) (a:zA k0):Option (Option (zA [parK]×zA kN)):=
 runP CC Tb fu 2 (zD []) (zD []) (zD []) (zD [(73,cM k0 kN c73),(77,zBl),(85,cM kI kB c85)]) fd80 [parK] [parK] k0 kN x a
theorem fdok80:FDOk Tryz.prog (hasN []) (hasN []) 80 fd80:=fdk Tryz.func80 Tryz.ntmps80 Tryz.results80
noncomputable def run84 (fu:Nat) (c33:List (List UInt8)×List UInt8×Unit->Option (Bool×Unit)) (c72:zA kI->MM (zA kS)) (c76:zA kI->MM (zA kB)) (x:zA [parK]) (a:zA kI):Option (Option (zA [parK]×zA kB)):=
 runP CC Tb fu 2 (zD []) (zD [(33,(⟨as33,rs33,c33⟩:Con UU))]) (zD []) (zD [(72,cJ kI kS c72),(76,cM kI kB c76)]) fd84 [parK] [parK] kI kB x a
theorem fdok84:FDOk Tryz.prog (hasN [33]) (hasN []) 84 fd84:=fdk Tryz.func84 Tryz.ntmps84 Tryz.results84
end
section
open Go.Al Go.Den
abbrev as90:List (AK UU):=[.str,.int .u8]
abbrev rs90:List (AK UU):=[.int .i64]
abbrev as91:List (AK UU):=[.str,.str]
abbrev rs91:List (AK UU):=[.int .i64]
def kf64:Nat->List Nat
 | 0=>[0]
 | 1=>[0,6]
 | 2=>[0,6,7]
 | 3=>[0,6,7]
 | 4=>[0,6,7]
 | 5=>[0,6,7]
 | 6=>[0,7]
 | 7=>[0]
 | 8=>[0,2]
 | 9=>[0,21]
 | 10=>[0,3]
 | 11=>[0,3,33]
 | 12=>[0,3]
 | 13=>[0]
 | 14=>[0,2]
 | 15=>[0,54]
 | 16=>[0,2]
 | 17=>[0,4]
 | 18=>[0,4,67]
 | 19=>[0,2]
 | 20=>[0]
 | 21=>[0,2]
 | _=>[]
def jn64:List (Nat×Head UU):=[(7,⟨[0],[(7,.bool)],[(0,rdK)]⟩),(13,⟨[0],[(3,.int .i64)],[(0,rdK)]⟩),(9,⟨[0],[],[(0,rdK)]⟩)]
noncomputable def fd64:FD UU:=⟨⟨fun d=>hasN [] d,fun d=>hasN [] d,kf64,zD [],zD jn64,zn []⟩,zZ Tryz.f64,77,[.tmp 2]⟩
def kf65:Nat->List Nat
 | 0=>[0]
 | 1=>[0,10]
 | 2=>[0,2,3]
 | 3=>[0,4]
 | 4=>[0,4,14]
 | 5=>[0,2,3]
 | 6=>[0,5]
 | 7=>[0,5,19]
 | 8=>[0,2,3]
 | 9=>[0,6]
 | 10=>[0,6,24]
 | 11=>[0,2,3]
 | 12=>[0,7]
 | 13=>[0,7,29]
 | 14=>[0,2,3]
 | 15=>[0,8]
 | 16=>[0,8,34]
 | 17=>[0,2,3]
 | 18=>[0,2,3]
 | _=>[]
noncomputable def fd65:FD UU:=⟨⟨fun d=>hasN [] d,fun d=>hasN [] d,kf65,zD [],zD [],zn []⟩,zZ Tryz.f65,36,[.tmp 2,.tmp 3]⟩
def kf89:Nat->List Nat
 | 0=>[0,1]
 | 1=>[0,4]
 | _=>[]
noncomputable def fd89:FD UU:=⟨⟨fun d=>hasN [] d,fun d=>hasN [] d,kf89,zD [],zD [],zn []⟩,zZ Tryz.f89,16,[.tmp 4]⟩
def kf92:Nat->List Nat
 | 0=>[0]
 | 1=>[0,3]
 | 2=>[0,3,17]
 | 3=>[0,3]
 | 4=>[0,2]
 | _=>[]
def hd92:List (Nat×Head UU):=[(2,⟨[0],[(3,.int .i64)],[(0,rdK)]⟩)]
noncomputable def fd92:FD UU:=⟨⟨fun d=>hasN [] d,fun d=>hasN [] d,kf92,zD hd92,zD [],zn []⟩,zZ Tryz.f92,21,[.tmp 2]⟩
def kf93:Nat->List Nat
 | 0=>[0]
 | 1=>[0,20]
 | 2=>[0,2]
 | 3=>[0,3]
 | 4=>[0,3,4,5]
 | 5=>[0,2]
 | 6=>[0,3,4,29]
 | 7=>[0,3]
 | 8=>[0,3,43]
 | 9=>[0,3]
 | _=>[]
def hd93:List (Nat×Head UU):=[(4,⟨[0],[(3,.int .i64)],[(0,rdK)]⟩)]
noncomputable def fd93:FD UU:=⟨⟨fun d=>hasN [] d,fun d=>hasN [] d,kf93,zD hd93,zD [],zn []⟩,zZ Tryz.f93,56,[.tmp 2]⟩
def kf94:Nat->List Nat
 | 0=>[0,1]
 | 1=>[0,1,21]
 | 2=>[0,4]
 | 3=>[0,1,5]
 | 4=>[0,1,5,33]
 | 5=>[0,1,5]
 | 6=>[0,1,5,38]
 | 7=>[0,1,5,38,39]
 | 8=>[0,5,47]
 | 9=>[0,4]
 | 10=>[0,4]
 | 11=>[0,1,5,38,50]
 | 12=>[0,4]
 | 13=>[0,1,5,52]
 | 14=>[0,1,5]
 | 15=>[0,1,5,73]
 | 16=>[0,4]
 | 17=>[0,4]
 | _=>[]
def hd94:List (Nat×Head UU):=[(4,⟨[0,1],[(5,.int .i64)],[(0,rdK)]⟩)]
noncomputable def fd94:FD UU:=⟨⟨fun d=>hasN [] d,fun d=>hasN [] d,kf94,zD hd94,zD [],zn []⟩,zZ Tryz.f94,74,[.tmp 4]⟩
def kf95:Nat->List Nat
 | 0=>[0]
 | 1=>[0,3]
 | 2=>[0,3,6,7]
 | 3=>[0,3,6,7,8]
 | 4=>[0,3,5,6,7]
 | 5=>[0,3,5,6,7,19]
 | 6=>[0,3,6,7]
 | 7=>[0,3,6,7]
 | 8=>[0,2]
 | _=>[]
def hd95:List (Nat×Head UU):=[(3,⟨[0,6],[(3,.int .i64),(7,.int .i64)],[(0,rdK)]⟩)]
noncomputable def fd95:FD UU:=⟨⟨fun d=>hasN [] d,fun d=>hasN [] d,kf95,zD hd95,zD [],zn []⟩,zZ Tryz.f95,24,[.tmp 2]⟩
def kf119:Nat->List Nat
 | 0=>[0,1]
 | 1=>[4]
 | _=>[]
noncomputable def fd119:FD UU:=⟨⟨fun d=>hasN [] d,fun d=>hasN [] d,kf119,zD [],zD [],zn []⟩,zZ Tryz.f119,8,[.tmp 4]⟩
def kf122:Nat->List Nat
 | 0=>[0]
 | 1=>[2]
 | _=>[]
noncomputable def zIH:FD UU:=⟨⟨fun d=>hasN [] d,fun d=>hasN [] d,kf122,zD [],zD [],zn []⟩,zZ Tryz.f122,21,[.tmp 2]⟩
def kf123:Nat->List Nat
 | 0=>[0]
 | 1=>[2]
 | _=>[]
noncomputable def zIU:FD UU:=⟨⟨fun d=>hasN [] d,fun d=>hasN [] d,kf123,zD [],zD [],zn []⟩,zZ Tryz.f123,9,[.tmp 2]⟩
def kf132:Nat->List Nat
 | 0=>[0,1]
 | 1=>[4]
 | _=>[]
noncomputable def fd132:FD UU:=⟨⟨fun d=>hasN [] d,fun d=>hasN [] d,kf132,zD [],zD [],zn []⟩,zZ Tryz.f132,18,[.tmp 4]⟩
noncomputable def run89 (fu:Nat) (x:zA [rdK]) (a:zA kS):Option (Option (zA [rdK]×zA kB)):=
 runP CC Tb fu 4 (zD [(119,fd119),(132,fd132)]) (zD []) (zD []) (zD []) fd89 [rdK] [rdK] kS kB x a
theorem fdok89:FDOk Tryz.prog (hasN []) (hasN []) 89 fd89:=fdk Tryz.func89 Tryz.ntmps89 Tryz.results89
theorem zLq:FDOk Tryz.prog (hasN []) (hasN []) 119 fd119:=fdk Tryz.func119 Tryz.ntmps119 Tryz.results119
theorem zMC:FDOk Tryz.prog (hasN []) (hasN []) 132 fd132:=fdk Tryz.func132 Tryz.ntmps132 Tryz.results132
noncomputable def run92 (fu:Nat) (c88:zA kI->Str->Int->Option (zA ([.int .u8]:LK))) (x:zA [rdK]) (a:zA k0):Option (Option (zA [rdK]×zA kI)):=
 runP CC Tb fu 4 (zD [(122,zIH),(123,zIU)]) (zD []) (zD [(88,cRD kI ([.int .u8]:LK) c88)]) (zD []) fd92 [rdK] [rdK] k0 kI x a
theorem fdok92:FDOk Tryz.prog (hasN []) (hasN [88]) 92 fd92:=fdk Tryz.func92 Tryz.ntmps92 Tryz.results92
theorem zLg:FDOk Tryz.prog (hasN []) (hasN [88]) 122 zIH:=fdk Tryz.func122 Tryz.ntmps122 Tryz.results122
theorem zML:FDOk Tryz.prog (hasN []) (hasN [88]) 123 zIU:=fdk Tryz.func123 Tryz.ntmps123 Tryz.results123
noncomputable def run93 (fu:Nat) (c90:List UInt8×Int×Unit->Option (Int×Unit)) (c88:zA kI->Str->Int->Option (zA ([.int .u8]:LK))) (x:zA [rdK]) (a:zA k0):Option (Option (zA [rdK]×zA kI)):=
 runP CC Tb fu 4 (zD [(122,zIH),(123,zIU)]) (zD [(90,(⟨as90,rs90,c90⟩:Con UU))]) (zD [(88,cRD kI ([.int .u8]:LK) c88)]) (zD []) fd93 [rdK] [rdK] k0 kI x a
theorem fdok93:FDOk Tryz.prog (hasN [90]) (hasN [88]) 93 fd93:=fdk Tryz.func93 Tryz.ntmps93 Tryz.results93
theorem zMQ:FDOk Tryz.prog (hasN [90]) (hasN [88]) 122 zIH:=fdk Tryz.func122 Tryz.ntmps122 Tryz.results122
theorem zLc:FDOk Tryz.prog (hasN [90]) (hasN [88]) 123 zIU:=fdk Tryz.func123 Tryz.ntmps123 Tryz.results123
noncomputable def run94 (fu:Nat) (c88:zA kI->Str->Int->Option (zA ([.int .u8]:LK))) (x:zA [rdK]) (a:zA ([.int .u8]:LK)):Option (Option (zA [rdK]×zA kI)):=
 runP CC Tb fu 2 (zD []) (zD []) (zD [(88,cRD kI ([.int .u8]:LK) c88)]) (zD []) fd94 [rdK] [rdK] ([.int .u8]:LK) kI x a
theorem fdok94:FDOk Tryz.prog (hasN []) (hasN [88]) 94 fd94:=fdk Tryz.func94 Tryz.ntmps94 Tryz.results94
noncomputable def run95 (fu:Nat) (c89:zA kS->DD (zA kB)) (x:zA [rdK]) (a:zA k0):Option (Option (zA [rdK]×zA kI)):=
 runP CC Tb fu 2 (zD []) (zD []) (zD []) (zD [(89,cD kS kB c89)]) fd95 [rdK] [rdK] k0 kI x a
theorem fdok95:FDOk Tryz.prog (hasN []) (hasN []) 95 fd95:=fdk Tryz.func95 Tryz.ntmps95 Tryz.results95
noncomputable def run65 (fu:Nat) (c89:zA kS->DD (zA kB)) (c92:zA k0->DD (zA kI)) (c93:zA k0->DD (zA kI)) (c94:zA ([.int .u8]:LK)->DD (zA kI)) (c95:zA k0->DD (zA kI)) (x:zA [rdK]) (a:zA k0):Option (Option (zA [rdK]×zA ([.int .i64,.int .i64]:LK))):=
 runP CC Tb fu 2 (zD []) (zD []) (zD []) (zD [(89,cD kS kB c89),(92,cD k0 kI c92),(93,cD k0 kI c93),(94,cD ([.int .u8]:LK) kI c94),(95,cD k0 kI c95)]) fd65 [rdK] [rdK] k0 ([.int .i64,.int .i64]:LK) x a
theorem fdok65:FDOk Tryz.prog (hasN []) (hasN []) 65 fd65:=fdk Tryz.func65 Tryz.ntmps65 Tryz.results65
noncomputable def run64 (fu:Nat) (c90:List UInt8×Int×Unit->Option (Int×Unit)) (c91:List UInt8×List UInt8×Unit->Option (Int×Unit)) (c88:zA kI->Str->Int->Option (zA ([.int .u8]:LK))) (c89:zA kS->DD (zA kB)) (x:zA [rdK]) (a:zA k0):Option (Option (zA [rdK]×zA kB)):=
 runP CC Tb fu 2 (zD []) (zD [(90,(⟨as90,rs90,c90⟩:Con UU)),(91,(⟨as91,rs91,c91⟩:Con UU))]) (zD [(88,cRD kI ([.int .u8]:LK) c88)]) (zD [(89,cD kS kB c89)]) fd64 [rdK] [rdK] k0 kB x a
theorem fdok64:FDOk Tryz.prog (hasN [90,91]) (hasN [88]) 64 fd64:=fdk Tryz.func64 Tryz.ntmps64 Tryz.results64
end
section
open Go.Al Go.Den
abbrev as39:List (AK UU):=[.int .i64,.str]
abbrev rs39:List (AK UU):=[.dl TI.tok]
abbrev as62:List (AK UU):=[.str]
abbrev rs62:List (AK UU):=[.dl TI.char]
abbrev as63:List (AK UU):=[.dl TI.char]
abbrev rs63:List (AK UU):=[.str]
def kf39:Nat->List Nat
 | 0=>[0,1]
 | 1=>[0,5]
 | 2=>[0,5,6]
 | 3=>[0,5,6,7]
 | 4=>[0,5,6,7,8]
 | 5=>[0,5,6,7,8,32]
 | 6=>[0,5,6,7,8]
 | 7=>[0,5,6,7,8,43]
 | 8=>[4]
 | 9=>[0,5,6,7,8,9,10]
 | 10=>[0,5,6,7,8,10]
 | 11=>[0,5,6,7,8,10]
 | 12=>[0,5,6,7,8]
 | 13=>[0,5,6,7]
 | _=>[]
def hd39:List (Nat×Head UU):=[(4,⟨[0,5,6],[(7,.ow true TI.tok)],[(6,rdK)]⟩),(5,⟨[0,5,6,8],[(7,.ow true TI.tok)],[(6,rdK),(8,.box [.int .i64,.str,.int .i64,.int .i64,.int .i64,.bool])]⟩)]
noncomputable def fd39:FD UU:=⟨⟨fun d=>hasN [] d,fun d=>hasN [] d,kf39,zD hd39,zD [],zn [(10,[(1000066,53,6),(1000067,53,6),(1000066,57,6),(1000067,57,6),(1000066,61,6),(1000067,61,6)]),(11,[(1000088,71,6),(1000089,71,6),(1000088,74,6),(1000089,74,6),(1000088,79,6),(1000089,79,6),(1000088,85,6),(1000089,85,6)])]⟩,zZ Tryz.f39,102,[.tmp 4]⟩
noncomputable def run39 (fu:Nat) (c62:List UInt8×Unit->Option (List CharT×Unit)) (c63:List CharT×Unit->Option (List UInt8×Unit)) (c64:zA k0->DD (zA kB)) (c65:zA k0->DD (zA ([.int .i64,.int .i64]:LK))) (nf:Nat->Bool) (x0:Int) (x1:List UInt8):Option (zh rs39):=
 jF CC Tb fu 2 (zD []) (zD [(62,(⟨as62,rs62,c62⟩:Con UU)),(63,(⟨as63,rs63,c63⟩:Con UU))]) (zD []) (zD [(64,cD k0 kB c64),(65,cD k0 ([.int .i64,.int .i64]:LK) c65)]) fd39 as39 rs39 nf (x0,x1,())
theorem fdok39:FDOk Tryz.prog (hasN [62,63]) (hasN []) 39 fd39:=fdk Tryz.func39 Tryz.ntmps39 Tryz.results39
end
section
open Go.Al Go.Den
abbrev zFB:List (AK UU):=[.str]
abbrev zDb:List (AK UU):=[.int .i64]
def kf36:Nat->List Nat
 | 0=>[]
 | _=>[]
noncomputable def fd36:FD UU:=⟨⟨fun d=>hasN [] d,fun d=>hasN [] d,kf36,zD [],zD [],zn []⟩,zZ Tryz.f36,13,[]⟩
def kf37:Nat->List Nat
 | 0=>[0,1,4]
 | 1=>[0,1,4,5]
 | 2=>[0,1,4,5,6,7]
 | 3=>[0,1,4,5,7]
 | 4=>[0,1,4,5,7,22]
 | 5=>[0,4]
 | 6=>[0,1,4,5,7,8,9,10]
 | 7=>[0,4,5,7,8,9,47]
 | 8=>[0,4,5,7]
 | 9=>[0,4]
 | 10=>[0,4,5,8,9,11]
 | 11=>[0,4,5,8,11]
 | 12=>[0,4,5,8]
 | 13=>[0,4,5]
 | 14=>[0,4,5]
 | 15=>[0,4]
 | _=>[]
noncomputable def fd37:FD UU:=⟨⟨fun d=>hasN [] d,fun d=>hasN [] d,kf37,zD [],zD [],zn [(13,[(71,8,8)])]⟩,zZ Tryz.f37,77,[.cell 4 29]⟩
def kf41:Nat->List Nat
 | 0=>[0,1,4]
 | 1=>[4]
 | _=>[]
noncomputable def fd41:FD UU:=⟨⟨fun d=>hasN [] d,fun d=>hasN [] d,kf41,zD [],zD [],zn []⟩,zZ Tryz.f41,8,[.cell 4 29]⟩
def kf53:Nat->List Nat
 | 0=>[0,2,3]
 | 1=>[0,2,3,4]
 | 2=>[0,2,3,4,5,6]
 | 3=>[0,2,3,4,5,6,7]
 | 4=>[0,2,3,4,5,6,7,10]
 | 5=>[0,2,3,4,5,6]
 | 6=>[0,2,3,4,5,6]
 | 7=>[0,2,3,4,5,6,7,23]
 | 8=>[0,2,3,4,5,6]
 | 9=>[0,2,3,4,5,6]
 | 10=>[0,2,3,4,5,7,35]
 | 11=>[0,2,3,4,5,7,40]
 | 12=>[0,2,3,4,5]
 | 13=>[0,2,3,4,5,6]
 | 14=>[0,2,3,4,5,51]
 | 15=>[0,2,3,4,5]
 | 16=>[0,2,3,4,5,6]
 | 17=>[0,2,3,4,5,58]
 | 18=>[0,2,3,4,5]
 | 19=>[0,2,3,4,5,6]
 | 20=>[0,2,3,4]
 | 21=>[0,2,3]
 | _=>[]
def hd53:List (Nat×Head UU):=[(3,⟨[0,2,4],[(3,.bool),(5,.bool),(6,.bool)],[(0,parK),(2,.box [.int .i64,.int .i64,.dl TI.node]),(4,ptsK)]⟩)]
def jn53:List (Nat×Head UU):=[(20,⟨[0,2,4],[(3,.bool)],[(0,parK),(2,.box [.int .i64,.int .i64,.dl TI.node]),(4,ptsK)]⟩)]
noncomputable def fd53:FD UU:=⟨⟨fun d=>hasN [] d,fun d=>hasN [] d,kf53,zD hd53,zD jn53,zn []⟩,zZ Tryz.f53,72,[.cell 2 29,.tmp 3]⟩
def kf55:Nat->List Nat
 | 0=>[0,2,4,6]
 | 1=>[0,2,4,6,12]
 | 2=>[0,2,4,6]
 | 3=>[0,2,4,6,7,8]
 | 4=>[0,2,4,6]
 | 5=>[0,4,6]
 | 6=>[0,6]
 | _=>[]
def hd55:List (Nat×Head UU):=[(1,⟨[0,2,4,6],[],[(0,parK),(4,ptsK),(6,.box [.int .i64,.int .i64,.dl TI.node])]⟩)]
noncomputable def fd55:FD UU:=⟨⟨fun d=>hasN [] d,fun d=>hasN [] d,kf55,zD hd55,zD [],zn []⟩,zZ Tryz.f55,35,[.cell 6 29]⟩
def kf56:Nat->List Nat
 | 0=>[0,2,4]
 | 1=>[0,2,4,5]
 | 2=>[0,2,4,5]
 | 3=>[0,2,4,5,14]
 | 4=>[0,2,3,4,5]
 | 5=>[0,2,3,4,5]
 | 6=>[0,2,3,4,5,6]
 | 7=>[0,2,3,4,5,6,23]
 | 8=>[0,2,3,5]
 | 9=>[0,2,3,4,5,6]
 | 10=>[0,2,3,4,5,6]
 | 11=>[0,2,3,4,5]
 | 12=>[0,2,3,4]
 | 13=>[0,2,5]
 | 14=>[0,2,3,5,7]
 | 15=>[0,2,3,5]
 | 16=>[0,2,3,5]
 | 17=>[0,2,3,4]
 | _=>[]
def jn56:List (Nat×Head UU):=[(10,⟨[0,2,3,5],[(4,.bool),(6,.mpo)],[(0,parK),(2,.box [.int .i64,.int .i64,.dl TI.node]),(5,ptsK)]⟩)]
noncomputable def fd56:FD UU:=⟨⟨fun d=>hasN [] d,fun d=>hasN [] d,kf56,zD [],zD jn56,zn [(15,[(53,7,7)])]⟩,zZ Tryz.f56,60,[.cell 2 29,.tmp 3,.tmp 4]⟩
def kf57:Nat->List Nat
 | 0=>[0,2,3,5,8]
 | 1=>[0,2,3,5,8,9]
 | 2=>[0,2,3,8,9]
 | 3=>[0,8,9]
 | 4=>[0,8,9,19]
 | 5=>[0,8,9]
 | 6=>[0,8]
 | _=>[]
noncomputable def fd57:FD UU:=⟨⟨fun d=>hasN [] d,fun d=>hasN [] d,kf57,zD [],zD [],zn []⟩,zZ Tryz.f57,27,[.cell 8 29]⟩
def kf60:Nat->List Nat
 | 0=>[0,2]
 | 1=>[0,2,3]
 | 2=>[0,2,3]
 | 3=>[0,2,3,11]
 | 4=>[0,2,3,23]
 | 5=>[0,2,3]
 | 6=>[0,2,3]
 | 7=>[0,2,3]
 | 8=>[0,2]
 | _=>[]
def hd60:List (Nat×Head UU):=[(3,⟨[0,2,3],[],[(0,parK),(2,.box [.int .i64,.int .i64,.dl TI.node]),(3,ptsK)]⟩)]
noncomputable def fd60:FD UU:=⟨⟨fun d=>hasN [] d,fun d=>hasN [] d,kf60,zD hd60,zD [],zn []⟩,zZ Tryz.f60,37,[.cell 2 29]⟩
def kf74:Nat->List Nat
 | 0=>[0,2]
 | 1=>[0,2,3]
 | 2=>[0,2,3]
 | 3=>[0,2,3]
 | 4=>[0,2,3,17]
 | 5=>[0,2,3]
 | 6=>[0,2,3,25]
 | 7=>[0,2]
 | 8=>[0,2,3]
 | 9=>[0,2,3,34]
 | 10=>[0,2,3]
 | 11=>[0,2,3]
 | 12=>[0,2]
 | _=>[]
def hd74:List (Nat×Head UU):=[(9,⟨[0,2,3],[],[(0,parK),(2,.box [.int .i64,.int .i64,.dl TI.node]),(3,ptsK)]⟩)]
def jn74:List (Nat×Head UU):=[(6,⟨[0,2,3],[],[(0,parK),(2,.box [.int .i64,.int .i64,.dl TI.node]),(3,ptsK)]⟩)]
noncomputable def fd74:FD UU:=⟨⟨fun d=>hasN [] d,fun d=>hasN [] d,kf74,zD hd74,zD jn74,zn []⟩,zZ Tryz.f74,44,[.cell 2 29]⟩
def kf75:Nat->List Nat
 | 0=>[0,2]
 | 1=>[0,2,3]
 | 2=>[0,2,3]
 | 3=>[0,2,3]
 | 4=>[0,2,3,17]
 | 5=>[0,2,3]
 | 6=>[0,2,3,25]
 | 7=>[0,2]
 | 8=>[0,2,3]
 | 9=>[0,2,3]
 | 10=>[0,2,3,37]
 | 11=>[0,2,3]
 | 12=>[0,2,3,45]
 | 13=>[0,2,3]
 | 14=>[0,2]
 | _=>[]
def hd75:List (Nat×Head UU):=[(9,⟨[0,2,3],[],[(0,parK),(2,.box [.int .i64,.int .i64,.dl TI.node]),(3,ptsK)]⟩)]
def jn75:List (Nat×Head UU):=[(13,⟨[0,2,3],[],[(0,parK),(2,.box [.int .i64,.int .i64,.dl TI.node]),(3,ptsK)]⟩),(6,⟨[0,2,3],[],[(0,parK),(2,.box [.int .i64,.int .i64,.dl TI.node]),(3,ptsK)]⟩)]
noncomputable def fd75:FD UU:=⟨⟨fun d=>hasN [] d,fun d=>hasN [] d,kf75,zD hd75,zD jn75,zn []⟩,zZ Tryz.f75,51,[.cell 2 29]⟩
def kf79:Nat->List Nat
 | 0=>[0,1,6]
 | 1=>[0,1]
 | 2=>[0,1,14]
 | 3=>[0,1]
 | _=>[]
def hd79:List (Nat×Head UU):=[(0,⟨[0,1],[],[(0,parK),(1,ptsK)]⟩),(2,⟨[0,1],[],[(0,parK),(1,ptsK)]⟩)]
noncomputable def fd79:FD UU:=⟨⟨fun d=>hasN [] d,fun d=>hasN [] d,kf79,zD hd79,zD [],zn []⟩,zZ Tryz.f79,20,[]⟩
def kf81:Nat->List Nat
 | 0=>[0,2]
 | 1=>[0,2,3]
 | 2=>[0,2,3]
 | 3=>[0,2,3]
 | 4=>[0,2,3,4]
 | 5=>[0,2,3,16]
 | 6=>[0,2,3,4]
 | 7=>[0,2,3,23]
 | 8=>[0,2,3]
 | 9=>[0,2,3,30]
 | 10=>[0,2,3]
 | 11=>[0,2,3]
 | 12=>[0,2,3]
 | 13=>[0,2,3]
 | 14=>[0,2]
 | _=>[]
def hd81:List (Nat×Head UU):=[(5,⟨[0,2,3],[(4,.bool)],[(0,parK),(2,.box [.int .i64,.int .i64,.dl TI.node]),(3,ptsK)]⟩)]
noncomputable def fd81:FD UU:=⟨⟨fun d=>hasN [] d,fun d=>hasN [] d,kf81,zD hd81,zD [],zn []⟩,zZ Tryz.f81,49,[.cell 2 29]⟩
def kf82:Nat->List Nat
 | 0=>[0,1,6]
 | 1=>[0,1,9]
 | 2=>[0,1]
 | 3=>[0,1]
 | 4=>[0,1,23]
 | 5=>[0,1]
 | 6=>[0,1]
 | _=>[]
def hd82:List (Nat×Head UU):=[(0,⟨[0,1],[],[(0,parK),(1,ptsK)]⟩)]
noncomputable def fd82:FD UU:=⟨⟨fun d=>hasN [] d,fun d=>hasN [] d,kf82,zD hd82,zD [],zn []⟩,zZ Tryz.f82,34,[]⟩
def kf83:Nat->List Nat
 | 0=>[0,2]
 | 1=>[0,2,7]
 | 2=>[0,2]
 | 3=>[0,2,3]
 | 4=>[0,2,3]
 | 5=>[0,2,3,17]
 | 6=>[0,2,3]
 | 7=>[0,2,3,25]
 | 8=>[0,2,3]
 | 9=>[0,2,3]
 | 10=>[0,2]
 | _=>[]
def hd83:List (Nat×Head UU):=[(5,⟨[0,2,3],[],[(0,parK),(2,.box [.int .i64,.int .i64,.dl TI.node]),(3,ptsK)]⟩)]
noncomputable def fd83:FD UU:=⟨⟨fun d=>hasN [] d,fun d=>hasN [] d,kf83,zD hd83,zD [],zn []⟩,zZ Tryz.f83,35,[.cell 2 29]⟩
def kf86:Nat->List Nat
 | 0=>[0,2]
 | 1=>[0,2,3]
 | 2=>[0,2,3,4]
 | 3=>[0,2,3,4,8]
 | 4=>[0,2]
 | 5=>[0,2,5]
 | 6=>[0,2,5]
 | 7=>[0,2]
 | 8=>[0,2,3,4,19]
 | 9=>[0,2,3]
 | 10=>[0,2]
 | 11=>[0,2,3,4,27]
 | 12=>[0,2,3]
 | 13=>[0,2]
 | 14=>[0,2,3,4,44]
 | 15=>[0,2,3]
 | 16=>[0,2]
 | 17=>[0,2,3,4]
 | 18=>[0,2,3,4,67]
 | 19=>[0,2,3,4,67,68]
 | 20=>[0,2,3]
 | 21=>[0,2]
 | 22=>[0,2,3,4,67,79]
 | 23=>[0,2,3]
 | 24=>[0,2]
 | 25=>[0,2,3,4,67,88]
 | 26=>[0,2,3]
 | 27=>[0,2,3]
 | 28=>[0,2,3,98]
 | 29=>[0,2,3]
 | 30=>[0,2]
 | 31=>[0,2,3,4,67,106]
 | 32=>[0,2,3,4,67,106]
 | 33=>[0,2,3,4]
 | 34=>[0,2,3,4]
 | 35=>[0,2,3,116]
 | 36=>[0,2]
 | 37=>[0,2]
 | 38=>[0,2,3,4,67,119]
 | 39=>[0,2,3]
 | 40=>[0,2,3]
 | 41=>[0,2,3]
 | 42=>[0,2]
 | 43=>[0,2,3,4,67,134]
 | 44=>[0,2]
 | 45=>[0,2,3,4,67,139]
 | 46=>[0,2,3]
 | 47=>[0,2]
 | 48=>[0,2,3,4,67,144]
 | 49=>[0,2,3,4,144]
 | 50=>[0,2,3]
 | 51=>[0,2]
 | 52=>[0,2,3]
 | 53=>[0,2,3]
 | 54=>[0,2]
 | _=>[]
def jn86:List (Nat×Head UU):=[(50,⟨[0,2,3,4],[(144,.bool)],[(0,parK),(2,.box [.int .i64,.int .i64,.dl TI.node]),(3,ptsK)]⟩),(33,⟨[0,2,3,4,67],[(106,.bool)],[(0,parK),(2,.box [.int .i64,.int .i64,.dl TI.node]),(3,ptsK)]⟩),(52,⟨[0,2,3,4],[],[(0,parK),(2,.box [.int .i64,.int .i64,.dl TI.node]),(3,ptsK)]⟩)]
noncomputable def fd86:FD UU:=⟨⟨fun d=>hasN [] d,fun d=>hasN [] d,kf86,zD [],zD jn86,zn []⟩,zZ Tryz.f86,162,[.cell 2 29]⟩
def kf107:Nat->List Nat
 | 0=>[0,2]
 | 1=>[0,2,3]
 | 2=>[0,2,3,4]
 | 3=>[0,2,3]
 | 4=>[0,2,3,6]
 | 5=>[0,2,3,22]
 | 6=>[0,2,3,6]
 | 7=>[0,2,3,29]
 | 8=>[0,2,3]
 | 9=>[0,2,3,7]
 | 10=>[0,2,3]
 | 11=>[0,2,3]
 | 12=>[0,2]
 | _=>[]
def hd107:List (Nat×Head UU):=[(5,⟨[0,2,3],[(6,.bool)],[(0,parK),(2,.box [.int .i64,.int .i64,.dl TI.node]),(3,ptsK)]⟩)]
def jn107:List (Nat×Head UU):=[(9,⟨[0,2,3],[],[(0,parK),(2,.box [.int .i64,.int .i64,.dl TI.node]),(3,ptsK)]⟩)]
noncomputable def fd107:FD UU:=⟨⟨fun d=>hasN [] d,fun d=>hasN [] d,kf107,zD hd107,zD jn107,zn []⟩,zZ Tryz.f107,48,[.cell 2 29]⟩
def kf108:Nat->List Nat
 | 0=>[0,2]
 | 1=>[0,2,3]
 | 2=>[0,2,3,4]
 | 3=>[0,2,3,4]
 | 4=>[0,2,3,4,13]
 | 5=>[0,2,3,4]
 | 6=>[0,2,3]
 | 7=>[0,2]
 | _=>[]
noncomputable def fd108:FD UU:=⟨⟨fun d=>hasN [] d,fun d=>hasN [] d,kf108,zD [],zD [],zn []⟩,zZ Tryz.f108,24,[.cell 2 29]⟩
def kf110:Nat->List Nat
 | 0=>[0,2]
 | 1=>[0,2,3]
 | 2=>[0,2,3,4,5]
 | 3=>[0,2,3,5]
 | 4=>[0,2,3,5,6,7,8]
 | 5=>[0,2,3,5,6,7,23]
 | 6=>[0,2,3,5,7]
 | 7=>[0,2,3]
 | 8=>[0,2]
 | _=>[]
def jn110:List (Nat×Head UU):=[(7,⟨[0,2,3,5,7],[],[(0,parK),(2,.box [.int .i64,.int .i64,.dl TI.node]),(3,ptsK)]⟩)]
noncomputable def fd110:FD UU:=⟨⟨fun d=>hasN [] d,fun d=>hasN [] d,kf110,zD [],zD jn110,zn []⟩,zZ Tryz.f110,32,[.cell 2 29]⟩
def kf111:Nat->List Nat
 | 0=>[0,2]
 | 1=>[0,2,3]
 | 2=>[0,2,3,10]
 | 3=>[0,2]
 | 4=>[0,2,3,4]
 | 5=>[0,2]
 | _=>[]
noncomputable def fd111:FD UU:=⟨⟨fun d=>hasN [] d,fun d=>hasN [] d,kf111,zD [],zD [],zn [(5,[(17,3,3),(17,4,4)])]⟩,zZ Tryz.f111,20,[.cell 2 29]⟩
def kf113:Nat->List Nat
 | 0=>[0,2]
 | 1=>[0,2,3]
 | 2=>[0,2,3,10]
 | 3=>[0,2]
 | 4=>[0,2,3,4]
 | 5=>[0,2]
 | _=>[]
noncomputable def fd113:FD UU:=⟨⟨fun d=>hasN [] d,fun d=>hasN [] d,kf113,zD [],zD [],zn [(5,[(17,3,3),(17,4,4)])]⟩,zZ Tryz.f113,20,[.cell 2 29]⟩
def kf114:Nat->List Nat
 | 0=>[0,2]
 | 1=>[0,2,3]
 | 2=>[0,2,3,10]
 | 3=>[0,2]
 | 4=>[0,2,3,4]
 | 5=>[0,2,4]
 | 6=>[0,2]
 | _=>[]
noncomputable def fd114:FD UU:=⟨⟨fun d=>hasN [] d,fun d=>hasN [] d,kf114,zD [],zD [],zn [(5,[(14,3,3),(16,3,3),(18,3,3),(20,3,3)])]⟩,zZ Tryz.f114,24,[.cell 2 29]⟩
def kf115:Nat->List Nat
 | 0=>[0,1]
 | _=>[]
noncomputable def fd115:FD UU:=⟨⟨fun d=>hasN [] d,fun d=>hasN [] d,kf115,zD [],zD [],zn []⟩,zZ Tryz.f115,13,[]⟩
def kf116:Nat->List Nat
 | 0=>[0,3,4]
 | 1=>[0,3,4]
 | 2=>[0,3,4]
 | 3=>[0,3,4,13]
 | 4=>[0,3,4]
 | 5=>[0,3,4]
 | 6=>[0,3,4]
 | 7=>[0,3,4]
 | 8=>[0,3,4]
 | 9=>[0,3,4]
 | 10=>[0,4]
 | _=>[]
def jn116:List (Nat×Head UU):=[(6,⟨[0,3,4],[],[(0,parK),(3,ptsK),(4,.box [.int .i64,.int .i64,.dl TI.node])]⟩)]
noncomputable def fd116:FD UU:=⟨⟨fun d=>hasN [] d,fun d=>hasN [] d,kf116,zD [],zD jn116,zn []⟩,zZ Tryz.f116,31,[.cell 4 29]⟩
def kf117:Nat->List Nat
 | 0=>[0,1,2,10]
 | 1=>[0,1,2]
 | 2=>[0,1]
 | _=>[]
def jn117:List (Nat×Head UU):=[(2,⟨[0,1,2],[],[(0,parK),(1,ptsK)]⟩)]
noncomputable def fd117:FD UU:=⟨⟨fun d=>hasN [] d,fun d=>hasN [] d,kf117,zD [],zD jn117,zn []⟩,zZ Tryz.f117,22,[]⟩
def kf130:Nat->List Nat
 | 0=>[0,1,4,5]
 | 1=>[0,1,4,5,7]
 | 2=>[0,1,4,5,7]
 | 3=>[0,1,4,5,7,8]
 | 4=>[0,1,4,5,7,8,16]
 | 5=>[0,4,5,7]
 | 6=>[0,4,5,7]
 | 7=>[0,1,4,5,7,28]
 | 8=>[0,1,4,7]
 | 9=>[0,4,7,9,10,11]
 | 10=>[0,4,7,9,10,67]
 | 11=>[0,4,7,10]
 | 12=>[0,4,5,7]
 | 13=>[0,4,5,7]
 | 14=>[0,4,5,7]
 | 15=>[0,4,5,6]
 | _=>[]
def jn130:List (Nat×Head UU):=[(12,⟨[0,4,7,10],[],[(0,parK),(4,.box [.int .i64,.int .i64,.dl TI.node]),(7,ptsK)]⟩),(14,⟨[0,4,7],[(5,.str)],[(0,parK),(4,.box [.int .i64,.int .i64,.dl TI.node]),(7,ptsK)]⟩)]
noncomputable def fd130:FD UU:=⟨⟨fun d=>hasN [] d,fun d=>hasN [] d,kf130,zD [],zD jn130,zn [(15,[(1000004,80,7)])]⟩,zZ Tryz.f130,84,[.cell 4 29,.tmp 5,.tmp 6]⟩
def kf131:Nat->List Nat
 | 0=>[0,1,4]
 | 1=>[0,1,4,5]
 | 2=>[0,1,4,5,6]
 | 3=>[0,1,4,5,6,19]
 | 4=>[0,4]
 | 5=>[0,1,4,5,6,7]
 | 6=>[0,1,4,5]
 | _=>[]
def hd131:List (Nat×Head UU):=[(2,⟨[0,1,4,5],[],[(0,parK),(4,.box [.int .i64,.int .i64,.dl TI.node]),(5,.box [.int .i64,.int .i64,.dl TI.node])]⟩)]
noncomputable def fd131:FD UU:=⟨⟨fun d=>hasN [] d,fun d=>hasN [] d,kf131,zD hd131,zD [],zn [(6,[(28,5,5),(28,7,7)])]⟩,zZ Tryz.f131,31,[.cell 4 29]⟩
def kf142:Nat->List Nat
 | 0=>[0,2]
 | 1=>[0,2,12]
 | 2=>[0,2]
 | 3=>[0,2,3]
 | 4=>[0,2,3]
 | 5=>[0,2]
 | _=>[]
noncomputable def fd142:FD UU:=⟨⟨fun d=>hasN [] d,fun d=>hasN [] d,kf142,zD [],zD [],zn []⟩,zZ Tryz.f142,26,[.cell 2 29]⟩
def kf143:Nat->List Nat
 | 0=>[0]
 | 1=>[3]
 | 2=>[3,4]
 | 3=>[2]
 | 4=>[3,6]
 | 5=>[2]
 | 6=>[3,8]
 | 7=>[2]
 | 8=>[3,10]
 | 9=>[2]
 | 10=>[3,12]
 | 11=>[2]
 | 12=>[3,14]
 | 13=>[3,14]
 | 14=>[2]
 | 15=>[3,17]
 | 16=>[3,17]
 | 17=>[3,17]
 | 18=>[3,17]
 | 19=>[2]
 | 20=>[3,22]
 | 21=>[3,22]
 | 22=>[2]
 | 23=>[3,25]
 | 24=>[3,25]
 | 25=>[2]
 | 26=>[3,28]
 | 27=>[3,28]
 | 28=>[28]
 | 29=>[2]
 | 30=>[2]
 | _=>[]
noncomputable def fd143:FD UU:=⟨⟨fun d=>hasN [] d,fun d=>hasN [] d,kf143,zD [],zD [],zn []⟩,zZ Tryz.f143,32,[.tmp 2]⟩
def kf150:Nat->List Nat
 | 0=>[0,2]
 | 1=>[0,2,3]
 | 2=>[0,2,3,4]
 | 3=>[0,2,3]
 | 4=>[0,2]
 | 5=>[0,2,3,15]
 | 6=>[0,2,3]
 | 7=>[0,2]
 | 8=>[0,2,3,26]
 | 9=>[0,2,3]
 | 10=>[0,2,3,40]
 | 11=>[0,2,3]
 | 12=>[0,2,3]
 | 13=>[0,2]
 | 14=>[0,2]
 | _=>[]
noncomputable def fd150:FD UU:=⟨⟨fun d=>hasN [] d,fun d=>hasN [] d,kf150,zD [],zD [],zn []⟩,zZ Tryz.f150,58,[.cell 2 29]⟩
def kf151:Nat->List Nat
 | 0=>[0,2]
 | 1=>[0,2,3]
 | 2=>[0,2,3,4]
 | 3=>[0,2,3]
 | 4=>[0,2,3,6,8]
 | 5=>[0,2,3,6,23]
 | 6=>[0,2,3]
 | 7=>[0,2]
 | _=>[]
noncomputable def fd151:FD UU:=⟨⟨fun d=>hasN [] d,fun d=>hasN [] d,kf151,zD [],zD [],zn []⟩,zZ Tryz.f151,28,[.cell 2 29]⟩
def kf154:Nat->List Nat
 | 0=>[0,3,4]
 | 1=>[0,3,4,5]
 | 2=>[0,3,4,5]
 | 3=>[0,4]
 | 4=>[0,3,4,5,11]
 | 5=>[0,3,4,5]
 | 6=>[0,3,4]
 | 7=>[0,3,4,5,24]
 | 8=>[0,3,4,5]
 | 9=>[0,3,4,5,6]
 | 10=>[0,3,4,5,36]
 | 11=>[0,3,4,5,6]
 | 12=>[0,3,4,5,43]
 | 13=>[0,3,4,5]
 | 14=>[0,3,4,5]
 | 15=>[0,3,4,5]
 | 16=>[0,3,4]
 | 17=>[0,3,4,5,57]
 | 18=>[0,3,4,5]
 | 19=>[0,3,4]
 | 20=>[0,3,4,5,68]
 | 21=>[0,3,4,5]
 | 22=>[0,3,4]
 | _=>[]
def hd154:List (Nat×Head UU):=[(1,⟨[0,3,4],[],[(0,parK),(3,.box [.int .i64,.int .i64,.dl TI.node]),(4,.box [.int .i64,.int .i64,.dl TI.node])]⟩),(10,⟨[0,3,4,5],[(6,.bool)],[(0,parK),(3,.box [.int .i64,.int .i64,.dl TI.node]),(4,.box [.int .i64,.int .i64,.dl TI.node]),(5,ptsK)]⟩)]
noncomputable def fd154:FD UU:=⟨⟨fun d=>hasN [] d,fun d=>hasN [] d,kf154,zD hd154,zD [],zn []⟩,zZ Tryz.f154,77,[.cell 4 29]⟩
def kf155:Nat->List Nat
 | 0=>[0,2]
 | 1=>[0,2,3]
 | 2=>[0,2,3,4]
 | 3=>[0,2,3]
 | 4=>[0,2]
 | 5=>[0,2,3,12]
 | 6=>[0,2,3]
 | 7=>[0,2]
 | 8=>[0,2,3,24]
 | 9=>[0,2,3,28]
 | 10=>[0,2,3]
 | 11=>[0,2]
 | 12=>[0,2,3]
 | 13=>[0,2]
 | _=>[]
def hd155:List (Nat×Head UU):=[(9,⟨[0,2,3],[],[(0,parK),(2,.box [.int .i64,.int .i64,.dl TI.node]),(3,ptsK)]⟩)]
noncomputable def fd155:FD UU:=⟨⟨fun d=>hasN [] d,fun d=>hasN [] d,kf155,zD hd155,zD [],zn []⟩,zZ Tryz.f155,37,[.cell 2 29]⟩
theorem fdok53:FDOk Tryz.prog (hasN [33,143]) (hasN [38]) 53 fd53:=fdk Tryz.func53 Tryz.ntmps53 Tryz.results53
theorem fdok74:FDOk Tryz.prog (hasN [33,143]) (hasN [38]) 74 fd74:=fdk Tryz.func74 Tryz.ntmps74 Tryz.results74
theorem zQN:FDOk Tryz.prog (hasN [33,143]) (hasN [38]) 107 fd107:=fdk Tryz.func107 Tryz.ntmps107 Tryz.results107
theorem fdok75:FDOk Tryz.prog (hasN [33,143]) (hasN [38]) 75 fd75:=fdk Tryz.func75 Tryz.ntmps75 Tryz.results75
theorem zRW:FDOk Tryz.prog (hasN [33,143]) (hasN [38]) 108 fd108:=fdk Tryz.func108 Tryz.ntmps108 Tryz.results108
theorem fdok79:FDOk Tryz.prog (hasN [33,143]) (hasN [38]) 79 fd79:=fdk Tryz.func79 Tryz.ntmps79 Tryz.results79
theorem fdok82:FDOk Tryz.prog (hasN [33,143]) (hasN [38]) 82 fd82:=fdk Tryz.func82 Tryz.ntmps82 Tryz.results82
theorem fdok56:FDOk Tryz.prog (hasN [33,143]) (hasN [38]) 56 fd56:=fdk Tryz.func56 Tryz.ntmps56 Tryz.results56
theorem zQG:FDOk Tryz.prog (hasN [33,143]) (hasN [38]) 130 fd130:=fdk Tryz.func130 Tryz.ntmps130 Tryz.results130
theorem fdok81:FDOk Tryz.prog (hasN [33,143]) (hasN [38]) 81 fd81:=fdk Tryz.func81 Tryz.ntmps81 Tryz.results81
theorem zPb:FDOk Tryz.prog (hasN [33,143]) (hasN [38]) 110 fd110:=fdk Tryz.func110 Tryz.ntmps110 Tryz.results110
theorem zQr:FDOk Tryz.prog (hasN [33,143]) (hasN [38]) 151 fd151:=fdk Tryz.func151 Tryz.ntmps151 Tryz.results151
theorem fdok83:FDOk Tryz.prog (hasN [33,143]) (hasN [38]) 83 fd83:=fdk Tryz.func83 Tryz.ntmps83 Tryz.results83
theorem fdok57:FDOk Tryz.prog (hasN [33,143]) (hasN [38]) 57 fd57:=fdk Tryz.func57 Tryz.ntmps57 Tryz.results57
theorem fdok55:FDOk Tryz.prog (hasN [33,143]) (hasN [38]) 55 fd55:=fdk Tryz.func55 Tryz.ntmps55 Tryz.results55
theorem fdok37:FDOk Tryz.prog (hasN [33,143]) (hasN [38]) 37 fd37:=fdk Tryz.func37 Tryz.ntmps37 Tryz.results37
theorem fdok60:FDOk Tryz.prog (hasN [33,143]) (hasN [38]) 60 fd60:=fdk Tryz.func60 Tryz.ntmps60 Tryz.results60
theorem fdok86:FDOk Tryz.prog (hasN [33,143]) (hasN [38]) 86 fd86:=fdk Tryz.func86 Tryz.ntmps86 Tryz.results86
theorem zPd:FDOk Tryz.prog (hasN [33,143]) (hasN [38]) 116 fd116:=fdk Tryz.func116 Tryz.ntmps116 Tryz.results116
theorem zRA:FDOk Tryz.prog (hasN [33,143]) (hasN [38]) 115 fd115:=fdk Tryz.func115 Tryz.ntmps115 Tryz.results115
theorem zP9:FDOk Tryz.prog (hasN [33,143]) (hasN [38]) 117 fd117:=fdk Tryz.func117 Tryz.ntmps117 Tryz.results117
theorem zQI:FDOk Tryz.prog (hasN [33,143]) (hasN [38]) 113 fd113:=fdk Tryz.func113 Tryz.ntmps113 Tryz.results113
theorem zRT:FDOk Tryz.prog (hasN [33,143]) (hasN [38]) 111 fd111:=fdk Tryz.func111 Tryz.ntmps111 Tryz.results111
theorem zQg:FDOk Tryz.prog (hasN [33,143]) (hasN [38]) 114 fd114:=fdk Tryz.func114 Tryz.ntmps114 Tryz.results114
theorem zQx:FDOk Tryz.prog (hasN [33,143]) (hasN [38]) 131 fd131:=fdk Tryz.func131 Tryz.ntmps131 Tryz.results131
theorem zQ4:FDOk Tryz.prog (hasN [33,143]) (hasN [38]) 142 fd142:=fdk Tryz.func142 Tryz.ntmps142 Tryz.results142
theorem zQ1:FDOk Tryz.prog (hasN [33,143]) (hasN [38]) 150 fd150:=fdk Tryz.func150 Tryz.ntmps150 Tryz.results150
theorem zP1:FDOk Tryz.prog (hasN [33,143]) (hasN [38]) 154 fd154:=fdk Tryz.func154 Tryz.ntmps154 Tryz.results154
theorem zQi:FDOk Tryz.prog (hasN [33,143]) (hasN [38]) 155 fd155:=fdk Tryz.func155 Tryz.ntmps155 Tryz.results155
noncomputable def run143 (fu:Nat) (nf:Nat->Bool) (x0:List UInt8):Option (zh zDb):=
 jF CC Tb fu 2 (zD []) (zD []) (zD []) (zD []) fd143 zFB zDb nf (x0,())
theorem zQL:FDOk Tryz.prog (hasN []) (hasN []) 143 fd143:=fdk Tryz.func143 Tryz.ntmps143 Tryz.results143
theorem zRV:FDOk Tryz.prog (hasN [33,143]) (hasN [38]) 36 fd36:=fdk Tryz.func36 Tryz.ntmps36 Tryz.results36
theorem zQ5:FDOk Tryz.prog (hasN [33,143]) (hasN [38]) 41 fd41:=fdk Tryz.func41 Tryz.ntmps41 Tryz.results41
end
section
open Go.Al Go.Den
abbrev as41:List (AK UU):=[.int .i64,.dl TI.node]
abbrev rs41:List (AK UU):=[.st TI.node]
def kf15:Nat->List Nat
 | 0=>[0]
 | 1=>[2]
 | _=>[]
noncomputable def fd15:FD UU:=⟨⟨fun d=>hasN [] d,fun d=>hasN [] d,kf15,zD [],zD [],zn []⟩,zZ Tryz.f15,6,[.tmp 2]⟩
def kf33:Nat->List Nat
 | 0=>[0,1]
 | 1=>[4]
 | _=>[]
noncomputable def fd33:FD UU:=⟨⟨fun d=>hasN [] d,fun d=>hasN [] d,kf33,zD [],zD [],zn []⟩,zZ Tryz.f33,9,[.tmp 4]⟩
def kf52:Nat->List Nat
 | 0=>[0,1]
 | 1=>[0,1,7,8]
 | 2=>[0,1,7,8,9]
 | 3=>[0,1,5,7,8]
 | 4=>[0,1,5,7,8,16]
 | 5=>[4]
 | 6=>[0,1,7,8]
 | 7=>[4]
 | _=>[]
def hd52:List (Nat×Head UU):=[(2,⟨[0,1,7],[(8,.int .i64)],[]⟩)]
noncomputable def fd52:FD UU:=⟨⟨fun d=>hasN [] d,fun d=>hasN [] d,kf52,zD hd52,zD [],zn []⟩,zZ Tryz.f52,19,[.tmp 4]⟩
noncomputable def run33 (fu:Nat) (nf:Nat->Bool) (x0:List (List UInt8)) (x1:List UInt8):Option (zh rs33):=
 jF CC Tb fu 3 (zD [(52,fd52)]) (zD []) (zD []) (zD []) fd33 as33 rs33 nf (x0,x1,())
theorem fdok33:FDOk Tryz.prog (hasN []) (hasN []) 33 fd33:=fdk Tryz.func33 Tryz.ntmps33 Tryz.results33
theorem zMX:FDOk Tryz.prog (hasN []) (hasN []) 52 fd52:=fdk Tryz.func52 Tryz.ntmps52 Tryz.results52
noncomputable def run15 (fu:Nat) (c33:List (List UInt8)×List UInt8×Unit->Option (Bool×Unit)) (nf:Nat->Bool) (x0:List UInt8):Option (zh rs15):=
 jF CC Tb fu 2 (zD []) (zD [(33,(⟨as33,rs33,c33⟩:Con UU))]) (zD []) (zD []) fd15 as15 rs15 nf (x0,())
theorem fdok15:FDOk Tryz.prog (hasN [33]) (hasN []) 15 fd15:=fdk Tryz.func15 Tryz.ntmps15 Tryz.results15
noncomputable def run41 (fu:Nat) (nf:Nat->Bool) (x0:Int) (x1:List Nd):Option (zh rs41):=
 jF CC Tb fu 2 (zD []) (zD []) (zD []) (zD []) fd41 as41 rs41 nf (x0,x1,())
theorem fdok41:FDOk Tryz.prog (hasN []) (hasN []) 41 fd41:=fdk Tryz.func41 Tryz.ntmps41 Tryz.results41
end
section
open Go.Al Go.Den
abbrev as17:List (AK UU):=[.dl TI.tok]
abbrev rs17:List (AK UU):=[.st TI.node,.int .i64]
abbrev as32:List (AK UU):=[.st TI.node,.int .i64]
abbrev rs32:List (AK UU):=[.dl TI.node]
def hd3:List (Nat×Head UU):=[(9,⟨[1,5],[(7,.ow true TI.tok),(8,.int .i64)],[]⟩)]
def hd4:List (Nat×Head UU):=[(7,⟨[3,4],[(5,.ow true TI.tok),(6,.int .i64)],[]⟩)]
def hd5:List (Nat×Head UU):=[(9,⟨[1,2,7,11],[(12,.ow true TI.tok),(13,.int .i64)],[]⟩)]
def hd6:List (Nat×Head UU):=[(7,⟨[5,6,7],[(8,.int .i64)],[]⟩),(19,⟨[5,6,9,11,13],[(15,.int .i64)],[(9,.box [.int .i64,.int .i64,.dl TI.node]),(11,.box [.int .i64,.int .i64,.dl TI.node]),(13,.box [.int .i64,.int .i64,.dl TI.node])]⟩)]
end
section
open Go.Al Go.Den
abbrev wkK:SK UU:=.box [.dl TI.tok,.ar1 TI.bind,.lvs,.mp1,.mp1,.jp]
abbrev wkL:SK UU:=.box [.dl TI.tok,.ar1 TI.bind,.lvs,.mp1,.mp1,.lvj]
abbrev wk0:SK UU:=.box [.dl TI.tok,.ar1 TI.bind,.np,.mp1,.mp1,.jp]
abbrev wkR:SK UU:=.box [.dl TI.tok,.ar1 TI.bind,.jp,.jm,.jm,.jp]
abbrev LT1:=MT×MT
abbrev WkT:=List TokT×List BindT×List LT1×MT×MT×Unit×Unit
abbrev WkLT:=List TokT×List BindT×List LT1×MT×MT×Option (Option LT1)×Unit
abbrev Wk0T:=List TokT×List BindT×Unit×MT×MT×Unit×Unit
abbrev WkRT:=List TokT×List BindT×Unit×Unit×Unit×Unit×Unit
abbrev WS:=List TokT×List BindT×List LT1×MT×MT
abbrev WW (α:Type):=WS->Option (α×WS)
abbrev OO:=Option (Option LT1)
abbrev wS (x:WkT):WS:=(x.1,x.2.1,x.2.2.1,x.2.2.2.1,x.2.2.2.2.1)
abbrev wT (x:WS):WkT:=(x.1,x.2.1,x.2.2.1,x.2.2.2.1,x.2.2.2.2,(),())
abbrev cE {ρ:Type} (l:List BindT) (x:Option ρ):Option ρ:=cond (eqN (List.length l) (List.length l)) x none
def fW {aa rs:List (SK UU)} (m:zA aa->WW (zA rs)) {R:Type} (x:WkT×Unit) (a:zA aa) (K:WkT×Unit->zA rs->Option R):Option R:=
 Option.bind (m a (x.1.1,x.1.2.1,x.1.2.2.1,x.1.2.2.2.1,x.1.2.2.2.2.1)) fun y=>K ((y.2.1,y.2.2.1,y.2.2.2.1,y.2.2.2.2.1,y.2.2.2.2.2,(),()),()) y.1
abbrev cW (aa rs:List (SK UU)) (m:zA aa->WW (zA rs)):CP UU:=⟨[wkK],[wkK],aa,rs,fun x a _ K=>fW m x a K⟩
def fWt {aa rs:List (SK UU)} (m:zA aa->WW (zA rs×Option (Option LT1))) {R:Type} (x:WkT×Unit) (a:zA aa) (K:WkLT×Unit->zA rs->Option R):Option R:=
 Option.bind (m a (x.1.1,x.1.2.1,x.1.2.2.1,x.1.2.2.2.1,x.1.2.2.2.2.1)) fun y=>K ((y.2.1,y.2.2.1,y.2.2.2.1,y.2.2.2.2.1,y.2.2.2.2.2,y.1.2,()),()) y.1.1
abbrev cWt (aa rs:List (SK UU)) (m:zA aa->WW (zA rs×Option (Option LT1))):CP UU:=⟨[wkK],[wkL],aa,rs,fun x a _ K=>fWt m x a K⟩
def fWj {aa rs:List (SK UU)} (m:zA aa->WW (zA rs×Option (Option LT1))) {R:Type} (x:WkT×Unit) (a:zA aa) (K:WkT×Unit->zA rs->Option R):Option R:=
 Option.bind (m a (x.1.1,x.1.2.1,x.1.2.2.1,x.1.2.2.2.1,x.1.2.2.2.2.1)) fun y=>K ((y.2.1,y.2.2.1,y.2.2.2.1,y.2.2.2.2.1,y.2.2.2.2.2,(),()),()) y.1.1
abbrev cWj (aa rs:List (SK UU)) (m:zA aa->WW (zA rs×Option (Option LT1))):CP UU:=⟨[wkK],[wkK],aa,rs,fun x a _ K=>fWj m x a K⟩
def fW0 {aa rs:List (SK UU)} (m:zA aa->WW (zA rs)) {R:Type} (x:Wk0T×Unit) (a:zA aa) (K:Wk0T×Unit->zA rs->Option R):Option R:=
 Option.bind (m a (x.1.1,x.1.2.1,[],x.1.2.2.2.1,x.1.2.2.2.2.1)) fun y=>K ((y.2.1,y.2.2.1,(),y.2.2.2.2.1,y.2.2.2.2.2,(),()),()) y.1
abbrev cW0 (aa rs:List (SK UU)) (m:zA aa->WW (zA rs)):CP UU:=⟨[wk0],[wk0],aa,rs,fun x a _ K=>fW0 m x a K⟩
def fW1 {aa rs:List (SK UU)} (m:zA aa->WW (zA rs)) {R:Type} (x:Wk0T×Unit) (a:zA aa) (K:WkT×Unit->zA rs->Option R):Option R:=
 Option.bind (m a (x.1.1,x.1.2.1,[],x.1.2.2.2.1,x.1.2.2.2.2.1)) fun y=>K ((y.2.1,y.2.2.1,y.2.2.2.1,y.2.2.2.2.1,y.2.2.2.2.2,(),()),()) y.1
abbrev cW1 (aa rs:List (SK UU)) (m:zA aa->WW (zA rs)):CP UU:=⟨[wk0],[wkK],aa,rs,fun x a _ K=>fW1 m x a K⟩
def fRW {aa rs:List (SK UU)} (m:zA aa->List TokT->Option (zA rs)) {R:Type} (x:WkRT×zA aa) (K:zA rs->Option R):Option R:=
 Option.bind (m x.2 x.1.1) fun y=>K y
abbrev cRW (aa rs:List (SK UU)) (m:zA aa->List TokT->Option (zA rs)):CR UU:=⟨wkR::aa,rs,fun x K=>fRW m x K⟩
def fFB (m:zA ([.dl TI.bind,.int .i64]:LK)->Option (zA ([.ar1 TI.bind]:LK))) {R:Type} (a:zA ([.dl TI.bind,.int .i64]:LK)) (K:Unit->zA ([.ar1 TI.bind]:LK)->Option R):Option R:=
 Option.bind (m a) fun y=>K () y
abbrev cFB (m:zA ([.dl TI.bind,.int .i64]:LK)->Option (zA ([.ar1 TI.bind]:LK))):CP UU:=⟨[],[],[.dl TI.bind,.int .i64],[.ar1 TI.bind],fun _ a _ K=>fFB m a K⟩
end
section
open Go.Al Go.Den
abbrev as13:List (AK UU):=[.ls TI.bind,.ls TI.bind,.int .i64]
abbrev rs13:List (AK UU):=[.bool]
abbrev as24:List (AK UU):=[]
abbrev rs24:List (AK UU):=[.bool]
abbrev as25:List (AK UU):=[.str]
abbrev rs25:List (AK UU):=[.dl TI.tok]
abbrev as26:List (AK UU):=[.dl TI.tok,.st TI.node]
abbrev rs26:List (AK UU):=[.dl TI.bind]
abbrev as27:List (AK UU):=[.ls TI.bind,.ls TI.bind]
abbrev rs27:List (AK UU):=[.bool]
abbrev as28:List (AK UU):=[.ls TI.bind,.int .i64]
abbrev rs28:List (AK UU):=[.dl TI.int]
abbrev as29:List (AK UU):=[.ls TI.int,.ls TI.int]
abbrev rs29:List (AK UU):=[.bool]
abbrev as30:List (AK UU):=[.ls TI.bind,.ls TI.bind]
abbrev rs30:List (AK UU):=[.bool]
abbrev as43:List (AK UU):=[.str,.str]
abbrev rs43:List (AK UU):=[.dl TI.int]
abbrev as49:List (AK UU):=[.ls TI.bind,.ls TI.bind]
abbrev rs49:List (AK UU):=[.bool]
def kf13:Nat->List Nat
 | 0=>[0,1,2]
 | 1=>[0,1,2,7]
 | 2=>[0,1,2,7,20]
 | 3=>[6]
 | 4=>[0,1,2,7,8]
 | 5=>[0,1,2,7,8,9]
 | 6=>[0,1,2,7,8,9,10]
 | 7=>[0,1,2,7,8,9,10,11]
 | 8=>[0,1,2,7,8,9,10,11,31]
 | 9=>[0,1,2,7,8,9,10,11]
 | 10=>[0,1,2,7,8,9,10,11,60]
 | 11=>[0,1,2,7,8,9,10,11]
 | 12=>[6]
 | _=>[]
def hd13:List (Nat×Head UU):=[(8,⟨[0,1,2,7,8,9],[(10,.ow true TI.int),(11,.int .i64)],[]⟩)]
noncomputable def fd13:FD UU:=⟨⟨fun d=>hasN [] d,fun d=>hasN [] d,kf13,zD hd13,zD [],zn []⟩,zZ Tryz.f13,78,[.tmp 6]⟩
def kf24:Nat->List Nat
 | 0=>[]
 | 1=>[1]
 | 2=>[1,2]
 | 3=>[1,2,3]
 | 4=>[1,2,3,4]
 | 5=>[1,2,4,5]
 | 6=>[1,2,4,5,6]
 | 7=>[1,2,4,5,6,7]
 | 8=>[1,2,4,5,6,7,8]
 | 9=>[1,2,4,5,6,8,9]
 | 10=>[6,8,9,10]
 | 11=>[0]
 | _=>[]
noncomputable def fd24:FD UU:=⟨⟨fun d=>hasN [] d,fun d=>hasN [] d,kf24,zD [],zD [],zn []⟩,zZ Tryz.f24,56,[.tmp 0]⟩
def kf25:Nat->List Nat
 | 0=>[0]
 | 1=>[3]
 | 2=>[3,4]
 | 3=>[3,4,5]
 | 4=>[3,4,5,11]
 | 5=>[3,4,5]
 | 6=>[3,4,5,19]
 | 7=>[3,4,5]
 | 8=>[2]
 | _=>[]
def hd25:List (Nat×Head UU):=[(4,⟨[3],[(4,.ow true TI.tok),(5,.int .i64)],[]⟩)]
noncomputable def fd25:FD UU:=⟨⟨fun d=>hasN [] d,fun d=>hasN [] d,kf25,zD hd25,zD [],zn []⟩,zZ Tryz.f25,28,[.tmp 2]⟩
def kf26:Nat->List Nat
 | 0=>[0,3]
 | 1=>[0,3,5]
 | 2=>[3,5]
 | 3=>[3,5,26,27,28]
 | 4=>[3,5,26,27,28,29]
 | 5=>[3,5,7,26,27,28]
 | 6=>[3,5,26,27,28,33,34,35]
 | 7=>[3,5,26,27,28,33,34,35,36]
 | 8=>[3,5,9,26,27,28,33,34,35]
 | 9=>[3,5,9,26,27,28,33,34,35,41]
 | 10=>[3,5,10,26,27,28,33,34,35]
 | 11=>[3,5,10,11,26,27,28,33,34,35]
 | 12=>[3,5,10,26,27,28,33,34,35,59]
 | 13=>[3,5,26,27,28,33,34,35]
 | 14=>[3,5,26,27,28,33,34,35]
 | 15=>[3,5,26,27,28]
 | 16=>[3,5]
 | 17=>[5]
 | 18=>[4]
 | _=>[]
def hd26:List (Nat×Head UU):=[(4,⟨[3,5,26,27],[(28,.int .i64)],[(3,.box [.int .i64,.int .i64,.dl TI.node]),(5,wk0)]⟩),(7,⟨[3,5,26,27,28,33,34],[(35,.int .i64)],[(3,.box [.int .i64,.int .i64,.dl TI.node]),(5,wk0)]⟩)]
noncomputable def fd26:FD UU:=⟨⟨fun d=>hasN [] d,fun d=>hasN [] d,kf26,zD hd26,zD [],zn [(11,[(51,47,5)]),(13,[(66,62,5)])]⟩,zZ Tryz.f26,80,[.tmp 4]⟩
def kf27:Nat->List Nat
 | 0=>[0,1]
 | 1=>[0,1,10]
 | 2=>[4]
 | 3=>[0,1,5]
 | 4=>[0,1,5,14]
 | 5=>[0,1,5]
 | 6=>[0,1,5,25]
 | 7=>[4]
 | 8=>[4]
 | _=>[]
def hd27:List (Nat×Head UU):=[(4,⟨[0,1],[(5,.int .i64)],[]⟩)]
noncomputable def fd27:FD UU:=⟨⟨fun d=>hasN [] d,fun d=>hasN [] d,kf27,zD hd27,zD [],zn []⟩,zZ Tryz.f27,26,[.tmp 4]⟩
def kf28:Nat->List Nat
 | 0=>[0,1]
 | 1=>[0,1,23]
 | 2=>[4]
 | 3=>[0,1,5]
 | 4=>[0,1,5,24,25,26]
 | 5=>[0,1,5,24,25,26,27]
 | 6=>[0,1,5,6,7,24,25,26]
 | 7=>[0,1,5,6,24,25,26,36]
 | 8=>[0,1,5,24,25,26]
 | 9=>[0,1,5,24,25,26]
 | 10=>[4]
 | _=>[]
def hd28:List (Nat×Head UU):=[(5,⟨[0,1,24,25],[(5,.ow true TI.int),(26,.int .i64)],[]⟩)]
noncomputable def fd28:FD UU:=⟨⟨fun d=>hasN [] d,fun d=>hasN [] d,kf28,zD hd28,zD [],zn []⟩,zZ Tryz.f28,43,[.tmp 4]⟩
def kf29:Nat->List Nat
 | 0=>[0,1]
 | 1=>[0,1,10]
 | 2=>[4]
 | 3=>[0,1,5]
 | 4=>[0,1,5,14]
 | 5=>[0,1,5]
 | 6=>[0,1,5,25]
 | 7=>[4]
 | 8=>[4]
 | _=>[]
def hd29:List (Nat×Head UU):=[(4,⟨[0,1],[(5,.int .i64)],[]⟩)]
noncomputable def fd29:FD UU:=⟨⟨fun d=>hasN [] d,fun d=>hasN [] d,kf29,zD hd29,zD [],zn []⟩,zZ Tryz.f29,26,[.tmp 4]⟩
def kf30:Nat->List Nat
 | 0=>[0,1]
 | 1=>[4]
 | _=>[]
noncomputable def fd30:FD UU:=⟨⟨fun d=>hasN [] d,fun d=>hasN [] d,kf30,zD [],zD [],zn []⟩,zZ Tryz.f30,8,[.tmp 4]⟩
def kf43:Nat->List Nat
 | 0=>[0,1]
 | 1=>[1,5]
 | 2=>[1,5,6,7]
 | 3=>[1,5,6,19]
 | 4=>[4]
 | 5=>[1,5,8]
 | 6=>[1,5,8,9]
 | 7=>[1,5,8,9,10]
 | 8=>[1,5,8,9,10,32]
 | 9=>[1,5,8,9,10]
 | 10=>[1,5,8,9,10,41]
 | 11=>[1,5,8,9,10]
 | 12=>[4]
 | _=>[]
def hd43:List (Nat×Head UU):=[(8,⟨[1,5,8],[(9,.ow true TI.int),(10,.int .i64)],[]⟩)]
noncomputable def fd43:FD UU:=⟨⟨fun d=>hasN [] d,fun d=>hasN [] d,kf43,zD hd43,zD [],zn []⟩,zZ Tryz.f43,51,[.tmp 4]⟩
def kf49:Nat->List Nat
 | 0=>[0,1]
 | 1=>[0,1,10]
 | 2=>[4]
 | 3=>[0,1,12,13]
 | 4=>[0,1,12,13,14]
 | 5=>[0,1,5,12,13]
 | 6=>[0,1,12,13,24]
 | 7=>[4]
 | 8=>[0,1,12,13]
 | 9=>[4]
 | _=>[]
def hd49:List (Nat×Head UU):=[(4,⟨[0,1,12],[(13,.int .i64)],[]⟩)]
noncomputable def fd49:FD UU:=⟨⟨fun d=>hasN [] d,fun d=>hasN [] d,kf49,zD hd49,zD [],zn []⟩,zZ Tryz.f49,26,[.tmp 4]⟩
noncomputable def run26 (fu:Nat) (c32:Nd×Int×Unit->Option (List Nd×Unit)) (c46:zA kI->List TokT->Option (zA kS)) (c44:zA ([.dl TI.bind,.int .i64]:LK)->Option (zA ([.ar1 TI.bind]:LK))) (c45:zA kN->WW (zA kI)) (c47:zA k0->WW (zA k0)) (c48:zA kN->WW (zA k0)) (nf:Nat->Bool) (x0:List TokT) (x1:Nd):Option (zh rs26):=
 jF CC Tb fu 2 (zD []) (zD [(32,(⟨as32,rs32,c32⟩:Con UU))]) (zD [(46,cRW kI kS c46)]) (zD [(44,cFB c44),(45,cW0 kN kI c45),(47,cW1 k0 k0 c47),(48,cW kN k0 c48)]) fd26 as26 rs26 nf (x0,x1,())
theorem fdok26:FDOk Tryz.prog (hasN [32]) (hasN [46]) 26 fd26:=fdk Tryz.func26 Tryz.ntmps26 Tryz.results26
noncomputable def run28 (fu:Nat) (nf:Nat->Bool) (x0:List BindT) (x1:Int):Option (zh rs28):=
 jF CC Tb fu 2 (zD []) (zD []) (zD []) (zD []) fd28 as28 rs28 nf (x0,x1,())
theorem fdok28:FDOk Tryz.prog (hasN []) (hasN []) 28 fd28:=fdk Tryz.func28 Tryz.ntmps28 Tryz.results28
noncomputable def run49 (fu:Nat) (nf:Nat->Bool) (x0:List BindT) (x1:List BindT):Option (zh rs49):=
 jF CC Tb fu 2 (zD []) (zD []) (zD []) (zD []) fd49 as49 rs49 nf (x0,x1,())
theorem fdok49:FDOk Tryz.prog (hasN []) (hasN []) 49 fd49:=fdk Tryz.func49 Tryz.ntmps49 Tryz.results49
noncomputable def run30 (fu:Nat) (c49:List BindT×List BindT×Unit->Option (Bool×Unit)) (nf:Nat->Bool) (x0:List BindT) (x1:List BindT):Option (zh rs30):=
 jF CC Tb fu 2 (zD []) (zD [(49,(⟨as49,rs49,c49⟩:Con UU))]) (zD []) (zD []) fd30 as30 rs30 nf (x0,x1,())
theorem fdok30:FDOk Tryz.prog (hasN [49]) (hasN []) 30 fd30:=fdk Tryz.func30 Tryz.ntmps30 Tryz.results30
noncomputable def run27 (fu:Nat) (nf:Nat->Bool) (x0:List BindT) (x1:List BindT):Option (zh rs27):=
 jF CC Tb fu 2 (zD []) (zD []) (zD []) (zD []) fd27 as27 rs27 nf (x0,x1,())
theorem fdok27:FDOk Tryz.prog (hasN []) (hasN []) 27 fd27:=fdk Tryz.func27 Tryz.ntmps27 Tryz.results27
noncomputable def run29 (fu:Nat) (nf:Nat->Bool) (x0:List Int) (x1:List Int):Option (zh rs29):=
 jF CC Tb fu 2 (zD []) (zD []) (zD []) (zD []) fd29 as29 rs29 nf (x0,x1,())
theorem fdok29:FDOk Tryz.prog (hasN []) (hasN []) 29 fd29:=fdk Tryz.func29 Tryz.ntmps29 Tryz.results29
noncomputable def run25 (fu:Nat) (c39:Int×List UInt8×Unit->Option (List TokT×Unit)) (nf:Nat->Bool) (x0:List UInt8):Option (zh rs25):=
 jF CC Tb fu 2 (zD []) (zD [(39,(⟨as39,rs39,c39⟩:Con UU))]) (zD []) (zD []) fd25 as25 rs25 nf (x0,())
theorem fdok25:FDOk Tryz.prog (hasN [39]) (hasN []) 25 fd25:=fdk Tryz.func25 Tryz.ntmps25 Tryz.results25
noncomputable def run43 (fu:Nat) (c17:List TokT×Unit->Option (Nd×Int×Unit)) (c25:List UInt8×Unit->Option (List TokT×Unit)) (c26:List TokT×Nd×Unit->Option (List BindT×Unit)) (nf:Nat->Bool) (x0:List UInt8) (x1:List UInt8):Option (zh rs43):=
 jF CC Tb fu 2 (zD []) (zD [(17,(⟨as17,rs17,c17⟩:Con UU)),(25,(⟨as25,rs25,c25⟩:Con UU)),(26,(⟨as26,rs26,c26⟩:Con UU))]) (zD []) (zD []) fd43 as43 rs43 nf (x0,x1,())
theorem fdok43:FDOk Tryz.prog (hasN [17,25,26]) (hasN []) 43 fd43:=fdk Tryz.func43 Tryz.ntmps43 Tryz.results43
noncomputable def run24 (fu:Nat) (c29:List Int×List Int×Unit->Option (Bool×Unit)) (c43:List UInt8×List UInt8×Unit->Option (List Int×Unit)) (nf:Nat->Bool) :Option (zh rs24):=
 jF CC Tb fu 2 (zD []) (zD [(29,(⟨as29,rs29,c29⟩:Con UU)),(43,(⟨as43,rs43,c43⟩:Con UU))]) (zD []) (zD []) fd24 as24 rs24 nf ()
theorem fdok24:FDOk Tryz.prog (hasN [29,43]) (hasN []) 24 fd24:=fdk Tryz.func24 Tryz.ntmps24 Tryz.results24
noncomputable def run13 (fu:Nat) (c24:Unit->Option (Bool×Unit)) (c27:List BindT×List BindT×Unit->Option (Bool×Unit)) (c28:List BindT×Int×Unit->Option (List Int×Unit)) (c29:List Int×List Int×Unit->Option (Bool×Unit)) (c30:List BindT×List BindT×Unit->Option (Bool×Unit)) (nf:Nat->Bool) (x0:List BindT) (x1:List BindT) (x2:Int):Option (zh rs13):=
 jF CC Tb fu 2 (zD []) (zD [(24,(⟨as24,rs24,c24⟩:Con UU)),(27,(⟨as27,rs27,c27⟩:Con UU)),(28,(⟨as28,rs28,c28⟩:Con UU)),(29,(⟨as29,rs29,c29⟩:Con UU)),(30,(⟨as30,rs30,c30⟩:Con UU))]) (zD []) (zD []) fd13 as13 rs13 nf (x0,x1,x2,())
theorem fdok13:FDOk Tryz.prog (hasN [24,27,28,29,30]) (hasN []) 13 fd13:=fdk Tryz.func13 Tryz.ntmps13 Tryz.results13
end
section
open Go.Al Go.Den
instance:DecidableEq TokT:=fun a b=>
 if h:a.kind=b.kind/\a.text=b.text/\a.file=b.file/\a.ffrom=b.ffrom/\a.fto=b.fto/\a.blank=b.blank then
  isTrue (by obtain ⟨_,_,_,_,_,_⟩:=a; obtain ⟨_,_,_,_,_,_⟩:=b; simp only at h; obtain ⟨rfl,rfl,rfl,rfl,rfl,rfl⟩:=h; rfl)
 else isFalse fun e=>h (by subst e; exact ⟨rfl,rfl,rfl,rfl,rfl,rfl⟩)
theorem kq {P:Program} {f:Nat} {io oo aa rs:List (SK UU)} {sh:zA io->zA aa->Option (Option (zA oo×zA rs))} (h:CPOk CC P syn f ⟨io,oo,aa,rs,fnP sh⟩) (x:zA io) (a:zA aa) (oc:Option (zA oo×zA rs)) (hx:sh x a=some oc) :
 ∀ s vx va r1 r2,VKs CC s io x vx r1->VKs CC s aa a va r2->(r1++r2).Nodup->FnC P f (vx++va) (subS s (r1++r2)) (qa CC syn oo rs vx oc):=by
 cases oc with
 | none=>
  obtain ⟨oc,h1,h2⟩:=h x a (R:=Unit) (some ()) (fun _ _=>none) () (by simp only [fnP,hx]; rfl);cases oc with
  | none=>exact h2
  | some y=>cases h1
 | some y=>
  obtain ⟨oc,h1,h2⟩:=h x a (R:=zA oo×zA rs) none (fun u v=>some (u,v)) y (by simp only [fnP,hx]; rfl);cases oc with
  | none=>cases h1
  | some y'=>
   injection h1 with h1
   have:y' = y:=h1;subst this;exact h2
def outM {β:Type} (l:List TokT):Option (Option ((ParT×Unit)×β))->Option (Option (β×PSt))
 | none=>none
 | some none=>some none
 | some (some y)=>if y.1.1.1=l then some (some (y.2,y.1.1.2.1,y.1.1.2.2.1)) else none
def outX {β:Type} (l:List TokT):Option (Option ((ParT×NdsT×Unit)×β))->Option (Option ((β×List Nd)×PSt))
 | none=>none
 | some none=>some none
 | some (some y)=>if y.1.1.1=l then some (some ((y.2,y.1.2.1.1),y.1.1.2.1,y.1.1.2.2.1)) else none
def outL {β:Type} (l:List TokT):Option (Option ((zFE×Unit)×β))->Option (Option ((β×Option MT)×PSt))
 | none=>none
 | some none=>some none
 | some (some y)=>if y.1.1.1=l then some (some ((y.2,y.1.1.2.2.2.1),y.1.1.2.1,y.1.1.2.2.1)) else none
noncomputable def mM {aa rs:LK} (sh:ParT×Unit->zA aa->Option (Option ((ParT×Unit)×zA rs))):zA aa->MM (zA rs):=fun a l s=>outM l (sh ((l,s.1,s.2,(),()),()) a)
noncomputable def mX {aa rs:LK} (sh:ParT×NdsT×Unit->zA aa->Option (Option ((ParT×NdsT×Unit)×zA rs))):zA aa->List Nd->MM (zA rs×List Nd):=fun a pts l s=>outX l (sh ((l,s.1,s.2,(),()),(pts,()),()) a)
noncomputable def mL {aa rs:LK} (sh:ParT×Unit->zA aa->Option (Option ((zFE×Unit)×zA rs))):zA aa->MM (zA rs×Option MT):=fun a l s=>outL l (sh ((l,s.1,s.2,(),()),()) a)
theorem zEu {P:Program} {f:Nat} {aa rs:List (SK UU)} {m:zA aa->MM (zA rs)} (h:∀ l i xs a o,m a l (i,xs)=some o->∀ (st:S) vx va r1 r2,VKs CC st [parK] ((l,i,xs,(),()),()) vx r1->VKs CC st aa a va r2->(r1++r2).Nodup ->
 FnC P f (vx++va) (subS st (r1++r2)) (qa CC syn [parK] rs vx (o.map fun y=>(((l,y.2.1,y.2.2,(),()),()),y.1)))):CPOk CC P syn f (cM aa rs m):=by
 intro x a R pan K r hr;obtain ⟨⟨l,i,xs,u,u'⟩,u''⟩:=x;replace hr:fM m ((l,i,xs,u,u'),u'') a pan K=some r:=hr;simp only [fM] at hr;cases hm:m a l (i,xs) with
 | none=>rw [hm] at hr; cases hr
 | some o=>
  rw [hm] at hr;refine ⟨_,?_,fun s vx va r1 r2 h1 h2 h3=>h l i xs a o hm s vx va r1 r2 h1 h2 h3⟩;cases o <;> exact hr
theorem xi {P:Program} {f:Nat} {aa rs:LK} {sh:zA ([parK]:LK)->zA aa->Option (Option (zA ([parK]:LK)×zA rs))} (h:CPOk CC P syn f ⟨[parK],[parK],aa,rs,fnP sh⟩):CPOk CC P syn f (cM aa rs (mM sh)):=by
 refine zEu fun l i xs a o ho st vx va r1 r2 h1 h2 hn=>?_;have key:∀ oo:Option (Option ((ParT×Unit)×zA rs)),sh ((l,i,xs,(),()),()) a=oo->outM l oo=some o->FnC P f (vx++va) (subS st (r1++r2)) (qa CC syn [parK] rs vx (o.map fun y=>(((l,y.2.1,y.2.2,(),()),()),y.1))):=by
  intro oo hs ho;cases oo with
  | none=>cases ho
  | some oc=>
   have hh:=kq h ((l,i,xs,(),()),()) a oc hs st vx va r1 r2 h1 h2 hn;cases oc with
   | none=>injection ho with ho; subst ho; exact hh
   | some y=>
    obtain ⟨⟨⟨l',i',xs',u,u'⟩,u''⟩,z⟩:=y;unfold outM at ho;simp only at ho;split at ho
    . rename_i hy;injection ho with ho
      subst ho;subst hy;exact hh
    . cases ho
 exact key _ rfl ho
theorem zIP {P:Program} {f:Nat} {aa rs:LK} {sh:zA ([parK,ptsK]:LK)->zA aa->Option (Option (zA ([parK,ptsK]:LK)×zA rs))} (h:CPOk CC P syn f ⟨[parK,ptsK],[parK,ptsK],aa,rs,fnP sh⟩):CPOk CC P syn f (cX aa rs (mX sh)):=by
 intro x a R pan K r hr;obtain ⟨⟨l,i,xs,u,u'⟩,⟨pts,v⟩,v'⟩:=x;have key:∀ oo:Option (Option ((ParT×NdsT×Unit)×zA rs)),sh ((l,i,xs,(),()),(pts,()),()) a=oo->(Option.bind (outX l oo) fun o=>zr o pan fun y=>K ((l,y.2.1,y.2.2,(),()),(y.1.2,()),()) y.1.1)=some r ->
  ∃ oc:Option (zA ([parK,ptsK]:LK)×zA rs),(match oc with | none=>pan=some r | some y=>K y.1 y.2=some r)/\∀ s vx va r1 r2,VKs CC s [parK,ptsK] ((l,i,xs,u,u'),(pts,v),v') vx r1->VKs CC s aa a va r2->(r1++r2).Nodup->FnC P f (vx++va) (subS s (r1++r2)) (qa CC syn [parK,ptsK] rs vx oc):=by
  intro oo hs hr;cases oo with
  | none=>cases hr
  | some oc=>
   have hh:=kq h ((l,i,xs,(),()),(pts,()),()) a oc hs;cases oc with
   | none=>exact ⟨none,hr,hh⟩
   | some y=>
    obtain ⟨⟨⟨l',i',xs',w,w'⟩,⟨pts',v1⟩,v2⟩,z⟩:=y;unfold outX at hr;simp only at hr;split at hr
    . rename_i hy;subst hy;exact ⟨some (((l',i',xs',(),()),(pts',()),()),z),hr,hh⟩
    . cases hr
 obtain ⟨oc,h1,h2⟩:=key _ rfl hr;exact ⟨oc,by cases oc <;> exact h1,h2⟩
theorem cL_of {P:Program} {f:Nat} {aa rs:LK} {sh:zA ([parK]:LK)->zA aa->Option (Option (zA ([parL]:LK)×zA rs))} (h:CPOk CC P syn f ⟨[parK],[parL],aa,rs,fnP sh⟩):CPOk CC P syn f (cL aa rs (mL sh)):=by
 intro x a R pan K r hr;obtain ⟨⟨l,i,xs,u,u'⟩,u''⟩:=x;have key:∀ oo:Option (Option ((zFE×Unit)×zA rs)),sh ((l,i,xs,(),()),()) a=oo->(Option.bind (outL l oo) fun o=>zr o pan fun y=>K ((l,y.2.1,y.2.2,y.1.2,()),()) y.1.1)=some r ->
  ∃ oc:Option (zA ([parL]:LK)×zA rs),(match oc with | none=>pan=some r | some y=>K y.1 y.2=some r)/\∀ s vx va r1 r2,VKs CC s [parK] ((l,i,xs,u,u'),u'') vx r1->VKs CC s aa a va r2->(r1++r2).Nodup->FnC P f (vx++va) (subS s (r1++r2)) (qa CC syn [parL] rs vx oc):=by
  intro oo hs hr;cases oo with
  | none=>cases hr
  | some oc=>
   have hh:=kq h ((l,i,xs,(),()),()) a oc hs;cases oc with
   | none=>exact ⟨none,hr,hh⟩
   | some y=>
    obtain ⟨⟨⟨l',i',xs',m,w'⟩,v2⟩,z⟩:=y;unfold outL at hr;simp only at hr;split at hr
    . rename_i hy;subst hy;exact ⟨some (((l',i',xs',m,()),()),z),hr,hh⟩
    . cases hr
 obtain ⟨oc,h1,h2⟩:=key _ rfl hr;exact ⟨oc,by cases oc <;> exact h1,h2⟩
theorem cLj_of {P:Program} {f:Nat} {aa rs:LK} {m:zA aa->MM (zA rs×Option MT)} (h:CPOk CC P syn f (cL aa rs m)):CPOk CC P syn f (cLj aa rs m):=by
 intro x a R pan K r hr;obtain ⟨oc,h1,h2⟩:=h x a (R:=R) pan (fun y z=>K ((y.1.1,y.1.2.1,y.1.2.2.1,(),()),()) z) r hr;cases oc with
 | none=>exact ⟨none,h1,h2⟩
 | some y=>
  obtain ⟨⟨⟨l',i',xs',mm,w'⟩,v2⟩,z⟩:=y;refine ⟨some (((l',i',xs',(),()),()),z),h1,fun s vx va r1 r2 k1 k2 k3=>?_⟩;have hh:=h2 s vx va r1 r2 k1 k2 k3;intro B g w vs hi hgl hv;refine (hh B g w vs hi hgl hv).mono ?_;rintro e w' ⟨g',s1,q1,q2,q3⟩;cases e with
  | outgrown=>exact q3.elim
  | panicked c=>exact ⟨g',s1,q1,q2,q3⟩
  | returned v=>
   obtain ⟨ru,q4,q5⟩:=q3;refine ⟨g',s1,q1,q2,ru,q4,?_⟩;obtain ⟨ws,p1,p2,p3,p4,p5,p6⟩:=q5;simp only [VKs,VK] at p3;obtain ⟨v0,vs0,t1,t2,rfl,rfl,⟨b0,cs,t3,rfl,e1,e2,rfl⟩,rfl,rfl⟩:=p3;obtain ⟨v1,w1,a1,a2,rfl,rfl,⟨rfl,rfl⟩,v2,w2,a3,a4,rfl,rfl,⟨rfl,rfl⟩,v3,w3,a5,a6,rfl,rfl,⟨b,cap,fp,rfl,e3,rfl⟩,v4,w4,a7,a8,rfl,rfl,e4,rfl,rfl⟩:=e2;have hv4:∃ m,v4 = .at (.map m):=by
    cases mm with
    | none=>exact ⟨none,e4.1⟩
    | some c=>obtain ⟨bm,_,rfl,_⟩:=e4; exact ⟨some bm,rfl⟩
   refine ⟨ws,[.inr b0,.ob b],p2,?_,p4,?_,p6⟩
   . simp only [VKs,VK];exact ⟨_,[],_,[],rfl,rfl,⟨b0,_,[.ob b],rfl,e1,⟨_,_,[],[.ob b],rfl,rfl,⟨rfl,rfl⟩,_,_,[],[.ob b],rfl,rfl,⟨rfl,rfl⟩,_,_,[.ob b],[],rfl,rfl,⟨b,cap,fp,rfl,e3,rfl⟩,_,_,[],[],rfl,rfl,⟨hv4,rfl⟩,rfl,rfl⟩,rfl⟩,rfl,rfl⟩
   . simp only [List.nil_append,List.append_nil,List.cons_append] at p5 ⊢;refine p5.sublist ?_;refine List.Sublist.cons_cons _ (List.Sublist.cons_cons _ ?_);exact List.sublist_append_right a7 p2
def outN {β:Type} (l:List TokT):Option (Option ((jD×Unit)×β))->Option (Option ((β×Option (Option MT))×PSt))
 | none=>none
 | some none=>some none
 | some (some y)=>if y.1.1.1=l then some (some ((y.2,y.1.1.2.2.2.1),y.1.1.2.1,y.1.1.2.2.1)) else none
noncomputable def mN {aa rs:LK} (sh:ParT×Unit->zA aa->Option (Option ((jD×Unit)×zA rs))):zA aa->MM (zA rs×Option (Option MT)):=fun a l s=>outN l (sh ((l,s.1,s.2,(),()),()) a)
theorem cN_of {P:Program} {f:Nat} {aa rs:LK} {sh:zA ([parK]:LK)->zA aa->Option (Option (zA ([parJ]:LK)×zA rs))} (h:CPOk CC P syn f ⟨[parK],[parJ],aa,rs,fnP sh⟩):CPOk CC P syn f (cN aa rs (mN sh)):=by
 intro x a R pan K r hr;obtain ⟨⟨l,i,xs,u,u'⟩,u''⟩:=x;have key:∀ oo:Option (Option ((jD×Unit)×zA rs)),sh ((l,i,xs,(),()),()) a=oo->(Option.bind (outN l oo) fun o=>zr o pan fun y=>K ((l,y.2.1,y.2.2,y.1.2,()),()) y.1.1)=some r ->
  ∃ oc:Option (zA ([parJ]:LK)×zA rs),(match oc with | none=>pan=some r | some y=>K y.1 y.2=some r)/\∀ s vx va r1 r2,VKs CC s [parK] ((l,i,xs,u,u'),u'') vx r1->VKs CC s aa a va r2->(r1++r2).Nodup->FnC P f (vx++va) (subS s (r1++r2)) (qa CC syn [parJ] rs vx oc):=by
  intro oo hs hr;cases oo with
  | none=>cases hr
  | some oc=>
   have hh:=kq h ((l,i,xs,(),()),()) a oc hs;cases oc with
   | none=>exact ⟨none,hr,hh⟩
   | some y=>
    obtain ⟨⟨⟨l',i',xs',m,w'⟩,v2⟩,z⟩:=y;unfold outN at hr;simp only at hr;split at hr
    . rename_i hy;subst hy;exact ⟨some (((l',i',xs',m,()),()),z),hr,hh⟩
    . cases hr
 obtain ⟨oc,h1,h2⟩:=key _ rfl hr;exact ⟨oc,by cases oc <;> exact h1,h2⟩
theorem cNj_of {P:Program} {f:Nat} {aa rs:LK} {m:zA aa->MM (zA rs×Option (Option MT))} (h:CPOk CC P syn f (cN aa rs m)):CPOk CC P syn f (cNj aa rs m):=by
 intro x a R pan K r hr;obtain ⟨oc,h1,h2⟩:=h x a (R:=R) pan (fun y z=>K ((y.1.1,y.1.2.1,y.1.2.2.1,(),()),()) z) r hr;cases oc with
 | none=>exact ⟨none,h1,h2⟩
 | some y=>
  obtain ⟨⟨⟨l',i',xs',mm,w'⟩,v2⟩,z⟩:=y;refine ⟨some (((l',i',xs',(),()),()),z),h1,fun s vx va r1 r2 k1 k2 k3=>?_⟩;have hh:=h2 s vx va r1 r2 k1 k2 k3;intro B g w vs hi hgl hv;refine (hh B g w vs hi hgl hv).mono ?_;rintro e w' ⟨g',s1,q1,q2,q3⟩;cases e with
  | outgrown=>exact q3.elim
  | panicked c=>exact ⟨g',s1,q1,q2,q3⟩
  | returned v=>
   obtain ⟨ru,q4,q5⟩:=q3;refine ⟨g',s1,q1,q2,ru,q4,?_⟩;obtain ⟨ws,p1,p2,p3,p4,p5,p6⟩:=q5;simp only [VKs,VK] at p3;obtain ⟨v0,vs0,t1,t2,rfl,rfl,⟨b0,cs,t3,rfl,e1,e2,rfl⟩,rfl,rfl⟩:=p3;obtain ⟨v1,w1,a1,a2,rfl,rfl,⟨rfl,rfl⟩,v2,w2,a3,a4,rfl,rfl,⟨rfl,rfl⟩,v3,w3,a5,a6,rfl,rfl,⟨b,cap,fp,rfl,e3,rfl⟩,v4,w4,a7,a8,rfl,rfl,e4,rfl,rfl⟩:=e2;have hv4:∃ m,v4 = .at (.map m):=by
    cases mm with
    | none=>exact e4.1
    | some mm=>
     cases mm with
     | none=>exact ⟨none,e4.1⟩
     | some c=>obtain ⟨bm,_,rfl,_⟩:=e4; exact ⟨some bm,rfl⟩
   refine ⟨ws,[.inr b0,.ob b],p2,?_,p4,?_,p6⟩
   . simp only [VKs,VK];exact ⟨_,[],_,[],rfl,rfl,⟨b0,_,[.ob b],rfl,e1,⟨_,_,[],[.ob b],rfl,rfl,⟨rfl,rfl⟩,_,_,[],[.ob b],rfl,rfl,⟨rfl,rfl⟩,_,_,[.ob b],[],rfl,rfl,⟨b,cap,fp,rfl,e3,rfl⟩,_,_,[],[],rfl,rfl,⟨hv4,rfl⟩,rfl,rfl⟩,rfl⟩,rfl,rfl⟩
   . simp only [List.nil_append,List.append_nil,List.cons_append] at p5 ⊢;refine p5.sublist ?_;refine List.Sublist.cons_cons _ (List.Sublist.cons_cons _ ?_);exact List.sublist_append_right a7 p2
def outJ {β:Type} (l:List TokT):Option (Option ((jD×Unit)×β))->Option (Option (β×PSt))
 | none=>none
 | some none=>some none
 | some (some y)=>if y.1.1.1=l then some (some (y.2,y.1.1.2.1,y.1.1.2.2.1)) else none
noncomputable def mJ {aa rs:LK} (sh:jD×Unit->zA aa->Option (Option ((jD×Unit)×zA rs))):zA aa->MM (zA rs):=fun a l s=>outJ l (sh ((l,s.1,s.2,none,()),()) a)
def putJ {β:Type} (m:Option (Option MT)) (o:Option (Option ((jD×Unit)×β))):Option (Option ((jD×Unit)×β)):=o.map fun o=>o.map fun y=>(((y.1.1.1,y.1.1.2.1,y.1.1.2.2.1,m,()),()),y.2)
section
variable {β γ:Type} (m:Option (Option MT))
theorem zNm:putJ m (none:Option (Option ((jD×Unit)×β)))=none:=rfl
theorem zOR:putJ m (some none:Option (Option ((jD×Unit)×β)))=some none:=rfl
theorem zMv (l:List TokT) (i:Int) (xs:List MT) (m':Option (Option MT)) (u u':Unit) (z:β):putJ m (some (some (((l,i,xs,m',u),u'),z)))=some (some (((l,i,xs,m,()),()),z)):=rfl
theorem zNY (b:Bool) (x y:Option (Option ((jD×Unit)×β))):putJ m (cond b x y)=cond b (putJ m x) (putJ m y):=by cases b <;> rfl
theorem zMh (o:Option γ) (f:γ->Option (Option ((jD×Unit)×β))):putJ m (Option.bind o f)=Option.bind o fun y=>putJ m (f y):=by cases o <;> rfl
theorem zMO (o:Option γ) (p:Option (Option ((jD×Unit)×β))) (f:γ->Option (Option ((jD×Unit)×β))):putJ m (zr o p f)=zr o (putJ m p) fun y=>putJ m (f y):=by cases o <;> rfl
theorem zLX {R:Type} (p:R) (f:γ->R):zr none p f=p:=rfl
theorem zL2 {R:Type} (x:γ) (p:R) (f:γ->R):zr (some x) p f=f x:=rfl
end
theorem cJ_of {P:Program} {f:Nat} {aa rs:LK} {sh:zA ([parJ]:LK)->zA aa->Option (Option (zA ([parJ]:LK)×zA rs))} (h:CPOk CC P syn f ⟨[parJ],[parJ],aa,rs,fnP sh⟩)
 (hsh:∀ l i xs m a,sh ((l,i,xs,m,()),()) a=putJ m (sh ((l,i,xs,none,()),()) a)):CPOk CC P syn f (cJ aa rs (mJ sh)):=by
 intro x a R pan K r hr;obtain ⟨⟨l,i,xs,m,u'⟩,u''⟩:=x;have key:∀ oo:Option (Option ((jD×Unit)×zA rs)),sh ((l,i,xs,none,()),()) a=oo->(Option.bind (outJ l oo) fun o=>zr o pan fun y=>K ((l,y.2.1,y.2.2,m,()),()) y.1)=some r ->
  ∃ oc:Option (zA ([parJ]:LK)×zA rs),(match oc with | none=>pan=some r | some y=>K y.1 y.2=some r)/\∀ s vx va r1 r2,VKs CC s [parJ] ((l,i,xs,m,u'),u'') vx r1->VKs CC s aa a va r2->(r1++r2).Nodup->FnC P f (vx++va) (subS s (r1++r2)) (qa CC syn [parJ] rs vx oc):=by
  intro oo hs hr;have hm:=hsh l i xs m a;rw [hs] at hm;cases oo with
  | none=>cases hr
  | some oc=>
   cases oc with
   | none=>exact ⟨none,hr,kq h ((l,i,xs,m,()),()) a none hm⟩
   | some y=>
    obtain ⟨⟨⟨l',i',xs',m',w'⟩,v2⟩,z⟩:=y;have hh:=kq h ((l,i,xs,m,()),()) a (some (((l',i',xs',m,()),()),z)) hm;unfold outJ at hr;simp only at hr;split at hr
    . rename_i hy;subst hy;exact ⟨some (((l',i',xs',m,()),()),z),hr,hh⟩
    . cases hr
 obtain ⟨oc,h1,h2⟩:=key _ rfl hr;exact ⟨oc,by cases oc <;> exact h1,h2⟩
def outD {β:Type} (l:Str):Option (Option ((RdT×Unit)×β))->Option (β×Int)
 | some (some y)=>if y.1.1.1=l then some (y.2,y.1.1.2.1) else none
 | _=>none
noncomputable def mD {aa rs:LK} (sh:RdT×Unit->zA aa->Option (Option ((RdT×Unit)×zA rs))):zA aa->DD (zA rs):=fun a l i=>outD l (sh ((l,i,()),()) a)
theorem zDe {P:Program} {f:Nat} {aa rs:LK} {sh:zA ([rdK]:LK)->zA aa->Option (Option (zA ([rdK]:LK)×zA rs))} (h:CPOk CC P syn f ⟨[rdK],[rdK],aa,rs,fnP sh⟩):CPOk CC P syn f (cD aa rs (mD sh)):=by
 intro x a R pan K r hr;obtain ⟨⟨l,i,u⟩,u'⟩:=x;have key:∀ oo:Option (Option ((RdT×Unit)×zA rs)),sh ((l,i,()),()) a=oo->(Option.bind (outD l oo) fun y=>K ((l,y.2,()),()) y.1)=some r ->
  ∃ oc:Option (zA ([rdK]:LK)×zA rs),(match oc with | none=>pan=some r | some y=>K y.1 y.2=some r)/\∀ s vx va r1 r2,VKs CC s [rdK] ((l,i,u),u') vx r1->VKs CC s aa a va r2->(r1++r2).Nodup->FnC P f (vx++va) (subS s (r1++r2)) (qa CC syn [rdK] rs vx oc):=by
  intro oo hs hr;cases oo with
  | none=>cases hr
  | some oc=>
   have hh:=kq h ((l,i,()),()) a oc hs;cases oc with
   | none=>cases hr
   | some y=>
    obtain ⟨⟨⟨l',i',w⟩,v2⟩,z⟩:=y;unfold outD at hr;simp only at hr;split at hr
    . rename_i hy;subst hy;exact ⟨some (((l',i',()),()),z),hr,hh⟩
    . cases hr
 obtain ⟨oc,h1,h2⟩:=key _ rfl hr;exact ⟨oc,by cases oc <;> exact h1,h2⟩
end
section
open Go.Al Go.Den
def wO (y:WS):WkT×Unit:=((y.1,y.2.1,y.2.2.1,y.2.2.2.1,y.2.2.2.2,(),()),())
def outW {β:Type}:Option (Option ((WkT×Unit)×β))->Option (β×WS)
 | some (some y)=>some (y.2,(y.1.1.1,y.1.1.2.1,y.1.1.2.2.1,y.1.1.2.2.2.1,y.1.1.2.2.2.2.1))
 | _=>none
noncomputable def mW {aa rs:LK} (sh:WkT×Unit->zA aa->Option (Option ((WkT×Unit)×zA rs))):zA aa->WW (zA rs):=fun a y=>outW (sh (wO y) a)
theorem zCg {P:Program} {f:Nat} {aa rs:LK} {sh:zA ([wkK]:LK)->zA aa->Option (Option (zA ([wkK]:LK)×zA rs))} (h:CPOk CC P syn f ⟨[wkK],[wkK],aa,rs,fnP sh⟩):CPOk CC P syn f (cW aa rs (mW sh)):=by
 intro x a R pan K r hr;obtain ⟨⟨x1,x2,x3,x4,x5,x6,u⟩,u'⟩:=x;have key:∀ oo:Option (Option ((WkT×Unit)×zA rs)),sh ((x1,x2,x3,x4,x5,(),()),()) a=oo->(Option.bind (outW oo) fun y=>K (wO y.2) y.1)=some r ->
  ∃ oc:Option (zA ([wkK]:LK)×zA rs),(match oc with | none=>pan=some r | some y=>K y.1 y.2=some r)/\∀ s vx va r1 r2,VKs CC s [wkK] ((x1,x2,x3,x4,x5,x6,u),u') vx r1->VKs CC s aa a va r2->(r1++r2).Nodup->FnC P f (vx++va) (subS s (r1++r2)) (qa CC syn [wkK] rs vx oc):=by
  intro oo hs hr;cases oo with
  | none=>cases hr
  | some oc=>
   have hh:=kq h ((x1,x2,x3,x4,x5,(),()),()) a oc hs;cases oc with
   | none=>cases hr
   | some y=>
    obtain ⟨⟨⟨y1,y2,y3,y4,y5,y6,w⟩,v2⟩,z⟩:=y;exact ⟨some (((y1,y2,y3,y4,y5,(),()),()),z),hr,hh⟩
 obtain ⟨oc,h1,h2⟩:=key _ rfl hr;exact ⟨oc,by cases oc <;> exact h1,h2⟩
def outWt {β:Type}:Option (Option ((WkLT×Unit)×β))->Option ((β×Option (Option LT1))×WS)
 | some (some y)=>some ((y.2,y.1.1.2.2.2.2.2.1),(y.1.1.1,y.1.1.2.1,y.1.1.2.2.1,y.1.1.2.2.2.1,y.1.1.2.2.2.2.1))
 | _=>none
noncomputable def mWt {aa rs:LK} (sh:WkT×Unit->zA aa->Option (Option ((WkLT×Unit)×zA rs))):zA aa->WW (zA rs×Option (Option LT1)):=fun a y=>outWt (sh (wO y) a)
theorem zMa {P:Program} {f:Nat} {aa rs:LK} {sh:zA ([wkK]:LK)->zA aa->Option (Option (zA ([wkL]:LK)×zA rs))} (h:CPOk CC P syn f ⟨[wkK],[wkL],aa,rs,fnP sh⟩):CPOk CC P syn f (cWt aa rs (mWt sh)):=by
 intro x a R pan K r hr;obtain ⟨⟨x1,x2,x3,x4,x5,x6,u⟩,u'⟩:=x;have key:∀ oo:Option (Option ((WkLT×Unit)×zA rs)),sh ((x1,x2,x3,x4,x5,(),()),()) a=oo->(Option.bind (outWt oo) fun y=>K ((y.2.1,y.2.2.1,y.2.2.2.1,y.2.2.2.2.1,y.2.2.2.2.2,y.1.2,()),()) y.1.1)=some r ->
  ∃ oc:Option (zA ([wkL]:LK)×zA rs),(match oc with | none=>pan=some r | some y=>K y.1 y.2=some r)/\∀ s vx va r1 r2,VKs CC s [wkK] ((x1,x2,x3,x4,x5,x6,u),u') vx r1->VKs CC s aa a va r2->(r1++r2).Nodup->FnC P f (vx++va) (subS s (r1++r2)) (qa CC syn [wkL] rs vx oc):=by
  intro oo hs hr;cases oo with
  | none=>cases hr
  | some oc=>
   have hh:=kq h ((x1,x2,x3,x4,x5,(),()),()) a oc hs;cases oc with
   | none=>cases hr
   | some y=>
    obtain ⟨⟨⟨y1,y2,y3,y4,y5,y6,w⟩,v2⟩,z⟩:=y;exact ⟨some (((y1,y2,y3,y4,y5,y6,()),()),z),hr,hh⟩
 obtain ⟨oc,h1,h2⟩:=key _ rfl hr;exact ⟨oc,by cases oc <;> exact h1,h2⟩
theorem wkL_K {s:S} {y1:List TokT} {y2:List BindT} {y3:List LT1} {y4 y5:MT} {y6:Option (Option LT1)} {u u2:Unit} {vx:List V} {q:List Res} (h:VKs CC s [wkL] ((y1,y2,y3,y4,y5,y6,u),u2) vx q) :
 ∃ q',VKs CC s [wkK] ((y1,y2,y3,y4,y5,(),()),()) vx q'/\q'.Sublist q:=by
 simp only [VKs,VK] at h;obtain ⟨v0,vs0,t1,t2,rfl,rfl,⟨b0,cs,t3,rfl,e1,e2,rfl⟩,rfl,rfl⟩:=h;obtain ⟨v1,w1,a1,a2,rfl,rfl,⟨rfl,rfl⟩,v2,w2,a3,a4,rfl,rfl,⟨b2,cap,rfl,c2,d2,rfl⟩,v3,w3,a5,a6,rfl,rfl,⟨b3,fp3,rfl,c3,rfl⟩,v4,w4,a7,a8,rfl,rfl,⟨b4,fp4,rfl,c4,rfl⟩,v5,w5,a9,a10,rfl,rfl,⟨b5,fp5,rfl,c5,rfl⟩,v6,w6,a11,a12,rfl,rfl,e6,rfl,rfl⟩:=e2;have hv6:∃ m:Option Nat,v6 = .at (.pointer (m.map fun b=>⟨b,0,none⟩)):=by
  cases y6 with
  | none=>exact e6.1
  | some o=>
   cases o with
   | none=>exact ⟨none,e6.1⟩
   | some c=>obtain ⟨bm,_,rfl,_⟩:=e6; exact ⟨some bm,rfl⟩
 refine ⟨[.inr b0,.inr b2,.ob b3,.ob b4,.ob b5],?_,?_⟩
 . simp only [VKs,VK];exact ⟨_,[],_,[],rfl,rfl,⟨b0,_,[.inr b2,.ob b3,.ob b4,.ob b5],rfl,e1,⟨_,_,[],[.inr b2,.ob b3,.ob b4,.ob b5],rfl,rfl,⟨rfl,rfl⟩,_,_,[.inr b2],[.ob b3,.ob b4,.ob b5],rfl,rfl,⟨b2,cap,rfl,c2,d2,rfl⟩,_,_,[.ob b3],[.ob b4,.ob b5],rfl,rfl,⟨b3,fp3,rfl,c3,rfl⟩,_,_,[.ob b4],[.ob b5],rfl,rfl,⟨b4,fp4,rfl,c4,rfl⟩,_,_,[.ob b5],[],rfl,rfl,⟨b5,fp5,rfl,c5,rfl⟩,_,[],[],[],rfl,rfl,⟨hv6,rfl⟩,rfl,rfl⟩,rfl⟩,rfl,rfl⟩
 . simp only [List.nil_append,List.append_nil,List.cons_append];exact List.Sublist.cons_cons _ (List.Sublist.cons_cons _ (List.Sublist.cons_cons _ (List.Sublist.cons_cons _ (List.Sublist.cons_cons _ (List.nil_sublist _)))))
theorem zAU {P:Program} {f:Nat} {aa rs:LK} {m:zA aa->WW (zA rs×Option (Option LT1))} (h:CPOk CC P syn f (cWt aa rs m)):CPOk CC P syn f (cWj aa rs m):=by
 intro x a R pan K r hr;obtain ⟨oc,h1,h2⟩:=h x a (R:=R) pan (fun y z=>K ((y.1.1,y.1.2.1,y.1.2.2.1,y.1.2.2.2.1,y.1.2.2.2.2.1,(),()),()) z) r hr;cases oc with
 | none=>exact ⟨none,h1,h2⟩
 | some y=>
  obtain ⟨⟨⟨y1,y2,y3,y4,y5,y6,w'⟩,v2⟩,z⟩:=y;refine ⟨some (((y1,y2,y3,y4,y5,(),()),()),z),h1,fun s vx va r1 r2 k1 k2 k3=>?_⟩;have hh:=h2 s vx va r1 r2 k1 k2 k3;intro B g w vs hi hgl hv;refine (hh B g w vs hi hgl hv).mono ?_;rintro e w' ⟨g',s1,q1,q2,q3⟩;cases e with
  | outgrown=>exact q3.elim
  | panicked c=>exact ⟨g',s1,q1,q2,q3⟩
  | returned v=>
   obtain ⟨ru,q4,q5⟩:=q3;refine ⟨g',s1,q1,q2,ru,q4,?_⟩;obtain ⟨ws,p1,p2,p3,p4,p5,p6⟩:=q5;obtain ⟨p7,p8,p9⟩:=wkL_K p3;exact ⟨ws,p7,p2,p8,p4,p5.sublist (List.Sublist.append p9 (List.Sublist.refl _)),p6⟩
def wO0 (y:WS):Wk0T×Unit:=((y.1,y.2.1,(),y.2.2.2.1,y.2.2.2.2,(),()),())
def outW0 {β:Type}:Option (Option ((Wk0T×Unit)×β))->Option (β×WS)
 | some (some y)=>some (y.2,(y.1.1.1,y.1.1.2.1,[],y.1.1.2.2.2.1,y.1.1.2.2.2.2.1))
 | _=>none
noncomputable def mW0 {aa rs:LK} (sh:Wk0T×Unit->zA aa->Option (Option ((Wk0T×Unit)×zA rs))):zA aa->WW (zA rs):=fun a y=>outW0 (sh (wO0 y) a)
theorem zNQ {P:Program} {f:Nat} {aa rs:LK} {sh:zA ([wk0]:LK)->zA aa->Option (Option (zA ([wk0]:LK)×zA rs))} (h:CPOk CC P syn f ⟨[wk0],[wk0],aa,rs,fnP sh⟩):CPOk CC P syn f (cW0 aa rs (mW0 sh)):=by
 intro x a R pan K r hr;obtain ⟨⟨x1,x2,x3,x4,x5,x6,u⟩,u'⟩:=x;have key:∀ oo:Option (Option ((Wk0T×Unit)×zA rs)),sh ((x1,x2,(),x4,x5,(),()),()) a=oo->(Option.bind (outW0 oo) fun y=>K (wO0 y.2) y.1)=some r ->
  ∃ oc:Option (zA ([wk0]:LK)×zA rs),(match oc with | none=>pan=some r | some y=>K y.1 y.2=some r)/\∀ s vx va r1 r2,VKs CC s [wk0] ((x1,x2,x3,x4,x5,x6,u),u') vx r1->VKs CC s aa a va r2->(r1++r2).Nodup->FnC P f (vx++va) (subS s (r1++r2)) (qa CC syn [wk0] rs vx oc):=by
  intro oo hs hr;cases oo with
  | none=>cases hr
  | some oc=>
   have hh:=kq h ((x1,x2,(),x4,x5,(),()),()) a oc hs;cases oc with
   | none=>cases hr
   | some y=>
    obtain ⟨⟨⟨y1,y2,y3,y4,y5,y6,w⟩,v2⟩,z⟩:=y;exact ⟨some (((y1,y2,(),y4,y5,(),()),()),z),hr,hh⟩
 obtain ⟨oc,h1,h2⟩:=key _ rfl hr;exact ⟨oc,by cases oc <;> exact h1,h2⟩
end
section
open Go.Al Go.Den
def sh26 (fu:Nat) (c32:(Nd×(Int×Unit))->(Option NdsT)) (c46:(Int×Unit)->LT->(Option (Str×Unit))) (c44:((List BindT)×(Int×Unit))->(Option ((List BindT)×Unit))) (c45:(Nd×Unit)->WW (Int×Unit)) (c47:Unit->WW Unit) (c48:(Nd×Unit)->WW Unit) (nf:Nat->Bool) (x0:LT) (x1:Nd):(Option ((List BindT)×Unit)):=Option.bind (c44 ([(BindT.mk 0 (Neg.neg 1))],((lenI x0),()))) fun y0=>Option.bind (c32 ((ndE x1),(7,()))) fun y1=>cE y0.1 (iter fu (fun (rec1:((Int×Unit)×(JT×(Wk0T×Unit)))->Option ((List BindT)×Unit)) (s1:((Int×Unit)×(JT×(Wk0T×Unit))))=>let u0:=Nd.kids (List.getD y1.1 (Int.toNat s1.1.1) qh); cond (ilt s1.1.1 (lenI y1.1)) (cond (inB s1.1.1 (List.length y1.1)) (cE s1.2.2.1.2.1 (iter fu (fun (rec2:((Int×Unit)×(JT×(Wk0T×Unit)))->Option ((List BindT)×Unit)) (s2:((Int×Unit)×(JT×(Wk0T×Unit))))=>let u5:=List.getD u0 (Int.toNat s2.1.1) qh; let u3:=iadd .i64 s2.1.1 1; let u1:=(s2.2.2.1.1,(s2.2.2.1.2.1,((),(s2.2.2.1.2.2.2.1,(s2.2.2.1.2.2.2.2.1,((),())))))); cond (ilt s2.1.1 (lenI u0)) (cond (inB s2.1.1 (List.length u0)) (cond (ine (Nd.kind u5) 10) (cE s2.2.2.1.2.1 (rec2 ((u3,()),(s2.2.1,(u1,()))))) (cE s2.2.2.1.2.1 (Option.bind (c45 ((ndE u5),()) (s2.2.2.1.1,(s2.2.2.1.2.1,([],(s2.2.2.1.2.2.2.1,s2.2.2.1.2.2.2.2.1))))) fun y2=>let u4:=(y2.2.2.2.2.2,((),())); cE y2.2.2.1 (Option.bind (c46 (y2.1.1,()) y2.2.1) fun y3=>let u6:=mpG y2.2.2.2.2.1 y3.1; cond (ieq u6 0) (cE y2.2.2.1 (Option.bind (c46 (y2.1.1,()) y2.2.1) fun y4=>cE y2.2.2.1 (rec2 ((u3,()),(s2.2.1,((y2.2.1,(y2.2.2.1,((),((mpP y2.2.2.2.2.1 y4.1 (iadd .i64 y2.1.1 1)),u4)))),())))))) (cond (ilt y2.1.1 u6) (cE y2.2.2.1 (Option.bind (c46 (y2.1.1,()) y2.2.1) fun y4=>cE y2.2.2.1 (rec2 ((u3,()),(s2.2.1,((y2.2.1,(y2.2.2.1,((),((mpP y2.2.2.2.2.1 y4.1 (iadd .i64 y2.1.1 1)),u4)))),())))))) (cE y2.2.2.1 (rec2 ((u3,()),(s2.2.1,((y2.2.1,(y2.2.2.1,((),(y2.2.2.2.2.1,u4)))),())))))))))) (none)) (cE s2.2.2.1.2.1 (rec1 (((iadd .i64 s1.1.1 1),()),(s2.2.1,(u1,())))))) ((0,()),(s1.2.1,((s1.2.2.1.1,(s1.2.2.1.2.1,((),(s1.2.2.1.2.2.2.1,(s1.2.2.1.2.2.2.2.1,((),())))))),()))))) (none)) (cE s1.2.2.1.2.1 (Option.bind (c47 () (s1.2.2.1.1,(s1.2.2.1.2.1,([],(s1.2.2.1.2.2.2.1,s1.2.2.1.2.2.2.2.1))))) fun y2=>cE y2.2.2.1 (Option.bind (c48 ((Nd.mk s1.2.1.1 s1.2.1.2.1 s1.2.1.2.2.1),()) y2.2) fun y3=>let u2:=List.length y3.2.2.1; cond (Nat.ble u2 u2) (cond (cond false (List.isEmpty (qN u2 y3.2.2.1)) (!(List.isEmpty (qN u2 y3.2.2.1)))) (some ((qN u2 y3.2.2.1),())) (none)) (none))))) ((0,()),(((Nd.kind x1),((Nd.tok x1),((Nd.kids x1),()))),((x0,(y0.1,((),([],([],((),())))))),()))))
theorem eq26:@run26 = @sh26:=by kernel_rfl
def sh28 (fu:Nat) (nf:Nat->Bool) (x0:(List BindT)) (x1:Int):(Option ((List Int)×Unit)):=cond (ilt x1 0) (some ([],())) (cond (ile (lenI x0) x1) (some ([],())) (cond (inB x1 (List.length x0)) (cond (ilt (BindT.fto (List.getD x0 (Int.toNat x1) yG)) 0) (some ([],())) (iter fu (fun (rec1:(((List Int)×(Int×Unit))×Unit)->Option ((List Int)×Unit)) (s1:(((List Int)×(Int×Unit))×Unit))=>cond (ilt s1.1.2.1 (lenI x0)) (cond (inB s1.1.2.1 (List.length x0)) (cond (inB x1 (List.length x0)) (cond (dEqs (U:=UU) [(T.int .i64 (BindT.space (List.getD x0 (Int.toNat s1.1.2.1) yG))),(T.int .i64 (BindT.fto (List.getD x0 (Int.toNat s1.1.2.1) yG)))] [(T.int .i64 (BindT.space (List.getD x0 (Int.toNat x1) yG))),(T.int .i64 (BindT.fto (List.getD x0 (Int.toNat x1) yG)))]) (cond (okN 8 ((List.length s1.1.1)+(List.length [s1.1.2.1]))) (rec1 (((s1.1.1++[s1.1.2.1]),((iadd .i64 s1.1.2.1 1),())),())) (none)) (rec1 ((s1.1.1,((iadd .i64 s1.1.2.1 1),())),()))) (none)) (none)) (some (s1.1.1,()))) (([],(0,())),()))) (none)))
theorem eq28:@run28 = @sh28:=by kernel_rfl
def sh49 (fu:Nat) (nf:Nat->Bool) (x0:(List BindT)) (x1:(List BindT)):(Option (Bool×Unit)):=cond (ine (lenI x0) (lenI x1)) (some (false,())) (iter fu (fun (rec1:((Int×Unit)×Unit)->Option (Bool×Unit)) (s1:((Int×Unit)×Unit))=>cond (ilt s1.1.1 (lenI x0)) (cond (inB s1.1.1 (List.length x0)) (cond (inB s1.1.1 (List.length x1)) (cond (!(dEqs (U:=UU) [(T.int .i64 (BindT.space (List.getD x0 (Int.toNat s1.1.1) yG))),(T.int .i64 (BindT.fto (List.getD x0 (Int.toNat s1.1.1) yG)))] [(T.int .i64 (BindT.space (List.getD x1 (Int.toNat s1.1.1) yG))),(T.int .i64 (BindT.fto (List.getD x1 (Int.toNat s1.1.1) yG)))])) (some (false,())) (rec1 (((iadd .i64 s1.1.1 1),()),()))) (none)) (none)) (some (true,()))) ((0,()),()))
theorem eq49:@run49 = @sh49:=by kernel_rfl
def sh30 (fu:Nat) (c49:((List BindT)×((List BindT)×Unit))->(Option (Bool×Unit))) (nf:Nat->Bool) (x0:(List BindT)) (x1:(List BindT)):(Option (Bool×Unit)):=Option.bind (c49 (x0,(x1,()))) fun y0=>some (y0.1,())
theorem eq30:@run30 = @sh30:=by kernel_rfl
def sh27 (fu:Nat) (nf:Nat->Bool) (x0:(List BindT)) (x1:(List BindT)):(Option (Bool×Unit)):=cond (ine (lenI x0) (lenI x1)) (some (false,())) (iter fu (fun (rec1:((Int×Unit)×Unit)->Option (Bool×Unit)) (s1:((Int×Unit)×Unit))=>let u0:=Int.toNat s1.1.1; let u2:=List.getD x1 u0 yG; let u1:=List.getD x0 u0 yG; cond (ilt s1.1.1 (lenI x0)) (cond (inB s1.1.1 (List.length x0)) (cond (inB s1.1.1 (List.length x1)) (cond (!(dEqs (U:=UU) [(T.int .i64 (BindT.space u1)),(T.int .i64 (BindT.fto u1))] [(T.int .i64 (BindT.space u2)),(T.int .i64 (BindT.fto u2))])) (some (false,())) (rec1 (((iadd .i64 s1.1.1 1),()),()))) (none)) (none)) (some (true,()))) ((0,()),()))
theorem eq27:@run27 = @sh27:=by kernel_rfl
def sh29 (fu:Nat) (nf:Nat->Bool) (x0:(List Int)) (x1:(List Int)):(Option (Bool×Unit)):=cond (ine (lenI x0) (lenI x1)) (some (false,())) (iter fu (fun (rec1:((Int×Unit)×Unit)->Option (Bool×Unit)) (s1:((Int×Unit)×Unit))=>cond (ilt s1.1.1 (lenI x0)) (cond (inB s1.1.1 (List.length x0)) (cond (inB s1.1.1 (List.length x1)) (cond (ine (List.getD x0 (Int.toNat s1.1.1) 0) (List.getD x1 (Int.toNat s1.1.1) 0)) (some (false,())) (rec1 (((iadd .i64 s1.1.1 1),()),()))) (none)) (none)) (some (true,()))) ((0,()),()))
theorem eq29:@run29 = @sh29:=by kernel_rfl
def sh25 (fu:Nat) (c39:(Int×(Str×Unit))->(Option (LT×Unit))) (nf:Nat->Bool) (x0:Str):(Option (LT×Unit)):=Option.bind (c39 (0,(x0,()))) fun y0=>iter fu (fun (rec1:((LT×(Int×Unit))×Unit)->Option (LT×Unit)) (s1:((LT×(Int×Unit))×Unit))=>let u1:=inB s1.1.2.1 (List.length y0.1); let u0:=List.getD y0.1 (Int.toNat s1.1.2.1) tokD; cond (ilt s1.1.2.1 (lenI y0.1)) (cond u1 (cond (ine (TokT.kind u0) 7) (cond u1 (cond (okN 56 ((List.length s1.1.1)+(List.length [(TokT.mk (TokT.kind u0) (TokT.text u0) (TokT.file u0) (TokT.ffrom u0) (TokT.fto u0) (TokT.blank u0))]))) (rec1 (((s1.1.1++[(TokT.mk (TokT.kind u0) (TokT.text u0) (TokT.file u0) (TokT.ffrom u0) (TokT.fto u0) (TokT.blank u0))]),((iadd .i64 s1.1.2.1 1),())),())) (none)) (none)) (rec1 ((s1.1.1,((iadd .i64 s1.1.2.1 1),())),()))) (none)) (some (s1.1.1,()))) (([],(0,())),())
theorem eq25:@run25 = @sh25:=by kernel_rfl
def sh43 (fu:Nat) (c17:(LT×Unit)->(Option (Nd×(Int×Unit)))) (c25:(Str×Unit)->(Option (LT×Unit))) (c26:(LT×(Nd×Unit))->(Option ((List BindT)×Unit))) (nf:Nat->Bool) (x0:Str) (x1:Str):(Option ((List Int)×Unit)):=Option.bind (c25 (x0,())) fun y0=>Option.bind (c17 (y0.1,())) fun y1=>cond (ine y1.2.1 0) (some ([],())) (Option.bind (c26 (y0.1,((ndE y1.1),()))) fun y2=>iter fu (fun (rec1:(((List Int)×(Int×Unit))×Unit)->Option ((List Int)×Unit)) (s1:(((List Int)×(Int×Unit))×Unit))=>let u0:=List.getD y2.1 (Int.toNat s1.1.2.1) yG; cond (ilt s1.1.2.1 (lenI y0.1)) (cond (ilt s1.1.2.1 (lenI y2.1)) (cond (inB s1.1.2.1 (List.length y0.1)) (cond (seq (TokT.text (List.getD y0.1 (Int.toNat s1.1.2.1) tokD)) x1) (cond (inB s1.1.2.1 (List.length y2.1)) (cond (okN 8 ((List.length s1.1.1)+(List.length [(BindT.fto u0)]))) (rec1 (((s1.1.1++[(BindT.fto u0)]),((iadd .i64 s1.1.2.1 1),())),())) (none)) (none)) (rec1 ((s1.1.1,((iadd .i64 s1.1.2.1 1),())),()))) (none)) (some (s1.1.1,()))) (some (s1.1.1,()))) (([],(0,())),()))
theorem eq43:@run43 = @sh43:=by kernel_rfl
def sh24 (fu:Nat) (c29:((List Int)×((List Int)×Unit))->(Option (Bool×Unit))) (c43:(Str×(Str×Unit))->(Option ((List Int)×Unit))) (nf:Nat->Bool):(Option (Bool×Unit)):=Option.bind (c43 ([105,110,116,32,120,59,32,105,110,116,32,102,40,105,110,116,32,120,41,32,123,32,114,101,116,117,114,110,32,120,59,32,125],([120],()))) fun y0=>Option.bind (c43 ([105,110,116,32,120,59,32,105,110,116,32,102,40,41,32,123,32,105,110,116,32,120,32,61,32,120,59,32,125],([120],()))) fun y1=>Option.bind (c43 ([115,116,114,117,99,116,32,83,32,123,32,105,110,116,32,97,59,32,125,32,115,59,32,105,110,116,32,102,40,41,32,123,32,115,46,97,59,32,125],([97],()))) fun y2=>Option.bind (c43 ([115,116,114,117,99,116,32,83,32,123,32,105,110,116,32,97,59,32,125,32,115,59,32,105,110,116,32,102,40,41,32,123,32,115,46,97,59,32,125],([115],()))) fun y3=>Option.bind (c43 ([105,110,116,32,102,40,41,32,123,32,103,111,116,111,32,76,59,32,76,58,32,59,32,125],([76],()))) fun y4=>Option.bind (c43 ([105,110,116,32,120,59,32,105,110,116,32,120,59,32,105,110,116,32,102,40,41,32,123,32,121,59,32,125],([120],()))) fun y5=>Option.bind (c43 ([105,110,116,32,120,59,32,105,110,116,32,120,59,32,105,110,116,32,102,40,41,32,123,32,121,59,32,125],([121],()))) fun y6=>Option.bind (c29 (y0.1,([1,7,7],()))) fun y7=>cond y7.1 (Option.bind (c29 (y1.1,([1,9,9],()))) fun y8=>cond y8.1 (Option.bind (c29 (y2.1,([4,4],()))) fun y9=>cond y9.1 (Option.bind (c29 (y3.1,([7,7],()))) fun y10=>cond y10.1 (Option.bind (c29 (y4.1,([8,8],()))) fun y11=>cond y11.1 (Option.bind (c29 (y5.1,([1,1],()))) fun y12=>cond y12.1 (Option.bind (c29 (y6.1,([(Neg.neg 1)],()))) fun y13=>some (y13.1,())) (some (false,()))) (some (false,()))) (some (false,()))) (some (false,()))) (some (false,()))) (some (false,()))
theorem eq24:@run24 = @sh24:=by kernel_rfl
def sh13 (fu:Nat) (c24:Unit->(Option (Bool×Unit))) (c27:((List BindT)×((List BindT)×Unit))->(Option (Bool×Unit))) (c28:((List BindT)×(Int×Unit))->(Option ((List Int)×Unit))) (c29:((List Int)×((List Int)×Unit))->(Option (Bool×Unit))) (c30:((List BindT)×((List BindT)×Unit))->(Option (Bool×Unit))) (nf:Nat->Bool) (x0:(List BindT)) (x1:(List BindT)) (x2:Int):(Option (Bool×Unit)):=Option.bind (c24 ()) fun y0=>cond (ilt 500 (lenI x0)) (some (y0.1,())) (cond (ilt 500 (lenI x1)) (some (y0.1,())) (Option.bind (c28 (x0,(x2,()))) fun y1=>Option.bind (c30 (x0,(x1,()))) fun y2=>iter fu (fun (rec1:(((List Int)×(Int×Unit))×Unit)->Option (Bool×Unit)) (s1:(((List Int)×(Int×Unit))×Unit))=>cond (ilt s1.1.2.1 (lenI x0)) (cond (ile 0 x2) (cond (ilt x2 (lenI x0)) (cond (inB x2 (List.length x0)) (cond (ile 0 (BindT.fto (List.getD x0 (Int.toNat x2) yG))) (cond (inB s1.1.2.1 (List.length x0)) (cond (inB x2 (List.length x0)) (cond (dEqs (U:=UU) [(T.int .i64 (BindT.space (List.getD x0 (Int.toNat s1.1.2.1) yG))),(T.int .i64 (BindT.fto (List.getD x0 (Int.toNat s1.1.2.1) yG)))] [(T.int .i64 (BindT.space (List.getD x0 (Int.toNat x2) yG))),(T.int .i64 (BindT.fto (List.getD x0 (Int.toNat x2) yG)))]) (cond (okN 8 ((List.length s1.1.1)+(List.length [s1.1.2.1]))) (rec1 (((s1.1.1++[s1.1.2.1]),((iadd .i64 s1.1.2.1 1),())),())) (none)) (rec1 ((s1.1.1,((iadd .i64 s1.1.2.1 1),())),()))) (none)) (none)) (rec1 ((s1.1.1,((iadd .i64 s1.1.2.1 1),())),()))) (none)) (rec1 ((s1.1.1,((iadd .i64 s1.1.2.1 1),())),()))) (rec1 ((s1.1.1,((iadd .i64 s1.1.2.1 1),())),()))) (cond y0.1 (Option.bind (c29 (y1.1,(s1.1.1,()))) fun y3=>cond y3.1 (Option.bind (c27 (x0,(x1,()))) fun y4=>some ((beqB y2.1 y4.1),())) (some (false,()))) (some (false,())))) (([],(0,())),())))
theorem eq13:@run13 = @sh13:=by kernel_rfl
theorem con26 (fu:Nat) (c32:zh as32->Option (zh rs32)) (h32:ConOk CC Tryz.prog 32 ⟨as32,rs32,c32⟩) (c46:zA kI->List TokT->Option (zA kS)) (h46:CROk CC Tryz.prog 46 (cRW kI kS c46)) (c44:zA ([.dl TI.bind,.int .i64]:LK)->Option (zA ([.ar1 TI.bind]:LK))) (h44:CQ 44 (cFB c44)) (c45:zA kN->WW (zA kI)) (h45:CQ 45 (cW0 kN kI c45)) (c47:zA k0->WW (zA k0)) (h47:CQ 47 (cW1 k0 k0 c47)) (c48:zA kN->WW (zA k0)) (h48:CQ 48 (cW kN k0 c48)):ConOk CC Tryz.prog 26 ⟨as26,rs26,fun x=>sh26 fu c32 c46 c44 c45 c47 c48 (fun _=>false) x.1 x.2.1⟩:=
 rfk zE (zF (OrcOk.of ⟨zM3,h32⟩ rfl) zE) (zF ⟨ku,h46⟩ zE) (zF ⟨code44,h44⟩ (zF ⟨zJI,h45⟩ (zF ⟨zNK,h47⟩ (zF ⟨zEG,h48⟩ zE)))) fdok26 rfl (xd rfl) (fun nf x=>by show run26 fu c32 c46 c44 c45 c47 c48 nf x.1 x.2.1=_; rw [eq26]; rfl)
theorem con28 (fu:Nat) :ConOk CC Tryz.prog 28 ⟨as28,rs28,fun x=>sh28 fu (fun _=>false) x.1 x.2.1⟩:=
 rfk zE zE zE zE fdok28 rfl (xd rfl) (fun nf x=>by show run28 fu nf x.1 x.2.1=_; rw [eq28]; rfl)
theorem con49 (fu:Nat) :ConOk CC Tryz.prog 49 ⟨as49,rs49,fun x=>sh49 fu (fun _=>false) x.1 x.2.1⟩:=
 rfk zE zE zE zE fdok49 rfl (xd rfl) (fun nf x=>by show run49 fu nf x.1 x.2.1=_; rw [eq49]; rfl)
theorem con30 (fu:Nat) (c49:zh as49->Option (zh rs49)) (h49:ConOk CC Tryz.prog 49 ⟨as49,rs49,c49⟩):ConOk CC Tryz.prog 30 ⟨as30,rs30,fun x=>sh30 fu c49 (fun _=>false) x.1 x.2.1⟩:=
 rfk zE (zF (OrcOk.of ⟨code49,h49⟩ rfl) zE) zE zE fdok30 rfl (xd rfl) (fun nf x=>by show run30 fu c49 nf x.1 x.2.1=_; rw [eq30]; rfl)
theorem con27 (fu:Nat) :ConOk CC Tryz.prog 27 ⟨as27,rs27,fun x=>sh27 fu (fun _=>false) x.1 x.2.1⟩:=
 rfk zE zE zE zE fdok27 rfl (xd rfl) (fun nf x=>by show run27 fu nf x.1 x.2.1=_; rw [eq27]; rfl)
theorem con29 (fu:Nat) :ConOk CC Tryz.prog 29 ⟨as29,rs29,fun x=>sh29 fu (fun _=>false) x.1 x.2.1⟩:=
 rfk zE zE zE zE fdok29 rfl (xd rfl) (fun nf x=>by show run29 fu nf x.1 x.2.1=_; rw [eq29]; rfl)
theorem con25 (fu:Nat) (c39:zh as39->Option (zh rs39)) (h39:ConOk CC Tryz.prog 39 ⟨as39,rs39,c39⟩):ConOk CC Tryz.prog 25 ⟨as25,rs25,fun x=>sh25 fu c39 (fun _=>false) x.1⟩:=
 rfk zE (zF (OrcOk.of ⟨code39,h39⟩ rfl) zE) zE zE fdok25 rfl (xd rfl) (fun nf x=>by show run25 fu c39 nf x.1=_; rw [eq25]; rfl)
theorem con43 (fu:Nat) (c17:zh as17->Option (zh rs17)) (h17:ConOk CC Tryz.prog 17 ⟨as17,rs17,c17⟩) (c25:zh as25->Option (zh rs25)) (h25:ConOk CC Tryz.prog 25 ⟨as25,rs25,c25⟩) (c26:zh as26->Option (zh rs26)) (h26:ConOk CC Tryz.prog 26 ⟨as26,rs26,c26⟩):ConOk CC Tryz.prog 43 ⟨as43,rs43,fun x=>sh43 fu c17 c25 c26 (fun _=>false) x.1 x.2.1⟩:=
 rfk zE (zF (OrcOk.of ⟨code17,h17⟩ rfl) (zF (OrcOk.of ⟨code25,h25⟩ rfl) (zF (OrcOk.of ⟨code26,h26⟩ rfl) zE))) zE zE fdok43 rfl (xd rfl) (fun nf x=>by show run43 fu c17 c25 c26 nf x.1 x.2.1=_; rw [eq43]; rfl)
theorem con24 (fu:Nat) (c29:zh as29->Option (zh rs29)) (h29:ConOk CC Tryz.prog 29 ⟨as29,rs29,c29⟩) (c43:zh as43->Option (zh rs43)) (h43:ConOk CC Tryz.prog 43 ⟨as43,rs43,c43⟩):ConOk CC Tryz.prog 24 ⟨as24,rs24,fun x=>sh24 fu c29 c43 (fun _=>false)⟩:=
 rfk zE (zF (OrcOk.of ⟨zM8,h29⟩ rfl) (zF (OrcOk.of ⟨code43,h43⟩ rfl) zE)) zE zE fdok24 rfl (xd rfl) (fun nf x=>by show run24 fu c29 c43 nf=_; rw [eq24]; rfl)
theorem con13 (fu:Nat) (c24:zh as24->Option (zh rs24)) (h24:ConOk CC Tryz.prog 24 ⟨as24,rs24,c24⟩) (c27:zh as27->Option (zh rs27)) (h27:ConOk CC Tryz.prog 27 ⟨as27,rs27,c27⟩) (c28:zh as28->Option (zh rs28)) (h28:ConOk CC Tryz.prog 28 ⟨as28,rs28,c28⟩) (c29:zh as29->Option (zh rs29)) (h29:ConOk CC Tryz.prog 29 ⟨as29,rs29,c29⟩) (c30:zh as30->Option (zh rs30)) (h30:ConOk CC Tryz.prog 30 ⟨as30,rs30,c30⟩):ConOk CC Tryz.prog 13 ⟨as13,rs13,fun x=>sh13 fu c24 c27 c28 c29 c30 (fun _=>false) x.1 x.2.1 x.2.2.1⟩:=
 rfk zE (zF (OrcOk.of ⟨code24,h24⟩ rfl) (zF (OrcOk.of ⟨code27,h27⟩ rfl) (zF (OrcOk.of ⟨code28,h28⟩ rfl) (zF (OrcOk.of ⟨zM8,h29⟩ rfl) (zF (OrcOk.of ⟨code30,h30⟩ rfl) zE))))) zE zE fdok13 rfl (xd rfl) (fun nf x=>by show run13 fu c24 c27 c28 c29 c30 nf x.1 x.2.1 x.2.2.1=_; rw [eq13]; rfl)
end
end Go.Proofs.YtnamdpbcpnnhaaaGreatDoor
namespace Go.Den
section
open Go.Al
theorem ke (i n:Nat):inB (i:Int) n=decide (i < n):=by unfold inB; simp
theorem zNW {b n:Nat} (h:n * b<=140737488355328) (h2:n<=maxLen):okN b n=true:=by simp [okN,h,h2]
end
end Go.Den
namespace Go.Proofs.YtnamdpbcpnnhaaaGreatDoor
section
open Go.Al Go.Den
def eqBd (a b:BindT):Bool:=cond (ieq a.space b.space) (cond (ieq a.fto b.fto) true false) false
theorem zG5 (a b:BindT):dEqs (U:=UU) [T.int .i64 a.space,T.int .i64 a.fto] [T.int .i64 b.space,T.int .i64 b.fto]=eqBd a b:=rfl
def upto (p:Nat->Bool):Nat->List Int
 | 0=>[]
 | k+1=>upto p k++(if p k=true then [(k:Int)] else [])
theorem zNl {p:Nat->Bool} {k:Nat} (h:p k=true):upto p (k+1)=upto p k++[(k:Int)]:=by
 show upto p k++(if p k=true then [(k:Int)] else [])=_;rw [if_pos h]
theorem zM6 {p:Nat->Bool} {k:Nat} (h:p k=false):upto p (k+1)=upto p k:=by
 show upto p k++(if p k=true then [(k:Int)] else [])=_;rw [h,if_neg (by simp),List.append_nil]
theorem zDY (p:Nat->Bool):∀ k,(upto p k).length<=k
 | 0=>Nat.le_refl _
 | k+1=>by
  have:=zDY p k;unfold upto;split <;> simp <;> omega
theorem zBi (p:Nat->Bool) (h:∀ k,p k=false):∀ k,upto p k=[]
 | 0=>rfl
 | k+1=>by unfold upto; rw [zBi p h k,h k]; rfl
def useP (l:List BindT) (at_:Int) (i:Nat):Bool:=decide (0<=at_) && decide (at_ < l.length) && decide (0<=(l.getD at_.toNat yG).fto) && eqBd (l.getD i yG) (l.getD at_.toNat yG)
def zBf (l:List BindT) (at_:Int):List Int:=upto (useP l at_) l.length
theorem ok8 {n:Nat} (h:n<=1000):okN 8 n=true:=zNW (by omega) (by simp only [maxLen]; omega)
theorem inc {i:Nat} (h:i<=1000):iadd .i64 (i:Int) 1=((i+1:Nat):Int):=by
 show IntKind.i64.wrap _=_;rw [IntWalk.i64_in _ (by omega)]; omega
theorem ke {i n:Nat} (h:i < n):inB (i:Int) n=true:=by
 have h1:decide ((0:Int)<=(i:Int))=true:=decide_eq_true (by omega);have h2:decide ((i:Int) < (n:Int))=true:=decide_eq_true (by omega);simp only [inB,h1,h2,Bool.and_self]
theorem zNJ (fu:Nat) (nf:Nat->Bool) (l:List BindT) (at_:Int) (hl:l.length<=500) (hfu:1000 < fu):sh28 fu nf l at_=some (zBf l at_,()):=by
 unfold sh28 zBf;by_cases h1:at_ < 0
 . rw [show ilt at_ 0=true from decide_eq_true h1,cond_true,zBi];intro k;unfold useP;rw [show decide (0<=at_)=false from decide_eq_false (by omega)]; rfl
 rw [show ilt at_ 0=false from decide_eq_false h1,cond_false];by_cases h2:(l.length:Int)<=at_
 . rw [show ile (lenI l) at_=true from decide_eq_true h2,cond_true,zBi];intro k;unfold useP;rw [show decide (at_ < (l.length:Int))=false from decide_eq_false (by omega)]; simp
 rw [show ile (lenI l) at_=false from decide_eq_false h2,cond_false];obtain ⟨a,rfl⟩:∃ a:Nat,at_=a:=⟨at_.toNat,by omega⟩;rw [ke (by omega),cond_true];simp only [Int.toNat_natCast];by_cases h3:(l.getD a yG).fto < 0
 . rw [show ilt (l.getD a yG).fto 0=true from decide_eq_true h3,cond_true,zBi];intro k;unfold useP;rw [show decide (0<=(l.getD (a:Int).toNat yG).fto)=false from decide_eq_false (by simp only [Int.toNat_natCast]; omega)]; simp
 rw [show ilt (l.getD a yG).fto 0=false from decide_eq_false h3,cond_false];have hp:∀ k,useP l (a:Int) k=eqBd (l.getD k yG) (l.getD a yG):=fun k=>by
  unfold useP;rw [show decide ((0:Int)<=(a:Int))=true from decide_eq_true (by omega),show decide ((a:Int) < (l.length:Int))=true from decide_eq_true (by omega),show decide (0<=(l.getD (a:Int).toNat yG).fto)=true from decide_eq_true (by simp only [Int.toNat_natCast]; omega)];simp
 refine zCG (fun s=>∃ k:Nat,s=((upto (useP l (a:Int)) k,((k:Int),())),())/\k<=l.length) (fun s=>l.length - s.1.2.1.toNat) ?_ fu _ ⟨0,rfl,Nat.zero_le _⟩ (by simp; omega);rintro rec s ⟨k,rfl,hk⟩ hrec;dsimp only;by_cases hlt:k < l.length
 . rw [show ilt (k:Int) (lenI l)=true from decide_eq_true (by show (k:Int) < (l.length:Int); omega),cond_true,ke hlt,cond_true,cond_true];simp only [Int.toNat_natCast,zG5];have hx:=zDY (useP l (a:Int)) k;rw [inc (by omega)];cases he:eqBd (l.getD k yG) (l.getD a yG) with
   | true=>
    rw [cond_true,ok8 (by simp; omega),cond_true];refine hrec _ ⟨k+1,?_,hlt⟩ (by dsimp only; omega);rw [zNl (by rw [hp k,he])]
   | false=>
    rw [cond_false];refine hrec _ ⟨k+1,?_,hlt⟩ (by dsimp only; omega);rw [zM6 (by rw [hp k,he])]
 . obtain rfl:k=l.length:=by omega
   rw [show ilt (l.length:Int) (lenI l)=false from decide_eq_false (by show ¬ (l.length:Int) < (l.length:Int); omega),cond_false]
def c28 (x:List BindT×Int×Unit):Option (List Int×Unit):=if x.1.length<=500 then some (zBf x.1 x.2.1,()) else none
theorem ok28:ConOk CC Tryz.prog 28 ⟨as28,rs28,c28⟩:=(con28 1001).sub fun x y h=>by
 obtain ⟨l,i,u⟩:=x;unfold c28 at h;split at h
 . rename_i hl;injection h with h
   subst h;exact zNJ 1001 _ l i hl (by omega)
 . cases h
def eqL (a b:List BindT):Bool:=!ine (lenI a) (lenI b) && (List.range a.length).all fun i=>eqBd (a.getD i yG) (b.getD i yG)
theorem zK3 (fu:Nat) (nf:Nat->Bool) (a b:List BindT) (hl:a.length<=500) (hfu:1000 < fu):sh49 fu nf a b=some (eqL a b,()):=by
 unfold sh49 eqL;cases hne:ine (lenI a) (lenI b) with
 | true=>rfl
 | false=>
  have hlen:a.length=b.length:=by
   unfold ine at hne;have:((a.length:Int) == (b.length:Int))=true:=by
    have h2:(!((a.length:Int) == (b.length:Int)))=false:=hne;simpa using h2
   have:=eq_of_beq this;omega
  rw [cond_false,Bool.not_false,Bool.true_and];refine zCG (fun s=>∃ k:Nat,s=(((k:Int),()),())/\k<=a.length/\∀ j,j < k->eqBd (a.getD j yG) (b.getD j yG)=true) (fun s=>a.length - s.1.1.toNat) ?_ fu _ ⟨0,rfl,Nat.zero_le _,fun j hj=>by omega⟩ (by simp; omega);rintro rec s ⟨k,rfl,hk,hall⟩ hrec;dsimp only;by_cases hlt:k < a.length
  . rw [show ilt (k:Int) (lenI a)=true from decide_eq_true (by show (k:Int) < (a.length:Int); omega),cond_true,ke hlt,cond_true,ke (by omega),cond_true];simp only [Int.toNat_natCast,zG5];cases he:eqBd (a.getD k yG) (b.getD k yG) with
    | true=>
     rw [Bool.not_true,cond_false,inc (by omega)];refine hrec _ ⟨k+1,rfl,hlt,fun j hj=>?_⟩ (by dsimp only; omega);rcases Nat.lt_or_ge j k with h | h
     . exact hall j h
     . obtain rfl:j=k:=by omega
       exact he
    | false=>
     rw [Bool.not_false,cond_true];have:((List.range a.length).all fun i=>eqBd (a.getD i yG) (b.getD i yG))=false:=by
      rw [List.all_eq_false];exact ⟨k,List.mem_range.2 hlt,by rw [he]; simp⟩
     rw [this]
  . obtain rfl:k=a.length:=by omega
    rw [show ilt (a.length:Int) (lenI a)=false from decide_eq_false (by show ¬ (a.length:Int) < (a.length:Int); omega),cond_false];have:((List.range a.length).all fun i=>eqBd (a.getD i yG) (b.getD i yG))=true:=by
     rw [List.all_eq_true];exact fun i hi=>hall i (List.mem_range.1 hi)
    rw [this]
def c49 (x:List BindT×List BindT×Unit):Option (Bool×Unit):=if x.1.length<=500 then some (eqL x.1 x.2.1,()) else none
theorem ok49:ConOk CC Tryz.prog 49 ⟨as49,rs49,c49⟩:=(con49 1001).sub fun x y h=>by
 obtain ⟨a,b,u⟩:=x;unfold c49 at h;split at h
 . rename_i hl;injection h with h
   subst h;exact zK3 1001 _ a b hl (by omega)
 . cases h
theorem ok27:ConOk CC Tryz.prog 27 ⟨as27,rs27,c49⟩:=(con27 1001).sub fun x y h=>by
 obtain ⟨a,b,u⟩:=x;unfold c49 at h;split at h
 . rename_i hl;injection h with h
   subst h;exact zK3 1001 (fun _=>false) a b hl (by omega)
 . cases h
theorem ok30:ConOk CC Tryz.prog 30 ⟨as30,rs30,c49⟩:=(con30 0 c49 ok49).sub fun x y h=>by
 obtain ⟨a,b,u⟩:=x;unfold c49 at h;split at h
 . rename_i hl;injection h with h
   subst h;show Option.bind (c49 (a,b,())) (fun y0=>some (y0.1,()))=_;unfold c49;rw [if_pos hl]; rfl
 . cases h
def eqI (a b:List Int):Bool:=!ine (lenI a) (lenI b) && (List.range a.length).all fun i=>!ine (a.getD i 0) (b.getD i 0)
theorem zN7 (a:List Int):eqI a a=true:=by
 have h:∀ z:Int,ine z z=false:=fun z=>by simp [ine]
 simp only [eqI,h,Bool.not_false,Bool.true_and,List.all_eq_true,implies_true]
theorem zPQ (fu:Nat) (nf:Nat->Bool) (a b:List Int) (hl:a.length<=500) (hfu:1000 < fu):sh29 fu nf a b=some (eqI a b,()):=by
 unfold sh29 eqI;cases hne:ine (lenI a) (lenI b) with
 | true=>rfl
 | false=>
  have hlen:a.length=b.length:=by
   unfold ine at hne;have:((a.length:Int) == (b.length:Int))=true:=by
    have h2:(!((a.length:Int) == (b.length:Int)))=false:=hne;simpa using h2
   have:=eq_of_beq this;omega
  rw [cond_false,Bool.not_false,Bool.true_and];refine zCG (fun s=>∃ k:Nat,s=(((k:Int),()),())/\k<=a.length/\∀ j,j < k->ine (a.getD j 0) (b.getD j 0)=false) (fun s=>a.length - s.1.1.toNat) ?_ fu _ ⟨0,rfl,Nat.zero_le _,fun j hj=>by omega⟩ (by simp; omega);rintro rec s ⟨k,rfl,hk,hall⟩ hrec;dsimp only;by_cases hlt:k < a.length
  . rw [show ilt (k:Int) (lenI a)=true from decide_eq_true (by show (k:Int) < (a.length:Int); omega),cond_true,ke hlt,cond_true,ke (by omega),cond_true];simp only [Int.toNat_natCast];cases he:ine (a.getD k 0) (b.getD k 0) with
    | false=>
     rw [cond_false,inc (by omega)];refine hrec _ ⟨k+1,rfl,hlt,fun j hj=>?_⟩ (by dsimp only; omega);rcases Nat.lt_or_ge j k with h | h
     . exact hall j h
     . obtain rfl:j=k:=by omega
       exact he
    | true=>
     rw [cond_true];have:((List.range a.length).all fun i=>!ine (a.getD i 0) (b.getD i 0))=false:=by
      rw [List.all_eq_false];exact ⟨k,List.mem_range.2 hlt,by rw [he]; simp⟩
     rw [this]
  . obtain rfl:k=a.length:=by omega
    rw [show ilt (a.length:Int) (lenI a)=false from decide_eq_false (by show ¬ (a.length:Int) < (a.length:Int); omega),cond_false];have:((List.range a.length).all fun i=>!ine (a.getD i 0) (b.getD i 0))=true:=by
     rw [List.all_eq_true];exact fun i hi=>by rw [hall i (List.mem_range.1 hi)]; rfl
    rw [this]
def c29 (x:List Int×List Int×Unit):Option (Bool×Unit):=if x.1.length<=500 then some (eqI x.1 x.2.1,()) else none
theorem ok29:ConOk CC Tryz.prog 29 ⟨as29,rs29,c29⟩:=(con29 1001).sub fun x y h=>by
 obtain ⟨a,b,u⟩:=x;unfold c29 at h;split at h
 . rename_i hl;injection h with h
   subst h;exact zPQ 1001 _ a b hl (by omega)
 . cases h
theorem zNr (fu:Nat) (nf:Nat->Bool) (a b:List BindT) (at_:Int) (hfu:1000 < fu):sh13 fu (fun _=>some (true,())) c49 c28 c29 c49 nf a b at_=some (true,()):=by
 unfold sh13;rw [Option.bind_some];by_cases h1:500 < (a.length:Int)
 . rw [show ilt 500 (lenI a)=true from decide_eq_true h1]; rfl
 rw [show ilt 500 (lenI a)=false from decide_eq_false h1,cond_false];by_cases h2:500 < (b.length:Int)
 . rw [show ilt 500 (lenI b)=true from decide_eq_true h2]; rfl
 rw [show ilt 500 (lenI b)=false from decide_eq_false h2,cond_false];have hl:a.length<=500:=by omega
 have e1:c28 (a,at_,())=some (zBf a at_,()):=if_pos hl;have e2:c49 (a,b,())=some (eqL a b,()):=if_pos hl;rw [e1,Option.bind_some,e2,Option.bind_some];refine zCG (fun s=>∃ k:Nat,s=((upto (useP a at_) k,((k:Int),())),())/\k<=a.length) (fun s=>a.length - s.1.2.1.toNat) ?_ fu _ ⟨0,rfl,Nat.zero_le _⟩ (by simp; omega);rintro rec s ⟨k,rfl,hk⟩ hrec;dsimp only;by_cases hlt:k < a.length
 . rw [show ilt (k:Int) (lenI a)=true from decide_eq_true (by show (k:Int) < (a.length:Int); omega),cond_true,inc (by omega)];have hx:=zDY (useP a at_) k;have no:useP a at_ k=false->rec ((upto (useP a at_) k,((k+1:Nat):Int),()),())=some (true,()):=fun h=>by
    refine hrec _ ⟨k+1,?_,hlt⟩ (by dsimp only; omega);rw [zM6 h]
   by_cases h3:0<=at_
   . rw [show ile 0 at_=true from decide_eq_true h3,cond_true];by_cases h4:at_ < (a.length:Int)
     . rw [show ilt at_ (lenI a)=true from decide_eq_true h4,cond_true];obtain ⟨j,rfl⟩:∃ j:Nat,at_=j:=⟨at_.toNat,by omega⟩;rw [ke (by omega),cond_true,cond_true,ke hlt,cond_true];simp only [Int.toNat_natCast,zG5];by_cases h5:0<=(a.getD j yG).fto
       . rw [show ile 0 (a.getD j yG).fto=true from decide_eq_true h5,cond_true];have hp:useP a (j:Int) k=eqBd (a.getD k yG) (a.getD j yG):=by
          unfold useP;rw [show decide ((0:Int)<=(j:Int))=true from decide_eq_true (by omega),show decide ((j:Int) < (a.length:Int))=true from decide_eq_true h4,show decide (0<=(a.getD (j:Int).toNat yG).fto)=true from decide_eq_true (by simp only [Int.toNat_natCast]; exact h5)];simp
         cases he:eqBd (a.getD k yG) (a.getD j yG) with
         | true=>
          rw [cond_true,ok8 (by simp; omega),cond_true];refine hrec _ ⟨k+1,?_,hlt⟩ (by dsimp only; omega);rw [zNl (by rw [hp,he])]
         | false=>
          rw [cond_false];exact no (by rw [hp,he])
       . rw [show ile 0 (a.getD j yG).fto=false from decide_eq_false h5,cond_false];refine no ?_;unfold useP;rw [show decide (0<=(a.getD (j:Int).toNat yG).fto)=false from decide_eq_false (by simp only [Int.toNat_natCast]; exact h5)]; simp
     . rw [show ilt at_ (lenI a)=false from decide_eq_false h4,cond_false];refine no ?_;unfold useP;rw [show decide (at_ < (a.length:Int))=false from decide_eq_false h4]; simp
   . rw [show ile 0 at_=false from decide_eq_false h3,cond_false];refine no ?_;unfold useP;rw [show decide (0<=at_)=false from decide_eq_false h3]; rfl
 . obtain rfl:k=a.length:=by omega
   rw [show ilt (a.length:Int) (lenI a)=false from decide_eq_false (by show ¬ (a.length:Int) < (a.length:Int); omega),cond_false,cond_true];have hx:=zDY (useP a at_) a.length;have e3:c29 (zBf a at_,upto (useP a at_) a.length,())=some (true,()):=by
    show (if (zBf a at_).length<=500 then some (eqI (zBf a at_) (zBf a at_),()) else none)=_;rw [if_pos (by unfold zBf; omega),zN7]
   rw [e3,Option.bind_some,cond_true,Option.bind_some];have:beqB (eqL a b) (eqL a b)=true:=by unfold beqB; cases eqL a b <;> rfl
   rw [this]
end
section
open Go.Al Go.Den
def kf45:Nat->List Nat
 | 0=>[0,3]
 | 1=>[0,8,9,10]
 | 2=>[0,8,9,10,11]
 | 3=>[0,6,8,9,10]
 | 4=>[0,6,8,9,10,16]
 | 5=>[0,4]
 | 6=>[0,6,8,9,10,28]
 | 7=>[0,4]
 | 8=>[0,8,9,10]
 | 9=>[0,4]
 | _=>[]
def hd45:List (Nat×Head UU):=[(2,⟨[0,8,9],[(10,.int .i64)],[(0,wkK)]⟩)]
noncomputable def fd45:FD UU:=⟨⟨fun d=>hasN [] d,fun d=>hasN [] d,kf45,zD hd45,zD [],zn []⟩,zZ Tryz.f45,32,[.tmp 4]⟩
def kf48:Nat->List Nat
 | 0=>[0,3]
 | 1=>[0,7,8,9]
 | 2=>[0,7,8,9,10]
 | 3=>[0,5,7,8,9]
 | 4=>[0,7,8,9]
 | 5=>[0,7,8,9]
 | _=>[]
def hd48:List (Nat×Head UU):=[(2,⟨[0,7,8],[(9,.int .i64)],[(0,wkK)]⟩)]
noncomputable def fd48:FD UU:=⟨⟨fun d=>hasN [] d,fun d=>hasN [] d,kf48,zD hd48,zD [],zn []⟩,zZ Tryz.f48,17,[]⟩
def kf67:Nat->List Nat
 | 0=>[0,1]
 | 1=>[0,4]
 | _=>[]
noncomputable def fd67:FD UU:=⟨⟨fun d=>hasN [] d,fun d=>hasN [] d,kf67,zD [],zD [],zn []⟩,zZ Tryz.f67,26,[.tmp 4]⟩
def kf68:Nat->List Nat
 | 0=>[0,3]
 | 1=>[0,3,9]
 | 2=>[0]
 | 3=>[0,3,9,13]
 | 4=>[0,3,9,15]
 | 5=>[0]
 | 6=>[0,3,9,20]
 | 7=>[0]
 | 8=>[0,3,9,25]
 | 9=>[0,3,9,25]
 | 10=>[0]
 | 11=>[0,3,9,31]
 | 12=>[0]
 | 13=>[0,3,9,36]
 | 14=>[0,3,40,41,42]
 | 15=>[0,3,40,41,42,43]
 | 16=>[0,3,5,40,41,42]
 | 17=>[0,3,40,41,42]
 | 18=>[0,3,40,41,42]
 | 19=>[0]
 | 20=>[0,3,9,57]
 | 21=>[0,3]
 | 22=>[0,69,70,71]
 | 23=>[0,69,70,71,72]
 | 24=>[0,7,69,70,71]
 | 25=>[0,69,70,71]
 | 26=>[0,69,70,71]
 | 27=>[0,3,9,79]
 | 28=>[0,3]
 | 29=>[0]
 | 30=>[0]
 | 31=>[0,3,9,91]
 | 32=>[0,3,9,91]
 | 33=>[0,3]
 | 34=>[0,3,103]
 | 35=>[0]
 | 36=>[0,3,9,112]
 | 37=>[0,3,112]
 | 38=>[0,3]
 | 39=>[0]
 | 40=>[0]
 | _=>[]
def hd68:List (Nat×Head UU):=[(15,⟨[0,3,40,41],[(42,.int .i64)],[(0,wkK),(3,.box [.int .i64,.int .i64,.dl TI.node])]⟩),(23,⟨[0,69,70],[(71,.int .i64)],[(0,wkK)]⟩)]
def jn68:List (Nat×Head UU):=[(38,⟨[0,3],[(112,.bool)],[(0,wkK),(3,.box [.int .i64,.int .i64,.dl TI.node])]⟩),(33,⟨[0,3,9],[(91,.bool)],[(0,wkK),(3,.box [.int .i64,.int .i64,.dl TI.node])]⟩),(10,⟨[0,3,9],[(25,.bool)],[(0,wkK),(3,.box [.int .i64,.int .i64,.dl TI.node])]⟩)]
noncomputable def fd68:FD UU:=⟨⟨fun d=>hasN [] d,fun d=>hasN [] d,kf68,zD hd68,zD jn68,zn []⟩,zZ Tryz.f68,122,[]⟩
def kf99:Nat->List Nat
 | 0=>[0,3]
 | 1=>[0,7,8,9]
 | 2=>[0,7,8,9,10]
 | 3=>[0,5,7,8,9]
 | 4=>[0,5,7,8,9,21]
 | 5=>[0,5,7,8,9]
 | 6=>[0,7,8,9]
 | 7=>[0,7,8,9]
 | _=>[]
def hd99:List (Nat×Head UU):=[(2,⟨[0,7,8],[(9,.int .i64)],[(0,wkK)]⟩)]
noncomputable def fd99:FD UU:=⟨⟨fun d=>hasN [] d,fun d=>hasN [] d,kf99,zD hd99,zD [],zn []⟩,zZ Tryz.f99,30,[]⟩
def kf100:Nat->List Nat
 | 0=>[0,3]
 | 1=>[0,3,4]
 | 2=>[0,3,4,12]
 | 3=>[0,3]
 | 4=>[0]
 | _=>[]
noncomputable def fd100:FD UU:=⟨⟨fun d=>hasN [] d,fun d=>hasN [] d,kf100,zD [],zD [],zn []⟩,zZ Tryz.f100,24,[]⟩
def kf101:Nat->List Nat
 | 0=>[0,3]
 | 1=>[0,8,9,10]
 | 2=>[0,8,9,10,11]
 | 3=>[0,5,8,9,10]
 | 4=>[0,5,8,9,10,16]
 | 5=>[0,8,9,10]
 | 6=>[0,6,8,9,10]
 | 7=>[0,8,9,10]
 | 8=>[0,8,9,10]
 | _=>[]
def hd101:List (Nat×Head UU):=[(2,⟨[0,8,9],[(10,.int .i64)],[(0,wkK)]⟩)]
noncomputable def fd101:FD UU:=⟨⟨fun d=>hasN [] d,fun d=>hasN [] d,kf101,zD hd101,zD [],zn [(7,[(31,27,0)])]⟩,zZ Tryz.f101,35,[]⟩
def kf103:Nat->List Nat
 | 0=>[0,3]
 | 1=>[0,3,5]
 | 2=>[0,3,5,6]
 | 3=>[0,3,5,6,10,11,12]
 | 4=>[0,3,5,6,10,11,12,13]
 | 5=>[0,3,5,6,7,8,10,11,12]
 | 6=>[0,3,5,6,7,8,10,11,12]
 | 7=>[0,3,5,6,10,11,12,47]
 | 8=>[0,3,5,6,10,11,12]
 | 9=>[0,3,5,6,7,8,10,11,12,52]
 | 10=>[0,3,5,6,10,11,12]
 | 11=>[0,3,5,6,7,8,10,11,12,59]
 | 12=>[0,3,5,6,10,11,12]
 | 13=>[0,3,5,6,10,11,12]
 | 14=>[0,5]
 | 15=>[0,4]
 | _=>[]
def hd103:List (Nat×Head UU):=[(4,⟨[0,3,10,11],[(5,.int .i64),(6,.lvj),(12,.int .i64)],[(0,wkK),(3,.box [.int .i64,.int .i64,.dl TI.node])]⟩)]
noncomputable def fd103:FD UU:=⟨⟨fun d=>hasN [] d,fun d=>hasN [] d,kf103,zD hd103,zD [],zn []⟩,zZ Tryz.f103,77,[.tmp 4]⟩
def kf105:Nat->List Nat
 | 0=>[0,3]
 | 1=>[0,3,6]
 | 2=>[0]
 | 3=>[0,3,6,10]
 | 4=>[0]
 | 5=>[0,3,6,19]
 | 6=>[0,3,4]
 | 7=>[0,3]
 | 8=>[0]
 | 9=>[0,3,6,43]
 | 10=>[0,3]
 | 11=>[0]
 | 12=>[0,3,70]
 | 13=>[0]
 | _=>[]
noncomputable def fd105:FD UU:=⟨⟨fun d=>hasN [] d,fun d=>hasN [] d,kf105,zD [],zD [],zn [(7,[(34,30,0)]),(10,[(61,46,3),(61,49,0),(61,53,0),(61,56,3),(61,59,0)]),(13,[(88,73,3),(88,76,0),(88,80,0),(88,83,3),(88,86,0)])]⟩,zZ Tryz.f105,91,[]⟩
def kf127:Nat->List Nat
 | 0=>[0]
 | _=>[]
noncomputable def fd127:FD UU:=⟨⟨fun d=>hasN [] d,fun d=>hasN [] d,kf127,zD [],zD [],zn []⟩,zZ Tryz.f127,18,[]⟩
noncomputable def run127 (fu:Nat) (x:zA [wkK]) (a:zA ([.int .i64,.int .i64,.int .i64]:LK)):Option (Option (zA [wkK]×zA k0)):=
 runP CC Tb fu 2 (zD []) (zD []) (zD []) (zD []) fd127 [wkK] [wkK] ([.int .i64,.int .i64,.int .i64]:LK) k0 x a
theorem zPw:FDOk Tryz.prog (hasN []) (hasN []) 127 fd127:=fdk Tryz.func127 Tryz.ntmps127 Tryz.results127
noncomputable def run67 (fu:Nat) (c15:List UInt8×Unit->Option (Bool×Unit)) (x:zA [wkK]) (a:zA kI):Option (Option (zA [wkK]×zA kB)):=
 runP CC Tb fu 2 (zD []) (zD [(15,(⟨as15,rs15,c15⟩:Con UU))]) (zD []) (zD []) fd67 [wkK] [wkK] kI kB x a
theorem fdok67:FDOk Tryz.prog (hasN [15]) (hasN []) 67 fd67:=fdk Tryz.func67 Tryz.ntmps67 Tryz.results67
noncomputable def run45 (fu:Nat) (c45:zA kN->WW (zA kI)) (c67:zA kI->WW (zA kB)) (x:zA [wkK]) (a:zA kN):Option (Option (zA [wkK]×zA kI)):=
 runP CC Tb fu 2 (zD []) (zD []) (zD []) (zD [(45,cW kN kI c45),(67,cW kI kB c67)]) fd45 [wkK] [wkK] kN kI x a
theorem fdok45:FDOk Tryz.prog (hasN []) (hasN []) 45 fd45:=fdk Tryz.func45 Tryz.ntmps45 Tryz.results45
noncomputable def run48 (fu:Nat) (c68:zA kN->WW (zA k0×Option (Option LT1))) (x:zA [wkK]) (a:zA kN):Option (Option (zA [wkK]×zA k0)):=
 runP CC Tb fu 2 (zD []) (zD []) (zD []) (zD [(68,cWj kN k0 c68)]) fd48 [wkK] [wkK] kN k0 x a
theorem fdok48:FDOk Tryz.prog (hasN []) (hasN []) 48 fd48:=fdk Tryz.func48 Tryz.ntmps48 Tryz.results48
noncomputable def run68 (fu:Nat) (c47:zA k0->WW (zA k0)) (c48:zA kN->WW (zA k0)) (c68:zA kN->WW (zA k0×Option (Option LT1))) (c98:zA kN->WW (zA k0)) (c99:zA kN->WW (zA k0)) (c100:zA kN->WW (zA k0)) (c101:zA kN->WW (zA k0)) (c102:zA kI->WW (zA k0)) (c103:zA kN->WW (zA kI×Option (Option LT1))) (c104:zA k0->WW (zA ([.lv1]:LK))) (c105:zA kN->WW (zA k0)) (x:zA [wkK]) (a:zA kN):Option (Option (zA [wkL]×zA k0)):=
 runP CC Tb fu 2 (zD []) (zD []) (zD []) (zD [(47,cW k0 k0 c47),(48,cW kN k0 c48),(68,cWj kN k0 c68),(98,cW kN k0 c98),(99,cW kN k0 c99),(100,cW kN k0 c100),(101,cW kN k0 c101),(102,cW kI k0 c102),(103,cWj kN kI c103),(104,cW k0 ([.lv1]:LK) c104),(105,cW kN k0 c105)]) fd68 [wkK] [wkL] kN k0 x a
theorem fdok68:FDOk Tryz.prog (hasN []) (hasN []) 68 fd68:=fdk Tryz.func68 Tryz.ntmps68 Tryz.results68
noncomputable def run99 (fu:Nat) (c67:zA kI->WW (zA kB)) (c68:zA kN->WW (zA k0×Option (Option LT1))) (c125:zA kI->WW (zA k0)) (x:zA [wkK]) (a:zA kN):Option (Option (zA [wkK]×zA k0)):=
 runP CC Tb fu 2 (zD []) (zD []) (zD []) (zD [(67,cW kI kB c67),(68,cWj kN k0 c68),(125,cW kI k0 c125)]) fd99 [wkK] [wkK] kN k0 x a
theorem fdok99:FDOk Tryz.prog (hasN []) (hasN []) 99 fd99:=fdk Tryz.func99 Tryz.ntmps99 Tryz.results99
noncomputable def run100 (fu:Nat) (c48:zA kN->WW (zA k0)) (c67:zA kI->WW (zA kB)) (c126:zA ([.int .i64,.bool]:LK)->WW (zA k0)) (x:zA [wkK]) (a:zA kN):Option (Option (zA [wkK]×zA k0)):=
 runP CC Tb fu 2 (zD []) (zD []) (zD []) (zD [(48,cW kN k0 c48),(67,cW kI kB c67),(126,cW ([.int .i64,.bool]:LK) k0 c126)]) fd100 [wkK] [wkK] kN k0 x a
theorem zQJ:FDOk Tryz.prog (hasN []) (hasN []) 100 fd100:=fdk Tryz.func100 Tryz.ntmps100 Tryz.results100
noncomputable def run101 (fu:Nat) (c46:zA kI->List TokT->Option (zA kS)) (c68:zA kN->WW (zA k0×Option (Option LT1))) (c103:zA kN->WW (zA kI×Option (Option LT1))) (c127:zA ([.int .i64,.int .i64,.int .i64]:LK)->WW (zA k0)) (x:zA [wkK]) (a:zA kN):Option (Option (zA [wkK]×zA k0)):=
 runP CC Tb fu 2 (zD []) (zD []) (zD [(46,cRW kI kS c46)]) (zD [(68,cWj kN k0 c68),(103,cWj kN kI c103),(127,cW ([.int .i64,.int .i64,.int .i64]:LK) k0 c127)]) fd101 [wkK] [wkK] kN k0 x a
theorem zQu:FDOk Tryz.prog (hasN []) (hasN [46]) 101 fd101:=fdk Tryz.func101 Tryz.ntmps101 Tryz.results101
noncomputable def run103 (fu:Nat) (c67:zA kI->WW (zA kB)) (c68:zA kN->WW (zA k0×Option (Option LT1))) (c103:zA kN->WW (zA kI×Option (Option LT1))) (x:zA [wkK]) (a:zA kN):Option (Option (zA [wkL]×zA kI)):=
 runP CC Tb fu 2 (zD []) (zD []) (zD []) (zD [(67,cW kI kB c67),(68,cWt kN k0 c68),(103,cWj kN kI c103)]) fd103 [wkK] [wkL] kN kI x a
theorem zPr:FDOk Tryz.prog (hasN []) (hasN []) 103 fd103:=fdk Tryz.func103 Tryz.ntmps103 Tryz.results103
noncomputable def run105 (fu:Nat) (c46:zA kI->List TokT->Option (zA kS)) (c48:zA kN->WW (zA k0)) (c68:zA kN->WW (zA k0×Option (Option LT1))) (c125:zA kI->WW (zA k0)) (c127:zA ([.int .i64,.int .i64,.int .i64]:LK)->WW (zA k0)) (x:zA [wkK]) (a:zA kN):Option (Option (zA [wkK]×zA k0)):=
 runP CC Tb fu 2 (zD []) (zD []) (zD [(46,cRW kI kS c46)]) (zD [(48,cW kN k0 c48),(68,cWj kN k0 c68),(125,cW kI k0 c125),(127,cW ([.int .i64,.int .i64,.int .i64]:LK) k0 c127)]) fd105 [wkK] [wkK] kN k0 x a
theorem zQR:FDOk Tryz.prog (hasN []) (hasN [46]) 105 fd105:=fdk Tryz.func105 Tryz.ntmps105 Tryz.results105
end
section
open Go.Al Go.Den
def sh127 (fu:Nat) (x:(WkT×Unit)) (a:(Int×(Int×(Int×Unit)))):(Option (Option ((WkT×Unit)×Unit))) :=  let u1:=Int.toNat a.1; let u0:=List.length x.1.2.1; cond (inB a.1 u0) (cond (Nat.blt u1 u0) (cond (eqN u0 (List.length (List.set x.1.2.1 u1 (BindT.mk a.2.1 (isub .i64 a.2.2.1 1))))) (some (some (((x.1.1,((List.set x.1.2.1 u1 (BindT.mk a.2.1 (isub .i64 a.2.2.1 1))),(x.1.2.2.1,(x.1.2.2.2.1,(x.1.2.2.2.2.1,((),())))))),()),()))) (none)) (none)) (none)
theorem eq127:@run127 = @sh127:=by kernel_rfl
def sh67 (fu:Nat) (c15:(Str×Unit)->(Option (Bool×Unit))) (x:(WkT×Unit)) (a:(Int×Unit)):(Option (Option ((WkT×Unit)×(Bool×Unit)))) :=  let u1:=inB a.1 (List.length x.1.1); let u0:=List.getD x.1.1 (Int.toNat a.1) tokD; cond u1 (cond (ieq (TokT.kind u0) 1) (cond u1 (Option.bind (c15 ((TokT.text u0),())) fun y0=>cE x.1.2.1 (some (some (((wT (wS x.1)),()),((!y0.1),()))))) (none)) (cE x.1.2.1 (some (some (((wT (wS x.1)),()),(false,())))))) (none)
theorem eq67:@run67 = @sh67:=by kernel_rfl
def sh45 (fu:Nat) (c45:(Nd×Unit)->WW (Int×Unit)) (c67:(Int×Unit)->WW (Bool×Unit)) (x:(WkT×Unit)) (a:(Nd×Unit)):(Option (Option ((WkT×Unit)×(Int×Unit)))):=cE x.1.2.1 (iter fu (fun (rec1:((Int×Unit)×(WkT×Unit))->Option (Option ((WkT×Unit)×(Int×Unit)))) (s1:((Int×Unit)×(WkT×Unit)))=>let u0:=List.getD (Nd.kids a.1) (Int.toNat s1.1.1) qh; cond (ilt s1.1.1 (lenI (Nd.kids a.1))) (cond (inB s1.1.1 (List.length (Nd.kids a.1))) (cond (ieq (Nd.kind u0) 10) (cE s1.2.1.2.1 (Option.bind (c45 ((ndE u0),()) (wS s1.2.1)) fun y0=>cE y0.2.2.1 (some (some (((wT y0.2),()),(y0.1.1,())))))) (cond (ieq (Nd.kind u0) 0) (cE s1.2.1.2.1 (Option.bind (c67 ((Nd.tok u0),()) (wS s1.2.1)) fun y0=>cond y0.1.1 (cE y0.2.2.1 (some (some (((wT y0.2),()),((Nd.tok u0),()))))) (cE y0.2.2.1 (rec1 (((iadd .i64 s1.1.1 1),()),((wT y0.2),())))))) (cE s1.2.1.2.1 (rec1 (((iadd .i64 s1.1.1 1),()),((wT (wS s1.2.1)),())))))) (none)) (cE s1.2.1.2.1 (some (some (((wT (wS s1.2.1)),()),((Neg.neg 1),())))))) ((0,()),((wT (wS x.1)),())))
theorem eq45:@run45 = @sh45:=by kernel_rfl
def sh48 (fu:Nat) (c68:(Nd×Unit)->WW (Unit×OO)) (x:(WkT×Unit)) (a:(Nd×Unit)):(Option (Option ((WkT×Unit)×Unit))):=cE x.1.2.1 (iter fu (fun (rec1:((Int×Unit)×(WkT×Unit))->Option (Option ((WkT×Unit)×Unit))) (s1:((Int×Unit)×(WkT×Unit)))=>cond (ilt s1.1.1 (lenI (Nd.kids a.1))) (cond (inB s1.1.1 (List.length (Nd.kids a.1))) (cE s1.2.1.2.1 (Option.bind (c68 ((ndE (List.getD (Nd.kids a.1) (Int.toNat s1.1.1) qh)),()) (wS s1.2.1)) fun y0=>cE y0.2.2.1 (rec1 (((iadd .i64 s1.1.1 1),()),((wT y0.2),()))))) (none)) (cE s1.2.1.2.1 (some (some (((wT (wS s1.2.1)),()),()))))) ((0,()),((wT (wS x.1)),())))
theorem eq48:@run48 = @sh48:=by kernel_rfl
def sh68 (fu:Nat) (c47:Unit->WW Unit) (c48:(Nd×Unit)->WW Unit) (c68:(Nd×Unit)->WW (Unit×OO)) (c98:(Nd×Unit)->WW Unit) (c99:(Nd×Unit)->WW Unit) (c100:(Nd×Unit)->WW Unit) (c101:(Nd×Unit)->WW Unit) (c102:(Int×Unit)->WW Unit) (c103:(Nd×Unit)->WW ((Int×Unit)×OO)) (c104:Unit->WW ((MT×MT)×Unit)) (c105:(Nd×Unit)->WW Unit) (x:(WkT×Unit)) (a:(Nd×Unit)):(Option (Option ((WkLT×Unit)×Unit))):=cond (ieq (Nd.kind a.1) 0) (cE x.1.2.1 (some (some (((x.1.1,(x.1.2.1,(x.1.2.2.1,(x.1.2.2.2.1,(x.1.2.2.2.2.1,(none,())))))),()),())))) (cond (ieq (Nd.kind a.1) 2) (cE x.1.2.1 (Option.bind (c98 ((ndE a.1),()) (wS x.1)) fun y0=>cE y0.2.2.1 (some (some (((y0.2.1,(y0.2.2.1,(y0.2.2.2.1,(y0.2.2.2.2.1,(y0.2.2.2.2.2,(none,())))))),()),()))))) (cond (ieq (Nd.kind a.1) 4) (cE x.1.2.1 (Option.bind (c99 ((ndE a.1),()) (wS x.1)) fun y0=>cE y0.2.2.1 (some (some (((y0.2.1,(y0.2.2.1,(y0.2.2.2.1,(y0.2.2.2.2.1,(y0.2.2.2.2.2,(none,())))))),()),()))))) (xH (fun (join0:((Bool×Unit)×(WkT×(JT×Unit)))->Option (Option ((WkLT×Unit)×Unit)))=>cond (ieq (Nd.kind a.1) 5) (cE x.1.2.1 (join0 ((true,()),((wT (wS x.1)),(((Nd.kind a.1),((Nd.tok a.1),((Nd.kids a.1),()))),()))))) (cE x.1.2.1 (join0 (((ieq (Nd.kind a.1) 6),()),((wT (wS x.1)),(((Nd.kind a.1),((Nd.tok a.1),((Nd.kids a.1),()))),())))))) (fun (t0:((Bool×Unit)×(WkT×(JT×Unit))))=>let u7:=(t0.2.2.1,()); let u2:=List.length t0.2.2.1.2.2.1; let u1:=Nd.mk t0.2.2.1.1 t0.2.2.1.2.1 t0.2.2.1.2.2.1; let u0:=lenI t0.2.2.1.2.2.1; let u5:=lenI (cutL t0.2.2.1.2.2.1 1 u0); let u4:=List.length (cutL t0.2.2.1.2.2.1 1 u0); cond t0.1.1 (cE t0.2.1.2.1 (Option.bind (c100 (u1,()) (wS t0.2.1)) fun y0=>cE y0.2.2.1 (some (some (((y0.2.1,(y0.2.2.1,(y0.2.2.2.1,(y0.2.2.2.2.1,(y0.2.2.2.2.2,(none,())))))),()),()))))) (cond (ieq (Nd.kind a.1) 7) (cE t0.2.1.2.1 (Option.bind (c101 (u1,()) (wS t0.2.1)) fun y0=>cE y0.2.2.1 (some (some (((y0.2.1,(y0.2.2.1,(y0.2.2.2.1,(y0.2.2.2.2.1,(y0.2.2.2.2.2,(none,())))))),()),()))))) (cond (ieq (Nd.kind a.1) 8) (cond (inS 1 u0 u2) (cE t0.2.1.2.1 (iter fu (fun (rec1:((Int×Unit)×(WkT×(JT×Unit)))->Option (Option ((WkLT×Unit)×Unit))) (s1:((Int×Unit)×(WkT×(JT×Unit))))=>cond (ilt s1.1.1 u5) (cond (inB s1.1.1 u4) (cE s1.2.1.2.1 (Option.bind (c68 ((ndE (List.getD (cutL t0.2.2.1.2.2.1 1 u0) (Int.toNat s1.1.1) qh)),()) (wS s1.2.1)) fun y0=>cE y0.2.2.1 (rec1 (((iadd .i64 s1.1.1 1),()),((wT y0.2),(s1.2.2.1,())))))) (none)) (cond (inB 0 (List.length s1.2.2.1.2.2.1)) (cE s1.2.1.2.1 (Option.bind (c102 ((Nd.tok (List.getD s1.2.2.1.2.2.1 0 qh)),()) (wS s1.2.1)) fun y0=>cE y0.2.2.1 (some (some (((y0.2.1,(y0.2.2.1,(y0.2.2.2.1,(y0.2.2.2.2.1,(y0.2.2.2.2.2,(none,())))))),()),()))))) (none))) ((0,()),((wT (wS t0.2.1)),u7)))) (none)) (cond (ieq (Nd.kind a.1) 9) (cond (inB 0 u2) (cE t0.2.1.2.1 (Option.bind (c103 ((ndE (List.getD t0.2.2.1.2.2.1 0 qh)),()) (wS t0.2.1)) fun y0=>cE y0.2.2.1 (Option.bind (c102 (y0.1.1.1,()) y0.2) fun y1=>cond (inS 1 u0 u2) (cE y1.2.2.1 (iter fu (fun (rec1:((Int×Unit)×(WkT×Unit))->Option (Option ((WkLT×Unit)×Unit))) (s1:((Int×Unit)×(WkT×Unit)))=>cond (ilt s1.1.1 u5) (cond (inB s1.1.1 u4) (cE s1.2.1.2.1 (Option.bind (c68 ((ndE (List.getD (cutL t0.2.2.1.2.2.1 1 u0) (Int.toNat s1.1.1) qh)),()) (wS s1.2.1)) fun y2=>cE y2.2.2.1 (rec1 (((iadd .i64 s1.1.1 1),()),((wT y2.2),()))))) (none)) (cE s1.2.1.2.1 (some (some (((s1.2.1.1,(s1.2.1.2.1,(s1.2.1.2.2.1,(s1.2.1.2.2.2.1,(s1.2.1.2.2.2.2.1,(none,())))))),()),()))))) ((0,()),((wT y1.2),())))) (none)))) (none)) (cond (ieq (Nd.kind a.1) 11) (cE t0.2.1.2.1 (Option.bind (c47 () (wS t0.2.1)) fun y0=>cE y0.2.2.1 (Option.bind (c48 (u1,()) y0.2) fun y1=>cE y1.2.2.1 (Option.bind (c104 () y1.2) fun y2=>cE y2.2.2.1 (some (some (((y2.2.1,(y2.2.2.1,(y2.2.2.2.1,(y2.2.2.2.2.1,(y2.2.2.2.2.2,((some (some y2.1.1)),())))))),()),()))))))) (xH (fun (join0:((Bool×Unit)×(WkT×(JT×Unit)))->Option (Option ((WkLT×Unit)×Unit)))=>cond (ieq (Nd.kind a.1) 12) (cE t0.2.1.2.1 (join0 ((true,()),((wT (wS t0.2.1)),u7)))) (cE t0.2.1.2.1 (join0 (((ieq (Nd.kind a.1) 14),()),((wT (wS t0.2.1)),u7))))) (fun (t1:((Bool×Unit)×(WkT×(JT×Unit))))=>let u6:=List.length t1.2.2.1.2.2.1; cond t1.1.1 (cond (inB 0 u6) (cE t1.2.1.2.1 (Option.bind (c68 ((ndE (List.getD t1.2.2.1.2.2.1 0 qh)),()) (wS t1.2.1)) fun y0=>cond (ilt 1 (lenI t1.2.2.1.2.2.1)) (cond (inB 1 u6) (cE y0.2.2.1 (Option.bind (c103 ((ndE (List.getD t1.2.2.1.2.2.1 1 qh)),()) y0.2) fun y1=>cE y1.2.2.1 (Option.bind (c102 (y1.1.1.1,()) y1.2) fun y2=>cE y2.2.2.1 (some (some (((y2.2.1,(y2.2.2.1,(y2.2.2.2.1,(y2.2.2.2.2.1,(y2.2.2.2.2.2,(none,())))))),()),())))))) (none)) (cE y0.2.2.1 (some (some (((y0.2.1,(y0.2.2.1,(y0.2.2.2.1,(y0.2.2.2.2.1,(y0.2.2.2.2.2,(none,())))))),()),())))))) (none)) (xH (fun (join0:((Bool×Unit)×(WkT×(JT×Unit)))->Option (Option ((WkLT×Unit)×Unit)))=>cond (ieq (Nd.kind a.1) 20) (cE t1.2.1.2.1 (join0 ((true,()),((wT (wS t1.2.1)),(t1.2.2.1,()))))) (cE t1.2.1.2.1 (join0 (((ieq (Nd.kind a.1) 25),()),((wT (wS t1.2.1)),(t1.2.2.1,())))))) (fun (t2:((Bool×Unit)×(WkT×(JT×Unit))))=>let u3:=Nd.mk t2.2.2.1.1 t2.2.2.1.2.1 t2.2.2.1.2.2.1; cond t2.1.1 (cE t2.2.1.2.1 (Option.bind (c47 () (wS t2.2.1)) fun y0=>cE y0.2.2.1 (Option.bind (c48 (u3,()) y0.2) fun y1=>cE y1.2.2.1 (Option.bind (c104 () y1.2) fun y2=>cE y2.2.2.1 (some (some (((y2.2.1,(y2.2.2.1,(y2.2.2.2.1,(y2.2.2.2.2.1,(y2.2.2.2.2.2,(none,())))))),()),()))))))) (cE t2.2.1.2.1 (Option.bind (c105 (u3,()) (wS t2.2.1)) fun y0=>cE y0.2.2.1 (some (some (((y0.2.1,(y0.2.2.1,(y0.2.2.2.1,(y0.2.2.2.2.1,(y0.2.2.2.2.2,(none,())))))),()),())))))))))))))))))
theorem eq68:@run68 = @sh68:=by kernel_rfl
def sh99 (fu:Nat) (c67:(Int×Unit)->WW (Bool×Unit)) (c68:(Nd×Unit)->WW (Unit×OO)) (c125:(Int×Unit)->WW Unit) (x:(WkT×Unit)) (a:(Nd×Unit)):(Option (Option ((WkT×Unit)×Unit))):=cE x.1.2.1 (iter fu (fun (rec1:((Int×Unit)×(WkT×Unit))->Option (Option ((WkT×Unit)×Unit))) (s1:((Int×Unit)×(WkT×Unit)))=>let u1:=iadd .i64 s1.1.1 1; let u0:=List.getD (Nd.kids a.1) (Int.toNat s1.1.1) qh; cond (ilt s1.1.1 (lenI (Nd.kids a.1))) (cond (inB s1.1.1 (List.length (Nd.kids a.1))) (cond (ieq (Nd.kind u0) 0) (cE s1.2.1.2.1 (Option.bind (c67 ((Nd.tok u0),()) (wS s1.2.1)) fun y0=>cond y0.1.1 (cE y0.2.2.1 (Option.bind (c125 ((Nd.tok u0),()) y0.2) fun y1=>cE y1.2.2.1 (Option.bind (c68 ((ndE u0),()) y1.2) fun y2=>cE y2.2.2.1 (rec1 ((u1,()),((wT y2.2),())))))) (cE y0.2.2.1 (Option.bind (c68 ((ndE u0),()) y0.2) fun y1=>cE y1.2.2.1 (rec1 ((u1,()),((wT y1.2),()))))))) (cE s1.2.1.2.1 (Option.bind (c68 ((ndE u0),()) (wS s1.2.1)) fun y0=>cE y0.2.2.1 (rec1 ((u1,()),((wT y0.2),())))))) (none)) (cE s1.2.1.2.1 (some (some (((wT (wS s1.2.1)),()),()))))) ((0,()),((wT (wS x.1)),())))
theorem eq99:@run99 = @sh99:=by kernel_rfl
def sh100 (fu:Nat) (c48:(Nd×Unit)->WW Unit) (c67:(Int×Unit)->WW (Bool×Unit)) (c126:(Int×(Bool×Unit))->WW Unit) (x:(WkT×Unit)) (a:(Nd×Unit)):(Option (Option ((WkT×Unit)×Unit))) :=  let u0:=Nd.tok (List.getD (Nd.kids a.1) 1 qh); cond (inB 1 (List.length (Nd.kids a.1))) (cE x.1.2.1 (Option.bind (c67 (u0,()) (wS x.1)) fun y0=>cond y0.1.1 (cE y0.2.2.1 (Option.bind (c126 (u0,((ilt 2 (lenI (Nd.kids a.1))),())) y0.2) fun y1=>cE y1.2.2.1 (Option.bind (c48 ((ndE a.1),()) y1.2) fun y2=>cE y2.2.2.1 (some (some (((wT y2.2),()),())))))) (cE y0.2.2.1 (Option.bind (c48 ((ndE a.1),()) y0.2) fun y1=>cE y1.2.2.1 (some (some (((wT y1.2),()),()))))))) (none)
theorem eq100:@run100 = @sh100:=by kernel_rfl
def sh101 (fu:Nat) (c46:(Int×Unit)->LT->(Option (Str×Unit))) (c68:(Nd×Unit)->WW (Unit×OO)) (c103:(Nd×Unit)->WW ((Int×Unit)×OO)) (c127:(Int×(Int×(Int×Unit)))->WW Unit) (x:(WkT×Unit)) (a:(Nd×Unit)):(Option (Option ((WkT×Unit)×Unit))):=cE x.1.2.1 (iter fu (fun (rec1:((Int×Unit)×(WkT×Unit))->Option (Option ((WkT×Unit)×Unit))) (s1:((Int×Unit)×(WkT×Unit)))=>let u0:=List.getD (Nd.kids a.1) (Int.toNat s1.1.1) qh; cond (ilt s1.1.1 (lenI (Nd.kids a.1))) (cond (inB s1.1.1 (List.length (Nd.kids a.1))) (cond (ine (Nd.kind u0) 10) (cE s1.2.1.2.1 (Option.bind (c68 ((ndE u0),()) (wS s1.2.1)) fun y0=>cE y0.2.2.1 (rec1 (((iadd .i64 s1.1.1 1),()),((wT y0.2),()))))) (cE s1.2.1.2.1 (Option.bind (c103 ((ndE u0),()) (wS s1.2.1)) fun y0=>cE y0.2.2.1 (Option.bind (c46 (y0.1.1.1,()) y0.2.1) fun y1=>cE y0.2.2.1 (Option.bind (c127 (y0.1.1.1,(3,((mpG y0.2.2.2.2.1 y1.1),()))) y0.2) fun y2=>cE y2.2.2.1 (rec1 (((iadd .i64 s1.1.1 1),()),((wT y2.2),())))))))) (none)) (cE s1.2.1.2.1 (some (some (((wT (wS s1.2.1)),()),()))))) ((0,()),((wT (wS x.1)),())))
theorem eq101:@run101 = @sh101:=by kernel_rfl
def sh103 (fu:Nat) (c67:(Int×Unit)->WW (Bool×Unit)) (c68:(Nd×Unit)->WW (Unit×OO)) (c103:(Nd×Unit)->WW ((Int×Unit)×OO)) (x:(WkT×Unit)) (a:(Nd×Unit)):(Option (Option ((WkLT×Unit)×(Int×Unit)))):=cE x.1.2.1 (iter fu (fun (rec1:((Int×(OO×(Int×Unit)))×(WkT×(JT×Unit)))->Option (Option ((WkLT×Unit)×(Int×Unit)))) (s1:((Int×(OO×(Int×Unit)))×(WkT×(JT×Unit))))=>let u21:=isub .i64 s1.1.2.2.1 1; let u17:=ilt s1.1.2.2.1 (lenI (Nd.kids a.1)); let u16:=inB s1.1.2.2.1 (List.length (Nd.kids a.1)); let u15:=ilt 0 s1.1.2.2.1; let u4:=(s1.2.2.1,()); let u3:=List.getD (Nd.kids a.1) (Int.toNat s1.1.2.2.1) qh; let u19:=ieq (Nd.kind u3) 0; let u18:=ieq (Nd.kind u3) 10; let u11:=ieq (Nd.kind u3) 11; let u2:=inB u21 (List.length s1.2.2.1.2.2.1); let u1:=iadd .i64 s1.1.2.2.1 1; let u20:=(none,(u1,())); let u9:=(s1.1.1,u20); let u0:=List.getD s1.2.2.1.2.2.1 (Int.toNat u21) qh; let u14:=ieq (Nd.kind u0) 0; let u10:=ieq (Nd.tok u0) s1.1.1; zr s1.1.2.1 (cond u17 (cond u16 (cond u18 (cE s1.2.1.2.1 (Option.bind (c103 ((ndE u3),()) (wS s1.2.1)) fun y0=>cE y0.2.2.1 (rec1 ((y0.1.1.1,u20),((wT y0.2),u4))))) (cond u19 (cE s1.2.1.2.1 (Option.bind (c67 ((Nd.tok u3),()) (wS s1.2.1)) fun y0=>cond y0.1.1 (cE y0.2.2.1 (rec1 (((Nd.tok u3),u20),((wT y0.2),u4)))) (cE y0.2.2.1 (Option.bind (c68 ((ndE u3),()) y0.2) fun y1=>let u12:=rec1 (u9,((wT y1.2),u4)); zr y1.1.2 (cond u11 (cond u15 (cond u2 (cond u14 (cond u2 (cond u10 (cE y1.2.2.1 u12) (cE y1.2.2.1 u12)) (none)) (cE y1.2.2.1 u12)) (none)) (cE y1.2.2.1 u12)) (cE y1.2.2.1 u12)) fun y2=>zr y2 (cond u11 (cond u15 (cond u2 (cond u14 (cond u2 (cond u10 (cE y1.2.2.1 (rec1 ((s1.1.1,((some none),(u1,()))),((wT y1.2),u4)))) (cE y1.2.2.1 u12)) (none)) (cE y1.2.2.1 u12)) (none)) (cE y1.2.2.1 u12)) (cE y1.2.2.1 u12)) fun y3=>cond u11 (cond u15 (cond u2 (cond u14 (cond u2 (cond u10 (cE y1.2.2.1 (rec1 ((s1.1.1,((some (some y3)),(u1,()))),((wT y1.2),u4)))) (cE y1.2.2.1 u12)) (none)) (cE y1.2.2.1 u12)) (none)) (cE y1.2.2.1 u12)) (cE y1.2.2.1 u12))))) (cE s1.2.1.2.1 (Option.bind (c68 ((ndE u3),()) (wS s1.2.1)) fun y0=>let u13:=rec1 (u9,((wT y0.2),u4)); zr y0.1.2 (cond u11 (cond u15 (cond u2 (cond u14 (cond u2 (cond u10 (cE y0.2.2.1 u13) (cE y0.2.2.1 u13)) (none)) (cE y0.2.2.1 u13)) (none)) (cE y0.2.2.1 u13)) (cE y0.2.2.1 u13)) fun y1=>zr y1 (cond u11 (cond u15 (cond u2 (cond u14 (cond u2 (cond u10 (cE y0.2.2.1 (rec1 ((s1.1.1,((some none),(u1,()))),((wT y0.2),u4)))) (cE y0.2.2.1 u13)) (none)) (cE y0.2.2.1 u13)) (none)) (cE y0.2.2.1 u13)) (cE y0.2.2.1 u13)) fun y2=>cond u11 (cond u15 (cond u2 (cond u14 (cond u2 (cond u10 (cE y0.2.2.1 (rec1 ((s1.1.1,((some (some y2)),(u1,()))),((wT y0.2),u4)))) (cE y0.2.2.1 u13)) (none)) (cE y0.2.2.1 u13)) (none)) (cE y0.2.2.1 u13)) (cE y0.2.2.1 u13))))) (none)) (cE s1.2.1.2.1 (some (some (((s1.2.1.1,(s1.2.1.2.1,(s1.2.1.2.2.1,(s1.2.1.2.2.2.1,(s1.2.1.2.2.2.2.1,(none,())))))),()),(s1.1.1,())))))) fun y0=>zr y0 (cond u17 (cond u16 (cond u18 (cE s1.2.1.2.1 (Option.bind (c103 ((ndE u3),()) (wS s1.2.1)) fun y1=>cE y1.2.2.1 (rec1 ((y1.1.1.1,((some none),(u1,()))),((wT y1.2),u4))))) (cond u19 (cE s1.2.1.2.1 (Option.bind (c67 ((Nd.tok u3),()) (wS s1.2.1)) fun y1=>cond y1.1.1 (cE y1.2.2.1 (rec1 (((Nd.tok u3),((some none),(u1,()))),((wT y1.2),u4)))) (cE y1.2.2.1 (Option.bind (c68 ((ndE u3),()) y1.2) fun y2=>let u5:=rec1 ((s1.1.1,((some none),(u1,()))),((wT y2.2),u4)); zr y2.1.2 (cond u11 (cond u15 (cond u2 (cond u14 (cond u2 (cond u10 (cE y2.2.2.1 (rec1 (u9,((wT y2.2),u4)))) (cE y2.2.2.1 u5)) (none)) (cE y2.2.2.1 u5)) (none)) (cE y2.2.2.1 u5)) (cE y2.2.2.1 u5)) fun y3=>zr y3 (cond u11 (cond u15 (cond u2 (cond u14 (cond u2 (cond u10 (cE y2.2.2.1 u5) (cE y2.2.2.1 u5)) (none)) (cE y2.2.2.1 u5)) (none)) (cE y2.2.2.1 u5)) (cE y2.2.2.1 u5)) fun y4=>cond u11 (cond u15 (cond u2 (cond u14 (cond u2 (cond u10 (cE y2.2.2.1 (rec1 ((s1.1.1,((some (some y4)),(u1,()))),((wT y2.2),u4)))) (cE y2.2.2.1 u5)) (none)) (cE y2.2.2.1 u5)) (none)) (cE y2.2.2.1 u5)) (cE y2.2.2.1 u5))))) (cE s1.2.1.2.1 (Option.bind (c68 ((ndE u3),()) (wS s1.2.1)) fun y1=>let u6:=rec1 ((s1.1.1,((some none),(u1,()))),((wT y1.2),u4)); zr y1.1.2 (cond u11 (cond u15 (cond u2 (cond u14 (cond u2 (cond u10 (cE y1.2.2.1 (rec1 (u9,((wT y1.2),u4)))) (cE y1.2.2.1 u6)) (none)) (cE y1.2.2.1 u6)) (none)) (cE y1.2.2.1 u6)) (cE y1.2.2.1 u6)) fun y2=>zr y2 (cond u11 (cond u15 (cond u2 (cond u14 (cond u2 (cond u10 (cE y1.2.2.1 u6) (cE y1.2.2.1 u6)) (none)) (cE y1.2.2.1 u6)) (none)) (cE y1.2.2.1 u6)) (cE y1.2.2.1 u6)) fun y3=>cond u11 (cond u15 (cond u2 (cond u14 (cond u2 (cond u10 (cE y1.2.2.1 (rec1 ((s1.1.1,((some (some y3)),(u1,()))),((wT y1.2),u4)))) (cE y1.2.2.1 u6)) (none)) (cE y1.2.2.1 u6)) (none)) (cE y1.2.2.1 u6)) (cE y1.2.2.1 u6))))) (none)) (cE s1.2.1.2.1 (some (some (((s1.2.1.1,(s1.2.1.2.1,(s1.2.1.2.2.1,(s1.2.1.2.2.2.1,(s1.2.1.2.2.2.2.1,((some none),())))))),()),(s1.1.1,())))))) fun y1=>cond u17 (cond u16 (cond u18 (cE s1.2.1.2.1 (Option.bind (c103 ((ndE u3),()) (wS s1.2.1)) fun y2=>cE y2.2.2.1 (rec1 ((y2.1.1.1,((some (some y1)),(u1,()))),((wT y2.2),u4))))) (cond u19 (cE s1.2.1.2.1 (Option.bind (c67 ((Nd.tok u3),()) (wS s1.2.1)) fun y2=>cond y2.1.1 (cE y2.2.2.1 (rec1 (((Nd.tok u3),((some (some y1)),(u1,()))),((wT y2.2),u4)))) (cE y2.2.2.1 (Option.bind (c68 ((ndE u3),()) y2.2) fun y3=>let u7:=rec1 ((s1.1.1,((some (some y1)),(u1,()))),((wT y3.2),u4)); zr y3.1.2 (cond u11 (cond u15 (cond u2 (cond u14 (cond u2 (cond u10 (cE y3.2.2.1 (rec1 (u9,((wT y3.2),u4)))) (cE y3.2.2.1 u7)) (none)) (cE y3.2.2.1 u7)) (none)) (cE y3.2.2.1 u7)) (cE y3.2.2.1 u7)) fun y4=>zr y4 (cond u11 (cond u15 (cond u2 (cond u14 (cond u2 (cond u10 (cE y3.2.2.1 (rec1 ((s1.1.1,((some none),(u1,()))),((wT y3.2),u4)))) (cE y3.2.2.1 u7)) (none)) (cE y3.2.2.1 u7)) (none)) (cE y3.2.2.1 u7)) (cE y3.2.2.1 u7)) fun y5=>cond u11 (cond u15 (cond u2 (cond u14 (cond u2 (cond u10 (cE y3.2.2.1 (rec1 ((s1.1.1,((some (some y5)),(u1,()))),((wT y3.2),u4)))) (cE y3.2.2.1 u7)) (none)) (cE y3.2.2.1 u7)) (none)) (cE y3.2.2.1 u7)) (cE y3.2.2.1 u7))))) (cE s1.2.1.2.1 (Option.bind (c68 ((ndE u3),()) (wS s1.2.1)) fun y2=>let u8:=rec1 ((s1.1.1,((some (some y1)),(u1,()))),((wT y2.2),u4)); zr y2.1.2 (cond u11 (cond u15 (cond u2 (cond u14 (cond u2 (cond u10 (cE y2.2.2.1 (rec1 (u9,((wT y2.2),u4)))) (cE y2.2.2.1 u8)) (none)) (cE y2.2.2.1 u8)) (none)) (cE y2.2.2.1 u8)) (cE y2.2.2.1 u8)) fun y3=>zr y3 (cond u11 (cond u15 (cond u2 (cond u14 (cond u2 (cond u10 (cE y2.2.2.1 (rec1 ((s1.1.1,((some none),(u1,()))),((wT y2.2),u4)))) (cE y2.2.2.1 u8)) (none)) (cE y2.2.2.1 u8)) (none)) (cE y2.2.2.1 u8)) (cE y2.2.2.1 u8)) fun y4=>cond u11 (cond u15 (cond u2 (cond u14 (cond u2 (cond u10 (cE y2.2.2.1 (rec1 ((s1.1.1,((some (some y4)),(u1,()))),((wT y2.2),u4)))) (cE y2.2.2.1 u8)) (none)) (cE y2.2.2.1 u8)) (none)) (cE y2.2.2.1 u8)) (cE y2.2.2.1 u8))))) (none)) (cE s1.2.1.2.1 (some (some (((s1.2.1.1,(s1.2.1.2.1,(s1.2.1.2.2.1,(s1.2.1.2.2.2.1,(s1.2.1.2.2.2.2.1,((some (some y1)),())))))),()),(s1.1.1,())))))) (((Neg.neg 1),((some none),(0,()))),((wT (wS x.1)),(((Nd.kind a.1),((Nd.tok a.1),((Nd.kids a.1),()))),()))))
theorem eq103:@run103 = @sh103:=by kernel_rfl
def sh105 (fu:Nat) (c46:(Int×Unit)->LT->(Option (Str×Unit))) (c48:(Nd×Unit)->WW Unit) (c68:(Nd×Unit)->WW (Unit×OO)) (c125:(Int×Unit)->WW Unit) (c127:(Int×(Int×(Int×Unit)))->WW Unit) (x:(WkT×Unit)) (a:(Nd×Unit)):(Option (Option ((WkT×Unit)×Unit))) :=  let u3:=Nd.tok (List.getD (Nd.kids a.1) 1 qh); let u2:=List.getD (Nd.kids a.1) 2 qh; let u1:=List.getD (Nd.kids a.1) 0 qh; let u0:=List.length (Nd.kids a.1); cond (ieq (Nd.kind a.1) 40) (cond (inB 0 u0) (cE x.1.2.1 (Option.bind (c125 ((Nd.tok u1),()) (wS x.1)) fun y0=>cE y0.2.2.1 (some (some (((wT y0.2),()),()))))) (none)) (cond (ieq (Nd.kind a.1) 46) (cond (inB 2 u0) (cE x.1.2.1 (Option.bind (c46 ((Nd.tok u2),()) x.1.1) fun y0=>cE x.1.2.1 (Option.bind (c127 ((Nd.tok u2),(3,((mpG x.1.2.2.2.1 y0.1),()))) (wS x.1)) fun y1=>cond (inB 0 u0) (cE y1.2.2.1 (Option.bind (c68 ((ndE u1),()) y1.2) fun y2=>cE y2.2.2.1 (some (some (((wT y2.2),()),()))))) (none)))) (none)) (cond (ieq (Nd.kind a.1) 29) (cond (inB 0 u0) (cond (inB 0 u0) (cE x.1.2.1 (Option.bind (c46 ((Nd.tok u1),()) x.1.1) fun y0=>cE x.1.2.1 (Option.bind (c127 ((Nd.tok u1),(4,((mpG x.1.2.2.2.2.1 y0.1),()))) (wS x.1)) fun y1=>cond (inB 2 u0) (cE y1.2.2.1 (Option.bind (c68 ((ndE u2),()) y1.2) fun y2=>cE y2.2.2.1 (some (some (((wT y2.2),()),()))))) (none)))) (none)) (none)) (cond (ieq (Nd.kind a.1) 28) (cond (inB 1 u0) (cond (inB 1 u0) (cE x.1.2.1 (Option.bind (c46 (u3,()) x.1.1) fun y0=>cE x.1.2.1 (Option.bind (c127 (u3,(4,((mpG x.1.2.2.2.2.1 y0.1),()))) (wS x.1)) fun y1=>cE y1.2.2.1 (some (some (((wT y1.2),()),())))))) (none)) (none)) (cE x.1.2.1 (Option.bind (c48 ((ndE a.1),()) (wS x.1)) fun y0=>cE y0.2.2.1 (some (some (((wT y0.2),()),()))))))))
theorem eq105:@run105 = @sh105:=by kernel_rfl
theorem con127 (fu:Nat) :CQ 127 (cW ([.int .i64,.int .i64,.int .i64]:LK) k0 (mW (sh127 fu))):=
 zCg (rpk zE zE zE zE zPw rfl (fun x a=>by rw [<- eq127]; rfl))
theorem con67 (fu:Nat) (c15:zh as15->Option (zh rs15)) (h15:ConOk CC Tryz.prog 15 ⟨as15,rs15,c15⟩):CQ 67 (cW kI kB (mW (sh67 fu c15))):=
 zCg (rpk zE (zF (OrcOk.of ⟨zI1,h15⟩ rfl) zE) zE zE fdok67 rfl (fun x a=>by rw [<- eq67]; rfl))
theorem con45 (fu:Nat) (c45:zA kN->WW (zA kI)) (h45:CQ 45 (cW kN kI c45)) (c67:zA kI->WW (zA kB)) (h67:CQ 67 (cW kI kB c67)):CQ 45 (cW kN kI (mW (sh45 fu c45 c67))):=
 zCg (rpk zE zE zE (zF ⟨zJI,h45⟩ (zF ⟨zEt,h67⟩ zE)) fdok45 rfl (fun x a=>by rw [<- eq45]; rfl))
theorem con48 (fu:Nat) (c68:zA kN->WW (zA k0×Option (Option LT1))) (h68:CQ 68 (cWj kN k0 c68)):CQ 48 (cW kN k0 (mW (sh48 fu c68))):=
 zCg (rpk zE zE zE (zF ⟨zCQ,h68⟩ zE) fdok48 rfl (fun x a=>by rw [<- eq48]; rfl))
theorem con68 (fu:Nat) (c47:zA k0->WW (zA k0)) (h47:CQ 47 (cW k0 k0 c47)) (c48:zA kN->WW (zA k0)) (h48:CQ 48 (cW kN k0 c48)) (c68:zA kN->WW (zA k0×Option (Option LT1))) (h68:CQ 68 (cWj kN k0 c68)) (c98:zA kN->WW (zA k0)) (h98:CQ 98 (cW kN k0 c98)) (c99:zA kN->WW (zA k0)) (h99:CQ 99 (cW kN k0 c99)) (c100:zA kN->WW (zA k0)) (h100:CQ 100 (cW kN k0 c100)) (c101:zA kN->WW (zA k0)) (h101:CQ 101 (cW kN k0 c101)) (c102:zA kI->WW (zA k0)) (h102:CQ 102 (cW kI k0 c102)) (c103:zA kN->WW (zA kI×Option (Option LT1))) (h103:CQ 103 (cWj kN kI c103)) (c104:zA k0->WW (zA ([.lv1]:LK))) (h104:CQ 104 (cW k0 ([.lv1]:LK) c104)) (c105:zA kN->WW (zA k0)) (h105:CQ 105 (cW kN k0 c105)):CQ 68 (cWt kN k0 (mWt (sh68 fu c47 c48 c68 c98 c99 c100 c101 c102 c103 c104 c105))):=
 zMa (rpk zE zE zE (zF ⟨zNK,h47⟩ (zF ⟨zEG,h48⟩ (zF ⟨zCQ,h68⟩ (zF ⟨code98,h98⟩ (zF ⟨code99,h99⟩ (zF ⟨zQO,h100⟩ (zF ⟨zPy,h101⟩ (zF ⟨zLL,h102⟩ (zF ⟨zEx,h103⟩ (zF ⟨zKt,h104⟩ (zF ⟨zRL,h105⟩ zE))))))))))) fdok68 rfl (fun x a=>by rw [<- eq68]; rfl))
theorem con99 (fu:Nat) (c67:zA kI->WW (zA kB)) (h67:CQ 67 (cW kI kB c67)) (c68:zA kN->WW (zA k0×Option (Option LT1))) (h68:CQ 68 (cWj kN k0 c68)) (c125:zA kI->WW (zA k0)) (h125:CQ 125 (cW kI k0 c125)):CQ 99 (cW kN k0 (mW (sh99 fu c67 c68 c125))):=
 zCg (rpk zE zE zE (zF ⟨zEt,h67⟩ (zF ⟨zCQ,h68⟩ (zF ⟨zK9,h125⟩ zE))) fdok99 rfl (fun x a=>by rw [<- eq99]; rfl))
theorem con100 (fu:Nat) (c48:zA kN->WW (zA k0)) (h48:CQ 48 (cW kN k0 c48)) (c67:zA kI->WW (zA kB)) (h67:CQ 67 (cW kI kB c67)) (c126:zA ([.int .i64,.bool]:LK)->WW (zA k0)) (h126:CQ 126 (cW ([.int .i64,.bool]:LK) k0 c126)):CQ 100 (cW kN k0 (mW (sh100 fu c48 c67 c126))):=
 zCg (rpk zE zE zE (zF ⟨zEG,h48⟩ (zF ⟨zEt,h67⟩ (zF ⟨zP8,h126⟩ zE))) zQJ rfl (fun x a=>by rw [<- eq100]; rfl))
theorem con101 (fu:Nat) (c46:zA kI->List TokT->Option (zA kS)) (h46:CROk CC Tryz.prog 46 (cRW kI kS c46)) (c68:zA kN->WW (zA k0×Option (Option LT1))) (h68:CQ 68 (cWj kN k0 c68)) (c103:zA kN->WW (zA kI×Option (Option LT1))) (h103:CQ 103 (cWj kN kI c103)) (c127:zA ([.int .i64,.int .i64,.int .i64]:LK)->WW (zA k0)) (h127:CQ 127 (cW ([.int .i64,.int .i64,.int .i64]:LK) k0 c127)):CQ 101 (cW kN k0 (mW (sh101 fu c46 c68 c103 c127))):=
 zCg (rpk zE zE (zF ⟨ku,h46⟩ zE) (zF ⟨zCQ,h68⟩ (zF ⟨zEx,h103⟩ (zF ⟨zAP,h127⟩ zE))) zQu rfl (fun x a=>by rw [<- eq101]; rfl))
theorem con103 (fu:Nat) (c67:zA kI->WW (zA kB)) (h67:CQ 67 (cW kI kB c67)) (c68:zA kN->WW (zA k0×Option (Option LT1))) (h68:CQ 68 (cWt kN k0 c68)) (c103:zA kN->WW (zA kI×Option (Option LT1))) (h103:CQ 103 (cWj kN kI c103)):CQ 103 (cWt kN kI (mWt (sh103 fu c67 c68 c103))):=
 zMa (rpk zE zE zE (zF ⟨zEt,h67⟩ (zF ⟨zCQ,h68⟩ (zF ⟨zEx,h103⟩ zE))) zPr rfl (fun x a=>by rw [<- eq103]; rfl))
theorem con105 (fu:Nat) (c46:zA kI->List TokT->Option (zA kS)) (h46:CROk CC Tryz.prog 46 (cRW kI kS c46)) (c48:zA kN->WW (zA k0)) (h48:CQ 48 (cW kN k0 c48)) (c68:zA kN->WW (zA k0×Option (Option LT1))) (h68:CQ 68 (cWj kN k0 c68)) (c125:zA kI->WW (zA k0)) (h125:CQ 125 (cW kI k0 c125)) (c127:zA ([.int .i64,.int .i64,.int .i64]:LK)->WW (zA k0)) (h127:CQ 127 (cW ([.int .i64,.int .i64,.int .i64]:LK) k0 c127)):CQ 105 (cW kN k0 (mW (sh105 fu c46 c48 c68 c125 c127))):=
 zCg (rpk zE zE (zF ⟨ku,h46⟩ zE) (zF ⟨zEG,h48⟩ (zF ⟨zCQ,h68⟩ (zF ⟨zK9,h125⟩ (zF ⟨zAP,h127⟩ zE)))) zQR rfl (fun x a=>by rw [<- eq105]; rfl))
end
section
open Go.Al Go.Den
def sh33 (fu:Nat) (nf:Nat->Bool) (x0:(List Str)) (x1:Str):(Option (Bool×Unit)):=iter fu (fun (rec1:((Int×Unit)×Unit)->Option (Bool×Unit)) (s1:((Int×Unit)×Unit))=>cond (ilt s1.1.1 (lenI x0)) (cond (inB s1.1.1 (List.length x0)) (cond (seq x1 (List.getD x0 (Int.toNat s1.1.1) [])) (some ((ile 0 s1.1.1),())) (rec1 (((iadd .i64 s1.1.1 1),()),()))) (none)) (some ((ile 0 (Neg.neg 1)),()))) ((0,()),())
theorem eq33:@run33 = @sh33:=by kernel_rfl
def sh15 (fu:Nat) (c33:((List Str)×(Str×Unit))->(Option (Bool×Unit))) (nf:Nat->Bool) (x0:Str):(Option (Bool×Unit)):=Option.bind (c33 ([[97,117,116,111],[98,114,101,97,107],[99,97,115,101],[99,104,97,114],[99,111,110,115,116],[99,111,110,116,105,110,117,101],[100,101,102,97,117,108,116],[100,111],[100,111,117,98,108,101],[101,108,115,101],[101,110,117,109],[101,120,116,101,114,110],[102,108,111,97,116],[102,111,114],[103,111,116,111],[105,102],[105,110,108,105,110,101],[105,110,116],[108,111,110,103],[114,101,103,105,115,116,101,114],[114,101,116,117,114,110],[115,104,111,114,116],[115,105,103,110,101,100],[115,105,122,101,111,102],[115,116,97,116,105,99],[115,116,114,117,99,116],[115,119,105,116,99,104],[116,121,112,101,100,101,102],[117,110,105,111,110],[117,110,115,105,103,110,101,100],[118,111,105,100],[118,111,108,97,116,105,108,101],[119,104,105,108,101]],(x0,()))) fun y0=>some (y0.1,())
theorem eq15:@run15 = @sh15:=by kernel_rfl
def sh41 (fu:Nat) (nf:Nat->Bool) (x0:Int) (x1:(List Nd)):(Option (Nd×Unit)):=some ((Nd.mk x0 0 x1),())
theorem eq41:@run41 = @sh41:=by kernel_rfl
theorem con33 (fu:Nat) :ConOk CC Tryz.prog 33 ⟨as33,rs33,fun x=>sh33 fu (fun _=>false) x.1 x.2.1⟩:=
 rfk (lo:=[]) (lr:=[]) (zF zMX zE) zE zE zE fdok33 rfl (xd rfl) (fun nf x=>by show run33 fu nf x.1 x.2.1=_; rw [eq33]; rfl)
theorem con15 (fu:Nat) (c33:zh as33->Option (zh rs33)) (h33:ConOk CC Tryz.prog 33 ⟨as33,rs33,c33⟩):ConOk CC Tryz.prog 15 ⟨as15,rs15,fun x=>sh15 fu c33 (fun _=>false) x.1⟩:=
 rfk zE (zF (OrcOk.of ⟨zGY,h33⟩ rfl) zE) zE zE fdok15 rfl (xd rfl) (fun nf x=>by show run15 fu c33 nf x.1=_; rw [eq15]; rfl)
theorem con41 (fu:Nat) :ConOk CC Tryz.prog 41 ⟨as41,rs41,fun x=>sh41 fu (fun _=>false) x.1 x.2.1⟩:=
 rfk zE zE zE zE fdok41 rfl (xd rfl) (fun nf x=>by show run41 fu nf x.1 x.2.1=_; rw [eq41]; rfl)
end
end Go.Proofs.YtnamdpbcpnnhaaaGreatDoor
namespace Go.Al
section
open Go.RowKit
def mps:List Nat->List MC->List (Nat×OV×List Nat)
 | j::bs,c::xs=>(j,.mp c,[j])::mps bs xs
 | _,_=>[]
def Mps (ob:List (Nat×OV×List Nat)):List Nat->List MC->Prop
 | [],xs=>xs=[]
 | j::bs,xs=>∃ c cs,xs=c::cs/\zG ob j=some (.mp c,[j])/\Mps ob bs cs
theorem zC2 {g:Gh} {w:World}:∀ {bs:List Nat} {xs:List MC} {j:Nat} {o:OV} {fp:List Nat},MMems g w bs xs->zG (mps bs xs) j=some (o,fp)->∃ c,o = .mp c/\fp=[j]/\j ∈ bs/\MMem g w j c
 | [],_,_,_,_,_,h=>by simp [mps,zG] at h
 | b::bs,_,j,o,fp,⟨c,cs,rfl,h2,h3⟩,h=>by
  simp only [mps,zJ] at h;by_cases e:b=j
  . subst e;rw [if_pos rfl] at h;injection h with h
    injection h with h4 h5
    exact ⟨c,h4.symm,h5.symm,by simp,h2⟩
  . rw [if_neg e] at h;obtain ⟨c',k1,k2,k3,k4⟩:=zC2 h3 h;exact ⟨c',k1,k2,by simp [k3],k4⟩
theorem MMems.length {g:Gh} {w:World}:∀ {bs:List Nat} {xs:List MC},MMems g w bs xs->bs.length=xs.length
 | [],_,h=>by rw [show _=[] from h]; rfl
 | b::bs,_,⟨c,cs,rfl,_,h3⟩=>by simp [h3.length]
theorem zIe {ob ob':List (Nat×OV×List Nat)}:∀ {bs:List Nat} {xs:List MC},Mps ob bs xs->(∀ j ∈ bs,zG ob' j=zG ob j)->Mps ob' bs xs
 | [],_,h,_=>h
 | b::bs,_,⟨c,cs,h1,h2,h3⟩,hh=>⟨c,cs,h1,(hh b (by simp)).trans h2,zIe h3 fun j hj=>hh j (by simp [hj])⟩
theorem zDK:∀ {bs:List Nat} {xs:List MC} (r:List (Nat×OV×List Nat)),bs.Nodup->bs.length=xs.length->Mps (mps bs xs++r) bs xs
 | [],[],_,_,_=>rfl
 | [],_::_,_,_,h=>by simp at h
 | b::bs,[],_,_,h=>by simp at h
 | b::bs,c::cs,r,hn,h=>by
  obtain ⟨h1,h2⟩:=List.nodup_cons.1 hn;refine ⟨c,cs,rfl,by simp [mps,zJ],zIe (zDK r h2 (by simpa using h)) fun j hj=>?_⟩;have:¬ b=j:=fun e=>h1 (by rw [e]; exact hj);simp [mps,zJ,this]
theorem Mps.length {ob:List (Nat×OV×List Nat)}:∀ {bs:List Nat} {xs:List MC},Mps ob bs xs->bs.length=xs.length
 | [],_,h=>by rw [show _=[] from h]; rfl
 | b::bs,_,⟨c,cs,rfl,_,h3⟩=>by simp [h3.length]
theorem Mps.mem {ob:List (Nat×OV×List Nat)}:∀ {bs:List Nat} {xs:List MC},Mps ob bs xs->∀ j ∈ bs,∃ c,zG ob j=some (.mp c,[j])
 | [],_,_,j,hj=>by cases hj
 | b::bs,_,⟨c,cs,_,h2,h3⟩,j,hj=>by
  rcases List.mem_cons.1 hj with rfl | hj
  . exact ⟨c,h2⟩
  . exact h3.mem j hj
theorem Mps.mems {B:Nat} {g:Gh} {st:S} {w:World} (hi:Inv B g st w):∀ {bs:List Nat} {xs:List MC},Mps st.ob bs xs->MMems g w bs xs
 | [],_,h=>h
 | b::bs,_,⟨c,cs,h1,h2,h3⟩=>⟨c,cs,h1,by
  have:=(hi.ex.ob b _ _ h2).1;exact this.2,Mps.mems hi h3⟩
def mcs (bs:List Nat):List V:=bs.map fun j=>.at (.map (some j))
theorem zLJ {g:Gh} {w:World}:∀ bs:List Nat,RCs g w (mcs bs) (bs.map fun j=>Value.map (some j))
 | []=>by simp [mcs,RCs]
 | b::bs=>by
  simp only [mcs,List.map_cons,RCs];exact ⟨[.map (some b)],_,rfl,by simp [RC,one],zLJ bs⟩
theorem zNk {g:Gh} {w:World}:∀ {bs:List Nat} {us:List Value},RCs g w (mcs bs) us->us=bs.map fun j=>Value.map (some j)
 | [],us,h=>by simpa [mcs,RCs] using h
 | b::bs,us,h=>by
  simp only [mcs,List.map_cons,RCs] at h;obtain ⟨u1,u2,rfl,h1,h2⟩:=h;simp only [RC] at h1;rw [h1.1,zNk h2]; rfl
def jb (st:S) (b:Nat) (bs:List Nat) (xs:List MC) (cap:Nat):S:=⟨lay st.box b (mcs bs,cap),st.tg,st.nx,mps bs xs++st.ob.filter fun p=>!(p.1 == b)⟩
theorem zCR (st:S) (b:Nat) (bs:List Nat) (xs:List MC) (cap j:Nat):zG (jb st b bs xs cap).ob j=(zG (mps bs xs) j).or (if j=b then none else zG st.ob j):=by
 show zG (mps bs xs++st.ob.filter fun p=>(fun k=>!(k == b)) p.1) j=_;rw [jW,show zG (st.ob.filter fun p=>(fun k=>!(k == b)) p.1) j=_ from je (fun k=>!(k == b)) st.ob j];by_cases e:j=b <;> simp [e]
theorem Inv.unpack {B:Nat} {g:Gh} {st:S} {w:World} (hi:Inv B g st w) {b cap:Nat} {xs:List MC} {fp:List Nat} (hl:zG st.ob b=some (.sc xs cap,fp)) :
 ∃ bs,fp=b::bs/\(b::bs).Nodup/\bs.length=xs.length/\bs.length<=cap/\Inv B g (jb st b bs xs cap) w:=by
 obtain ⟨h1,h2,h3⟩:=hi.ex.ob b _ _ hl;obtain ⟨bs,arr,el,rfl,k1,k2,k3,k4,k5,k6⟩:=h1;obtain ⟨q1,q2,q3,q4,q5,q6⟩:=h3 b (by simp);have hlook:∀ j,look st.box j=none->j≠b->look (jb st b bs xs cap).box j=none:=fun j hj e=>by
  show look (lay st.box b _) j=none;rw [zN,if_neg (Ne.symm e)]; exact hj
 have hother:∀ b' o' fp',zG st.ob b' = some (o',fp')->b'≠b->∀ j ∈ fp',j ∉ b::bs:=fun b' o' fp' h4 h5 j hj hm=>h5 (hi.ex.obd b' o' fp' b _ _ j h4 hl hj hm);have hcase:∀ {b' o' fp'},zG (jb st b bs xs cap).ob b' = some (o',fp')->(∃ c,o' = .mp c/\fp' = [b']/\b' ∈ bs/\MMem g w b' c)\/(zG st.ob b' = some (o',fp')/\b'≠b):=fun {b' o' fp'} h=>by
  rw [zCR] at h;cases e:zG (mps bs xs) b' with
  | some p=>
   obtain ⟨o2,fp2⟩:=p;rw [e] at h;injection h with h
   obtain ⟨rfl,rfl⟩:=Prod.mk.inj h;exact .inl (zC2 k6 e)
  | none=>
   rw [e] at h;replace h:(if b' = b then none else zG st.ob b')=some (o',fp'):=h;by_cases e2:b' = b
   . rw [if_pos e2] at h; cases h
   . rw [if_neg e2] at h; exact .inr ⟨h,e2⟩
 refine ⟨bs,rfl,k1,k6.length,k4,hi.base,?_,hi.tag,?_,hi.dist,hi.nodup,hi.fresh,hi.names,?_,?_,?_,hi.ex.ft⟩
 . intro b' cs' k' h;replace h:look (lay st.box b (mcs bs,cap)) b' = some (cs',k'):=h;rw [zN] at h;by_cases e:b=b'
   . subst e;rw [if_pos rfl] at h;injection h with h
     obtain ⟨rfl,rfl⟩:=Prod.mk.inj h;refine ⟨q1,q3,by simpa [mcs] using k4,fun c hc=>?_,arr,el,_,k2,k3,zLJ bs,by simpa [mcs] using k5⟩;obtain ⟨x,_,rfl⟩:=List.mem_map.1 hc; rfl
   . rw [if_neg e] at h;exact hi.box b' cs' k' h
 . intro t ht b' cap' n sz hb;obtain ⟨p1,p2,p3,p4,p5,p6⟩:=hi.own t ht b' cap' n sz hb;exact ⟨p1,p2,p3,p4,hlook b' p5 (fun e=>by subst e; exact q5 t ht _ hb),p6⟩
 . intro b' hb';obtain ⟨p1,p2,p3⟩:=hi.ex.frz b' hb';exact ⟨p1,hlook b' p2 (fun e=>by subst e; rw [q6] at hb'; cases hb'),p3⟩
 . intro b' o' fp' h;rcases hcase h with ⟨c,rfl,rfl,hm,hc⟩ | ⟨h5,h6⟩
   . refine ⟨⟨rfl,hc⟩,by simp,fun j hj=>?_⟩;simp only [List.mem_singleton] at hj;subst hj;obtain ⟨r1,r2,r3,r4,r5,r6⟩:=h3 j (by simp [hm]);exact ⟨r1,r2,r3,hlook j r4 (fun e=>(List.nodup_cons.1 k1).1 (by rw [<- e]; exact hm)),r5,r6⟩
   . obtain ⟨p1,p2,p3⟩:=hi.ex.ob b' o' fp' h5;refine ⟨p1,p2,fun j hj=>?_⟩;obtain ⟨r1,r2,r3,r4,r5,r6⟩:=p3 j hj;exact ⟨r1,r2,r3,hlook j r4 (fun e=>hother b' o' fp' h5 h6 j hj (by simp [e])),r5,r6⟩
 . intro b1 o1 fp1 b2 o2 fp2 j e1 e2 m1 m2;rcases hcase e1 with ⟨c1,_,rfl,hm1,_⟩ | ⟨h5,h6⟩ <;> rcases hcase e2 with ⟨c2,_,rfl,hm2,_⟩ | ⟨h7,h8⟩
   . simp only [List.mem_singleton] at m1 m2; exact m1.symm.trans m2
   . simp only [List.mem_singleton] at m1; subst m1;exact absurd (by simp [hm1]) (hother b2 o2 fp2 h7 h8 j m2)
   . simp only [List.mem_singleton] at m2; subst m2;exact absurd (by simp [hm2]) (hother b1 o1 fp1 h5 h6 j m1)
   . exact hi.ex.obd b1 o1 fp1 b2 o2 fp2 j h5 h7 m1 m2
def zDd (st:S) (b:Nat) (bs:List Nat) (xs:List MC) (cap:Nat):S:=⟨wipe st.box b,st.tg,st.nx,(b,.sc xs cap,b::bs)::st.ob.filter fun p=>!(bs.contains p.1)⟩
theorem zAb (st:S) (b:Nat) (bs:List Nat) (xs:List MC) (cap j:Nat):zG (zDd st b bs xs cap).ob j=if b=j then some (.sc xs cap,b::bs) else if j ∈ bs then none else zG st.ob j:=by
 show zG ((b,.sc xs cap,b::bs)::st.ob.filter fun p=>(fun k=>!(bs.contains k)) p.1) j=_;rw [zJ,show zG (st.ob.filter fun p=>(fun k=>!(bs.contains k)) p.1) j=_ from je (fun k=>!(bs.contains k)) st.ob j];by_cases e:b=j
 . rw [if_pos e,if_pos e]
 . rw [if_neg e,if_neg e];by_cases e2:j ∈ bs <;> simp [e2]
theorem Inv.pack {B:Nat} {g:Gh} {st:S} {w:World} (hi:Inv B g st w) {b cap:Nat} {bs:List Nat} {xs:List MC} (hb:look st.box b=some (mcs bs,cap)) (hn:bs.Nodup) (hm:Mps st.ob bs xs):Inv B g (zDd st b bs xs cap) w:=by
 obtain ⟨p1,p2,p3,p4,arr,el,us,p5,p6,p7,p8⟩:=hi.box b _ _ hb;have hus:=zNk p7;have hne:∀ j ∈ bs,j≠b:=fun j hj e=>by
  obtain ⟨c,h⟩:=hm.mem j hj;have:=((hi.ex.ob j _ _ h).2.2 j (by simp)).2.2.2.1;rw [e,hb] at this; cases this
 have hlook:∀ j,look st.box j=none->look (zDd st b bs xs cap).box j=none:=fun j hj=>by
  show look (wipe st.box b) j=none;rw [yJ]; split
  . rfl
  . exact hj
 have hcase:∀ {b' o' fp'},zG (zDd st b bs xs cap).ob b' = some (o',fp')->(b' = b/\o' = .sc xs cap/\fp' = b::bs)\/(zG st.ob b' = some (o',fp')/\b'≠b/\b' ∉ bs):=fun {b' o' fp'} h=>by
  rw [zAb] at h;by_cases e:b=b'
  . subst e;rw [if_pos rfl] at h;injection h with h
    obtain ⟨h1,h2⟩:=Prod.mk.inj h;exact .inl ⟨rfl,h1.symm,h2.symm⟩
  . rw [if_neg e] at h;by_cases e2:b' ∈ bs
    . rw [if_pos e2] at h; cases h
    . rw [if_neg e2] at h; exact .inr ⟨h,Ne.symm e,e2⟩
 have hshare:∀ b' o' fp',zG st.ob b' = some (o',fp')->b' ∉ bs->∀ j ∈ b::bs,j ∉ fp':=fun b' o' fp' h1 h2 j hj hj'=>by
  rcases List.mem_cons.1 hj with rfl | hj
  . exact (hi.boxFr hb).2 b' o' fp' h1 hj'
  . obtain ⟨c,h⟩:=hm.mem j hj;have:=hi.ex.obd b' o' fp' j _ _ j h1 h hj' (by simp);subst this;exact h2 hj
 refine ⟨hi.base,?_,hi.tag,?_,hi.dist,hi.nodup,hi.fresh,hi.names,?_,?_,?_,hi.ex.ft⟩
 . intro b' cs' k' h;replace h:look (wipe st.box b) b' = some (cs',k'):=h;rw [yJ] at h;split at h
   . cases h
   . exact hi.box b' cs' k' h
 . intro t ht b' cap' n sz hb';obtain ⟨r1,r2,r3,r4,r5,r6⟩:=hi.own t ht b' cap' n sz hb';exact ⟨r1,r2,r3,r4,hlook b' r5,r6⟩
 . intro b' hb';obtain ⟨r1,r2,r3⟩:=hi.ex.frz b' hb';exact ⟨r1,hlook b' r2,r3⟩
 . intro b' o' fp' h;rcases hcase h with ⟨rfl,rfl,rfl⟩ | ⟨h1,h2,h3⟩
   . refine ⟨⟨bs,arr,el,rfl,List.nodup_cons.2 ⟨fun h=>hne b' h rfl,hn⟩,p5,p6,by simpa [mcs] using p3,by rw [<- hus,<- p8]; simp [mcs],Mps.mems hi hm⟩,by simp,fun j hj=>?_⟩;rcases List.mem_cons.1 hj with rfl | hj
     . refine ⟨p1,(Array.getElem?_eq_some_iff.1 p5).1,p2,by show look (wipe st.box j) j=none; rw [yJ,if_pos rfl],fun t ht d hd=>?_,(hi.boxFr hb).1⟩;obtain ⟨d1,d2,d3⟩:=d;have:=(hi.own t ht j d1 d2 d3 hd).2.2.2.2.1;rw [hb] at this; cases this
     . obtain ⟨c,h⟩:=hm.mem j hj;obtain ⟨r1,r2,r3,r4,r5,r6⟩:=(hi.ex.ob j _ _ h).2.2 j (by simp);exact ⟨r1,r2,r3,hlook j r4,r5,r6⟩
   . obtain ⟨q1,q2,q3⟩:=hi.ex.ob b' o' fp' h1;refine ⟨q1,q2,fun j hj=>?_⟩;obtain ⟨r1,r2,r3,r4,r5,r6⟩:=q3 j hj;exact ⟨r1,r2,r3,hlook j r4,r5,r6⟩
 . intro b1 o1 fp1 b2 o2 fp2 j e1 e2 m1 m2;rcases hcase e1 with ⟨rfl,_,rfl⟩ | ⟨h5,h6,h6'⟩ <;> rcases hcase e2 with ⟨rfl,_,rfl⟩ | ⟨h7,h8,h8'⟩
   . rfl
   . exact absurd m2 (hshare b2 o2 fp2 h7 h8' j m1)
   . exact absurd m1 (hshare b1 o1 fp1 h5 h6' j m2)
   . exact hi.ex.obd b1 o1 fp1 b2 o2 fp2 j h5 h7 m1 m2
theorem zC3 {P:Program} {f:FuncId} {az:List V} {Q:Outc->S->Prop} {s:S} {φ:Prop} (h1:∀ B g w,Inv B g s w->φ) (h:φ->FnC P f az s Q):FnC P f az s Q:=
 fun B g w vs hi=>h (h1 B g w hi) B g w vs hi
theorem zCF {P:Program} {f:FuncId} {az:List V} {Q:Outc->S->Prop} {s:S} (h:FnC P f az s fun oc s1=>∃ s2,(∀ B g w,Inv B g s1 w->Inv B g s2 w)/\Q oc s2):FnC P f az s Q:=by
 intro B g w vs hi hgl hv;refine (h B g w vs hi hgl hv).mono ?_;rintro e w' ⟨g',s1,h1,h2,h3⟩;cases e with
 | returned v=>
  obtain ⟨r,h4,s2,h5,h6⟩:=h3;exact ⟨g',s2,h1,h5 _ _ _ h2,r,h4,h6⟩
 | panicked c=>
  obtain ⟨s2,h5,h6⟩:=h3;exact ⟨g',s2,h1,h5 _ _ _ h2,h6⟩
 | outgrown=>exact h3.elim
theorem zE2 {P:Program} {f:FuncId} {az:List V} {Q:Outc->S->Prop} {s s':S} (hg:∀ B g w,Inv B g s w->Inv B g s' w) (h:FnC P f az s' Q):FnC P f az s Q:=
 fun B g w vs hi hgl hv=>h B g w vs (hg B g w hi) hgl hv
section
variable {P:Program} {L:Pol} {ds:List (Option Nat)} {KP:List PanicEntry->S->Prop} {os:List Oper} {K:Env->S->Prop} {e:Env} {st:S}
variable {d:Option Nat} {ty:TypeId} {pos:String} {af:Array Edge}
theorem zDx (x:Operand):AL P L ds KP (⟨d,.move x,ty,pos,af,none⟩::os) K e st=AL P L ds KP os K (e.putO d (e.ev x)) st:=propext Iff.rfl
theorem zLY (x:Operand):AL P L ds KP (⟨d,.assign x,ty,pos,af,none⟩::os) K e st=AL P L ds KP os K (e.putO d (e.ev x)) st:=propext Iff.rfl
theorem zHB (op:BinOp) (t:TypeId) (x y:Operand) (t2:TypeId):AL P L ds KP (⟨d,.binOp op t x y t2,ty,pos,af,none⟩::os) K e st=zAT P op t (zE0 y) (e.ev x) (e.ev y) fun v=>AL P L ds KP os K (e.putO d v) st:=propext Iff.rfl
theorem zH2 (t:TypeId) (x:Operand) (f:Nat):AL P L ds KP (⟨d,.fieldAddr t x f,ty,pos,af,none⟩::os) K e st=yy P t (e.ev x) f fun v=>AL P L ds KP os K (e.putO d v) st:=propext Iff.rfl
theorem zIA (t:TypeId) (x i:Operand):AL P L ds KP (⟨d,.indexAddr t x i,ty,pos,af,none⟩::os) K e st=xQ P t (e.ev x) (e.ev i) fun v=>AL P L ds KP os K (e.putO d v) st:=propext Iff.rfl
theorem zJN (x:Operand):AL P L ds KP (⟨d,.nilCheck x,ty,pos,af,none⟩::os) K e st=qE (e.ev x) fun v=>AL P L ds KP os K (e.putO d v) st:=propext Iff.rfl
theorem zBX (t:TypeId) (m k y:Operand):AL P L ds KP (⟨d,.mapUpdate t m k y,ty,pos,af,none⟩::os) K e st=qA P st t (e.ev m) (e.ev k) (e.ev y) fun st'=>AL P L ds KP os K (e.putO d .any) st':=propext Iff.rfl
theorem zFV (t:TypeId):AL P L ds KP (⟨d,.makeMap t none,ty,pos,af,none⟩::os) K e st=(true=true/\zFl st fun v st'=>AL P L ds KP os K (e.putO d v) st'):=propext Iff.rfl
theorem zM7 (t:TypeId) (ps:List (Nat×Operand)):AL P L ds KP (⟨d,.build t ps.toArray,ty,pos,af,none⟩::os) K e st=zAt P t (ps.map fun p=>(p.1,e.ev p.2)) fun v=>AL P L ds KP os K (e.putO d v) st:=propext Iff.rfl
theorem zDt {t:TypeId} {ps:List (Nat×V)} {cs cs':List V} (h1:zCn P t=true) (h2:xB P t=some cs) (h3:zAd (zA0 P t) cs ps=some cs') {K:V->Prop} (hK:K (.agg cs')):zAt P t ps K:=.inl ⟨h1,by rw [h2]; simp only [h3]; exact hK⟩
theorem jj (t:TypeId) (x i:Operand) (c:Bool):AL P L ds KP (⟨d,.lookup t x i c,ty,pos,af,none⟩::os) K e st=jx P st t (e.ev x) (e.ev i) c fun v=>AL P L ds KP os K (e.putO d v) st:=propext Iff.rfl
end
end
end Go.Al
namespace Go.Proofs.YtnamdpbcpnnhaaaGreatDoor
section
open Go.Al Go.Den Go.RowKit
attribute [local congr] ym xO xT xn yO yq yF yE yn xM yo xW yw yk yB yK yg xZ xU yS xL yj yU yR yr yu yV yl yh yY xm xY xV xK xP xN yi yX yT
theorem zBP {s:S} {l:List TokT} {i:Int} {xs:List MT} {u u' u'':Unit} {vx:List V} {r:List Res} (h:VKs CC s [parK] ((l,i,xs,u,u'),u'') vx r) :
 ∃ b0 b cap fp m,vx=[.at (.pointer (some ⟨b0,0,none⟩))]/\Al.look s.box b0=some ([.lst (zw (l.map (CC.encV TI.tok))) (l.map (CC.encV TI.tok)),.at (.int .i64 i),.at (.slice (some ⟨b,0,none⟩) xs.length cap),.at (.map m)],4) /\
  zG s.ob b=some (.sc (xs.map trMC) cap,fp)/\r=[.inr b0,.ob b]:=by
 simp only [VKs,VK] at h;obtain ⟨v,vs',r1,r2,rfl,rfl,⟨b0,vs,rs',rfl,h1,h2,rfl⟩,rfl,rfl⟩:=h;obtain ⟨v1,w1,q1,q2,rfl,rfl,⟨rfl,rfl⟩,v2,w2,q3,q4,rfl,rfl,⟨rfl,rfl⟩,v3,w3,q5,q6,rfl,rfl,⟨b,cap,fp,rfl,h3,rfl⟩,v4,w4,q7,q8,rfl,rfl,⟨⟨m,rfl⟩,rfl⟩,rfl,rfl⟩:=h2;exact ⟨b0,b,cap,fp,m,rfl,h1,h3,rfl⟩
theorem zBQ {s:S} {l:List TokT} {i:Int} {xs:List MT} {u u' u'':Unit} {b0 b cap n:Nat} {fp:List Nat} {m:Option Nat} (hn:n=xs.length) (h1:Al.look s.box b0=some ([.lst (zw (l.map (CC.encV TI.tok))) (l.map (CC.encV TI.tok)),.at (.int .i64 i),.at (.slice (some ⟨b,0,none⟩) n cap),.at (.map m)],4))
 (h2:zG s.ob b=some (.sc (xs.map trMC) cap,fp)):VKs CC s [parK] ((l,i,xs,u,u'),u'') [.at (.pointer (some ⟨b0,0,none⟩))] [.inr b0,.ob b]:=by
 subst hn;simp only [VKs,VK];exact ⟨_,_,_,[],rfl,rfl,⟨b0,_,[.ob b],rfl,h1,⟨_,_,[],[.ob b],rfl,rfl,⟨rfl,rfl⟩,_,_,[],[.ob b],rfl,rfl,⟨rfl,rfl⟩,_,_,[.ob b],[],rfl,rfl,⟨b,cap,fp,rfl,h2,rfl⟩,_,_,[],[],rfl,rfl,⟨⟨m,rfl⟩,rfl⟩,rfl,rfl⟩,rfl⟩,rfl,rfl⟩
abbrev pol59:Pol:=⟨fun _=>false,fun d=>d == 11,fun _=>false,fun _=>false,[],fun _=>[]⟩
def c59 (a:Option MT×Unit):MM Unit:=fun _ s=>match a.1 with
 | some m=>if s.2.length < 1000000 then some (some ((),s.1,s.2++[m])) else none
 | none=>none
set_option maxRecDepth 100000 in
theorem ok59:CPOk CC Tryz.prog syn 59 (cM [.mpo] [] c59):=by
 refine zEu fun l i xs a o ho st vx va r1 r2 h1 h2 hn=>?_;obtain ⟨a,ua⟩:=a;cases a with
 | none=>cases ho
 | some c=>
 simp only [c59] at ho;split at ho
 rotate_left
 . cases ho
 rename_i hlen;injection ho with ho
 subst ho;obtain ⟨b0,b,cap,fp,m,rfl,k1,k2,rfl⟩:=zBP h1;simp only [VKs,VK] at h2;obtain ⟨va,vs',q1,q2,rfl,rfl,⟨bm,fpm,rfl,k3,rfl⟩,rfl,rfl⟩:=h2;have hne:b≠bm:=by intro e; subst e; simp at hn
 have e1:=(yI st ([.inr b0,.ob b]++([.ob bm]++[])) b0).1 (by simp);have e2:=(yH st ([.inr b0,.ob b]++([.ob bm]++[])) b).1 (by simp);have e3:=(yH st ([.inr b0,.ob b]++([.ob bm]++[])) bm).1 (by simp);rw [k1] at e1; rw [k2] at e2; rw [k3] at e3;generalize subS st ([.inr b0,.ob b]++([.ob bm]++[]))=s0 at e1 e2 e3 ⊢;refine zC3 (φ:=∃ bs,fp=b::bs/\(b::bs).Nodup/\bs.length=xs.length/\bs.length<=cap/\fpm=[bm]/\bm ∉ bs/\b0≠b/\b0 ∉ bs/\b0≠bm) (fun B g w hi=>?_) ?_
 . obtain ⟨bs,p1,p2,p3,p4,_⟩:=hi.unpack e2;have p5:=(hi.ex.ob bm _ _ e3).1.1;subst p5;have p6:=hi.boxFr e1;subst p1;refine ⟨bs,rfl,p2,by simpa using p3,p4,rfl,fun hm=>hne (hi.ex.obd b _ _ bm _ _ bm e2 e3 (by simp [hm]) (by simp)),?_,?_,?_⟩
   . intro e; exact p6.2 b _ _ e2 (by simp [e])
   . intro e; exact p6.2 b _ _ e2 (by simp [e])
   . intro e; exact p6.2 bm _ _ e3 (by simp [e])
 rintro ⟨bs,rfl,hnd,hbl,hcap,rfl,hm1,hm2,hm3,hm4⟩;refine zE2 (s':=jb s0 b bs (xs.map trMC) cap) (fun B g w hi=>by
  obtain ⟨bs',p1,_,_,_,p5⟩:=hi.unpack e2;injection p1 with _ p1
  subst p1; exact p5) ?_
 have l1:Al.look (jb s0 b bs (xs.map trMC) cap).box b0=some ([.lst (zw (l.map (CC.encV TI.tok))) (l.map (CC.encV TI.tok)),.at (.int .i64 i),.at (.slice (some ⟨b,0,none⟩) xs.length cap),.at (.map m)],4):=by
  show Al.look (lay s0.box b _) b0=_;rw [zN,if_neg (Ne.symm hm2)]; exact e1
 have l2:Al.look (jb s0 b bs (xs.map trMC) cap).box b=some (mcs bs,cap):=by
  show Al.look (lay s0.box b _) b=_;rw [zN,if_pos rfl]
 have l3:Mps (jb s0 b bs (xs.map trMC) cap).ob bs (xs.map trMC):=zDK _ (List.nodup_cons.1 hnd).2 (by simpa using hbl);have l4:zG (jb s0 b bs (xs.map trMC) cap).ob bm=some (.mp (trMC c),[bm]):=by
  rw [zCR,if_neg (Ne.symm hne),e3];cases e:zG (mps bs (xs.map trMC)) bm with
  | none=>rfl
  | some p=>
   exfalso;have:∀ (bs:List Nat) (ys:List MC),bm ∉ bs->zG (mps bs ys) bm=none:=by
    intro bs
    induction bs with
    | nil=>intro ys _; rfl
    | cons b bs ih=>
     intro ys h;cases ys with
     | nil=>rfl
     | cons y ys=>
      simp only [List.mem_cons,not_or] at h;simp only [mps,zJ,if_neg (Ne.symm h.1)];exact ih ys h.2
   rw [this bs _ hm1] at e; cases e
 generalize jb s0 b bs (xs.map trMC) cap=s1 at l1 l2 l3 l4 ⊢;refine zCF ?_;refine yz Tryz.func59 rfl Tryz.ntmps59 Tryz.results59 (by show 2<=14; decide) fun B=>?_;have hb0:b0≠b:=hm2;simp only [List.cons_append,List.nil_append,xg,Nat.reduceAdd]
 (repeat (first | (refine zg ?_) | (refine zW ?_; simp -failIfUnchanged only [zB,zC]) | (refine zf ?_; simp -failIfUnchanged only [zV,zS,zd,zU]) | (refine zY ?_; simp -failIfUnchanged only [zR,zM,zB,zC,reduceIte]) | (refine zT ?_) | ((first | (refine ze pol59 ks59 _ rfl rfl ?_) | (refine za pol59 mixed ks59 _ rfl rfl (by kernel_rfl) (by kernel_rfl) ?_)); simp only [↓zk,↓zt,↓zl,↓yD,↓qV,↓zBZ,↓z6,↓zEO,zH,xp,zI,zK,zP,zX,zv,zx,zq,xy,zj,zp,zD2,zBk,zA9,zFw,zG8,jG,zEf,zDV,zLp,zBY,Option.map_some,implies_true,Nat.one_mul,Go.Al.untag_at,List.map_cons,List.map_nil,List.append_nil,and_self,beq_self_eq_true,zy,zz,zL,V.isOne,V.size,V.flat,List.all_cons,List.all_nil,List.length_cons,List.length_nil,List.drop_zero,List.drop_succ_cons,List.take_succ_cons,List.take_zero,List.getD_cons_zero,List.getD_cons_succ,Bool.true_and,Bool.and_self,Option.isSome_some,if_true,if_false,true_and,Nat.reduceAdd,Nat.reduceEqDiff,Nat.reduceLeDiff,reduceCtorEq,Bool.false_eq_true,Nat.zero_add,Nat.lt_add_one,zN,yJ,zJo,zGb,zo,Nat.reduceBEq,ql,qC,zQ0,zero63,zC4,zEn,zBu,zGe,zDI,ks59,l1,l2])))
 have hmx:maxLen=9223372036854775807:=rfl;refine ⟨⟨by omega,by omega⟩,by omega,by omega,by simp only [mcs,List.length_map]; omega,fun b' cap' hb' hcap'=>?_⟩;have m1:¬ b' = b0:=fun e=>by rw [e,if_neg (Ne.symm hm2),l1] at hb'; cases hb'
 have m2:¬ b0=b':=fun e=>m1 e.symm;have hb1:¬ b=b0:=Ne.symm hm2;simp only [xJ,spl,List.cons_append,List.nil_append,and_self,zL,V.isOne,V.flat,List.all_cons,List.all_nil,List.length_cons,List.length_nil,List.drop_zero,List.drop_succ_cons,List.take_succ_cons,List.take_zero,Bool.true_and,Bool.and_self,if_false,true_and,Nat.reduceAdd,Nat.reduceLeDiff,Nat.zero_add,zC4,zBu,m1,hb1];have htk:List.take (xs.length * 1) (mcs bs)++[V.at (Value.map (some bm))]=mcs (bs++[bm]):=by
  rw [List.take_of_length_le (by simp only [mcs,List.length_map]; omega)]; simp [mcs]
 rw [htk,Nat.mul_one];have hbn:(bs++[bm]).Nodup:=by
  refine List.nodup_append.2 ⟨(List.nodup_cons.1 hnd).2,by simp,fun x hx y hy e=>?_⟩;simp only [List.mem_singleton] at hy;subst e; subst hy; exact hm1 hx
 have hMps:Mps s1.ob (bs++[bm]) (xs.map trMC++[trMC c]):=by
  have:∀ (bs:List Nat) (ys:List MC),Mps s1.ob bs ys->Mps s1.ob (bs++[bm]) (ys++[trMC c]):=by
   intro bs
   induction bs with
   | nil=>intro ys h; rw [show ys=[] from h]; exact ⟨_,[],rfl,l4,rfl⟩
   | cons b bs ih=>
    rintro _ ⟨d,ds,rfl,h1,h2⟩;exact ⟨d,_,rfl,h1,ih _ h2⟩
  exact this _ _ l3
 show ∃ s2,_;refine ⟨zDd _ b' (bs++[bm]) (xs.map trMC++[trMC c]) cap',fun B g w hi=>hi.pack ?_ hbn hMps,[],[.inr b0,.ob b'],[],zBQ (n:=xs.length+1) (fp:=b' :: (bs++[bm])) (b:=b') (cap:=cap') (m:=m) (by simp) ?_ ?_,⟨rfl,rfl⟩,by simp,rfl⟩
 . show Al.look (lay (lay (wipe s1.box b) b' _) b0 _) b' = _;rw [zN,if_neg m2,zN,if_pos rfl]
 . show Al.look (wipe (lay (lay (wipe s1.box b) b' _) b0 _) b') b0=_;rw [yJ,if_neg m1,zN,if_pos rfl]
 . rw [zAb,if_pos rfl]; simp
theorem zGk {j:Nat}:∀ (bs:List Nat) (ys:List MC),j ∉ bs->zG (mps bs ys) j=none
 | [],_,_=>rfl
 | _::_,[],_=>rfl
 | b::bs,y::ys,h=>by
  simp only [List.mem_cons,not_or] at h;simp only [mps,zJ,if_neg (Ne.symm h.1)];exact zGk bs ys h.2
theorem zLT {P:Program} {f:FuncId} {args:List V} {Q:Outc->S->Prop} {s0:S} {b0 b cap:Nat} {fp:List Nat} {cs:List V} {k:Nat} {xs:List MC} (e1:Al.look s0.box b0=some (cs,k)) (e2:zG s0.ob b=some (.sc xs cap,fp))
 (h:∀ bs s1,(b::bs).Nodup->bs.length=xs.length->bs.length<=cap->b0≠b->b0 ∉ bs->Al.look s1.box b0=some (cs,k)->Al.look s1.box b=some (mcs bs,cap)->Mps s1.ob bs xs->(∀ j,j≠b->j ∉ bs->zG s1.ob j=zG s0.ob j) ->
  FnC P f args s1 fun oc s=>∃ s2,(∀ B g w,Inv B g s w->Inv B g s2 w)/\Q oc s2):FnC P f args s0 Q:=by
 refine zC3 (φ:=∃ bs,fp=b::bs/\(b::bs).Nodup/\bs.length=xs.length/\bs.length<=cap/\b0≠b/\b0 ∉ bs) (fun B g w hi=>?_) ?_
 . obtain ⟨bs,p1,p2,p3,p4,_⟩:=hi.unpack e2;have p6:=hi.boxFr e1;subst p1;refine ⟨bs,rfl,p2,p3,p4,?_,?_⟩
   . intro e; exact p6.2 b _ _ e2 (by simp [e])
   . intro e; exact p6.2 b _ _ e2 (by simp [e])
 rintro ⟨bs,rfl,hnd,hbl,hcap,hm2,hm3⟩;refine zE2 (s':=jb s0 b bs xs cap) (fun B g w hi=>by
  obtain ⟨bs',p1,_,_,_,p5⟩:=hi.unpack e2;injection p1 with _ p1
  subst p1; exact p5) ?_
 refine zCF (h bs _ hnd hbl hcap hm2 hm3 ?_ ?_ ?_ ?_)
 . show Al.look (lay s0.box b _) b0=_;rw [zN,if_neg (Ne.symm hm2)]; exact e1
 . show Al.look (lay s0.box b _) b=_;rw [zN,if_pos rfl]
 . exact zDK _ (List.nodup_cons.1 hnd).2 hbl
 . intro j h1 h2;rw [zCR,if_neg h1,zGk bs _ h2]; rfl
theorem yL (P:Program) (op:BinOp) (t:TypeId) (c:Bool) (k k':IntKind) (a b:Int) (K:V->Prop):zAT P op t c (.at (.int k a)) (.at (.int k' b)) K=aBin P op t (.at (.int k a)) (.at (.int k' b)) K:=rfl
theorem zHO (P:Program) (op:BinOp) (t:TypeId) (c:Bool) (a b:ByteArray) (K:V->Prop):zAT P op t c (.at (.string a)) (.at (.string b)) K=aBin P op t (.at (.string a)) (.at (.string b)) K:=rfl
abbrev polN:Pol:=⟨fun _=>false,fun _=>false,fun _=>false,fun _=>false,[],fun _=>[]⟩
theorem Inv.trunc {B:Nat} {g:Gh} {s:S} {w:World} (hi:Al.Inv B g s w) (b m:Nat) {cs:List V} {k:Nat} (h0:Al.look s.box b=some (cs,k)):Al.Inv B g ⟨lay s.box b (cs.take m,k),s.tg,s.nx,s.ob⟩ w:=by
 obtain ⟨p1,p2,p3,p4,arr,el,us,p5,p6,p7,p8⟩:=hi.box b cs k h0;have hone:zL cs:=by unfold zL; rw [List.all_eq_true]; exact p4
 have hul:=yQ g w cs us p7;rw [xD hone] at hul;have:=hi.addBox (b:=b) (arr:=arr) (el:=el) (cs:=cs.take m) (us:=us.take m) p1 p2 p5 (by simp; omega)
  (fun c hc=>p4 c (List.mem_of_mem_take hc)) (xC hone p7 m).1 (by
   rw [<- p8,List.take_take,List.length_take]) (fun t ht d hd=>by
    obtain ⟨cap',n',sz'⟩:=d;obtain ⟨r1,r2,r3,r4,r5,r6⟩:=hi.own t ht b cap' n' sz' hd;rw [h0] at r5; cases r5) (hi.boxFr h0).1 (hi.boxFr h0).2
 rw [p6] at this;exact this
theorem Mps.take {ob:List (Nat×OV×List Nat)}:∀ {bs:List Nat} {xs:List MC} (n:Nat),Mps ob bs xs->Mps ob (bs.take n) (xs.take n)
 | [],_,n,h=>by rw [show _=[] from h]; simp [Mps]
 | b::bs,_,0,_=>by simp [Mps]
 | b::bs,_,n+1,⟨c,cs,rfl,h2,h3⟩=>⟨c,_,by simp,h2,Mps.take n h3⟩
theorem Mps.at {ob:List (Nat×OV×List Nat)}:∀ {bs:List Nat} {xs:List MC} {n j:Nat} {c:MC},Mps ob bs xs->bs[n]? = some j->xs[n]? = some c->zG ob j=some (.mp c,[j])
 | [],_,n,j,c,_,h,_=>by simp at h
 | b::bs,_,0,j,c,⟨d,ds,rfl,h2,h3⟩,h,h'=>by
  simp at h h'; subst h; subst h'; exact h2
 | b::bs,_,n+1,j,c,⟨d,ds,rfl,h2,h3⟩,h,h'=>Mps.at h3 (by simpa using h) (by simpa using h')
theorem zKo {xs:List MT} {n:Nat} {c:MT} (hn:n+1=xs.length) (h:xs.getLast? = some c):xs[n]? = some c:=by
 rw [List.getLast?_eq_getElem?] at h;rw [<- h]; congr 1; omega
def c61 (_:Unit):MM (Option MT×Unit):=fun _ s=>if s.2.length < 1000000 then match s.2.getLast? with
 | some m=>some (some ((some m,()),s.1,s.2.dropLast))
 | none=>none else none
set_option maxRecDepth 100000 in
theorem ok61:CPOk CC Tryz.prog syn 61 (cM [] [.mpo] c61):=by
 refine zEu fun l i xs a o ho st vx va r1 r2 h1 h2 hn=>?_;simp only [c61] at ho;split at ho
 rotate_left
 . cases ho
 rename_i hlen;cases hl:xs.getLast? with
 | none=>rw [hl] at ho; cases ho
 | some c=>
 rw [hl] at ho;injection ho with ho
 subst ho;obtain ⟨b0,b,cap,fp,m,rfl,k1,k2,rfl⟩:=zBP h1;simp only [VKs] at h2;obtain ⟨rfl,rfl⟩:=h2;have e1:=(yI st ([.inr b0,.ob b]++[]) b0).1 (by simp);have e2:=(yH st ([.inr b0,.ob b]++[]) b).1 (by simp);rw [k1] at e1; rw [k2] at e2;generalize subS st ([.inr b0,.ob b]++[])=s0 at e1 e2 ⊢;refine zLT e1 e2 fun bs s1 hnd hbl hcap hm2 hm3 l1 l2 l3 l4=>?_;rw [List.length_map] at hbl;have hxl:0 < xs.length:=by cases xs <;> simp at hl ⊢
 refine yz Tryz.func61 rfl Tryz.ntmps61 Tryz.results61 (by show 1<=31; decide) fun B=>?_;have hb1:¬ b=b0:=Ne.symm hm2;simp only [List.cons_append,List.nil_append,List.append_nil,xg,Nat.reduceAdd];obtain ⟨n,hn1⟩:∃ n,n+1=xs.length:=⟨xs.length - 1,by omega⟩;have hsub:IntKind.i64.wrap ((xs.length:Int) - 1)=(n:Int):=by rw [IntWalk.i64_in _ (by omega)]; omega
 have z1:0+((n:Int).toNat) * 1=n:=by omega
 obtain ⟨bl,hbl2⟩:∃ bl,bs[n]? = some bl:=⟨bs[n]'(by omega),by simp⟩;have hp1:zy Tryz.prog 63 (mcs bs) n:=⟨ql,by rw [qC]; simp only [mcs,List.length_map]; omega,fun _=>qC⟩;have hp2:(mcs bs).getD n .any = .at (.map (some bl)):=by
  rw [List.getD_eq_getElem?_getD];simp [mcs,hbl2]
 (repeat (first | (refine zg ?_) | (refine zW ?_; simp -failIfUnchanged only [zB,zC]) | (refine zf ?_; simp -failIfUnchanged only [zV,zS,zd,zU]) | (refine zY ?_; simp -failIfUnchanged only [zR,zM,zB,zC,reduceIte]) | (refine zT ?_) | ((first | (refine ze polN ks61 _ rfl rfl ?_) | (refine za polN mixed ks61 _ rfl rfl (by kernel_rfl) (by kernel_rfl) ?_)); simp only [↓zk,↓zt,↓yP,↓xe,↓zl,↓xG,↓yD,↓z6,↓zBw,zB,zH,zI,zK,zP,zm,yC,zb,zX,yW,zCB,zAi,zv,zx,zq,zj,zp,qS,jc,implies_true,and_self,zy,zz,List.length_cons,List.length_nil,List.drop_zero,List.drop_succ_cons,List.take_succ_cons,List.take_zero,List.getD_cons_zero,List.getD_cons_succ,Bool.and_true,Bool.true_and,Bool.and_self,Option.isSome_some,if_true,if_false,and_true,true_and,Nat.reduceAdd,Nat.reduceEqDiff,Nat.reduceLeDiff,reduceCtorEq,Bool.false_eq_true,Nat.zero_add,Nat.lt_add_one,ql,zAf,qC,zC4,zEn,zBu,zGe,zDI,ks61,l1,l2,yL,hsub,z1,hp2])))
 refine ⟨⟨by omega,by omega⟩,by simp only [mcs,List.length_map]; omega,?_⟩
 (repeat (first | (refine zg ?_) | (refine zW ?_; simp -failIfUnchanged only [zB,zC]) | (refine zf ?_; simp -failIfUnchanged only [zV,zS,zd,zU]) | (refine zY ?_; simp -failIfUnchanged only [zR,zM,zB,zC,reduceIte]) | (refine zT ?_) | ((first | (refine ze polN ks61 _ rfl rfl ?_) | (refine za polN mixed ks61 _ rfl rfl (by kernel_rfl) (by kernel_rfl) ?_)); simp only [↓zk,↓zt,↓xe,↓zl,↓yD,↓qV,↓z6,↓zOi,↓zBw,zB,zH,xp,zI,zK,zP,zm,yC,zb,zX,yW,zCB,zAi,zv,zx,zq,xy,xJ,zj,zp,spl,Option.map_some,implies_true,List.cons_append,List.nil_append,and_self,zy,zz,zL,V.isOne,V.flat,List.all_cons,List.all_nil,List.length_cons,List.length_nil,List.drop_zero,List.drop_succ_cons,List.take_succ_cons,List.take_zero,List.getD_cons_zero,List.getD_cons_succ,Bool.true_and,Bool.and_self,Option.isSome_some,if_true,if_false,true_and,Nat.reduceAdd,Nat.reduceEqDiff,Nat.reduceLeDiff,reduceCtorEq,Bool.false_eq_true,Nat.zero_add,Nat.lt_add_one,zH4,zIu,Option.map_none,ql,zC4,zEn,zBu,zGe,zDI,ks61,l1,yL,hsub,Int.toNat_natCast])))
 refine ⟨⟨by omega,by omega⟩,?_⟩
 (repeat (first | (refine zg ?_) | (refine zW ?_; simp -failIfUnchanged only [zB,zC]) | (refine zf ?_; simp -failIfUnchanged only [zV,zS,zd,zU]) | (refine zY ?_; simp -failIfUnchanged only [zR,zM,zB,zC,reduceIte]) | (refine zT ?_) | ((first | (refine ze polN ks61 _ rfl rfl ?_) | (refine za polN mixed ks61 _ rfl rfl (by kernel_rfl) (by kernel_rfl) ?_)); simp only [↓zk,↓zt,↓yP,zB,zH,zI,zK,zP,zb,zX,if_true,if_false,Nat.reduceEqDiff,ks61])))
 refine ⟨rfl,?_⟩;have hbl1:bl ∉ bs.take n:=fun hm=>by
  have h1:=(List.nodup_cons.1 hnd).2;obtain ⟨j,hj,e⟩:=List.getElem_of_mem hm;have hjn:j < n:=by rw [List.length_take] at hj; omega
  rw [List.getElem_take] at e;have h2:bs[j]? = some bl:=by rw [<- e]; simp
  have h3:=(List.getElem?_inj (i:=j) (j:=n) (by omega) h1).1 (h2.trans hbl2.symm);omega
 have hc:=Mps.at l3 hbl2 (c:=trMC c) (by rw [List.getElem?_map,zKo hn1 hl]; rfl);have hcb:b≠bl:=fun e=>(List.nodup_cons.1 hnd).1 (by rw [e]; exact List.mem_of_getElem? hbl2);have htk:(mcs bs).take n=mcs (bs.take n):=by simp [mcs]
 have hT:∀ (cs:List V×Nat) {B:Nat} {g:Gh} {w:World},Al.Inv B g ⟨lay s1.box b0 cs,s1.tg,s1.nx,s1.ob⟩ w->Al.Inv B g ⟨lay (lay s1.box b0 cs) b (mcs (bs.take n),cap),s1.tg,s1.nx,s1.ob⟩ w:=fun cs B g w hi=>by
  have:=Inv.trunc hi b n (cs:=mcs bs) (k:=cap) (by show Al.look (lay s1.box b0 _) b=_; rw [zN,if_neg hm2]; exact l2);rw [htk] at this; exact this
 refine ⟨zDd ⟨lay (lay s1.box b0 _) b (mcs (bs.take n),cap),s1.tg,s1.nx,s1.ob⟩ b (bs.take n) ((xs.map trMC).take n) cap,fun B g w hi=>Inv.pack (hT _ hi) ?_ ((List.nodup_cons.1 hnd).2.sublist (List.take_sublist n bs)) (Mps.take n l3),[_],[.inr b0,.ob b],[.ob bl],zBQ (n:=n) (fp:=b::bs.take n) (b:=b) (cap:=cap) (m:=m) (by simp; omega) ?_ ?_,⟨_,[],[.ob bl],[],rfl,rfl,⟨bl,[bl],rfl,?_,rfl⟩,rfl,rfl⟩,by simp [hcb],rfl⟩
 . show Al.look (lay (lay s1.box b0 _) b _) b=_;rw [zN,if_pos rfl]
 . show Al.look (wipe (lay (lay s1.box b0 _) b _) b) b0=_;rw [yJ,if_neg hb1,zN,if_neg hb1,zN,if_pos rfl]
 . rw [zAb,if_pos rfl];congr 2;congr 1;rw [List.dropLast_eq_take,List.map_take]; congr 1; omega
 . rw [zAb,if_neg hcb,if_neg hbl1]; exact hc
def qQ:MT->Str->Option Int
 | [],_=>none
 | (k,v)::r,s=>if s=k then some v else qQ r s
def qO:MT->Str->Int->MT
 | [],s,v=>[(s,v)]
 | (k,u)::r,s,v=>if s=k then (s,v)::r else (k,u)::qO r s v
theorem zMu (s k:Str):((⟨s.toArray⟩:ByteArray) == ⟨k.toArray⟩)=decide (s=k):=by
 by_cases h:s=k
 . subst h; rw [zK2]; simp
 . cases e:((⟨s.toArray⟩:ByteArray) == ⟨k.toArray⟩) with
   | false=>simp [h]
   | true=>
    have h1:=congrArg (fun x:ByteArray=>x.data.toList) (ba_eq e);exact absurd h1 h
theorem zKm:∀ (m:MT) (s:Str),mget (trMC m) ⟨s.toArray⟩=(qQ m s).map fun z=>.at (.int .i64 z)
 | [],_=>rfl
 | (k,v)::r,s=>by
  show (if ((⟨s.toArray⟩:ByteArray) == ⟨k.toArray⟩)=true then some _ else mget (trMC r) ⟨s.toArray⟩)=_;rw [zMu,zKm r s];by_cases h:s=k <;> simp [qQ,h]
theorem zG3:∀ (m:MT) (s:Str) (z:Int),mput (trMC m) ⟨s.toArray⟩ (.at (.int .i64 z))=trMC (qO m s z)
 | [],_,_=>rfl
 | (k,v)::r,s,z=>by
  show (if ((⟨s.toArray⟩:ByteArray) == ⟨k.toArray⟩)=true then _ else _::mput (trMC r) ⟨s.toArray⟩ (.at (.int .i64 z)))=_;rw [zMu,zG3 r s z];by_cases h:s=k <;> simp [qO,h,trMC]
theorem zEJ {P:Program} {L:Pol} {ds:List (Option Nat)} {KP:List PanicEntry->S->Prop} {K:Env->S->Prop} {e:Env} {st:S} {d:Option Nat} {ty:TypeId} {pos:String} {af:Array Edge} {os:List Oper} (t:TypeId) (m k y:Operand) :
 AL P L ds KP (⟨d,.mapUpdate t m k y,ty,pos,af,none⟩::os) K e st=qA P st t (e.ev m) (e.ev k) (e.ev y) fun st'=>AL P L ds KP os K (e.putO d .any) st':=rfl
theorem zHS (a b:ByteArray) (K:V->Prop):aStr .eql a b K=K (.at (.bool (a.toList == b.toList))):=rfl
theorem zFJ {P:Program} {L:Pol} {ds:List (Option Nat)} {KP:List PanicEntry->S->Prop} {K:Env->S->Prop} {e:Env} {st:S} {d:Option Nat} {ty:TypeId} {pos:String} {af:Array Edge} {os:List Oper} (t:TypeId) (x:Operand) :
 AL P L ds KP (⟨d,.makeInterface t x,ty,pos,af,none⟩::os) K e st=zD7 P t (e.ev x) fun v=>AL P L ds KP os K (e.putO d v) st:=rfl
theorem zNw {P:Program} {L:Pol} {ds:List (Option Nat)} {KP:List PanicEntry->S->Prop} {K:Env->S->Prop} {e:Env} {st:S} {d:Option Nat} {ty:TypeId} {pos:String} {af:Array Edge} {os:List Oper} (x:Operand) :
 AL P L ds KP (⟨d,.panic x,ty,pos,af,none⟩::os) K e st=zGm (e.ev x) fun c=>KP c st:=rfl
def c58 (a:Str×Bool×Unit):MM Unit:=fun _ s=>if a.1=[] then some (some ((),s)) else if s.2.length < 1000000 then match s.2.getLast? with
 | some m=>some (some ((),s.1,s.2.dropLast++[qO m a.1 (if a.2.1=true then 2 else 1)]))
 | none=>none else none
set_option maxRecDepth 100000 in
theorem ok58:CPOk CC Tryz.prog syn 58 (cM [.str,.bool] [] c58):=by
 refine zEu fun l i xs a o ho st vx va r1 r2 h1 h2 hn=>?_;obtain ⟨nm,td,ua⟩:=a;change Str at nm;change Bool at td;obtain ⟨b0,b,cap,fp,m,rfl,k1,k2,rfl⟩:=zBP h1;simp only [VKs,VK] at h2;obtain ⟨v1,w1,q1,q2,rfl,rfl,⟨rfl,rfl⟩,v2,w2,q3,q4,rfl,rfl,⟨rfl,rfl⟩,rfl,rfl⟩:=h2;have hcell:trT CC ⟨id,id,id,id⟩ (.str nm:T UU) = .at (.string ⟨nm.toArray⟩):=rfl;rw [hcell];simp only [List.append_nil] at hn ⊢;have e1:=(yI st [.inr b0,.ob b] b0).1 (by simp);have e2:=(yH st [.inr b0,.ob b] b).1 (by simp);rw [k1] at e1; rw [k2] at e2;generalize subS st [.inr b0,.ob b]=s0 at e1 e2 ⊢;simp only [c58] at ho;by_cases hnm:nm=[]
 . rw [if_pos hnm] at ho;injection ho with ho
   subst ho;refine yz Tryz.func58 rfl Tryz.ntmps58 Tryz.results58 (by show 3<=24; decide) fun B=>?_;simp only [List.cons_append,List.nil_append,List.append_nil,xg,Nat.reduceAdd];have hse:((⟨nm.toArray⟩:ByteArray).toList == (⟨#[]⟩:ByteArray).toList)=true:=by rw [hnm]; exact beq_self_eq_true _
   (repeat (first | (refine zg ?_) | (refine zW ?_; simp -failIfUnchanged only [zB,zC]) | (refine zf ?_; simp -failIfUnchanged only [zV,zS,zd,zU]) | (refine zY ?_; simp -failIfUnchanged only [zR,zM,zB,zC,reduceIte]) | (refine zT ?_) | ((first | (refine ze polN ks58 _ rfl rfl ?_) | (refine za polN mixed ks58 _ rfl rfl (by kernel_rfl) (by kernel_rfl) ?_)); simp only [↓zk,↓zt,↓xe,zB,zH,zI,zK,zP,zm,zCf,zb,zX,zJB,if_true,if_false,Nat.reduceEqDiff,reduceCtorEq,ks58,zHO,zHS,hse])))
   refine xX rfl (fun _=>?_) (fun h=>by cases h)
   (repeat (first | (refine zg ?_) | (refine zW ?_; simp -failIfUnchanged only [zB,zC]) | (refine zf ?_; simp -failIfUnchanged only [zV,zS,zd,zU]) | (refine zY ?_; simp -failIfUnchanged only [zR,zM,zB,zC,reduceIte]) | (refine zT ?_) | ((first | (refine ze polN ks58 _ rfl rfl ?_) | (refine za polN mixed ks58 _ rfl rfl (by kernel_rfl) (by kernel_rfl) ?_)); simp only [])))
   unfold ya;exact ⟨[],[.inr b0,.ob b],[],zBQ rfl e1 e2,⟨rfl,rfl⟩,by simp,rfl⟩
 . rw [if_neg hnm] at ho;split at ho
   rotate_left
   . cases ho
   rename_i hlen;cases hl:xs.getLast? with
   | none=>rw [hl] at ho; cases ho
   | some c=>
   rw [hl] at ho;injection ho with ho
   subst ho;have hse:((⟨nm.toArray⟩:ByteArray).toList == (⟨#[]⟩:ByteArray).toList)=false:=by
    have h1:(⟨nm.toArray⟩:ByteArray).toList=nm:=jA nm;have h2:(⟨#[]⟩:ByteArray).toList=[]:=jA [];rw [h1,h2];cases nm <;> first | exact absurd rfl hnm | rfl
   refine zLT e1 e2 fun bs s1 hnd hbl hcap hm2 hm3 l1 l2 l3 l4=>?_;rw [List.length_map] at hbl;have hxl:0 < xs.length:=by cases xs <;> simp at hl ⊢
   refine yz Tryz.func58 rfl Tryz.ntmps58 Tryz.results58 (by show 3<=24; decide) fun B=>?_;have hb1:¬ b=b0:=Ne.symm hm2;simp only [List.cons_append,List.nil_append,List.append_nil,xg,Nat.reduceAdd];obtain ⟨n,hn1⟩:∃ n,n+1=xs.length:=⟨xs.length - 1,by omega⟩;have hsub:IntKind.i64.wrap ((xs.length:Int) - 1)=(n:Int):=by rw [IntWalk.i64_in _ (by omega)]; omega
   have z1:0+((n:Int).toNat) * 1=n:=by omega
   obtain ⟨bl,hbl2⟩:∃ bl,bs[n]? = some bl:=⟨bs[n]'(by omega),by simp⟩;have hp1:zy Tryz.prog 63 (mcs bs) n:=⟨ql,by rw [qC]; simp only [mcs,List.length_map]; omega,fun _=>qC⟩;have hp2:(mcs bs).getD n .any = .at (.map (some bl)):=by
    rw [List.getD_eq_getElem?_getD];simp [mcs,hbl2]
   have hc:=Mps.at l3 hbl2 (c:=trMC c) (by rw [List.getElem?_map,zKo hn1 hl]; rfl);have hmap:∀ (z:Int) (s2:S),s2.box=s1.box->s2.tg=s1.tg->s2.nx=s1.nx->s2.ob=(bl,.mp (mput (trMC c) ⟨nm.toArray⟩ (.at (.int .i64 z))),[bl])::s1.ob->z=(if td=true then 2 else 1) ->
    ∃ s3,(∀ (B:Nat) (g:Gh) (w:World),Al.Inv B g s2 w->Al.Inv B g s3 w)/\qa CC syn [parK] [] [V.at (Value.pointer (some { block:=b0,off:=0 }))] (Option.map (fun y=>(((l,y.snd.fst,y.snd.snd,(),()),()),y.fst)) (some ((),i,xs.dropLast++[qO c nm (if td=true then 2 else 1)]))) (Outc.ret (finV [])) s3:=by
    intro z s2 q1 q2 q3 q4 q5;have hM:Mps s2.ob bs ((xs.dropLast++[qO c nm z]).map trMC):=by
     have key:∀ (bs:List Nat) (ys:List MC) (n:Nat),bs.Nodup->Mps s1.ob bs ys->bs[n]? = some bl->n+1=ys.length->Mps s2.ob bs (ys.dropLast++[trMC (qO c nm z)]):=by
      intro bs
      induction bs with
      | nil=>intro ys n _ _ h; simp at h
      | cons j bs ih=>
       rintro _ n hnd ⟨d,ds,rfl,h1,h2⟩ h3 h4;obtain ⟨h5,h6⟩:=List.nodup_cons.1 hnd;cases n with
       | zero=>
        have h7:ds=[]:=by cases ds <;> simp at h4 ⊢
        subst h7;simp at h3; subst h3;refine ⟨_,[],rfl,?_,?_⟩
        . rw [q4,zJ,if_pos rfl,zG3]
        . have:=h2.length;have h8:bs=[]:=by cases bs <;> simp at this ⊢
          subst h8; rfl
       | succ n=>
        have h7:ds≠[]:=by rintro rfl; simp at h4
        have h3':bs[n]? = some bl:=by simpa using h3
        have hne:¬ bl=j:=fun e=>h5 (by rw [<- e]; exact List.mem_of_getElem? h3');refine ⟨d,ds.dropLast++[trMC (qO c nm z)],by rw [List.dropLast_cons_of_ne_nil h7]; rfl,?_,ih ds n h6 h2 h3' (by simpa using h4)⟩;rw [q4,zJ,if_neg hne]; exact h1
     have:=key bs (xs.map trMC) n (List.nodup_cons.1 hnd).2 l3 hbl2 (by simpa using hn1);rw [List.map_append,List.map_dropLast];exact this
    subst q5;refine ⟨zDd s2 b bs ((xs.dropLast++[qO c nm (if td=true then 2 else 1)]).map trMC) cap,fun B g w hi=>Inv.pack hi (by rw [q1]; exact l2) (List.nodup_cons.1 hnd).2 hM,[],[.inr b0,.ob b],[],zBQ (n:=xs.length) (fp:=b::bs) (b:=b) (cap:=cap) (m:=m) (by simp; omega) ?_ ?_,⟨rfl,rfl⟩,by simp,rfl⟩
    . show Al.look (wipe s2.box b) b0=_;rw [yJ,if_neg hb1,q1]; exact l1
    . rw [zAb,if_pos rfl]
   (repeat (first | (refine zg ?_) | (refine zW ?_; simp -failIfUnchanged only [zB,zC]) | (refine zf ?_; simp -failIfUnchanged only [zV,zS,zd,zU]) | (refine zY ?_; simp -failIfUnchanged only [zR,zM,zB,zC,reduceIte]) | (refine zT ?_) | ((first | (refine ze polN ks58 _ rfl rfl ?_) | (refine za polN mixed ks58 _ rfl rfl (by kernel_rfl) (by kernel_rfl) ?_)); simp only [↓zk,↓zt,↓xe,zB,zH,zI,zK,zP,zm,zCf,zb,zX,zJB,if_true,if_false,Nat.reduceEqDiff,reduceCtorEq,ks58,zHO,zHS,hse])))
   refine xX rfl (fun h=>by cases h) (fun _=>?_)
   (repeat (first | (refine zg ?_) | (refine zW ?_; simp -failIfUnchanged only [zB,zC]) | (refine zf ?_; simp -failIfUnchanged only [zV,zS,zd,zU]) | (refine zY ?_; simp -failIfUnchanged only [zR,zM,zB,zC,reduceIte]) | (refine zT ?_) | ((first | (refine ze polN ks58 _ rfl rfl ?_) | (refine za polN mixed ks58 _ rfl rfl (by kernel_rfl) (by kernel_rfl) ?_)); simp only [↓zk,↓zt,↓yP,zB,zH,zI,zK,zP,zm,yC,zb,zX,if_true,if_false,Nat.reduceEqDiff,reduceCtorEq,ks58])))
   refine xX rfl (fun ht=>?_) (fun ht=>?_)
   . subst ht
     (repeat (first | (refine zg ?_) | (refine zW ?_; simp -failIfUnchanged only [zB,zC]) | (refine zf ?_; simp -failIfUnchanged only [zV,zS,zd,zU]) | (refine zY ?_; simp -failIfUnchanged only [zR,zM,zB,zC,reduceIte]) | (refine zT ?_) | ((first | (refine ze polN ks58 _ rfl rfl ?_) | (refine za polN mixed ks58 _ rfl rfl (by kernel_rfl) (by kernel_rfl) ?_)); simp only [↓zk,↓zt,↓yP,↓xe,↓zl,↓xG,↓yD,↓z6,↓zBw,zB,zH,zI,zK,zP,zm,yC,zb,zX,yW,zCB,zAi,zv,zx,zq,zj,zp,qS,jc,implies_true,List.map_cons,List.map_nil,and_self,zy,zz,List.length_cons,List.length_nil,List.drop_zero,List.drop_succ_cons,List.take_succ_cons,List.take_zero,List.getD_cons_zero,List.getD_cons_succ,Bool.and_true,Bool.true_and,Bool.and_self,Option.isSome_some,if_true,if_false,and_true,true_and,Nat.reduceAdd,Nat.reduceEqDiff,Nat.reduceLeDiff,reduceCtorEq,Bool.false_eq_true,Nat.zero_add,Nat.lt_add_one,ql,zAf,qC,zC4,zEn,zBu,zGe,zDI,ks58,l1,l2,yL,hsub,hp2,Int.toNat_natCast,zEJ,Nat.mul_one])))
     refine ⟨⟨by omega,by omega⟩,by simp only [mcs,List.length_map]; omega,?_⟩;unfold qA;rw [show mapT Tryz.prog 63=some 3 from by kernel_rfl];simp only;rw [hc];exact ⟨rfl,hmap 2 _ rfl rfl rfl rfl rfl⟩
   . subst ht
     (repeat (first | (refine zg ?_) | (refine zW ?_; simp -failIfUnchanged only [zB,zC]) | (refine zf ?_; simp -failIfUnchanged only [zV,zS,zd,zU]) | (refine zY ?_; simp -failIfUnchanged only [zR,zM,zB,zC,reduceIte]) | (refine zT ?_) | ((first | (refine ze polN ks58 _ rfl rfl ?_) | (refine za polN mixed ks58 _ rfl rfl (by kernel_rfl) (by kernel_rfl) ?_)); simp only [↓zk,↓zt,↓xe,↓zl,↓xG,↓yD,↓z6,↓zBw,zH,zI,zK,zP,zm,yC,zX,yW,zCB,zAi,zv,zx,zq,zj,zp,qS,jc,implies_true,List.map_cons,List.map_nil,and_self,zy,zz,List.length_cons,List.length_nil,List.drop_zero,List.drop_succ_cons,List.take_succ_cons,List.take_zero,List.getD_cons_zero,List.getD_cons_succ,Bool.and_true,Bool.true_and,Bool.and_self,Option.isSome_some,if_true,if_false,and_true,true_and,Nat.reduceAdd,Nat.reduceEqDiff,Nat.reduceLeDiff,reduceCtorEq,Bool.false_eq_true,Nat.zero_add,Nat.lt_add_one,ql,zAf,qC,zC4,zEn,zBu,zGe,zDI,ks58,l1,l2,yL,hsub,hp2,Int.toNat_natCast,zEJ,Nat.mul_one])))
     refine ⟨⟨by omega,by omega⟩,by simp only [mcs,List.length_map]; omega,?_⟩;unfold qA;rw [show mapT Tryz.prog 63=some 3 from by kernel_rfl];simp only;rw [hc];exact ⟨rfl,hmap 1 _ rfl rfl rfl rfl rfl⟩
theorem ok77:CPOk CC Tryz.prog syn 77 zBl:=by
 intro x a R pan K r hr;obtain ⟨b,ua⟩:=a;change Bool at b;replace hr:cond b (K () ()) pan=some r:=hr;have run:∀ (s:S),FnC Tryz.prog 77 [.at (.bool b)] s (qa CC syn ([]:LK) ([]:LK) [] (if b=true then some ((),()) else none)):=by
  intro s;refine yz Tryz.func77 rfl Tryz.ntmps77 Tryz.results77 (by show 1<=6; decide) fun B=>?_;simp only [List.cons_append,List.nil_append,List.append_nil,xg,Nat.reduceAdd]
  (repeat (first | (refine zg ?_) | (refine zW ?_; simp -failIfUnchanged only [zB,zC]) | (refine zf ?_; simp -failIfUnchanged only [zV,zS,zd,zU]) | (refine zY ?_; simp -failIfUnchanged only [zR,zM,zB,zC,reduceIte]) | (refine zT ?_) | ((first | (refine ze polN ks77 _ rfl rfl ?_) | (refine za polN mixed ks77 _ rfl rfl (by kernel_rfl) (by kernel_rfl) ?_)); simp only [↓zk,↓zt,↓zGI,zB,zH,zI,zK,zP,zb,zX,zCz,if_true,if_false,Nat.reduceEqDiff,reduceCtorEq,ks77])))
  refine xX rfl (fun h=>?_) (fun h=>?_)
  . have hb:b=false:=by cases b <;> simp at h ⊢
    subst hb
    (repeat (first | (refine zg ?_) | (refine zW ?_; simp -failIfUnchanged only [zB,zC]) | (refine zf ?_; simp -failIfUnchanged only [zV,zS,zd,zU]) | (refine zY ?_; simp -failIfUnchanged only [zR,zM,zB,zC,reduceIte]) | (refine zT ?_) | ((first | (refine ze polN ks77 _ rfl rfl ?_) | (refine za polN mixed ks77 _ rfl rfl (by kernel_rfl) (by kernel_rfl) ?_)); simp only [↓zFZ,zH,zI,zK,zP,zX,List.map_cons,List.map_nil,if_true,if_false,Nat.reduceEqDiff,Bool.false_eq_true,ks77,zFJ,zNw])))
    refine .inl ⟨by kernel_rfl,?_⟩;rw [show xB Tryz.prog 61=some [] by kernel_rfl];exact ⟨by kernel_rfl,rfl⟩
  . have hb:b=true:=by cases b <;> simp at h ⊢
    subst hb;refine zW ?_;exact ⟨[],[],[],⟨rfl,rfl⟩,⟨rfl,rfl⟩,by simp,rfl⟩
 cases b with
 | true=>
  refine ⟨some ((),()),hr,fun s vx va r1 r2 h1 h2 hn=>?_⟩;simp only [VKs,VK] at h1 h2;obtain ⟨rfl,rfl⟩:=h1;obtain ⟨v,w,q1,q2,rfl,rfl,⟨rfl,rfl⟩,rfl,rfl⟩:=h2;exact run _
 | false=>
  refine ⟨none,hr,fun s vx va r1 r2 h1 h2 hn=>?_⟩;simp only [VKs,VK] at h1 h2;obtain ⟨rfl,rfl⟩:=h1;obtain ⟨v,w,q1,q2,rfl,rfl,⟨rfl,rfl⟩,rfl,rfl⟩:=h2;exact run _
theorem ok41:ConOk CC Tryz.prog 41 ⟨as41,rs41,fun x=>some (Nd.mk x.1 0 x.2.1,())⟩:=con41 0
abbrev zEy:Pol:=⟨fun f=>f == 41,fun _=>false,fun _=>false,fun _=>false,[],fun _=>[]⟩
set_option maxRecDepth 100000 in
theorem ok38:CROk CC Tryz.prog 38 ky:=by
 intro x R K r hr;obtain ⟨⟨pts,u⟩,k,u'⟩:=x;change List Nd at pts;change Int at k;refine ⟨(Nd.mk k 0 pts,()),hr,fun s va q hv hn=>?_⟩;simp only [VKs,VK] at hv;obtain ⟨v,w,q1,q2,rfl,rfl,⟨b0,cs,q3,rfl,e1,⟨v2,w2,q4,q5,rfl,rfl,⟨n,rfl,hn1,hn2,rfl⟩,rfl,rfl⟩,rfl⟩,v3,w3,q6,q7,rfl,rfl,⟨rfl,rfl⟩,rfl,rfl⟩:=hv;refine ⟨[zc (Nd.mk k 0 pts)],fun s'=>⟨_,[],[],[],rfl,rfl,⟨rfl,rfl⟩,rfl,rfl⟩,?_⟩;have e2:=(yI s [.inr b0,.inl n] b0).1 (by simp);rw [e1] at e2;show FnC Tryz.prog 38 _ (subS s [.inr b0,.inl n]) fun oc s'=>oc = .ret (finV [zc (Nd.mk k 0 pts)])/\s' = subS s [.inr b0,.inl n];generalize subS s [.inr b0,.inl n]=s0 at e2 ⊢;have hp:qX Tryz.prog 41 [.at (.int .i64 k),.lst (zw (pts.map (CC.encV TI.node))) (pts.map (CC.encV TI.node))] (zc (Nd.mk k 0 pts)):=by
  have h:=ok41 (k,pts,()) (Nd.mk k 0 pts,()) rfl [.at (.int .i64 k),.lst (zw (pts.map (CC.encV TI.node))) (pts.map (CC.encV TI.node))] ⟨_,_,rfl,rfl,⟨_,_,rfl,rfl,rfl⟩⟩;have e:finV ((xz CC rs41 (fun _=>false) 0 (Nd.mk k 0 pts,())).map (trT CC ⟨id,id,id,id⟩))=zc (Nd.mk k 0 pts):=CCok.enc _ TI.node (Nd.mk k 0 pts);exact e ▸ h
 refine zCF ?_;refine yz Tryz.func38 rfl Tryz.ntmps38 Tryz.results38 (by show 2<=11; decide) fun B=>?_;simp only [List.cons_append,List.nil_append,List.append_nil,xg,Nat.reduceAdd]
 (repeat (first | (refine zg ?_) | (refine zW ?_; simp -failIfUnchanged only [zB,zC]) | (refine zf ?_; simp -failIfUnchanged only [zV,zS,zd,zU]) | (refine zY ?_; simp -failIfUnchanged only [zR,zM,zB,zC,reduceIte]) | (refine zT ?_) | ((first | (refine ze zEy ks38 _ rfl rfl ?_) | (refine za zEy mixed ks38 _ rfl rfl (by kernel_rfl) (by kernel_rfl) ?_)); simp only [↓zk,↓zI0,zB,zH,zI,zK,zb,zX,zHT,zFW,if_true,if_false,Nat.reduceEqDiff,reduceCtorEq,zGZ,ks38])))
 refine ⟨rfl,fun b hb=>?_⟩;have hbb:¬ b=b0:=fun e=>by rw [e,e2] at hb; cases hb
 have hbb':¬ b0=b:=fun e=>hbb e.symm
 (repeat (first | (refine zg ?_) | (refine zW ?_; simp -failIfUnchanged only [zB,zC]) | (refine zf ?_; simp -failIfUnchanged only [zV,zS,zd,zU]) | (refine zY ?_; simp -failIfUnchanged only [zR,zM,zB,zC,reduceIte]) | (refine zT ?_) | ((first | (refine ze zEy ks38 _ rfl rfl ?_) | (refine za zEy mixed ks38 _ rfl rfl (by kernel_rfl) (by kernel_rfl) ?_)); simp only [↓zt,↓zl,↓yD,↓z6,zB,yb,zH,zI,zK,zP,zb,zX,zv,zx,zq,zj,zp,implies_true,List.map_cons,List.map_nil,and_self,zy,zz,List.length_cons,List.length_nil,List.drop_zero,List.take_succ_cons,List.take_nil,List.getD_cons_zero,Bool.true_and,Bool.and_self,if_true,if_false,true_and,Nat.reduceAdd,Nat.reduceEqDiff,reduceCtorEq,Bool.false_eq_true,Nat.zero_add,Nat.add_zero,Nat.le_refl,Nat.lt_add_one,zN,kO,zAY,ja,zQ9,ks38,e2,hbb])))
 (refine zIp hp rfl code41 (by simp only [List.map_cons,List.map_nil,zP,zH,zI,zK,if_true,if_false,Nat.reduceEqDiff,reduceCtorEq,Go.Al.untag_at,zMg]) (by simp only [List.map_cons,List.map_nil,List.all_cons,List.all_nil,zP,zH,zI,zK,if_true,if_false,Nat.reduceEqDiff,reduceCtorEq,yM,zEW,Bool.and_self]) ?_; simp only [↓zk,↓qV,zH,xp,zI,zK,zP,xy,xJ,spl,List.nil_append,zL,V.flat,List.length_cons,List.length_nil,List.take_zero,Bool.true_and,if_true,if_false,true_and,Nat.reduceAdd,Nat.reduceEqDiff,reduceCtorEq,Nat.zero_add,zN,jd,qy])
 simp only [qH,sl];refine ⟨rfl,rfl,Nat.le_refl _,?_⟩
 (repeat (first | (refine zg ?_) | (refine zW ?_; simp -failIfUnchanged only [zB,zC]) | (refine zf ?_; simp -failIfUnchanged only [zV,zS,zd,zU]) | (refine zY ?_; simp -failIfUnchanged only [zR,zM,zB,zC,reduceIte]) | (refine zT ?_) | ((first | (refine ze zEy ks38 _ rfl rfl ?_) | (refine za zEy mixed ks38 _ rfl rfl (by kernel_rfl) (by kernel_rfl) ?_)); simp only [])))
 unfold ya;rw [show Env.get [(4,V.at (Value.pointer (some ⟨b,0,none⟩)))] 4=V.at (Value.pointer (some ⟨b,0,none⟩)) from rfl,zx,zN,if_pos rfl,zq];refine ⟨⟨jd,by rw [qy]; exact Nat.le_refl _,fun h=>by rw [zAc] at h; cases h⟩,?_⟩;have hpv:∀ a b c:V,zz Tryz.prog 29 [a,b,c] 0 = .agg [a,b,c]:=fun a b c=>by
  unfold zz;rw [if_pos zAc,qy]; rfl
 simp only [List.length_cons,List.length_nil,List.drop_succ_cons,List.append_nil,List.drop_nil,Nat.zero_add,Nat.reduceAdd,hpv];refine ⟨rfl,?_⟩;unfold ya;refine ⟨s0,fun B g w hi=>hi.weaken ⟨fun j c hj=>?_,fun _ hm=>hm,fun hn=>hn,fun j hj=>?_,Nat.le_refl _,fun _ _ h=>h⟩,?_,rfl⟩
 . have:¬ b=j:=fun e=>by rw [<- e,hb] at hj; cases hj
   show Al.look (lay (lay s0.box b _) b _) j=_;rw [zN,if_neg this,zN,if_neg this]; exact hj
 . replace hj:Al.look (lay (lay s0.box b _) b _) j=none:=hj;rw [zN] at hj;split at hj
   . cases hj
   . rename_i h; rw [zN,if_neg h] at hj; exact hj
 . simp only [finV,V.untag,List.map_cons,List.map_nil,zAF];rfl
end
end Go.Proofs.YtnamdpbcpnnhaaaGreatDoor
