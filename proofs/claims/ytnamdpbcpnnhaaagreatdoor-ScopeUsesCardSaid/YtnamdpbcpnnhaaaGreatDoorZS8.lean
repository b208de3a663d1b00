/-
  Uses are the tokens that speak of what one speaks of, in order, and two lists are one where they are alike: for every two lists of Binds and every number the law ScopeUses answers true, and leaves its arguments as they were. No condition, but that the listed package-level variables hold what the program's text lays (the card ties them).
-/
import Derived.Test.YtnamdpbcpnnhaaaGreatDoorZS7
import Derived.Test.YtnamdpbcpnnhaaaGreatDoorCards
set_option linter.unusedVariables false
set_option linter.unusedSimpArgs false
set_option linter.unusedSectionVars false
namespace Go.Proofs.YtnamdpbcpnnhaaaGreatDoor
section
open Go.Al Go.Den Go.RowKit Go.Shelf
attribute [local go_sem] Oper.semAt_some
theorem zPF {F:Fence} {n:Nat} {P:Program} {c:Code} {Q:Exit->Act->World->Prop} {W:World} (t:Array Value) (u v:Value) (h:c.wpIn F n P Q { tmps:=(t.setIfInBounds 37 u).setIfInBounds 38 v,defers:=[] } W) :
 c.wpIn F n P Q { tmps:=((#[37,38]:Array Tmp).zip #[u,v]).foldl (fun t (p,v)=>t.setIfInBounds p v) t,defers:=[] } W:=by
 rw [show ((#[37,38]:Array Tmp).zip #[u,v]).foldl (fun t (p,v)=>t.setIfInBounds p v) t=(t.setIfInBounds 37 u).setIfInBounds 38 v from by simp];exact h
set_option maxRecDepth 100000 in
set_option maxHeartbeats 2000000 in
theorem loop98 {B:Nat} {q:WS} {ms:List Nd} {s:S} {v3:V} {b0 bo cap b bf bm k2 b6 bs:Nat} {o6:Option Nat} {fp ff:List Nat} {g0:Gh} {w0:World} {Q:Exit->Act->World->Prop} {rest:Code}
 (hw:WkAt s q b0 bo cap b bf bm o6 fp ff [bm]) (hq0:q.2.2.2.2=[]) (x2:Al.look s.box k2=some ([ptV b0],1)) (xb:Al.look s.box bs=some ([.lst (zw (ms.map zc)) (ms.map zc)],1))
 (hms:∀ x ∈ ms,0<=lbAt x/\lbAt x < q.1.length) (hll:q.1.length < 1000000) (hml:ms.length < 1000000)
 (HR:∀ g w D W a,Step B g0 w0 g w->Al.Inv B g s w->GlobOk B g.wm w->w.heap.size<=D->IsM bm (jy q.1 ms) w W->W.heap[D]? = some (.deferred (some [])) ->
  Rel ⟨B,⟨75,[]⟩,none,[{ target:=.collected D,args:=#[] }]⟩ g [(2,ptV k2),(3,v3),(5,ptV b6)] ⟨s.box,s.tg,s.nx,(bm,.mp (trMC (jy q.1 ms)),[bm])::s.ob⟩ a W->rest.wpIn Fence.wide 6 Tryz.prog Q a W) :
 awpG Tryz.prog ⟨B,⟨75,[]⟩,none,[]⟩ 6 (spRF (zZ Tryz.f98)).1 (Exit.then (rest.wpIn Fence.wide 6 Tryz.prog Q) Q) g0 w0 [(2,ptV k2),(3,v3),(5,ptV b6),(36,.clo (.func 137) [ptV bs])] s:=by
 intro g a w hstep hr;have hF:∀ f,Fence.wide.fn f:=fun _=>trivial;obtain ⟨dsc,h36a,h36⟩:=zMq (hr.env 36);simp only [RCs,RC] at h36a;obtain ⟨_,_,rfl,⟨rfl,_⟩,rfl⟩:=h36a;obtain ⟨t1,t2,t3,t4,arrb,elb,usb,t5,t6,t7,t8⟩:=hr.inv.box _ _ _ xb;simp only [RCs] at t7;obtain ⟨ub,_,rfl,hub,rfl⟩:=t7;have hubl:=qD _ _ _ _ hub;obtain ⟨vb,rfl⟩:∃ vb,ub=[vb]:=by
  match ub,hubl with
  | [vb],_=>exact ⟨vb,rfl⟩
 have harrb:arrb = #[vb]:=by
  apply Array.ext';rw [List.take_of_length_le (by simpa using Nat.le_of_eq t6)] at t8;simpa using t8
 subst harrb;have hbslt:bs < w.heap.size:=(Array.getElem?_eq_some_iff.1 t5).1;obtain ⟨av,capv,br,orr,ds,hvb,hav,hrow,hcell,hbr⟩:∃ (av:Option Addr) (capv br orr:Nat) (ds:List Value),vb = .slice av ms.length capv/\(ms≠[]->av=some ⟨br,orr,none⟩)/\RCs g.bare w (ms.map zc) ds /\
  (∀ k u,ds[k]? = some u->w.cell? ⟨br,orr+k,none⟩=some u)/\(ms≠[]->br < w.heap.size/\g.wm br≠0):=by
  simp only [RC] at hub;rcases hub with ⟨e1,e2,_⟩ | ⟨br,orr,capv,ds,e1,e2,_,e3,_,e4⟩
  . obtain rfl:ms=[]:=by simpa using e1
    injection e2 with e2
    exact ⟨none,0,0,0,[],e2,fun h=>absurd rfl h,by simp [RCs],fun k u h=>by simp at h,fun h=>absurd rfl h⟩
  . injection e1 with e1
    rw [List.length_map] at e1;refine ⟨_,capv,br,orr,ds,e1,fun _=>rfl,e3,fun k u h=>(e4 k u h).1,fun hne=>?_⟩;obtain ⟨q1,q2⟩:=zEK ms ds e3;have hpos:0 < ms.length:=List.length_pos_iff.2 hne;have h0:ds[0]? = some ds[0]:=List.getElem?_eq_getElem (by omega);obtain ⟨h1,h2⟩:=e4 0 _ h0;exact ⟨(Array.getElem?_eq_some_iff.1 (zJx h1).choose_spec.choose_spec.choose_spec.1).1,by omega⟩
 subst hvb;obtain ⟨hdl,hnd⟩:=zEK ms ds hrow;obtain ⟨xs,hxs⟩:∃ xs:List NdC,xs=(List.range ms.length).map fun j=>⟨ds.getD (j * 3) undef,ds.getD (j * 3+1) undef,ds.getD (j * 3+2) undef⟩:=⟨_,rfl⟩;have hxl:xs.length=ms.length:=by rw [hxs]; simp
 have hxj:∀ j (hj:j < xs.length),(xs[j]'hj).k=ds.getD (j * 3) undef/\(xs[j]'hj).t=ds.getD (j * 3+1) undef/\(xs[j]'hj).l=ds.getD (j * 3+2) undef:=fun j hj=>by subst hxs; simp
 have hxne:xs≠[]->ms≠[]:=fun h e=>h (List.length_eq_zero_iff.1 (by rw [hxl,e]; rfl));have hbmo:=hr.inv.ex.ob _ _ _ hw.m;obtain ⟨m1,m2,m3,m4,m5,m6⟩:=hbmo.2.2 bm (by simp);replace m1:B<=bm:=m1;have hB:B<=w.heap.size:=hr.inv.base;have hbsm:bs≠bm:=fun e=>by rw [e] at xb; rw [m4] at xb; cases xb
 have hbrm:ms≠[]->br≠bm:=fun h e=>(hbr h).2 (by rw [e]; exact m3);have hI0:IsM bm [] w w:=by
  refine ⟨Keep1.refl _ _,?_⟩;obtain ⟨_,arr,ck,h1,h2⟩:=hbmo.1;rw [hq0] at h2;exact ⟨arr,ck,h1,zAx h2⟩
 have hKp:∀ A C:World,w.heap.size<=A.heap.size->(∀ b,b < A.heap.size->b≠bm->C.heap[b]? = A.heap[b]?)->KpN bs av xs.length A C:=fun A C h1 h2=>by
  refine ⟨fun v hv=>(World.cell?_of_block (h2 bs (by omega) hbsm)).trans hv,fun b' o' e j v hj hv=>?_⟩;have hne:ms≠[]:=hxne (by rintro rfl; simp at hj);rw [hav hne] at e;injection e with e
  injection e with e _ _
  subst e;exact (World.cell?_of_block (h2 br (by have:=(hbr hne).1; omega) (hbrm hne))).trans hv
 have hseq:=zH6 Fence.wide 5 (hF _) rfl (by omega) bs capv br orr av xs (fun h=>hav (hxne h)) (by omega) w hbslt (fun h=>(hbr (hxne h)).1) (by rw [hxl]; simp [World.cell?,t5]) (fun j hj=>by
  obtain ⟨e1,e2,e3⟩:=hxj j hj;have hj':j < ms.length:=by omega
  have hg:∀ k,k < ms.length * 3->w.cell? ⟨br,orr+k,none⟩=some (ds.getD k undef):=fun k hk=>hcell k _ (by rw [List.getD_eq_getElem?_getD,List.getElem?_eq_getElem (by omega)]; rfl);rw [e1,e2,e3];exact ⟨hg _ (by omega),hg _ (by omega),hg _ (by omega)⟩)
 simp only [zZ,Tryz.f98,Option.getD_some,spRF];refine wpIn_block ?_;refine wpIn_rangeFunc_ownH rfl (by omega) (gf:=137) (lb:=#[.pointer (some ⟨bs,0,none⟩)]) h36 (hF 137) zOA hseq (fun h k=>h.trans k) (fun W l o o' _ hl h1 _=>KpN.put W l o o' hl h1) (Below.refl _ _) (fun _=>rfl)
  (fun (pre:List (Fin xs.length)) W=>IsM bm ((pre.map fun x:Fin xs.length=>ms.getD x.1 ndZ).foldl (mkF q.1) []) w W) (fun _ _ _=>False)
  (fun pre A C row h hg hr=>h.grown m2 hg hr) (fun c pre A C row h hg hr=>h.elim) hI0
  (fun x a' W=>∃ k,w.heap.size<=k/\(∃ el,W.heap[k]? = some (.cells #[(xs[x.1]'x.2).k,(xs[x.1]'x.2).t,(xs[x.1]'x.2).l] el (0,0)))/\a'.tmps.getD 2 undef = .pointer (some ⟨k2,0,none⟩)/\a'.tmps.getD 7 undef = .pointer (some ⟨k,0,none⟩)/\a'.tmps.size=75/\a'.defers=[])
  (fun x a' _ A C row h hg hr=>?own) ?assign ?body ?done ?stop
 case own=>
  obtain ⟨k,h1,⟨el,h2⟩,h3⟩:=h;refine ⟨k,h1,⟨el,(hg.block k (Array.getElem?_eq_some_iff.1 h2).1 (fun e=>?_)).trans h2⟩,h3⟩;obtain ⟨_,o,ho,hc⟩:=hr k e.symm;rw [h2] at ho;injection ho with ho
  subst ho;cases hc
 case stop=>
  intro D c pre W _ _ h;exact h.elim
 case assign=>
  intro l pre x W K hI hK;have hx:x.1 < ms.length:=by have:=x.2; omega
  obtain ⟨e1,e2,e3⟩:=hxj x.1 x.2;have hsh:=hnd x.1 hx;rw [<- e1,<- e2,<- e3] at hsh;obtain ⟨z1,z2,aa,nn,cc,z3⟩:=zI8 hsh;refine zPF (a.tmps) (.int .i64 (x.1:Int)) (xs[x.1]'x.2).enc ?_;refine zDg (wpIn_mono ((zOj (k2:=k2) (bm:=bm) (nk:=Nd.kind (ms.getD x.1 ndZ)) (nt:=Nd.tok (ms.getD x.1 ndZ)) (aa:=aa) (nn:=nn) (cc:=cc):awp Tryz.prog ⟨B,⟨75,[]⟩,some l,[]⟩ _ _ _ ⟨[],[],s.nx,[(bm,.mp (trMC ((pre.map fun x:Fin xs.length=>ms.getD x.1 ndZ).foldl (mkF q.1) [])),[bm])]⟩) (frzG g W bm) _ W ⟨zKp hr.inv m1 m2 hI,fun k=>?_,⟨?_,fun _ hp=>(by cases hp)⟩,rfl,zIx hr.inv hr.gl m3 m1 hI.keep⟩) ?_)
  . show RV _ W _ (((a.tmps.setIfInBounds 37 (.int .i64 (x.1:Int))).setIfInBounds 38 (xs[x.1]'x.2).enc).getD k undef);by_cases h2:k=2
    . subst h2;rw [tmps2 _ _ _ _ hr.size.1 (by decide) (by decide),yA (hr.env 2)];exact yN rfl
    . by_cases h8:k=38
      . subst h8;rw [tmps38 _ _ _ hr.size.1,NdC.enc,z1,z2,z3];exact zCj (us:=[.int .i64 (Nd.kind (ms.getD x.1 ndZ)),.int .i64 (Nd.tok (ms.getD x.1 ndZ)),.slice aa nn cc]) (by simp only [RCs,RC,vi]; exact ⟨[_],_,rfl,⟨rfl,rfl⟩,[_],_,rfl,⟨rfl,rfl⟩,[_],_,rfl,⟨rfl,rfl⟩,rfl⟩)
      . have:Env.get [(2,ptV k2),(38,.agg [vi (Nd.kind (ms.getD x.1 ndZ)),vi (Nd.tok (ms.getD x.1 ndZ)),.at (.slice aa nn cc)])] k=V.any:=by
         simp only [Env.get,Ne.symm h2,Ne.symm h8,if_false]
        rw [this];trivial
  . show ((a.tmps.setIfInBounds 37 (.int .i64 (x.1:Int))).setIfInBounds 38 (xs[x.1]'x.2).enc).size=75;simp [hr.size.1]
  . rintro ex a2 w2 ⟨g',e',s',q1,q2,rfl,k,hk,rfl,hl,hob⟩;have hbm2:zG s'.ob bm=some (.mp (trMC ((pre.map fun x:Fin xs.length=>ms.getD x.1 ndZ).foldl (mkF q.1) [])),[bm]):=by rw [hob,zJ,if_pos rfl]
    obtain ⟨i1,i2,i3⟩:=zJa hI m2 q1 q2.inv hbm2;have hkW:W.heap.size<=k:=by
     rcases Nat.lt_or_ge k W.heap.size with h | h
     . exfalso;have hne:k≠bm:=fun e=>by
        have:=((q2.inv.ex.ob _ _ _ hbm2).2.2 bm (by simp)).2.2.2.1;rw [<- e,hl] at this; cases this
       have:=(q2.inv.ex.frz k (by rw [q1.fr]; simp [frzG,h,hne])).2.1;rw [hl] at this; cases this
     . exact h
    have hws:=hI.keep.below.size;refine hK a2 w2 i3 (hKp W w2 hws i2) i1 ⟨k,by omega,?_,yA (q2.env 2),yA (q2.env 7),q2.size.1,q2.df⟩;obtain ⟨p1,p2,p3,p4,arr,el,us,p5,p6,p7,p8⟩:=q2.inv.box _ _ _ hl;simp only [RCs,RC,vi] at p7;obtain ⟨u1,_,rfl,⟨rfl,_⟩,u2,_,rfl,⟨rfl,_⟩,u3,_,rfl,⟨rfl,_⟩,rfl⟩:=p7;refine ⟨el,?_⟩;have harr:arr = #[.int .i64 (Nd.kind (ms.getD x.1 ndZ)),.int .i64 (Nd.tok (ms.getD x.1 ndZ)),.slice aa nn cc]:=by
     apply Array.ext';rw [List.take_of_length_le (by simpa using Nat.le_of_eq p6)] at p8;simpa using p8
    rw [p5,harr,z1,z2,z3]
 case done=>
  rintro D ys W hD rfl hI hK;have hm:jy q.1 ms=((qt xs.length xs.length).map fun x:Fin xs.length=>ms.getD x.1 ndZ).foldl (mkF q.1) []:=by
   unfold jy;rw [zRY ms xs.length hxl]
  rw [<- hm] at hI;obtain ⟨j1,j2⟩:=Inv.butMp hr.inv hw.m hI;refine HR g w D W _ hstep hr.inv hr.gl hD hI hK ⟨j1,fun k=>?_,hr.size,by show _::a.defers=_; rw [hr.df],hr.gl.below ⟨hI.keep.below.os,hI.keep.below.tape,hI.keep.below.output,hI.keep.below.size,fun k hk=>hI.keep.blk k (by replace hk:k < B:=hk; omega) (by replace hk:k < B:=hk; omega)⟩ (fun _=>Nat.le_refl _)⟩;have:=(hr.env k).later j2;show RV g W (Env.get [(2,ptV k2),(3,v3),(5,ptV b6)] k) (a.tmps.getD k undef);by_cases h36':k=36
  . subst h36'; trivial
  . have e:Env.get [(2,ptV k2),(3,v3),(5,ptV b6)] k=Env.get [(2,ptV k2),(3,v3),(5,ptV b6),(36,.clo (.func 137) [ptV bs])] k:=by
     simp only [Env.get,Ne.symm h36',if_false]
    rw [e]; exact this
 case body=>
  rintro l pre x a' W _ _ hI ⟨k,hk,⟨el,hkc⟩,u2,u7,usz,udf⟩ hlen;have hx:x.1 < ms.length:=by have:=x.2; omega
  obtain ⟨e1,e2,e3⟩:=hxj x.1 x.2;have hsh:=hnd x.1 hx;rw [<- e1,<- e2,<- e3] at hsh;obtain ⟨z1,z2,aa,nn,cc,z3⟩:=zI8 hsh;have hmem:ms.getD x.1 ndZ ∈ ms:=by
   rw [List.getD_eq_getElem?_getD,List.getElem?_eq_getElem hx];exact List.getElem_mem hx
  have hlb:=hms _ hmem;have hput:((pre++[x]).map fun x:Fin xs.length=>ms.getD x.1 ndZ).foldl (mkF q.1) []=mkF q.1 ((pre.map fun x:Fin xs.length=>ms.getD x.1 ndZ).foldl (mkF q.1) []) (ms.getD x.1 ndZ):=by
   rw [List.map_append,List.foldl_append]; rfl
  obtain ⟨c,hc⟩:∃ c,(pre.map fun x:Fin xs.length=>ms.getD x.1 ndZ).foldl (mkF q.1) []=c:=⟨_,rfl⟩;obtain ⟨m,hm⟩:∃ m,ms.getD x.1 ndZ=m:=⟨_,rfl⟩;replace hI:IsM bm ((pre.map fun x:Fin xs.length=>ms.getD x.1 ndZ).foldl (mkF q.1) []) w W:=hI;rw [hc] at hI hput;rw [hm] at hsh hlb hput;obtain ⟨nk,nt,kids⟩:=m;obtain ⟨kk,kt,kl,kids,rfl⟩:∃ kk kt kl kids',kids=Nd.mk kk kt kl::kids':=by
   cases kids with
   | nil=>have:=hlb.1; simp [lbAt,Nd.kids] at this
   | cons y ks=>obtain ⟨kk,kt,kl⟩:=y; exact ⟨_,_,_,_,rfl⟩
  replace hlb:0<=kt/\kt < q.1.length:=hlb;have hL:=zHm hr.inv m3 hI.keep;have hws:=hI.keep.below.size;have hbox:∀ {b':Nat} {cs:List V} {n':Nat},Al.look s.box b' = some (cs,n')->∃ arr el us,W.heap[b']? = some (.cells arr el (0,0))/\arr.size=n'/\RCs (frzG g W bm) W cs us/\arr.toList.take cs.length=us/\b'≠bm:=fun {b' cs n'} h=>by
   obtain ⟨p1,p2,p3,p4,arr,el,us,p5,p6,p7,p8⟩:=hr.inv.box _ _ _ h;have hne:b'≠bm:=fun e=>by rw [e,m4] at h; cases h
   exact ⟨arr,el,us,(hI.keep.blk b' (Array.getElem?_eq_some_iff.1 p5).1 hne).trans p5,p6,z8 hL _ _ p7,p8,hne⟩
  obtain ⟨arr2,el2,us2,p5,p6,p7,p8,n2m⟩:=hbox x2;simp only [RCs,RC] at p7;obtain ⟨_,_,rfl,⟨rfl,_⟩,rfl⟩:=p7;obtain ⟨arr0,el0,us0,o5,o6',o7,o8,n0m⟩:=hbox hw.w;have harr2:arr2.toList=[.pointer (some ⟨b0,0,none⟩)]:=by
   rw [List.take_of_length_le (by simpa using Nat.le_of_eq p6)] at p8;simpa using p8
  have harr0:arr0.toList=us0:=by
   rw [List.take_of_length_le (by simpa using Nat.le_of_eq o6')] at o8;exact o8
  have hwk:RC (frzG g W bm).bare W (wkA q.1 bo q.2.1.length cap b bf bm o6) us0:=by
   simp only [RCs] at o7;obtain ⟨a1,a2,ra,k1,a3,a4,rb,k2',a5,a6,rc,k3,a7,a8,rd,k4,a9,a10,re,k5,a11,a12,rf,k6,rg⟩:=o7;have k1':=kj k1 rfl;rw [zAF] at k1';simp only [RC,RCs] at k2' k3 k4 k5 k6 ⊢;exact ⟨a1,a2,ra,by simpa only [RC] using k1',a3,a4,rb,k2',a5,a6,rc,k3,a7,a8,rd,k4,a9,a10,re,k5,a11,a12,rf,k6,rg⟩
  have hnode:RC (frzG g W bm).bare W (.agg [vi nk,vi nt,sl ((Nd.mk kk kt kl::kids).map zc)]) [(xs[x.1]'x.2).k,(xs[x.1]'x.2).t,(xs[x.1]'x.2).l]:=by
   rw [<- qH];exact zAy hL.bare _ _ hsh
  refine zDg (wpIn_mono ((zQK (l:=q.1) (bo:=bo) (n:=q.2.1.length) (cap:=cap) (b:=b) (bf:=bf) (o6:=o6) (nk:=nk) (nt:=nt) (kk:=kk) (kl:=kl) (kids:=kids) (c:=c) hlb.1 hlb.2 hll:awp Tryz.prog ⟨B,⟨75,[]⟩,some l,[]⟩ _ _ _ ⟨[],[],s.nx,[(bm,.mp (trMC c),[bm])]⟩) (frzG g W bm) a' W ⟨zKp hr.inv m1 m2 hI,fun k1=>?_,⟨usz,fun _ hp=>(by cases hp)⟩,udf,zIx hr.inv hr.gl m3 m1 hI.keep⟩) ?_)
  . by_cases h2:k1=2
    . subst h2;rw [u2];refine kn (ds:=[.pointer (some ⟨b0,0,none⟩)]) ?_ (by have:=zHC (g:=g) n2m p5; rw [harr2] at this; exact this);simp only [RC];exact ⟨b0,0,us0,rfl,(by simp only [RC] at hwk; exact hwk),by have:=zHC (g:=g) n0m o5; rw [harr0] at this; exact this⟩
    . by_cases h7:k1=7
      . subst h7;rw [u7];exact kn hnode (zHC (g:=g) (by omega) hkc)
      . have:Env.get [(2,.rptr (.rptr (wkA q.1 bo q.2.1.length cap b bf bm o6))),(7,.rptr (.agg [vi nk,vi nt,sl ((Nd.mk kk kt kl::kids).map zc)]))] k1=V.any:=by
         simp only [Env.get,Ne.symm h2,Ne.symm h7,if_false]
        rw [this];trivial
  . rintro ex a2 w2 ⟨g',e',s',q1,q2,rfl,hob⟩;obtain ⟨i1,i2,i3⟩:=zJa hI m2 q1 q2.inv hob;refine ⟨i3,hKp W w2 hws i2,?_⟩;show IsM bm (((pre++[x]).map fun x:Fin xs.length=>ms.getD x.1 ndZ).foldl (mkF q.1) []) w w2;rw [hput];exact i1
end
section
open Go.Al Go.Den Go.RowKit Go.Shelf
attribute [local congr] ym xO xT xn yO yq yF yE yn xM yo xW yw yk yB yK yg xZ xU yS xL yj yU yR yr yu yV yl yh yY xm xY xV xK xP xN yi yX yT
set_option maxRecDepth 100000 in
set_option maxHeartbeats 1000000 in
theorem rest98 {p:WC} (hp:WOk p) {B:Nat} {q:WS} {pp:LT1} {kd tk:Int} {k0 k1 k2:Nd} {ks:List Nd} {y3:zA ([]:LK)×WS} {y4:(LT1×Unit)×WS}
 (e3:p.c48 (k2,()) (q.1,q.2.1,pp::q.2.2.1,q.2.2.2.1,q.2.2.2.2)=some y3) (e4:c104 () y3.2=some y4) {s:S} {b0 bo cap b bf bm b6 k2' k3':Nat} {o6:Option Nat} {fp ff fm f6:List Nat} (hw:WkAt s q b0 bo cap b bf bm o6 fp ff fm)
 (x6:zG s.ob b6=some (.l1 (trL pp),f6)) (n6b:b6≠b) (n6f:b6≠bf) (n6m:b6≠bm) (x2:Al.look s.box k2' = some ([ptV b0],1)) (x3:Al.look s.box k3' = some ([vi kd,vi tk,sl ((k0::k1::k2::ks).map zc)],3))
 (n20:k2'≠b0) (n2o:k2'≠bo) (n30:k3'≠b0) (n3o:k3'≠bo) {df:List Deferred} {Q:Exit->Act->World->Prop} {g0:Gh} {w0:World}
 (HQ:∀ g e' s' a w,Step B g0 w0 g w->Rel ⟨B,⟨75,[]⟩,none,df⟩ g e' s' a w->(∃ r,VKs CC s' [wkK] (wkV y4.2) [ptV b0] r/\r.Nodup)->Q .normal a w) :
 awpG Tryz.prog ⟨B,⟨75,[]⟩,none,df⟩ 6 (spRF (zZ Tryz.f98)).2 Q g0 w0 [(2,ptV k2'),(3,ptV k3'),(5,ptV b6)] s:=by
 simp only [zZ,Tryz.f98,Option.getD_some,spRF,sl,List.map_cons] at x3 ⊢;refine zHQ fun g w hi=>?_;obtain ⟨bp,bt,nx,rfl,hnd,hio⟩:=hi.open1 x6;refine ⟨_,hio,?_⟩;have h6box:∀ j c,Al.look s.box j=some c->j ∉ [b6,bp,bt]:=fun j c h hm=>by
  have:=((hi.ex.ob _ _ _ x6).2.2 j hm).2.2.2.1;rw [h] at this; cases this
 have h6ob:∀ j o f,zG s.ob j=some (o,f)->j≠b6->j ∉ [b6,bp,bt]:=fun j o f h hne hm=>hne (hi.ex.obd j _ _ b6 _ _ j h x6 (hi.ex.ob j _ _ h).2.1 hm);have hf6:∀ j o f,zG s.ob j=some (o,f)->j≠b6->∀ i ∈ f,i ∉ [b6,bp,bt]:=fun j o f h hne i hi' hm=>hne (hi.ex.obd j _ _ b6 _ _ i h x6 hi' hm);have kw0:=h6box _ _ hw.w;have ko:=h6box _ _ hw.o;have kk2:=h6box _ _ x2;have kk3:=h6box _ _ x3;have kb:=h6ob _ _ _ hw.l (Ne.symm n6b);have kf:=h6ob _ _ _ hw.f (Ne.symm n6f);have km:=h6ob _ _ _ hw.m (Ne.symm n6m);simp only [List.nodup_cons,List.mem_cons,List.not_mem_nil,or_false,not_or,not_false_eq_true,and_true,List.nodup_nil] at hnd kw0 ko kk2 kk3 kb kf km;obtain ⟨⟨d1,d2⟩,d3⟩:=hnd;have hob0:(Al.openLv s b6 bp bt (trL pp) [] nx []).ob=(bp,.mp (trMC pp.1),[bp])::(bt,.mp (trMC pp.2),[bt])::jC s.ob (fun k=>!(k == b6)):=by
  cases nx <;> rfl
 have hbx:∀ j c,j≠b6->Al.look s.box j=some c->Al.look (Al.openLv s b6 bp bt (trL pp) [] nx []).box j=some c:=fun j c hj hc=>by
  show Al.look (lay s.box b6 _) j=_;rw [zN,if_neg (fun e=>hj e.symm)]; exact hc
 have hobx:∀ j c,j≠b6->j≠bp->j≠bt->zG s.ob j=some c->zG (Al.openLv s b6 bp bt (trL pp) [] nx []).ob j=some c:=fun j c h1 h2 h3 hc=>by
  rw [hob0,zJ,if_neg (fun e=>h2 e.symm),zJ,if_neg (fun e=>h3 e.symm),x9,if_pos (by simpa using h1)]; exact hc
 refine zFe (fun s=>WkAt s q b0 bo cap b bf bm o6 fp ff fm/\Al.look s.box k2' = some ([ptV b0],1)/\Al.look s.box k3' = some ([vi kd,vi tk,.lst (zw (zc k0::zc k1::zc k2::ks.map zc)) (zc k0::zc k1::zc k2::ks.map zc)],3)/\Al.look s.box b6=some (lcs bp bt nx,3)/\zG s.ob bp=some (.mp (trMC pp.1),[bp])/\zG s.ob bt=some (.mp (trMC pp.2),[bt]))
  ⟨⟨hbx _ _ kw0.1 hw.w,hw.cp,hbx _ _ ko.1 hw.o,hobx _ _ kb.1 kb.2.1 kb.2.2 hw.l,hobx _ _ kf.1 kf.2.1 kf.2.2 hw.f,hobx _ _ km.1 km.2.1 km.2.2 hw.m,hw.n⟩,hbx _ _ kk2.1 x2,hbx _ _ kk3.1 x3,by show Al.look (lay s.box b6 _) b6=_; rw [zN,if_pos rfl],by rw [hob0,zJ,if_pos rfl],by rw [hob0,zJ,if_neg d3,zJ,if_pos rfl]⟩ ?_
 clear hw x2 x3 hio hi x6 h6box h6ob hf6 hbx hobx hob0 g w;rintro s2 ⟨hw,x2,x3,y6,yp,yt⟩;have n60:¬ b6=b0:=fun e=>kw0.1 e.symm;have n06:¬ b0=b6:=kw0.1;have n62:¬ b6=k2':=fun e=>kk2.1 e.symm;have y6':Al.look s2.box b6=some ([.at (.map (some bp)),.at (.map (some bt)),.at (pO nx)],3):=y6;refine jP ?_
 (repeat (first | (refine zg ?_) | (refine zW ?_; simp -failIfUnchanged only [zB,zC]) | (refine zf ?_; simp -failIfUnchanged only [zV,zS,zd,zU]) | (refine zY ?_; simp -failIfUnchanged only [zR,zM,zB,zC,reduceIte]) | (refine zT ?_) | ((first | (refine ze polN ks98 _ rfl rfl ?_) | (refine za polN mixed ks98 _ rfl rfl (by kernel_rfl) (by kernel_rfl) ?_)); simp only [↓zk,↓zt,↓zl,↓yD,↓qV,↓z6,zB,zH,xp,zI,zK,zP,zb,zX,zv,zx,zq,xy,xJ,zj,zp,spl,implies_true,List.cons_append,List.nil_append,List.append_nil,and_self,zy,zz,zL,V.isOne,V.flat,List.all_cons,List.all_nil,List.length_cons,List.length_nil,List.drop_zero,List.drop_succ_cons,List.take_succ_cons,List.take_zero,List.take_nil,List.getD_cons_zero,List.getD_cons_succ,Bool.true_and,Bool.and_self,if_true,if_false,true_and,Nat.reduceAdd,Nat.reduceEqDiff,Nat.reduceLeDiff,Bool.false_eq_true,Nat.zero_add,Nat.le_refl,Nat.lt_add_one,kw,kz,ju,jf,kJ,qx,kg,zBx,ks98,x2,hw.w,y6'])))
 refine jP ?_
 (repeat (first | (refine zg ?_) | (refine zW ?_; simp -failIfUnchanged only [zB,zC]) | (refine zf ?_; simp -failIfUnchanged only [zV,zS,zd,zU]) | (refine zY ?_; simp -failIfUnchanged only [zR,zM,zB,zC,reduceIte]) | (refine zT ?_) | ((first | (refine ze polN ks98 _ rfl rfl ?_) | (refine za polN mixed ks98 _ rfl rfl (by kernel_rfl) (by kernel_rfl) ?_)); simp only [↓zk,↓zt,↓zl,↓yD,↓qV,↓z6,zB,zH,xp,zI,zK,zP,zb,zX,zv,zx,zq,xy,xJ,zj,zp,spl,implies_true,List.cons_append,List.nil_append,and_self,zy,zz,zL,V.isOne,V.flat,List.all_cons,List.all_nil,List.length_cons,List.length_nil,List.drop_zero,List.drop_succ_cons,List.take_succ_cons,List.take_zero,List.take_nil,List.getD_cons_zero,Bool.true_and,Bool.and_self,if_true,if_false,true_and,Nat.reduceAdd,Nat.reduceEqDiff,Nat.reduceLeDiff,Bool.false_eq_true,Nat.zero_add,Nat.le_refl,Nat.lt_add_one,zN,kw,kz,ju,jf,qx,kg,ks98,x2,hw.w,n60,n62])))
 have nb0o:b0≠bo:=fun e=>by have:=hw.n; subst e; simp at this
 have hL6:Al.look (lay (lay s2.box b6 ([.at (.map (some bp)),.at (.map (some bt)),ptV b],3)) b0 ([tkV q.1,.at (.slice (some ⟨bo,0,none⟩) q.2.1.length cap),ptV b6,.at (.map (some bf)),.at (.map (some bm)),.at (pO o6)],6)) b6=some (lcs bp bt (some b),3):=by
  rw [zN,if_neg n06,zN,if_pos rfl]; rfl
 refine zHQ fun g w hi=>⟨_,hi.closeLv (b:=b6) (x:=trL pp) (r:=q.2.2.1.map trL) (nx:=some b) (fp:=fp) hL6 yp yt d3 (.inr ⟨b,rfl,hw.l⟩),?_⟩;have hbx:∀ j c,j≠b6->j≠b0->Al.look s2.box j=some c->Al.look (wipe (lay (lay s2.box b6 ([.at (.map (some bp)),.at (.map (some bt)),ptV b],3)) b0 ([tkV q.1,.at (.slice (some ⟨bo,0,none⟩) q.2.1.length cap),ptV b6,.at (.map (some bf)),.at (.map (some bm)),.at (pO o6)],6)) b6) j=some c:=fun j c h1 h2 hc=>by
  rw [yJ,if_neg (fun e=>h1 e.symm),zN,if_neg (fun e=>h2 e.symm),zN,if_neg (fun e=>h1 e.symm)]; exact hc
 have hobx:∀ j c,j≠b6->j≠bp->j≠bt->j≠b->zG s2.ob j=some c->zG ((b6,OV.lv (trL pp::q.2.2.1.map trL),b6::bp::bt::fp)::jC s2.ob (fun k=>!((bp::bt::(some b).toList).contains k))) j=some c:=fun j c h1 h2 h3 h4 hc=>by
  rw [zJ,if_neg (fun e=>h1 e.symm),x9,if_pos ?_]
  . exact hc
  . have:j ∉ bp::bt::(some b).toList:=by simp [h2,h3,h4]
    simpa using this
 have hn:=hw.n;simp only [List.nodup_cons,List.mem_cons,List.not_mem_nil,or_false,not_or,not_false_eq_true,and_true,List.nodup_nil] at hn;have nbf:bf≠b:=fun e=>hn.2.2.1.1 (by rw [e]);have nbm:bm≠b:=fun e=>hn.2.2.1.2 (by rw [e]);have nfm:bf≠bm:=fun e=>hn.2.2.2 (by rw [e]);refine zFe (fun s=>WkAt s (q.1,q.2.1,pp::q.2.2.1,q.2.2.2.1,q.2.2.2.2) b0 bo cap b6 bf bm o6 (b6::bp::bt::fp) ff fm/\Al.look s.box k2' = some ([ptV b0],1)/\Al.look s.box k3' = some ([vi kd,vi tk,.lst (zw (zc k0::zc k1::zc k2::ks.map zc)) (zc k0::zc k1::zc k2::ks.map zc)],3))
  ⟨⟨?_,hw.cp,hbx _ _ ko.1 (Ne.symm nb0o) hw.o,?_,hobx _ _ kf.1 kf.2.1 kf.2.2 nbf hw.f,hobx _ _ km.1 km.2.1 km.2.2 nbm hw.m,?_⟩,hbx _ _ kk2.1 n20 x2,hbx _ _ kk3.1 n30 x3⟩ ?_
 . show Al.look (wipe _ b6) b0=_;rw [yJ,if_neg n60,zN,if_pos rfl]
 . show zG (_::_) b6=_;rw [zJ,if_pos rfl];rfl
 . simp only [List.nodup_cons,List.mem_cons,List.not_mem_nil,or_false,not_or,not_false_eq_true,and_true,List.nodup_nil];exact ⟨⟨hn.1.1,by simp,by simp,by simp⟩,⟨by simp,by simp,by simp⟩,⟨fun e=>by injection e with e; exact n6f e,fun e=>by injection e with e; exact n6m e⟩,fun e=>by injection e with e; exact nfm e⟩
 clear hbx hobx hL6 y6 y6' yp yt hn hw x2 x3;rintro s3 ⟨hw,x2,x3⟩;refine jP ?_
 (repeat (first | (refine zg ?_) | (refine zW ?_; simp -failIfUnchanged only [zB,zC]) | (refine zf ?_; simp -failIfUnchanged only [zV,zS,zd,zU]) | (refine zY ?_; simp -failIfUnchanged only [zR,zM,zB,zC,reduceIte]) | (refine zT ?_) | ((first | (refine ze polN ks98 _ rfl rfl ?_) | (refine za polN mixed ks98 _ rfl rfl (by kernel_rfl) (by kernel_rfl) ?_)); simp only [↓zl,↓xG,↓yD,zB,yb,zH,zI,zK,zP,zm,yC,zb,zX,qp,zx,zq,zj,zp,xx,qY,implies_true,List.map_cons,List.map_nil,and_self,fits,zy,zz,V.isAgg,List.length_cons,List.length_nil,List.drop_zero,List.drop_succ_cons,List.take_succ_cons,List.take_nil,List.getD_cons_zero,List.getD_cons_succ,List.length_map,Bool.true_and,Bool.and_self,if_true,if_false,true_and,Nat.reduceAdd,Nat.reduceEqDiff,Bool.false_eq_true,Nat.zero_add,Nat.le_refl,Nat.lt_add_one,kO,zAY,ja,zCc,jd,zAc,qy,zBv,kw,kz,ju,ks98,x2,x3])))
 refine ⟨⟨by omega,by omega⟩,qc _,⟨qc _,zBF _⟩,?_⟩;refine qi [ptV b0,zc k2] rfl rfl rfl zEG (by simp only [List.map_cons,List.map_nil,List.all_cons,List.all_nil,zP,zH,zI,zK,if_true,if_false,Nat.reduceEqDiff,yM,Bool.and_self,nd2,zCr]) (by simp only [List.map_cons,List.map_nil,zP,zH,zI,zK,if_true,if_false,Nat.reduceEqDiff,nd2]; exact .keep (.keep .nil)) ((zG1 hp.h48 e3 hw (zJT _ k2))) (fun r s hq=>?_) (fun c s hq=>(by first | (obtain ⟨_,_,_,hq,_⟩:=hq; cases hq; done) | (obtain ⟨_,_,hq,_⟩:=hq; cases hq; done)));obtain ⟨ws,r1,r2,hq1,hq2,hq3,hq4,hq5⟩:=hq;have x2':=(hq5.box k2' _ (by simp [n20,n2o]) x2).1;obtain ⟨bo',cap',b',bf',bm',o6',fp',ff',fm',hw3,rfl⟩:=zFG hq2 (List.nodup_append.1 hq4).1;clear hq1 hq2 hq3 hq4 hq5 hw x2 x3;simp only [↓zk,zH,zI,zK,if_true,if_false,Nat.reduceEqDiff];refine zPA (K:=fun _ s'=>∃ r,VKs CC s' [wkK] (wkV y4.2) [ptV b0] r/\r.Nodup) ?_ HQ
 (repeat (first | (refine zg ?_) | (refine zW ?_; simp -failIfUnchanged only [zB,zC]) | (refine zf ?_; simp -failIfUnchanged only [zV,zS,zd,zU]) | (refine zY ?_; simp -failIfUnchanged only [zR,zM,zB,zC,reduceIte]) | (refine zT ?_) | ((first | (refine ze polN ks98 _ rfl rfl ?_) | (refine za polN mixed ks98 _ rfl rfl (by kernel_rfl) (by kernel_rfl) ?_)); simp only [↓yD,zB,yb,zI,zK,zP,zX,zx,zq,implies_true,List.map_cons,List.map_nil,and_self,zy,zz,List.length_cons,List.length_nil,List.drop_zero,List.take_succ_cons,List.take_nil,List.getD_cons_zero,Bool.true_and,Bool.and_self,if_true,if_false,true_and,Bool.false_eq_true,Nat.zero_add,Nat.le_refl,kw,kz,ju,ks98,x2'])))
 refine qi [ptV b0] rfl rfl rfl zKt (by simp only [List.map_cons,List.map_nil,List.all_cons,List.all_nil,zP,zH,zI,zK,if_true,if_false,Nat.reduceEqDiff,yM,Bool.and_self]) (by simp only [List.map_cons,List.map_nil,zP,zH,zI,zK,if_true,if_false,Nat.reduceEqDiff]; exact .keep .nil) ((zG1 ok104 e4 hw3 (va:=[]) ⟨rfl,rfl⟩)) (fun r s hq=>?_) (fun c s hq=>(by first | (obtain ⟨_,_,_,hq,_⟩:=hq; cases hq; done) | (obtain ⟨_,_,hq,_⟩:=hq; cases hq; done)));obtain ⟨ws,r1,r2,hq1,hq2,hq3,hq4,hq5⟩:=hq;simp only [↓zk];exact ⟨r1,hq2,(List.nodup_append.1 hq4).1⟩
theorem zON {B:Nat} {g0 g g':Gh} {w0 w W W':World} {s s':S} {D bm:Nat} {c:MT} (h0:Step B g0 w0 g w) (hm:B<=bm/\g.wm bm=0/\g.fr bm=false) (hI:Al.Inv B g s w) (hM:IsM bm c w W) (hD:w.heap.size<=D)
 (h1:Step B ⟨g.wm,g.tb,⟨fun b=>g.fr b || decide (b=D),g.fr.t⟩⟩ W g' W') (h2:Al.Inv B g' s' W'):Step B g0 w0 ⟨g'.wm,g'.tb,g.fr⟩ (W'.putObj D (.deferred none))/\Al.Inv B ⟨g'.wm,g'.tb,g.fr⟩ s' (W'.putObj D (.deferred none))/\W'.heap[D]? = W.heap[D]?:=by
 have hB:=hI.base;have hbs:=hM.keep.below.size;have hbs':=h1.below.size;have hpo:∀ j,j≠D->(W'.putObj D (.deferred none)).heap[j]? = W'.heap[j]?:=fun j hj=>World.putObj_heap_other hj;have hsub:∀ b,g.fr b=true->g'.fr b=true:=fun b h=>by rw [h1.fr]; simp [h]
 have hfD:g'.fr D=true:=by rw [h1.fr]; simp
 have hwD:g'.wm D=0:=by rw [(h1.fz D (by simp)).2]; exact hI.fresh D hD
 obtain ⟨f1,f2,f3⟩:=h2.ex.frz D hfD;refine ⟨h0.trans ⟨⟨fun b=>h1.later.wm b,fun t x e=>h1.later.tb t x e,fun b o ho=>?_⟩,⟨h1.below.os.trans hM.keep.below.os,h1.below.tape.trans hM.keep.below.tape,h1.below.output.trans hM.keep.below.output,by simp [World.putObj]; omega,fun k hk=>?_⟩,fun b hb=>?_,fun b hb=>h1.wmB b hb,rfl⟩,?_,(h1.fz D (by simp)).1⟩
 . have hb:b < w.heap.size:=by
    rcases Nat.lt_or_ge b w.heap.size with hh | hh
    . exact hh
    . rw [hI.fresh b hh] at ho; omega
   refine (World.cell?_of_block (hpo b (by omega))).trans ((h1.later.cell b o ho).trans (World.cell?_of_block (hM.keep.blk b hb (fun e=>by rw [e,hm.2.1] at ho; omega))))
 . exact (hpo k (by omega)).trans ((h1.below.block k hk).trans (hM.keep.blk k (by omega) (by omega)))
 . obtain ⟨q1,_,_⟩:=hI.ex.frz b hb;obtain ⟨q2,q3⟩:=h1.fz b (by simp [hb]);exact ⟨(hpo b (by omega)).trans (q2.trans (hM.keep.blk b q1 (fun e=>by rw [e,hm.2.2] at hb; cases hb))),q3⟩
 . have hr:Al.Inv B ⟨g'.wm,g'.tb,g.fr⟩ s' W':=Inv.refr (f1:=g'.fr) h2 (fun b h=>h2.ex.frz b (hsub b h)) (fun b o fp h j hj=>by
    have:=((h2.ex.ob b o fp h).2.2 j hj).2.2.2.2.2;cases e:g.fr j with
    | false=>rfl
    | true=>rw [hsub j e] at this; cases this) (by rw [h1.fr])
   exact (Inv.but hr D f2 f3 (fun b o fp h hj=>by
    have:=((h2.ex.ob b o fp h).2.2 D hj).2.2.2.2.2;rw [hfD] at this; cases this) hwD (by simp [World.putObj]) (fun j _ hj=>hpo j hj)).1
set_option maxRecDepth 100000 in
set_option maxHeartbeats 1000000 in
theorem ok98 (p:WC) (hp:WOk p):CPOk CC Tryz.prog syn 98 (cW ([.st TI.node]:LK) ([]:LK) (c98S p.c48 p.c68 p.c103)):=by
 refine zDO fun q a y hy st vx va r1 r2 h1 h2 hn=>?_;obtain ⟨nd,ua⟩:=a;change Nd at nd;obtain ⟨kd,tk,kids⟩:=nd;obtain ⟨va1,va2,ra1,ra2,rfl,rfl,⟨rfl,rfl⟩,rfl,rfl⟩:=h2;simp only [List.append_nil] at hn;unfold c98S at hy;split at hy
 rotate_left
 . cases hy
 rename_i k0 k1 k2 ks hk;replace hk:kids=k0::k1::k2::ks:=hk;subst hk;cases e0:p.c68 (k0,()) q with
 | none=>rw [e0] at hy; cases hy
 | some y0=>
 rw [e0] at hy;dsimp only [Option.bind] at hy;cases e1:p.c103 (k1,()) y0.2 with
 | none=>rw [e1] at hy; cases hy
 | some y1=>
 rw [e1] at hy;dsimp only [Option.bind] at hy;split at hy
 rotate_left
 . cases hy
 rename_i pp epp;cases e2:c102 ((show Int×Unit from y1.1.1).1,()) y1.2 with
 | none=>rw [e2] at hy; cases hy
 | some y2=>
 rw [e2] at hy;dsimp only [Option.bind] at hy;split at hy
 rotate_left
 . cases hy
 rename_i hc;obtain ⟨hc1,hc2,hc3⟩:=hc;cases e3:p.c48 (k2,()) (y2.2.1,y2.2.2.1,pp::y2.2.2.2.1,y2.2.2.2.2.1,jy y2.2.1 (fdT k2 29)) with
 | none=>rw [e3] at hy; cases hy
 | some y3=>
 rw [e3] at hy;dsimp only [Option.bind] at hy;cases e4:c104 () y3.2 with
 | none=>rw [e4] at hy; cases hy
 | some y4=>
 rw [e4] at hy;injection hy with hy
 subst hy;obtain ⟨b0,bo,cap,b,fp,bf,ff,bm,fm,o6,rfl,_⟩:=zAu h1;have h1':=qg [wkK] (wkV q) h1 ((zCU st (r1++([]++[]))).mono fun y hy=>List.mem_append_left _ hy);generalize subS st (r1++([]++[]))=s0 at h1' ⊢;obtain ⟨bo,cap,b,bf,bm,o6,fp,ff,fm,hw,rfl⟩:=zFG h1' hn;intro B g w vs hi hgl hv;refine (callsIn_wide (n:=6)).1 ?_;have hF:∀ f,Fence.wide.fn f:=fun _=>trivial;refine callsIn_of_wp_marks Tryz.func98 rfl (hF _) ?_ rfl;have hrel:=zCW (B:=B) (N:=75) hi hgl hv (by show 2<=75; decide);rw [show Tryz.f98.ntmps=75 from Tryz.ntmps98];refine pre98 (B:=B) (kd:=kd) (tk:=tk) (ks:=ks) hp e0 e1 epp e2 (Nat.le_of_lt hc3) (g0:=g) (w0:=w) hw ?_ g _ w (.refl _ _ _) hrel;clear hw hi hgl hv hrel h1 h1' hn;intro s k2' k3' bs bo cap b bf bm b6 o6 fp ff f6 hw x6 n6b n6f n6m x2 x3 xb n20 n2o n30 n3o n23;have hlen:(fdT k2 29).length < 1000000:=Nat.lt_of_le_of_lt (List.length_filter_le _ _) hc3;refine loop98 (q:=(y2.2.1,y2.2.2.1,y2.2.2.2.1,y2.2.2.2.2.1,[])) (ms:=fdT k2 29) hw rfl x2 xb hc2 hc1 hlen ?_;intro g1 w1 D W a1 hs hi1 hgl1 hD hM hDW hrel;obtain ⟨m1,m2,m3,m4,m5,m6⟩:=(hi1.ex.ob _ _ _ hw.m).2.2 bm (by simp);have hDlt:D < W.heap.size:=(Array.getElem?_eq_some_iff.1 hDW).1;have hrel':Rel ⟨B,⟨75,[]⟩,none,[{ target:=.collected D,args:=#[] }]⟩ ⟨g1.wm,g1.tb,⟨fun b=>g1.fr b || decide (b=D),g1.fr.t⟩⟩ [(2,ptV k2'),(3,ptV k3'),(5,ptV b6)] ⟨s.box,s.tg,s.nx,(bm,.mp (trMC (jy y2.2.1 (fdT k2 29))),[bm])::s.ob⟩ a1 W:=by
  refine ⟨Inv.refr (f1:=g1.fr) hrel.inv (fun j hj=>?_) (fun j o f h i hi2=>?_) rfl,fun k=>RV.later (g:=g1) (w:=W) (g':=⟨g1.wm,g1.tb,⟨fun b=>g1.fr b || decide (b=D),g1.fr.t⟩⟩) (w':=W) ⟨fun _=>Nat.le_refl _,fun _ _ e=>e,fun _ _ _=>rfl⟩ (hrel.env k),hrel.size,hrel.df,hrel.gl⟩
  . have hj':g1.fr j=true\/j=D:=by simpa using hj
    rcases hj' with hj | rfl
    . exact hrel.inv.ex.frz j hj
    . refine ⟨hDlt,?_,fun t ht d hd=>?_⟩
      . cases e:Al.look s.box j with
        | none=>rfl
        | some c=>
         obtain ⟨cs,n⟩:=c;obtain ⟨_,_,_,_,arr,el,us,h5,_⟩:=hi1.box j cs n e;have:=(Array.getElem?_eq_some_iff.1 h5).1; omega
      . obtain ⟨d1,d2,d3⟩:=d;obtain ⟨_,_,_,_,_,arr,el,h5,_⟩:=hi1.own t ht j d1 d2 d3 hd;have:=(Array.getElem?_eq_some_iff.1 h5).1; omega
  . have h1:=((hrel.inv.ex.ob j o f h).2.2 i hi2).2.2.2.2.2;have h2:i≠D:=by
     have h3:∃ o2 f2,zG s.ob j=some (o2,f2)/\i ∈ f2:=by
      replace h:zG ((bm,OV.mp _,[bm])::s.ob) j=some (o,f):=h;rw [zJ] at h;split at h
      . rename_i e;injection h with h
        obtain ⟨_,rfl⟩:=Prod.mk.inj h;subst e;exact ⟨_,_,hw.m,hi2⟩
      . exact ⟨o,f,h,hi2⟩
     obtain ⟨o2,f2,h3,h4⟩:=h3;have:=((hi1.ex.ob j _ _ h3).2.2 i h4).2.1;omega
    show (g1.fr i || decide (i=D))=false;rw [show g1.fr i=false from h1];simpa using h2
 have hw':WkAt ⟨s.box,s.tg,s.nx,(bm,.mp (trMC (jy y2.2.1 (fdT k2 29))),[bm])::s.ob⟩ (y2.2.1,y2.2.2.1,y2.2.2.2.1,y2.2.2.2.2.1,jy y2.2.1 (fdT k2 29)) b0 bo cap b bf bm o6 fp ff [bm]:=by
  have hn:=hw.n;simp only [List.nodup_cons,List.mem_cons,List.not_mem_nil,or_false,not_or,not_false_eq_true,and_true,List.nodup_nil] at hn;refine ⟨hw.w,hw.cp,hw.o,?_,?_,?_,hw.n⟩
  . show zG (_::_) b=_;rw [zJ,if_neg (fun e=>hn.2.2.1.2 (by rw [e]))]; exact hw.l
  . show zG (_::_) bf=_;rw [zJ,if_neg (fun e=>hn.2.2.2 (by rw [e]))]; exact hw.f
  . show zG (_::_) bm=_;rw [zJ,if_pos rfl]
 refine rest98 hp (B:=B) (q:=(y2.2.1,y2.2.2.1,y2.2.2.2.1,y2.2.2.2.2.1,jy y2.2.1 (fdT k2 29))) (pp:=pp) (k0:=k0) (k1:=k1) (ks:=ks) e3 e4 hw' (by show zG (_::_) b6=_; rw [zJ,if_neg (fun e=>n6m e.symm)]; exact x6) n6b n6f n6m x2 x3 n20 n2o n30 n3o (g0:=⟨g1.wm,g1.tb,⟨fun b=>g1.fr b || decide (b=D),g1.fr.t⟩⟩) (w0:=W) ?_ _ _ W (.refl _ _ _) hrel';rintro g' e' s' a2 W' hst hrel2 ⟨r,hv1,hv2⟩;obtain ⟨z1,z2,z3⟩:=zON hs ⟨m1,m3,m6⟩ hi1 hM hD hst hrel2.inv;show LeavesInM Fence.wide 6 Tryz.prog Tryz.f98 a2.tmps _ a2.defers .returning W';rw [hrel2.df];refine ⟨by simp,.inl ⟨_,_,rfl,run_takeDeferred (z3.trans hDW),?_⟩⟩;exact ⟨_,results_none Tryz.results98 _ _ _,_,s',z1,z2,.tup [],⟨[],.nil,rfl⟩,[],r,[],hv1,⟨rfl,rfl⟩,by simpa using hv2,rfl⟩
end
section
open Go.Al Go.Den
theorem wOk (fu n:Nat):WOk (wcs fu n):=wok (fun p hp=>ok98 p hp) fu n
theorem ok26 (fu n:Nat):ConOk CC Tryz.prog 26 ⟨as26,rs26,c26 fu n⟩:=con26 fu c32 ok32 c46 ok46 c44 ok44 (c45n fu n) (ok45n fu n) c47 ok47a (wcs fu n).c48 (wOk fu n).h48
theorem ok43 (fu n m:Nat):ConOk CC Tryz.prog 43 ⟨as43,rs43,c43 fu n m⟩:=con43 fu (c17 fu m) (ok17 fu m) (c25 fu) (ok25 fu) (c26 fu n) (ok26 fu n)
theorem ok24 (fu n m:Nat):ConOk CC Tryz.prog 24 ⟨as24,rs24,c24 fu n m⟩:=con24 fu c29 ok29 (c43 fu n m) (ok43 fu n m)
set_option maxRecDepth 1000000 in
theorem c24t:c24 100 60 100 ()=some (true,()):=by kernel_rfl
theorem ok24t:ConOk CC Tryz.prog 24 ⟨as24,rs24,fun _=>some (true,())⟩:=(ok24 100 60 100).sub fun x y h=>by
 rw [<- h]; exact c24t
def c13 (_:List BindT×List BindT×Int×Unit):Option (Bool×Unit):=some (true,())
theorem ok13:ConOk CC Tryz.prog 13 ⟨as13,rs13,c13⟩:=(con13 1001 (fun _=>some (true,())) ok24t c49 ok27 c28 ok28 c29 ok29 c49 ok30).sub fun x y h=>by
 obtain ⟨a,b,i,u⟩:=x;rw [<- h];exact zNr 1001 _ a b i (by omega)
end
end Go.Proofs.YtnamdpbcpnnhaaaGreatDoor
namespace Go.Proofs.YtnamdpbcpnnhaaaGreatDoor.scopeUses
section
open Go.Al Go.Den Go.ChangeShapes Go.WideShapes Go.ChangeAt Go.RowKit
open Go.ChangeMaps (open_string shut_string)
theorem own:ownKnob Tryz.prog.godebug=none:=by kernel_rfl
theorem laidOut:laidOutB Tryz.prog=true:=by kernel_rfl
theorem walk (n0:Bool) (z0:List BindT) (n1:Bool) (z1:List BindT) (z2:Int) (W:World) (hgl:GlobOk W.heap.size (wmOf W) W) (v0 v1 v2:Value) (h0:RV1 ⟨wmOf W,fun _=>none,Fr.no⟩ W (.lst (if n0 then .nil else .no) (z0.map (CC.encV TI.bind))) v0) (h1:RV1 ⟨wmOf W,fun _=>none,Fr.no⟩ W (.lst (if n1 then .nil else .no) (z1.map (CC.encV TI.bind))) v1) (h2:RV1 ⟨wmOf W,fun _=>none,Fr.no⟩ W (.at (.int .i64 z2)) v2):Calls Tryz.prog 13 #[v0,v1,v2] W fun e W'=>e = .returned (.bool true)/\Below W.heap.size W W':=by
 have hp:=ok13 (z0,z1,z2,()) (true,()) rfl _ ⟨_,_,rfl,⟨n0,rfl⟩,⟨_,_,rfl,⟨n1,rfl⟩,⟨_,_,rfl,rfl,rfl⟩⟩⟩;refine (hp (wmOf W) W [v0,v1,v2] (zMF W) hgl (.cons h0 (.cons h1 (.cons h2 RVs.nil)))).mono ?_;rintro e W' ⟨v,wm',rfl,_,hst,hr⟩;have hv:v = .bool true:=yA hr;subst hv;exact ⟨rfl,hst.below⟩
set_option maxRecDepth 100000 in
theorem lifted (os:Os) (started:os.Started) (H:Type) (enc:TypeId×Value->H) :
 ReturnsInHanded {} Tryz.checked os 13 .any (fun w args=>(Rows.scopeUsesSpec.pre enc Tryz.prog Tryz.f13 [] false w args/\laidMetH Tryz.prog zGp w)/\sizedMet enc Tryz.prog Tryz.f13 (OpenSpec.ofChange Rows.scopeUsesSpec) false w args)
  (Rows.scopeUsesSpec.post enc Tryz.prog Tryz.f13 false true false false):=by
 refine zEE (C:=Tryz.checked) (X:=fun w _=>laidMetH Tryz.prog zGp w) (fun _ _ _ hh h=>laidMetH.of_heap hh h) own started (by kernel_rfl) Tryz.func13
  (ChangeSpec.witness_shaped (enc:=enc) (C:=Tryz.checked) (os:=os) (X:=fun w _=>laidMetH Tryz.prog zGp w) false (World.doorLaid Tryz.prog 400 os) #[.slice none 0 0,.slice none 0 0,.int .i64 0] 8 rfl (World.shaped_of_RefB (by kernel_rfl) (by kernel_rfl)) (by kernel_rfl) (by kernel_rfl) (by kernel_rfl) (door4 os _)) ?_
 intro W base args ds gs before hval0 hW hsh hL;have hval:∀ (j:Nat) t v,Tryz.f13.params[j]? = some t->args[j]? = some v->Value.okWide Tryz.prog W .any base t v:=hval0;have hW':=hW;obtain ⟨p,q,hA0,hV,rfl,hfz,hnd⟩:=hW;have hA:DataW.TrodAll enc Tryz.prog W 0 (fun _=>true) true Tryz.f13.params.toList args.toList ds p:=hA0;rw [Tryz.params13] at hA hval;obtain ⟨v0,vs0,d0,ds0,p0,q0,hargs,rfl,rfl,h0,r0⟩:=trodAll_cons hA;obtain ⟨v1,vs1,d1,ds1,p1,q1,rfl,rfl,rfl,h1,r1⟩:=trodAll_cons r0;obtain ⟨v2,vs2,d2,ds2,p2,q2,rfl,rfl,rfl,h2,r2⟩:=trodAll_cons r1;obtain ⟨rfl,rfl,rfl⟩:=trodAll_nil r2;obtain rfl:args = #[v0,v1,v2]:=by cases args; simp_all
 obtain ⟨rfl,rfl⟩:=trodVars_none hV;have hgl:=glob4 hsh hL;have k0:=h0;have lt0:∀ x ∈ p0,x.block < W.heap.size:=by obtain ⟨m,hm⟩:=k0; exact DataW.trod_lt m _ _ _ hm
 obtain ⟨n0,z0,w0⟩:=zF7 Tryz.underlying44 Tryz.underlying47 (by kernel_rfl) rfl rfl (by kernel_rfl) (by kernel_rfl) Tryz.underlying3 Tryz.underlying3 (hval 0 44 v0 rfl rfl) h0;have k1:=h1;have lt1:∀ x ∈ p1,x.block < W.heap.size:=by obtain ⟨m,hm⟩:=k1; exact DataW.trod_lt m _ _ _ hm
 obtain ⟨n1,z1,w1⟩:=zF7 Tryz.underlying44 Tryz.underlying47 (by kernel_rfl) rfl rfl (by kernel_rfl) (by kernel_rfl) Tryz.underlying3 Tryz.underlying3 (hval 1 44 v1 rfl rfl) h1;have k2:=h2;have lt2:∀ x ∈ p2,x.block < W.heap.size:=by obtain ⟨m,hm⟩:=k2; exact DataW.trod_lt m _ _ _ hm
 obtain ⟨z2,rfl,rfl,rfl,w2⟩:=open_int Tryz.underlying3 (hval 2 3 v2 rfl rfl) h2;clear hA0 hval0;refine (walk n0 z0 n1 z1 z2 W hgl _ _ _ w0 w1 (zRE .i64 z2)).mono fun e W' ⟨he,bel⟩=>?_;subst he;exact ⟨_,rfl,_,_,_,[],_,[],hW',trodAll_mk1 (shut_bool Tryz.underlying4 _),(trodAll_cons_mk (Below.trod laidOut (by kernel_rfl) (of_decide_eq_true (by kernel_rfl)) k0 bel lt0) (trodAll_cons_mk (Below.trod laidOut (by kernel_rfl) (of_decide_eq_true (by kernel_rfl)) k1 bel lt1) (trodAll_cons_mk (Below.trod laidOut (by kernel_rfl) (of_decide_eq_true (by kernel_rfl)) k2 bel lt2) trodAll_mk0))),rfl,bel.frame _,fun h=>by cases h⟩
theorem over:Rows.ScopeUsesSaid:=
 OpenClaim.holds_of_wide 13 Tryz.f13 rfl rfl rfl rfl rfl rfl rfl ⟨rfl,rfl,rfl,rfl,rfl⟩ rfl rfl rfl rfl rfl (by kernel_rfl) Tryz.func13 (by kernel_rfl)
  (of_decide_eq_true (by kernel_rfl)) (by unfold Func.isWrapper; first | (rw [if_pos (by decide +kernel)]; kernel_rfl) | (rw [if_neg (by decide +kernel)]; exact ⟨rfl,rfl⟩))
  (fun os started H enc _=>lifted os started H enc)
theorem scopeUses_holds:Rows.ScopeUsesCardSaid:=
 Claim7.holds_tied_plain_at .later [] [.data,.widerDeep,.widerDeep,.widerDeep] true (true, "7c58562b21b618913f75bececb98783b54f88d308e840749b21184127f6feb62") true
  over (fun _ h=>by cases h) (by kernel_rfl) (fun _ h=>by cases h) scopeUses_row_tie rfl ⟨rfl,rfl⟩ (by kernel_rfl) rfl
  (fun f fn hf hfn=>by
   obtain rfl:f=13:=Option.some.inj ((show Tryz.prog.funcNamed "emend/emendlaw18.ScopeUses" = some 13 by kernel_rfl).symm.trans hf) |>.symm;obtain rfl:fn=Tryz.f13:=(Option.some.inj (Tryz.func13.symm.trans hfn)).symm;exact ⟨by kernel_rfl,fun j t ht=>by
    rw [Tryz.params13] at ht;have hm:t ∈ [44,44,3]:=by simpa using Array.mem_of_getElem? ht
    have hall:([44,44,3].all fun u=>!Tryz.prog.wantsStandIn u)=true:=by kernel_rfl
    exact (show Tryz.prog.wantsStandIn t=false by simpa using List.all_eq_true.1 hall t hm)⟩)
  (by kernel_rfl)
end
end Go.Proofs.YtnamdpbcpnnhaaaGreatDoor.scopeUses
