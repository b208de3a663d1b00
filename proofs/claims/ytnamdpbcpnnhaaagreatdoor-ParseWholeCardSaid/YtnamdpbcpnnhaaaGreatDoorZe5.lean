/-
  Part 5 of what the last text needs: library, runs, contracts, plain laws. No condition of its own.
-/
import Derived.Test.YtnamdpbcpnnhaaaGreatDoorZe4
import Derived.WalkKit
import Derived.Defers
import Derived.Recover
import Derived.TacticsInMore
section
set_option linter.unusedVariables false
set_option linter.unusedSimpArgs false
namespace Go.Proofs.YtnamdpbcpnnhaaaGreatDoor
open Go.Al Go.Den Go.RowKit
attribute [local congr] jK jw kg zAK qQ jH xu xy jJ jp jP kU jR jI xl qE jS kR kQ qd js jL qj qa jM jB qg jN jC qe zAI kT kh jt jq jo jG qk qi
theorem zBL {s:S} {l:List TokT} {i:Int} {xs:List MT} {u u' u'':Unit} {vx:List V} {r:List Res} (h:VKs CC s [parK] ((l,i,xs,u,u'),u'') vx r) :
 ∃ b0 b cap fp m,vx=[.at (.pointer (some ⟨b0,0,none⟩))]/\Al.look s.box b0=some ([.lst (zi (l.map (CC.encV TI.tok))) (l.map (CC.encV TI.tok)),.at (.int .i64 i),.at (.slice (some ⟨b,0,none⟩) xs.length cap),.at (.map m)],4) /\
  zL s.ob b=some (.sc (xs.map trMC) cap,fp)/\r=[.inr b0,.ob b]:=by
 simp only [VKs,VK] at h
 obtain ⟨v,vs',r1,r2,rfl,rfl,⟨b0,vs,rs',rfl,h1,h2,rfl⟩,rfl,rfl⟩:=h
 obtain ⟨v1,w1,q1,q2,rfl,rfl,⟨rfl,rfl⟩,v2,w2,q3,q4,rfl,rfl,⟨rfl,rfl⟩,v3,w3,q5,q6,rfl,rfl,⟨b,cap,fp,rfl,h3,rfl⟩,v4,w4,q7,q8,rfl,rfl,⟨⟨m,rfl⟩,rfl⟩,rfl,rfl⟩:=h2
 exact ⟨b0,b,cap,fp,m,rfl,h1,h3,rfl⟩
theorem zBE {s:S} {l:List TokT} {i:Int} {xs:List MT} {u u' u'':Unit} {b0 b cap n:Nat} {fp:List Nat} {m:Option Nat} (hn:n=xs.length) (h1:Al.look s.box b0=some ([.lst (zi (l.map (CC.encV TI.tok))) (l.map (CC.encV TI.tok)),.at (.int .i64 i),.at (.slice (some ⟨b,0,none⟩) n cap),.at (.map m)],4))
 (h2:zL s.ob b=some (.sc (xs.map trMC) cap,fp)):VKs CC s [parK] ((l,i,xs,u,u'),u'') [.at (.pointer (some ⟨b0,0,none⟩))] [.inr b0,.ob b]:=by
 subst hn
 simp only [VKs,VK]
 exact ⟨_,_,_,[],rfl,rfl,⟨b0,_,[.ob b],rfl,h1,⟨_,_,[],[.ob b],rfl,rfl,⟨rfl,rfl⟩,_,_,[],[.ob b],rfl,rfl,⟨rfl,rfl⟩,_,_,[.ob b],[],rfl,rfl,⟨b,cap,fp,rfl,h2,rfl⟩,_,_,[],[],rfl,rfl,⟨⟨m,rfl⟩,rfl⟩,rfl,rfl⟩,rfl⟩,rfl,rfl⟩
abbrev pol59:Pol:=⟨fun _=>false,fun d=>d == 11,fun _=>false,fun _=>false,[],fun _=>[]⟩
def c59 (a:Option MT×Unit):MM Unit:=fun _ s=>match a.1 with
 | some m=>if s.2.length < 1000000 then some (some ((),s.1,s.2++[m])) else none
 | none=>none
set_option maxRecDepth 100000 in
theorem ok59:CPOk CC Tryz.prog syn 59 (cM [.mpo] [] c59):=by
 refine zEH fun l i xs a o ho st vx va r1 r2 h1 h2 hn=>?_
 obtain ⟨a,ua⟩:=a
 cases a with
 | none=>cases ho
 | some c=>
 simp only [c59] at ho
 split at ho
 rotate_left
 · cases ho
 rename_i hlen
 injection ho with ho
 subst ho
 obtain ⟨b0,b,cap,fp,m,rfl,k1,k2,rfl⟩:=zBL h1
 simp only [VKs,VK] at h2
 obtain ⟨va,vs',q1,q2,rfl,rfl,⟨bm,fpm,rfl,k3,rfl⟩,rfl,rfl⟩:=h2
 have hne:b≠bm:=by intro e; subst e; simp at hn
 have e1:=(ym st ([.inr b0,.ob b]++([.ob bm]++[])) b0).1 (by simp)
 have e2:=(xJ st ([.inr b0,.ob b]++([.ob bm]++[])) b).1 (by simp)
 have e3:=(xJ st ([.inr b0,.ob b]++([.ob bm]++[])) bm).1 (by simp)
 rw [k1] at e1; rw [k2] at e2; rw [k3] at e3
 generalize subS st ([.inr b0,.ob b]++([.ob bm]++[]))=s0 at e1 e2 e3 ⊢
 refine zKX (φ:=∃ bs,fp=b::bs/\(b::bs).Nodup/\bs.length=xs.length/\bs.length<=cap/\fpm=[bm]/\bm ∉ bs/\b0≠b/\b0 ∉ bs/\b0≠bm) (fun B g w hi=>?_) ?_
 · obtain ⟨bs,p1,p2,p3,p4,_⟩:=hi.unpack e2
   have p5:=(hi.ex.ob bm _ _ e3).1.1
   subst p5
   have p6:=hi.boxFr e1
   subst p1
   refine ⟨bs,rfl,p2,by simpa using p3,p4,rfl,fun hm=>hne (hi.ex.obd b _ _ bm _ _ bm e2 e3 (by simp [hm]) (by simp)),?_,?_,?_⟩
   · intro e; exact p6.2 b _ _ e2 (by simp [e])
   · intro e; exact p6.2 b _ _ e2 (by simp [e])
   · intro e; exact p6.2 bm _ _ e3 (by simp [e])
 rintro ⟨bs,rfl,hnd,hbl,hcap,rfl,hm1,hm2,hm3,hm4⟩
 refine zKt (s':=jO s0 b bs (xs.map trMC) cap) (fun B g w hi=>by
  obtain ⟨bs',p1,_,_,_,p5⟩:=hi.unpack e2
  injection p1 with _ p1
  subst p1; exact p5) ?_
 have l1:Al.look (jO s0 b bs (xs.map trMC) cap).box b0=some ([.lst (zi (l.map (CC.encV TI.tok))) (l.map (CC.encV TI.tok)),.at (.int .i64 i),.at (.slice (some ⟨b,0,none⟩) xs.length cap),.at (.map m)],4):=by
  show Al.look (lay s0.box b _) b0=_
  rw [zW,if_neg (Ne.symm hm2)]; exact e1
 have l2:Al.look (jO s0 b bs (xs.map trMC) cap).box b=some (mcs bs,cap):=by
  show Al.look (lay s0.box b _) b=_
  rw [zW,if_pos rfl]
 have l3:Mps (jO s0 b bs (xs.map trMC) cap).ob bs (xs.map trMC):=zCm _ (List.nodup_cons.1 hnd).2 (by simpa using hbl)
 have l4:zL (jO s0 b bs (xs.map trMC) cap).ob bm=some (.mp (trMC c),[bm]):=by
  rw [zBp,if_neg (Ne.symm hne),e3]
  cases e:zL (mps bs (xs.map trMC)) bm with
  | none=>rfl
  | some p=>
   exfalso
   have:∀ (bs:List Nat) (ys:List MC),bm ∉ bs->zL (mps bs ys) bm=none:=by
    intro bs
    induction bs with
    | nil=>intro ys _; rfl
    | cons b bs ih=>
     intro ys h
     cases ys with
     | nil=>rfl
     | cons y ys=>
      simp only [List.mem_cons,not_or] at h
      simp only [mps,z7,if_neg (Ne.symm h.1)]
      exact ih ys h.2
   rw [this bs _ hm1] at e; cases e
 generalize jO s0 b bs (xs.map trMC) cap=s1 at l1 l2 l3 l4 ⊢
 refine zFE ?_
 refine qo Tryz.func59 rfl Tryz.ntmps59 Tryz.results59 (by show 2<=14; decide) fun B=>?_
 have hb0:b0≠b:=hm2
 simp only [List.cons_append,List.nil_append,qn,Nat.reduceAdd]
 (repeat (first | (refine yd ?_) | (refine zv ?_; simp -failIfUnchanged only [zI,zM]) | (refine yc ?_; simp -failIfUnchanged only [yB,zw,yR,z8]) | (refine yL ?_; simp -failIfUnchanged only [zt,zq,zI,zM,reduceIte]) | (refine zy ?_) | ((first | (refine yg pol59 ks59 _ rfl rfl ?_) | (refine yM pol59 mixed ks59 _ rfl rfl (by kernel_rfl) (by kernel_rfl) ?_)); simp only [↓xN,↓qP,↓xP,↓qO,↓zAt,↓zBP,↓qN,↓zDr,zr,jV,yA,yT,xA,yC,xp,xU,xI,kY,yw,xQ,zDU,zBZ,zAn,zFG,zGh,qb,zDi,zDE,zLS,zBQ,Option.map_some,implies_true,Nat.one_mul,zJY,List.map_cons,List.map_nil,List.append_nil,and_self,beq_self_eq_true,yh,yV,zK,V.isOne,V.size,V.flat,List.all_cons,List.all_nil,List.length_cons,List.length_nil,List.drop_zero,List.drop_succ_cons,List.take_succ_cons,List.take_zero,List.getD_cons_zero,List.getD_cons_succ,Bool.true_and,Bool.and_self,Option.isSome_some,if_true,if_false,true_and,Nat.reduceAdd,Nat.reduceEqDiff,Nat.reduceLeDiff,reduceCtorEq,Bool.false_eq_true,Nat.zero_add,Nat.lt_add_one,zW,yj,zIs,zFi,zc,Nat.reduceBEq,zBm,zAN,zQf,zero63,zCn,zD3,zBe,zGC,zCz,ks59,l1,l2])))
 have hmx:maxLen=9223372036854775807:=rfl
 refine ⟨⟨by omega,by omega⟩,by omega,by omega,by simp only [mcs,List.length_map]; omega,fun b' cap' hb' hcap'=>?_⟩
 have m1:¬ b' = b0:=fun e=>by rw [e,if_neg (Ne.symm hm2),l1] at hb'; cases hb'
 have m2:¬ b0=b':=fun e=>m1 e.symm
 have hb1:¬ b=b0:=Ne.symm hm2
 simp only [qL,spl,List.cons_append,List.nil_append,and_self,zK,V.isOne,V.flat,List.all_cons,List.all_nil,List.length_cons,List.length_nil,List.drop_zero,List.drop_succ_cons,List.take_succ_cons,List.take_zero,Bool.true_and,Bool.and_self,if_false,true_and,Nat.reduceAdd,Nat.reduceLeDiff,Nat.zero_add,zCn,zBe,m1,hb1]
 have htk:List.take (xs.length * 1) (mcs bs)++[V.at (Value.map (some bm))]=mcs (bs++[bm]):=by
  rw [List.take_of_length_le (by simp only [mcs,List.length_map]; omega)]; simp [mcs]
 rw [htk,Nat.mul_one]
 have hbn:(bs++[bm]).Nodup:=by
  refine List.nodup_append.2 ⟨(List.nodup_cons.1 hnd).2,by simp,fun x hx y hy e=>?_⟩
  simp only [List.mem_singleton] at hy
  subst e; subst hy; exact hm1 hx
 have hMps:Mps s1.ob (bs++[bm]) (xs.map trMC++[trMC c]):=by
  have:∀ (bs:List Nat) (ys:List MC),Mps s1.ob bs ys->Mps s1.ob (bs++[bm]) (ys++[trMC c]):=by
   intro bs
   induction bs with
   | nil=>intro ys h; rw [show ys=[] from h]; exact ⟨_,[],rfl,l4,rfl⟩
   | cons b bs ih=>
    rintro _ ⟨d,ds,rfl,h1,h2⟩
    exact ⟨d,_,rfl,h1,ih _ h2⟩
  exact this _ _ l3
 show ∃ s2,_
 refine ⟨zDM _ b' (bs++[bm]) (xs.map trMC++[trMC c]) cap',fun B g w hi=>hi.pack ?_ hbn hMps,[],[.inr b0,.ob b'],[],zBE (n:=xs.length+1) (fp:=b' :: (bs++[bm])) (b:=b') (cap:=cap') (m:=m) (by simp) ?_ ?_,⟨rfl,rfl⟩,by simp,rfl⟩
 · show Al.look (lay (lay (wipe s1.box b) b' _) b0 _) b' = _
   rw [zW,if_neg m2,zW,if_pos rfl]
 · show Al.look (wipe (lay (lay (wipe s1.box b) b' _) b0 _) b') b0=_
   rw [yj,if_neg m1,zW,if_pos rfl]
 · rw [zAV,if_pos rfl]; simp
theorem zGX {j:Nat}:∀ (bs:List Nat) (ys:List MC),j ∉ bs->zL (mps bs ys) j=none
 | [],_,_=>rfl
 | _::_,[],_=>rfl
 | b::bs,y::ys,h=>by
  simp only [List.mem_cons,not_or] at h
  simp only [mps,z7,if_neg (Ne.symm h.1)]
  exact zGX bs ys h.2
theorem zKg {P:Program} {f:FuncId} {args:List V} {Q:Outc->S->Prop} {s0:S} {b0 b cap:Nat} {fp:List Nat} {cs:List V} {k:Nat} {xs:List MC} (e1:Al.look s0.box b0=some (cs,k)) (e2:zL s0.ob b=some (.sc xs cap,fp))
 (h:∀ bs s1,(b::bs).Nodup->bs.length=xs.length->bs.length<=cap->b0≠b->b0 ∉ bs->Al.look s1.box b0=some (cs,k)->Al.look s1.box b=some (mcs bs,cap)->Mps s1.ob bs xs->(∀ j,j≠b->j ∉ bs->zL s1.ob j=zL s0.ob j) ->
  FnC P f args s1 fun oc s=>∃ s2,(∀ B g w,Inv B g s w->Inv B g s2 w)/\Q oc s2):FnC P f args s0 Q:=by
 refine zKX (φ:=∃ bs,fp=b::bs/\(b::bs).Nodup/\bs.length=xs.length/\bs.length<=cap/\b0≠b/\b0 ∉ bs) (fun B g w hi=>?_) ?_
 · obtain ⟨bs,p1,p2,p3,p4,_⟩:=hi.unpack e2
   have p6:=hi.boxFr e1
   subst p1
   refine ⟨bs,rfl,p2,p3,p4,?_,?_⟩
   · intro e; exact p6.2 b _ _ e2 (by simp [e])
   · intro e; exact p6.2 b _ _ e2 (by simp [e])
 rintro ⟨bs,rfl,hnd,hbl,hcap,hm2,hm3⟩
 refine zKt (s':=jO s0 b bs xs cap) (fun B g w hi=>by
  obtain ⟨bs',p1,_,_,_,p5⟩:=hi.unpack e2
  injection p1 with _ p1
  subst p1; exact p5) ?_
 refine zFE (h bs _ hnd hbl hcap hm2 hm3 ?_ ?_ ?_ ?_)
 · show Al.look (lay s0.box b _) b0=_
   rw [zW,if_neg (Ne.symm hm2)]; exact e1
 · show Al.look (lay s0.box b _) b=_
   rw [zW,if_pos rfl]
 · exact zCm _ (List.nodup_cons.1 hnd).2 hbl
 · intro j h1 h2
   rw [zBp,if_neg h1,zGX bs _ h2]; rfl
theorem x9 (P:Program) (op:BinOp) (t:TypeId) (c:Bool) (k k':IntKind) (a b:Int) (K:V->Prop):zA5 P op t c (.at (.int k a)) (.at (.int k' b)) K=aBin P op t (.at (.int k a)) (.at (.int k' b)) K:=rfl
theorem zHB (P:Program) (op:BinOp) (t:TypeId) (c:Bool) (a b:ByteArray) (K:V->Prop):zA5 P op t c (.at (.string a)) (.at (.string b)) K=aBin P op t (.at (.string a)) (.at (.string b)) K:=rfl
abbrev polN:Pol:=⟨fun _=>false,fun _=>false,fun _=>false,fun _=>false,[],fun _=>[]⟩
theorem Inv.trunc {B:Nat} {g:Gh} {s:S} {w:World} (hi:Al.Inv B g s w) (b m:Nat) {cs:List V} {k:Nat} (h0:Al.look s.box b=some (cs,k)):Al.Inv B g ⟨lay s.box b (cs.take m,k),s.tg,s.nx,s.ob⟩ w:=by
 obtain ⟨p1,p2,p3,p4,arr,el,us,p5,p6,p7,p8⟩:=hi.box b cs k h0
 have hone:zK cs:=by unfold zK; rw [List.all_eq_true]; exact p4
 have hul:=yG g w cs us p7
 rw [yZ hone] at hul
 have:=hi.addBox (b:=b) (arr:=arr) (el:=el) (cs:=cs.take m) (us:=us.take m) p1 p2 p5 (by simp; omega)
  (fun c hc=>p4 c (List.mem_of_mem_take hc)) (yW hone p7 m).1 (by
   rw [<- p8,List.take_take,List.length_take]) (fun t ht d hd=>by
    obtain ⟨cap',n',sz'⟩:=d
    obtain ⟨r1,r2,r3,r4,r5,r6⟩:=hi.own t ht b cap' n' sz' hd
    rw [h0] at r5; cases r5) (hi.boxFr h0).1 (hi.boxFr h0).2
 rw [p6] at this
 exact this
theorem Mps.take {ob:List (Nat×OV×List Nat)}:∀ {bs:List Nat} {xs:List MC} (n:Nat),Mps ob bs xs->Mps ob (bs.take n) (xs.take n)
 | [],_,n,h=>by rw [show _=[] from h]; simp [Mps]
 | b::bs,_,0,_=>by simp [Mps]
 | b::bs,_,n+1,⟨c,cs,rfl,h2,h3⟩=>⟨c,_,by simp,h2,Mps.take n h3⟩
theorem Mps.at {ob:List (Nat×OV×List Nat)}:∀ {bs:List Nat} {xs:List MC} {n j:Nat} {c:MC},Mps ob bs xs->bs[n]? = some j->xs[n]? = some c->zL ob j=some (.mp c,[j])
 | [],_,n,j,c,_,h,_=>by simp at h
 | b::bs,_,0,j,c,⟨d,ds,rfl,h2,h3⟩,h,h'=>by
  simp at h h'; subst h; subst h'; exact h2
 | b::bs,_,n+1,j,c,⟨d,ds,rfl,h2,h3⟩,h,h'=>Mps.at h3 (by simpa using h) (by simpa using h')
theorem zK6 {xs:List MT} {n:Nat} {c:MT} (hn:n+1=xs.length) (h:xs.getLast? = some c):xs[n]? = some c:=by
 rw [List.getLast?_eq_getElem?] at h
 rw [<- h]; congr 1; omega
def c61 (_:Unit):MM (Option MT×Unit):=fun _ s=>if s.2.length < 1000000 then match s.2.getLast? with
 | some m=>some (some ((some m,()),s.1,s.2.dropLast))
 | none=>none else none
set_option maxRecDepth 100000 in
theorem ok61:CPOk CC Tryz.prog syn 61 (cM [] [.mpo] c61):=by
 refine zEH fun l i xs a o ho st vx va r1 r2 h1 h2 hn=>?_
 simp only [c61] at ho
 split at ho
 rotate_left
 · cases ho
 rename_i hlen
 cases hl:xs.getLast? with
 | none=>rw [hl] at ho; cases ho
 | some c=>
 rw [hl] at ho
 injection ho with ho
 subst ho
 obtain ⟨b0,b,cap,fp,m,rfl,k1,k2,rfl⟩:=zBL h1
 simp only [VKs] at h2
 obtain ⟨rfl,rfl⟩:=h2
 have e1:=(ym st ([.inr b0,.ob b]++[]) b0).1 (by simp)
 have e2:=(xJ st ([.inr b0,.ob b]++[]) b).1 (by simp)
 rw [k1] at e1; rw [k2] at e2
 generalize subS st ([.inr b0,.ob b]++[])=s0 at e1 e2 ⊢
 refine zKg e1 e2 fun bs s1 hnd hbl hcap hm2 hm3 l1 l2 l3 l4=>?_
 rw [List.length_map] at hbl
 have hxl:0 < xs.length:=by cases xs <;> simp at hl ⊢
 refine qo Tryz.func61 rfl Tryz.ntmps61 Tryz.results61 (by show 1<=31; decide) fun B=>?_
 have hb1:¬ b=b0:=Ne.symm hm2
 simp only [List.cons_append,List.nil_append,List.append_nil,qn,Nat.reduceAdd]
 obtain ⟨n,hn1⟩:∃ n,n+1=xs.length:=⟨xs.length - 1,by omega⟩
 have hsub:IntKind.i64.wrap ((xs.length:Int) - 1)=(n:Int):=by rw [IntWalk.i64_in _ (by omega)]; omega
 have z1:0+((n:Int).toNat) * 1=n:=by omega
 obtain ⟨bl,hbl2⟩:∃ bl,bs[n]? = some bl:=⟨bs[n]'(by omega),by simp⟩
 have hp1:yh Tryz.prog 63 (mcs bs) n:=⟨zBm,by rw [zAN]; simp only [mcs,List.length_map]; omega,fun _=>zAN⟩
 have hp2:(mcs bs).getD n .any = .at (.map (some bl)):=by
  rw [List.getD_eq_getElem?_getD]
  simp [mcs,hbl2]
 (repeat (first | (refine yd ?_) | (refine zv ?_; simp -failIfUnchanged only [zI,zM]) | (refine yc ?_; simp -failIfUnchanged only [yB,zw,yR,z8]) | (refine yL ?_; simp -failIfUnchanged only [zt,zq,zI,zM,reduceIte]) | (refine zy ?_) | ((first | (refine yg polN ks61 _ rfl rfl ?_) | (refine yM polN mixed ks61 _ rfl rfl (by kernel_rfl) (by kernel_rfl) ?_)); simp only [↓xN,↓qP,↓jy,↓kv,↓xP,↓kO,↓qO,↓qN,↓zB5,zI,zr,yA,yT,xA,xR,kE,yF,yC,qW,zDA,zAe,xp,xU,xI,yw,xQ,qS,kD,implies_true,and_self,yh,yV,List.length_cons,List.length_nil,List.drop_zero,List.drop_succ_cons,List.take_succ_cons,List.take_zero,List.getD_cons_zero,List.getD_cons_succ,Bool.and_true,Bool.true_and,Bool.and_self,Option.isSome_some,if_true,if_false,and_true,true_and,Nat.reduceAdd,Nat.reduceEqDiff,Nat.reduceLeDiff,reduceCtorEq,Bool.false_eq_true,Nat.zero_add,Nat.lt_add_one,zBm,zJU,zAN,zCn,zD3,zBe,zGC,zCz,ks61,l1,l2,x9,hsub,z1,hp2])))
 refine ⟨⟨by omega,by omega⟩,by simp only [mcs,List.length_map]; omega,?_⟩
 (repeat (first | (refine yd ?_) | (refine zv ?_; simp -failIfUnchanged only [zI,zM]) | (refine yc ?_; simp -failIfUnchanged only [yB,zw,yR,z8]) | (refine yL ?_; simp -failIfUnchanged only [zt,zq,zI,zM,reduceIte]) | (refine zy ?_) | ((first | (refine yg polN ks61 _ rfl rfl ?_) | (refine yM polN mixed ks61 _ rfl rfl (by kernel_rfl) (by kernel_rfl) ?_)); simp only [↓xN,↓qP,↓kv,↓xP,↓qO,↓zAt,↓qN,↓zOY,↓zB5,zI,zr,jV,yA,yT,xA,xR,kE,yF,yC,qW,zDA,zAe,xp,xU,xI,kY,qL,yw,xQ,spl,Option.map_some,implies_true,List.cons_append,List.nil_append,and_self,yh,yV,zK,V.isOne,V.flat,List.all_cons,List.all_nil,List.length_cons,List.length_nil,List.drop_zero,List.drop_succ_cons,List.take_succ_cons,List.take_zero,List.getD_cons_zero,List.getD_cons_succ,Bool.true_and,Bool.and_self,Option.isSome_some,if_true,if_false,true_and,Nat.reduceAdd,Nat.reduceEqDiff,Nat.reduceLeDiff,reduceCtorEq,Bool.false_eq_true,Nat.zero_add,Nat.lt_add_one,zHi,zJA,Option.map_none,zBm,zCn,zD3,zBe,zGC,zCz,ks61,l1,x9,hsub,Int.toNat_natCast])))
 refine ⟨⟨by omega,by omega⟩,?_⟩
 (repeat (first | (refine yd ?_) | (refine zv ?_; simp -failIfUnchanged only [zI,zM]) | (refine yc ?_; simp -failIfUnchanged only [yB,zw,yR,z8]) | (refine yL ?_; simp -failIfUnchanged only [zt,zq,zI,zM,reduceIte]) | (refine zy ?_) | ((first | (refine yg polN ks61 _ rfl rfl ?_) | (refine yM polN mixed ks61 _ rfl rfl (by kernel_rfl) (by kernel_rfl) ?_)); simp only [↓xN,↓qP,↓jy,zI,zr,yA,yT,xA,yF,yC,if_true,if_false,Nat.reduceEqDiff,ks61])))
 refine ⟨rfl,?_⟩
 have hbl1:bl ∉ bs.take n:=fun hm=>by
  have h1:=(List.nodup_cons.1 hnd).2
  obtain ⟨j,hj,e⟩:=List.getElem_of_mem hm
  have hjn:j < n:=by rw [List.length_take] at hj; omega
  rw [List.getElem_take] at e
  have h2:bs[j]? = some bl:=by rw [<- e]; simp
  have h3:=(List.getElem?_inj (i:=j) (j:=n) (by omega) h1).1 (h2.trans hbl2.symm)
  omega
 have hc:=Mps.at l3 hbl2 (c:=trMC c) (by rw [List.getElem?_map,zK6 hn1 hl]; rfl)
 have hcb:b≠bl:=fun e=>(List.nodup_cons.1 hnd).1 (by rw [e]; exact List.mem_of_getElem? hbl2)
 have htk:(mcs bs).take n=mcs (bs.take n):=by simp [mcs]
 have hT:∀ (cs:List V×Nat) {B:Nat} {g:Gh} {w:World},Al.Inv B g ⟨lay s1.box b0 cs,s1.tg,s1.nx,s1.ob⟩ w->Al.Inv B g ⟨lay (lay s1.box b0 cs) b (mcs (bs.take n),cap),s1.tg,s1.nx,s1.ob⟩ w:=fun cs B g w hi=>by
  have:=Inv.trunc hi b n (cs:=mcs bs) (k:=cap) (by show Al.look (lay s1.box b0 _) b=_; rw [zW,if_neg hm2]; exact l2)
  rw [htk] at this; exact this
 refine ⟨zDM ⟨lay (lay s1.box b0 _) b (mcs (bs.take n),cap),s1.tg,s1.nx,s1.ob⟩ b (bs.take n) ((xs.map trMC).take n) cap,fun B g w hi=>Inv.pack (hT _ hi) ?_ ((List.nodup_cons.1 hnd).2.sublist (List.take_sublist n bs)) (Mps.take n l3),[_],[.inr b0,.ob b],[.ob bl],zBE (n:=n) (fp:=b::bs.take n) (b:=b) (cap:=cap) (m:=m) (by simp; omega) ?_ ?_,⟨_,[],[.ob bl],[],rfl,rfl,⟨bl,[bl],rfl,?_,rfl⟩,rfl,rfl⟩,by simp [hcb],rfl⟩
 · show Al.look (lay (lay s1.box b0 _) b _) b=_
   rw [zW,if_pos rfl]
 · show Al.look (wipe (lay (lay s1.box b0 _) b _) b) b0=_
   rw [yj,if_neg hb1,zW,if_neg hb1,zW,if_pos rfl]
 · rw [zAV,if_pos rfl]
   congr 2
   congr 1
   rw [List.dropLast_eq_take,List.map_take]; congr 1; omega
 · rw [zAV,if_neg hcb,if_neg hbl1]; exact hc
def qm:MT->Str->Option Int
 | [],_=>none
 | (k,v)::r,s=>if s=k then some v else qm r s
def jx:MT->Str->Int->MT
 | [],s,v=>[(s,v)]
 | (k,u)::r,s,v=>if s=k then (s,v)::r else (k,u)::jx r s v
theorem zN0 (s k:Str):((⟨s.toArray⟩:ByteArray) == ⟨k.toArray⟩)=decide (s=k):=by
 by_cases h:s=k
 · subst h; rw [zKN]; simp
 · cases e:((⟨s.toArray⟩:ByteArray) == ⟨k.toArray⟩) with
   | false=>simp [h]
   | true=>
    have h1:=congrArg (fun x:ByteArray=>x.data.toList) (ba_eq e)
    exact absurd h1 h
theorem zKQ:∀ (m:MT) (s:Str),mget (trMC m) ⟨s.toArray⟩=(qm m s).map fun z=>.at (.int .i64 z)
 | [],_=>rfl
 | (k,v)::r,s=>by
  show (if ((⟨s.toArray⟩:ByteArray) == ⟨k.toArray⟩)=true then some _ else mget (trMC r) ⟨s.toArray⟩)=_
  rw [zN0,zKQ r s]
  by_cases h:s=k <;> simp [qm,h]
theorem zKJ:∀ (m:MT) (s:Str) (z:Int),mput (trMC m) ⟨s.toArray⟩ (.at (.int .i64 z))=trMC (jx m s z)
 | [],_,_=>rfl
 | (k,v)::r,s,z=>by
  show (if ((⟨s.toArray⟩:ByteArray) == ⟨k.toArray⟩)=true then _ else _::mput (trMC r) ⟨s.toArray⟩ (.at (.int .i64 z)))=_
  rw [zN0,zKJ r s z]
  by_cases h:s=k <;> simp [jx,h,trMC]
theorem zDu {P:Program} {L:Pol} {ds:List (Option Nat)} {KP:List PanicEntry->S->Prop} {K:Env->S->Prop} {e:Env} {st:S} {d:Option Nat} {ty:TypeId} {pos:String} {af:Array Edge} {os:List Oper} (t:TypeId) (m k y:Operand) :
 AL P L ds KP (⟨d,.mapUpdate t m k y,ty,pos,af,none⟩::os) K e st=jb P st t (e.ev m) (e.ev k) (e.ev y) fun st'=>AL P L ds KP os K (e.putO d .any) st':=rfl
theorem zHR (a b:ByteArray) (K:V->Prop):aStr .eql a b K=K (.at (.bool (a.toList == b.toList))):=rfl
theorem zEq {P:Program} {L:Pol} {ds:List (Option Nat)} {KP:List PanicEntry->S->Prop} {K:Env->S->Prop} {e:Env} {st:S} {d:Option Nat} {ty:TypeId} {pos:String} {af:Array Edge} {os:List Oper} (t:TypeId) (x:Operand) :
 AL P L ds KP (⟨d,.makeInterface t x,ty,pos,af,none⟩::os) K e st=zDZ P t (e.ev x) fun v=>AL P L ds KP os K (e.putO d v) st:=rfl
theorem zMR {P:Program} {L:Pol} {ds:List (Option Nat)} {KP:List PanicEntry->S->Prop} {K:Env->S->Prop} {e:Env} {st:S} {d:Option Nat} {ty:TypeId} {pos:String} {af:Array Edge} {os:List Oper} (x:Operand) :
 AL P L ds KP (⟨d,.panic x,ty,pos,af,none⟩::os) K e st=zGK (e.ev x) fun c=>KP c st:=rfl
def c58 (a:Str×Bool×Unit):MM Unit:=fun _ s=>if a.1=[] then some (some ((),s)) else if s.2.length < 1000000 then match s.2.getLast? with
 | some m=>some (some ((),s.1,s.2.dropLast++[jx m a.1 (if a.2.1=true then 2 else 1)]))
 | none=>none else none
set_option maxRecDepth 100000 in
theorem ok58:CPOk CC Tryz.prog syn 58 (cM [.str,.bool] [] c58):=by
 refine zEH fun l i xs a o ho st vx va r1 r2 h1 h2 hn=>?_
 obtain ⟨nm,td,ua⟩:=a
 change Str at nm
 change Bool at td
 obtain ⟨b0,b,cap,fp,m,rfl,k1,k2,rfl⟩:=zBL h1
 simp only [VKs,VK] at h2
 obtain ⟨v1,w1,q1,q2,rfl,rfl,⟨rfl,rfl⟩,v2,w2,q3,q4,rfl,rfl,⟨rfl,rfl⟩,rfl,rfl⟩:=h2
 have hcell:trT CC ⟨id,id,id,id⟩ (.str nm:T UU) = .at (.string ⟨nm.toArray⟩):=rfl
 rw [hcell]
 simp only [List.append_nil] at hn ⊢
 have e1:=(ym st [.inr b0,.ob b] b0).1 (by simp)
 have e2:=(xJ st [.inr b0,.ob b] b).1 (by simp)
 rw [k1] at e1; rw [k2] at e2
 generalize subS st [.inr b0,.ob b]=s0 at e1 e2 ⊢
 simp only [c58] at ho
 by_cases hnm:nm=[]
 · rw [if_pos hnm] at ho
   injection ho with ho
   subst ho
   refine qo Tryz.func58 rfl Tryz.ntmps58 Tryz.results58 (by show 3<=24; decide) fun B=>?_
   simp only [List.cons_append,List.nil_append,List.append_nil,qn,Nat.reduceAdd]
   have hse:((⟨nm.toArray⟩:ByteArray).toList == (⟨#[]⟩:ByteArray).toList)=true:=by rw [hnm]; exact beq_self_eq_true _
   (repeat (first | (refine yd ?_) | (refine zv ?_; simp -failIfUnchanged only [zI,zM]) | (refine yc ?_; simp -failIfUnchanged only [yB,zw,yR,z8]) | (refine yL ?_; simp -failIfUnchanged only [zt,zq,zI,zM,reduceIte]) | (refine zy ?_) | ((first | (refine yg polN ks58 _ rfl rfl ?_) | (refine yM polN mixed ks58 _ rfl rfl (by kernel_rfl) (by kernel_rfl) ?_)); simp only [↓xN,↓qP,↓kv,zI,zr,yA,yT,xA,xR,zCN,yF,yC,zIY,if_true,if_false,Nat.reduceEqDiff,reduceCtorEq,ks58,zHB,zHR,hse])))
   refine ja rfl (fun _=>?_) (fun h=>by cases h)
   (repeat (first | (refine yd ?_) | (refine zv ?_; simp -failIfUnchanged only [zI,zM]) | (refine yc ?_; simp -failIfUnchanged only [yB,zw,yR,z8]) | (refine yL ?_; simp -failIfUnchanged only [zt,zq,zI,zM,reduceIte]) | (refine zy ?_) | ((first | (refine yg polN ks58 _ rfl rfl ?_) | (refine yM polN mixed ks58 _ rfl rfl (by kernel_rfl) (by kernel_rfl) ?_)); simp only [])))
   unfold yl
   exact ⟨[],[.inr b0,.ob b],[],zBE rfl e1 e2,⟨rfl,rfl⟩,by simp,rfl⟩
 · rw [if_neg hnm] at ho
   split at ho
   rotate_left
   · cases ho
   rename_i hlen
   cases hl:xs.getLast? with
   | none=>rw [hl] at ho; cases ho
   | some c=>
   rw [hl] at ho
   injection ho with ho
   subst ho
   have hse:((⟨nm.toArray⟩:ByteArray).toList == (⟨#[]⟩:ByteArray).toList)=false:=by
    have h1:(⟨nm.toArray⟩:ByteArray).toList=nm:=zAi nm
    have h2:(⟨#[]⟩:ByteArray).toList=[]:=zAi []
    rw [h1,h2]
    cases nm <;> first | exact absurd rfl hnm | rfl
   refine zKg e1 e2 fun bs s1 hnd hbl hcap hm2 hm3 l1 l2 l3 l4=>?_
   rw [List.length_map] at hbl
   have hxl:0 < xs.length:=by cases xs <;> simp at hl ⊢
   refine qo Tryz.func58 rfl Tryz.ntmps58 Tryz.results58 (by show 3<=24; decide) fun B=>?_
   have hb1:¬ b=b0:=Ne.symm hm2
   simp only [List.cons_append,List.nil_append,List.append_nil,qn,Nat.reduceAdd]
   obtain ⟨n,hn1⟩:∃ n,n+1=xs.length:=⟨xs.length - 1,by omega⟩
   have hsub:IntKind.i64.wrap ((xs.length:Int) - 1)=(n:Int):=by rw [IntWalk.i64_in _ (by omega)]; omega
   have z1:0+((n:Int).toNat) * 1=n:=by omega
   obtain ⟨bl,hbl2⟩:∃ bl,bs[n]? = some bl:=⟨bs[n]'(by omega),by simp⟩
   have hp1:yh Tryz.prog 63 (mcs bs) n:=⟨zBm,by rw [zAN]; simp only [mcs,List.length_map]; omega,fun _=>zAN⟩
   have hp2:(mcs bs).getD n .any = .at (.map (some bl)):=by
    rw [List.getD_eq_getElem?_getD]
    simp [mcs,hbl2]
   have hc:=Mps.at l3 hbl2 (c:=trMC c) (by rw [List.getElem?_map,zK6 hn1 hl]; rfl)
   have hmap:∀ (z:Int) (s2:S),s2.box=s1.box->s2.tg=s1.tg->s2.nx=s1.nx->s2.ob=(bl,.mp (mput (trMC c) ⟨nm.toArray⟩ (.at (.int .i64 z))),[bl])::s1.ob->z=(if td=true then 2 else 1) ->
    ∃ s3,(∀ (B:Nat) (g:Gh) (w:World),Al.Inv B g s2 w->Al.Inv B g s3 w)/\jZ CC syn [parK] [] [V.at (Value.pointer (some { block:=b0,off:=0 }))] (Option.map (fun y=>(((l,y.snd.fst,y.snd.snd,(),()),()),y.fst)) (some ((),i,xs.dropLast++[jx c nm (if td=true then 2 else 1)]))) (Outc.ret (finV [])) s3:=by
    intro z s2 q1 q2 q3 q4 q5
    have hM:Mps s2.ob bs ((xs.dropLast++[jx c nm z]).map trMC):=by
     have key:∀ (bs:List Nat) (ys:List MC) (n:Nat),bs.Nodup->Mps s1.ob bs ys->bs[n]? = some bl->n+1=ys.length->Mps s2.ob bs (ys.dropLast++[trMC (jx c nm z)]):=by
      intro bs
      induction bs with
      | nil=>intro ys n _ _ h; simp at h
      | cons j bs ih=>
       rintro _ n hnd ⟨d,ds,rfl,h1,h2⟩ h3 h4
       obtain ⟨h5,h6⟩:=List.nodup_cons.1 hnd
       cases n with
       | zero=>
        have h7:ds=[]:=by cases ds <;> simp at h4 ⊢
        subst h7
        simp at h3; subst h3
        refine ⟨_,[],rfl,?_,?_⟩
        · rw [q4,z7,if_pos rfl,zKJ]
        · have:=h2.length
          have h8:bs=[]:=by cases bs <;> simp at this ⊢
          subst h8; rfl
       | succ n=>
        have h7:ds≠[]:=by rintro rfl; simp at h4
        have h3':bs[n]? = some bl:=by simpa using h3
        have hne:¬ bl=j:=fun e=>h5 (by rw [<- e]; exact List.mem_of_getElem? h3')
        refine ⟨d,ds.dropLast++[trMC (jx c nm z)],by rw [List.dropLast_cons_of_ne_nil h7]; rfl,?_,ih ds n h6 h2 h3' (by simpa using h4)⟩
        rw [q4,z7,if_neg hne]; exact h1
     have:=key bs (xs.map trMC) n (List.nodup_cons.1 hnd).2 l3 hbl2 (by simpa using hn1)
     rw [List.map_append,List.map_dropLast]
     exact this
    subst q5
    refine ⟨zDM s2 b bs ((xs.dropLast++[jx c nm (if td=true then 2 else 1)]).map trMC) cap,fun B g w hi=>Inv.pack hi (by rw [q1]; exact l2) (List.nodup_cons.1 hnd).2 hM,[],[.inr b0,.ob b],[],zBE (n:=xs.length) (fp:=b::bs) (b:=b) (cap:=cap) (m:=m) (by simp; omega) ?_ ?_,⟨rfl,rfl⟩,by simp,rfl⟩
    · show Al.look (wipe s2.box b) b0=_
      rw [yj,if_neg hb1,q1]; exact l1
    · rw [zAV,if_pos rfl]
   (repeat (first | (refine yd ?_) | (refine zv ?_; simp -failIfUnchanged only [zI,zM]) | (refine yc ?_; simp -failIfUnchanged only [yB,zw,yR,z8]) | (refine yL ?_; simp -failIfUnchanged only [zt,zq,zI,zM,reduceIte]) | (refine zy ?_) | ((first | (refine yg polN ks58 _ rfl rfl ?_) | (refine yM polN mixed ks58 _ rfl rfl (by kernel_rfl) (by kernel_rfl) ?_)); simp only [↓xN,↓qP,↓kv,zI,zr,yA,yT,xA,xR,zCN,yF,yC,zIY,if_true,if_false,Nat.reduceEqDiff,reduceCtorEq,ks58,zHB,zHR,hse])))
   refine ja rfl (fun h=>by cases h) (fun _=>?_)
   (repeat (first | (refine yd ?_) | (refine zv ?_; simp -failIfUnchanged only [zI,zM]) | (refine yc ?_; simp -failIfUnchanged only [yB,zw,yR,z8]) | (refine yL ?_; simp -failIfUnchanged only [zt,zq,zI,zM,reduceIte]) | (refine zy ?_) | ((first | (refine yg polN ks58 _ rfl rfl ?_) | (refine yM polN mixed ks58 _ rfl rfl (by kernel_rfl) (by kernel_rfl) ?_)); simp only [↓xN,↓qP,↓jy,zI,zr,yA,yT,xA,xR,kE,yF,yC,if_true,if_false,Nat.reduceEqDiff,reduceCtorEq,ks58])))
   refine ja rfl (fun ht=>?_) (fun ht=>?_)
   · subst ht
     (repeat (first | (refine yd ?_) | (refine zv ?_; simp -failIfUnchanged only [zI,zM]) | (refine yc ?_; simp -failIfUnchanged only [yB,zw,yR,z8]) | (refine yL ?_; simp -failIfUnchanged only [zt,zq,zI,zM,reduceIte]) | (refine zy ?_) | ((first | (refine yg polN ks58 _ rfl rfl ?_) | (refine yM polN mixed ks58 _ rfl rfl (by kernel_rfl) (by kernel_rfl) ?_)); simp only [↓xN,↓qP,↓jy,↓kv,↓xP,↓kO,↓qO,↓qN,↓zB5,zI,zr,yA,yT,xA,xR,kE,yF,yC,qW,zDA,zAe,xp,xU,xI,yw,xQ,qS,kD,implies_true,List.map_cons,List.map_nil,and_self,yh,yV,List.length_cons,List.length_nil,List.drop_zero,List.drop_succ_cons,List.take_succ_cons,List.take_zero,List.getD_cons_zero,List.getD_cons_succ,Bool.and_true,Bool.true_and,Bool.and_self,Option.isSome_some,if_true,if_false,and_true,true_and,Nat.reduceAdd,Nat.reduceEqDiff,Nat.reduceLeDiff,reduceCtorEq,Bool.false_eq_true,Nat.zero_add,Nat.lt_add_one,zBm,zJU,zAN,zCn,zD3,zBe,zGC,zCz,ks58,l1,l2,x9,hsub,hp2,Int.toNat_natCast,zDu,Nat.mul_one])))
     refine ⟨⟨by omega,by omega⟩,by simp only [mcs,List.length_map]; omega,?_⟩
     unfold jb
     rw [show mapT Tryz.prog 63=some 3 from by kernel_rfl]
     simp only
     rw [hc]
     exact ⟨rfl,hmap 2 _ rfl rfl rfl rfl rfl⟩
   · subst ht
     (repeat (first | (refine yd ?_) | (refine zv ?_; simp -failIfUnchanged only [zI,zM]) | (refine yc ?_; simp -failIfUnchanged only [yB,zw,yR,z8]) | (refine yL ?_; simp -failIfUnchanged only [zt,zq,zI,zM,reduceIte]) | (refine zy ?_) | ((first | (refine yg polN ks58 _ rfl rfl ?_) | (refine yM polN mixed ks58 _ rfl rfl (by kernel_rfl) (by kernel_rfl) ?_)); simp only [↓xN,↓qP,↓kv,↓xP,↓kO,↓qO,↓qN,↓zB5,zr,yA,yT,xA,xR,kE,yC,qW,zDA,zAe,xp,xU,xI,yw,xQ,qS,kD,implies_true,List.map_cons,List.map_nil,and_self,yh,yV,List.length_cons,List.length_nil,List.drop_zero,List.drop_succ_cons,List.take_succ_cons,List.take_zero,List.getD_cons_zero,List.getD_cons_succ,Bool.and_true,Bool.true_and,Bool.and_self,Option.isSome_some,if_true,if_false,and_true,true_and,Nat.reduceAdd,Nat.reduceEqDiff,Nat.reduceLeDiff,reduceCtorEq,Bool.false_eq_true,Nat.zero_add,Nat.lt_add_one,zBm,zJU,zAN,zCn,zD3,zBe,zGC,zCz,ks58,l1,l2,x9,hsub,hp2,Int.toNat_natCast,zDu,Nat.mul_one])))
     refine ⟨⟨by omega,by omega⟩,by simp only [mcs,List.length_map]; omega,?_⟩
     unfold jb
     rw [show mapT Tryz.prog 63=some 3 from by kernel_rfl]
     simp only
     rw [hc]
     exact ⟨rfl,hmap 1 _ rfl rfl rfl rfl rfl⟩
theorem ok77:CPOk CC Tryz.prog syn 77 xq:=by
 intro x a R pan K r hr
 obtain ⟨b,ua⟩:=a
 change Bool at b
 replace hr:cond b (K () ()) pan=some r:=hr
 have run:∀ (s:S),FnC Tryz.prog 77 [.at (.bool b)] s (jZ CC syn ([]:LK) ([]:LK) [] (if b=true then some ((),()) else none)):=by
  intro s
  refine qo Tryz.func77 rfl Tryz.ntmps77 Tryz.results77 (by show 1<=6; decide) fun B=>?_
  simp only [List.cons_append,List.nil_append,List.append_nil,qn,Nat.reduceAdd]
  (repeat (first | (refine yd ?_) | (refine zv ?_; simp -failIfUnchanged only [zI,zM]) | (refine yc ?_; simp -failIfUnchanged only [yB,zw,yR,z8]) | (refine yL ?_; simp -failIfUnchanged only [zt,zq,zI,zM,reduceIte]) | (refine zy ?_) | ((first | (refine yg polN ks77 _ rfl rfl ?_) | (refine yM polN mixed ks77 _ rfl rfl (by kernel_rfl) (by kernel_rfl) ?_)); simp only [↓xN,↓qP,↓AL_un,zI,zr,yA,yT,xA,yF,yC,zQw,if_true,if_false,Nat.reduceEqDiff,reduceCtorEq,ks77])))
  refine ja rfl (fun h=>?_) (fun h=>?_)
  · have hb:b=false:=by cases b <;> simp at h ⊢
    subst hb
    (repeat (first | (refine yd ?_) | (refine zv ?_; simp -failIfUnchanged only [zI,zM]) | (refine yc ?_; simp -failIfUnchanged only [yB,zw,yR,z8]) | (refine yL ?_; simp -failIfUnchanged only [zt,zq,zI,zM,reduceIte]) | (refine zy ?_) | ((first | (refine yg polN ks77 _ rfl rfl ?_) | (refine yM polN mixed ks77 _ rfl rfl (by kernel_rfl) (by kernel_rfl) ?_)); simp only [↓zOg,zr,yA,yT,xA,yC,zNY,zKA,zIU,zNN,List.map_cons,List.map_nil,Bool.true_and,if_true,if_false,true_and,Nat.reduceEqDiff,Bool.false_eq_true,zMz,zero61,ks77,zEq,zMR])))
    refine ⟨by kernel_rfl,?_⟩
    rfl
  · have hb:b=true:=by cases b <;> simp at h ⊢
    subst hb
    refine zv ?_
    exact ⟨[],[],[],⟨rfl,rfl⟩,⟨rfl,rfl⟩,by simp,rfl⟩
 cases b with
 | true=>
  refine ⟨some ((),()),hr,fun s vx va r1 r2 h1 h2 hn=>?_⟩
  simp only [VKs,VK] at h1 h2
  obtain ⟨rfl,rfl⟩:=h1
  obtain ⟨v,w,q1,q2,rfl,rfl,⟨rfl,rfl⟩,rfl,rfl⟩:=h2
  exact run _
 | false=>
  refine ⟨none,hr,fun s vx va r1 r2 h1 h2 hn=>?_⟩
  simp only [VKs,VK] at h1 h2
  obtain ⟨rfl,rfl⟩:=h1
  obtain ⟨v,w,q1,q2,rfl,rfl,⟨rfl,rfl⟩,rfl,rfl⟩:=h2
  exact run _
theorem ok41:ConOk CC Tryz.prog 41 ⟨as41,rs41,fun x=>some (Nd.mk x.1 0 x.2.1,())⟩:=con41 0
abbrev zEQ:Pol:=⟨fun f=>f == 41,fun _=>false,fun _=>false,fun _=>false,[],fun _=>[]⟩
set_option maxRecDepth 100000 in
theorem ok38:CROk CC Tryz.prog 38 zO:=by
 intro x R K r hr
 obtain ⟨⟨pts,u⟩,k,u'⟩:=x
 change List Nd at pts
 change Int at k
 refine ⟨(Nd.mk k 0 pts,()),hr,fun s va q hv hn=>?_⟩
 simp only [VKs,VK] at hv
 obtain ⟨v,w,q1,q2,rfl,rfl,⟨b0,cs,q3,rfl,e1,⟨v2,w2,q4,q5,rfl,rfl,⟨n,rfl,hn1,hn2,rfl⟩,rfl,rfl⟩,rfl⟩,v3,w3,q6,q7,rfl,rfl,⟨rfl,rfl⟩,rfl,rfl⟩:=hv
 refine ⟨[zx (Nd.mk k 0 pts)],fun s'=>⟨_,[],[],[],rfl,rfl,⟨rfl,rfl⟩,rfl,rfl⟩,?_⟩
 have e2:=(ym s [.inr b0,.inl n] b0).1 (by simp)
 rw [e1] at e2
 show FnC Tryz.prog 38 _ (subS s [.inr b0,.inl n]) fun oc s'=>oc = .ret (finV [zx (Nd.mk k 0 pts)])/\s' = subS s [.inr b0,.inl n]
 generalize subS s [.inr b0,.inl n]=s0 at e2 ⊢
 have hp:xr Tryz.prog 41 [.at (.int .i64 k),.lst (zi (pts.map (CC.encV TI.node))) (pts.map (CC.encV TI.node))] (zx (Nd.mk k 0 pts)):=by
  have h:=ok41 (k,pts,()) (Nd.mk k 0 pts,()) rfl [.at (.int .i64 k),.lst (zi (pts.map (CC.encV TI.node))) (pts.map (CC.encV TI.node))] ⟨_,_,rfl,rfl,⟨_,_,rfl,rfl,rfl⟩⟩
  have e:finV ((xL CC rs41 (fun _=>false) 0 (Nd.mk k 0 pts,())).map (trT CC ⟨id,id,id,id⟩))=zx (Nd.mk k 0 pts):=CCok.enc _ TI.node (Nd.mk k 0 pts)
  exact e ▸ h
 refine zFE ?_
 refine qo Tryz.func38 rfl Tryz.ntmps38 Tryz.results38 (by show 2<=11; decide) fun B=>?_
 simp only [List.cons_append,List.nil_append,List.append_nil,qn,Nat.reduceAdd]
 (repeat (first | (refine yd ?_) | (refine zv ?_; simp -failIfUnchanged only [zI,zM]) | (refine yc ?_; simp -failIfUnchanged only [yB,zw,yR,z8]) | (refine yL ?_; simp -failIfUnchanged only [zt,zq,zI,zM,reduceIte]) | (refine zy ?_) | ((first | (refine yg zEQ ks38 _ rfl rfl ?_) | (refine yM zEQ mixed ks38 _ rfl rfl (by kernel_rfl) (by kernel_rfl) ?_)); simp only [↓xN,↓zOr,zI,zr,yA,yT,yF,yC,zN4,zJv,if_true,if_false,Nat.reduceEqDiff,reduceCtorEq,zJJ,ks38])))
 refine ⟨rfl,fun b hb=>?_⟩
 have hbb:¬ b=b0:=fun e=>by rw [e,e2] at hb; cases hb
 have hbb':¬ b0=b:=fun e=>hbb e.symm
 (repeat (first | (refine yd ?_) | (refine zv ?_; simp -failIfUnchanged only [zI,zM]) | (refine yc ?_; simp -failIfUnchanged only [yB,zw,yR,z8]) | (refine yL ?_; simp -failIfUnchanged only [zt,zq,zI,zM,reduceIte]) | (refine zy ?_) | ((first | (refine yg zEQ ks38 _ rfl rfl ?_) | (refine yM zEQ mixed ks38 _ rfl rfl (by kernel_rfl) (by kernel_rfl) ?_)); simp only [↓qP,↓xP,↓qO,↓qN,zI,zEt,zr,yA,yT,xA,yF,yC,xp,xU,xI,yw,xQ,implies_true,List.map_cons,List.map_nil,and_self,yh,yV,List.length_cons,List.length_nil,List.drop_zero,List.take_succ_cons,List.take_nil,List.getD_cons_zero,Bool.true_and,Bool.and_self,if_true,if_false,true_and,Nat.reduceAdd,Nat.reduceEqDiff,reduceCtorEq,Bool.false_eq_true,Nat.zero_add,Nat.add_zero,Nat.le_refl,Nat.lt_add_one,zW,zEK,zIj,zCg,zPp,ks38,e2,hbb])))
 (refine zPK hp rfl code41 (by simp only [List.map_cons,List.map_nil,xA,xR,kE,zKI,zCN,zNX,zr,jV,yA,yT,if_true,if_false,Nat.reduceEqDiff,reduceIte,reduceCtorEq,zJ1,zJY,zLf,zMi,zMN,zOh,zNM,zEE,zB1,zD4,zLm,zN7,zC6]) (by simp only [List.map_cons,List.map_nil,List.all_cons,List.all_nil,xA,xR,kE,zKI,zCN,zNX,zr,jV,yA,yT,if_true,if_false,Nat.reduceEqDiff,reduceIte,reduceCtorEq,zKC,zH9,zHd,zIg,V.isOne,Bool.and_self,Bool.and_true]) ?_; simp only [↓xN,↓zAt,zr,jV,yA,yT,xA,kY,qL,spl,List.nil_append,zK,V.flat,List.length_cons,List.length_nil,List.take_zero,Bool.true_and,if_true,if_false,true_and,Nat.reduceAdd,Nat.reduceEqDiff,reduceCtorEq,Nat.zero_add,zW,zDy,zBg])
 simp only [kK,sl]
 refine ⟨rfl,rfl,Nat.le_refl _,?_⟩
 (repeat (first | (refine yd ?_) | (refine zv ?_; simp -failIfUnchanged only [zI,zM]) | (refine yc ?_; simp -failIfUnchanged only [yB,zw,yR,z8]) | (refine yL ?_; simp -failIfUnchanged only [zt,zq,zI,zM,reduceIte]) | (refine zy ?_) | ((first | (refine yg zEQ ks38 _ rfl rfl ?_) | (refine yM zEQ mixed ks38 _ rfl rfl (by kernel_rfl) (by kernel_rfl) ?_)); simp only [])))
 unfold yl
 rw [show Env.get [(4,V.at (Value.pointer (some ⟨b,0,none⟩)))] 4=V.at (Value.pointer (some ⟨b,0,none⟩)) from rfl,xU,zW,if_pos rfl,xI]
 refine ⟨⟨zDy,by rw [zBg]; exact Nat.le_refl _,fun h=>by rw [zEL] at h; cases h⟩,?_⟩
 have hpv:∀ a b c:V,yV Tryz.prog 29 [a,b,c] 0 = .agg [a,b,c]:=fun a b c=>by
  unfold yV
  rw [if_pos zEL,zBg]; rfl
 simp only [List.cons_append,List.nil_append,List.length_cons,List.length_nil,List.drop_succ_cons,List.drop_zero,List.append_nil,List.drop_nil,Nat.zero_add,Nat.reduceAdd,hpv]
 refine ⟨rfl,?_⟩
 unfold yl
 refine ⟨s0,fun B g w hi=>hi.weaken ⟨fun j c hj=>?_,fun _ hm=>hm,fun hn=>hn,fun j hj=>?_,Nat.le_refl _,fun _ _ h=>h⟩,?_,rfl⟩
 · have:¬ b=j:=fun e=>by rw [<- e,hb] at hj; cases hj
   show Al.look (lay (lay s0.box b _) b _) j=_
   rw [zW,if_neg this,zW,if_neg this]; exact hj
 · replace hj:Al.look (lay (lay s0.box b _) b _) j=none:=hj
   rw [zW] at hj
   split at hj
   · cases hj
   · rename_i h; rw [zW,if_neg h] at hj; exact hj
 · simp only [finV,V.untag,List.map_cons,List.map_nil,zAv]
   rfl
end Go.Proofs.YtnamdpbcpnnhaaaGreatDoor
end
section
set_option linter.unusedVariables false
set_option linter.unusedSimpArgs false
namespace Go.Proofs.YtnamdpbcpnnhaaaGreatDoor
open Go.Al Go.Den
def kf17:Nat->List Nat
 | 0=>[0,2,3,4]
 | 1=>[0,2,3,4,8]
 | 2=>[0,2,3,4]
 | 3=>[0,2,3]
 | 4=>[0,2,3,4]
 | 5=>[0,2,3,4,5]
 | 6=>[0,2,3,4,5,22]
 | 7=>[0,2,3,4,5]
 | 8=>[0,2,3,4]
 | _=>[]
def hd17:List (Nat×Head UU):=[(6,⟨[0,2,3,4,5],[],[(4,parK),(5,ptsK)]⟩)]
def jn17:List (Nat×Head UU):=[]
noncomputable def fd17:FD UU:=⟨⟨fun d=>hasN [] d,fun d=>hasN [] d,kf17,zB hd17,zB jn17,zf []⟩,zZ Tryz.f17,28,[.cell 2 29,.cell 3 30]⟩
noncomputable def zId:Code:=match zZ Tryz.f17 with
 | .seq _ (.seq _ (.seq _ (.seq _ (.seq _ (.seq (.block _ c) _)))))=>c
 | _=>.skip
abbrev k17:LK:=[.dl TI.tok,parK,ptsK]
noncomputable def run17 (fu:Nat) (v2 v3:Value) (c37:zA ([.bool]:LK)->MM (zA ([.st TI.node]:LK))) (x:zA k17):Option (Option (zA ([parK,ptsK]:LK))):=
 runQ CC Tb fu 3 (zB [(36,fd36)]) (zB []) (zB [(38,zO)]) (zB [(37,cM ([.bool]:LK) ([.st TI.node]:LK) c37)]) fd17.fi zId [(2,v2),(3,v3)] false [0,4,5] [4,5] k17 ([parK,ptsK]:LK) x
noncomputable def rest17b:Code:=match zZ Tryz.f17 with
 | .seq _ (.seq _ (.seq _ (.seq _ (.seq _ (.seq _ c)))))=>c
 | _=>.skip
abbrev k17b:LK:=[.box [.int .i64,.int .i64,.dl TI.node],.box [.int .i64],ptsK]
abbrev k17c:LK:=[.box [.int .i64,.int .i64,.dl TI.node],.box [.int .i64]]
noncomputable def zM1 (x:zA k17b):Option (Option (zA k17c)):=
 runQ CC Tb 0 2 (zB []) (zB []) (zB [(38,zO)]) (zB []) fd17.fi rest17b [] true [2,3,5] [2,3] k17b k17c x
theorem zMs:FDOk Tryz.prog (hasN []) (hasN [38]) 36 fd36:=⟨⟨Tryz.f36,Tryz.func36,by kernel_rfl,Tryz.ntmps36,Tryz.results36⟩,by kernel_rfl,by kernel_rfl,by kernel_rfl⟩
end Go.Proofs.YtnamdpbcpnnhaaaGreatDoor
end
section
set_option linter.unusedVariables false
set_option linter.unusedSimpArgs false
namespace Go.Proofs.YtnamdpbcpnnhaaaGreatDoor
open Go.Al Go.Den
def sh17 (fu:Nat) (v2:Go.Value) (v3:Go.Value) (c37:(Bool×Unit)->MM (Nd×Unit)) (x:(LT×(ParT×(NdsT×Unit)))):(Option (Option (ParT×(NdsT×Unit)))):=iter fu (fun (rec1:(Unit×(ParT×(NdsT×Unit)))->Option (Option (ParT×(NdsT×Unit)))) (s1:(Unit×(ParT×(NdsT×Unit))))=>cond (ilt s1.2.1.2.1 (lenI x.1)) (bo (c37 (true,()) s1.2.1.1 (s1.2.1.2.1,s1.2.1.2.2.1)) fun y1=>cond (okN 40 ((List.length s1.2.2.1.1)+(List.length [(ndE y1.1.1)]))) (rec1 ((),((s1.2.1.1,(y1.2.1,(y1.2.2,((),())))),(((s1.2.2.1.1++[(ndE y1.1.1)]),()),())))) (none)) (some (some ((s1.2.1.1,(s1.2.1.2.1,(s1.2.1.2.2.1,((),())))),((s1.2.2.1.1,()),()))))) ((),((x.2.1.1,(x.2.1.2.1,(x.2.1.2.2.1,((),())))),((x.2.2.1.1,()),())))
theorem eq17:@run17 = @sh17:=by kernel_rfl
def sh17r (x:(JT×((Int×Unit)×(NdsT×Unit)))):(Option (Option (JT×((Int×Unit)×Unit)))):=some (some (((Nd.kind (Nd.mk 1 0 x.2.2.1.1)),((Nd.tok (Nd.mk 1 0 x.2.2.1.1)),((Nd.kids (Nd.mk 1 0 x.2.2.1.1)),()))),((0,()),())))
theorem eq17r:@zM1 = @sh17r:=by kernel_rfl
end Go.Proofs.YtnamdpbcpnnhaaaGreatDoor
end
section
set_option linter.unusedVariables false
set_option linter.unusedSimpArgs false
namespace Go.Proofs.YtnamdpbcpnnhaaaGreatDoor
open Go.RowKit Go.Al
theorem idle35 (p q:Addr) (w:World) :
 CallsD Tryz.prog 35 #[.pointer (some p),.pointer (some q)] .returning w fun e u' w'=>e = .returned (.tuple #[])/\u' = .returning/\w' = w:=by
 refine callsD_of_wpS Tryz.func35 rfl fun c₀ cs hu=>?_
 apply wpS_seq
 apply wpS_region
 simp [wpOpsS,go_sem,recoverD,hu,Tryz.ntmps35,Exit.thenS]
 refine wpS_of_wp ?_
 have hnil:∀ w:World,(binOp BinOp.eql 20 .nilIface .nilIface).run Tryz.prog w = .ok (.bool true) w:=fun _=>by kernel_rfl
 go_wp2
 cases c₀
 simp_all [bodyPostS,results,Tryz.results35]
set_option maxRecDepth 100000 in
theorem syn35 (p q:Nat) (x0 x1 x2 y0:Value) (tp tq:TypeId) (older:List PanicEntry) (w:World) (hp:w.heap[p]? = some (.cells #[x0,x1,x2] tp (0,0))) (hq:w.heap[q]? = some (.cells #[y0] tq (0,0))) (hpq:p≠q) :
 CallsD Tryz.prog 35 #[.pointer (some ⟨p,0,none⟩),.pointer (some ⟨q,0,none⟩)] (.panicking ({ v:=.iface 61 (.agg #[]),recovered:=false }::older)) w fun e u' w'=>e = .returned (.tuple #[])/\u' = .panicking ({ v:=.iface 61 (.agg #[]),recovered:=true }::older) /\
  w.heap.size<=w'.heap.size/\w'.heap[p]? = some (.cells #[.int .i64 0,.int .i64 0,.slice none 0 0] tp (0,0))/\w'.heap[q]? = some (.cells #[.int .i64 160] tq (0,0))/\(∀ j,j < w.heap.size->j≠p->j≠q->w'.heap[j]? = w.heap[j]?)/\w'.os=w.os/\w'.tape=w.tape/\w'.output=w.output:=by
 refine callsD_of_wpS Tryz.func35 rfl fun c₀ cs hu=>?_
 apply wpS_seq
 apply wpS_region
 simp [wpOpsS,go_sem,recoverD,hu,Tryz.ntmps35,Exit.thenS]
 refine wpS_of_wp ?_
 have hcp0:w.cell? ⟨p,0,none⟩=some x0:=by simp [World.cell?,hp]
 have hcp1:w.cell? ⟨p,1,none⟩=some x1:=by simp [World.cell?,hp]
 have hcp2:w.cell? ⟨p,2,none⟩=some x2:=by simp [World.cell?,hp]
 have hcq:w.cell? ⟨q,0,none⟩=some y0:=by simp [World.cell?,hq]
 have hfp:∀ o,w.frozen? ⟨p,o,none⟩=false:=fun o=>by simp [World.frozen?,hp]
 have hfq:w.frozen? ⟨q,0,none⟩=false:=by simp [World.frozen?,hq]
 have hta:∀ w:World,(Instr.typeAssert (.iface 61 (.agg #[])) 20 61 true).run Tryz.prog w = .ok (.tuple #[.agg #[],.bool true]) w:=fun _=>by kernel_rfl
 have lp:=(Array.getElem?_eq_some_iff.1 hp).1
 have lq:=(Array.getElem?_eq_some_iff.1 hq).1
 have hp1:(w.alloc (.cells #[] 61)).heap[p]? = some (.cells #[x0,x1,x2] tp (0,0)):=(Below.heap_alloc _ _ _ lp).trans hp
 have hq1:(w.alloc (.cells #[] 61)).heap[q]? = some (.cells #[y0] tq (0,0)):=(Below.heap_alloc _ _ _ lq).trans hq
 obtain ⟨W1,hW1⟩:∃ W1,w.alloc (.cells #[] 61)=W1:=⟨_,rfl⟩
 rw [hW1] at hp1 hq1
 have sc:∀ (W:World) (k i:Nat) (v:Value) (c:Array Value) (t:TypeId) (m:Nat×Nat),W.heap[k]? = some (.cells c t m)->(W.setCell ⟨k,i,none⟩ v).heap[k]? = some (.cells (c.setIfInBounds i v) t m):=by
  intro W k i v c t m h
  show (W.heap.modify k _)[k]? = _
  obtain ⟨hlt,hk⟩:=Array.getElem?_eq_some_iff.1 h
  rw [Array.getElem?_eq_getElem (by rw [Array.size_modify]; exact hlt),Array.getElem_modify_self,hk]
  rfl
 have so:∀ (W:World) (k i:Nat) (v:Value) (j:Nat),j≠k->(W.setCell ⟨k,i,none⟩ v).heap[j]? = W.heap[j]?:=fun W k i v j hj=>Below.heap_setCell _ _ _ j hj
 have sz:∀ (W:World) (k i:Nat) (v:Value),(W.setCell ⟨k,i,none⟩ v).heap.size=W.heap.size:=fun W k i v=>by show (W.heap.modify k _).size=_; simp
 have a1:(W1.setCell ⟨p,0,none⟩ (.int .i64 0)).heap[p]? = some (.cells #[.int .i64 0,x1,x2] tp (0,0)):=sc W1 p 0 _ _ _ _ hp1
 have a2:((W1.setCell ⟨p,0,none⟩ (.int .i64 0)).setCell ⟨p,1,none⟩ (.int .i64 0)).heap[p]? = some (.cells #[.int .i64 0,.int .i64 0,x2] tp (0,0)):=sc _ p 1 _ _ _ _ a1
 have a3:(((W1.setCell ⟨p,0,none⟩ (.int .i64 0)).setCell ⟨p,1,none⟩ (.int .i64 0)).setCell ⟨p,2,none⟩ (.slice none 0 0)).heap[p]? = some (.cells #[.int .i64 0,.int .i64 0,.slice none 0 0] tp (0,0)):=sc _ p 2 _ _ _ _ a2
 have q3:(((W1.setCell ⟨p,0,none⟩ (.int .i64 0)).setCell ⟨p,1,none⟩ (.int .i64 0)).setCell ⟨p,2,none⟩ (.slice none 0 0)).heap[q]? = some (.cells #[y0] tq (0,0)):=by
  rw [so _ _ _ _ _ (Ne.symm hpq),so _ _ _ _ _ (Ne.symm hpq),so _ _ _ _ _ (Ne.symm hpq)]; exact hq1
 have b0:W1.cell? ⟨p,0,none⟩=some x0:=by simp [World.cell?,hp1]
 have f0:W1.frozen? ⟨p,0,none⟩=false:=by simp [World.frozen?,hp1]
 have b1:(W1.setCell ⟨p,0,none⟩ (.int .i64 0)).cell? ⟨p,1,none⟩=some x1:=by simp [World.cell?,a1]
 have f1:(W1.setCell ⟨p,0,none⟩ (.int .i64 0)).frozen? ⟨p,1,none⟩=false:=by simp [World.frozen?,a1]
 have b2:((W1.setCell ⟨p,0,none⟩ (.int .i64 0)).setCell ⟨p,1,none⟩ (.int .i64 0)).cell? ⟨p,2,none⟩=some x2:=by simp [World.cell?,a2]
 have f2:((W1.setCell ⟨p,0,none⟩ (.int .i64 0)).setCell ⟨p,1,none⟩ (.int .i64 0)).frozen? ⟨p,2,none⟩=false:=by simp [World.frozen?,a2]
 have b3:(((W1.setCell ⟨p,0,none⟩ (.int .i64 0)).setCell ⟨p,1,none⟩ (.int .i64 0)).setCell ⟨p,2,none⟩ (.slice none 0 0)).cell? ⟨q,0,none⟩=some y0:=by simp [World.cell?,q3]
 have f3:(((W1.setCell ⟨p,0,none⟩ (.int .i64 0)).setCell ⟨p,1,none⟩ (.int .i64 0)).setCell ⟨p,2,none⟩ (.slice none 0 0)).frozen? ⟨q,0,none⟩=false:=by simp [World.frozen?,q3]
 have ho1:∀ j,j < w.heap.size->W1.heap[j]? = w.heap[j]?:=fun j hj=>by rw [<- hW1]; exact Below.heap_alloc _ _ _ hj
 have hs1:W1.heap.size=w.heap.size+1:=by rw [<- hW1]; simp
 have hos:W1.os=w.os/\W1.tape=w.tape/\W1.output=w.output:=by rw [<- hW1]; exact ⟨rfl,rfl,rfl⟩
 go_wp2
 refine ⟨rfl,.panicking ({ v:=.iface 61 (.agg #[]),recovered:=true }::older),by simp [hu],_,results_none rfl _ _ _,rfl,rfl,?_⟩
 refine ⟨by rw [sz,sz,sz,sz,hs1]; omega,?_,sc _ q 0 _ _ _ _ q3,fun j h1 h2 h3=>?_,hos⟩
 · rw [so _ _ _ _ _ hpq]; exact a3
 · rw [so _ _ _ _ _ h3,so _ _ _ _ _ h2,so _ _ _ _ _ h2,so _ _ _ _ _ h2]; exact ho1 j h1
end Go.Proofs.YtnamdpbcpnnhaaaGreatDoor
end
section
set_option linter.unusedVariables false
set_option linter.unusedSimpArgs false
namespace Go.Proofs.YtnamdpbcpnnhaaaGreatDoor
open Go.Al Go.Den
abbrev as90:List (AK UU):=[.str,.int .u8]
abbrev rs90:List (AK UU):=[.int .i64]
abbrev as91:List (AK UU):=[.str,.str]
abbrev rs91:List (AK UU):=[.int .i64]
def kf64:Nat->List Nat
 | 0=>[0]
 | 1=>[0,6]
 | 2=>[0,6,7]
 | 3=>[0,6,7]
 | 4=>[0,6,7]
 | 5=>[0,6,7]
 | 6=>[0,7]
 | 7=>[0]
 | 8=>[0,2]
 | 9=>[0,21]
 | 10=>[0,3]
 | 11=>[0,3,33]
 | 12=>[0,3]
 | 13=>[0]
 | 14=>[0,2]
 | 15=>[0,54]
 | 16=>[0,2]
 | 17=>[0,4]
 | 18=>[0,4,67]
 | 19=>[0,2]
 | 20=>[0]
 | 21=>[0,2]
 | _=>[]
def hd64:List (Nat×Head UU):=[]
def jn64:List (Nat×Head UU):=[(7,⟨[0],[(7,.bool)],[(0,rdK)]⟩),(13,⟨[0],[(3,.int .i64)],[(0,rdK)]⟩),(9,⟨[0],[],[(0,rdK)]⟩)]
noncomputable def fd64:FD UU:=⟨⟨fun d=>hasN [] d,fun d=>hasN [] d,kf64,zB hd64,zB jn64,zf []⟩,zZ Tryz.f64,77,[.tmp 2]⟩
def kf65:Nat->List Nat
 | 0=>[0]
 | 1=>[0,10]
 | 2=>[0,2,3]
 | 3=>[0,4]
 | 4=>[0,4,14]
 | 5=>[0,2,3]
 | 6=>[0,5]
 | 7=>[0,5,19]
 | 8=>[0,2,3]
 | 9=>[0,6]
 | 10=>[0,6,24]
 | 11=>[0,2,3]
 | 12=>[0,7]
 | 13=>[0,7,29]
 | 14=>[0,2,3]
 | 15=>[0,8]
 | 16=>[0,8,34]
 | 17=>[0,2,3]
 | 18=>[0,2,3]
 | _=>[]
def hd65:List (Nat×Head UU):=[]
def jn65:List (Nat×Head UU):=[]
noncomputable def fd65:FD UU:=⟨⟨fun d=>hasN [] d,fun d=>hasN [] d,kf65,zB hd65,zB jn65,zf []⟩,zZ Tryz.f65,36,[.tmp 2,.tmp 3]⟩
def kf89:Nat->List Nat
 | 0=>[0,1]
 | 1=>[0,4]
 | _=>[]
def hd89:List (Nat×Head UU):=[]
def jn89:List (Nat×Head UU):=[]
noncomputable def fd89:FD UU:=⟨⟨fun d=>hasN [] d,fun d=>hasN [] d,kf89,zB hd89,zB jn89,zf []⟩,zZ Tryz.f89,16,[.tmp 4]⟩
def kf92:Nat->List Nat
 | 0=>[0]
 | 1=>[0,3]
 | 2=>[0,3,17]
 | 3=>[0,3]
 | 4=>[0,2]
 | _=>[]
def hd92:List (Nat×Head UU):=[(2,⟨[0],[(3,.int .i64)],[(0,rdK)]⟩)]
def jn92:List (Nat×Head UU):=[]
noncomputable def fd92:FD UU:=⟨⟨fun d=>hasN [] d,fun d=>hasN [] d,kf92,zB hd92,zB jn92,zf []⟩,zZ Tryz.f92,21,[.tmp 2]⟩
def kf93:Nat->List Nat
 | 0=>[0]
 | 1=>[0,20]
 | 2=>[0,2]
 | 3=>[0,3]
 | 4=>[0,3,4,5]
 | 5=>[0,2]
 | 6=>[0,3,4,29]
 | 7=>[0,3]
 | 8=>[0,3,43]
 | 9=>[0,3]
 | _=>[]
def hd93:List (Nat×Head UU):=[(4,⟨[0],[(3,.int .i64)],[(0,rdK)]⟩)]
def jn93:List (Nat×Head UU):=[]
noncomputable def fd93:FD UU:=⟨⟨fun d=>hasN [] d,fun d=>hasN [] d,kf93,zB hd93,zB jn93,zf []⟩,zZ Tryz.f93,56,[.tmp 2]⟩
def kf94:Nat->List Nat
 | 0=>[0,1]
 | 1=>[0,1,21]
 | 2=>[0,4]
 | 3=>[0,1,5]
 | 4=>[0,1,5,33]
 | 5=>[0,1,5]
 | 6=>[0,1,5,38]
 | 7=>[0,1,5,38,39]
 | 8=>[0,5,47]
 | 9=>[0,4]
 | 10=>[0,4]
 | 11=>[0,1,5,38,50]
 | 12=>[0,4]
 | 13=>[0,1,5,52]
 | 14=>[0,1,5]
 | 15=>[0,1,5,73]
 | 16=>[0,4]
 | 17=>[0,4]
 | _=>[]
def hd94:List (Nat×Head UU):=[(4,⟨[0,1],[(5,.int .i64)],[(0,rdK)]⟩)]
def jn94:List (Nat×Head UU):=[]
noncomputable def fd94:FD UU:=⟨⟨fun d=>hasN [] d,fun d=>hasN [] d,kf94,zB hd94,zB jn94,zf []⟩,zZ Tryz.f94,74,[.tmp 4]⟩
def kf95:Nat->List Nat
 | 0=>[0]
 | 1=>[0,3]
 | 2=>[0,3,6,7]
 | 3=>[0,3,6,7,8]
 | 4=>[0,3,5,6,7]
 | 5=>[0,3,5,6,7,19]
 | 6=>[0,3,6,7]
 | 7=>[0,3,6,7]
 | 8=>[0,2]
 | _=>[]
def hd95:List (Nat×Head UU):=[(3,⟨[0,6],[(3,.int .i64),(7,.int .i64)],[(0,rdK)]⟩)]
def jn95:List (Nat×Head UU):=[]
noncomputable def fd95:FD UU:=⟨⟨fun d=>hasN [] d,fun d=>hasN [] d,kf95,zB hd95,zB jn95,zf []⟩,zZ Tryz.f95,24,[.tmp 2]⟩
def kf119:Nat->List Nat
 | 0=>[0,1]
 | 1=>[4]
 | _=>[]
def hd119:List (Nat×Head UU):=[]
def jn119:List (Nat×Head UU):=[]
noncomputable def zLi:FD UU:=⟨⟨fun d=>hasN [] d,fun d=>hasN [] d,kf119,zB hd119,zB jn119,zf []⟩,zZ Tryz.f119,8,[.tmp 4]⟩
def kf122:Nat->List Nat
 | 0=>[0]
 | 1=>[2]
 | _=>[]
def hd122:List (Nat×Head UU):=[]
def jn122:List (Nat×Head UU):=[]
noncomputable def zEk:FD UU:=⟨⟨fun d=>hasN [] d,fun d=>hasN [] d,kf122,zB hd122,zB jn122,zf []⟩,zZ Tryz.f122,21,[.tmp 2]⟩
def kf123:Nat->List Nat
 | 0=>[0]
 | 1=>[2]
 | _=>[]
def hd123:List (Nat×Head UU):=[]
def jn123:List (Nat×Head UU):=[]
noncomputable def zEX:FD UU:=⟨⟨fun d=>hasN [] d,fun d=>hasN [] d,kf123,zB hd123,zB jn123,zf []⟩,zZ Tryz.f123,9,[.tmp 2]⟩
def kf132:Nat->List Nat
 | 0=>[0,1]
 | 1=>[4]
 | _=>[]
def hd132:List (Nat×Head UU):=[]
def jn132:List (Nat×Head UU):=[]
noncomputable def zMJ:FD UU:=⟨⟨fun d=>hasN [] d,fun d=>hasN [] d,kf132,zB hd132,zB jn132,zf []⟩,zZ Tryz.f132,18,[.tmp 4]⟩
noncomputable def run89 (fu:Nat) (x:zA [rdK]) (a:zA ([.str]:LK)):Option (Option (zA [rdK]×zA ([.bool]:LK))):=
 runP CC Tb fu 4 (zB [(119,zLi),(132,zMJ)]) (zB []) (zB []) (zB []) fd89 [rdK] [rdK] ([.str]:LK) ([.bool]:LK) x a
theorem fdok89:FDOk Tryz.prog (hasN []) (hasN []) 89 fd89:=⟨⟨Tryz.f89,Tryz.func89,by kernel_rfl,Tryz.ntmps89,Tryz.results89⟩,by kernel_rfl,by kernel_rfl,by kernel_rfl⟩
theorem zMD:FDOk Tryz.prog (hasN []) (hasN []) 119 zLi:=⟨⟨Tryz.f119,Tryz.func119,by kernel_rfl,Tryz.ntmps119,Tryz.results119⟩,by kernel_rfl,by kernel_rfl,by kernel_rfl⟩
theorem zLH:FDOk Tryz.prog (hasN []) (hasN []) 132 zMJ:=⟨⟨Tryz.f132,Tryz.func132,by kernel_rfl,Tryz.ntmps132,Tryz.results132⟩,by kernel_rfl,by kernel_rfl,by kernel_rfl⟩
noncomputable def run92 (fu:Nat) (c88:zA ([.int .i64]:LK)->Str->Int->Option (zA ([.int .u8]:LK))) (x:zA [rdK]) (a:zA ([]:LK)):Option (Option (zA [rdK]×zA ([.int .i64]:LK))):=
 runP CC Tb fu 4 (zB [(122,zEk),(123,zEX)]) (zB []) (zB [(88,cRD ([.int .i64]:LK) ([.int .u8]:LK) c88)]) (zB []) fd92 [rdK] [rdK] ([]:LK) ([.int .i64]:LK) x a
theorem fdok92:FDOk Tryz.prog (hasN []) (hasN [88]) 92 fd92:=⟨⟨Tryz.f92,Tryz.func92,by kernel_rfl,Tryz.ntmps92,Tryz.results92⟩,by kernel_rfl,by kernel_rfl,by kernel_rfl⟩
theorem zL8:FDOk Tryz.prog (hasN []) (hasN [88]) 122 zEk:=⟨⟨Tryz.f122,Tryz.func122,by kernel_rfl,Tryz.ntmps122,Tryz.results122⟩,by kernel_rfl,by kernel_rfl,by kernel_rfl⟩
theorem zLM:FDOk Tryz.prog (hasN []) (hasN [88]) 123 zEX:=⟨⟨Tryz.f123,Tryz.func123,by kernel_rfl,Tryz.ntmps123,Tryz.results123⟩,by kernel_rfl,by kernel_rfl,by kernel_rfl⟩
noncomputable def run93 (fu:Nat) (c90:List UInt8×Int×Unit->Option (Int×Unit)) (c88:zA ([.int .i64]:LK)->Str->Int->Option (zA ([.int .u8]:LK))) (x:zA [rdK]) (a:zA ([]:LK)):Option (Option (zA [rdK]×zA ([.int .i64]:LK))):=
 runP CC Tb fu 4 (zB [(122,zEk),(123,zEX)]) (zB [(90,(⟨as90,rs90,c90⟩:Con UU))]) (zB [(88,cRD ([.int .i64]:LK) ([.int .u8]:LK) c88)]) (zB []) fd93 [rdK] [rdK] ([]:LK) ([.int .i64]:LK) x a
theorem fdok93:FDOk Tryz.prog (hasN [90]) (hasN [88]) 93 fd93:=⟨⟨Tryz.f93,Tryz.func93,by kernel_rfl,Tryz.ntmps93,Tryz.results93⟩,by kernel_rfl,by kernel_rfl,by kernel_rfl⟩
theorem zMF:FDOk Tryz.prog (hasN [90]) (hasN [88]) 122 zEk:=⟨⟨Tryz.f122,Tryz.func122,by kernel_rfl,Tryz.ntmps122,Tryz.results122⟩,by kernel_rfl,by kernel_rfl,by kernel_rfl⟩
theorem zLw:FDOk Tryz.prog (hasN [90]) (hasN [88]) 123 zEX:=⟨⟨Tryz.f123,Tryz.func123,by kernel_rfl,Tryz.ntmps123,Tryz.results123⟩,by kernel_rfl,by kernel_rfl,by kernel_rfl⟩
noncomputable def run94 (fu:Nat) (c88:zA ([.int .i64]:LK)->Str->Int->Option (zA ([.int .u8]:LK))) (x:zA [rdK]) (a:zA ([.int .u8]:LK)):Option (Option (zA [rdK]×zA ([.int .i64]:LK))):=
 runP CC Tb fu 2 (zB []) (zB []) (zB [(88,cRD ([.int .i64]:LK) ([.int .u8]:LK) c88)]) (zB []) fd94 [rdK] [rdK] ([.int .u8]:LK) ([.int .i64]:LK) x a
theorem fdok94:FDOk Tryz.prog (hasN []) (hasN [88]) 94 fd94:=⟨⟨Tryz.f94,Tryz.func94,by kernel_rfl,Tryz.ntmps94,Tryz.results94⟩,by kernel_rfl,by kernel_rfl,by kernel_rfl⟩
noncomputable def run95 (fu:Nat) (c89:zA ([.str]:LK)->DD (zA ([.bool]:LK))) (x:zA [rdK]) (a:zA ([]:LK)):Option (Option (zA [rdK]×zA ([.int .i64]:LK))):=
 runP CC Tb fu 2 (zB []) (zB []) (zB []) (zB [(89,cD ([.str]:LK) ([.bool]:LK) c89)]) fd95 [rdK] [rdK] ([]:LK) ([.int .i64]:LK) x a
theorem fdok95:FDOk Tryz.prog (hasN []) (hasN []) 95 fd95:=⟨⟨Tryz.f95,Tryz.func95,by kernel_rfl,Tryz.ntmps95,Tryz.results95⟩,by kernel_rfl,by kernel_rfl,by kernel_rfl⟩
noncomputable def run65 (fu:Nat) (c89:zA ([.str]:LK)->DD (zA ([.bool]:LK))) (c92:zA ([]:LK)->DD (zA ([.int .i64]:LK))) (c93:zA ([]:LK)->DD (zA ([.int .i64]:LK))) (c94:zA ([.int .u8]:LK)->DD (zA ([.int .i64]:LK))) (c95:zA ([]:LK)->DD (zA ([.int .i64]:LK))) (x:zA [rdK]) (a:zA ([]:LK)):Option (Option (zA [rdK]×zA ([.int .i64,.int .i64]:LK))):=
 runP CC Tb fu 2 (zB []) (zB []) (zB []) (zB [(89,cD ([.str]:LK) ([.bool]:LK) c89),(92,cD ([]:LK) ([.int .i64]:LK) c92),(93,cD ([]:LK) ([.int .i64]:LK) c93),(94,cD ([.int .u8]:LK) ([.int .i64]:LK) c94),(95,cD ([]:LK) ([.int .i64]:LK) c95)]) fd65 [rdK] [rdK] ([]:LK) ([.int .i64,.int .i64]:LK) x a
theorem fdok65:FDOk Tryz.prog (hasN []) (hasN []) 65 fd65:=⟨⟨Tryz.f65,Tryz.func65,by kernel_rfl,Tryz.ntmps65,Tryz.results65⟩,by kernel_rfl,by kernel_rfl,by kernel_rfl⟩
noncomputable def run64 (fu:Nat) (c90:List UInt8×Int×Unit->Option (Int×Unit)) (c91:List UInt8×List UInt8×Unit->Option (Int×Unit)) (c88:zA ([.int .i64]:LK)->Str->Int->Option (zA ([.int .u8]:LK))) (c89:zA ([.str]:LK)->DD (zA ([.bool]:LK))) (x:zA [rdK]) (a:zA ([]:LK)):Option (Option (zA [rdK]×zA ([.bool]:LK))):=
 runP CC Tb fu 2 (zB []) (zB [(90,(⟨as90,rs90,c90⟩:Con UU)),(91,(⟨as91,rs91,c91⟩:Con UU))]) (zB [(88,cRD ([.int .i64]:LK) ([.int .u8]:LK) c88)]) (zB [(89,cD ([.str]:LK) ([.bool]:LK) c89)]) fd64 [rdK] [rdK] ([]:LK) ([.bool]:LK) x a
theorem fdok64:FDOk Tryz.prog (hasN [90,91]) (hasN [88]) 64 fd64:=⟨⟨Tryz.f64,Tryz.func64,by kernel_rfl,Tryz.ntmps64,Tryz.results64⟩,by kernel_rfl,by kernel_rfl,by kernel_rfl⟩
end Go.Proofs.YtnamdpbcpnnhaaaGreatDoor
end
section
set_option linter.unusedVariables false
set_option linter.unusedSimpArgs false
namespace Go.Proofs.YtnamdpbcpnnhaaaGreatDoor
open Go.Al Go.Den
abbrev as18:List (AK UU):=[.str]
abbrev rs18:List (AK UU):=[.dl TI.tok]
abbrev as39:List (AK UU):=[.int .i64,.str]
abbrev rs39:List (AK UU):=[.dl TI.tok]
abbrev as62:List (AK UU):=[.str]
abbrev rs62:List (AK UU):=[.dl TI.char]
abbrev as63:List (AK UU):=[.dl TI.char]
abbrev rs63:List (AK UU):=[.str]
def kf18:Nat->List Nat
 | 0=>[0]
 | 1=>[3]
 | 2=>[3,4]
 | 3=>[3,4,5]
 | 4=>[3,4,5,11]
 | 5=>[3,4,5]
 | 6=>[3,4,5,19]
 | 7=>[3,4,5]
 | 8=>[2]
 | _=>[]
def hd18:List (Nat×Head UU):=[(4,⟨[3],[(4,.ow true TI.tok),(5,.int .i64)],[]⟩)]
def jn18:List (Nat×Head UU):=[]
noncomputable def fd18:FD UU:=⟨⟨fun d=>hasN [] d,fun d=>hasN [] d,kf18,zB hd18,zB jn18,zf []⟩,zZ Tryz.f18,28,[.tmp 2]⟩
def kf39:Nat->List Nat
 | 0=>[0,1]
 | 1=>[0,5]
 | 2=>[0,5,6]
 | 3=>[0,5,6,7]
 | 4=>[0,5,6,7,8]
 | 5=>[0,5,6,7,8,32]
 | 6=>[0,5,6,7,8]
 | 7=>[0,5,6,7,8,43]
 | 8=>[4]
 | 9=>[0,5,6,7,8,9,10]
 | 10=>[0,5,6,7,8,10]
 | 11=>[0,5,6,7,8,10]
 | 12=>[0,5,6,7,8]
 | 13=>[0,5,6,7]
 | _=>[]
def hd39:List (Nat×Head UU):=[(4,⟨[0,5,6],[(7,.ow true TI.tok)],[(6,rdK)]⟩),(5,⟨[0,5,6,8],[(7,.ow true TI.tok)],[(6,rdK),(8,.box [.int .i64,.str,.int .i64,.int .i64,.int .i64,.bool])]⟩)]
def jn39:List (Nat×Head UU):=[]
noncomputable def fd39:FD UU:=⟨⟨fun d=>hasN [] d,fun d=>hasN [] d,kf39,zB hd39,zB jn39,zf [(10,[(1000066,53,6),(1000067,53,6),(1000066,57,6),(1000067,57,6),(1000066,61,6),(1000067,61,6)]),(11,[(1000088,71,6),(1000089,71,6),(1000088,74,6),(1000089,74,6),(1000088,79,6),(1000089,79,6),(1000088,85,6),(1000089,85,6)])]⟩,zZ Tryz.f39,102,[.tmp 4]⟩
noncomputable def run39 (fu:Nat) (c62:List UInt8×Unit->Option (List CharT×Unit)) (c63:List CharT×Unit->Option (List UInt8×Unit)) (c64:zA ([]:LK)->DD (zA ([.bool]:LK))) (c65:zA ([]:LK)->DD (zA ([.int .i64,.int .i64]:LK))) (nf:Nat->Bool) (x0:Int) (x1:List UInt8):Option (zS rs39):=
 kc CC Tb fu 2 (zB []) (zB [(62,(⟨as62,rs62,c62⟩:Con UU)),(63,(⟨as63,rs63,c63⟩:Con UU))]) (zB []) (zB [(64,cD ([]:LK) ([.bool]:LK) c64),(65,cD ([]:LK) ([.int .i64,.int .i64]:LK) c65)]) fd39 as39 rs39 nf (x0,x1,())
theorem fdok39:FDOk Tryz.prog (hasN [62,63]) (hasN []) 39 fd39:=⟨⟨Tryz.f39,Tryz.func39,by kernel_rfl,Tryz.ntmps39,Tryz.results39⟩,by kernel_rfl,by kernel_rfl,by kernel_rfl⟩
noncomputable def run18 (fu:Nat) (c39:Int×List UInt8×Unit->Option (List TokT×Unit)) (nf:Nat->Bool) (x0:List UInt8):Option (zS rs18):=
 kc CC Tb fu 2 (zB []) (zB [(39,(⟨as39,rs39,c39⟩:Con UU))]) (zB []) (zB []) fd18 as18 rs18 nf (x0,())
theorem fdok18:FDOk Tryz.prog (hasN [39]) (hasN []) 18 fd18:=⟨⟨Tryz.f18,Tryz.func18,by kernel_rfl,Tryz.ntmps18,Tryz.results18⟩,by kernel_rfl,by kernel_rfl,by kernel_rfl⟩
end Go.Proofs.YtnamdpbcpnnhaaaGreatDoor
end
section
set_option linter.unusedVariables false
set_option linter.unusedSimpArgs false
namespace Go.Proofs.YtnamdpbcpnnhaaaGreatDoor
open Go.Al Go.Den
abbrev as8:List (AK UU):=[.str]
abbrev rs8:List (AK UU):=[.bool]
abbrev as14:List (AK UU):=[]
abbrev rs14:List (AK UU):=[.bool]
abbrev as17:List (AK UU):=[.dl TI.tok]
abbrev rs17:List (AK UU):=[.st TI.node,.int .i64]
abbrev as23:List (AK UU):=[.st TI.node,.int .i64]
abbrev rs23:List (AK UU):=[.bool]
abbrev as31:List (AK UU):=[.str]
abbrev rs31:List (AK UU):=[.str]
abbrev as32:List (AK UU):=[.st TI.node,.int .i64]
abbrev rs32:List (AK UU):=[.dl TI.node]
abbrev as42:List (AK UU):=[.st TI.node]
abbrev rs42:List (AK UU):=[.dl TI.int]
abbrev as50:List (AK UU):=[.st TI.node]
abbrev rs50:List (AK UU):=[.str]
abbrev as69:List (AK UU):=[.int .i64]
abbrev rs69:List (AK UU):=[.str]
def hd3:List (Nat×Head UU):=[(9,⟨[1,5],[(7,.ow true TI.tok),(8,.int .i64)],[]⟩)]
def hd4:List (Nat×Head UU):=[(7,⟨[3,4],[(5,.ow true TI.tok),(6,.int .i64)],[]⟩)]
def hd5:List (Nat×Head UU):=[(9,⟨[1,2,7,11],[(12,.ow true TI.tok),(13,.int .i64)],[]⟩)]
def hd6:List (Nat×Head UU):=[(7,⟨[5,6,7],[(8,.int .i64)],[]⟩),(19,⟨[5,6,9,11,13],[(15,.int .i64)],[(9,.box [.int .i64,.int .i64,.dl TI.node]),(11,.box [.int .i64,.int .i64,.dl TI.node]),(13,.box [.int .i64,.int .i64,.dl TI.node])]⟩)]
def kf8:Nat->List Nat
 | 0=>[0]
 | 1=>[0,3]
 | 2=>[0,3,11]
 | 3=>[2]
 | 4=>[3,4]
 | 5=>[3,4,5,6]
 | 6=>[3,4,5,21]
 | 7=>[2]
 | 8=>[3,5,7]
 | 9=>[2]
 | _=>[]
def hd8:List (Nat×Head UU):=[]
def jn8:List (Nat×Head UU):=[]
noncomputable def fd8:FD UU:=⟨⟨fun d=>hasN [] d,fun d=>hasN [] d,kf8,zB hd8,zB jn8,zf []⟩,zZ Tryz.f8,47,[.tmp 2]⟩
def kf14:Nat->List Nat
 | 0=>[]
 | 1=>[1]
 | 2=>[1,2]
 | 3=>[1,2,3,4]
 | 4=>[1,2,3,4,5,6]
 | 5=>[1,2,3,4,5,6,7]
 | 6=>[1,2,3,4,5,6,7,8]
 | 7=>[1,2,3,4,5,6,7,8,9]
 | 8=>[1,2,3,4,5,6,7,8,9,10]
 | 9=>[1,2,4,5,6,7,8,9,10,11]
 | 10=>[1,2,4,6,7,8,9,10,11,12]
 | 11=>[1,2,4,6,7,8,9,10,11,12,13]
 | 12=>[1,2,4,6,7,8,9,10,11,12,13,14]
 | 13=>[0]
 | _=>[]
def hd14:List (Nat×Head UU):=[]
def jn14:List (Nat×Head UU):=[]
noncomputable def fd14:FD UU:=⟨⟨fun d=>hasN [] d,fun d=>hasN [] d,kf14,zB hd14,zB jn14,zf []⟩,zZ Tryz.f14,86,[.tmp 0]⟩
def kf23:Nat->List Nat
 | 0=>[1,2]
 | 1=>[1,5]
 | 2=>[1,5,10,11,12]
 | 3=>[1,5,10,11,12,13]
 | 4=>[1,5,6,7,10,11,12]
 | 5=>[1,5,10,11,12,19]
 | 6=>[4]
 | 7=>[1,5,10,11,12]
 | 8=>[4]
 | _=>[]
def hd23:List (Nat×Head UU):=[(3,⟨[1,5,10,11],[(12,.int .i64)],[]⟩)]
def jn23:List (Nat×Head UU):=[]
noncomputable def fd23:FD UU:=⟨⟨fun d=>hasN [] d,fun d=>hasN [] d,kf23,zB hd23,zB jn23,zf []⟩,zZ Tryz.f23,25,[.tmp 4]⟩
def kf31:Nat->List Nat
 | 0=>[0]
 | 1=>[3,4]
 | 2=>[3,12]
 | 3=>[2]
 | 4=>[2]
 | _=>[]
def hd31:List (Nat×Head UU):=[]
def jn31:List (Nat×Head UU):=[]
noncomputable def fd31:FD UU:=⟨⟨fun d=>hasN [] d,fun d=>hasN [] d,kf31,zB hd31,zB jn31,zf []⟩,zZ Tryz.f31,15,[.tmp 2]⟩
def kf50:Nat->List Nat
 | 0=>[1]
 | 1=>[1,8]
 | 2=>[2]
 | 3=>[1,3]
 | 4=>[3,17,18,19]
 | 5=>[3,17,18,19,20]
 | 6=>[3,5,17,18,19]
 | 7=>[3,17,18,19]
 | 8=>[3,17,18,19]
 | 9=>[2]
 | _=>[]
def hd50:List (Nat×Head UU):=[(5,⟨[17,18],[(3,.str),(19,.int .i64)],[]⟩)]
def jn50:List (Nat×Head UU):=[]
noncomputable def fd50:FD UU:=⟨⟨fun d=>hasN [] d,fun d=>hasN [] d,kf50,zB hd50,zB jn50,zf []⟩,zZ Tryz.f50,31,[.tmp 2]⟩
noncomputable def run50 (fu:Nat) (c50:Nd×Unit->Option (List UInt8×Unit)) (c69:Int×Unit->Option (List UInt8×Unit)) (nf:Nat->Bool) (x0:Nd):Option (zS rs50):=
 kc CC Tb fu 2 (zB []) (zB [(50,(⟨as50,rs50,c50⟩:Con UU)),(69,(⟨as69,rs69,c69⟩:Con UU))]) (zB []) (zB []) fd50 as50 rs50 nf (x0,())
theorem fdok50:FDOk Tryz.prog (hasN [50,69]) (hasN []) 50 fd50:=⟨⟨Tryz.f50,Tryz.func50,by kernel_rfl,Tryz.ntmps50,Tryz.results50⟩,by kernel_rfl,by kernel_rfl,by kernel_rfl⟩
noncomputable def run31 (fu:Nat) (c17:List TokT×Unit->Option (Nd×Int×Unit)) (c18:List UInt8×Unit->Option (List TokT×Unit)) (c50:Nd×Unit->Option (List UInt8×Unit)) (nf:Nat->Bool) (x0:List UInt8):Option (zS rs31):=
 kc CC Tb fu 2 (zB []) (zB [(17,(⟨as17,rs17,c17⟩:Con UU)),(18,(⟨as18,rs18,c18⟩:Con UU)),(50,(⟨as50,rs50,c50⟩:Con UU))]) (zB []) (zB []) fd31 as31 rs31 nf (x0,())
theorem fdok31:FDOk Tryz.prog (hasN [17,18,50]) (hasN []) 31 fd31:=⟨⟨Tryz.f31,Tryz.func31,by kernel_rfl,Tryz.ntmps31,Tryz.results31⟩,by kernel_rfl,by kernel_rfl,by kernel_rfl⟩
noncomputable def run14 (fu:Nat) (c15:List UInt8×Unit->Option (Bool×Unit)) (c17:List TokT×Unit->Option (Nd×Int×Unit)) (c18:List UInt8×Unit->Option (List TokT×Unit)) (c31:List UInt8×Unit->Option (List UInt8×Unit)) (c32:Nd×Int×Unit->Option (List Nd×Unit)) (nf:Nat->Bool) :Option (zS rs14):=
 kc CC Tb fu 2 (zB []) (zB [(15,(⟨as15,rs15,c15⟩:Con UU)),(17,(⟨as17,rs17,c17⟩:Con UU)),(18,(⟨as18,rs18,c18⟩:Con UU)),(31,(⟨as31,rs31,c31⟩:Con UU)),(32,(⟨as32,rs32,c32⟩:Con UU))]) (zB []) (zB []) fd14 as14 rs14 nf ()
theorem fdok14:FDOk Tryz.prog (hasN [15,17,18,31,32]) (hasN []) 14 fd14:=⟨⟨Tryz.f14,Tryz.func14,by kernel_rfl,Tryz.ntmps14,Tryz.results14⟩,by kernel_rfl,by kernel_rfl,by kernel_rfl⟩
noncomputable def run23 (fu:Nat) (c42:Nd×Unit->Option (List Int×Unit)) (nf:Nat->Bool) (x0:Nd) (x1:Int):Option (zS rs23):=
 kc CC Tb fu 2 (zB []) (zB [(42,(⟨as42,rs42,c42⟩:Con UU))]) (zB []) (zB []) fd23 as23 rs23 nf (x0,x1,())
theorem fdok23:FDOk Tryz.prog (hasN [42]) (hasN []) 23 fd23:=⟨⟨Tryz.f23,Tryz.func23,by kernel_rfl,Tryz.ntmps23,Tryz.results23⟩,by kernel_rfl,by kernel_rfl,by kernel_rfl⟩
noncomputable def run8 (fu:Nat) (c14:Unit->Option (Bool×Unit)) (c17:List TokT×Unit->Option (Nd×Int×Unit)) (c18:List UInt8×Unit->Option (List TokT×Unit)) (c23:Nd×Int×Unit->Option (Bool×Unit)) (nf:Nat->Bool) (x0:List UInt8):Option (zS rs8):=
 kc CC Tb fu 2 (zB []) (zB [(14,(⟨as14,rs14,c14⟩:Con UU)),(17,(⟨as17,rs17,c17⟩:Con UU)),(18,(⟨as18,rs18,c18⟩:Con UU)),(23,(⟨as23,rs23,c23⟩:Con UU))]) (zB []) (zB []) fd8 as8 rs8 nf (x0,())
theorem fdok8:FDOk Tryz.prog (hasN [14,17,18,23]) (hasN []) 8 fd8:=⟨⟨Tryz.f8,Tryz.func8,by kernel_rfl,Tryz.ntmps8,Tryz.results8⟩,by kernel_rfl,by kernel_rfl,by kernel_rfl⟩
end Go.Proofs.YtnamdpbcpnnhaaaGreatDoor
end
section
set_option linter.unusedVariables false
set_option linter.unusedSimpArgs false
namespace Go.Proofs.YtnamdpbcpnnhaaaGreatDoor
open Go.Al
theorem code69:zQ Tryz.prog 69=true:=by kernel_rfl
theorem code91:zQ Tryz.prog 91=true:=by kernel_rfl
end Go.Proofs.YtnamdpbcpnnhaaaGreatDoor
end
section
set_option linter.unusedVariables false
set_option linter.unusedSimpArgs false
namespace Go.Proofs.YtnamdpbcpnnhaaaGreatDoor
open Go.Al Go.Den
def sh89 (fu:Nat) (x:((Str×(Int×Unit))×Unit)) (a:(Str×Unit)):(Option (Option (((Str×(Int×Unit))×Unit)×(Bool×Unit)))):=cond (inS x.1.2.1 (lenI x.1.1) (List.length x.1.1)) (cond (ile (lenI a.1) (lenI (cutL x.1.1 x.1.2.1 (lenI x.1.1)))) (cond (inS 0 (lenI a.1) (List.length (cutL x.1.1 x.1.2.1 (lenI x.1.1)))) (some (some (((x.1.1,(x.1.2.1,())),()),((seq (cutL (cutL x.1.1 x.1.2.1 (lenI x.1.1)) 0 (lenI a.1)) a.1),())))) (none)) (some (some (((x.1.1,(x.1.2.1,())),()),(false,()))))) (none)
theorem eq89:@run89 = @sh89:=by kernel_rfl
def sh92 (fu:Nat) (c88:(Int×Unit)->Str->Int->(Option (Int×Unit))) (x:((Str×(Int×Unit))×Unit)) (a:Unit):(Option (Option (((Str×(Int×Unit))×Unit)×(Int×Unit)))):=iter fu (fun (rec1:((Int×Unit)×((Str×(Int×Unit))×Unit))->Option (Option (((Str×(Int×Unit))×Unit)×(Int×Unit)))) (s1:((Int×Unit)×((Str×(Int×Unit))×Unit)))=>Option.bind (c88 (s1.1.1,()) s1.2.1.1 s1.2.1.2.1) fun y0=>cond (ieq y0.1 95) (rec1 (((iadd .i64 s1.1.1 1),()),((s1.2.1.1,(s1.2.1.2.1,())),()))) (cond (ile 97 y0.1) (cond (ile y0.1 122) (rec1 (((iadd .i64 s1.1.1 1),()),((s1.2.1.1,(s1.2.1.2.1,())),()))) (cond (ile 65 y0.1) (cond (ile y0.1 90) (rec1 (((iadd .i64 s1.1.1 1),()),((s1.2.1.1,(s1.2.1.2.1,())),()))) (cond (ilt 0 s1.1.1) (Option.bind (c88 (s1.1.1,()) s1.2.1.1 s1.2.1.2.1) fun y1=>cond (ile 48 y1.1) (cond (ile y1.1 57) (rec1 (((iadd .i64 s1.1.1 1),()),((s1.2.1.1,(s1.2.1.2.1,())),()))) (some (some (((s1.2.1.1,(s1.2.1.2.1,())),()),(s1.1.1,()))))) (some (some (((s1.2.1.1,(s1.2.1.2.1,())),()),(s1.1.1,()))))) (some (some (((s1.2.1.1,(s1.2.1.2.1,())),()),(s1.1.1,())))))) (cond (ilt 0 s1.1.1) (Option.bind (c88 (s1.1.1,()) s1.2.1.1 s1.2.1.2.1) fun y1=>cond (ile 48 y1.1) (cond (ile y1.1 57) (rec1 (((iadd .i64 s1.1.1 1),()),((s1.2.1.1,(s1.2.1.2.1,())),()))) (some (some (((s1.2.1.1,(s1.2.1.2.1,())),()),(s1.1.1,()))))) (some (some (((s1.2.1.1,(s1.2.1.2.1,())),()),(s1.1.1,()))))) (some (some (((s1.2.1.1,(s1.2.1.2.1,())),()),(s1.1.1,()))))))) (cond (ile 65 y0.1) (cond (ile y0.1 90) (rec1 (((iadd .i64 s1.1.1 1),()),((s1.2.1.1,(s1.2.1.2.1,())),()))) (cond (ilt 0 s1.1.1) (Option.bind (c88 (s1.1.1,()) s1.2.1.1 s1.2.1.2.1) fun y1=>cond (ile 48 y1.1) (cond (ile y1.1 57) (rec1 (((iadd .i64 s1.1.1 1),()),((s1.2.1.1,(s1.2.1.2.1,())),()))) (some (some (((s1.2.1.1,(s1.2.1.2.1,())),()),(s1.1.1,()))))) (some (some (((s1.2.1.1,(s1.2.1.2.1,())),()),(s1.1.1,()))))) (some (some (((s1.2.1.1,(s1.2.1.2.1,())),()),(s1.1.1,())))))) (cond (ilt 0 s1.1.1) (Option.bind (c88 (s1.1.1,()) s1.2.1.1 s1.2.1.2.1) fun y1=>cond (ile 48 y1.1) (cond (ile y1.1 57) (rec1 (((iadd .i64 s1.1.1 1),()),((s1.2.1.1,(s1.2.1.2.1,())),()))) (some (some (((s1.2.1.1,(s1.2.1.2.1,())),()),(s1.1.1,()))))) (some (some (((s1.2.1.1,(s1.2.1.2.1,())),()),(s1.1.1,()))))) (some (some (((s1.2.1.1,(s1.2.1.2.1,())),()),(s1.1.1,())))))))) ((0,()),((x.1.1,(x.1.2.1,())),()))
theorem eq92:@run92 = @sh92:=by kernel_rfl
def sh93 (fu:Nat) (c90:(Str×(Int×Unit))->(Option (Int×Unit))) (c88:(Int×Unit)->Str->Int->(Option (Int×Unit))) (x:((Str×(Int×Unit))×Unit)) (a:Unit):(Option (Option (((Str×(Int×Unit))×Unit)×(Int×Unit)))):=Option.bind (c88 (0,()) x.1.1 x.1.2.1) fun y0=>cond (ile 48 y0.1) (cond (!(ile y0.1 57)) (Option.bind (c88 (0,()) x.1.1 x.1.2.1) fun y1=>cond (ine y1.1 46) (some (some (((x.1.1,(x.1.2.1,())),()),(0,())))) (Option.bind (c88 (1,()) x.1.1 x.1.2.1) fun y2=>cond (ile 48 y2.1) (cond (!(ile y2.1 57)) (some (some (((x.1.1,(x.1.2.1,())),()),(0,())))) (iter fu (fun (rec1:((Int×Unit)×((Str×(Int×Unit))×Unit))->Option (Option (((Str×(Int×Unit))×Unit)×(Int×Unit)))) (s1:((Int×Unit)×((Str×(Int×Unit))×Unit)))=>Option.bind (c88 (s1.1.1,()) s1.2.1.1 s1.2.1.2.1) fun y3=>Option.bind (c88 ((iadd .i64 s1.1.1 1),()) s1.2.1.1 s1.2.1.2.1) fun y4=>Option.bind (c90 ([101,69,112,80],(y3.1,()))) fun y5=>cond (ile 0 y5.1) (cond (ieq y4.1 43) (rec1 (((iadd .i64 s1.1.1 2),()),((s1.2.1.1,(s1.2.1.2.1,())),()))) (cond (ieq y4.1 45) (rec1 (((iadd .i64 s1.1.1 2),()),((s1.2.1.1,(s1.2.1.2.1,())),()))) (cond (ieq y3.1 95) (rec1 (((iadd .i64 s1.1.1 1),()),((s1.2.1.1,(s1.2.1.2.1,())),()))) (cond (ile 97 y3.1) (cond (ile y3.1 122) (rec1 (((iadd .i64 s1.1.1 1),()),((s1.2.1.1,(s1.2.1.2.1,())),()))) (cond (ile 65 y3.1) (cond (ile y3.1 90) (rec1 (((iadd .i64 s1.1.1 1),()),((s1.2.1.1,(s1.2.1.2.1,())),()))) (cond (ile 48 y3.1) (cond (ile y3.1 57) (rec1 (((iadd .i64 s1.1.1 1),()),((s1.2.1.1,(s1.2.1.2.1,())),()))) (cond (ieq y3.1 46) (rec1 (((iadd .i64 s1.1.1 1),()),((s1.2.1.1,(s1.2.1.2.1,())),()))) (some (some (((s1.2.1.1,(s1.2.1.2.1,())),()),(s1.1.1,())))))) (cond (ieq y3.1 46) (rec1 (((iadd .i64 s1.1.1 1),()),((s1.2.1.1,(s1.2.1.2.1,())),()))) (some (some (((s1.2.1.1,(s1.2.1.2.1,())),()),(s1.1.1,()))))))) (cond (ile 48 y3.1) (cond (ile y3.1 57) (rec1 (((iadd .i64 s1.1.1 1),()),((s1.2.1.1,(s1.2.1.2.1,())),()))) (cond (ieq y3.1 46) (rec1 (((iadd .i64 s1.1.1 1),()),((s1.2.1.1,(s1.2.1.2.1,())),()))) (some (some (((s1.2.1.1,(s1.2.1.2.1,())),()),(s1.1.1,())))))) (cond (ieq y3.1 46) (rec1 (((iadd .i64 s1.1.1 1),()),((s1.2.1.1,(s1.2.1.2.1,())),()))) (some (some (((s1.2.1.1,(s1.2.1.2.1,())),()),(s1.1.1,())))))))) (cond (ile 65 y3.1) (cond (ile y3.1 90) (rec1 (((iadd .i64 s1.1.1 1),()),((s1.2.1.1,(s1.2.1.2.1,())),()))) (cond (ile 48 y3.1) (cond (ile y3.1 57) (rec1 (((iadd .i64 s1.1.1 1),()),((s1.2.1.1,(s1.2.1.2.1,())),()))) (cond (ieq y3.1 46) (rec1 (((iadd .i64 s1.1.1 1),()),((s1.2.1.1,(s1.2.1.2.1,())),()))) (some (some (((s1.2.1.1,(s1.2.1.2.1,())),()),(s1.1.1,())))))) (cond (ieq y3.1 46) (rec1 (((iadd .i64 s1.1.1 1),()),((s1.2.1.1,(s1.2.1.2.1,())),()))) (some (some (((s1.2.1.1,(s1.2.1.2.1,())),()),(s1.1.1,()))))))) (cond (ile 48 y3.1) (cond (ile y3.1 57) (rec1 (((iadd .i64 s1.1.1 1),()),((s1.2.1.1,(s1.2.1.2.1,())),()))) (cond (ieq y3.1 46) (rec1 (((iadd .i64 s1.1.1 1),()),((s1.2.1.1,(s1.2.1.2.1,())),()))) (some (some (((s1.2.1.1,(s1.2.1.2.1,())),()),(s1.1.1,())))))) (cond (ieq y3.1 46) (rec1 (((iadd .i64 s1.1.1 1),()),((s1.2.1.1,(s1.2.1.2.1,())),()))) (some (some (((s1.2.1.1,(s1.2.1.2.1,())),()),(s1.1.1,()))))))))))) (cond (ieq y3.1 95) (rec1 (((iadd .i64 s1.1.1 1),()),((s1.2.1.1,(s1.2.1.2.1,())),()))) (cond (ile 97 y3.1) (cond (ile y3.1 122) (rec1 (((iadd .i64 s1.1.1 1),()),((s1.2.1.1,(s1.2.1.2.1,())),()))) (cond (ile 65 y3.1) (cond (ile y3.1 90) (rec1 (((iadd .i64 s1.1.1 1),()),((s1.2.1.1,(s1.2.1.2.1,())),()))) (cond (ile 48 y3.1) (cond (ile y3.1 57) (rec1 (((iadd .i64 s1.1.1 1),()),((s1.2.1.1,(s1.2.1.2.1,())),()))) (cond (ieq y3.1 46) (rec1 (((iadd .i64 s1.1.1 1),()),((s1.2.1.1,(s1.2.1.2.1,())),()))) (some (some (((s1.2.1.1,(s1.2.1.2.1,())),()),(s1.1.1,())))))) (cond (ieq y3.1 46) (rec1 (((iadd .i64 s1.1.1 1),()),((s1.2.1.1,(s1.2.1.2.1,())),()))) (some (some (((s1.2.1.1,(s1.2.1.2.1,())),()),(s1.1.1,()))))))) (cond (ile 48 y3.1) (cond (ile y3.1 57) (rec1 (((iadd .i64 s1.1.1 1),()),((s1.2.1.1,(s1.2.1.2.1,())),()))) (cond (ieq y3.1 46) (rec1 (((iadd .i64 s1.1.1 1),()),((s1.2.1.1,(s1.2.1.2.1,())),()))) (some (some (((s1.2.1.1,(s1.2.1.2.1,())),()),(s1.1.1,())))))) (cond (ieq y3.1 46) (rec1 (((iadd .i64 s1.1.1 1),()),((s1.2.1.1,(s1.2.1.2.1,())),()))) (some (some (((s1.2.1.1,(s1.2.1.2.1,())),()),(s1.1.1,())))))))) (cond (ile 65 y3.1) (cond (ile y3.1 90) (rec1 (((iadd .i64 s1.1.1 1),()),((s1.2.1.1,(s1.2.1.2.1,())),()))) (cond (ile 48 y3.1) (cond (ile y3.1 57) (rec1 (((iadd .i64 s1.1.1 1),()),((s1.2.1.1,(s1.2.1.2.1,())),()))) (cond (ieq y3.1 46) (rec1 (((iadd .i64 s1.1.1 1),()),((s1.2.1.1,(s1.2.1.2.1,())),()))) (some (some (((s1.2.1.1,(s1.2.1.2.1,())),()),(s1.1.1,())))))) (cond (ieq y3.1 46) (rec1 (((iadd .i64 s1.1.1 1),()),((s1.2.1.1,(s1.2.1.2.1,())),()))) (some (some (((s1.2.1.1,(s1.2.1.2.1,())),()),(s1.1.1,()))))))) (cond (ile 48 y3.1) (cond (ile y3.1 57) (rec1 (((iadd .i64 s1.1.1 1),()),((s1.2.1.1,(s1.2.1.2.1,())),()))) (cond (ieq y3.1 46) (rec1 (((iadd .i64 s1.1.1 1),()),((s1.2.1.1,(s1.2.1.2.1,())),()))) (some (some (((s1.2.1.1,(s1.2.1.2.1,())),()),(s1.1.1,())))))) (cond (ieq y3.1 46) (rec1 (((iadd .i64 s1.1.1 1),()),((s1.2.1.1,(s1.2.1.2.1,())),()))) (some (some (((s1.2.1.1,(s1.2.1.2.1,())),()),(s1.1.1,())))))))))) ((1,()),((x.1.1,(x.1.2.1,())),())))) (some (some (((x.1.1,(x.1.2.1,())),()),(0,())))))) (iter fu (fun (rec1:((Int×Unit)×((Str×(Int×Unit))×Unit))->Option (Option (((Str×(Int×Unit))×Unit)×(Int×Unit)))) (s1:((Int×Unit)×((Str×(Int×Unit))×Unit)))=>Option.bind (c88 (s1.1.1,()) s1.2.1.1 s1.2.1.2.1) fun y1=>Option.bind (c88 ((iadd .i64 s1.1.1 1),()) s1.2.1.1 s1.2.1.2.1) fun y2=>Option.bind (c90 ([101,69,112,80],(y1.1,()))) fun y3=>cond (ile 0 y3.1) (cond (ieq y2.1 43) (rec1 (((iadd .i64 s1.1.1 2),()),((s1.2.1.1,(s1.2.1.2.1,())),()))) (cond (ieq y2.1 45) (rec1 (((iadd .i64 s1.1.1 2),()),((s1.2.1.1,(s1.2.1.2.1,())),()))) (cond (ieq y1.1 95) (rec1 (((iadd .i64 s1.1.1 1),()),((s1.2.1.1,(s1.2.1.2.1,())),()))) (cond (ile 97 y1.1) (cond (ile y1.1 122) (rec1 (((iadd .i64 s1.1.1 1),()),((s1.2.1.1,(s1.2.1.2.1,())),()))) (cond (ile 65 y1.1) (cond (ile y1.1 90) (rec1 (((iadd .i64 s1.1.1 1),()),((s1.2.1.1,(s1.2.1.2.1,())),()))) (cond (ile 48 y1.1) (cond (ile y1.1 57) (rec1 (((iadd .i64 s1.1.1 1),()),((s1.2.1.1,(s1.2.1.2.1,())),()))) (cond (ieq y1.1 46) (rec1 (((iadd .i64 s1.1.1 1),()),((s1.2.1.1,(s1.2.1.2.1,())),()))) (some (some (((s1.2.1.1,(s1.2.1.2.1,())),()),(s1.1.1,())))))) (cond (ieq y1.1 46) (rec1 (((iadd .i64 s1.1.1 1),()),((s1.2.1.1,(s1.2.1.2.1,())),()))) (some (some (((s1.2.1.1,(s1.2.1.2.1,())),()),(s1.1.1,()))))))) (cond (ile 48 y1.1) (cond (ile y1.1 57) (rec1 (((iadd .i64 s1.1.1 1),()),((s1.2.1.1,(s1.2.1.2.1,())),()))) (cond (ieq y1.1 46) (rec1 (((iadd .i64 s1.1.1 1),()),((s1.2.1.1,(s1.2.1.2.1,())),()))) (some (some (((s1.2.1.1,(s1.2.1.2.1,())),()),(s1.1.1,())))))) (cond (ieq y1.1 46) (rec1 (((iadd .i64 s1.1.1 1),()),((s1.2.1.1,(s1.2.1.2.1,())),()))) (some (some (((s1.2.1.1,(s1.2.1.2.1,())),()),(s1.1.1,())))))))) (cond (ile 65 y1.1) (cond (ile y1.1 90) (rec1 (((iadd .i64 s1.1.1 1),()),((s1.2.1.1,(s1.2.1.2.1,())),()))) (cond (ile 48 y1.1) (cond (ile y1.1 57) (rec1 (((iadd .i64 s1.1.1 1),()),((s1.2.1.1,(s1.2.1.2.1,())),()))) (cond (ieq y1.1 46) (rec1 (((iadd .i64 s1.1.1 1),()),((s1.2.1.1,(s1.2.1.2.1,())),()))) (some (some (((s1.2.1.1,(s1.2.1.2.1,())),()),(s1.1.1,())))))) (cond (ieq y1.1 46) (rec1 (((iadd .i64 s1.1.1 1),()),((s1.2.1.1,(s1.2.1.2.1,())),()))) (some (some (((s1.2.1.1,(s1.2.1.2.1,())),()),(s1.1.1,()))))))) (cond (ile 48 y1.1) (cond (ile y1.1 57) (rec1 (((iadd .i64 s1.1.1 1),()),((s1.2.1.1,(s1.2.1.2.1,())),()))) (cond (ieq y1.1 46) (rec1 (((iadd .i64 s1.1.1 1),()),((s1.2.1.1,(s1.2.1.2.1,())),()))) (some (some (((s1.2.1.1,(s1.2.1.2.1,())),()),(s1.1.1,())))))) (cond (ieq y1.1 46) (rec1 (((iadd .i64 s1.1.1 1),()),((s1.2.1.1,(s1.2.1.2.1,())),()))) (some (some (((s1.2.1.1,(s1.2.1.2.1,())),()),(s1.1.1,()))))))))))) (cond (ieq y1.1 95) (rec1 (((iadd .i64 s1.1.1 1),()),((s1.2.1.1,(s1.2.1.2.1,())),()))) (cond (ile 97 y1.1) (cond (ile y1.1 122) (rec1 (((iadd .i64 s1.1.1 1),()),((s1.2.1.1,(s1.2.1.2.1,())),()))) (cond (ile 65 y1.1) (cond (ile y1.1 90) (rec1 (((iadd .i64 s1.1.1 1),()),((s1.2.1.1,(s1.2.1.2.1,())),()))) (cond (ile 48 y1.1) (cond (ile y1.1 57) (rec1 (((iadd .i64 s1.1.1 1),()),((s1.2.1.1,(s1.2.1.2.1,())),()))) (cond (ieq y1.1 46) (rec1 (((iadd .i64 s1.1.1 1),()),((s1.2.1.1,(s1.2.1.2.1,())),()))) (some (some (((s1.2.1.1,(s1.2.1.2.1,())),()),(s1.1.1,())))))) (cond (ieq y1.1 46) (rec1 (((iadd .i64 s1.1.1 1),()),((s1.2.1.1,(s1.2.1.2.1,())),()))) (some (some (((s1.2.1.1,(s1.2.1.2.1,())),()),(s1.1.1,()))))))) (cond (ile 48 y1.1) (cond (ile y1.1 57) (rec1 (((iadd .i64 s1.1.1 1),()),((s1.2.1.1,(s1.2.1.2.1,())),()))) (cond (ieq y1.1 46) (rec1 (((iadd .i64 s1.1.1 1),()),((s1.2.1.1,(s1.2.1.2.1,())),()))) (some (some (((s1.2.1.1,(s1.2.1.2.1,())),()),(s1.1.1,())))))) (cond (ieq y1.1 46) (rec1 (((iadd .i64 s1.1.1 1),()),((s1.2.1.1,(s1.2.1.2.1,())),()))) (some (some (((s1.2.1.1,(s1.2.1.2.1,())),()),(s1.1.1,())))))))) (cond (ile 65 y1.1) (cond (ile y1.1 90) (rec1 (((iadd .i64 s1.1.1 1),()),((s1.2.1.1,(s1.2.1.2.1,())),()))) (cond (ile 48 y1.1) (cond (ile y1.1 57) (rec1 (((iadd .i64 s1.1.1 1),()),((s1.2.1.1,(s1.2.1.2.1,())),()))) (cond (ieq y1.1 46) (rec1 (((iadd .i64 s1.1.1 1),()),((s1.2.1.1,(s1.2.1.2.1,())),()))) (some (some (((s1.2.1.1,(s1.2.1.2.1,())),()),(s1.1.1,())))))) (cond (ieq y1.1 46) (rec1 (((iadd .i64 s1.1.1 1),()),((s1.2.1.1,(s1.2.1.2.1,())),()))) (some (some (((s1.2.1.1,(s1.2.1.2.1,())),()),(s1.1.1,()))))))) (cond (ile 48 y1.1) (cond (ile y1.1 57) (rec1 (((iadd .i64 s1.1.1 1),()),((s1.2.1.1,(s1.2.1.2.1,())),()))) (cond (ieq y1.1 46) (rec1 (((iadd .i64 s1.1.1 1),()),((s1.2.1.1,(s1.2.1.2.1,())),()))) (some (some (((s1.2.1.1,(s1.2.1.2.1,())),()),(s1.1.1,())))))) (cond (ieq y1.1 46) (rec1 (((iadd .i64 s1.1.1 1),()),((s1.2.1.1,(s1.2.1.2.1,())),()))) (some (some (((s1.2.1.1,(s1.2.1.2.1,())),()),(s1.1.1,())))))))))) ((1,()),((x.1.1,(x.1.2.1,())),())))) (Option.bind (c88 (0,()) x.1.1 x.1.2.1) fun y1=>cond (ine y1.1 46) (some (some (((x.1.1,(x.1.2.1,())),()),(0,())))) (Option.bind (c88 (1,()) x.1.1 x.1.2.1) fun y2=>cond (ile 48 y2.1) (cond (!(ile y2.1 57)) (some (some (((x.1.1,(x.1.2.1,())),()),(0,())))) (iter fu (fun (rec1:((Int×Unit)×((Str×(Int×Unit))×Unit))->Option (Option (((Str×(Int×Unit))×Unit)×(Int×Unit)))) (s1:((Int×Unit)×((Str×(Int×Unit))×Unit)))=>Option.bind (c88 (s1.1.1,()) s1.2.1.1 s1.2.1.2.1) fun y3=>Option.bind (c88 ((iadd .i64 s1.1.1 1),()) s1.2.1.1 s1.2.1.2.1) fun y4=>Option.bind (c90 ([101,69,112,80],(y3.1,()))) fun y5=>cond (ile 0 y5.1) (cond (ieq y4.1 43) (rec1 (((iadd .i64 s1.1.1 2),()),((s1.2.1.1,(s1.2.1.2.1,())),()))) (cond (ieq y4.1 45) (rec1 (((iadd .i64 s1.1.1 2),()),((s1.2.1.1,(s1.2.1.2.1,())),()))) (cond (ieq y3.1 95) (rec1 (((iadd .i64 s1.1.1 1),()),((s1.2.1.1,(s1.2.1.2.1,())),()))) (cond (ile 97 y3.1) (cond (ile y3.1 122) (rec1 (((iadd .i64 s1.1.1 1),()),((s1.2.1.1,(s1.2.1.2.1,())),()))) (cond (ile 65 y3.1) (cond (ile y3.1 90) (rec1 (((iadd .i64 s1.1.1 1),()),((s1.2.1.1,(s1.2.1.2.1,())),()))) (cond (ile 48 y3.1) (cond (ile y3.1 57) (rec1 (((iadd .i64 s1.1.1 1),()),((s1.2.1.1,(s1.2.1.2.1,())),()))) (cond (ieq y3.1 46) (rec1 (((iadd .i64 s1.1.1 1),()),((s1.2.1.1,(s1.2.1.2.1,())),()))) (some (some (((s1.2.1.1,(s1.2.1.2.1,())),()),(s1.1.1,())))))) (cond (ieq y3.1 46) (rec1 (((iadd .i64 s1.1.1 1),()),((s1.2.1.1,(s1.2.1.2.1,())),()))) (some (some (((s1.2.1.1,(s1.2.1.2.1,())),()),(s1.1.1,()))))))) (cond (ile 48 y3.1) (cond (ile y3.1 57) (rec1 (((iadd .i64 s1.1.1 1),()),((s1.2.1.1,(s1.2.1.2.1,())),()))) (cond (ieq y3.1 46) (rec1 (((iadd .i64 s1.1.1 1),()),((s1.2.1.1,(s1.2.1.2.1,())),()))) (some (some (((s1.2.1.1,(s1.2.1.2.1,())),()),(s1.1.1,())))))) (cond (ieq y3.1 46) (rec1 (((iadd .i64 s1.1.1 1),()),((s1.2.1.1,(s1.2.1.2.1,())),()))) (some (some (((s1.2.1.1,(s1.2.1.2.1,())),()),(s1.1.1,())))))))) (cond (ile 65 y3.1) (cond (ile y3.1 90) (rec1 (((iadd .i64 s1.1.1 1),()),((s1.2.1.1,(s1.2.1.2.1,())),()))) (cond (ile 48 y3.1) (cond (ile y3.1 57) (rec1 (((iadd .i64 s1.1.1 1),()),((s1.2.1.1,(s1.2.1.2.1,())),()))) (cond (ieq y3.1 46) (rec1 (((iadd .i64 s1.1.1 1),()),((s1.2.1.1,(s1.2.1.2.1,())),()))) (some (some (((s1.2.1.1,(s1.2.1.2.1,())),()),(s1.1.1,())))))) (cond (ieq y3.1 46) (rec1 (((iadd .i64 s1.1.1 1),()),((s1.2.1.1,(s1.2.1.2.1,())),()))) (some (some (((s1.2.1.1,(s1.2.1.2.1,())),()),(s1.1.1,()))))))) (cond (ile 48 y3.1) (cond (ile y3.1 57) (rec1 (((iadd .i64 s1.1.1 1),()),((s1.2.1.1,(s1.2.1.2.1,())),()))) (cond (ieq y3.1 46) (rec1 (((iadd .i64 s1.1.1 1),()),((s1.2.1.1,(s1.2.1.2.1,())),()))) (some (some (((s1.2.1.1,(s1.2.1.2.1,())),()),(s1.1.1,())))))) (cond (ieq y3.1 46) (rec1 (((iadd .i64 s1.1.1 1),()),((s1.2.1.1,(s1.2.1.2.1,())),()))) (some (some (((s1.2.1.1,(s1.2.1.2.1,())),()),(s1.1.1,()))))))))))) (cond (ieq y3.1 95) (rec1 (((iadd .i64 s1.1.1 1),()),((s1.2.1.1,(s1.2.1.2.1,())),()))) (cond (ile 97 y3.1) (cond (ile y3.1 122) (rec1 (((iadd .i64 s1.1.1 1),()),((s1.2.1.1,(s1.2.1.2.1,())),()))) (cond (ile 65 y3.1) (cond (ile y3.1 90) (rec1 (((iadd .i64 s1.1.1 1),()),((s1.2.1.1,(s1.2.1.2.1,())),()))) (cond (ile 48 y3.1) (cond (ile y3.1 57) (rec1 (((iadd .i64 s1.1.1 1),()),((s1.2.1.1,(s1.2.1.2.1,())),()))) (cond (ieq y3.1 46) (rec1 (((iadd .i64 s1.1.1 1),()),((s1.2.1.1,(s1.2.1.2.1,())),()))) (some (some (((s1.2.1.1,(s1.2.1.2.1,())),()),(s1.1.1,())))))) (cond (ieq y3.1 46) (rec1 (((iadd .i64 s1.1.1 1),()),((s1.2.1.1,(s1.2.1.2.1,())),()))) (some (some (((s1.2.1.1,(s1.2.1.2.1,())),()),(s1.1.1,()))))))) (cond (ile 48 y3.1) (cond (ile y3.1 57) (rec1 (((iadd .i64 s1.1.1 1),()),((s1.2.1.1,(s1.2.1.2.1,())),()))) (cond (ieq y3.1 46) (rec1 (((iadd .i64 s1.1.1 1),()),((s1.2.1.1,(s1.2.1.2.1,())),()))) (some (some (((s1.2.1.1,(s1.2.1.2.1,())),()),(s1.1.1,())))))) (cond (ieq y3.1 46) (rec1 (((iadd .i64 s1.1.1 1),()),((s1.2.1.1,(s1.2.1.2.1,())),()))) (some (some (((s1.2.1.1,(s1.2.1.2.1,())),()),(s1.1.1,())))))))) (cond (ile 65 y3.1) (cond (ile y3.1 90) (rec1 (((iadd .i64 s1.1.1 1),()),((s1.2.1.1,(s1.2.1.2.1,())),()))) (cond (ile 48 y3.1) (cond (ile y3.1 57) (rec1 (((iadd .i64 s1.1.1 1),()),((s1.2.1.1,(s1.2.1.2.1,())),()))) (cond (ieq y3.1 46) (rec1 (((iadd .i64 s1.1.1 1),()),((s1.2.1.1,(s1.2.1.2.1,())),()))) (some (some (((s1.2.1.1,(s1.2.1.2.1,())),()),(s1.1.1,())))))) (cond (ieq y3.1 46) (rec1 (((iadd .i64 s1.1.1 1),()),((s1.2.1.1,(s1.2.1.2.1,())),()))) (some (some (((s1.2.1.1,(s1.2.1.2.1,())),()),(s1.1.1,()))))))) (cond (ile 48 y3.1) (cond (ile y3.1 57) (rec1 (((iadd .i64 s1.1.1 1),()),((s1.2.1.1,(s1.2.1.2.1,())),()))) (cond (ieq y3.1 46) (rec1 (((iadd .i64 s1.1.1 1),()),((s1.2.1.1,(s1.2.1.2.1,())),()))) (some (some (((s1.2.1.1,(s1.2.1.2.1,())),()),(s1.1.1,())))))) (cond (ieq y3.1 46) (rec1 (((iadd .i64 s1.1.1 1),()),((s1.2.1.1,(s1.2.1.2.1,())),()))) (some (some (((s1.2.1.1,(s1.2.1.2.1,())),()),(s1.1.1,())))))))))) ((1,()),((x.1.1,(x.1.2.1,())),())))) (some (some (((x.1.1,(x.1.2.1,())),()),(0,()))))))
theorem eq93:@run93 = @sh93:=by kernel_rfl
def sh94 (fu:Nat) (c88:(Int×Unit)->Str->Int->(Option (Int×Unit))) (x:((Str×(Int×Unit))×Unit)) (a:(Int×Unit)):(Option (Option (((Str×(Int×Unit))×Unit)×(Int×Unit)))):=cond (ieq x.1.2.1 (lenI x.1.1)) (some (some (((x.1.1,(x.1.2.1,())),()),(0,())))) (Option.bind (c88 (0,()) x.1.1 x.1.2.1) fun y0=>cond (ine y0.1 a.1) (some (some (((x.1.1,(x.1.2.1,())),()),(0,())))) (iter fu (fun (rec1:((Int×Unit)×((Str×(Int×Unit))×Unit))->Option (Option (((Str×(Int×Unit))×Unit)×(Int×Unit)))) (s1:((Int×Unit)×((Str×(Int×Unit))×Unit)))=>cond (ilt (iadd .i64 s1.2.1.2.1 s1.1.1) (lenI s1.2.1.1)) (Option.bind (c88 (s1.1.1,()) s1.2.1.1 s1.2.1.2.1) fun y1=>cond (ieq y1.1 a.1) (cond (ieq a.1 39) (cond (ieq s1.1.1 1) (some (some (((s1.2.1.1,(s1.2.1.2.1,())),()),(0,())))) (some (some (((s1.2.1.1,(s1.2.1.2.1,())),()),((iadd .i64 s1.1.1 1),()))))) (some (some (((s1.2.1.1,(s1.2.1.2.1,())),()),((iadd .i64 s1.1.1 1),()))))) (cond (ieq y1.1 10) (some (some (((s1.2.1.1,(s1.2.1.2.1,())),()),(0,())))) (cond (ieq y1.1 92) (Option.bind (c88 ((iadd .i64 s1.1.1 1),()) s1.2.1.1 s1.2.1.2.1) fun y2=>cond (ieq y2.1 10) (cond (ilt (iadd .i64 s1.2.1.2.1 (iadd .i64 s1.1.1 1)) (lenI s1.2.1.1)) (some (some (((s1.2.1.1,(s1.2.1.2.1,())),()),(0,())))) (rec1 (((iadd .i64 (iadd .i64 s1.1.1 1) 1),()),((s1.2.1.1,(s1.2.1.2.1,())),())))) (rec1 (((iadd .i64 (iadd .i64 s1.1.1 1) 1),()),((s1.2.1.1,(s1.2.1.2.1,())),())))) (rec1 (((iadd .i64 s1.1.1 1),()),((s1.2.1.1,(s1.2.1.2.1,())),())))))) (some (some (((s1.2.1.1,(s1.2.1.2.1,())),()),(0,()))))) ((1,()),((x.1.1,(x.1.2.1,())),()))))
theorem eq94:@run94 = @sh94:=by kernel_rfl
def sh95 (fu:Nat) (c89:(Str×Unit)->Str->Int->(Option ((Bool×Unit)×Int))) (x:((Str×(Int×Unit))×Unit)) (a:Unit):(Option (Option (((Str×(Int×Unit))×Unit)×(Int×Unit)))):=iter fu (fun (rec1:((Int×(Int×Unit))×((Str×(Int×Unit))×Unit))->Option (Option (((Str×(Int×Unit))×Unit)×(Int×Unit)))) (s1:((Int×(Int×Unit))×((Str×(Int×Unit))×Unit)))=>cond (ilt s1.1.2.1 48) (cond (inB s1.1.2.1 48) (cond (ile (lenI (α:=UInt8) (List.getD [[46,46,46],[60,60,61],[62,62,61],[45,62],[43,43],[45,45],[60,60],[62,62],[60,61],[62,61],[61,61],[33,61],[38,38],[124,124],[42,61],[47,61],[37,61],[43,61],[45,61],[38,61],[94,61],[124,61],[35,35],[91],[93],[40],[41],[123],[125],[46],[38],[42],[43],[45],[126],[33],[47],[37],[60],[62],[94],[124],[63],[58],[59],[61],[44],[35]] (Int.toNat s1.1.2.1) [])) s1.1.1) (rec1 ((s1.1.1,((iadd .i64 s1.1.2.1 1),())),((s1.2.1.1,(s1.2.1.2.1,())),()))) (Option.bind (c89 ((List.getD [[46,46,46],[60,60,61],[62,62,61],[45,62],[43,43],[45,45],[60,60],[62,62],[60,61],[62,61],[61,61],[33,61],[38,38],[124,124],[42,61],[47,61],[37,61],[43,61],[45,61],[38,61],[94,61],[124,61],[35,35],[91],[93],[40],[41],[123],[125],[46],[38],[42],[43],[45],[126],[33],[47],[37],[60],[62],[94],[124],[63],[58],[59],[61],[44],[35]] (Int.toNat s1.1.2.1) []),()) s1.2.1.1 s1.2.1.2.1) fun y0=>cond (!y0.1.1) (rec1 ((s1.1.1,((iadd .i64 s1.1.2.1 1),())),((s1.2.1.1,(y0.2,())),()))) (rec1 (((lenI (α:=UInt8) (List.getD [[46,46,46],[60,60,61],[62,62,61],[45,62],[43,43],[45,45],[60,60],[62,62],[60,61],[62,61],[61,61],[33,61],[38,38],[124,124],[42,61],[47,61],[37,61],[43,61],[45,61],[38,61],[94,61],[124,61],[35,35],[91],[93],[40],[41],[123],[125],[46],[38],[42],[43],[45],[126],[33],[47],[37],[60],[62],[94],[124],[63],[58],[59],[61],[44],[35]] (Int.toNat s1.1.2.1) [])),((iadd .i64 s1.1.2.1 1),())),((s1.2.1.1,(y0.2,())),()))))) (none)) (some (some (((s1.2.1.1,(s1.2.1.2.1,())),()),(s1.1.1,()))))) ((0,(0,())),((x.1.1,(x.1.2.1,())),()))
theorem eq95:@run95 = @sh95:=by kernel_rfl
def sh65 (fu:Nat) (c89:(Str×Unit)->Str->Int->(Option ((Bool×Unit)×Int))) (c92:Unit->Str->Int->(Option ((Int×Unit)×Int))) (c93:Unit->Str->Int->(Option ((Int×Unit)×Int))) (c94:(Int×Unit)->Str->Int->(Option ((Int×Unit)×Int))) (c95:Unit->Str->Int->(Option ((Int×Unit)×Int))) (x:((Str×(Int×Unit))×Unit)) (a:Unit):(Option (Option (((Str×(Int×Unit))×Unit)×(Int×(Int×Unit))))):=Option.bind (c89 ([10],()) x.1.1 x.1.2.1) fun y0=>cond y0.1.1 (some (some (((x.1.1,(y0.2,())),()),(7,(1,()))))) (Option.bind (c92 () x.1.1 y0.2) fun y1=>cond (ilt 0 y1.1.1) (some (some (((x.1.1,(y1.2,())),()),(1,(y1.1.1,()))))) (Option.bind (c93 () x.1.1 y1.2) fun y2=>cond (ilt 0 y2.1.1) (some (some (((x.1.1,(y2.2,())),()),(2,(y2.1.1,()))))) (Option.bind (c94 (34,()) x.1.1 y2.2) fun y3=>cond (ilt 0 y3.1.1) (some (some (((x.1.1,(y3.2,())),()),(4,(y3.1.1,()))))) (Option.bind (c94 (39,()) x.1.1 y3.2) fun y4=>cond (ilt 0 y4.1.1) (some (some (((x.1.1,(y4.2,())),()),(3,(y4.1.1,()))))) (Option.bind (c95 () x.1.1 y4.2) fun y5=>cond (ilt 0 y5.1.1) (some (some (((x.1.1,(y5.2,())),()),(5,(y5.1.1,()))))) (some (some (((x.1.1,(y5.2,())),()),(6,(1,()))))))))))
theorem eq65:@run65 = @sh65:=by kernel_rfl
def sh64 (fu:Nat) (c90:(Str×(Int×Unit))->(Option (Int×Unit))) (c91:(Str×(Str×Unit))->(Option (Int×Unit))) (c88:(Int×Unit)->Str->Int->(Option (Int×Unit))) (c89:(Str×Unit)->Str->Int->(Option ((Bool×Unit)×Int))) (x:((Str×(Int×Unit))×Unit)) (a:Unit):(Option (Option (((Str×(Int×Unit))×Unit)×(Bool×Unit)))):=zR (fun (join0:(Unit×((Str×(Int×Unit))×Unit))->Option (Option (((Str×(Int×Unit))×Unit)×(Bool×Unit))))=>Option.bind (c88 (0,()) x.1.1 x.1.2.1) fun y0=>zR (fun (join1:((Bool×Unit)×((Str×(Int×Unit))×Unit))->Option (Option (((Str×(Int×Unit))×Unit)×(Bool×Unit))))=>cond (ieq y0.1 32) (join1 ((true,()),((x.1.1,(x.1.2.1,())),()))) (cond (ieq y0.1 9) (join1 ((true,()),((x.1.1,(x.1.2.1,())),()))) (cond (ieq y0.1 11) (join1 ((true,()),((x.1.1,(x.1.2.1,())),()))) (cond (ieq y0.1 12) (join1 ((true,()),((x.1.1,(x.1.2.1,())),()))) (join1 (((ieq y0.1 13),()),((x.1.1,(x.1.2.1,())),()))))))) (fun (t0:((Bool×Unit)×((Str×(Int×Unit))×Unit)))=>cond t0.1.1 (some (some (((t0.2.1.1,((iadd .i64 t0.2.1.2.1 1),())),()),(true,())))) (join0 ((),((t0.2.1.1,(t0.2.1.2.1,())),()))))) (fun (t0:(Unit×((Str×(Int×Unit))×Unit)))=>Option.bind (c89 ([47,47],()) t0.2.1.1 t0.2.1.2.1) fun y0=>cond y0.1.1 (cond (inS y0.2 (lenI t0.2.1.1) (List.length t0.2.1.1)) (Option.bind (c90 ((cutL t0.2.1.1 y0.2 (lenI t0.2.1.1)),(10,()))) fun y1=>zR (fun (join0:((Int×Unit)×((Str×(Int×Unit))×Unit))->Option (Option (((Str×(Int×Unit))×Unit)×(Bool×Unit))))=>cond (ilt y1.1 0) (join0 (((isub .i64 (lenI t0.2.1.1) y0.2),()),((t0.2.1.1,(y0.2,())),()))) (join0 ((y1.1,()),((t0.2.1.1,(y0.2,())),())))) (fun (t1:((Int×Unit)×((Str×(Int×Unit))×Unit)))=>some (some (((t1.2.1.1,((iadd .i64 t1.2.1.2.1 t1.1.1),())),()),(true,()))))) (none)) (Option.bind (c89 ([47,42],()) t0.2.1.1 y0.2) fun y1=>cond (!y1.1.1) (some (some (((t0.2.1.1,(y1.2,())),()),(false,())))) (cond (inS (iadd .i64 y1.2 2) (lenI t0.2.1.1) (List.length t0.2.1.1)) (Option.bind (c91 ((cutL t0.2.1.1 (iadd .i64 y1.2 2) (lenI t0.2.1.1)),([42,47],()))) fun y2=>cond (ilt y2.1 0) (some (some (((t0.2.1.1,(y1.2,())),()),(false,())))) (some (some (((t0.2.1.1,((iadd .i64 y1.2 (iadd .i64 y2.1 4)),())),()),(true,()))))) (none))))
theorem eq64:@run64 = @sh64:=by kernel_rfl
theorem con89 (fu:Nat) :CPOk CC Tryz.prog syn 89 (cD kS kB (mD (sh89 fu))):=
 zDT (zh (syn:=syn) (fu:=fu) (d:=4) (inl:=zB [(119,zLi),(132,zMJ)]) (orc:=zB []) (orr:=zB []) (orp:=zB []) (pf:=hasN []) (rf:=hasN []) zl CCok mixed (fun g=>(zF (α:=Con UU) (l:=[]) g).symm) (fun g=>(zF (α:=CR UU) (l:=[]) g).symm) (zC zMD (zC zLH (zD))) (zD) (zD) (zD) fdok89 (by show ([rdK]:LK).length+(kS:LK).length<=16; decide) (fun x a=>by show run89 fu x a=sh89 fu x a; rw [eq89]))
theorem con92 (fu:Nat) (c88:zA kI->Str->Int->Option (zA ([.int .u8]:LK))) (h88:CROk CC Tryz.prog 88 (cRD kI ([.int .u8]:LK) c88)):CPOk CC Tryz.prog syn 92 (cD k0 kI (mD (sh92 fu c88))):=
 zDT (zh (syn:=syn) (fu:=fu) (d:=4) (inl:=zB [(122,zEk),(123,zEX)]) (orc:=zB []) (orr:=zB [(88,cRD kI ([.int .u8]:LK) c88)]) (orp:=zB []) (pf:=hasN []) (rf:=hasN [88]) zl CCok mixed (fun g=>(zF (α:=Con UU) (l:=[]) g).symm) (fun g=>(zF (α:=CR UU) (l:=[(88,cRD kI ([.int .u8]:LK) c88)]) g).symm) (zC zL8 (zC zLM (zD))) (zD) (zC ⟨zGW,h88⟩ (zD)) (zD) fdok92 (by show ([rdK]:LK).length+(k0:LK).length<=21; decide) (fun x a=>by show run92 fu c88 x a=sh92 fu c88 x a; rw [eq92]))
theorem con93 (fu:Nat) (c90:zS as90->Option (zS rs90)) (h90:ConOk CC Tryz.prog 90 ⟨as90,rs90,c90⟩) (c88:zA kI->Str->Int->Option (zA ([.int .u8]:LK))) (h88:CROk CC Tryz.prog 88 (cRD kI ([.int .u8]:LK) c88)):CPOk CC Tryz.prog syn 93 (cD k0 kI (mD (sh93 fu c90 c88))):=
 zDT (zh (syn:=syn) (fu:=fu) (d:=4) (inl:=zB [(122,zEk),(123,zEX)]) (orc:=zB [(90,(⟨as90,rs90,c90⟩:Con UU))]) (orr:=zB [(88,cRD kI ([.int .u8]:LK) c88)]) (orp:=zB []) (pf:=hasN [90]) (rf:=hasN [88]) zl CCok mixed (fun g=>(zF (α:=Con UU) (l:=[(90,(⟨as90,rs90,c90⟩:Con UU))]) g).symm) (fun g=>(zF (α:=CR UU) (l:=[(88,cRD kI ([.int .u8]:LK) c88)]) g).symm) (zC zMF (zC zLw (zD))) (zC ⟨zNz,h90⟩ (zD)) (zC ⟨zGW,h88⟩ (zD)) (zD) fdok93 (by show ([rdK]:LK).length+(k0:LK).length<=56; decide) (fun x a=>by show run93 fu c90 c88 x a=sh93 fu c90 c88 x a; rw [eq93]))
theorem con94 (fu:Nat) (c88:zA kI->Str->Int->Option (zA ([.int .u8]:LK))) (h88:CROk CC Tryz.prog 88 (cRD kI ([.int .u8]:LK) c88)):CPOk CC Tryz.prog syn 94 (cD ([.int .u8]:LK) kI (mD (sh94 fu c88))):=
 zDT (zh (syn:=syn) (fu:=fu) (d:=2) (inl:=zB []) (orc:=zB []) (orr:=zB [(88,cRD kI ([.int .u8]:LK) c88)]) (orp:=zB []) (pf:=hasN []) (rf:=hasN [88]) zl CCok mixed (fun g=>(zF (α:=Con UU) (l:=[]) g).symm) (fun g=>(zF (α:=CR UU) (l:=[(88,cRD kI ([.int .u8]:LK) c88)]) g).symm) (zD) (zD) (zC ⟨zGW,h88⟩ (zD)) (zD) fdok94 (by show ([rdK]:LK).length+(([.int .u8]:LK):LK).length<=74; decide) (fun x a=>by show run94 fu c88 x a=sh94 fu c88 x a; rw [eq94]))
theorem con95 (fu:Nat) (c89:zA kS->DD (zA kB)) (h89:CPOk CC Tryz.prog syn 89 (cD kS kB c89)):CPOk CC Tryz.prog syn 95 (cD k0 kI (mD (sh95 fu c89))):=
 zDT (zh (syn:=syn) (fu:=fu) (d:=2) (inl:=zB []) (orc:=zB []) (orr:=zB []) (orp:=zB [(89,cD kS kB c89)]) (pf:=hasN []) (rf:=hasN []) zl CCok mixed (fun g=>(zF (α:=Con UU) (l:=[]) g).symm) (fun g=>(zF (α:=CR UU) (l:=[]) g).symm) (zD) (zD) (zD) (zC ⟨zIp,h89⟩ (zD)) fdok95 (by show ([rdK]:LK).length+(k0:LK).length<=24; decide) (fun x a=>by show run95 fu c89 x a=sh95 fu c89 x a; rw [eq95]))
theorem con65 (fu:Nat) (c89:zA kS->DD (zA kB)) (h89:CPOk CC Tryz.prog syn 89 (cD kS kB c89)) (c92:zA k0->DD (zA kI)) (h92:CPOk CC Tryz.prog syn 92 (cD k0 kI c92)) (c93:zA k0->DD (zA kI)) (h93:CPOk CC Tryz.prog syn 93 (cD k0 kI c93)) (c94:zA ([.int .u8]:LK)->DD (zA kI)) (h94:CPOk CC Tryz.prog syn 94 (cD ([.int .u8]:LK) kI c94)) (c95:zA k0->DD (zA kI)) (h95:CPOk CC Tryz.prog syn 95 (cD k0 kI c95)):CPOk CC Tryz.prog syn 65 (cD k0 ([.int .i64,.int .i64]:LK) (mD (sh65 fu c89 c92 c93 c94 c95))):=
 zDT (zh (syn:=syn) (fu:=fu) (d:=2) (inl:=zB []) (orc:=zB []) (orr:=zB []) (orp:=zB [(89,cD kS kB c89),(92,cD k0 kI c92),(93,cD k0 kI c93),(94,cD ([.int .u8]:LK) kI c94),(95,cD k0 kI c95)]) (pf:=hasN []) (rf:=hasN []) zl CCok mixed (fun g=>(zF (α:=Con UU) (l:=[]) g).symm) (fun g=>(zF (α:=CR UU) (l:=[]) g).symm) (zD) (zD) (zD) (zC ⟨zIp,h89⟩ (zC ⟨code92,h92⟩ (zC ⟨code93,h93⟩ (zC ⟨code94,h94⟩ (zC ⟨code95,h95⟩ (zD)))))) fdok65 (by show ([rdK]:LK).length+(k0:LK).length<=36; decide) (fun x a=>by show run65 fu c89 c92 c93 c94 c95 x a=sh65 fu c89 c92 c93 c94 c95 x a; rw [eq65]))
theorem con64 (fu:Nat) (c90:zS as90->Option (zS rs90)) (h90:ConOk CC Tryz.prog 90 ⟨as90,rs90,c90⟩) (c91:zS as91->Option (zS rs91)) (h91:ConOk CC Tryz.prog 91 ⟨as91,rs91,c91⟩) (c88:zA kI->Str->Int->Option (zA ([.int .u8]:LK))) (h88:CROk CC Tryz.prog 88 (cRD kI ([.int .u8]:LK) c88)) (c89:zA kS->DD (zA kB)) (h89:CPOk CC Tryz.prog syn 89 (cD kS kB c89)):CPOk CC Tryz.prog syn 64 (cD k0 kB (mD (sh64 fu c90 c91 c88 c89))):=
 zDT (zh (syn:=syn) (fu:=fu) (d:=2) (inl:=zB []) (orc:=zB [(90,(⟨as90,rs90,c90⟩:Con UU)),(91,(⟨as91,rs91,c91⟩:Con UU))]) (orr:=zB [(88,cRD kI ([.int .u8]:LK) c88)]) (orp:=zB [(89,cD kS kB c89)]) (pf:=hasN [90,91]) (rf:=hasN [88]) zl CCok mixed (fun g=>(zF (α:=Con UU) (l:=[(90,(⟨as90,rs90,c90⟩:Con UU)),(91,(⟨as91,rs91,c91⟩:Con UU))]) g).symm) (fun g=>(zF (α:=CR UU) (l:=[(88,cRD kI ([.int .u8]:LK) c88)]) g).symm) (zD) (zC ⟨zNz,h90⟩ (zC ⟨code91,h91⟩ (zD))) (zC ⟨zGW,h88⟩ (zD)) (zC ⟨zIp,h89⟩ (zD)) fdok64 (by show ([rdK]:LK).length+(k0:LK).length<=77; decide) (fun x a=>by show run64 fu c90 c91 c88 c89 x a=sh64 fu c90 c91 c88 c89 x a; rw [eq64]))
end Go.Proofs.YtnamdpbcpnnhaaaGreatDoor
end
section
set_option linter.unusedVariables false
set_option linter.unusedSimpArgs false
namespace Go.Proofs.YtnamdpbcpnnhaaaGreatDoor
open Go.Al Go.Den
def sh39 (fu:Nat) (c62:(Str×Unit)->(Option ((List CharT)×Unit))) (c63:((List CharT)×Unit)->(Option (Str×Unit))) (c64:Unit->Str->Int->(Option ((Bool×Unit)×Int))) (c65:Unit->Str->Int->(Option ((Int×(Int×Unit))×Int))) (nf:Nat->Bool) (x0:Int) (x1:Str):(Option (LT×Unit)):=Option.bind (c62 (x1,())) fun y0=>Option.bind (c63 (y0.1,())) fun y1=>iter fu (fun (rec1:((LT×Unit)×((Str×(Int×Unit))×Unit))->Option (LT×Unit)) (s1:((LT×Unit)×((Str×(Int×Unit))×Unit)))=>iter fu (fun (rec2:((LT×Unit)×((Str×(Int×Unit))×((Int×(Str×(Int×(Int×(Int×(Bool×Unit))))))×Unit)))->Option (LT×Unit)) (s2:((LT×Unit)×((Str×(Int×Unit))×((Int×(Str×(Int×(Int×(Int×(Bool×Unit))))))×Unit))))=>cond (ilt s2.2.1.2.1 (lenI s2.2.1.1)) (Option.bind (c64 () s2.2.1.1 s2.2.1.2.1) fun y2=>cond y2.1.1 (rec2 ((s2.1.1,()),((s2.2.1.1,(y2.2,())),((s2.2.2.1.1,(s2.2.2.1.2.1,(s2.2.2.1.2.2.1,(s2.2.2.1.2.2.2.1,(s2.2.2.1.2.2.2.2.1,(true,())))))),())))) (cond (ile (lenI s2.2.1.1) y2.2) (some (s2.1.1,())) (Option.bind (c65 () s2.2.1.1 y2.2) fun y3=>cond (inS y3.2 (iadd .i64 y3.2 y3.1.2.1) (List.length s2.2.1.1)) (cond (inB y3.2 (List.length y0.1)) (cond (inB (isub .i64 (iadd .i64 y3.2 y3.1.2.1) 1) (List.length y0.1)) (cond (okN 56 ((List.length s2.1.1)+(List.length [(TokT.mk y3.1.1 (cutL s2.2.1.1 y3.2 (iadd .i64 y3.2 y3.1.2.1)) s2.2.2.1.2.2.1 (CharT.fat (List.getD y0.1 (Int.toNat y3.2) zBW)) (iadd .i64 (CharT.fat (List.getD y0.1 (Int.toNat (isub .i64 (iadd .i64 y3.2 y3.1.2.1) 1)) zBW)) 1) s2.2.2.1.2.2.2.2.2.1)]))) (rec1 (((s2.1.1++[(TokT.mk y3.1.1 (cutL s2.2.1.1 y3.2 (iadd .i64 y3.2 y3.1.2.1)) s2.2.2.1.2.2.1 (CharT.fat (List.getD y0.1 (Int.toNat y3.2) zBW)) (iadd .i64 (CharT.fat (List.getD y0.1 (Int.toNat (isub .i64 (iadd .i64 y3.2 y3.1.2.1) 1)) zBW)) 1) s2.2.2.1.2.2.2.2.2.1)]),()),((s2.2.1.1,((iadd .i64 y3.2 y3.1.2.1),())),()))) (none)) (none)) (none)) (none)))) (cond (ile (lenI s2.2.1.1) s2.2.1.2.1) (some (s2.1.1,())) (Option.bind (c65 () s2.2.1.1 s2.2.1.2.1) fun y2=>cond (inS y2.2 (iadd .i64 y2.2 y2.1.2.1) (List.length s2.2.1.1)) (cond (inB y2.2 (List.length y0.1)) (cond (inB (isub .i64 (iadd .i64 y2.2 y2.1.2.1) 1) (List.length y0.1)) (cond (okN 56 ((List.length s2.1.1)+(List.length [(TokT.mk y2.1.1 (cutL s2.2.1.1 y2.2 (iadd .i64 y2.2 y2.1.2.1)) s2.2.2.1.2.2.1 (CharT.fat (List.getD y0.1 (Int.toNat y2.2) zBW)) (iadd .i64 (CharT.fat (List.getD y0.1 (Int.toNat (isub .i64 (iadd .i64 y2.2 y2.1.2.1) 1)) zBW)) 1) s2.2.2.1.2.2.2.2.2.1)]))) (rec1 (((s2.1.1++[(TokT.mk y2.1.1 (cutL s2.2.1.1 y2.2 (iadd .i64 y2.2 y2.1.2.1)) s2.2.2.1.2.2.1 (CharT.fat (List.getD y0.1 (Int.toNat y2.2) zBW)) (iadd .i64 (CharT.fat (List.getD y0.1 (Int.toNat (isub .i64 (iadd .i64 y2.2 y2.1.2.1) 1)) zBW)) 1) s2.2.2.1.2.2.2.2.2.1)]),()),((s2.2.1.1,((iadd .i64 y2.2 y2.1.2.1),())),()))) (none)) (none)) (none)) (none)))) ((s1.1.1,()),((s1.2.1.1,(s1.2.1.2.1,())),((0,([],(x0,(0,(0,(false,())))))),())))) (([],()),((y1.1,(0,())),()))
theorem eq39:@run39 = @sh39:=by kernel_rfl
def sh18 (fu:Nat) (c39:(Int×(Str×Unit))->(Option (LT×Unit))) (nf:Nat->Bool) (x0:Str):(Option (LT×Unit)):=Option.bind (c39 (0,(x0,()))) fun y0=>iter fu (fun (rec1:((LT×(Int×Unit))×Unit)->Option (LT×Unit)) (s1:((LT×(Int×Unit))×Unit))=>cond (ilt s1.1.2.1 (lenI y0.1)) (cond (inB s1.1.2.1 (List.length y0.1)) (cond (ine (TokT.kind (List.getD y0.1 (Int.toNat s1.1.2.1) tokD)) 7) (cond (inB s1.1.2.1 (List.length y0.1)) (cond (okN 56 ((List.length s1.1.1)+(List.length [(TokT.mk (TokT.kind (List.getD y0.1 (Int.toNat s1.1.2.1) tokD)) (TokT.text (List.getD y0.1 (Int.toNat s1.1.2.1) tokD)) (TokT.file (List.getD y0.1 (Int.toNat s1.1.2.1) tokD)) (TokT.ffrom (List.getD y0.1 (Int.toNat s1.1.2.1) tokD)) (TokT.fto (List.getD y0.1 (Int.toNat s1.1.2.1) tokD)) (TokT.blank (List.getD y0.1 (Int.toNat s1.1.2.1) tokD)))]))) (rec1 (((s1.1.1++[(TokT.mk (TokT.kind (List.getD y0.1 (Int.toNat s1.1.2.1) tokD)) (TokT.text (List.getD y0.1 (Int.toNat s1.1.2.1) tokD)) (TokT.file (List.getD y0.1 (Int.toNat s1.1.2.1) tokD)) (TokT.ffrom (List.getD y0.1 (Int.toNat s1.1.2.1) tokD)) (TokT.fto (List.getD y0.1 (Int.toNat s1.1.2.1) tokD)) (TokT.blank (List.getD y0.1 (Int.toNat s1.1.2.1) tokD)))]),((iadd .i64 s1.1.2.1 1),())),())) (none)) (none)) (rec1 ((s1.1.1,((iadd .i64 s1.1.2.1 1),())),()))) (none)) (some (s1.1.1,()))) (([],(0,())),())
theorem eq18:@run18 = @sh18:=by kernel_rfl
theorem con39 (fu:Nat) (c62:zS as62->Option (zS rs62)) (h62:ConOk CC Tryz.prog 62 ⟨as62,rs62,c62⟩) (c63:zS as63->Option (zS rs63)) (h63:ConOk CC Tryz.prog 63 ⟨as63,rs63,c63⟩) (c64:zA k0->DD (zA kB)) (h64:CPOk CC Tryz.prog syn 64 (cD k0 kB c64)) (c65:zA k0->DD (zA ([.int .i64,.int .i64]:LK))) (h65:CPOk CC Tryz.prog syn 65 (cD k0 ([.int .i64,.int .i64]:LK) c65)):ConOk CC Tryz.prog 39 ⟨as39,rs39,fun x=>sh39 fu c62 c63 c64 c65 (fun _=>false) x.1 x.2.1⟩:=
 qZ (c:=⟨as39,rs39,fun x=>sh39 fu c62 c63 c64 c65 (fun _=>false) x.1 x.2.1⟩) (syn:=syn) (fu:=fu) (d:=2) (inl:=zB []) (orc:=zB [(62,(⟨as62,rs62,c62⟩:Con UU)),(63,(⟨as63,rs63,c63⟩:Con UU))]) (orr:=zB []) (orp:=zB [(64,cD k0 kB c64),(65,cD k0 ([.int .i64,.int .i64]:LK) c65)]) (pf:=hasN [62,63]) (rf:=hasN []) zl CCok mixed (fun g=>(zF (α:=Con UU) (l:=[(62,(⟨as62,rs62,c62⟩:Con UU)),(63,(⟨as63,rs63,c63⟩:Con UU))]) g).symm) (fun g=>(zF (α:=CR UU) (l:=[]) g).symm) (zD) (zC ⟨code62,h62⟩ (zC ⟨code63,h63⟩ (zD))) (zD) (zC ⟨code64,h64⟩ (zC ⟨code65,h65⟩ (zD))) fdok39 (by show 2<=102; decide) (xn rfl) (fun nf x=>by show run39 fu c62 c63 c64 c65 nf x.1 x.2.1=_; rw [eq39]; rfl)
theorem con18 (fu:Nat) (c39:zS as39->Option (zS rs39)) (h39:ConOk CC Tryz.prog 39 ⟨as39,rs39,c39⟩):ConOk CC Tryz.prog 18 ⟨as18,rs18,fun x=>sh18 fu c39 (fun _=>false) x.1⟩:=
 qZ (c:=⟨as18,rs18,fun x=>sh18 fu c39 (fun _=>false) x.1⟩) (syn:=syn) (fu:=fu) (d:=2) (inl:=zB []) (orc:=zB [(39,(⟨as39,rs39,c39⟩:Con UU))]) (orr:=zB []) (orp:=zB []) (pf:=hasN [39]) (rf:=hasN []) zl CCok mixed (fun g=>(zF (α:=Con UU) (l:=[(39,(⟨as39,rs39,c39⟩:Con UU))]) g).symm) (fun g=>(zF (α:=CR UU) (l:=[]) g).symm) (zD) (zC ⟨code39,h39⟩ (zD)) (zD) (zD) fdok18 (by show 1<=28; decide) (xn rfl) (fun nf x=>by show run18 fu c39 nf x.1=_; rw [eq18]; rfl)
end Go.Proofs.YtnamdpbcpnnhaaaGreatDoor
end
section
set_option linter.unusedVariables false
set_option linter.unusedSimpArgs false
namespace Go.Proofs.YtnamdpbcpnnhaaaGreatDoor
open Go.Al Go.Den
def sh50 (fu:Nat) (c50:(Nd×Unit)->(Option (Str×Unit))) (c69:(Int×Unit)->(Option (Str×Unit))) (nf:Nat->Bool) (x0:Nd):(Option (Str×Unit)):=cond (ieq (Nd.kind x0) 0) (Option.bind (c69 ((Nd.tok x0),())) fun y0=>some (y0.1,())) (Option.bind (c69 ((Nd.kind x0),())) fun y0=>cond (okS (1+(List.length y0.1))) (iter fu (fun (rec1:((Str×(Int×Unit))×Unit)->Option (Str×Unit)) (s1:((Str×(Int×Unit))×Unit))=>cond (ilt s1.1.2.1 (lenI (Nd.kids x0))) (cond (inB s1.1.2.1 (List.length (Nd.kids x0))) (Option.bind (c50 ((Nd.mk (Nd.kind (List.getD (Nd.kids x0) (Int.toNat s1.1.2.1) zHs)) (Nd.tok (List.getD (Nd.kids x0) (Int.toNat s1.1.2.1) zHs)) (Nd.kids (List.getD (Nd.kids x0) (Int.toNat s1.1.2.1) zHs))),())) fun y1=>cond (okS (1+(List.length y1.1))) (cond (okS ((List.length s1.1.1)+(List.length ([32]++y1.1)))) (rec1 (((s1.1.1++([32]++y1.1)),((iadd .i64 s1.1.2.1 1),())),())) (none)) (none)) (none)) (cond (okS ((List.length s1.1.1)+1)) (some ((s1.1.1++[41]),())) (none))) ((([40]++y0.1),(0,())),())) (none))
theorem eq50:@run50 = @sh50:=by kernel_rfl
def sh31 (fu:Nat) (c17:(LT×Unit)->(Option (Nd×(Int×Unit)))) (c18:(Str×Unit)->(Option (LT×Unit))) (c50:(Nd×Unit)->(Option (Str×Unit))) (nf:Nat->Bool) (x0:Str):(Option (Str×Unit)):=Option.bind (c18 (x0,())) fun y0=>Option.bind (c17 (y0.1,())) fun y1=>cond (ine y1.2.1 0) (some ([33],())) (Option.bind (c50 ((ndE y1.1),())) fun y2=>some (y2.1,()))
theorem eq31:@run31 = @sh31:=by kernel_rfl
def sh14 (fu:Nat) (c15:(Str×Unit)->(Option (Bool×Unit))) (c17:(LT×Unit)->(Option (Nd×(Int×Unit)))) (c18:(Str×Unit)->(Option (LT×Unit))) (c31:(Str×Unit)->(Option (Str×Unit))) (c32:(Nd×(Int×Unit))->(Option NdsT)) (nf:Nat->Bool):(Option (Bool×Unit)):=Option.bind (c31 ([105,110,116,32,120,59],())) fun y0=>Option.bind (c31 ([105,110,116,32,102,40,118,111,105,100,41,32,123,32,114,101,116,117,114,110,32,49,59,32,125],())) fun y1=>Option.bind (c18 ([116,121,112,101,100,101,102,32,105,110,116,32,84,59,32,84,32,42,32,120,59],())) fun y2=>Option.bind (c17 (y2.1,())) fun y3=>Option.bind (c18 ([105,110,116,32,84,59,32,105,110,116,32,102,40,41,32,123,32,84,32,42,32,120,59,32,125],())) fun y4=>Option.bind (c17 (y4.1,())) fun y5=>Option.bind (c31 ([105,110,116,32,120],())) fun y6=>Option.bind (c31 ([120,59],())) fun y7=>Option.bind (c31 ([105,110,116,32,102,40,41,32,123,32,105,102,32,125],())) fun y8=>Option.bind (c32 ((ndE y3.1),(3,()))) fun y9=>Option.bind (c32 ((ndE y3.1),(9,()))) fun y10=>Option.bind (c32 ((ndE y5.1),(51,()))) fun y11=>Option.bind (c15 ([119,104,105,108,101],())) fun y12=>Option.bind (c15 ([120],())) fun y13=>cond (seq y0.1 [40,49,32,40,51,32,40,52,32,48,41,32,40,57,32,40,49,48,32,49,41,41,32,50,41,41]) (cond (seq y1.1 [40,49,32,40,50,32,40,52,32,48,41,32,40,49,48,32,49,32,40,49,49,32,50,32,40,49,50,32,40,52,32,51,41,41,32,52,41,41,32,40,50,48,32,53,32,40,50,54,32,54,32,40,52,49,32,55,41,32,56,41,32,57,41,41,41]) (cond (ieq y3.2.1 0) (cond (ieq y5.2.1 0) (cond (ieq (lenI y9.1) 2) (cond (ieq (lenI y10.1) 2) (cond (ieq (lenI y11.1) 1) (cond (seq y6.1 [33]) (cond (seq y7.1 [33]) (cond (seq y8.1 [33]) (cond y12.1 (some ((!y13.1),())) (some (false,()))) (some (false,()))) (some (false,()))) (some (false,()))) (some (false,()))) (some (false,()))) (some (false,()))) (some (false,()))) (some (false,()))) (some (false,()))) (some (false,()))
theorem eq14:@run14 = @sh14:=by kernel_rfl
def sh23 (fu:Nat) (c42:(Nd×Unit)->(Option ((List Int)×Unit))) (nf:Nat->Bool) (x0:Nd) (x1:Int):(Option (Bool×Unit)):=Option.bind (c42 ((ndE x0),())) fun y0=>iter fu (fun (rec1:((Int×Unit)×Unit)->Option (Bool×Unit)) (s1:((Int×Unit)×Unit))=>cond (ilt s1.1.1 (lenI y0.1)) (cond (inB s1.1.1 (List.length y0.1)) (cond (ine s1.1.1 (List.getD y0.1 (Int.toNat s1.1.1) 0)) (some (false,())) (rec1 (((iadd .i64 s1.1.1 1),()),()))) (none)) (some ((ieq (lenI y0.1) x1),()))) ((0,()),())
theorem eq23:@run23 = @sh23:=by kernel_rfl
def sh8 (fu:Nat) (c14:Unit->(Option (Bool×Unit))) (c17:(LT×Unit)->(Option (Nd×(Int×Unit)))) (c18:(Str×Unit)->(Option (LT×Unit))) (c23:(Nd×(Int×Unit))->(Option (Bool×Unit))) (nf:Nat->Bool) (x0:Str):(Option (Bool×Unit)):=Option.bind (c14 ()) fun y0=>cond (ilt 1000 (lenI x0)) (some (y0.1,())) (Option.bind (c18 (x0,())) fun y1=>Option.bind (c17 (y1.1,())) fun y2=>cond (ine y2.2.1 0) (cond y0.1 (cond (ieq (Nd.kind y2.1) 0) (some ((ieq (lenI (Nd.kids y2.1)) 0),())) (some (false,()))) (some (false,()))) (Option.bind (c23 ((ndE y2.1),((lenI y1.1),()))) fun y3=>cond y0.1 (cond y3.1 (some ((ieq (Nd.kind y2.1) 1),())) (some (false,()))) (some (false,()))))
theorem eq8:@run8 = @sh8:=by kernel_rfl
theorem con50 (fu:Nat) (c50:zS as50->Option (zS rs50)) (h50:ConOk CC Tryz.prog 50 ⟨as50,rs50,c50⟩) (c69:zS as69->Option (zS rs69)) (h69:ConOk CC Tryz.prog 69 ⟨as69,rs69,c69⟩):ConOk CC Tryz.prog 50 ⟨as50,rs50,fun x=>sh50 fu c50 c69 (fun _=>false) x.1⟩:=
 qZ (c:=⟨as50,rs50,fun x=>sh50 fu c50 c69 (fun _=>false) x.1⟩) (syn:=syn) (fu:=fu) (d:=2) (inl:=zB []) (orc:=zB [(50,(⟨as50,rs50,c50⟩:Con UU)),(69,(⟨as69,rs69,c69⟩:Con UU))]) (orr:=zB []) (orp:=zB []) (pf:=hasN [50,69]) (rf:=hasN []) zl CCok mixed (fun g=>(zF (α:=Con UU) (l:=[(50,(⟨as50,rs50,c50⟩:Con UU)),(69,(⟨as69,rs69,c69⟩:Con UU))]) g).symm) (fun g=>(zF (α:=CR UU) (l:=[]) g).symm) (zD) (zC ⟨zNR,h50⟩ (zC ⟨code69,h69⟩ (zD))) (zD) (zD) fdok50 (by show 1<=31; decide) (xn rfl) (fun nf x=>by show run50 fu c50 c69 nf x.1=_; rw [eq50]; rfl)
theorem con31 (fu:Nat) (c17:zS as17->Option (zS rs17)) (h17:ConOk CC Tryz.prog 17 ⟨as17,rs17,c17⟩) (c18:zS as18->Option (zS rs18)) (h18:ConOk CC Tryz.prog 18 ⟨as18,rs18,c18⟩) (c50:zS as50->Option (zS rs50)) (h50:ConOk CC Tryz.prog 50 ⟨as50,rs50,c50⟩):ConOk CC Tryz.prog 31 ⟨as31,rs31,fun x=>sh31 fu c17 c18 c50 (fun _=>false) x.1⟩:=
 qZ (c:=⟨as31,rs31,fun x=>sh31 fu c17 c18 c50 (fun _=>false) x.1⟩) (syn:=syn) (fu:=fu) (d:=2) (inl:=zB []) (orc:=zB [(17,(⟨as17,rs17,c17⟩:Con UU)),(18,(⟨as18,rs18,c18⟩:Con UU)),(50,(⟨as50,rs50,c50⟩:Con UU))]) (orr:=zB []) (orp:=zB []) (pf:=hasN [17,18,50]) (rf:=hasN []) zl CCok mixed (fun g=>(zF (α:=Con UU) (l:=[(17,(⟨as17,rs17,c17⟩:Con UU)),(18,(⟨as18,rs18,c18⟩:Con UU)),(50,(⟨as50,rs50,c50⟩:Con UU))]) g).symm) (fun g=>(zF (α:=CR UU) (l:=[]) g).symm) (zD) (zC ⟨zH8,h17⟩ (zC ⟨zJb,h18⟩ (zC ⟨zNR,h50⟩ (zD)))) (zD) (zD) fdok31 (by show 1<=15; decide) (xn rfl) (fun nf x=>by show run31 fu c17 c18 c50 nf x.1=_; rw [eq31]; rfl)
theorem con14 (fu:Nat) (c15:zS as15->Option (zS rs15)) (h15:ConOk CC Tryz.prog 15 ⟨as15,rs15,c15⟩) (c17:zS as17->Option (zS rs17)) (h17:ConOk CC Tryz.prog 17 ⟨as17,rs17,c17⟩) (c18:zS as18->Option (zS rs18)) (h18:ConOk CC Tryz.prog 18 ⟨as18,rs18,c18⟩) (c31:zS as31->Option (zS rs31)) (h31:ConOk CC Tryz.prog 31 ⟨as31,rs31,c31⟩) (c32:zS as32->Option (zS rs32)) (h32:ConOk CC Tryz.prog 32 ⟨as32,rs32,c32⟩):ConOk CC Tryz.prog 14 ⟨as14,rs14,fun x=>sh14 fu c15 c17 c18 c31 c32 (fun _=>false)⟩:=
 qZ (c:=⟨as14,rs14,fun x=>sh14 fu c15 c17 c18 c31 c32 (fun _=>false)⟩) (syn:=syn) (fu:=fu) (d:=2) (inl:=zB []) (orc:=zB [(15,(⟨as15,rs15,c15⟩:Con UU)),(17,(⟨as17,rs17,c17⟩:Con UU)),(18,(⟨as18,rs18,c18⟩:Con UU)),(31,(⟨as31,rs31,c31⟩:Con UU)),(32,(⟨as32,rs32,c32⟩:Con UU))]) (orr:=zB []) (orp:=zB []) (pf:=hasN [15,17,18,31,32]) (rf:=hasN []) zl CCok mixed (fun g=>(zF (α:=Con UU) (l:=[(15,(⟨as15,rs15,c15⟩:Con UU)),(17,(⟨as17,rs17,c17⟩:Con UU)),(18,(⟨as18,rs18,c18⟩:Con UU)),(31,(⟨as31,rs31,c31⟩:Con UU)),(32,(⟨as32,rs32,c32⟩:Con UU))]) g).symm) (fun g=>(zF (α:=CR UU) (l:=[]) g).symm) (zD) (zC ⟨zN6,h15⟩ (zC ⟨zH8,h17⟩ (zC ⟨zJb,h18⟩ (zC ⟨code31,h31⟩ (zC ⟨code32,h32⟩ (zD)))))) (zD) (zD) fdok14 (by show 0<=86; decide) (xn rfl) (fun nf x=>by show run14 fu c15 c17 c18 c31 c32 nf=_; rw [eq14]; rfl)
theorem con23 (fu:Nat) (c42:zS as42->Option (zS rs42)) (h42:ConOk CC Tryz.prog 42 ⟨as42,rs42,c42⟩):ConOk CC Tryz.prog 23 ⟨as23,rs23,fun x=>sh23 fu c42 (fun _=>false) x.1 x.2.1⟩:=
 qZ (c:=⟨as23,rs23,fun x=>sh23 fu c42 (fun _=>false) x.1 x.2.1⟩) (syn:=syn) (fu:=fu) (d:=2) (inl:=zB []) (orc:=zB [(42,(⟨as42,rs42,c42⟩:Con UU))]) (orr:=zB []) (orp:=zB []) (pf:=hasN [42]) (rf:=hasN []) zl CCok mixed (fun g=>(zF (α:=Con UU) (l:=[(42,(⟨as42,rs42,c42⟩:Con UU))]) g).symm) (fun g=>(zF (α:=CR UU) (l:=[]) g).symm) (zD) (zC ⟨code42,h42⟩ (zD)) (zD) (zD) fdok23 (by show 2<=25; decide) (xn rfl) (fun nf x=>by show run23 fu c42 nf x.1 x.2.1=_; rw [eq23]; rfl)
theorem con8 (fu:Nat) (c14:zS as14->Option (zS rs14)) (h14:ConOk CC Tryz.prog 14 ⟨as14,rs14,c14⟩) (c17:zS as17->Option (zS rs17)) (h17:ConOk CC Tryz.prog 17 ⟨as17,rs17,c17⟩) (c18:zS as18->Option (zS rs18)) (h18:ConOk CC Tryz.prog 18 ⟨as18,rs18,c18⟩) (c23:zS as23->Option (zS rs23)) (h23:ConOk CC Tryz.prog 23 ⟨as23,rs23,c23⟩):ConOk CC Tryz.prog 8 ⟨as8,rs8,fun x=>sh8 fu c14 c17 c18 c23 (fun _=>false) x.1⟩:=
 qZ (c:=⟨as8,rs8,fun x=>sh8 fu c14 c17 c18 c23 (fun _=>false) x.1⟩) (syn:=syn) (fu:=fu) (d:=2) (inl:=zB []) (orc:=zB [(14,(⟨as14,rs14,c14⟩:Con UU)),(17,(⟨as17,rs17,c17⟩:Con UU)),(18,(⟨as18,rs18,c18⟩:Con UU)),(23,(⟨as23,rs23,c23⟩:Con UU))]) (orr:=zB []) (orp:=zB []) (pf:=hasN [14,17,18,23]) (rf:=hasN []) zl CCok mixed (fun g=>(zF (α:=Con UU) (l:=[(14,(⟨as14,rs14,c14⟩:Con UU)),(17,(⟨as17,rs17,c17⟩:Con UU)),(18,(⟨as18,rs18,c18⟩:Con UU)),(23,(⟨as23,rs23,c23⟩:Con UU))]) g).symm) (fun g=>(zF (α:=CR UU) (l:=[]) g).symm) (zD) (zC ⟨code14,h14⟩ (zC ⟨zH8,h17⟩ (zC ⟨zJb,h18⟩ (zC ⟨code23,h23⟩ (zD))))) (zD) (zD) fdok8 (by show 1<=47; decide) (xn rfl) (fun nf x=>by show run8 fu c14 c17 c18 c23 nf x.1=_; rw [eq8]; rfl)
end Go.Proofs.YtnamdpbcpnnhaaaGreatDoor
end
section
set_option linter.unusedVariables false
set_option linter.unusedSimpArgs false
namespace Go.Proofs.YtnamdpbcpnnhaaaGreatDoor
open Go.Al Go.Den
def xX (s:Str) (n:Int):Int:=if n < s.length then zD5 s n else 0
def c88 (a:Int×Unit) (s:Str) (i:Int):Option (Int×Unit):=if 0<=i+a.1/\i+a.1 < 9223372036854775808/\s.length < 9223372036854775808 then some (xX s (i+a.1),()) else none
set_option maxRecDepth 100000 in
theorem ok88:CROk CC Tryz.prog 88 (cRD [.int .i64] [.int .u8] c88):=by
 intro x R K r hr
 obtain ⟨⟨s0,i,u⟩,k,u'⟩:=x
 change Str at s0
 change Int at i
 change Int at k
 replace hr:Option.bind (c88 (k,()) s0 i) (fun y=>K y)=some r:=hr
 unfold c88 at hr
 split at hr
 rotate_left
 · cases hr
 rename_i h
 replace hr:K (xX s0 (i+k),())=some r:=hr
 replace h:0<=i+k/\i+k < 9223372036854775808/\s0.length < 9223372036854775808:=h
 refine ⟨_,hr,fun s va q hv hn=>?_⟩
 simp only [VKs,VK] at hv
 obtain ⟨v,w,q1,q2,rfl,rfl,⟨b0,cs,q3,rfl,e1,⟨v2,w2,q4,q5,rfl,rfl,⟨rfl,rfl⟩,v4,w4,q8,q9,rfl,rfl,⟨rfl,rfl⟩,rfl,rfl⟩,rfl⟩,v3,w3,q6,q7,rfl,rfl,⟨rfl,rfl⟩,rfl,rfl⟩:=hv
 refine ⟨[.at (.int .u8 (xX s0 (i+k)))],fun s'=>⟨_,[],[],[],rfl,rfl,⟨rfl,rfl⟩,rfl,rfl⟩,?_⟩
 simp only [List.nil_append,List.append_nil,List.cons_append]
 have e2:=(ym s [.inr b0] b0).1 (by simp)
 rw [e1] at e2
 show FnC Tryz.prog 88 _ (subS s [.inr b0]) fun oc s'=>oc = .ret (finV [.at (.int .u8 (xX s0 (i+k)))])/\s' = subS s [.inr b0]
 generalize subS s [.inr b0]=s1 at e2 ⊢
 refine qo Tryz.func88 rfl Tryz.ntmps88 Tryz.results88 (by show 2<=28; decide) fun B=>?_
 simp only [List.cons_append,List.nil_append,List.append_nil,qn,Nat.reduceAdd]
 replace e2:Al.look s1.box b0=some ([.at (.string ⟨List.toArray s0⟩),.at (.int .i64 i)],2):=e2
 have hw:IntKind.i64.wrap (i+k)=i+k:=IntWalk.i64_in _ (by omega)
 have hsz:(⟨List.toArray s0⟩:ByteArray).size=s0.length:=by simp [ByteArray.size]
 (repeat (first | (refine yd ?_) | (refine zv ?_; simp -failIfUnchanged only [zI,zM]) | (refine yc ?_; simp -failIfUnchanged only [yB,zw,yR,z8]) | (refine yL ?_; simp -failIfUnchanged only [zt,zq,zI,zM,reduceIte]) | (refine zy ?_) | ((first | (refine yg polN ks88 _ rfl rfl ?_) | (refine yM polN mixed ks88 _ rfl rfl (by kernel_rfl) (by kernel_rfl) ?_)); simp only [↓xN,↓qP,↓jy,↓kv,↓xP,↓qO,↓qN,↓zB5,zI,zr,yA,yT,xA,xR,kE,yF,yC,qW,zE3,zOH,zO7,xp,xU,xI,yw,xQ,implies_true,and_self,yh,yV,List.length_cons,List.length_nil,List.drop_zero,List.drop_succ_cons,List.take_succ_cons,List.take_zero,List.take_nil,List.getD_cons_zero,List.getD_cons_succ,Bool.true_and,Bool.and_self,if_true,if_false,true_and,Nat.reduceAdd,Nat.reduceEqDiff,Nat.reduceLeDiff,reduceCtorEq,Bool.false_eq_true,Nat.zero_add,Nat.add_zero,Nat.le_refl,Nat.lt_add_one,zF3,zGN,zEF,zLO,zLv,zIZ,strT9,zIK,zJi,ks88,e2,x9,hw,hsz])))
 refine ja rfl (fun h1=>?_) (fun h1=>?_)
 · have h2:i+k >= s0.length:=of_decide_eq_true h1
   have h3:xX s0 (i+k)=0:=if_neg (by omega)
   (repeat (first | (refine yd ?_) | (refine zv ?_; simp -failIfUnchanged only [zI,zM]) | (refine yc ?_; simp -failIfUnchanged only [yB,zw,yR,z8]) | (refine yL ?_; simp -failIfUnchanged only [zt,zq,zI,zM,reduceIte]) | (refine zy ?_) | ((first | (refine yg polN ks88 _ rfl rfl ?_) | (refine yM polN mixed ks88 _ rfl rfl (by kernel_rfl) (by kernel_rfl) ?_)); simp only [↓xN,↓jy,zI,zr,yA,yT,xR,kE,yF,yC,if_true,if_false,Nat.reduceEqDiff,reduceCtorEq,ks88])))
   simp only [yl]
   rw [h3]
   exact ⟨rfl,rfl,trivial⟩
 · have h2:¬ i+k >= s0.length:=of_decide_eq_false h1
   have h3:xX s0 (i+k)=zD5 s0 (i+k):=if_pos (by omega)
   refine zv ?_
   simp -failIfUnchanged only [zI,zM]
   have hin:0<=i+k/\i+k < (s0.length:Int):=by omega
   (repeat (first | (refine yd ?_) | (refine zv ?_; simp -failIfUnchanged only [zI,zM]) | (refine yc ?_; simp -failIfUnchanged only [yB,zw,yR,z8]) | (refine yL ?_; simp -failIfUnchanged only [zt,zq,zI,zM,reduceIte]) | (refine zy ?_) | ((first | (refine yg polN ks88 _ rfl rfl ?_) | (refine yM polN mixed ks88 _ rfl rfl (by kernel_rfl) (by kernel_rfl) ?_)); simp only [↓xN,↓qP,↓jy,↓kv,↓xP,↓zOl,↓qO,↓qN,zI,zr,yA,yT,xA,yF,yC,qW,zE3,xp,xU,xI,yw,xQ,zLF,implies_true,and_self,yh,yV,List.length_cons,List.length_nil,List.drop_zero,List.drop_succ_cons,List.take_succ_cons,List.take_zero,List.take_nil,List.getD_cons_zero,List.getD_cons_succ,Bool.true_and,Bool.and_self,if_true,if_false,true_and,Nat.reduceAdd,Nat.reduceEqDiff,Nat.reduceLeDiff,reduceCtorEq,Bool.false_eq_true,Nat.zero_add,Nat.add_zero,Nat.le_refl,Nat.lt_add_one,zF3,zGN,zEF,zLO,zLv,zIZ,strT9,zIK,zJi,ks88,e2,x9,hw,hsz,hin])))
   have hg:(List.toArray s0).getD (i+k).toNat 0=s0.getD (i+k).toNat 0:=by simp [Array.getD_eq_getD_getElem?,List.getD_eq_getElem?_getD]
   simp only [yl]
   rw [h3,hg]
   exact ⟨rfl,rfl,trivial⟩
end Go.Proofs.YtnamdpbcpnnhaaaGreatDoor
end
