/-
  No name is replaced within what came of it: for every three texts, where they and what the listed variables hold are of bulk at most 1048576, the law ExpandSelf answers true, and leaves its arguments as they were. No condition, but that the listed package-level variables hold what the program's text lays (the card ties them).
-/
import Derived.Test.YtfjiiknfopmcjaaGreatDoorZA7
import Derived.Test.YtfjiiknfopmcjaaGreatDoorCards
set_option linter.unusedVariables false
set_option linter.unusedSimpArgs false
set_option linter.unusedSectionVars false
namespace Go.Proofs.YtfjiiknfopmcjaaGreatDoor
section
open Go.Al Go.Den
def c7 (_:Unit):Option (Bool×Unit):=some (true,())
theorem ok7:ConOk CC Tryz.prog 7 ⟨as7,rs7,c7⟩:=by
 rintro ⟨⟩ y h vs hv;obtain rfl:=Option.some.inj h;obtain rfl:vs=[]:=hv;exact Go.Cx.awake_pure
noncomputable def c6 (fu:Nat) (x:Str×Str×Str×Unit):Option (Bool×Unit):=sh6 fu c7 (c9 fu) (c10A fu) (c11 fu) (c13 fu) (fun _=>false) x.1 x.2.1 x.2.2.1
theorem ok6A (fu:Nat):ConOk CC Tryz.prog 6 ⟨as6,rs6,c6 fu⟩:=con6 fu c7 ok7 (c9 fu) (ok9 fu) (c10A fu) (ok10A fu) (c11 fu) (ok11 fu) (c13 fu) (ok13 fu)
theorem zN5 {fu:Nat} (x:Str) (hfu:x.length+200 < fu) (hx:x.length<=1090000):∃ t b,c13 fu (x,())=some (t,b,()):=by
 obtain ⟨l,hl,_,_⟩:=zFp (fu:=fu) 0 x hfu hx
 suffices h:∀ r:Option (TokT×(Bool×Unit)),sh13 fu (c9 fu) (fun _=>false) x=r->∃ t b,r=some (t,b,()) from h _ rfl
 intro r hr;rw [<- hr];unfold sh13;rw [hl,Option.bind_some];dsimp only;by_cases h1:l.length=1
 . rw [zGz (by show (l.length:Int)=1; omega),zw (by omega) (by show (0:Int) < (l.length:Int); omega)];cases ieq (TokT.kind (List.getD l 0 tokD)) 7 with
   | true=>exact ⟨_,_,rfl⟩
   | false=>
    cases (!(seq (TokT.text (List.getD l 0 tokD)) x)) with
    | true=>exact ⟨_,_,rfl⟩
    | false=>exact ⟨_,_,rfl⟩
 . rw [ine_t (by show (l.length:Int)≠1; omega)];exact ⟨_,_,rfl⟩
theorem apL (a b:List TokT) (t:TokT):zF (((0+a.length)+[t].length)+b.length) ((List.take ((0+a.length)+[t].length) ((List.take (0+a.length) ((List.take 0 [])++a))++[t]))++b)=a++t::b:=by
 simp only [zF,List.take_zero,List.nil_append,Nat.zero_add,List.take_length];have h1:List.take (a.length+[t].length) (a++[t])=a++[t]:=List.take_of_length_le (by simp);rw [h1,List.take_of_length_le (by simp; omega)];simp
theorem zSi (l:List TokT):(noB l).length=l.length:=by cases l <;> rfl
theorem zSZ (l:List TokT):noB (noB l)=noB l:=by cases l <;> rfl
def Let (nm:Str) (l:List TokT) (k:Nat):Prop:=∀ j,(h:j < l.length)->j < k->l[j].text≠[35,35]/\(l[j].kind≠1\/l[j].text=nm)
theorem zSB {nm:Str} {l:List TokT} (h:Let nm l l.length):(∀ t ∈ noB l,t.text≠[35,35])/\∀ t ∈ noB l,t.kind≠1\/t.text=nm:=by
 have key:∀ t ∈ noB l,∃ y ∈ l,y.kind=t.kind/\y.text=t.text:=fun t ht=>by
  cases l with
  | nil=>cases ht
  | cons x r=>
   rcases List.mem_cons.1 ht with rfl | hr
   . exact ⟨x,List.mem_cons_self,rfl,rfl⟩
   . exact ⟨t,List.mem_cons_of_mem _ hr,rfl,rfl⟩
 have key2:∀ y ∈ l,y.text≠[35,35]/\(y.kind≠1\/y.text=nm):=fun y hy=>by
  obtain ⟨j,hj,rfl⟩:=List.getElem_of_mem hy;exact h j hj hj
 refine ⟨fun t ht=>?_,fun t ht=>?_⟩ <;> obtain ⟨y,hy,e1,e2⟩:=key t ht
 . rw [<- e2]; exact (key2 y hy).1
 . rw [<- e1,<- e2]; exact (key2 y hy).2
theorem zRr (fu:Nat) (nm a b:Str) (hfu:2000000 < fu) (hn:nm.length<=1090000):c6 fu (nm,a,b,())=some (true,()):=by
 show sh6 fu c7 (c9 fu) (c10A fu) (c11 fu) (c13 fu) (fun _=>false) nm a b=some (true,());obtain ⟨t1,is,h13⟩:=zN5 (fu:=fu) nm (by omega) hn;unfold sh6;refine yB (v:=(true,())) rfl ?_;refine yB h13 ?_;refine Q_not (fun _=>rfl) fun _=>?_;refine zGk (fun _=>rfl) fun _=>?_;refine qi (fun _=>rfl) fun hnl=>?_;refine qi (fun _=>rfl) fun hal=>?_;refine qi (fun _=>rfl) fun hbl=>?_;replace hal:a.length<=100:=by have h2:(a.length:Int)<=100:=hal; omega
 replace hbl:b.length<=100:=by have h2:(b.length:Int)<=100:=hbl; omega
 obtain ⟨la,h9a,hla,_⟩:=zFp (fu:=fu) 0 a (by omega) (by omega);obtain ⟨lb,h9b,hlb,_⟩:=zFp (fu:=fu) 0 b (by omega) (by omega);refine yB h9a (yB h9b ?_);have hone:∀ t:TokT,[t].length=1:=fun _=>rfl;dsimp only;refine zJ (zJI (by omega)) ?_;refine zJ ?_ ?_
 . rw [Bool.and_eq_true];exact ⟨zDB (by simp),zJI (by rw [hone]; omega)⟩
 refine zJ ?_ ?_
 . rw [Bool.and_eq_true];exact ⟨zDB (by simp),zJI (by rw [hone]; omega)⟩
 refine zCo (fun _=>rfl) fun _=>?_;refine zCo (fun _=>rfl) fun _=>?_;rw [apL];obtain ⟨L,hL⟩:∃ L,L=la++(⟨1,nm,0,0,0,true⟩:TokT)::lb:=⟨_,rfl⟩;have hLl:L.length=la.length+1+lb.length:=by rw [hL,List.length_append,List.length_cons]; omega
 rw [<- hL];refine zJ (qT (by rw [hone,hLl]; omega)) ?_;refine xX (fun st=>∃ (k:Nat),st=(((some L,((k:Int),())),()))/\k<=L.length/\Let nm L k) (fun st=>L.length - st.1.2.1.toNat) ?_ fu _ ⟨0,rfl,Nat.zero_le _,fun j _ h=>absurd h (Nat.not_lt_zero j)⟩ (by show L.length - 0 < fu; omega);rintro rec st ⟨k,rfl,hk,hlet⟩ hrec;refine zGX ?_;dsimp only;refine qi (fun hlt=>?_) fun hge=>?_
 . replace hlt:k < L.length:=zHA hlt;have eg:List.getD L (Int.toNat (k:Int)) tokD=L[k]:=jG hlt;have hm:L.length - (k+1) < L.length - k:=by omega
   have hB:inB (k:Int) L.length=true:=zw (by omega) (by omega);have hB2:Nat.blt (Int.toNat (k:Int)) L.length=true:=zDJ hlt;have eL:zF L.length L=L:=zAd L;rw [eg,i1 (by omega),hB,hB2,eL];have step:L[k].text≠[35,35]->(L[k].kind≠1\/L[k].text=nm)->Let nm L (k+1):=fun h1 h2 j hj hjk=>by
    rcases Nat.lt_or_ge j k with h | h
    . exact hlet j hj h
    . obtain rfl:j=k:=by omega
      exact ⟨h1,h2⟩
   have sq:∀ {s:Str},seq s [35,35]=false->s≠[35,35]:=fun h e=>by rw [zBS,e,decide_eq_true rfl] at h; cases h
   refine zJ rfl (zJ rfl ?_);refine zGr (fun _=>rfl) fun _=>?_;refine zGk (fun hne=>?_) fun heq=>?_
   . refine zJ rfl (zJ rfl ?_);refine zGr (fun _=>rfl) fun hk1=>?_;refine zJ rfl (zJ rfl ?_);refine zCo (fun _=>rfl) fun h3=>?_;refine zJ (qT rfl) ?_;exact hrec _ ⟨k+1,rfl,hlt,step (sq h3) (.inl hk1)⟩ hm
   . refine zJ rfl (zJ rfl ?_);refine zCo (fun _=>rfl) fun h3=>?_;refine zJ (qT rfl) ?_;refine hrec _ ⟨k+1,rfl,hlt,step (sq h3) (.inr ?_)⟩ hm;have e:k=la.length:=by
      have h2:(k:Int)=(la.length:Int):=heq;omega
     subst e;have:L[la.length]? = some ⟨1,nm,0,0,0,true⟩:=by rw [hL,List.getElem?_append_right (Nat.le_refl _),Nat.sub_self]; rfl
     rw [List.getElem?_eq_getElem hlt] at this;rw [Option.some.inj this]
 . have e:k=L.length:=by
    have h2:(L.length:Int)<=(k:Int):=hge;omega
   subst e;have hne:L≠[]:=fun e=>by rw [e] at hLl; simp at hLl; omega
   have e0:List.set L 0 (TokT.mk (TokT.kind (List.getD L 0 tokD)) (TokT.text (List.getD L 0 tokD)) (TokT.file (List.getD L 0 tokD)) (TokT.ffrom (List.getD L 0 tokD)) (TokT.fto (List.getD L 0 tokD)) false)=noB L:=by
    cases L with
    | nil=>exact absurd rfl hne
    | cons x r=>rfl
   have h0:0 < L.length:=by omega
   rw [e0];obtain ⟨M,hM⟩:∃ M,M=noB L:=⟨_,rfl⟩;have hMl:M.length=L.length:=by rw [hM,zSi]
   rw [<- hM];refine zJ (zw (by omega) (by omega)) ?_;refine zJ (zDJ h0) ?_;refine zJ (zDB (by omega)) ?_;have eL:zF L.length M=M:=zAa hMl;rw [eL];obtain ⟨p1,p2⟩:=zSB hlet;rw [<- hM] at p1 p2;have hM0:M≠[]:=fun e=>by rw [e] at hMl; simp at hMl; omega
   refine yB (zQk fu (by omega) nm M hM0 (by omega) (by rw [hM,zSZ]) p1 p2) ?_;refine zJ rfl ?_;refine zGr (fun _=>?_) fun h=>absurd rfl h;refine zJ ?_ ?_
   . cases M with
     | nil=>exact absurd rfl hM0
     | cons x r=>rfl
   . exact yB (zRa fu M (by omega) (by omega)) rfl
end
section
open Go.Al Go.Den
def u6 (x:Str×Str×Str×Unit):Option (Bool×Unit):=if x.1.length+x.2.1.length+x.2.2.1.length<=1048576 then some (true,()) else none
theorem ok6:ConOk CC Tryz.prog 6 ⟨as6,rs6,u6⟩:=fun x y hx=>by
 obtain ⟨x0,x1,x2,u⟩:=x;change Str at x0 x1 x2;by_cases h:x0.length+x1.length+x2.length<=1048576
 . have h2:u6 (x0,x1,x2,u)=some (true,()):=if_pos h;replace hx:u6 (x0,x1,x2,u)=some y:=hx;rw [h2] at hx;injection hx with hx
   subst hx;exact ok6A 2000001 (x0,x1,x2,u) _ (zRr 2000001 x0 x1 x2 (by omega) (by omega))
 . have h2:u6 (x0,x1,x2,u)=none:=if_neg h;replace hx:u6 (x0,x1,x2,u)=some y:=hx;rw [h2] at hx;cases hx
end
end Go.Proofs.YtfjiiknfopmcjaaGreatDoor
namespace Go.Proofs.YtfjiiknfopmcjaaGreatDoor.expandSelf
section
open Go.Al Go.Den Go.ChangeShapes Go.WideShapes Go.ChangeAt Go.RowKit
open Go.ChangeMaps (open_string shut_string)
theorem own:ownKnob Tryz.prog.godebug=none:=by kernel_rfl
theorem laidOut:laidOutB Tryz.prog=true:=by kernel_rfl
theorem walk (z0:List UInt8) (z1:List UInt8) (z2:List UInt8) (hb:z0.length+z1.length+z2.length<=1048576) (W:World) (hgl:GlobOk W.heap.size (wmOf W) W) (v0 v1 v2:Value) (h0:RV1 ⟨wmOf W,fun _=>none,Fr.no⟩ W (.at (.string ⟨z0.toArray⟩)) v0) (h1:RV1 ⟨wmOf W,fun _=>none,Fr.no⟩ W (.at (.string ⟨z1.toArray⟩)) v1) (h2:RV1 ⟨wmOf W,fun _=>none,Fr.no⟩ W (.at (.string ⟨z2.toArray⟩)) v2):Calls Tryz.prog 6 #[v0,v1,v2] W fun e W'=>e = .returned (.bool true)/\Below W.heap.size W W':=by
 have hp:=ok6 (z0,z1,z2,()) (true,()) (if_pos hb) _ ⟨_,_,rfl,rfl,⟨_,_,rfl,rfl,⟨_,_,rfl,rfl,rfl⟩⟩⟩;refine (hp (wmOf W) W [v0,v1,v2] (zNr W) hgl (.cons h0 (.cons h1 (.cons h2 RVs.nil)))).mono ?_;rintro e W' ⟨v,wm',rfl,_,hst,hr⟩;have hv:v = .bool true:=zQ hr;subst hv;exact ⟨rfl,hst.below⟩
theorem reads (os:Os) {H:Type} (enc:TypeId×Value->H):∃ places,DataW.whole enc Tryz.prog ((World.laidAll Tryz.prog os zGC).forCall (fun _ _=>0) ⟨#[],#[.string ByteArray.empty,.string ByteArray.empty,.string ByteArray.empty],[]⟩).memory Tryz.f6.params.toList Rows.expandSelfSpec.vars false (#[.string ByteArray.empty,.string ByteArray.empty,.string ByteArray.empty]:Array Value).toList 8=some ([DataW.lit (.string []),DataW.lit (.string []),DataW.lit (.string [])],[],places):=
 ⟨[],by kernel_rfl⟩
set_option maxRecDepth 100000 in
theorem lifted (os:Os) (started:os.Started) (H:Type) (enc:TypeId×Value->H) (F:Stop.Interp) :
 ReturnsInHanded {} Tryz.checked os 6 .any ((Rows.OpenSpec.upto Rows.expandSelfSpec).preRow enc Tryz.prog Tryz.f6 Rows.expandSelfUptoRow.domain false Rows.expandSelfUptoRow.laid) (((Rows.OpenSpec.upto Rows.expandSelfSpec).at F).post enc Tryz.prog Tryz.f6 false true false false):=by
 obtain ⟨places,hx⟩:=reads os enc;refine returnsInHanded_of_row (C:=Tryz.checked) (s:=Rows.OpenSpec.upto Rows.expandSelfSpec) own started (by kernel_rfl) Tryz.func6
  (zH0 (enc:=enc) (C:=Tryz.checked) false (World.laidAll Tryz.prog os zGC) #[.string ByteArray.empty,.string ByteArray.empty,.string ByteArray.empty] (World.laidAll_os _ _ _) (World.shaped_of_ZipB (by kernel_rfl) (by kernel_rfl)) (by kernel_rfl)
   (OpenSpec.preRow_of_cond 8 hx (by kernel_rfl) (fun k hk=>by cases hk; kernel_rfl) (by kernel_rfl) (zR3 os _))) ?_
 intro W base args ds gs before hval0 hW _ hcond _ hL hsh _;have hval:∀ (j:Nat) t v,Tryz.f6.params[j]? = some t->args[j]? = some v->Value.okWide Tryz.prog W .any base t v:=hval0;have hW':=hW;obtain ⟨p,q,hA0,hV,rfl,hfz,hnd⟩:=hW;have hA:DataW.TrodAll enc Tryz.prog W 0 (fun _=>true) true Tryz.f6.params.toList args.toList ds p:=hA0;rw [Tryz.params6] at hA hval;obtain ⟨v0,vs0,d0,ds0,p0,q0,hargs,rfl,rfl,h0,r0⟩:=trodAll_cons hA;obtain ⟨v1,vs1,d1,ds1,p1,q1,rfl,rfl,rfl,h1,r1⟩:=trodAll_cons r0;obtain ⟨v2,vs2,d2,ds2,p2,q2,rfl,rfl,rfl,h2,r2⟩:=trodAll_cons r1;obtain ⟨rfl,rfl,rfl⟩:=trodAll_nil r2;obtain rfl:args = #[v0,v1,v2]:=by cases args; simp_all
 obtain ⟨rfl,rfl⟩:=trodVars_none hV;have hgl:=zHZ hsh hL;have k0:=h0;have lt0:∀ x ∈ p0,x.block < W.heap.size:=by obtain ⟨m,hm⟩:=k0; exact DataW.trod_lt m _ _ _ hm
 obtain ⟨s0,rfl,rfl,rfl,w0⟩:=open_string Tryz.underlying9 (hval 0 9 v0 rfl rfl) h0;have k1:=h1;have lt1:∀ x ∈ p1,x.block < W.heap.size:=by obtain ⟨m,hm⟩:=k1; exact DataW.trod_lt m _ _ _ hm
 obtain ⟨s1,rfl,rfl,rfl,w1⟩:=open_string Tryz.underlying9 (hval 1 9 v1 rfl rfl) h1;have k2:=h2;have lt2:∀ x ∈ p2,x.block < W.heap.size:=by obtain ⟨m,hm⟩:=k2; exact DataW.trod_lt m _ _ _ hm
 obtain ⟨s2,rfl,rfl,rfl,w2⟩:=open_string Tryz.underlying9 (hval 2 9 v2 rfl rfl) h2;have hb:=of_decide_eq_true (hcond _ rfl);simp only [List.append_nil,List.nil_append,Rows.uptoBulkAll,Rows.uptoBulk,List.cons_append] at hb;clear hA0 hval0 hcond;refine (walk s0.data.toList s1.data.toList s2.data.toList (by omega) W hgl _ _ _ (zH5 s0) (zH5 s1) (zH5 s2)).mono fun e W' ⟨he,bel⟩=>?_;subst he;exact ⟨_,rfl,_,_,_,[],_,[],hW',trodAll_mk1 (shut_bool Tryz.underlying4 _),(trodAll_cons_mk (Below.trod laidOut (by kernel_rfl) (of_decide_eq_true (by kernel_rfl)) k0 bel lt0) (trodAll_cons_mk (Below.trod laidOut (by kernel_rfl) (of_decide_eq_true (by kernel_rfl)) k1 bel lt1) (trodAll_cons_mk (Below.trod laidOut (by kernel_rfl) (of_decide_eq_true (by kernel_rfl)) k2 bel lt2) trodAll_mk0))),rfl,bel.frame _,fun h=>by cases h⟩
theorem over:Rows.ExpandSelfUptoSaid:=
 OpenClaim.holds_of_cond 6 Tryz.f6 rfl rfl rfl rfl rfl rfl rfl ⟨rfl,rfl,rfl,rfl,rfl⟩ rfl rfl rfl rfl rfl (by kernel_rfl) Tryz.func6 (by kernel_rfl)
  (of_decide_eq_true (by kernel_rfl)) (by unfold Func.isWrapper; first | (rw [if_pos (by decide +kernel)]; kernel_rfl) | (rw [if_neg (by decide +kernel)]; exact ⟨rfl,rfl⟩))
  (fun os started H enc _ F=>by rw [OpenClaim.pre_eq_preRow]; exact lifted os started H enc F)
theorem expandSelf_holds:Rows.ExpandSelfUptoCardSaid:=
 Claim7.holds_tied_plain_at .later [] [.data,.data,.pinned] true (true, "4970534abb448be6b6b0e3a2e0ecd71069b33ec47d661ce25528f19454097e4d") true
  over (fun _ h=>by cases h) (by kernel_rfl) (fun _ h=>by cases h) expandSelfUpto_row_tie rfl ⟨rfl,rfl⟩ (by kernel_rfl) rfl
  (fun f fn hf hfn=>by
   obtain rfl:f=6:=Option.some.inj ((show Tryz.prog.funcNamed "emend/emendlaw08.ExpandSelf" = some 6 by kernel_rfl).symm.trans hf) |>.symm;obtain rfl:fn=Tryz.f6:=(Option.some.inj (Tryz.func6.symm.trans hfn)).symm;exact ⟨by kernel_rfl,fun j t ht=>by
    rw [Tryz.params6] at ht;have hm:t ∈ [9,9,9]:=by simpa using Array.mem_of_getElem? ht
    have hall:([9,9,9].all fun u=>!Tryz.prog.wantsStandIn u)=true:=by kernel_rfl
    exact (show Tryz.prog.wantsStandIn t=false by simpa using List.all_eq_true.1 hall t hm)⟩)
  (by kernel_rfl)
end
end Go.Proofs.YtfjiiknfopmcjaaGreatDoor.expandSelf
