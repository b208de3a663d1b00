/-
  What has no macro's name stays, token by token, and its line ends are blanks: for every texts of macros and every text, where they and what the listed variables hold are of bulk at most 1048576, the law ExpandNone answers true, and leaves its arguments as they were. No condition, but that the listed package-level variables hold what the program's text lays (the card ties them).
-/
import Derived.Test.YtfjiiknfopmcjaaGreatDoorZB7
import Derived.Test.YtfjiiknfopmcjaaGreatDoorProg
import Derived.Test.YtfjiiknfopmcjaaGreatDoorCards
set_option linter.unusedVariables false
set_option linter.unusedSimpArgs false
set_option linter.unusedSectionVars false
namespace Go.Cx
section
open Go.RowKit
section
variable {P:Program}
noncomputable def gloK (ng:Nat) (L:List (Nat×List Value)):Tr HO->(Tr HO->Bool)->Bool:=
 List.rec (motive:=fun _=>Tr HO->(Tr HO->Bool)->Bool) (fun h κ=>κ h) (fun p _ ih h κ=>cvL p.2 fun xs=>bif Nat.blt p.1 ng then Tr.setK (.ro xs) 40 h p.1 fun h=>ih h κ else false) L
def GloE (ng:Nat) (L:List (Nat×List Value)) (l:Nat) (o:HO):Prop:=∃ xs us,o = .ro xs/\(l,us) ∈ L/\(∀ N,xs.map (tr N)=us)/\bds 0 xs/\ones xs/\l < ng
theorem zNc {ng:Nat} {L0:List (Nat×List Value)}:∀ {L:List (Nat×List Value)} {h:Tr HO} {κ:Tr HO->Bool},(∀ p ∈ L,p ∈ L0)->(∀ l o,h.get l=some o->GloE ng L0 l o)->gloK ng L h κ=true->∃ h',κ h' = true/\∀ l o,h'.get l=some o->GloE ng L0 l o
 | [],h,κ,_,hh,hk=>⟨h,hk,hh⟩
 | p::L,h,κ,hL,hh,hk=>by
  have hk:(cvL p.2 fun xs=>bif Nat.blt p.1 ng then Tr.setK (.ro xs) 40 h p.1 fun h=>gloK ng L h κ else false)=true:=hk;obtain ⟨xs,h1,h2,h3,h4⟩:=zFl hk;obtain ⟨h5,h6⟩:=zK h1;obtain ⟨h',h7,h8⟩:=Tr.setK_ok _ _ _ _ _ h6;refine zNc (fun q hq=>hL q (by simp [hq])) (fun l o ho=>?_) h7;rw [h8] at ho;split at ho
  . rename_i e; subst e; injection ho with ho; subst ho
    exact ⟨xs,p.2,rfl,hL p (by simp),h2,h3,h4,blt_iff.1 h5⟩
  . exact hh l o ho
def zKh (L:List (Nat×List Value)) (B:Nat) (w:World):Prop:=∀ p ∈ L,p.1 < B/\∃ arr el m,w.heap[p.1]? = some (.cells arr el m)/\arr.toList.take p.2.length=p.2
noncomputable def runK (P:Program) (nty nfn ng n:Nat) (L:List (Nat×List Value)) (ex:Tr EX) (sm:Tr SumF) (f:FuncId) (x:Tr HO->(Tr HO->List T->Nat->Bool)->Bool) (K:T->Bool):Bool:=
 ttK P nty .lf fun tt=>ftK P nfn .lf fun ft=>gloK ng L .lf fun h=>x h fun h args nl=>xfn (xc ⟨tt,ft,ex,sm,ng⟩ (zLq ⟨tt,ft,ex,sm,ng⟩) n) ⟨tt,ft,ex,sm,ng⟩ f args ⟨h,nl⟩ fun r _=>(match r with
  | .ret x=>K x
  | .pan _=>false)
theorem zOB {nty nfn ng n:Nat} {L:List (Nat×List Value)} {ex:Tr EX} {sm:Tr SumF} {f:FuncId} {x:Tr HO->(Tr HO->List T->Nat->Bool)->Bool} {K:T->Bool} (hm:P.follows .mixedOrders=true) (hex:∀ f k,ex.get f=some k->EOk P f k) (hsm:∀ f g,sm.get f=some g->zGE P ng f g) (h:runK P nty nfn ng n L ex sm f x K=true) :
 ∃ h0,(∀ l o,h0.get l=some o->GloE ng L l o)/\∃ κ,x h0 κ=true/\∀ h args nl,κ h args nl=true->∀ (B:Bs) (N:NM) (w:World),B.ng=ng->HSim B N ⟨h,nl⟩ w->bds nl args->CallsIn (fen none) 0 P f (args.map (tr N)).toArray w (qo B N ⟨h,nl⟩ w fun r _=>(match r with
  | .ret x=>K x
  | .pan _=>false)):=by
 unfold runK at h;obtain ⟨tt,h1,h2⟩:=zLY _ _ _ (fun i d hd=>by rw [Tr.get_lf] at hd; cases hd) h;obtain ⟨ft,h3,h4⟩:=zMb _ _ _ (fun i d hd=>by rw [Tr.get_lf] at hd; cases hd) h1;obtain ⟨h0,h5,h6⟩:=zNc (fun p hp=>hp) (fun l o ho=>by rw [Tr.get_lf] at ho; cases ho) h3;refine ⟨h0,h6,_,h5,fun h args nl hk B N w hng hs ha=>?_⟩;have hD:DOk P ⟨tt,ft,ex,sm,ng⟩:=⟨h2,h4,hex,hsm,hm⟩;exact zIk (xc_ok hD hng.symm (zPz hD hng.symm) n).1 hD hng.symm hk hs ha none
theorem zH7 {ng B:Nat} {L:List (Nat×List Value)} {h:Tr HO} (hh:∀ l o,h.get l=some o->GloE ng L l o) {w:World} (hg:zKh L B w) (hB:B<=w.heap.size) (nm:NM) (hnm:∀ g,g < ng->nm.bl g=g):HSim ⟨B,ng⟩ nm ⟨h,ng⟩ w:=by
 refine ⟨hB,Nat.le_refl _,hnm,fun l o ho=>?_,fun l o ho=>?_,fun l o ho hd=>?_,fun l l' o o' ho ho' _ _ e=>?_⟩
 . obtain ⟨xs,us,rfl,h1,h2,h3,h4,h5⟩:=hh l o ho; exact h5
 . obtain ⟨xs,us,rfl,h1,h2,h3,h4,h5⟩:=hh l o ho;obtain ⟨_,arr,el,m,k1,k2⟩:=hg _ h1;rw [hnm l h5];have hl:us.length=xs.length:=by rw [<- h2 nm]; simp
   refine ⟨arr,el,m,k1,?_,?_,⟨yI (Nat.zero_le _) _ h3,h4⟩⟩
   . have:=congrArg List.length k2;rw [List.length_take] at this;change min us.length arr.toList.length=us.length at this;have h9:arr.toList.length=arr.size:=Array.length_toList;omega
   . rw [<- hl,k2,h2 nm]
 . obtain ⟨xs,us,rfl,h1,h2,h3,h4,h5⟩:=hh l o ho;have:=(hg _ h1).1;rw [hnm l h5];exact ⟨this,Nat.lt_of_lt_of_le this hB⟩
 . obtain ⟨xs,us,rfl,h1,h2,h3,h4,h5⟩:=hh l o ho;obtain ⟨xs',us',rfl,h1',h2',h3',h4',h5'⟩:=hh l' o' ho'
   rwa [hnm l h5,hnm l' h5'] at e
noncomputable def trueK (P:Program) (nty nfn ng n:Nat) (L:List (Nat×List Value)) (ex:Tr EX) (sm:Tr SumF) (f:FuncId):Bool:=runK P nty nfn ng n L ex sm f (fun h κ=>κ h [] ng) fun x=>(match x with
 | .bool b=>b
 | _=>false)
theorem zOT {nty nfn ng n:Nat} {ex:Tr EX} {sm:Tr SumF} {f:FuncId} (hm:P.follows .mixedOrders=true) (hex:∀ f k,ex.get f=some k->EOk P f k) (hsm:∀ f g,sm.get f=some g->zGE P ng f g) (h:trueK P nty nfn ng n Al.globA ex sm f=true):Al.PureF P f [] (.at (.bool true)):=by
 intro wm w vs hwm hgl hv;cases hv;obtain ⟨h0,hh,κ,h1,h2⟩:=zOB hm hex hsm h;have hg:zKh Al.globA w.heap.size w:=fun p hp=>⟨(hgl.all p hp).1,let ⟨arr,el,m,q1,q2⟩:=(hgl.all p hp).2.1; ⟨arr,el,m,q1,by rw [<- q2,List.take_length]⟩⟩;have hs:=zH7 (B:=w.heap.size) hh hg (Nat.le_refl _) ⟨fun g=>g,fun _=>0⟩ (fun _ _=>rfl);have hc:=h2 h0 [] ng h1 ⟨w.heap.size,ng⟩ ⟨fun g=>g,fun _=>0⟩ w rfl hs trivial;have hc':CallsIn Fence.wide 0 P f #[] w _:=hc;refine Calls.mono (callsIn_wide.1 hc') ?_;rintro en w' ⟨r,N',S',k1,k2,k3⟩;cases r with
 | pan x=>cases k1
 | ret x=>
  obtain ⟨rfl,_⟩:=k2;cases x with
  | bool b=>
   have k1:b=true:=k1;subst k1;refine ⟨.bool true,wm,rfl,fun b hb=>hwm b (Nat.le_trans k3.bel.size hb),⟨⟨fun _=>Nat.le_refl _,fun _ _ e=>((by cases e)),fun b o ho=>?_⟩,k3.bel,fun b hb=>(by cases hb),fun _ _=>rfl,rfl⟩,Al.RV_at_mk rfl⟩;have hb:b < w.heap.size:=Nat.lt_of_not_le fun hle=>by have:=hwm b hle; dsimp only at ho; omega
   exact k3.bel.cell hb
  | _=>cases k1
structure Ent where
 ds:List (List Nat)
 s:List Nat
 r:List Nat
def kJ (P:Program) (L:List (Nat×List Value)) (f:FuncId) (e:Ent):Prop:=∀ (w:World) (b:Nat) (arr:Array Value) (el:TypeId) (m:Nat×Nat),w.heap[b]? = some (.cells arr el m)->arr.toList.take e.ds.length=e.ds.map (fun d=>.string (bts d))->(∀ p ∈ L,p.1≠b)->zKh L w.heap.size w ->
 CallsIn (fen none) 0 P f #[.slice (some ⟨b,0,none⟩) e.ds.length e.ds.length,.string (bts e.s)] w fun en w'=>en = .returned (.string (bts e.r))/\Below w.heap.size w w'
noncomputable def zOg (l:List (List Nat)):(List T->Bool)->Bool:=List.rec (motive:=fun _=>(List T->Bool)->Bool) (fun κ=>κ []) (fun s _ ih κ=>ih fun r=>κ (.str s::r)) l
theorem zHH:∀ (l:List (List Nat)) (κ:List T->Bool),zOg l κ=κ (l.map .str)
 | [],_=>rfl
 | s::l,κ=>(zHH l fun r=>κ (.str s::r))
noncomputable def entK (P:Program) (nty nfn ng n:Nat) (L:List (Nat×List Value)) (ex:Tr EX) (sm:Tr SumF) (f:FuncId) (e:Ent):Bool:=
 runK P nty nfn ng n L ex sm f (fun h κ=>zOg e.ds fun cs=>fN (List.length e.ds) fun k=>Tr.setK (.ro cs) 40 h ng fun h=>κ h [.slc ng 0 k k,.str e.s] (ng+1)) fun x=>(match x with
  | .str s=>seqB s e.r
  | _=>false)
theorem zUl {nty nfn ng n:Nat} {L:List (Nat×List Value)} {ex:Tr EX} {sm:Tr SumF} {f:FuncId} {e:Ent} (hm:P.follows .mixedOrders=true) (hex:∀ f k,ex.get f=some k->EOk P f k) (hsm:∀ f g,sm.get f=some g->zGE P ng f g) (h:entK P nty nfn ng n L ex sm f e=true):kJ P L f e:=by
 intro w b arr el m hb harr hne hg;obtain ⟨h0,hh,κ,h1,h2⟩:=zOB hm hex hsm h;rw [zHH,zo] at h1;obtain ⟨h',h3,h4⟩:=Tr.setK_ok _ _ _ _ _ h1;have hbw:b < w.heap.size:=(Array.getElem?_eq_some_iff.1 hb).1;have hs0:=zH7 (ng:=ng) (B:=w.heap.size) hh hg (Nat.le_refl _) ⟨fun l=>if l=ng then b else l,fun _=>0⟩ (fun g hg=>if_neg (by omega));have hbl:(⟨fun l=>if l=ng then b else l,fun _=>0⟩:NM).bl ng=b:=if_pos rfl;have hbd:∀ l:List (List Nat),bds (ng+1) (l.map .str)/\ones (l.map .str):=fun l=>by
  refine ⟨(zAl _ _).2 fun x hx=>?_,List.all_eq_true.2 fun x hx=>?_⟩
  . obtain ⟨_,_,rfl⟩:=List.mem_map.1 hx; trivial
  . obtain ⟨_,_,rfl⟩:=List.mem_map.1 hx; rfl
 have hs:HSim ⟨w.heap.size,ng⟩ ⟨fun l=>if l=ng then b else l,fun _=>0⟩ ⟨h',ng+1⟩ w:=by
  refine ⟨Nat.le_refl _,Nat.le_succ _,hs0.glo,fun l o ho=>?_,fun l o ho=>?_,fun l o ho hd=>?_,fun l l' o o' ho ho' hd hd' e1=>?_⟩
  . rw [h4] at ho;split at ho
    . rename_i e1; show l < ng+1; omega
    . exact Nat.lt_succ_of_lt (hs0.lt l o ho)
  . rw [h4] at ho;split at ho
    . rename_i e1; subst e1;injection ho with ho; subst ho
      rw [hbl];refine ⟨arr,el,m,hb,?_,?_,hbd _⟩
      . have:=congrArg List.length harr;rw [List.length_take,Array.length_toList,List.length_map] at this;rw [List.length_map]; omega
      . rw [List.length_map,harr,List.map_map]; rfl
    . exact (hs0.ok l o ho).ext (.refl _ _) (Nat.le_succ _) (hs0.lt l o ho)
  . rw [h4] at ho;split at ho
    . rename_i e1; subst e1;injection ho with ho; subst ho
      rw [hbl];exact ⟨hbw,hbw⟩
    . exact hs0.low l o ho hd
  . rw [h4] at ho ho';have glob:∀ {l o},h0.get l=some o->(⟨fun l=>if l=ng then b else l,fun _=>0⟩:NM).bl l≠b:=fun {l o} ho e2=>by
     obtain ⟨xs,us,_,q1,_,_,_,q2⟩:=hh l o ho;rw [hs0.glo l q2] at e2;exact hne _ q1 e2
    split at ho <;> split at ho'
    . rename_i e2 e3; rw [e2,e3]
    . rename_i e2 e3; subst e2; rw [hbl] at e1; exact absurd e1.symm (glob ho')
    . rename_i e2 e3; subst e3; rw [hbl] at e1; exact absurd e1 (glob ho)
    . exact hs0.inj l l' o o' ho ho' hd hd' e1
 have hc:=h2 h' _ _ h3 ⟨w.heap.size,ng⟩ ⟨fun l=>if l=ng then b else l,fun _=>0⟩ w rfl hs ⟨Nat.lt_succ_self ng,trivial,trivial⟩;have ea:(List.map (tr ⟨fun l=>if l=ng then b else l,fun _=>0⟩) [T.slc ng 0 e.ds.length e.ds.length,T.str e.s]).toArray = #[.slice (some ⟨b,0,none⟩) e.ds.length e.ds.length,.string (bts e.s)]:=by simp [tr]
 rw [ea] at hc;refine CallsIn.mono hc ?_;rintro en w' ⟨r,N',S',k1,k2,k3⟩;cases r with
 | pan x=>cases k1
 | ret x=>
  obtain ⟨rfl,_⟩:=k2;cases x with
  | str s=>
   have k1:seqB s e.r=true:=k1;rw [jv,decide_eq_true_eq] at k1;exact ⟨by simp only [tr,bts,k1],k3.bel⟩
  | _=>cases k1
noncomputable def glB (ng:Nat) (L:List (Nat×List Value)) (S:XS):Bool:=
 List.rec (motive:=fun _=>Bool) true (fun p _ ih=>(cvL p.2 fun xs=>Nat.blt p.1 ng && (match S.h.get p.1 with
  | some o=>(match o with
   | .ro cs=>eqs0 xs cs
   | _=>false)
  | none=>false)) && ih) L
noncomputable def entB (e:Ent) (S:XS) (l n:Nat) (s:List Nat):Bool:=Nat.beq n e.ds.length && (seqB s e.s && rdK S l fun cs=>zA8 n cs fun xs=>zOg e.ds fun ys=>eqs0 xs ys)
noncomputable def tabG (ng:Nat) (L:List (Nat×List Value)) (tb:List Ent) (args:List T) (S:XS):Option T:=
 match args with
 | [.slc l o n c,.str s]=>bif Nat.beq o 0 && Nat.beq c n && Nat.ble ng l && glB ng L S then List.rec (motive:=fun _=>Option T) none (fun e _ ih=>bif entB e S l n s then some (.str e.r) else ih) tb else none
 | _=>none
theorem zUa {S:XS} {l:Nat} {κ:List T->Bool} (h:rdK S l κ=true):∃ o,S.h.get l=some o/\y9 o=false:=by
 unfold rdK at h;split at h
 . rename_i o ho;refine ⟨o,ho,?_⟩;split at h
   . rfl
   . rfl
   . cases h
 . cases h
theorem zRS {B:Bs} {N:NM} {S:XS} {w:World} (hs:HSim B N S w):∀ {L:List (Nat×List Value)},glB B.ng L S=true->zKh L w.heap.size w/\∀ p ∈ L,p.1 < B.ng/\∃ o,S.h.get p.1=some o/\y9 o=false
 | [],_=>⟨fun _ hp=>(by cases hp),fun _ hp=>(by cases hp)⟩
 | p::L,h=>by
  have h:((cvL p.2 fun xs=>Nat.blt p.1 B.ng && (match S.h.get p.1 with
   | some o=>(match o with
    | .ro cs=>eqs0 xs cs
    | _=>false)
   | none=>false)) && glB B.ng L S)=true:=h
  rw [Bool.and_eq_true] at h;obtain ⟨h1,h2⟩:=h;obtain ⟨xs,h3,h4,_,_⟩:=zFl h1;rw [Bool.and_eq_true] at h3;obtain ⟨h5,h6⟩:=h3;have hlt:=blt_iff.1 h5;obtain ⟨q1,q2⟩:=zRS hs h2;have key:(p.1 < w.heap.size/\∃ arr el m,w.heap[p.1]? = some (.cells arr el m)/\arr.toList.take p.2.length=p.2)/\∃ o,S.h.get p.1=some o/\y9 o=false:=by
   split at h6
   case h_2=>cases h6
   rename_i o ho;split at h6
   case h_2=>cases h6
   rename_i cs;obtain ⟨arr,el,m,k1,k2,k3,_⟩:=hs.ok _ _ ho;have hl:=hs.low _ _ ho rfl;rw [hs.glo _ hlt] at k1 hl;refine ⟨⟨hl.2,arr,el,m,k1,?_⟩,_,ho,rfl⟩;have e1:xs.map (tr N)=cs.map (tr N):=by rw [<- yE,<- yE]; exact zBN N h6
   have e2:p.2=cs.map (tr N):=by rw [<- h4 N,e1]
   rw [e2,List.length_map];exact k3
  exact ⟨fun q hq=>by
   rcases List.mem_cons.1 hq with rfl | hq
   . exact key.1
   . exact q1 q hq,fun q hq=>by
   rcases List.mem_cons.1 hq with rfl | hq
   . exact ⟨hlt,key.2⟩
   . exact q2 q hq⟩
theorem zUv {ng:Nat} {L:List (Nat×List Value)} {f:FuncId} {tb:List Ent} (htb:∀ e ∈ tb,kJ P L f e):zGE P ng f (sum0 (tabG ng L tb)):=by
 refine zUj ?_;intro B N S w args r hB hs ha h;subst hB;unfold tabG at h;split at h
 case h_2=>cases h
 rename_i l o n c s;cases hc:(Nat.beq o 0 && Nat.beq c n && Nat.ble B.ng l && glB B.ng L S) with
 | false=>rw [hc,cond_false] at h; cases h
 | true=>
  rw [hc,cond_true] at h;simp only [Bool.and_eq_true] at hc;have k1:=beq_iff.1 hc.1.1.1;have k2:=beq_iff.1 hc.1.1.2;have k3:=Nat.le_of_ble_eq_true hc.1.2;obtain ⟨k4,k5⟩:=zRS hs hc.2;subst k1; subst k2;clear hc
  induction tb with
  | nil=>cases h
  | cons e tb ih=>
   have h:(bif entB e S l c s then some (T.str e.r) else List.rec (motive:=fun _=>Option T) none (fun e _ ih=>bif entB e S l c s then some (.str e.r) else ih) tb)=some r:=h;cases he:entB e S l c s with
   | false=>rw [he,cond_false] at h; exact ih (fun e' he'=>htb e' (by simp [he'])) h
   | true=>
    rw [he,cond_true] at h;injection h with h
    subst h;refine ⟨trivial,?_⟩;unfold entB at he;simp only [Bool.and_eq_true] at he;have j1:=beq_iff.1 he.1;have j2:=he.2.1;rw [jv,decide_eq_true_eq] at j2;obtain ⟨cs,arr,el,mm,q1,q2,q3,q4,q5,q6,q7⟩:=zFF hs he.2.2;obtain ⟨q8,q9⟩:=qb _ _ _ q1;rw [zHH] at q9;have e1:(cs.take c).map (tr N)=(e.ds.map T.str).map (tr N):=by rw [<- yE,<- yE]; exact zBN N q9
    have e2:arr.toList.take e.ds.length=e.ds.map fun d=>.string (bts d):=by
     have:arr.toList.take c=(cs.take c).map (tr N):=by rw [List.map_take,<- q5,List.take_take]; congr 1; omega
     rw [<- j1,this,e1,List.map_map];rfl
    have hne:∀ p ∈ L,p.1≠N.bl l:=fun p hp e3=>by
     obtain ⟨hp1,o,ho,hd⟩:=k5 p hp;obtain ⟨o',ho',hd'⟩:=zUa he.2.2;have:=hs.inj _ _ _ _ ho ho' hd hd' (by rw [hs.glo _ hp1]; exact e3);omega
    have hc:=htb e (by simp) w (N.bl l) arr el mm q3 e2 hne k4;have ea:(List.map (tr N) [T.slc l 0 c c,T.str s]).toArray = #[.slice (some ⟨N.bl l,0,none⟩) e.ds.length e.ds.length,.string (bts e.s)]:=by
     simp only [List.map_cons,List.map_nil,tr,bts,j1,j2]
    rw [ea];refine CallsIn.mono hc ?_;rintro en w' ⟨rfl,hb⟩;exact ⟨rfl,.stay (hs.same (fun k hk=>hb.block k hk) hb.size) (fun k hk=>hb.block k hk) ⟨hb.os,hb.tape,hb.output,hb.size,fun k hk=>hb.block k (Nat.lt_of_lt_of_le hk hs.base)⟩⟩
end
end
section
open Go.Proofs
theorem hf68:Tryz.prog.funcs[68]? = some Tryz.f68:=by kernel_rfl
theorem hn68:(Tryz.f68.name == "runtime.NumGoroutine")=false:=by decide
theorem hx68:(Extern.findNext Tryz.f68).isNone=true:=by kernel_rfl
theorem he68:Extern.find Tryz.f68=some (Extern.BytealgIndexByte.indexByte):=by kernel_rfl
theorem ek68:EOk Tryz.prog 68 .idxB:=fun args w=>by
 rw [run_callFunc_extern hf68 hn68 (by rfl) (by simpa using hx68) he68];rw [Sem.run_bind];rfl
theorem hf119:Tryz.prog.funcs[119]? = some Tryz.f119:=by kernel_rfl
theorem hn119:(Tryz.f119.name == "runtime.NumGoroutine")=false:=by decide
theorem hx119:(Extern.findNext Tryz.f119).isNone=true:=by kernel_rfl
theorem he119:Extern.find Tryz.f119=some (Extern.AbiNoEscape.same):=by kernel_rfl
theorem ek119:EOk Tryz.prog 119 .same:=fun args w=>by
 rw [run_callFunc_extern hf119 hn119 (by rfl) (by simpa using hx119) he119];rw [Sem.run_bind];rfl
theorem hf125:Tryz.prog.funcs[125]? = some Tryz.f125:=by kernel_rfl
theorem hn125:(Tryz.f125.name == "runtime.NumGoroutine")=false:=by decide
theorem hx125:(Extern.findNext Tryz.f125).isNone=true:=by kernel_rfl
theorem he125:Extern.find Tryz.f125=some (Extern.BytealgCount.count):=by kernel_rfl
theorem ek125:EOk Tryz.prog 125 .cntB:=fun args w=>by
 rw [run_callFunc_extern hf125 hn125 (by rfl) (by simpa using hx125) he125];rw [Sem.run_bind];rfl
theorem hf128:Tryz.prog.funcs[128]? = some Tryz.f128:=by kernel_rfl
theorem hn128:(Tryz.f128.name == "runtime.NumGoroutine")=false:=by decide
theorem hx128:(Extern.findNext Tryz.f128).isNone=true:=by kernel_rfl
theorem he128:Extern.find Tryz.f128=some (Extern.BytealgMakeNoZero.makeNoZero #[] #[84]):=by kernel_rfl
theorem ek128:EOk Tryz.prog 128 (.mnz 84):=fun args w=>by
 rw [run_callFunc_extern hf128 hn128 (by rfl) (by simpa using hx128) he128];rw [Sem.run_bind];rfl
noncomputable def exL:List (Nat×EX):=[(68,.idxB),(119,.same),(125,.cntB),(128,(.mnz 84))]
noncomputable def exK (l:List (Nat×EX)):Tr EX->(Tr EX->Bool)->Bool:=List.rec (motive:=fun _=>Tr EX->(Tr EX->Bool)->Bool) (fun t κ=>κ t) (fun p _ ih t κ=>Tr.setK p.2 40 t p.1 fun t=>ih t κ) l
theorem zL6 {P:Program}:∀ {l:List (Nat×EX)} {t:Tr EX} {κ:Tr EX->Bool},(∀ p ∈ l,EOk P p.1 p.2)->(∀ f k,t.get f=some k->EOk P f k)->exK l t κ=true->∃ t',κ t' = true/\∀ f k,t'.get f=some k->EOk P f k
 | [],t,κ,_,ht,h=>⟨t,h,ht⟩
 | p::l,t,κ,hl,ht,h=>by
  obtain ⟨t',h1,h2⟩:=Tr.setK_ok _ _ _ _ _ (show Tr.setK p.2 40 t p.1 (fun t=>exK l t κ)=true from h);refine zL6 (fun q hq=>hl q (by simp [hq])) (fun f k hk=>?_) h1;rw [h2] at hk;split at hk
  . rename_i e; subst e; injection hk with hk; subst hk; exact hl p (by simp)
  . exact ht f k hk
theorem zQ7:∀ p ∈ exL,EOk Tryz.prog p.1 p.2:=fun p hp=>by
 simp only [exL,List.mem_cons,List.not_mem_nil,or_false] at hp;rcases hp with rfl | rfl | rfl | rfl
 . exact ek68
 . exact ek119
 . exact ek125
 . exact ek128
theorem mix8:Tryz.prog.follows .mixedOrders=true:=by kernel_rfl
theorem zAI {e:Ent} (h:(exK exL .lf fun ex=>entK Tryz.prog 200 153 4 100000 Al.globA ex .lf 14 e)=true):kJ Tryz.prog Al.globA 14 e:=by
 obtain ⟨ex,h1,h2⟩:=zL6 zQ7 (fun f k hk=>by rw [Tr.get_lf] at hk; cases hk) h;exact zUl mix8 h2 (fun f g hg=>by rw [Tr.get_lf] at hg; cases hg) h1
end
section
open Go.Proofs
def en0:Ent:=⟨[[88,32,89],[89,32,88,32,43,32,49]],[88],[88,32,43,32,49]⟩
theorem ke0:(exK exL .lf fun ex=>entK Tryz.prog 200 153 4 100000 Al.globA ex .lf 14 en0)=true:=by kernel_rfl
theorem eo0:kJ Tryz.prog Al.globA 14 en0:=zAI ke0
end
section
open Go.Proofs
def en1:Ent:=⟨[[70,40,97,41,32,97,32,42,32,97]],[70,40,49,32,43,32,50,41],[49,32,43,32,50,32,42,32,49,32,43,32,50]⟩
theorem ke1:(exK exL .lf fun ex=>entK Tryz.prog 200 153 4 100000 Al.globA ex .lf 14 en1)=true:=by kernel_rfl
theorem eo1:kJ Tryz.prog Al.globA 14 en1:=zAI ke1
end
section
open Go.Proofs
def en2:Ent:=⟨[[70,40,97,41,32,97,32,42,32,97]],[70],[70]⟩
theorem ke2:(exK exL .lf fun ex=>entK Tryz.prog 200 153 4 100000 Al.globA ex .lf 14 en2)=true:=by kernel_rfl
theorem eo2:kJ Tryz.prog Al.globA 14 en2:=zAI ke2
end
section
open Go.Proofs
def en3:Ent:=⟨[[70,40,97,41,32,97,32,42,32,97]],[70,32,40,41],[42]⟩
theorem ke3:(exK exL .lf fun ex=>entK Tryz.prog 200 153 4 100000 Al.globA ex .lf 14 en3)=true:=by kernel_rfl
theorem eo3:kJ Tryz.prog Al.globA 14 en3:=zAI ke3
end
section
open Go.Proofs
def en4:Ent:=⟨[[67,40,97,44,32,98,41,32,97,35,35,98],[65,66,32,55]],[67,40,65,44,32,66,41],[55]⟩
theorem ke4:(exK exL .lf fun ex=>entK Tryz.prog 200 153 4 100000 Al.globA ex .lf 14 en4)=true:=by kernel_rfl
theorem eo4:kJ Tryz.prog Al.globA 14 en4:=zAI ke4
end
section
open Go.Proofs
def en5:Ent:=⟨[[67,40,97,44,32,98,41,32,97,35,35,98],[65,66,32,55]],[67,40,65,44,41],[65]⟩
theorem ke5:(exK exL .lf fun ex=>entK Tryz.prog 200 153 4 100000 Al.globA ex .lf 14 en5)=true:=by kernel_rfl
theorem eo5:kJ Tryz.prog Al.globA 14 en5:=zAI ke5
end
section
open Go.Proofs
def en6:Ent:=⟨[[83,40,46,46,46,41,32,35,95,95,86,65,95,65,82,71,83,95,95]],[83,40,49,44,32,32,34,120,34,41],[34,49,44,32,92,34,120,92,34,34]⟩
theorem ke6:(exK exL .lf fun ex=>entK Tryz.prog 200 153 4 100000 Al.globA ex .lf 14 en6)=true:=by kernel_rfl
theorem eo6:kJ Tryz.prog Al.globA 14 en6:=zAI ke6
end
section
open Go.Proofs
def en7:Ent:=⟨[[70,40,97,41,32,97]],[70,40,49,44,32,50,41],[59]⟩
theorem ke7:(exK exL .lf fun ex=>entK Tryz.prog 200 153 4 100000 Al.globA ex .lf 14 en7)=true:=by kernel_rfl
theorem eo7:kJ Tryz.prog Al.globA 14 en7:=zAI ke7
end
section
open Go.Proofs
def en8:Ent:=⟨[[70,40,97,41,32,97]],[70,40,49],[58]⟩
theorem ke8:(exK exL .lf fun ex=>entK Tryz.prog 200 153 4 100000 Al.globA ex .lf 14 en8)=true:=by kernel_rfl
theorem eo8:kJ Tryz.prog Al.globA 14 en8:=zAI ke8
end
section
open Go.Proofs
def en9:Ent:=⟨[[71,32,70],[70,40,97,41,32,91,97,93]],[71,32,40,49,41],[91,49,93]⟩
theorem ke9:(exK exL .lf fun ex=>entK Tryz.prog 200 153 4 100000 Al.globA ex .lf 14 en9)=true:=by kernel_rfl
theorem eo9:kJ Tryz.prog Al.globA 14 en9:=zAI ke9
end
section
open Go.Proofs
def tb8:List Ent:=[en0,en1,en2,en3,en4,en5,en6,en7,en8,en9]
theorem tb8_ok:∀ e ∈ tb8,kJ Tryz.prog Al.globA 14 e:=fun e he=>by
 simp only [tb8,List.mem_cons,List.not_mem_nil,or_false] at he;rcases he with rfl | rfl | rfl | rfl | rfl | rfl | rfl | rfl | rfl | rfl
 . exact eo0
 . exact eo1
 . exact eo2
 . exact eo3
 . exact eo4
 . exact eo5
 . exact eo6
 . exact eo7
 . exact eo8
 . exact eo9
theorem kz:(exK exL .lf fun ex=>Tr.setK (sum0 (tabG 4 Al.globA tb8)) 40 .lf 14 fun sm=>trueK Tryz.prog 200 153 4 100000 Al.globA ex sm 7)=true:=by kernel_rfl
theorem awake_pure:Al.PureF Tryz.prog 7 [] (.at (.bool true)):=by
 obtain ⟨ex,h1,h2⟩:=zL6 zQ7 (fun f k hk=>by rw [Tr.get_lf] at hk; cases hk) kz;obtain ⟨sm,h3,h4⟩:=Tr.setK_ok _ _ _ _ _ h1;refine zOT mix8 h2 (fun f g hg=>?_) h3;rw [h4] at hg;split at hg
 . rename_i e; subst e; injection hg with hg; subst hg; exact zUv tb8_ok
 . rw [Tr.get_lf] at hg; cases hg
end
end Go.Cx
namespace Go.Proofs.YtfjiiknfopmcjaaGreatDoor
section
open Go.Al Go.Den
def c7 (_:Unit):Option (Bool×Unit):=some (true,())
theorem ok7:ConOk CC Tryz.prog 7 ⟨as7,rs7,c7⟩:=by
 rintro ⟨⟩ y h vs hv;obtain rfl:=Option.some.inj h;obtain rfl:vs=[]:=hv;exact Go.Cx.awake_pure
end
section
open Go.Al Go.Den
abbrev as48n:List (AK UU):=[.ls TI.tkl]
abbrev rs48n:List (AK UU):=[.dl TI.tk]
def kf21n:Nat->List Nat
 | 0=>[0,1]
 | 1=>[0,1,6]
 | 2=>[0,1,6,16]
 | 3=>[0,1,6,7]
 | 4=>[0,1,6,7,8,9]
 | 5=>[0,1,6,7,8,61]
 | 6=>[0,1,6]
 | 7=>[0,1,6,68]
 | 8=>[0,4,5]
 | 9=>[0,1,6]
 | 10=>[0,1,6,7,10,11,12]
 | 11=>[0,1,6,7,10,11,12,80]
 | 12=>[0,4,5]
 | 13=>[0,6,7,10,13]
 | 14=>[0,6,7,10,13,86]
 | 15=>[0,6,10,13]
 | 16=>[0,6,10,13,97]
 | 17=>[0,6,10,13]
 | 18=>[0,6,10,13]
 | 19=>[0,1,6]
 | 20=>[0,4,5]
 | _=>[]
def hd21n:List (Nat×Head UU):=[(2,⟨[0],[(1,.bl TI.tk),(6,.ow true TI.tk)],[(0,woK)]⟩)]
noncomputable def fd21n:FD UU:=⟨⟨fun d=>hasN [] d,fun d=>hasN [] d,kf21n,zE hd21n,zE [],yc [],yd [(19,[10,13])]⟩,zj Tryz.f21,117,[.tmp 4,.tmp 5]⟩
noncomputable def zQs (fu:Nat) (c44:TkT×List UInt8×Unit->Option (Bool×Unit)) (x:zA [woK]) (a:zA kL):Option (Option (zA [woK]×zA kE)):=
 runP CC Tb fu 2 (zE []) (zE [(44,(⟨as44,rs44,c44⟩:Con UU)),(45,(⟨as45,rs45,nn as45 rs45⟩:Con UU)),(48,(⟨as48n,rs48n,nn as48n rs48n⟩:Con UU))]) (zE []) (zE []) fd21n [woK] [woK] kL kE x a
theorem zUu:FDOk Tryz.prog (hasN [44,45,48]) (hasN []) 21 fd21n:=fdk Tryz.func21 Tryz.ntmps21 Tryz.results21
end
section
open Go.Al Go.Den
def zFz (fu:Nat) (c44:(TkT×(Str×Unit))->(Option (Bool×Unit))) (x:(((List (Str×MacT))×(Int×Unit))×Unit)) (a:((Bool×(List TkT))×Unit)):(Option (Option ((((List (Str×MacT))×(Int×Unit))×Unit)×((List TkT)×(Int×Unit))))):=iter fu (fun (rec1:(((Bool×(List TkT))×((List TkT)×Unit))×(((List (Str×MacT))×(Int×Unit))×Unit))->Option (Option ((((List (Str×MacT))×(Int×Unit))×Unit)×((List TkT)×(Int×Unit))))) (s1:(((Bool×(List TkT))×((List TkT)×Unit))×(((List (Str×MacT))×(Int×Unit))×Unit)))=>cond (ilt 0 (lenI s1.1.1.2)) (cond (inB 0 s1.1.1.2.length) (cond (ine (List.getD s1.1.1.2 0 tkD).kind 1) (cond (okN 88 (s1.1.2.1.length+(List.length [(List.getD s1.1.1.2 0 tkD)]))) (cond (ilt 4000 (lenI (s1.1.2.1++[(List.getD s1.1.1.2 0 tkD)]))) (some (some (s1.2,([],(82,()))))) (cond (inS 1 (lenI s1.1.1.2) s1.1.1.2.length) (rec1 (((s1.1.1.1,(cutL s1.1.1.2 1 (lenI s1.1.1.2))),((s1.1.2.1++[(List.getD s1.1.1.2 0 tkD)]),())),s1.2)) (none))) (none)) (Option.bind (c44 ((List.getD s1.1.1.2 0 tkD),((List.getD s1.1.1.2 0 tkD).text,()))) fun y0=>cond y0.1 (cond (okN 88 (s1.1.2.1.length+(List.length [(List.getD s1.1.1.2 0 tkD)]))) (cond (ilt 4000 (lenI (s1.1.2.1++[(List.getD s1.1.1.2 0 tkD)]))) (some (some (s1.2,([],(82,()))))) (cond (inS 1 (lenI s1.1.1.2) s1.1.1.2.length) (rec1 (((s1.1.1.1,(cutL s1.1.1.2 1 (lenI s1.1.1.2))),((s1.1.2.1++[(List.getD s1.1.1.2 0 tkD)]),())),s1.2)) (none))) (none)) (cond (!(mcH s1.2.1.1 (List.getD s1.1.1.2 0 tkD).text)) (cond (okN 88 (s1.1.2.1.length+(List.length [(List.getD s1.1.1.2 0 tkD)]))) (cond (ilt 4000 (lenI (s1.1.2.1++[(List.getD s1.1.1.2 0 tkD)]))) (some (some (s1.2,([],(82,()))))) (cond (inS 1 (lenI s1.1.1.2) s1.1.1.2.length) (rec1 (((s1.1.1.1,(cutL s1.1.1.2 1 (lenI s1.1.1.2))),((s1.1.2.1++[(List.getD s1.1.1.2 0 tkD)]),())),s1.2)) (none))) (none)) (cond (MacT.func (mcV macD s1.2.1.1 (List.getD s1.1.1.2 0 tkD).text)) (cond (ilt (lenI s1.1.1.2) 2) (cond (okN 88 (s1.1.2.1.length+(List.length [(List.getD s1.1.1.2 0 tkD)]))) (cond (ilt 4000 (lenI (s1.1.2.1++[(List.getD s1.1.1.2 0 tkD)]))) (some (some (s1.2,([],(82,()))))) (cond (inS 1 (lenI s1.1.1.2) s1.1.1.2.length) (rec1 (((s1.1.1.1,(cutL s1.1.1.2 1 (lenI s1.1.1.2))),((s1.1.2.1++[(List.getD s1.1.1.2 0 tkD)]),())),s1.2)) (none))) (none)) (cond (inB 1 s1.1.1.2.length) (none) (none))) (none))))) (none)) (some (some (s1.2,(s1.1.2.1,(0,())))))) (((a.1.1,a.1.2),([],())),x)
theorem eq21n:@zQs = @zFz:=by kernel_rfl
theorem con21n (fu:Nat) (c44:zf as44->Option (zf rs44)) (h44:ConOk CC Tryz.prog 44 ⟨as44,rs44,c44⟩):CQ 21 (cW kL kE (mW (zFz fu c44))):=
 cW_of (rpk zI (zQ (OrcOk.of ⟨code44,h44⟩ rfl) (zQ (OrcOk.of ⟨code45,nn_ok⟩ rfl) (zQ (OrcOk.of ⟨code48,nn_ok⟩ rfl) zI))) zI zI zUu rfl (fun x a=>by show zQs fu c44 x a=zFz fu c44 x a; rw [eq21n]))
end
section
open Go.Al Go.Den
noncomputable def c21n (fu:Nat):zA ([.bl TI.tk]:LK)->WW (zA ([.dl TI.tk,.int .i64]:LK)):=mW (zFz fu (c44 fu))
theorem ok21n (fu:Nat):CPOk CC Tryz.prog syn 21 (cW ([.bl TI.tk]:LK) ([.dl TI.tk,.int .i64]:LK) (c21n fu)):=con21n fu (c44 fu) (ok44 fu)
structure S21n (F:(ST->Option RT)->ST->Option RT):Prop where
 stop:∀ rec b out ms n,F rec (((b,[]),(out,())),((ms,(n,())),()))=some (some (((ms,(n,())),()),(out,((0:Int),()))))
 keep:∀ rec b t r out ms n,Kp ms t->out.length < 4000->F rec (((b,t::r),(out,())),((ms,(n,())),()))=rec (((b,r),(out++[t],())),((ms,(n,())),()))
theorem zQ4 (fu:Nat) (hfu:7000 < fu):∃ F,S21n F/\∀ b l ms n,zFz fu (c44 fu) ((ms,(n,())),()) ((b,l),())=iter fu F (((b,l),([],())),((ms,(n,())),())):=by
 obtain ⟨fu',hfu'⟩:∃ fu',fu=fu' + 10:=⟨fu - 10,by omega⟩;unfold zFz;refine ⟨_,?_,fun b l ms n=>rfl⟩;refine ⟨fun rec b out ms n=>?_,fun rec b t r out ms n hk ho=>?_⟩
 . dsimp only;exact zAA rfl rfl
 . dsimp only;have g0:List.getD (t::r) 0 tkD=t:=rfl;rw [g0,cut1];have hpos:ilt 0 (lenI (t::r))=true:=zH3 (by show (0:Int) < ((t::r).length:Int); simp only [List.length_cons]; omega);have hok:okN 88 (out.length+[t].length)=true:=okN88 (by simp only [List.length_cons,List.length_nil]; omega);have hlim:ilt 4000 (lenI (out++[t]))=false:=zOp (by show ((out++[_]).length:Int)<=4000; simp only [List.length_append,List.length_cons,List.length_nil]; omega);have hin:inS 1 (lenI (t::r)) (t::r).length=true:=zDy (by omega) (by show (1:Int)<=((t::r).length:Int); simp only [List.length_cons]; omega) (Int.le_refl _);refine z8 hpos (z8 (xf (by omega) (by simp only [List.length_cons]; omega)) ?_);refine Q_ine (fun _=>z8 hok (zAA hlim (z8 hin rfl))) fun h1=>?_;rcases hk with hk | hk | ⟨hk,hm⟩
   . exact absurd h1 hk
   . refine ku (v:=(true,())) (by rw [hfu']; exact zT3 fu' t t.text hk) ?_;exact z8 rfl (z8 hok (zAA hlim (z8 hin rfl)))
   . refine ku (v:=(false,())) (by rw [hfu']; exact c44_no fu' t t.text hk) ?_;refine zAA rfl (z8 (by rw [hm]; rfl) ?_);exact z8 hok (zAA hlim (z8 hin rfl))
theorem zRO (fu:Nat) (hfu:7000 < fu) (b:Bool) (l:List TkT) (ms:MapM) (n:Int) (hl:l.length<=4000) (hk:∀ t ∈ l,Kp ms t) :
 c21n fu ((b,l),()) ms n=some ((l,(0:Int),()),ms,n):=by
 obtain ⟨F,hF,hi⟩:=zQ4 fu hfu;refine zTZ ((hi b l ms n).trans ?_);refine zAe (fun st=>∃ k:Nat,st=((((b,l.drop k),(l.take k,())),((ms,(n,())),())):ST)/\k<=l.length) (fun st=>st.1.1.2.length) ?_ fu _ ⟨0,rfl,Nat.zero_le _⟩ (by show l.length < fu; omega);rintro rec st ⟨k,rfl,hkl⟩ hrec;by_cases hlt:k < l.length
 . rw [List.drop_eq_getElem_cons hlt,hF.keep rec b _ _ _ _ _ (hk _ (List.getElem_mem hlt)) (by rw [List.length_take]; omega),<- zB4 hlt];refine hrec _ ⟨k+1,rfl,hlt⟩ ?_;show (l.drop (k+1)).length < (l.drop k).length;rw [List.length_drop,List.length_drop]; omega
 . have e:k=l.length:=by omega
   subst e;rw [List.drop_length,List.take_length];exact hF.stop _ _ _ _ _
noncomputable def c10N (fu:Nat):zf as10->Option (zf rs10):=c10 (c22 fu) (c23 fu) (c21n fu)
theorem ok10N (fu:Nat):ConOk CC Tryz.prog 10 ⟨as10,rs10,c10N fu⟩:=ok10 _ (ok22 fu) _ (ok23 fu) _ (ok21n fu)
end
section
open Go.Al Go.Den
abbrev as3:List (AK UU):=[.ls TI.str,.str]
abbrev rs3:List (AK UU):=[.bool]
abbrev as8:List (AK UU):=[.ls TI.str]
abbrev rs8:List (AK UU):=[.dl TI.mac,.bool]
abbrev as15:List (AK UU):=[.dl TI.tok]
abbrev rs15:List (AK UU):=[.st TI.mac,.int .i64]
def kf3:Nat->List Nat
 | 0=>[0,1]
 | 1=>[0,1,5]
 | 2=>[1,5,6,7]
 | 3=>[1,5,6,28]
 | 4=>[4]
 | 5=>[5,6,8]
 | 6=>[5,6,8,9]
 | 7=>[5,6,8,9,10]
 | 8=>[5,6,8,9,10,11]
 | 9=>[5,6,8,9,10,11,35]
 | 10=>[5,6,8,9,10,11]
 | 11=>[5,6,8,9,10,11,12]
 | 12=>[5,6,8,9,10,11,12,41]
 | 13=>[5,6,8,9,10,11,12]
 | 14=>[5,6,8,9,10,11,12,62]
 | 15=>[4]
 | 16=>[5,6,8,9,10,11,69]
 | 17=>[5,6,8,9,10,11]
 | 18=>[5,6,8,9,10,11,13]
 | 19=>[5,6,8,9,11,13]
 | 20=>[5,6,8,9,10,11,13]
 | 21=>[5,6,8,9,10,11]
 | 22=>[5,9,14,15]
 | 23=>[4]
 | _=>[]
def hd3:List (Nat×Head UU):=[(9,⟨[5,6,8],[(9,.ow true TI.tok),(10,.bool),(11,.int .i64)],[]⟩),(12,⟨[5,6,8,10,11],[(9,.ow true TI.tok),(12,.int .i64)],[]⟩)]
noncomputable def fd3:FD UU:=⟨⟨fun d=>hasN [] d,fun d=>hasN [] d,kf3,zE hd3,zE [],yc [],yd []⟩,zj Tryz.f3,100,[.tmp 4]⟩
def kf8:Nat->List Nat
 | 0=>[0]
 | 1=>[0,4]
 | 2=>[0,4,10]
 | 3=>[2,3]
 | 4=>[0,4,5]
 | 5=>[0,4,5,14]
 | 6=>[0,4,5]
 | 7=>[0,4,5,6,7]
 | 8=>[0,4,5,6,37]
 | 9=>[2,3]
 | 10=>[0,4,5]
 | 11=>[2,3]
 | _=>[]
def hd8:List (Nat×Head UU):=[(5,⟨[0],[(4,.ow true TI.mac),(5,.int .i64)],[]⟩)]
noncomputable def fd8:FD UU:=⟨⟨fun d=>hasN [] d,fun d=>hasN [] d,kf8,zE hd8,zE [],yc [],yd []⟩,zj Tryz.f8,43,[.tmp 2,.tmp 3]⟩
noncomputable def run8 (fu:Nat) (c9:Int×List UInt8×Unit->Option (List TokT×Unit)) (c15:List TokT×Unit->Option (MacT×Int×Unit)) (nf:Nat->Bool) (x0:List (List UInt8)):Option (zf rs8):=
 zAU CC Tb fu 2 (zE []) (zE [(9,(⟨as9,rs9,c9⟩:Con UU)),(15,(⟨as15,rs15,c15⟩:Con UU))]) (zE []) (zE []) fd8 as8 rs8 nf (x0,())
theorem fdok8:FDOk Tryz.prog (hasN [9,15]) (hasN []) 8 fd8:=fdk Tryz.func8 Tryz.ntmps8 Tryz.results8
noncomputable def run3 (fu:Nat) (c7:Unit->Option (Bool×Unit)) (c8:List (List UInt8)×Unit->Option (List MacT×Bool×Unit)) (c9:Int×List UInt8×Unit->Option (List TokT×Unit)) (c10:List MacT×List TokT×Unit->Option (List TokT×Int×Unit)) (c11:List TokT×List TokT×Unit->Option (Bool×Unit)) (nf:Nat->Bool) (x0:List (List UInt8)) (x1:List UInt8):Option (zf rs3):=
 zAU CC Tb fu 2 (zE []) (zE [(7,(⟨as7,rs7,c7⟩:Con UU)),(8,(⟨as8,rs8,c8⟩:Con UU)),(9,(⟨as9,rs9,c9⟩:Con UU)),(10,(⟨as10,rs10,c10⟩:Con UU)),(11,(⟨as11,rs11,c11⟩:Con UU))]) (zE []) (zE []) fd3 as3 rs3 nf (x0,x1,())
theorem fdok3:FDOk Tryz.prog (hasN [7,8,9,10,11]) (hasN []) 3 fd3:=fdk Tryz.func3 Tryz.ntmps3 Tryz.results3
end
section
open Go.Al Go.Den
def sh8 (fu:Nat) (c9:(Int×(Str×Unit))->(Option (LT×Unit))) (c15:(LT×Unit)->(Option (MacT×(Int×Unit)))) (nf:Nat->Bool) (x0:(List Str)):(Option ((List MacT)×(Bool×Unit))):=cond (ilt 12 (lenI x0)) (some ([],(false,()))) (iter fu (fun (rec1:(((List MacT)×(Int×Unit))×Unit)->Option ((List MacT)×(Bool×Unit))) (s1:(((List MacT)×(Int×Unit))×Unit))=>cond (ilt s1.1.2.1 (lenI x0)) (cond (inB s1.1.2.1 x0.length) (Option.bind (c9 ((iadd .i64 s1.1.2.1 1),((List.getD x0 s1.1.2.1.toNat []),()))) fun y0=>Option.bind (c15 (y0.1,())) fun y1=>cond (ine y1.2.1 0) (some ([],(false,()))) (cond (inB s1.1.2.1 x0.length) (cond (ilt 200 (lenI (List.getD x0 s1.1.2.1.toNat []))) (some ([],(false,()))) (cond (okN 80 (s1.1.1.length+(List.length [y1.1]))) (rec1 (((s1.1.1++[y1.1]),((iadd .i64 s1.1.2.1 1),())),())) (none))) (none))) (none)) (some (s1.1.1,(true,())))) (([],(0,())),()))
theorem eq8:@run8 = @sh8:=by kernel_rfl
def sh3 (fu:Nat) (c7:Unit->(Option (Bool×Unit))) (c8:((List Str)×Unit)->(Option ((List MacT)×(Bool×Unit)))) (c9:(Int×(Str×Unit))->(Option (LT×Unit))) (c10:((List MacT)×(LT×Unit))->(Option (LT×(Int×Unit)))) (c11:(LT×(LT×Unit))->(Option (Bool×Unit))) (nf:Nat->Bool) (x0:(List Str)) (x1:Str):(Option (Bool×Unit)):=Option.bind (c7 ()) fun y0=>Option.bind (c8 (x0,())) fun y1=>cond (!y1.2.1) (some (y0.1,())) (cond (ilt 500 (lenI x1)) (some (y0.1,())) (Option.bind (c9 (0,(x1,()))) fun y2=>iter fu (fun (rec1:((LT×(Bool×(Int×Unit)))×Unit)->Option (Bool×Unit)) (s1:((LT×(Bool×(Int×Unit)))×Unit))=>cond (ilt s1.1.2.2.1 (lenI y2.1)) (iter fu (fun (rec2:((LT×(Int×Unit))×Unit)->Option (Bool×Unit)) (s2:((LT×(Int×Unit))×Unit))=>cond (ilt s2.1.2.1 (lenI y1.1)) (cond (inB s1.1.2.2.1 y2.1.length) (cond (ieq (List.getD y2.1 s1.1.2.2.1.toNat tokD).kind 1) (cond (inB s1.1.2.2.1 y2.1.length) (cond (inB s2.1.2.1 y1.1.length) (cond (seq (List.getD y2.1 s1.1.2.2.1.toNat tokD).text (List.getD y1.1 s2.1.2.1.toNat macD).name) (some (y0.1,())) (rec2 ((s2.1.1,((iadd .i64 s2.1.2.1 1),())),()))) (none)) (none)) (rec2 ((s2.1.1,((iadd .i64 s2.1.2.1 1),())),()))) (none)) (cond (inB s1.1.2.2.1 y2.1.length) (cond (ieq (List.getD y2.1 s1.1.2.2.1.toNat tokD).kind 7) (rec1 ((s2.1.1,(true,((iadd .i64 s1.1.2.2.1 1),()))),())) (cond (inB s1.1.2.2.1 y2.1.length) (cond (List.getD y2.1 s1.1.2.2.1.toNat tokD).blank (cond (okN 56 (s2.1.1.length+(List.length [(toBl (List.getD y2.1 s1.1.2.2.1.toNat tokD) true)]))) (rec1 (((s2.1.1++[(toBl (List.getD y2.1 s1.1.2.2.1.toNat tokD) true)]),(false,((iadd .i64 s1.1.2.2.1 1),()))),())) (none)) (cond (okN 56 (s2.1.1.length+(List.length [(toBl (List.getD y2.1 s1.1.2.2.1.toNat tokD) s1.1.2.1)]))) (rec1 (((s2.1.1++[(toBl (List.getD y2.1 s1.1.2.2.1.toNat tokD) s1.1.2.1)]),(false,((iadd .i64 s1.1.2.2.1 1),()))),())) (none))) (none))) (none))) ((s1.1.1,(0,())),())) (Option.bind (c10 (y1.1,(y2.1,()))) fun y3=>cond y0.1 (cond (ieq y3.2.1 0) (Option.bind (c11 (y3.1,(s1.1.1,()))) fun y4=>some (y4.1,())) (some (false,()))) (some (false,())))) (([],(false,(0,()))),())))
theorem eq3:@run3 = @sh3:=by kernel_rfl
theorem con8 (fu:Nat) (c9:zf as9->Option (zf rs9)) (h9:ConOk CC Tryz.prog 9 ⟨as9,rs9,c9⟩) (c15:zf as15->Option (zf rs15)) (h15:ConOk CC Tryz.prog 15 ⟨as15,rs15,c15⟩):ConOk CC Tryz.prog 8 ⟨as8,rs8,fun x=>sh8 fu c9 c15 (fun _=>false) x.1⟩:=
 rfk zI (zQ (OrcOk.of ⟨code9,h9⟩ rfl) (zQ (OrcOk.of ⟨code15,h15⟩ rfl) zI)) zI zI fdok8 rfl (qM rfl) (fun nf x=>by show run8 fu c9 c15 nf x.1=_; rw [eq8]; rfl)
theorem con3 (fu:Nat) (c7:zf as7->Option (zf rs7)) (h7:ConOk CC Tryz.prog 7 ⟨as7,rs7,c7⟩) (c8:zf as8->Option (zf rs8)) (h8:ConOk CC Tryz.prog 8 ⟨as8,rs8,c8⟩) (c9:zf as9->Option (zf rs9)) (h9:ConOk CC Tryz.prog 9 ⟨as9,rs9,c9⟩) (c10:zf as10->Option (zf rs10)) (h10:ConOk CC Tryz.prog 10 ⟨as10,rs10,c10⟩) (c11:zf as11->Option (zf rs11)) (h11:ConOk CC Tryz.prog 11 ⟨as11,rs11,c11⟩):ConOk CC Tryz.prog 3 ⟨as3,rs3,fun x=>sh3 fu c7 c8 c9 c10 c11 (fun _=>false) x.1 x.2.1⟩:=
 rfk zI (zQ (OrcOk.of ⟨code7,h7⟩ rfl) (zQ (OrcOk.of ⟨code8,h8⟩ rfl) (zQ (OrcOk.of ⟨code9,h9⟩ rfl) (zQ (OrcOk.of ⟨code10,h10⟩ rfl) (zQ (OrcOk.of ⟨code11,h11⟩ rfl) zI))))) zI zI fdok3 rfl (qM rfl) (fun nf x=>by show run3 fu c7 c8 c9 c10 c11 nf x.1 x.2.1=_; rw [eq3]; rfl)
end
section
open Go.Al Go.Den
noncomputable def c15 (x:List TokT×Unit):Option (MacT×Int×Unit):=if x.1.length<=1100000 then some ((defS x.1).1,(defS x.1).2,()) else none
theorem ok15:ConOk CC Tryz.prog 15 ⟨as15,rs15,c15⟩:=by
 rintro ⟨l,u⟩ y h vs hv;change List TokT at l;replace h:(if l.length<=1100000 then some ((defS l).1,(defS l).2,()) else none)=some y:=h;split at h
 . rename_i hl;obtain rfl:=Option.some.inj h;obtain ⟨v,vs',rfl,hv1,hv2⟩:=hv;obtain rfl:vs' = []:=hv2;obtain rfl:v = .lst (zz (l.map (CC.encV TI.tok))) (l.map (CC.encV TI.tok)):=hv1;exact pure15 hl
 . cases h
theorem zT9 {l:List TokT} (h:(defS l).2=0) (hl:l.length<=1100000):(defS l).1.body.1=false/\(defS l).1.body.2.length<=l.length:=by
 unfold defS at h ⊢;cases hw:wrd l with
 | none=>rw [hw] at h; cases h
 | some nm=>
  rw [hw] at h;dsimp only at h ⊢;split at h
  . cases h
  . rename_i hn;rw [if_neg hn];cases hh:hdS l.tail with
    | error e=>
     exfalso;rw [hh] at h;cases ht:l.tail with
     | nil=>rw [ht] at hh; cases hh
     | cons u r=>
      rw [ht] at hh;simp only [hdS] at hh;split at hh
      . split at hh
        . injection hh with hh; subst hh; cases h
        . cases hh
      . split at hh
        . cases hh
        . injection hh with hh; subst hh; cases h
    | ok y=>
     obtain ⟨fn,P,vd,r⟩:=y;obtain ⟨len1,len2⟩:=zNK hh;have htl:l.tail.length<=l.length:=by simp
     rw [hh] at h;dsimp only at h ⊢;unfold endS at h ⊢;have hc:=zMV ⟨nm,fn,P,vd,(false,noB r)⟩ (by show (noB r).length<=_; rw [zDn]; omega) (by show P.length<=_; omega);cases hk:chk ⟨nm,fn,P,vd,(false,noB r)⟩ with
     | none=>exact ⟨rfl,by show (noB r).length<=_; rw [zDn]; omega⟩
     | some e=>
      exfalso;rw [hk] at h hc;exact hc.1 h
noncomputable def c8 (fu:Nat) (x:List Str×Unit):Option (List MacT×Bool×Unit):=sh8 fu (c9 fu) c15 (fun _=>false) x.1
theorem ok8 (fu:Nat):ConOk CC Tryz.prog 8 ⟨as8,rs8,c8 fu⟩:=con8 fu (c9 fu) (ok9 fu) c15 ok15
theorem okN80 {n:Nat} (h:n<=100000):okN 80 n=true:=zBt (by omega) (by simp only [maxLen]; omega)
def RdOk (x:List Str) (r:Option (List MacT×Bool×Unit)):Prop:=∃ ms b,r=some (ms,b,())/\(b=true->ms.length=x.length/\x.length<=12/\∀ m ∈ ms,m.body.1=false/\m.body.2.length<=200)
theorem c8_tot (fu:Nat) (x:List Str) (hx:∀ s ∈ x,s.length<=1090000) (hfu:2000000 < fu):RdOk x (c8 fu (x,())):=by
 show RdOk x (sh8 fu (c9 fu) c15 (fun _=>false) x);unfold sh8;have no:RdOk x (some ([],false,())):=⟨[],false,rfl,fun h=>by cases h⟩;cases h12:ilt 12 (lenI x) with
 | true=>exact no
 | false=>
  have hlen:x.length<=12:=by
   have h2:=of_decide_eq_false h12;have h3:¬ ((12:Int) < (x.length:Int)):=h2;omega
  show RdOk x (iter fu _ _);refine zB3 (P:=RdOk x) (fun st=>∃ (k:Nat) (ms:List MacT),st=((ms,((k:Int),())),())/\k<=x.length/\ms.length=k/\∀ m ∈ ms,m.body.1=false/\m.body.2.length<=200) (fun st=>x.length - st.1.2.1.toNat) ?_ fu _ ⟨0,[],rfl,Nat.zero_le _,rfl,fun m hm=>by cases hm⟩ (by show x.length - 0 < fu; omega);rintro rec st ⟨k,ms,rfl,hk,hml,hms⟩ hrec;dsimp only;by_cases hlt:k < x.length
  . have eg:List.getD x (Int.toNat (k:Int)) []=x[k]:=zCe hlt;have hxk:=hx _ (List.getElem_mem hlt);obtain ⟨l,h9,hll,_⟩:=zLw (fu:=fu) (iadd .i64 (k:Int) 1) x[k] (by omega) hxk;rw [zH3 (by show (k:Int) < (x.length:Int); omega),xf (by omega) (by omega),eg,h9];have h15:c15 (l,())=some ((defS l).1,(defS l).2,()):=if_pos (by show l.length<=_; omega);show RdOk x (Option.bind (c15 (l,())) _);rw [h15];show RdOk x (cond (ine (defS l).2 0) _ _);cases he:ine (defS l).2 0 with
    | true=>exact no
    | false=>
     have he0:(defS l).2=0:=by rw [zIq] at he; simpa using he
     show RdOk x (cond (ilt 200 (lenI x[k])) _ _);cases h2:ilt 200 (lenI x[k]) with
     | true=>exact no
     | false=>
      have h3:¬ ((200:Int) < (x[k].length:Int)):=of_decide_eq_false h2;have hok:=zT9 he0 (by omega);show RdOk x (cond (okN 80 (ms.length+1)) _ _);rw [okN80 (by omega),i1 (by omega)];refine hrec _ ⟨k+1,ms++[(defS l).1],rfl,hlt,by rw [app1]; omega,fun m hm=>?_⟩ (by show x.length - (k+1) < x.length - k; omega);rcases List.mem_append.1 hm with hm | hm
      . exact hms m hm
      . obtain rfl:=List.mem_singleton.1 hm;exact ⟨hok.1,by omega⟩
  . have e:k=x.length:=by omega
    rw [zOp (by show (x.length:Int)<=(k:Int); omega)];exact ⟨ms,true,rfl,fun _=>⟨by omega,hlen,hms⟩⟩
noncomputable def c3 (fu:Nat) (x:List Str×Str×Unit):Option (Bool×Unit):=sh3 fu c7 (c8 fu) (c9 fu) (c10N fu) (c11 fu) (fun _=>false) x.1 x.2.1
theorem ok3A (fu:Nat):ConOk CC Tryz.prog 3 ⟨as3,rs3,c3 fu⟩:=con3 fu c7 ok7 (c8 fu) (ok8 fu) (c9 fu) (ok9 fu) (c10N fu) (ok10N fu) (c11 fu) (ok11 fu)
theorem zNo:∀ {c:MapM} {s k:Str} {v:MacT},mcH (mcP c k v) s=true->s=k\/mcH c s=true
 | [],s,k,v,h=>by
  simp only [mcP,mcH] at h;rw [zCT] at h;by_cases e:s=k
  . exact .inl e
  . rw [decide_eq_false e] at h; cases h
 | p::r,s,k,v,h=>by
  simp only [mcP] at h;cases hp:seq k p.1 with
  | true=>
   rw [hp] at h;simp only [cond_true,mcH] at h ⊢;rw [zCT] at h;by_cases e:s=k
   . exact .inl e
   . rw [decide_eq_false e] at h;refine .inr ?_;cases seq s p.1 with
     | true=>rfl
     | false=>exact h
  | false=>
   rw [hp] at h;simp only [cond_false,mcH] at h ⊢;cases hs:seq s p.1 with
   | true=>exact .inr rfl
   | false=>
    rw [hs] at h;exact zNo h
theorem zLM:∀ (l:List MacT) (c:MapM) {s:Str},mcH (l.foldl (fun c m=>mcP c m.name m) c) s=true->(∃ m ∈ l,s=m.name)\/mcH c s=true
 | [],c,s,h=>.inr h
 | m::r,c,s,h=>by
  rcases zLM r _ h with ⟨m',h1,h2⟩ | h
  . exact .inl ⟨m',List.mem_cons_of_mem _ h1,h2⟩
  . rcases zNo h with h | h
    . exact .inl ⟨m,List.mem_cons_self,h⟩
    . exact .inr h
theorem mcH_of {ms:List MacT} {s:Str} (h:∀ m ∈ ms,s≠m.name):mcH (jQ ms) s=false:=by
 cases e:mcH (jQ ms) s with
 | false=>rfl
 | true=>
  rcases zLM ms.reverse [] e with ⟨m,h1,h2⟩ | h2
  . exact absurd h2 (h m (List.mem_reverse.1 h1))
  . cases h2
theorem zLJ:∀ {l:List TokT} {b:Bool} {t:TkT},t ∈ tO b l->t.hide=[]/\∃ u ∈ l,u.kind=t.kind/\u.text=t.text
 | [],b,t,h=>by cases h
 | u::r,b,t,h=>by
  simp only [tO] at h;split at h
  . obtain ⟨h1,u',h2,h3⟩:=zLJ h;exact ⟨h1,u',List.mem_cons_of_mem _ h2,h3⟩
  . rcases List.mem_cons.1 h with rfl | h
    . exact ⟨rfl,u,List.mem_cons_self,rfl,rfl⟩
    . obtain ⟨h1,u',h2,h3⟩:=zLJ h;exact ⟨h1,u',List.mem_cons_of_mem _ h2,h3⟩
theorem zIR:∀ (l:List TokT) (b:Bool),(tO b l).length<=l.length
 | [],b=>Nat.le_refl _
 | u::r,b=>by
  simp only [tO];split
  . have:=zIR r true; simp only [List.length_cons]; omega
  . have:=zIR r false; simp only [List.length_cons]; omega
theorem zTG (fu:Nat) (hfu:9000 < fu) (ms:List MacT) (l:List TokT) (hm:ms.length<=12) (hl:l.length<=4000) (h:∀ t ∈ l,t.kind≠1\/∀ m ∈ ms,t.text≠m.name):c10N fu (ms,l,())=some ((tO false l).map ofK,(0:Int),()):=by
 have e0:c10N fu (ms,l,())=if ms.length < 1000000 then (match zEc (c22 fu) (c23 fu) (c21n fu) (l,((jQ ms,(0,())),()),()) with | some (some y)=>some y | _=>none) else none:=rfl
 rw [e0,if_pos (by omega)];have hlen:=zIR l false;have e1:zEc (c22 fu) (c23 fu) (c21n fu) (l,((jQ ms,(0,())),()),())=some (some ((tO false l).map ofK,(0:Int),())):=by
  unfold zEc;refine ku (c22_eq fu l (by omega) (by omega)) ?_;refine ku (zRO fu (by omega) (tO false l).isEmpty (tO false l) (jQ ms) 0 (by omega) fun t ht=>?_) ?_
  . obtain ⟨h1,u,h2,h3,h4⟩:=zLJ ht;rcases h u h2 with h5 | h5
    . exact .inl (by rw [<- h3]; exact h5)
    . exact .inr (.inr ⟨h1,mcH_of (by rw [<- h4]; exact h5)⟩)
  . refine ku (c23_eq fu (tO false l) (by omega) (by omega)) rfl
 rw [e1]
theorem zTq (fu:Nat) (ds:List Str) (s:Str) (hfu:2000000 < fu) (hd:∀ x ∈ ds,x.length<=1090000):c3 fu (ds,s,())=some (true,()):=by
 show sh3 fu c7 (c8 fu) (c9 fu) (c10N fu) (c11 fu) (fun _=>false) ds s=some (true,());obtain ⟨ms,b,h8,hb⟩:=c8_tot fu ds hd hfu;unfold sh3;refine ku (v:=(true,())) rfl ?_;refine ku h8 ?_;refine Q_not (fun _=>rfl) fun hbt=>?_;obtain ⟨hml,hdl,_⟩:=hb hbt;refine zEt (fun _=>rfl) fun hsl=>?_;replace hsl:s.length<=500:=by have h2:(s.length:Int)<=500:=hsl; omega
 obtain ⟨l,h9,hll,_⟩:=zLw (fu:=fu) 0 s (by omega) (by omega);refine ku h9 ?_;dsimp only;refine zAe (fun st=>∃ (i:Nat) (w:List TokT) (b:Bool),st=((w,(b,((i:Int),()))),())/\i<=l.length/\w.length<=i/\w++(tO b (l.drop i)).map ofK=(tO false l).map ofK/\∀ t ∈ l.take i,t.kind≠1\/∀ m ∈ ms,t.text≠m.name) (fun st=>l.length - st.1.2.2.1.toNat) ?_ fu _ ⟨0,[],false,rfl,Nat.zero_le _,Nat.le_refl _,rfl,fun t ht=>by cases ht⟩ (by show l.length - 0 < fu; omega);rintro rec st ⟨i,w,b,rfl,hi,hw,he,hn⟩ hrec;dsimp only;refine zEt (fun hlt=>?_) fun hge=>?_
 . replace hlt:i < l.length:=zDz hlt;have eg:List.getD l (Int.toNat (i:Int)) tokD=l[i]:=zCe hlt;have hB:inB (i:Int) l.length=true:=xf (by omega) (by omega);have hm:l.length - (i+1) < l.length - i:=by omega
   rw [eg,hB,i1 (by omega)];refine zAe (fun st=>∃ (k:Nat),st=((w,((k:Int),())),())/\k<=ms.length/\(l[i].kind≠1\/∀ m ∈ ms.take k,l[i].text≠m.name)) (fun st=>ms.length - st.1.2.1.toNat) ?_ fu _ ⟨0,rfl,Nat.zero_le _,.inr fun m hm=>by cases hm⟩ (by show ms.length - 0 < fu; omega);rintro rec2 st ⟨k,rfl,hk,hkn⟩ hrec2;dsimp only;refine zEt (fun hklt=>?_) fun hkge=>?_
   . replace hklt:k < ms.length:=zDz hklt;have egk:List.getD ms (Int.toNat (k:Int)) macD=ms[k]:=zCe hklt;have hmk:ms.length - (k+1) < ms.length - k:=by omega
     rw [egk,i1 (by omega)];refine z8 rfl ?_;refine zKX (fun hk1=>?_) fun hk1=>?_
     . refine z8 rfl (z8 (xf (by omega) (by omega)) ?_);refine zMh (fun _=>rfl) fun hne=>?_;refine hrec2 _ ⟨k+1,rfl,hklt,?_⟩ hmk;rcases hkn with h | h
       . exact .inl h
       . refine .inr fun m hm=>?_;rw [zB4 hklt,List.mem_append] at hm;rcases hm with hm | hm
         . exact h m hm
         . obtain rfl:=List.mem_singleton.1 hm;intro e;rw [zCT,decide_eq_true e] at hne;cases hne
     . exact hrec2 _ ⟨k+1,rfl,hklt,.inl hk1⟩ hmk
   . have hfull:l[i].kind≠1\/∀ m ∈ ms,l[i].text≠m.name:=by
      have e:k=ms.length:=by
       have h2:(ms.length:Int)<=(k:Int):=hkge;omega
      subst e;rw [List.take_length] at hkn;exact hkn
     have hn':∀ t ∈ l.take (i+1),t.kind≠1\/∀ m ∈ ms,t.text≠m.name:=fun t ht=>by
      rw [zB4 hlt,List.mem_append] at ht;rcases ht with ht | ht
      . exact hn t ht
      . obtain rfl:=List.mem_singleton.1 ht; exact hfull
     rw [List.drop_eq_getElem_cons hlt] at he;refine z8 rfl ?_;refine zKX (fun h7=>?_) fun h7=>?_
     . refine hrec _ ⟨i+1,w,true,rfl,hlt,by omega,?_,hn'⟩ hm;rw [tO,if_pos h7] at he;exact he
     . rw [tO,if_neg h7] at he;refine z8 rfl ?_;refine zMh (fun hbl=>?_) fun hbl=>?_
       . refine z8 (zO8 (by rw [show ∀ t:TokT,[t].length=1 from fun _=>rfl]; omega)) ?_;refine hrec _ ⟨i+1,_,false,rfl,hlt,by rw [app1]; omega,?_,hn'⟩ hm;rw [<- he,List.append_assoc,hbl]; rfl
       . refine z8 (zO8 (by rw [show ∀ t:TokT,[t].length=1 from fun _=>rfl]; omega)) ?_;refine hrec _ ⟨i+1,_,false,rfl,hlt,by rw [app1]; omega,?_,hn'⟩ hm;rw [<- he,List.append_assoc,hbl]; rfl
 . have e:i=l.length:=by
    have h2:(l.length:Int)<=(i:Int):=hge;omega
   subst e;rw [List.take_length] at hn;rw [List.drop_length] at he;have he:w=(tO false l).map ofK:=by rw [<- he]; show w=w++[]; rw [List.append_nil]
   subst he;have hlen:=zIR l false;refine ku (zTG fu (by omega) ms l (by omega) (by omega) hn) ?_;refine z8 rfl ?_;refine zKX (fun _=>?_) fun h=>absurd rfl h;exact ku (zS3 fu _ (by rw [List.length_map]; omega) (by rw [List.length_map]; omega)) rfl
end
section
open Go.Al Go.Den
def u3 (x:List Str×Str×Unit):Option (Bool×Unit):=if (x.1.all fun s=>decide (s.length<=1048576))=true then some (true,()) else none
theorem ok3:ConOk CC Tryz.prog 3 ⟨as3,rs3,u3⟩:=fun x y hx=>by
 obtain ⟨x0,x1,u⟩:=x;change List Str at x0;change Str at x1;by_cases h:(x0.all fun s=>decide (s.length<=1048576))=true
 . have h2:u3 (x0,x1,u)=some (true,()):=if_pos h;replace hx:u3 (x0,x1,u)=some y:=hx;rw [h2] at hx;injection hx with hx
   subst hx;refine ok3A 2000001 (x0,x1,u) _ (zTq 2000001 x0 x1 (by omega) fun s hs=>?_);have:=of_decide_eq_true (List.all_eq_true.1 h s hs);omega
 . have h2:u3 (x0,x1,u)=none:=if_neg h;replace hx:u3 (x0,x1,u)=some y:=hx;rw [h2] at hx;cases hx
end
end Go.Proofs.YtfjiiknfopmcjaaGreatDoor
namespace Go.Proofs.YtfjiiknfopmcjaaGreatDoor.expandNone
section
open Go.Al Go.Den Go.ChangeShapes Go.WideShapes Go.ChangeAt Go.RowKit
open Go.ChangeMaps (open_string shut_string)
theorem own:ownKnob Tryz.prog.godebug=none:=by kernel_rfl
theorem laidOut:laidOutB Tryz.prog=true:=by kernel_rfl
theorem walk (n0:Bool) (z0:List (List UInt8)) (z1:List UInt8) (hb:(z0.all fun s=>decide (s.length<=1048576))=true) (W:World) (hgl:GlobOk W.heap.size (wmOf W) W) (v0 v1:Value) (h0:RV1 ⟨wmOf W,fun _=>none,Fr.no⟩ W (.lst (if n0 then .nil else .no) (z0.map fun z=>V.at (.string ⟨z.toArray⟩))) v0) (h1:RV1 ⟨wmOf W,fun _=>none,Fr.no⟩ W (.at (.string ⟨z1.toArray⟩)) v1):Calls Tryz.prog 3 #[v0,v1] W fun e W'=>e = .returned (.bool true)/\Below W.heap.size W W':=by
 have hp:=ok3 (z0,z1,()) (true,()) (if_pos hb) _ ⟨_,_,rfl,⟨n0,rfl⟩,⟨_,_,rfl,rfl,rfl⟩⟩;refine (hp (wmOf W) W [v0,v1] (zOr W) hgl (.cons h0 (.cons h1 RVs.nil))).mono ?_;rintro e W' ⟨v,wm',rfl,_,hst,hr⟩;have hv:v = .bool true:=zh hr;subst hv;exact ⟨rfl,hst.below⟩
theorem reads (os:Os) {H:Type} (enc:TypeId×Value->H):∃ places,DataW.whole enc Tryz.prog ((World.laidAll Tryz.prog os zIg).forCall (fun _ _=>0) ⟨#[],#[.slice none 0 0,.string ByteArray.empty],[]⟩).memory Tryz.f3.params.toList Rows.expandNoneSpec.vars false (#[.slice none 0 0,.string ByteArray.empty]:Array Value).toList 8=some ([DataW.nil,DataW.lit (.string [])],[],places):=
 ⟨[],by kernel_rfl⟩
set_option maxRecDepth 100000 in
theorem lifted (os:Os) (started:os.Started) (H:Type) (enc:TypeId×Value->H) (F:Stop.Interp) :
 ReturnsInHanded {} Tryz.checked os 3 .any ((Rows.OpenSpec.upto Rows.expandNoneSpec).preRow enc Tryz.prog Tryz.f3 Rows.expandNoneUptoRow.domain false Rows.expandNoneUptoRow.laid) (((Rows.OpenSpec.upto Rows.expandNoneSpec).at F).post enc Tryz.prog Tryz.f3 false true false false):=by
 obtain ⟨places,hx⟩:=reads os enc;refine returnsInHanded_of_row (C:=Tryz.checked) (s:=Rows.OpenSpec.upto Rows.expandNoneSpec) own started (by kernel_rfl) Tryz.func3
  (zIu (enc:=enc) (C:=Tryz.checked) false (World.laidAll Tryz.prog os zIg) #[.slice none 0 0,.string ByteArray.empty] (World.laidAll_os _ _ _) (World.shaped_of_ZipB (by kernel_rfl) (by kernel_rfl)) (by kernel_rfl)
   (OpenSpec.preRow_of_cond 8 hx (by kernel_rfl) (fun k hk=>by cases hk; kernel_rfl) (by kernel_rfl) (zTV os _))) ?_
 intro W base args ds gs before hval0 hW _ hcond _ hL hsh _;have hval:∀ (j:Nat) t v,Tryz.f3.params[j]? = some t->args[j]? = some v->Value.okWide Tryz.prog W .any base t v:=hval0;have hW':=hW;obtain ⟨p,q,hA0,hV,rfl,hfz,hnd⟩:=hW;have hA:DataW.TrodAll enc Tryz.prog W 0 (fun _=>true) true Tryz.f3.params.toList args.toList ds p:=hA0;rw [Tryz.params3] at hA hval;obtain ⟨v0,vs0,d0,ds0,p0,q0,hargs,rfl,rfl,h0,r0⟩:=trodAll_cons hA;obtain ⟨v1,vs1,d1,ds1,p1,q1,rfl,rfl,rfl,h1,r1⟩:=trodAll_cons r0;obtain ⟨rfl,rfl,rfl⟩:=trodAll_nil r1;obtain rfl:args = #[v0,v1]:=by cases args; simp_all
 obtain ⟨rfl,rfl⟩:=trodVars_none hV;have hgl:=zJT hsh hL;have k0:=h0;have lt0:∀ x ∈ p0,x.block < W.heap.size:=by obtain ⟨m,hm⟩:=k0; exact DataW.trod_lt m _ _ _ hm
 obtain ⟨n0,z0,w0,wb0⟩:=zQ2 Tryz.underlying22 Tryz.underlying9 (by kernel_rfl) (hval 0 22 v0 rfl rfl) h0;have k1:=h1;have lt1:∀ x ∈ p1,x.block < W.heap.size:=by obtain ⟨m,hm⟩:=k1; exact DataW.trod_lt m _ _ _ hm
 obtain ⟨s1,rfl,rfl,rfl,w1⟩:=open_string Tryz.underlying9 (hval 1 9 v1 rfl rfl) h1;have hb:=of_decide_eq_true (hcond _ rfl);simp only [List.append_nil,List.nil_append,Rows.uptoBulkAll,Rows.uptoBulk,List.cons_append] at hb;clear hA0 hval0 hcond;refine (walk n0 z0 s1.data.toList (List.all_eq_true.2 fun s hs=>decide_eq_true (by have:=wb0 s hs; omega)) W hgl _ _ w0 (zUw s1)).mono fun e W' ⟨he,bel⟩=>?_;subst he;exact ⟨_,rfl,_,_,_,[],_,[],hW',trodAll_mk1 (shut_bool Tryz.underlying4 _),(trodAll_cons_mk (Below.trod laidOut (by kernel_rfl) (of_decide_eq_true (by kernel_rfl)) k0 bel lt0) (trodAll_cons_mk (Below.trod laidOut (by kernel_rfl) (of_decide_eq_true (by kernel_rfl)) k1 bel lt1) trodAll_mk0)),rfl,bel.frame _,fun h=>by cases h⟩
theorem over:Rows.ExpandNoneUptoSaid:=
 OpenClaim.holds_of_cond 3 Tryz.f3 rfl rfl rfl rfl rfl rfl rfl ⟨rfl,rfl,rfl,rfl,rfl⟩ rfl rfl rfl rfl rfl (by kernel_rfl) Tryz.func3 (by kernel_rfl)
  (of_decide_eq_true (by kernel_rfl)) (by unfold Func.isWrapper; first | (rw [if_pos (by decide +kernel)]; kernel_rfl) | (rw [if_neg (by decide +kernel)]; exact ⟨rfl,rfl⟩))
  (fun os started H enc _ F=>by rw [OpenClaim.pre_eq_preRow]; exact lifted os started H enc F)
theorem expandNone_holds:Rows.ExpandNoneUptoCardSaid:=
 Claim7.holds_tied_plain_at .later [] [.data,.data,.pinned] true (true, "4970534abb448be6b6b0e3a2e0ecd71069b33ec47d661ce25528f19454097e4d") true
  over (fun _ h=>by cases h) (by kernel_rfl) (fun _ h=>by cases h) expandNoneUpto_row_tie rfl ⟨rfl,rfl⟩ (by kernel_rfl) rfl
  (fun f fn hf hfn=>by
   obtain rfl:f=3:=Option.some.inj ((show Tryz.prog.funcNamed "emend/emendlaw08.ExpandNone" = some 3 by kernel_rfl).symm.trans hf) |>.symm;obtain rfl:fn=Tryz.f3:=(Option.some.inj (Tryz.func3.symm.trans hfn)).symm;exact ⟨by kernel_rfl,fun j t ht=>by
    rw [Tryz.params3] at ht;have hm:t ∈ [22,9]:=by simpa using Array.mem_of_getElem? ht
    have hall:([22,9].all fun u=>!Tryz.prog.wantsStandIn u)=true:=by kernel_rfl
    exact (show Tryz.prog.wantsStandIn t=false by simpa using List.all_eq_true.1 hall t hm)⟩)
  (by kernel_rfl)
end
end Go.Proofs.YtfjiiknfopmcjaaGreatDoor.expandNone
