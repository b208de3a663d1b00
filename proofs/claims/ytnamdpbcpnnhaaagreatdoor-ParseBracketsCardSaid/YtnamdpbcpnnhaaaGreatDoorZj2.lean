/-
  Part 2 of what the last text needs: library, runs, contracts, plain laws. No condition of its own.
-/
import Derived.Test.YtnamdpbcpnnhaaaGreatDoorZj1
import Derived.WalkKit
import Derived.ProofKit
import Derived.OpenShut
import Derived.ShutString
import Derived.ChangeOld
import Derived.Below
import Derived.Carry
set_option linter.unusedVariables false
set_option linter.unusedSimpArgs false
set_option linter.unusedSectionVars false
namespace Go.Al
section
def zHK (L:Pol) (l:List Oper):Bool:=
 (List.range l.length).all fun i=>(List.range l.length).all fun j=>
  match l[i]?,l[j]? with
  | some oi,some oj=>!decide (i < j) || zAa L oi oj || bef l.toArray l.length i j || decide (i+2=l.length)
  | _,_=>true
theorem zJ2 {L:Pol} {l:List Oper} (h:zHK L l=true) {i j:Nat} {oi oj:Oper} (hi:l[i]? = some oi) (hj:l[j]? = some oj) (hlt:i < j) (hno:bef l.toArray l.length i j=false) (hn:i+2≠l.length) :
 zAa L oi oj=true:=by
 have h1:=List.all_eq_true.1 h i (List.mem_range.2 (List.getElem?_eq_some_iff.1 hi).1)
 have h2:=List.all_eq_true.1 h1 j (List.mem_range.2 (List.getElem?_eq_some_iff.1 hj).1)
 simpa [hi,hj,hlt,hno,hn] using h2
section
variable {P:Program} {L:Pol} {X:Cx} {ds:List (Option Nat)} {KP:List PanicEntry->S->Prop} {ops:Array Oper}
theorem zHt (hds:ds=ops.toList.map (·.dst)) (hd:zHK L ops.toList=true) {K:Env->S->Prop} (hK:Resp K)
 (hsw:∀ o o',ops[ops.size - 2]? = some o->ops[ops.size - 1]? = some o'->∀ e st,zi P L ds KP o (zi P L ds KP o' K) e st->zi P L ds KP o' (zi P L ds KP o K) e st) :
 ∀ (l:List Oper) (k:Nat) (listed:Array Bool) (e:Env) (st:S),(∀ j,l[j]? = ops[k+j]?) ->
 (∀ j,j < k->listed.getD j true=true)->(left ops listed).length<=l.length->k+l.length=ops.size->2<=l.length->PC ops listed ->
 Region.lexFrom .any ops l.length k listed=true->AL P L ds KP l K e st->AnyA P L ds KP ops K l.length listed e st
 | [],_,_,_,_,_,_,_,_,h2,_,_,_=>absurd h2 (by simp)
 | [_],_,_,_,_,_,_,_,_,h2,_,_,_=>absurd h2 (by simp)
 | [o,o'],k,listed,e,st,hl,hbel,hcount,hsz,_,hpc,hB,h=>by
  have h0:ops[k]? = some o:=by simpa using (hl 0).symm
  have h1:ops[k+1]? = some o':=by simpa using (hl 1).symm
  simp only [List.length_cons,List.length_nil] at hsz hcount hB ⊢
  simp only [Region.lexFrom,Bool.and_eq_true] at hB
  obtain ⟨⟨hr,hf⟩,⟨hr1,hf1⟩,hB'⟩:=hB
  have hr':k ∈ Region.ready .any ops listed:=by simpa using hr
  have hr1':k+1 ∈ Region.ready .any ops (listed.setIfInBounds k true):=by simpa using hr1
  have c1:=zA2 (qE hr')
  have c2:=zA2 (qE hr1')
  have only:∀ i ∈ Region.ready .any ops listed,i=k\/i=k+1:=fun i hi=>by
   by_cases e1:i=k
   · exact .inl e1
   · by_cases e2:i=k+1
     · exact .inr e2
     · exfalso
       have h3:=qE (ready_mono (ready_mono hi e1) e2)
       have h4:(left ops ((listed.setIfInBounds k true).setIfInBounds (k+1) true)).length=0:=by omega
       rw [List.eq_nil_of_length_eq_zero h4] at h3
       cases h3
  have hs:=hsw o o' (by rw [show ops.size - 2=k from by omega]; exact h0) (by rw [show ops.size - 1=k+1 from by omega]; exact h1) e st h
  refine ⟨fun h=>(by rw [h] at hr'; cases hr'),fun i hi oi hoi=>?_⟩
  rcases only i hi with rfl | rfl
  · rw [h0] at hoi; injection hoi with hoi; subst hoi
    refine xE (h:zi P L ds KP o (zi P L ds KP o' K) e st) fun e' s q=>⟨fun h=>(by rw [h] at hr1'; cases hr1'),fun j hj oj hoj=>?_⟩
    have ej:j=i+1:=by
     by_cases e2:j=i+1
     · exact e2
     · exfalso
       have h3:=qE (ready_mono hj e2)
       have h4:(left ops ((listed.setIfInBounds i true).setIfInBounds (i+1) true)).length=0:=by omega
       rw [List.eq_nil_of_length_eq_zero h4] at h3
       cases h3
    subst ej
    rw [h1] at hoj; injection hoj with hoj; subst hoj
    exact xE q fun e'' s'' q'=>⟨by simpa using hB',q'⟩
  · rw [h1] at hoi; injection hoi with hoi; subst hoi
    have hne:k≠k+1:=by omega
    have hk:=ready_mono hr' hne
    refine xE hs fun e' s q=>⟨fun h=>(by rw [h] at hk; cases hk),fun j hj oj hoj=>?_⟩
    have hcm:(listed.setIfInBounds (k+1) true).setIfInBounds k true=(listed.setIfInBounds k true).setIfInBounds (k+1) true:=Array.setIfInBounds_comm _ _ (Ne.symm hne)
    have ej:j=k:=by
     by_cases e2:j=k
     · exact e2
     · exfalso
       have h3:=qE (ready_mono hj e2)
       have h4:(left ops ((listed.setIfInBounds k true).setIfInBounds (k+1) true)).length=0:=by omega
       rw [hcm,List.eq_nil_of_length_eq_zero h4] at h3
       cases h3
    subst ej
    rw [h0] at hoj; injection hoj with hoj; subst hoj
    exact xE q fun e'' s'' q'=>⟨by rw [hcm]; simpa using hB',q'⟩
 | o::o1::o2::l,k,listed,e,st,hl,hbel,hcount,hsz,_,hpc,hB,h=>by
  have h0:ops[k]? = some o:=by simpa using (hl 0).symm
  rw [show (o::o1::o2::l).length=(o1::o2::l).length+1 from rfl] at hB hcount hsz ⊢
  simp only [Region.lexFrom,Bool.and_eq_true] at hB
  obtain ⟨⟨hr,hf⟩,hB'⟩:=hB
  have hr':k ∈ Region.ready .any ops listed:=by simpa using hr
  refine zFx hds hK h0 (o1::o2::l).length listed e st hcount ?_ hpc hr' ?_
  · intro j oj hj hne hun hno hbf
    refine ⟨Region.free_spec h0 hf j oj hj hne hun hno,zJ2 hd (by simpa using h0) (by simpa using hj) ?_ (by simpa using hbf) (by simp only [List.length_cons,Array.length_toList] at hsz ⊢; omega)⟩
    rcases Nat.lt_or_ge k j with h1 | h1
    · exact h1
    · have:=hbel j (by omega)
      rw [this] at hun; cases hun
  · refine xE (h:zi P L ds KP o (AL P L ds KP (o1::o2::l) K) e st) fun e' s q=>?_
    refine zHt hds hd hK hsw (o1::o2::l) (k+1) _ e' s (fun j=>by have:=hl (j+1); simpa [Nat.add_assoc,Nat.add_comm 1 j] using this) (fun j hj=>?_) (by have:=zA2 (qE hr'); omega) (by omega) (by simp) (zIe hr' hpc) hB' q
    by_cases e1:j=k
    · subst e1
      rcases Nat.lt_or_ge j listed.size with h' | h'
      · simp [h']
      · simp [Array.getElem?_eq_none h']
    · rw [getD_set_ne true (Ne.symm e1)]; exact hbel j (by omega)
end
theorem zJa {b b':Nat} (hne:b≠b') {x x':List V×Nat}:∀ {l:List (Nat×List V×Nat)} {c c':List V×Nat},look l b=some c->look l b' = some c'->lay (lay l b x) b' x' = lay (lay l b' x') b x
 | [],_,_,h,_=>by cases h
 | (k,d)::r,c,c',h,h'=>by
  by_cases e1:k=b
  · subst e1
    have e2:¬ k=b':=hne
    simp [lay,e2]
  · by_cases e2:k=b'
    · subst e2
      simp [lay,e1]
    · simp only [look,e1,e2,if_false] at h h'
      simp only [lay,e1,e2,if_false]
      rw [zJa hne h h']
def Sep (x x':Operand) (e:Env):Prop:=∃ b o b' o',e.ev x = .at (.pointer (some ⟨b,o,none⟩))/\e.ev x' = .at (.pointer (some ⟨b',o',none⟩))/\b≠b'
theorem zL9 {P:Program} {L:Pol} {ds:List (Option Nat)} {KP:List PanicEntry->S->Prop} {t t':TypeId} {x y x' y':Operand} {ty ty':TypeId} {pos pos':String} {af af':Array Edge} {K:Env->S->Prop} {e:Env} {st:S} (hsep:∀ e s,K e s->Sep x x' e)
 (h:zi P L ds KP ⟨none,.store t x y,ty,pos,af,none⟩ (zi P L ds KP ⟨none,.store t' x' y',ty',pos',af',none⟩ K) e st) :
 zi P L ds KP ⟨none,.store t' x' y',ty',pos',af',none⟩ (zi P L ds KP ⟨none,.store t x y,ty,pos,af,none⟩ K) e st:=by
 simp only [zi,jH,aop,if_true,Env.putO] at h ⊢
 obtain ⟨s1,h⟩:=h
 unfold qT at h
 split at h
 case h_2=>exact h.elim
 rename_i b o hx
 split at h
 case h_2=>exact h.elim
 rename_i cs k hl
 obtain ⟨h1,h2,h3,h4,s2,h⟩:=h
 split at h
 case h_2=>exact h.elim
 rename_i b' o' hx'
 split at h
 case h_2=>exact h.elim
 rename_i cs' k' hl'
 obtain ⟨g1,g2,g3,g4,h⟩:=h
 obtain ⟨c,p,c',p',k1,k2,k3⟩:=hsep _ _ h
 rw [hx] at k1; injection k1 with k1; injection k1 with k1; injection k1 with k1; injection k1 with k1 _ _
 rw [hx'] at k2; injection k2 with k2; injection k2 with k2; injection k2 with k2; injection k2 with k2 _ _
 subst k1; subst k2
 rw [zW,if_neg k3] at hl'
 refine ⟨s2,?_⟩
 have s1':=s1
 rw [hx] at s1'
 unfold qT
 simp only [hx',hl',hx,zW,if_neg (Ne.symm k3),hl]
 refine ⟨g1,g2,g3,g4,s1',h1,h2,h3,h4,?_⟩
 rw [zJa (Ne.symm k3) hl' hl]
 exact h
section
variable {P:Program} {L:Pol} {X:Cx} {e:Env} {st:S}
theorem zHg {Q:Exit->Env->S->Prop} {id:Nat} {l:List Oper} (L:Pol) (hm:P.follows .mixedOrders=true) (kf:Nat->List Nat) (x x':Operand) (ds:List (Option Nat)) (hds:l.map (·.dst)=ds) (hd:zCL X.N l=true) (hB:Region.lexB .any l.toArray=true) (hO:zHK L l=true)
 (hl2:2<=l.length) (hsw:∃ t y ty pos af t' y' ty' pos' af',l[l.length - 2]? = some ⟨none,.store t x y,ty,pos,af,none⟩/\l[l.length - 1]? = some ⟨none,.store t' x' y',ty',pos',af',none⟩)
 (h:AL P L ds (fun c s=>Q (.panic c) [] s) l (fun e' s'=>Sep x x' e'/\Q .normal (xx (kf id) e') s') e st):awp P X (.region id l.toArray true) Q e st:=by
 intro g a w hr
 generalize kf id=ks at h
 simp only [Region.lexB,Bool.and_eq_true] at hB
 have hnd:∀ o ∈ l.toArray.toList,∀ c,o.op≠.defer c:=fun o ho=>zCR hd (by simpa using ho)
 refine wpIn_mono (Q:=Goes X g w (inQ Q)) (wpIn_region_draw fun t=>zA8 hnd (zET fun _ _ k=>k) _ a _ ?_) zFf
 simp only [Region.schedule,hm,Bool.true_or,if_true]
 refine wpAny_sound _ t _ a _ ?_
 have hdr:=zA1 hr.inv (w.drawn+1)
 have hrel:Rel X g e st a { w with drawn:=w.drawn+1 }:=⟨hdr.inv,fun k=>(hr.env k).later hdr.step.later,hr.size,hr.df,hr.gl.below hdr.step.below hdr.step.later.wm⟩
 have hresp:Resp (fun e' s'=>Sep x x' e'/\Q .normal (xx ks e') s'):=fun e1 e2 s h1 h2=>by
  have:xx ks e1=xx ks e2:=by unfold xx; exact List.map_congr_left fun k _=>by rw [h1 k]
  refine ⟨?_,?_⟩
  · have:=h2.1
    unfold Sep at this ⊢
    rw [<- zIf h1,<- zIf h1]; exact this
  · show Q .normal (xx ks e2) s
    rw [<- this]; exact h2.2
 obtain ⟨t1,y,ty,pos,af,t',y',ty',pos',af',s1,s2⟩:=hsw
 have hA:=zHt (P:=P) (L:=L) (ops:=l.toArray) (ds:=ds) (KP:=fun c s=>Q (.panic c) [] s) (by simpa using hds.symm) (by simpa using hO) hresp
  (fun o o' ho ho' e st hh=>by
   have e1:o=⟨none,.store t1 x y,ty,pos,af,none⟩:=by
    have:l[l.length - 2]? = some o:=by simpa using ho
    rw [s1] at this; injection this with this; exact this.symm
   have e2:o' = ⟨none,.store t' x' y',ty',pos',af',none⟩:=by
    have:l[l.length - 1]? = some o':=by simpa using ho'
    rw [s2] at this; injection this with this; exact this.symm
   subst e1; subst e2
   exact zL9 (fun _ _ k=>k.1) hh)
  l 0 (Array.replicate l.toArray.size false) e st (by simp) (fun j hj=>by omega)
  (by unfold left; exact Nat.le_trans (List.length_filter_le _ _) (by simp)) (by simp) hl2 (fun k ok hk hl=>by
   exfalso
   rw [Array.getD_eq_getD_getElem?,Array.getElem?_replicate] at hl
   split at hl <;> simp at hl) (by simpa using hB.2) h
 have:=zDg (X:=X) (Q:=inQ Q) (ops:=l.toArray) (ds:=ds) (by simpa using hds.symm) (fun o ho=>zJ9 hd (by simpa using ho)) (fun _ _ k=>k) (g0:=g) (w0:=w)
  (fun g' e' s' a' w' k1 k2 k3=>⟨g',_,s',k2,k3.weaken (zEG ks e') (S.sub_refl _),k1.2⟩) l.length _ e st g a { w with drawn:=w.drawn+1 } hA hdr.step hrel
 exact this
end
end
section
open Go.RowKit
theorem zB8 (l r:List (Nat×OV×List Nat)) (b:Nat):zM (l++r) b=(zM l b).or (zM r b):=by
 induction l with
 | nil=>rfl
 | cons p l ih=>
  obtain ⟨k,c⟩:=p
  show zM ((k,c)::(l++r)) b=(zM ((k,c)::l) b).or (zM r b)
  rw [z7,z7]
  split
  · rfl
  · exact ih
def rbox (st0 st:S):List (Nat×List V×Nat):=st.box.filter fun p=>(look st0.box p.1).isNone
def rob (st0 st:S):List (Nat×OV×List Nat):=st.ob.filter fun p=>(zM st0.ob p.1).isNone
theorem zCn (p:Nat->Bool):∀ (l:List (Nat×List V×Nat)) (b:Nat),look (l.filter fun x=>p x.1) b=if p b=true then look l b else none
 | [],b=>by simp [look]
 | (k,c)::r,b=>by
  rw [List.filter_cons]
  by_cases h:p k=true
  · rw [if_pos h]
    show (if k=b then some c else look (r.filter _) b)=_
    rw [zCn p r b]
    show (if k=b then some c else if p b=true then look r b else none)=if p b=true then (if k=b then some c else look r b) else none
    by_cases e:k=b
    · subst e; simp [h]
    · simp [e]
  · rw [if_neg h,zCn p r b]
    show _=if p b=true then (if k=b then some c else look r b) else none
    by_cases e:k=b
    · subst e; simp [h]
    · simp [e]
theorem kV (p:Nat->Bool):∀ (l:List (Nat×OV×List Nat)) (b:Nat),zM (l.filter fun x=>p x.1) b=if p b=true then zM l b else none
 | [],b=>by simp [zM]
 | (k,c)::r,b=>by
  rw [List.filter_cons]
  by_cases h:p k=true
  · rw [if_pos h]
    rw [z7,z7,kV p r b]
    by_cases e:k=b
    · subst e; simp [h]
    · simp [e]
  · rw [if_neg h,kV p r b,z7]
    by_cases e:k=b
    · subst e; simp [h]
    · simp [e]
theorem jj (st0 st:S) (b:Nat):look (rbox st0 st) b=if (look st0.box b).isNone=true then look st.box b else none:=zCn (fun k=>(look st0.box k).isNone) st.box b
theorem kY (st0 st:S) (b:Nat):zM (rob st0 st) b=if (zM st0.ob b).isNone=true then zM st.ob b else none:=kV (fun k=>(zM st0.ob k).isNone) st.ob b
def rtg (st0 st:S):List Nat:=st.tg.filter fun t=>!st0.tg.contains t
theorem rtg_iff {st0 st:S} {t:Nat}:t ∈ rtg st0 st↔t ∈ st.tg/\t ∉ st0.tg:=by simp [rtg]
def jZ (st0 st s0:S):S:=⟨s0.box++rbox st0 st,s0.tg++rtg st0 st,max s0.nx st.nx,s0.ob++rob st0 st⟩
def zCI (st0 st:S) (g:Gh) (b:Nat):Prop:=
 (∃ c,look (rbox st0 st) b=some c)\/(∃ t ∈ rtg st0 st,∃ d,g.tb t=some (some (b,d)))\/(∃ b' o fp,zM (rob st0 st) b' = some (o,fp)/\b ∈ fp)
structure PartS (st0 st:S):Prop where
 box:∀ b c,look st0.box b=some c->look st.box b=some c
 tg:∀ t ∈ st0.tg,t ∈ st.tg
 nodup:st0.tg.Nodup
 ob:∀ b c,zM st0.ob b=some c->zM st.ob b=some c
 nx:st0.nx=st.nx
theorem zES (g:Gh) (f:Fr) (w:World):Later g w ⟨g.wm,g.tb,f⟩ w:=⟨fun _=>Nat.le_refl _,fun _ _ e=>e,fun _ _ _=>rfl⟩
open Classical in
noncomputable def frR (st0 st:S) (g:Gh):Fr:=⟨fun b=>g.fr b || decide (zCI st0 st g b),fun t=>g.fr.t t || decide (t ∈ rtg st0 st)⟩
theorem zJA {st0 st:S} {g:Gh} {b:Nat} (h:zCI st0 st g b):frR st0 st g b=true:=by show (_ || _)=true; simp [h]
theorem zM2 {st0 st:S} {g:Gh} {b:Nat} (h:g.fr b=true):frR st0 st g b=true:=by show (_ || _)=true; simp [h]
theorem zNp {st0 st:S} {g:Gh} {b:Nat} (h:frR st0 st g b=false):g.fr b=false/\¬ zCI st0 st g b:=by
 replace h:(g.fr b || _)=false:=h
 simpa using h
theorem zJz {st0 st:S} {g:Gh} {b:Nat} (h:frR st0 st g b=true):g.fr b=true\/zCI st0 st g b:=by
 replace h:(g.fr b || _)=true:=h
 simpa using h
theorem zNx {st0 st:S} {g:Gh} {t:Nat} (h:t ∈ rtg st0 st):(frR st0 st g).t t=true:=by show (_ || _)=true; simp [h]
theorem frT_fr {st0 st:S} {g:Gh} {t:Nat} (h:g.fr.t t=true):(frR st0 st g).t t=true:=by show (_ || _)=true; simp [h]
theorem zPB {st0 st:S} {g:Gh} {t:Nat} (h:(frR st0 st g).t t=true):g.fr.t t=true\/t ∈ rtg st0 st:=by
 replace h:(g.fr.t t || _)=true:=h
 simpa using h
section
variable {P:Program} {B:Nat} {g:Gh} {w:World} {st0 st:S}
theorem zBc (hp:PartS st0 st) {b:Nat} (h:look st.box b=none):look st0.box b=none:=by
 cases e:look st0.box b with
 | none=>rfl
 | some c=>rw [hp.box b c e] at h; cases h
theorem zPc (hi:Inv B g st w) {b:Nat} (h:zCI st0 st g b):b < w.heap.size/\(PartS st0 st->look st0.box b=none):=by
 rcases h with ⟨c,h⟩ | ⟨t,ht,d,h⟩ | ⟨b',o,fp,h,hb⟩
 · rw [jj] at h
   split at h
   · rename_i h0
     obtain ⟨cs,k⟩:=c
     obtain ⟨_,_,_,_,arr,el,us,p5,_⟩:=hi.box b cs k h
     exact ⟨(Array.getElem?_eq_some_iff.1 p5).1,fun _=>by simpa using h0⟩
   · cases h
 · obtain ⟨x1,x2,x3⟩:=d
   obtain ⟨_,_,_,_,p5,arr,el,p6,_⟩:=hi.own t (rtg_iff.1 ht).1 b x1 x2 x3 h
   exact ⟨(Array.getElem?_eq_some_iff.1 p6).1,fun hp=>zBc hp p5⟩
 · rw [kY] at h
   split at h
   · obtain ⟨_,k2,_,k4,_⟩:=(hi.ex.ob b' o fp h).2.2 b hb
     exact ⟨k2,fun hp=>zBc hp k4⟩
   · cases h
theorem zPG (hi:Inv B g st w) (hp:PartS st0 st) {b:Nat} (h:zCI st0 st g b):∀ t ∈ st0.tg,∀ d,g.tb t=some (some (b,d))->False:=fun t ht d hd=>by
 obtain ⟨x1,x2,x3⟩:=d
 rcases h with ⟨c,h⟩ | ⟨t',ht',d',h⟩ | ⟨b',o,fp,h,hb⟩
 · rw [jj] at h
   split at h
   · obtain ⟨_,_,_,_,p5,_⟩:=hi.own t (hp.tg t ht) b x1 x2 x3 hd
     rw [p5] at h; cases h
   · cases h
 · obtain ⟨h1,h2⟩:=rtg_iff.1 ht'
   have:=hi.dist t (hp.tg t ht) t' h1 b _ _ hd h
   subst this
   exact h2 ht
 · rw [kY] at h
   split at h
   · exact ((hi.ex.ob b' o fp h).2.2 b hb).2.2.2.2.1 t (hp.tg t ht) _ hd
   · cases h
theorem zOX (hi:Inv B g st w) (hp:PartS st0 st):Inv B ⟨g.wm,g.tb,frR st0 st g⟩ st0 w:=by
 have hl:=zES g (frR st0 st g) w
 refine ⟨hi.base,fun b cs k h=>?_,fun t h=>hi.tag t (hp.tg t h),fun t h b cap n sz hb=>?_,fun t h t' h'=>hi.dist t (hp.tg t h) t' (hp.tg t' h'),hp.nodup,hi.fresh,fun t h=>hi.names t (by rw [<- hp.nx]; exact h),⟨fun b hb=>?_,fun b o fp h=>?_,fun b o fp b' o' fp' j h1 h2=>hi.ex.obd b o fp b' o' fp' j (hp.ob _ _ h1) (hp.ob _ _ h2),fun t ht=>?_⟩⟩
 · obtain ⟨p1,p2,p3,p4,arr,el,us,p5,p6,p7,p8⟩:=hi.box b cs k (hp.box b _ h)
   exact ⟨p1,p2,p3,p4,arr,el,us,p5,p6,zp hl _ _ p7,p8⟩
 · obtain ⟨p1,p2,p3,p4,p5,p6⟩:=hi.own t (hp.tg t h) b cap n sz hb
   exact ⟨p1,p2,p3,p4,zBc hp p5,p6⟩
 · rcases zJz hb with hb | hb
   · obtain ⟨h1,h2,h3⟩:=hi.ex.frz b hb
     exact ⟨h1,zBc hp h2,fun t ht=>h3 t (hp.tg t ht)⟩
   · have:=zPc hi hb
     exact ⟨this.1,this.2 hp,zPG hi hp hb⟩
 · have h':=hp.ob b _ h
   obtain ⟨k1,k2,k3⟩:=hi.ex.ob b o fp h'
   refine ⟨k1.local hl (fun _ _=>rfl),k2,fun j hj=>?_⟩
   obtain ⟨q1,q2,q3,q4,q5,q6⟩:=k3 j hj
   refine ⟨q1,q2,q3,zBc hp q4,fun t ht=>q5 t (hp.tg t ht),?_⟩
   cases e:frR st0 st g j with
   | false=>rfl
   | true=>
    rcases zJz e with e | e
    · rw [q6] at e; cases e
    · exfalso
      rcases e with ⟨c,e⟩ | ⟨t,ht,d,e⟩ | ⟨b',o',fp',e,hb⟩
      · rw [jj,q4] at e; simp at e
      · exact q5 t (rtg_iff.1 ht).1 d e
      · rw [kY] at e
        split at e
        · rename_i h0
          have:=hi.ex.obd b o fp b' o' fp' j h' e hj hb
          subst this
          rw [h] at h0; cases h0
        · cases e
 · rcases zPB ht with ht | ht
   · obtain ⟨h1,h2⟩:=hi.ex.ft t ht
     exact ⟨fun hm=>h1 (hp.tg t hm),h2⟩
   · obtain ⟨h1,h2⟩:=rtg_iff.1 ht
     exact ⟨h2,hi.tag t h1⟩
theorem zOl {g':Gh} {w':World} {s0:S} (hi:Inv B g st w) (hp:PartS st0 st) (hs:Step B ⟨g.wm,g.tb,frR st0 st g⟩ w g' w') (h0:Inv B g' s0 w') :
 Step B g w ⟨g'.wm,g'.tb,g.fr⟩ w'/\Inv B ⟨g'.wm,g'.tb,g.fr⟩ (jZ st0 st s0) w'/\Later g' w' ⟨g'.wm,g'.tb,g.fr⟩ w':=by
 have hl2:Later g' w' ⟨g'.wm,g'.tb,g.fr⟩ w':=zES g' g.fr w'
 have hl:Later g w ⟨g'.wm,g'.tb,g.fr⟩ w':=⟨hs.later.wm,hs.later.tb,hs.later.cell⟩
 have hfr:g'.fr=frR st0 st g:=hs.fr
 have rest:∀ {b},zCI st0 st g b->w'.heap[b]? = w.heap[b]?/\g'.wm b=g.wm b/\look s0.box b=none/\(∀ b' o fp,zM s0.ob b' = some (o,fp)->b ∉ fp)/\∀ t ∈ s0.tg,∀ d,g'.tb t=some (some (b,d))->False:=fun {b} h=>by
  have h1:=zJA (st0:=st0) (st:=st) h
  have h2:=hs.fz b h1
  have h3:=h0.ex.frz b (by rw [hfr]; exact h1)
  refine ⟨h2.1,h2.2,h3.2.1,fun b' o fp h4 h5=>?_,h3.2.2⟩
  have:=((h0.ex.ob b' o fp h4).2.2 b h5).2.2.2.2.2
  rw [hfr,h1] at this; cases this
 have rt:∀ {t},t ∈ rtg st0 st->t ∈ st.tg:=fun h=>(rtg_iff.1 h).1
 have rn:∀ {t},t ∈ rtg st0 st->t ∉ s0.tg:=fun {t} h=>(h0.ex.ft t (by rw [hfr]; exact zNx h)).1
 have tbEq:∀ t ∈ rtg st0 st,g'.tb t=g.tb t:=fun t ht=>by
  obtain ⟨d,hd⟩:=hi.tag t (rt ht)
  rw [hd]; exact hs.later.tb t d hd
 have nrb:∀ {b},look st.box b=none->look (rbox st0 st) b=none:=fun {b} h=>by rw [jj]; split <;> first | exact h | rfl
 have hlk:∀ b,look (jZ st0 st s0).box b=(look s0.box b).or (look (rbox st0 st) b):=fun b=>zFF _ _ _
 have hol:∀ b,zM (jZ st0 st s0).ob b=(zM s0.ob b).or (zM (rob st0 st) b):=fun b=>zB8 _ _ _
 have htg:∀ {t},t ∈ (jZ st0 st s0).tg->t ∈ s0.tg\/t ∈ rtg st0 st:=fun h=>List.mem_append.1 h
 have none_of:∀ {b},look s0.box b=none->look (rbox st0 st) b=none->look (jZ st0 st s0).box b=none:=fun {b} h1 h2=>by rw [hlk,h1,h2]; rfl
 have rbIn:∀ {b c},look (rbox st0 st) b=some c->look st.box b=some c:=fun {b c} h=>by
  rw [jj] at h; split at h <;> first | exact h | cases h
 have roIn:∀ {b c},zM (rob st0 st) b=some c->zM st.ob b=some c:=fun {b c} h=>by
  rw [kY] at h; split at h <;> first | exact h | cases h
 have no0:∀ {b},(∀ t ∈ s0.tg,∀ d,g'.tb t=some (some (b,d))->False)->(∀ t ∈ rtg st0 st,∀ d,g.tb t=some (some (b,d))->False)->∀ t ∈ (jZ st0 st s0).tg,∀ d,g'.tb t=some (some (b,d))->False:=fun {b} k1 k2 t ht d hd=>by
  rcases htg ht with ht | ht
  · exact k1 t ht d hd
  · exact k2 t ht d ((tbEq t ht).symm.trans hd)
 refine ⟨⟨hl,hs.below,fun b hb=>hs.fz b (zM2 hb),hs.wmB,rfl⟩,⟨h0.base,fun b cs k h=>?_,fun t ht=>?_,fun t ht b cap n sz hb=>?_,fun t ht t' ht' b x y h1 h2=>?_,?_,h0.fresh,fun t ht=>h0.names t (Nat.le_trans (Nat.le_max_left _ _) ht),fun b hb=>?_,fun b o fp h=>?_,fun b o fp b' o' fp' j h1 h2 h3 h4=>?_,fun t ht=>?_⟩,hl2⟩
 · rw [hlk] at h
   cases e:look s0.box b with
   | some c=>
    rw [e] at h
    injection h with h
    subst h
    obtain ⟨p1,p2,p3,p4,arr,el,us,p5,p6,p7,p8⟩:=h0.box b cs k e
    exact ⟨p1,p2,p3,p4,arr,el,us,p5,p6,zp hl2 _ _ p7,p8⟩
   | none=>
    rw [e] at h
    replace h:look (rbox st0 st) b=some (cs,k):=h
    obtain ⟨r1,r2,_⟩:=rest (.inl ⟨_,h⟩)
    obtain ⟨p1,p2,p3,p4,arr,el,us,p5,p6,p7,p8⟩:=hi.box b cs k (rbIn h)
    exact ⟨p1,r2.trans p2,p3,p4,arr,el,us,r1.trans p5,p6,zp hl _ _ p7,p8⟩
 · rcases htg ht with ht | ht
   · exact h0.tag t ht
   · obtain ⟨d,hd⟩:=hi.tag t (rt ht)
     exact ⟨d,(tbEq t ht).trans hd⟩
 · rcases htg ht with ht | ht
   · obtain ⟨p1,p2,p3,p4,p5,p6⟩:=h0.own t ht b cap n sz hb
     refine ⟨p1,p2,p3,p4,none_of p5 ?_,p6⟩
     cases e:look (rbox st0 st) b with
     | none=>rfl
     | some c=>exact ((rest (.inl ⟨c,e⟩)).2.2.2.2 t ht _ hb).elim
   · have hb':g.tb t=some (some (b,cap,n,sz)):=(tbEq t ht).symm.trans hb
     obtain ⟨r1,r2,r3,_⟩:=rest (.inr (.inl ⟨t,ht,_,hb'⟩))
     obtain ⟨p1,p2,p3,p4,p5,arr,el,p6,p7⟩:=hi.own t (rt ht) b cap n sz hb'
     exact ⟨p1,r2.trans p2,p3,p4,none_of r3 (nrb p5),arr,el,r1.trans p6,p7⟩
 · rcases htg ht with ht | ht <;> rcases htg ht' with ht' | ht'
   · exact h0.dist t ht t' ht' b x y h1 h2
   · exact ((rest (.inr (.inl ⟨t',ht',_,(tbEq t' ht').symm.trans h2⟩))).2.2.2.2 t ht _ h1).elim
   · exact ((rest (.inr (.inl ⟨t,ht,_,(tbEq t ht).symm.trans h1⟩))).2.2.2.2 t' ht' _ h2).elim
   · exact hi.dist t (rt ht) t' (rt ht') b x y ((tbEq t ht).symm.trans h1) ((tbEq t' ht').symm.trans h2)
 · refine List.nodup_append.2 ⟨h0.nodup,hi.nodup.filter _,fun a ha b hb e=>?_⟩
   subst e
   exact rn hb ha
 · replace hb:g.fr b=true:=hb
   obtain ⟨h1,h2,h3⟩:=hi.ex.frz b hb
   obtain ⟨k1,k2,k3⟩:=h0.ex.frz b (by rw [hfr]; exact zM2 hb)
   exact ⟨k1,none_of k2 (nrb h2),no0 k3 fun t ht=>h3 t (rt ht)⟩
 · rw [hol] at h
   cases e:zM s0.ob b with
   | some c=>
    rw [e] at h
    injection h with h
    subst h
    obtain ⟨k1,k2,k3⟩:=h0.ex.ob b o fp e
    refine ⟨k1.local hl2 (fun _ _=>rfl),k2,fun j hj=>?_⟩
    obtain ⟨q1,q2,q3,q4,q5,q6⟩:=k3 j hj
    rw [hfr] at q6
    obtain ⟨q7,q8⟩:=zNp q6
    refine ⟨q1,q2,q3,none_of q4 ?_,no0 q5 fun t ht d hd=>q8 (.inr (.inl ⟨t,ht,d,hd⟩)),q7⟩
    cases e2:look (rbox st0 st) j with
    | none=>rfl
    | some c=>exact absurd (.inl ⟨c,e2⟩) q8
   | none=>
    rw [e] at h
    replace h:zM (rob st0 st) b=some (o,fp):=h
    obtain ⟨k1,k2,k3⟩:=hi.ex.ob b o fp (roIn h)
    refine ⟨k1.local hl (fun j hj=>(rest (.inr (.inr ⟨b,o,fp,h,hj⟩))).1),k2,fun j hj=>?_⟩
    obtain ⟨q1,q2,q3,q4,q5,q6⟩:=k3 j hj
    obtain ⟨r1,r2,r3,_,r5⟩:=rest (.inr (.inr ⟨b,o,fp,h,hj⟩))
    exact ⟨q1,Nat.lt_of_lt_of_le q2 hs.below.size,r2.trans q3,none_of r3 (nrb q4),no0 r5 fun t ht=>q5 t (rt ht),q6⟩
 · rw [hol] at h1 h2
   cases e1:zM s0.ob b with
   | some c=>
    rw [e1] at h1
    injection h1 with h1
    subst h1
    cases e2:zM s0.ob b' with
    | some c=>
     rw [e2] at h2
     injection h2 with h2
     subst h2
     exact h0.ex.obd b o fp b' o' fp' j e1 e2 h3 h4
    | none=>
     rw [e2] at h2
     exact absurd h3 ((rest (.inr (.inr ⟨b',o',fp',h2,h4⟩))).2.2.2.1 b o fp e1)
   | none=>
    rw [e1] at h1
    cases e2:zM s0.ob b' with
    | some c=>
     rw [e2] at h2
     injection h2 with h2
     subst h2
     exact absurd h4 ((rest (.inr (.inr ⟨b,o,fp,h1,h3⟩))).2.2.2.1 b' o' fp' e2)
    | none=>
     rw [e2] at h2
     exact hi.ex.obd b o fp b' o' fp' j (roIn h1) (roIn h2) h3 h4
 · replace ht:g.fr.t t=true:=ht
   obtain ⟨h1,d,h2⟩:=hi.ex.ft t ht
   have h3:=(h0.ex.ft t (by rw [hfr]; exact frT_fr ht)).1
   exact ⟨fun hm=>(htg hm).elim h3 fun hm=>h1 (rt hm),d,hs.later.tb t d h2⟩
structure ApartS (st0 st s0:S):Prop where
 box:∀ b c,look (rbox st0 st) b=some c->look s0.box b=none
 ob:∀ b c,zM (rob st0 st) b=some c->zM s0.ob b=none
 tg:∀ t ∈ rtg st0 st,t ∉ s0.tg
theorem zOz {g':Gh} {w':World} {s0:S} (hi:Inv B g st w) (hs:Step B ⟨g.wm,g.tb,frR st0 st g⟩ w g' w') (h0:Inv B g' s0 w'):ApartS st0 st s0:=by
 have hfr:g'.fr=frR st0 st g:=hs.fr
 refine ⟨fun b c h=>?_,fun b c h=>?_,fun t ht=>?_⟩
 · exact (h0.ex.frz b (by rw [hfr]; exact zJA (.inl ⟨c,h⟩))).2.1
 · cases e:zM s0.ob b with
   | none=>rfl
   | some x=>
    obtain ⟨o,fp⟩:=x
    obtain ⟨o',fp'⟩:=c
    obtain ⟨_,k2,k3⟩:=h0.ex.ob b o fp e
    have h1:=(k3 b k2).2.2.2.2.2
    have h2:zM st.ob b=some (o',fp'):=by rw [kY] at h; split at h <;> first | exact h | cases h
    rw [hfr,zJA (.inr (.inr ⟨b,o',fp',h,(hi.ex.ob b o' fp' h2).2.1⟩))] at h1
    cases h1
 · exact (h0.ex.ft t (by rw [hfr]; exact zNx ht)).1
theorem zHu {f:FuncId} {args:List V} {Q:Outc->S->Prop} (h:FnC P f args st0 Q) (hp:PartS st0 st):FnC P f args st fun oc s=>∃ s0,Q oc s0/\s=jZ st0 st s0/\ApartS st0 st s0:=by
 intro B g w vs hi hgl hv
 refine (h B ⟨g.wm,g.tb,frR st0 st g⟩ w vs (zOX hi hp) hgl (hv.later (zES g _ w))).mono ?_
 rintro e w' ⟨g',s0,h1,h2,h3⟩
 obtain ⟨k1,k2,k3⟩:=zOl hi hp h1 h2
 have ha:=zOz hi h1 h2
 refine ⟨_,jZ st0 st s0,k1,k2,?_⟩
 cases e with
 | returned v=>
  obtain ⟨r,h4,h5⟩:=h3
  exact ⟨r,h4.later k3,s0,h5,rfl,ha⟩
 | panicked c=>exact ⟨s0,h3,rfl,ha⟩
 | outgrown=>exact h3.elim
theorem zCf (st0 st s0:S) (b:Nat):look (jZ st0 st s0).box b=(look s0.box b).or (look (rbox st0 st) b):=zFF _ _ _
theorem zDb (st0 st s0:S) (b:Nat):zM (jZ st0 st s0).ob b=(zM s0.ob b).or (zM (rob st0 st) b):=zB8 _ _ _
end
section
variable {P:Program} {X:Cx} {Q:Exit->Env->S->Prop} {e:Env} {st:S}
theorem kD {P:Program} {b:Frame} {a:Act} {k:List Item} {cs:List Frame} {w:World} {c:Code}:step P (lone (b.atR a (.code (.scope c)::k)) cs w) = .next (lone (b.atR a (.code c :: .inScope c::k)) cs w):=
 step_lone_go (by simp [stepG,stepG.exec,Frame.atR])
theorem zH2 {P:Program} {b:Frame} {a:Act} {k:List Item} {cs:List Frame} {w:World} {c:Code}:step P (lone (b.atR a (.inScope c::k)) cs w) = .next (lone (b.atR a k) cs w):=
 step_lone_go (by simp [stepG,stepG.exec,Frame.atR])
theorem zMQ {P:Program} {F:Fence} {n:Nat} {Q:Exit->Act->World->Prop} {a:Act} {w:World} {c:Code} (h:c.wpIn F n P (Exit.noGoto Q) a w):(Code.scope c).wpIn F n P Q a w:=by
 intro b k cs hro hb hr
 have h0:(lone (b.atR a (.code (.scope c)::k)) cs w).fenced P F:=fenced_calm hb hr rfl
 obtain ⟨e,a₁,w₁,hq,harr⟩:=h b (.inScope c::k) cs hro hb hr
 cases e with
 | normal=>exact ⟨.normal,a₁,w₁,hq,.head h0 kD (StepsIn.trans harr (.one (fenced_calm hb hr rfl) zH2))⟩
 | exit id'=>
  have hx:exitTo id' (.inScope c::k)=exitTo id' k:=by simp [exitTo]
  exact ⟨.exit id',a₁,w₁,hq,fun k' hk=>.head h0 kD (harr.1 k' (by rw [hx]; exact hk)),
   fun hr' hk=>let ⟨k₁,h1,h2⟩:=harr.2 hr' (by rw [hx]; exact hk); ⟨k₁,h1,.head h0 kD h2⟩⟩
 | goto l=>exact hq.elim
 | ret=>exact ⟨_,a₁,w₁,hq,.of_steps (.one h0 kD) harr⟩
 | panic ch=>exact ⟨_,a₁,w₁,hq,.of_steps (.one h0 kD) harr⟩
 | outgrown=>exact ⟨_,a₁,w₁,hq,.of_steps (.one h0 kD) harr⟩
def zP2 (Q:Exit->Env->S->Prop):Exit->Env->S->Prop
 | .goto _,_,_=>False
 | x,e,st=>Q x e st
theorem zM6 {c:Code} (h:awp P X c (zP2 Q) e st):awp P X (.scope c) Q e st:=by
 intro g a w hr
 refine zMQ (wpIn_mono (h g a w hr) ?_)
 rintro ex a' w' ⟨g',e',st',h1,h2,h3⟩
 cases ex with
 | goto l=>exact h3.elim
 | normal=>exact ⟨g',e',st',h1,h2,h3⟩
 | exit id=>exact ⟨g',e',st',h1,h2,h3⟩
 | ret=>exact ⟨g',e',st',h1,h2,h3⟩
 | panic c=>exact ⟨g',e',st',h1,h2,h3⟩
 | outgrown=>exact ⟨g',e',st',h1,h2,h3⟩
theorem zMk {l:Nat} (h:Q .normal e st):awp P X (.label l) Q e st:=fun g a w hr=>wpIn_label ⟨g,e,st,.refl _ _ _,hr,h⟩
end
end
end Go.Al
section
namespace Go.Den
open Go.Al
structure TyU where
 I:Type
 den:I->Type
 [deq:DecidableEq I]
attribute [instance] TyU.deq
inductive TM where
 | b (n:Bool)
 | dl
 | ow (t:Nat) (nb:Bool)
inductive T (U:TyU):Type where
 | any
 | int (k:IntKind) (n:Int)
 | bool (b:Bool)
 | str (s:List UInt8)
 | con (v:Value)
 | nil
 | agg (fs:List (T U))
 | tup (vs:List (T U))
 | lst (m:TM) (i:U.I) (xs:List (U.den i))
 | rptr (x:T U)
 | ptr (l:Nat) (o:Nat)
 | ptrE (l:Nat) (k:Nat) (o:Nat)
 | sl (l:Nat) (n:Nat)
 | clo (fn:Fn) (caps:List (T U))
 | ifx
 | hd (l:Nat)
 | sr (l:Nat)
instance {U:TyU}:Inhabited (T U):=⟨.any⟩
structure Cod (U:TyU) where
 enc:(i:U.I)->U.den i->T U
 encV:(i:U.I)->U.den i->V
 dec:(i:U.I)->{R:Type}->T U->(U.den i->Option R)->Option R
 dflt:(i:U.I)->U.den i
 cells:U.I->Nat
 agg:U.I->Bool
 plain:U.I->Bool
structure NM where
 bl:Nat->Nat
 cp:Nat->Nat
 sz:Nat->Nat
 tk:Nat->Nat
section
variable {U:TyU} (C:Cod U)
def trM (N:NM) (sz:Nat) (es:List V):TM->Tag
 | .b n=>if n then .nil else .no
 | .dl=>zk es
 | .ow t nb=>.own (N.tk t) nb sz
mutual
def trT (N:NM):T U->V
 | .any=>.any
 | .int k n=>.at (.int k n)
 | .bool b=>.at (.bool b)
 | .str s=>.at (.string ⟨s.toArray⟩)
 | .con v=>.at v
 | .nil=>.lst .nil []
 | .agg fs=>.agg (trTs N fs)
 | .tup vs=>.tup (trTs N vs)
 | .lst m i xs=>.lst (trM N (C.cells i) (xs.map (C.encV i)) m) (xs.map (C.encV i))
 | .rptr x=>.rptr (trT N x)
 | .ptr l o=>.at (.pointer (some ⟨N.bl l,o,none⟩))
 | .ptrE l k o=>.at (.pointer (some ⟨N.bl l,k * N.sz l+o,none⟩))
 | .sl l n=>.at (.slice (some ⟨N.bl l,0,none⟩) n (N.cp l))
 | .clo fn caps=>.clo fn (trTs N caps)
 | .ifx=>.ifx
 | .hd l=>.at (.map (if N.cp l=0 then none else some (N.bl l)))
 | .sr l=>.at (.slice (some ⟨N.bl l,0,none⟩) (N.sz l) (N.cp l))
def trTs (N:NM):List (T U)->List V
 | []=>[]
 | x::xs=>trT N x::trTs N xs
end
theorem yu (N:NM):∀ l:List (T U),trTs C N l=l.map (trT C N)
 | []=>rfl
 | x::r=>by simp [trTs,yu N r]
mutual
/-- Places and tokens that it names are there. -/
def bdd (nl nx:Nat):T U->Bool
 | .ptr l _=>Nat.blt l nl
 | .ptrE l _ _=>Nat.blt l nl
 | .sl l _=>Nat.blt l nl
 | .hd l=>Nat.blt l nl
 | .sr l=>Nat.blt l nl
 | .lst m _ _=>(match m with | .ow t _=>Nat.blt t nx | _=>true)
 | .agg fs=>bdds nl nx fs
 | .tup fs=>bdds nl nx fs
 | .rptr x=>bdd nl nx x
 | .clo _ fs=>bdds nl nx fs
 | _=>true
def bdds (nl nx:Nat):List (T U)->Bool
 | []=>true
 | x::xs=>bdd nl nx x && bdds nl nx xs
end
structure Ext (nl nx:Nat) (N N':NM):Prop where
 bl:∀ l,l < nl->N'.bl l=N.bl l
 cp:∀ l,l < nl->N'.cp l=N.cp l
 sz:∀ l,l < nl->N'.sz l=N.sz l
 tk:∀ t,t < nx->N'.tk t=N.tk t
theorem Ext.refl (nl nx:Nat) (N:NM):Ext nl nx N N:=⟨fun _ _=>rfl,fun _ _=>rfl,fun _ _=>rfl,fun _ _=>rfl⟩
theorem Ext.trans {nl nx nl' nx':Nat} {N N1 N2:NM} (h:Ext nl nx N N1) (h':Ext nl' nx' N1 N2) (h1:nl<=nl') (h2:nx<=nx'):Ext nl nx N N2:=
 ⟨fun l hl=>(h'.bl l (by omega)).trans (h.bl l hl),fun l hl=>(h'.cp l (by omega)).trans (h.cp l hl),fun l hl=>(h'.sz l (by omega)).trans (h.sz l hl),fun l hl=>(h'.tk l (by omega)).trans (h.tk l hl)⟩
theorem Ext.less {nl nx nl' nx':Nat} {N N':NM} (h:Ext nl nx N N') (h1:nl'<=nl) (h2:nx'<=nx):Ext nl' nx' N N':=
 ⟨fun l hl=>h.bl l (by omega),fun l hl=>h.cp l (by omega),fun l hl=>h.sz l (by omega),fun l hl=>h.tk l (by omega)⟩
theorem xo {a b:Nat} (h:Nat.blt a b=true):a < b:=by simpa [Nat.blt_eq] using h
mutual
theorem zBv {nl nx:Nat} {N N':NM} (h:Ext nl nx N N'):∀ x:T U,bdd nl nx x=true->trT C N' x=trT C N x
 | .any,_=>rfl
 | .ifx,_=>rfl
 | .int _ _,_=>rfl
 | .bool _,_=>rfl
 | .str _,_=>rfl
 | .con _,_=>rfl
 | .nil,_=>rfl
 | .agg fs,hb=>by simp only [trT]; rw [zCB h fs (by simpa only [bdd] using hb)]
 | .tup fs,hb=>by simp only [trT]; rw [zCB h fs (by simpa only [bdd] using hb)]
 | .lst m i xs,hb=>by
  simp only [trT]
  cases m with
  | b n=>rfl
  | dl=>rfl
  | ow t nb=>
   simp only [bdd] at hb
   simp only [trM,h.tk t (xo hb)]
 | .rptr x,hb=>by simp only [trT]; rw [zBv h x (by simpa only [bdd] using hb)]
 | .ptr l o,hb=>by simp only [bdd] at hb; simp only [trT,h.bl l (xo hb)]
 | .ptrE l k o,hb=>by simp only [bdd] at hb; simp only [trT,h.bl l (xo hb),h.sz l (xo hb)]
 | .sl l n,hb=>by simp only [bdd] at hb; simp only [trT,h.bl l (xo hb),h.cp l (xo hb)]
 | .hd l,hb=>by simp only [bdd] at hb; simp only [trT,h.bl l (xo hb),h.cp l (xo hb)]
 | .sr l,hb=>by simp only [bdd] at hb; simp only [trT,h.bl l (xo hb),h.cp l (xo hb),h.sz l (xo hb)]
 | .clo fn fs,hb=>by simp only [trT]; rw [zCB h fs (by simpa only [bdd] using hb)]
theorem zCB {nl nx:Nat} {N N':NM} (h:Ext nl nx N N'):∀ xs:List (T U),bdds nl nx xs=true->trTs C N' xs=trTs C N xs
 | [],_=>rfl
 | x::xs,hb=>by
  simp only [bdds,Bool.and_eq_true] at hb
  simp only [trTs]
  rw [zBv h x hb.1,zCB h xs hb.2]
end
theorem zA5 {a b c:Nat} (h:Nat.blt a b=true) (hb:b<=c):Nat.blt a c=true:=by
 have:=xo h
 simp [Nat.blt_eq]; omega
mutual
theorem zBH {nl nx nl' nx':Nat} (h1:nl<=nl') (h2:nx<=nx'):∀ x:T U,bdd nl nx x=true->bdd nl' nx' x=true
 | .any,_=>rfl
 | .ifx,_=>rfl
 | .int _ _,_=>rfl
 | .bool _,_=>rfl
 | .str _,_=>rfl
 | .con _,_=>rfl
 | .nil,_=>rfl
 | .agg fs,hb=>by simp only [bdd] at hb ⊢; exact xc h1 h2 fs hb
 | .tup fs,hb=>by simp only [bdd] at hb ⊢; exact xc h1 h2 fs hb
 | .lst m i xs,hb=>by
  cases m with
  | b n=>rfl
  | dl=>rfl
  | ow t nb=>simp only [bdd] at hb ⊢; exact zA5 hb h2
 | .rptr x,hb=>by simp only [bdd] at hb ⊢; exact zBH h1 h2 x hb
 | .ptr l o,hb=>by simp only [bdd] at hb ⊢; exact zA5 hb h1
 | .ptrE l k o,hb=>by simp only [bdd] at hb ⊢; exact zA5 hb h1
 | .sl l n,hb=>by simp only [bdd] at hb ⊢; exact zA5 hb h1
 | .hd l,hb=>by simp only [bdd] at hb ⊢; exact zA5 hb h1
 | .sr l,hb=>by simp only [bdd] at hb ⊢; exact zA5 hb h1
 | .clo fn fs,hb=>by simp only [bdd] at hb ⊢; exact xc h1 h2 fs hb
theorem xc {nl nx nl' nx':Nat} (h1:nl<=nl') (h2:nx<=nx'):∀ xs:List (T U),bdds nl nx xs=true->bdds nl' nx' xs=true
 | [],_=>rfl
 | x::xs,hb=>by
  simp only [bdds,Bool.and_eq_true] at hb ⊢
  exact ⟨zBH h1 h2 x hb.1,xc h1 h2 xs hb.2⟩
end
structure CodOk:Prop where
 enc:∀ N i x,trT C N (C.enc i x)=C.encV i x
 bd:∀ i x,bdd 0 0 (C.enc i x)=true
 dec:∀ i {R:Type} v (k:U.den i->Option R) r,C.dec i v k=some r->∃ x,k x=some r/\∀ N,(trT C N v).untag=C.encV i x
 decP:∀ i {R:Type} v (k:U.den i->Option R) r,C.plain i=true->C.dec i v k=some r->∃ x,k x=some r/\∀ N,trT C N v=C.encV i x
 size:∀ i x,(C.encV i x).size=C.cells i
 isAgg:∀ i x,(C.encV i x).isAgg=C.agg i
 ones:∀ i x,zK (C.encV i x).flat
 untag:∀ i x,(C.encV i x).untag=C.encV i x
 one:∀ i,C.agg i=false->C.cells i=1
 pos:∀ i,0 < C.cells i
def T.flat:T U->List (T U)
 | .agg fs=>fs
 | x=>[x]
def T.isOne:T U->Bool
 | .any | .agg _ | .tup _=>false
 | _=>true
def yJ (l:List (T U)):Bool:=l.all T.isOne
theorem qf (N:NM) (x:T U):(trT C N x).flat=x.flat.map (trT C N):=by
 cases x <;> simp [T.flat,trT,V.flat,yu]
theorem zJn (N:NM) (x:T U):(trT C N x).isOne=x.isOne:=by
 cases x <;> rfl
theorem xD (N:NM) (l:List (T U)):zK (l.map (trT C N))↔yJ l=true:=by
 unfold zK yJ
 rw [List.all_map]
 have:(V.isOne ∘ trT C N)=T.isOne:=funext fun x=>zJn C N x
 rw [this]
theorem zKF (N:NM) (x:T U):(trT C N x).isAgg=(match x with | .agg _=>true | _=>false):=by
 cases x <;> rfl
def cT1:Value->T U
 | .slice none 0 0=>.nil
 | .agg _=>.any
 | .tuple _=>.any
 | .int k n=>.int k n
 | .bool b=>.bool b
 | .string s=>.str s.data.toList
 | v=>.con v
def cT:Value->T U
 | .agg cs=>if cs.toList.all one then .agg (cs.toList.map cT1) else .any
 | v=>cT1 v
theorem zIl (N:NM) (v:Value):trT C N (cT1 v)=cV1 v:=by
 unfold cT1
 split <;> simp [trT,cV1]
theorem cT_tr (N:NM) (v:Value):trT C N (cT v)=cV v:=by
 unfold cT cV
 cases v <;> simp only [zIl]
 split
 · simp only [trT,yu,List.map_map]
   congr 1
   exact List.map_congr_left fun v _=>zIl C N v
 · rfl
end
open Go.Al
structure TD (U:TyU) where
 has:Bool:=false
 agg:Bool:=false
 cells:Nat:=0
 bytes:Nat:=0
 el:Option TypeId:=none
 code:Option U.I:=none
 flds:List (Nat×TypeId):=[]
 isStruct:Bool:=false
 isStr:Bool:=false
 isBool:Bool:=false
 isIfc:Bool:=false
 ik:Option IntKind:=none
 zero:Option (List (T U)):=none
 arr:Option (Nat×U.I):=none
def zDH (P:Program) (t:TypeId):List (Nat×TypeId):=match P.underlying t with | some (.struct fs)=>fs.toList.map fun f=>(f.offset,f.type) | _=>[]
theorem zDW (P:Program) (t:TypeId) (i:Nat):fieldAt P t i=(zDH P t)[i]?:=by
 unfold fieldAt zDH
 cases P.underlying t with
 | none=>rfl
 | some d=>cases d <;> simp
structure Facts {U:TyU} (C:Cod U) (P:Program) (t:TypeId) (d:TD U):Prop where
 has:hasT P t=true
 agg:xN P t=d.agg
 cells:P.cellsOf t=d.cells
 bytes:P.bytesOf t=d.bytes
 el:elT P t=d.el
 flds:zDH P t=d.flds
 isStruct:zBb P t=d.isStruct
 isStr:kZ P t=d.isStr
 isBool:zEz P t=d.isBool
 isIfc:zD8 P t=d.isIfc
 ik:intT P t=d.ik
 zero:∀ N,yZ P t=d.zero.map fun l=>l.map (trT C N)
 code:∀ i,d.code=some i->C.cells i=d.cells/\C.agg i=d.agg
 arr:∀ n i,d.arr=some (n,i)->arrT P t=some n
inductive Bx (U:TyU) where
 | st (cs:List (T U))
 | ar (i:U.I) (xs:List (U.den i))
abbrev MT:=List (List UInt8×Int)
inductive TO where
 | mp (c:MT)
 | sc (xs:List MT)
structure St (U:TyU) where
 bx:List (Nat×Option (Bx U))
 tg:List Nat
 nl:Nat
 nx:Nat
 ob:List (Nat×Option TO)
abbrev En (U:TyU):=List (Nat×T U)
section
variable {U:TyU}
def lk:List (Nat×Option (Bx U))->Nat->Option (Bx U)
 | [],_=>none
 | (k,b)::r,l=>bif Nat.beq k l then b else lk r l
def lko:List (Nat×Option TO)->Nat->Option TO
 | [],_=>none
 | (k,b)::r,l=>bif Nat.beq k l then b else lko r l
def eget:En U->Nat->T U
 | [],_=>.any
 | (k,x)::r,j=>bif Nat.beq k j then x else eget r j
def eput (e:En U):Option Nat->T U->En U
 | none,_=>e
 | some d,x=>(d,x)::e
def gT (g:Nat):T U:=match zEm zEn g with | some us=>.rptr (.agg (us.map cT1)) | none=>.con (.pointer (some ⟨g,0,none⟩))
def evT (e:En U):Operand->T U
 | .tmp t=>eget e t
 | .const v=>cT v
 | .global g=>gT g
 | .func f=>.clo (.func f) []
def hasN:List Nat->Nat->Bool
 | [],_=>false
 | k::r,t=>bif Nat.beq k t then true else hasN r t
def rmN:List Nat->Nat->List Nat
 | [],_=>[]
 | k::r,t=>bif Nat.beq k t then rmN r t else k::rmN r t
def fe {R:Type} (x:T U) (k:T U->Option R):Option R:=
 match x with
 | .any=>k .any
 | .int a b=>k (.int a b)
 | .bool b=>k (.bool b)
 | .str s=>k (.str s)
 | .con v=>k (.con v)
 | .nil=>k .nil
 | .agg fs=>k (.agg fs)
 | .tup vs=>k (.tup vs)
 | .lst m i xs=>k (.lst m i xs)
 | .rptr x=>k (.rptr x)
 | .ptr l o=>k (.ptr l o)
 | .ptrE l a o=>k (.ptrE l a o)
 | .sl l n=>k (.sl l n)
 | .clo fn caps=>k (.clo fn caps)
 | .ifx=>k .ifx
 | .hd l=>k (.hd l)
 | .sr l=>k (.sr l)
theorem zCW {R:Type} (x:T U) (k:T U->Option R):fe x k=k x:=by cases x <;> rfl
def feL {R:Type}:List (T U)->(List (T U)->Option R)->Option R
 | [],k=>k []
 | x::xs,k=>feL xs fun ys=>k (x::ys)
theorem zAx {R:Type}:∀ (l:List (T U)) (k:List (T U)->Option R),feL l k=k l
 | [],_=>rfl
 | x::xs,k=>by simp [feL,zAx xs]
def fN {R:Type} (n:Nat) (k:Nat->Option R):Option R:=
 match n with
 | 0=>k 0
 | m+1=>k (Nat.succ m)
theorem zIJ {R:Type} (n:Nat) (k:Nat->Option R):fN n k=k n:=by cases n <;> rfl
def feB {R:Type}:List (Nat×Option (Bx U))->(List (Nat×Option (Bx U))->Option R)->Option R
 | [],k=>k []
 | p::r,k=>match p with | (l,b)=>fN l fun l=>feB r fun r'=>k ((l,b)::r')
theorem zNa {R:Type}:∀ (l:List (Nat×Option (Bx U))) (k:List (Nat×Option (Bx U))->Option R),feB l k=k l
 | [],_=>rfl
 | (l,b)::r,k=>by simp only [feB,zIJ,zNa r]
def feO {R:Type}:List (Nat×Option TO)->(List (Nat×Option TO)->Option R)->Option R
 | [],k=>k []
 | p::r,k=>match p with | (l,b)=>fN l fun l=>feO r fun r'=>k ((l,b)::r')
theorem zN4 {R:Type}:∀ (l:List (Nat×Option TO)) (k:List (Nat×Option TO)->Option R),feO l k=k l
 | [],_=>rfl
 | (l,b)::r,k=>by simp only [feO,zIJ,zN4 r]
def feS {R:Type} (st:St U) (k:St U->Option R):Option R:=
 match st with
 | ⟨bx,tg,nl,nx,ob⟩=>fN nl fun nl=>fN nx fun nx=>feB bx fun bx=>feO ob fun ob=>k ⟨bx,tg,nl,nx,ob⟩
theorem qx {R:Type} (st:St U) (k:St U->Option R):feS st k=k st:=by
 cases st; simp only [feS,zIJ,zNa,zN4]
def zGk {R:Type} (e:En U) (d:Option Nat) (x:T U) (k:En U->Option R):Option R:=
 match d with
 | none=>k e
 | some d=>k ((d,x)::e)
theorem zFZ {R:Type} (e:En U) (d:Option Nat) (x:T U) (k:En U->Option R):zGk e d x k=k (eput e d x):=by cases d <;> rfl
def feA {R:Type}:List (T U)->(List (T U)->Option R)->Option R
 | [],k=>k []
 | x::xs,k=>fe x fun x=>feA xs fun ys=>k (x::ys)
theorem zB7 {R:Type}:∀ (l:List (T U)) (k:List (T U)->Option R),feA l k=k l
 | [],_=>rfl
 | x::xs,k=>by simp only [feA,zCW,zB7 xs]
def feP {R:Type}:List (Nat×T U)->(List (Nat×T U)->Option R)->Option R
 | [],k=>k []
 | p::xs,k=>match p with | (i,x)=>fe x fun x=>feP xs fun ys=>k ((i,x)::ys)
theorem zJP {R:Type}:∀ (l:List (Nat×T U)) (k:List (Nat×T U)->Option R),feP l k=k l
 | [],_=>rfl
 | (i,x)::xs,k=>by simp only [feP,zCW,zJP xs]
def inB (n:Int) (len:Nat):Bool:=decide (0<=n) && decide (n < (len:Int))
def inS (l h:Int) (len:Nat):Bool:=decide (0<=l) && decide (l<=h) && decide (h<=(len:Int))
def okN (b n:Nat):Bool:=decide (n * b<=140737488355328) && decide (n<=maxLen)
def iadd (k:IntKind) (a b:Int):Int:=k.wrap (a+b)
def isub (k:IntKind) (a b:Int):Int:=k.wrap (a - b)
def imul (k:IntKind) (a b:Int):Int:=k.wrap (a * b)
def iquo (k:IntKind) (a b:Int):Int:=k.wrap (a.tdiv b)
def iwrap (k:IntKind) (a:Int):Int:=k.wrap a
def irem (a b:Int):Int:=a.tmod b
def ieq (a b:Int):Bool:=a == b
def ine (a b:Int):Bool:=a != b
def ilt (a b:Int):Bool:=decide (a < b)
def ile (a b:Int):Bool:=decide (a<=b)
def imax (a b:Int):Int:=if b > a then b else a
def seq (a b:List UInt8):Bool:=a == b
def beqB (a b:Bool):Bool:=a == b
def okS (n:Nat):Bool:=Nat.ble n 9223372036854775807
theorem okS_le {n:Nat} (h:okS n=true):(n:Int)<=IntKind.i64.max:=by
 have h1:n<=9223372036854775807:=Nat.le_of_ble_eq_true h
 have h2:IntKind.i64.max=9223372036854775807:=by decide
 omega
def zEQ (s:List UInt8) (n:Int):Int:=((s.getD n.toNat 0).toNat:Int)
def cutL {α:Type} (xs:List α) (l h:Int):List α:=(xs.take h.toNat).drop l.toNat
def lenI {α:Type} (xs:List α):Int:=(xs.length:Int)
section ops
variable {R:Type} (C:Cod U) (Tb:TypeId->TD U)
def zL5 (c a b:T U) (k:T U->Option R):Option R:=
 match c with
 | .bool t=>bif t then k a else k b
 | _=>none
def dInt (op:BinOp) (kk:IntKind) (a b:Int) (k:T U->Option R):Option R:=
 match op with
 | .add=>k (.int kk (iadd kk a b))
 | .sub=>k (.int kk (isub kk a b))
 | .mul=>k (.int kk (imul kk a b))
 | .quo=>bif ine b 0 then k (.int kk (iquo kk a b)) else none
 | .rem=>bif ine b 0 then k (.int kk (irem a b)) else none
 | .eql=>k (.bool (ieq a b))
 | .neq=>k (.bool (ine a b))
 | .lss=>k (.bool (ilt a b))
 | .leq=>k (.bool (ile a b))
 | .gtr=>k (.bool (ilt b a))
 | .geq=>k (.bool (ile b a))
 | _=>none
def dStr (op:BinOp) (a b:List UInt8) (k:T U->Option R):Option R:=
 match op with
 | .add=>bif okS (a.length+b.length) then k (.str (a++b)) else none
 | .eql=>k (.bool (seq a b))
 | .neq=>k (.bool (!(seq a b)))
 | _=>none
def zMP (op:BinOp) (a b:Bool) (k:T U->Option R):Option R:=
 match op with
 | .eql=>k (.bool (beqB a b))
 | .neq=>k (.bool (!(beqB a b)))
 | _=>none
def nilT {α:Type}:TM->List α->Bool
 | .b n,_=>n
 | .dl,xs=>xs.isEmpty
 | .ow _ nb,xs=>nb && xs.isEmpty
def dNil (op:BinOp) (b:Bool) (k:T U->Option R):Option R:=
 match op with
 | .eql=>k (.bool b)
 | .neq=>k (.bool (!b))
 | _=>none
def zC5:Value->Bool
 | .nilIface=>true
 | _=>false
def dBin (op:BinOp) (t:TypeId) (c:Bool) (x y:T U) (k:T U->Option R):Option R:=
 match x with
 | .int ka a=>(match y with | .int kb b=>bif decide (ka=kb) then dInt op ka a b k else none | _=>none)
 | .bool a=>(match y with | .bool b=>bif (Tb t).isBool && (Tb t).has then zMP op a b k else none | _=>none)
 | .str a=>(match y with | .str b=>dStr op a b k | _=>none)
 | .lst m i xs=>(match y with | .nil=>bif (Tb t).el.isSome && (Tb t).has then dNil op (nilT m xs) k else none | _=>none)
 | .nil=>(match y with | .nil=>bif (Tb t).el.isSome && (Tb t).has then dNil op true k else none | _=>none)
 | .ifx=>(match y with | .con v=>bif zC5 v && (Tb t).isIfc && (Tb t).has then dNil op false k else none | _=>none)
 | .con u=>(match y with | .con v=>bif zC5 u && zC5 v && (Tb t).isIfc && (Tb t).has && c then dNil op true k else none | _=>none)
 | _=>none
def zMD (f t:TypeId) (x:T U) (k:T U->Option R):Option R:=
 match x with
 | .int _ n=>(match (Tb t).ik with | some kk=>bif (Tb t).has && (Tb f).has then k (.int kk (iwrap kk n)) else none | none=>none)
 | .str s=>bif (Tb t).has && (Tb f).has && (Tb t).isStr && (Tb f).isStr then k (.str s) else none
 | _=>none
def dUn (op:UnOp) (x:T U) (k:T U->Option R):Option R:=
 match x with
 | .bool b=>(match op with | .not=>k (.bool !b) | _=>none)
 | .int kk n=>(match op with | .neg=>k (.int kk (isub kk 0 n)) | _=>none)
 | _=>none
def zFi (x:T U) (i:Nat) (k:T U->Option R):Option R:=
 match x with
 | .tup vs=>bif Nat.blt i vs.length then k (vs.getD i .any) else none
 | _=>none
def zDa (fs:List (T U)) (off:Nat) (d:TD U) (k:T U->Option R):Option R:=
 bif d.has && Nat.ble (off+d.cells) fs.length && (d.agg || Nat.beq d.cells 1) then
  bif d.agg then feL ((fs.drop off).take d.cells) fun l=>k (.agg l) else k (fs.getD off .any)
 else none
def zJH (t:TypeId) (x:T U) (f:Nat) (k:T U->Option R):Option R:=
 match x with
 | .agg fs=>(match (Tb t).flds[f]? with
  | some p=>bif (Tb t).has && yJ fs then zDa fs p.1 (Tb p.2) k else none
  | none=>none)
 | _=>none
def zDI (t:TypeId) (x:T U) (f:Nat) (k:T U->Option R):Option R:=
 match (Tb t).flds[f]? with
 | none=>none
 | some p=>
  bif (Tb t).has && (Tb p.2).has && Nat.blt 0 (Tb p.2).cells then
   match x with
   | .rptr y=>(match y with
    | .agg fs=>bif yJ fs then zDa fs p.1 (Tb p.2) fun v=>k (.rptr v) else none
    | _=>none)
   | .ptr l o=>k (.ptr l (o+p.1))
   | .ptrE l a o=>k (.ptrE l a (o+p.1))
   | _=>none
  else none
def zCU (t:TypeId) (k:U.I->TypeId->TD U->Option R):Option R:=
 match (Tb t).el with
 | none=>none
 | some el=>bif (Tb t).has && (Tb el).has then (match (Tb el).code with | some i=>k i el (Tb el) | none=>none) else none
def zDr (st:St U) (t:TypeId) (x n:T U) (k:T U->Option R):Option R:=
 zCU Tb t fun i _ _=>
 match n with
 | .int _ n=>
  (match x with
  | .lst _ j xs=>bif decide (j=i) && inB n xs.length then k (.rptr (C.enc j (xs.getD n.toNat (C.dflt j)))) else none
  | .sl l m=>(match lk st.bx l with
   | some (.ar j _)=>bif decide (j=i) && inB n m then k (.ptrE l n.toNat 0) else none
   | _=>none)
  | _=>none)
 | _=>none
def zIV (i:U.I):List (T U)->(List (U.den i)->Option R)->Option R
 | [],k=>k []
 | x::r,k=>C.dec i x fun y=>zIV i r fun ys=>k (y::ys)
def zIa (t:TypeId) (x n:T U) (k:T U->Option R):Option R:=
 match x with
 | .str s=>(match n with
  | .int _ n=>bif (Tb t).has && (Tb t).isStr && inB n s.length then k (.int .u8 (zEQ s n)) else none
  | _=>none)
 | .agg fs=>(match n with
  | .int _ n=>(match (Tb t).arr with
   | some (m,i)=>bif (Tb t).has && C.plain i && !C.agg i && yJ fs && Nat.beq m fs.length && inB n fs.length then zIV C i fs fun xs=>k (C.enc i (xs.getD n.toNat (C.dflt i))) else none
   | none=>none)
  | _=>none)
 | _=>none
def zLe (d:TD U) (y:T U):Bool:=
 match y with
 | .agg fs=>d.has && d.agg && yJ fs && Nat.beq fs.length d.cells
 | x=>d.has && !d.agg && x.isOne && Nat.beq d.cells 1
def zIT (st:St U) (t:TypeId) (x:T U) (k:T U->Option R):Option R:=
 match x with
 | .rptr y=>bif zLe (Tb t) y then k y else none
 | .ptr l o=>(match lk st.bx l with
  | some (.st cs)=>zDa cs o (Tb t) k
  | _=>none)
 | .ptrE l a o=>(match lk st.bx l with
  | some (.ar i xs)=>bif Nat.ble (o+(Tb t).cells) (C.cells i) && Nat.blt a xs.length then feL (C.enc i (xs.getD a (C.dflt i))).flat fun l=>zDa l o (Tb t) k else none
  | _=>none)
 | _=>none
def splT (cs:List (T U)) (o:Nat) (xs:List (T U)):List (T U):=cs.take o++xs++cs.drop (o+xs.length)
def asEl (a:Bool) (l:List (T U)):T U:=bif a then .agg l else l.headD .any
def zKA (st:St U) (t:TypeId) (x y:T U) (k:St U->Option R):Option R:=
 feL y.flat fun yf=>
 bif (Tb t).has && Nat.beq yf.length (Tb t).cells && yJ yf then
  match x with
  | .ptr l o=>(match lk st.bx l with
   | some (.st cs)=>bif Nat.ble (o+yf.length) cs.length && bdds st.nl st.nx yf then
    feL (splT cs o yf) fun cs'=>k ⟨(l,some (.st cs'))::st.bx,st.tg,st.nl,st.nx,st.ob⟩ else none
   | _=>none)
  | .ptrE l a o=>(match lk st.bx l with
   | some (.ar i xs)=>bif C.plain i && Nat.ble (o+yf.length) (C.cells i) && Nat.blt a xs.length then
    C.dec i (asEl (C.agg i) (splT (C.enc i (xs.getD a (C.dflt i))).flat o yf)) fun x'=>k ⟨(l,some (.ar i (xs.set a x')))::st.bx,st.tg,st.nl,st.nx,st.ob⟩ else none
   | _=>none)
  | _=>none
 else none
def dNew (st:St U) (cs:List (T U)) (k:T U->St U->Option R):Option R:=
 bif yJ cs && bdds st.nl st.nx cs then k (.ptr st.nl 0) ⟨(st.nl,some (.st cs))::st.bx,st.tg,st.nl+1,st.nx,st.ob⟩ else none
def zNM (st:St U) (t:TypeId) (k:T U->St U->Option R):Option R:=
 bif (Tb t).has then (match (Tb t).zero with | some cs=>dNew st cs k | none=>none) else none
def zIS (flds:List (Nat×TypeId)):List (T U)->List (Nat×T U)->(List (T U)->Option R)->Option R
 | cells,[],k=>k cells
 | cells,(i,x)::rest,k=>
  match flds[i]? with
  | none=>none
  | some p=>bif (Tb p.2).has && Nat.beq x.flat.length (Tb p.2).cells && Nat.ble (p.1+(Tb p.2).cells) cells.length && yJ x.flat then
   feL (splT cells p.1 x.flat) fun cells'=>zIS flds cells' rest k else none
def zIr (t:TypeId) (parts:List (Nat×T U)) (k:T U->Option R):Option R:=
 bif (Tb t).has && (Tb t).isStruct then
  (match (Tb t).zero with
  | some cs=>zIS Tb (Tb t).flds cs parts fun l=>k (.agg l)
  | none=>none) else none
def zGS (i:U.I):List (Nat×T U)->(List (U.den i)->Option R)->Option R
 | [],k=>k []
 | p::r,k=>C.dec i p.2 fun x=>zGS i r fun xs=>k (x::xs)
def zIU:Nat->List (Nat×T U)->Bool
 | _,[]=>true
 | n,(i,_)::r=>Nat.beq i n && zIU (n+1) r
def zBq:List (Nat×T U)->Bool
 | []=>true
 | p::r=>yJ p.2.flat && zBq r
def wrD (wr:Nat->Bool):Option Nat->Bool
 | some d=>wr d
 | none=>false
def zCm (wr own:Nat->Bool) (dst:Option Nat) (st:St U) (t:TypeId) (n:Nat) (parts:List (Nat×T U)) (k:T U->St U->Option R):Option R:=
 zCU Tb t fun i _ d=>
 bif (match d.zero with | some z=>Nat.beq z.length d.cells | none=>false) && Nat.ble (n * d.cells) 16777216 && decide (n<=maxLen) && Nat.beq parts.length n && zIU 0 parts && zBq parts then
  zGS C i parts fun xs=>
   bif wrD wr dst then
    bif C.plain i then k (.sl st.nl n) ⟨(st.nl,some (.ar i xs))::st.bx,st.tg,st.nl+1,st.nx,st.ob⟩ else none
   else bif wrD own dst then k (.lst (.ow st.nx false) i xs) ⟨st.bx,st.nx::st.tg,st.nl,st.nx+1,st.ob⟩
   else k (.lst (.b false) i xs) st
 else none
def dLen (t:TypeId) (x:T U) (k:T U->Option R):Option R:=
 match x with
 | .lst _ _ xs=>bif (Tb t).has && (Tb t).el.isSome then k (.int .i64 (lenI xs)) else none
 | .nil=>bif (Tb t).has && (Tb t).el.isSome then k (.int .i64 0) else none
 | .sl _ n=>bif (Tb t).has && (Tb t).el.isSome then k (.int .i64 (n:Int)) else none
 | .str s=>bif (Tb t).has && (Tb t).isStr then k (.int .i64 (lenI s)) else none
 | _=>none
def dMax (x y:T U) (k:T U->Option R):Option R:=
 match x with
 | .int ka a=>(match y with | .int _ b=>k (.int ka (imax a b)) | _=>none)
 | _=>none
def kw {i j:U.I} (h:j=i) (xs:List (U.den j)):List (U.den i):=h ▸ xs
def ku {R:Type} (i j:U.I) (xs:List (U.den j)) (k:List (U.den i)->Option R):Option R:=
 if h:j=i then k (kw h xs) else none
def zG4 (wr:Nat->Bool) (dst:Option Nat) (st:St U) (t t2:TypeId) (s x:T U) (k:T U->St U->Option R):Option R:=
 zCU Tb t fun i _ d=>
 bif Nat.beq t t2 && (match d.zero with | some z=>Nat.beq z.length d.cells | none=>false) then
  match x with
  | .lst _ j ys'=>ku i j ys' fun ys=>
   (match s with
   | .nil=>bif okN d.bytes ys.length then
    (bif wrD wr dst then
     bif !ys.isEmpty then k (.sl st.nl ys.length) ⟨(st.nl,some (.ar i ys))::st.bx,st.tg,st.nl+1,st.nx,st.ob⟩ else none
    else k (.lst (.ow st.nx true) i ys) ⟨st.bx,st.nx::st.tg,st.nl,st.nx+1,st.ob⟩) else none
   | .lst m j' xs'=>(match m with
    | .ow tk nb=>ku i j' xs' fun xs=>bif hasN st.tg tk && okN d.bytes (xs.length+ys.length) then
     k (.lst (.ow st.nx nb) i (xs++ys)) ⟨st.bx,st.nx::rmN st.tg tk,st.nl,st.nx+1,st.ob⟩ else none
    | _=>none)
   | .sl l n=>(match lk st.bx l with
    | some (.ar j' xs')=>ku i j' xs' fun xs=>bif wrD wr dst && Nat.ble n xs.length && okN d.bytes (n+ys.length) then
     k (.sl st.nl (n+ys.length)) ⟨(st.nl,some (.ar i (xs.take n++ys)))::(l,none)::st.bx,st.tg,st.nl+1,st.nx,st.ob⟩ else none
    | _=>none)
   | _=>none)
  | _=>none
 else none
def zCN (x:Option (T U)) (d:Int) (k:Int->Option R):Option R:=
 match x with
 | none=>k d
 | some x=>(match x with | .int _ n=>k n | _=>none)
def cutM {α:Type}:TM->List α->TM
 | .b n,_=>.b n
 | .dl,xs=>.b xs.isEmpty
 | .ow _ nb,xs=>bif nb then .b xs.isEmpty else .b false
def zIs (st:St U) (t:TypeId) (x:T U) (lo hi:Option (T U)) (k:T U->Option R):Option R:=
 match x with
 | .lst m j xs=>zCU Tb t fun i _ _=>bif decide (j=i) then
  zCN lo 0 fun l=>zCN hi (lenI xs) fun h=>bif inS l h xs.length then k (.lst (cutM m xs) j (cutL xs l h)) else none
  else none
 | .sl l0 n=>zCU Tb t fun i _ _=>
  (match lo with
  | none=>(match lk st.bx l0 with
   | some (.ar j xs)=>bif decide (j=i) then zCN hi (n:Int) fun h=>bif inS 0 h xs.length then k (.sl l0 h.toNat) else none else none
   | _=>none)
  | some _=>none)
 | .str s=>bif (Tb t).has && (Tb t).isStr then
  zCN lo 0 fun l=>zCN hi (lenI s) fun h=>bif inS l h s.length then k (.str (cutL s l h)) else none
  else none
 | .rptr x=>(match x with
  | .agg fs=>(match lo with
   | none=>(match hi with
    | none=>(match (Tb t).arr with
     | some (m,i)=>bif (Tb t).has && C.plain i && yJ fs && Nat.beq m fs.length && !fs.isEmpty then zIV C i fs fun xs=>k (.lst (.b false) i xs) else none
     | none=>none)
    | some _=>none)
   | some _=>none)
  | _=>none)
 | _=>none
def zEN (x:T U) (k:T U->Option R):Option R:=
 match x with
 | .rptr y=>k (.rptr y)
 | .ptr l o=>k (.ptr l o)
 | .ptrE l a o=>k (.ptrE l a o)
 | _=>none
abbrev Call (U:TyU) (R:Type):=Nat->List (T U)->List Nat->St U->(T U->St U->Option R)->Option R
def zB6:List (T U)->Bool
 | []=>true
 | x::r=>yJ x.flat && zB6 r
abbrev KD:=List (Nat×Nat×Nat)
def ldD (kd:KD) (x:Operand) (e:En U):Bool:=
 match x with
 | .tmp u=>kd.all fun p=>!(Nat.beq p.2.1 u) || (match eget e u with | .ptr l _=>Nat.beq l p.2.2 | .rptr _=>true | _=>false)
 | _=>true
def ksD (kd:KD) (d:Option Nat):List Nat:=
 match d with
 | none=>[]
 | some d=>kd.filterMap fun p=>bif Nat.beq p.1 d then some p.2.2 else none
def kdOf {R:Type}:List (Nat×Nat×Nat)->En U->(KD->Option R)->Option R
 | [],_,k=>k []
 | p::r,e,k=>match eget e p.2.2 with
  | .ptr l _=>kdOf r e fun kd=>k ((p.1,p.2.1,l)::kd)
  | _=>none
def zIO (st:St U) (l:Nat):Bool:=match lk st.bx l with | some _=>true | none=>false
def stD (kd:KD) (x:Operand) (e:En U) (st:St U):Bool:=
 match x with
 | .tmp a=>kd.all fun p=>!(Nat.beq p.1 (1000000+a)) || (match eget e a with | .ptr l _=>!(Nat.beq l p.2.2) && zIO st l && zIO st p.2.2 | _=>false)
 | _=>true
def dCall (call:Call U R) (ks:List Nat) (f:T U) (args:List (T U)) (st:St U) (k:T U->St U->Option R):Option R:=
 match f with
 | .clo fn caps=>(match fn with
  | .func n=>bif caps.isEmpty && zB6 args && bdds st.nl st.nx args then call n args ks st k else none
  | _=>none)
 | _=>none
def zJ4 (wr:Nat->Bool) (dst:Option Nat) (b:Builtin) (ts:List TypeId) (args:List (T U)) (st:St U) (k:T U->St U->Option R):Option R:=
 match b with
 | .len=>(match ts with | t::_=>(match args with | [x]=>dLen Tb t x fun v=>k v st | _=>none) | _=>none)
 | .max=>(match args with | [x,y]=>dMax x y fun v=>k v st | _=>none)
 | .append=>(match ts with | [t,t2]=>(match args with | [s,x]=>zG4 Tb wr dst st t t2 s x k | _=>none) | _=>none)
 | _=>none
def evL (e:En U):List Operand->List (T U)
 | []=>[]
 | x::r=>evT e x::evL e r
def evP (e:En U):List (Nat×Operand)->List (Nat×T U)
 | []=>[]
 | x::r=>(x.1,evT e x.2)::evP e r
def evO (e:En U):Option Operand->Option (T U)
 | none=>none
 | some x=>some (evT e x)
def dop (call:Call U R) (wr own:Nat->Bool) (kd:KD) (e:En U) (st:St U) (o:Oper) (k:T U->St U->Option R):Option R:=
 match o.op with
 | .move x=>k (evT e x) st
 | .assign x=>k (evT e x) st
 | .pick c a b=>zL5 (evT e c) (evT e a) (evT e b) fun v=>k v st
 | .binOp op t x y _=>dBin Tb op t (zE5 y) (evT e x) (evT e y) fun v=>k v st
 | .convert f t x=>zMD Tb f t (evT e x) fun v=>k v st
 | .unOp op _ x=>dUn op (evT e x) fun v=>k v st
 | .extract x i=>zFi (evT e x) i fun v=>k v st
 | .field t x f=>zJH Tb t (evT e x) f fun v=>k v st
 | .fieldAddr t x f=>zDI Tb t (evT e x) f fun v=>k v st
 | .indexAddr t x i=>zDr C Tb st t (evT e x) (evT e i) fun v=>k v st
 | .index t x i=>zIa C Tb t (evT e x) (evT e i) fun v=>k v st
 | .load t x=>bif ldD kd x e then zIT C Tb st t (evT e x) fun v=>k v st else none
 | .store t x y=>bif stD kd x e st then zKA C Tb st t (evT e x) (evT e y) fun st'=>k .any st' else none
 | .alloc t=>zNM Tb st t k
 | .box _ x=>feL (evT e x).flat fun cs=>dNew st cs k
 | .build t parts=>feP (evP e parts.toList) fun ps=>zIr Tb t ps fun v=>k v st
 | .buildSlice t n parts=>feP (evP e parts.toList) fun ps=>zCm C Tb wr own o.dst st t n ps k
 | .nilCheck x=>zEN (evT e x) fun v=>k v st
 | .slice t x lo hi mx=>(match mx with | none=>zIs C Tb st t (evT e x) (evO e lo) (evO e hi) fun v=>k v st | some _=>none)
 | .call c=>(match c.callee with
  | .value f=>feA (evL e c.args.toList) fun as=>dCall call (ksD kd o.dst) (evT e f) as st k
  | .builtin b=>feA (evL e c.args.toList) fun as=>zJ4 Tb wr o.dst b c.argTypes.toList as st k
  | .invoke _ _=>none)
 | .makeMap _ n=>(match n with | none=>k (.hd st.nl) ⟨st.bx,st.tg,st.nl+1,st.nx,(st.nl,some (.mp []))::st.ob⟩ | some _=>none)
 | _=>none
def zGZ (call:Call U R) (wr own:Nat->Bool) (kd:KD) (e:En U) (st:St U) (o:Oper) (k:En U->St U->Option R):Option R:=
 dop C Tb call wr own kd e st o fun v st'=>feS st' fun st'=>fe v fun v=>bif bdd st'.nl st'.nx v then zGk e o.dst v fun e'=>k e' st' else none
def zML (call:Call U R) (wr own:Nat->Bool) (kd:KD) (ds:List (Option Nat)) (o:Oper) (e:En U) (st:St U) (k:En U->St U->Option R):Option R:=
 match o.guard with
 | none=>zGZ C Tb call wr own kd e st o k
 | some g=>
  match ds.getD g.1 none with
  | none=>none
  | some d=>(match eget e d with
   | .bool t=>bif g.2 then (bif t then zGZ C Tb call wr own kd ((d,.bool true)::e) st o k else zGk ((d,.bool false)::e) o.dst (.tup []) fun e'=>k e' st)
    else (bif t then zGk ((d,.bool true)::e) o.dst (.tup []) fun e'=>k e' st else zGZ C Tb call wr own kd ((d,.bool false)::e) st o k)
   | .tup vs=>(match vs with | []=>zGk e o.dst (.tup []) fun e'=>k e' st | _::_=>none)
   | _=>none)
def dops (call:Call U R) (wr own:Nat->Bool) (kd:KD) (ds:List (Option Nat)):List Oper->En U->St U->(En U->St U->Option R)->Option R
 | [],e,st,k=>k e st
 | o::os,e,st,k=>zML C Tb call wr own kd ds o e st fun e' st'=>dops call wr own kd ds os e' st' k
end ops
end
open Go.Al
def VR {U:TyU} (C:Cod U) (N:NM) (x:T U) (v:V):Prop:=x = .any\/v=trT C N x
def TbOk {U:TyU} (C:Cod U) (P:Program) (Tb:TypeId->TD U):Prop:=∀ t,(Tb t).has=true->Facts C P t (Tb t)
section
variable {U:TyU} {C:Cod U} {P:Program} {Tb:TypeId->TD U} {R:Type} {r:R} {N:NM} {K:V->Prop} {k:T U->Option R}
theorem zO {c:Bool} {x:Option R} (h:(bif c then x else none)=some r):c=true/\x=some r:=by cases c <;> simp_all
theorem VR.get {x:T U} {v:V} (h:VR C N x v) (hx:x≠.any):v=trT C N x:=h.resolve_left hx
theorem VR.mk (x:T U):VR C N x (trT C N x):=.inr rfl
theorem zLk (b:ByteArray):∀ (n i:Nat) (acc:List UInt8),b.size - i=n->ByteArray.toList.loop b i acc=acc.reverse++b.data.toList.drop i:=by
 have hs:b.size=b.data.toList.length:=by rw [Array.length_toList]; rfl
 intro n
 induction n with
 | zero=>
  intro i acc hn
  unfold ByteArray.toList.loop
  rw [if_neg (by omega),List.drop_of_length_le (by omega),List.append_nil]
 | succ n ih=>
  intro i acc hn
  unfold ByteArray.toList.loop
  have hi:i < b.data.toList.length:=by omega
  rw [if_pos (by omega),ih _ _ (by omega),List.drop_eq_getElem_cons hi]
  have e:b.get! i=b.data.toList[i]:=by
   show b.data[i]! = _
   have hi':i < b.data.size:=by rw [<- Array.length_toList]; exact hi
   rw [getElem!_pos b.data i hi',Array.getElem_toList]
  rw [e,List.reverse_cons,List.append_assoc]; rfl
theorem zAl (s:List UInt8):(⟨s.toArray⟩:ByteArray).toList=s:=by
 have:=zLk ⟨s.toArray⟩ _ 0 [] rfl
 rw [List.drop_zero,List.reverse_nil,List.nil_append] at this
 exact this
theorem zPU {c a b:T U} {cv av bv:V} (hc:VR C N c cv) (ha:VR C N a av) (hb:VR C N b bv) (h:zL5 c a b k=some r)
 (hK:∀ v v',k v=some r->VR C N v v'->K v'):zCj cv av bv K:=by
 unfold zL5 at h
 split at h
 · rename_i t
   rw [hc.get (by simp)]
   cases t with
   | true=>exact hK _ _ h ha
   | false=>exact hK _ _ h hb
 · cases h
theorem zP8 {op:BinOp} {kk:IntKind} {a b:Int} (h:dInt op kk a b k=some r) (hK:∀ v,k v=some r->K (trT C N v)):aInt op kk a b K:=by
 cases op <;> simp only [dInt] at h <;> first | exact hK _ h | cases h | skip
 case quo=>
  obtain ⟨h1,h2⟩:=zO h
  exact ⟨by simpa [ine] using h1,hK _ h2⟩
 case rem=>
  obtain ⟨h1,h2⟩:=zO h
  exact ⟨by simpa [ine] using h1,hK _ h2⟩
theorem zPj {op:BinOp} {a b:List UInt8} (h:dStr op a b k=some r) (hK:∀ v,k v=some r->K (trT C N v)):aStr op ⟨a.toArray⟩ ⟨b.toArray⟩ K:=by
 cases op <;> simp only [dStr] at h <;> first | cases h | skip
 case add=>
  obtain ⟨h1,h2⟩:=zO h
  have h1:=okS_le h1
  refine ⟨by simpa [ByteArray.size] using h1,?_⟩
  have:=hK _ h2
  simp only [trT] at this
  have e:(⟨a.toArray⟩:ByteArray)++⟨b.toArray⟩=⟨(a++b).toArray⟩:=by
   apply ByteArray.ext
   simp
  rw [e]; exact this
 case eql=>
  have:=hK _ h
  simp only [aStr,zAl]
  exact this
 case neq=>
  have:=hK _ h
  simp only [aStr,zAl]
  exact this
theorem zOf {op:BinOp} {a b:Bool} (h:zMP op a b k=some r) (hK:∀ v,k v=some r->K (trT C N v)):zAM op a b K:=by
 cases op <;> simp only [zMP] at h <;> first | cases h | exact hK _ h
theorem zPk (m:TM) {i:U.I} (xs:List (U.den i)):nilB (trM N (C.cells i) (xs.map (C.encV i)) m) (xs.map (C.encV i))=nilT m xs:=by
 cases m with
 | b n=>cases n <;> rfl
 | dl=>cases xs <;> rfl
 | ow t nb=>cases xs <;> rfl
theorem zEr {op:BinOp} {b:Bool} (h:dNil op b k=some r) (hK:∀ v,k v=some r->K (trT C N v)):zAM op b true K:=by
 cases op <;> simp only [dNil] at h <;> first | cases h | skip
 · have:=hK _ h
   simp only [zAM,beq_true]
   exact this
 · have:=hK _ h
   simp only [zAM,beq_true]
   exact this
theorem zBL {v:Value} (h:zC5 v=true):v = .nilIface:=by
 unfold zC5 at h
 split at h
 · rfl
 · cases h
theorem zQa (hT:TbOk C P Tb) {op:BinOp} {t:TypeId} {c:Bool} {x y:T U} {xv yv:V} (hx:VR C N x xv) (hy:VR C N y yv) (h:dBin Tb op t c x y k=some r)
 (hK:∀ v,k v=some r->K (trT C N v)):zBO P op t c xv yv K:=by
 unfold dBin at h
 split at h
 · split at h
   · obtain ⟨h1,h2⟩:=zO h
     rw [hx.get (by simp),hy.get (by simp)]
     simp only [decide_eq_true_eq] at h1
     subst h1
     exact ⟨rfl,zP8 h2 hK⟩
   · cases h
 · split at h
   · obtain ⟨h1,h2⟩:=zO h
     rw [hx.get (by simp),hy.get (by simp)]
     simp only [Bool.and_eq_true] at h1
     exact ⟨(hT t h1.2).isBool.trans h1.1,zOf h2 hK⟩
   · cases h
 · split at h
   · rw [hx.get (by simp),hy.get (by simp)]
     exact zPj h hK
   · cases h
 · split at h
   · obtain ⟨h1,h2⟩:=zO h
     rw [hx.get (by simp),hy.get (by simp)]
     simp only [Bool.and_eq_true] at h1
     refine ⟨by rw [(hT t h1.2).el]; exact h1.1,?_⟩
     rw [zPk]
     exact zEr h2 hK
   · cases h
 · split at h
   · obtain ⟨h1,h2⟩:=zO h
     rw [hx.get (by simp),hy.get (by simp)]
     simp only [Bool.and_eq_true] at h1
     exact ⟨by rw [(hT t h1.2).el]; exact h1.1,zEr h2 hK⟩
   · cases h
 · split at h
   · rename_i v
     obtain ⟨h1,h2⟩:=zO h
     rw [hx.get (by simp),hy.get (by simp)]
     simp only [Bool.and_eq_true] at h1
     have e1:=zBL h1.1.1
     subst e1
     exact ⟨(hT t h1.2).isIfc.trans h1.1.2,zEr h2 hK⟩
   · cases h
 · split at h
   · rename_i u v
     obtain ⟨h1,h2⟩:=zO h
     rw [hx.get (by simp),hy.get (by simp)]
     simp only [Bool.and_eq_true] at h1
     have e1:=zBL h1.1.1.1.1
     have e2:=zBL h1.1.1.1.2
     subst e1; subst e2
     exact ⟨(hT t h1.1.2).isIfc.trans h1.1.1.2,h1.2,zEr h2 hK⟩
   · cases h
 · cases h
theorem zOx (hT:TbOk C P Tb) {f t:TypeId} {x:T U} {xv:V} (hx:VR C N x xv) (h:zMD Tb f t x k=some r) (hK:∀ v,k v=some r->K (trT C N v)):zDP P f t xv K:=by
 unfold zMD at h
 split at h
 · split at h
   · rename_i kk hk
     obtain ⟨h1,h2⟩:=zO h
     simp only [Bool.and_eq_true] at h1
     rw [hx.get (by simp)]
     unfold zDP
     simp only [trT]
     rw [(hT t h1.1).ik,hk]
     exact ⟨(hT f h1.2).has,hK _ h2⟩
   · cases h
 · obtain ⟨h1,h2⟩:=zO h
   simp only [Bool.and_eq_true] at h1
   rw [hx.get (by simp)]
   exact ⟨(hT f h1.1.1.2).isStr.trans h1.2,(hT t h1.1.1.1).isStr.trans h1.1.2,hK _ h2⟩
 · cases h
theorem dUn_ok {op:UnOp} {x:T U} {xv:V} (hx:VR C N x xv) (h:dUn op x k=some r) (hK:∀ v,k v=some r->K (trT C N v)):aUn op xv K:=by
 unfold dUn at h
 split at h
 · rw [hx.get (by simp)]
   cases op <;> simp only at h <;> first | cases h | exact hK _ h
 · rw [hx.get (by simp)]
   cases op <;> simp only at h <;> first | cases h | exact hK _ h
 · cases h
theorem zKg {x:T U} {xv:V} {i:Nat} (hx:VR C N x xv) (h:zFi x i k=some r) (hK:∀ v,k v=some r->K (trT C N v)):kX xv i K:=by
 unfold zFi at h
 split at h
 · rename_i vs
   obtain ⟨h1,h2⟩:=zO h
   have h1:=xo h1
   rw [hx.get (by simp)]
   have e:(trTs C N vs).getD i .any=trT C N (vs.getD i .any):=by
    rw [yu]; simp [h1]
   refine ⟨by rw [yu]; simpa using h1,?_⟩
   rw [e]
   exact hK _ h2
 · cases h
theorem zDR {fs:List (T U)} {off:Nat} {t:TypeId} {d:TD U} (hd:d.has=true->Facts C P t d) (h:zDa fs off d k=some r) (hK:∀ v,k v=some r->K (trT C N v)) :
 yh P t (fs.map (trT C N)) off/\K (yV P t (fs.map (trT C N)) off):=by
 unfold zDa at h
 obtain ⟨h1,h2⟩:=zO h
 simp only [Bool.and_eq_true,Bool.or_eq_true,Nat.ble_eq,Nat.beq_eq] at h1
 obtain ⟨⟨h3,h4⟩,h5⟩:=h1
 have hf:=hd h3
 refine ⟨⟨hf.has,by rw [hf.cells]; simpa using h4,fun ha=>by rw [hf.agg] at ha; rw [hf.cells]; simpa [ha] using h5⟩,?_⟩
 unfold yV
 rw [hf.agg,hf.cells]
 cases ha:d.agg with
 | true=>
  rw [ha] at h2
  simp only [cond_true,zAx] at h2
  have:=hK _ h2
  simp only [trT,yu,List.map_take,List.map_drop] at this
  simpa using this
 | false=>
  rw [ha] at h2
  simp only [cond_false] at h2
  have:=hK _ h2
  have h6:d.cells=1:=by simpa [ha] using h5
  have h7:off < fs.length:=by omega
  have e:(fs.map (trT C N)).getD off .any=trT C N (fs.getD off .any):=by simp [h7]
  simp only [Bool.false_eq_true,if_false]
  rw [e]; exact this
theorem zNq (hT:TbOk C P Tb) {t:TypeId} {x:T U} {xv:V} {f:Nat} (hx:VR C N x xv) (h:zJH Tb t x f k=some r) (hK:∀ v,k v=some r->K (trT C N v)):zAk P t xv f K:=by
 unfold zJH at h
 split at h
 · rename_i fs
   split at h
   · rename_i p hp
     obtain ⟨h1,h2⟩:=zO h
     simp only [Bool.and_eq_true] at h1
     rw [hx.get (by simp)]
     simp only [trT,yu,zAk,zDW,(hT t h1.1).flds,hp]
     exact ⟨(xD C N fs).2 h1.2,zDR (fun hh=>hT _ hh) h2 hK⟩
   · cases h
 · cases h
theorem zIA (hT:TbOk C P Tb) {t:TypeId} {x:T U} {xv:V} {f:Nat} (hx:VR C N x xv) (h:zDI Tb t x f k=some r) (hK:∀ v,k v=some r->K (trT C N v)):yR P t xv f K:=by
 unfold zDI at h
 split at h
 · cases h
 · rename_i p hp
   obtain ⟨h1,h2⟩:=zO h
   simp only [Bool.and_eq_true] at h1
   obtain ⟨⟨h3,h4⟩,h5⟩:=h1
   have h6:0 < P.cellsOf p.2:=by rw [(hT _ h4).cells]; exact xo h5
   have hfl:fieldAt P t f=some (p.1,p.2):=by rw [zDW,(hT t h3).flds,hp]
   split at h2
   · split at h2
     · obtain ⟨h7,h8⟩:=zO h2
       rw [hx.get (by simp)]
       simp only [trT,yu,yR,hfl]
       have:=zDR (C:=C) (P:=P) (t:=p.2) (N:=N) (K:=fun v=>K (.rptr v)) (fun hh=>hT _ hh) h8 (fun v hv=>hK _ hv)
       exact ⟨(xD C N _).2 h7,this.1,h6,this.2⟩
     · cases h2
   · rw [hx.get (by simp)]
     simp only [trT,yR,hfl]
     exact ⟨(hT _ h4).has,h6,hK _ h2⟩
   · rw [hx.get (by simp)]
     simp only [trT,yR,hfl]
     have:=hK _ h2
     simp only [trT,<- Nat.add_assoc] at this
     exact ⟨(hT _ h4).has,h6,this⟩
   · cases h2
theorem zBZ (hT:TbOk C P Tb) {t:TypeId} {kk:U.I->TypeId->TD U->Option R} (h:zCU Tb t kk=some r) :
 ∃ i el,kk i el (Tb el)=some r/\elT P t=some el/\Facts C P el (Tb el)/\C.cells i=P.cellsOf el/\C.agg i=xN P el:=by
 unfold zCU at h
 split at h
 · cases h
 · rename_i el hel
   obtain ⟨h1,h2⟩:=zO h
   simp only [Bool.and_eq_true] at h1
   split at h2
   · rename_i i hi
     have hf:=hT el h1.2
     exact ⟨i,el,h2,by rw [(hT t h1.1).el,hel],hf,by rw [hf.cells]; exact (hf.code i hi).1,by rw [hf.agg]; exact (hf.code i hi).2⟩
   · cases h2
theorem zDZ {n:Int} {len:Nat} (h:inB n len=true):0<=n/\n < (len:Int):=by
 simpa [inB] using h
theorem zFU {l h:Int} {len:Nat} (hh:inS l h len=true):0<=l/\l<=h/\h<=(len:Int):=by
 simpa [inS,and_assoc] using hh
theorem zLO {i:U.I} (xs:List (U.den i)) (n:Nat) (h:n < xs.length) (d:U.den i):(xs.map (C.encV i)).getD n .any=C.encV i (xs.getD n d):=by
 simp [h]
theorem zFb (hC:CodOk C) {i:U.I} (hp:C.plain i=true) {r:R}:∀ {l:List (T U)} {k:List (U.den i)->Option R},zIV C i l k=some r->∃ xs,k xs=some r/\∀ N,l.map (trT C N)=xs.map (C.encV i)
 | [],k,h=>⟨[],h,fun _=>rfl⟩
 | x::l,k,h=>by
  obtain ⟨y,h1,h2⟩:=hC.decP i x _ r hp h
  obtain ⟨ys,h3,h4⟩:=zFb hC hp h1
  exact ⟨y::ys,h3,fun N=>by simp only [List.map_cons,h2 N,h4 N]⟩
theorem zNY (hT:TbOk C P Tb) (hC:CodOk C) {t:TypeId} {x n:T U} {xv nv:V} (hx:VR C N x xv) (hn:VR C N n nv) (h:zIa C Tb t x n k=some r) (hK:∀ v,k v=some r->K (trT C N v)):kQ P t xv nv K:=by
 unfold zIa at h
 split at h
 · split at h
   · rename_i s _ _ n'
     obtain ⟨h1,h2⟩:=zO h
     simp only [Bool.and_eq_true] at h1
     rw [hx.get (by simp),hn.get (by simp)]
     have hb:=zDZ h1.2
     refine ⟨(hT t h1.1.1).isStr.trans h1.1.2,by simpa [ByteArray.size] using hb,?_⟩
     have:=hK _ h2
     simpa [trT,zEQ] using this
   · cases h
 · split at h
   · rename_i fs _ _ n'
     split at h
     · rename_i m i hr
       obtain ⟨h1,h2⟩:=zO h
       simp only [Bool.and_eq_true,Nat.beq_eq,Bool.not_eq_true'] at h1
       obtain ⟨⟨⟨⟨⟨h3,h4⟩,h5⟩,h6⟩,h7⟩,h8⟩:=h1
       obtain ⟨xs,h9,h10⟩:=zFb hC h4 h2
       rw [hx.get (by simp),hn.get (by simp)]
       have hb:=zDZ h8
       have hlen:fs.length=xs.length:=by have:=congrArg List.length (h10 N); simpa using this
       have hnx:n'.toNat < xs.length:=by omega
       simp only [trT,kQ,yu]
       refine ⟨by rw [List.length_map,<- h7]; exact (hT t h3).arr m i hr,(xD C N fs).2 h6,by rw [List.length_map]; exact hb,?_⟩
       have:=hK _ h9
       rw [hC.enc] at this
       rw [h10 N,zLO xs _ hnx (C.dflt i)]
       exact this
     · cases h
   · cases h
 · cases h
theorem zOh {t:TypeId} {d:TD U} (hd:d.has=true->Facts C P t d) {y:T U} (h:zLe d y=true):fits P t (trT C N y):=by
 have key:d.has=true->(trT C N y).size=d.cells->(trT C N y).isAgg=d.agg->fits P t (trT C N y):=fun h1 h2 h3=>
  ⟨(hd h1).has,by rw [h2,(hd h1).cells],by rw [h3,(hd h1).agg]⟩
 have other:(∀ fs,y≠.agg fs)->(d.has && !d.agg && y.isOne && Nat.beq d.cells 1)=true->fits P t (trT C N y):=fun hne h=>by
  simp only [Bool.and_eq_true,Nat.beq_eq,Bool.not_eq_true'] at h
  obtain ⟨⟨⟨h1,h2⟩,h3⟩,h4⟩:=h
  refine key h1 ?_ ?_
  · rw [zCH (by rw [zJn]; exact h3)]
    exact h4.symm
  · rw [zKF,h2]
    cases y <;> first | rfl | exact absurd rfl (hne _)
 unfold zLe at h
 split at h
 · rename_i fs
   simp only [Bool.and_eq_true,Nat.beq_eq] at h
   obtain ⟨⟨⟨h1,h2⟩,h3⟩,h4⟩:=h
   refine key h1 ?_ ?_
   · simp only [trT,V.size,yu]
     rw [yb ((xD C N fs).2 h3)]
     simpa using h4
   · rw [zKF,h2]
 · rename_i x hne
   exact other hne h
theorem zPd {x y:T U} {xv yv:V} (hx:VR C N x xv) (hy:VR C N y yv) (h:dMax x y k=some r) (hK:∀ v,k v=some r->K (trT C N v)):aMax xv yv K:=by
 unfold dMax at h
 split at h
 · split at h
   · rw [hx.get (by simp),hy.get (by simp)]
     exact hK _ h
   · cases h
 · cases h
theorem zPz (hT:TbOk C P Tb) {t:TypeId} {x:T U} {xv:V} (hx:VR C N x xv) (h:dLen Tb t x k=some r) (hK:∀ v,k v=some r->K (trT C N v)):aLen P t xv K:=by
 unfold dLen at h
 split at h
 all_goals first | cases h | skip
 all_goals
  obtain ⟨h1,h2⟩:=zO h
  simp only [Bool.and_eq_true] at h1
  have hf:=hT t h1.1
  rw [hx.get (by simp)]
  have:=hK _ h2
 · exact ⟨by rw [hf.el]; exact h1.2,by simpa [trT,lenI] using this⟩
 · exact ⟨by rw [hf.el]; exact h1.2,by simpa [trT] using this⟩
 · exact ⟨by rw [hf.el]; exact h1.2,by simpa [trT] using this⟩
 · exact ⟨hf.isStr.trans h1.2,by simpa [trT,lenI,ByteArray.size] using this⟩
theorem zI2 {x:T U} {xv:V} (hx:VR C N x xv) (h:zEN x k=some r) (hK:∀ v,k v=some r->K (trT C N v)):xY xv K:=by
 unfold zEN at h
 split at h
 · rw [hx.get (by simp)]; exact hK _ h
 · rw [hx.get (by simp)]; exact hK _ h
 · rw [hx.get (by simp)]; exact hK _ h
 · cases h
theorem zHB (N:NM) (cs:List (T U)) (o:Nat) (xs:List (T U)):(splT cs o xs).map (trT C N)=spl (cs.map (trT C N)) o (xs.map (trT C N)):=by
 simp [splT,spl,List.map_take,List.map_drop]
theorem zIi (hT:TbOk C P Tb) {t:TypeId} {flds:List (Nat×TypeId)} (hf:zDH P t=flds) {k:List (T U)->Option R} :
 ∀ (parts:List (Nat×T U)) (vs:List (Nat×V)) (cells:List (T U)),zIS Tb flds cells parts k=some r->vs.map (·.1)=parts.map (·.1) ->
  (∀ (j:Nat) (x:Nat×T U) (v:Nat×V),parts[j]? = some x->vs[j]? = some v->VR C N x.2 v.2)->∃ l,zBI (zAc P t) (cells.map (trT C N)) vs=some (l.map (trT C N))/\k l=some r
 | [],vs,cells,h,he,_=>by
  cases vs with
  | nil=>exact ⟨cells,rfl,h⟩
  | cons _ _=>simp at he
 | (i,x)::rest,vs,cells,h,he,hv=>by
  cases vs with
  | nil=>simp at he
  | cons v vs=>
   obtain ⟨j,v⟩:=v
   simp only [List.map_cons,List.cons.injEq] at he
   obtain ⟨rfl,he⟩:=he
   simp only [zIS] at h
   split at h
   · cases h
   · rename_i p hp
     obtain ⟨h1,h2⟩:=zO h
     simp only [Bool.and_eq_true,Nat.beq_eq,Nat.ble_eq] at h1
     obtain ⟨⟨⟨h3,h4⟩,h5⟩,h6⟩:=h1
     rw [zAx] at h2
     have hx:x≠.any:=fun e=>by subst e; simp [T.flat,yJ,T.isOne] at h6
     have hxv:v=trT C N x:=(hv 0 (j,x) (j,v) rfl rfl).get hx
     subst hxv
     obtain ⟨l,h7,h8⟩:=zIi hT hf rest vs _ h2 he (fun j x v a b=>hv (j+1) x v (by simpa using a) (by simpa using b))
     refine ⟨l,?_,h8⟩
     have hpl:zAc P t j=some (p.1,P.cellsOf p.2):=by
      unfold zAc
      rw [zDW,hf,hp]
      simp [(hT _ h3).has]
     unfold zBI
     simp only [hpl]
     rw [qf]
     simp only [List.length_map]
     rw [if_pos ⟨by rw [(hT _ h3).cells]; simpa using h4,by rw [(hT _ h3).cells]; simpa using h5,(xD C N _).2 h6⟩]
     rw [zHB] at h7
     exact h7
theorem zNv (hT:TbOk C P Tb) {t:TypeId} {parts:List (Nat×T U)} {vs:List (Nat×V)} (he:vs.map (·.1)=parts.map (·.1)) (hv:∀ (j:Nat) (x:Nat×T U) (v:Nat×V),parts[j]? = some x->vs[j]? = some v->VR C N x.2 v.2)
 (h:zIr Tb t parts k=some r) (hK:∀ v,k v=some r->K (trT C N v)):zAH P t vs K:=by
 unfold zIr at h
 obtain ⟨h1,h2⟩:=zO h
 simp only [Bool.and_eq_true] at h1
 have hf:=hT t h1.1
 split at h2
 · rename_i cs hcs
   obtain ⟨l,h3,h4⟩:=zIi (N:=N) hT hf.flds parts vs cs h2 he hv
   refine ⟨hf.isStruct.trans h1.2,?_⟩
   rw [hf.zero N,hcs]
   simp only [Option.map_some]
   rw [h3]
   have:=hK _ h4
   simpa only [trT,yu] using this
 · cases h2
theorem zBQ {x:Option (T U)} {xv:Option V} (hx:match x,xv with | none,none=>True | some x,some v=>VR C N x v | _,_=>False) {d:Int} {kk:Int->Option R} {K:Int->Prop} (h:zCN x d kk=some r) (hK:∀ n,kk n=some r->K n) :
 jK xv d K:=by
 unfold zCN at h
 cases x with
 | none=>cases xv with
  | none=>exact hK _ h
  | some v=>exact hx.elim
 | some x=>cases xv with
  | none=>exact hx.elim
  | some v=>
   simp only at h hx
   split at h
   · rw [hx.get (by simp)]
     exact hK _ h
   · cases h
theorem zQy (m:TM) {i:U.I} (xs ys:List (U.den i)):zEx (trM N (C.cells i) (xs.map (C.encV i)) m) (xs.map (C.encV i))=trM N (C.cells i) (ys.map (C.encV i)) (cutM m xs):=by
 cases m with
 | b n=>cases n <;> rfl
 | dl=>cases xs <;> rfl
 | ow t nb=>cases nb <;> cases xs <;> rfl
end
open Go.Al
section
variable {U:TyU} {C:Cod U} {P:Program} {Tb:TypeId->TD U} {R:Type} {r:R} {N:NM}
def trB (C:Cod U) (N:NM) (l:Nat):Bx U->List V×Nat
 | .st cs=>(cs.map (trT C N),cs.length)
 | .ar i xs=>(zb (xs.map (C.encV i)),N.cp l * C.cells i)
def wfB (C:Cod U) (N:NM) (nl nx l:Nat):Bx U->Prop
 | .st cs=>bdds nl nx cs=true/\yJ cs=true
 | .ar i xs=>N.sz l=C.cells i/\xs.length<=N.cp l
def trMC (c:MT):MC:=c.map fun p=>(⟨p.1.toArray⟩,.at (.int .i64 p.2))
def trO (N:NM) (l:Nat):TO->OV
 | .mp c=>.mp (trMC c)
 | .sc xs=>.sc (xs.map trMC) (N.cp l)
def wfO (N:NM) (l:Nat):TO->Prop
 | .mp _=>N.cp l≠0
 | .sc xs=>N.sz l=xs.length
structure OSim (N:NM) (ob:List (Nat×Option TO)) (nl:Nat) (sob:List (Nat×OV×List Nat)):Prop where
 look:∀ l o,lko ob l=some o->∃ fp,zM sob (N.bl l)=some (trO N l o,fp)
 lt:∀ l o,lko ob l=some o->l < nl
 wf:∀ l o,lko ob l=some o->wfO N l o
 inj:∀ l l' o o',lko ob l=some o->lko ob l' = some o'->N.bl l=N.bl l'->l=l'
structure SSim (C:Cod U) (N:NM) (st:St U) (s:S):Prop where
 box:∀ l b,lk st.bx l=some b->Al.look s.box (N.bl l)=some (trB C N l b)
 lt:∀ l b,lk st.bx l=some b->l < st.nl
 wf:∀ l b,lk st.bx l=some b->wfB C N st.nl st.nx l b
 inj:∀ l l' b b',lk st.bx l=some b->lk st.bx l' = some b'->N.bl l=N.bl l'->l=l'
 tgIn:∀ t ∈ st.tg,N.tk t ∈ s.tg
 tgInj:∀ t ∈ st.tg,∀ t' ∈ st.tg,N.tk t=N.tk t'->t=t'
 tgLt:∀ t ∈ st.tg,t < st.nx
 nm:∀ t ∈ st.tg,N.tk t < s.nx
 ob:OSim N st.ob st.nl s.ob
theorem OSim.ext {nl nl' nx:Nat} {N N':NM} {ob:List (Nat×Option TO)} {sob:List (Nat×OV×List Nat)} (h:OSim N ob nl sob) (he:Ext nl nx N N') (hl:nl<=nl'):OSim N' ob nl' sob:=by
 have hb:∀ l o,lko ob l=some o->N'.bl l=N.bl l/\N'.cp l=N.cp l/\N'.sz l=N.sz l:=fun l o h1=>⟨he.bl l (h.lt l o h1),he.cp l (h.lt l o h1),he.sz l (h.lt l o h1)⟩
 refine ⟨fun l o h1=>?_,fun l o h1=>Nat.lt_of_lt_of_le (h.lt l o h1) hl,fun l o h1=>?_,fun l l' o o' h1 h2 h3=>?_⟩
 · obtain ⟨fp,h2⟩:=h.look l o h1
   obtain ⟨e1,e2,_⟩:=hb l o h1
   refine ⟨fp,?_⟩
   rw [e1,h2]
   cases o <;> simp only [trO,e2]
 · have:=h.wf l o h1
   obtain ⟨_,e2,e3⟩:=hb l _ h1
   cases o
   · simp only [wfO,e2] at this ⊢; exact this
   · simp only [wfO,e3] at this ⊢; exact this
 · rw [(hb l o h1).1,(hb l' o' h2).1] at h3
   exact h.inj l l' o o' h1 h2 h3
theorem j7 (k:Nat) (b:Option TO) (r:List (Nat×Option TO)) (l:Nat):lko ((k,b)::r) l=if k=l then b else lko r l:=by
 by_cases e:k=l
 · have:Nat.beq k l=true:=by simpa using e
   simp [lko,this,e]
 · have:Nat.beq k l=false:=by
    cases e':Nat.beq k l with
    | false=>rfl
    | true=>exact absurd (Nat.eq_of_beq_eq_true e') e
   simp [lko,this,e]
def ESim (C:Cod U) (N:NM) (st:St U) (e:En U) (E:Env):Prop:=∀ k,VR C N (eget e k) (E.get k)/\bdd st.nl st.nx (eget e k)=true
structure Turn (N:NM) (st:St U) (N':NM) (st':St U):Prop where
 ext:Ext st.nl st.nx N N'
 nl:st.nl<=st'.nl
 nx:st.nx<=st'.nx
theorem Turn.refl (N:NM) (st:St U):Turn N st N st:=⟨.refl _ _ _,Nat.le_refl _,Nat.le_refl _⟩
theorem Turn.trans {N N1 N2:NM} {st st1 st2:St U} (h:Turn N st N1 st1) (h':Turn N1 st1 N2 st2):Turn N st N2 st2:=
 ⟨h.ext.trans h'.ext h.nl h.nx,Nat.le_trans h.nl h'.nl,Nat.le_trans h.nx h'.nx⟩
theorem ESim.turn {N N':NM} {st st':St U} {e:En U} {E:Env} (h:ESim C N st e E) (t:Turn N st N' st'):ESim C N' st' e E:=fun k=>by
 obtain ⟨h1,h2⟩:=h k
 exact ⟨h1.imp id fun h=>by rw [h,zBv C t.ext _ h2],zBH t.nl t.nx _ h2⟩
theorem xK {a b:Nat} (h:a≠b):Nat.beq a b=false:=by
 cases e:Nat.beq a b with
 | false=>rfl
 | true=>exact absurd (Nat.eq_of_beq_eq_true e) h
theorem ESim.put {st:St U} {e:En U} {E:Env} (h:ESim C N st e E) {v:T U} {v':V} (hv:VR C N v v') (hb:bdd st.nl st.nx v=true) (d:Option Nat):ESim C N st (eput e d v) (E.putO d v'):=fun k=>by
 cases d with
 | none=>exact h k
 | some t=>
  simp only [eput,eget,Env.putO,Env.get_put]
  by_cases hk:t=k
  · subst hk
    simpa using ⟨hv,hb⟩
  · have:Nat.beq t k=false:=xK hk
    simpa [this,hk] using h k
theorem ESim.ev {st:St U} {e:En U} {E:Env} (h:ESim C N st e E) (x:Operand):VR C N (evT e x) (E.ev x):=by
 cases x with
 | tmp t=>exact (h t).1
 | const v=>exact .inr (cT_tr C N v).symm
 | global g=>
  refine .inr ?_
  show zGV g=trT C N (gT g)
  unfold zGV gT
  cases zEm zEn g with
  | none=>rfl
  | some us=>
   simp only [trT,yu,List.map_map]
   congr 2
   exact List.map_congr_left fun v _=>(zIl C N v).symm
 | func f=>exact .inr rfl
def Kok (C:Cod U) (N:NM) (st:St U) (K:V->S->Prop) (k:T U->St U->Option R) (r:R):Prop:=
 ∀ N' st' s' v v',k v st' = some r->Turn N st N' st'->SSim C N' st' s'->VR C N' v v'->K v' s'
theorem zCT:∀ {l:List Nat} {t:Nat},hasN l t=true->t ∈ l
 | [],_,h=>by simp [hasN] at h
 | k::r,t,h=>by
  simp only [hasN] at h
  by_cases e:k=t
  · subst e; simp
  · have:Nat.beq k t=false:=xK e
    simp only [this,cond_false] at h
    exact List.mem_cons_of_mem _ (zCT h)
theorem jG:∀ {l:List Nat} {t x:Nat},x ∈ rmN l t->x ∈ l/\x≠t
 | [],_,_,h=>by simp [rmN] at h
 | k::r,t,x,h=>by
  simp only [rmN] at h
  by_cases e:k=t
  · have:Nat.beq k t=true:=by simpa using e
    simp only [this,cond_true] at h
    have:=jG h
    exact ⟨List.mem_cons_of_mem _ this.1,this.2⟩
  · have hb:Nat.beq k t=false:=xK e
    simp only [hb,cond_false,List.mem_cons] at h
    rcases h with rfl | h
    · exact ⟨by simp,e⟩
    · have:=jG h
      exact ⟨List.mem_cons_of_mem _ this.1,this.2⟩
theorem xp (k:Nat) (b:Option (Bx U)) (r:List (Nat×Option (Bx U))) (l:Nat):lk ((k,b)::r) l=if k=l then b else lk r l:=by
 by_cases e:k=l
 · have:Nat.beq k l=true:=by simpa using e
   simp [lk,this,e]
 · have:Nat.beq k l=false:=xK e
   simp [lk,this,e]
def NM.loc (N:NM) (l b c z:Nat):NM:=⟨fun j=>if j=l then b else N.bl j,fun j=>if j=l then c else N.cp j,fun j=>if j=l then z else N.sz j,N.tk⟩
theorem NM.ext_loc (N:NM) (l nx b c z:Nat):Ext l nx N (N.loc l b c z):=
 ⟨fun j hj=>if_neg (by omega),fun j hj=>if_neg (by omega),fun j hj=>if_neg (by omega),fun _ _=>rfl⟩
def NM.tok (N:NM) (t n:Nat):NM:=⟨N.bl,N.cp,N.sz,fun j=>if j=t then n else N.tk j⟩
theorem NM.ext_tok (N:NM) (nl t n:Nat):Ext nl t N (N.tok t n):=⟨fun _ _=>rfl,fun _ _=>rfl,fun _ _=>rfl,fun j hj=>if_neg (by omega)⟩
theorem xh {nl nx:Nat} {N N':NM} (h:Ext nl nx N N') {l:List (T U)} (hb:bdds nl nx l=true):l.map (trT C N')=l.map (trT C N):=by
 rw [<- yu,<- yu,zCB C h l hb]
theorem OSim.new {nl nx b c z:Nat} {N:NM} {ob:List (Nat×Option TO)} {sob:List (Nat×OV×List Nat)} (h:OSim N ob nl sob) {fp:List Nat} {o:TO} {v:OV} (he:Ext nl nx N (N.loc nl b c z)) (hbn:(N.loc nl b c z).bl nl=b) (hw:wfO (N.loc nl b c z) nl o)
 (hno:zM sob b=none) (hv:v=trO (N.loc nl b c z) nl o):OSim (N.loc nl b c z) ((nl,some o)::ob) (nl+1) ((b,v,fp)::sob):=by
 subst hv
 have h':=h.ext he (Nat.le_succ _)
 have hne:∀ l o',lko ob l=some o'->(N.loc nl b c z).bl l≠b:=fun l o' h1 e=>by
  obtain ⟨fp,h2⟩:=h'.look l o' h1
  rw [e,hno] at h2; cases h2
 refine ⟨fun l o' h1=>?_,fun l o' h1=>?_,fun l o' h1=>?_,fun l l' o1 o2 h1 h2 h3=>?_⟩
 · rw [j7] at h1
   split at h1
   · rename_i e; injection h1 with h1; subst e; subst h1
     rw [hbn,z7,if_pos rfl]
     exact ⟨fp,rfl⟩
   · rw [z7,if_neg (fun e=>hne l o' h1 e.symm)]
     exact h'.look l o' h1
 · rw [j7] at h1
   split at h1
   · omega
   · exact h'.lt l o' h1
 · rw [j7] at h1
   split at h1
   · rename_i e; injection h1 with h1; subst e; subst h1; exact hw
   · exact h'.wf l o' h1
 · rw [j7] at h1 h2
   split at h1
   · rename_i e; subst e
     split at h2
     · assumption
     · rw [hbn] at h3; exact absurd h3.symm (hne l' o2 h2)
   · split at h2
     · rename_i e; subst e; rw [hbn] at h3; exact absurd h3 (hne l o1 h1)
     · exact h'.inj l l' o1 o2 h1 h2 h3
theorem zBu {st:St U} {s:S} (hs:SSim C N st s) {nl nx:Nat} {N':NM} (h:Ext nl nx N N') (h1:st.nl<=nl) (h2:st.nx<=nx) {l:Nat} {b:Bx U} (hl:lk st.bx l=some b):trB C N' l b=trB C N l b:=by
 have hlt:=hs.lt l b hl
 have hw:=hs.wf l b hl
 cases b with
 | st cs=>simp only [trB]; rw [xh (h.less h1 h2) hw.1]
 | ar i xs=>simp only [trB]; rw [h.cp l (by omega)]
theorem zBw {nl nx nl' nx':Nat} {N N':NM} (h:Ext nl nx N N') (h1:nl<=nl') (h2:nx<=nx') {l:Nat} (hl:l < nl) {b:Bx U} (hw:wfB C N nl nx l b):wfB C N' nl' nx' l b:=by
 cases b with
 | st cs=>exact ⟨xc h1 h2 _ hw.1,hw.2⟩
 | ar i xs=>exact ⟨(h.sz l hl).trans hw.1,by rw [h.cp l hl]; exact hw.2⟩
theorem SSim.newBox {st:St U} {s:S} (hs:SSim C N st s) {b c z:Nat} {bx:Bx U} (hb:Al.look s.box b=none) (hw:wfB C (N.loc st.nl b c z) (st.nl+1) st.nx st.nl bx) :
 SSim C (N.loc st.nl b c z) ⟨(st.nl,some bx)::st.bx,st.tg,st.nl+1,st.nx,st.ob⟩ ⟨lay s.box b (trB C (N.loc st.nl b c z) st.nl bx),s.tg,s.nx,s.ob⟩:=by
 have hext:=N.ext_loc st.nl st.nx b c z
 have hbl:∀ l,l < st.nl->(N.loc st.nl b c z).bl l=N.bl l:=hext.bl
 have hbn:(N.loc st.nl b c z).bl st.nl=b:=if_pos rfl
 have hne:∀ l b',lk st.bx l=some b'->b≠N.bl l:=fun l b' hl e=>by
  have:=hs.box l b' hl
  rw [<- e,hb] at this
  cases this
 refine ⟨?_,?_,?_,?_,hs.tgIn,hs.tgInj,hs.tgLt,hs.nm,hs.ob.ext hext (Nat.le_succ _)⟩
 · intro l b' hl
   rw [xp] at hl
   by_cases e:st.nl=l
   · rw [if_pos e] at hl
     injection hl with hl
     subst hl; subst e
     show Al.look (lay s.box b _) _=_
     rw [hbn,zW,if_pos rfl]
   · rw [if_neg e] at hl
     have hlt:=hs.lt l b' hl
     show Al.look (lay s.box b _) _=_
     rw [hbl l hlt,zW,if_neg (hne l b' hl),hs.box l b' hl,zBu hs hext (Nat.le_refl _) (Nat.le_refl _) hl]
 · intro l b' hl
   rw [xp] at hl
   by_cases e:st.nl=l
   · show l < st.nl+1; omega
   · rw [if_neg e] at hl
     have hlt:=hs.lt l b' hl
     show l < st.nl+1; omega
 · intro l b' hl
   rw [xp] at hl
   by_cases e:st.nl=l
   · rw [if_pos e] at hl
     injection hl with hl
     subst hl; subst e
     exact hw
   · rw [if_neg e] at hl
     exact zBw hext (Nat.le_succ _) (Nat.le_refl _) (hs.lt l b' hl) (hs.wf l b' hl)
 · intro l l' b1 b2 h1 h2 he
   rw [xp] at h1 h2
   by_cases e:st.nl=l
   · by_cases e':st.nl=l'
     · omega
     · rw [if_neg e'] at h2
       subst e
       rw [hbn,hbl l' (hs.lt l' b2 h2)] at he
       exact absurd he (hne l' b2 h2)
   · rw [if_neg e] at h1
     by_cases e':st.nl=l'
     · subst e'
       rw [hbn,hbl l (hs.lt l b1 h1)] at he
       exact absurd he.symm (hne l b1 h1)
     · rw [if_neg e'] at h2
       rw [hbl l (hs.lt l b1 h1),hbl l' (hs.lt l' b2 h2)] at he
       exact hs.inj l l' b1 b2 h1 h2 he
theorem SSim.drop {st:St U} {s:S} (hs:SSim C N st s) (l0:Nat) {b0:Bx U} (h0:lk st.bx l0=some b0):SSim C N ⟨(l0,none)::st.bx,st.tg,st.nl,st.nx,st.ob⟩ ⟨wipe s.box (N.bl l0),s.tg,s.nx,s.ob⟩:=by
 have key:∀ l b,lk ((l0,none)::st.bx) l=some b->l≠l0/\lk st.bx l=some b:=fun l b hl=>by
  rw [xp] at hl
  by_cases e:l0=l
  · rw [if_pos e] at hl; cases hl
  · rw [if_neg e] at hl; exact ⟨fun e'=>e e'.symm,hl⟩
 refine ⟨fun l b hl=>?_,fun l b hl=>hs.lt l b (key l b hl).2,fun l b hl=>hs.wf l b (key l b hl).2,fun l l' b b' h1 h2 he=>hs.inj l l' b b' (key l b h1).2 (key l' b' h2).2 he,hs.tgIn,hs.tgInj,hs.tgLt,hs.nm,hs.ob⟩
 obtain ⟨h1,h2⟩:=key l b hl
 show Al.look (wipe s.box _) _=_
 rw [yj,if_neg (fun e=>h1 (hs.inj l l0 b b0 h2 h0 e.symm)),hs.box l b h2]
theorem SSim.setBox {st:St U} {s:S} (hs:SSim C N st s) {l0:Nat} {b0 b1:Bx U} (h0:lk st.bx l0=some b0) (hw:wfB C N st.nl st.nx l0 b1) :
 SSim C N ⟨(l0,some b1)::st.bx,st.tg,st.nl,st.nx,st.ob⟩ ⟨lay s.box (N.bl l0) (trB C N l0 b1),s.tg,s.nx,s.ob⟩:=by
 have key:∀ l b,lk ((l0,some b1)::st.bx) l=some b->(l=l0/\b=b1)\/(l≠l0/\lk st.bx l=some b):=fun l b hl=>by
  rw [xp] at hl
  by_cases e:l0=l
  · rw [if_pos e] at hl; injection hl with hl; exact .inl ⟨e.symm,hl.symm⟩
  · rw [if_neg e] at hl; exact .inr ⟨fun e'=>e e'.symm,hl⟩
 have any:∀ l b,lk ((l0,some b1)::st.bx) l=some b->∃ b',lk st.bx l=some b':=fun l b hl=>by
  rcases key l b hl with ⟨rfl,_⟩ | ⟨_,h⟩
  · exact ⟨_,h0⟩
  · exact ⟨_,h⟩
 refine ⟨fun l b hl=>?_,fun l b hl=>?_,fun l b hl=>?_,fun l l' b b' h1 h2 he=>?_,hs.tgIn,hs.tgInj,hs.tgLt,hs.nm,hs.ob⟩
 · show Al.look (lay s.box _ _) _=_
   rcases key l b hl with ⟨rfl,rfl⟩ | ⟨h1,h2⟩
   · rw [zW,if_pos rfl]
   · rw [zW,if_neg (fun e=>h1 (hs.inj l l0 b b0 h2 h0 e.symm)),hs.box l b h2]
 · obtain ⟨b',h⟩:=any l b hl
   exact hs.lt l b' h
 · rcases key l b hl with ⟨rfl,rfl⟩ | ⟨h1,h2⟩
   · exact hw
   · exact hs.wf l b h2
 · obtain ⟨x,hx⟩:=any l b h1
   obtain ⟨y,hy⟩:=any l' b' h2
   exact hs.inj l l' x y hx hy he
theorem SSim.newTok {st:St U} {s:S} (hs:SSim C N st s) {n:Nat} {tg:List Nat} {tg':List Nat} {x:Nat} (h1:∀ t ∈ tg,t ∈ st.tg) (h2:∀ t ∈ tg,N.tk t ∈ tg') (h3:∀ t ∈ tg,N.tk t≠n) (h4:s.nx<=x) (h5:n < x) :
 SSim C (N.tok st.nx n) ⟨st.bx,st.nx::tg,st.nl,st.nx+1,st.ob⟩ ⟨s.box,n::tg',x,s.ob⟩:=by
 have hext:=N.ext_tok st.nl st.nx n
 have htk:∀ t,t < st.nx->(N.tok st.nx n).tk t=N.tk t:=hext.tk
 have htn:(N.tok st.nx n).tk st.nx=n:=if_pos rfl
 refine ⟨fun l b hl=>?_,hs.lt,fun l b hl=>?_,fun l l' b b' q1 q2 he=>hs.inj l l' b b' q1 q2 he,?_,?_,?_,?_,hs.ob.ext hext (Nat.le_refl _)⟩
 · rw [zBu hs hext (Nat.le_refl _) (Nat.le_refl _) hl]
   exact hs.box l b hl
 · exact zBw hext (Nat.le_refl _) (Nat.le_succ _) (hs.lt l b hl) (hs.wf l b hl)
 · intro t ht
   rcases List.mem_cons.1 ht with rfl | ht
   · rw [htn]; simp
   · rw [htk t (hs.tgLt t (h1 t ht))]
     exact List.mem_cons_of_mem _ (h2 t ht)
 · intro t ht t' ht' he
   rcases List.mem_cons.1 ht with rfl | ht
   · rcases List.mem_cons.1 ht' with rfl | ht'
     · rfl
     · rw [htn,htk t' (hs.tgLt t' (h1 t' ht'))] at he
       exact absurd he.symm (h3 t' ht')
   · rcases List.mem_cons.1 ht' with rfl | ht'
     · rw [htn,htk t (hs.tgLt t (h1 t ht))] at he
       exact absurd he (h3 t ht)
     · rw [htk t (hs.tgLt t (h1 t ht)),htk t' (hs.tgLt t' (h1 t' ht'))] at he
       exact hs.tgInj t (h1 t ht) t' (h1 t' ht') he
 · intro t ht
   show t < st.nx+1
   rcases List.mem_cons.1 ht with rfl | ht
   · omega
   · have:=hs.tgLt t (h1 t ht); omega
 · intro t ht
   show _ < x
   rcases List.mem_cons.1 ht with rfl | ht
   · rw [htn]; exact h5
   · rw [htk t (hs.tgLt t (h1 t ht))]
     have:=hs.nm t (h1 t ht); omega
theorem zBY (hC:CodOk C) (i:U.I) (xs:List (U.den i)):xJ (C.cells i) (xs.map (C.encV i)):=fun x hx=>by
 obtain ⟨y,_,rfl⟩:=List.mem_map.1 hx
 exact hC.size i y
theorem jb (hC:CodOk C) (i:U.I):∀ xs:List (U.den i),(zb (xs.map (C.encV i))).length=xs.length * C.cells i
 | []=>by simp [zb]
 | x::r=>by
  have h1:=hC.size i x
  have h2:=hC.ones i x
  have h3:(C.encV i x).flat.length=C.cells i:=by
   rw [<- h1]
   cases hx:C.encV i x with
   | agg fs=>rw [hx] at h2; simp only [V.flat] at h2 ⊢; simp only [V.size,yb h2]
   | _=>simp [V.flat,V.size]
  simp only [List.map_cons,zb,List.length_append,jb hC i r,h3,List.length_cons,Nat.add_mul]
  omega
theorem zAD (hC:CodOk C) (i:U.I) (x:U.den i):(C.encV i x).flat.length=C.cells i:=by
 have:=jb hC i [x]
 simpa [zb] using this
theorem zD9 (a b:List V):zb (a++b)=zb a++zb b:=by
 induction a with
 | nil=>rfl
 | cons x r ih=>simp [zb,ih]
theorem zBk (hC:CodOk C) (i:U.I):∀ xs:List (U.den i),zK (zb (xs.map (C.encV i)))
 | []=>rfl
 | x::r=>by
  simp only [List.map_cons,zb]
  exact zDt (hC.ones i x) (zBk hC i r)
theorem zAi (hC:CodOk C) (i:U.I):∀ (xs:List (U.den i)) (n:Nat),(zb (xs.map (C.encV i))).take (n * C.cells i)=zb ((xs.take n).map (C.encV i))
 | [],n=>by simp [zb]
 | x::r,0=>by simp [zb]
 | x::r,n+1=>by
  have h:=zAD hC i x
  have e:(n+1) * C.cells i=(C.encV i x).flat.length+n * C.cells i:=by rw [h,Nat.add_mul]; omega
  simp only [List.map_cons,zb,List.take_succ_cons]
  rw [e,List.take_length_add_append,zAi hC i r n]
theorem zAo (hC:CodOk C) (i:U.I):∀ (xs:List (U.den i)) (n:Nat),(zb (xs.map (C.encV i))).drop (n * C.cells i)=zb ((xs.drop n).map (C.encV i))
 | [],n=>by simp [zb]
 | x::r,0=>by simp [zb]
 | x::r,n+1=>by
  have h:=zAD hC i x
  have e:(n+1) * C.cells i=(C.encV i x).flat.length+n * C.cells i:=by rw [h,Nat.add_mul]; omega
  simp only [List.map_cons,zb,List.drop_succ_cons]
  rw [e,List.drop_length_add_append,zAo hC i r n]
theorem zH7 (hT:TbOk C P Tb) (hC:CodOk C) {st:St U} {s:S} (hs:SSim C N st s) {t:TypeId} {x n:T U} {xv nv:V} {K:V->Prop} {k:T U->Option R} (hx:VR C N x xv) (hn:VR C N n nv)
 (h:zDr C Tb st t x n k=some r) (hK:∀ v,k v=some r->K (trT C N v)):yk P t xv nv K:=by
 unfold zDr at h
 obtain ⟨i,el,hh,h1,h2,h3,h4⟩:=zBZ hT h
 clear h
 have h:=hh
 clear hh
 simp only at h
 split at h
 · rename_i _ n'
   split at h
   · rename_i m j xs
     obtain ⟨h5,h6⟩:=zO h
     simp only [Bool.and_eq_true,decide_eq_true_eq] at h5
     obtain ⟨rfl,h5⟩:=h5
     have hb:=zDZ h5
     have hlt:n'.toNat < xs.length:=by omega
     rw [hx.get (by simp),hn.get (by simp)]
     simp only [trT,yk,h1,List.length_map]
     rw [zLO xs _ hlt (C.dflt j)]
     refine ⟨h2.has,hb,by rw [hC.size,h3],?_⟩
     have:=hK _ h6
     simp only [trT,hC.enc] at this
     exact this
   · rename_i l m
     split at h
     · rename_i j ys hl
       obtain ⟨h5,h6⟩:=zO h
       simp only [Bool.and_eq_true,decide_eq_true_eq] at h5
       obtain ⟨rfl,h5⟩:=h5
       have hb:=zDZ h5
       rw [hx.get (by simp),hn.get (by simp)]
       simp only [trT,yk,h1]
       refine ⟨h2.has,hb,?_⟩
       have:=hK _ h6
       have hw:=hs.wf l _ hl
       simp only [trT,hw.1,Nat.add_zero,h3] at this
       simpa using this
     · cases h
   · cases h
 · cases h
theorem zF9 (hC:CodOk C) (i:U.I) (xs:List (U.den i)) (a o z:Nat) (ha:a < xs.length) (hz:o+z<=C.cells i) :
 (((zb (xs.map (C.encV i))).drop (a * C.cells i+o)).take z=((C.encV i (xs.getD a (C.dflt i))).flat.drop o).take z) /\
 (o < C.cells i->(zb (xs.map (C.encV i))).getD (a * C.cells i+o) .any=(C.encV i (xs.getD a (C.dflt i))).flat.getD o .any):=by
 have h1:(zb (xs.map (C.encV i))).drop (a * C.cells i)=(C.encV i (xs.getD a (C.dflt i))).flat++zb ((xs.drop (a+1)).map (C.encV i)):=by
  rw [zAo hC,List.drop_eq_getElem_cons ha]
  simp only [List.map_cons,zb,List.getD_eq_getElem?_getD,List.getElem?_eq_getElem ha,Option.getD_some]
 have h2:=zAD hC i (xs.getD a (C.dflt i))
 refine ⟨?_,fun ho=>?_⟩
 · rw [<- List.drop_drop,h1,List.drop_append_of_le_length (by omega),List.take_append_of_le_length (by rw [List.length_drop]; omega)]
 · have e:(zb (xs.map (C.encV i))).getD (a * C.cells i+o) .any=((zb (xs.map (C.encV i))).drop (a * C.cells i)).getD o .any:=by
    simp only [List.getD_eq_getElem?_getD,List.getElem?_drop]
   rw [e,h1]
   rw [List.getD_eq_getElem?_getD (l:=_++_),List.getElem?_append_left (by omega),<- List.getD_eq_getElem?_getD]
theorem zFu (hT:TbOk C P Tb) (hC:CodOk C) {st:St U} {s:S} (hs:SSim C N st s) {t:TypeId} {x:T U} {xv:V} {K:V->Prop} {k:T U->Option R} (hx:VR C N x xv)
 (h:zIT C Tb st t x k=some r) (hK:∀ v,k v=some r->K (trT C N v)):xQ P s t xv K:=by
 unfold zIT at h
 split at h
 · obtain ⟨h1,h2⟩:=zO h
   rw [hx.get (by simp)]
   exact ⟨zOh (fun hh=>hT _ hh) h1,hK _ h2⟩
 · rename_i l o
   split at h
   · rename_i cs hl
     rw [hx.get (by simp)]
     simp only [trT,xQ,hs.box l _ hl,trB]
     exact zDR (fun hh=>hT _ hh) h hK
   · cases h
 · rename_i l a o
   split at h
   · rename_i i xs hl
     obtain ⟨h1,h2⟩:=zO h
     simp only [Bool.and_eq_true,Nat.ble_eq] at h1
     have ha:=xo h1.2
     have hw:=hs.wf l _ hl
     rw [hx.get (by simp)]
     simp only [trT,xQ,hs.box l _ hl,trB,hw.1]
     rw [zAx] at h2
     obtain ⟨q1,q2⟩:=zDR (P:=P) (t:=t) (fun hh=>hT _ hh) h2 hK
     have e0:(C.enc i (xs.getD a (C.dflt i))).flat.map (trT C N)=(C.encV i (xs.getD a (C.dflt i))).flat:=by rw [<- qf,hC.enc]
     rw [e0] at q1 q2
     obtain ⟨p1,p2,p3⟩:=q1
     have hc:P.cellsOf t=(Tb t).cells:=by
      have:(Tb t).has=true:=by
       unfold zDa at h2
       have:=(zO h2).1
       simp only [Bool.and_eq_true] at this
       exact this.1.1
      exact (hT t this).cells
     have hfl:=zAD hC i (xs.getD a (C.dflt i))
     have hlen:=jb hC i xs
     have hmul:(a+1) * C.cells i<=xs.length * C.cells i:=Nat.mul_le_mul_right _ ha
     rw [Nat.add_mul,Nat.one_mul] at hmul
     have hpe:=zF9 hC i xs a o (P.cellsOf t) ha (by rw [hc]; exact h1.1)
     refine ⟨⟨p1,by omega,p3⟩,?_⟩
     unfold yV at q2 ⊢
     split at q2
     · rename_i hag
       rw [if_pos hag,hpe.1]; exact q2
     · rename_i hag
       rw [if_neg hag,hpe.2 (by have:=p3 (by simpa using hag); omega)]; exact q2
   · cases h
 · cases h
theorem zKy {st:St U} {s:S} (hs:SSim C N st s) {cs:List (T U)} {cv:List V} (hcv:cs.map (trT C N)=cv) {K:V->S->Prop} {k:T U->St U->Option R} (h:dNew st cs k=some r) (hK:Kok C N st K k r):aNew s cv K:=by
 subst hcv
 unfold dNew at h
 obtain ⟨h1,h2⟩:=zO h
 simp only [Bool.and_eq_true] at h1
 refine ⟨(xD C N cs).2 h1.1,fun b hb=>?_⟩
 have hn:=hs.newBox (b:=b) (c:=0) (z:=0) (bx:=.st cs) hb ⟨xc (Nat.le_succ _) (Nat.le_refl _) _ h1.2,h1.1⟩
 have hext:=N.ext_loc st.nl st.nx b 0 0
 simp only [trB,xh hext h1.2] at hn
 have:=hK _ _ _ _ _ h2 ⟨hext,Nat.le_succ _,Nat.le_refl _⟩ hn (.inr rfl)
 simp only [trT] at this
 have e:(N.loc st.nl b 0 0).bl st.nl=b:=if_pos rfl
 rw [e] at this
 simpa using this
theorem zNN (hT:TbOk C P Tb) (hC:CodOk C) {st:St U} {s:S} (hs:SSim C N st s) {t:TypeId} {x y:T U} {xv yv:V} {K:S->Prop} {k:St U->Option R} (hx:VR C N x xv) (hy:VR C N y yv)
 (h:zKA C Tb st t x y k=some r) (hK:∀ st' s',k st' = some r->Turn N st N st'->SSim C N st' s'->K s'):qT P s t xv yv K:=by
 unfold zKA at h
 rw [zAx] at h
 have hq:=zO h
 clear h
 obtain ⟨h1,h⟩:=hq
 simp only [Bool.and_eq_true,Nat.beq_eq] at h1
 obtain ⟨⟨h1,h2⟩,h3⟩:=h1
 have hf:=hT t h1
 have hyn:y≠.any:=fun e=>by subst e; simp [T.flat,yJ,T.isOne] at h3
 have hyv:=hy.get hyn
 subst hyv
 split at h
 · rename_i l o
   split at h
   · rename_i cs hl
     obtain ⟨h4,h5⟩:=zO h
     simp only [Bool.and_eq_true,Nat.ble_eq] at h4
     rw [zAx] at h5
     rw [hx.get (by simp)]
     simp only [trT,qT,hs.box l _ hl,trB,qf,List.length_map]
     refine ⟨hf.has,by rw [hf.cells]; exact h2,(xD C N _).2 h3,h4.1,?_⟩
     have hw:=hs.wf l _ hl
     have hlen:(splT cs o y.flat).length=cs.length:=by simp [splT]; omega
     have hone:yJ (splT cs o y.flat)=true:=by
      have h1:=hw.2
      unfold yJ at *
      rw [List.all_eq_true] at *
      intro z hz
      simp only [splT,List.mem_append] at hz
      rcases hz with (hz | hz) | hz
      · exact h1 z (List.mem_of_mem_take hz)
      · exact h3 z hz
      · exact h1 z (List.mem_of_mem_drop hz)
     have hbd:bdds st.nl st.nx (splT cs o y.flat)=true:=by
      have key:∀ l:List (T U),bdds st.nl st.nx l=true↔∀ z ∈ l,bdd st.nl st.nx z=true:=fun l=>by
       induction l with
       | nil=>simp [bdds]
       | cons a r ih=>simp [bdds,ih]
      rw [key]
      intro z hz
      simp only [splT,List.mem_append] at hz
      rcases hz with (hz | hz) | hz
      · exact (key _).1 hw.1 z (List.mem_of_mem_take hz)
      · exact (key _).1 h4.2 z hz
      · exact (key _).1 hw.1 z (List.mem_of_mem_drop hz)
     have hn:=hs.setBox (b1:=.st (splT cs o y.flat)) hl ⟨hbd,hone⟩
     simp only [trB,zHB,hlen] at hn
     exact hK _ _ h5 ⟨.refl _ _ _,Nat.le_refl _,Nat.le_refl _⟩ hn
   · cases h
 · rename_i l a o
   split at h
   · rename_i i xs hl
     obtain ⟨h4,h5⟩:=zO h
     simp only [Bool.and_eq_true,Nat.ble_eq] at h4
     obtain ⟨⟨hp,ho⟩,ha⟩:=h4
     have ha:=xo ha
     obtain ⟨x',h6,h7⟩:=hC.decP i _ _ _ hp h5
     have hw:=hs.wf l _ hl
     rw [hx.get (by simp)]
     simp only [trT,qT,hs.box l _ hl,trB,qf,List.length_map,hw.1]
     have hlen:=jb hC i xs
     have hfl:=zAD hC i (xs.getD a (C.dflt i))
     have hmul:(a+1) * C.cells i<=xs.length * C.cells i:=Nat.mul_le_mul_right _ ha
     rw [Nat.add_mul,Nat.one_mul] at hmul
     refine ⟨hf.has,by rw [hf.cells]; exact h2,(xD C N _).2 h3,by omega,?_⟩
     have hn:=hs.setBox (b1:=.ar i (xs.set a x')) hl ⟨hw.1,by rw [List.length_set]; exact hw.2⟩
     simp only [trB] at hn
     have e:spl (zb (xs.map (C.encV i))) (a * C.cells i+o) (y.flat.map (trT C N))=zb ((xs.set a x').map (C.encV i)):=by
      have h8:=h7 N
      have e1:(C.enc i (xs.getD a (C.dflt i))).flat.map (trT C N)=(C.encV i (xs.getD a (C.dflt i))).flat:=by rw [<- qf,hC.enc]
      have e2:(C.encV i x').flat=spl (C.encV i (xs.getD a (C.dflt i))).flat o (y.flat.map (trT C N)):=by
       rw [<- h8,qf,<- e1,<- zHB]
       unfold asEl
       cases hag:C.agg i with
       | true=>rfl
       | false=>
        have h9:=hC.one i hag
        have h10:(C.enc i (xs.getD a (C.dflt i))).flat.length=1:=by
         have:=congrArg List.length e1
         rw [List.length_map,hfl,h9] at this
         exact this
        have h11:(splT (C.enc i (xs.getD a (C.dflt i))).flat o y.flat).length=1:=by rw [splT,List.length_append,List.length_append,List.length_take,List.length_drop,h10]; omega
        match hq:splT (C.enc i (xs.getD a (C.dflt i))).flat o y.flat,h11 with
        | [z],_=>
         simp only [cond_false,List.headD_cons]
         have:yJ [z]=true:=by
          rw [<- hq]
          unfold yJ
          rw [List.all_eq_true]
          intro u hu
          simp only [splT,List.mem_append] at hu
          have hones:yJ (C.enc i (xs.getD a (C.dflt i))).flat=true:=(xD C N _).1 (by rw [e1]; exact hC.ones i _)
          unfold yJ at hones h3
          rw [List.all_eq_true] at hones h3
          rcases hu with (hu | hu) | hu
          · exact hones u (List.mem_of_mem_take hu)
          · exact h3 u hu
          · exact hones u (List.mem_of_mem_drop hu)
         cases z <;> simp [yJ,T.isOne] at this <;> rfl
      have ex:xs.set a x' = xs.take a++x' :: xs.drop (a+1):=by rw [List.set_eq_take_append_cons_drop,if_pos ha]
      rw [ex,List.map_append,zD9,List.map_cons]
      simp only [zb]
      rw [e2]
      unfold spl
      rw [<- zAi hC,<- zAo hC]
      have d1:(zb (xs.map (C.encV i))).take (a * C.cells i+o)=(zb (xs.map (C.encV i))).take (a * C.cells i)++(C.encV i (xs.getD a (C.dflt i))).flat.take o:=by
       rw [List.take_add]
       congr 1
       have:=(zF9 hC i xs a 0 o ha (by omega)).1
       simpa using this
      have d2:(zb (xs.map (C.encV i))).drop (a * C.cells i+o+(y.flat.map (trT C N)).length)=(C.encV i (xs.getD a (C.dflt i))).flat.drop (o+(y.flat.map (trT C N)).length)++(zb (xs.map (C.encV i))).drop ((a+1) * C.cells i):=by
       have hd:(zb (xs.map (C.encV i))).drop (a * C.cells i)=(C.encV i (xs.getD a (C.dflt i))).flat++zb ((xs.drop (a+1)).map (C.encV i)):=by
        rw [zAo hC,List.drop_eq_getElem_cons ha]
        simp only [List.map_cons,zb,List.getD_eq_getElem?_getD,List.getElem?_eq_getElem ha,Option.getD_some]
       rw [Nat.add_assoc,<- List.drop_drop,hd,List.drop_append_of_le_length (by rw [List.length_map]; omega),zAo hC]
      rw [d1,d2]
      simp
     rw [e]
     exact hK _ _ h6 ⟨.refl _ _ _,Nat.le_refl _,Nat.le_refl _⟩ hn
   · cases h
 · cases h
theorem jB {i j:U.I} {xs:List (U.den j)} {k:List (U.den i)->Option R} (h:ku i j xs k=some r):∃ e:j=i,k (kw e xs)=some r:=by
 unfold ku at h
 split at h
 · rename_i e; exact ⟨e,h⟩
 · cases h
theorem zFg {b n:Nat} (h:okN b n=true):n * b<=140737488355328/\n<=maxLen:=by
 simpa [okN] using h
theorem zLX (hT:TbOk C P Tb) {el:TypeId} (hf:Facts C P el (Tb el)) (h:(match (Tb el).zero with | some z=>Nat.beq z.length (Tb el).cells | none=>false)=true) :
 (yZ P el).isSome=true/\(yZ P el).map List.length=some (P.cellsOf el):=by
 rw [hf.zero ⟨id,id,id,id⟩,hf.cells]
 split at h
 · rename_i z hz
   rw [hz]
   simp only [Nat.beq_eq] at h
   simp [h]
 · cases h
theorem zMO (hT:TbOk C P Tb) (hC:CodOk C) {L:Pol} {st:St U} {s:S} (hs:SSim C N st s) {dst:Option Nat} {t t2:TypeId} {x y:T U} {xv yv:V} {K:V->S->Prop} {k:T U->St U->Option R}
 (hx:VR C N x xv) (hy:VR C N y yv) (h:zG4 Tb L.wr dst st t t2 x y k=some r) (hK:Kok C N st K k r):xq P L dst s t t2 xv yv K:=by
 unfold zG4 at h
 obtain ⟨i,el,hh,h1,h2,h3,h4⟩:=zBZ hT h
 clear h
 have h:=hh
 clear hh
 simp only at h
 have hq:=zO h
 clear h
 obtain ⟨h5,h⟩:=hq
 simp only [Bool.and_eq_true,Nat.beq_eq] at h5
 obtain ⟨rfl,hz⟩:=h5
 have hz:=(zLX hT h2 hz).2
 have hwd:wrD L.wr dst=(dst.map L.wr).getD false:=by cases dst <;> rfl
 rw [hwd] at h
 split at h
 · rename_i m j ys'
   have hq:=jB h; clear h; obtain ⟨rfl,h⟩:=hq
   simp only [kw] at h
   have hyv:=hy.get (by simp)
   subst hyv
   simp only [trT,xq,h1]
   refine ⟨trivial,h2.has,hz,by rw [<- h3]; exact hC.pos j,by rw [<- h3]; exact zBY hC j ys',?_⟩
   split at h
   · have hq:=zO h
     clear h
     obtain ⟨h6,h⟩:=hq
     have h6:=zFg h6
     rw [hx.get (by simp)]
     simp only [trT,List.length_map]
     refine ⟨by rw [h2.bytes]; exact h6.1,h6.2,?_⟩
     split
     · rename_i hw
       rw [hw] at h
       simp only [cond_true] at h
       have hq:=zO h
       clear h
       obtain ⟨h7,h⟩:=hq
       refine ⟨by cases ys' <;> simp at h7 ⊢,zBk hC j ys',fun b cap hb hcap=>?_⟩
       have hn:=hs.newBox (b:=b) (c:=cap) (z:=C.cells j) (bx:=.ar j ys') hb ⟨if_pos rfl,by show _<=if _ then _ else _; rw [if_pos rfl]; exact hcap⟩
       have hext:=N.ext_loc st.nl st.nx b cap (C.cells j)
       have ec:(N.loc st.nl b cap (C.cells j)).cp st.nl=cap:=if_pos rfl
       have eb:(N.loc st.nl b cap (C.cells j)).bl st.nl=b:=if_pos rfl
       simp only [trB,ec] at hn
       have:=hK _ _ _ _ _ h ⟨hext,Nat.le_succ _,Nat.le_refl _⟩ hn (.inr rfl)
       simp only [trT,ec,eb] at this
       rw [<- h3]
       exact this
     · rename_i hw
       have hw:(Option.map L.wr dst).getD false=false:=by simpa using hw
       rw [hw] at h
       simp only [cond_false] at h
       have hn:=hs.newTok (n:=s.nx) (tg:=st.tg) (tg':=s.tg) (x:=s.nx+1) (fun _ h=>h) hs.tgIn (fun t ht=>Nat.ne_of_lt (hs.nm t ht)) (Nat.le_succ _) (Nat.lt_succ_self _)
       have:=hK _ _ _ _ _ h ⟨N.ext_tok st.nl st.nx s.nx,Nat.le_refl _,Nat.le_succ _⟩ hn (.inr rfl)
       simp only [trT,trM] at this
       have e:(N.tok st.nx s.nx).tk st.nx=s.nx:=if_pos rfl
       rw [e,h3] at this
       exact this
   · rename_i m' j' xs'
     split at h
     · rename_i tk nb
       have hq:=jB h; clear h; obtain ⟨rfl,h⟩:=hq
       simp only [kw] at h
       have hq:=zO h
       clear h
       obtain ⟨h6,h⟩:=hq
       simp only [Bool.and_eq_true] at h6
       have h7:=zFg h6.2
       have hm:=zCT h6.1
       rw [hx.get (by simp)]
       simp only [trT,trM,List.length_map]
       refine ⟨hs.tgIn _ hm,h3,by rw [h2.bytes]; exact h7.1,h7.2,?_⟩
       have hn:=hs.newTok (n:=s.nx) (tg:=rmN st.tg tk) (tg':=s.tg.erase (N.tk tk)) (x:=s.nx+1) (fun t ht=>(jG ht).1) (fun t ht=>by
        obtain ⟨q1,q2⟩:=jG ht
        exact (List.mem_erase_of_ne (fun e=>q2 (hs.tgInj t q1 tk hm e))).2 (hs.tgIn t q1)) (fun t ht=>Nat.ne_of_lt (hs.nm t (jG ht).1)) (Nat.le_succ _) (Nat.lt_succ_self _)
       have:=hK _ _ _ _ _ h ⟨N.ext_tok st.nl st.nx s.nx,Nat.le_refl _,Nat.le_succ _⟩ hn (.inr rfl)
       simp only [trT,trM] at this
       have e:(N.tok st.nx s.nx).tk st.nx=s.nx:=if_pos rfl
       rw [e,List.map_append] at this
       exact this
     · cases h
   · rename_i l n
     split at h
     · rename_i j' xs' hl
       have hq:=jB h; clear h; obtain ⟨rfl,h⟩:=hq
       simp only [kw] at h
       have hq:=zO h
       clear h
       obtain ⟨h6,h⟩:=hq
       simp only [Bool.and_eq_true,Nat.ble_eq] at h6
       obtain ⟨⟨h7,h8⟩,h9⟩:=h6
       have h9:=zFg h9
       have hw:=hs.wf l _ hl
       rw [hx.get (by simp)]
       simp only [trT,hs.box l _ hl,trB,List.length_map]
       refine ⟨h7,by rw [h3],by have:=hw.2; omega,by rw [jb hC,<- h3]; exact Nat.mul_le_mul_right _ h8,by rw [h2.bytes]; exact h9.1,h9.2,zBk hC j' ys',fun b' cap' hb hcap=>?_⟩
       have hd:=hs.drop l hl
       have hn:=hd.newBox (b:=b') (c:=cap') (z:=C.cells j') (bx:=.ar j' (xs'.take n++ys')) hb ⟨if_pos rfl,by
        show _<=if _ then _ else _
        rw [if_pos rfl,List.length_append,List.length_take]; omega⟩
       have hext:=N.ext_loc st.nl st.nx b' cap' (C.cells j')
       have ec:(N.loc st.nl b' cap' (C.cells j')).cp st.nl=cap':=if_pos rfl
       have eb:(N.loc st.nl b' cap' (C.cells j')).bl st.nl=b':=if_pos rfl
       simp only [trB,ec] at hn
       have:=hK _ _ _ _ _ h ⟨hext,Nat.le_succ _,Nat.le_refl _⟩ hn (.inr rfl)
       simp only [trT,ec,eb] at this
       rw [List.map_append,zD9,<- zAi hC] at this
       rw [<- h3]
       exact this
     · cases h
   · cases h
 · cases h
end
open Go.Al
section
variable {U:TyU} {C:Cod U} {P:Program} {Tb:TypeId->TD U} {R:Type} {r:R} {N:NM}
theorem zMB (s:List UInt8) (a b:Nat):(⟨s.toArray⟩:ByteArray).extract a b=⟨((s.take b).drop a).toArray⟩:=by
 apply ByteArray.ext
 simp [ByteArray.data_extract,List.extract_toArray,List.extract_eq_take_drop,List.drop_take]
def OR (C:Cod U) (N:NM) (x:Option (T U)) (v:Option V):Prop:=match x,v with | none,none=>True | some x,some v=>VR C N x v | _,_=>False
theorem zNz (hT:TbOk C P Tb) (hC:CodOk C) {st:St U} {s:S} (hs:SSim C N st s) {t:TypeId} {x:T U} {xv:V} {lo hi:Option (T U)} {lov hiv:Option V} {K:V->Prop} {k:T U->Option R} (hx:VR C N x xv)
 (hlo:OR C N lo lov) (hhi:OR C N hi hiv) (h:zIs C Tb st t x lo hi k=some r) (hK:∀ v,k v=some r->K (trT C N v)):qq P t xv lov hiv K:=by
 unfold zIs at h
 split at h
 · rename_i m j xs
   obtain ⟨i,el,hh,h1,h2,h3,h4⟩:=zBZ hT h
   clear h
   have hq:=zO hh; clear hh
   obtain ⟨h5,h⟩:=hq
   simp only [decide_eq_true_eq] at h5
   subst h5
   rw [hx.get (by simp)]
   simp only [trT,qq,h1]
   refine ⟨h2.has,.inr fun y hy=>by rw [<- h3]; exact zBY hC j xs y (List.mem_of_mem_take hy),?_⟩
   refine zBQ hlo h fun l hl=>?_
   rw [List.length_map]
   refine zBQ hhi hl fun hh hl2=>?_
   obtain ⟨h6,h7⟩:=zO hl2
   refine ⟨zFU h6,?_⟩
   have:=hK _ h7
   simp only [trT,cutL,List.map_drop,List.map_take] at this
   rw [zQy m xs (cutL xs l hh)]
   simpa [cutL,List.map_drop,List.map_take] using this
 · rename_i l0 n
   obtain ⟨i,el,hh,h1,h2,h3,h4⟩:=zBZ hT h
   clear h
   split at hh
   · split at hh
     · rename_i j xs hl
       have hq:=zO hh; clear hh
       obtain ⟨h5,h⟩:=hq
       simp only [decide_eq_true_eq] at h5
       subst h5
       cases lov with
       | some _=>exact hlo.elim
       | none=>
        rw [hx.get (by simp)]
        simp only [trT,qq,h1]
        refine ⟨h2.has,?_⟩
        have e0:∀ (d:Int) (K:Int->Prop),jK none d K=K d:=fun _ _=>rfl
        rw [e0]
        refine zBQ hhi h fun hh hl2=>?_
        obtain ⟨h6,h7⟩:=zO hl2
        obtain ⟨q1,q2,q3⟩:=zFU h6
        have hw:=hs.wf l0 _ hl
        refine ⟨⟨q1,q2,by have:=hw.2; omega⟩,?_⟩
        have:=hK _ h7
        simp only [trT] at this
        have e1:(if ((N.cp l0:Nat):Int)=0 then 0 else 0+(0:Int).toNat * P.cellsOf el)=0:=by split <;> simp
        rw [e1]
        simpa using this
     · cases hh
   · cases hh
 · rename_i s'
   obtain ⟨h1,h2⟩:=zO h
   simp only [Bool.and_eq_true] at h1
   rw [hx.get (by simp)]
   simp only [trT,qq]
   refine ⟨(hT t h1.1).isStr.trans h1.2,?_⟩
   refine zBQ hlo h2 fun l hl=>?_
   have e:((⟨s'.toArray⟩:ByteArray).size:Int)=lenI s':=by simp [ByteArray.size,lenI]
   rw [e]
   refine zBQ hhi hl fun hh hl2=>?_
   obtain ⟨h6,h7⟩:=zO hl2
   refine ⟨by have:=zFU h6; simpa [lenI] using this,?_⟩
   have:=hK _ h7
   simp only [trT,cutL] at this
   rw [zMB]
   exact this
 · split at h
   · rename_i fs
     split at h
     · split at h
       · split at h
         · rename_i m i hr
           obtain ⟨h1,h2⟩:=zO h
           simp only [Bool.and_eq_true,Nat.beq_eq,Bool.not_eq_true'] at h1
           obtain ⟨⟨⟨⟨h3,h4⟩,h5⟩,h6⟩,h7⟩:=h1
           obtain ⟨xs,h8,h9⟩:=zFb hC h4 h2
           rw [hx.get (by simp)]
           cases lov with
           | some _=>exact hlo.elim
           | none=>
            cases hiv with
            | some _=>exact hhi.elim
            | none=>
             simp only [trT,qq,yu]
             have hq:=hK _ h8
             simp only [trT,trM,Bool.false_eq_true,if_false] at hq
             refine ⟨by rw [List.length_map,<- h6]; exact (hT t h3).arr m i hr,(xD C N fs).2 h5,fun e=>?_,trivial,trivial,by rw [h9 N]; exact hq⟩
             have:fs=[]:=by simpa using e
             subst this
             simp at h7
         · cases h
       · cases h
     · cases h
   · cases h
 · cases h
theorem zEO (hC:CodOk C) {i:U.I}:∀ {parts:List (Nat×T U)} {k:List (U.den i)->Option R},zGS C i parts k=some r ->
 ∃ xs,k xs=some r/\(∀ N,parts.map (fun p=>(trT C N p.2).untag)=xs.map (C.encV i))/\(C.plain i=true->∀ N,parts.map (fun p=>trT C N p.2)=xs.map (C.encV i))
 | [],k,h=>⟨[],h,fun _=>rfl,fun _ _=>rfl⟩
 | p::rest,k,h=>by
  simp only [zGS] at h
  by_cases hp:C.plain i=true
  · obtain ⟨x,h1,h2⟩:=hC.decP i _ _ _ hp h
    obtain ⟨xs,h3,h4,h5⟩:=zEO hC h1
    exact ⟨x::xs,h3,fun N=>by rw [List.map_cons,List.map_cons,h4 N,h2 N,hC.untag],fun hp N=>by rw [List.map_cons,List.map_cons,h5 hp N,h2 N]⟩
  · obtain ⟨x,h1,h2⟩:=hC.dec i _ _ _ h
    obtain ⟨xs,h3,h4,h5⟩:=zEO hC h1
    exact ⟨x::xs,h3,fun N=>by rw [List.map_cons,List.map_cons,h4 N,h2 N],fun hp'=>absurd hp' hp⟩
def PR (C:Cod U) (N:NM) (parts:List (Nat×T U)) (vs:List (Nat×V)):Prop:=vs.map (·.1)=parts.map (·.1)/\∀ (j:Nat) (x:Nat×T U) (v:Nat×V),parts[j]? = some x->vs[j]? = some v->VR C N x.2 v.2
theorem PR.exact:∀ {parts:List (Nat×T U)} {vs:List (Nat×V)},PR C N parts vs->zBq parts=true->vs=parts.map fun p=>(p.1,trT C N p.2)
 | [],vs,h,_=>by have:=h.1; simpa using this
 | p::rest,vs,h,ho=>by
  simp only [zBq,Bool.and_eq_true] at ho
  cases vs with
  | nil=>have:=h.1; simp at this
  | cons v vs=>
   have h1:=h.1
   simp only [List.map_cons,List.cons.injEq] at h1
   have hv:=h.2 0 p v rfl rfl
   have hne:p.2≠.any:=fun e=>by rw [e] at ho; simp [T.flat,yJ,T.isOne] at ho
   have:=PR.exact (parts:=rest) (vs:=vs) ⟨h1.2,fun j x v a b=>h.2 (j+1) x v (by simpa using a) (by simpa using b)⟩ ho.2
   rw [this]
   simp only [List.map_cons,List.cons.injEq]
   exact ⟨by rw [<- h1.1,<- hv.get hne],trivial⟩
theorem zId {f:T U->V}:∀ {n:Nat} {parts:List (Nat×T U)},zIU n parts=true->jE n (parts.map fun p=>(p.1,f p.2))=true
 | _,[],_=>rfl
 | n,p::rest,h=>by
  simp only [zIU,Bool.and_eq_true,Nat.beq_eq] at h
  simp only [List.map_cons,jE,Bool.and_eq_true,beq_iff_eq]
  exact ⟨h.1,zId h.2⟩
theorem zGD (N:NM):∀ {parts:List (Nat×T U)},zBq parts=true->(parts.map fun p=>(p.1,trT C N p.2)).all (fun p=>p.2.flat.all V.isOne)=true
 | [],_=>rfl
 | p::rest,h=>by
  simp only [zBq,Bool.and_eq_true] at h
  simp only [List.map_cons,List.all_cons,Bool.and_eq_true]
  refine ⟨?_,zGD N h.2⟩
  have:=(xD C N p.2.flat).2 h.1
  rw [<- qf] at this
  exact this
theorem zGs (hT:TbOk C P Tb) (hC:CodOk C) {L:Pol} {st:St U} {s:S} (hs:SSim C N st s) {dst:Option Nat} {t:TypeId} {n:Nat} {parts:List (Nat×T U)} {vs:List (Nat×V)} {K:V->S->Prop} {k:T U->St U->Option R}
 (hp:PR C N parts vs) (h:zCm C Tb L.wr L.own dst st t n parts k=some r) (hK:Kok C N st K k r):yN P L dst s t n vs K:=by
 unfold zCm at h
 obtain ⟨i,el,hh,h1,h2,h3,h4⟩:=zBZ hT h
 clear h
 have hq:=zO hh; clear hh
 obtain ⟨h5,h⟩:=hq
 simp only [Bool.and_eq_true,Nat.ble_eq,Nat.beq_eq,decide_eq_true_eq] at h5
 obtain ⟨⟨⟨⟨⟨hz,h6⟩,h7⟩,h8⟩,h9⟩,h10⟩:=h5
 have hz:=zLX hT h2 hz
 have hex:=hp.exact h10
 subst hex
 obtain ⟨xs,h11,h12,h13⟩:=zEO hC h
 clear h
 have hwd:wrD L.wr dst=(dst.map L.wr).getD false:=by cases dst <;> rfl
 have hod:wrD L.own dst=(dst.map L.own).getD false:=by cases dst <;> rfl
 rw [hwd,hod] at h11
 have hlen:xs.length=n:=by
  have:=congrArg List.length (h12 N)
  simp only [List.length_map] at this
  omega
 have hes:(List.map (fun p=>(p.1,trT C N p.2)) parts).map (fun p=>p.2.untag)=xs.map (C.encV i):=by
  rw [List.map_map]; exact h12 N
 unfold yN
 simp only [h1,hes]
 refine ⟨h2.has,hz.1,hz.2,by rw [h2.cells]; exact h6,h7,by rw [List.length_map]; exact h8,zId h9,by rw [<- h3]; exact zBY hC i xs,zGD N h10,?_⟩
 split
 · rename_i hw
   rw [hw] at h11
   simp only [cond_true] at h11
   obtain ⟨h14,h15⟩:=zO h11
   have e:(List.map (fun p=>(p.1,trT C N p.2)) parts).map (·.2)=xs.map (C.encV i):=by
    rw [List.map_map]; exact h13 h14 N
   rw [e]
   refine ⟨zBk hC i xs,fun b hb=>?_⟩
   have hn:=hs.newBox (b:=b) (c:=n) (z:=C.cells i) (bx:=.ar i xs) hb ⟨if_pos rfl,by show _<=if _ then _ else _; rw [if_pos rfl,hlen]; exact Nat.le_refl _⟩
   have hext:=N.ext_loc st.nl st.nx b n (C.cells i)
   have ec:(N.loc st.nl b n (C.cells i)).cp st.nl=n:=if_pos rfl
   have eb:(N.loc st.nl b n (C.cells i)).bl st.nl=b:=if_pos rfl
   simp only [trB,ec] at hn
   have:=hK _ _ _ _ _ h15 ⟨hext,Nat.le_succ _,Nat.le_refl _⟩ hn (.inr rfl)
   simp only [trT,ec,eb] at this
   rw [<- h3]
   exact this
 · rename_i hw
   have hw:(Option.map L.wr dst).getD false=false:=by simpa using hw
   rw [hw] at h11
   simp only [cond_false] at h11
   split
   · rename_i ho
     rw [ho] at h11
     simp only [cond_true] at h11
     have hn:=hs.newTok (n:=s.nx) (tg:=st.tg) (tg':=s.tg) (x:=s.nx+1) (fun _ h=>h) hs.tgIn (fun t ht=>Nat.ne_of_lt (hs.nm t ht)) (Nat.le_succ _) (Nat.lt_succ_self _)
     have:=hK _ _ _ _ _ h11 ⟨N.ext_tok st.nl st.nx s.nx,Nat.le_refl _,Nat.le_succ _⟩ hn (.inr rfl)
     simp only [trT,trM] at this
     have e:(N.tok st.nx s.nx).tk st.nx=s.nx:=if_pos rfl
     rw [e,h3] at this
     exact this
   · rename_i ho
     have ho:(Option.map L.own dst).getD false=false:=by simpa using ho
     rw [ho] at h11
     simp only [cond_false] at h11
     have:=hK _ _ _ _ _ h11 ⟨.refl _ _ _,Nat.le_refl _,Nat.le_refl _⟩ hs (.inr rfl)
     simpa [trT,trM] using this
def zCz (C:Cod U) (P:Program) (L:Pol) (call:Call U R) (r:R) (PP:List PanicEntry->Prop):Prop:=
 ∀ n args ks st k N s,SSim C N st s->bdds st.nl st.nx args=true->zB6 args=true->call n args ks st k=some r ->
  ∀ K KP kb,(∀ b ∈ kb,∃ l ∈ ks,N.bl l=b)->Kok C N st K k r->(∀ c s,PP c->KP c s)->zCi P L kb (.clo (.func n) []) (args.map (trT C N)) s K KP
structure KdOk (L:Pol) (kd:KD) (N:NM) (nl:Nat):Prop where
 kl:∀ p ∈ L.kl,∃ l,(p.1,p.2,l) ∈ kd
 kb:∀ d b,b ∈ L.kb d->∃ u l,(d,u,l) ∈ kd/\N.bl l=b
 kb2:∀ d u l,(d,u,l) ∈ kd->N.bl l ∈ L.kb d/\l < nl
theorem KdOk.turn {L:Pol} {kd:KD} {N N':NM} {st st':St U} (h:KdOk L kd N st.nl) (t:Turn N st N' st'):KdOk L kd N' st'.nl:=
 ⟨h.kl,fun d b hb=>let ⟨u,l,h1,h2⟩:=h.kb d b hb; ⟨u,l,h1,(t.ext.bl l (h.kb2 d u l h1).2).trans h2⟩,fun d u l hm=>let ⟨h1,h2⟩:=h.kb2 d u l hm; ⟨by rw [t.ext.bl l h2]; exact h1,Nat.lt_of_lt_of_le h2 t.nl⟩⟩
theorem ldD_ok {L:Pol} {kd:KD} {st:St U} {e:En U} {E:Env} (hk:KdOk L kd N st.nl) (he:ESim C N st e E) {x:Operand} (h:ldD kd x e=true):ldK L x (E.ev x):=by
 cases x with
 | tmp u=>
  intro p hp hu b o hv
  subst hu
  obtain ⟨l,hl⟩:=hk.kl p hp
  have h1:=List.all_eq_true.1 h _ hl
  have hb:Nat.beq p.2 p.2=true:=by simp
  simp only [hb,Bool.not_true,Bool.false_or] at h1
  have h2:=(he p.2).1
  have h3:=hk.kb2 p.1 p.2 l hl
  change E.get p.2=_ at hv
  split at h1
  · rename_i l' o' hq
    have:l' = l:=by simpa using h1
    subst this
    rw [hq] at h2
    have:=h2.get (by simp)
    rw [hv] at this
    simp only [trT] at this
    injection this with this
    injection this with this
    injection this with this
    injection this with e1 _ _
    rw [e1]; exact h3.1
  · rename_i y hq
    rw [hq] at h2
    have:=h2.get (by simp)
    rw [hv] at this
    simp [trT] at this
  · cases h1
 | _=>trivial
theorem stD_ok {L:Pol} {kd:KD} {st:St U} {s:S} {e:En U} {E:Env} (hk:KdOk L kd N st.nl) (hs:SSim C N st s) (he:ESim C N st e E) {x:Operand} (h:stD kd x e st=true):stK L x (E.ev x):=by
 cases x with
 | tmp a=>
  intro b o hv hb
  obtain ⟨u,l2,hm,he2⟩:=hk.kb _ b hb
  have h1:=List.all_eq_true.1 h _ hm
  have hbq:Nat.beq (1000000+a) (1000000+a)=true:=by simp
  simp only [hbq,Bool.not_true,Bool.false_or] at h1
  have h2:=(he a).1
  change E.get a=_ at hv
  split at h1
  · rename_i l o' hq
    simp only [Bool.and_eq_true,Bool.not_eq_true'] at h1
    rw [hq] at h2
    have:=h2.get (by simp)
    rw [hv] at this
    simp only [trT] at this
    injection this with this
    injection this with this
    injection this with this
    injection this with e1 _ _
    have live:∀ j,zIO st j=true->∃ bx,lk st.bx j=some bx:=fun j hj=>by
     unfold zIO at hj
     split at hj
     · rename_i bx hb; exact ⟨bx,hb⟩
     · cases hj
    obtain ⟨b1,k1⟩:=live _ h1.1.2
    obtain ⟨b2,k2⟩:=live _ h1.2
    have:=hs.inj l l2 b1 b2 k1 k2 (e1.symm.trans he2.symm)
    subst this
    simp at h1
  · cases h1
 | _=>trivial
theorem zQ9 {kd:KD} {d u l:Nat} (h:(d,u,l) ∈ kd):l ∈ ksD kd (some d):=List.mem_filterMap.2 ⟨_,h,by simp⟩
theorem zHp:∀ {e:En U} {E:Env} {st:St U} (_:ESim C N st e E) {l:List Operand},zB6 (evL e l)=true->l.map E.ev=(evL e l).map (trT C N)
 | _,_,_,_,[],_=>rfl
 | e,E,st,he,x::rest,h=>by
  simp only [evL,zB6,Bool.and_eq_true] at h
  simp only [evL,List.map_cons]
  have hne:evT e x≠.any:=fun e'=>by rw [e'] at h; simp [T.flat,yJ,T.isOne] at h
  rw [(he.ev x).get hne,zHp he h.2]
theorem zIc {e:En U} {E:Env} {st:St U} (he:ESim C N st e E) (l:List (Nat×Operand)):PR C N (evP e l) (l.map fun p=>(p.1,E.ev p.2)):=by
 have e1:∀ l:List (Nat×Operand),evP e l=l.map fun p=>(p.1,evT e p.2):=fun l=>by
  induction l with
  | nil=>rfl
  | cons a r ih=>simp [evP,ih]
 rw [e1]
 refine ⟨by simp,fun j x v h1 h2=>?_⟩
 rw [List.getElem?_map] at h1 h2
 cases hq:l[j]? with
 | none=>rw [hq] at h1; cases h1
 | some p=>
  rw [hq] at h1 h2
  injection h1 with h1
  injection h2 with h2
  subst h1; subst h2
  exact he.ev p.2
theorem zNE {e:En U} {E:Env} {st:St U} (he:ESim C N st e E) (x:Option Operand):OR C N (evO e x) (x.map E.ev):=by
 cases x with
 | none=>trivial
 | some x=>exact he.ev x
theorem dop_ok (hT:TbOk C P Tb) (hC:CodOk C) {L:Pol} {call:Call U R} {PP:List PanicEntry->Prop} (hcall:zCz C P L call r PP) {st:St U} {s:S} {e:En U} {E:Env} (hs:SSim C N st s) (he:ESim C N st e E) {o:Oper} {K:V->S->Prop} {KP:List PanicEntry->S->Prop} {k:T U->St U->Option R}
 {kd:KD} (hkd:KdOk L kd N st.nl) (h:dop C Tb call L.wr L.own kd e st o k=some r) (hKP:∀ c s,PP c->KP c s) (hK:Kok C N st K k r):aop P L E s o K KP:=by
 have pure:∀ v,k v st=some r->K (trT C N v) s:=fun v hv=>hK _ _ _ _ _ hv (Turn.refl N st) hs (.inr rfl)
 obtain ⟨dst,op,ty,pos,af,gd⟩:=o
 cases op <;> simp only [dop] at h <;> simp only [aop]
 case move x=>exact hK _ _ _ _ _ h (Turn.refl N st) hs (he.ev x)
 case assign x=>exact hK _ _ _ _ _ h (Turn.refl N st) hs (he.ev x)
 case pick c a b=>exact zPU (he.ev c) (he.ev a) (he.ev b) h fun v v' hv hr=>hK _ _ _ _ _ hv (Turn.refl N st) hs hr
 case alloc t=>
  unfold zNM at h
  obtain ⟨h1,h2⟩:=zO h
  split at h2
  · rename_i cs hcs
    unfold kC
    rw [(hT t h1).zero N,hcs]
    exact zKy hs rfl h2 hK
  · cases h2
 case box t x=>
  rw [zAx] at h
  have hne:evT e x≠.any:=fun e'=>by
   rw [e'] at h
   simp [dNew,T.flat,yJ,T.isOne] at h
  rw [(he.ev x).get hne,qf]
  exact zKy hs rfl h hK
 case build t parts=>
  rw [zJP] at h
  exact zNv hT (zIc he _).1 (zIc he _).2 h pure
 case buildSlice t n parts=>
  rw [zJP] at h
  exact zGs hT hC hs (zIc he _) h hK
 case load t x=>
  obtain ⟨h0,h1⟩:=zO h
  exact ⟨ldD_ok hkd he h0,zFu hT hC hs (he.ev x) h1 pure⟩
 case store t x y=>
  obtain ⟨h0,h⟩:=zO h
  exact ⟨stD_ok hkd hs he h0,zNN hT hC hs (he.ev x) (he.ev y) h fun st' s' h1 h2 h3=>hK _ _ _ _ _ h1 h2 h3 (.inl rfl)⟩
 case nilCheck x=>exact zI2 (he.ev x) h pure
 case binOp op t x y t2=>exact zQa hT (he.ev x) (he.ev y) h pure
 case unOp op t x=>exact dUn_ok (he.ev x) h pure
 case convert f t x=>exact zOx hT (he.ev x) h pure
 case slice t x lo hi mx=>
  cases mx with
  | some _=>cases h
  | none=>exact ⟨rfl,zNz hT hC hs (he.ev x) (zNE he lo) (zNE he hi) h pure⟩
 case fieldAddr t x f=>exact zIA hT (he.ev x) h pure
 case field t x f=>exact zNq hT (he.ev x) h pure
 case indexAddr t x i=>exact zH7 hT hC hs (he.ev x) (he.ev i) h pure
 case index t x i=>exact zNY hT hC (he.ev x) (he.ev i) h pure
 case extract x i=>exact zKg (he.ev x) h pure
 case makeMap ty n=>
  cases n with
  | some _=>cases h
  | none=>
   refine ⟨rfl,fun b hb=>?_⟩
   have hext:=N.ext_loc st.nl st.nx b 1 0
   have hbn:(N.loc st.nl b 1 0).bl st.nl=b:=if_pos rfl
   have hcn:(N.loc st.nl b 1 0).cp st.nl=1:=if_pos rfl
   have:=hK (N.loc st.nl b 1 0) ⟨st.bx,st.tg,st.nl+1,st.nx,(st.nl,some (.mp []))::st.ob⟩ ⟨s.box,s.tg,s.nx,(b,.mp [],[b])::s.ob⟩ (.hd st.nl) (.at (.map (some b))) h ⟨hext,Nat.le_succ _,Nat.le_refl _⟩
    ⟨fun l bx hl=>by rw [hext.bl l (hs.lt l bx hl),zBu hs hext (Nat.le_refl _) (Nat.le_refl _) hl]; exact hs.box l bx hl,fun l bx hl=>Nat.lt_succ_of_lt (hs.lt l bx hl),fun l bx hl=>zBw hext (Nat.le_succ _) (Nat.le_refl _) (hs.lt l bx hl) (hs.wf l bx hl),
     fun l l' b1 b2 h1 h2 he=>by rw [hext.bl l (hs.lt l b1 h1),hext.bl l' (hs.lt l' b2 h2)] at he; exact hs.inj l l' b1 b2 h1 h2 he,hs.tgIn,hs.tgInj,hs.tgLt,hs.nm,hs.ob.new hext hbn (by show wfO _ _ (.mp []); simp only [wfO,hcn]; decide) hb rfl⟩ (.inr (by simp only [trT,hbn,hcn]; rfl))
   exact this
 case call c=>
  obtain ⟨callee,args,ts⟩:=c
  cases callee with
  | invoke r m=>cases h
  | value f=>
   simp only [zB7] at h ⊢
   unfold dCall at h
   split at h
   · rename_i fn caps hf
     split at h
     · rename_i n
       obtain ⟨h1,h2⟩:=zO h
       simp only [Bool.and_eq_true,List.isEmpty_iff] at h1
       obtain ⟨⟨h1,h3⟩,h4⟩:=h1
       subst h1
       have:=he.ev f
       rw [hf] at this
       rw [this.get (by simp),zHp he h3]
       refine hcall _ _ _ _ _ _ _ hs h4 h3 h2 K KP _ (fun b hb=>?_) hK hKP
       cases dst with
       | none=>cases hb
       | some d=>
        obtain ⟨u,l,q1,q2⟩:=hkd.kb d b hb
        exact ⟨l,zQ9 q1,q2⟩
     · cases h
   · cases h
  | builtin b=>
   simp only [zB7] at h ⊢
   have e1:∀ l:List Operand,evL e l=l.map (evT e):=fun l=>by
    induction l with
    | nil=>rfl
    | cons a r ih=>simp [evL,ih]
   rw [e1] at h
   unfold zJ4 at h
   cases b <;> simp only at h <;> try (cases h; done)
   case len=>
    split at h
    · rename_i t _ hts
      split at h
      · rename_i x hx
        cases hl:args.toList with
        | nil=>rw [hl] at hx; cases hx
        | cons a l2=>
         cases l2 with
         | cons _ _=>rw [hl] at hx; simp at hx
         | nil=>
          rw [hl] at hx
          simp only [List.map_cons,List.map_nil,List.cons.injEq,and_true] at hx
          subst hx
          simp only [jo,hts,List.map_cons,List.map_nil]
          exact zPz hT (he.ev a) h pure
      · cases h
    · cases h
   case max=>
    split at h
    · rename_i x y hx
      cases hl:args.toList with
      | nil=>rw [hl] at hx; cases hx
      | cons a l2=>
       cases l2 with
       | nil=>rw [hl] at hx; simp at hx
       | cons b l3=>
        cases l3 with
        | cons _ _=>rw [hl] at hx; simp at hx
        | nil=>
         rw [hl] at hx
         simp only [List.map_cons,List.map_nil,List.cons.injEq,and_true] at hx
         obtain ⟨rfl,rfl⟩:=hx
         simp only [jo,List.map_cons,List.map_nil]
         exact zPd (he.ev a) (he.ev b) h pure
    · cases h
   case append=>
    split at h
    · rename_i t t2 hts
      split at h
      · rename_i x y hx
        cases hl:args.toList with
        | nil=>rw [hl] at hx; cases hx
        | cons a l2=>
         cases l2 with
         | nil=>rw [hl] at hx; simp at hx
         | cons b l3=>
          cases l3 with
          | cons _ _=>rw [hl] at hx; simp at hx
          | nil=>
           rw [hl] at hx
           simp only [List.map_cons,List.map_nil,List.cons.injEq,and_true] at hx
           obtain ⟨rfl,rfl⟩:=hx
           simp only [jo,hts,List.map_cons,List.map_nil]
           exact zMO hT hC hs (he.ev a) (he.ev b) h hK
      · cases h
    · cases h
 all_goals cases h
def dstL:List Oper->List Nat
 | []=>[]
 | o::r=>(match o.dst with | some d=>d::dstL r | none=>dstL r)
def FrX (ds:List Nat) (e e':En U):Prop:=∀ j,j ∉ ds->eget e' j=eget e j
def Kok2 (C:Cod U) (N:NM) (st:St U) (e:En U) (ds:List Nat) (K:Env->S->Prop) (k:En U->St U->Option R) (r:R):Prop:=
 ∀ N' e' st' E' s',k e' st' = some r->Turn N st N' st'->SSim C N' st' s'->ESim C N' st' e' E'->FrX ds e e'->K E' s'
theorem FrX.put (e:En U) (o:Oper) (v:T U):FrX (dstL [o]) e (eput e o.dst v):=fun j hj=>by
 cases hd:o.dst with
 | none=>rfl
 | some d=>
  have:d≠j:=fun e=>by subst e; apply hj; simp [dstL,hd]
  simp [eput,eget,xK this]
theorem zJV (hT:TbOk C P Tb) (hC:CodOk C) {L:Pol} {call:Call U R} {PP:List PanicEntry->Prop} (hcall:zCz C P L call r PP) {st:St U} {s:S} {e:En U} {E:Env} (hs:SSim C N st s) (he:ESim C N st e E) {o:Oper} {K:Env->S->Prop} {KP:List PanicEntry->S->Prop} {k:En U->St U->Option R}
 {kd:KD} (hkd:KdOk L kd N st.nl) (h:zGZ C Tb call L.wr L.own kd e st o k=some r) (hKP:∀ c s,PP c->KP c s) (hK:Kok2 C N st e (dstL [o]) K k r):aop P L E s o (fun v s'=>K (E.putO o.dst v) s') KP:=by
 unfold zGZ at h
 refine dop_ok hT hC hcall hs he hkd h hKP ?_
 intro N' st' s' v v' h1 h2 h3 h4
 simp only [zCW,qx,zFZ] at h1
 obtain ⟨h5,h6⟩:=zO h1
 exact hK _ _ _ _ _ h6 h2 h3 ((he.turn h2).put h4 h5 o.dst) (FrX.put e o v)
theorem zON (hT:TbOk C P Tb) (hC:CodOk C) {L:Pol} {call:Call U R} {PP:List PanicEntry->Prop} (hcall:zCz C P L call r PP) {st:St U} {s:S} {e:En U} {E:Env} (hs:SSim C N st s) (he:ESim C N st e E) {ds:List (Option Nat)} {o:Oper} {K:Env->S->Prop} {KP:List PanicEntry->S->Prop} {k:En U->St U->Option R}
 {kd:KD} (hkd:KdOk L kd N st.nl) (h:zML C Tb call L.wr L.own kd ds o e st k=some r) (hKP:∀ c s,PP c->KP c s) (hK:Kok2 C N st e (dstL [o]) K k r):zi P L ds KP o K E s:=by
 unfold zML at h
 unfold zi jH
 split at h
 · rename_i hg
   rw [hg]
   simp only [if_true]
   exact zJV hT hC hcall hs he hkd h hKP hK
 · rename_i g hg
   rw [hg]
   obtain ⟨j,b⟩:=g
   simp only at h ⊢
   split at h
   · cases h
   · rename_i d hd
     rw [hd]
     simp only
     split at h
     · rename_i t ht
       have h1:=(he d).1
       rw [ht] at h1
       rw [h1.get (by simp)]
       simp only [trT]
       have he':ESim C N st (eput e (some d) (.bool t)) E:=fun j=>by
        simp only [eput,eget]
        by_cases hj:d=j
        · subst hj
          have:Nat.beq d d=true:=by simp
          simp only [this,cond_true]
          rw [<- ht]; exact he d
        · simp only [xK hj,cond_false]; exact he j
       have hfr:FrX [] e (eput e (some d) (.bool t)):=fun j _=>by
        simp only [eput,eget]
        by_cases hj:d=j
        · subst hj
          have:Nat.beq d d=true:=by simp
          simp only [this,cond_true]
          exact ht.symm
        · simp only [xK hj,cond_false]
       have hK':Kok2 C N st (eput e (some d) (.bool t)) (dstL [o]) K k r:=fun N' e' st' E' s' q1 q2 q3 q4 q5=>hK N' e' st' E' s' q1 q2 q3 q4 fun j hj=>(q5 j hj).trans (hfr j (by simp))
       have hskip:k (eput (eput e (some d) (.bool t)) o.dst (.tup [])) st=some r->K (E.putO o.dst (.tup [])) s:=fun hh=>hK' _ _ _ _ _ hh (Turn.refl N st) hs (he'.put (.inr rfl) rfl o.dst) (FrX.put _ o (.tup []))
       simp only [zFZ] at h
       cases b <;> cases t <;> simp only [cond_true,cond_false] at h <;> first | exact zJV hT hC hcall hs he' hkd h hKP hK' | exact hskip h
     · rename_i vs ht
       split at h
       · have h1:=(he d).1
         rw [ht] at h1
         rw [h1.get (by simp)]
         simp only [zFZ] at h
         exact hK _ _ _ _ _ h (Turn.refl N st) hs (he.put (.inr rfl) rfl o.dst) (FrX.put e o (.tup []))
       · cases h
     · cases h
theorem zLH (hT:TbOk C P Tb) (hC:CodOk C) {L:Pol} {call:Call U R} {PP:List PanicEntry->Prop} (hcall:zCz C P L call r PP) {ds:List (Option Nat)} {KP:List PanicEntry->S->Prop} (hKP:∀ c s,PP c->KP c s) {kd:KD}:∀ {l:List Oper} {N:NM} {st:St U} {s:S} {e:En U} {E:Env} {K:Env->S->Prop} {k:En U->St U->Option R},
 SSim C N st s->ESim C N st e E->KdOk L kd N st.nl->dops C Tb call L.wr L.own kd ds l e st k=some r->Kok2 C N st e (dstL l) K k r->AL P L ds KP l K E s
 | [],N,st,s,e,E,K,k,hs,he,_,h,hK=>hK _ _ _ _ _ h (Turn.refl N st) hs he (fun _ _=>rfl)
 | o::os,N,st,s,e,E,K,k,hs,he,hkd,h,hK=>by
  simp only [dops] at h
  show zi P L ds KP o (AL P L ds KP os K) E s
  refine zON hT hC hcall hs he hkd h hKP ?_
  intro N' e' st' E' s' h1 h2 h3 h4 h5
  refine zLH hT hC hcall hKP h3 h4 (hkd.turn h2) h1 fun N2 e2 st2 E2 s2 q1 q2 q3 q4 q5=>hK _ _ _ _ _ q1 (h2.trans q2) q3 q4 fun j hj=>?_
  rw [q5 j fun hh=>hj ?_,h5 j fun hh=>hj ?_]
  · cases hd:o.dst <;> simp only [dstL,hd] at hh ⊢ <;> simp at hh <;> simp [hh]
  · cases hd:o.dst <;> simp only [dstL,hd] <;> simp [hh]
end
end Go.Den
end
section
namespace Go.Den
open Go.Al
def Gst (X:Cx) (E:Env) (s:S) (E':Env) (s':S):Prop:=∀ g a w,Rel X g E s a w->∃ g',Step X.B g w g' w/\Rel X g' E' s' a w
theorem Gst.refl (X:Cx) (E:Env) (s:S):Gst X E s E s:=fun g a w h=>⟨g,.refl _ _ _,h⟩
theorem Gst.trans {X:Cx} {E E1 E2:Env} {s s1 s2:S} (h:Gst X E s E1 s1) (h':Gst X E1 s1 E2 s2):Gst X E s E2 s2:=fun g a w hr=>by
 obtain ⟨g1,k1,k2⟩:=h g a w hr
 obtain ⟨g2,k3,k4⟩:=h' g1 a w k2
 exact ⟨g2,k1.trans k3,k4⟩
theorem zLI {P:Program} {X:Cx} {Q:Exit->Env->S->Prop} {c:Code} {E E':Env} {s s':S} (hg:Gst X E s E' s') (h:awp P X c Q E' s'):awp P X c Q E s:=by
 intro g a w hr
 obtain ⟨g1,k1,k2⟩:=hg g a w hr
 refine wpIn_mono (h g1 a w k2) ?_
 rintro ex a' w' ⟨g',e',st',q1,q2,q3⟩
 exact ⟨g',e',st',k1.trans q1,q2,q3⟩
def Gs (s s':S):Prop:=∀ B g w,Inv B g s w->∃ g',Step B g w g' w/\Inv B g' s' w
theorem Gs.refl (s:S):Gs s s:=fun B g w h=>⟨g,.refl _ _ _,h⟩
theorem Gs.trans {s s1 s2:S} (h:Gs s s1) (h':Gs s1 s2):Gs s s2:=fun B g w hi=>by
 obtain ⟨g1,k1,k2⟩:=h B g w hi
 obtain ⟨g2,k3,k4⟩:=h' B g1 w k2
 exact ⟨g2,k1.trans k3,k4⟩
theorem Gs.gst {X:Cx} {E:Env} {s s':S} (h:Gs s s'):Gst X E s E s':=fun g a w hr=>by
 obtain ⟨g',k1,k2⟩:=h X.B g w hr.inv
 exact ⟨g',k1,k2,fun i=>(hr.env i).later k1.later,hr.size,hr.df,hr.gl.below k1.below k1.later.wm⟩
theorem FnC_gs {P:Program} {f:FuncId} {as:List V} {Q:Outc->S->Prop} {s s':S} (hg:Gs s s') (h:FnC P f as s' Q):FnC P f as s Q:=by
 intro B g w vs hi hgl hv
 obtain ⟨g',k1,k2⟩:=hg B g w hi
 refine (h B g' w vs k2 (hgl.below (.refl _ _) k1.later.wm) (hv.later k1.later)).mono ?_
 rintro e w' ⟨g2,s2,h1,h2,h3⟩
 exact ⟨g2,s2,k1.trans h1,h2,h3⟩
theorem zNU {X:Cx} {E:Env} {s:S} (k sz:Nat) (h0:E.get k = .lst .nil []):Gst X E s (E.put k (.lst (.own s.nx true sz) [])) ⟨s.box,s.nx::s.tg,s.nx+1,s.ob⟩:=by
 intro g a w hr
 obtain ⟨i2,l2⟩:=hr.inv.addTag rfl none (fun _ _ _ _ e=>by cases e)
 have h1:=hr.env k
 rw [h0] at h1
 have h2:=zIu h1
 refine ⟨⟨g.wm,fun j=>if j=s.nx then some none else g.tb j,g.fr⟩,⟨l2,.refl _ _,fun _ _=>⟨rfl,rfl⟩,fun _ _=>rfl,rfl⟩,i2,fun j=>?_,hr.size,hr.df,hr.gl⟩
 rw [Env.get_put]
 split
 · rename_i e1
   subst e1
   rw [h2]
   refine xe ?_
   simp only [RC]
   exact .inl ⟨trivial,trivial,if_pos rfl,rfl⟩
 · exact (hr.env j).later l2
theorem zGq {g:Gh} {w:World} {x y:V} (hx:∀ u,RC g w x u->RC g w y u):∀ {cs:List V} {us:List Value} {j:Nat},cs[j]? = some x->RCs g w cs us->RCs g w (cs.set j y) us
 | [],us,j,hj,_=>by simp at hj
 | c::r,us,0,hj,h=>by
  simp only [RCs] at h
  obtain ⟨u1,u2,rfl,h1,h2⟩:=h
  simp only [List.getElem?_cons_zero,Option.some.injEq] at hj
  subst hj
  simp only [List.set_cons_zero,RCs]
  exact ⟨u1,u2,rfl,hx _ h1,h2⟩
 | c::r,us,j+1,hj,h=>by
  simp only [RCs] at h
  obtain ⟨u1,u2,rfl,h1,h2⟩:=h
  simp only [List.getElem?_cons_succ] at hj
  simp only [List.set_cons_succ,RCs]
  exact ⟨u1,u2,rfl,h1,zGq hx hj h2⟩
theorem zOD {s:S} (b j sz:Nat) {cs:List V} {k:Nat} (h0:Al.look s.box b=some (cs,k)) (hj:cs[j]? = some (.lst .nil [])) :
 Gs s ⟨lay s.box b (cs.set j (.lst (.own s.nx true sz) []),k),s.nx::s.tg,s.nx+1,s.ob⟩:=by
 intro B g w hi
 obtain ⟨i2,l2⟩:=hi.addTag rfl none (fun _ _ _ _ e=>by cases e)
 obtain ⟨p1,p2,p3,p4,arr,el,us,p5,p6,p7,p8⟩:=i2.box b cs k h0
 refine ⟨⟨g.wm,fun j=>if j=s.nx then some none else g.tb j,g.fr⟩,⟨l2,.refl _ _,fun _ _=>⟨rfl,rfl⟩,fun _ _=>rfl,rfl⟩,?_⟩
 have:=i2.addBox (b:=b) (arr:=arr) (el:=el) (cs:=cs.set j (.lst (.own s.nx true sz) [])) (us:=us) p1 p2 p5 (by simp; omega)
  (fun c hc=>by
   rcases List.mem_or_eq_of_mem_set hc with h2 | h2
   · exact p4 c h2
   · subst h2; rfl)
  (zGq (fun u hu=>by
   simp only [RC] at hu ⊢
   rcases hu with ⟨_,hu,_⟩ | ⟨b,o,cap,ds,_,_,ht,_⟩
   · exact .inl ⟨trivial,hu,if_pos rfl,rfl⟩
   · exact ht.elim) hj p7) (by simpa using p8) (fun t ht d hd=>by
     obtain ⟨cap',n',sz'⟩:=d
     obtain ⟨r1,r2,r3,r4,r5,r6⟩:=i2.own t ht b cap' n' sz' hd
     have h0':Al.look (⟨s.box,s.nx::s.tg,s.nx+1,s.ob⟩:S).box b=some (cs,k):=h0
     rw [h0'] at r5; cases r5) (hi.boxFr h0).1 (hi.boxFr h0).2
 rw [p6] at this
 exact this
theorem zOR {s:S} (b m:Nat) {cs:List V} {k:Nat} (h0:Al.look s.box b=some (cs,k)):Gs s ⟨lay s.box b (cs.take m,k),s.tg,s.nx,s.ob⟩:=by
 intro B g w hi
 obtain ⟨p1,p2,p3,p4,arr,el,us,p5,p6,p7,p8⟩:=hi.box b cs k h0
 refine ⟨g,.refl _ _ _,?_⟩
 have hone:zK cs:=by unfold zK; rw [List.all_eq_true]; exact p4
 have hul:=yH g w cs us p7
 rw [yb hone] at hul
 have:=hi.addBox (b:=b) (arr:=arr) (el:=el) (cs:=cs.take m) (us:=us.take m) p1 p2 p5 (by simp; omega)
  (fun c hc=>p4 c (List.mem_of_mem_take hc)) (yW hone p7 m).1 (by
   rw [<- p8,List.take_take,List.length_take]) (fun t ht d hd=>by
    obtain ⟨cap',n',sz'⟩:=d
    obtain ⟨r1,r2,r3,r4,r5,r6⟩:=hi.own t ht b cap' n' sz' hd
    rw [h0] at r5; cases r5) (hi.boxFr h0).1 (hi.boxFr h0).2
 rw [p6] at this
 exact this
inductive SK (U:TyU) where
 | int (k:IntKind)
 | bool
 | str
 | dl (i:U.I)
 | bl (i:U.I)
 | ow (nb:Bool) (i:U.I)
 | arr (i:U.I)
 | box (cs:List (SK U))
 | st (i:U.I)
 | scs
 | mpo
 | jm
 | mpj
 | ag (cs:List (SK U))
mutual
def denK {U:TyU}:SK U->Type
 | .int _=>Int
 | .bool=>Bool
 | .str=>List UInt8
 | .dl i=>List (U.den i)
 | .bl i=>Bool×List (U.den i)
 | .ow _ i=>List (U.den i)
 | .arr i=>Option (List (U.den i))
 | .box cs=>zA cs
 | .st i=>U.den i
 | .scs=>List MT
 | .mpo=>Option MT
 | .jm=>Unit
 | .mpj=>Option (Option MT)
 | .ag cs=>zA cs
def zA {U:TyU}:List (SK U)->Type
 | []=>Unit
 | k::r=>denK k×zA r
end
def zJ {α β:Type} (o:Option α) (a:β) (f:α->β):β:=
 match o with
 | none=>a
 | some x=>f x
def jJ {α:Type} (n:Nat) (xs:List α):List α:=xs.take n
def eqN (a b:Nat):Bool:=Nat.beq a b
section
variable {U:TyU} (C:Cod U) {R:Type}
mutual
def putK:(s:SK U)->denK s->St U->(T U->St U->Option R)->Option R
 | .int k,x,st,K=>K (.int k x) st
 | .bool,x,st,K=>K (.bool x) st
 | .str,x,st,K=>K (.str x) st
 | .dl i,x,st,K=>K (.lst .dl i x) st
 | .bl i,x,st,K=>K (.lst (.b x.1) i x.2) st
 | .ow nb i,x,st,K=>K (.lst (.ow st.nx nb) i x) ⟨st.bx,st.nx::st.tg,st.nl,st.nx+1,st.ob⟩
 | .arr i,x,st,K=>zJ x (K .nil st) fun ys=>K (.sl st.nl ys.length) ⟨(st.nl,some (.ar i ys))::st.bx,st.tg,st.nl+1,st.nx,st.ob⟩
 | .box cs,x,st,K=>kx cs x st fun vs st'=>bif yJ vs then K (.ptr st'.nl 0) ⟨(st'.nl,some (.st vs))::st'.bx,st'.tg,st'.nl+1,st'.nx,st'.ob⟩ else none
 | .st i,x,st,K=>K (C.enc i x) st
 | .scs,x,st,K=>K (.sr st.nl) ⟨st.bx,st.tg,st.nl+1,st.nx,(st.nl,some (.sc x))::st.ob⟩
 | .mpo,x,st,K=>zJ x (K (.con (.map none)) st) fun c=>K (.hd st.nl) ⟨st.bx,st.tg,st.nl+1,st.nx,(st.nl,some (.mp c))::st.ob⟩
 | .jm,_,st,K=>K (.hd st.nl) ⟨st.bx,st.tg,st.nl+1,st.nx,st.ob⟩
 | .mpj,x,st,K=>zJ x (K (.hd st.nl) ⟨st.bx,st.tg,st.nl+1,st.nx,st.ob⟩) fun o=>zJ o (K (.con (.map none)) st) fun c=>K (.hd st.nl) ⟨st.bx,st.tg,st.nl+1,st.nx,(st.nl,some (.mp c))::st.ob⟩
 | .ag cs,x,st,K=>kx cs x st fun vs st'=>K (.agg vs) st'
def kx:(l:List (SK U))->zA l->St U->(List (T U)->St U->Option R)->Option R
 | [],_,st,K=>K [] st
 | k::r,x,st,K=>putK k x.1 st fun v st'=>feS st' fun st'=>kx r x.2 st' fun vs st''=>K (v::vs) st''
end
def zFz:T U->Bool
 | .lst m _ _=>(match m with | .ow _ _=>false | _=>true)
 | _=>true
def zJT:T U->Bool
 | .agg fs=>fs.all zFz
 | x=>zFz x
mutual
def getK:(s:SK U)->T U->St U->(denK s->St U->Option R)->Option R
 | .int k,v,st,K=>(match v with | .int k' n=>bif decide (k' = k) then K n st else none | _=>none)
 | .bool,v,st,K=>(match v with | .bool b=>K b st | _=>none)
 | .str,v,st,K=>(match v with | .str s=>K s st | _=>none)
 | .dl i,v,st,K=>(match v with
  | .nil=>K [] st
  | .lst m j ys=>ku i j ys fun xs=>(match m with
   | .dl=>K xs st
   | .b n=>bif (bif n then xs.isEmpty else !xs.isEmpty) then K xs st else none
   | .ow _ _=>none)
  | _=>none)
 | .bl i,v,st,K=>(match v with
  | .nil=>K (true,[]) st
  | .lst m j ys=>ku i j ys fun xs=>(match m with
   | .dl=>K (xs.isEmpty,xs) st
   | .b n=>K (n,xs) st
   | .ow _ _=>none)
  | _=>none)
 | .ow nb i,v,st,K=>(match v with
  | .lst m j ys=>ku i j ys fun xs=>(match m with
   | .ow t nb'=>bif beqB nb' nb && hasN st.tg t then K xs ⟨st.bx,rmN st.tg t,st.nl,st.nx,st.ob⟩ else none
   | _=>none)
  | _=>none)
 | .arr i,v,st,K=>(match v with
  | .nil=>K none st
  | .sl l n=>(match lk st.bx l with
   | some (.ar j ys)=>ku i j ys fun xs=>bif eqN n xs.length then K (some xs) ⟨(l,none)::st.bx,st.tg,st.nl,st.nx,st.ob⟩ else none
   | _=>none)
  | _=>none)
 | .box cs,v,st,K=>(match v with
  | .ptr l o=>bif Nat.beq o 0 then (match lk st.bx l with
   | some (.st vs)=>feS ⟨(l,none)::st.bx,st.tg,st.nl,st.nx,st.ob⟩ fun st'=>qD cs vs st' K
   | _=>none) else none
  | _=>none)
 | .st i,v,st,K=>bif zJT v then C.dec i v fun x=>K x st else none
 | .scs,v,st,K=>(match v with
  | .sr l=>(match lko st.ob l with
   | some o=>(match o with | .sc xs=>K xs ⟨st.bx,st.tg,st.nl,st.nx,(l,none)::st.ob⟩ | .mp _=>none)
   | none=>none)
  | _=>none)
 | .mpo,v,st,K=>(match v with
  | .con c=>(match c with | .map m=>(match m with | none=>K none st | some _=>none) | _=>none)
  | .hd l=>(match lko st.ob l with
   | some o=>(match o with | .mp c=>K (some c) ⟨st.bx,st.tg,st.nl,st.nx,(l,none)::st.ob⟩ | .sc _=>none)
   | none=>none)
  | _=>none)
 | .jm,v,st,K=>(match v with
  | .con c=>(match c with | .map _=>K () st | _=>none)
  | .hd _=>K () st
  | _=>none)
 | .mpj,v,st,K=>(match v with
  | .con c=>(match c with | .map m=>(match m with | none=>K (some none) st | some _=>none) | _=>none)
  | .hd l=>(match lko st.ob l with
   | some o=>(match o with | .mp c=>K (some (some c)) ⟨st.bx,st.tg,st.nl,st.nx,(l,none)::st.ob⟩ | .sc _=>none)
   | none=>K none st)
  | _=>none)
 | .ag cs,v,st,K=>(match v with | .agg vs=>qD cs vs st K | _=>none)
def qD:(l:List (SK U))->List (T U)->St U->(zA l->St U->Option R)->Option R
 | [],vs,st,K=>(match vs with | []=>K () st | _::_=>none)
 | k::r,vs,st,K=>(match vs with
  | []=>none
  | v::vs=>getK k v st fun x st'=>feS st' fun st'=>qD r vs st' fun xs st''=>K (x,xs) st'')
end
inductive Res where
 | inl (n:Nat)
 | inr (b:Nat)
 | ob (b:Nat)
mutual
/-- An abstract value is of a kind; what it holds alone. -/
def VK (s:S):(k:SK U)->denK k->V->List Res->Prop
 | .int k,x,v,rs=>v = .at (.int k x)/\rs=[]
 | .bool,x,v,rs=>v = .at (.bool x)/\rs=[]
 | .str,x,v,rs=>v=trT C ⟨id,id,id,id⟩ (.str x)/\rs=[]
 | .dl i,x,v,rs=>v = .lst (zk (x.map (C.encV i))) (x.map (C.encV i))/\rs=[]
 | .bl i,x,v,rs=>v = .lst (if x.1 then .nil else .no) (x.2.map (C.encV i))/\rs=[]
 | .ow nb i,x,v,rs=>∃ n,v = .lst (.own n nb (C.cells i)) (x.map (C.encV i))/\n ∈ s.tg/\n < s.nx/\rs=[.inl n]
 | .arr i,x,v,rs=>match x with
  | none=>v = .lst .nil []/\rs=[]
  | some xs=>∃ b cap,v = .at (.slice (some ⟨b,0,none⟩) xs.length cap)/\xs.length<=cap/\Al.look s.box b=some (zb (xs.map (C.encV i)),cap * C.cells i)/\rs=[.inr b]
 | .box cs,x,v,rs=>∃ b vs rs',v = .at (.pointer (some ⟨b,0,none⟩))/\Al.look s.box b=some (vs,vs.length)/\VKs s cs x vs rs'/\rs = .inr b::rs'
 | .st i,x,v,rs=>v=C.encV i x/\rs=[]
 | .scs,x,v,rs=>∃ b cap fp,v = .at (.slice (some ⟨b,0,none⟩) x.length cap)/\zM s.ob b=some (.sc (x.map trMC) cap,fp)/\rs=[.ob b]
 | .mpo,x,v,rs=>match x with
  | none=>v = .at (.map none)/\rs=[]
  | some c=>∃ b fp,v = .at (.map (some b))/\zM s.ob b=some (.mp (trMC c),fp)/\rs=[.ob b]
 | .jm,_,v,rs=>(∃ m,v = .at (.map m))/\rs=[]
 | .mpj,x,v,rs=>match x with
  | none=>(∃ m,v = .at (.map m))/\rs=[]
  | some o=>match o with
   | none=>v = .at (.map none)/\rs=[]
   | some c=>∃ b fp,v = .at (.map (some b))/\zM s.ob b=some (.mp (trMC c),fp)/\rs=[.ob b]
 | .ag cs,x,v,rs=>∃ vs,v = .agg vs/\VKs s cs x vs rs
def VKs (s:S):(l:List (SK U))->zA l->List V->List Res->Prop
 | [],_,vs,rs=>vs=[]/\rs=[]
 | k::r,x,vs,rs=>∃ v vs' r1 r2,vs=v::vs'/\rs=r1++r2/\VK s k x.1 v r1/\VKs s r x.2 vs' r2
end
def Has (N:NM) (st:St U):Res->Prop
 | .inl n=>∃ t ∈ st.tg,N.tk t=n
 | .inr b=>∃ l x,lk st.bx l=some x/\N.bl l=b
 | .ob b=>∃ l x,lko st.ob l=some x/\N.bl l=b
variable {C}
theorem SSim.addBox {N:NM} {st:St U} {s:S} (hs:SSim C N st s) {b c z:Nat} {bx:Bx U} (hno:¬ Has N st (.inr b)) (hl:Al.look s.box b=some (trB C (N.loc st.nl b c z) st.nl bx)) (hw:wfB C (N.loc st.nl b c z) (st.nl+1) st.nx st.nl bx) :
 SSim C (N.loc st.nl b c z) ⟨(st.nl,some bx)::st.bx,st.tg,st.nl+1,st.nx,st.ob⟩ s:=by
 have hext:=N.ext_loc st.nl st.nx b c z
 have hbl:∀ l,l < st.nl->(N.loc st.nl b c z).bl l=N.bl l:=hext.bl
 have hbn:(N.loc st.nl b c z).bl st.nl=b:=if_pos rfl
 have hne:∀ l b',lk st.bx l=some b'->b≠N.bl l:=fun l b' hl e=>hno ⟨l,b',hl,e.symm⟩
 refine ⟨?_,?_,?_,?_,hs.tgIn,hs.tgInj,hs.tgLt,hs.nm,hs.ob.ext hext (Nat.le_succ _)⟩
 · intro l b' hl'
   rw [xp] at hl'
   by_cases e:st.nl=l
   · rw [if_pos e] at hl'
     injection hl' with hl'
     subst hl'; subst e
     rw [hbn]; exact hl
   · rw [if_neg e] at hl'
     rw [hbl l (hs.lt l b' hl'),hs.box l b' hl',zBu hs hext (Nat.le_refl _) (Nat.le_refl _) hl']
 · intro l b' hl'
   rw [xp] at hl'
   by_cases e:st.nl=l
   · show l < st.nl+1; omega
   · rw [if_neg e] at hl'
     have hlt:=hs.lt l b' hl'
     show l < st.nl+1; omega
 · intro l b' hl'
   rw [xp] at hl'
   by_cases e:st.nl=l
   · rw [if_pos e] at hl'
     injection hl' with hl'
     subst hl'; subst e
     exact hw
   · rw [if_neg e] at hl'
     exact zBw hext (Nat.le_succ _) (Nat.le_refl _) (hs.lt l b' hl') (hs.wf l b' hl')
 · intro l l' b1 b2 h1 h2 he
   rw [xp] at h1 h2
   by_cases e:st.nl=l
   · by_cases e':st.nl=l'
     · omega
     · rw [if_neg e'] at h2
       subst e
       rw [hbn,hbl l' (hs.lt l' b2 h2)] at he
       exact absurd he (hne l' b2 h2)
   · rw [if_neg e] at h1
     by_cases e':st.nl=l'
     · subst e'
       rw [hbn,hbl l (hs.lt l b1 h1)] at he
       exact absurd he.symm (hne l b1 h1)
     · rw [if_neg e'] at h2
       rw [hbl l (hs.lt l b1 h1),hbl l' (hs.lt l' b2 h2)] at he
       exact hs.inj l l' b1 b2 h1 h2 he
theorem SSim.addTok {N:NM} {st:St U} {s:S} (hs:SSim C N st s) {n:Nat} (hno:¬ Has N st (.inl n)) (h1:n ∈ s.tg) (h2:n < s.nx) :
 SSim C (N.tok st.nx n) ⟨st.bx,st.nx::st.tg,st.nl,st.nx+1,st.ob⟩ s:=by
 have hext:=N.ext_tok st.nl st.nx n
 have htk:∀ t,t < st.nx->(N.tok st.nx n).tk t=N.tk t:=hext.tk
 have htn:(N.tok st.nx n).tk st.nx=n:=if_pos rfl
 have hne:∀ t ∈ st.tg,N.tk t≠n:=fun t ht e=>hno ⟨t,ht,e⟩
 refine ⟨fun l b hl=>?_,hs.lt,fun l b hl=>?_,fun l l' b b' q1 q2 he=>hs.inj l l' b b' q1 q2 he,?_,?_,?_,?_,hs.ob.ext hext (Nat.le_refl _)⟩
 · rw [zBu hs hext (Nat.le_refl _) (Nat.le_refl _) hl]
   exact hs.box l b hl
 · exact zBw hext (Nat.le_refl _) (Nat.le_succ _) (hs.lt l b hl) (hs.wf l b hl)
 · intro t ht
   rcases List.mem_cons.1 ht with rfl | ht
   · rw [htn]; exact h1
   · rw [htk t (hs.tgLt t ht)]; exact hs.tgIn t ht
 · intro t ht t' ht' he
   rcases List.mem_cons.1 ht with rfl | ht
   · rcases List.mem_cons.1 ht' with rfl | ht'
     · rfl
     · rw [htn,htk t' (hs.tgLt t' ht')] at he
       exact absurd he.symm (hne t' ht')
   · rcases List.mem_cons.1 ht' with rfl | ht'
     · rw [htn,htk t (hs.tgLt t ht)] at he
       exact absurd he (hne t ht)
     · rw [htk t (hs.tgLt t ht),htk t' (hs.tgLt t' ht')] at he
       exact hs.tgInj t ht t' ht' he
 · intro t ht
   show t < st.nx+1
   rcases List.mem_cons.1 ht with rfl | ht
   · omega
   · have:=hs.tgLt t ht; omega
 · intro t ht
   rcases List.mem_cons.1 ht with rfl | ht
   · rw [htn]; exact h2
   · rw [htk t (hs.tgLt t ht)]; exact hs.nm t ht
theorem SSim.more {N N':NM} {st:St U} {s:S} (hs:SSim C N st s) {nl nx:Nat} (hext:Ext nl nx N N') (h1:st.nl<=nl) (h2:st.nx<=nx):SSim C N' ⟨st.bx,st.tg,nl,nx,st.ob⟩ s:=by
 have hbl:∀ l b,lk st.bx l=some b->N'.bl l=N.bl l:=fun l b hl=>hext.bl l (Nat.lt_of_lt_of_le (hs.lt l b hl) h1)
 have htk:∀ t ∈ st.tg,N'.tk t=N.tk t:=fun t ht=>hext.tk t (Nat.lt_of_lt_of_le (hs.tgLt t ht) h2)
 refine ⟨fun l b hl=>?_,fun l b hl=>Nat.lt_of_lt_of_le (hs.lt l b hl) h1,fun l b hl=>?_,fun l l' b b' q1 q2 he=>?_,fun t ht=>?_,fun t ht t' ht' he=>?_,fun t ht=>Nat.lt_of_lt_of_le (hs.tgLt t ht) h2,fun t ht=>?_,hs.ob.ext (hext.less h1 h2) h1⟩
 · rw [hbl l b hl,zBu hs hext h1 h2 hl]; exact hs.box l b hl
 · exact zBw (hext.less h1 h2) h1 h2 (hs.lt l b hl) (hs.wf l b hl)
 · rw [hbl l b q1,hbl l' b' q2] at he
   exact hs.inj l l' b b' q1 q2 he
 · rw [htk t ht]; exact hs.tgIn t ht
 · rw [htk t ht,htk t' ht'] at he; exact hs.tgInj t ht t' ht' he
 · rw [htk t ht]; exact hs.nm t ht
theorem SSim.addOb {N:NM} {st:St U} {s:S} (hs:SSim C N st s) {b c z:Nat} {o:TO} {fp:List Nat} (hno:¬ Has N st (.ob b)) (hl:zM s.ob b=some (trO (N.loc st.nl b c z) st.nl o,fp)) (hw:wfO (N.loc st.nl b c z) st.nl o) :
 SSim C (N.loc st.nl b c z) ⟨st.bx,st.tg,st.nl+1,st.nx,(st.nl,some o)::st.ob⟩ s:=by
 have hext:=N.ext_loc st.nl st.nx b c z
 have hbn:(N.loc st.nl b c z).bl st.nl=b:=if_pos rfl
 have h1:SSim C (N.loc st.nl b c z) ⟨st.bx,st.tg,st.nl+1,st.nx,st.ob⟩ s:=by
  have:=hs.more (N':=N.loc st.nl b c z) (nl:=st.nl) (nx:=st.nx) hext (Nat.le_refl _) (Nat.le_refl _)
  exact this.more (N':=N.loc st.nl b c z) (nl:=st.nl+1) (nx:=st.nx) (.refl _ _ _) (Nat.le_succ _) (Nat.le_refl _)
 have hne:∀ l o',lko st.ob l=some o'->(N.loc st.nl b c z).bl l≠b:=fun l o' hl' e=>hno ⟨l,o',hl',(hext.bl l (hs.ob.lt l o' hl')).symm.trans e⟩
 have key:∀ {l o'},lko ((st.nl,some o)::st.ob) l=some o'->(l=st.nl/\o' = o)\/(l≠st.nl/\lko st.ob l=some o'):=fun {l o'} h=>by
  rw [j7] at h
  split at h
  · rename_i e; injection h with h; exact .inl ⟨e.symm,h.symm⟩
  · rename_i e; exact .inr ⟨fun e'=>e e'.symm,h⟩
 refine ⟨h1.box,h1.lt,h1.wf,h1.inj,h1.tgIn,h1.tgInj,h1.tgLt,h1.nm,⟨fun l o' h=>?_,fun l o' h=>?_,fun l o' h=>?_,fun l l' o1 o2 q1 q2 he=>?_⟩⟩
 · rcases key h with ⟨rfl,rfl⟩ | ⟨_,h⟩
   · rw [hbn]; exact ⟨fp,hl⟩
   · exact h1.ob.look l o' h
 · rcases key h with ⟨rfl,rfl⟩ | ⟨_,h⟩
   · exact Nat.lt_succ_self _
   · exact h1.ob.lt l o' h
 · rcases key h with ⟨rfl,rfl⟩ | ⟨_,h⟩
   · exact hw
   · exact h1.ob.wf l o' h
 · rcases key q1 with ⟨e1,e2⟩ | ⟨_,p1⟩ <;> rcases key q2 with ⟨e3,e4⟩ | ⟨_,p2⟩
   · rw [e1,e3]
   · subst e1; rw [hbn] at he; exact absurd he.symm (hne l' o2 p2)
   · subst e3; rw [hbn] at he; exact absurd he (hne l o1 p1)
   · exact h1.ob.inj l l' o1 o2 p1 p2 he
theorem zFv {N N':NM} {st:St U} {s:S} (hs:SSim C N st s) {nl nx:Nat} (hext:Ext nl nx N N') (h1:st.nl<=nl) (h2:st.nx<=nx) {a b:Nat} {x:Res} (h:Has N' ⟨st.bx,st.tg,a,b,st.ob⟩ x):Has N st x:=by
 cases x with
 | inl n=>obtain ⟨t,ht,he⟩:=h; exact ⟨t,ht,(hext.tk t (Nat.lt_of_lt_of_le (hs.tgLt t ht) h2)).symm.trans he⟩
 | inr b=>obtain ⟨l,y,hl,he⟩:=h; exact ⟨l,y,hl,(hext.bl l (Nat.lt_of_lt_of_le (hs.lt l y hl) h1)).symm.trans he⟩
 | ob b=>obtain ⟨l,y,hl,he⟩:=h; exact ⟨l,y,hl,(hext.bl l (Nat.lt_of_lt_of_le (hs.ob.lt l y hl) h1)).symm.trans he⟩
theorem zIp {N:NM} {st:St U} {s:S} (hs:SSim C N st s) {b c z:Nat} {o:Option TO} {x:Res} (h:Has (N.loc st.nl b c z) ⟨st.bx,st.tg,st.nl+1,st.nx,(st.nl,o)::st.ob⟩ x):x = .ob b\/Has N st x:=by
 have hext:=N.ext_loc st.nl st.nx b c z
 cases x with
 | inl n=>exact .inr h
 | inr b'=>exact .inr (zFv hs hext (Nat.le_refl _) (Nat.le_refl _) (x:=.inr b') (a:=0) (b:=0) h)
 | ob b'=>
  obtain ⟨l,y,hl,he⟩:=h
  have hl':lko ((st.nl,o)::st.ob) l=some y:=hl
  rw [j7] at hl'
  by_cases e:st.nl=l
  · subst e
    have:(N.loc st.nl b c z).bl st.nl=b:=if_pos rfl
    rw [this] at he
    exact .inl (by rw [he])
  · rw [if_neg e] at hl'
    rw [hext.bl l (hs.ob.lt l y hl')] at he
    exact .inr ⟨l,y,hl',he⟩
theorem zLU {N:NM} {st:St U} {s:S} (hs:SSim C N st s) {b c z:Nat} {bx:Option (Bx U)} {x:Res} (h:Has (N.loc st.nl b c z) ⟨(st.nl,bx)::st.bx,st.tg,st.nl+1,st.nx,st.ob⟩ x):x = .inr b\/Has N st x:=by
 have hext:=N.ext_loc st.nl st.nx b c z
 cases x with
 | inl n=>exact .inr h
 | inr b'=>
  obtain ⟨l,y,hl,he⟩:=h
  have hl':lk ((st.nl,bx)::st.bx) l=some y:=hl
  rw [xp] at hl'
  by_cases e:st.nl=l
  · subst e
    have:(N.loc st.nl b c z).bl st.nl=b:=if_pos rfl
    rw [this] at he
    exact .inl (by rw [he])
  · rw [if_neg e] at hl'
    rw [hext.bl l (hs.lt l y hl')] at he
    exact .inr ⟨l,y,hl',he⟩
 | ob b'=>
  obtain ⟨l,y,hl,he⟩:=h
  exact .inr ⟨l,y,hl,(hext.bl l (hs.ob.lt l y hl)).symm.trans he⟩
theorem zRg {N:NM} {st:St U} {s:S} (hs:SSim C N st s) {n:Nat} {x:Res} (h:Has (N.tok st.nx n) ⟨st.bx,st.nx::st.tg,st.nl,st.nx+1,st.ob⟩ x):x = .inl n\/Has N st x:=by
 have hext:=N.ext_tok st.nl st.nx n
 cases x with
 | inr b=>exact .inr h
 | ob b=>exact .inr h
 | inl n'=>
  obtain ⟨t,ht,he⟩:=h
  rcases List.mem_cons.1 ht with rfl | ht
  · have:(N.tok st.nx n).tk st.nx=n:=if_pos rfl
    rw [this] at he
    exact .inl (by rw [he])
  · rw [hext.tk t (hs.tgLt t ht)] at he
    exact .inr ⟨t,ht,he⟩
mutual
/-- LAID DOWN. -/
theorem zQv (hC:CodOk C) {r:R}:∀ (k:SK U) (x:denK k) {N:NM} {st:St U} {s:S} {v:V} {rs:List Res} {K:T U->St U->Option R},SSim C N st s->VK C s k x v rs->rs.Nodup->(∀ y ∈ rs,¬ Has N st y)->putK C k x st K=some r ->
 ∃ N' v' st',K v' st' = some r/\Turn N st N' st'/\SSim C N' st' s/\trT C N' v' = v/\bdd st'.nl st'.nx v' = true/\(∀ y,Has N' st' y->Has N st y\/y ∈ rs)
 | .int k,x,N,st,s,v,rs,K,hs,hv,_,_,h=>by
  simp only [VK] at hv; simp only [putK] at h
  exact ⟨N,_,st,h,.refl _ _,hs,hv.1.symm,rfl,fun y hy=>.inl hy⟩
 | .bool,x,N,st,s,v,rs,K,hs,hv,_,_,h=>by
  simp only [VK] at hv; simp only [putK] at h
  exact ⟨N,_,st,h,.refl _ _,hs,hv.1.symm,rfl,fun y hy=>.inl hy⟩
 | .str,x,N,st,s,v,rs,K,hs,hv,_,_,h=>by
  simp only [VK] at hv; simp only [putK] at h
  exact ⟨N,_,st,h,.refl _ _,hs,hv.1.symm,rfl,fun y hy=>.inl hy⟩
 | .dl i,x,N,st,s,v,rs,K,hs,hv,_,_,h=>by
  simp only [VK] at hv; simp only [putK] at h
  exact ⟨N,_,st,h,.refl _ _,hs,by rw [hv.1]; rfl,rfl,fun y hy=>.inl hy⟩
 | .bl i,x,N,st,s,v,rs,K,hs,hv,_,_,h=>by
  simp only [VK] at hv; simp only [putK] at h
  exact ⟨N,_,st,h,.refl _ _,hs,by rw [hv.1]; rfl,rfl,fun y hy=>.inl hy⟩
 | .st i,x,N,st,s,v,rs,K,hs,hv,_,_,h=>by
  simp only [VK] at hv; simp only [putK] at h
  exact ⟨N,_,st,h,.refl _ _,hs,(hC.enc N i x).trans hv.1.symm,zBH (Nat.zero_le _) (Nat.zero_le _) _ (hC.bd i x),fun y hy=>.inl hy⟩
 | .ow nb i,x,N,st,s,v,rs,K,hs,hv,_,hd,h=>by
  simp only [VK] at hv; simp only [putK] at h
  obtain ⟨n,rfl,h1,h2,rfl⟩:=hv
  refine ⟨_,_,_,h,⟨N.ext_tok st.nl st.nx n,Nat.le_refl _,Nat.le_succ _⟩,hs.addTok (hd _ (by simp)) h1 h2,?_,?_,fun y hy=>?_⟩
  · have e:(N.tok st.nx n).tk st.nx=n:=if_pos rfl
    simp only [trT,trM,e]
  · simp [bdd,Nat.blt_eq]
  · rcases zRg hs hy with rfl | hy
    · exact .inr (by simp)
    · exact .inl hy
 | .arr i,x,N,st,s,v,rs,K,hs,hv,_,hd,h=>by
  cases x with
  | none=>
   simp only [VK] at hv; simp only [putK,zJ] at h
   exact ⟨N,_,st,h,.refl _ _,hs,by rw [hv.1]; rfl,rfl,fun y hy=>.inl hy⟩
  | some xs=>
   simp only [VK] at hv; simp only [putK,zJ] at h
   obtain ⟨b,cap,rfl,h1,h2,rfl⟩:=hv
   have ec:(N.loc st.nl b cap (C.cells i)).cp st.nl=cap:=if_pos rfl
   have eb:(N.loc st.nl b cap (C.cells i)).bl st.nl=b:=if_pos rfl
   refine ⟨_,_,_,h,⟨N.ext_loc st.nl st.nx b cap (C.cells i),Nat.le_succ _,Nat.le_refl _⟩,hs.addBox (bx:=.ar i xs) (hd _ (by simp)) (by simp only [trB,ec]; exact h2) ⟨if_pos rfl,by rw [ec]; exact h1⟩,?_,?_,fun y hy=>?_⟩
   · simp only [trT,ec,eb]
   · simp [bdd,Nat.blt_eq]
   · rcases zLU hs hy with rfl | hy
     · exact .inr (by simp)
     · exact .inl hy
 | .box cs,x,N,st,s,v,rs,K,hs,hv,hn,hd,h=>by
  simp only [VK] at hv; simp only [putK] at h
  obtain ⟨b,vs,rs',rfl,h1,h2,rfl⟩:=hv
  obtain ⟨hn1,hn2⟩:=List.nodup_cons.1 hn
  obtain ⟨N1,vs',st1,h3,h4,h5,h6,h7,h8⟩:=jp hC cs x hs h2 hn2 (fun y hy=>hd y (by simp [hy])) h
  obtain ⟨h9,h10⟩:=zO h3
  have ext:=N1.ext_loc st1.nl st1.nx b 0 0
  have eb:(N1.loc st1.nl b 0 0).bl st1.nl=b:=if_pos rfl
  have hlen:vs'.length=vs.length:=by have:=congrArg List.length h6; simpa using this
  refine ⟨_,_,_,h10,h4.trans ⟨ext,Nat.le_succ _,Nat.le_refl _⟩,h5.addBox (bx:=.st vs') (fun hh=>?_) (by simp only [trB]; rw [xh ext h7,h6,hlen]; exact h1) ⟨xc (Nat.le_succ _) (Nat.le_refl _) _ h7,h9⟩,?_,?_,fun y hy=>?_⟩
  · rcases h8 _ hh with q | q
    · exact hd _ (by simp) q
    · exact hn1 q
  · simp only [trT,eb]
  · simp [bdd,Nat.blt_eq]
  · rcases zLU h5 hy with rfl | hy
    · exact .inr (by simp)
    · rcases h8 _ hy with q | q
      · exact .inl q
      · exact .inr (by simp [q])
 | .scs,x,N,st,s,v,rs,K,hs,hv,_,hd,h=>by
  simp only [VK] at hv; simp only [putK] at h
  obtain ⟨b,cap,fp,rfl,h1,rfl⟩:=hv
  have ec:(N.loc st.nl b cap x.length).cp st.nl=cap:=if_pos rfl
  have eb:(N.loc st.nl b cap x.length).bl st.nl=b:=if_pos rfl
  have ez:(N.loc st.nl b cap x.length).sz st.nl=x.length:=if_pos rfl
  refine ⟨_,_,_,h,⟨N.ext_loc st.nl st.nx b cap x.length,Nat.le_succ _,Nat.le_refl _⟩,hs.addOb (o:=.sc x) (hd _ (by simp)) (by simp only [trO,ec]; exact h1) ez,?_,?_,fun y hy=>?_⟩
  · simp only [trT,ec,eb,ez]
  · simp [bdd,Nat.blt_eq]
  · rcases zIp hs hy with rfl | hy
    · exact .inr (by simp)
    · exact .inl hy
 | .mpo,x,N,st,s,v,rs,K,hs,hv,_,hd,h=>by
  cases x with
  | none=>
   simp only [VK] at hv; simp only [putK,zJ] at h
   exact ⟨N,_,st,h,.refl _ _,hs,by rw [hv.1]; rfl,rfl,fun y hy=>.inl hy⟩
  | some xs=>
   simp only [VK] at hv; simp only [putK,zJ] at h
   obtain ⟨b,fp,rfl,h1,rfl⟩:=hv
   have ec:(N.loc st.nl b 1 0).cp st.nl=1:=if_pos rfl
   have eb:(N.loc st.nl b 1 0).bl st.nl=b:=if_pos rfl
   refine ⟨_,_,_,h,⟨N.ext_loc st.nl st.nx b 1 0,Nat.le_succ _,Nat.le_refl _⟩,hs.addOb (o:=.mp xs) (hd _ (by simp)) (by simp only [trO]; exact h1) (by simp only [wfO,ec]; decide),?_,?_,fun y hy=>?_⟩
   · simp only [trT,ec,eb]; rfl
   · simp [bdd,Nat.blt_eq]
   · rcases zIp hs hy with rfl | hy
     · exact .inr (by simp)
     · exact .inl hy
 | .jm,x,N,st,s,v,rs,K,hs,hv,_,hd,h=>by
  simp only [VK] at hv; simp only [putK] at h
  obtain ⟨⟨m,rfl⟩,rfl⟩:=hv
  have hext:=N.ext_loc st.nl st.nx (m.getD 0) (if m.isSome then 1 else 0) 0
  have ec:(N.loc st.nl (m.getD 0) (if m.isSome then 1 else 0) 0).cp st.nl=(if m.isSome then 1 else 0):=if_pos rfl
  have eb:(N.loc st.nl (m.getD 0) (if m.isSome then 1 else 0) 0).bl st.nl=m.getD 0:=if_pos rfl
  refine ⟨_,_,_,h,⟨hext,Nat.le_succ _,Nat.le_refl _⟩,(hs.more hext (Nat.le_refl _) (Nat.le_refl _)).more (.refl (st.nl+1) _ _) (Nat.le_succ _) (Nat.le_refl _),?_,?_,fun y hy=>.inl (zFv hs hext (Nat.le_refl _) (Nat.le_refl _) hy)⟩
  · simp only [trT,ec,eb]
    cases m <;> rfl
  · simp [bdd,Nat.blt_eq]
 | .mpj,x,N,st,s,v,rs,K,hs,hv,_,hd,h=>by
  cases x with
  | none=>
   simp only [VK] at hv; simp only [putK,zJ] at h
   obtain ⟨⟨m,rfl⟩,rfl⟩:=hv
   have hext:=N.ext_loc st.nl st.nx (m.getD 0) (if m.isSome then 1 else 0) 0
   have ec:(N.loc st.nl (m.getD 0) (if m.isSome then 1 else 0) 0).cp st.nl=(if m.isSome then 1 else 0):=if_pos rfl
   have eb:(N.loc st.nl (m.getD 0) (if m.isSome then 1 else 0) 0).bl st.nl=m.getD 0:=if_pos rfl
   refine ⟨_,_,_,h,⟨hext,Nat.le_succ _,Nat.le_refl _⟩,(hs.more hext (Nat.le_refl _) (Nat.le_refl _)).more (.refl (st.nl+1) _ _) (Nat.le_succ _) (Nat.le_refl _),?_,?_,fun y hy=>.inl (zFv hs hext (Nat.le_refl _) (Nat.le_refl _) hy)⟩
   · simp only [trT,ec,eb]
     cases m <;> rfl
   · simp [bdd,Nat.blt_eq]
  | some x=>
   cases x with
   | none=>
    simp only [VK] at hv; simp only [putK,zJ] at h
    exact ⟨N,_,st,h,.refl _ _,hs,by rw [hv.1]; rfl,rfl,fun y hy=>.inl hy⟩
   | some xs=>
    simp only [VK] at hv; simp only [putK,zJ] at h
    obtain ⟨b,fp,rfl,h1,rfl⟩:=hv
    have ec:(N.loc st.nl b 1 0).cp st.nl=1:=if_pos rfl
    have eb:(N.loc st.nl b 1 0).bl st.nl=b:=if_pos rfl
    refine ⟨_,_,_,h,⟨N.ext_loc st.nl st.nx b 1 0,Nat.le_succ _,Nat.le_refl _⟩,hs.addOb (o:=.mp xs) (hd _ (by simp)) (by simp only [trO]; exact h1) (by simp only [wfO,ec]; decide),?_,?_,fun y hy=>?_⟩
    · simp only [trT,ec,eb]; rfl
    · simp [bdd,Nat.blt_eq]
    · rcases zIp hs hy with rfl | hy
      · exact .inr (by simp)
      · exact .inl hy
 | .ag cs,x,N,st,s,v,rs,K,hs,hv,hn,hd,h=>by
  simp only [VK] at hv; simp only [putK] at h
  obtain ⟨vs,rfl,h2⟩:=hv
  obtain ⟨N1,vs',st1,h3,h4,h5,h6,h7,h8⟩:=jp hC cs x hs h2 hn hd h
  exact ⟨N1,_,st1,h3,h4,h5,by simp only [trT,yu,h6],by simpa only [bdd] using h7,h8⟩
theorem jp (hC:CodOk C) {r:R}:∀ (l:List (SK U)) (x:zA l) {N:NM} {st:St U} {s:S} {vs:List V} {rs:List Res} {K:List (T U)->St U->Option R},SSim C N st s->VKs C s l x vs rs->rs.Nodup->(∀ y ∈ rs,¬ Has N st y)->kx C l x st K=some r ->
 ∃ N' vs' st',K vs' st' = some r/\Turn N st N' st'/\SSim C N' st' s/\vs'.map (trT C N')=vs/\bdds st'.nl st'.nx vs' = true/\(∀ y,Has N' st' y->Has N st y\/y ∈ rs)
 | [],x,N,st,s,vs,rs,K,hs,hv,_,_,h=>by
  simp only [VKs] at hv; simp only [kx] at h
  exact ⟨N,_,st,h,.refl _ _,hs,by rw [hv.1]; rfl,rfl,fun y hy=>.inl hy⟩
 | k::rest,x,N,st,s,vs,rs,K,hs,hv,hn,hd,h=>by
  simp only [VKs] at hv; simp only [kx,qx] at h
  obtain ⟨v,vs',r1,r2,rfl,rfl,h1,h2⟩:=hv
  obtain ⟨hn1,hn2,hn3⟩:=List.nodup_append.1 hn
  obtain ⟨N1,v1,st1,h3,h4,h5,h6,h7,h8⟩:=zQv hC k x.1 hs h1 hn1 (fun y hy=>hd y (by simp [hy])) h
  obtain ⟨N2,vs2,st2,q3,q4,q5,q6,q7,q8⟩:=jp hC rest x.2 h5 h2 hn2 (fun y hy hh=>by
   rcases h8 y hh with q | q
   · exact hd y (by simp [hy]) q
   · exact hn3 y q y hy rfl) h3
  refine ⟨N2,_,st2,q3,h4.trans q4,q5,?_,?_,fun y hy=>?_⟩
  · rw [List.map_cons,q6,zBv C q4.ext _ h7,h6]
  · simp only [bdds,q7,zBH q4.nl q4.nx _ h7,Bool.and_self]
  · rcases q8 y hy with q | q
    · rcases h8 y q with q' | q'
      · exact .inl q'
      · exact .inr (by simp [q'])
    · exact .inr (by simp [q])
end
end
open Go.Al
section
variable {U:TyU} {C:Cod U} {R:Type}
theorem SSim.less {N:NM} {st:St U} {s:S} (hs:SSim C N st s) (l0:Nat):SSim C N ⟨(l0,none)::st.bx,st.tg,st.nl,st.nx,st.ob⟩ s:=by
 have key:∀ l b,lk ((l0,none)::st.bx) l=some b->lk st.bx l=some b:=fun l b hl=>by
  rw [xp] at hl
  by_cases e:l0=l
  · rw [if_pos e] at hl; cases hl
  · rw [if_neg e] at hl; exact hl
 exact ⟨fun l b hl=>hs.box l b (key l b hl),fun l b hl=>hs.lt l b (key l b hl),fun l b hl=>hs.wf l b (key l b hl),fun l l' b b' h1 h2 he=>hs.inj l l' b b' (key l b h1) (key l' b' h2) he,hs.tgIn,hs.tgInj,hs.tgLt,hs.nm,hs.ob⟩
theorem SSim.lessO {N:NM} {st:St U} {s:S} (hs:SSim C N st s) (l0:Nat):SSim C N ⟨st.bx,st.tg,st.nl,st.nx,(l0,none)::st.ob⟩ s:=by
 have key:∀ l b,lko ((l0,none)::st.ob) l=some b->lko st.ob l=some b:=fun l b hl=>by
  rw [j7] at hl
  by_cases e:l0=l
  · rw [if_pos e] at hl; cases hl
  · rw [if_neg e] at hl; exact hl
 exact ⟨hs.box,hs.lt,hs.wf,hs.inj,hs.tgIn,hs.tgInj,hs.tgLt,hs.nm,⟨fun l b hl=>hs.ob.look l b (key l b hl),fun l b hl=>hs.ob.lt l b (key l b hl),fun l b hl=>hs.ob.wf l b (key l b hl),fun l l' b b' h1 h2 he=>hs.ob.inj l l' b b' (key l b h1) (key l' b' h2) he⟩⟩
theorem zER {N:NM} {st:St U} {l0:Nat} {y:Res} (h:Has N ⟨st.bx,st.tg,st.nl,st.nx,(l0,none)::st.ob⟩ y):Has N st y:=by
 cases y with
 | inl n=>exact h
 | inr b=>exact h
 | ob b=>
  obtain ⟨l,x,hl,he⟩:=h
  have hl':lko ((l0,none)::st.ob) l=some x:=hl
  rw [j7] at hl'
  by_cases e:l0=l
  · rw [if_pos e] at hl'; cases hl'
  · rw [if_neg e] at hl'; exact ⟨l,x,hl',he⟩
theorem zEh {N:NM} {st:St U} {s:S} (hs:SSim C N st s) {l0:Nat} {x0:TO} (h0:lko st.ob l0=some x0):¬ Has N ⟨st.bx,st.tg,st.nl,st.nx,(l0,none)::st.ob⟩ (.ob (N.bl l0)):=by
 rintro ⟨l,x,hl,he⟩
 have hl':lko ((l0,none)::st.ob) l=some x:=hl
 rw [j7] at hl'
 by_cases e:l0=l
 · rw [if_pos e] at hl'; cases hl'
 · rw [if_neg e] at hl'; exact e (hs.ob.inj l0 l x0 x h0 hl' he.symm)
theorem SSim.lessT {N:NM} {st:St U} {s:S} (hs:SSim C N st s) (t:Nat):SSim C N ⟨st.bx,rmN st.tg t,st.nl,st.nx,st.ob⟩ s:=
 ⟨hs.box,hs.lt,hs.wf,hs.inj,fun t ht=>hs.tgIn t (jG ht).1,fun t ht t' ht'=>hs.tgInj t (jG ht).1 t' (jG ht').1,fun t ht=>hs.tgLt t (jG ht).1,fun t ht=>hs.nm t (jG ht).1,hs.ob⟩
theorem zFW {N:NM} {st:St U} {l0:Nat} {y:Res} (h:Has N ⟨(l0,none)::st.bx,st.tg,st.nl,st.nx,st.ob⟩ y):Has N st y:=by
 cases y with
 | inl n=>exact h
 | ob b=>exact h
 | inr b=>
  obtain ⟨l,x,hl,he⟩:=h
  have hl':lk ((l0,none)::st.bx) l=some x:=hl
  rw [xp] at hl'
  by_cases e:l0=l
  · rw [if_pos e] at hl'; cases hl'
  · rw [if_neg e] at hl'; exact ⟨l,x,hl',he⟩
theorem zFl {N:NM} {st:St U} {s:S} (hs:SSim C N st s) {l0:Nat} {x0:Bx U} (h0:lk st.bx l0=some x0):¬ Has N ⟨(l0,none)::st.bx,st.tg,st.nl,st.nx,st.ob⟩ (.inr (N.bl l0)):=by
 rintro ⟨l,x,hl,he⟩
 have hl':lk ((l0,none)::st.bx) l=some x:=hl
 rw [xp] at hl'
 by_cases e:l0=l
 · rw [if_pos e] at hl'; cases hl'
 · rw [if_neg e] at hl'; exact e (hs.inj l0 l x0 x h0 hl' he.symm)
theorem zN6 {N:NM} {st:St U} {t:Nat} {y:Res} (h:Has N ⟨st.bx,rmN st.tg t,st.nl,st.nx,st.ob⟩ y):Has N st y:=by
 cases y with
 | inl n=>obtain ⟨t',ht,he⟩:=h; exact ⟨t',(jG ht).1,he⟩
 | inr b=>exact h
 | ob b=>exact h
theorem zM5 {N:NM} {st:St U} {s:S} (hs:SSim C N st s) {t:Nat} (h0:t ∈ st.tg):¬ Has N ⟨st.bx,rmN st.tg t,st.nl,st.nx,st.ob⟩ (.inl (N.tk t)):=by
 rintro ⟨t',ht,he⟩
 obtain ⟨h1,h2⟩:=jG ht
 exact h2 (hs.tgInj t' h1 t h0 he)
theorem zHX {N:NM} {x:T U} (h:zFz x=true):yQ (trT C N x)=trT C N x:=by
 cases x with
 | lst m i xs=>
  cases m with
  | b n=>cases n <;> rfl
  | dl=>simp only [trT,trM]; exact zCQ _
  | ow t nb=>simp [zFz] at h
 | _=>rfl
theorem zNB {N:NM} {x:T U} (h:zJT x=true):(trT C N x).untag=trT C N x:=by
 cases x with
 | agg fs=>
  simp only [zJT,List.all_eq_true] at h
  simp only [trT,yu,V.untag,List.map_map]
  congr 1
  exact List.map_congr_left fun x hx=>zHX (h x hx)
 | lst m i xs=>exact zHX (x:=.lst m i xs) h
 | _=>rfl
theorem zQh {a b:Bool} (h:beqB a b=true):a=b:=by simpa [beqB] using h
mutual
/-- READ OUT. -/
theorem zQk (hC:CodOk C) {r:R}:∀ (k:SK U) {N:NM} {st:St U} {s:S} {v:T U} {v':V} {K:denK k->St U->Option R},SSim C N st s->VR C N v v'->getK C k v st K=some r ->
 ∃ x st' rs,K x st' = some r/\SSim C N st' s/\st'.nl=st.nl/\st'.nx=st.nx/\VK C s k x v' rs/\rs.Nodup/\(∀ y ∈ rs,Has N st y/\¬ Has N st' y)/\(∀ y,Has N st' y->Has N st y)
 | .int k,N,st,s,v,v',K,hs,hv,h=>by
  simp only [getK] at h
  split at h
  · obtain ⟨h1,h2⟩:=zO h
    simp only [decide_eq_true_eq] at h1
    subst h1
    exact ⟨_,st,[],h2,hs,rfl,rfl,by simp only [VK]; exact ⟨hv.get (by simp),trivial⟩,List.nodup_nil,(by simp),fun y hy=>hy⟩
  · cases h
 | .bool,N,st,s,v,v',K,hs,hv,h=>by
  simp only [getK] at h
  split at h
  · exact ⟨_,st,[],h,hs,rfl,rfl,by simp only [VK]; exact ⟨hv.get (by simp),trivial⟩,List.nodup_nil,(by simp),fun y hy=>hy⟩
  · cases h
 | .str,N,st,s,v,v',K,hs,hv,h=>by
  simp only [getK] at h
  split at h
  · exact ⟨_,st,[],h,hs,rfl,rfl,by simp only [VK]; exact ⟨hv.get (by simp),trivial⟩,List.nodup_nil,(by simp),fun y hy=>hy⟩
  · cases h
 | .dl i,N,st,s,v,v',K,hs,hv,h=>by
  simp only [getK] at h
  split at h
  · exact ⟨_,st,[],h,hs,rfl,rfl,by simp only [VK]; exact ⟨hv.get (by simp),trivial⟩,List.nodup_nil,(by simp),fun y hy=>hy⟩
  · rename_i m j ys
    have hq:=jB h; clear h; obtain ⟨rfl,h⟩:=hq
    simp only [kw] at h
    split at h
    · exact ⟨_,st,[],h,hs,rfl,rfl,by simp only [VK]; exact ⟨hv.get (by simp),trivial⟩,List.nodup_nil,(by simp),fun y hy=>hy⟩
    · rename_i n
      obtain ⟨h1,h2⟩:=zO h
      refine ⟨_,st,[],h2,hs,rfl,rfl,?_,List.nodup_nil,(by simp),fun y hy=>hy⟩
      simp only [VK]
      refine ⟨(hv.get (by simp)).trans ?_,trivial⟩
      simp only [trT,trM]
      cases n <;> cases ys <;> simp at h1 <;> rfl
    · cases h
  · cases h
 | .bl i,N,st,s,v,v',K,hs,hv,h=>by
  simp only [getK] at h
  split at h
  · exact ⟨_,st,[],h,hs,rfl,rfl,by simp only [VK]; exact ⟨hv.get (by simp),trivial⟩,List.nodup_nil,(by simp),fun y hy=>hy⟩
  · rename_i m j ys
    have hq:=jB h; clear h; obtain ⟨rfl,h⟩:=hq
    simp only [kw] at h
    split at h
    · refine ⟨_,st,[],h,hs,rfl,rfl,?_,List.nodup_nil,(by simp),fun y hy=>hy⟩
      simp only [VK]
      refine ⟨(hv.get (by simp)).trans ?_,trivial⟩
      simp only [trT,trM]
      cases ys <;> rfl
    · exact ⟨_,st,[],h,hs,rfl,rfl,by simp only [VK]; exact ⟨hv.get (by simp),trivial⟩,List.nodup_nil,(by simp),fun y hy=>hy⟩
    · cases h
  · cases h
 | .ow nb i,N,st,s,v,v',K,hs,hv,h=>by
  simp only [getK] at h
  split at h
  · rename_i m j ys
    have hq:=jB h; clear h; obtain ⟨rfl,h⟩:=hq
    simp only [kw] at h
    split at h
    · rename_i t nb'
      obtain ⟨h1,h2⟩:=zO h
      simp only [Bool.and_eq_true] at h1
      have hnb:=zQh h1.1
      subst hnb
      have hm:=zCT h1.2
      refine ⟨_,_,[.inl (N.tk t)],h2,hs.lessT t,rfl,rfl,?_,by simp,?_,fun y hy=>zN6 hy⟩
      · simp only [VK]
        exact ⟨_,hv.get (by simp),hs.tgIn t hm,hs.nm t hm,rfl⟩
      · intro y hy
        simp only [List.mem_singleton] at hy
        subst hy
        exact ⟨⟨t,hm,rfl⟩,zM5 hs hm⟩
    · cases h
  · cases h
 | .arr i,N,st,s,v,v',K,hs,hv,h=>by
  simp only [getK] at h
  split at h
  · exact ⟨_,st,[],h,hs,rfl,rfl,by simp only [VK]; exact ⟨hv.get (by simp),trivial⟩,List.nodup_nil,(by simp),fun y hy=>hy⟩
  · rename_i l n
    split at h
    · rename_i j ys hl
      have hq:=jB h; clear h; obtain ⟨rfl,h⟩:=hq
      simp only [kw] at h
      obtain ⟨h1,h2⟩:=zO h
      simp only [eqN,Nat.beq_eq] at h1
      have hw:=hs.wf l _ hl
      refine ⟨_,_,[.inr (N.bl l)],h2,hs.less l,rfl,rfl,?_,by simp,?_,fun y hy=>zFW hy⟩
      · simp only [VK]
        exact ⟨N.bl l,N.cp l,by rw [hv.get (by simp)]; simp only [trT,h1],hw.2,by rw [hs.box l _ hl]; rfl,rfl⟩
      · intro y hy
        simp only [List.mem_singleton] at hy
        subst hy
        exact ⟨⟨l,_,hl,rfl⟩,zFl hs hl⟩
    · cases h
  · cases h
 | .box cs,N,st,s,v,v',K,hs,hv,h=>by
  simp only [getK] at h
  split at h
  · rename_i l o
    obtain ⟨h1,h2⟩:=zO h
    clear h
    simp only [Nat.beq_eq] at h1
    subst h1
    split at h2
    · rename_i vs hl
      rw [qx] at h2
      obtain ⟨x,st',rs,q1,q2,q3,q4,q5,q6,q7,q8⟩:=jQ hC cs (vs:=vs) (vs':=vs.map (trT C N)) (hs.less l) (by simp) (fun j x v a b=>by
       rw [List.getElem?_map,a] at b
       injection b with b
       exact .inr b.symm) h2
      have hbox:=hs.box l _ hl
      refine ⟨x,st',.inr (N.bl l)::rs,q1,q2,q3,q4,?_,?_,?_,fun y hy=>zFW (q8 y hy)⟩
      · simp only [VK]
        exact ⟨N.bl l,vs.map (trT C N),rs,hv.get (by simp),by rw [hbox]; simp [trB],q5,rfl⟩
      · exact List.nodup_cons.2 ⟨fun hh=>zFl hs hl (q7 _ hh).1,q6⟩
      · intro y hy
        rcases List.mem_cons.1 hy with rfl | hy
        · exact ⟨⟨l,_,hl,rfl⟩,fun hh=>zFl hs hl (q8 _ hh)⟩
        · exact ⟨zFW (q7 y hy).1,(q7 y hy).2⟩
    · cases h2
  · cases h
 | .st i,N,st,s,v,v',K,hs,hv,h=>by
  simp only [getK] at h
  obtain ⟨h1,h2⟩:=zO h
  obtain ⟨x,h3,h4⟩:=hC.dec i _ _ _ h2
  refine ⟨x,st,[],h3,hs,rfl,rfl,?_,List.nodup_nil,(by simp),fun y hy=>hy⟩
  simp only [VK]
  have hne:v≠.any:=fun e=>by
   subst e
   have:=h4 N
   have h5:=hC.size i x
   have h6:=hC.ones i x
   simp only [trT,V.untag,yQ] at this
   rw [<- this] at h6
   simp [zK,V.flat,V.isOne] at h6
  exact ⟨by rw [hv.get hne,<- h4 N,zNB h1],trivial⟩
 | .scs,N,st,s,v,v',K,hs,hv,h=>by
  simp only [getK] at h
  split at h
  · rename_i l
    split at h
    · rename_i o hl
      split at h
      · rename_i xs
        have hw:=hs.ob.wf l _ hl
        obtain ⟨fp,h1⟩:=hs.ob.look l _ hl
        refine ⟨_,_,[.ob (N.bl l)],h,hs.lessO l,rfl,rfl,?_,by simp,?_,fun y hy=>zER hy⟩
        · simp only [VK]
          exact ⟨N.bl l,N.cp l,fp,by rw [hv.get (by simp)]; simp only [wfO] at hw; simp only [trT,hw],h1,rfl⟩
        · intro y hy
          simp only [List.mem_singleton] at hy
          subst hy
          exact ⟨⟨l,_,hl,rfl⟩,zEh hs hl⟩
      · cases h
    · cases h
  · cases h
 | .mpo,N,st,s,v,v',K,hs,hv,h=>by
  simp only [getK] at h
  split at h
  · split at h
    · split at h
      · exact ⟨none,st,[],h,hs,rfl,rfl,by simp only [VK]; exact ⟨hv.get (by simp),trivial⟩,List.nodup_nil,(by simp),fun y hy=>hy⟩
      · cases h
    · cases h
  · rename_i l
    split at h
    · rename_i o hl
      split at h
      · rename_i c
        have hw:=hs.ob.wf l _ hl
        obtain ⟨fp,h1⟩:=hs.ob.look l _ hl
        refine ⟨some c,_,[.ob (N.bl l)],h,hs.lessO l,rfl,rfl,?_,by simp,?_,fun y hy=>zER hy⟩
        · simp only [VK]
          exact ⟨N.bl l,fp,by rw [hv.get (by simp)]; simp only [wfO] at hw; simp only [trT,if_neg hw],h1,rfl⟩
        · intro y hy
          simp only [List.mem_singleton] at hy
          subst hy
          exact ⟨⟨l,_,hl,rfl⟩,zEh hs hl⟩
      · cases h
    · cases h
  · cases h
 | .jm,N,st,s,v,v',K,hs,hv,h=>by
  simp only [getK] at h
  split at h
  · split at h
    · exact ⟨(),st,[],h,hs,rfl,rfl,by simp only [VK]; exact ⟨⟨_,hv.get (by simp)⟩,trivial⟩,List.nodup_nil,(by simp),fun y hy=>hy⟩
    · cases h
  · exact ⟨(),st,[],h,hs,rfl,rfl,by simp only [VK]; exact ⟨⟨_,hv.get (by simp)⟩,trivial⟩,List.nodup_nil,(by simp),fun y hy=>hy⟩
  · cases h
 | .mpj,N,st,s,v,v',K,hs,hv,h=>by
  simp only [getK] at h
  split at h
  · split at h
    · split at h
      · exact ⟨some none,st,[],h,hs,rfl,rfl,by simp only [VK]; exact ⟨hv.get (by simp),trivial⟩,List.nodup_nil,(by simp),fun y hy=>hy⟩
      · cases h
    · cases h
  · rename_i l
    split at h
    · rename_i o hl
      split at h
      · rename_i c
        have hw:=hs.ob.wf l _ hl
        obtain ⟨fp,h1⟩:=hs.ob.look l _ hl
        refine ⟨some (some c),_,[.ob (N.bl l)],h,hs.lessO l,rfl,rfl,?_,by simp,?_,fun y hy=>zER hy⟩
        · simp only [VK]
          exact ⟨N.bl l,fp,by rw [hv.get (by simp)]; simp only [wfO] at hw; simp only [trT,if_neg hw],h1,rfl⟩
        · intro y hy
          simp only [List.mem_singleton] at hy
          subst hy
          exact ⟨⟨l,_,hl,rfl⟩,zEh hs hl⟩
      · cases h
    · exact ⟨none,st,[],h,hs,rfl,rfl,by simp only [VK]; exact ⟨⟨_,hv.get (by simp)⟩,trivial⟩,List.nodup_nil,(by simp),fun y hy=>hy⟩
  · cases h
 | .ag cs,N,st,s,v,v',K,hs,hv,h=>by
  simp only [getK] at h
  split at h
  · rename_i vs
    obtain ⟨x,st',rs,q1,q2,q3,q4,q5,q6,q7,q8⟩:=jQ hC cs (vs:=vs) (vs':=vs.map (trT C N)) hs (by simp) (fun j x v a b=>by
     rw [List.getElem?_map,a] at b
     injection b with b
     exact .inr b.symm) h
    exact ⟨x,st',rs,q1,q2,q3,q4,by simp only [VK]; exact ⟨_,by rw [hv.get (by simp)]; simp only [trT,yu],q5⟩,q6,q7,q8⟩
  · cases h
theorem jQ (hC:CodOk C) {r:R}:∀ (l:List (SK U)) {N:NM} {st:St U} {s:S} {vs:List (T U)} {vs':List V} {K:zA l->St U->Option R},SSim C N st s->vs'.length=vs.length->(∀ (j:Nat) (x:T U) (v:V),vs[j]? = some x->vs'[j]? = some v->VR C N x v)->qD C l vs st K=some r ->
 ∃ x st' rs,K x st' = some r/\SSim C N st' s/\st'.nl=st.nl/\st'.nx=st.nx/\VKs C s l x vs' rs/\rs.Nodup/\(∀ y ∈ rs,Has N st y/\¬ Has N st' y)/\(∀ y,Has N st' y->Has N st y)
 | [],N,st,s,vs,vs',K,hs,hl,hv,h=>by
  simp only [qD] at h
  cases vs with
  | cons _ _=>cases h
  | nil=>
   have:vs' = []:=by cases vs' <;> simp at hl ⊢
   exact ⟨_,st,[],h,hs,rfl,rfl,by simp only [VKs]; exact ⟨this,trivial⟩,List.nodup_nil,(by simp),fun y hy=>hy⟩
 | k::rest,N,st,s,vs,vs',K,hs,hl,hv,h=>by
  simp only [qD,qx] at h
  cases vs with
  | nil=>cases h
  | cons v vs=>
   cases vs' with
   | nil=>simp at hl
   | cons v' vs'=>
    simp only at h
    obtain ⟨x,st1,r1,q1,q2,q3,q4,q5,q6,q7,q8⟩:=zQk hC k hs (hv 0 v v' rfl rfl) h
    obtain ⟨xs,st2,r2,p1,p2,p3,p4,p5,p6,p7,p8⟩:=jQ hC rest (vs:=vs) (vs':=vs') q2 (by simpa using hl) (fun j x v a b=>hv (j+1) x v (by simpa using a) (by simpa using b)) q1
    refine ⟨_,st2,r1++r2,p1,p2,p3.trans q3,p4.trans q4,?_,?_,?_,fun y hy=>q8 y (p8 y hy)⟩
    · simp only [VKs]
      exact ⟨v',vs',r1,r2,rfl,rfl,q5,p5⟩
    · refine List.nodup_append.2 ⟨q6,p6,fun a ha b hb e=>?_⟩
      subst e
      exact (q7 a ha).2 (p7 a hb).1
    · intro y hy
      rcases List.mem_append.1 hy with hy | hy
      · exact ⟨(q7 y hy).1,fun hh=>(q7 y hy).2 (p8 y hh)⟩
      · exact ⟨q8 y (p7 y hy).1,(p7 y hy).2⟩
end
def xw (l:Nat):List (SK U)->Nat->St U->(St U->Option R)->Option R
 | [],_,st,K=>K st
 | k::r,j,st,K=>
  match lk st.bx l with
  | some (.st vs)=>
   (match k with
   | .ow nb i=>bif nb then (match vs.getD j .any with
    | .nil=>feL (vs.set j (.lst (.ow st.nx true) i [])) fun vs'=>bif yJ vs' && bdds st.nl (st.nx+1) vs' && Nat.blt j vs.length then (feS ⟨(l,some (.st vs'))::st.bx,st.nx::st.tg,st.nl,st.nx+1,st.ob⟩ fun st'=>xw l r (j+1) st' K) else none
    | _=>xw l r (j+1) st K) else xw l r (j+1) st K
   | .arr _=>(match vs.getD j .any with
    | .sl l2 n=>(match lk st.bx l2 with
     | some (.ar i' xs)=>(feS ⟨(l2,some (.ar i' (jJ n xs)))::st.bx,st.tg,st.nl,st.nx,st.ob⟩ fun st'=>xw l r (j+1) st' K)
     | _=>xw l r (j+1) st K)
    | _=>xw l r (j+1) st K)
   | _=>xw l r (j+1) st K)
  | _=>none
def qA:List (Nat×SK U)->En U->St U->(En U->St U->Option R)->Option R
 | [],e,st,K=>K e st
 | p::r,e,st,K=>
  match p.2 with
  | .ow nb i=>bif nb then (match eget e p.1 with
   | .nil=>feS ⟨st.bx,st.nx::st.tg,st.nl,st.nx+1,st.ob⟩ fun st'=>qA r ((p.1,.lst (.ow st.nx true) i [])::e) st' K
   | _=>qA r e st K) else qA r e st K
  | .arr _=>(match eget e p.1 with
   | .sl l n=>(match lk st.bx l with
    | some (.ar i' xs)=>feS ⟨(l,some (.ar i' (jJ n xs)))::st.bx,st.tg,st.nl,st.nx,st.ob⟩ fun st'=>qA r e st' K
    | _=>qA r e st K)
   | _=>qA r e st K)
  | .box cs=>(match eget e p.1 with
   | .ptr l _=>xw l cs 0 st fun st'=>feS st' fun st'=>qA r e st' K
   | _=>qA r e st K)
  | _=>qA r e st K
theorem zIm (hC:CodOk C) {N:NM} {st:St U} {s:S} (hs:SSim C N st s) {l n:Nat} {i:U.I} {xs:List (U.den i)} (hl:lk st.bx l=some (.ar i xs)) :
 ∃ s',Gs s s'/\SSim C N ⟨(l,some (.ar i (jJ n xs)))::st.bx,st.tg,st.nl,st.nx,st.ob⟩ s':=by
 have hw:=hs.wf l _ hl
 have h1:=hs.setBox (b1:=.ar i (jJ n xs)) hl ⟨hw.1,by unfold jJ; rw [List.length_take]; have:=hw.2; omega⟩
 refine ⟨_,?_,h1⟩
 simp only [trB,jJ,<- zAi hC]
 exact zOR _ _ (hs.box l _ hl)
theorem zOw (hC:CodOk C) {X:Cx} {N:NM} {st:St U} {s:S} (hs:SSim C N st s) {e:En U} {E:Env} (he:ESim C N st e E) (k:Nat) (i:U.I) (hk:eget e k = .nil) :
 ∃ N' E' s',Gst X E s E' s'/\Turn N st N' ⟨st.bx,st.nx::st.tg,st.nl,st.nx+1,st.ob⟩/\SSim C N' ⟨st.bx,st.nx::st.tg,st.nl,st.nx+1,st.ob⟩ s'/\ESim C N' ⟨st.bx,st.nx::st.tg,st.nl,st.nx+1,st.ob⟩ (eput e (some k) (.lst (.ow st.nx true) i [])) E':=by
 have h1:=(he k).1
 rw [hk] at h1
 have h2:E.get k = .lst .nil []:=h1.get (by simp)
 have ht:Turn N st (N.tok st.nx s.nx) ⟨st.bx,st.nx::st.tg,st.nl,st.nx+1,st.ob⟩:=⟨N.ext_tok st.nl st.nx s.nx,Nat.le_refl _,Nat.le_succ _⟩
 refine ⟨N.tok st.nx s.nx,_,_,zNU k (C.cells i) h2,ht,hs.newTok (n:=s.nx) (tg:=st.tg) (tg':=s.tg) (x:=s.nx+1) (fun _ h=>h) hs.tgIn (fun t ht=>Nat.ne_of_lt (hs.nm t ht)) (Nat.le_succ _) (Nat.lt_succ_self _),?_⟩
 refine (he.turn ht).put (.inr ?_) (by simp [bdd,Nat.blt_eq]) (some k)
 have e1:(N.tok st.nx s.nx).tk st.nx=s.nx:=if_pos rfl
 simp [trT,trM,e1]
theorem zNw (hC:CodOk C) {N:NM} {st:St U} {s:S} (hs:SSim C N st s) {e:En U} {E:Env} (he:ESim C N st e E) {l j:Nat} {i:U.I} {vs:List (T U)} (hl:lk st.bx l=some (.st vs)) (hj:vs.getD j .any = .nil) (hjl:j < vs.length)
 (h1:yJ (vs.set j (.lst (.ow st.nx true) i []))=true) (h2:bdds st.nl (st.nx+1) (vs.set j (.lst (.ow st.nx true) i []))=true) :
 ∃ N' s',Gs s s'/\Turn N st N' ⟨(l,some (.st (vs.set j (.lst (.ow st.nx true) i []))))::st.bx,st.nx::st.tg,st.nl,st.nx+1,st.ob⟩ /\
  SSim C N' ⟨(l,some (.st (vs.set j (.lst (.ow st.nx true) i []))))::st.bx,st.nx::st.tg,st.nl,st.nx+1,st.ob⟩ s'/\ESim C N' ⟨(l,some (.st (vs.set j (.lst (.ow st.nx true) i []))))::st.bx,st.nx::st.tg,st.nl,st.nx+1,st.ob⟩ e E:=by
 have hb:=hs.box l _ hl
 have hw:=hs.wf l _ hl
 have hj':vs[j]? = some .nil:=by
  rw [List.getD_eq_getElem?_getD,List.getElem?_eq_getElem hjl] at hj
  rw [List.getElem?_eq_getElem hjl]
  exact congrArg some hj
 have ht:Turn N st (N.tok st.nx s.nx) ⟨(l,some (.st (vs.set j (.lst (.ow st.nx true) i []))))::st.bx,st.nx::st.tg,st.nl,st.nx+1,st.ob⟩:=⟨N.ext_tok st.nl st.nx s.nx,Nat.le_refl _,Nat.le_succ _⟩
 have hn:=hs.newTok (n:=s.nx) (tg:=st.tg) (tg':=s.tg) (x:=s.nx+1) (fun _ h=>h) hs.tgIn (fun t ht=>Nat.ne_of_lt (hs.nm t ht)) (Nat.le_succ _) (Nat.lt_succ_self _)
 have hn2:=hn.setBox (l0:=l) (b1:=.st (vs.set j (.lst (.ow st.nx true) i []))) hl ⟨h2,h1⟩
 refine ⟨N.tok st.nx s.nx,_,?_,ht,hn2,he.turn ht⟩
 have e1:(N.tok st.nx s.nx).tk st.nx=s.nx:=if_pos rfl
 have e2:(vs.set j (.lst (.ow st.nx true) i [])).map (trT C (N.tok st.nx s.nx))=(vs.map (trT C N)).set j (.lst (.own s.nx true (C.cells i)) []):=by
  rw [List.map_set,xh ht.ext hw.1]
  simp [trT,trM,e1]
 simp only [trB,e2,List.length_set]
 exact zOD _ j (C.cells i) hb (by rw [List.getElem?_map,hj']; rfl)
end
open Go.Al
section
variable {U:TyU} {C:Cod U} {R:Type} {r:R}
theorem km (hC:CodOk C) {l:Nat} {e:En U} {E:Env}:∀ (ks:List (SK U)) (j:Nat) {N:NM} {st:St U} {s:S} {K:St U->Option R},SSim C N st s->ESim C N st e E->xw l ks j st K=some r ->
 ∃ N' st' s',K st' = some r/\Gs s s'/\Turn N st N' st'/\SSim C N' st' s'/\ESim C N' st' e E
 | [],j,N,st,s,K,hs,he,h=>⟨N,st,s,h,.refl _,.refl _ _,hs,he⟩
 | k::rest,j,N,st,s,K,hs,he,h=>by
  simp only [xw,qx] at h
  have go:xw l rest (j+1) st K=some r->∃ N' st' s',K st' = some r/\Gs s s'/\Turn N st N' st'/\SSim C N' st' s'/\ESim C N' st' e E:=fun hh=>km hC rest (j+1) hs he hh
  split at h
  · rename_i vs hl
    split at h
    · rename_i nb i
      cases nb with
      | false=>exact go h
      | true=>
       simp only [cond_true] at h
       split at h
       · rename_i hj
         rw [zAx] at h
         obtain ⟨h1,h2⟩:=zO h
         simp only [Bool.and_eq_true] at h1
         obtain ⟨N1,s1,q1,q2,q3,q4⟩:=zNw hC hs he hl hj (xo h1.2) h1.1.1 h1.1.2
         obtain ⟨N2,st2,s2,p1,p2,p3,p4,p5⟩:=km hC rest (j+1) q3 q4 h2
         exact ⟨N2,st2,s2,p1,q1.trans p2,q2.trans p3,p4,p5⟩
       · exact go h
    · split at h
      · rename_i l2 n _
        split at h
        · rename_i i' xs hl2
          obtain ⟨s1,q1,q2⟩:=zIm hC hs (n:=n) hl2
          have ht:Turn N st N ⟨(l2,some (.ar i' (jJ n xs)))::st.bx,st.tg,st.nl,st.nx,st.ob⟩:=⟨.refl _ _ _,Nat.le_refl _,Nat.le_refl _⟩
          obtain ⟨N2,st2,s2,p1,p2,p3,p4,p5⟩:=km hC rest (j+1) q2 (he.turn ht) h
          exact ⟨N2,st2,s2,p1,q1.trans p2,ht.trans p3,p4,p5⟩
        · exact go h
      · exact go h
    · exact go h
  · cases h
theorem kz (hC:CodOk C) {X:Cx}:∀ (vars:List (Nat×SK U)) {e:En U} {E:Env} {N:NM} {st:St U} {s:S} {K:En U->St U->Option R},SSim C N st s->ESim C N st e E->qA vars e st K=some r ->
 ∃ N' e' st' E' s',K e' st' = some r/\Gst X E s E' s'/\Turn N st N' st'/\SSim C N' st' s'/\ESim C N' st' e' E'/\∀ j,(∀ p ∈ vars,p.1≠j)->eget e' j=eget e j
 | [],e,E,N,st,s,K,hs,he,h=>⟨N,e,st,E,s,h,.refl _ _ _,.refl _ _,hs,he,fun _ _=>rfl⟩
 | p::rest,e,E,N,st,s,K,hs,he,h=>by
  simp only [qA,qx] at h
  have go:qA rest e st K=some r->∃ N' e' st' E' s',K e' st' = some r/\Gst X E s E' s'/\Turn N st N' st'/\SSim C N' st' s'/\ESim C N' st' e' E'/\∀ j,(∀ q ∈ p::rest,q.1≠j)->eget e' j=eget e j:=fun hh=>by
   obtain ⟨N',e',st',E',s',q1,q2,q3,q4,q5,q6⟩:=kz hC rest hs he hh
   exact ⟨N',e',st',E',s',q1,q2,q3,q4,q5,fun j hj=>q6 j fun q hq=>hj q (by simp [hq])⟩
  split at h
  · rename_i nb i _
    cases nb with
    | false=>exact go h
    | true=>
     simp only [cond_true] at h
     split at h
     · rename_i hk
       obtain ⟨N1,E1,s1,q1,q2,q3,q4⟩:=zOw (X:=X) hC hs he p.1 i hk
       obtain ⟨N2,e2,st2,E2,s2,p1,p2,p3,p4,p5,p6⟩:=kz hC rest q3 q4 h
       refine ⟨N2,e2,st2,E2,s2,p1,q1.trans p2,q2.trans p3,p4,p5,fun j hj=>?_⟩
       rw [p6 j fun q hq=>hj q (by simp [hq])]
       have hne:=hj p (by simp)
       simp [eput,eget,xK hne]
     · exact go h
  · split at h
    · rename_i l n _
      split at h
      · rename_i i' xs hl
        obtain ⟨s1,q0,q2⟩:=zIm hC hs (n:=n) hl
        have q1:Gst X E s E s1:=q0.gst
        have ht:Turn N st N ⟨(l,some (.ar i' (jJ n xs)))::st.bx,st.tg,st.nl,st.nx,st.ob⟩:=⟨.refl _ _ _,Nat.le_refl _,Nat.le_refl _⟩
        obtain ⟨N2,e2,st2,E2,s2,p1,p2,p3,p4,p5,p6⟩:=kz hC rest q2 (he.turn ht) h
        exact ⟨N2,e2,st2,E2,s2,p1,q1.trans p2,ht.trans p3,p4,p5,fun j hj=>p6 j fun q hq=>hj q (by simp [hq])⟩
      · exact go h
    · exact go h
  · split at h
    · rename_i cs _ _ l _ _
      obtain ⟨N1,st1,s1,q1,q0,q3,q4,q5⟩:=km hC cs 0 hs he h
      have q2:Gst X E s E s1:=q0.gst
      obtain ⟨N2,e2,st2,E2,s2,p1,p2,p3,p4,p5,p6⟩:=kz hC rest q4 q5 q1
      exact ⟨N2,e2,st2,E2,s2,p1,q2.trans p2,q3.trans p3,p4,p5,fun j hj=>p6 j fun q hq=>hj q (by simp [hq])⟩
    · exact go h
  · exact go h
variable (C)
def zD5 {R:Type}:List (SK U)->List (T U)->St U->(St U->Option R)->Option R
 | [],_,st,K=>K st
 | k::r,ts,st,K=>(match ts with
  | []=>none
  | t::ts=>(match k with
   | .box cs=>(match t with
    | .ptr l _=>xw l cs 0 st fun st'=>feS st' fun st'=>zD5 r ts st' K
    | _=>none)
   | _=>none))
def putB {R:Type}:(k:SK U)->denK k->T U->St U->(St U->Option R)->Option R
 | .box cs,x,t,st,K=>(match t with
  | .ptr l o=>kx C cs x st fun vs st'=>bif yJ vs && Nat.beq o 0 && Nat.blt l st.nl then feS ⟨(l,some (.st vs))::st'.bx,st'.tg,st'.nl,st'.nx,st'.ob⟩ K else none
  | _=>none)
 | _,_,_,_,_=>none
def zE9 {R:Type}:(l:List (SK U))->zA l->List (T U)->St U->(St U->Option R)->Option R
 | [],_,ts,st,K=>(match ts with | []=>K st | _::_=>none)
 | k::r,x,ts,st,K=>(match ts with
  | []=>none
  | t::ts=>putB C k x.1 t st fun st'=>zE9 r x.2 ts st' K)
structure Head (U:TyU) where
 fixed:List Nat
 vars:List (Nat×SK U)
 ptrs:List (Nat×SK U):=[]
structure FI (U:TyU) where
 wr:Nat->Bool
 own:Nat->Bool
 kf:Nat->List Nat
 hd:Nat->Option (Head U)
 jn:Nat->Option (Head U)
 kl:Nat->List (Nat×Nat×Nat):=fun _=>[]
def hid:Code->Nat
 | .region id _ _=>id
 | .seq a _=>hid a
 | .cond _ a _=>hid a
 | .block _ b=>hid b
 | .loop b=>hid b
 | .scope b=>hid b
 | _=>0
def dsts (fi:FI U):Code->List Nat
 | .region _ ops _=>dstL ops.toList
 | .seq a b=>dsts fi a++((match fi.jn (hid b) with | some h=>h.vars.map (·.1) | none=>[])++dsts fi b)
 | .cond _ a b=>dsts fi a++dsts fi b
 | .block _ b=>dsts fi b
 | .scope b=>dsts fi b
 | .loop b=>(match fi.hd (hid b) with | some h=>h.vars.map (·.1) | none=>[])++dsts fi b
 | _=>[]
def zDh {R:Type}:List Nat->En U->(En U->Option R)->Option R
 | [],_,K=>K []
 | k::r,e,K=>fe (eget e k) fun v=>zDh r e fun l=>K ((k,v)::l)
theorem zDO {R:Type}:∀ (ks:List Nat) (e:En U) (K:En U->Option R),zDh ks e K=K (ks.map fun k=>(k,eget e k))
 | [],_,_=>rfl
 | k::r,e,K=>by simp only [zDh,zCW,zDO r,List.map_cons]
def isAny:T U->Bool
 | .any=>true
 | _=>false
def kc:List Nat->En U->Bool
 | [],_=>true
 | k::r,e=>!(isAny (eget e k)) && kc r e
def zAL:List Nat->List Nat->Bool
 | [],_=>true
 | k::r,l=>!(hasN l k) && zAL r l
def zipV:List (Nat×SK U)->List (T U)->En U
 | p::r,v::vs=>(p.1,v)::zipV r vs
 | _,_=>[]
def je:List (Nat×SK U)->En U->List (T U)
 | [],_=>[]
 | p::r,e=>eget e p.1::je r e
def yi:List (Nat×SK U)->List (SK U)
 | []=>[]
 | p::r=>p.2::yi r
def iter {σ R:Type}:Nat->((σ->Option R)->σ->Option R)->σ->Option R
 | 0,_,_=>none
 | n+1,F,s=>F (iter n F) s
def zQ {σ R:Type} (F:(σ->Option R)->Option R) (j:σ->Option R):Option R:=F j
def zIN (a b:List Nat):Bool:=a.all fun k=>hasN b k
def qy (fi:FI U):Code->Bool
 | .seq a b=>(match fi.jn (hid b) with | some h=>zAL h.fixed (h.vars.map (·.1)++dsts fi a) && zIN (h.ptrs.map (·.1)) h.fixed | none=>true) && (qy fi a && qy fi b)
 | .cond _ a b=>qy fi a && qy fi b
 | .block _ b=>qy fi b
 | .scope b=>qy fi b
 | .loop b=>(match fi.hd (hid b) with | some h=>zAL h.fixed (h.vars.map (·.1)++dsts fi b) && zIN (h.ptrs.map (·.1)) h.fixed | none=>true) && qy fi b
 | _=>true
def zCv {R:Type} (h:Head U) (e:En U) (st:St U) (j:zA (yi h.vars)×zA (yi h.ptrs)->Option R):Option R:=
 qA h.vars e st fun e1 st1=>feS st1 fun st1=>feA (je h.ptrs e1) fun ps=>zD5 (yi h.ptrs) ps st1 fun st2=>feA (je h.vars e1) fun vs=>qD C (yi h.vars) vs st2 fun x st3=>feS st3 fun st3=>qD C (yi h.ptrs) ps st3 fun y _=>j (x,y)
def zD1 {R:Type} (h:Head U) (p:zA (yi h.vars)×zA (yi h.ptrs)) (e:En U) (st:St U) (K:List (T U)->St U->Option R):Option R:=
 kx C (yi h.vars) p.1 ⟨[],[],st.nl,st.nx,[]⟩ fun vs st2=>feS st2 fun st2=>feA (je h.ptrs e) fun ps=>zE9 C (yi h.ptrs) p.2 ps st2 fun st3=>K vs st3
variable (Tb:TypeId->TD U)
def feE {R:Type}:En U->(En U->Option R)->Option R
 | [],k=>k []
 | p::r,k=>match p with | (i,x)=>fN i fun i=>feE r fun r'=>k ((i,x)::r')
theorem zIw {R:Type}:∀ (l:En U) (k:En U->Option R),feE l k=k l
 | [],_=>rfl
 | (i,x)::r,k=>by simp only [feE,zIJ,zIw r]
def told (e:En U) (c:Operand) (t:Bool):En U:=
 match c with
 | .tmp d=>eput e (some d) (.bool t)
 | _=>e
def drun (fu:Nat) (call:Call U R) (fi:FI U):Code->En U->St U->(Exit->En U->St U->Option R)->Option R
 | .skip,e,st,k=>k .normal e st
 | .region id ops d,e,st,k=>kdOf (bif d then fi.kl id else []) e fun kd=>dops C Tb call fi.wr fi.own kd (ops.toList.map (·.dst)) ops.toList e st fun e' st'=>zDh (fi.kf id) e' fun e''=>k .normal e'' st'
 | .seq a b,e,st,k=>
  match fi.jn (hid b) with
  | none=>drun fu call fi a e st fun ex e' st'=>match ex with | .normal=>drun fu call fi b e' st' k | ex=>k ex e' st'
  | some h=>
   zDh h.fixed e fun fx=>bif kc h.fixed fx then
    zQ (fun j=>drun fu call fi a e st fun ex e' st'=>match ex with
     | .normal=>bif kc h.fixed e' then zCv C h e' st' fun x=>j x else none
     | ex=>k ex e' st')
     fun x=>zD1 C h x e st fun vs st2=>feE (fx++zipV h.vars vs) fun e0=>drun fu call fi b e0 st2 k
   else none
 | .cond c a b,e,st,k=>match evT e c with
  | .bool t=>bif t then drun fu call fi a (told e c true) st k else drun fu call fi b (told e c false) st k
  | _=>none
 | .block id b,e,st,k=>drun fu call fi b e st fun ex e' st'=>match ex with
  | .exit id'=>bif Nat.beq id' id then k .normal e' st' else k (.exit id') e' st'
  | ex=>k ex e' st'
 | .loop b,e,st,k=>
  match fi.hd (hid b) with
  | none=>none
  | some h=>
   zDh h.fixed e fun fx=>bif kc h.fixed fx then
    zCv C h e st fun x0=>
    iter fu (fun rec x=>zD1 C h x e st fun vs st2=>
     feE (fx++zipV h.vars vs) fun e0=>drun fu call fi b e0 st2 fun ex e' st'=>match ex with
      | .normal=>bif kc h.fixed e' then zCv C h e' st' fun x=>rec x else none
      | ex=>k ex e' st') x0
   else none
 | .exit id,e,st,k=>k (.exit id) e st
 | .ret,e,st,k=>k .ret e st
 | .scope b,e,st,k=>drun fu call fi b e st fun ex e' st'=>match ex with | .goto _=>none | ex=>k ex e' st'
 | .label _,e,st,k=>k .normal e st
 | _,_,_,_=>none
end
open Go.Al
section
variable {U:TyU} {C:Cod U} {P:Program} {Tb:TypeId->TD U} {R:Type} {r:R}
theorem zM0 {X:Cx} {Q:Exit->Env->S->Prop} {c:Code} {α:Type} (I:α->Env->S->Prop) (μ:α->Nat) {x₀:α} {E E0:Env} {s s0:S} (h0:I x₀ E0 s0) (hg:Gst X E s E0 s0)
 (round:∀ x E s,I x E s->awp P X c (zE8 (fun E' s'=>∃ x' E2 s2,I x' E2 s2/\μ x' < μ x/\Gst X E' s' E2 s2) Q) E s):awp P X (.loop c) Q E s:=by
 refine zLI hg ?_
 intro g a w hr
 refine wpIn_loop_ghost (fun n a' w'=>∃ x E s g',μ x=n/\I x E s/\Step X.B g w g' w'/\Rel X g' E s a' w') (μ x₀) ⟨x₀,E0,s0,g,rfl,h0,.refl _ _ _,hr⟩ ?_
 rintro n a1 w1 ⟨x,E1,s1,g1,rfl,p1,p2,p3⟩
 refine wpIn_mono (round x E1 s1 p1 g1 a1 w1 p3) ?_
 rintro ex a2 w2 ⟨g2,e2,st2,q1,q2,q3⟩
 cases ex with
 | normal=>
  obtain ⟨x2,E2,s2,r1,r2,r3⟩:=q3
  obtain ⟨g3,r4,r5⟩:=r3 g2 a2 w2 q2
  exact ⟨μ x2,r2,x2,E2,s2,g3,rfl,r1,(p2.trans q1).trans r4,r5⟩
 | exit id=>exact ⟨g2,e2,st2,p2.trans q1,q2,q3⟩
 | goto l=>exact ⟨g2,e2,st2,p2.trans q1,q2,q3⟩
 | ret=>exact ⟨g2,e2,st2,p2.trans q1,q2,q3⟩
 | panic c=>exact ⟨g2,e2,st2,p2.trans q1,q2,q3⟩
 | outgrown=>exact ⟨g2,e2,st2,p2.trans q1,q2,q3⟩
theorem hasN_iff {l:List Nat} {t:Nat}:hasN l t=true↔t ∈ l:=by
 refine ⟨zCT,fun h=>?_⟩
 induction l with
 | nil=>simp at h
 | cons k r ih=>
  simp only [hasN]
  by_cases e:k=t
  · have:Nat.beq k t=true:=by simpa using e
    simp [this]
  · simp only [xK e,cond_false]
    rcases List.mem_cons.1 h with h | h
    · exact absurd h.symm e
    · exact ih h
theorem zBK:∀ {a l:List Nat},zAL a l=true->∀ k ∈ a,k ∉ l
 | [],_,_,k,hk=>by simp at hk
 | x::r,l,h,k,hk=>by
  simp only [zAL,Bool.and_eq_true,Bool.not_eq_true'] at h
  rcases List.mem_cons.1 hk with rfl | hk
  · intro hh
    have:=hasN_iff.2 hh
    rw [this] at h
    simp at h
  · exact zBK h.2 k hk
theorem zCk:∀ {f v w:List Nat},zAL f (v++w)=true->zAL f v=true
 | [],_,_,_=>rfl
 | a::r,v,w,h=>by
  simp only [zAL,Bool.and_eq_true,Bool.not_eq_true'] at h ⊢
  refine ⟨?_,zCk h.2⟩
  cases hh:hasN v a with
  | false=>rfl
  | true=>
   have:=hasN_iff.2 (List.mem_append_left w (hasN_iff.1 hh))
   rw [this] at h; simp at h
theorem zAP:∀ {a:List Nat} {e:En U},kc a e=true->∀ k ∈ a,eget e k≠.any
 | [],_,_,k,hk=>by simp at hk
 | x::r,e,h,k,hk=>by
  simp only [kc,Bool.and_eq_true,Bool.not_eq_true'] at h
  rcases List.mem_cons.1 hk with rfl | hk
  · intro hh
    rw [hh] at h
    simp [isAny] at h
  · exact zAP h.2 k hk
theorem jk (ks:List Nat) (e:En U) (k:Nat):eget (ks.map fun k=>(k,eget e k)) k=if k ∈ ks then eget e k else .any:=by
 induction ks with
 | nil=>rfl
 | cons x r ih=>
  simp only [List.map_cons,eget]
  by_cases hx:x=k
  · subst hx
    have:Nat.beq x x=true:=by simp
    simp [this]
  · simp only [xK hx,cond_false,ih,List.mem_cons]
    have:¬ k=x:=fun e=>hx e.symm
    simp [this]
theorem zMn (ks:List Nat) (E:Env) (k:Nat):(xx ks E).get k=if k ∈ ks then E.get k else .any:=by
 induction ks with
 | nil=>rfl
 | cons x r ih=>
  simp only [xx,List.map_cons,Env.get]
  by_cases hx:x=k
  · subst hx; simp
  · have h2:¬ k=x:=fun e=>hx e.symm
    simp only [if_neg hx,List.mem_cons,h2,false_or]
    exact ih
theorem ESim.keep {N:NM} {st:St U} {e:En U} {E:Env} (h:ESim C N st e E) (ks:List Nat):ESim C N st (ks.map fun k=>(k,eget e k)) (xx ks E):=fun k=>by
 rw [jk,zMn]
 split
 · exact h k
 · exact ⟨.inl rfl,rfl⟩
theorem zCl (a b:En U) (k:Nat):eget (a++b) k=if k ∈ a.map (·.1) then eget a k else eget b k:=by
 induction a with
 | nil=>simp
 | cons p r ih=>
  simp only [List.cons_append,eget,List.map_cons,List.mem_cons]
  by_cases hx:p.1=k
  · have:Nat.beq p.1 k=true:=by simpa using hx
    simp [this,hx]
  · have h2:¬ k=p.1:=fun e=>hx e.symm
    simp only [xK hx,cond_false,ih,h2,false_or]
theorem SSim.reBox {N:NM} {st:St U} {s:S} (hs:SSim C N st s) {l:Nat} {bx:Bx U} (hlt:l < st.nl) (hno:¬ Has N st (.inr (N.bl l))) (hl:Al.look s.box (N.bl l)=some (trB C N l bx)) (hw:wfB C N st.nl st.nx l bx) :
 SSim C N ⟨(l,some bx)::st.bx,st.tg,st.nl,st.nx,st.ob⟩ s:=by
 have key:∀ {j b},lk ((l,some bx)::st.bx) j=some b->(j=l/\b=bx)\/(j≠l/\lk st.bx j=some b):=fun {j b} h=>by
  rw [xp] at h
  split at h
  · rename_i e; injection h with h; exact .inl ⟨e.symm,h.symm⟩
  · rename_i e; exact .inr ⟨fun e'=>e e'.symm,h⟩
 have hne:∀ j b,lk st.bx j=some b->N.bl j≠N.bl l:=fun j b h e=>hno ⟨j,b,h,e⟩
 refine ⟨fun j b h=>?_,fun j b h=>?_,fun j b h=>?_,fun j j' b b' h1 h2 he=>?_,hs.tgIn,hs.tgInj,hs.tgLt,hs.nm,hs.ob⟩
 · rcases key h with ⟨rfl,rfl⟩ | ⟨_,h⟩
   · exact hl
   · exact hs.box j b h
 · rcases key h with ⟨rfl,rfl⟩ | ⟨_,h⟩
   · exact hlt
   · exact hs.lt j b h
 · rcases key h with ⟨rfl,rfl⟩ | ⟨_,h⟩
   · exact hw
   · exact hs.wf j b h
 · rcases key h1 with ⟨e1,e2⟩ | ⟨_,p1⟩ <;> rcases key h2 with ⟨e3,e4⟩ | ⟨_,p2⟩
   · rw [e1,e3]
   · subst e1; exact absurd he.symm (hne j' b' p2)
   · subst e3; exact absurd he (hne j b p1)
   · exact hs.inj j j' b b' p1 p2 he
theorem has_re {N:NM} {st:St U} {l:Nat} {bx:Bx U} {y:Res} (h:Has N ⟨(l,some bx)::st.bx,st.tg,st.nl,st.nx,st.ob⟩ y):y = .inr (N.bl l)\/Has N st y:=by
 cases y with
 | inl n=>exact .inr h
 | ob b=>exact .inr h
 | inr b=>
  obtain ⟨j,x,hj,he⟩:=h
  have hj':lk ((l,some bx)::st.bx) j=some x:=hj
  rw [xp] at hj'
  split at hj'
  · rename_i e; subst e; exact .inl (by rw [he])
  · exact .inr ⟨j,x,hj',he⟩
theorem zP0 (hC:CodOk C) {r:R}:∀ (k:SK U) (x:denK k) (t:T U) {N:NM} {st:St U} {s:S} {rs:List Res} {K:St U->Option R},SSim C N st s->VK C s k x (trT C N t) rs->rs.Nodup->(∀ y ∈ rs,¬ Has N st y)->bdd st.nl st.nx t=true->putB C k x t st K=some r ->
 ∃ N' st',K st' = some r/\Turn N st N' st'/\SSim C N' st' s/\(∀ y,Has N' st' y->Has N st y\/y ∈ rs)
 | .box cs,x,t,N,st,s,rs,K,hs,hv,hn,hd,hb,h=>by
  simp only [putB] at h
  cases t with
  | ptr l o=>
   simp only at h
   simp only [VK] at hv
   obtain ⟨b,vs,rs',hbv,h1,h2,rfl⟩:=hv
   obtain ⟨hn1,hn2⟩:=List.nodup_cons.1 hn
   obtain ⟨N1,vs',st1,h3,h4,h5,h6,h7,h8⟩:=jp hC cs x hs h2 hn2 (fun y hy=>hd y (by simp [hy])) h
   obtain ⟨h9,h10⟩:=zO h3
   rw [qx] at h10
   simp only [Bool.and_eq_true] at h9
   obtain ⟨⟨h11,h12⟩,h13⟩:=h9
   have hlt:=xo h13
   simp only [trT] at hbv
   injection hbv with hbv
   injection hbv with hbv
   injection hbv with hbv
   injection hbv with e1 _ _
   have hbl:N1.bl l=b:=(h4.ext.bl l hlt).trans e1
   have hlen:vs'.length=vs.length:=by have:=congrArg List.length h6; simpa using this
   refine ⟨N1,_,h10,⟨h4.ext,h4.nl,h4.nx⟩,h5.reBox (Nat.lt_of_lt_of_le hlt h4.nl) (fun hh=>?_) (by rw [hbl]; simp only [trB]; rw [h6,hlen]; exact h1) ⟨h7,h11⟩,fun y hy=>?_⟩
   · rw [hbl] at hh
     rcases h8 _ hh with q | q
     · exact hd _ (by simp) q
     · exact hn1 q
   · rcases has_re hy with q | q
     · rw [hbl] at q; exact .inr (by rw [q]; simp)
     · rcases h8 _ q with q | q
       · exact .inl q
       · exact .inr (by simp [q])
  | _=>simp at h
 | .int _,x,t,N,st,s,rs,K,hs,hv,hn,hd,hb,h=>by simp [putB] at h
 | .bool,x,t,N,st,s,rs,K,hs,hv,hn,hd,hb,h=>by simp [putB] at h
 | .str,x,t,N,st,s,rs,K,hs,hv,hn,hd,hb,h=>by simp [putB] at h
 | .dl _,x,t,N,st,s,rs,K,hs,hv,hn,hd,hb,h=>by simp [putB] at h
 | .bl _,x,t,N,st,s,rs,K,hs,hv,hn,hd,hb,h=>by simp [putB] at h
 | .ow _ _,x,t,N,st,s,rs,K,hs,hv,hn,hd,hb,h=>by simp [putB] at h
 | .arr _,x,t,N,st,s,rs,K,hs,hv,hn,hd,hb,h=>by simp [putB] at h
 | .st _,x,t,N,st,s,rs,K,hs,hv,hn,hd,hb,h=>by simp [putB] at h
 | .scs,x,t,N,st,s,rs,K,hs,hv,hn,hd,hb,h=>by simp [putB] at h
 | .mpo,x,t,N,st,s,rs,K,hs,hv,hn,hd,hb,h=>by simp [putB] at h
 | .jm,x,t,N,st,s,rs,K,hs,hv,hn,hd,hb,h=>by simp [putB] at h
 | .mpj,x,t,N,st,s,rs,K,hs,hv,hn,hd,hb,h=>by simp [putB] at h
 | .ag _,x,t,N,st,s,rs,K,hs,hv,hn,hd,hb,h=>by simp [putB] at h
theorem zFs (hC:CodOk C) {r:R}:∀ (l:List (SK U)) (x:zA l) (ts:List (T U)) {N:NM} {st:St U} {s:S} {rs:List Res} {K:St U->Option R},SSim C N st s->VKs C s l x (ts.map (trT C N)) rs->rs.Nodup->(∀ y ∈ rs,¬ Has N st y)->bdds st.nl st.nx ts=true->zE9 C l x ts st K=some r ->
 ∃ N' st',K st' = some r/\Turn N st N' st'/\SSim C N' st' s/\(∀ y,Has N' st' y->Has N st y\/y ∈ rs)
 | [],x,ts,N,st,s,rs,K,hs,hv,hn,hd,hb,h=>by
  cases ts with
  | nil=>exact ⟨N,st,h,.refl _ _,hs,fun y hy=>.inl hy⟩
  | cons t ts=>cases h
 | k::rest,x,ts,N,st,s,rs,K,hs,hv,hn,hd,hb,h=>by
  cases ts with
  | nil=>cases h
  | cons t ts=>
   simp only [zE9] at h
   simp only [VKs,List.map_cons] at hv
   obtain ⟨v,vs',r1,r2,he,rfl,h1,h2⟩:=hv
   injection he with e1 e2
   subst e1
   simp only [bdds,Bool.and_eq_true] at hb
   obtain ⟨hn1,hn2,hn3⟩:=List.nodup_append.1 hn
   obtain ⟨N1,st1,h3,h4,h5,h6⟩:=zP0 hC k x.1 t hs h1 hn1 (fun y hy=>hd y (by simp [hy])) hb.1 h
   have e3:ts.map (trT C N1)=ts.map (trT C N):=xh h4.ext hb.2
   obtain ⟨N2,st2,q3,q4,q5,q6⟩:=zFs hC rest x.2 ts h5 (by rw [e3,e2]; exact h2) hn2 (fun y hy hh=>by
    rcases h6 y hh with q | q
    · exact hd y (by simp [hy]) q
    · exact hn3 y q y hy rfl) (xc h4.nl h4.nx _ hb.2) h3
   refine ⟨N2,st2,q3,h4.trans q4,q5,fun y hy=>?_⟩
   rcases q6 y hy with q | q
   · rcases h6 y q with q' | q'
     · exact .inl q'
     · exact .inr (by simp [q'])
   · exact .inr (by simp [q])
theorem zEI (hC:CodOk C):∀ (ks:List (SK U)) (ts:List (T U)) {N:NM} {st:St U} {s:S} {K:St U->Option R},SSim C N st s->zD5 ks ts st K=some r ->
 ∃ N' st' s',K st' = some r/\Gs s s'/\Turn N st N' st'/\SSim C N' st' s'
 | [],ts,N,st,s,K,hs,h=>⟨N,st,s,h,.refl _,.refl _ _,hs⟩
 | k::rest,ts,N,st,s,K,hs,h=>by
  simp only [zD5] at h
  split at h
  · cases h
  · split at h
    · split at h
      · simp only [qx] at h
        obtain ⟨N1,st1,s1,h1,h2,h3,h4,_⟩:=km (e:=[]) (E:=[]) hC _ 0 hs (fun k=>⟨.inl rfl,rfl⟩) h
        obtain ⟨N2,st2,s2,q1,q2,q3,q4⟩:=zEI hC rest _ h4 h1
        exact ⟨N2,st2,s2,q1,h2.trans q2,h3.trans q3,q4⟩
      · cases h
    · cases h
theorem zLt {a b:List Nat} (h:zIN a b=true):∀ k ∈ a,k ∈ b:=fun k hk=>zCT (List.all_eq_true.1 h k hk)
def HI (C:Cod U) (N0:NM) (h:Head U) (fx:En U) (x:zA (yi h.vars)×zA (yi h.ptrs)) (E:Env) (s:S):Prop:=
 (∃ r1 r2,VKs C s (yi h.vars) x.1 (h.vars.map fun p=>E.get p.1) r1/\VKs C s (yi h.ptrs) x.2 (h.ptrs.map fun p=>E.get p.1) r2/\(r1++r2).Nodup)/\∀ k ∈ h.fixed,E.get k=trT C N0 (eget fx k)
theorem zAS:∀ (vars:List (Nat×SK U)) (e:En U),je vars e=vars.map fun p=>eget e p.1
 | [],_=>rfl
 | p::r,e=>by simp [je,zAS r]
theorem zIt {N:NM} {st:St U} {e:En U} {E:Env} (he:ESim C N st e E) (vars:List (Nat×SK U)):∀ (i:Nat) (x:T U) (v:V),(je vars e)[i]? = some x->(vars.map fun p=>E.get p.1)[i]? = some v->VR C N x v:=fun i x v a b=>by
 rw [zAS,List.getElem?_map] at a
 rw [List.getElem?_map] at b
 cases hv:vars[i]? with
 | none=>rw [hv] at a; cases a
 | some p=>
  rw [hv] at a b
  injection a with a
  injection b with b
  subst a; subst b
  exact (he p.1).1
theorem zFa (hC:CodOk C) {X:Cx} {N0 N:NM} {st0 st:St U} {e0 e:En U} {E:Env} {s:S} {h:Head U} (ht:Turn N0 st0 N st) (hs:SSim C N st s) (he:ESim C N st e E)
 (hb:∀ k ∈ h.fixed,bdd st0.nl st0.nx (eget e0 k)=true) (hne:∀ k ∈ h.fixed,eget e k≠.any) (hfx:∀ k ∈ h.fixed,eget e k=eget e0 k) (hno:zAL h.fixed (h.vars.map (·.1))=true) {j:zA (yi h.vars)×zA (yi h.ptrs)->Option R}
 (hh:zCv C h e st j=some r) :
 ∃ x E2 s2,j x=some r/\Gst X E s E2 s2/\HI C N0 h (h.fixed.map fun k=>(k,eget e0 k)) x E2 s2:=by
 unfold zCv at hh
 obtain ⟨N1,e1,st1,E1,s1,q1,q2,q3,q4,q5,q6⟩:=kz (X:=X) hC h.vars hs he hh
 simp only [zB7,qx] at q1
 obtain ⟨N1',st1',s1',n1,n2,n3,n4⟩:=zEI hC _ _ q4 q1
 have q5':=q5.turn n3
 obtain ⟨x,st2,r1,p1,p2,p3,p4,p5,p6,p7,p8⟩:=jQ hC (yi h.vars) (vs:=je h.vars e1) (vs':=h.vars.map fun p=>E1.get p.1) n4 (by simp [zAS]) (zIt q5' _) n1
 obtain ⟨y,st3,r2,k1,k2,k3,k4,k5,k6,k7,k8⟩:=jQ hC (yi h.ptrs) (vs:=je h.ptrs e1) (vs':=h.ptrs.map fun p=>E1.get p.1) p2 (by simp [zAS]) (zIt q5' _) p1
 refine ⟨(x,y),E1,s1',k1,q2.trans n2.gst,⟨r1,r2,p5,k5,List.nodup_append.2 ⟨p6,k6,fun a ha b hb e=>by subst e; exact (p7 a ha).2 (k7 a hb).1⟩⟩,fun k hk=>?_⟩
 have h1:eget e1 k=eget e k:=q6 k fun p hp e'=>zBK hno k hk (List.mem_map.2 ⟨p,hp,e'⟩)
 rw [jk,if_pos hk,<- zBv C ((ht.trans (q3.trans n3)).ext) _ (hb k hk),<- hfx k hk,<- h1]
 exact (q5' k).1.get (by rw [h1]; exact hne k hk)
theorem zLK {N:NM} {E:Env}:∀ {vars:List (Nat×SK U)} {vs:List (T U)},vs.map (trT C N)=vars.map (fun p=>E.get p.1)->∀ k,VR C N (eget (zipV vars vs) k) (E.get k)
 | [],vs,h,k=>by cases vs <;> exact .inl rfl
 | p::rest,[],h,k=>.inl rfl
 | p::rest,v::vs,h,k=>by
  simp only [List.map_cons,List.cons.injEq] at h
  simp only [zipV,eget]
  by_cases hp:p.1=k
  · have:Nat.beq p.1 k=true:=by simpa using hp
    simp only [this,cond_true]
    exact .inr (by rw [<- hp,h.1])
  · simp only [xK hp,cond_false]
    exact zLK h.2 k
theorem zJM {nl nx:Nat}:∀ {vars:List (Nat×SK U)} {vs:List (T U)},bdds nl nx vs=true->∀ k,bdd nl nx (eget (zipV vars vs) k)=true
 | [],vs,h,k=>by cases vs <;> rfl
 | p::rest,[],h,k=>rfl
 | p::rest,v::vs,h,k=>by
  simp only [bdds,Bool.and_eq_true] at h
  simp only [zipV,eget]
  by_cases hp:p.1=k
  · have:Nat.beq p.1 k=true:=by simpa using hp
    simp only [this,cond_true]
    exact h.1
  · simp only [xK hp,cond_false]
    exact zJM h.2 k
theorem SSim.empty (N:NM) (nl nx:Nat) (s:S):SSim C N (⟨[],[],nl,nx,[]⟩:St U) s:=
 ⟨fun l b h=>by simp [lk] at h,fun l b h=>by simp [lk] at h,fun l b h=>by simp [lk] at h,fun l l' b b' h=>by simp [lk] at h,fun t h=>by simp at h,fun t h=>by simp at h,fun t h=>by simp at h,fun t h=>by simp at h,⟨fun l o h=>by simp [lko] at h,fun l o h=>by simp [lko] at h,fun l o h=>by simp [lko] at h,fun l l' o o' h=>by simp [lko] at h⟩⟩
theorem zJO (hC:CodOk C) {N0:NM} {st0:St U} {e0:En U} {E:Env} {s:S} {h:Head U} {x:zA (yi h.vars)×zA (yi h.ptrs)} (hi:HI C N0 h (h.fixed.map fun k=>(k,eget e0 k)) x E s)
 (hb:∀ k ∈ h.fixed,bdd st0.nl st0.nx (eget e0 k)=true) (hp:zIN (h.ptrs.map (·.1)) h.fixed=true) {K:List (T U)->St U->Option R} (hh:zD1 C h x e0 st0 K=some r) :
 ∃ N vs st,K vs st=some r/\Turn N0 st0 N st/\SSim C N st s/\ESim C N st ((h.fixed.map fun k=>(k,eget e0 k))++zipV h.vars vs) E:=by
 obtain ⟨⟨r1,r2,h1,h1p,h2⟩,h3⟩:=hi
 obtain ⟨hn1,hn2,hn3⟩:=List.nodup_append.1 h2
 unfold zD1 at hh
 have hno:∀ y,¬ Has N0 (⟨[],[],st0.nl,st0.nx,[]⟩:St U) y:=fun y hh=>by
  cases y with
  | inl n=>obtain ⟨t,ht,_⟩:=hh; simp at ht
  | inr b=>obtain ⟨l,b,hl,_⟩:=hh; simp [lk] at hl
  | ob b=>obtain ⟨l,b,hl,_⟩:=hh; simp [lko] at hl
 obtain ⟨N1,vs,st1,q1,q2,q3,q4,q5,q6⟩:=jp hC (yi h.vars) x.1 (SSim.empty N0 st0.nl st0.nx s) h1 hn1 (fun y hy hh=>hno y hh) hh
 simp only [zB7,qx] at q1
 have hps:∀ p ∈ h.ptrs,p.1 ∈ h.fixed:=fun p hp'=>zLt hp _ (List.mem_map.2 ⟨p,hp',rfl⟩)
 have hbp:bdds st0.nl st0.nx (je h.ptrs e0)=true:=by
  rw [zAS]
  have key:∀ l:List (Nat×SK U),(∀ p ∈ l,bdd st0.nl st0.nx (eget e0 p.1)=true)->bdds st0.nl st0.nx (l.map fun p=>eget e0 p.1)=true:=fun l=>by
   induction l with
   | nil=>intro _; rfl
   | cons a l ih=>intro hl; simp only [List.map_cons,bdds,hl a (by simp),ih fun p hp=>hl p (by simp [hp]),Bool.and_self]
  exact key _ fun p hp'=>hb _ (hps p hp')
 have hbp1:bdds st1.nl st1.nx (je h.ptrs e0)=true:=xc q2.nl q2.nx _ hbp
 have ev:(je h.ptrs e0).map (trT C N1)=h.ptrs.map fun p=>E.get p.1:=by
  rw [xh q2.ext hbp,zAS,List.map_map]
  exact List.map_congr_left fun p hp'=>by
   have:=h3 p.1 (hps p hp')
   rw [jk,if_pos (hps p hp')] at this
   exact this.symm
 obtain ⟨N,st,p1,p2,p3,p4⟩:=zFs hC (yi h.ptrs) x.2 (je h.ptrs e0) q3 (by rw [ev]; exact h1p) hn2 (fun y hy hh=>by
  rcases q6 y hh with q | q
  · exact hno y q
  · exact hn3 y q y hy rfl) hbp1 q1
 have ht:Turn N0 st0 N st:=(⟨q2.ext,q2.nl,q2.nx⟩:Turn N0 st0 N1 st1).trans p2
 refine ⟨N,vs,st,p1,ht,p3,fun k=>?_⟩
 rw [zCl]
 split
 · rename_i hk
   have hk':k ∈ h.fixed:=by
    obtain ⟨p,hp,rfl⟩:=List.mem_map.1 hk
    obtain ⟨k',hk',rfl⟩:=List.mem_map.1 hp
    exact hk'
   have h4:=h3 k hk'
   rw [jk,if_pos hk'] at h4 ⊢
   exact ⟨.inr (by rw [h4,zBv C ht.ext _ (hb k hk')]),zBH ht.nl ht.nx _ (hb k hk')⟩
 · exact ⟨zLK (by rw [xh p2.ext q5]; exact q4) k,zJM (xc p2.nl p2.nx _ q5) k⟩
def Fr (ds:List Nat) (e e':En U):Prop:=∀ j,j ∉ ds->eget e' j=eget e j\/eget e' j = .any
theorem Fr.refl (ds:List Nat) (e:En U):Fr ds e e:=fun _ _=>.inl rfl
theorem Fr.trans {ds:List Nat} {e e1 e2:En U} (h:Fr ds e e1) (h':Fr ds e1 e2):Fr ds e e2:=fun j hj=>by
 rcases h' j hj with q | q
 · rw [q]; exact h j hj
 · exact .inr q
theorem Fr.mono {ds ds':List Nat} {e e':En U} (h:Fr ds e e') (hd:∀ j ∈ ds,j ∈ ds'):Fr ds' e e':=fun j hj=>h j fun hh=>hj (hd j hh)
def qW (pf rf:FuncId->Bool) (fi:FI U) (n:NF):Code->Bool
 | .region id ops d=>zCL n ops.toList && (!d || (Region.lexB .any ops && zEf ⟨pf,fi.wr,fi.own,rf,(fi.kl id).map fun p=>(p.1,p.2.1),fun _=>[]⟩ ops.toList))
 | .seq a b=>qW pf rf fi n a && qW pf rf fi n b
 | .cond _ a b=>qW pf rf fi n a && qW pf rf fi n b
 | .block _ b=>qW pf rf fi n b
 | .loop b=>qW pf rf fi n b
 | .scope b=>qW pf rf fi n b
 | _=>true
theorem zLZ {N:NM} {st:St U} {e:En U} {E:Env} (he:ESim C N st e E):∀ (l:List (Nat×Nat×Nat)) {K:KD->Option R},kdOf l e K=some r->∃ kd,K kd=some r/\(∀ p ∈ l,∃ q,(p.1,p.2.1,q) ∈ kd)/\∀ d u q,(d,u,q) ∈ kd->q < st.nl
 | [],K,h=>⟨[],h,fun p hp=>(by cases hp),fun d u q hm=>(by cases hm)⟩
 | p::l,K,h=>by
  simp only [kdOf] at h
  split at h
  · rename_i q o hq
    obtain ⟨kd,h1,h2,h3⟩:=zLZ he l h
    refine ⟨_,h1,fun p' hp'=>?_,fun d u q' hm=>?_⟩
    · rcases List.mem_cons.1 hp' with rfl | hp'
      · exact ⟨q,List.mem_cons_self ..⟩
      · obtain ⟨q',hq'⟩:=h2 p' hp'; exact ⟨q',List.mem_cons_of_mem _ hq'⟩
    · rcases List.mem_cons.1 hm with e1 | hm
      · injection e1 with _ e1
        injection e1 with _ e1
        subst e1
        have:=(he p.2.2).2
        rw [hq] at this
        exact xo this
      · exact h3 d u q' hm
  · cases h
theorem zLG {h:Head U} {e0:En U} {vs:List (T U)} {k:Nat} (hv:k ∉ h.vars.map (·.1)):eget ((h.fixed.map fun k=>(k,eget e0 k))++zipV h.vars vs) k=eget e0 k\/eget ((h.fixed.map fun k=>(k,eget e0 k))++zipV h.vars vs) k = .any:=by
 rw [zCl]
 split
 · rename_i hk
   have hk':k ∈ h.fixed:=by
    obtain ⟨p,hp,rfl⟩:=List.mem_map.1 hk
    obtain ⟨k',hk',rfl⟩:=List.mem_map.1 hp
    exact hk'
   rw [jk,if_pos hk']
   exact .inl rfl
 · right
   have:∀ (vars:List (Nat×SK U)) (vs:List (T U)),k ∉ vars.map (·.1)->eget (zipV vars vs) k = .any:=fun vars=>by
    induction vars with
    | nil=>intro vs _; cases vs <;> rfl
    | cons p rest ih=>
     intro vs hv
     simp only [List.map_cons,List.mem_cons,not_or] at hv
     cases vs with
     | nil=>rfl
     | cons v vs=>
      simp only [zipV,eget,xK (fun e=>hv.1 e.symm),cond_false]
      exact ih vs hv.2
   exact this _ _ hv
theorem zLB {N:NM} {st:St U} {e:En U} {E:Env} (he:ESim C N st e E) {c:Operand} {t:Bool} (ht:evT e c = .bool t):ESim C N st (told e c t) E/\∀ j,eget (told e c t) j=eget e j:=by
 cases c with
 | tmp d=>
  have h:∀ j,eget (told e (.tmp d) t) j=eget e j:=fun j=>by
   simp only [told,eput,eget]
   by_cases hj:d=j
   · subst hj
     have:Nat.beq d d=true:=by simp
     simp only [this,cond_true]
     exact ht.symm
   · simp only [xK hj,cond_false]
  exact ⟨fun j=>by rw [h j]; exact he j,h⟩
 | const v=>exact ⟨he,fun _=>rfl⟩
 | global g=>exact ⟨he,fun _=>rfl⟩
 | func f=>exact ⟨he,fun _=>rfl⟩
theorem jf (hT:TbOk C P Tb) (hC:CodOk C) (hm:P.follows .mixedOrders=true) {X:Cx} {pf rf:FuncId->Bool} {fi:FI U} {call:Call U R} {PP:List PanicEntry->Prop} (hcall:∀ kl kb,zCz C P ⟨pf,fi.wr,fi.own,rf,kl,kb⟩ call r PP) {fu:Nat} :
 ∀ (c:Code) {N:NM} {e:En U} {st:St U} {E:Env} {s:S} {k:Exit->En U->St U->Option R} {Q:Exit->Env->S->Prop},SSim C N st s->ESim C N st e E->drun C Tb fu call fi c e st k=some r->qW pf rf fi X.N c=true->qy fi c=true->(∀ c s,PP c->Q (.panic c) [] s) ->
  (∀ ex N' e' st' E' s',k ex e' st' = some r->Turn N st N' st'->SSim C N' st' s'->ESim C N' st' e' E'->Fr (dsts fi c) e e'->Q ex E' s')->awp P X c Q E s
 | .skip,N,e,st,E,s,k,Q,hs,he,h,_,_,_,hK=>zv (hK _ _ _ _ _ _ h (.refl _ _) hs he (.refl _ _))
 | .exit id,N,e,st,E,s,k,Q,hs,he,h,_,_,_,hK=>yK (hK _ _ _ _ _ _ h (.refl _ _) hs he (.refl _ _))
 | .ret,N,e,st,E,s,k,Q,hs,he,h,_,_,_,hK=>ye (hK _ _ _ _ _ _ h (.refl _ _) hs he (.refl _ _))
 | .region id ops d,N,e,st,E,s,k,Q,hs,he,h,hok,_,hKP,hK=>by
  simp only [drun] at h
  simp only [qW,Bool.and_eq_true] at hok
  obtain ⟨ops⟩:=ops
  have key:∀ (kd:KD) kl kb,dops C Tb call fi.wr fi.own kd (ops.map (·.dst)) ops e st (fun e' st'=>zDh (fi.kf id) e' fun e''=>k .normal e'' st')=some r->(∀ d u q,(d,u,q) ∈ kd->q < st.nl)->(∀ p ∈ kl,∃ q,(p.1,p.2,q) ∈ kd)->(∀ d b,b ∈ kb d↔∃ u q,(d,u,q) ∈ kd/\N.bl q=b)->AL P ⟨pf,fi.wr,fi.own,rf,kl,kb⟩ (ops.map (·.dst)) (fun c s=>Q (.panic c) [] s) ops (fun E' s'=>Q .normal (xx (fi.kf id) E') s') E s:=fun kd kl kb h0 h02 q1 q2=>by
   refine zLH (L:=⟨pf,fi.wr,fi.own,rf,kl,kb⟩) hT hC (hcall kl kb) hKP hs he ⟨q1,fun d b hb=>(q2 d b).1 hb,fun d u q hm=>⟨(q2 d _).2 ⟨u,q,hm,rfl⟩,h02 d u q hm⟩⟩ h0 ?_
   intro N' e' st' E' s' h1 h2 h3 h4 h5
   simp only [zDO] at h1
   refine hK _ _ _ _ _ _ h1 h2 h3 (h4.keep _) fun j hj=>?_
   rw [jk]
   split
   · exact .inl (h5 j hj)
   · exact .inr rfl
  cases d with
  | false=>
   exact yc ⟨pf,fi.wr,fi.own,rf,[],fun _=>[]⟩ fi.kf _ rfl hok.1 (key [] [] (fun _=>[]) h (fun d u q hm=>by cases hm) (fun p hp=>by cases hp) (fun d b=>⟨fun hb=>(by cases hb),fun ⟨u,q,hm,_⟩=>(by cases hm)⟩))
  | true=>
   obtain ⟨kd,h0,h01,h02⟩:=zLZ he _ h
   have h2:=hok.2
   simp only [Bool.not_true,Bool.false_or,Bool.and_eq_true] at h2
   have hk1:∀ p ∈ (fi.kl id).map (fun p=>(p.1,p.2.1)),∃ q,(p.1,p.2,q) ∈ kd:=fun p hp=>by
    obtain ⟨p',hp',rfl⟩:=List.mem_map.1 hp
    exact h01 p' hp'
   have hd1:=h2.2
   generalize (fi.kl id).map (fun p=>(p.1,p.2.1))=klp at hk1 hd1
   obtain ⟨kbf,hkb⟩:∃ kbf:Nat->List Nat,∀ d b,b ∈ kbf d↔∃ u q,(d,u,q) ∈ kd/\N.bl q=b:=by
    refine ⟨fun d=>kd.filterMap fun p=>if p.1=d then some (N.bl p.2.2) else none,fun d b=>?_⟩
    show b ∈ (kd.filterMap fun p=>if p.1=d then some (N.bl p.2.2) else none)↔_
    rw [List.mem_filterMap]
    constructor
    · rintro ⟨⟨d',u,q⟩,h3,h4⟩
      simp only at h4
      split at h4
      · rename_i e1; subst e1; injection h4 with h4; exact ⟨u,q,h3,h4⟩
      · cases h4
    · rintro ⟨u,q,h3,h4⟩
      exact ⟨_,h3,by simp [h4]⟩
   have hd2:zEf ⟨pf,fi.wr,fi.own,rf,klp,kbf⟩ ops=true:=hd1
   exact yL ⟨pf,fi.wr,fi.own,rf,klp,kbf⟩ hm fi.kf _ rfl hok.1 h2.1 hd2 (key kd klp kbf h0 h02 hk1 hkb)
 | .seq a b,N,e,st,E,s,k,Q,hs,he,h,hok,hho,hKP,hK=>by
  simp only [drun] at h
  simp only [qW,Bool.and_eq_true] at hok
  simp only [qy,Bool.and_eq_true] at hho
  refine yd ?_
  split at h
  · rename_i hj
    refine jf hT hC hm hcall a hs he h hok.1 hho.2.1 (fun c s hp=>hKP c s hp) ?_
    intro ex N' e' st' E' s' h1 h2 h3 h4 h5
    have h5':Fr (dsts fi (.seq a b)) e e':=h5.mono fun j hj=>by simp only [dsts]; simp [hj]
    cases ex <;> simp only at h1 <;> first | exact hK _ _ _ _ _ _ h1 h2 h3 h4 h5' | skip
    show awp P X b Q E' s'
    refine jf hT hC hm hcall b h3 h4 h1 hok.2 hho.2.2 (fun c s hp=>hKP c s hp) ?_
    intro ex N2 e2 st2 E2 s2 q1 q2 q3 q4 q5
    exact hK _ _ _ _ _ _ q1 (h2.trans q2) q3 q4 (h5'.trans (q5.mono fun j hj=>by simp only [dsts]; simp [hj]))
  · rename_i hd hj
    have h1:=hho.1
    rw [hj] at h1
    simp only [Bool.and_eq_true] at h1
    obtain ⟨h1,hpt⟩:=h1
    rw [zDO] at h
    obtain ⟨h3,h4⟩:=zO h
    clear h
    unfold zQ at h4
    have hin:=zBK h1
    have hbd:∀ k ∈ hd.fixed,bdd st.nl st.nx (eget e k)=true:=fun k _=>(he k).2
    refine jf hT hC hm hcall a hs he h4 hok.1 hho.2.1 (fun c s hp=>hKP c s hp) ?_
    intro ex N' e' st' E' s' h5 h6 h7 h8 h9
    have h9':Fr (dsts fi (.seq a b)) e e':=h9.mono fun j hj=>by simp only [dsts]; simp [hj]
    cases ex <;> simp only at h5 <;> first | exact hK _ _ _ _ _ _ h5 h6 h7 h8 h9' | skip
    show awp P X b Q E' s'
    obtain ⟨h10,h11⟩:=zO h5
    have hne:=zAP h10
    obtain ⟨x,E2,s2,q1,q2,q3⟩:=zFa (X:=X) (N0:=N) (st0:=st) (e0:=e) (h:=hd) hC h6 h7 h8 hbd hne (fun k hk=>by
     rcases h9 k (fun hh=>hin k hk (by simp [hh])) with q | q
     · exact q
     · exact absurd q (hne k hk)) (zCk h1) h11
    refine zLI q2 ?_
    obtain ⟨N2,vs,st2,p1,p2,p3,p4⟩:=zJO hC q3 hbd hpt q1
    rw [zIw] at p1
    refine jf hT hC hm hcall b p3 p4 p1 hok.2 hho.2.2 (fun c s hp=>hKP c s hp) ?_
    intro ex N3 e3 st3 E3 s3 r1 r2 r3 r4 r5
    refine hK _ _ _ _ _ _ r1 (p2.trans r2) r3 r4 fun j hj'=>?_
    have hv:j ∉ hd.vars.map (·.1):=fun hh=>hj' (by simp only [dsts,hj]; simp only [List.mem_append]; exact .inr (.inl hh))
    rcases r5 j (fun hh=>hj' (by simp only [dsts]; simp [hh])) with q | q
    · rw [q]; exact zLG hv
    · exact .inr q
 | .cond c a b,N,e,st,E,s,k,Q,hs,he,h,hok,hho,hKP,hK=>by
  simp only [drun] at h
  simp only [qW,Bool.and_eq_true] at hok
  simp only [qy,Bool.and_eq_true] at hho
  split at h
  · rename_i t ht
    have h1:=he.ev c
    rw [ht] at h1
    refine jw (h1.get (by simp)) (fun e1=>?_) (fun e1=>?_)
    · subst e1
      obtain ⟨t1,t2⟩:=zLB he ht
      exact jf hT hC hm hcall a hs t1 h hok.1 hho.1 (fun c s hp=>hKP c s hp) fun ex N' e' st' E' s' q1 q2 q3 q4 q5=>hK _ _ _ _ _ _ q1 q2 q3 q4 fun j hj=>by
       rw [<- t2 j]
       exact (q5.mono fun j hj=>by simp only [dsts]; simp [hj]) j hj
    · subst e1
      obtain ⟨t1,t2⟩:=zLB he ht
      exact jf hT hC hm hcall b hs t1 h hok.2 hho.2 (fun c s hp=>hKP c s hp) fun ex N' e' st' E' s' q1 q2 q3 q4 q5=>hK _ _ _ _ _ _ q1 q2 q3 q4 fun j hj=>by
       rw [<- t2 j]
       exact (q5.mono fun j hj=>by simp only [dsts]; simp [hj]) j hj
  · cases h
 | .block id b,N,e,st,E,s,k,Q,hs,he,h,hok,hho,hKP,hK=>by
  simp only [drun] at h
  refine zy (jf hT hC hm hcall b hs he h (by simpa only [qW] using hok) (by simpa only [qy] using hho) (fun c s hp=>hKP c s hp) ?_)
  intro ex N' e' st' E' s' q1 q2 q3 q4 q5
  cases ex <;> simp only at q1 <;> first | exact hK _ _ _ _ _ _ q1 q2 q3 q4 q5 | skip
  rename_i id'
  simp only [zCJ]
  by_cases e1:id' = id
  · have:Nat.beq id' id=true:=by simpa using e1
    rw [if_pos e1]
    simp only [this,cond_true] at q1
    exact hK _ _ _ _ _ _ q1 q2 q3 q4 q5
  · rw [if_neg e1]
    simp only [xK e1,cond_false] at q1
    exact hK _ _ _ _ _ _ q1 q2 q3 q4 q5
 | .loop b,N,e,st,E,s,k,Q,hs,he,h,hok,hho,hKP,hK=>by
  simp only [drun] at h
  simp only [qW] at hok
  simp only [qy,Bool.and_eq_true] at hho
  split at h
  · cases h
  · rename_i hd hj
    have h1:=hho.1
    rw [hj] at h1
    simp only [Bool.and_eq_true] at h1
    obtain ⟨h1,hpt⟩:=h1
    rw [zDO] at h
    obtain ⟨h3,h4⟩:=zO h
    clear h
    have hin:=zBK h1
    have hbd:∀ k ∈ hd.fixed,bdd st.nl st.nx (eget e k)=true:=fun k _=>(he k).2
    have hne0:∀ k ∈ hd.fixed,eget e k≠.any:=fun k hk=>by
     have:=zAP h3 k hk
     rwa [jk,if_pos hk] at this
    have hno:zAL hd.fixed (hd.vars.map (·.1))=true:=zCk h1
    obtain ⟨x,E2,s2,q1,q2,q3⟩:=zFa (X:=X) (N0:=N) (st0:=st) (e0:=e) (h:=hd) hC (.refl _ _) hs he hbd hne0 (fun _ _=>rfl) hno h4
    generalize hF:(fun (rec:zA (yi hd.vars)×zA (yi hd.ptrs)->Option R) (x:zA (yi hd.vars)×zA (yi hd.ptrs))=>zD1 C hd x e st fun vs st2=>
     feE ((hd.fixed.map fun k=>(k,eget e k))++zipV hd.vars vs) fun e0=>drun C Tb fu call fi b e0 st2 fun ex e' st'=>match ex with
      | .normal=>bif kc hd.fixed e' then zCv C hd e' st' fun x=>rec x else none
      | ex=>k ex e' st')=F at q1
    refine zM0 (fun (p:Nat×(zA (yi hd.vars)×zA (yi hd.ptrs))) E' s'=>HI C N hd (hd.fixed.map fun k=>(k,eget e k)) p.2 E' s'/\iter p.1 F p.2=some r) (fun p=>p.1) (x₀:=(fu,x)) ⟨q3,q1⟩ q2 ?_
    rintro ⟨n,x1⟩ E1 s1 ⟨hi,hr⟩
    simp only at hi hr
    cases n with
    | zero=>simp [iter] at hr
    | succ n=>
     simp only [iter] at hr
     rw [<- hF] at hr
     obtain ⟨N2,vs,st2,p1,p2,p3,p4⟩:=zJO hC hi hbd hpt hr
     rw [zIw] at p1
     refine jf hT hC hm hcall b p3 p4 p1 hok hho.2 (fun c s hp=>hKP c s hp) ?_
     intro ex N3 e3 st3 E3 s3 r1 r2 r3 r4 r5
     have hfr:Fr (dsts fi (.loop b)) e e3:=fun j hj'=>by
      have hv:j ∉ hd.vars.map (·.1):=fun hh=>hj' (by simp only [dsts,hj]; simp only [List.mem_append]; exact .inl hh)
      rcases r5 j (fun hh=>hj' (by simp only [dsts]; simp [hh])) with q | q
      · rw [q]; exact zLG hv
      · exact .inr q
     cases ex <;> simp only at r1 <;> first | exact hK _ _ _ _ _ _ r1 (p2.trans r2) r3 r4 hfr | skip
     obtain ⟨t1,t2⟩:=zO r1
     have hne:=zAP t1
     obtain ⟨x3,E4,s4,u1,u2,u3⟩:=zFa (X:=X) (N0:=N) (st0:=st) (e0:=e) (h:=hd) hC (p2.trans r2) r3 r4 hbd hne (fun k hk=>by
      rcases r5 k (fun hh=>hin k hk (by simp [hh])) with q | q
      · rw [q,zCl,if_pos (by simp [hk]),jk,if_pos hk]
      · exact absurd q (hne k hk)) hno t2
     show ∃ x' E2 s2,_/\_/\_
     exact ⟨(n,x3),E4,s4,⟨u3,by rw [hF] at u1; exact u1⟩,Nat.lt_succ_self _,u2⟩
 | .rangeFunc _ _ _ _,N,e,st,E,s,k,Q,hs,he,h,_,_,_,_=>by simp [drun] at h
 | .scope b,N,e,st,E,s,k,Q,hs,he,h,hok,hho,hKP,hK=>by
  simp only [drun] at h
  refine zM6 (jf hT hC hm hcall b hs he h (by simpa only [qW] using hok) (by simpa only [qy] using hho) (fun c s hp=>hKP c s hp) ?_)
  intro ex N' e' st' E' s' q1 q2 q3 q4 q5
  cases ex <;> simp only at q1 <;> first | exact hK _ _ _ _ _ _ q1 q2 q3 q4 q5 | cases q1
 | .label _,N,e,st,E,s,k,Q,hs,he,h,_,_,_,hK=>by
  simp only [drun] at h
  exact zMk (hK _ _ _ _ _ _ h (.refl _ _) hs he (.refl _ _))
 | .goto _,N,e,st,E,s,k,Q,hs,he,h,_,_,_,_=>by simp [drun] at h
 | .refuse _,N,e,st,E,s,k,Q,hs,he,h,_,_,_,_=>by simp [drun] at h
end
open Go.Al
inductive AK (U:TyU) where
 | int (k:IntKind)
 | bool
 | str
 | ls (i:U.I)
 | dl (i:U.I)
 | bl (i:U.I)
 | st (i:U.I)
 | err
def denA {U:TyU}:AK U->Type
 | .int _=>Int
 | .bool=>Bool
 | .str=>List UInt8
 | .ls i=>List (U.den i)
 | .dl i=>List (U.den i)
 | .bl i=>Bool×List (U.den i)
 | .st i=>U.den i
 | .err=>Bool
def zR {U:TyU}:List (AK U)->Type
 | []=>Unit
 | a::r=>denA a×zR r
structure Con (U:TyU) where
 as:List (AK U)
 rs:List (AK U)
 fn:zR as->Option (zR rs)
structure FD (U:TyU) where
 fi:FI U
 body:Code
 n:Nat
 rs:List ResultVar
section
variable {U:TyU} (C:Cod U) (Tb:TypeId->TD U) {R:Type}
def argT:(a:AK U)->Bool->denA a->T U
 | .int k,_,x=>.int k x
 | .bool,_,x=>.bool x
 | .str,_,x=>.str x
 | .ls i,n,x=>.lst (.b n) i x
 | .dl i,_,x=>.lst .dl i x
 | .bl i,_,x=>.lst (.b x.1) i x.2
 | .st i,_,x=>C.enc i x
 | .err,_,x=>bif x then .ifx else .con .nilIface
def xI:(as:List (AK U))->(Nat->Bool)->Nat->zR as->List (T U)
 | [],_,_,_=>[]
 | a::r,nf,j,x=>argT C a (nf j) x.1::xI r nf (j+1) x.2
def argK {R:Type}:(as:List (AK U))->zR as->(List (T U)->Option R)->Option R
 | [],_,K=>K []
 | a::r,x,K=>match a,x with
  | .err,x=>bif x.1 then argK r x.2 fun vs=>K (.ifx::vs) else argK r x.2 fun vs=>K (.con .nilIface::vs)
  | .int k,x=>argK r x.2 fun vs=>K (.int k x.1::vs)
  | .bool,x=>argK r x.2 fun vs=>K (.bool x.1::vs)
  | .str,x=>argK r x.2 fun vs=>K (.str x.1::vs)
  | .ls i,x=>argK r x.2 fun vs=>K (.lst (.b false) i x.1::vs)
  | .dl i,x=>argK r x.2 fun vs=>K (.lst .dl i x.1::vs)
  | .bl i,x=>argK r x.2 fun vs=>K (.lst (.b x.1.1) i x.1.2::vs)
  | .st i,x=>argK r x.2 fun vs=>K (C.enc i x.1::vs)
theorem zEo {R:Type}:∀ (as:List (AK U)) (x:zR as) (j:Nat) (K:List (T U)->Option R),argK C as x K=K (xI C as (fun _=>false) j x)
 | [],_,_,_=>rfl
 | a::r,x,j,K=>by
  cases a with
  | err=>
   obtain ⟨b,xs⟩:=x
   cases b with
   | true=>simp only [argK,cond_true,xI,argT,zEo r _ (j+1)]
   | false=>simp only [argK,cond_false,xI,argT,zEo r _ (j+1)]
  | _=>simp only [argK,xI,argT,zEo r _ (j+1)]
def ArgV:(a:AK U)->denA a->V->Prop
 | .ls i,x,v=>∃ n:Bool,v = .lst (if n then .nil else .no) (x.map (C.encV i))
 | a,x,v=>v=trT C ⟨id,id,id,id⟩ (argT C a false x)
def zBg:(as:List (AK U))->zR as->List V->Prop
 | [],_,vs=>vs=[]
 | a::r,x,vs=>∃ v vs',vs=v::vs'/\ArgV C a x.1 v/\zBg r x.2 vs'
def decA:(a:AK U)->T U->(denA a->Option R)->Option R
 | .int k,v,K=>(match v with | .int k' n=>bif decide (k' = k) then K n else none | _=>none)
 | .bool,v,K=>(match v with | .bool b=>K b | _=>none)
 | .str,v,K=>(match v with | .str s=>K s | _=>none)
 | .ls i,v,K=>(match v with
  | .nil=>K []
  | .lst m j ys=>ku i j ys K
  | _=>none)
 | .dl i,v,K=>(match v with
  | .nil=>K []
  | .lst m j ys=>ku i j ys fun xs=>(match m with
   | .dl=>K xs
   | .b n=>bif (bif n then xs.isEmpty else !xs.isEmpty) then K xs else none
   | .ow _ nb=>bif nb then K xs else bif !xs.isEmpty then K xs else none)
  | _=>none)
 | .bl i,v,K=>(match v with
  | .nil=>K (true,[])
  | .lst m j ys=>ku i j ys fun xs=>(match m with
   | .dl=>K (xs.isEmpty,xs)
   | .b n=>K (n,xs)
   | .ow _ nb=>bif nb then K (xs.isEmpty,xs) else K (false,xs))
  | _=>none)
 | .st i,v,K=>C.dec i v K
 | .err,v,K=>(match v with
  | .ifx=>K true
  | .con v=>bif zC5 v then K false else none
  | _=>none)
def zDq:(as:List (AK U))->List (T U)->(zR as->Option R)->Option R
 | [],vs,K=>(match vs with | []=>K () | _::_=>none)
 | a::r,vs,K=>(match vs with
  | []=>none
  | v::vs=>decA C a v fun x=>zDq r vs fun xs=>K (x,xs))
def finT:List (T U)->T U
 | []=>.tup []
 | x::r=>match r with
  | []=>x
  | _::_=>.tup (x::r)
def dres (e:En U) (st:St U):List ResultVar->(List (T U)->Option R)->Option R
 | [],K=>K []
 | v::r,K=>match v with
  | .tmp t=>fe (eget e t) fun v=>bif yJ v.flat then dres e st r fun vs=>K (v::vs) else none
  | .cell p t=>zIT C Tb st t (eget e p) fun v=>fe v fun v=>bif yJ v.flat then dres e st r fun vs=>K (v::vs) else none
def zEt:Nat->List (T U)->En U
 | _,[]=>[]
 | n,x::xs=>(n,x)::zEt (n+1) xs
def getR {R:Type}:(k:SK U)->T U->(denK k->Option R)->Option R
 | .int k,v,K=>decA C (.int k) v K
 | .bool,v,K=>decA C .bool v K
 | .str,v,K=>decA C .str v K
 | .dl i,v,K=>decA C (.dl i) v K
 | .bl i,v,K=>decA C (.bl i) v K
 | .st i,v,K=>decA C (.st i) v K
 | .ow _ _,_,_=>none
 | .arr _,_,_=>none
 | .box _,_,_=>none
 | .scs,_,_=>none
 | .mpo,_,_=>none
 | .jm,_,_=>none
 | .mpj,_,_=>none
 | .ag _,_,_=>none
def zEl {R:Type}:(l:List (SK U))->List (T U)->(zA l->Option R)->Option R
 | [],vs,K=>(match vs with | []=>K () | _::_=>none)
 | k::r,vs,K=>(match vs with
  | []=>none
  | v::vs=>getR C k v fun x=>zEl r vs fun xs=>K (x,xs))
def zBP {R:Type}:(l:List (SK U))->zA l->(List (T U)->Option R)->Option R
 | [],_,K=>K []
 | k::r,x,K=>match k,x with
  | .int k,x=>zBP r x.2 fun vs=>K (.int k x.1::vs)
  | .bool,x=>zBP r x.2 fun vs=>K (.bool x.1::vs)
  | .str,x=>zBP r x.2 fun vs=>K (.str x.1::vs)
  | .dl i,x=>zBP r x.2 fun vs=>K (.lst .dl i x.1::vs)
  | .bl i,x=>zBP r x.2 fun vs=>K (.lst (.b x.1.1) i x.1.2::vs)
  | .st i,x=>zBP r x.2 fun vs=>K (C.enc i x.1::vs)
  | _,_=>none
structure CP (U:TyU) where
 io:List (SK U)
 oo:List (SK U)
 as:List (SK U)
 rs:List (SK U)
 fn:{R:Type}->zA io->zA as->Option R->(zA oo->zA rs->Option R)->Option R
structure CR (U:TyU) where
 as:List (SK U)
 rs:List (SK U)
 fn:{R:Type}->zA as->(zA rs->Option R)->Option R
def zGX (st:St U):List Nat->Bool
 | []=>true
 | l::r=>(match lk st.bx l with | some _=>true | none=>false) && zGX st r
def zLm (c:CP U) (args:List (T U)) (ks:List Nat) (st:St U) (pan:Option R) (k:T U->St U->Option R):Option R:=
 feL (args.take c.io.length) fun a1=>feL (args.drop c.io.length) fun a2=>
 (bif ks.isEmpty then zD5 c.io a1 st else fun K=>K st) fun st0=>
 qD C c.io a1 st0 fun x st1=>feS st1 fun st1=>qD C c.as a2 st1 fun a st2=>feS st2 fun st2=>
 bif zGX st2 ks then c.fn x a pan fun y z=>zE9 C c.oo y a1 st2 fun st3=>kx C c.rs z st3 fun vs st4=>k (finT vs) st4 else none
def zMT (c:CR U) (args:List (T U)) (st:St U) (k:T U->St U->Option R):Option R:=
 qD C c.as args st fun x _=>c.fn x fun y=>zBP C c.rs y fun vs=>k (finT vs) st
def zDf (fu:Nat) (inl:Nat->Option (FD U)) (orc:Nat->Option (Con U)) (orr:Nat->Option (CR U)) (orp:Nat->Option (CP U)) (pan:Option R):Nat->Call U R
 | 0,_,_,_,_,_=>none
 | d+1,f,args,ks,st,k=>
  match orc f with
  | some c=>zDq C c.as args fun x=>Option.bind (c.fn x) fun y=>argK C c.rs y fun vs=>k (finT vs) st
  | none=>
   match orr f with
   | some c=>zMT C c args st k
   | none=>
    match orp f with
    | some c=>zLm C c args ks st pan k
    | none=>
     match inl f with
     | some fd=>bif Nat.ble args.length fd.n && ks.isEmpty then
      drun C Tb fu (zDf fu inl orc orr orp pan d) fd.fi fd.body (zEt 0 args) st fun ex e' st'=>match ex with
       | .normal=>dres C Tb e' st' fd.rs fun vs=>k (finT vs) st'
       | .ret=>dres C Tb e' st' fd.rs fun vs=>k (finT vs) st'
       | _=>none
      else none
     | none=>none
def runP (fu d:Nat) (inl:Nat->Option (FD U)) (orc:Nat->Option (Con U)) (orr:Nat->Option (CR U)) (orp:Nat->Option (CP U)) (fd:FD U) (io oo as rs:List (SK U)) (x:zA io) (a:zA as):Option (Option (zA oo×zA rs)):=
 kx C io x ⟨[],[],0,0,[]⟩ fun vs st=>feS st fun st=>kx C as a st fun ws st=>feS st fun st=>feA (vs++ws) fun ts=>
 drun C Tb fu (zDf C Tb fu inl orc orr orp (some none) d) fd.fi fd.body (zEt 0 ts) st fun ex e' st'=>match ex with
  | .normal=>dres C Tb e' st' fd.rs fun us=>zEl C rs us fun z=>qD C oo vs st' fun y _=>some (some (y,z))
  | .ret=>dres C Tb e' st' fd.rs fun us=>zEl C rs us fun z=>qD C oo vs st' fun y _=>some (some (y,z))
  | _=>none
variable {C Tb} {P:Program} {r:R}
structure FDOk (P:Program) (pf rf:FuncId->Bool) (f:Nat) (fd:FD U):Prop where
 fn:∃ fn,P.funcs[f]? = some fn/\fn.body=some fd.body/\fn.ntmps=fd.n/\fn.results=fd.rs.toArray
 code:zP P f=true
 ok:qW pf rf fd.fi ⟨fd.n,[]⟩ fd.body=true
 hok:qy fd.fi fd.body=true
def ConOk (C:Cod U) (P:Program) (f:Nat) (c:Con U):Prop:=∀ x y,c.fn x=some y->∀ vs,zBg C c.as x vs->xz P f vs (finV ((xI C c.rs (fun _=>false) 0 y).map (trT C ⟨id,id,id,id⟩)))
theorem zOM (hC:CodOk C) (a:AK U) (n:Bool) (x:denA a):bdd 0 0 (argT C a n x)=true:=by
 cases a <;> first | rfl | exact hC.bd _ _ | (cases x <;> rfl)
theorem zEW (hC:CodOk C):∀ (as:List (AK U)) (nf:Nat->Bool) (j:Nat) (x:zR as),bdds 0 0 (xI C as nf j x)=true
 | [],_,_,_=>rfl
 | a::r,nf,j,x=>by simp only [xI,bdds,zOM hC,zEW hC r,Bool.and_self]
theorem tr_any (hC:CodOk C) (N N':NM) {l:List (T U)} (h:bdds 0 0 l=true):l.map (trT C N')=l.map (trT C N):=
 xh (nl:=0) (nx:=0) ⟨fun _ h=>by omega,fun _ h=>by omega,fun _ h=>by omega,fun _ h=>by omega⟩ h
theorem zBC (hC:CodOk C):∀ (a:AK U) {v:T U} {K:denA a->Option R},decA C a v K=some r->∃ x,K x=some r/\∀ N,ArgV C a x ((trT C N v).untag)
 | .int k,v,K,h=>by
  simp only [decA] at h
  split at h
  · obtain ⟨h1,h2⟩:=zO h
    simp only [decide_eq_true_eq] at h1
    subst h1
    exact ⟨_,h2,fun N=>rfl⟩
  · cases h
 | .bool,v,K,h=>by
  simp only [decA] at h
  split at h
  · exact ⟨_,h,fun N=>rfl⟩
  · cases h
 | .str,v,K,h=>by
  simp only [decA] at h
  split at h
  · exact ⟨_,h,fun N=>rfl⟩
  · cases h
 | .ls i,v,K,h=>by
  simp only [decA] at h
  split at h
  · exact ⟨_,h,fun N=>⟨true,rfl⟩⟩
  · rename_i m j ys
    have hq:=jB h; clear h; obtain ⟨rfl,h⟩:=hq
    simp only [kw] at h
    refine ⟨_,h,fun N=>?_⟩
    cases m with
    | b n=>cases n with
     | false=>exact ⟨false,rfl⟩
     | true=>exact ⟨true,rfl⟩
    | dl=>cases ys with
     | nil=>exact ⟨true,rfl⟩
     | cons y ys=>exact ⟨false,rfl⟩
    | ow t nb=>cases nb with
     | false=>exact ⟨false,rfl⟩
     | true=>cases ys with
      | nil=>exact ⟨true,rfl⟩
      | cons y ys=>exact ⟨false,rfl⟩
  · cases h
 | .dl i,v,K,h=>by
  simp only [decA] at h
  split at h
  · exact ⟨_,h,fun N=>rfl⟩
  · rename_i m j ys
    have hq:=jB h; clear h; obtain ⟨rfl,h⟩:=hq
    simp only [kw] at h
    split at h
    · refine ⟨_,h,fun N=>?_⟩
      cases ys <;> rfl
    · rename_i n
      obtain ⟨h1,h2⟩:=zO h
      refine ⟨_,h2,fun N=>?_⟩
      cases n <;> cases ys <;> simp at h1 <;> rfl
    · rename_i t nb
      cases nb with
      | true=>exact ⟨_,h,fun N=>rfl⟩
      | false=>
       simp only [cond_false] at h
       obtain ⟨h1,h2⟩:=zO h
       refine ⟨_,h2,fun N=>?_⟩
       cases ys <;> simp at h1
       rfl
  · cases h
 | .bl i,v,K,h=>by
  simp only [decA] at h
  split at h
  · exact ⟨_,h,fun N=>rfl⟩
  · rename_i m j ys
    have hq:=jB h; clear h; obtain ⟨rfl,h⟩:=hq
    simp only [kw] at h
    split at h
    · refine ⟨_,h,fun N=>?_⟩
      cases ys <;> rfl
    · rename_i n
      refine ⟨_,h,fun N=>?_⟩
      cases n <;> rfl
    · rename_i t nb
      cases nb with
      | true=>refine ⟨_,h,fun N=>?_⟩; cases ys <;> rfl
      | false=>exact ⟨_,h,fun N=>rfl⟩
  · cases h
 | .st i,v,K,h=>by
  simp only [decA] at h
  obtain ⟨x,h1,h2⟩:=hC.dec i _ _ _ h
  exact ⟨x,h1,fun N=>by show _=trT C _ (C.enc i x); rw [hC.enc,h2]⟩
 | .err,v,K,h=>by
  simp only [decA] at h
  split at h
  · exact ⟨true,h,fun N=>rfl⟩
  · obtain ⟨h1,h2⟩:=zO h
    have e1:=zBL h1
    subst e1
    exact ⟨false,h2,fun N=>rfl⟩
  · cases h
theorem zFm (hC:CodOk C):∀ (as:List (AK U)) {vs:List (T U)} {K:zR as->Option R},zDq C as vs K=some r->∃ x,K x=some r/\∀ N,zBg C as x ((vs.map (trT C N)).map V.untag)
 | [],vs,K,h=>by
  cases vs with
  | nil=>exact ⟨_,h,fun N=>rfl⟩
  | cons _ _=>cases h
 | a::rest,vs,K,h=>by
  cases vs with
  | nil=>cases h
  | cons v vs=>
   simp only [zDq] at h
   obtain ⟨x,h1,h2⟩:=zBC hC a h
   obtain ⟨xs,h3,h4⟩:=zFm hC rest h1
   exact ⟨_,h3,fun N=>⟨_,_,rfl,h2 N,h4 N⟩⟩
theorem zEu (N:NM) (vs:List (T U)):finV (vs.map (trT C N))=trT C N (finT vs):=by
 match vs with
 | []=>rfl
 | [x]=>rfl
 | x::y::r=>simp [finV,finT,trT,yu]
theorem zCV {st:St U} {N:NM}:∀ (args:List (T U)) (n:Nat),bdds st.nl st.nx args=true->ESim C N st (zEt n args) (jO n (args.map (trT C N)))
 | [],n,_,k=>⟨.inl rfl,rfl⟩
 | x::xs,n,h,k=>by
  simp only [bdds,Bool.and_eq_true] at h
  simp only [zEt,eget,List.map_cons,jO,Env.get]
  by_cases e:n=k
  · subst e
    have:Nat.beq n n=true:=by simp
    simp only [this,cond_true,if_true]
    exact ⟨.inr rfl,h.1⟩
  · simp only [xK e,cond_false,if_neg e]
    exact zCV xs (n+1) h.2 k
theorem zFY (hT:TbOk C P Tb) (hC:CodOk C) {N:NM} {st:St U} {s:S} {e:En U} {E:Env} (hs:SSim C N st s) (he:ESim C N st e E):∀ (rs:List ResultVar) {K:List (T U)->Option R} {G:List V->Prop},dres C Tb e st rs K=some r ->
 (∀ vs,K vs=some r->G (vs.map (trT C N)))->qJ P rs E s G
 | [],K,G,h,hG=>hG [] h
 | v::rest,K,G,h,hG=>by
  cases v with
  | tmp t=>
   simp only [dres,zCW] at h
   obtain ⟨h1,h2⟩:=zO h
   have hne:eget e t≠.any:=fun e'=>by rw [e'] at h1; simp [T.flat,yJ,T.isOne] at h1
   simp only [qJ]
   rw [((he t).1).get hne,qf]
   exact ⟨(xD C N _).2 h1,zFY hT hC hs he rest h2 fun vs hv=>hG (_::vs) hv⟩
  | cell p t=>
   simp only [dres,zCW] at h
   simp only [qJ]
   refine zFu hT hC hs (he p).1 h fun v hv=>?_
   obtain ⟨h1,h2⟩:=zO hv
   rw [qf]
   exact ⟨(xD C N _).2 h1,zFY hT hC hs he rest h2 fun vs hv=>hG (_::vs) hv⟩
theorem zEp (hT:TbOk C P Tb) (hC:CodOk C) {N:NM} {st:St U} {s:S} {e:En U} {E:Env} (hs:SSim C N st s) (he:ESim C N st e E):∀ (rs:List ResultVar) {K:List (T U)->Option R} {G:List V->Prop},dres C Tb e st rs K=some r ->
 (∀ vs,K vs=some r->G ((vs.map (trT C N)).map V.untag))->yl P rs E s G
 | [],K,G,h,hG=>hG [] h
 | v::rest,K,G,h,hG=>by
  cases v with
  | tmp t=>
   simp only [dres,zCW] at h
   obtain ⟨h1,h2⟩:=zO h
   have hne:eget e t≠.any:=fun e'=>by rw [e'] at h1; simp [T.flat,yJ,T.isOne] at h1
   simp only [yl]
   rw [((he t).1).get hne,qf]
   exact ⟨(xD C N _).2 h1,zEp hT hC hs he rest h2 fun vs hv=>hG (_::vs) hv⟩
  | cell p t=>
   simp only [dres,zCW] at h
   simp only [yl]
   refine zFu hT hC hs (he p).1 h fun v hv=>?_
   obtain ⟨h1,h2⟩:=zO hv
   rw [qf]
   exact ⟨(xD C N _).2 h1,zEp hT hC hs he rest h2 fun vs hv=>hG (_::vs) hv⟩
theorem Sub.refl:∀ l:List V,Sub l l
 | []=>.nil
 | _::r=>.keep (Sub.refl r)
theorem zBz (N:NM):∀ {l:List (T U)},zB6 l=true->((l.map (trT C N)).all fun x=>x.flat.all V.isOne)=true
 | [],_=>rfl
 | x::r,h=>by
  simp only [zB6,Bool.and_eq_true] at h
  simp only [List.map_cons,List.all_cons,Bool.and_eq_true]
  refine ⟨?_,zBz N h.2⟩
  have:=(xD C N x.flat).2 h.1
  rw [<- qf] at this
  exact this
theorem zHx {nl nx:Nat}:∀ {l:List (T U)},bdds nl nx l=true->∀ n,bdds nl nx (l.take n)=true
 | [],_,n=>by simp [bdds]
 | x::r,h,0=>rfl
 | x::r,h,n+1=>by
  simp only [bdds,Bool.and_eq_true,List.take_succ_cons] at h ⊢
  exact ⟨h.1,zHx h.2 n⟩
theorem zFJ {nl nx:Nat}:∀ {l l':List (T U)},bdds nl nx l=true->bdds nl nx l' = true->bdds nl nx (l++l')=true
 | [],_,_,h=>h
 | x::r,l',h,h'=>by
  simp only [bdds,Bool.and_eq_true,List.cons_append] at h ⊢
  exact ⟨h.1,zFJ h.2 h'⟩
theorem zDL {s:S}:∀ (l:List (SK U)) (x:zA l) {vs:List V} {rs:List Res},VKs C s l x vs rs->vs.length=l.length
 | [],x,vs,rs,h=>by simp only [VKs] at h; rw [h.1]; rfl
 | k::r,x,vs,rs,h=>by
  simp only [VKs] at h
  obtain ⟨v,vs',r1,r2,rfl,rfl,h1,h2⟩:=h
  simp [zDL r x.2 h2]
def resB (s:S):Res->Option (Nat×List V×Nat)
 | .inr b=>(Al.look s.box b).map fun c=>(b,c)
 | _=>none
def resT:Res->Option Nat
 | .inl n=>some n
 | _=>none
def resO (s:S):Res->Option (Nat×OV×List Nat)
 | .ob b=>(zM s.ob b).map fun c=>(b,c)
 | _=>none
def subS (s:S) (rs:List Res):S:=⟨rs.filterMap (resB s),rs.filterMap resT,s.nx,rs.filterMap (resO s)⟩
theorem yp (s:S):∀ (rs:List Res) (b:Nat),(.inr b ∈ rs->Al.look (subS s rs).box b=Al.look s.box b)/\(.inr b ∉ rs->Al.look (subS s rs).box b=none)
 | [],b=>⟨fun h=>(by cases h),fun _=>rfl⟩
 | y::r,b=>by
  obtain ⟨h1,h2⟩:=yp s r b
  have hh:∀ c,Al.look (subS s (.inr c::r)).box b=if c=b then (match Al.look s.box c with | some x=>some x | none=>Al.look (subS s r).box b) else Al.look (subS s r).box b:=fun c=>by
   show Al.look (List.filterMap (resB s) (Res.inr c::r)) b=_
   rw [List.filterMap_cons]
   simp only [resB]
   cases e:Al.look s.box c with
   | none=>simp only [Option.map_none]; split <;> rfl
   | some x=>simp only [Option.map_some]; rfl
  cases y with
  | inr c=>
   constructor
   · intro hm
     rw [hh]
     by_cases e:c=b
     · subst e
       rw [if_pos rfl]
       cases e2:Al.look s.box c with
       | some x=>rfl
       | none=>
        by_cases hr:Res.inr c ∈ r
        · simp only; rw [h1 hr,e2]
        · simp only; rw [h2 hr]
     · rw [if_neg e]
       rcases List.mem_cons.1 hm with q | q
       · injection q with q; exact absurd q.symm e
       · exact h1 q
   · intro hm
     have hr:Res.inr b ∉ r:=fun q=>hm (List.mem_cons_of_mem _ q)
     rw [hh,if_neg (fun e=>hm (by rw [e]; exact List.mem_cons_self ..))]
     exact h2 hr
  | inl n=>exact ⟨fun hm=>h1 ((List.mem_cons.1 hm).resolve_left (fun q=>by cases q)),fun hm=>h2 fun q=>hm (List.mem_cons_of_mem _ q)⟩
  | ob n=>exact ⟨fun hm=>h1 ((List.mem_cons.1 hm).resolve_left (fun q=>by cases q)),fun hm=>h2 fun q=>hm (List.mem_cons_of_mem _ q)⟩
theorem xM (s:S):∀ (rs:List Res) (b:Nat),(.ob b ∈ rs->zM (subS s rs).ob b=zM s.ob b)/\(.ob b ∉ rs->zM (subS s rs).ob b=none)
 | [],b=>⟨fun h=>(by cases h),fun _=>rfl⟩
 | y::r,b=>by
  obtain ⟨h1,h2⟩:=xM s r b
  have hh:∀ c,zM (subS s (.ob c::r)).ob b=if c=b then (match zM s.ob c with | some x=>some x | none=>zM (subS s r).ob b) else zM (subS s r).ob b:=fun c=>by
   show zM (List.filterMap (resO s) (Res.ob c::r)) b=_
   rw [List.filterMap_cons]
   simp only [resO]
   cases e:zM s.ob c with
   | none=>simp only [Option.map_none]; split <;> rfl
   | some x=>simp only [Option.map_some]; rfl
  cases y with
  | ob c=>
   constructor
   · intro hm
     rw [hh]
     by_cases e:c=b
     · subst e
       rw [if_pos rfl]
       cases e2:zM s.ob c with
       | some x=>rfl
       | none=>
        by_cases hr:Res.ob c ∈ r
        · simp only; rw [h1 hr,e2]
        · simp only; rw [h2 hr]
     · rw [if_neg e]
       rcases List.mem_cons.1 hm with q | q
       · injection q with q; exact absurd q.symm e
       · exact h1 q
   · intro hm
     have hr:Res.ob b ∉ r:=fun q=>hm (List.mem_cons_of_mem _ q)
     rw [hh,if_neg (fun e=>hm (by rw [e]; exact List.mem_cons_self ..))]
     exact h2 hr
  | inl n=>exact ⟨fun hm=>h1 ((List.mem_cons.1 hm).resolve_left (fun q=>by cases q)),fun hm=>h2 fun q=>hm (List.mem_cons_of_mem _ q)⟩
  | inr n=>exact ⟨fun hm=>h1 ((List.mem_cons.1 hm).resolve_left (fun q=>by cases q)),fun hm=>h2 fun q=>hm (List.mem_cons_of_mem _ q)⟩
theorem zDD (s:S) (rs:List Res) (n:Nat):n ∈ (subS s rs).tg↔.inl n ∈ rs:=by
 show n ∈ rs.filterMap resT↔_
 simp only [List.mem_filterMap]
 constructor
 · rintro ⟨y,h1,h2⟩
   cases y <;> simp [resT] at h2
   subst h2; exact h1
 · intro h; exact ⟨_,h,rfl⟩
def InS (s:S):Res->Prop
 | .inl n=>n ∈ s.tg
 | .inr b=>∃ c,Al.look s.box b=some c
 | .ob b=>∃ c,zM s.ob b=some c
mutual
theorem VK_in {s:S}:∀ (k:SK U) (x:denK k) {v:V} {rs:List Res},VK C s k x v rs->∀ y ∈ rs,InS s y
 | .int k,x,v,rs,h,y,hy=>by simp only [VK] at h; rw [h.2] at hy; cases hy
 | .bool,x,v,rs,h,y,hy=>by simp only [VK] at h; rw [h.2] at hy; cases hy
 | .str,x,v,rs,h,y,hy=>by simp only [VK] at h; rw [h.2] at hy; cases hy
 | .dl i,x,v,rs,h,y,hy=>by simp only [VK] at h; rw [h.2] at hy; cases hy
 | .bl i,x,v,rs,h,y,hy=>by simp only [VK] at h; rw [h.2] at hy; cases hy
 | .st i,x,v,rs,h,y,hy=>by simp only [VK] at h; rw [h.2] at hy; cases hy
 | .jm,x,v,rs,h,y,hy=>by simp only [VK] at h; rw [h.2] at hy; cases hy
 | .ow nb i,x,v,rs,h,y,hy=>by
  simp only [VK] at h
  obtain ⟨n,rfl,h1,h2,rfl⟩:=h
  simp only [List.mem_singleton] at hy
  subst hy; exact h1
 | .arr i,x,v,rs,h,y,hy=>by
  cases x with
  | none=>simp only [VK] at h; rw [h.2] at hy; cases hy
  | some xs=>
   simp only [VK] at h
   obtain ⟨b,cap,rfl,h1,h2,rfl⟩:=h
   simp only [List.mem_singleton] at hy
   subst hy; exact ⟨_,h2⟩
 | .scs,x,v,rs,h,y,hy=>by
  simp only [VK] at h
  obtain ⟨b,cap,fp,rfl,h1,rfl⟩:=h
  simp only [List.mem_singleton] at hy
  subst hy; exact ⟨_,h1⟩
 | .mpo,x,v,rs,h,y,hy=>by
  cases x with
  | none=>simp only [VK] at h; rw [h.2] at hy; cases hy
  | some c=>
   simp only [VK] at h
   obtain ⟨b,fp,rfl,h1,rfl⟩:=h
   simp only [List.mem_singleton] at hy
   subst hy; exact ⟨_,h1⟩
 | .mpj,x,v,rs,h,y,hy=>by
  cases x with
  | none=>simp only [VK] at h; rw [h.2] at hy; cases hy
  | some x=>
   cases x with
   | none=>simp only [VK] at h; rw [h.2] at hy; cases hy
   | some c=>
    simp only [VK] at h
    obtain ⟨b,fp,rfl,h1,rfl⟩:=h
    simp only [List.mem_singleton] at hy
    subst hy; exact ⟨_,h1⟩
 | .box cs,x,v,rs,h,y,hy=>by
  simp only [VK] at h
  obtain ⟨b,vs,rs',rfl,h1,h2,rfl⟩:=h
  rcases List.mem_cons.1 hy with rfl | hy
  · exact ⟨_,h1⟩
  · exact zBX cs x h2 y hy
 | .ag cs,x,v,rs,h,y,hy=>by
  simp only [VK] at h
  obtain ⟨vs,rfl,h2⟩:=h
  exact zBX cs x h2 y hy
theorem zBX {s:S}:∀ (l:List (SK U)) (x:zA l) {vs:List V} {rs:List Res},VKs C s l x vs rs->∀ y ∈ rs,InS s y
 | [],x,vs,rs,h,y,hy=>by simp only [VKs] at h; rw [h.2] at hy; cases hy
 | k::r,x,vs,rs,h,y,hy=>by
  simp only [VKs] at h
  obtain ⟨v,vs',r1,r2,rfl,rfl,h1,h2⟩:=h
  rcases List.mem_append.1 hy with hy | hy
  · exact VK_in k x.1 h1 y hy
  · exact zBX r x.2 h2 y hy
end
structure Keeps (s s':S) (rs:List Res):Prop where
 box:∀ b c,.inr b ∈ rs->Al.look s.box b=some c->Al.look s'.box b=some c
 ob:∀ b c,.ob b ∈ rs->zM s.ob b=some c->zM s'.ob b=some c
 tg:∀ n,.inl n ∈ rs->n ∈ s.tg->n ∈ s'.tg
 nx:s.nx<=s'.nx
theorem Keeps.mono {s s':S} {rs rs':List Res} (h:Keeps s s' rs) (hm:∀ y ∈ rs',y ∈ rs):Keeps s s' rs':=
 ⟨fun b c h1=>h.box b c (hm _ h1),fun b c h1=>h.ob b c (hm _ h1),fun n h1=>h.tg n (hm _ h1),h.nx⟩
theorem zHe (s:S) (rs:List Res):Keeps s (subS s rs) rs:=
 ⟨fun b c h1 h2=>((yp s rs b).1 h1).trans h2,fun b c h1 h2=>((xM s rs b).1 h1).trans h2,fun n h1 _=>(zDD s rs n).2 h1,Nat.le_refl _⟩
theorem zGn (st0 st s:S) (rs:List Res):Keeps s (jZ st0 st s) rs:=
 ⟨fun b c _ h=>by rw [zCf,h]; rfl,fun b c _ h=>by rw [zDb,h]; rfl,fun n _ h=>List.mem_append_left _ h,Nat.le_max_left _ _⟩
mutual
theorem zOy {s s':S}:∀ (k:SK U) (x:denK k) {v:V} {rs:List Res},VK C s k x v rs->Keeps s s' rs->VK C s' k x v rs
 | .int k,x,v,rs,h,_=>by simpa only [VK] using h
 | .bool,x,v,rs,h,_=>by simpa only [VK] using h
 | .str,x,v,rs,h,_=>by simpa only [VK] using h
 | .dl i,x,v,rs,h,_=>by simpa only [VK] using h
 | .bl i,x,v,rs,h,_=>by simpa only [VK] using h
 | .st i,x,v,rs,h,_=>by simpa only [VK] using h
 | .jm,x,v,rs,h,_=>by simpa only [VK] using h
 | .ow nb i,x,v,rs,h,hk=>by
  simp only [VK] at h ⊢
  obtain ⟨n,rfl,h1,h2,rfl⟩:=h
  exact ⟨n,rfl,hk.tg n (by simp) h1,Nat.lt_of_lt_of_le h2 hk.nx,rfl⟩
 | .arr i,x,v,rs,h,hk=>by
  cases x with
  | none=>simpa only [VK] using h
  | some xs=>
   simp only [VK] at h ⊢
   obtain ⟨b,cap,rfl,h1,h2,rfl⟩:=h
   exact ⟨b,cap,rfl,h1,hk.box b _ (by simp) h2,rfl⟩
 | .scs,x,v,rs,h,hk=>by
  simp only [VK] at h ⊢
  obtain ⟨b,cap,fp,rfl,h1,rfl⟩:=h
  exact ⟨b,cap,fp,rfl,hk.ob b _ (by simp) h1,rfl⟩
 | .mpo,x,v,rs,h,hk=>by
  cases x with
  | none=>simpa only [VK] using h
  | some c=>
   simp only [VK] at h ⊢
   obtain ⟨b,fp,rfl,h1,rfl⟩:=h
   exact ⟨b,fp,rfl,hk.ob b _ (by simp) h1,rfl⟩
 | .mpj,x,v,rs,h,hk=>by
  cases x with
  | none=>simpa only [VK] using h
  | some x=>
   cases x with
   | none=>simpa only [VK] using h
   | some c=>
    simp only [VK] at h ⊢
    obtain ⟨b,fp,rfl,h1,rfl⟩:=h
    exact ⟨b,fp,rfl,hk.ob b _ (by simp) h1,rfl⟩
 | .box cs,x,v,rs,h,hk=>by
  simp only [VK] at h ⊢
  obtain ⟨b,vs,rs',rfl,h1,h2,rfl⟩:=h
  exact ⟨b,vs,rs',rfl,hk.box b _ (by simp) h1,kO cs x h2 (hk.mono fun y hy=>List.mem_cons_of_mem _ hy),rfl⟩
 | .ag cs,x,v,rs,h,hk=>by
  simp only [VK] at h ⊢
  obtain ⟨vs,rfl,h2⟩:=h
  exact ⟨vs,rfl,kO cs x h2 hk⟩
theorem kO {s s':S}:∀ (l:List (SK U)) (x:zA l) {vs:List V} {rs:List Res},VKs C s l x vs rs->Keeps s s' rs->VKs C s' l x vs rs
 | [],x,vs,rs,h,_=>by simpa only [VKs] using h
 | k::r,x,vs,rs,h,hk=>by
  simp only [VKs] at h ⊢
  obtain ⟨v,vs',r1,r2,rfl,rfl,h1,h2⟩:=h
  exact ⟨v,vs',r1,r2,rfl,rfl,zOy k x.1 h1 (hk.mono fun y hy=>List.mem_append_left _ hy),kO r x.2 h2 (hk.mono fun y hy=>List.mem_append_right _ hy)⟩
end
theorem zEM {s:S} {rs:List Res} (hn:rs.Nodup) (hi:∀ y ∈ rs,InS s y):PartS (subS s rs) s:=by
 refine ⟨fun b c h=>?_,fun n h=>hi _ ((zDD s rs n).1 h),?_,fun b c h=>?_,rfl⟩
 · by_cases hm:Res.inr b ∈ rs
   · rw [(yp s rs b).1 hm] at h; exact h
   · rw [(yp s rs b).2 hm] at h; cases h
 · have key:∀ l:List Res,l.Nodup->(l.filterMap resT).Nodup:=fun l=>by
    induction l with
    | nil=>intro _; exact List.nodup_nil
    | cons y r ih=>
     intro h
     obtain ⟨h1,h2⟩:=List.nodup_cons.1 h
     cases y with
     | inl n=>
      rw [List.filterMap_cons]
      refine List.nodup_cons.2 ⟨fun hm=>?_,ih h2⟩
      obtain ⟨z,h3,h4⟩:=List.mem_filterMap.1 hm
      cases z <;> simp [resT] at h4
      subst h4; exact h1 h3
     | inr n=>rw [List.filterMap_cons]; exact ih h2
     | ob n=>rw [List.filterMap_cons]; exact ih h2
   exact key rs hn
 · by_cases hm:Res.ob b ∈ rs
   · rw [(xM s rs b).1 hm] at h; exact h
   · rw [(xM s rs b).2 hm] at h; cases h
theorem zDy {s s1:S} {rs:List Res} (ha:ApartS (subS s rs) s s1) {b:Nat} {c:List V×Nat} (hm:.inr b ∉ rs) (h:Al.look s.box b=some c):Al.look (jZ (subS s rs) s s1).box b=some c/\Al.look s1.box b=none:=by
 have h1:Al.look (rbox (subS s rs) s) b=some c:=by rw [jj,(yp s rs b).2 hm]; simpa using h
 have h2:=ha.box b c h1
 exact ⟨by rw [zCf,h2,h1]; rfl,h2⟩
theorem zGW {s s1:S} {rs:List Res} (ha:ApartS (subS s rs) s s1) {b:Nat} {c:OV×List Nat} (hm:.ob b ∉ rs) (h:zM s.ob b=some c):zM (jZ (subS s rs) s s1).ob b=some c/\zM s1.ob b=none:=by
 have h1:zM (rob (subS s rs) s) b=some c:=by rw [kY,(xM s rs b).2 hm]; simpa using h
 have h2:=ha.ob b c h1
 exact ⟨by rw [zDb,h2,h1]; rfl,h2⟩
theorem zLL {s s1:S} {rs:List Res} (ha:ApartS (subS s rs) s s1) {n:Nat} (hm:.inl n ∉ rs) (h:n ∈ s.tg):n ∈ (jZ (subS s rs) s s1).tg/\n ∉ s1.tg:=by
 have h1:n ∈ rtg (subS s rs) s:=rtg_iff.2 ⟨h,fun q=>hm ((zDD s rs n).1 q)⟩
 exact ⟨List.mem_append_right _ h1,ha.tg n h1⟩
theorem SSim.rest {N:NM} {st:St U} {s s1:S} {rs:List Res} (hs:SSim C N st s) (ha:ApartS (subS s rs) s s1) (hd:∀ y ∈ rs,¬ Has N st y):SSim C N st (jZ (subS s rs) s s1)/\∀ y,Has N st y->¬ InS s1 y:=by
 have hb:∀ l b,lk st.bx l=some b->.inr (N.bl l) ∉ rs:=fun l b hl hm=>hd _ hm ⟨l,b,hl,rfl⟩
 have ho:∀ l o,lko st.ob l=some o->.ob (N.bl l) ∉ rs:=fun l o hl hm=>hd _ hm ⟨l,o,hl,rfl⟩
 have ht:∀ t ∈ st.tg,.inl (N.tk t) ∉ rs:=fun t h hm=>hd _ hm ⟨t,h,rfl⟩
 refine ⟨⟨fun l b hl=>(zDy ha (hb l b hl) (hs.box l b hl)).1,hs.lt,hs.wf,hs.inj,fun t h=>(zLL ha (ht t h) (hs.tgIn t h)).1,hs.tgInj,hs.tgLt,fun t h=>Nat.lt_of_lt_of_le (hs.nm t h) (Nat.le_max_right _ _),⟨fun l o hl=>?_,hs.ob.lt,hs.ob.wf,hs.ob.inj⟩⟩,fun y hy hi=>?_⟩
 · obtain ⟨fp,h⟩:=hs.ob.look l o hl
   exact ⟨fp,(zGW ha (ho l o hl) h).1⟩
 · cases y with
   | inl n=>obtain ⟨t,h,rfl⟩:=hy; exact (zLL ha (ht t h) (hs.tgIn t h)).2 hi
   | inr b=>obtain ⟨l,x,hl,rfl⟩:=hy; obtain ⟨c,hc⟩:=hi; rw [(zDy ha (hb l x hl) (hs.box l x hl)).2] at hc; cases hc
   | ob b=>
    obtain ⟨l,x,hl,rfl⟩:=hy; obtain ⟨c,hc⟩:=hi
    obtain ⟨fp,h⟩:=hs.ob.look l x hl
    rw [(zGW ha (ho l x hl) h).2] at hc; cases hc
theorem zPa (hC:CodOk C):∀ (k:SK U) {v:T U} {K:denK k->Option R},getR C k v K=some r->∃ x,K x=some r/\∀ N s,VK C s k x ((trT C N v).untag) []
 | .int k,v,K,h=>by
  obtain ⟨x,h1,h2⟩:=zBC hC (.int k) h
  exact ⟨x,h1,fun N s=>by simp only [VK]; exact ⟨h2 N,trivial⟩⟩
 | .bool,v,K,h=>by
  obtain ⟨x,h1,h2⟩:=zBC hC .bool h
  exact ⟨x,h1,fun N s=>by simp only [VK]; exact ⟨h2 N,trivial⟩⟩
 | .str,v,K,h=>by
  obtain ⟨x,h1,h2⟩:=zBC hC .str h
  exact ⟨x,h1,fun N s=>by simp only [VK]; exact ⟨h2 N,trivial⟩⟩
 | .dl i,v,K,h=>by
  obtain ⟨x,h1,h2⟩:=zBC hC (.dl i) h
  exact ⟨x,h1,fun N s=>by simp only [VK]; exact ⟨h2 N,trivial⟩⟩
 | .bl i,v,K,h=>by
  obtain ⟨x,h1,h2⟩:=zBC hC (.bl i) h
  exact ⟨x,h1,fun N s=>by simp only [VK]; exact ⟨h2 N,trivial⟩⟩
 | .st i,v,K,h=>by
  obtain ⟨x,h1,h2⟩:=zBC hC (.st i) h
  exact ⟨x,h1,fun N s=>by simp only [VK]; exact ⟨(h2 N).trans (hC.enc _ i x),trivial⟩⟩
 | .ow _ _,v,K,h=>by simp [getR] at h
 | .arr _,v,K,h=>by simp [getR] at h
 | .box _,v,K,h=>by simp [getR] at h
 | .scs,v,K,h=>by simp [getR] at h
 | .mpo,v,K,h=>by simp [getR] at h
 | .jm,v,K,h=>by simp [getR] at h
 | .mpj,v,K,h=>by simp [getR] at h
 | .ag _,v,K,h=>by simp [getR] at h
theorem zJm (hC:CodOk C):∀ (l:List (SK U)) {vs:List (T U)} {K:zA l->Option R},zEl C l vs K=some r->∃ x,K x=some r/\∀ N s,VKs C s l x ((vs.map (trT C N)).map V.untag) []
 | [],vs,K,h=>by
  cases vs with
  | nil=>exact ⟨(),h,fun N s=>by simp only [VKs]; exact ⟨rfl,trivial⟩⟩
  | cons _ _=>cases h
 | k::rest,vs,K,h=>by
  cases vs with
  | nil=>cases h
  | cons v vs=>
   simp only [zEl] at h
   obtain ⟨x,h1,h2⟩:=zPa hC k h
   obtain ⟨xs,h3,h4⟩:=zJm hC rest h1
   exact ⟨(x,xs),h3,fun N s=>by
    simp only [VKs,List.map_cons]
    exact ⟨_,_,[],[],rfl,rfl,h2 N s,h4 N s⟩⟩
theorem zJl (hC:CodOk C):∀ (l:List (SK U)) (x:zA l) {K:List (T U)->Option R},zBP C l x K=some r->∃ ts,K ts=some r/\bdds 0 0 ts=true/\∀ N s ws q,VKs C s l x ws q->ws=ts.map (trT C N)
 | [],x,K,h=>⟨[],h,rfl,fun N s ws q hv=>by simp only [VKs] at hv; exact hv.1⟩
 | k::rest,x,K,h=>by
  have key:∀ (t:T U),bdd 0 0 t=true->(∀ N s w q,VK C s k x.1 w q->w=trT C N t)->(zBP C rest x.2 fun vs=>K (t::vs))=some r->∃ ts,K ts=some r/\bdds 0 0 ts=true/\∀ N s ws q,VKs C s (k::rest) x ws q->ws=ts.map (trT C N):=fun t hb ht hh=>by
   obtain ⟨ts,h1,h2,h3⟩:=zJl hC rest x.2 hh
   refine ⟨t::ts,h1,by simp only [bdds,hb,h2,Bool.and_self],fun N s ws q hv=>?_⟩
   simp only [VKs] at hv
   obtain ⟨v,vs',r1,r2,rfl,rfl,k1,k2⟩:=hv
   rw [List.map_cons,ht N s v r1 k1,h3 N s vs' r2 k2]
  cases k <;> simp only [zBP] at h <;> first
   | contradiction
   | exact key _ rfl (fun N s w q hv=>by simp only [VK] at hv; exact hv.1) h
   | exact key (C.enc _ x.1) (hC.bd _ x.1) (fun N s w q hv=>by simp only [VK] at hv; exact hv.1.trans (hC.enc N _ _).symm) h
variable (C) in
def ju (syn:List PanicEntry) (oo rs:List (SK U)) (vx:List V):Option (zA oo×zA rs)->Outc->S->Prop
 | none,.pan k,_=>k=syn
 | some y,.ret w,s'=>∃ ws q1 q2,VKs C s' oo y.1 vx q1/\VKs C s' rs y.2 ws q2/\(q1++q2).Nodup/\w=finV ws
 | _,_,_=>False
def CPOk (C:Cod U) (P:Program) (syn:List PanicEntry) (f:Nat) (c:CP U):Prop:=∀ (x:zA c.io) (a:zA c.as) {R:Type} (pan:Option R) (K:zA c.oo->zA c.rs->Option R) (r:R),c.fn x a pan K=some r ->
 ∃ oc:Option (zA c.oo×zA c.rs),(match oc with | none=>pan=some r | some y=>K y.1 y.2=some r) /\
  ∀ s vx va r1 r2,VKs C s c.io x vx r1->VKs C s c.as a va r2->(r1++r2).Nodup->FnC P f (vx++va) (subS s (r1++r2)) (ju C syn c.oo c.rs vx oc)
def CROk (C:Cod U) (P:Program) (f:Nat) (c:CR U):Prop:=∀ (x:zA c.as) {R:Type} (K:zA c.rs->Option R) (r:R),c.fn x K=some r ->
 ∃ y,K y=some r/\∀ s va q,VKs C s c.as x va q->q.Nodup->∃ ws,(∀ s',VKs C s' c.rs y ws [])/\FnC P f va (subS s q) fun oc s'=>oc = .ret (finV ws)/\s' = subS s q
theorem zJx {st:St U}:∀ {ks:List Nat},zGX st ks=true->∀ l ∈ ks,∃ b,lk st.bx l=some b
 | [],_,l,hl=>by cases hl
 | k::r,h,l,hl=>by
  simp only [zGX,Bool.and_eq_true] at h
  rcases List.mem_cons.1 hl with rfl | hl
  · split at h
    · rename_i b hb; exact ⟨b,hb⟩
    · exact absurd h.1 (by simp)
  · exact zJx h.2 l hl
theorem zPP (hC:CodOk C) {syn:List PanicEntry} {c:CP U} {f:Nat} (hok:CPOk C P syn f c) {N:NM} {st:St U} {s:S} (hs:SSim C N st s) {args:List (T U)} (hb:bdds st.nl st.nx args=true) {ks:List Nat} {pan:Option R} {k:T U->St U->Option R}
 (h:zLm C c args ks st pan k=some r) :
 FnC P f (args.map (trT C N)) s fun oc s'=>match oc with
  | .ret w=>(∀ l ∈ ks,Al.look s'.box (N.bl l)=Al.look s.box (N.bl l))/\∃ N' st' v,k v st' = some r/\Turn N st N' st'/\SSim C N' st' s'/\w=trT C N' v
  | .pan e=>e=syn/\pan=some r:=by
 unfold zLm at h
 simp only [zAx] at h
 have norm:∃ N0 st0 s0,(qD C c.io (args.take c.io.length) st0 fun x st1=>feS st1 fun st1=>qD C c.as (args.drop c.io.length) st1 fun a st2=>feS st2 fun st2=>
  bif zGX st2 ks then c.fn x a pan fun y z=>zE9 C c.oo y (args.take c.io.length) st2 fun st3=>kx C c.rs z st3 fun vs st4=>k (finT vs) st4 else none)=some r/\Gs s s0/\Turn N st N0 st0/\SSim C N0 st0 s0/\(ks≠[]->s0=s/\N0=N):=by
  cases hk:ks.isEmpty with
  | true=>
   rw [hk] at h
   simp only [cond_true] at h
   obtain ⟨N0,st0,s0,h1,h2,h3,h4⟩:=zEI hC _ _ hs h
   refine ⟨N0,st0,s0,h1,h2,h3,h4,fun hne=>?_⟩
   simp only [List.isEmpty_iff] at hk
   exact absurd hk hne
  | false=>
   rw [hk] at h
   simp only [cond_false] at h
   exact ⟨N,st,s,h,.refl _,.refl _ _,hs,fun _=>⟨rfl,rfl⟩⟩
 obtain ⟨N0,st0,s0,h1,hg,ht0,hs0,hsame⟩:=norm
 clear h
 refine FnC_gs hg ?_
 have hb0:bdds st0.nl st0.nx args=true:=xc ht0.nl ht0.nx _ hb
 have e0:args.map (trT C N0)=args.map (trT C N):=xh ht0.ext hb
 have vr:∀ (l:List (T U)) (j:Nat) (x:T U) (v:V),l[j]? = some x->(l.map (trT C N0))[j]? = some v->VR C N0 x v:=fun l j x v a b=>by
  rw [List.getElem?_map,a] at b
  injection b with b
  exact .inr b.symm
 obtain ⟨x,st1,r1,h2,hs1,e1,e2,hv1,hn1,hd1,hu1⟩:=jQ hC c.io (vs:=args.take c.io.length) (vs':=(args.take c.io.length).map (trT C N0)) hs0 (by simp) (vr _) h1
 rw [qx] at h2
 obtain ⟨a,st2,r2,h3,hs2,e3,e4,hv2,hn2,hd2,hu2⟩:=jQ hC c.as (vs:=args.drop c.io.length) (vs':=(args.drop c.io.length).map (trT C N0)) hs1 (by simp) (vr _) h2
 rw [qx] at h3
 obtain ⟨h4,h5⟩:=zO h3
 have hnd:(r1++r2).Nodup:=List.nodup_append.2 ⟨hn1,hn2,fun y hy z hz e=>by subst e; exact (hd1 y hy).2 (hd2 y hz).1⟩
 have hgone:∀ y ∈ r1++r2,¬ Has N0 st2 y:=fun y hy hh=>by
  rcases List.mem_append.1 hy with hy | hy
  · exact (hd1 y hy).2 (hu2 y hh)
  · exact (hd2 y hy).2 hh
 obtain ⟨oc,h6,h7⟩:=hok x a pan _ r h5
 have hin:∀ y ∈ r1++r2,InS s0 y:=fun y hy=>by
  rcases List.mem_append.1 hy with hy | hy
  · exact zBX c.io x hv1 y hy
  · exact zBX c.as a hv2 y hy
 have hf:=zHu (h7 s0 _ _ r1 r2 hv1 hv2 hnd) (zEM hnd hin)
 rw [<- List.map_append,List.take_append_drop,e0] at hf
 refine zFt hf ?_
 rintro o s' ⟨s1,hpost,rfl,hap⟩
 cases oc with
 | none=>
  cases o with
  | ret w=>exact hpost.elim
  | pan e=>exact ⟨hpost,h6⟩
 | some y=>
  cases o with
  | pan e=>exact hpost.elim
  | ret w=>
   obtain ⟨ws,q1,q2,hy1,hy2,hyn,rfl⟩:=hpost
   obtain ⟨hj,hjn⟩:=hs2.rest hap hgone
   have hb2:bdds st2.nl st2.nx args=true:=by rw [e3,e4,e1,e2]; exact hb0
   have hin1:∀ z ∈ q1++q2,InS s1 z:=fun z hz=>by
    rcases List.mem_append.1 hz with hz | hz
    · exact zBX c.oo y.1 hy1 z hz
    · exact zBX c.rs y.2 hy2 z hz
   obtain ⟨hq1,hq2,hq3⟩:=List.nodup_append.1 hyn
   have hbt:bdds st2.nl st2.nx (args.take c.io.length)=true:=zHx hb2 _
   obtain ⟨N3,st3,h8,h9,h10,h11⟩:=zFs hC c.oo y.1 (args.take c.io.length) hj (kO c.oo y.1 hy1 (zGn _ _ _ _)) hq1 (fun z hz hh=>hjn z hh (hin1 z (by simp [hz]))) hbt h6
   obtain ⟨N4,vs4,st4,k1,k2,k3,k4,k5,k6⟩:=jp hC c.rs y.2 h10 (kO c.rs y.2 hy2 (zGn _ _ _ _)) hq2 (fun z hz hh=>by
    rcases h11 z hh with q | q
    · exact hjn z q (hin1 z (by simp [hz]))
    · exact hq3 z q z hz rfl) h8
   have ht2:Turn N st N0 st2:=⟨ht0.ext,by rw [e3,e1]; exact ht0.nl,by rw [e4,e2]; exact ht0.nx⟩
   refine ⟨fun l hl=>?_,N4,st4,_,k1,ht2.trans (h9.trans k2),k3,by rw [<- zEu,k4]⟩
   obtain ⟨es,eN⟩:=hsame (fun e=>by rw [e] at hl; cases hl)
   subst es; subst eN
   obtain ⟨b,hlb⟩:=zJx h4 l hl
   rw [hs2.box l b hlb]
   exact (zDy hap (fun hm=>hgone _ hm ⟨l,b,hlb,rfl⟩) (hs2.box l b hlb)).1
theorem zO8 {s:S} {q:List Res} (hn:q.Nodup) (hi:∀ y ∈ q,InS s y) (hnd:s.tg.Nodup):(jZ (subS s q) s (subS s q)).sub s:=by
 have hp:=zEM hn hi
 refine ⟨fun b c h=>?_,fun t ht=>?_,fun _=>hnd,fun b h=>?_,?_,fun b c h=>?_⟩
 · rw [zCf]
   by_cases hm:Res.inr b ∈ q
   · rw [(yp s q b).1 hm,h]; rfl
   · rw [(yp s q b).2 hm,jj,(yp s q b).2 hm]; simpa using h
 · by_cases hm:Res.inl t ∈ q
   · exact List.mem_append_left _ ((zDD s q t).2 hm)
   · exact List.mem_append_right _ (rtg_iff.2 ⟨ht,fun h=>hm ((zDD s q t).1 h)⟩)
 · rw [zCf] at h
   by_cases hm:Res.inr b ∈ q
   · rw [(yp s q b).1 hm] at h; cases e:Al.look s.box b with
     | none=>rfl
     | some c=>rw [e] at h; cases h
   · rw [(yp s q b).2 hm,jj,(yp s q b).2 hm] at h; simpa using h
 · show max s.nx s.nx<=s.nx
   omega
 · rw [zDb]
   by_cases hm:Res.ob b ∈ q
   · rw [(xM s q b).1 hm,h]; rfl
   · rw [(xM s q b).2 hm,kY,(xM s q b).2 hm]; simpa using h
theorem zOa {P:Program} {f:FuncId} {va:List V} {w:V} {s:S} {q:List Res} (hn:q.Nodup) (hi:∀ y ∈ q,InS s y) (h:FnC P f va (subS s q) fun oc s'=>oc = .ret w/\s' = subS s q):FnC P f va s fun oc s'=>oc = .ret w/\s' = s:=by
 intro B g w vs hinv hgl hv
 refine (zHu h (zEM hn hi) B g w vs hinv hgl hv).mono ?_
 rintro e w' ⟨g',s',h1,h2,h3⟩
 have hsub:=zO8 hn hi hinv.nodup
 cases e with
 | returned v=>
  obtain ⟨r,h4,s1,⟨h5,rfl⟩,rfl,_⟩:=h3
  exact ⟨g',s,h1,h2.weaken hsub,r,h4,h5,rfl⟩
 | panicked c=>obtain ⟨s1,⟨h5,_⟩,_⟩:=h3; cases h5
 | outgrown=>exact h3.elim
theorem zOq (hC:CodOk C) {c:CR U} {f:Nat} (hok:CROk C P f c) {N:NM} {st:St U} {s:S} (hs:SSim C N st s) {args:List (T U)} {k:T U->St U->Option R}
 (h:zMT C c args st k=some r):∃ v,FnC P f (args.map (trT C N)) s (fun oc s'=>oc = .ret (trT C N v)/\s' = s)/\k v st=some r/\bdd 0 0 v=true:=by
 unfold zMT at h
 obtain ⟨x,st1,q,h1,hs1,e1,e2,hv,hn,hd,hu⟩:=jQ hC c.as (vs:=args) (vs':=args.map (trT C N)) hs (by simp) (fun j x v a b=>by
  rw [List.getElem?_map,a] at b
  injection b with b
  exact .inr b.symm) h
 obtain ⟨y,h2,h3⟩:=hok x _ r h1
 obtain ⟨ts,h4,h5,h6⟩:=zJl hC c.rs y h2
 obtain ⟨ws,h7,h8⟩:=h3 s _ q hv hn
 have e3:=h6 N s ws [] (h7 s)
 refine ⟨finT ts,?_,h4,?_⟩
 · rw [<- zEu,<- e3]
   exact zOa hn (fun y hy=>zBX c.as x hv y hy) h8
 · cases ts with
   | nil=>rfl
   | cons t r=>cases r with
    | nil=>simpa [bdds,finT] using h5
    | cons t2 r=>simpa [finT,bdd] using h5
theorem zDX (hT:TbOk C P Tb) (hC:CodOk C) (hm:P.follows .mixedOrders=true) {syn:List PanicEntry} {pf rf:FuncId->Bool} {fu:Nat} {inl:Nat->Option (FD U)} {orc:Nat->Option (Con U)} {orr:Nat->Option (CR U)} {orp:Nat->Option (CP U)} {pan:Option R}
 (hpf:∀ f,pf f=(orc f).isSome) (hrf:∀ f,rf f=(orr f).isSome) (hin:∀ f fd,inl f=some fd->FDOk P pf rf f fd) (hor:∀ f c,orc f=some c->zP P f=true/\ConOk C P f c)
 (hrr:∀ f c,orr f=some c->zP P f=true/\CROk C P f c) (hpp:∀ f c,orp f=some c->zP P f=true/\CPOk C P syn f c) :
 ∀ (d:Nat) (wr own:Nat->Bool) (kl:List (Nat×Nat)) (kb:Nat->List Nat),zCz C P ⟨pf,wr,own,rf,kl,kb⟩ (zDf C Tb fu inl orc orr orp pan d:Call U R) r (fun e=>e=syn/\pan=some r)
 | 0,wr,own,kl,kb,f,args,ks,st,k,N,s,_,_,_,h,_,_,_,_,_,_=>by simp [zDf] at h
 | d+1,wr,own,kl,kb,f,args,ks,st,k,N,s,hs,hb,ha,h,K,KP,kbs,hkb,hK,hKP=>by
  simp only [zDf] at h
  split at h
  · rename_i c hc
    obtain ⟨h1,h2⟩:=hor f c hc
    obtain ⟨x,h3,h4⟩:=zFm hC c.as h
    cases hx:c.fn x with
    | none=>rw [hx] at h3; cases h3
    | some y=>
     rw [hx] at h3
     simp only [Option.bind_some,zEo C c.rs y 0] at h3
     refine ⟨h1,zBz N ha,rfl,?_⟩
     have hp:pf f=true:=by rw [hpf,hc]; rfl
     show (if pf f=true then _ else _)
     rw [if_pos hp]
     refine ⟨rfl,_,h2 x y hx _ (h4 N),hK _ _ _ _ _ h3 (.refl _ _) hs (.inr ?_)⟩
     rw [tr_any hC N ⟨id,id,id,id⟩ (zEW hC c.rs _ 0 y),zEu]
  · rename_i hc
    have hp:¬ pf f=true:=by rw [hpf,hc]; simp
    split at h
    · rename_i c hc2
      obtain ⟨h1,h2⟩:=hrr f c hc2
      obtain ⟨v,h3,h4,_⟩:=zOq hC h2 hs h
      refine ⟨h1,zBz N ha,rfl,?_⟩
      have hp2:rf f=true:=by rw [hrf,hc2]; rfl
      show (if pf f=true then _ else if rf f=true then _ else _)
      rw [if_neg hp,if_pos hp2]
      exact ⟨_,_,Sub.refl _,by rw [List.append_nil]; exact h3,hK _ _ _ _ _ h4 (.refl _ _) hs (.inr rfl)⟩
    · rename_i hc2
      have hp2:¬ rf f=true:=by rw [hrf,hc2]; simp
      split at h
      · rename_i c hc3
        obtain ⟨h1,h2⟩:=hpp f c hc3
        refine ⟨h1,zBz N ha,rfl,?_⟩
        show (if pf f=true then _ else if rf f=true then _ else _)
        rw [if_neg hp,if_neg hp2]
        refine ⟨_,Sub.refl _,?_⟩
        rw [List.append_nil]
        refine zFt (zPP hC h2 hs hb h) ?_
        intro oc s' hq
        cases oc with
        | pan e=>exact hKP e s' hq
        | ret w=>
         obtain ⟨q1,N',st',v,q2,q3,q4,q5⟩:=hq
         refine ⟨fun b hb=>?_,hK _ _ _ _ _ q2 q3 q4 (.inr q5)⟩
         obtain ⟨l,hl,rfl⟩:=hkb b hb
         exact q1 l hl
      · split at h
        · rename_i fd hfd
          obtain ⟨h1,h2⟩:=zO h
          simp only [Bool.and_eq_true,List.isEmpty_iff] at h1
          have hok:=hin f fd hfd
          obtain ⟨fn,q1,q2,q3,q4⟩:=hok.fn
          refine ⟨hok.code,zBz N ha,rfl,?_⟩
          show (if pf f=true then _ else if rf f=true then _ else _)
          rw [if_neg hp,if_neg hp2]
          refine ⟨_,Sub.refl _,?_⟩
          rw [List.append_nil]
          refine zNr q1 q2 q3 q4 (by simpa [Nat.ble_eq] using h1.1) fun B=>?_
          refine jf (X:=⟨B,⟨fd.n,[]⟩,none,[]⟩) (PP:=fun e=>e=syn/\pan=some r) hT hC hm (zDX hT hC hm hpf hrf hin hor hrr hpp d fd.fi.wr fd.fi.own) fd.body hs (zCV args 0 hb) h2 hok.ok hok.hok (fun e s' hq=>hKP e s' hq) ?_
          intro ex N' e' st' E' s' p1 p2 p3 p4 _
          have fin:(dres C Tb e' st' fd.rs fun vs=>k (finT vs) st')=some r->qJ P fd.rs E' s' fun xs=>∃ s0,s'.sub s0/\((∀ b ∈ kbs,Al.look s0.box b=Al.look s.box b)/\K (finV xs) s0):=fun hh=>
           zFY hT hC p3 p4 fd.rs hh fun vs hv=>⟨s',S.sub_refl _,⟨fun b hb=>absurd (hkb b hb) (by rw [h1.2]; rintro ⟨l,hl,_⟩; cases hl),hK _ _ _ _ _ hv p2 p3 (.inr (zEu N' vs))⟩⟩
          cases ex <;> simp only at p1 <;> first | exact fin p1 | cases p1
        · cases h
def fnP {io oo as rs:List (SK U)} (f:zA io->zA as->Option (Option (zA oo×zA rs))) {R:Type} (x:zA io) (a:zA as) (pan:Option R) (K:zA oo->zA rs->Option R):Option R:=
 Option.bind (f x a) fun o=>zJ o pan fun y=>K y.1 y.2
theorem jN {f:FuncId} {fn:Func} {c:Code} {args:List V} {st:S} {Q:Outc->S->Prop} {N:Nat} {rs:List ResultVar} (hf:P.funcs[f]? = some fn) (hb:fn.body=some c) (hn:fn.ntmps=N) (hrs:fn.results=rs.toArray) (hN:args.length<=N)
 (h:∀ B,awp P ⟨B,⟨N,[]⟩,none,[]⟩ c (retE P rs Q) (jO 0 args) st):FnC P f args st Q:=by
 intro B g w vs hi hgl hv
 refine calls_of_wp hf hb ?_
 have hr:=zEe (N:=N) hi hgl hv hN
 rw [hn]
 refine wpIn_wide.1 (wpIn_mono (h B g _ w hr) ?_)
 rintro ex a' w' ⟨g',e',st',h1,h2,h3⟩
 have hrs':fn.results.toList=rs:=by rw [hrs]
 subst hrs'
 have hret:yl P fn.results.toList e' st' (fun xs=>Q (.ret (finV xs)) st')->a'.defers=[]/\∃ v,(results fn a'.tmps).run P w' = .ok v w' /\
  ∃ g' st',Step B g w g' w'/\Inv B g' st' w'/\∃ r,RV g' w' r v/\Q (.ret r) st':=by
  intro h3
  obtain ⟨xs,us,k1,k2,k3⟩:=j8 h3 h2
  exact ⟨h2.df,_,kE k3,g',st',h1,h2.inv,_,zDA (zHv k2),k1⟩
 cases ex with
 | normal=>exact hret h3
 | ret=>exact hret h3
 | panic c=>exact ⟨h2.df,g',st',h1,h2.inv,h3⟩
 | exit id=>exact h3.elim
 | goto l=>exact h3.elim
 | outgrown=>exact h3.elim
theorem xr (hT:TbOk C P Tb) (hC:CodOk C) (hm:P.follows .mixedOrders=true) {syn:List PanicEntry} {pf rf:FuncId->Bool} {fu d:Nat} {inl:Nat->Option (FD U)} {orc:Nat->Option (Con U)} {orr:Nat->Option (CR U)} {orp:Nat->Option (CP U)}
 (hpf:∀ f,pf f=(orc f).isSome) (hrf:∀ f,rf f=(orr f).isSome) (hin:∀ f fd,inl f=some fd->FDOk P pf rf f fd) (hor:∀ f c,orc f=some c->zP P f=true/\ConOk C P f c)
 (hrr:∀ f c,orr f=some c->zP P f=true/\CROk C P f c) (hpp:∀ f c,orp f=some c->zP P f=true/\CPOk C P syn f c) {f:Nat} {fd:FD U} (hfd:FDOk P pf rf f fd) {io oo as rs:List (SK U)} (hlen:io.length+as.length<=fd.n)
 {fn:zA io->zA as->Option (Option (zA oo×zA rs))} (h:∀ x a,runP C Tb fu d inl orc orr orp fd io oo as rs x a=fn x a):CPOk C P syn f ⟨io,oo,as,rs,fnP fn⟩:=by
 intro x a R pan K r hr
 unfold fnP at hr
 simp only at hr
 cases hx:fn x a with
 | none=>rw [hx] at hr; cases hr
 | some oc=>
  rw [hx] at hr
  simp only [Option.bind_some] at hr
  refine ⟨oc,by cases oc <;> exact hr,fun s vx va r1 r2 hv1 hv2 hn=>?_⟩
  obtain ⟨fn',q1,q2,q3,q4⟩:=hfd.fn
  have hrun:=(h x a).trans hx
  unfold runP at hrun
  have hv1':=kO io x hv1 ((zHe s (r1++r2)).mono fun y hy=>List.mem_append_left _ hy)
  have hv2':=kO as a hv2 ((zHe s (r1++r2)).mono fun y hy=>List.mem_append_right _ hy)
  generalize subS s (r1++r2)=s0 at hv1' hv2' ⊢
  obtain ⟨hn1,hn2,hn3⟩:=List.nodup_append.1 hn
  have hno:∀ y,¬ Has ⟨id,id,id,id⟩ (⟨[],[],0,0,[]⟩:St U) y:=fun y hy=>by
   cases y with
   | inl n=>obtain ⟨t,ht,_⟩:=hy; cases ht
   | inr b=>obtain ⟨l,b,hl,_⟩:=hy; simp [lk] at hl
   | ob b=>obtain ⟨l,b,hl,_⟩:=hy; simp [lko] at hl
  obtain ⟨N1,vs1,st1,k1,k2,k3,k4,k5,k6⟩:=jp hC io x (SSim.empty ⟨id,id,id,id⟩ 0 0 s0) hv1' hn1 (fun y hy hh=>hno y hh) hrun
  rw [qx] at k1
  obtain ⟨N2,vs2,st2,p1,p2,p3,p4,p5,p6⟩:=jp hC as a k3 hv2' hn2 (fun y hy hh=>by
   rcases k6 y hh with q | q
   · exact hno y q
   · exact hn3 y q y hy rfl) k1
  rw [qx,zB7] at p1
  have e1:vs1.map (trT C N2)=vx:=by rw [xh p2.ext k5,k4]
  have hbd:bdds st2.nl st2.nx (vs1++vs2)=true:=zFJ (xc p2.nl p2.nx _ k5) p5
  have hargs:vx++va=(vs1++vs2).map (trT C N2):=by rw [List.map_append,e1,p4]
  have hl1:vx.length=io.length:=zDL io x hv1
  have hl2:va.length=as.length:=zDL as a hv2
  rw [hargs]
  refine jN q1 q2 q3 q4 (by rw [<- hargs,List.length_append,hl1,hl2]; exact hlen) fun B=>?_
  refine jf (X:=⟨B,⟨fd.n,[]⟩,none,[]⟩) (PP:=fun e=>e=syn/\(some none:Option (Option (zA oo×zA rs)))=some oc) hT hC hm (zDX hT hC hm hpf hrf hin hor hrr hpp d fd.fi.wr fd.fi.own) fd.body p3 (zCV (vs1++vs2) 0 hbd) p1 hfd.ok hfd.hok (fun e s' hq=>by
   obtain ⟨h1,h2⟩:=hq
   injection h2 with h2
   subst h2
   exact h1) ?_
  intro ex N' e' st' E' s' u1 u2 u3 u4 _
  have fin:(dres C Tb e' st' fd.rs fun us=>zEl C rs us fun z=>qD C oo vs1 st' fun y _=>some (some (y,z)))=some oc->yl P fd.rs E' s' fun xs=>ju C syn oo rs vx oc (.ret (finV xs)) s':=fun hh=>
   zEp hT hC u3 u4 fd.rs hh fun us hv=>by
    obtain ⟨z,h1,h2⟩:=zJm hC rs hv
    obtain ⟨y,st3,q,h3,_,_,_,h4,h5,_,_⟩:=jQ hC oo (vs:=vs1) (vs':=vs1.map (trT C N')) u3 (by simp) (fun j x v a b=>by
     rw [List.getElem?_map,a] at b
     injection b with b
     exact .inr b.symm) h1
    injection h3 with h3
    subst h3
    have e2:vs1.map (trT C N')=vx:=by rw [xh u2.ext (xc p2.nl p2.nx _ k5),e1]
    rw [e2] at h4
    exact ⟨_,q,[],h4,h2 N' s',by simpa using h5,rfl⟩
  cases ex <;> simp only at u1 <;> first | exact fin u1 | cases u1
end
open Go.Al
section
variable {U:TyU} {R:Type} {r:R}
def pInt (k:IntKind) (v:T U) (K:Int->Option R):Option R:=
 match v with
 | .int k' n=>bif decide (k' = k) then K n else none
 | _=>none
def zIR (v:T U) (K:Bool->Option R):Option R:=
 match v with
 | .bool b=>K b
 | _=>none
def pStr (v:T U) (K:List UInt8->Option R):Option R:=
 match v with
 | .str s=>K s
 | _=>none
def pDl (i:U.I) (v:T U) (K:List (U.den i)->Option R):Option R:=
 match v with
 | .nil=>K []
 | .lst m j ys=>ku i j ys fun xs=>(match m with
  | .dl=>K xs
  | .b n=>bif (bif n then xs.isEmpty else !xs.isEmpty) then K xs else none
  | .ow _ nb=>bif nb then K xs else bif !xs.isEmpty then K xs else none)
 | _=>none
variable {C:Cod U}
theorem yq {k:IntKind} {v:T U} {K:Int->Option R} (h:pInt k v K=some r):∃ x,K x=some r/\(∀ N,trT C N v = .at (.int k x))/\∀ N,yQ (trT C N v) = .at (.int k x):=by
 unfold pInt at h
 split at h
 · obtain ⟨h1,h2⟩:=zO h
   simp only [decide_eq_true_eq] at h1
   subst h1
   exact ⟨_,h2,fun _=>rfl,fun _=>rfl⟩
 · cases h
theorem zDj {v:T U} {K:Bool->Option R} (h:zIR v K=some r):∃ x,K x=some r/\(∀ N,trT C N v = .at (.bool x))/\∀ N,yQ (trT C N v) = .at (.bool x):=by
 unfold zIR at h
 split at h
 · exact ⟨_,h,fun _=>rfl,fun _=>rfl⟩
 · cases h
theorem zE6 {v:T U} {K:List UInt8->Option R} (h:pStr v K=some r):∃ x,K x=some r/\(∀ N,trT C N v = .at (.string ⟨x.toArray⟩))/\∀ N,yQ (trT C N v) = .at (.string ⟨x.toArray⟩):=by
 unfold pStr at h
 split at h
 · exact ⟨_,h,fun _=>rfl,fun _=>rfl⟩
 · cases h
theorem pDl_ok {i:U.I} {v:T U} {K:List (U.den i)->Option R} (h:pDl i v K=some r):∃ x,K x=some r/\∀ N,yQ (trT C N v) = .lst (zk (x.map (C.encV i))) (x.map (C.encV i)):=by
 unfold pDl at h
 split at h
 · exact ⟨_,h,fun N=>rfl⟩
 · rename_i m j ys
   have hq:=jB h; clear h; obtain ⟨rfl,h⟩:=hq
   simp only [kw] at h
   split at h
   · refine ⟨_,h,fun N=>?_⟩
     cases ys <;> rfl
   · rename_i n
     obtain ⟨h1,h2⟩:=zO h
     refine ⟨_,h2,fun N=>?_⟩
     cases n <;> cases ys <;> simp at h1 <;> rfl
   · rename_i t nb
     cases nb with
     | true=>exact ⟨_,h,fun N=>rfl⟩
     | false=>
      simp only [cond_false] at h
      obtain ⟨h1,h2⟩:=zO h
      refine ⟨_,h2,fun N=>?_⟩
      cases ys <;> simp at h1
      rfl
 · cases h
theorem zCZ (v:Value):yQ (.at v) = .at v:=rfl
theorem zCe {x y:V} (h:yQ x=y) (hy:y.isAgg=false:=by rfl):x.untag=y:=by
 cases x <;> first | exact h | (subst h; cases hy)
theorem zA9 (es:List V):yQ (.lst (zk es) es) = .lst (zk es) es:=zCQ es
def zGB:List (Nat×TD U)->Nat->TD U
 | [],_=>{}
 | (k,d)::r,t=>bif Nat.beq k t then d else zGB r t
theorem zJX {P:Program}:∀ {l:List (Nat×TD U)},(∀ p ∈ l,Facts C P p.1 p.2)->TbOk C P (zGB l)
 | [],_,t,h=>by simp [zGB] at h
 | (k,d)::r,hl,t,h=>by
  simp only [zGB] at h ⊢
  by_cases e:k=t
  · subst e
    have:Nat.beq k k=true:=by simp
    simp only [this,cond_true] at h ⊢
    exact hl (k,d) (by simp)
  · simp only [xK e,cond_false] at h ⊢
    exact zJX (fun p hp=>hl p (by simp [hp])) t h
def zV (fn:Func):Code:=fn.body.getD .skip
def zB {α:Type _}:List (Nat×α)->Nat->Option α
 | [],_=>none
 | (k,d)::r,t=>bif Nat.beq k t then some d else zB r t
theorem zL {α:Type _}:∀ {l:List (Nat×α)} (f:Nat),(zB l f).isSome=hasN (l.map (·.1)) f
 | [],_=>rfl
 | (k,d)::r,f=>by
  simp only [zB,List.map_cons,hasN]
  by_cases e:k=f
  · have:Nat.beq k f=true:=by simpa using e
    simp [this]
  · simp only [xK e,cond_false]
    exact zL f
def noLs:List (AK U)->Bool
 | []=>true
 | a::r=>(match a with | .ls _=>false | _=>true) && noLs r
theorem xR:∀ {l:List (AK U)},noLs l=true->∀ a ∈ l,∀ i,a≠.ls i
 | [],_,a,ha,_=>by simp at ha
 | b::r,h,a,ha,i=>by
  simp only [noLs,Bool.and_eq_true] at h
  rcases List.mem_cons.1 ha with rfl | ha
  · intro e; subst e; simp at h
  · exact xR h.2 a ha i
theorem ConOk.sub {P:Program} {f:Nat} {as rs:List (AK U)} {fn fn':zR as->Option (zR rs)} (h:ConOk C P f ⟨as,rs,fn⟩) (hs:∀ x y,fn' x=some y->fn x=some y):ConOk C P f ⟨as,rs,fn'⟩:=
 fun x y hx=>h x y (hs x y hx)
theorem zD {α:Type _} {p:Nat->α->Prop}:∀ f a,zB ([]:List (Nat×α)) f=some a->p f a:=fun f a h=>by simp [zB] at h
theorem zE {α:Type _} {p:Nat->α->Prop} {k:Nat} {d:α} {r:List (Nat×α)} (h0:p k d) (hr:∀ f a,zB r f=some a->p f a):∀ f a,zB ((k,d)::r) f=some a->p f a:=fun f a h=>by
 simp only [zB] at h
 by_cases e:k=f
 · subst e
   have:Nat.beq k k=true:=by simp
   simp only [this,cond_true] at h
   injection h with h
   subst h
   exact h0
 · simp only [xK e,cond_false] at h
   exact hr f a h
theorem zFc {σ R:Type} {F:(σ->Option R)->σ->Option R} {r:R} (I:σ->Prop) (μ:σ->Nat) (step:∀ (rec:σ->Option R) s,I s->(∀ s',I s'->μ s' < μ s->rec s' = some r)->F rec s=some r) :
 ∀ (n:Nat) (s:σ),I s->μ s < n->iter n F s=some r:=by
 intro n
 induction n with
 | zero=>intro s _ h; omega
 | succ n ih=>
  intro s hs hn
  simp only [iter]
  exact step _ s hs fun s' hs' hlt=>ih s' hs' (by omega)
end
end Go.Den
end
namespace Go.Den
section
open Go.Al Go.ChangeShapes Go.WideShapes Go.ChangeAt Go.RowKit
def wmOf (w:World):Nat->Nat:=fun b=>match w.heap[b]? with | some (.cells c _ _)=>c.size | _=>0
theorem zMX (w:World):∀ b,w.heap.size<=b->wmOf w b=0:=fun b hb=>by
 unfold wmOf
 rw [Array.getElem?_eq_none hb]
end
end Go.Den
