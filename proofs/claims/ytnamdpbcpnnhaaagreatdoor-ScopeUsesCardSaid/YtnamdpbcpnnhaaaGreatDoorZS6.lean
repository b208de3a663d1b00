/-
  Part 6 of what the last text needs: library, runs, contracts, plain laws. No condition of its own.
-/
import Derived.Test.YtnamdpbcpnnhaaaGreatDoorZS5
import Derived.RangeFuncNested
import Derived.RangeFuncBound
import Derived.RangeFuncLeaves
import Derived.RangeFuncWrites
import Derived.Shelf.Abstract
import Derived.OwnWalkIn
import Derived.TacticsInMore
import Derived.LoopNIn
import Derived.LoopIn
import Derived.Maps.AppendAt
import Derived.Shelf.Small.Strs
import Derived.Shelf.Strconv.Itoa0
import Derived.Shelf.Strconv.Itoa1
import Derived.Shelf.LaysM
import Derived.Shelf.Strconv.Itoa2
import Derived.Shelf.Strconv.Itoa3
import Derived.Shelf.Strings.Search1
import Derived.Shelf.Strings.Search2
import Derived.Shelf.Strings.Search3
import Derived.Shelf.Strings.Prefix
import Derived.Lib.QuietBelow
import GoSem.Claims
set_option linter.unusedVariables false
set_option linter.unusedSimpArgs false
set_option linter.unusedSectionVars false
namespace Go.Al
section
open Go.RowKit
def inFP (st:S) (j:Nat):Prop:=(∃ c,look st.box j=some c)\/∃ b o fp,zG st.ob b=some (o,fp)/\j ∈ fp
theorem Inv.good {B:Nat} {g:Gh} {st:S} {w:World} (hi:Inv B g st w) {j:Nat} (h:inFP st j):B<=j/\j < w.heap.size/\g.wm j=0/\(∀ t ∈ st.tg,∀ d,g.tb t=some (some (j,d))->False)/\g.fr j=false:=by
 rcases h with ⟨⟨cs,k⟩,h⟩ | ⟨b,o,fp,h,hj⟩
 . obtain ⟨h1,h2,_,_,arr,el,us,h3,_⟩:=hi.box j cs k h;refine ⟨h1,(Array.getElem?_eq_some_iff.1 h3).1,h2,fun t ht d hd=>?_,?_⟩
   . obtain ⟨d1,d2,d3⟩:=d;have:=(hi.own t ht j d1 d2 d3 hd).2.2.2.2.1;rw [h] at this; cases this
   . cases hf:g.fr j with
     | false=>rfl
     | true=>have:=(hi.ex.frz j hf).2.1; rw [h] at this; cases this
 . obtain ⟨_,_,h3⟩:=hi.ex.ob b o fp h;obtain ⟨q1,q2,q3,_,q5,q6⟩:=h3 j hj;exact ⟨q1,q2,q3,q5,q6⟩
theorem Inv.reob {B:Nat} {g:Gh} {st:S} {w:World} (hi:Inv B g st w) {box':List (Nat×List V×Nat)} {ob':List (Nat×OV×List Nat)}
 (hfp:∀ j,inFP ⟨box',st.tg,st.nx,ob'⟩ j->inFP st j)
 (hbox:∀ b cs k,look box' b=some (cs,k)->look st.box b=some (cs,k)\/(cs.length<=k/\(∀ c ∈ cs,c.isOne=true)/\∃ arr el us,w.heap[b]? = some (.cells arr el (0,0))/\arr.size=k/\RCs g w cs us/\arr.toList.take cs.length=us))
 (hob:∀ b o fp,zG ob' b=some (o,fp)->OMem g w b o fp/\b ∈ fp/\∀ j ∈ fp,look box' j=none)
 (hd:∀ b o fp b' o' fp' j,zG ob' b=some (o,fp)->zG ob' b' = some (o',fp')->j ∈ fp->j ∈ fp'->b=b'):Inv B g ⟨box',st.tg,st.nx,ob'⟩ w:=by
 refine ⟨hi.base,fun b cs k h=>?_,hi.tag,fun t ht b cap n sz h=>?_,hi.dist,hi.nodup,hi.fresh,hi.names,fun b hb=>?_,fun b o fp h=>?_,hd,hi.ex.ft⟩
 . rcases hbox b cs k h with h1 | ⟨h1,h2,h3⟩
   . exact hi.box b cs k h1
   . obtain ⟨q1,_,q3,_⟩:=hi.good (hfp b (.inl ⟨_,h⟩));exact ⟨q1,q3,h1,h2,h3⟩
 . obtain ⟨r1,r2,r3,r4,r5,r6⟩:=hi.own t ht b cap n sz h;refine ⟨r1,r2,r3,r4,?_,r6⟩;cases e:look box' b with
   | none=>rfl
   | some c=>exact ((hi.good (hfp b (.inl ⟨_,e⟩))).2.2.2.1 t ht _ h).elim
 . obtain ⟨r1,r2,r3⟩:=hi.ex.frz b hb;refine ⟨r1,?_,r3⟩;cases e:look box' b with
   | none=>rfl
   | some c=>have:=(hi.good (hfp b (.inl ⟨_,e⟩))).2.2.2.2; rw [hb] at this; cases this
 . obtain ⟨h1,h2,h3⟩:=hob b o fp h;refine ⟨h1,h2,fun j hj=>?_⟩;obtain ⟨q1,q2,q3,q4,q5⟩:=hi.good (hfp j (.inr ⟨b,o,fp,h,hj⟩));exact ⟨q1,q2,q3,h3 j hj,q4,q5⟩
abbrev pO (o:Option Nat):Value:=.pointer (o.map fun j=>⟨j,0,none⟩)
def lcs (bp bt:Nat) (nx:Option Nat):List V:=[.at (.map (some bp)),.at (.map (some bt)),.at (pO nx)]
theorem zQo {g:Gh} {w:World} (bp bt:Nat) (nx:Option Nat):RCs g w (lcs bp bt nx) [.map (some bp),.map (some bt),pO nx]:=by
 simp only [lcs,RCs];exact ⟨[_],_,rfl,by simp [RC,one],[_],_,rfl,by simp [RC,one],[_],_,rfl,by simp [RC,one],rfl⟩
theorem lcs_us {g:Gh} {w:World} {bp bt:Nat} {nx:Option Nat} {us:List Value} (h:RCs g w (lcs bp bt nx) us):us=[.map (some bp),.map (some bt),pO nx]:=by
 simp only [lcs,RCs,RC] at h;obtain ⟨_,_,rfl,⟨rfl,_⟩,_,_,rfl,⟨rfl,_⟩,_,_,rfl,⟨rfl,_⟩,rfl⟩:=h;rfl
def lvR (r:List (MC×MC)) (nx:Option Nat) (fp:List Nat):List (Nat×OV×List Nat):=match r,nx with
 | _::_,some n=>[(n,.lv r,fp)]
 | _,_=>[]
def jC (ob:List (Nat×OV×List Nat)) (p:Nat->Bool):List (Nat×OV×List Nat):=ob.filter fun x=>p x.1
theorem x9 (ob:List (Nat×OV×List Nat)) (p:Nat->Bool) (b:Nat):zG (jC ob p) b=if p b=true then zG ob b else none:=je p ob b
def openLv (st:S) (b bp bt:Nat) (x:MC×MC) (r:List (MC×MC)) (nx:Option Nat) (fp:List Nat):S:=
 ⟨lay st.box b (lcs bp bt nx,3),st.tg,st.nx,(bp,.mp x.1,[bp])::(bt,.mp x.2,[bt])::(lvR r nx fp++jC st.ob fun k=>!(k == b))⟩
theorem zIr {r:List (MC×MC)} {nx:Option Nat} {fp:List Nat} {k:Nat} {o:OV} {f:List Nat} (h:zG (lvR r nx fp) k=some (o,f)):nx=some k/\o = .lv r/\f=fp/\r≠[]:=by
 unfold lvR at h;split at h
 . rename_i y r' n;rw [zJ] at h;split at h
   . rename_i e;injection h with h
     obtain ⟨rfl,rfl⟩:=Prod.mk.inj h;exact ⟨by rw [e],rfl,rfl,by simp⟩
   . cases h
 . cases h
theorem LMem.nil_or {g:Gh} {w:World} {r:List (MC×MC)} {nx:Option Nat} {fp:List Nat} (h:LMem g w r nx fp):(r=[]/\nx=none/\fp=[])\/∃ n,nx=some n/\r≠[]/\n ∈ fp:=by
 cases r with
 | nil=>exact .inl ⟨rfl,h.1,h.2⟩
 | cons x r=>
  obtain ⟨b,bp,bt,nx',el,fp',h1,rfl,_⟩:=h;exact .inr ⟨b,h1,by simp,by simp⟩
theorem Inv.openG {B:Nat} {g:Gh} {st:S} {w:World} (hi:Inv B g st w) {b bp bt:Nat} {nx:Option Nat} {el:TypeId} {x:MC×MC} {r:List (MC×MC)} {fp':List Nat} {o0:OV} (hl:zG st.ob b=some (o0,b::bp::bt::fp')) (hn:(b::bp::bt::fp').Nodup)
 (h3:w.heap[b]? = some (.cells #[.map (some bp),.map (some bt),pO nx] el (0,0))) (h4:MMem g w bp x.1) (h5:MMem g w bt x.2) (h6:r≠[]->LMem g w r nx fp'):Inv B g (Al.openLv st b bp bt x r nx fp') w:=by
 obtain ⟨_,h2,h7⟩:=hi.ex.ob b _ _ hl;simp only [List.nodup_cons,List.mem_cons,not_or] at hn;obtain ⟨⟨n1,n2,n3⟩,⟨n4,n5⟩,n6,n7⟩:=hn;have hother:∀ k o f,zG st.ob k=some (o,f)->k≠b->∀ j ∈ f,j ∉ b::bp::bt::fp':=fun k o f hk hne j hj hm=>hne (hi.ex.obd k o f b _ _ j hk hl hj hm);have hcase:∀ {k o f},zG (Al.openLv st b bp bt x r nx fp').ob k=some (o,f)->(k=bp/\o = .mp x.1/\f=[bp])\/(k=bt/\o = .mp x.2/\f=[bt])\/(nx=some k/\o = .lv r/\f=fp'/\r≠[])\/(zG st.ob k=some (o,f)/\k≠b):=fun {k o f} h=>by
  replace h:zG ((bp,.mp x.1,[bp])::(bt,.mp x.2,[bt])::(lvR r nx fp' ++ jC st.ob fun k=>!(k == b))) k=some (o,f):=h;rw [zJ] at h;split at h
  . rename_i e; injection h with h; obtain ⟨rfl,rfl⟩:=Prod.mk.inj h; exact .inl ⟨e.symm,rfl,rfl⟩
  . rw [zJ] at h;split at h
    . rename_i e; injection h with h; obtain ⟨rfl,rfl⟩:=Prod.mk.inj h; exact .inr (.inl ⟨e.symm,rfl,rfl⟩)
    . rw [jW] at h;cases e:zG (lvR r nx fp') k with
      | some p=>
       rw [e] at h;obtain ⟨o2,f2⟩:=p;injection h with h
       obtain ⟨rfl,rfl⟩:=Prod.mk.inj h;exact .inr (.inr (.inl (zIr e)))
      | none=>
       rw [e,x9] at h;replace h:(if (!(k == b))=true then zG st.ob k else none)=some (o,f):=h;split at h
       . rename_i e2; exact .inr (.inr (.inr ⟨h,by simpa using e2⟩))
       . cases h
 have hbx:∀ j c,look (Al.openLv st b bp bt x r nx fp').box j=some c->(j=b/\c=(lcs bp bt nx,3))\/(look st.box j=some c/\j≠b):=fun j c h=>by
  replace h:look (lay st.box b (lcs bp bt nx,3)) j=some c:=h;rw [zN] at h;split at h
  . rename_i e; injection h with h; exact .inl ⟨e.symm,h.symm⟩
  . rename_i e; exact .inr ⟨h,fun e2=>e e2.symm⟩
 have hnb:∀ j ∈ bp::bt::fp',j≠b:=fun j hj e=>by
  subst e;simp only [List.mem_cons] at hj;rcases hj with e | e | e
  . exact n1 e
  . exact n2 e
  . exact n3 e
 have hnone:∀ j ∈ bp::bt::fp',look (Al.openLv st b bp bt x r nx fp').box j=none:=fun j hj=>by
  cases e:look (Al.openLv st b bp bt x r nx fp').box j with
  | none=>rfl
  | some c=>
   rcases hbx j c e with ⟨rfl,_⟩ | ⟨e2,_⟩
   . exact absurd rfl (hnb j hj)
   . have:=(h7 j (List.mem_cons_of_mem _ hj)).2.2.2.1;rw [e2] at this; cases this
 refine hi.reob (fun j hj=>?_) (fun k cs c h=>?_) (fun k o f h=>?_) (fun k1 o1 f1 k2 o2 f2 j e1 e2 m1 m2=>?_)
 . rcases hj with ⟨c,h⟩ | ⟨k,o,f,h,hj⟩
   . rcases hbx j c h with ⟨rfl,_⟩ | ⟨h,_⟩
     . exact .inr ⟨_,_,_,hl,by simp⟩
     . exact .inl ⟨_,h⟩
   . rcases hcase h with ⟨_,_,rfl⟩ | ⟨_,_,rfl⟩ | ⟨_,_,rfl,_⟩ | ⟨h,_⟩
     . simp only [List.mem_singleton] at hj; subst hj; exact .inr ⟨_,_,_,hl,by simp⟩
     . simp only [List.mem_singleton] at hj; subst hj; exact .inr ⟨_,_,_,hl,by simp⟩
     . exact .inr ⟨_,_,_,hl,by simp [hj]⟩
     . exact .inr ⟨_,_,_,h,hj⟩
 . rcases hbx k _ h with ⟨rfl,e⟩ | ⟨h,_⟩
   . obtain ⟨rfl,rfl⟩:=Prod.mk.inj e;exact .inr ⟨Nat.le_refl _,by intro c hc; simp only [lcs,List.mem_cons,List.not_mem_nil,or_false] at hc; rcases hc with rfl | rfl | rfl <;> rfl,_,_,_,h3,rfl,zQo bp bt nx,rfl⟩
   . exact .inl h
 . rcases hcase h with ⟨rfl,rfl,rfl⟩ | ⟨rfl,rfl,rfl⟩ | ⟨e,rfl,rfl,hr⟩ | ⟨h,hne⟩
   . exact ⟨⟨rfl,h4⟩,by simp,fun j hj=>by simp only [List.mem_singleton] at hj; subst hj; exact hnone _ (by simp)⟩
   . exact ⟨⟨rfl,h5⟩,by simp,fun j hj=>by simp only [List.mem_singleton] at hj; subst hj; exact hnone _ (by simp)⟩
   . subst e;refine ⟨⟨hr,n7,h6 hr⟩,?_,fun j hj=>hnone j (by simp [hj])⟩;rcases (h6 hr).nil_or with ⟨e,_⟩ | ⟨n,e,_,h⟩
     . exact absurd e hr
     . injection e with e; subst e; exact h
   . obtain ⟨q1,q2,q3⟩:=hi.ex.ob k o f h;refine ⟨q1,q2,fun j hj=>?_⟩;cases e:look (Al.openLv st b bp bt x r nx fp').box j with
     | none=>exact e
     | some c=>
      rcases hbx j c e with ⟨e1,_⟩ | ⟨e2,_⟩
      . exact absurd (by rw [e1]; simp) (hother k o f h hne j hj)
      . have:=(q3 j hj).2.2.2.1;rw [e2] at this; cases this
 . have own:∀ {k o f},zG st.ob k=some (o,f)->k≠b->j ∈ f->j ∈ bp::bt::fp'->False:=fun h hne hj hm=>hother _ _ _ h hne j hj (List.mem_cons_of_mem _ hm);rcases hcase e1 with ⟨rfl,_,rfl⟩ | ⟨rfl,_,rfl⟩ | ⟨a1,_,rfl,_⟩ | ⟨a1,a2⟩ <;> rcases hcase e2 with ⟨rfl,_,rfl⟩ | ⟨rfl,_,rfl⟩ | ⟨b1,_,rfl,_⟩ | ⟨b1,b2⟩
   . rfl
   . simp only [List.mem_singleton] at m1 m2; exact absurd (m1.symm.trans m2) n4
   . simp only [List.mem_singleton] at m1; subst m1; exact absurd m2 n5
   . simp only [List.mem_singleton] at m1; subst m1; exact (own b1 b2 m2 (by simp)).elim
   . simp only [List.mem_singleton] at m1 m2; exact absurd (m2.symm.trans m1) n4
   . rfl
   . simp only [List.mem_singleton] at m1; subst m1; exact absurd m2 n6
   . simp only [List.mem_singleton] at m1; subst m1; exact (own b1 b2 m2 (by simp)).elim
   . simp only [List.mem_singleton] at m2; subst m2; exact absurd m1 n5
   . simp only [List.mem_singleton] at m2; subst m2; exact absurd m1 n6
   . rw [a1] at b1; injection b1
   . exact (own b1 b2 m2 (by simp [m1])).elim
   . simp only [List.mem_singleton] at m2; subst m2; exact (own a1 a2 m1 (by simp)).elim
   . simp only [List.mem_singleton] at m2; subst m2; exact (own a1 a2 m1 (by simp)).elim
   . exact (own a1 a2 m1 (by simp [m2])).elim
   . exact hi.ex.obd k1 o1 f1 k2 o2 f2 j a1 b1 m1 m2
theorem Inv.openLv {B:Nat} {g:Gh} {st:S} {w:World} (hi:Inv B g st w) {b:Nat} {x:MC×MC} {r:List (MC×MC)} {fp:List Nat} (hl:zG st.ob b=some (.lv (x::r),fp)) :
 ∃ bp bt nx fp',fp=b::bp::bt::fp'/\fp.Nodup/\((r=[]/\nx=none/\fp' = [])\/∃ n,nx=some n/\r≠[]/\n ∈ fp')/\Inv B g (Al.openLv st b bp bt x r nx fp') w:=by
 obtain ⟨⟨_,hn,b',bp,bt,nx,el,fp',e1,rfl,h3,h4,h5,h6⟩,h2,h7⟩:=hi.ex.ob b _ _ hl;injection e1 with e1
 subst e1;exact ⟨bp,bt,nx,fp',rfl,hn,h6.nil_or,hi.openG hl hn h3 h4 h5 fun _=>h6⟩
theorem Inv.open1 {B:Nat} {g:Gh} {st:S} {w:World} (hi:Inv B g st w) {b:Nat} {x:MC×MC} {fp:List Nat} (hl:zG st.ob b=some (.l1 x,fp)) :
 ∃ bp bt nx,fp=[b,bp,bt]/\fp.Nodup/\Inv B g (Al.openLv st b bp bt x [] nx []) w:=by
 obtain ⟨⟨bp,bt,nx,el,rfl,hn,h3,h4,h5⟩,_,_⟩:=hi.ex.ob b _ _ hl;exact ⟨bp,bt,nx,rfl,hn,hi.openG hl hn h3 h4 h5 fun e=>absurd rfl e⟩
def closeOb (st:S) (b:Nat) (o:OV) (fp ds:List Nat):S:=⟨wipe st.box b,st.tg,st.nx,(b,o,fp)::jC st.ob fun k=>!(ds.contains k)⟩
theorem zMN (l:List (Nat×List V×Nat)) (b j:Nat):look (wipe l b) j=if b=j then none else look l j:=yJ l b j
theorem Inv.closeOb {B:Nat} {g:Gh} {st:S} {w:World} (hi:Inv B g st w) {b:Nat} {o:OV} {fp ds:List Nat} {c:List V×Nat} (hb:look st.box b=some c)
 (hds:∀ d ∈ ds,∃ o f,zG st.ob d=some (o,f)/\∀ j ∈ f,j ∈ fp) (hfp:∀ j ∈ fp,j=b\/∃ d ∈ ds,∃ o f,zG st.ob d=some (o,f)/\j ∈ f) (hbf:b ∈ fp) (hm:OMem g w b o fp):Inv B g (Al.closeOb st b o fp ds) w:=by
 have hbox:∀ {k o f},zG st.ob k=some (o,f)->b ∉ f:=fun {k o f} h hj=>by
  have:=((hi.ex.ob k o f h).2.2 b hj).2.2.2.1;rw [hb] at this; cases this
 have hcase:∀ {k o' f},zG (Al.closeOb st b o fp ds).ob k=some (o',f)->(k=b/\o' = o/\f=fp)\/(zG st.ob k=some (o',f)/\k ∉ ds/\k≠b):=fun {k o' f} h=>by
  replace h:zG ((b,o,fp)::jC st.ob fun k=>!(ds.contains k)) k=some (o',f):=h;rw [zJ] at h;split at h
  . rename_i e; injection h with h; obtain ⟨rfl,rfl⟩:=Prod.mk.inj h; exact .inl ⟨e.symm,rfl,rfl⟩
  . rename_i e;rw [x9] at h;split at h
    . rename_i e2;refine .inr ⟨h,?_,fun e3=>e e3.symm⟩;simpa using e2
    . cases h
 have hbx:∀ j c,look (Al.closeOb st b o fp ds).box j=some c->look st.box j=some c/\j≠b:=fun j c h=>by
  replace h:look (wipe st.box b) j=some c:=h;rw [zMN] at h;split at h
  . cases h
  . rename_i e; exact ⟨h,fun e2=>e e2.symm⟩
 have hsep:∀ {k o' f j},zG st.ob k=some (o',f)->k ∉ ds->j ∈ f->j ∈ fp->False:=fun {k o' f j} h hk hj hm=>by
  rcases hfp j hm with rfl | ⟨d,hd,o2,f2,h2,h3⟩
  . exact hbox h hj
  . have:=hi.ex.obd k o' f d o2 f2 j h h2 hj h3;subst this;exact hk hd
 refine hi.reob (fun j hj=>?_) (fun k cs c h=>.inl (hbx k _ h).1) (fun k o' f h=>?_) (fun k1 o1 f1 k2 o2 f2 j e1 e2 m1 m2=>?_)
 . rcases hj with ⟨c,h⟩ | ⟨k,o',f,h,hj⟩
   . exact .inl ⟨c,(hbx j c h).1⟩
   . rcases hcase h with ⟨_,_,rfl⟩ | ⟨h,_⟩
     . rcases hfp j hj with rfl | ⟨d,hd,o2,f2,h2,h3⟩
       . exact .inl ⟨_,hb⟩
       . exact .inr ⟨d,o2,f2,h2,h3⟩
     . exact .inr ⟨_,_,_,h,hj⟩
 . rcases hcase h with ⟨rfl,rfl,rfl⟩ | ⟨h,hk,hne⟩
   . refine ⟨hm,hbf,fun j hj=>?_⟩;cases e:look (Al.closeOb st k o' f ds).box j with
     | none=>exact e
     | some c'=>
      obtain ⟨e1,e2⟩:=hbx j c' e;rcases hfp j hj with e3 | ⟨d,hd,o2,f2,h2,h3⟩
      . exact absurd e3 e2
      . have:=((hi.ex.ob d o2 f2 h2).2.2 j h3).2.2.2.1;rw [e1] at this; cases this
   . obtain ⟨q1,q2,q3⟩:=hi.ex.ob k o' f h;refine ⟨q1,q2,fun j hj=>?_⟩;cases e:look (Al.closeOb st b o fp ds).box j with
     | none=>exact e
     | some c'=>
      have:=(q3 j hj).2.2.2.1;rw [(hbx j c' e).1] at this; cases this
 . rcases hcase e1 with ⟨rfl,_,rfl⟩ | ⟨a1,a2,_⟩ <;> rcases hcase e2 with ⟨rfl,_,rfl⟩ | ⟨b1,b2,_⟩
   . rfl
   . exact (hsep b1 b2 m2 m1).elim
   . exact (hsep a1 a2 m1 m2).elim
   . exact hi.ex.obd k1 o1 f1 k2 o2 f2 j a1 b1 m1 m2
theorem Inv.boxLv {B:Nat} {g:Gh} {st:S} {w:World} (hi:Inv B g st w) {b bp bt:Nat} {nx:Option Nat} (hb:look st.box b=some (lcs bp bt nx,3)):∃ el,w.heap[b]? = some (.cells #[.map (some bp),.map (some bt),pO nx] el (0,0)):=by
 obtain ⟨_,_,_,_,arr,el,us,h1,h2,h3,h4⟩:=hi.box b _ _ hb;have hus:=lcs_us h3;refine ⟨el,?_⟩;have e:arr = #[.map (some bp),.map (some bt),pO nx]:=by
  apply Array.ext';rw [<- List.take_length (l:=arr.toList),show arr.toList.length=(lcs bp bt nx).length by rw [Array.length_toList,h2]; rfl,h4,hus]
 rw [h1,e]
theorem zIL {B:Nat} {g:Gh} {st:S} {w:World} (hi:Inv B g st w) {d:Nat} {c:MC} {f:List Nat} (h:zG st.ob d=some (.mp c,f)):f=[d]/\MMem g w d c:=(hi.ex.ob d _ _ h).1
theorem Inv.closeLv {B:Nat} {g:Gh} {st:S} {w:World} (hi:Inv B g st w) {b bp bt:Nat} {nx:Option Nat} {x:MC×MC} {r:List (MC×MC)} {f1 f2 fp:List Nat} (hb:look st.box b=some (lcs bp bt nx,3)) (h1:zG st.ob bp=some (.mp x.1,f1)) (h2:zG st.ob bt=some (.mp x.2,f2)) (hne:bp≠bt)
 (h3:(r=[]/\nx=none/\fp=[])\/∃ n,nx=some n/\zG st.ob n=some (.lv r,fp)):Inv B g (Al.closeOb st b (.lv (x::r)) (b::bp::bt::fp) (bp::bt::nx.toList)) w:=by
 obtain ⟨rfl,m1⟩:=zIL hi h1;obtain ⟨rfl,m2⟩:=zIL hi h2;obtain ⟨el,hh⟩:=hi.boxLv hb;have hbox:∀ {k o f},zG st.ob k=some (o,f)->b ∉ f:=fun {k o f} h hj=>by
  have:=((hi.ex.ob k o f h).2.2 b hj).2.2.2.1;rw [hb] at this; cases this
 have b1:b≠bp:=fun e=>hbox h1 (by simp [e]);have b2:b≠bt:=fun e=>hbox h2 (by simp [e]);have hr:LMem g w r nx fp/\fp.Nodup/\(∀ j ∈ fp,j≠b/\j≠bp/\j≠bt/\∃ n,nx=some n/\zG st.ob n=some (.lv r,fp)):=by
  rcases h3 with ⟨rfl,rfl,rfl⟩ | ⟨n,rfl,h3⟩
  . exact ⟨⟨rfl,rfl⟩,List.nodup_nil,fun j hj=>by cases hj⟩
  . obtain ⟨⟨_,q1,q2⟩,_,_⟩:=hi.ex.ob n _ _ h3;refine ⟨q2,q1,fun j hj=>⟨fun e=>hbox h3 (e ▸ hj),fun e=>?_,fun e=>?_,n,rfl,h3⟩⟩
    . have:=hi.ex.obd n _ _ bp _ _ j h3 h1 hj (by simp [e]);subst this; rw [h1] at h3; injection h3 with h3; cases h3
    . have:=hi.ex.obd n _ _ bt _ _ j h3 h2 hj (by simp [e]);subst this; rw [h2] at h3; injection h3 with h3; cases h3
 obtain ⟨r1,r2,r3⟩:=hr;refine hi.closeOb hb (fun d hd=>?_) (fun j hj=>?_) (by simp) ⟨by simp,?_,b,bp,bt,nx,el,fp,rfl,rfl,hh,m1,m2,r1⟩
 . simp only [List.mem_cons,Option.mem_toList] at hd;rcases hd with rfl | rfl | hd
   . exact ⟨_,_,h1,fun j hj=>by simp only [List.mem_singleton] at hj; simp [hj]⟩
   . exact ⟨_,_,h2,fun j hj=>by simp only [List.mem_singleton] at hj; simp [hj]⟩
   . rcases h3 with ⟨_,e,_⟩ | ⟨n,e,h3⟩
     . rw [e] at hd; cases hd
     . rw [e] at hd; injection hd with hd; subst hd; exact ⟨_,_,h3,fun j hj=>by simp [hj]⟩
 . simp only [List.mem_cons] at hj;rcases hj with rfl | rfl | rfl | hj
   . exact .inl rfl
   . exact .inr ⟨_,by simp,_,_,h1,by simp⟩
   . exact .inr ⟨_,by simp,_,_,h2,by simp⟩
   . obtain ⟨_,_,_,n,e,h⟩:=r3 j hj;exact .inr ⟨n,by simp [e],_,_,h,hj⟩
 . simp only [List.nodup_cons,List.mem_cons,not_or];exact ⟨⟨b1,b2,fun h=>(r3 b h).1 rfl⟩,⟨hne,fun h=>(r3 bp h).2.1 rfl⟩,fun h=>(r3 bt h).2.2.1 rfl,r2⟩
theorem Inv.close1 {B:Nat} {g:Gh} {st:S} {w:World} (hi:Inv B g st w) {b bp bt:Nat} {nx:Option Nat} {x:MC×MC} {f1 f2:List Nat} (hb:look st.box b=some (lcs bp bt nx,3)) (h1:zG st.ob bp=some (.mp x.1,f1)) (h2:zG st.ob bt=some (.mp x.2,f2)) (hne:bp≠bt) :
 Inv B g (Al.closeOb st b (.l1 x) [b,bp,bt] [bp,bt]) w:=by
 obtain ⟨rfl,m1⟩:=zIL hi h1;obtain ⟨rfl,m2⟩:=zIL hi h2;obtain ⟨el,hh⟩:=hi.boxLv hb;have hbox:∀ {k o f},zG st.ob k=some (o,f)->b ∉ f:=fun {k o f} h hj=>by
  have:=((hi.ex.ob k o f h).2.2 b hj).2.2.2.1;rw [hb] at this; cases this
 have b1:b≠bp:=fun e=>hbox h1 (by simp [e]);have b2:b≠bt:=fun e=>hbox h2 (by simp [e]);refine hi.closeOb hb (fun d hd=>?_) (fun j hj=>?_) (by simp) ⟨bp,bt,nx,el,rfl,by simp [b1,b2,hne],hh,m1,m2⟩
 . simp only [List.mem_cons,List.not_mem_nil,or_false] at hd;rcases hd with rfl | rfl
   . exact ⟨_,_,h1,fun j hj=>by simp only [List.mem_singleton] at hj; simp [hj]⟩
   . exact ⟨_,_,h2,fun j hj=>by simp only [List.mem_singleton] at hj; simp [hj]⟩
 . simp only [List.mem_cons,List.not_mem_nil,or_false] at hj;rcases hj with rfl | rfl | rfl
   . exact .inl rfl
   . exact .inr ⟨_,by simp,_,_,h1,by simp⟩
   . exact .inr ⟨_,by simp,_,_,h2,by simp⟩
end
end Go.Al
namespace Go.Proofs.YtnamdpbcpnnhaaaGreatDoor
section
open Go.Al Go.Den Go.RowKit
attribute [local congr] ym xO xT xn yO yq yF yE yn xM yo xW yw yk yB yK yg xZ xU yS xL yj yU yR yr yu yV yl yh yY xm xY xV xK xP xN yi yX yT
abbrev tkV (l:List TokT):V:=.lst (zw (l.map (CC.encV TI.tok))) (l.map (CC.encV TI.tok))
abbrev ptV (b:Nat):V:=.at (.pointer (some ⟨b,0,none⟩))
theorem tk_at {l:List TokT} {i:Int} (h0:0<=i) (h1:i < l.length):(l.map (CC.encV TI.tok)).getD i.toNat .any = .agg [.at (.int .i64 (l.getD i.toNat tokD).kind),.at (.string ⟨(l.getD i.toNat tokD).text.toArray⟩),.at (.int .i64 (l.getD i.toNat tokD).file),.at (.int .i64 (l.getD i.toNat tokD).ffrom),.at (.int .i64 (l.getD i.toNat tokD).fto),.at (.bool (l.getD i.toNat tokD).blank)]:=by
 have hlt:i.toNat < l.length:=by omega
 rw [List.getD_eq_getElem?_getD,show (l.map (CC.encV TI.tok))[i.toNat]? = (l[i.toNat]?).map (CC.encV TI.tok) from List.getElem?_map,List.getD_eq_getElem?_getD,List.getElem?_eq_getElem hlt];rfl
set_option maxRecDepth 100000 in
theorem zDy {l:List TokT} {v1 v2 v3 v4 v5:V} {b0:Nat} {i:Int} {s:S} (h:Al.look s.box b0=some ([tkV l,v1,v2,v3,v4,v5],6)) (h0:0<=i) (h1:i < l.length) :
 FnC Tryz.prog 46 [ptV b0,.at (.int .i64 i)] s fun oc s'=>oc = .ret (.at (.string ⟨(l.getD i.toNat tokD).text.toArray⟩))/\s' = s:=by
 have hidx:=tk_at h0 h1;have hln:(l.map (CC.encV TI.tok)).length=l.length:=List.length_map _;generalize l.getD i.toNat tokD=tk at hidx ⊢;refine yz Tryz.func46 rfl Tryz.ntmps46 Tryz.results46 (by show 2<=13; decide) fun B=>?_;simp only [List.cons_append,List.nil_append,List.append_nil,xg,Nat.reduceAdd]
 (repeat (first | (refine zg ?_) | (refine zW ?_; simp -failIfUnchanged only [zB,zC]) | (refine zf ?_; simp -failIfUnchanged only [zV,zS,zd,zU]) | (refine zY ?_; simp -failIfUnchanged only [zR,zM,zB,zC,reduceIte]) | (refine zT ?_) | ((first | (refine ze polN ks46 _ rfl rfl ?_) | (refine za polN mixed ks46 _ rfl rfl (by kernel_rfl) (by kernel_rfl) ?_)); simp only [↓zk,↓zt,↓yP,↓zl,↓xG,↓yD,↓z6,zB,zH,zI,zK,zP,zm,zCf,zb,zX,zv,qp,zx,zq,jO,kD,zj,zp,xx,qY,implies_true,and_self,fits,zy,zz,zL,V.isOne,V.isAgg,V.size,qr,List.all_cons,List.all_nil,List.length_cons,List.length_nil,List.drop_zero,List.drop_succ_cons,List.take_succ_cons,List.take_zero,List.getD_cons_zero,List.getD_cons_succ,Bool.true_and,Bool.and_self,if_true,if_false,true_and,Nat.reduceAdd,Nat.reduceEqDiff,Nat.reduceLeDiff,reduceCtorEq,Bool.false_eq_true,Nat.zero_add,Nat.add_zero,Nat.lt_add_one,zGO,zGi,zEZ,zJW,zJz,zG4,zLW,zJQ,zG2,zHG,zK4,ks46,h,hidx])))
 refine ⟨⟨h0,by rw [hln]; exact h1⟩,?_⟩
 (repeat (first | (refine zg ?_) | (refine zW ?_; simp -failIfUnchanged only [zB,zC]) | (refine zf ?_; simp -failIfUnchanged only [zV,zS,zd,zU]) | (refine zY ?_; simp -failIfUnchanged only [zR,zM,zB,zC,reduceIte]) | (refine zT ?_) | ((first | (refine ze polN ks46 _ rfl rfl ?_) | (refine za polN mixed ks46 _ rfl rfl (by kernel_rfl) (by kernel_rfl) ?_)); simp only [])))
 simp only [ya];exact ⟨rfl,rfl,trivial⟩
def bdV (x:BindT):V:=.agg [.at (.int .i64 x.space),.at (.int .i64 x.fto)]
abbrev bdC (out:List BindT):List V:=zo (out.map bdV)
theorem zD8:∀ out:List BindT,(bdC out).length=out.length * 2
 | []=>rfl
 | x::r=>by
  have:=zD8 r;simp only [bdC,List.map_cons,zo,bdV,V.flat,List.length_append,List.length_cons,List.length_nil] at this ⊢;omega
theorem zKw:∀ (out:List BindT) (n:Nat) (y:BindT),n < out.length->bdC (out.set n y)=(bdC out).take (n * 2)++([.at (.int .i64 y.space),.at (.int .i64 y.fto)]++(bdC out).drop (n * 2+2))
 | [],n,y,h=>by cases h
 | x::r,0,y,h=>rfl
 | x::r,n+1,y,h=>by
  have ih:=zKw r n y (by simpa using h);simp only [bdC,List.set_cons_succ,List.map_cons,zo] at ih ⊢;rw [ih,Nat.succ_mul,show n * 2+2+2=(n * 2+2)+2 from rfl];rfl
set_option maxRecDepth 100000 in
theorem zC6 {out:List BindT} {v0 v2 v3 v4 v5:V} {b0 bo cap:Nat} {i sp to_:Int} {s:S} (h:Al.look s.box b0=some ([v0,.at (.slice (some ⟨bo,0,none⟩) out.length cap),v2,v3,v4,v5],6)) (ha:Al.look s.box bo=some (bdC out,cap * 2))
 (hne:bo≠b0) (h0:0<=i) (h1:i < out.length) (hc:out.length<=cap) (hz:IntKind.i64.wrap (to_ - 1)=to_ - 1) :
 FnC Tryz.prog 127 [ptV b0,.at (.int .i64 i),.at (.int .i64 sp),.at (.int .i64 to_)] s fun oc s'=>oc = .ret (.tup [])/\s' = ⟨lay s.box bo (bdC (out.set i.toNat ⟨sp,to_ - 1⟩),cap * 2),s.tg,s.nx,s.ob⟩:=by
 refine yz Tryz.func127 rfl Tryz.ntmps127 Tryz.results127 (by show 4<=18; decide) fun B=>?_;simp only [List.cons_append,List.nil_append,List.append_nil,xg,Nat.reduceAdd];have hne':¬ b0=bo:=fun e=>hne e.symm
 (repeat (first | (refine zg ?_) | (refine zW ?_; simp -failIfUnchanged only [zB,zC]) | (refine zf ?_; simp -failIfUnchanged only [zV,zS,zd,zU]) | (refine zY ?_; simp -failIfUnchanged only [zR,zM,zB,zC,reduceIte]) | (refine zT ?_) | ((first | (refine ze polN zL3 _ rfl rfl ?_) | (refine za polN mixed zL3 _ rfl rfl (by kernel_rfl) (by kernel_rfl) ?_)); simp only [↓zk,↓zt,↓xe,↓zl,↓xG,↓yD,↓qV,↓zFZ,↓z6,zH,xp,zI,zK,zP,zm,yC,zX,yW,zCB,zv,zx,zq,xy,xJ,zj,zp,qS,jc,spl,implies_true,List.map_cons,List.map_nil,and_self,zy,zz,zL,V.flat,List.length_cons,List.length_nil,List.drop_zero,List.drop_succ_cons,List.take_succ_cons,List.take_zero,List.getD_cons_zero,List.getD_cons_succ,Bool.true_and,Bool.and_self,if_true,if_false,true_and,Nat.reduceAdd,Nat.reduceEqDiff,Nat.reduceLeDiff,reduceCtorEq,Bool.false_eq_true,Nat.zero_add,Nat.lt_add_one,hasT44,aggT44,zP6,elT44,hasT47,zQj,zP3,zL3,h,ha,hz,yL])))
 refine zDt (cs:=[.at (.int .i64 0),.at (.int .i64 0)]) (cs':=[.at (.int .i64 sp),.at (.int .i64 (to_ - 1))]) (by kernel_rfl) (by kernel_rfl) (by kernel_rfl) ?_;have hfl:=zD8 out;have hi2:i.toNat * 2+2<=out.length * 2:=by omega
 refine ⟨⟨h0,h1⟩,rfl,rfl,by rw [hfl]; exact hi2,rfl,?_⟩;rw [zKw out i.toNat _ (by omega)];show (⟨lay s.box bo ((List.take (i.toNat * 2) _++[.at (.int .i64 sp),.at (.int .i64 (to_ - 1))])++List.drop (i.toNat * 2+2) _,cap * 2),s.tg,s.nx,s.ob⟩:S)=_;rw [List.append_assoc]
set_option maxRecDepth 100000 in
theorem ok47x {v0 v1 v3 v4 v5:V} {b0:Nat} {o:Option Nat} {s:S} (h:Al.look s.box b0=some ([v0,v1,.at (pO o),v3,v4,v5],6)) :
 FnC Tryz.prog 47 [ptV b0] s fun oc s'=>oc = .ret (.tup [])/\∃ b bp bt,Al.look s.box b=none/\zG s.ob bp=none/\zG s.ob bt=none/\bt≠bp/\s' = ⟨lay (lay s.box b (lcs bp bt o,3)) b0 ([v0,v1,ptV b,v3,v4,v5],6),s.tg,s.nx,(bt,.mp [],[bt])::(bp,.mp [],[bp])::s.ob⟩:=by
 refine yz Tryz.func47 rfl Tryz.ntmps47 Tryz.results47 (by show 1<=14; decide) fun B=>?_;simp only [List.cons_append,List.nil_append,List.append_nil,xg,Nat.reduceAdd];refine ze polN ks47 _ rfl rfl ?_;simp only [↓zFV,↓zM7,↓zDx,zk];refine ⟨trivial,fun bp hbp=>⟨trivial,fun bt hbt=>?_⟩⟩;have hne:bt≠bp:=fun e=>by
  subst e;rw [zJ,if_pos rfl] at hbt;cases hbt
 refine zDt (cs:=[.at (.map none),.at (.map none)]) (cs':=[.at (.map (some bp)),.at (.map (some bt))]) (by kernel_rfl) (by kernel_rfl) (by kernel_rfl) ?_;simp only [↓zk,↓zl,↓yD,↓qV,↓zJ2,↓zFZ,↓z6,zH,xp,zI,zK,zP,zX,zv,zx,zq,xy,zj,zp,implies_true,List.map_cons,List.map_nil,and_self,zy,zz,V.flat,List.length_cons,List.length_nil,List.drop_zero,List.drop_succ_cons,List.take_succ_cons,List.take_zero,List.getD_cons_zero,List.getD_cons_succ,Bool.true_and,Bool.and_self,if_true,if_false,true_and,Nat.reduceAdd,Nat.reduceEqDiff,Nat.reduceLeDiff,reduceCtorEq,Bool.false_eq_true,Nat.zero_add,Nat.lt_add_one,jf,kJ,qx,kg,ks47,h];refine zDt (cs:=[.at (.map none),.at (.map none),.at (.pointer none)]) (cs':=lcs bp bt o) (by kernel_rfl) (by kernel_rfl) (by kernel_rfl) ?_;refine ⟨rfl,fun b hb=>?_⟩;have hbb:¬ b=b0:=fun e=>by rw [e,h] at hb; cases hb
 have hbb':¬ b0=b:=fun e=>hbb e.symm;simp only [xJ,spl,List.cons_append,List.nil_append,and_self,zL,V.isOne,V.flat,List.all_cons,List.all_nil,List.length_cons,List.length_nil,List.drop_zero,List.drop_succ_cons,List.take_succ_cons,List.take_zero,Bool.true_and,Bool.and_self,if_false,true_and,Nat.reduceAdd,Nat.reduceLeDiff,Nat.zero_add,zN,jf,qx,h,hbb];exact ⟨rfl,b,bp,bt,hb,hbp,by rw [zJ,if_neg (fun e=>hne e.symm)] at hbt; exact hbt,hne,rfl⟩
set_option maxRecDepth 100000 in
theorem ok104x {v0 v1 v3 v4 v5:V} {b0 b bp bt:Nat} {o:Option Nat} {s:S} (h:Al.look s.box b0=some ([v0,v1,ptV b,v3,v4,v5],6)) (hb:Al.look s.box b=some (lcs bp bt o,3)) (hne:b≠b0) :
 FnC Tryz.prog 104 [ptV b0] s fun oc s'=>oc = .ret (ptV b)/\s' = ⟨lay s.box b0 ([v0,v1,.at (pO o),v3,v4,v5],6),s.tg,s.nx,s.ob⟩:=by
 refine yz Tryz.func104 rfl Tryz.ntmps104 Tryz.results104 (by show 1<=16; decide) fun B=>?_;simp only [List.cons_append,List.nil_append,List.append_nil,xg,Nat.reduceAdd];have hne':¬ b0=b:=fun e=>hne e.symm;unfold lcs at hb
 (repeat (first | (refine zg ?_) | (refine zW ?_; simp -failIfUnchanged only [zB,zC]) | (refine zf ?_; simp -failIfUnchanged only [zV,zS,zd,zU]) | (refine zY ?_; simp -failIfUnchanged only [zR,zM,zB,zC,reduceIte]) | (refine zT ?_) | ((first | (refine ze polN zLi _ rfl rfl ?_) | (refine za polN mixed zLi _ rfl rfl (by kernel_rfl) (by kernel_rfl) ?_)); simp only [↓zk,↓zt,↓yP,↓zl,↓yD,↓qV,↓z6,zB,zH,xp,zI,zK,zP,zm,zB3,zb,zX,zv,zx,zq,xy,xJ,zj,zp,spl,implies_true,List.cons_append,List.nil_append,and_self,zy,zz,zL,V.isOne,V.flat,List.all_cons,List.all_nil,List.length_cons,List.length_nil,List.drop_zero,List.drop_succ_cons,List.take_succ_cons,List.take_zero,List.take_nil,List.getD_cons_zero,List.getD_cons_succ,Bool.true_and,Bool.and_self,if_true,if_false,true_and,Nat.reduceAdd,Nat.reduceEqDiff,Nat.reduceLeDiff,reduceCtorEq,Bool.false_eq_true,Nat.zero_add,Nat.le_refl,Nat.lt_add_one,jf,kJ,qx,kg,zBx,zLi,h,hb])))
 simp only [ya];exact ⟨rfl,rfl,trivial⟩
end
section
open Go.Al Go.Den Go.RowKit Go.Shelf
attribute [local go_sem] Oper.semAt_some
def qt (n k:Nat):List (Fin n):=(List.finRange n).reverse.take k
theorem zBa (n k m:Nat) (h:m+k+1=n):qt n (k+1)=qt n k++[⟨m,by omega⟩]:=by
 unfold qt;rw [List.take_succ_eq_append_getElem (by simp; omega)];congr 2;rw [List.getElem_reverse];apply Fin.ext;simp;omega
theorem zEI (n k:Nat) (h:k<=n):(qt n k).length=k:=by simp [qt,h]
def KpB (Bs b n:Nat) (A B:World):Prop:=(∀ v,A.cell? ⟨Bs,0,none⟩=some v->B.cell? ⟨Bs,0,none⟩=some v)/\∀ j v,j < n->A.cell? ⟨b,j,none⟩=some v->B.cell? ⟨b,j,none⟩=some v
theorem KpB.refl (Bs b n:Nat) (A:World):KpB Bs b n A A:=⟨fun _ h=>h,fun _ _ _ h=>h⟩
theorem KpB.trans {Bs b n:Nat} {A B C:World} (h:KpB Bs b n A B) (k:KpB Bs b n B C):KpB Bs b n A C:=⟨fun v e=>k.1 v (h.1 v e),fun j v hj e=>k.2 j v hj (h.2 j v hj e)⟩
theorem KpB.put {Bs b n:Nat} (W:World) (l:Nat) (o o':Obj) (hl:W.heap[l]? = some o) (ho:o.isCells=false):KpB Bs b n W (W.putObj l o'):=by
 have key:∀ b j v,W.cell? ⟨b,j,none⟩=some v->(W.putObj l o').cell? ⟨b,j,none⟩=some v:=fun b j v e=>by
  refine (World.cell?_of_block (World.putObj_heap_other ?_)).trans e;intro e2;have e2:b=l:=e2;subst e2;unfold World.cell? at e;simp only [hl] at e;cases o <;> first | (cases ho; done) | (cases e; done) | (simp at e; done)
 exact ⟨fun v e=>key _ _ _ e,fun j v _ e=>key _ _ _ e⟩
set_option maxRecDepth 100000 in
set_option maxHeartbeats 2000000 in
theorem zNz (F:Fence) (n:Nat) (h8:F.fn 129) (hro:F.round=none) (hn:1<=n) (l Bs b cap:Nat) (bs:List Nat) (hreach:bs.length < 1000000) (J Jx:List (Fin bs.length)->World->Prop)
 (hY:∀ pre x W,J pre W->pre.length < bs.length->YieldAt F (n - 1) Tryz.prog l #[.int .i64 (x.1:Int),.map (some (bs[x.1]?.getD 0))] W fun e W'=>
  (e = .returned (.bool true)/\J (pre++[x]) W'/\KpB Bs b bs.length W W')\/(e = .returned (.bool false)/\Jx (pre++[x]) W'))
 (W:World) (hBs:W.cell? ⟨Bs,0,none⟩=some (.slice (some ⟨b,0,none⟩) bs.length cap)) (hc:∀ j,j < bs.length->W.cell? ⟨b,j,none⟩=some (.map (some (bs[j]?.getD 0)))) (h0:J [] W) :
 CallsIn F n Tryz.prog 129 #[.func (.yield l) #[] #[],.pointer (some ⟨Bs,0,none⟩)] W fun e W'=>(∃ v,e = .returned v) /\
  ((∃ ys,ys=qt bs.length bs.length/\J ys W')\/(∃ pre,(∃ k,k<=bs.length/\pre=qt bs.length k)/\Jx pre W')):=by
 refine callsIn_of_wp Tryz.func129 rfl h8 ?_ hro;simp only [Tryz.ntmps129,List.size_toArray,List.length_cons,List.length_nil,Nat.reduceAdd,Nat.reduceSub,Array.replicate_succ,Array.replicate_zero,List.push_toArray,List.append_toArray,List.nil_append,List.cons_append];have hsub:IntKind.i64.wrap ((bs.length:Int) - 1)=(bs.length:Int) - 1:=IntWalk.i64_in _ (by omega);gi_wp2
 gi_loopw [3] (fun i wr=>∃ k:Nat,k<=bs.length/\i = .int .i64 ((bs.length:Int) - 1 - k)/\J (qt bs.length k) wr/\KpB Bs b bs.length W wr)
  (fun i _=>(intOf i+1).toNat)
 case atStart=>exact ⟨0,Nat.zero_le _,by simp,h0,KpB.refl _ _ _ _⟩
 case round=>
  obtain ⟨k,hk,rfl,hJs,hnx⟩:=hrel;have hBs':=hnx.1 _ hBs;by_cases hlt:k < bs.length
  . obtain ⟨m,hm⟩:∃ m:Nat,m+k+1=bs.length:=⟨bs.length - 1 - k,by omega⟩;have hcx:=hnx.2 m _ (by omega) (hc m (by omega));have ei:(bs.length:Int) - 1 - (k:Int)=(m:Int):=by omega
    rw [ei];obtain ⟨fn,tmps,assign,body,hy,hR⟩:=hY _ ⟨m,by omega⟩ wr hJs (by rw [zEI _ _ hk]; exact hlt);dsimp only at hy;have hlt2:(m:Int) < (bs.length:Int):=by omega
    have hge2:¬ ((m:Int) < 0):=by omega
    gi_wp2;refine hR.mono ?_;have hm':m=bs.length - 1 - k:=by omega
    rintro e W3 (⟨rfl,hJ3,hk3⟩ | ⟨rfl,hJx3⟩)
    . have hsub3:IntKind.i64.wrap ((m:Int) - 1)=(m:Int) - 1:=IntWalk.i64_in _ (by omega);gi_wp2;go_roundw
      case rel=>exact ⟨k+1,by omega,by congr 1; omega,by rw [zBa _ _ _ hm]; exact hJ3,hnx.trans hk3⟩
      case measure=>simp [intOf]; omega
    . gi_wp2;refine bodyPost_ret (results_none rfl _ _ _) rfl ?_;exact ⟨⟨_,rfl⟩,.inr ⟨_,⟨k+1,by omega,(zBa _ _ _ hm).symm⟩,hJx3⟩⟩
  . obtain rfl:k=bs.length:=by omega
    gi_wp2;go_end0;exact ⟨⟨_,rfl⟩,.inl ⟨_,rfl,hJs⟩⟩
set_option maxHeartbeats 1000000 in
theorem zPh (F:Fence) (n:Nat) (h5:F.fn 109) (hro:F.round=none) (a:Option Addr) (len cap:Nat) (w:World) :
 CallsIn F n Tryz.prog 109 #[.slice a len cap] w fun e w'=>e = .returned (.func (.func 129) #[] #[.pointer (some ⟨w.heap.size,0,none⟩)])/\w' = w.alloc (.cells #[.slice a len cap] 64):=by
 refine callsIn_of_wp Tryz.func109 rfl h5 ?_ hro;simp only [Tryz.ntmps109,List.size_toArray,List.length_cons,List.length_nil,Nat.reduceAdd,Nat.reduceSub,Array.replicate_succ,Array.replicate_zero,List.push_toArray,List.append_toArray,List.nil_append,List.cons_append];gi_wp2;go_ret;exact ⟨rfl,rfl⟩
theorem zLo (F:Fence) (n:Nat) (h8:F.fn 129) (hro:F.round=none) (hn:1<=n) (Bs b cap:Nat) (bs:List Nat) (hreach:bs.length < 1000000) (w:World) (hB:Bs < w.heap.size) (hb:b < w.heap.size)
 (hc:w.cell? ⟨Bs,0,none⟩=some (.slice (some ⟨b,0,none⟩) bs.length cap)) (hI:∀ j,j < bs.length->w.cell? ⟨b,j,none⟩=some (.map (some (bs[j]?.getD 0)))) :
 SeqStopsK F n Tryz.prog 129 #[.pointer (some ⟨Bs,0,none⟩)] (fun x:Fin bs.length=>#[Value.int .i64 (x.1:Int),Value.map (some (bs[x.1]?.getD 0))]) (KpB Bs b bs.length) (fun ys=>ys=qt bs.length bs.length)
  (fun pre=>∃ k,k<=bs.length/\pre=qt bs.length k) bs.length w:=fun l J Jx W hW _ _ hY h0=>
 zNz F n h8 hro hn l Bs b cap bs hreach J Jx hY W ((hW.cell (p:=⟨Bs,0,none⟩) hB).trans hc) (fun j hj=>(hW.cell (p:=⟨b,j,none⟩) hb).trans (hI j hj)) h0
end
section
open Go.Al Go.Den Go.RowKit Go.Shelf
attribute [local go_sem] Oper.semAt_some
attribute [local congr] ym xO xT xn yO yq yF yE yn xM yo xW yw yk yB yK yg xZ xU yS xL yj yU yR yr yu yV yl yh yY xm xY xV xK xP xN yi yX yT
def kX (nm:Str):List MT->Bool
 | []=>false
 | m::r=>match qQ m nm with
  | some n=>if n≠0 then n == 2 else kX nm r
  | none=>kX nm r
noncomputable def c76 (c85:Int×Unit->MM (Bool×Unit)) (a:Int×Unit):MM (Bool×Unit):=fun l s=>
 match c85 a l s with
 | some (some y)=>if y.2=s/\s.2.length < 1000000/\(y.1.1=true->0<=s.1/\0<=a.1/\s.1+a.1 < l.length/\l.length < 1000000) then
  some (some ((y.1.1 && kX (l.getD (s.1+a.1).toNat tokD).text s.2.reverse,()),s)) else none
 | _=>none
theorem cM_use {P:Program} {f:Nat} {aa rs:LK} {m:zA aa->MM (zA rs)} (h:CPOk CC P syn f (cM aa rs m)) {l:List TokT} {i:Int} {xs:List MT} {a:zA aa} {y:zA rs×PSt} (hm:m a l (i,xs)=some (some y)) {s:S} {vx va:List V} {r1 r2:List Res}
 (h1:VKs CC s [parK] ((l,i,xs,(),()),()) vx r1) (h2:VKs CC s aa a va r2) (h3:(r1++r2).Nodup):FnC P f (vx++va) (subS s (r1++r2)) (qa CC syn [parK] rs vx (some (((l,y.2.1,y.2.2,(),()),()),y.1))):=by
 obtain ⟨oc,k1,k2⟩:=h ((l,i,xs,(),()),()) a (R:=(zA ([parK]:LK)×zA rs)) none (fun u v=>some (u,v)) (((l,y.2.1,y.2.2,(),()),()),y.1) (by
  have e:fM m ((l,i,xs,(),()),()) a (none:Option (zA ([parK]:LK)×zA rs)) (fun u v=>some (u,v))=some (((l,y.2.1,y.2.2,(),()),()),y.1):=by simp only [fM,hm]; rfl
  exact e)
 cases oc with
 | none=>cases k1
 | some y'=>
  injection k1 with k1
  have:=k2 s vx va r1 r2 h1 h2 h3;rw [show y' = (((l,y.2.1,y.2.2,(),()),()),y.1) from k1] at this;exact this
theorem Inv.refr {B:Nat} {wm:Nat->Nat} {tb:Nat->Option (Option (Nat×Nat×Nat×Nat))} {f1 f2:Fr} {st:S} {w:World} (h:Al.Inv B ⟨wm,tb,f1⟩ st w)
 (h1:∀ b,f2 b=true->b < w.heap.size/\Al.look st.box b=none/\∀ t ∈ st.tg,∀ d,tb t=some (some (b,d))->False) (h2:∀ b o fp,zG st.ob b=some (o,fp)->∀ j ∈ fp,f2 j=false) (h3:f2.t=f1.t):Al.Inv B ⟨wm,tb,f2⟩ st w:=by
 have hl:Later ⟨wm,tb,f1⟩ w ⟨wm,tb,f2⟩ w:=⟨fun _=>Nat.le_refl _,fun _ _ e=>e,fun _ _ _=>rfl⟩;refine ⟨h.base,fun b cs k hb=>?_,h.tag,h.own,h.dist,h.nodup,h.fresh,h.names,h1,fun b o fp hb=>?_,h.ex.obd,fun t ht=>h.ex.ft t (by show f1.t t=true; rw [<- h3]; exact ht)⟩
 . obtain ⟨q1,q2,q3,q4,arr,el,us,q5,q6,q7,q8⟩:=h.box b cs k hb;exact ⟨q1,q2,q3,q4,arr,el,us,q5,q6,z8 hl _ _ q7,q8⟩
 . obtain ⟨q1,q2,q3⟩:=h.ex.ob b o fp hb;refine ⟨q1.local hl (fun _ _=>rfl),q2,fun j hj=>?_⟩;obtain ⟨r1,r2,r3,r4,r5,r6⟩:=q3 j hj;exact ⟨r1,r2,r3,r4,r5,h2 b o fp hb j hj⟩
theorem Inv.but {B:Nat} {g:Gh} {st:S} {w w':World} (h:Al.Inv B g st w) (k:Nat) (h1:Al.look st.box k=none) (h2:∀ t ∈ st.tg,∀ d,g.tb t=some (some (k,d))->False) (h3:∀ b o fp,zG st.ob b=some (o,fp)->k ∉ fp) (h4:g.wm k=0)
 (hs:w.heap.size<=w'.heap.size) (hb:∀ j,j < w.heap.size->j≠k->w'.heap[j]? = w.heap[j]?):Al.Inv B g st w'/\Later g w g w':=by
 have hl:Later g w g w':=⟨fun _=>Nat.le_refl _,fun _ _ e=>e,fun b o ho=>by
  refine World.cell?_of_block (hb b ?_ ?_)
  . rcases Nat.lt_or_ge b w.heap.size with hh | hh
    . exact hh
    . rw [h.fresh b hh] at ho; omega
  . intro e; subst e; rw [h4] at ho; omega⟩
 have lt:∀ {b:Nat} {o:Obj},w.heap[b]? = some o->b < w.heap.size:=fun hh=>(Array.getElem?_eq_some_iff.1 hh).1;refine ⟨⟨Nat.le_trans h.base hs,fun b cs k' hb'=>?_,h.tag,fun t ht b cap n sz hbb=>?_,h.dist,h.nodup,fun b hb'=>h.fresh b (Nat.le_trans hs hb'),h.names,fun b hf=>?_,fun b o fp hb'=>?_,h.ex.obd,h.ex.ft⟩,hl⟩
 . obtain ⟨q1,q2,q3,q4,arr,el,us,q5,q6,q7,q8⟩:=h.box b cs k' hb';have hne:b≠k:=fun e=>by subst e; rw [h1] at hb'; cases hb'
   exact ⟨q1,q2,q3,q4,arr,el,us,(hb b (lt q5) hne).trans q5,q6,z8 hl _ _ q7,q8⟩
 . obtain ⟨q1,q2,q3,q4,q5,arr,el,q6,q7⟩:=h.own t ht b cap n sz hbb;have hne:b≠k:=fun e=>by subst e; exact h2 t ht _ hbb
   exact ⟨q1,q2,q3,q4,q5,arr,el,(hb b (lt q6) hne).trans q6,q7⟩
 . obtain ⟨q1,q2⟩:=h.ex.frz b hf;exact ⟨Nat.lt_of_lt_of_le q1 hs,q2⟩
 . obtain ⟨q1,q2,q3⟩:=h.ex.ob b o fp hb';refine ⟨q1.local hl (fun j hj=>hb j (q3 j hj).2.1 (fun e=>by subst e; exact h3 b o fp hb' hj)),q2,fun j hj=>?_⟩;obtain ⟨r1,r2,r3⟩:=q3 j hj;exact ⟨r1,Nat.lt_of_lt_of_le r2 hs,r3⟩
theorem zNC {P:Program} {f:FuncId} {args:List V} {s0:S} {Q:Outc->S->Prop} (H:FnC P f args s0 Q) {B:Nat} {g:Gh} {w W3:World} (hi:Al.Inv B g s0 w) (hgl:GlobOk B g.wm w) {vs:List Value} (hv:RVs g w args vs) (hb:Below w.heap.size w W3) :
 Calls P f vs.toArray W3 fun e W4=>∃ g4 s4,Step B g w g4 W4/\Al.Inv B g4 s4 W4/\W3.heap.size<=W4.heap.size/\(∀ j,w.heap.size<=j->j < W3.heap.size->W4.heap[j]? = W3.heap[j]?/\Al.look s4.box j=none/\g4.wm j=0/\(∀ t ∈ s4.tg,∀ d,g4.tb t=some (some (j,d))->False)/\(∀ b o fp,zG s4.ob b=some (o,fp)->j ∉ fp)) /\
  match e with
  | .returned v=>∃ r,RV g4 W4 r v/\Q (.ret r) s4
  | .panicked c=>Q (.pan c) s4
  | .outgrown=>False:=by
 obtain ⟨wm,tb,fr⟩:=g;have hl:Later ⟨wm,tb,fr⟩ w ⟨wm,tb,fr⟩ W3:=⟨fun _=>Nat.le_refl _,fun _ _ e=>e,fun b o ho=>by
  refine World.cell?_of_block (hb.block b ?_);rcases Nat.lt_or_ge b w.heap.size with hh | hh
  . exact hh
  . rw [hi.fresh b hh] at ho; omega⟩
 have lt:∀ {b:Nat} {o:Obj},w.heap[b]? = some o->b < w.heap.size:=fun hh=>(Array.getElem?_eq_some_iff.1 hh).1;have hi3:Al.Inv B ⟨wm,tb,fr⟩ s0 W3:=hi.grow hl hb.size (fun b h=>hb.block b h) (fun _ _=>rfl) (fun b h=>hi.fresh b (Nat.le_trans hb.size h)) rfl rfl;obtain ⟨fr3,hfr3⟩:∃ fr3:Fr,fr3=⟨fun b=>fr b || (decide (w.heap.size<=b) && decide (b < W3.heap.size)),fr.t⟩:=⟨_,rfl⟩;have hf3:∀ b,fr3 b=true↔(fr b=true\/(w.heap.size<=b/\b < W3.heap.size)):=fun b=>by
  rw [hfr3]; show (fr b || _)=true↔_;simp
 have hi4:Al.Inv B ⟨wm,tb,fr3⟩ s0 W3:=by
  refine Inv.refr hi3 (fun b h=>?_) (fun b o fp h j hj=>?_) (by rw [hfr3])
  . rcases (hf3 b).1 h with h | ⟨h,h'⟩
    . exact hi3.ex.frz b h
    . refine ⟨h',?_,fun t ht d hd=>?_⟩
      . cases e:Al.look s0.box b with
        | none=>rfl
        | some c=>
         obtain ⟨cs,k⟩:=c;obtain ⟨_,_,_,_,arr,el,us,h5,_⟩:=hi.box b cs k e;have:=lt h5; omega
      . obtain ⟨d1,d2,d3⟩:=d;obtain ⟨_,_,_,_,_,arr,el,h5,_⟩:=hi.own t ht b d1 d2 d3 hd;have:=lt h5; omega
  . cases e:fr3 j with
    | false=>rfl
    | true=>
     obtain ⟨q1,q2,q3⟩:=hi.ex.ob b o fp h;obtain ⟨r1,r2,r3,r4,r5,r6⟩:=q3 j hj;rcases (hf3 j).1 e with h | ⟨h,_⟩
     . rw [show fr j=false from r6] at h; cases h
     . omega
 refine (H B ⟨wm,tb,fr3⟩ W3 vs hi4 (hgl.below (Below.mono hb hi.base) (fun _=>Nat.le_refl _)) (hv.later (g':=⟨wm,tb,fr3⟩) ⟨hl.wm,hl.tb,hl.cell⟩)).mono ?_;rintro e W4 ⟨⟨wm4,tb4,fr4⟩,s4,h1,h2,h3⟩;have e4:fr4=fr3:=h1.fr;subst e4;have hl4:Later ⟨wm4,tb4,fr4⟩ W4 ⟨wm4,tb4,fr⟩ W4:=⟨fun _=>Nat.le_refl _,fun _ _ e=>e,fun _ _ _=>rfl⟩;have hsub:∀ b,fr b=true->fr4 b=true:=fun b h=>(hf3 b).2 (.inl h);refine ⟨⟨wm4,tb4,fr⟩,s4,⟨⟨fun b=>h1.later.wm b,fun t d e=>h1.later.tb t d e,fun b o ho=>(h1.later.cell b o ho).trans (hl.cell b o ho)⟩,(Below.mono hb hi.base).trans h1.below,fun b h=>?_,fun b h=>h1.wmB b h,rfl⟩,
  Inv.refr h2 (fun b h=>h2.ex.frz b (hsub b h)) (fun b o fp h j hj=>?_) (by rw [hfr3]),h1.below.size,fun j h5 h6=>?_,?_⟩
 . obtain ⟨k1,k2⟩:=h1.fz b (hsub b h);exact ⟨k1.trans (hb.block b (hi.ex.frz b h).1),k2⟩
 . cases e:fr j with
   | false=>rfl
   | true=>
    have:=((h2.ex.ob b o fp h).2.2 j hj).2.2.2.2.2;rw [show fr4 j=true from hsub j e] at this; cases this
 . have h7:=(hf3 j).2 (.inr ⟨h5,h6⟩);obtain ⟨k1,k2⟩:=h1.fz j h7;obtain ⟨k3,k4,k5⟩:=h2.ex.frz j h7;refine ⟨k1,k4,k2.trans (hi.fresh j h5),k5,fun b o fp h hj=>?_⟩;have:=((h2.ex.ob b o fp h).2.2 j hj).2.2.2.2.2;rw [show fr4 j=true from h7] at this; cases this
 . cases e with
   | returned v=>obtain ⟨r,q1,q2⟩:=h3; exact ⟨r,q1.later hl4,q2⟩
   | panicked c=>exact h3
   | outgrown=>exact h3
theorem Inv.but' {B:Nat} {g:Gh} {st:S} {w w':World} (h:Al.Inv B g st w) (K:Nat->Prop) (hK:∀ k,K k->Al.look st.box k=none/\(∀ t ∈ st.tg,∀ d,g.tb t=some (some (k,d))->False)/\g.wm k=0)
 (hs:w.heap.size<=w'.heap.size) (hb:∀ j,j < w.heap.size->¬ K j->w'.heap[j]? = w.heap[j]?) (ho:Later g w g w'->∀ b o fp,zG st.ob b=some (o,fp)->OMem g w' b o fp):Al.Inv B g st w'/\Later g w g w':=by
 have hl:Later g w g w':=⟨fun _=>Nat.le_refl _,fun _ _ e=>e,fun b o ho=>by
  refine World.cell?_of_block (hb b ?_ ?_)
  . rcases Nat.lt_or_ge b w.heap.size with hh | hh
    . exact hh
    . rw [h.fresh b hh] at ho; omega
  . intro e; rw [(hK b e).2.2] at ho; omega⟩
 have lt:∀ {b:Nat} {o:Obj},w.heap[b]? = some o->b < w.heap.size:=fun hh=>(Array.getElem?_eq_some_iff.1 hh).1;refine ⟨⟨Nat.le_trans h.base hs,fun b cs k' hb'=>?_,h.tag,fun t ht b cap n sz hbb=>?_,h.dist,h.nodup,fun b hb'=>h.fresh b (Nat.le_trans hs hb'),h.names,fun b hf=>?_,fun b o fp hb'=>?_,h.ex.obd,h.ex.ft⟩,hl⟩
 . obtain ⟨q1,q2,q3,q4,arr,el,us,q5,q6,q7,q8⟩:=h.box b cs k' hb';have hne:¬ K b:=fun e=>by have:=(hK b e).1; rw [this] at hb'; cases hb'
   exact ⟨q1,q2,q3,q4,arr,el,us,(hb b (lt q5) hne).trans q5,q6,z8 hl _ _ q7,q8⟩
 . obtain ⟨q1,q2,q3,q4,q5,arr,el,q6,q7⟩:=h.own t ht b cap n sz hbb;have hne:¬ K b:=fun e=>(hK b e).2.1 t ht _ hbb;exact ⟨q1,q2,q3,q4,q5,arr,el,(hb b (lt q6) hne).trans q6,q7⟩
 . obtain ⟨q1,q2⟩:=h.ex.frz b hf;exact ⟨Nat.lt_of_lt_of_le q1 hs,q2⟩
 . obtain ⟨q1,q2,q3⟩:=h.ex.ob b o fp hb';refine ⟨ho hl b o fp hb',q2,fun j hj=>?_⟩;obtain ⟨r1,r2,r3⟩:=q3 j hj;exact ⟨r1,Nat.lt_of_lt_of_le r2 hs,r3⟩
theorem zAx {g:Gh} {w:World}:∀ {c:MT} {es:List MapEntry},MapR g w (trMC c) es->∀ g' w',MapR g' w' (trMC c) es
 | [],_,h,_,_=>h
 | (k,z)::r,_,⟨e,es',h1,h2,h3,h4⟩,g',w'=>by
  refine ⟨e,es',h1,h2,?_,zAx h4 g' w'⟩;obtain ⟨us,q1,q2⟩:=h3;simp only [RC] at q1;exact ⟨us,by simp only [RC]; exact q1,q2⟩
theorem zCK {P:Program} {fn:Func} {p:Nat} {t:TypeId} {tmps:Array Value} {b:Nat} {r:Bool} {w:World} (h:fn.results = #[.cell p t]) (hp:tmps.getD p undef = .pointer (some ⟨b,0,none⟩)) (hf:fits P t (.at (.bool r))) (hc:w.cell? ⟨b,0,none⟩=some (.bool r)) :
 (results fn tmps).run P w = .ok (.bool r) w:=by
 have hl:=zCI (g:=⟨fun _=>0,fun _=>none,Fr.no⟩) (w:=w) (b:=b) (o:=0) (ds:=[.bool r]) hf (by simp [RC,one]) (fun k u hk=>by
  cases k with
  | zero=>simp at hk; subst hk; exact hc
  | succ k=>simp at hk)
 have hm:(fn.results.toList.mapM (zAD ({ tmps:=tmps,defers:=[] }:Act).tmps)).run P w = .ok [.bool r] w:=by
  rw [h];simp only [List.mapM_cons,List.mapM_nil,Sem.run_bind,zAD,hp,asAddr,Sem.run_pure,Result.andThen_ok,hl];rfl
 exact js (a:={ tmps:=tmps,defers:=[] }) hm
theorem zHy {g:Gh} {w:World} {g':Gh} {w':World}:∀ {bs:List Nat} {xs:List MT},MMems g w bs (xs.map trMC)->(∀ j ∈ bs,w'.heap[j]? = w.heap[j]?)->MMems g' w' bs (xs.map trMC)
 | [],xs,h,_=>h
 | b::bs,[],⟨c,cs,h1,_,_⟩,_=>by cases h1
 | b::bs,x::xs,⟨c,cs,h1,⟨arr,clock,h2,h3⟩,h4⟩,hh=>by
  injection h1 with h1 h5
  subst h1; subst h5;exact ⟨_,_,rfl,⟨arr,clock,(hh b (by simp)).trans h2,zAx h3 _ _⟩,zHy h4 fun j hj=>hh j (by simp [hj])⟩
theorem zFi {g:Gh} {w:World} {g':Gh} {w':World}:∀ {bs:List Nat} {xs:List MT},bs.length=xs.length->(∀ (i j:Nat) (c:MT),bs[i]? = some j->xs[i]? = some c->∃ (arr:Array MapEntry) (clock:Nat),w'.heap[j]? = some (Obj.map arr clock)/\∀ g w,MapR g w (trMC c) arr.toList)->MMems g' w' bs (xs.map trMC)
 | [],[],_,_=>rfl
 | [],_::_,h,_=>by simp at h
 | _::_,[],h,_=>by simp at h
 | b::bs,x::xs,h,hh=>by
  obtain ⟨arr,clock,h1,h2⟩:=hh 0 b x rfl rfl;exact ⟨_,_,rfl,⟨arr,clock,h1,h2 _ _⟩,zFi (g:=g) (w:=w) (by simpa using h) fun i j c h3 h4=>hh (i+1) j c (by simpa using h3) (by simpa using h4)⟩
theorem zHM {g:Gh} {w:World}:∀ {bs:List Nat} {xs:List MT},MMems g w bs (xs.map trMC)->∀ (i j:Nat) (c:MT),bs[i]? = some j->xs[i]? = some c->∃ (arr:Array MapEntry) (clock:Nat),w.heap[j]? = some (Obj.map arr clock)/\∀ g w,MapR g w (trMC c) arr.toList
 | [],_,_,_,_,_,h,_=>by simp at h
 | b::bs,[],⟨c,cs,h1,_,_⟩,_,_,_,_,_=>by cases h1
 | b::bs,x::xs,⟨c,cs,h1,⟨arr,clock,h2,h3⟩,h4⟩,i,j,d,e1,e2=>by
  injection h1 with h1 h5
  subst h1; subst h5;cases i with
  | zero=>simp at e1 e2; subst e1; subst e2; exact ⟨arr,clock,h2,zAx h3⟩
  | succ i=>exact zHM h4 i j d (by simpa using e1) (by simpa using e2)
theorem zKc {W:World} {k:Nat} {v u:Value} {t:TypeId} {m:Nat×Nat} (h:W.heap[k]? = some (.cells #[v] t m)):(W.setCell ⟨k,0,none⟩ u).heap[k]? = some (.cells #[u] t m):=by
 obtain ⟨hlt,hk⟩:=Array.getElem?_eq_some_iff.1 h;show (W.heap.modify k _)[k]? = _;rw [Array.getElem?_eq_getElem (by rw [Array.size_modify]; exact hlt),Array.getElem_modify_self,hk];rfl
def zfM (nm:Str) (m:MT):Int:=(qQ m nm).getD 0
theorem zDs (nm:Str) (m:MT) (r:List MT):kX nm (m::r)=if zfM nm m≠0 then zfM nm m == 2 else kX nm r:=by
 show (match qQ m nm with | some n=>if n≠0 then n == 2 else kX nm r | none=>kX nm r)=_;unfold zfM;cases qQ m nm <;> simp
theorem zGs {nm:Str}:∀ {r:List MT},(∀ m ∈ r,zfM nm m=0)->kX nm r=false
 | [],_=>rfl
 | m::r,h=>by rw [zDs,if_neg (by simp [h m]),zGs fun m hm=>h m (by simp [hm])]
theorem zHk {nm:Str} {m:MT} {r:List MT}:∀ {p:List MT},(∀ m ∈ p,zfM nm m=0)->zfM nm m≠0->kX nm (p++m::r)=(zfM nm m == 2)
 | [],_,h=>by rw [List.nil_append,zDs,if_pos h]
 | q::p,hp,h=>by rw [List.cons_append,zDs,if_neg (by simp [hp q]),zHk (fun m hm=>hp m (by simp [hm])) h]
theorem zJv (xs:List MT) (n:Nat) (h:n=xs.length):xs.reverse=(List.finRange n).reverse.map fun x=>xs[x.1]?.getD []:=by
 subst h;rw [List.map_reverse];congr 1;apply List.ext_getElem
 . simp
 . intro i h1 h2;simp
theorem zCS {st5:S} {bj:Nat} {c:MT} {fp:List Nat} {s:Str} (l2:zG st5.ob bj=some (.mp (trMC c),fp)) {K:V->Prop} (hK:K (.at (.int .i64 ((qQ c s).getD 0)))):jx Tryz.prog st5 63 (.at (.map (some bj))) (.at (.string ⟨s.toArray⟩)) false K:=by
 have h1:mapT Tryz.prog 63=some 3:=by kernel_rfl
 have h2:kH Tryz.prog 3=some (.int .i64 0):=by kernel_rfl
 unfold jx;simp only [h1,h2,l2,zKm];refine ⟨rfl,?_⟩;cases h:qQ c s with
 | none=>rw [h] at hK; exact hK
 | some z=>rw [h] at hK; exact hK
def zBc:Nat->List Nat:=fun _=>[2,3,4,6,7,35]
theorem zDg {l n:Nat} {c:Code} {P:Program} {Q:Exit->Act->World->Prop} {a:Act} {w:World} (h:c.wpIn (fen (some l)) 0 P Q a w):c.wpIn (Fence.wide.inRound l) n P Q a w:=
 fun b k cs h1 h2 _=>h b k cs h1 h2 (room_wide _)
structure IsI (W5 W:World) (bs:List Nat) (xs:List MT) (k2:Nat) (r:Bool):Prop where
 below:Below 0 W5 W
 blk:∀ b,b < W5.heap.size->b ∉ bs->b≠k2->W.heap[b]? = W5.heap[b]?
 mp:∀ (i j:Nat) (c:MT),bs[i]? = some j->xs[i]? = some c->∃ (arr:Array MapEntry) (clock:Nat),W.heap[j]? = some (Obj.map arr clock)/\∀ g w,MapR g w (trMC c) arr.toList
 res:∃ t,W.heap[k2]? = some (.cells #[.bool r] t (0,0))
theorem IsI.set {W5 W:World} {bs:List Nat} {xs:List MT} {k2:Nat} {r:Bool} (h:IsI W5 W bs xs k2 r) (hk:k2 ∉ bs) (r':Bool):IsI W5 (W.setCell ⟨k2,0,none⟩ (.bool r')) bs xs k2 r':=by
 have hoth:∀ j,j≠k2->(W.setCell ⟨k2,0,none⟩ (.bool r')).heap[j]? = W.heap[j]?:=fun j hj=>Below.heap_setCell _ _ _ j hj;refine ⟨h.below.setCell (p:=⟨k2,0,none⟩) (Nat.zero_le _) _,fun b h1 h2 h3=>(hoth b h3).trans (h.blk b h1 h2 h3),fun i j c e1 e2=>?_,h.res.imp fun t e=>zKc e⟩;obtain ⟨arr,ck,q1,q2⟩:=h.mp i j c e1 e2;exact ⟨arr,ck,(hoth j (fun e=>hk (by rw [<- e]; exact List.mem_of_getElem? e1))).trans q1,q2⟩
theorem IsI.grown {W5 A C:World} {bs:List Nat} {xs:List MT} {k2:Nat} {r:Bool} (h:IsI W5 A bs xs k2 r) (hl:bs.length=xs.length) (h1:∀ j ∈ bs,j < W5.heap.size) (h2:k2 < W5.heap.size) {row:Option Nat} (hg:A.grownBy C row) (hr:∀ k,row=some k->W5.heap.size<=k/\∃ o:Obj,A.heap[k]? = some o/\o.isCells=false):IsI W5 C bs xs k2 r:=by
 have hsz:=h.below.size;have key:∀ b,b < W5.heap.size->C.heap[b]? = A.heap[b]?:=fun b hb=>hg.block b (by omega) (fun e=>by have:=(hr b e.symm).1; omega);refine ⟨h.below.trans (Below.grown (Below.refl 0 A) hg (Nat.zero_le _) (fun k e=>Nat.zero_le _)),fun b hb q1 q2=>(key b hb).trans (h.blk b hb q1 q2),fun i j c q1 q2=>?_,h.res.imp fun t e=>(key k2 h2).trans e⟩;obtain ⟨arr,clock,q3,q4⟩:=h.mp i j c q1 q2;exact ⟨arr,clock,(key j (h1 j (List.mem_of_getElem? q1))).trans q3,q4⟩
def zEe:Code->Option Code
 | .seq a b=>(zEe a).or (zEe b)
 | .block _ c=>zEe c
 | .rangeFunc _ _ _ b=>some b
 | _=>none
set_option maxRecDepth 100000 in
theorem zQk (B l' n2 len':Nat) (b':Nat) (i far:Int) (cap':Nat) (m':Option Nat) (es:List V) (bs:List Nat) (bj:Nat) (xs:List MT) (c:MT) (nm:Str) (tk:TokT) (st5:S)
 (hi1:0<=i+far) (hll:i+far < (es.length:Int)) (hadd:IntKind.i64.wrap (i+far)=i+far)
 (hidx:es.getD (i+far).toNat .any = .agg [.at (.int .i64 tk.kind),.at (.string ⟨tk.text.toArray⟩),.at (.int .i64 tk.file),.at (.int .i64 tk.ffrom),.at (.int .i64 tk.fto),.at (.bool tk.blank)]) (hnmD:nm=tk.text)
 (l1:Al.look st5.box n2=some ([.at (.bool false)],1)) (l2:zG st5.ob bj=some (.mp (trMC c),[bj])) (l3:st5.ob=mps bs (xs.map trMC)) :
 awp Tryz.prog ⟨B,⟨38,[]⟩,some l',[]⟩ ((zEe (zZ Tryz.f76)).getD .skip) (fun ex e' s'=>(ex = .normal/\(qQ c nm).getD 0=0/\Al.look s'.box n2=some ([.at (.bool false)],1)/\s'.ob=mps bs (xs.map trMC))\/(ex = .ret/\(qQ c nm).getD 0≠0/\Al.look s'.box n2=some ([.at (.bool ((qQ c nm).getD 0 == 2))],1)/\s'.ob=mps bs (xs.map trMC)))
  [(2,.rptr (.rptr (.agg [.lst (zw es) es,.at (.int .i64 i),.at (.slice (some ⟨b',0,none⟩) len' cap'),.at (.map m')]))),(3,.rptr (.at (.int .i64 far))),(4,.at (.pointer (some ⟨n2,0,none⟩))),(6,.at (.map (some bj)))] st5:=by
 simp only [zZ,Tryz.f76,Option.getD_some,zEe,Option.or_some,Option.some_or,Option.none_or,Option.or_none];refine zT ?_
 (repeat (first | (refine zg ?_) | (refine zW ?_; simp -failIfUnchanged only [zB,zC]) | (refine zf ?_; simp -failIfUnchanged only [zV,zS,zd,zU]) | (refine zY ?_; simp -failIfUnchanged only [zR,zM,zB,zC,reduceIte]) | (refine zT ?_) | ((first | (refine ze polN zBc _ rfl rfl ?_) | (refine za polN mixed zBc _ rfl rfl (by kernel_rfl) (by kernel_rfl) ?_)); simp only [↓zk,↓zDx,↓zLY,↓zHB,↓zH2,↓zIA,↓yD,↓zJN,zB,yb,zAX,zH,zI,zK,zP,zb,zX,yW,zAz,zBA,qp,jO,kD,xx,qY,implies_true,List.map_cons,List.map_nil,and_self,fits,zy,zz,zL,V.isOne,V.isAgg,V.size,qr,List.all_cons,List.all_nil,List.length_cons,List.length_nil,List.drop_zero,List.drop_succ_cons,List.take_succ_cons,List.take_zero,List.getD_cons_zero,List.getD_cons_succ,Bool.true_and,Bool.and_self,if_true,if_false,true_and,Nat.reduceAdd,Nat.reduceEqDiff,Nat.reduceLeDiff,reduceCtorEq,Bool.false_eq_true,Nat.zero_add,Nat.add_zero,Nat.lt_add_one,zDP,zDa,zB1,zGO,zGi,zEZ,zJW,zJz,zG4,zLW,zJQ,zG2,zHG,hasT62,aggT62,zQc,zQe,zQf,zBc,yL,hadd,hidx,jj])))
 refine ⟨⟨hi1,hll⟩,zCS l2 ?_⟩;rw [<- hnmD];generalize (qQ c nm).getD 0=z
 (repeat (first | (refine zg ?_) | (refine zW ?_; simp -failIfUnchanged only [zB,zC]) | (refine zf ?_; simp -failIfUnchanged only [zV,zS,zd,zU]) | (refine zY ?_; simp -failIfUnchanged only [zR,zM,zB,zC,reduceIte]) | (refine zT ?_) | ((first | (refine ze polN zBc _ rfl rfl ?_) | (refine za polN mixed zBc _ rfl rfl (by kernel_rfl) (by kernel_rfl) ?_)); simp only [↓zk,↓zDx,↓zHB,zB,zH,zI,zK,zP,zm,yC,zb,zX,yW,zOO,if_true,if_false,Nat.reduceEqDiff,zBc,yL])))
 refine xX rfl (fun ht=>?_) (fun ht=>?_)
 . have hz0:z≠0:=by simpa using ht
   (repeat (first | (refine zg ?_) | (refine zW ?_; simp -failIfUnchanged only [zB,zC]) | (refine zf ?_; simp -failIfUnchanged only [zV,zS,zd,zU]) | (refine zY ?_; simp -failIfUnchanged only [zR,zM,zB,zC,reduceIte]) | (refine zT ?_) | ((first | (refine ze polN zBc _ rfl rfl ?_) | (refine za polN mixed zBc _ rfl rfl (by kernel_rfl) (by kernel_rfl) ?_)); simp only [↓zk,↓zDx,↓zHB,↓qV,zB,zH,xp,zI,zK,zP,zm,yC,zb,zX,yW,qz,xy,xJ,spl,List.nil_append,List.append_nil,and_self,zL,V.isOne,V.flat,List.all_cons,List.all_nil,List.length_cons,List.length_nil,List.drop_zero,List.drop_succ_cons,List.take_zero,Bool.true_and,Bool.and_self,if_true,if_false,true_and,Nat.reduceEqDiff,Nat.zero_add,Nat.le_refl,zII,zGX,zBc,yL,l1])))
   refine Or.inr ⟨trivial,hz0,?_,l3⟩;simp [zN]
 . have hz0:z=0:=by simpa using ht
   refine zW ?_;exact .inl ⟨rfl,hz0,l1,l3⟩
set_option maxRecDepth 100000 in
set_option maxHeartbeats 2000000 in
theorem ok76 (c85:Int×Unit->MM (Bool×Unit)) (h85:CPOk CC Tryz.prog syn 85 (cM [.int .i64] [.bool] c85)):CPOk CC Tryz.prog syn 76 (cM [.int .i64] [.bool] (c76 c85)):=by
 refine zEu fun l i xs a o ho st vx va r1 r2 h1 h2 hn=>?_;obtain ⟨far,ua⟩:=a;change Int at far;obtain ⟨b0,b,cap,fp,m,rfl,k1,k2,rfl⟩:=zBP h1;have h2':=h2;simp only [VKs,VK] at h2;obtain ⟨v1,w1,q1,q2,rfl,rfl,⟨rfl,rfl⟩,rfl,rfl⟩:=h2;unfold c76 at ho;split at ho
 rotate_left
 . cases ho
 rename_i y hy;split at ho
 rotate_left
 . cases ho
 rename_i hcond;obtain ⟨hys,hlen,hin⟩:=hcond;injection ho with ho
 subst ho;have H:=cM_use h85 hy h1 h2' hn;rw [hys] at H;simp only [List.append_nil] at H hn ⊢;have e1:=(yI st [.inr b0,.ob b] b0).1 (by simp);have e2:=(yH st [.inr b0,.ob b] b).1 (by simp);rw [k1] at e1; rw [k2] at e2;generalize subS st [.inr b0,.ob b]=s0 at e1 e2 H ⊢;clear k1 k2 h1 h2';intro B g w vs hi hgl hv;obtain ⟨x1,x2,rfl⟩:∃ x1 x2,vs=[x1,x2]:=by
  cases hv with
  | cons _ hv=>cases hv with
   | cons _ hv=>cases hv; exact ⟨_,_,rfl⟩
 have hx1:x1 = .pointer (some ⟨b0,0,none⟩):=by cases hv with | cons h _=>exact yA h
 have hx2:x2 = .int .i64 far:=by cases hv with | cons _ h=>cases h with | cons h _=>exact yA h
 subst hx1; subst hx2;refine (callsIn_wide (n:=6)).1 ?_;have hF:∀ f,Fence.wide.fn f:=fun _=>trivial;refine callsIn_of_wp_marks Tryz.func76 rfl (hF _) ?_ rfl;simp only [Tryz.ntmps76,List.size_toArray,List.length_cons,List.length_nil,Nat.reduceAdd,Nat.reduceSub,Array.replicate_succ,Array.replicate_zero,List.push_toArray,List.append_toArray,List.nil_append,List.cons_append];obtain ⟨W3,hW3⟩:∃ W3,((w.alloc (.cells #[.pointer (some ⟨b0,0,none⟩)] 62)).alloc (.cells #[.int .i64 far] 3)).alloc (.cells #[.bool false] 4)=W3:=⟨_,rfl⟩;have hsz:W3.heap.size=w.heap.size+3:=by rw [<- hW3]; simp
 have hh0:W3.heap[w.heap.size]? = some (.cells #[.pointer (some ⟨b0,0,none⟩)] 62 (0,0)):=by
  rw [<- hW3,Below.heap_alloc _ _ _ (by simp; omega),Below.heap_alloc _ _ _ (by simp)];exact World.alloc_heap_new w _
 have hh1:W3.heap[w.heap.size+1]? = some (.cells #[.int .i64 far] 3 (0,0)):=by
  rw [<- hW3,Below.heap_alloc _ _ _ (by simp)];have:=World.alloc_heap_new (w.alloc (.cells #[.pointer (some ⟨b0,0,none⟩)] 62)) (.cells #[.int .i64 far] 3);simpa using this
 have hh2:W3.heap[w.heap.size+1+1]? = some (.cells #[.bool false] 4 (0,0)):=by
  rw [<- hW3];have:=World.alloc_heap_new ((w.alloc (.cells #[.pointer (some ⟨b0,0,none⟩)] 62)).alloc (.cells #[.int .i64 far] 3)) (.cells #[.bool false] 4);simpa using this
 have hc0:W3.cell? ⟨w.heap.size,0,none⟩=some (.pointer (some ⟨b0,0,none⟩)):=by simp [World.cell?,hh0]
 have hc1:W3.cell? ⟨w.heap.size+1,0,none⟩=some (.int .i64 far):=by simp [World.cell?,hh1]
 have hc2:W3.cell? ⟨w.heap.size+1+1,0,none⟩=some (.bool false):=by simp [World.cell?,hh2]
 have hbw3:Below w.heap.size w W3:=by rw [<- hW3]; exact (((Below.refl _ w).alloc (Nat.le_refl _) _).alloc (by simp) _).alloc (by simp; omega) _
 have X85:CallsIn Fence.wide 5 Tryz.prog 85 #[.pointer (some ⟨b0,0,none⟩),.int .i64 far] W3 fun e W4=>e = .returned (.bool y.1.1) /\
  ∃ g4 s4 b' cap' fp' m',Step B g w g4 W4/\Al.Inv B g4 s4 W4/\W3.heap.size<=W4.heap.size /\
   (∀ j,w.heap.size<=j->j < W3.heap.size->W4.heap[j]? = W3.heap[j]?/\Al.look s4.box j=none/\g4.wm j=0/\(∀ t ∈ s4.tg,∀ d,g4.tb t=some (some (j,d))->False)/\(∀ b o fp,zG s4.ob b=some (o,fp)->j ∉ fp)) /\
   Al.look s4.box b0=some ([.lst (zw (l.map (CC.encV TI.tok))) (l.map (CC.encV TI.tok)),.at (.int .i64 i),.at (.slice (some ⟨b',0,none⟩) xs.length cap'),.at (.map m')],4)/\zG s4.ob b' = some (.sc (xs.map trMC) cap',fp'):=by
  refine callsIn_wide.2 ((zNC H hi hgl hv hbw3).mono ?_);rintro e W4 ⟨g4,s4,h1,h2,h3,h4,h5⟩;cases e with
  | outgrown=>exact h5.elim
  | panicked c=>exact h5.elim
  | returned v=>
   obtain ⟨r,h6,ws,q1,q2,h7,h8,_,rfl⟩:=h5;simp only [VKs,VK] at h8;obtain ⟨v1,w1,q3,q4,rfl,rfl,⟨rfl,rfl⟩,rfl,rfl⟩:=h8;obtain ⟨b0',b',cap',fp',m',e3,k1,k2,rfl⟩:=zBP h7;injection e3 with e3 _
   injection e3 with e3
   injection e3 with e3
   injection e3 with e3
   injection e3 with e3 _ _
   subst e3;exact ⟨congrArg Ending.returned (yA h6),g4,s4,b',cap',fp',m',h1,h2,h3,h4,k1,k2⟩
 have hdd:∀ k:Nat,(Fence.wide.depth.isSome=true->1<=k):=fun k h=>by cases h
 have fin:∀ (g4:Gh) (s4:S) (b' cap':Nat) (fp':List Nat) (m':Option Nat) (W4:World),Step B g w g4 W4->Al.Inv B g4 s4 W4->W3.heap.size<=W4.heap.size ->
  (∀ j,w.heap.size<=j->j < W3.heap.size->W4.heap[j]? = W3.heap[j]?/\Al.look s4.box j=none/\g4.wm j=0/\(∀ t ∈ s4.tg,∀ d,g4.tb t=some (some (j,d))->False)/\(∀ b o fp,zG s4.ob b=some (o,fp)->j ∉ fp)) ->
  Al.look s4.box b0=some ([.lst (zw (l.map (CC.encV TI.tok))) (l.map (CC.encV TI.tok)),.at (.int .i64 i),.at (.slice (some ⟨b',0,none⟩) xs.length cap'),.at (.map m')],4)->zG s4.ob b' = some (.sc (xs.map trMC) cap',fp') ->
  ∀ (W':World) (r:Bool),Below 0 W4 W'->(∀ j,j < W4.heap.size->j ∉ fp'.tail->j≠w.heap.size+1+1->W'.heap[j]? = W4.heap[j]?)->MMems g4 W' fp'.tail (xs.map trMC) ->
  ∃ g' st',Step B g w g' W'/\Al.Inv B g' st' W'/\∃ u,RV g' W' u (.bool r)/\qa CC syn [parK] [.bool] [.at (.pointer (some ⟨b0,0,none⟩))] (some (((l,i,xs,(),()),()),(r,()))) (.ret u) st':=by
  intro g4 s4 b' cap' fp' m' W4 p1 p2 p3 p4 p5 p6 W' r q1 q2 q3;obtain ⟨bs,rfl,hnd,hbl,hcap,_⟩:=p2.unpack p6;obtain ⟨o1,o2,o3⟩:=p2.ex.ob _ _ _ p6;obtain ⟨k1,k2,k3,k4,k5⟩:=p4 (w.heap.size+1+1) (by omega) (by omega);have hK:∀ k,(k ∈ bs\/k=w.heap.size+1+1)->Al.look s4.box k=none/\(∀ t ∈ s4.tg,∀ d,g4.tb t=some (some (k,d))->False)/\g4.wm k=0:=by
   rintro k (hk | rfl)
   . obtain ⟨r1,r2,r3,r4,r5,r6⟩:=o3 k (by simp [hk]);exact ⟨r4,r5,r3⟩
   . exact ⟨k2,k4,k3⟩
  obtain ⟨hI,hL⟩:=Inv.but' (w':=W') p2 (fun k=>k ∈ bs\/k=w.heap.size+1+1) hK q1.size (fun j hj hk=>by
   simp only [not_or] at hk;exact q2 j hj hk.1 hk.2) (fun hl bb o fp hb=>by
   obtain ⟨t1,t2,t3⟩:=p2.ex.ob bb o fp hb;by_cases e:bb=b'
   . subst e;rw [p6] at hb;injection hb with hb
     obtain ⟨rfl,rfl⟩:=Prod.mk.inj hb;obtain ⟨bs',arr,el,u1,u2,u3,u4,u5,u6,u7⟩:=t1;injection u1 with _ u1
     subst u1;refine ⟨bs,arr,el,rfl,u2,?_,u4,u5,u6,q3⟩;have hbb:=(List.nodup_cons.1 hnd).1;rw [q2 bb (o3 bb (by simp)).2.1 hbb (fun e=>k5 _ _ _ p6 (by simp [e]))];exact u3
   . refine t1.local hl fun j hj=>?_;have hj1:j ∉ bs:=fun hm=>e (p2.ex.obd bb o fp b' _ _ j hb p6 hj (by simp [hm]));exact q2 j (t3 j hj).2.1 hj1 (fun e=>k5 _ _ _ hb (by rw [<- e]; exact hj)))
  have hst:Step B g4 W4 g4 W':=by
   refine ⟨hL,⟨q1.os,q1.tape,q1.output,q1.size,fun k hk=>?_⟩,fun b hb=>⟨?_,rfl⟩,fun _ _=>rfl,rfl⟩
   . have hB:=hi.base;refine q2 k (by omega) (fun (hm:k ∈ bs)=>?_) (by omega);have:=(o3 k (by simp [hm])).1; omega
   . obtain ⟨t1,t2,t3⟩:=p2.ex.frz b hb;refine q2 b t1 (fun (hm:b ∈ bs)=>?_) (fun e=>?_)
     . have:=(o3 b (by simp [hm])).2.2.2.2.2;rw [this] at hb; cases hb
     . have h7:g.fr b=true:=by rw [<- p1.fr]; exact hb
       have:=(hi.ex.frz b h7).1; omega
  exact ⟨g4,s4,p1.trans hst,hI,.at (.bool r),yN rfl,[.at (.bool r)],[.inr b0,.ob b'],[],zBQ rfl p5 p6,⟨_,[],[],[],rfl,rfl,⟨rfl,rfl⟩,rfl,rfl⟩,by simp,rfl⟩
 have hy1:∀ r:Bool,r=(y.1.1 && kX (l.getD (i+far).toNat tokD).text xs.reverse)->(some (((l,i,xs,(),()),()),(r,())):Option (zA ([parK]:LK)×zA ([.bool]:LK)))=(some ((y.1.1 && kX (l.getD (i+far).toNat tokD).text xs.reverse,()),i,xs)).map fun y=>(((l,y.2.1,y.2.2,(),()),()),y.1):=fun r hr=>by subst hr; rfl
 cases hnm:y.1.1 with
 | false=>
  rw [hnm] at X85
  gi_wp2_with ((try refine ⟨hdd _,?_⟩); gi_at_call 85; fail)
  refine X85.mono ?_;rintro e W4 ⟨rfl,g4,s4,b',cap',fp',m',p1,p2,p3,p4,p5,p6⟩;have hd2h:=(p4 (w.heap.size+1+1) (by omega) (by omega)).1.trans hh2;have hd2:W4.cell? ⟨w.heap.size+1+1,0,none⟩=some (.bool false):=by simp [World.cell?,hd2h]
  have hf2:W4.frozen? ⟨w.heap.size+1+1,0,none⟩=false:=by simp [World.frozen?,hd2h]
  gi_wp2;have hcc:=World.cell?_setCell_same' W4 ⟨w.heap.size+1+1,0,none⟩ (.bool false) (by rw [hd2]; rfl);refine ⟨_,zCK rfl rfl ⟨zII,by rw [zGX]; rfl,aggT4.symm⟩ hcc,?_⟩;have hoth:∀ j,j≠w.heap.size+1+1->(W4.setCell ⟨w.heap.size+1+1,0,none⟩ (.bool false)).heap[j]? = W4.heap[j]?:=fun j hj=>Below.heap_setCell _ _ _ j hj;obtain ⟨bs,rfl,hnd,hbl,hcap,_⟩:=p2.unpack p6;obtain ⟨⟨bs',arr,el,u1,u2,u3,u4,u5,u6,u7⟩,o2,o3⟩:=p2.ex.ob _ _ _ p6;injection u1 with _ u1
  subst u1;obtain ⟨g',st',z1,z2,u,z3,z4⟩:=fin g4 s4 b' cap' _ m' W4 p1 p2 p3 p4 p5 p6 (W4.setCell ⟨w.heap.size+1+1,0,none⟩ (.bool false)) false ((Below.refl 0 W4).setCell (p:=⟨w.heap.size+1+1,0,none⟩) (Nat.zero_le _) _) (fun j _ _ hj=>hoth j hj)
   (zHy u7 fun j hj=>hoth j (fun e=>(p4 (w.heap.size+1+1) (by omega) (by omega)).2.2.2.2 _ _ _ p6 (by rw [<- e]; exact List.mem_cons_of_mem _ hj)))
  exact ⟨g',st',z1,z2,u,z3,z4⟩
 | true=>
  rw [hnm] at X85
  gi_wp2_with ((try refine ⟨hdd _,?_⟩); gi_at_call 85; fail)
  refine X85.mono ?_;rintro e W4 ⟨rfl,g4,s4,b',cap',fp',m',p1,p2,p3,p4,p5,p6⟩;obtain ⟨u0,arr0,el0,ha0,hs0,hu0,hb0t,hb00⟩:∃ u0 arr0 el0,W4.heap[b0]? = some (.cells arr0 el0 (0,0))/\arr0.size=4/\arr0.toList=[u0,.int .i64 i,.slice (some ⟨b',0,none⟩) xs.length cap',.map m']/\RC g4 W4 (.lst (zw (l.map (CC.encV TI.tok))) (l.map (CC.encV TI.tok))) [u0]/\b0 < W4.heap.size:=by
   obtain ⟨t1,t2,t3,t4,arr,el,us,t5,t6,t7,t8⟩:=p2.box _ _ _ p5;simp only [RCs] at t7;obtain ⟨u1,u2,rfl,k1,u3,u4,rfl,k2,u5,u6,rfl,k3,u7,u8,rfl,k4,rfl⟩:=t7;have k1':=qD _ _ _ _ k1;obtain ⟨u0,rfl⟩:∃ u0,u1=[u0]:=by
    match u1,k1' with
    | [u0],_=>exact ⟨u0,rfl⟩
   simp only [RC] at k2 k3 k4;rw [k2.1,k3.1,k4.1] at t8;refine ⟨u0,arr,el,t5,t6,?_,k1,(Array.getElem?_eq_some_iff.1 t5).1⟩;rw [List.take_of_length_le (by simpa using Nat.le_of_eq t6)] at t8;simpa using t8
  have harr0:arr0 = #[u0,.int .i64 i,.slice (some ⟨b',0,none⟩) xs.length cap',.map m']:=by
   apply Array.ext'; rw [hu0]
  subst harr0;have hd0h:=(p4 w.heap.size (by omega) (by omega)).1.trans hh0;have hd1h:=(p4 (w.heap.size+1) (by omega) (by omega)).1.trans hh1;have hd2h:=(p4 (w.heap.size+1+1) (by omega) (by omega)).1.trans hh2;have hd0:W4.cell? ⟨w.heap.size,0,none⟩=some (.pointer (some ⟨b0,0,none⟩)):=by simp [World.cell?,hd0h]
  have hd1:W4.cell? ⟨w.heap.size+1,0,none⟩=some (.int .i64 far):=by simp [World.cell?,hd1h]
  have hd2:W4.cell? ⟨w.heap.size+1+1,0,none⟩=some (.bool false):=by simp [World.cell?,hd2h]
  have hb2:W4.cell? ⟨b0,2,none⟩=some (.slice (some ⟨b',0,none⟩) xs.length cap'):=by simp [World.cell?,ha0]
  gi_wp2_with ((try refine ⟨hdd _,?_⟩); gi_at_call 109; refine (zPh Fence.wide _ (hF _) rfl _ _ _ _).mono ?_; rintro e w' ⟨rfl,rfl⟩)
  obtain ⟨bs,rfl,hnd,hbl,hcap,_⟩:=p2.unpack p6;rw [List.length_map] at hbl;obtain ⟨⟨bs',arr,el,u1,u2,u3,u4,u5,u6,u7⟩,o2,o3⟩:=p2.ex.ob _ _ _ p6;injection u1 with _ u1
  subst u1;obtain ⟨W5,hW5⟩:∃ W5,W4.alloc (.cells #[.slice (some ⟨b',0,none⟩) xs.length cap'] 64)=W5:=⟨_,rfl⟩;rw [hW5];have hsz5:W5.heap.size=W4.heap.size+1:=by rw [<- hW5]; simp
  have hold5:∀ j,j < W4.heap.size->W5.heap[j]? = W4.heap[j]?:=fun j hj=>by rw [<- hW5]; exact Below.heap_alloc _ _ _ hj
  have hB5:Below 0 W4 W5:=by rw [<- hW5]; exact (Below.refl 0 W4).alloc (Nat.zero_le _) _
  have hBs5:W5.heap[W4.heap.size]? = some (.cells #[.slice (some ⟨b',0,none⟩) xs.length cap'] 64 (0,0)):=by rw [<- hW5]; exact World.alloc_heap_new W4 _
  have hcB:W5.cell? ⟨W4.heap.size,0,none⟩=some (.slice (some ⟨b',0,none⟩) bs.length cap'):=by rw [hbl]; simp [World.cell?,hBs5]
  have hb'lt:b' < W4.heap.size:=(o3 b' (by simp)).2.1;have hcb:∀ j,j < bs.length->W5.cell? ⟨b',j,none⟩=some (.map (some (bs[j]?.getD 0))):=fun j hj=>by
   have h7:=congrArg (fun l:List Value=>l[j]?) u6;simp only [List.getElem?_take,hj,if_true,List.getElem?_map] at h7;simp only [World.cell?,hold5 b' hb'lt,u3];rw [Array.getElem?_toList] at h7;simp only [h7];rw [List.getElem?_eq_getElem hj]; rfl
  have hbs4:∀ j ∈ bs,j < W4.heap.size:=fun j hj=>(o3 j (by simp [hj])).2.1;have hn2:w.heap.size+1+1 < W4.heap.size:=by omega
  have hII:IsI W5 W5 bs xs (w.heap.size+1+1) false:=⟨Below.refl _ _,fun _ _ _ _=>rfl,fun i j c e1 e2=>by
   obtain ⟨ar,ck,k1,k2⟩:=zHM u7 i j c e1 e2;exact ⟨ar,ck,(hold5 j (hbs4 j (List.mem_of_getElem? e1))).trans k1,k2⟩,4,(hold5 _ hn2).trans hd2h⟩
  obtain ⟨nm,hnmD⟩:∃ nm,nm=(l.getD (i+far).toNat tokD).text:=⟨_,rfl⟩;obtain ⟨hin1,hin2,hin3,hin4⟩:=hin hnm;have hn2b:w.heap.size+1+1 ∉ bs:=fun hm=>(p4 (w.heap.size+1+1) (by omega) (by omega)).2.2.2.2 _ _ _ p6 (List.mem_cons_of_mem _ hm);have endW:∀ (W:World) (D:Nat) (r:Bool),IsI W5 W bs xs (w.heap.size+1+1) r->W5.heap.size<=D->(W.putObj D (.deferred none)).cell? ⟨w.heap.size+1+1,0,none⟩=some (.bool r)/\∃ g' st',Step B g w g' (W.putObj D (.deferred none))/\Al.Inv B g' st' (W.putObj D (.deferred none))/\∃ u,RV g' (W.putObj D (.deferred none)) u (.bool r)/\qa CC syn [parK] [.bool] [.at (.pointer (some ⟨b0,0,none⟩))] (some (((l,i,xs,(),()),()),(r,()))) (.ret u) st':=by
   intro W D r hI hD;obtain ⟨tt,hres⟩:=hI.res;have hoth:∀ j,j≠D->(W.putObj D (.deferred none)).heap[j]? = W.heap[j]?:=fun j hj=>World.putObj_heap_other hj;refine ⟨by rw [show (W.putObj D (.deferred none)).cell? ⟨w.heap.size+1+1,0,none⟩=W.cell? ⟨w.heap.size+1+1,0,none⟩ from World.cell?_of_block (hoth _ (fun e=>by replace e:w.heap.size+1+1=D:=e; omega))]; simp [World.cell?,hres],?_⟩;refine fin g4 s4 b' cap' _ m' W4 p1 p2 p3 p4 p5 p6 _ r (hB5.trans (hI.below.trans ⟨rfl,rfl,rfl,by simp [World.putObj],fun k hk=>absurd hk (Nat.not_lt_zero k)⟩)) (fun j h1 h2 h3=>?_) (zFi (g:=g4) (w:=W4) hbl fun i' j c q1 q2=>?_)
   . rw [hoth j (by omega),hI.blk j (by omega) h2 h3,hold5 j h1]
   . obtain ⟨ar,ck,k1,k2⟩:=hI.mp i' j c q1 q2;have:=hbs4 j (List.mem_of_getElem? q1);exact ⟨ar,ck,(hoth j (by omega)).trans k1,k2⟩
  have enc:∀ j ∈ bs,j < W5.heap.size:=fun j hj=>by have:=hbs4 j hj; omega
  refine wpIn_rangeFunc_ownG rfl (by omega) (gf:=129) (lb:=#[.pointer (some ⟨W4.heap.size,0,none⟩)]) (by simp [Act.eval]) (hF 129) (enters_of Tryz.func129 (by kernel_rfl) rfl)
   (zLo Fence.wide 5 (hF _) rfl (by omega) W4.heap.size b' cap' bs (by omega) W5 (by omega) (by omega) hcB hcb) (fun h k=>h.trans k) (fun W l o o' _ hl h1 _=>KpB.put W l o o' hl h1) (Below.refl _ _) (fun _=>rfl)
   (fun pre W=>IsI W5 W bs xs (w.heap.size+1+1) false/\∀ x ∈ pre,zfM nm (xs[x.1]?.getD [])=0)
   (fun c pre W=>c = .ret/\∃ ini last,pre=ini++[last]/\(∀ x ∈ ini,zfM nm (xs[x.1]?.getD [])=0)/\zfM nm (xs[last.1]?.getD [])≠0/\IsI W5 W bs xs (w.heap.size+1+1) (zfM nm (xs[last.1]?.getD []) == 2))
   (fun pre A C row h hg hr=>⟨h.1.grown hbl enc (by omega) hg (fun k e=>by obtain ⟨h1,h2⟩:=hr k e; exact ⟨h1,h2⟩),h.2⟩)
   (fun c pre A C row h hg hr=>by
    obtain ⟨h0,ini,last,h1,h2,h3,h4⟩:=h;exact ⟨h0,ini,last,h1,h2,h3,h4.grown hbl enc (by omega) hg (fun k e=>by obtain ⟨h1,h2⟩:=hr k e; exact ⟨h1,h2⟩)⟩)
   ⟨hII,by simp⟩
   (fun x=>{ tmps:=#[.pointer (some ⟨b0,0,none⟩),.int .i64 far,.pointer (some ⟨w.heap.size,0,none⟩),.pointer (some ⟨w.heap.size+1,0,none⟩),.pointer (some ⟨w.heap.size+1+1,0,none⟩),undef,.map (some (bs[x.1]?.getD 0)),undef,.pointer (some ⟨b0,0,none⟩),.int .i64 far,.bool true,.bool false,.pointer (some ⟨b0,0,none⟩),.pointer (some ⟨b0,0,none⟩),.pointer (some ⟨b0,2,none⟩),.slice (some ⟨b',0,none⟩) xs.length cap',.func (.func 129) #[] #[.pointer (some ⟨W4.heap.size,0,none⟩)],.int .i64 (x.1:Int),.map (some (bs[x.1]?.getD 0)),undef,undef,undef,undef,undef,undef,undef,undef,undef,undef,undef,undef,undef,undef,undef,undef,undef,undef,undef],defers:=[] })
   ?assign ?body ?done ?stop
  case assign=>
   intro l x W K hK;gi_wp2;exact hK
  case body=>
   rintro l' pre x W ⟨hI,hzz⟩ hlen;have hx:=x.2;obtain ⟨bj,hbj⟩:∃ bj,bs[x.1]? = some bj:=⟨bs[x.1],by simp⟩;obtain ⟨c,hc⟩:∃ c,xs[x.1]? = some c:=⟨xs[x.1]'(by omega),by simp⟩;have hbjm:bj ∈ bs:=List.mem_of_getElem? hbj;have hbelow:=hI.below.size;have hb0n:b0 ∉ bs:=fun hm=>by
    have:=(o3 b0 (by simp [hm])).2.2.2.1;rw [this] at p5; cases p5
   have hb0n2:b0≠w.heap.size+1+1:=fun e=>by
    have:=(p4 (w.heap.size+1+1) (by omega) (by omega)).2.1;rw [<- e,p5] at this; cases this
   have hn0:w.heap.size ∉ bs:=fun hm=>(p4 w.heap.size (by omega) (by omega)).2.2.2.2 _ _ _ p6 (List.mem_cons_of_mem _ hm);have hn1:w.heap.size+1 ∉ bs:=fun hm=>(p4 (w.heap.size+1) (by omega) (by omega)).2.2.2.2 _ _ _ p6 (List.mem_cons_of_mem _ hm);have hWb:∀ b,b < W4.heap.size->b ∉ bs->b≠w.heap.size+1+1->W.heap[b]? = W4.heap[b]?:=fun b h1 h2 h3=>(hI.blk b (by omega) h2 h3).trans (hold5 b h1);have hwm0:∀ b,(b ∈ bs\/b=w.heap.size+1+1)->g4.wm b=0:=by
    rintro b (h | rfl)
    . exact (o3 b (by simp [h])).2.2.1
    . exact (p4 (w.heap.size+1+1) (by omega) (by omega)).2.2.1
   obtain ⟨g5,hg5⟩:∃ g5:Gh,g5=⟨fun b=>if b ∈ bs\/b=w.heap.size+1+1 then 0 else if b < W5.heap.size then max (g4.wm b) (match W.heap[b]? with | some (.cells arr _ _)=>arr.size | _=>0) else 0,g4.tb,⟨fun b=>decide (b < W.heap.size) && decide (b ∉ bs) && decide (b≠w.heap.size+1+1),fun _=>false⟩⟩:=⟨_,rfl⟩;have hwm5:∀ b,g5.wm b=if b ∈ bs\/b=w.heap.size+1+1 then 0 else if b < W5.heap.size then max (g4.wm b) (match W.heap[b]? with | some (.cells arr _ _)=>arr.size | _=>0) else 0:=fun b=>by rw [hg5]
   have hfr5:∀ b,g5.fr b=true↔b < W.heap.size/\b ∉ bs/\b≠w.heap.size+1+1:=fun b=>by rw [hg5]; simp [and_assoc]
   have hle5:∀ b,g4.wm b<=g5.wm b:=fun b=>by
    rw [hwm5];split
    . rename_i h; rw [hwm0 b h]; exact Nat.zero_le _
    . split
      . exact Nat.le_max_left _ _
      . rename_i h; rw [p2.fresh b (by omega)]; exact Nat.zero_le _
   have hL5:Later g4 W4 g5 W:=⟨hle5,fun t d e=>by rw [hg5]; exact e,fun b o ho=>by
    have hb4:b < W4.heap.size:=by
     rcases Nat.lt_or_ge b W4.heap.size with h | h
     . exact h
     . rw [p2.fresh b h] at ho; omega
    have hnk:¬ (b ∈ bs\/b=w.heap.size+1+1):=fun h=>by rw [hwm0 b h] at ho; omega
    simp only [not_or] at hnk;exact World.cell?_of_block (hWb b hb4 hnk.1 hnk.2)⟩
   have hat:∀ b (arr:Array Value) el m (ds:List Value),b < W4.heap.size->b ∉ bs->b≠w.heap.size+1+1->W4.heap[b]? = some (.cells arr el m)->arr.toList=ds->At g5 W b 0 ds:=fun b arr el m ds h1 h2 h3 h4 h5 k u hk=>by
    have hh:W.heap[b]? = some (.cells arr el m):=(hWb b h1 h2 h3).trans h4;subst h5;rw [Array.getElem?_toList] at hk;have hks:=(Array.getElem?_eq_some_iff.1 hk).1;refine ⟨by simp [World.cell?,hh,hk],?_⟩;rw [hwm5,if_neg (by simp only [not_or]; exact ⟨h2,h3⟩),if_pos (by omega),hh];simp only;omega
   have hMM:MMems g5 W bs (xs.map trMC):=zFi (g:=g4) (w:=W4) hbl hI.mp;have hInv:Al.Inv B g5 ⟨[(w.heap.size+1+1,[.at (.bool false)],1)],[],s4.nx,mps bs (xs.map trMC)⟩ W:=by
    have hB:=hi.base;have hlk:∀ b c,Al.look [(w.heap.size+1+1,[V.at (.bool false)],1)] b=some c->b=w.heap.size+1+1/\c=([V.at (.bool false)],1):=fun b c h=>by
     by_cases e:w.heap.size+1+1=b
     . subst e; simp [Al.look] at h; exact ⟨rfl,h.symm⟩
     . simp [Al.look,e] at h
    refine ⟨by omega,fun b cs k h=>?_,fun t ht=>(by cases ht),fun t ht=>(by cases ht),fun t ht=>(by cases ht),by simp,fun b hb=>?_,fun t ht=>by rw [hg5]; exact p2.names t ht,fun b hb=>?_,fun b o fp h=>?_,fun b o fp b2 o2 fp2 j h1 h2 h3 h4=>?_,fun t ht=>by rw [hg5] at ht; cases ht⟩
    . obtain ⟨rfl,e⟩:=hlk b _ h;injection e with e1 e2
      subst e1; subst e2;obtain ⟨tt,hres⟩:=hI.res;exact ⟨by omega,by rw [hwm5,if_pos (.inr rfl)],Nat.le_refl _,by simp [V.isOne],_,_,[.bool false],hres,rfl,by simp [RCs,RC,one],rfl⟩
    . rw [hwm5];split
      . rfl
      . rw [if_neg (by omega)]
    . obtain ⟨q1,q2,q3⟩:=(hfr5 b).1 hb;refine ⟨q1,?_,fun t ht=>(by cases ht)⟩;cases e:Al.look [(w.heap.size+1+1,[V.at (.bool false)],1)] b with
      | none=>rfl
      | some c=>exact absurd (hlk b c e).1 q3
    . obtain ⟨d,rfl,rfl,hm,hd⟩:=zC2 hMM h;refine ⟨⟨rfl,hd⟩,by simp,fun j hj=>?_⟩;simp only [List.mem_singleton] at hj;subst hj;have q:=o3 j (by simp [hm]);refine ⟨q.1,by omega,by rw [hwm5,if_pos (.inl hm)],?_,fun t ht=>(by cases ht),?_⟩
      . cases e:Al.look [(w.heap.size+1+1,[V.at (.bool false)],1)] j with
        | none=>rfl
        | some c=>exact absurd ((hlk j c e).1 ▸ hm) hn2b
      . cases e:g5.fr j with
        | false=>rfl
        | true=>exact absurd hm ((hfr5 j).1 e).2.1
    . obtain ⟨_,_,rfl,_,_⟩:=zC2 hMM h1;obtain ⟨_,_,rfl,_,_⟩:=zC2 hMM h2;simp only [List.mem_singleton] at h3 h4;exact h3.symm.trans h4
   have htoks:RC g5.bare W (.lst (zw (l.map (CC.encV TI.tok))) (l.map (CC.encV TI.tok))) [u0]:=by
    have:=kj (zAy hL5 _ _ hb0t) rfl;rw [zAF] at this; exact this
   have hagg:RC g5.bare W (.agg [.lst (zw (l.map (CC.encV TI.tok))) (l.map (CC.encV TI.tok)),.at (.int .i64 i),.at (.slice (some ⟨b',0,none⟩) xs.length cap'),.at (.map m')]) [u0,.int .i64 i,.slice (some ⟨b',0,none⟩) xs.length cap',.map m']:=by
    simp only [RC,RCs];exact ⟨[u0],_,rfl,htoks,[_],_,rfl,⟨rfl,rfl⟩,[_],_,rfl,⟨rfl,rfl⟩,[_],_,rfl,⟨rfl,rfl⟩,rfl⟩
   have hE:∀ k,RV g5 W (Env.get [(2,.rptr (.rptr (.agg [.lst (zw (l.map (CC.encV TI.tok))) (l.map (CC.encV TI.tok)),.at (.int .i64 i),.at (.slice (some ⟨b',0,none⟩) xs.length cap'),.at (.map m')]))),(3,.rptr (.at (.int .i64 far))),(4,.at (.pointer (some ⟨w.heap.size+1+1,0,none⟩))),(6,.at (.map (some bj)))] k)
    ((#[.pointer (some ⟨b0,0,none⟩),.int .i64 far,.pointer (some ⟨w.heap.size,0,none⟩),.pointer (some ⟨w.heap.size+1,0,none⟩),.pointer (some ⟨w.heap.size+1+1,0,none⟩),undef,.map (some (bs[x.1]?.getD 0)),undef,.pointer (some ⟨b0,0,none⟩),.int .i64 far,.bool true,.bool false,.pointer (some ⟨b0,0,none⟩),.pointer (some ⟨b0,0,none⟩),.pointer (some ⟨b0,2,none⟩),.slice (some ⟨b',0,none⟩) xs.length cap',.func (.func 129) #[] #[.pointer (some ⟨W4.heap.size,0,none⟩)],.int .i64 (x.1:Int),.map (some (bs[x.1]?.getD 0)),undef,undef,undef,undef,undef,undef,undef,undef,undef,undef,undef,undef,undef,undef,undef,undef,undef,undef,undef]:Array Value).getD k undef):=by
    intro k1;by_cases e2:k1=2
    . subst e2;refine kn ?_ (hat _ _ _ _ [_] (by omega) hn0 (by omega) hd0h rfl);simp only [RC];exact ⟨b0,0,_,rfl,hagg,hat b0 _ _ _ _ hb00 hb0n hb0n2 ha0 rfl⟩
    . by_cases e3:k1=3
      . subst e3;refine kn ?_ (hat _ _ _ _ [_] (by omega) hn1 (by omega) hd1h rfl);simp [RC,one]
      . by_cases e4:k1=4
        . subst e4; exact yN rfl
        . by_cases e6:k1=6
          . subst e6;rw [hbj];exact yN rfl
          . have:Env.get [(2,.rptr (.rptr (.agg [.lst (zw (l.map (CC.encV TI.tok))) (l.map (CC.encV TI.tok)),.at (.int .i64 i),.at (.slice (some ⟨b',0,none⟩) xs.length cap'),.at (.map m')]))),(3,.rptr (.at (.int .i64 far))),(4,.at (.pointer (some ⟨w.heap.size+1+1,0,none⟩))),(6,.at (.map (some bj)))] k1=V.any:=by
             simp only [Env.get,Ne.symm e2,Ne.symm e3,Ne.symm e4,Ne.symm e6,if_false]
            rw [this];trivial
   have hglob:GlobOk B g5.wm W:=by
    have hB:=hi.base;have hbel:Below B w W:=by
     have hbb:∀ k,k < B->k ∉ bs/\k≠w.heap.size+1+1:=fun k hk=>⟨fun hm=>by have:=(o3 k (by simp [hm])).1; omega,by omega⟩;refine ⟨hI.below.os.trans (hB5.os.trans p1.below.os),hI.below.tape.trans (hB5.tape.trans p1.below.tape),hI.below.output.trans (hB5.output.trans p1.below.output),by omega,fun k hk=>?_⟩;exact (hWb k (by omega) (hbb k hk).1 (hbb k hk).2).trans (p1.below.block k hk)
    exact hgl.below hbel fun b=>Nat.le_trans (p1.later.wm b) (hle5 b)
   have hadd:IntKind.i64.wrap (i+far)=i+far:=IntWalk.i64_in _ (by omega);obtain ⟨tk,htk⟩:∃ tk,l.getD (i+far).toNat tokD=tk:=⟨_,rfl⟩;have hidx:(l.map (CC.encV TI.tok)).getD (i+far).toNat .any = .agg [.at (.int .i64 tk.kind),.at (.string ⟨tk.text.toArray⟩),.at (.int .i64 tk.file),.at (.int .i64 tk.ffrom),.at (.int .i64 tk.fto),.at (.bool tk.blank)]:=by
    have hlt:(i+far).toNat < l.length:=by omega
    rw [<- htk,List.getD_eq_getElem?_getD,show (l.map (CC.encV TI.tok))[(i+far).toNat]? = (l[(i+far).toNat]?).map (CC.encV TI.tok) from List.getElem?_map,List.getD_eq_getElem?_getD,List.getElem?_eq_getElem hlt];rfl
   rw [htk] at hnmD;have hlook:Al.look [(w.heap.size+1+1,[V.at (.bool false)],1)] (w.heap.size+1+1)=some ([.at (.bool false)],1):=by simp [Al.look]
   have hol:zG (mps bs (xs.map trMC)) bj=some (.mp (trMC c),[bj]):=by
    have h1:=zDK (bs:=bs) (xs:=xs.map trMC) [] (List.nodup_cons.1 hnd).2 (by simpa using hbl);rw [List.append_nil] at h1;exact Mps.at h1 hbj (by rw [List.getElem?_map,hc]; rfl)
   obtain ⟨st5,hst5⟩:∃ st5:S,st5=⟨[(w.heap.size+1+1,[.at (.bool false)],1)],[],s4.nx,mps bs (xs.map trMC)⟩:=⟨_,rfl⟩;rw [<- hst5] at hInv;have l1:Al.look st5.box (w.heap.size+1+1)=some ([.at (.bool false)],1):=by rw [hst5]; exact hlook
   have l2:zG st5.ob bj=some (.mp (trMC c),[bj]):=by rw [hst5]; exact hol
   have l3:st5.ob=mps bs (xs.map trMC):=by rw [hst5]
   have hz:zfM nm (xs[x.1]?.getD [])=(qQ c nm).getD 0:=by rw [hc]; rfl
   refine zDg (wpIn_mono ((?_:awp Tryz.prog ⟨B,⟨38,[]⟩,some l',[]⟩ _ (fun ex e' s'=>(ex = .normal/\(qQ c nm).getD 0=0/\Al.look s'.box (w.heap.size+1+1)=some ([.at (.bool false)],1)/\s'.ob=mps bs (xs.map trMC))\/(ex = .ret/\(qQ c nm).getD 0≠0/\Al.look s'.box (w.heap.size+1+1)=some ([.at (.bool ((qQ c nm).getD 0 == 2))],1)/\s'.ob=mps bs (xs.map trMC))) _ st5) g5 _ W ⟨hInv,hE,⟨rfl,fun _ hp=>(by cases hp)⟩,rfl,hglob⟩) ?_)
   . exact zQk B l' _ _ _ i far _ _ _ bs bj xs c nm tk st5 (by omega) (by rw [show (l.map (CC.encV TI.tok)).length=l.length from List.length_map _]; omega) hadd hidx hnmD l1 l2 l3
   . rintro ex a2 w2 ⟨g',e',s',q1,q2,q3⟩;have hsame:∀ b,b < W.heap.size->b ∉ bs->b≠w.heap.size+1+1->w2.heap[b]? = W.heap[b]?:=fun b h1 h2 h3=>(q1.fz b ((hfr5 b).2 ⟨h1,h2,h3⟩)).1;have hob:s'.ob=mps bs (xs.map trMC):=by rcases q3 with ⟨_,_,_,h⟩ | ⟨_,_,_,h⟩ <;> exact h
     have hI2:∀ r,Al.look s'.box (w.heap.size+1+1)=some ([.at (.bool r)],1)->IsI W5 w2 bs xs (w.heap.size+1+1) r:=fun r hr=>by
      refine ⟨hI.below.trans (q1.below.mono (Nat.zero_le _)),fun b h1 h2 h3=>(hsame b (by omega) h2 h3).trans (hI.blk b h1 h2 h3),fun i' j d h1 h2=>?_,?_⟩
      . have h3:=zDK (bs:=bs) (xs:=xs.map trMC) [] (List.nodup_cons.1 hnd).2 (by simpa using hbl);rw [List.append_nil,<- hob] at h3;have h4:=Mps.at h3 h1 (c:=trMC d) (by rw [List.getElem?_map,h2]; rfl);obtain ⟨⟨_,arr,ck,h5,h6⟩,_⟩:=q2.inv.ex.ob _ _ _ h4;exact ⟨arr,ck,h5,zAx h6⟩
      . obtain ⟨t1,t2,t3,t4,arr,el,us,t5,t6,t7,t8⟩:=q2.inv.box _ _ _ hr;simp only [RCs,RC] at t7;obtain ⟨u1,u2,rfl,⟨rfl,_⟩,rfl⟩:=t7;have harr:arr = #[.bool r]:=by
         apply Array.ext';rw [List.take_of_length_le (by simpa using Nat.le_of_eq t6)] at t8;simpa using t8
        exact ⟨el,by rw [t5,harr]⟩
     have hkf:KeepsFrom W5.heap.size W w2:=⟨q1.below.size,fun k o hk hko hc=>by
      have hklt:=(Array.getElem?_eq_some_iff.1 hko).1;exact (hsame k hklt (fun hm=>by have:=hbs4 k hm; omega) (by omega)).trans hko⟩
     have hkp:KpB W4.heap.size b' bs.length W w2:=by
      have hb'n:b' ∉ bs:=(List.nodup_cons.1 hnd).1;have hb'2:b'≠w.heap.size+1+1:=fun e=>(p4 (w.heap.size+1+1) (by omega) (by omega)).2.2.2.2 _ _ _ p6 (by simp [e]);refine ⟨fun v hv=>(World.cell?_of_block (hsame W4.heap.size (by omega) (fun hm=>by have:=hbs4 _ hm; omega) (by omega))).trans hv,fun j v _ hv=>(World.cell?_of_block (hsame b' (by omega) hb'n hb'2)).trans hv⟩
     rcases q3 with ⟨rfl,k1,k2,_⟩ | ⟨rfl,k1,k2,_⟩
     . refine ⟨hkf,hkp,hI2 _ k2,fun x' hx'=>?_⟩;rcases List.mem_append.1 hx' with h | h
       . exact hzz x' h
       . simp only [List.mem_singleton] at h;subst h; rw [hz]; exact k1
     . exact ⟨hkf,rfl,pre,x,rfl,hzz,by rw [hz]; exact k1,by rw [hz]; exact hI2 _ k2⟩
  case done=>
   rintro D ys W hD rfl ⟨hI,hz⟩ hK;obtain ⟨tt,hres⟩:=hI.res;have hcw:W.cell? ⟨w.heap.size+1+1,0,none⟩=some (.bool false):=by simp [World.cell?,hres]
   have hfw:W.frozen? ⟨w.heap.size+1+1,0,none⟩=false:=by simp [World.frozen?,hres]
   gi_wp2;have hI2:=hI.set hn2b false;have hK2:(W.setCell ⟨w.heap.size+1+1,0,none⟩ (.bool false)).heap[D]? = some (.deferred (some [])):=(Below.heap_setCell _ _ _ D (fun e=>by replace e:D=w.heap.size+1+1:=e; omega)).trans hK;refine ⟨by simp,.inl ⟨_,_,rfl,run_takeDeferred hK2,?_⟩⟩;obtain ⟨hcr,g',st',z1,z2,u,z3,z4⟩:=endW _ D false hI2 hD;refine ⟨_,zCK rfl rfl ⟨zII,by rw [zGX]; rfl,aggT4.symm⟩ hcr,?_⟩;have hT:kX (l.getD (i+far).toNat tokD).text xs.reverse=false:=by
    rw [<- hnmD,zJv xs bs.length hbl];refine zGs fun m hm=>?_;obtain ⟨x,hx,rfl⟩:=List.mem_map.1 hm;exact hz x (by rw [qt,List.take_of_length_le (by simp)]; exact hx)
   rw [List.getD_eq_getElem?_getD] at hT;refine ⟨g',z1,st',z2,u,z3,?_⟩;rw [hT]; exact z4
  case stop=>
   rintro D c pre W hD ⟨k,hk,hpre⟩ ⟨rfl,ini,last,e1,e2,e3,hI⟩ hK;gi_wp2;refine ⟨by simp,.inl ⟨_,_,rfl,run_takeDeferred hK,?_⟩⟩;obtain ⟨hcr,g',st',z1,z2,u,z3,z4⟩:=endW _ D _ hI hD;refine ⟨_,zCK rfl rfl ⟨zII,by rw [zGX]; rfl,aggT4.symm⟩ hcr,?_⟩;have hT:kX (l.getD (i+far).toNat tokD).text xs.reverse=(zfM nm (xs[last.1]?.getD []) == 2):=by
    rw [<- hnmD,zJv xs bs.length hbl,<- List.take_append_drop k ((List.finRange bs.length).reverse),show (List.finRange bs.length).reverse.take k=ini++[last] from hpre.symm.trans e1];rw [List.map_append,List.map_append,List.append_assoc];refine zHk (fun m hm=>?_) e3;obtain ⟨x,hx,rfl⟩:=List.mem_map.1 hm;exact e2 x hx
   rw [List.getD_eq_getElem?_getD] at hT;refine ⟨g',z1,st',z2,u,z3,?_⟩;rw [hT]; exact z4
end
section
open Go.Al Go.Den Go.RowKit
attribute [local congr] ym xO xT xn yO yq yF yE yn xM yo xW yw yk yB yK yg xZ xU yS xL yj yU yR yr yu yV yl yh yY xm xY xV xK xP xN yi yX yT
abbrev mgZ (c:MT) (s:Str):Int:=(qQ c s).getD 0
theorem zHr (nm:Str) (z:Int):∀ c:MT,qQ (qO c nm z) nm=some z
 | []=>by simp [qO,qQ]
 | (a,b)::c=>by
  unfold qO;split
  . rename_i h; simp [qQ]
  . rename_i h; simp only [qQ,if_neg h]; exact zHr nm z c
theorem zIt {st:S} {bj:Nat} {c:MT} {fp:List Nat} {s:Str} {z:Int} (l2:zG st.ob bj=some (.mp (trMC c),fp)) {K:S->Prop} (hK:K ⟨st.box,st.tg,st.nx,(bj,.mp (trMC (qO c s z)),fp)::st.ob⟩):qA Tryz.prog st 63 (.at (.map (some bj))) (.at (.string ⟨s.toArray⟩)) (.at (.int .i64 z)) K:=by
 unfold qA;rw [show mapT Tryz.prog 63=some 3 from by kernel_rfl];simp only [l2];refine ⟨rfl,?_⟩;rw [show (V.at (.int .i64 z)).untag = .at (.int .i64 z) from rfl,zG3];exact hK
abbrev polW:Pol:=⟨fun _=>false,fun _=>false,fun _=>false,fun f=>f == 46,[],fun _=>[]⟩
set_option maxRecDepth 100000 in
theorem ok102x {l:List TokT} {out:List BindT} {v3 v4 v5:V} {b0 bo cap b bp bt:Nat} {o:Option Nat} {i:Int} {c1:MT} {s:S} (h:Al.look s.box b0=some ([tkV l,.at (.slice (some ⟨bo,0,none⟩) out.length cap),ptV b,v3,v4,v5],6)) (ha:Al.look s.box bo=some (bdC out,cap * 2))
 (hb:Al.look s.box b=some (lcs bp bt o,3)) (hm:zG s.ob bp=some (.mp (trMC c1),[bp])) (n1:bo≠b0) (n2:b≠b0) (h0:0<=i) (h1:i < l.length) (h2:i < out.length) (h3:out.length<=cap) (h4:l.length < 1000000) {nm:Str} (hnm:(l.getD i.toNat tokD).text=nm) (h5:0<=mgZ c1 nm/\mgZ c1 nm < 1000000) :
 FnC Tryz.prog 102 [ptV b0,.at (.int .i64 i)] s fun oc s'=>oc = .ret (.tup [])/\s' = ⟨lay s.box bo (bdC (out.set i.toNat ⟨1,(if mgZ c1 nm=0 then i+1 else mgZ c1 nm) - 1⟩),cap * 2),s.tg,s.nx,if mgZ c1 nm=0 then (bp,.mp (trMC (qO c1 nm (i+1))),[bp])::s.ob else s.ob⟩:=by
 refine yz Tryz.func102 rfl Tryz.ntmps102 Tryz.results102 (by show 2<=35; decide) fun B=>?_;simp only [List.cons_append,List.nil_append,List.append_nil,xg,Nat.reduceAdd];have n1':¬ b0=bo:=fun e=>n1 e.symm;have n2':¬ b0=b:=fun e=>n2 e.symm;have hi0:decide (i < 0)=false:=by simp; omega
 have hb':Al.look s.box b=some ([.at (.map (some bp)),.at (.map (some bt)),.at (pO o)],3):=hb
 (repeat (first | (refine zg ?_) | (refine zW ?_; simp -failIfUnchanged only [zB,zC]) | (refine zf ?_; simp -failIfUnchanged only [zV,zS,zd,zU]) | (refine zY ?_; simp -failIfUnchanged only [zR,zM,zB,zC,reduceIte]) | (refine zT ?_) | ((first | (refine ze polW jE _ rfl rfl ?_) | (refine za polW mixed jE _ rfl rfl (by kernel_rfl) (by kernel_rfl) ?_)); simp only [↓zk,↓zt,↓xe,zB,zH,zI,zK,zP,zm,yC,zb,zX,yW,zJV,if_true,if_false,Nat.reduceEqDiff,reduceCtorEq,jE,yL])))
 refine xX rfl (fun e=>by rw [hi0] at e; cases e) (fun _=>?_)
 (repeat (first | (refine zg ?_) | (refine zW ?_; simp -failIfUnchanged only [zB,zC]) | (refine zf ?_; simp -failIfUnchanged only [zV,zS,zd,zU]) | (refine zY ?_; simp -failIfUnchanged only [zR,zM,zB,zC,reduceIte]) | (refine zT ?_) | ((first | (refine ze polW jE _ rfl rfl ?_) | (refine za polW mixed jE _ rfl rfl (by kernel_rfl) (by kernel_rfl) ?_)); simp only [↓zk,↓zt,↓yP,↓zl,↓yD,↓z6,zB,yb,zH,zI,zK,zP,zb,zX,zv,zx,zq,zj,zp,implies_true,Nat.reduceLT,List.map_cons,List.map_nil,and_self,zy,zz,List.length_cons,List.length_nil,List.drop_zero,List.drop_succ_cons,List.take_succ_cons,List.take_zero,List.getD_cons_zero,List.getD_cons_succ,Bool.true_and,Bool.and_self,if_true,if_false,true_and,Nat.reduceAdd,Nat.reduceEqDiff,Nat.reduceLeDiff,reduceCtorEq,Bool.false_eq_true,Nat.zero_add,Nat.add_zero,Nat.lt_add_one,ql,zAf,qC,jf,kJ,qx,kg,zDB,zCA,zJG,zB9,jE,h,hb'])))
 refine zAG [ptV b0,.at (.int .i64 i)] (.at (.string ⟨(l.getD i.toNat tokD).text.toArray⟩)) rfl rfl ku (by simp only [List.map_cons,List.map_nil,List.all_cons,List.all_nil,zP,zH,zI,zK,if_true,if_false,Nat.reduceEqDiff,reduceCtorEq,yM,Bool.and_self]) (by simp only [List.map_cons,List.map_nil,zP,zH,zI,zK,if_true,if_false,Nat.reduceEqDiff,reduceCtorEq]; exact .keep (.keep .nil)) (zDy h h0 h1) ?_;rw [hnm];simp only [↓zk,↓xe,zH,zI,zK,zP,zm,yC,if_true,if_false,Nat.reduceEqDiff,reduceCtorEq,jj];refine zCS hm ?_;simp only [yW,qz,yL];refine xX rfl (fun ht=>?_) (fun ht=>?_)
 . have hz:mgZ c1 nm=0:=by simpa using ht
   rw [if_pos hz,if_pos hz];have hw:IntKind.i64.wrap (i+1)=i+1:=IntWalk.i64_in _ (by omega)
   (repeat (first | (refine zg ?_) | (refine zW ?_; simp -failIfUnchanged only [zB,zC]) | (refine zf ?_; simp -failIfUnchanged only [zV,zS,zd,zU]) | (refine zY ?_; simp -failIfUnchanged only [zR,zM,zB,zC,reduceIte]) | (refine zT ?_) | ((first | (refine ze polW jE _ rfl rfl ?_) | (refine za polW mixed jE _ rfl rfl (by kernel_rfl) (by kernel_rfl) ?_)); simp only [↓zt,zB,yb,zH,zI,zK,zP,zb,zX,List.map_cons,List.map_nil,if_true,if_false,Nat.reduceEqDiff,reduceCtorEq,jE])))
   refine zAG [ptV b0,.at (.int .i64 i)] (.at (.string ⟨(l.getD i.toNat tokD).text.toArray⟩)) rfl rfl ku (by simp only [List.map_cons,List.map_nil,List.all_cons,List.all_nil,zP,zH,zI,zK,if_true,if_false,Nat.reduceEqDiff,reduceCtorEq,yM,Bool.and_self]) (by simp only [List.map_cons,List.map_nil,zP,zH,zI,zK,if_true,if_false,Nat.reduceEqDiff,reduceCtorEq]; exact .keep (.keep .nil)) (zDy h h0 h1) ?_;rw [hnm];simp only [↓zk,↓zt,↓xe,zH,xp,zI,zK,zP,zm,yC,yW,zAz,if_true,if_false,Nat.reduceEqDiff,reduceCtorEq,zBX,yL,hw];refine zIt hm ?_
   (repeat (first | (refine zg ?_) | (refine zW ?_; simp -failIfUnchanged only [zB,zC]) | (refine zf ?_; simp -failIfUnchanged only [zV,zS,zd,zU]) | (refine zY ?_; simp -failIfUnchanged only [zR,zM,zB,zC,reduceIte]) | (refine zT ?_) | ((first | (refine ze polW jE _ rfl rfl ?_) | (refine za polW mixed jE _ rfl rfl (by kernel_rfl) (by kernel_rfl) ?_)); simp only [↓zt,zH,zI,zK,zP,zX,List.map_cons,List.map_nil,if_true,if_false,Nat.reduceEqDiff,reduceCtorEq,jE])))
   refine zAG [ptV b0,.at (.int .i64 i)] (.at (.string ⟨(l.getD i.toNat tokD).text.toArray⟩)) rfl rfl ku (by simp only [List.map_cons,List.map_nil,List.all_cons,List.all_nil,zP,zH,zI,zK,if_true,if_false,Nat.reduceEqDiff,reduceCtorEq,yM,Bool.and_self]) (by simp only [List.map_cons,List.map_nil,zP,zH,zI,zK,if_true,if_false,Nat.reduceEqDiff,reduceCtorEq]; exact .keep (.keep .nil)) (zDy h h0 h1) ?_;rw [hnm];simp only [zH,zI,zK,zP,if_true,if_false,Nat.reduceEqDiff,reduceCtorEq,jj];have hm2:zG ((bp,OV.mp (trMC (qO c1 nm (i+1))),[bp])::s.ob) bp=some (.mp (trMC (qO c1 nm (i+1))),[bp]):=by rw [zJ,if_pos rfl]
   refine zCS hm2 ?_;rw [zHr];refine qi [ptV b0,.at (.int .i64 i),.at (.int .i64 1),.at (.int .i64 (i+1))] rfl rfl rfl zAP (by simp only [List.map_cons,List.map_nil,List.all_cons,List.all_nil,zP,zm,yC,zH,zI,zK,if_true,if_false,Nat.reduceEqDiff,reduceCtorEq,yM,Bool.and_self]) (by simp only [List.map_cons,List.map_nil,zP,zm,yC,zH,zI,zK,if_true,if_false,Nat.reduceEqDiff,reduceCtorEq]; exact .keep (.keep (.keep (.keep .nil)))) (zC6 h ha n1 h0 h2 h3 (IntWalk.i64_in _ (by omega))) (fun r s hq=>?_) (fun c s hq=>(by cases hq.1));obtain ⟨hq,rfl⟩:=hq;injection hq with hq
   subst hq;simp only [↓zk];exact ⟨rfl,rfl⟩
 . have hz:¬ mgZ c1 nm=0:=by simpa using ht
   rw [if_neg hz,if_neg hz];refine zW ?_
   (repeat (first | (refine zg ?_) | (refine zW ?_; simp -failIfUnchanged only [zB,zC]) | (refine zf ?_; simp -failIfUnchanged only [zV,zS,zd,zU]) | (refine zY ?_; simp -failIfUnchanged only [zR,zM,zB,zC,reduceIte]) | (refine zT ?_) | ((first | (refine ze polW jE _ rfl rfl ?_) | (refine za polW mixed jE _ rfl rfl (by kernel_rfl) (by kernel_rfl) ?_)); simp only [↓zt,zH,zI,zK,zP,zX,List.map_cons,List.map_nil,if_true,if_false,Nat.reduceEqDiff,reduceCtorEq,jE])))
   refine zAG [ptV b0,.at (.int .i64 i)] (.at (.string ⟨(l.getD i.toNat tokD).text.toArray⟩)) rfl rfl ku (by simp only [List.map_cons,List.map_nil,List.all_cons,List.all_nil,zP,zH,zI,zK,if_true,if_false,Nat.reduceEqDiff,reduceCtorEq,yM,Bool.and_self]) (by simp only [List.map_cons,List.map_nil,zP,zH,zI,zK,if_true,if_false,Nat.reduceEqDiff,reduceCtorEq]; exact .keep (.keep .nil)) (zDy h h0 h1) ?_;rw [hnm];simp only [zH,zI,zK,zP,if_true,if_false,Nat.reduceEqDiff,reduceCtorEq,jj];refine zCS hm ?_;refine qi [ptV b0,.at (.int .i64 i),.at (.int .i64 1),.at (.int .i64 (mgZ c1 nm))] rfl rfl rfl zAP (by simp only [List.map_cons,List.map_nil,List.all_cons,List.all_nil,zP,zm,yC,zH,zI,zK,if_true,if_false,Nat.reduceEqDiff,reduceCtorEq,yM,Bool.and_self]) (by simp only [List.map_cons,List.map_nil,zP,zm,yC,zH,zI,zK,if_true,if_false,Nat.reduceEqDiff,reduceCtorEq]; exact .keep (.keep (.keep (.keep .nil)))) (zC6 h ha n1 h0 h2 h3 (IntWalk.i64_in _ (by omega))) (fun r s hq=>?_) (fun c s hq=>(by cases hq.1));obtain ⟨hq,rfl⟩:=hq;injection hq with hq
   subst hq;simp only [↓zk];exact ⟨rfl,rfl⟩
end
section
open Go.Al Go.Den Go.RowKit
attribute [local congr] ym xO xT xn yO yq yF yE yn xM yo xW yw yk yB yK yg xZ xU yS xL yj yU yR yr yu yV yl yh yY xm xY xV xK xP xN yi yX yT
def zFA (s:S):Option Nat->List LT1->Prop
 | o,[]=>o=none
 | o,x::r=>∃ b bp bt nx,o=some b/\Al.look s.box b=some (lcs bp bt nx,3)/\zG s.ob bp=some (.mp (trMC x.1),[bp])/\zG s.ob bt=some (.mp (trMC x.2),[bt])/\zFA s nx r
def kW (nm:Str):List LT1->Int
 | []=>0
 | x::r=>if mgZ x.1 nm≠0 then mgZ x.1 nm else kW nm r
def zGr (nm:Str):List LT1->Int
 | []=>0
 | x::r=>if mgZ x.2 nm≠0 then mgZ x.2 nm else zGr nm r
def finZ (z k:Int):Int:=if z≠0 then z else k
theorem zAI {P:Program} {op:BinOp} {t:TypeId} {c:Bool} {p:Option Addr} {K:V->Prop}:zAT P op t c (.at (.pointer p)) (.at (.pointer none)) K=(zEd P t=true/\jU op p.isNone true K):=rfl
theorem zFn {P:Program} {L:Pol} {ds:List (Option Nat)} {KP:List PanicEntry->S->Prop} {os:List Oper} {K:Env->S->Prop} {e:Env} {st:S} {d:Option Nat} {ty:TypeId} {pos:String} {af:Array Edge} (t:TypeId) (x:Operand) :
 AL P L ds KP (⟨d,.load t x,ty,pos,af,none⟩::os) K e st=(ldK L x (e.ev x)/\xw P st t (e.ev x) fun v=>AL P L ds KP os K (e.putO d v) st):=propext Iff.rfl
abbrev polK (b:Nat):Pol:=⟨fun _=>false,fun _=>false,fun _=>false,fun f=>f == 46,[(27,23)],fun _=>[b]⟩
set_option maxRecDepth 100000 in
theorem ok125x {l:List TokT} {out:List BindT} {v3 v4 v5:V} {b0 bo cap:Nat} {o:Option Nat} {xs:List LT1} {i:Int} {s:S} (h:Al.look s.box b0=some ([tkV l,.at (.slice (some ⟨bo,0,none⟩) out.length cap),.at (pO o),v3,v4,v5],6)) (ha:Al.look s.box bo=some (bdC out,cap * 2))
 (hc:zFA s o xs) (n1:bo≠b0) (h0:0<=i) (h1:i < l.length) (h2:i < out.length) (h3:out.length<=cap) {nm:Str} (hnm:(l.getD i.toNat tokD).text=nm) (h5:0<=kW nm xs/\kW nm xs < 1000000) :
 FnC Tryz.prog 125 [ptV b0,.at (.int .i64 i)] s fun oc s'=>oc = .ret (.tup [])/\s' = ⟨lay s.box bo (bdC (out.set i.toNat ⟨1,kW nm xs - 1⟩),cap * 2),s.tg,s.nx,s.ob⟩:=by
 refine yz Tryz.func125 rfl Tryz.ntmps125 Tryz.results125 (by show 2<=33; decide) fun B=>?_;simp only [List.cons_append,List.nil_append,List.append_nil,xg,Nat.reduceAdd];have hpt:zEd Tryz.prog 77=true:=by kernel_rfl
 (repeat (first | (refine zg ?_) | (refine zW ?_; simp -failIfUnchanged only [zB,zC]) | (refine zf ?_; simp -failIfUnchanged only [zV,zS,zd,zU]) | (refine zY ?_; simp -failIfUnchanged only [zR,zM,zB,zC,reduceIte]) | (refine zT ?_) | ((first | (refine ze polW qb _ rfl rfl ?_) | (refine za polW mixed qb _ rfl rfl (by kernel_rfl) (by kernel_rfl) ?_)); simp only [↓zk,↓zt,↓yP,↓zl,↓yD,↓z6,zB,zH,zI,zK,zP,zm,yC,zb,zX,zv,zx,zq,zj,zp,implies_true,and_self,zy,zz,List.length_cons,List.length_nil,List.drop_zero,List.drop_succ_cons,List.take_succ_cons,List.take_zero,List.getD_cons_zero,List.getD_cons_succ,Bool.true_and,Bool.and_self,if_true,if_false,true_and,Nat.reduceAdd,Nat.reduceEqDiff,Nat.reduceLeDiff,reduceCtorEq,Bool.false_eq_true,Nat.zero_add,Nat.lt_add_one,jf,kJ,qx,kg,qb,h])))
 refine zIn (α:=Option Nat×List LT1×Int) (fun x=>zFA s x.1 x.2.1/\finZ x.2.2 (kW nm x.2.1)=kW nm xs) (fun x=>x.2.1.length) (fun x=>[(0,ptV b0),(1,.at (.int .i64 i)),(4,.at (.int .i64 x.2.2)),(5,.at (pO x.1))]) (fun _=>s) (o,xs,0) ⟨hc,by simp [finZ]⟩ (Env.sub_of _ _ (by simp [Env.get])) (S.sub_refl _) ?_;rintro ⟨o1,ys,z⟩ ⟨q1,q2⟩;cases ys with
 | nil=>
  obtain rfl:o1=none:=q1;have e0:pO none = .pointer none:=rfl;dsimp only
  (repeat (first | (refine zg ?_) | (refine zW ?_; simp -failIfUnchanged only [zB,zC]) | (refine zf ?_; simp -failIfUnchanged only [zV,zS,zd,zU]) | (refine zY ?_; simp -failIfUnchanged only [zR,zM,zB,zC,reduceIte]) | (refine zT ?_) | ((first | (refine ze polW qb _ rfl rfl ?_) | (refine za polW mixed qb _ rfl rfl (by kernel_rfl) (by kernel_rfl) ?_)); simp only [↓zAN,↓zk,↓zt,↓zBm,↓xe,zB,zH,zI,zK,zP,zm,yC,zBs,zB3,zb,zX,yW,qz,zAS,ki,List.map_cons,List.map_nil,beq_self_eq_true,List.length_nil,List.getD_cons_zero,List.getD_cons_succ,Bool.true_and,if_true,if_false,true_and,Nat.reduceEqDiff,reduceCtorEq,Bool.false_eq_true,jX,zEs,qb,e0,yL,zAI,hpt,Option.isNone_none,Bool.not_true])))
  refine xX rfl (fun e=>by cases e) (fun _=>?_);have hz:z=kW nm xs:=by rw [<- q2]; unfold finZ kW; split <;> simp_all
  rw [<- hz] at h5 ⊢;refine zY ?_
  (repeat (first | (refine zg ?_) | (refine zW ?_; simp -failIfUnchanged only [zB,zC]) | (refine zf ?_; simp -failIfUnchanged only [zV,zS,zd,zU]) | (refine zY ?_; simp -failIfUnchanged only [zR,zM,zB,zC,reduceIte]) | (refine zT ?_) | ((first | (refine ze polW qb _ rfl rfl ?_) | (refine za polW mixed qb _ rfl rfl (by kernel_rfl) (by kernel_rfl) ?_)); simp only [↓zt,zH,zI,zK,zP,zX,List.map_cons,List.map_nil,if_true,if_false,Nat.reduceEqDiff,reduceCtorEq,qb])))
  refine qi [ptV b0,.at (.int .i64 i),.at (.int .i64 1),.at (.int .i64 z)] rfl rfl rfl zAP (by simp only [List.map_cons,List.map_nil,List.all_cons,List.all_nil,zP,zm,yC,zH,zI,zK,if_true,if_false,Nat.reduceEqDiff,reduceCtorEq,yM,Bool.and_self]) (by simp only [List.map_cons,List.map_nil,zP,zm,yC,zH,zI,zK,if_true,if_false,Nat.reduceEqDiff,reduceCtorEq]; exact .keep (.keep (.keep (.keep .nil)))) (zC6 h ha n1 h0 h2 h3 (IntWalk.i64_in _ (by omega))) (fun r s hq=>?_) (fun c s hq=>(by cases hq.1));obtain ⟨hq,rfl⟩:=hq;injection hq with hq
  subst hq;simp only [↓zk];exact ⟨rfl,rfl⟩
 | cons x r=>
  obtain ⟨b,bp,bt,nx,rfl,k1,k2,k3,k4⟩:=q1;have e0:pO (some b) = .pointer (some ⟨b,0,none⟩):=rfl;dsimp only;have k1':Al.look s.box b=some ([.at (.map (some bp)),.at (.map (some bt)),.at (pO nx)],3):=k1
  (repeat (first | (refine zg ?_) | (refine zW ?_; simp -failIfUnchanged only [zB,zC]) | (refine zf ?_; simp -failIfUnchanged only [zV,zS,zd,zU]) | (refine zY ?_; simp -failIfUnchanged only [zR,zM,zB,zC,reduceIte]) | (refine zT ?_) | ((first | (refine ze polW qb _ rfl rfl ?_) | (refine za polW mixed qb _ rfl rfl (by kernel_rfl) (by kernel_rfl) ?_)); simp only [↓zAN,↓zk,↓zt,↓zBm,↓xe,zB,zH,zI,zK,zP,zm,yC,zBs,zB3,zb,zX,yW,qz,zAS,ki,List.map_cons,List.map_nil,List.length_cons,List.getD_cons_zero,List.getD_cons_succ,Bool.true_and,if_true,if_false,true_and,Nat.reduceEqDiff,reduceCtorEq,jX,zBK,qb,e0,yL,zAI,hpt,Option.isNone_some,Bool.not_false,beq_true])))
  refine xX rfl (fun ht=>?_) (fun ht=>?_)
  . obtain rfl:z=0:=by simpa using ht
    (repeat (first | (refine zg ?_) | (refine zW ?_; simp -failIfUnchanged only [zB,zC]) | (refine zf ?_; simp -failIfUnchanged only [zV,zS,zd,zU]) | (refine zY ?_; simp -failIfUnchanged only [zR,zM,zB,zC,reduceIte]) | (refine zT ?_) | ((first | (refine ze (polK b) qb _ rfl rfl ?_) | (refine za (polK b) mixed qb _ rfl rfl (by kernel_rfl) (by kernel_rfl) ?_)); simp only [↓zt,↓zl,↓z6,zB,yb,zC,zAX,zH,zI,zK,zP,zb,zX,zv,zj,zp,Nat.reduceLT,List.map_cons,List.map_nil,beq_self_eq_true,Bool.true_and,if_true,if_false,true_and,Nat.reduceEqDiff,reduceCtorEq,Nat.add_zero,Nat.lt_add_one,ql,qC,zDB,zCA,zJG,zB9,qb])))
    rw [zFn];refine ⟨fun p _ _ b' o' hv=>?_,?_⟩
    . have hv:V.at (.pointer (some ⟨b,0,none⟩)) = .at (.pointer (some ⟨b',o',none⟩)):=hv;injection hv with hv
      injection hv with hv
      injection hv with hv
      injection hv with hv
      exact List.mem_singleton.2 hv.symm
    simp only [↓zt,zH,zI,zK,zP,zx,zq,implies_true,and_self,zy,zz,List.length_cons,List.length_nil,List.drop_zero,List.take_succ_cons,List.take_zero,List.getD_cons_zero,Bool.true_and,Bool.and_self,if_true,if_false,true_and,Nat.reduceAdd,Nat.reduceEqDiff,Nat.reduceLeDiff,reduceCtorEq,Bool.false_eq_true,Nat.zero_add,ql,zAf,qC,k1'];refine zAG [ptV b0,.at (.int .i64 i)] (.at (.string ⟨(l.getD i.toNat tokD).text.toArray⟩)) rfl rfl ku (by simp only [List.map_cons,List.map_nil,List.all_cons,List.all_nil,zP,zH,zI,zK,if_true,if_false,Nat.reduceEqDiff,reduceCtorEq,yM,Bool.and_self]) (by simp only [List.map_cons,List.map_nil,zP,zH,zI,zK,if_true,if_false,Nat.reduceEqDiff,reduceCtorEq]; exact .keep (.keep .nil)) (zDy h h0 h1) ?_;rw [hnm];simp only [↓zk,↓yP,zH,zI,zK,zP,if_true,if_false,Nat.reduceEqDiff,reduceCtorEq,jj];refine zCS k2 ?_
    (repeat (first | (refine zg ?_) | (refine zW ?_; simp -failIfUnchanged only [zB,zC]) | (refine zf ?_; simp -failIfUnchanged only [zV,zS,zd,zU]) | (refine zY ?_; simp -failIfUnchanged only [zR,zM,zB,zC,reduceIte]) | (refine zT ?_) | ((first | (refine ze polW qb _ rfl rfl ?_) | (refine za polW mixed qb _ rfl rfl (by kernel_rfl) (by kernel_rfl) ?_)); simp only [↓zk,↓zt,↓yP,↓zl,↓yD,↓z6,zB,zH,zI,zK,zP,zb,zX,zv,zx,zq,zj,zp,implies_true,and_self,zy,zz,List.length_cons,List.length_nil,List.drop_zero,List.drop_succ_cons,List.take_succ_cons,List.take_nil,List.getD_cons_zero,List.getD_cons_succ,Bool.true_and,Bool.and_self,if_true,if_false,true_and,Nat.reduceAdd,Nat.reduceEqDiff,reduceCtorEq,Bool.false_eq_true,Nat.zero_add,Nat.le_refl,Nat.lt_add_one,jf,kJ,qx,zBx,qb,k1'])))
    refine ⟨(nx,r,mgZ x.1 nm),⟨k4,?_⟩,Nat.lt_succ_self _,Env.sub_refl _,S.sub_refl _⟩;rw [<- q2];simp only [finZ,kW,ne_eq,not_true_eq_false,if_false]
  . have hz0:z≠0:=by simpa using ht
    have hz:z=kW nm xs:=by rw [<- q2]; unfold finZ; rw [if_pos hz0]
    rw [<- hz] at h5 ⊢;refine zY ?_
    (repeat (first | (refine zg ?_) | (refine zW ?_; simp -failIfUnchanged only [zB,zC]) | (refine zf ?_; simp -failIfUnchanged only [zV,zS,zd,zU]) | (refine zY ?_; simp -failIfUnchanged only [zR,zM,zB,zC,reduceIte]) | (refine zT ?_) | ((first | (refine ze polW qb _ rfl rfl ?_) | (refine za polW mixed qb _ rfl rfl (by kernel_rfl) (by kernel_rfl) ?_)); simp only [↓zt,zH,zI,zK,zP,zX,List.map_cons,List.map_nil,if_true,if_false,Nat.reduceEqDiff,reduceCtorEq,qb])))
    refine qi [ptV b0,.at (.int .i64 i),.at (.int .i64 1),.at (.int .i64 z)] rfl rfl rfl zAP (by simp only [List.map_cons,List.map_nil,List.all_cons,List.all_nil,zP,zm,yC,zH,zI,zK,if_true,if_false,Nat.reduceEqDiff,reduceCtorEq,yM,Bool.and_self]) (by simp only [List.map_cons,List.map_nil,zP,zm,yC,zH,zI,zK,if_true,if_false,Nat.reduceEqDiff,reduceCtorEq]; exact .keep (.keep (.keep (.keep .nil)))) (zC6 h ha n1 h0 h2 h3 (IntWalk.i64_in _ (by omega))) (fun r s hq=>?_) (fun c s hq=>(by cases hq.1));obtain ⟨hq,rfl⟩:=hq;injection hq with hq
    subst hq;simp only [↓zk];exact ⟨rfl,rfl⟩
end
section
open Go.Al Go.Den Go.RowKit
attribute [local congr] ym xO xT xn yO yq yF yE yn xM yo xW yw yk yB yK yg xZ xU yS xL yj yU yR yr yu yV yl yh yY xm xY xV xK xP xN yi yX yT
def tagZ (nm:Str) (br:Bool) (x:LT1) (r:List LT1):Int:=finZ (mgZ x.2 nm) (if br=true then 0 else zGr nm r)
set_option maxRecDepth 100000 in
set_option maxHeartbeats 1000000 in
theorem ok126x {l:List TokT} {out:List BindT} {v3 v4 v5:V} {b0 bo cap b bp bt:Nat} {o:Option Nat} {x:LT1} {xs:List LT1} {i:Int} {br:Bool} {s:S} (h:Al.look s.box b0=some ([tkV l,.at (.slice (some ⟨bo,0,none⟩) out.length cap),ptV b,v3,v4,v5],6)) (ha:Al.look s.box bo=some (bdC out,cap * 2))
 (hb:Al.look s.box b=some (lcs bp bt o,3)) (hm:zG s.ob bt=some (.mp (trMC x.2),[bt])) (hc:zFA s o xs) (n1:bo≠b0) (h0:0<=i) (h1:i < l.length) (h2:i < out.length) (h3:out.length<=cap) (h4:l.length < 1000000) {nm:Str} (hnm:(l.getD i.toNat tokD).text=nm) (h5:0<=tagZ nm br x xs/\tagZ nm br x xs < 1000000) :
 FnC Tryz.prog 126 [ptV b0,.at (.int .i64 i),.at (.bool br)] s fun oc s'=>oc = .ret (.tup [])/\s' = ⟨lay s.box bo (bdC (out.set i.toNat ⟨2,(if tagZ nm br x xs=0 then i+1 else tagZ nm br x xs) - 1⟩),cap * 2),s.tg,s.nx,if tagZ nm br x xs=0 then (bt,.mp (trMC (qO x.2 nm (i+1))),[bt])::s.ob else s.ob⟩:=by
 refine yz Tryz.func126 rfl Tryz.ntmps126 Tryz.results126 (by show 3<=68; decide) fun B=>?_;simp only [List.cons_append,List.nil_append,List.append_nil,xg,Nat.reduceAdd];have hpt:zEd Tryz.prog 77=true:=by kernel_rfl
 have hb':Al.look s.box b=some ([.at (.map (some bp)),.at (.map (some bt)),.at (pO o)],3):=hb
 (repeat (first | (refine zg ?_) | (refine zW ?_; simp -failIfUnchanged only [zB,zC]) | (refine zf ?_; simp -failIfUnchanged only [zV,zS,zd,zU]) | (refine zY ?_; simp -failIfUnchanged only [zR,zM,zB,zC,reduceIte]) | (refine zT ?_) | ((first | (refine ze polW yZ _ rfl rfl ?_) | (refine za polW mixed yZ _ rfl rfl (by kernel_rfl) (by kernel_rfl) ?_)); simp only [↓zt,zB,yb,zH,zI,zK,zP,zb,zX,List.map_cons,List.map_nil,if_true,if_false,Nat.reduceEqDiff,reduceCtorEq,yZ])))
 refine zAG [ptV b0,.at (.int .i64 i)] (.at (.string ⟨(l.getD i.toNat tokD).text.toArray⟩)) rfl rfl ku (by simp only [List.map_cons,List.map_nil,List.all_cons,List.all_nil,zP,zH,zI,zK,if_true,if_false,Nat.reduceEqDiff,reduceCtorEq,yM,Bool.and_self]) (by simp only [List.map_cons,List.map_nil,zP,zH,zI,zK,if_true,if_false,Nat.reduceEqDiff,reduceCtorEq]; exact .keep (.keep .nil)) (zDy h h0 h1) ?_;rw [hnm]
 (repeat (first | (refine zg ?_) | (refine zW ?_; simp -failIfUnchanged only [zB,zC]) | (refine zf ?_; simp -failIfUnchanged only [zV,zS,zd,zU]) | (refine zY ?_; simp -failIfUnchanged only [zR,zM,zB,zC,reduceIte]) | (refine zT ?_) | ((first | (refine ze polW yZ _ rfl rfl ?_) | (refine za polW mixed yZ _ rfl rfl (by kernel_rfl) (by kernel_rfl) ?_)); simp only [↓zk,↓zt,↓yP,↓zl,↓yD,↓z6,zB,yb,zH,zI,zK,zP,zb,zX,zv,zx,zq,zj,zp,implies_true,Nat.reduceLT,List.map_cons,List.map_nil,and_self,zy,zz,List.length_cons,List.length_nil,List.drop_zero,List.drop_succ_cons,List.take_succ_cons,List.take_zero,List.getD_cons_zero,List.getD_cons_succ,Bool.true_and,Bool.and_self,if_true,if_false,true_and,Nat.reduceAdd,Nat.reduceEqDiff,Nat.reduceLeDiff,reduceCtorEq,Bool.false_eq_true,Nat.zero_add,Nat.add_zero,Nat.lt_add_one,ql,zAf,qC,jf,kJ,qx,kg,zDB,zCA,zFb,zB9,yZ,h,hb',jj])))
 refine zCS hm ?_
 (repeat (first | (refine zg ?_) | (refine zW ?_; simp -failIfUnchanged only [zB,zC]) | (refine zf ?_; simp -failIfUnchanged only [zV,zS,zd,zU]) | (refine zY ?_; simp -failIfUnchanged only [zR,zM,zB,zC,reduceIte]) | (refine zT ?_) | ((first | (refine ze polW yZ _ rfl rfl ?_) | (refine za polW mixed yZ _ rfl rfl (by kernel_rfl) (by kernel_rfl) ?_)); simp only [↓zk,↓zt,↓yP,↓zl,↓yD,↓z6,zB,zH,zI,zK,zP,zb,zX,zv,zx,zq,zj,zp,implies_true,and_self,zy,zz,List.length_cons,List.length_nil,List.drop_zero,List.drop_succ_cons,List.take_succ_cons,List.take_zero,List.take_nil,List.getD_cons_zero,List.getD_cons_succ,Bool.true_and,Bool.and_self,if_true,if_false,true_and,Nat.reduceAdd,Nat.reduceEqDiff,Nat.reduceLeDiff,reduceCtorEq,Bool.false_eq_true,Nat.zero_add,Nat.le_refl,Nat.lt_add_one,jf,kJ,qx,kg,zBx,yZ,h,hb'])))
 refine zOM (Q:=fun ex e' s'=>ex = .exit 0/\e'.sub [(0,ptV b0),(1,.at (.int .i64 i)),(6,.at (.string ⟨nm.toArray⟩)),(7,.at (.int .i64 (tagZ nm br x xs)))]/\s'.sub s) ?_ ?_
 . refine zIn (α:=Option Nat×List LT1×Int) (fun x'=>zFA s x'.1 x'.2.1/\finZ x'.2.2 (if br=true then 0 else zGr nm x'.2.1)=tagZ nm br x xs) (fun x=>x.2.1.length) (fun x=>[(0,ptV b0),(1,.at (.int .i64 i)),(2,.at (.bool br)),(6,.at (.string ⟨nm.toArray⟩)),(7,.at (.int .i64 x.2.2)),(8,.at (pO x.1))]) (fun _=>s) (o,xs,mgZ x.2 nm) ⟨hc,rfl⟩ (Env.sub_of _ _ (by simp [Env.get])) (S.sub_refl _) ?_;rintro ⟨o1,ys,z⟩ ⟨q1,q2⟩;cases ys with
   | nil=>
    obtain rfl:o1=none:=q1;have e0:pO none = .pointer none:=rfl;dsimp only
    (repeat (first | (refine zg ?_) | (refine zW ?_; simp -failIfUnchanged only [zB,zC]) | (refine zf ?_; simp -failIfUnchanged only [zV,zS,zd,zU]) | (refine zY ?_; simp -failIfUnchanged only [zR,zM,zB,zC,reduceIte]) | (refine zT ?_) | ((first | (refine ze polW yZ _ rfl rfl ?_) | (refine za polW mixed yZ _ rfl rfl (by kernel_rfl) (by kernel_rfl) ?_)); simp only [↓zAN,↓zk,↓zt,↓zBm,↓xe,↓zGI,zB,zH,zI,zK,zP,zm,yC,zBs,zB3,zb,zX,yW,qz,zAS,zCz,ki,List.map_cons,List.map_nil,beq_self_eq_true,List.length_nil,List.getD_cons_zero,List.getD_cons_succ,Bool.true_and,if_true,if_false,true_and,Nat.reduceEqDiff,reduceCtorEq,Bool.false_eq_true,jX,zEs,yZ,e0,yL,zAI,hpt,Option.isNone_none,Bool.not_true])))
    refine xX rfl (fun e=>by cases e) (fun _=>?_);have hz:z=tagZ nm br x xs:=by rw [<- q2]; unfold finZ zGr; split <;> simp_all
    refine zY ?_;rw [<- hz];exact ⟨rfl,Env.sub_of _ _ (by simp [Env.get]),S.sub_refl _⟩
   | cons y r=>
    obtain ⟨b1,bp1,bt1,nx,rfl,k1,k2,k3,k4⟩:=q1;have e0:pO (some b1) = .pointer (some ⟨b1,0,none⟩):=rfl;dsimp only;have k1':Al.look s.box b1=some ([.at (.map (some bp1)),.at (.map (some bt1)),.at (pO nx)],3):=k1;by_cases hz0:z=0
    . subst hz0;cases br with
      | true=>
       (repeat (first | (refine zg ?_) | (refine zW ?_; simp -failIfUnchanged only [zB,zC]) | (refine zf ?_; simp -failIfUnchanged only [zV,zS,zd,zU]) | (refine zY ?_; simp -failIfUnchanged only [zR,zM,zB,zC,reduceIte]) | (refine zT ?_) | ((first | (refine ze polW yZ _ rfl rfl ?_) | (refine za polW mixed yZ _ rfl rfl (by kernel_rfl) (by kernel_rfl) ?_)); simp only [↓zAN,↓zk,↓zt,↓zBm,↓xe,↓zGI,zB,zH,zI,zK,zP,zm,yC,zBs,zB3,zb,zX,yW,qz,zAS,zCz,ki,List.map_cons,List.map_nil,beq_self_eq_true,List.length_cons,List.getD_cons_zero,List.getD_cons_succ,Bool.true_and,if_true,if_false,true_and,Nat.reduceEqDiff,reduceCtorEq,jX,zBK,yZ,e0,yL,zAI,hpt,Option.isNone_some,Bool.not_true,Bool.not_false,beq_true])))
       refine xX rfl (fun e=>by cases e) (fun _=>?_);refine zY ?_;have hz:(0:Int)=tagZ nm true x xs:=by rw [<- q2]; rfl
       rw [<- hz];exact ⟨rfl,Env.sub_of _ _ (by simp [Env.get]),S.sub_refl _⟩
      | false=>
       (repeat (first | (refine zg ?_) | (refine zW ?_; simp -failIfUnchanged only [zB,zC]) | (refine zf ?_; simp -failIfUnchanged only [zV,zS,zd,zU]) | (refine zY ?_; simp -failIfUnchanged only [zR,zM,zB,zC,reduceIte]) | (refine zT ?_) | ((first | (refine ze polW yZ _ rfl rfl ?_) | (refine za polW mixed yZ _ rfl rfl (by kernel_rfl) (by kernel_rfl) ?_)); simp only [↓zAN,↓zk,↓zt,↓zBm,↓xe,↓zGI,zB,zH,zI,zK,zP,zm,yC,zBs,zB3,zb,zX,yW,qz,zAS,zCz,ki,List.map_cons,List.map_nil,beq_self_eq_true,List.length_cons,List.getD_cons_zero,List.getD_cons_succ,Bool.true_and,if_true,if_false,true_and,Nat.reduceEqDiff,reduceCtorEq,Bool.false_eq_true,jX,zBK,yZ,e0,yL,zAI,hpt,Option.isNone_some,Bool.not_false,beq_true])))
       refine xX rfl (fun _=>?_) (fun e=>by cases e)
       (repeat (first | (refine zg ?_) | (refine zW ?_; simp -failIfUnchanged only [zB,zC]) | (refine zf ?_; simp -failIfUnchanged only [zV,zS,zd,zU]) | (refine zY ?_; simp -failIfUnchanged only [zR,zM,zB,zC,reduceIte]) | (refine zT ?_) | ((first | (refine ze polW yZ _ rfl rfl ?_) | (refine za polW mixed yZ _ rfl rfl (by kernel_rfl) (by kernel_rfl) ?_)); simp only [↓zk,↓zt,↓yP,↓zl,↓yD,↓z6,zB,yb,zC,zAX,zH,zI,zK,zP,zb,zX,zv,zx,zq,zj,zp,implies_true,Nat.reduceLT,List.map_cons,List.map_nil,and_self,zy,zz,List.length_cons,List.length_nil,List.drop_zero,List.drop_succ_cons,List.take_succ_cons,List.take_zero,List.getD_cons_zero,List.getD_cons_succ,Bool.true_and,Bool.and_self,if_true,if_false,true_and,Nat.reduceAdd,Nat.reduceEqDiff,Nat.reduceLeDiff,reduceCtorEq,Bool.false_eq_true,Nat.zero_add,Nat.add_zero,Nat.lt_add_one,ql,zAf,qC,zDB,zCA,zFb,zB9,yZ,k1',jj])))
       refine zCS k3 ?_
       (repeat (first | (refine zg ?_) | (refine zW ?_; simp -failIfUnchanged only [zB,zC]) | (refine zf ?_; simp -failIfUnchanged only [zV,zS,zd,zU]) | (refine zY ?_; simp -failIfUnchanged only [zR,zM,zB,zC,reduceIte]) | (refine zT ?_) | ((first | (refine ze polW yZ _ rfl rfl ?_) | (refine za polW mixed yZ _ rfl rfl (by kernel_rfl) (by kernel_rfl) ?_)); simp only [↓zk,↓zt,↓yP,↓zl,↓yD,↓z6,zB,zH,zI,zK,zP,zb,zX,zv,zx,zq,zj,zp,implies_true,and_self,zy,zz,List.length_cons,List.length_nil,List.drop_zero,List.drop_succ_cons,List.take_succ_cons,List.take_nil,List.getD_cons_zero,List.getD_cons_succ,Bool.true_and,Bool.and_self,if_true,if_false,true_and,Nat.reduceAdd,Nat.reduceEqDiff,reduceCtorEq,Bool.false_eq_true,Nat.zero_add,Nat.le_refl,Nat.lt_add_one,jf,kJ,qx,zBx,yZ,k1'])))
       refine ⟨(nx,r,mgZ y.2 nm),⟨k4,?_⟩,Nat.lt_succ_self _,Env.sub_refl _,S.sub_refl _⟩;rw [<- q2];simp only [finZ,zGr,ne_eq,not_true_eq_false,if_false,Bool.false_eq_true]
    . have hzb:(z == 0)=false:=by simpa using hz0
      (repeat (first | (refine zg ?_) | (refine zW ?_; simp -failIfUnchanged only [zB,zC]) | (refine zf ?_; simp -failIfUnchanged only [zV,zS,zd,zU]) | (refine zY ?_; simp -failIfUnchanged only [zR,zM,zB,zC,reduceIte]) | (refine zT ?_) | ((first | (refine ze polW yZ _ rfl rfl ?_) | (refine za polW mixed yZ _ rfl rfl (by kernel_rfl) (by kernel_rfl) ?_)); simp only [↓zAN,↓zk,↓zt,↓zBm,↓xe,↓zGI,zB,zH,zI,zK,zP,zm,yC,zBs,zB3,zb,zX,yW,qz,zAS,zCz,ki,List.map_cons,List.map_nil,List.length_cons,List.getD_cons_zero,List.getD_cons_succ,Bool.true_and,if_true,if_false,true_and,Nat.reduceEqDiff,reduceCtorEq,Bool.false_eq_true,jX,zBK,zEs,yZ,e0,yL,zAI,hpt,Option.isNone_some,Bool.not_false,beq_true,hzb])))
      refine xX rfl (fun e=>by cases e) (fun _=>?_);refine zY ?_;have hz:z=tagZ nm br x xs:=by rw [<- q2]; unfold finZ; rw [if_pos hz0]
      rw [<- hz];exact ⟨rfl,Env.sub_of _ _ (by simp [Env.get]),S.sub_refl _⟩
 . rintro ex e' s' ⟨rfl,he,hs⟩;simp only [zM,if_true,zB];refine zLa he hs ?_;generalize tagZ nm br x xs=z at h5 ⊢
   (repeat (first | (refine zg ?_) | (refine zW ?_; simp -failIfUnchanged only [zB,zC]) | (refine zf ?_; simp -failIfUnchanged only [zV,zS,zd,zU]) | (refine zY ?_; simp -failIfUnchanged only [zR,zM,zB,zC,reduceIte]) | (refine zT ?_) | ((first | (refine ze polW yZ _ rfl rfl ?_) | (refine za polW mixed yZ _ rfl rfl (by kernel_rfl) (by kernel_rfl) ?_)); simp only [↓zk,↓zt,↓xe,zB,zH,zI,zK,zP,zm,yC,zb,zX,yW,qz,if_true,if_false,Nat.reduceEqDiff,reduceCtorEq,yZ,yL])))
   refine xX rfl (fun ht=>?_) (fun ht=>?_)
   . obtain rfl:z=0:=by simpa using ht
     have hw:IntKind.i64.wrap (i+1)=i+1:=IntWalk.i64_in _ (by omega);rw [if_pos rfl,if_pos rfl]
     (repeat (first | (refine zg ?_) | (refine zW ?_; simp -failIfUnchanged only [zB,zC]) | (refine zf ?_; simp -failIfUnchanged only [zV,zS,zd,zU]) | (refine zY ?_; simp -failIfUnchanged only [zR,zM,zB,zC,reduceIte]) | (refine zT ?_) | ((first | (refine ze polW yZ _ rfl rfl ?_) | (refine za polW mixed yZ _ rfl rfl (by kernel_rfl) (by kernel_rfl) ?_)); simp only [↓zk,↓zt,↓yP,↓xe,↓zl,↓yD,↓z6,zB,yb,zH,xp,zI,zK,zP,zm,yC,zb,zX,yW,zAz,zv,zx,zq,zj,zp,implies_true,Nat.reduceLT,List.map_cons,List.map_nil,and_self,beq_self_eq_true,zy,zz,List.length_cons,List.length_nil,List.drop_zero,List.drop_succ_cons,List.take_succ_cons,List.take_zero,List.getD_cons_zero,List.getD_cons_succ,Bool.true_and,Bool.and_self,if_true,if_false,true_and,Nat.reduceAdd,Nat.reduceEqDiff,Nat.reduceLeDiff,reduceCtorEq,Bool.false_eq_true,Nat.zero_add,Nat.add_zero,Nat.lt_add_one,ql,zAf,qC,jf,kJ,qx,kg,zDB,zCA,zFb,zB9,yZ,h,hb',yL,hw,zBX])))
     refine zIt hm ?_
     (repeat (first | (refine zg ?_) | (refine zW ?_; simp -failIfUnchanged only [zB,zC]) | (refine zf ?_; simp -failIfUnchanged only [zV,zS,zd,zU]) | (refine zY ?_; simp -failIfUnchanged only [zR,zM,zB,zC,reduceIte]) | (refine zT ?_) | ((first | (refine ze polW yZ _ rfl rfl ?_) | (refine za polW mixed yZ _ rfl rfl (by kernel_rfl) (by kernel_rfl) ?_)); simp only [↓zt,zH,zI,zK,zP,zX,List.map_cons,List.map_nil,if_true,if_false,Nat.reduceEqDiff,reduceCtorEq,yZ])))
     refine qi [ptV b0,.at (.int .i64 i),.at (.int .i64 2),.at (.int .i64 (i+1))] rfl rfl rfl zAP (by simp only [List.map_cons,List.map_nil,List.all_cons,List.all_nil,zP,zm,yC,zH,zI,zK,if_true,if_false,Nat.reduceEqDiff,reduceCtorEq,yM,Bool.and_self]) (by simp only [List.map_cons,List.map_nil,zP,zm,yC,zH,zI,zK,if_true,if_false,Nat.reduceEqDiff,reduceCtorEq]; exact .keep (.keep (.keep (.keep .nil)))) (zC6 h ha n1 h0 h2 h3 (IntWalk.i64_in _ (by omega))) (fun r s hq=>?_) (fun c s hq=>(by cases hq.1));obtain ⟨hq,rfl⟩:=hq;injection hq with hq
     subst hq;simp only [↓zk];exact ⟨rfl,rfl⟩
   . have hz:¬ z=0:=by simpa using ht
     rw [if_neg hz,if_neg hz];refine zW ?_
     (repeat (first | (refine zg ?_) | (refine zW ?_; simp -failIfUnchanged only [zB,zC]) | (refine zf ?_; simp -failIfUnchanged only [zV,zS,zd,zU]) | (refine zY ?_; simp -failIfUnchanged only [zR,zM,zB,zC,reduceIte]) | (refine zT ?_) | ((first | (refine ze polW yZ _ rfl rfl ?_) | (refine za polW mixed yZ _ rfl rfl (by kernel_rfl) (by kernel_rfl) ?_)); simp only [↓zt,zH,zI,zK,zP,zX,List.map_cons,List.map_nil,if_true,if_false,Nat.reduceEqDiff,reduceCtorEq,yZ])))
     refine qi [ptV b0,.at (.int .i64 i),.at (.int .i64 2),.at (.int .i64 z)] rfl rfl rfl zAP (by simp only [List.map_cons,List.map_nil,List.all_cons,List.all_nil,zP,zm,yC,zH,zI,zK,if_true,if_false,Nat.reduceEqDiff,reduceCtorEq,yM,Bool.and_self]) (by simp only [List.map_cons,List.map_nil,zP,zm,yC,zH,zI,zK,if_true,if_false,Nat.reduceEqDiff,reduceCtorEq]; exact .keep (.keep (.keep (.keep .nil)))) (zC6 h ha n1 h0 h2 h3 (IntWalk.i64_in _ (by omega))) (fun r s hq=>?_) (fun c s hq=>(by cases hq.1));obtain ⟨hq,rfl⟩:=hq;injection hq with hq
     subst hq;simp only [↓zk];exact ⟨rfl,rfl⟩
end
section
open Go.Al Go.Den Go.RowKit
abbrev trL (x:LT1):MC×MC:=(trMC x.1,trMC x.2)
def ChainF (s:S):List LT1->Option Nat->List Nat->Prop
 | [],o,fp=>o=none/\fp=[]
 | x::r,o,fp=>∃ b bp bt nx fp',o=some b/\fp=b::bp::bt::fp'/\Al.look s.box b=some (lcs bp bt nx,3)/\zG s.ob bp=some (.mp (trMC x.1),[bp])/\zG s.ob bt=some (.mp (trMC x.2),[bt])/\ChainF s r nx fp'
theorem ChainF.chain {s:S}:∀ {xs:List LT1} {o:Option Nat} {fp:List Nat},ChainF s xs o fp->zFA s o xs
 | [],_,_,h=>h.1
 | _::_,_,_,⟨b,bp,bt,nx,fp',h1,_,h2,h3,h4,h5⟩=>⟨b,bp,bt,nx,h1,h2,h3,h4,h5.chain⟩
structure Beside (fp:List Nat) (s s':S):Prop where
 box:∀ j c,j ∉ fp->Al.look s.box j=some c->Al.look s'.box j=some c
 ob:∀ j c,j ∉ fp->zG s.ob j=some c->zG s'.ob j=some c
 tg:s'.tg=s.tg
 nx:s'.nx=s.nx
theorem Beside.refl (fp:List Nat) (s:S):Beside fp s s:=⟨fun _ _ _ h=>h,fun _ _ _ h=>h,rfl,rfl⟩
theorem Beside.trans {fp:List Nat} {a b c:S} (h:Beside fp a b) (k:Beside fp b c):Beside fp a c:=
 ⟨fun j x hj e=>k.box j x hj (h.box j x hj e),fun j x hj e=>k.ob j x hj (h.ob j x hj e),k.tg.trans h.tg,k.nx.trans h.nx⟩
theorem Beside.mono {fp fp':List Nat} {a b:S} (h:Beside fp a b) (hm:∀ j ∈ fp,j ∈ fp'):Beside fp' a b:=
 ⟨fun j x hj=>h.box j x fun e=>hj (hm j e),fun j x hj=>h.ob j x fun e=>hj (hm j e),h.tg,h.nx⟩
theorem ChainF.beside {s s':S} {fq:List Nat} (h:Beside fq s s'):∀ {xs:List LT1} {o:Option Nat} {fp:List Nat},ChainF s xs o fp->(∀ j ∈ fp,j ∉ fq)->ChainF s' xs o fp
 | [],_,_,k,_=>k
 | _::_,_,_,⟨b,bp,bt,nx,fp',h1,h2,h3,h4,h5,h6⟩,hd=>by
  subst h2;exact ⟨b,bp,bt,nx,fp',h1,rfl,h.box _ _ (hd b (by simp)) h3,h.ob _ _ (hd bp (by simp)) h4,h.ob _ _ (hd bt (by simp)) h5,h6.beside h fun j hj=>hd j (by simp [hj])⟩
theorem zHU:∀ (xs:List LT1) (o:Option Nat) (fp:List Nat) (s:S),ChainF s xs o fp->fp.Nodup ->
 ∃ s2,(∀ B g w,Al.Inv B g s w->Al.Inv B g s2 w)/\((xs=[]/\o=none/\fp=[])\/∃ b,o=some b/\xs≠[]/\b ∈ fp/\zG s2.ob b=some (.lv (xs.map trL),fp))/\Beside fp s s2
 | [],o,fp,s,h,_=>⟨s,fun _ _ _ h=>h,.inl ⟨rfl,h.1,h.2⟩,.refl _ _⟩
 | x::r,o,fp,s,h,hn=>by
  obtain ⟨b,bp,bt,nx,fp',rfl,rfl,h3,h4,h5,h6⟩:=h;simp only [List.nodup_cons,List.mem_cons,not_or] at hn;obtain ⟨⟨n1,n2,n3⟩,⟨n4,n5⟩,n6,n7⟩:=hn;obtain ⟨s1,k1,k2,k3⟩:=zHU r nx fp' s h6 n7;have e1:=k3.box b _ n3 h3;have e2:=k3.ob bp _ n5 h4;have e3:=k3.ob bt _ n6 h5;have hr:(r.map trL=[]/\nx=none/\fp' = [])\/∃ n,nx=some n/\zG s1.ob n=some (.lv (r.map trL),fp'):=by
   rcases k2 with ⟨rfl,q2,q3⟩ | ⟨n,q1,_,_,q2⟩
   . exact .inl ⟨rfl,q2,q3⟩
   . exact .inr ⟨n,q1,q2⟩
  have hnx:∀ n,nx=some n->n ∈ fp':=by
   intro n hn;rcases k2 with ⟨_,q2,_⟩ | ⟨n',q1,_,q2,_⟩
   . rw [q2] at hn; cases hn
   . rw [q1] at hn; injection hn with hn; subst hn; exact q2
  refine ⟨Al.closeOb s1 b (.lv (trL x::r.map trL)) (b::bp::bt::fp') (bp::bt::nx.toList),fun B g w hi=>(k1 B g w hi).closeLv (x:=trL x) (r:=r.map trL) e1 e2 e3 n4 hr,.inr ⟨b,rfl,by simp,by simp,?_⟩,?_⟩
  . show zG ((b,_,_)::_) b=_;rw [zJ,if_pos rfl]; rfl
  . refine (k3.mono fun j hj=>by simp [hj]).trans ⟨fun j c hj hc=>?_,fun j c hj hc=>?_,rfl,rfl⟩
    . show Al.look (wipe s1.box b) j=_;rw [yJ,if_neg (fun e=>hj (by simp [e]))]; exact hc
    . show zG ((b,_,_)::jC s1.ob _) j=_;rw [zJ,if_neg (fun e=>hj (by simp [e])),x9,if_pos ?_]
      . exact hc
      . have:j ∉ bp::bt::nx.toList:=by
         simp only [List.mem_cons,Option.mem_toList,not_or];refine ⟨fun e=>hj (by simp [e]),fun e=>hj (by simp [e]),fun e=>hj ?_⟩;have:=hnx j e;simp [this]
        simpa using this
theorem LMem.head {g:Gh} {w:World} {r:List (MC×MC)} {nx:Option Nat} {fp:List Nat} (h:LMem g w r nx fp):nx=fp.head?:=by
 cases r with
 | nil=>obtain ⟨rfl,rfl⟩:=h; rfl
 | cons x r=>obtain ⟨b,bp,bt,nx',el,fp',rfl,rfl,_⟩:=h; rfl
theorem Inv.openLv2 {B:Nat} {g:Gh} {st:S} {w:World} (hi:Al.Inv B g st w) {b:Nat} {x:MC×MC} {r:List (MC×MC)} {fp:List Nat} (hl:zG st.ob b=some (.lv (x::r),fp)) :
 ∃ bp bt fp',fp=b::bp::bt::fp'/\fp.Nodup/\(r=[]->fp' = [])/\(r≠[]->∃ n,fp'.head? = some n)/\Al.Inv B g (Al.openLv st b bp bt x r fp'.head? fp') w:=by
 obtain ⟨⟨_,hn,b',bp,bt,nx,el,fp',e1,rfl,h3,h4,h5,h6⟩,h2,h7⟩:=hi.ex.ob b _ _ hl;injection e1 with e1
 subst e1;have:=LMem.head h6;subst this;refine ⟨bp,bt,fp',rfl,hn,fun e=>?_,fun e=>?_,hi.openG hl hn h3 h4 h5 fun _=>h6⟩
 . subst e; exact h6.2
 . rcases h6.nil_or with ⟨e2,_⟩ | ⟨n,e2,_⟩
   . exact absurd e2 e
   . exact ⟨n,e2⟩
theorem zKA {P:Program} {f:FuncId} {args:List V} {Q:Outc->S->Prop}:∀ (xs:List LT1) (b:Nat) (fp:List Nat) (s:S),xs≠[]->zG s.ob b=some (.lv (xs.map trL),fp) ->
 (∀ s',ChainF s' xs (some b) fp->fp.Nodup->Beside fp s s'->FnC P f args s' Q)->FnC P f args s Q
 | [],_,_,_,h,_,_=>absurd rfl h
 | x::r,b,fp,s,_,hl,H=>by
  refine zC3 (φ:=∃ bp bt fp',fp=b::bp::bt::fp'/\fp.Nodup/\(r.map trL=[]->fp' = [])/\(r.map trL≠[]->∃ n,fp'.head? = some n)) (fun B g w hi=>?_) ?_
  . obtain ⟨bp,bt,fp',h1,h2,h3,h4,_⟩:=Inv.openLv2 hi hl;exact ⟨bp,bt,fp',h1,h2,h3,h4⟩
  rintro ⟨bp,bt,fp',rfl,hn,hr1,hr2⟩;have hn':=hn;simp only [List.nodup_cons,List.mem_cons,not_or] at hn';obtain ⟨⟨n1,n2,n3⟩,⟨n4,n5⟩,n6,n7⟩:=hn';refine zE2 (s':=Al.openLv s b bp bt (trL x) (r.map trL) fp'.head? fp') (fun B g w hi=>?_) ?_
  . obtain ⟨bp2,bt2,fp2,h1,_,_,_,h5⟩:=Inv.openLv2 hi hl;injection h1 with _ h1
    injection h1 with h1 h1'
    injection h1' with h2 h3
    subst h1; subst h2; subst h3;exact h5
  have ob0:(Al.openLv s b bp bt (trL x) (r.map trL) fp'.head? fp').ob=(bp,.mp (trMC x.1),[bp])::(bt,.mp (trMC x.2),[bt])::(lvR (r.map trL) fp'.head? fp' ++ jC s.ob fun k=>!(k == b)):=rfl;have hbes:Beside (b::bp::bt::fp') s (Al.openLv s b bp bt (trL x) (r.map trL) fp'.head? fp'):=by
   refine ⟨fun j c hj hc=>?_,fun j c hj hc=>?_,rfl,rfl⟩
   . show Al.look (lay s.box b _) j=_;rw [zN,if_neg (fun e=>hj (by simp [e]))]; exact hc
   . rw [ob0,zJ,if_neg (fun e=>hj (by simp [e])),zJ,if_neg (fun e=>hj (by simp [e])),jW];have h0:zG (lvR (r.map trL) fp'.head? fp') j=none:=by
      cases e:zG (lvR (r.map trL) fp'.head? fp') j with
      | none=>rfl
      | some p=>
       obtain ⟨o,f⟩:=p;obtain ⟨q1,_⟩:=zIr e;refine absurd ?_ hj;have:j ∈ fp':=by
        cases fp' with
        | nil=>cases q1
        | cons y t=>injection q1 with q1; simp [q1]
       simp [this]
     rw [h0,x9,if_pos (by simpa using fun e=>hj (by simp [e]))];exact hc
  have hb:Al.look (Al.openLv s b bp bt (trL x) (r.map trL) fp'.head? fp').box b=some (lcs bp bt fp'.head?,3):=by
   show Al.look (lay s.box b _) b=_;rw [zN,if_pos rfl]
  have h1:zG (Al.openLv s b bp bt (trL x) (r.map trL) fp'.head? fp').ob bp=some (.mp (trMC x.1),[bp]):=by rw [ob0,zJ,if_pos rfl]
  have h2:zG (Al.openLv s b bp bt (trL x) (r.map trL) fp'.head? fp').ob bt=some (.mp (trMC x.2),[bt]):=by rw [ob0,zJ,if_neg (fun e=>n4 e),zJ,if_pos rfl]
  by_cases hr:r=[]
  . subst hr;have:=hr1 rfl;subst this;exact H _ ⟨b,bp,bt,none,[],rfl,rfl,hb,h1,h2,rfl,rfl⟩ hn hbes
  . obtain ⟨n,hn2⟩:=hr2 (by simpa using hr);have hlv:zG (Al.openLv s b bp bt (trL x) (r.map trL) fp'.head? fp').ob n=some (.lv (r.map trL),fp'):=by
     have hm:n ∈ fp':=List.mem_of_mem_head? hn2;rw [ob0,zJ,if_neg (fun e:bp=n=>n5 (by rw [e]; exact hm)),zJ,if_neg (fun e:bt=n=>n6 (by rw [e]; exact hm)),jW];obtain ⟨y,t,rfl⟩:∃ y t,r=y::t:=by cases r with | nil=>exact absurd rfl hr | cons y t=>exact ⟨y,t,rfl⟩
     rw [hn2];have h0:zG (lvR (List.map trL (y::t)) (some n) fp') n=some (.lv (List.map trL (y::t)),fp'):=by
      show zG [(n,_,fp')] n=_;rw [zJ,if_pos rfl]
     rw [h0];rfl
    refine zKA r n fp' _ hr hlv fun s' c1 c2 c3=>?_;exact H s' ⟨b,bp,bt,fp'.head?,fp',rfl,rfl,c3.box _ _ n3 hb,c3.ob _ _ n5 h1,c3.ob _ _ n6 h2,by rw [hn2]; exact c1⟩ hn (hbes.trans (c3.mono fun j hj=>by simp [hj]))
end
section
open Go.Al Go.Den Go.RowKit
abbrev wkV (y:WS):WkT×Unit:=((y.1,y.2.1,y.2.2.1,y.2.2.2.1,y.2.2.2.2,(),()),())
theorem zDO {P:Program} {f:Nat} {aa rs:LK} {c:zA aa->WW (zA rs)}
 (H:∀ (q:WS) a y,c a q=some y->∀ st vx va r1 r2,VKs CC st [wkK] (wkV q) vx r1->VKs CC st aa a va r2->(r1++r2).Nodup->FnC P f (vx++va) (subS st (r1++r2)) (qa CC syn [wkK] rs vx (some (wkV y.2,y.1)))):CPOk CC P syn f (cW aa rs c):=by
 intro x a R pan K r hr;obtain ⟨⟨x1,x2,x3,x4,x5,x6,u⟩,u'⟩:=x;have hr:(Option.bind (c a (x1,x2,x3,x4,x5)) fun y=>K (wkV y.2) y.1)=some r:=hr;cases hc:c a (x1,x2,x3,x4,x5) with
 | none=>rw [hc] at hr; cases hr
 | some y=>
  rw [hc] at hr;exact ⟨some (wkV y.2,y.1),hr,fun s vx va r1 r2 q1 q2 q3=>H _ a y hc s vx va r1 r2 q1 q2 q3⟩
theorem zAu {s:S} {q:WS} {vx:List V} {r:List Res} (h:VKs CC s [wkK] (wkV q) vx r) :
 ∃ (b0 bo cap b:Nat) (fp:List Nat) (bf:Nat) (ff:List Nat) (bm:Nat) (fm:List Nat) (o6:Option Nat),vx=[ptV b0]/\Al.look s.box b0=some ([tkV q.1,.at (.slice (some ⟨bo,0,none⟩) q.2.1.length cap),ptV b,.at (.map (some bf)),.at (.map (some bm)),.at (pO o6)],6)/\q.2.1.length<=cap/\Al.look s.box bo=some (bdC q.2.1,cap * 2) /\
  zG s.ob b=some (.lv (q.2.2.1.map trL),fp)/\zG s.ob bf=some (.mp (trMC q.2.2.2.1),ff)/\zG s.ob bm=some (.mp (trMC q.2.2.2.2),fm)/\r=[.inr b0,.inr bo,.ob b,.ob bf,.ob bm]:=by
 obtain ⟨y1,y2,y3,y4,y5⟩:=q;simp only [VKs,VK] at h;obtain ⟨v0,vs0,t1,t2,rfl,rfl,⟨b0,cs,t3,rfl,e1,e2,rfl⟩,rfl,rfl⟩:=h;obtain ⟨v1,w1,a1,a2,rfl,rfl,⟨rfl,rfl⟩,v2,w2,a3,a4,rfl,rfl,⟨b2,cap,rfl,c2,d2,rfl⟩,v3,w3,a5,a6,rfl,rfl,⟨b3,fp3,rfl,c3,rfl⟩,v4,w4,a7,a8,rfl,rfl,⟨b4,fp4,rfl,c4,rfl⟩,v5,w5,a9,a10,rfl,rfl,⟨b5,fp5,rfl,c5,rfl⟩,v6,w6,a11,a12,rfl,rfl,⟨⟨o6,rfl⟩,rfl⟩,rfl,rfl⟩:=e2;exact ⟨b0,b2,cap,b3,fp3,b4,fp4,b5,fp5,o6,rfl,e1,c2,d2,c3,c4,c5,rfl⟩
theorem zDw {s:S} {q:WS} {b0 bo cap n b bf bm:Nat} {fp ff fm:List Nat} {o6:Option Nat} (hn:n=q.2.1.length) (h1:Al.look s.box b0=some ([tkV q.1,.at (.slice (some ⟨bo,0,none⟩) n cap),ptV b,.at (.map (some bf)),.at (.map (some bm)),.at (pO o6)],6)) (h2:q.2.1.length<=cap) (h3:Al.look s.box bo=some (bdC q.2.1,cap * 2))
 (h4:zG s.ob b=some (.lv (q.2.2.1.map trL),fp)) (h5:zG s.ob bf=some (.mp (trMC q.2.2.2.1),ff)) (h6:zG s.ob bm=some (.mp (trMC q.2.2.2.2),fm)):VKs CC s [wkK] (wkV q) [ptV b0] [.inr b0,.inr bo,.ob b,.ob bf,.ob bm]:=by
 subst hn;obtain ⟨y1,y2,y3,y4,y5⟩:=q;simp only [VKs,VK];exact ⟨_,[],_,[],rfl,rfl,⟨b0,_,[.inr bo,.ob b,.ob bf,.ob bm],rfl,h1,⟨_,_,[],[.inr bo,.ob b,.ob bf,.ob bm],rfl,rfl,⟨rfl,rfl⟩,_,_,[.inr bo],[.ob b,.ob bf,.ob bm],rfl,rfl,⟨bo,cap,rfl,h2,h3,rfl⟩,_,_,[.ob b],[.ob bf,.ob bm],rfl,rfl,⟨b,fp,rfl,h4,rfl⟩,_,_,[.ob bf],[.ob bm],rfl,rfl,⟨bf,ff,rfl,h5,rfl⟩,_,_,[.ob bm],[],rfl,rfl,⟨bm,fm,rfl,h6,rfl⟩,_,[],[],[],rfl,rfl,⟨⟨o6,rfl⟩,rfl⟩,rfl,rfl⟩,rfl⟩,rfl,rfl⟩
theorem zJf {s:S} {b0 bo b bf bm:Nat} {fp ff fm:List Nat} {cs ds:List V×Nat} {o:OV} {of om:OV} {B:Nat} {g:Gh} {w:World} (hi:Al.Inv B g s w) (h1:Al.look s.box b0=some cs) (h2:Al.look s.box bo=some ds) (h4:zG s.ob b=some (o,fp)) (h5:zG s.ob bf=some (of,ff)) (h6:zG s.ob bm=some (om,fm)) (n1:b≠bf) (n2:b≠bm):b0 ∉ fp/\bo ∉ fp/\bf ∉ fp/\bm ∉ fp:=by
 refine ⟨fun hm=>?_,fun hm=>?_,fun hm=>?_,fun hm=>?_⟩
 . have:=((hi.ex.ob b _ _ h4).2.2 b0 hm).2.2.2.1; rw [h1] at this; cases this
 . have:=((hi.ex.ob b _ _ h4).2.2 bo hm).2.2.2.1; rw [h2] at this; cases this
 . exact n1 (hi.ex.obd b _ _ bf _ _ bf h4 h5 hm (hi.ex.ob bf _ _ h5).2.1)
 . exact n2 (hi.ex.obd b _ _ bm _ _ bm h4 h6 hm (hi.ex.ob bm _ _ h6).2.1)
theorem jh {P:Program} {f:FuncId} {ar:List V} {Q Q':Outc->S->Prop} {s:S} (h:FnC P f ar s Q) (hq:∀ oc s',Q oc s'->Q' oc s'):FnC P f ar s Q':=
 zCF (fun B g w vs hi hgl hv=>(h B g w vs hi hgl hv).mono fun e w' ⟨g',s',k1,k2,k3⟩=>by
  refine ⟨g',s',k1,k2,?_⟩;cases e with
  | outgrown=>exact k3.elim
  | panicked c=>exact ⟨s',fun _ _ _ h=>h,hq _ _ k3⟩
  | returned v=>obtain ⟨r,k4,k5⟩:=k3; exact ⟨r,k4,s',fun _ _ _ h=>h,hq _ _ k5⟩)
theorem zHJ {P:Program} {f:Nat} {va:List V} {st:S} {q:WS} {vx:List V} {r1:List Res} (h1:VKs CC st [wkK] (wkV q) vx r1) (hn:r1.Nodup) {out':List BindT} {xs':List LT1} (hx:xs'≠[]) (hlen:out'.length=q.2.1.length)
 (H:∀ (s:S) (b0 bo cap b:Nat) (fp:List Nat) (v3 v4 v5:V),Al.look s.box b0=some ([tkV q.1,.at (.slice (some ⟨bo,0,none⟩) q.2.1.length cap),ptV b,v3,v4,v5],6)->Al.look s.box bo=some (bdC q.2.1,cap * 2)->q.2.1.length<=cap->bo≠b0->b0 ∉ fp->bo ∉ fp->q.2.2.1≠[]->ChainF s q.2.2.1 (some b) fp->fp.Nodup ->
  FnC P f ([ptV b0]++va) s (fun oc s'=>oc = .ret (.tup [])/\s'.box=lay s.box bo (bdC out',cap * 2)/\s'.tg=s.tg/\s'.nx=s.nx/\ChainF s' xs' (some b) fp/\∀ j c,j ∉ fp->zG s.ob j=some c->zG s'.ob j=some c)) :
 FnC P f (vx++va) (subS st r1) (qa CC syn [wkK] [] vx (some (wkV (q.1,out',xs',q.2.2.2.1,q.2.2.2.2),()))):=by
 obtain ⟨b0,bo,cap,b,fp,bf,ff,bm,fm,o6,rfl,k1,k2,k3,k4,k5,k6,rfl⟩:=zAu h1;have e1:=(yI st [.inr b0,.inr bo,.ob b,.ob bf,.ob bm] b0).1 (by simp);have e3:=(yI st [.inr b0,.inr bo,.ob b,.ob bf,.ob bm] bo).1 (by simp);have e4:=(yH st [.inr b0,.inr bo,.ob b,.ob bf,.ob bm] b).1 (by simp);have e5:=(yH st [.inr b0,.inr bo,.ob b,.ob bf,.ob bm] bf).1 (by simp);have e6:=(yH st [.inr b0,.inr bo,.ob b,.ob bf,.ob bm] bm).1 (by simp);rw [k1] at e1; rw [k3] at e3; rw [k4] at e4; rw [k5] at e5; rw [k6] at e6;generalize subS st [.inr b0,.inr bo,.ob b,.ob bf,.ob bm]=s0 at e1 e3 e4 e5 e6 ⊢;have n1:b≠bf:=by rintro rfl; simp at hn
 have n2:b≠bm:=by rintro rfl; simp at hn
 have n3:bo≠b0:=by rintro rfl; simp at hn
 refine zC3 (φ:=q.2.2.1≠[]/\b0 ∉ fp/\bo ∉ fp/\bf ∉ fp/\bm ∉ fp) (fun B g w hi=>⟨?_,zJf hi e1 e3 e4 e5 e6 n1 n2⟩) ?_
 . have:=(hi.ex.ob b _ _ e4).1.1;simpa using this
 rintro ⟨m0,m1,m2,m3,m4⟩;refine zKA _ b fp s0 m0 e4 fun s1 c1 c2 c3=>?_;refine zCF (jh (H s1 b0 bo cap b fp _ _ _ (c3.box _ _ m1 e1) (c3.box _ _ m2 e3) k2 n3 m1 m2 m0 c1 c2) ?_);rintro oc s' ⟨rfl,p1,p2,p3,p4,p5⟩;obtain ⟨s2,t1,t2,t3⟩:=zHU _ _ _ _ p4 c2;refine ⟨s2,t1,?_⟩;rcases t2 with ⟨t2,_⟩ | ⟨b',t2,_,_,t4⟩
 . exact absurd t2 hx
 injection t2 with t2
 subst t2;refine ⟨[],[.inr b0,.inr bo,.ob b,.ob bf,.ob bm],[],zDw (q:=(q.1,out',xs',q.2.2.2.1,q.2.2.2.2)) (n:=q.2.1.length) (cap:=cap) (o6:=o6) (fp:=fp) (ff:=ff) (fm:=fm) hlen.symm ?_ (by rw [hlen]; exact k2) ?_ t4 ?_ ?_,⟨rfl,rfl⟩,by simpa using hn,rfl⟩
 . exact t3.box _ _ m1 (by rw [p1,zN,if_neg n3]; exact c3.box _ _ m1 e1)
 . exact t3.box _ _ m2 (by rw [p1,zN,if_pos rfl])
 . exact t3.ob _ _ m3 (p5 _ _ m3 (c3.ob _ _ m3 e5))
 . exact t3.ob _ _ m4 (p5 _ _ m4 (c3.ob _ _ m4 e6))
end
section
open Go.Al Go.Den Go.RowKit
attribute [local congr] ym xO xT xn yO yq yF yE yn xM yo xW yw yk yB yK yg xZ xU yS xL yj yU yR yr yu yV yl yh yY xm xY xV xK xP xN yi yX yT
set_option maxRecDepth 100000 in
theorem ok102n {b0:Nat} {i:Int} {s:S} (h:i < 0):FnC Tryz.prog 102 [ptV b0,.at (.int .i64 i)] s fun oc s'=>oc = .ret (.tup [])/\s' = s:=by
 refine yz Tryz.func102 rfl Tryz.ntmps102 Tryz.results102 (by show 2<=35; decide) fun B=>?_;simp only [List.cons_append,List.nil_append,List.append_nil,xg,Nat.reduceAdd];have hi0:decide (i < 0)=true:=by simpa using h
 (repeat (first | (refine zg ?_) | (refine zW ?_; simp -failIfUnchanged only [zB,zC]) | (refine zf ?_; simp -failIfUnchanged only [zV,zS,zd,zU]) | (refine zY ?_; simp -failIfUnchanged only [zR,zM,zB,zC,reduceIte]) | (refine zT ?_) | ((first | (refine ze polW jE _ rfl rfl ?_) | (refine za polW mixed jE _ rfl rfl (by kernel_rfl) (by kernel_rfl) ?_)); simp only [↓zk,↓zt,↓xe,zB,zH,zI,zK,zP,zm,yC,zb,zX,yW,zJV,if_true,if_false,Nat.reduceEqDiff,reduceCtorEq,jE,yL])))
 refine xX rfl (fun _=>?_) (fun e=>by rw [hi0] at e; cases e);refine zf ?_;exact ⟨rfl,rfl⟩
def c102 (a:Int×Unit):WW Unit:=fun q=>
 if a.1 < 0 then some ((),q) else
 match q.2.2.1 with
 | []=>none
 | x::r=>
  if a.1 < q.1.length/\a.1 < q.2.1.length/\q.1.length < 1000000/\0<=mgZ x.1 (q.1.getD a.1.toNat tokD).text/\mgZ x.1 (q.1.getD a.1.toNat tokD).text < 1000000 then
   some ((),(q.1,q.2.1.set a.1.toNat ⟨1,(if mgZ x.1 (q.1.getD a.1.toNat tokD).text=0 then a.1+1 else mgZ x.1 (q.1.getD a.1.toNat tokD).text) - 1⟩,
    (if mgZ x.1 (q.1.getD a.1.toNat tokD).text=0 then qO x.1 (q.1.getD a.1.toNat tokD).text (a.1+1) else x.1,x.2)::r,q.2.2.2))
  else none
theorem ok102:CPOk CC Tryz.prog syn 102 (cW ([.int .i64]:LK) ([]:LK) c102):=by
 refine zDO fun q a y hy st vx va r1 r2 h1 h2 hn=>?_;obtain ⟨i,ua⟩:=a;change Int at i;simp only [VKs,VK] at h2;obtain ⟨va,vs',q1,q2,rfl,rfl,⟨rfl,rfl⟩,rfl,rfl⟩:=h2;simp only [List.append_nil] at hn ⊢;unfold c102 at hy;simp only at hy;split at hy
 . rename_i hi;injection hy with hy
   subst hy;obtain ⟨b0,bo,cap,b,fp,bf,ff,bm,fm,o6,rfl,k1,k2,k3,k4,k5,k6,rfl⟩:=zAu h1;refine jh (ok102n hi) ?_;rintro oc s' ⟨rfl,rfl⟩;exact ⟨[],_,[],qg _ _ h1 (zCU st _),⟨rfl,rfl⟩,by simpa using hn,rfl⟩
 . rename_i hi;split at hy
   . cases hy
   . rename_i x r hxs;split at hy
     . rename_i hc;obtain ⟨c1,c2,c3,c4⟩:=hc;injection hy with hy
       subst hy;refine zHJ h1 hn (by simp) (by simp) fun s b0 bo cap b fp v3 v4 v5 e1 e2 e3 n1 n0 n9 _ e4 e5=>?_;rw [hxs] at e4;obtain ⟨b',bp,bt,nx,fp',hb,rfl,d1,d2,d3,d4⟩:=e4;injection hb with hb
       subst hb;have m1:=e5;simp only [List.nodup_cons,List.mem_cons,not_or] at m1 n0;obtain ⟨⟨p1,p2,p3⟩,⟨p4,p5⟩,p6,p7⟩:=m1;have n2:bo≠b:=fun e=>n9 (by simp [e]);refine jh (ok102x e1 e2 d1 d2 n1 (fun e=>n0.1 e.symm) (by omega) c1 c2 e3 c3 rfl c4) ?_;rintro oc s' ⟨rfl,rfl⟩;refine ⟨rfl,rfl,rfl,rfl,⟨b,bp,bt,nx,fp',rfl,rfl,?_,?_,?_,?_⟩,fun j c hj hc=>?_⟩
       . show Al.look (lay s.box bo _) b=_;rw [zN,if_neg n2]; exact d1
       . by_cases hz:mgZ x.1 (q.1.getD i.toNat tokD).text=0
         . simp only [if_pos hz];rw [zJ,if_pos rfl]
         . simp only [if_neg hz]; exact d2
       . by_cases hz:mgZ x.1 (q.1.getD i.toNat tokD).text=0
         . simp only [if_pos hz];rw [zJ,if_neg p4]; exact d3
         . simp only [if_neg hz]; exact d3
       . refine ChainF.beside (fq:=[bo,bp]) (?_:Beside _ _ _) d4 fun j hj hm=>?_;refine ⟨fun j c hj hc=>?_,fun j c hj hc=>?_,rfl,rfl⟩
         . show Al.look (lay s.box bo _) j=_;rw [zN,if_neg (fun e=>hj (by simp [e]))]; exact hc
         . by_cases hz:mgZ x.1 (q.1.getD i.toNat tokD).text=0
           . simp only [if_pos hz];rw [zJ,if_neg (fun e=>hj (by simp [e]))]; exact hc
           . simp only [if_neg hz]; exact hc
         . simp only [List.mem_cons,List.not_mem_nil,or_false] at hm;rcases hm with rfl | rfl
           . exact n9 (by simp [hj])
           . exact p5 hj
       . by_cases hz:mgZ x.1 (q.1.getD i.toNat tokD).text=0
         . simp only [if_pos hz];rw [zJ,if_neg (fun e=>hj (by simp [e]))]; exact hc
         . simp only [if_neg hz]; exact hc
     . cases hy
def c125 (a:Int×Unit):WW Unit:=fun q=>
 if 0<=a.1/\a.1 < q.1.length/\a.1 < q.2.1.length/\q.2.2.1≠[]/\0<=kW (q.1.getD a.1.toNat tokD).text q.2.2.1/\kW (q.1.getD a.1.toNat tokD).text q.2.2.1 < 1000000 then
  some ((),(q.1,q.2.1.set a.1.toNat ⟨1,kW (q.1.getD a.1.toNat tokD).text q.2.2.1 - 1⟩,q.2.2.1,q.2.2.2))
 else none
theorem ok125:CPOk CC Tryz.prog syn 125 (cW ([.int .i64]:LK) ([]:LK) c125):=by
 refine zDO fun q a y hy st vx va r1 r2 h1 h2 hn=>?_;obtain ⟨i,ua⟩:=a;change Int at i;simp only [VKs,VK] at h2;obtain ⟨va,vs',q1,q2,rfl,rfl,⟨rfl,rfl⟩,rfl,rfl⟩:=h2;simp only [List.append_nil] at hn ⊢;unfold c125 at hy;simp only at hy;split at hy
 . rename_i hc;obtain ⟨c0,c1,c2,c3,c4⟩:=hc;injection hy with hy
   subst hy;refine zHJ h1 hn c3 (by simp) fun s b0 bo cap b fp v3 v4 v5 e1 e2 e3 n1 n0 n9 _ e4 e5=>?_;refine jh (ok125x (o:=some b) e1 e2 e4.chain n1 c0 c1 c2 e3 rfl c4) ?_;rintro oc s' ⟨rfl,rfl⟩;refine ⟨rfl,rfl,rfl,rfl,ChainF.beside (fq:=[bo]) (?_:Beside _ _ _) e4 fun j hj hm=>?_,fun j c hj hc=>hc⟩
   . refine ⟨fun j c hj hc=>?_,fun j c hj hc=>hc,rfl,rfl⟩;show Al.look (lay s.box bo _) j=_;rw [zN,if_neg (fun e=>hj (by simp [e]))]; exact hc
   . simp only [List.mem_singleton] at hm;subst hm; exact n9 hj
 . cases hy
def c126 (a:Int×Bool×Unit):WW Unit:=fun q=>
 match q.2.2.1 with
 | []=>none
 | x::r=>
  if 0<=a.1/\a.1 < q.1.length/\a.1 < q.2.1.length/\q.1.length < 1000000/\0<=tagZ (q.1.getD a.1.toNat tokD).text a.2.1 x r/\tagZ (q.1.getD a.1.toNat tokD).text a.2.1 x r < 1000000 then
   some ((),(q.1,q.2.1.set a.1.toNat ⟨2,(if tagZ (q.1.getD a.1.toNat tokD).text a.2.1 x r=0 then a.1+1 else tagZ (q.1.getD a.1.toNat tokD).text a.2.1 x r) - 1⟩,
    (x.1,if tagZ (q.1.getD a.1.toNat tokD).text a.2.1 x r=0 then qO x.2 (q.1.getD a.1.toNat tokD).text (a.1+1) else x.2)::r,q.2.2.2))
  else none
theorem ok126:CPOk CC Tryz.prog syn 126 (cW ([.int .i64,.bool]:LK) ([]:LK) c126):=by
 refine zDO fun q a y hy st vx va r1 r2 h1 h2 hn=>?_;obtain ⟨i,br,ua⟩:=a;change Int at i;change Bool at br;simp only [VKs,VK] at h2;obtain ⟨va,vs',q1,q2,rfl,rfl,⟨rfl,rfl⟩,vb,vs2,q3,q4,rfl,rfl,⟨rfl,rfl⟩,rfl,rfl⟩:=h2;simp only [List.append_nil] at hn ⊢;unfold c126 at hy;simp only at hy;split at hy
 . cases hy
 . rename_i x r hxs;split at hy
   . rename_i hc;obtain ⟨c0,c1,c2,c3,c4⟩:=hc;injection hy with hy
     subst hy;refine zHJ h1 hn (by simp) (by simp) fun s b0 bo cap b fp v3 v4 v5 e1 e2 e3 n1 n0 n9 _ e4 e5=>?_;rw [hxs] at e4;obtain ⟨b',bp,bt,nx,fp',hb,rfl,d1,d2,d3,d4⟩:=e4;injection hb with hb
     subst hb;have m1:=e5;simp only [List.nodup_cons,List.mem_cons,not_or] at m1 n0;obtain ⟨⟨p1,p2,p3⟩,⟨p4,p5⟩,p6,p7⟩:=m1;have n2:bo≠b:=fun e=>n9 (by simp [e]);refine jh (ok126x (x:=x) (xs:=r) (br:=br) e1 e2 d1 d3 d4.chain n1 c0 c1 c2 e3 c3 rfl c4) ?_;rintro oc s' ⟨rfl,rfl⟩;refine ⟨rfl,rfl,rfl,rfl,⟨b,bp,bt,nx,fp',rfl,rfl,?_,?_,?_,?_⟩,fun j c hj hc=>?_⟩
     . show Al.look (lay s.box bo _) b=_;rw [zN,if_neg n2]; exact d1
     . by_cases hz:tagZ (q.1.getD i.toNat tokD).text br x r=0
       . simp only [if_pos hz];rw [zJ,if_neg (fun e=>p4 e.symm)]; exact d2
       . simp only [if_neg hz]; exact d2
     . by_cases hz:tagZ (q.1.getD i.toNat tokD).text br x r=0
       . simp only [if_pos hz];rw [zJ,if_pos rfl]
       . simp only [if_neg hz]; exact d3
     . refine ChainF.beside (fq:=[bo,bt]) (?_:Beside _ _ _) d4 fun j hj hm=>?_;refine ⟨fun j c hj hc=>?_,fun j c hj hc=>?_,rfl,rfl⟩
       . show Al.look (lay s.box bo _) j=_;rw [zN,if_neg (fun e=>hj (by simp [e]))]; exact hc
       . by_cases hz:tagZ (q.1.getD i.toNat tokD).text br x r=0
         . simp only [if_pos hz];rw [zJ,if_neg (fun e=>hj (by simp [e]))]; exact hc
         . simp only [if_neg hz]; exact hc
       . simp only [List.mem_cons,List.not_mem_nil,or_false] at hm;rcases hm with rfl | rfl
         . exact n9 (by simp [hj])
         . exact p6 hj
     . by_cases hz:tagZ (q.1.getD i.toNat tokD).text br x r=0
       . simp only [if_pos hz];rw [zJ,if_neg (fun e=>hj (by simp [e]))]; exact hc
       . simp only [if_neg hz]; exact hc
   . cases hy
end
section
open Go.Al Go.Den Go.RowKit
def c46 (a:Int×Unit) (l:List TokT):Option (Str×Unit):=if 0<=a.1/\a.1 < l.length then some ((l.getD a.1.toNat tokD).text,()) else none
theorem ok46:CROk CC Tryz.prog 46 (cRW ([.int .i64]:LK) ([.str]:LK) c46):=by
 intro x R K r hr;obtain ⟨⟨l,out,u1,u2,u3,u4,u5⟩,i,u6⟩:=x;change Int at i;replace hr:Option.bind (c46 (i,()) l) (fun y=>K y)=some r:=hr;unfold c46 at hr;split at hr
 rotate_left
 . cases hr
 rename_i h;obtain ⟨h0,h1⟩:=h;refine ⟨((l.getD i.toNat tokD).text,()),hr,fun s va q hv hn=>?_⟩;simp only [VKs,VK] at hv;obtain ⟨v0,vs0,t1,t2,rfl,rfl,⟨b0,cs,t3,rfl,e1,e2,rfl⟩,v7,w7,t4,t5,rfl,rfl,⟨rfl,rfl⟩,rfl,rfl⟩:=hv;obtain ⟨v1,w1,a1,a2,rfl,rfl,⟨rfl,rfl⟩,v2,w2,a3,a4,rfl,rfl,⟨b2,cap,rfl,c2,d2,rfl⟩,v3,w3,a5,a6,rfl,rfl,⟨_,rfl⟩,v4,w4,a7,a8,rfl,rfl,⟨_,rfl⟩,v5,w5,a9,a10,rfl,rfl,⟨_,rfl⟩,v6,w6,a11,a12,rfl,rfl,⟨_,rfl⟩,rfl,rfl⟩:=e2;refine ⟨[.at (.string ⟨(l.getD i.toNat tokD).text.toArray⟩)],fun s'=>⟨_,[],[],[],rfl,rfl,⟨rfl,rfl⟩,rfl,rfl⟩,?_⟩;have e3:=(yI s ([.inr b0]++([]++([.inr b2]++[]))++[]) b0).1 (by simp);rw [e1] at e3;exact zDy e3 h0 h1
theorem zEm {P:Program} {f:FuncId} {ar:List V} {Q:Outc->S->Prop} {s:S} (h:FnC P f ar s fun oc s1=>∀ B g w,Al.Inv B g s1 w->∃ s2,Al.Inv B g s2 w/\Q oc s2):FnC P f ar s Q:=by
 intro B g w vs hi hgl hv;refine (h B g w vs hi hgl hv).mono ?_;rintro e w' ⟨g',s1,k1,k2,k3⟩;cases e with
 | outgrown=>exact k3.elim
 | panicked c=>obtain ⟨s2,k4,k5⟩:=k3 _ _ _ k2; exact ⟨g',s2,k1,k4,k5⟩
 | returned v=>obtain ⟨r,k6,k7⟩:=k3; obtain ⟨s2,k4,k5⟩:=k7 _ _ _ k2; exact ⟨g',s2,k1,k4,r,k6,k5⟩
def c47 (_:Unit):WW Unit:=fun q=>some ((),(q.1,q.2.1,([],[])::q.2.2.1,q.2.2.2))
theorem zJC {s:S} {q:WS} {b0 bo cap b bp bt bf bm:Nat} {fp ff fm:List Nat} {o o6:Option Nat} (h1:Al.look s.box b0=some ([tkV q.1,.at (.slice (some ⟨bo,0,none⟩) q.2.1.length cap),.at (pO o),.at (.map (some bf)),.at (.map (some bm)),.at (pO o6)],6)) (h2:q.2.1.length<=cap) (h3:Al.look s.box bo=some (bdC q.2.1,cap * 2))
 (h4:(q.2.2.1=[]/\o=none/\fp=[])\/∃ n,o=some n/\zG s.ob n=some (.lv (q.2.2.1.map trL),fp)) (h5:zG s.ob bf=some (.mp (trMC q.2.2.2.1),ff)) (h6:zG s.ob bm=some (.mp (trMC q.2.2.2.2),fm)) (n1:o≠some bf) (n2:o≠some bm) (n3:bf≠bm) (n4:bo≠b0)
 (k1:Al.look s.box b=none) (k2:zG s.ob bp=none) (k3:zG s.ob bt=none) (k4:bt≠bp) {B:Nat} {g:Gh} {w:World}
 (hi:Al.Inv B g ⟨lay (lay s.box b (lcs bp bt o,3)) b0 ([tkV q.1,.at (.slice (some ⟨bo,0,none⟩) q.2.1.length cap),ptV b,.at (.map (some bf)),.at (.map (some bm)),.at (pO o6)],6),s.tg,s.nx,(bt,.mp [],[bt])::(bp,.mp [],[bp])::s.ob⟩ w) :
 ∃ s2,Al.Inv B g s2 w/\qa CC syn [wkK] [] [ptV b0] (some (wkV (q.1,q.2.1,([],[])::q.2.2.1,q.2.2.2),())) (.ret (.tup [])) s2:=by
 have m1:b≠b0:=fun e=>by rw [e,h1] at k1; cases k1
 have m2:b≠bo:=fun e=>by rw [e,h3] at k1; cases k1
 have f1:bf≠bp:=fun e=>by rw [e,k2] at h5; cases h5
 have f2:bf≠bt:=fun e=>by rw [e,k3] at h5; cases h5
 have f3:bm≠bp:=fun e=>by rw [e,k2] at h6; cases h6
 have f4:bm≠bt:=fun e=>by rw [e,k3] at h6; cases h6
 have hob:∀ j c,zG s.ob j=some c->zG ((bt,OV.mp [],[bt])::(bp,OV.mp [],[bp])::s.ob) j=some c:=fun j c hj=>by
  rw [zJ,if_neg (fun e=>by rw [<- e,k3] at hj; cases hj),zJ,if_neg (fun e=>by rw [<- e,k2] at hj; cases hj)]; exact hj
 generalize hs:(⟨lay (lay s.box b (lcs bp bt o,3)) b0 ([tkV q.1,.at (.slice (some ⟨bo,0,none⟩) q.2.1.length cap),ptV b,.at (.map (some bf)),.at (.map (some bm)),.at (pO o6)],6),s.tg,s.nx,(bt,.mp [],[bt])::(bp,.mp [],[bp])::s.ob⟩:S)=s1 at hi;have g1:Al.look s1.box b=some (lcs bp bt o,3):=by rw [<- hs]; show Al.look (lay (lay s.box b _) b0 _) b=_; rw [zN,if_neg (fun e=>m1 e.symm),zN,if_pos rfl]
 have g0:Al.look s1.box b0=some ([tkV q.1,.at (.slice (some ⟨bo,0,none⟩) q.2.1.length cap),ptV b,.at (.map (some bf)),.at (.map (some bm)),.at (pO o6)],6):=by rw [<- hs]; show Al.look (lay (lay s.box b _) b0 _) b0=_; rw [zN,if_pos rfl]
 have go:Al.look s1.box bo=some (bdC q.2.1,cap * 2):=by rw [<- hs]; show Al.look (lay (lay s.box b _) b0 _) bo=_; rw [zN,if_neg (fun e=>n4 e.symm),zN,if_neg m2]; exact h3
 have g2:zG s1.ob bp=some (.mp (trMC []),[bp]):=by rw [<- hs]; show zG (_::_::_) bp=_; rw [zJ,if_neg k4,zJ,if_pos rfl]; rfl
 have g3:zG s1.ob bt=some (.mp (trMC []),[bt]):=by rw [<- hs]; show zG (_::_::_) bt=_; rw [zJ,if_pos rfl]; rfl
 have g5:zG s1.ob bf=some (.mp (trMC q.2.2.2.1),ff):=by rw [<- hs]; exact hob _ _ h5
 have g6:zG s1.ob bm=some (.mp (trMC q.2.2.2.2),fm):=by rw [<- hs]; exact hob _ _ h6
 have g4:(q.2.2.1.map trL=[]/\o=none/\fp=[])\/∃ n,o=some n/\zG s1.ob n=some (.lv (q.2.2.1.map trL),fp):=by
  rcases h4 with ⟨e1,e2,e3⟩ | ⟨n,e1,e2⟩
  . exact .inl ⟨by rw [e1]; rfl,e2,e3⟩
  . exact .inr ⟨n,e1,by rw [<- hs]; exact hob _ _ e2⟩
 have hbox:∀ {k o f},zG s1.ob k=some (o,f)->k≠b:=fun {k o f} h e=>by
  have:=((hi.ex.ob k o f h).2.2 k (hi.ex.ob k o f h).2.1).2.2.2.1;rw [e,g1] at this; cases this
 refine ⟨_,hi.closeLv (x:=trL ([],[])) g1 g2 g3 (fun e=>k4 e.symm) g4,[],[.inr b0,.inr bo,.ob b,.ob bf,.ob bm],[],zDw (q:=(q.1,q.2.1,([],[])::q.2.2.1,q.2.2.2)) (n:=q.2.1.length) (cap:=cap) (o6:=o6) (fp:=b::bp::bt::fp) (ff:=ff) (fm:=fm) rfl ?_ h2 ?_ ?_ ?_ ?_,⟨rfl,rfl⟩,?_,rfl⟩
 . show Al.look (wipe s1.box b) b0=_;rw [yJ,if_neg m1]; exact g0
 . show Al.look (wipe s1.box b) bo=_;rw [yJ,if_neg m2]; exact go
 . show zG ((b,_,_)::_) b=_;rw [zJ,if_pos rfl]; rfl
 . show zG ((b,_,_)::jC s1.ob _) bf=_;rw [zJ,if_neg (fun e=>hbox g5 e.symm),x9,if_pos ?_]
   . exact g5
   . have:bf ∉ bp::bt::o.toList:=by
      simp only [List.mem_cons,Option.mem_toList,not_or];exact ⟨f1,f2,n1⟩
     simpa using this
 . show zG ((b,_,_)::jC s1.ob _) bm=_;rw [zJ,if_neg (fun e=>hbox g6 e.symm),x9,if_pos ?_]
   . exact g6
   . have:bm ∉ bp::bt::o.toList:=by
      simp only [List.mem_cons,Option.mem_toList,not_or];exact ⟨f3,f4,n2⟩
     simpa using this
 . have e1:=hbox g5;have e2:=hbox g6;simp only [List.append_nil,List.nodup_cons,List.mem_cons,List.not_mem_nil,or_false,not_or,not_false_eq_true,and_true,List.nodup_nil];exact ⟨⟨fun e=>by injection e with e; exact n4 e.symm,by simp,by simp,by simp⟩,⟨by simp,by simp,by simp⟩,⟨fun e=>by injection e with e; exact e1 e.symm,fun e=>by injection e with e; exact e2 e.symm⟩,fun e=>by injection e with e; exact n3 e⟩
theorem ok47:CPOk CC Tryz.prog syn 47 (cW ([]:LK) ([]:LK) c47):=by
 refine zDO fun q a y hy st vx va r1 r2 h1 h2 hn=>?_;simp only [VKs] at h2;obtain ⟨rfl,rfl⟩:=h2;simp only [List.append_nil] at hn ⊢;injection hy with hy
 subst hy;obtain ⟨b0,bo,cap,b,fp,bf,ff,bm,fm,o6,rfl,k1,k2,k3,k4,k5,k6,rfl⟩:=zAu h1;have e1:=(yI st [.inr b0,.inr bo,.ob b,.ob bf,.ob bm] b0).1 (by simp);have e3:=(yI st [.inr b0,.inr bo,.ob b,.ob bf,.ob bm] bo).1 (by simp);have e4:=(yH st [.inr b0,.inr bo,.ob b,.ob bf,.ob bm] b).1 (by simp);have e5:=(yH st [.inr b0,.inr bo,.ob b,.ob bf,.ob bm] bf).1 (by simp);have e6:=(yH st [.inr b0,.inr bo,.ob b,.ob bf,.ob bm] bm).1 (by simp);rw [k1] at e1; rw [k3] at e3; rw [k4] at e4; rw [k5] at e5; rw [k6] at e6;generalize subS st [.inr b0,.inr bo,.ob b,.ob bf,.ob bm]=s0 at e1 e3 e4 e5 e6 ⊢;refine zEm (jh (ok47x (o:=some b) e1) ?_);rintro oc s' ⟨rfl,bn,bp,bt,m1,m2,m3,m4,rfl⟩ B g w hi;exact zJC (o:=some b) e1 k2 e3 (.inr ⟨b,rfl,e4⟩) e5 e6 (fun e=>by injection e with e; subst e; simp at hn) (fun e=>by injection e with e; subst e; simp at hn) (fun e=>by subst e; simp at hn) (fun e=>by subst e; simp at hn) m1 m2 m3 m4 hi
end
section
open Go.Al Go.Den Go.RowKit
abbrev wk0V (y:WS):Wk0T×Unit:=((y.1,y.2.1,(),y.2.2.2.1,y.2.2.2.2,(),()),())
theorem zOd {s:S} {q:WS} {vx:List V} {r:List Res} (h:VKs CC s [wk0] (wk0V q) vx r) :
 ∃ (b0 bo cap:Nat) (bf:Nat) (ff:List Nat) (bm:Nat) (fm:List Nat) (o6:Option Nat),vx=[ptV b0]/\Al.look s.box b0=some ([tkV q.1,.at (.slice (some ⟨bo,0,none⟩) q.2.1.length cap),.at (pO none),.at (.map (some bf)),.at (.map (some bm)),.at (pO o6)],6)/\q.2.1.length<=cap/\Al.look s.box bo=some (bdC q.2.1,cap * 2) /\
  zG s.ob bf=some (.mp (trMC q.2.2.2.1),ff)/\zG s.ob bm=some (.mp (trMC q.2.2.2.2),fm)/\r=[.inr b0,.inr bo,.ob bf,.ob bm]:=by
 obtain ⟨y1,y2,y3,y4,y5⟩:=q;simp only [VKs,VK] at h;obtain ⟨v0,vs0,t1,t2,rfl,rfl,⟨b0,cs,t3,rfl,e1,e2,rfl⟩,rfl,rfl⟩:=h;obtain ⟨v1,w1,a1,a2,rfl,rfl,⟨rfl,rfl⟩,v2,w2,a3,a4,rfl,rfl,⟨b2,cap,rfl,c2,d2,rfl⟩,v3,w3,a5,a6,rfl,rfl,⟨rfl,rfl⟩,v4,w4,a7,a8,rfl,rfl,⟨b4,fp4,rfl,c4,rfl⟩,v5,w5,a9,a10,rfl,rfl,⟨b5,fp5,rfl,c5,rfl⟩,v6,w6,a11,a12,rfl,rfl,⟨⟨o6,rfl⟩,rfl⟩,rfl,rfl⟩:=e2;exact ⟨b0,b2,cap,b4,fp4,b5,fp5,o6,rfl,e1,c2,d2,c4,c5,rfl⟩
theorem ok47a:CPOk CC Tryz.prog syn 47 (cW1 ([]:LK) ([]:LK) c47):=by
 intro x a R pan K r hr;obtain ⟨⟨x1,x2,x3,x4,x5,x6,u⟩,u'⟩:=x;refine ⟨some (wkV (x1,x2,[([],[])],x4,x5),()),hr,fun st vx va r1 r2 h1 h2 hn=>?_⟩;simp only [VKs] at h2;obtain ⟨rfl,rfl⟩:=h2;simp only [List.append_nil] at hn ⊢;obtain ⟨b0,bo,cap,bf,ff,bm,fm,o6,rfl,k1,k2,k3,k5,k6,rfl⟩:=zOd (q:=(x1,x2,[],x4,x5)) h1;have e1:=(yI st [.inr b0,.inr bo,.ob bf,.ob bm] b0).1 (by simp);have e3:=(yI st [.inr b0,.inr bo,.ob bf,.ob bm] bo).1 (by simp);have e5:=(yH st [.inr b0,.inr bo,.ob bf,.ob bm] bf).1 (by simp);have e6:=(yH st [.inr b0,.inr bo,.ob bf,.ob bm] bm).1 (by simp);rw [k1] at e1; rw [k3] at e3; rw [k5] at e5; rw [k6] at e6;generalize subS st [.inr b0,.inr bo,.ob bf,.ob bm]=s0 at e1 e3 e5 e6 ⊢;refine zEm (jh (ok47x (o:=none) e1) ?_);rintro oc s' ⟨rfl,bn,bp,bt,m1,m2,m3,m4,rfl⟩ B g w hi;exact zJC (q:=(x1,x2,[],x4,x5)) (o:=none) (fp:=[]) e1 k2 e3 (.inl ⟨rfl,rfl,rfl⟩) e5 e6 (by simp) (by simp) (fun e=>by subst e; simp at hn) (fun e=>by subst e; simp at hn) m1 m2 m3 m4 hi
def c104 (_:Unit):WW (LT1×Unit):=fun q=>
 match q.2.2.1 with
 | x::y::r=>some ((x,()),(q.1,q.2.1,y::r,q.2.2.2))
 | _=>none
theorem ok104:CPOk CC Tryz.prog syn 104 (cW ([]:LK) ([.lv1]:LK) c104):=by
 refine zDO fun q a y hy st vx va r1 r2 h1 h2 hn=>?_;simp only [VKs] at h2;obtain ⟨rfl,rfl⟩:=h2;simp only [List.append_nil] at hn ⊢;unfold c104 at hy;split at hy
 rotate_left
 . cases hy
 rename_i x y0 r hxs;injection hy with hy
 subst hy;obtain ⟨b0,bo,cap,b,fp,bf,ff,bm,fm,o6,rfl,k1,k2,k3,k4,k5,k6,rfl⟩:=zAu h1;have e1:=(yI st [.inr b0,.inr bo,.ob b,.ob bf,.ob bm] b0).1 (by simp);have e3:=(yI st [.inr b0,.inr bo,.ob b,.ob bf,.ob bm] bo).1 (by simp);have e4:=(yH st [.inr b0,.inr bo,.ob b,.ob bf,.ob bm] b).1 (by simp);have e5:=(yH st [.inr b0,.inr bo,.ob b,.ob bf,.ob bm] bf).1 (by simp);have e6:=(yH st [.inr b0,.inr bo,.ob b,.ob bf,.ob bm] bm).1 (by simp);rw [k1] at e1; rw [k3] at e3; rw [k4] at e4; rw [k5] at e5; rw [k6] at e6;generalize subS st [.inr b0,.inr bo,.ob b,.ob bf,.ob bm]=s0 at e1 e3 e4 e5 e6 ⊢;have n1:b≠bf:=by rintro rfl; simp at hn
 have n2:b≠bm:=by rintro rfl; simp at hn
 have n3:bo≠b0:=by rintro rfl; simp at hn
 have n4:bf≠bm:=by rintro rfl; simp at hn
 rw [hxs] at e4;refine zC3 (φ:=(∃ bp bt n t,fp=b::bp::bt::n::t/\fp.Nodup)/\b0 ∉ fp/\bo ∉ fp/\bf ∉ fp/\bm ∉ fp) (fun B g w hi=>⟨?_,zJf hi e1 e3 e4 e5 e6 n1 n2⟩) ?_
 . obtain ⟨bp,bt,fp',q1,q2,_,q4,_⟩:=Inv.openLv2 hi e4;obtain ⟨n,hn⟩:=q4 (by simp);cases fp' with
   | nil=>cases hn
   | cons n' t=>exact ⟨bp,bt,n',t,q1,q2⟩
 rintro ⟨⟨bp,bt,n,t,rfl,hnd⟩,m1,m2,m3,m4⟩;refine zE2 (s':=Al.openLv s0 b bp bt (trL x) ((y0::r).map trL) (some n) (n::t)) (fun B g w hi=>?_) ?_
 . obtain ⟨bp2,bt2,fp2,q1,_,_,_,q5⟩:=Inv.openLv2 hi e4;injection q1 with _ q1
   injection q1 with q1 q1'
   injection q1' with q2 q3
   subst q1; subst q2; subst q3;exact q5
 have hnd':=hnd;simp only [List.nodup_cons,List.mem_cons,not_or] at hnd';obtain ⟨⟨p1,p2,p3,p4⟩,⟨p5,p6,p7⟩,⟨p8,p9⟩,p10,p11⟩:=hnd';have g1:Al.look (Al.openLv s0 b bp bt (trL x) ((y0::r).map trL) (some n) (n::t)).box b=some (lcs bp bt (some n),3):=by
  show Al.look (lay s0.box b _) b=_;rw [zN,if_pos rfl]
 have hbx:∀ j c,j≠b->Al.look s0.box j=some c->Al.look (Al.openLv s0 b bp bt (trL x) ((y0::r).map trL) (some n) (n::t)).box j=some c:=fun j c hj hc=>by
  show Al.look (lay s0.box b _) j=_;rw [zN,if_neg (fun e=>hj e.symm)]; exact hc
 have ob0:(Al.openLv s0 b bp bt (trL x) ((y0::r).map trL) (some n) (n::t)).ob=(bp,.mp (trMC x.1),[bp])::(bt,.mp (trMC x.2),[bt])::(n,.lv ((y0::r).map trL),n::t)::jC s0.ob (fun k=>!(k == b)):=rfl;have g2:zG (Al.openLv s0 b bp bt (trL x) ((y0::r).map trL) (some n) (n::t)).ob bp=some (.mp (trMC x.1),[bp]):=by rw [ob0,zJ,if_pos rfl]
 have g3:zG (Al.openLv s0 b bp bt (trL x) ((y0::r).map trL) (some n) (n::t)).ob bt=some (.mp (trMC x.2),[bt]):=by rw [ob0,zJ,if_neg p5,zJ,if_pos rfl]
 have g4:zG (Al.openLv s0 b bp bt (trL x) ((y0::r).map trL) (some n) (n::t)).ob n=some (.lv ((y0::r).map trL),n::t):=by rw [ob0,zJ,if_neg p6,zJ,if_neg p8,zJ,if_pos rfl]
 have hob:∀ j c,j ∉ b::bp::bt::n::t->zG s0.ob j=some c->zG (Al.openLv s0 b bp bt (trL x) ((y0::r).map trL) (some n) (n::t)).ob j=some c:=fun j c hj hc=>by
  simp only [List.mem_cons,not_or] at hj;rw [ob0,zJ,if_neg (fun e=>hj.2.1 e.symm),zJ,if_neg (fun e=>hj.2.2.1 e.symm),zJ,if_neg (fun e=>hj.2.2.2.1 e.symm),x9,if_pos (by simpa using hj.1)];exact hc
 have g5:=hob _ _ m3 e5;have g6:=hob _ _ m4 e6;have b0b:b0≠b:=fun e=>m1 (by simp [e]);have bob:bo≠b:=fun e=>m2 (by simp [e]);have g7:=hbx _ _ b0b e1;have g8:=hbx _ _ bob e3;generalize Al.openLv s0 b bp bt (trL x) ((y0::r).map trL) (some n) (n::t)=s1 at g1 g2 g3 g4 g5 g6 g7 g8;refine zEm (jh (ok104x g7 g1 (fun e=>b0b e.symm)) ?_);rintro oc s' ⟨rfl,rfl⟩ B g w hi;have w1:Al.look (lay s1.box b0 ([tkV q.1,.at (.slice (some ⟨bo,0,none⟩) q.2.1.length cap),.at (pO (some n)),.at (.map (some bf)),.at (.map (some bm)),.at (pO o6)],6)) b=some (lcs bp bt (some n),3):=by rw [zN,if_neg b0b]; exact g1
 have hin:=hi.close1 (x:=trL x) w1 g2 g3 p5;refine ⟨_,hin,[ptV b],[.inr b0,.inr bo,.ob n,.ob bf,.ob bm],[.ob b],zDw (q:=(q.1,q.2.1,y0::r,q.2.2.2)) (n:=q.2.1.length) (cap:=cap) (o6:=o6) (fp:=n::t) (ff:=ff) (fm:=fm) rfl ?_ k2 ?_ ?_ ?_ ?_,⟨_,[],[.ob b],[],rfl,rfl,⟨b,[b,bp,bt],rfl,?_,rfl⟩,rfl,rfl⟩,?_,rfl⟩
 . show Al.look (wipe (lay s1.box b0 _) b) b0=_;rw [yJ,if_neg (fun e=>b0b e.symm),zN,if_pos rfl];rfl
 . show Al.look (wipe (lay s1.box b0 _) b) bo=_;rw [yJ,if_neg (fun e=>bob e.symm),zN,if_neg (fun e=>n3 e.symm)]; exact g8
 . show zG ((b,_,_)::jC s1.ob _) n=_;rw [zJ,if_neg p3,x9,if_pos ?_]
   . exact g4
   . have:n ∉ [bp,bt]:=by simp [Ne.symm p6,Ne.symm p8]
     simpa using this
 . show zG ((b,_,_)::jC s1.ob _) bf=_;rw [zJ,if_neg n1,x9,if_pos ?_]
   . exact g5
   . have:bf ∉ [bp,bt]:=by
      simp only [List.mem_cons,not_or] at m3;simp [m3.2.1,m3.2.2.1]
     simpa using this
 . show zG ((b,_,_)::jC s1.ob _) bm=_;rw [zJ,if_neg n2,x9,if_pos ?_]
   . exact g6
   . have:bm ∉ [bp,bt]:=by
      simp only [List.mem_cons,not_or] at m4;simp [m4.2.1,m4.2.2.1]
     simpa using this
 . show zG ((b,_,_)::_) b=_;rw [zJ,if_pos rfl]
 . have h3:=m3;have h4:=m4;simp only [List.mem_cons,not_or] at h3 h4;simp only [List.cons_append,List.nil_append,List.nodup_cons,List.mem_cons,List.not_mem_nil,or_false,not_or,not_false_eq_true,and_true,List.nodup_nil];refine ⟨⟨fun e=>by injection e with e; exact n3 e.symm,by simp,by simp,by simp,by simp⟩,⟨by simp,by simp,by simp,by simp⟩,⟨fun e=>by injection e with e; exact h3.2.2.2.1 e.symm,fun e=>by injection e with e; exact h4.2.2.2.1 e.symm,fun e=>by injection e with e; exact p3 e.symm⟩,⟨fun e=>by injection e with e; exact n4 e,fun e=>by injection e with e; exact n1 e.symm⟩,fun e=>by injection e with e; exact n2 e.symm⟩
end
section
open Go.Al Go.Den Go.RowKit Go.Shelf
def El (g:Gh) (w0:World):Type:={ x:Nd×Value // RV g w0 (zc x.1) x.2 }
def exb (bx:Nat) (W:World) (b:Nat):Prop:=b=bx\/∃ o l c,W.cell? ⟨bx,0,none⟩=some (.slice (some ⟨b,o,none⟩) l c)
def BoxOk (n0 bx:Nat) (W:World):Prop:=n0<=bx/\(∃ arr t m,W.heap[bx]? = some (.cells arr t m))/\∀ b,exb bx W b->n0<=b/\b < W.heap.size
structure Kept (n0 bx:Nat) (A B:World):Prop where
 ok:BoxOk n0 bx B
 size:A.heap.size<=B.heap.size
 same:∀ b o v,A.cell? ⟨b,o,none⟩=some v->¬ exb bx A b->B.cell? ⟨b,o,none⟩=some v
 ex:∀ b,exb bx B b->exb bx A b\/A.heap.size<=b
 low:∀ b,b < n0->B.heap[b]? = A.heap[b]?
def jY (n0 bx:Nat) (A B:World):Prop:=BoxOk n0 bx A->Kept n0 bx A B
theorem zA1 {A:World} {b o:Nat} {v:Value} (h:A.cell? ⟨b,o,none⟩=some v):b < A.heap.size:=by
 rcases Nat.lt_or_ge b A.heap.size with h1 | h1
 . exact h1
 . unfold World.cell? at h;have:A.heap[b]? = none:=Array.getElem?_eq_none h1;simp only [this] at h;cases h
theorem x8 {A B:World} {b:Nat} (h:B.heap[b]? = A.heap[b]?) (o:Nat):B.cell? ⟨b,o,none⟩=A.cell? ⟨b,o,none⟩:=World.cell?_of_block h
theorem Kept.refl {n0 bx:Nat} {A:World} (h:BoxOk n0 bx A):Kept n0 bx A A:=⟨h,Nat.le_refl _,fun _ _ _ h _=>h,fun _ h=>.inl h,fun _ _=>rfl⟩
theorem Kept.trans {n0 bx:Nat} {A B C:World} (h:Kept n0 bx A B) (k:Kept n0 bx B C):Kept n0 bx A C:=by
 refine ⟨k.ok,Nat.le_trans h.size k.size,fun b o v hb hx=>?_,fun b hb=>?_,fun b hb=>(k.low b hb).trans (h.low b hb)⟩
 . refine k.same b o v (h.same b o v hb hx) (fun hx2=>?_);rcases h.ex b hx2 with h1 | h1
   . exact hx h1
   . have:=zA1 hb; omega
 . rcases k.ex b hb with h1 | h1
   . exact h.ex b h1
   . exact .inr (Nat.le_trans h.size h1)
theorem zId {n0 bx:Nat} {A B C:World} (h:jY n0 bx A B) (k:jY n0 bx B C):jY n0 bx A C:=fun hA=>(h hA).trans (k (h hA).ok)
theorem kR {bx:Nat} {A B:World} (h:B.heap[bx]? = A.heap[bx]?) (b:Nat):exb bx B b↔exb bx A b:=by
 unfold exb; rw [x8 h]
theorem BoxOk.grown {n0 bx:Nat} {A B:World} (h:BoxOk n0 bx A) (hs:A.heap.size<=B.heap.size) (hb:B.heap[bx]? = A.heap[bx]?):BoxOk n0 bx B:=by
 obtain ⟨h1,⟨arr,t,m,h2⟩,h3⟩:=h;exact ⟨h1,⟨arr,t,m,hb.trans h2⟩,fun b hx=>⟨(h3 b ((kR hb b).1 hx)).1,Nat.lt_of_lt_of_le (h3 b ((kR hb b).1 hx)).2 hs⟩⟩
theorem BoxOk.lt {n0 bx:Nat} {A:World} (h:BoxOk n0 bx A):bx < A.heap.size:=(h.2.2 bx (.inl rfl)).2
theorem Kept.grown {n0 bx:Nat} {A B:World} (h:BoxOk n0 bx A) (hg:A.grownBy B none):Kept n0 bx A B:=by
 have hb:∀ b,b < A.heap.size->B.heap[b]? = A.heap[b]?:=fun b hb=>hg.block b hb (by simp);refine ⟨h.grown hg.size (hb bx h.lt),hg.size,fun b o v ho _=>(x8 (hb b (zA1 ho)) o).trans ho,fun b hx=>.inl ((kR (hb bx h.lt) b).1 hx),fun b hl=>hb b (Nat.lt_trans (Nat.lt_of_lt_of_le hl h.1) h.lt)⟩
theorem zIh {n0 bx:Nat} (W:World) (l:Nat) (o o':Obj) (hl:n0<=l) (h:W.heap[l]? = some o) (hc:o.isCells=false):jY n0 bx W (W.putObj l o'):=by
 intro hW;have hne:bx≠l:=by
  rintro rfl;obtain ⟨_,⟨arr,t,m,h2⟩,_⟩:=hW;rw [h] at h2; injection h2 with h2; subst h2; cases hc
 have hb:(W.putObj l o').heap[bx]? = W.heap[bx]?:=World.putObj_heap_other hne;have hsz:(W.putObj l o').heap.size=W.heap.size:=by simp [World.putObj]
 refine ⟨hW.grown (Nat.le_of_eq hsz.symm) hb,Nat.le_of_eq hsz.symm,fun b o1 v h1 _=>(x8 (World.putObj_heap_other ?_) o1).trans h1,fun b hx=>.inl ((kR hb b).1 hx),fun b hb=>World.putObj_heap_other (by omega)⟩;rintro rfl;unfold World.cell? at h1;simp only [h] at h1;cases o <;> first | (cases hc; done) | (cases h1; done) | (simp at h1; done)
def Same (g:Gh) (w0 W:World):Prop:=∀ b o,o < g.wm b->W.cell? ⟨b,o,none⟩=w0.cell? ⟨b,o,none⟩
theorem Same.later {wm:Nat->Nat} {w0 W:World} (h:Same ⟨wm,fun _=>none,Fr.no⟩ w0 W):Later ⟨wm,fun _=>none,Fr.no⟩ w0 ⟨wm,fun _=>none,Fr.no⟩ W:=⟨fun _=>Nat.le_refl _,fun _ _ h=>h,h⟩
theorem Same.back {wm:Nat->Nat} {w0 W:World} (h:Same ⟨wm,fun _=>none,Fr.no⟩ w0 W):Later ⟨wm,fun _=>none,Fr.no⟩ W ⟨wm,fun _=>none,Fr.no⟩ w0:=⟨fun _=>Nat.le_refl _,fun _ _ h=>h,fun b o ho=>(h b o ho).symm⟩
theorem Same.kept {wm:Nat->Nat} {n0 bx:Nat} {w0 W W':World} (hwm:∀ b,n0<=b->wm b=0) (h:Same ⟨wm,fun _=>none,Fr.no⟩ w0 W) (k:Kept n0 bx W W'):Same ⟨wm,fun _=>none,Fr.no⟩ w0 W':=fun b o ho=>by
 have hb:b < n0:=by
  rcases Nat.lt_or_ge b n0 with h1 | h1
  . exact h1
  . replace ho:o < wm b:=ho;rw [hwm b h1] at ho; omega
 exact (x8 (k.low b hb) o).trans (h b o ho)
mutual
/-- A tree's parts,the outer ones first. -/
def allT:Nd->List Nd
 | .mk k a ks=>.mk k a ks::allK ks
def allK:List Nd->List Nd
 | []=>[]
 | t::r=>allT t++allK r
end
theorem zA2 {g:Gh} {w:World} {k a:Int} {ks:List Nd} {v:Value} (h:RV g w (zc (.mk k a ks)) v):∃ sv,v = .agg #[.int .i64 k,.int .i64 a,sv]/\RC g w (.lst (zw (qn ks)) (qn ks)) [sv]:=by
 obtain ⟨us,h1,h2⟩:=zBV (show RV g w (.agg [vi k,vi a,sl (qn ks)]) v from h);simp only [RCs,vi,sl] at h1;obtain ⟨u1,u2,rfl,⟨rfl,_⟩,u3,u4,rfl,⟨rfl,_⟩,u5,u6,rfl,h3,rfl⟩:=h1;have:=qD g w _ _ h3;simp only [V.size] at this;obtain ⟨sv,rfl⟩:=List.length_eq_one_iff.1 this;exact ⟨sv,by rw [h2]; simp,h3⟩
theorem zHq {g:Gh} {w:World}:∀ {ks:List Nd} {us:List Value} (i:Nat) (h:i < ks.length),RCs g w (qn ks) us->∃ v0 v1 v2,RV g w (zc ks[i]) (.agg #[v0,v1,v2])/\us[3 * i]? = some v0/\us[3 * i+1]? = some v1/\us[3 * i+2]? = some v2
 | .mk k a l::r,us,0,_,h=>by
  simp only [qn,zc,RCs] at h;obtain ⟨u1,u2,rfl,h1,h2⟩:=h;have hv:RV g w (zc (.mk k a l)) (.agg u1.toArray):=zCj (by simpa only [RC] using h1);obtain ⟨sv,e,_⟩:=zA2 hv;have:u1=[.int .i64 k,.int .i64 a,sv]:=by
   have:=congrArg (fun v=>match v with | Value.agg a=>a.toList | _=>[]) e;simpa using this
  subst this;exact ⟨_,_,_,hv,rfl,rfl,rfl⟩
 | .mk k a l::r,us,i+1,hi,h=>by
  simp only [qn,zc,RCs] at h;obtain ⟨u1,u2,rfl,h1,h2⟩:=h;have h3:=qD g w _ _ h1;have h4:u1.length=3:=by rw [h3]; rfl
  obtain ⟨v0,v1,v2,k0,k1,k2,k3⟩:=zHq i (by simpa using hi) h2;have ap:∀ j,(u1++u2)[3 * (i+1)+j]? = u2[3 * i+j]?:=fun j=>by
   rw [List.getElem?_append_right (by omega),h4]; congr 1; omega
  exact ⟨v0,v1,v2,k0,(ap 0).trans k1,(ap 1).trans k2,(ap 2).trans k3⟩
theorem zIZ (w:World) (t:TypeId) (c:Array Value) (i:Nat) (v:Value):(w.alloc (.cells c t)).setCell ⟨w.heap.size,i,none⟩ v=w.alloc (.cells (c.setIfInBounds i v) t):=by
 unfold World.setCell World.alloc;simp only [Option.isSome_none,Bool.false_eq_true,if_false];congr 1;refine Array.ext_getElem? fun j=>?_;rw [Array.getElem?_modify,Array.getElem?_push,Array.getElem?_push];by_cases h:w.heap.size=j
 . subst h; simp
 . have h2:¬ j=w.heap.size:=fun e=>h e.symm;simp [h,h2]
theorem zAo {P:Program} (w:World) (t:TypeId) (c:Array Value) (i:Nat) (hi:i < c.size) (v:Value) (hv:v.oneCell' = true):(store ⟨w.heap.size,i,none⟩ v).run P (w.alloc (.cells c t)) = .ok () (w.alloc (.cells (c.setIfInBounds i v) t)):=by
 have h1:(w.alloc (.cells c t)).heap[w.heap.size]? = some (.cells c t (0,0)):=World.alloc_heap_new w _;have h2:(w.alloc (.cells c t)).cell? ⟨w.heap.size,i,none⟩=some c[i]:=by unfold World.cell?; simp only [h1]; simp [hi]
 have h3:(w.alloc (.cells c t)).frozen? ⟨w.heap.size,i,none⟩=false:=by unfold World.frozen?; simp only [h1]; simp
 rw [run_store P _ _ v _ hv,h2,h3];simp only [Bool.false_eq_true,if_false];rw [zIZ]
theorem store3 {P:Program} (w:World) (t:TypeId) (z0 z1 z2 v0 v1 v2:Value) (h0:v0.oneCell' = true) (h1:v1.oneCell' = true) (h2:v2.oneCell' = true) :
 (((store ⟨w.heap.size,0,none⟩ v0).run P (w.alloc (.cells #[z0,z1,z2] t))).andThen fun _ w'=>((store ⟨w.heap.size,1,none⟩ v1).run P w').andThen fun _ w'=>(store ⟨w.heap.size,2,none⟩ v2).run P w') = .ok () (w.alloc (.cells #[v0,v1,v2] t)):=by
 rw [zAo w t _ 0 (by simp) v0 h0];simp only [Result.andThen];rw [zAo w t _ 1 (by simp) v1 h1];simp only [Result.andThen];rw [zAo w t _ 2 (by simp) v2 h2];rfl
theorem zFs (x:Nd):∀ ks:List Nd,allK (ks++[x])=allK ks++allT x
 | []=>by simp [allK]
 | t::r=>by simp only [List.cons_append,allK,zFs x r,List.append_assoc]
theorem zHW:∀ (ks:List Nd) (j:Nat),(allK (ks.take j)).length<=(allK ks).length
 | [],j=>by simp
 | t::r,0=>by simp [allK]
 | t::r,j+1=>by have:=zHW r j; simp only [List.take_succ_cons,allK,List.length_append]; omega
theorem zJq {g:Gh} {w:World} {t:Nd} {v0 v1 v2:Value} (h:RV g w (zc t) (.agg #[v0,v1,v2])):v0.oneCell' = true/\v1.oneCell' = true/\v2.oneCell' = true:=by
 obtain ⟨k,a,ks⟩:=t;obtain ⟨sv,e,h2⟩:=zA2 h;have h3:=zE5 _ _ _ _ h2 sv (by simp);injection e with e
 have e0:=congrArg Array.toList e;simp only [List.cons.injEq,and_true] at e0;obtain ⟨rfl,rfl,rfl⟩:=e0;exact ⟨rfl,rfl,h3⟩
theorem zPk {n j:Nat} (h:j < n):n - Int.toNat ((j+1:Nat):Int) < n - Int.toNat ((j:Nat):Int):=by
 rw [Int.toNat_natCast,Int.toNat_natCast]; omega
theorem zOZ (t:Nd):0 < (allT t).length:=by cases t; simp [allT]
theorem zJp:∀ ks:List Nd,ks.length<=(allK ks).length
 | []=>by simp
 | t::r=>by have:=zJp r; have:=zOZ t; simp only [allK,List.length_cons,List.length_append]; omega
theorem zRI {wm:Nat->Nat} {w:World} {ks:List Nd} {sv:Value} (h:RC ⟨wm,fun _=>none,Fr.no⟩ w (.lst (zw (qn ks)) (qn ks)) [sv]) :
 ∃ ad cap,sv = .slice ad ks.length cap/\∀ i (hi:i < ks.length),∃ b o v0 v1 v2,ad=some ⟨b,o,none⟩/\RV ⟨wm,fun _=>none,Fr.no⟩ w (zc ks[i]) (.agg #[v0,v1,v2]) /\
  (w.cell? ⟨b,o+3 * i,none⟩=some v0/\o+3 * i < wm b)/\(w.cell? ⟨b,o+(3 * i+1),none⟩=some v1/\o+(3 * i+1) < wm b)/\(w.cell? ⟨b,o+(3 * i+2),none⟩=some v2/\o+(3 * i+2) < wm b):=by
 have hl:(qn ks).length=ks.length:=by rw [zDp]; simp
 simp only [RC] at h;rcases h with ⟨he,hu,_⟩ | ⟨b,o,cap,ds,hu,hc,_,hr,_,ha⟩
 . have h0:ks=[]:=by cases ks with | nil=>rfl | cons x r=>cases he
   subst h0;injection hu with hu
   exact ⟨none,0,hu,fun i hi=>absurd hi (by simp)⟩
 . injection hu with hu
   refine ⟨_,cap,by rw [hu,hl],fun i hi=>?_⟩;obtain ⟨v0,v1,v2,k0,k1,k2,k3⟩:=zHq i hi hr;exact ⟨b,o,v0,v1,v2,rfl,k0,ha _ _ k1,ha _ _ k2,ha _ _ k3⟩
def zIg (F:Fence) (l n0 bx N by' bw:Nat) (wm:Nat->Nat) (w0:World) (J Jx:List (El ⟨wm,fun _=>none,Fr.no⟩ w0)->World->Prop) (t:Nd):Prop:=
 ∀ (m:Nat) (v:Value) (pre:List (El ⟨wm,fun _=>none,Fr.no⟩ w0)) (W:World),Same ⟨wm,fun _=>none,Fr.no⟩ w0 W->RV ⟨wm,fun _=>none,Fr.no⟩ w0 (zc t) v->J pre W->BoxOk n0 bx W ->
  W.cell? ⟨by',0,none⟩=some (.func (.yield l) #[] #[])->¬ exb bx W by'->W.cell? ⟨bw,0,none⟩=some (.func (.func 71) #[] #[.pointer (some ⟨by',0,none⟩),.pointer (some ⟨bw,0,none⟩)])->¬ exb bx W bw ->
  pre.length+(allT t).length<=N ->
  CallsIn F m Tryz.prog 71 #[v,.pointer (some ⟨by',0,none⟩),.pointer (some ⟨bw,0,none⟩)] W fun e W'=>
   (e = .returned (.bool true)/\∃ q:List (El ⟨wm,fun _=>none,Fr.no⟩ w0),q.map (·.1.1)=allT t/\J (pre++q) W'/\Kept n0 bx W W')\/(e = .returned (.bool false)/\∃ q,Jx (pre++q) W')
set_option maxRecDepth 100000 in
set_option maxHeartbeats 1000000 in
theorem walk36 (F:Fence) (hd:F.depth=none) (hF:∀ f,F.fn f) (hro:F.round=none) (l n0 bx N by' bw:Nat) (wm:Nat->Nat) (w0:World) (hwm:∀ b,n0<=b->wm b=0) (hNb:N<=1000000) (J Jx:List (El ⟨wm,fun _=>none,Fr.no⟩ w0)->World->Prop)
 (hJ:∀ pre W W',J pre W->W.grownBy W' none->J pre W')
 (hY:∀ m pre (x:El ⟨wm,fun _=>none,Fr.no⟩ w0) W,J pre W->pre.length < N->YieldAt F m Tryz.prog l #[x.1.2] W fun e W'=>(e = .returned (.bool true)/\J (pre++[x]) W'/\jY n0 bx W W')\/(e = .returned (.bool false)/\Jx (pre++[x]) W'))
 (k a:Int) (ks:List Nd)
 (ih:∀ t ∈ ks,zIg F l n0 bx N by' bw wm w0 J Jx t):zIg F l n0 bx N by' bw wm w0 J Jx (.mk k a ks):=by
 intro m v pre W hS hv hJ0 hB hby hxy hbw hxw hN;have hdd:∀ k:Nat,(F.depth.isSome=true->1<=k):=fun k h=>by rw [hd] at h; cases h
 obtain ⟨sv,rfl,hsv⟩:=zA2 hv;obtain ⟨ad,cap,rfl,hkid⟩:=zRI hsv;have c1:(W.alloc (.cells #[.int .i64 k,.int .i64 a,(.slice ad ks.length cap)] 29)).cell? ⟨by',0,none⟩=some (.func (.yield l) #[] #[]):=by
  rw [x8 (Below.heap_alloc _ _ _ (zA1 hby))]; exact hby
 refine callsIn_of_wp Tryz.func71 rfl (hF _) ?_ hro;simp only [Tryz.ntmps71,List.size_toArray,List.length_cons,List.length_nil,Nat.reduceAdd,Nat.reduceSub,Array.replicate_succ,Array.replicate_zero,List.push_toArray,List.append_toArray,List.nil_append,List.cons_append];obtain ⟨W1,hW1⟩:∃ W1,W.alloc (.cells #[.int .i64 k,.int .i64 a,(.slice ad ks.length cap)] 29)=W1:=⟨_,rfl⟩;have hK1:Kept n0 bx W W1:=by rw [<- hW1]; exact Kept.grown hB (World.grownBy_alloc W _ none)
 have hn1:W1.heap[W.heap.size]? = some (.cells #[.int .i64 k,.int .i64 a,(.slice ad ks.length cap)] 29 (0,0)):=by rw [<- hW1]; exact World.alloc_heap_new W _
 have e1:W1.heap[bx]? = W.heap[bx]?:=by rw [<- hW1]; exact Below.heap_alloc _ _ _ hB.lt
 have hnx:¬ exb bx W1 W.heap.size:=fun h=>by
  have:=(hB.2.2 _ ((kR e1 _).1 h)).2;omega
 have d0:W1.cell? ⟨W.heap.size,0,none⟩=some (.int .i64 k):=by simp [World.cell?,hn1]
 have d1:W1.cell? ⟨W.heap.size,1,none⟩=some (.int .i64 a):=by simp [World.cell?,hn1]
 have d2:W1.cell? ⟨W.heap.size,2,none⟩=some (.slice ad ks.length cap):=by simp [World.cell?,hn1]
 have hJ1:J pre W1:=hJ pre W W1 hJ0 (by rw [<- hW1]; exact World.grownBy_alloc W _ none);have hY1:YieldAt F (m - 1) Tryz.prog l #[.agg #[.int .i64 k,.int .i64 a,(.slice ad ks.length cap)]] W1 fun e W2=>
  (e = .returned (.bool true)/\J (pre++[⟨(.mk k a ks,.agg #[.int .i64 k,.int .i64 a,(.slice ad ks.length cap)]),hv⟩]) W2/\Kept n0 bx W1 W2/\W2.cell? ⟨W.heap.size,2,none⟩=some (.slice ad ks.length cap))\/(e = .returned (.bool false)/\∃ q,Jx (pre++q) W2):=by
  refine YieldAt.mono (hY (m - 1) pre ⟨(.mk k a ks,.agg #[.int .i64 k,.int .i64 a,(.slice ad ks.length cap)]),hv⟩ W1 hJ1 (by simp only [allT,List.length_cons] at hN; omega)) fun e W2 h=>h.elim (fun ⟨he,hj,hk⟩=>.inl ⟨he,hj,hk hK1.ok,?_⟩) (fun ⟨he,hx⟩=>.inr ⟨he,_,hx⟩);exact (hk hK1.ok).same _ _ _ d2 hnx
 obtain ⟨fn,tmps,assign,body,hy,hR⟩:=hY1;rw [hW1] at c1
 gi_wp2_with (first
  | ((try refine ⟨hdd _,?_⟩); refine hR.mono ?_; clear hR; rintro e W2 (⟨rfl,hJ2,hK2,hc2⟩ | ⟨rfl,hx2⟩))
  | (rw [hW1]))
 . gi_loopw [14] (fun u14 wr=>∃ (j:Nat) (q:List (El ⟨wm,fun _=>none,Fr.no⟩ w0)),u14 = .int .i64 j/\j<=ks.length/\q.map (·.1.1) = .mk k a ks::allK (ks.take j)/\J (pre++q) wr/\Kept n0 bx W1 wr)
    (fun u14 _=>match u14 with | .int _ z=>ks.length - z.toNat | _=>0)
   case atStart=>exact ⟨0,[⟨(.mk k a ks,_),hv⟩],rfl,Nat.zero_le _,rfl,hJ2,hK2⟩
   case round=>
    obtain ⟨j,q,rfl,hj,hq,hJq,hKq⟩:=hrel;by_cases hlt:j < ks.length
    . obtain ⟨b,o,v0,v1,v2,rfl,hvj,⟨a0,b0⟩,⟨a1,b1⟩,⟨a2,b2⟩⟩:=hkid j hlt;have hSr:=(hS.kept hwm hK1).kept hwm hKq;have f0:wr.cell? ⟨b,o+j * 3,none⟩=some v0:=by rw [Nat.mul_comm j 3]; exact (hSr _ _ b0).trans a0
      have f1:wr.cell? ⟨b,o+j * 3+1,none⟩=some v1:=by rw [Nat.mul_comm j 3]; exact (hSr _ _ b1).trans a1
      have f2:wr.cell? ⟨b,o+j * 3+2,none⟩=some v2:=by rw [Nat.mul_comm j 3]; exact (hSr _ _ b2).trans a2
      have h1c:=zJq hvj;have hst:=store3 (P:=Tryz.prog) wr 29 (.int .i64 0) (.int .i64 0) (.slice none 0 0) v0 v1 v2 h1c.1 h1c.2.1 h1c.2.2;obtain ⟨W3,hW3⟩:∃ W3,wr.alloc (.cells #[v0,v1,v2] 29)=W3:=⟨_,rfl⟩;rw [hW3] at hst;have hK3:Kept n0 bx wr W3:=by rw [<- hW3]; exact Kept.grown hKq.ok (World.grownBy_alloc wr _ none)
      have hK03:Kept n0 bx W W3:=(hK1.trans hKq).trans hK3;have hn3:W3.heap[wr.heap.size]? = some (.cells #[v0,v1,v2] 29 (0,0)):=by rw [<- hW3]; exact World.alloc_heap_new wr _
      have g0:W3.cell? ⟨wr.heap.size,0,none⟩=some v0:=by simp [World.cell?,hn3]
      have g1:W3.cell? ⟨wr.heap.size,1,none⟩=some v1:=by simp [World.cell?,hn3]
      have g2:W3.cell? ⟨wr.heap.size,2,none⟩=some v2:=by simp [World.cell?,hn3]
      have hby3:=hK03.same _ _ _ hby hxy;have g3:=hK03.same _ _ _ hbw hxw;have hxy3:¬ exb bx W3 by':=fun h=>(hK03.ex _ h).elim hxy (fun h=>by have:=zA1 hby; omega)
      have hxw3:¬ exb bx W3 bw:=fun h=>(hK03.ex _ h).elim hxw (fun h=>by have:=zA1 hbw; omega);have hJ3:J (pre++q) W3:=hJ _ wr W3 hJq (by rw [<- hW3]; exact World.grownBy_alloc wr _ none);have hql:q.length=1+(allK (ks.take j)).length:=by
       have:=congrArg List.length hq;simp only [List.length_map,List.length_cons] at this;omega
      have htk:ks.take (j+1)=ks.take j++[ks[j]]:=List.take_succ_eq_append_getElem hlt;have hal:=zHW ks (j+1);rw [htk,zFs,List.length_append] at hal;have ihj:=ih ks[j] (List.getElem_mem hlt) (m - 1) (.agg #[v0,v1,v2]) (pre++q) W3 (hS.kept hwm hK03) hvj hJ3 hK3.ok hby3 hxy3 g3 hxw3 (by
       simp only [allT,List.length_cons] at hN;rw [List.length_append]; omega)
      gi_wp2_with (first
       | (rw [hst])
       | ((try refine ⟨hdd _,?_⟩); gi_at_call 71; refine ihj.mono ?_; clear ihj; rintro e W4 (⟨rfl,q4,hq4,hJ4,hK4⟩ | ⟨rfl,q4,hx4⟩)))
      . have hkl:=zJp ks;simp only [allT,List.length_cons] at hN;have hw:wrap64 ((j:Int)+1)=((j+1:Nat):Int):=by rw [IntWalk.wrap64_in _ ⟨by omega,by omega⟩]; omega
        rw [hw];refine ⟨⟨j+1,q++q4,rfl,hlt,?_,by rw [<- List.append_assoc]; exact hJ4,(hKq.trans hK3).trans hK4⟩,?_⟩
        . rw [List.map_append,hq,hq4,htk,zFs]; rfl
        . show ks.length - Int.toNat ((j+1:Nat):Int) < ks.length - Int.toNat ((j:Nat):Int);exact zPk hlt
      . go_ret;exact .inr ⟨rfl,q++q4,by rw [<- List.append_assoc]; exact hx4⟩
    . gi_wp2;go_ret;have e2:ks.take j=ks:=List.take_of_length_le (by omega);rw [e2] at hq;exact .inl ⟨rfl,q,by rw [hq]; simp only [allT],hJq,hK1.trans hKq⟩
 . go_ret;exact .inr ⟨rfl,hx2⟩
theorem zJX (F:Fence) (hd:F.depth=none) (hF:∀ f,F.fn f) (hro:F.round=none) (l n0 bx N by' bw:Nat) (wm:Nat->Nat) (w0:World) (hwm:∀ b,n0<=b->wm b=0) (hNb:N<=1000000) (J Jx:List (El ⟨wm,fun _=>none,Fr.no⟩ w0)->World->Prop)
 (hJ:∀ pre W W',J pre W->W.grownBy W' none->J pre W')
 (hY:∀ m pre (x:El ⟨wm,fun _=>none,Fr.no⟩ w0) W,J pre W->pre.length < N->YieldAt F m Tryz.prog l #[x.1.2] W fun e W'=>(e = .returned (.bool true)/\J (pre++[x]) W'/\jY n0 bx W W')\/(e = .returned (.bool false)/\Jx (pre++[x]) W')) :
 ∀ t:Nd,zIg F l n0 bx N by' bw wm w0 J Jx t
 | .mk k a ks=>walk36 F hd hF hro l n0 bx N by' bw wm w0 hwm hNb J Jx hJ hY k a ks fun t ht=>
  have:SizeOf.sizeOf t < 1+SizeOf.sizeOf k+SizeOf.sizeOf a+SizeOf.sizeOf ks:=by have:=List.sizeOf_lt_of_mem ht; omega
  zJX F hd hF hro l n0 bx N by' bw wm w0 hwm hNb J Jx hJ hY t
set_option maxRecDepth 100000 in
set_option maxHeartbeats 1000000 in
theorem zQT (F:Fence) (hd:F.depth=none) (hF:∀ f,F.fn f) (hro:F.round=none) (l n0 bx N Bt:Nat) (wm:Nat->Nat) (w0:World) (hwm:∀ b,n0<=b->wm b=0) (hNb:N<=1000000) (J Jx:List (El ⟨wm,fun _=>none,Fr.no⟩ w0)->World->Prop)
 (hJ:∀ pre W W',J pre W->W.grownBy W' none->J pre W')
 (hY:∀ m pre (x:El ⟨wm,fun _=>none,Fr.no⟩ w0) W,J pre W->pre.length < N->YieldAt F m Tryz.prog l #[x.1.2] W fun e W'=>(e = .returned (.bool true)/\J (pre++[x]) W'/\jY n0 bx W W')\/(e = .returned (.bool false)/\Jx (pre++[x]) W'))
 (t:Nd) (m:Nat) (v0 v1 v2:Value) (W:World) (hS:Same ⟨wm,fun _=>none,Fr.no⟩ w0 W) (hv:RV ⟨wm,fun _=>none,Fr.no⟩ w0 (zc t) (.agg #[v0,v1,v2])) (hJ0:J [] W) (hB:BoxOk n0 bx W)
 (hbt:W.heap[Bt]? = some (.cells #[v0,v1,v2] 29 (0,0))) (hN:(allT t).length<=N) :
 CallsIn F m Tryz.prog 70 #[.func (.yield l) #[] #[],.pointer (some ⟨Bt,0,none⟩)] W fun e W'=>(∃ v,e = .returned v)/\((∃ q:List (El ⟨wm,fun _=>none,Fr.no⟩ w0),q.map (·.1.1)=allT t/\J q W')\/(∃ q,True/\Jx q W')):=by
 have hdd:∀ k:Nat,(F.depth.isSome=true->1<=k):=fun k h=>by rw [hd] at h; cases h
 refine callsIn_of_wp Tryz.func70 rfl (hF _) ?_ hro;simp only [Tryz.ntmps70,List.size_toArray,List.length_cons,List.length_nil,Nat.reduceAdd,Nat.reduceSub,Array.replicate_succ,Array.replicate_zero,List.push_toArray,List.append_toArray,List.nil_append,List.cons_append];obtain ⟨Wy,hWy⟩:∃ Wy,W.alloc (.cells #[.func (.yield l) #[] #[]] 117)=Wy:=⟨_,rfl⟩;have hsy:Wy.heap.size=W.heap.size+1:=by rw [<- hWy]; simp
 obtain ⟨W3,hW3⟩:∃ W3,Wy.alloc (.cells #[.func (.func 71) #[] #[.pointer (some ⟨W.heap.size,0,none⟩),.pointer (some ⟨W.heap.size+1,0,none⟩)]] 117)=W3:=⟨_,rfl⟩;have hst:(store ⟨W.heap.size+1,0,none⟩ (.func (.func 71) #[] #[.pointer (some ⟨W.heap.size,0,none⟩),.pointer (some ⟨W.heap.size+1,0,none⟩)])).run Tryz.prog (Wy.alloc (.cells #[.nilFunc] 117)) = .ok () W3:=by
  have:=zAo (P:=Tryz.prog) Wy 117 #[.nilFunc] 0 (by simp) (.func (.func 71) #[] #[.pointer (some ⟨W.heap.size,0,none⟩),.pointer (some ⟨W.heap.size+1,0,none⟩)]) rfl;rw [hsy] at this;rw [this,<- hW3];rfl
 have hKy:Kept n0 bx W Wy:=by rw [<- hWy]; exact Kept.grown hB (World.grownBy_alloc W _ none)
 have hK3:Kept n0 bx W W3:=hKy.trans (by rw [<- hW3]; exact Kept.grown hKy.ok (World.grownBy_alloc Wy _ none));have hn1:W3.heap[W.heap.size]? = some (.cells #[.func (.yield l) #[] #[]] 117 (0,0)):=by
  rw [<- hW3,Below.heap_alloc _ _ _ (by omega),<- hWy]; exact World.alloc_heap_new W _
 have hn2:W3.heap[W.heap.size+1]? = some (.cells #[.func (.func 71) #[] #[.pointer (some ⟨W.heap.size,0,none⟩),.pointer (some ⟨W.heap.size+1,0,none⟩)]] 117 (0,0)):=by
  have:=World.alloc_heap_new Wy (.cells #[.func (.func 71) #[] #[.pointer (some ⟨W.heap.size,0,none⟩),.pointer (some ⟨W.heap.size+1,0,none⟩)]] 117 (0,0));rw [hW3,hsy] at this;exact this
 have hlb:Bt < W.heap.size:=(Array.getElem?_eq_some_iff.1 hbt).1;have hn3:W3.heap[Bt]? = some (.cells #[v0,v1,v2] 29 (0,0)):=by
  rw [<- hW3,Below.heap_alloc _ _ _ (by omega),<- hWy,Below.heap_alloc _ _ _ hlb]; exact hbt
 have g4:W3.cell? ⟨W.heap.size,0,none⟩=some (.func (.yield l) #[] #[]):=by simp [World.cell?,hn1]
 have g0:W3.cell? ⟨Bt,0,none⟩=some v0:=by simp [World.cell?,hn3]
 have g1:W3.cell? ⟨Bt,1,none⟩=some v1:=by simp [World.cell?,hn3]
 have g2:W3.cell? ⟨Bt,2,none⟩=some v2:=by simp [World.cell?,hn3]
 have g3:W3.cell? ⟨W.heap.size+1,0,none⟩=some (.func (.func 71) #[] #[.pointer (some ⟨W.heap.size,0,none⟩),.pointer (some ⟨W.heap.size+1,0,none⟩)]):=by simp [World.cell?,hn2]
 have hxn:∀ b,W.heap.size<=b->¬ exb bx W3 b:=fun b hb hx=>by
  have hbx:W3.heap[bx]? = W.heap[bx]?:=by
   rw [<- hW3,Below.heap_alloc _ _ _ (by have:=hB.lt; omega),<- hWy,Below.heap_alloc _ _ _ hB.lt]
  have:=(hB.2.2 _ ((kR hbx b).1 hx)).2;omega
 have hJ3:J [] W3:=hJ _ Wy W3 (hJ _ W Wy hJ0 (by rw [<- hWy]; exact World.grownBy_alloc W _ none)) (by rw [<- hW3]; exact World.grownBy_alloc Wy _ none);have hwk:=zJX F hd hF hro l n0 bx N W.heap.size (W.heap.size+1) wm w0 hwm hNb J Jx hJ hY t (m - 1) (.agg #[v0,v1,v2]) [] W3 (hS.kept hwm hK3) hv hJ3 hK3.ok g4 (hxn _ (Nat.le_refl _)) g3 (hxn _ (by omega)) (by simpa using hN)
 gi_wp2_with (first
  | (rw [hst])
  | ((try refine ⟨hdd _,?_⟩); gi_at_call 71; refine hwk.mono ?_; clear hwk; rintro e W4 (⟨rfl,q4,hq4,hJ4,hK4⟩ | ⟨rfl,q4,hx4⟩)))
 . go_end0;exact ⟨⟨_,rfl⟩,.inl ⟨q4,hq4,by simpa using hJ4⟩⟩
 . go_end0;exact ⟨⟨_,rfl⟩,.inr ⟨q4,trivial,by simpa using hx4⟩⟩
theorem zNo (F:Fence) (hd:F.depth=none) (hF:∀ f,F.fn f) (hro:F.round=none) (m n0 bx Bt:Nat) (wm:Nat->Nat) (w0 w:World) (hwm:∀ b,n0<=b->wm b=0) (t:Nd) (hNb:(allT t).length<=1000000)
 (v0 v1 v2:Value) (hS:Same ⟨wm,fun _=>none,Fr.no⟩ w0 w) (hv:RV ⟨wm,fun _=>none,Fr.no⟩ w0 (zc t) (.agg #[v0,v1,v2])) (hB:BoxOk n0 bx w) (hn0:n0<=w.heap.size) (hbt:w.heap[Bt]? = some (.cells #[v0,v1,v2] 29 (0,0))) :
 SeqStopsK F m Tryz.prog 70 #[.pointer (some ⟨Bt,0,none⟩)] (fun x:El ⟨wm,fun _=>none,Fr.no⟩ w0=>#[x.1.2]) (jY n0 bx) (fun q=>q.map (·.1.1)=allT t) (fun _=>True) (allT t).length w:=fun l J Jx W hW hJa _ hY h0=>by
 have hS2:Same ⟨wm,fun _=>none,Fr.no⟩ w0 W:=fun b o ho=>by
  have hb:b < n0:=by
   rcases Nat.lt_or_ge b n0 with h1 | h1
   . exact h1
   . replace ho:o < wm b:=ho;rw [hwm b h1] at ho; omega
  exact (x8 (hW.block b (by omega)) o).trans (hS b o ho)
 exact zQT F hd hF hro l n0 bx (allT t).length Bt wm w0 hwm hNb J Jx (fun pre A B hj hg=>hJa pre A B none hj hg (fun r e=>by cases e)) (fun m' pre x W' hj hl=>by
  obtain ⟨fn,tmps,assign,body,hy,hR⟩:=hY pre x W' hj hl;exact ⟨fn,tmps,assign,body,hy,hR.1,fun c cs _=>hR.2 c cs (fun d h=>by rw [hd] at h; cases h)⟩)
  t m v0 v1 v2 W hS2 hv h0 (hB.grown hW.size (hW.block _ hB.lt)) ((hW.block _ (Array.getElem?_eq_some_iff.1 hbt).1).trans hbt) (Nat.le_refl _)
end
section
open Go.Al Go.Den Go.RowKit Go.Shelf
attribute [local go_sem] Oper.semAt_some
theorem zEv {F:Fence} {n:Nat} {P:Program} (w:World) {ops:Array Oper} {rest:List Oper} {o:Oper} {a:Act} {Q:Exit->Act->World->Prop}
 (hg:o.guard=none) (s x:Operand) (t:TypeId) (hop:o.op=Op.call { callee:=Callee.builtin Builtin.append,args:=#[s,x],argTypes:=#[t,t] })
 (base:Nat) (e:TypeId) (i:TypeInfo) (z:Value) (size bytes:Nat) (h1:P.underlying t=some (.slice e)) (h2:P.info? e=some i) (h3:i.zero=some z) (h4:i.size=size) (h5:i.bytes=bytes) (h6:z.cells.size=size) (h7:0 < size)
 (v:Value) (k:Nat) (xs:List Value) (hs:a.eval s=v) (hown:w.ownsRow base e size v k xs) (ad:Addr) (m c:Nat) (news:List Value) (hx:a.eval x = .slice (some ad) m c) (hn:news.length=m * size)
 (hc:∀ j u,news[j]? = some u->w.cell? (ad.add j)=some u) (h1c:∀ u ∈ news,u.oneCell' = true) (b1:k+m<=maxLen) (b2:(k+m) * bytes<=140737488355328) (b3:base<=w.heap.size)
 (hK:∀ v' w',w'.ownsRow base e size v' (k+m) (xs++news)->w.grownBy w' v.ownBlock->(v' = .slice none 0 0↔v = .slice none 0 0/\m=0)->(v'.ownBlock=v.ownBlock\/v'.ownBlock=some w.heap.size)->wpListIn F n P ops Q rest (a.put o.dst v') w') :
 wpListIn F n P ops Q (o::rest) a w:=by
 refine wpListIn_plain hg fun K hK'=>?_;obtain ⟨v',w',hrun,r1,r2,r3,r4⟩:=run_append_own_at (P:=P) w base t o.type e i z size bytes h1 h2 h3 h4 h5 h6 h7 v k xs hown ad m c news hn hc h1c b1 b2 b3;unfold Oper.wpIn;refine ⟨?_,?_⟩
 . simp [Oper.about,hop,resolve,Target.leads,Sem.run_pure]
 . rw [Oper.semAt_plain F _ _ (by rw [hop]; intro c hc'; cases hc')];simp [execOp,hop,resolve,invoke,builtin,hs,hx,hrun,Result.andThen];exact hK' _ _ (hK v' w' r1 r2 r3 r4)
theorem zJu {W:World} {base:Nat} {e:TypeId} {size:Nat} {v:Value} {k:Nat} {xs:List Value} (h:W.ownsRow base e size v k xs) {j:Nat} {o:Obj} (hj:W.heap[j]? = some o) (hno:∀ cur,o≠.cells cur e (0,0)) :
 v.ownBlock=none\/v.ownBlock≠some j:=by
 rcases h.2 with ⟨rfl,_⟩ | ⟨g,cap,cur,rfl,_,hgb,_⟩
 . exact .inl rfl
 . refine .inr fun e'=>?_;have:g=j:=by simpa [Value.ownBlock] using e'
   subst this; rw [hgb] at hj; cases hj; exact hno cur rfl
def Grow (n0 bx:Nat) (t e:TypeId) (size:Nat) (w:World) (xs:List Value) (n:Nat) (W:World):Prop:=
 ∃ v,W.heap[bx]? = some (.cells #[v] t (0,0))/\W.ownsRow n0 e size v n xs/\(n=0->v = .slice none 0 0)/\Below n0 w W
theorem Grow.exb {n0 bx:Nat} {t e:TypeId} {size:Nat} {w:World} {xs:List Value} {n:Nat} {W:World} {v:Value} (hv:W.heap[bx]? = some (.cells #[v] t (0,0))) (hr:W.ownsRow n0 e size v n xs) (b:Nat) :
 exb bx W b↔b=bx\/v.ownBlock=some b:=by
 have hc:W.cell? ⟨bx,0,none⟩=some v:=by simp [World.cell?,hv]
 unfold Go.Proofs.YtnamdpbcpnnhaaaGreatDoor.exb;rw [hc];refine or_congr Iff.rfl ⟨fun ⟨o,l,c,h⟩=>?_,fun h=>?_⟩
 . injection h with h; subst h; rfl
 . rcases hr.2 with ⟨rfl,_⟩ | ⟨g,cap,cur,rfl,_,hgb,_⟩
   . cases h
   . have:g=b:=by simpa [Value.ownBlock] using h
     subst this; exact ⟨_,_,_,rfl⟩
theorem Grow.box {n0 bx:Nat} {t e:TypeId} {size:Nat} {w:World} {xs:List Value} {n:Nat} {W:World} (h0:n0<=bx) (h:Grow n0 bx t e size w xs n W):BoxOk n0 bx W:=by
 obtain ⟨v,hv,hr,_,hb⟩:=h;refine ⟨h0,⟨_,_,_,hv⟩,fun b hx=>?_⟩;rcases (Grow.exb (w:=w) hv hr b).1 hx with rfl | h
 . exact ⟨h0,(Array.getElem?_eq_some_iff.1 hv).1⟩
 . rcases hr.2 with ⟨rfl,_⟩ | ⟨g,cap,cur,rfl,hg,hgb,_⟩
   . cases h
   . have:g=b:=by simpa [Value.ownBlock] using h
     subst this; exact ⟨hg,(Array.getElem?_eq_some_iff.1 hgb).1⟩
theorem Grow.own {n0 bx:Nat} {t e:TypeId} {size:Nat} {w:World} {xs:List Value} {n:Nat} {A B:World} {row:Option Nat} (h0:n0<=w.heap.size) (h:Grow n0 bx t e size w xs n A) (hg:A.grownBy B row) (hr:∀ r,row=some r->n0<=r/\∃ o:Obj,A.heap[r]? = some o/\o.isCells=false):Grow n0 bx t e size w xs n B:=by
 obtain ⟨v,hv,hr',hz,hb⟩:=h;have hne:∀ {b:Nat} {o:Obj},A.heap[b]? = some o->o.isCells=true->some b≠row:=fun hb hc e=>by
  obtain ⟨_,o',ho,hc'⟩:=hr _ e.symm;rw [hb] at ho; injection ho with ho; subst ho; rw [hc] at hc'; cases hc'
 refine ⟨v,(hg.block bx (Array.getElem?_eq_some_iff.1 hv).1 (hne hv rfl)).trans hv,hr'.kept hg ?_,hz,hb.grown hg (Nat.le_trans h0 hb.size) (fun k e=>(hr k e).1)⟩;rcases hr'.2 with ⟨rfl,_⟩ | ⟨g,cap,cur,rfl,_,hgb,_⟩
 . exact .inl rfl
 . exact .inr (hne hgb rfl)
theorem Grow.kept {n0 bx:Nat} {t e:TypeId} {size:Nat} {w:World} {xs xs':List Value} {n n':Nat} {A B:World} (h0:n0<=bx) {v v':Value} (hv:A.heap[bx]? = some (.cells #[v] t (0,0))) (hr:A.ownsRow n0 e size v n xs)
 (hv':B.heap[bx]? = some (.cells #[v'] t (0,0))) (hr':B.ownsRow n0 e size v' n' xs') (hz:n' = 0->v' = .slice none 0 0) (hB:Below n0 w B) (hs:A.heap.size<=B.heap.size)
 (hne:v'.ownBlock=v.ownBlock\/∃ b,v'.ownBlock=some b/\A.heap.size<=b) (h:∀ b,b < A.heap.size->b≠bx->v.ownBlock≠some b->B.heap[b]? = A.heap[b]?):Kept n0 bx A B:=by
 have hlow:∀ b,b < n0->v.ownBlock≠some b:=fun b hb e1=>by
  rcases hr.2 with ⟨rfl,_⟩ | ⟨g,cap,cur,rfl,hg,hgb,_⟩
  . cases e1
  . have:g=b:=by simpa [Value.ownBlock] using e1
    omega
 have hbx:=(Array.getElem?_eq_some_iff.1 hv).1;refine ⟨Grow.box h0 ⟨v',hv',hr',hz,hB⟩,hs,fun b o u hb hx=>?_,fun b hx=>?_,fun b hb=>h b (by omega) (by omega) (hlow b hb)⟩
 . have h1:b≠bx:=fun e1=>hx ((Grow.exb (w:=w) hv hr b).2 (.inl e1));have h2:v.ownBlock≠some b:=fun e1=>hx ((Grow.exb (w:=w) hv hr b).2 (.inr e1));exact (x8 (h b (zA1 hb) h1 h2) o).trans hb
 . rcases (Grow.exb (w:=w) hv' hr' b).1 hx with rfl | h1
   . exact .inl (.inl rfl)
   . rcases hne with e1 | ⟨b',e1,e2⟩
     . exact .inl ((Grow.exb (w:=w) hv hr b).2 (.inr (e1 ▸ h1)))
     . rw [e1] at h1; injection h1 with h1; subst h1; exact .inr e2
theorem Grow.round {n0 bx K0:Nat} {t e:TypeId} {size:Nat} {w:World} {xs xs':List Value} {n n':Nat} {A B:World} (h0:n0<=bx) {v v':Value} (hv:A.heap[bx]? = some (.cells #[v] t (0,0))) (hr:A.ownsRow n0 e size v n xs)
 (hv':B.heap[bx]? = some (.cells #[v'] t (0,0))) (hr':B.ownsRow n0 e size v' n' xs') (hz:n' = 0->v' = .slice none 0 0) (hB:Below n0 w B) (hs:A.heap.size<=B.heap.size)
 (hne:v'.ownBlock=v.ownBlock\/∃ b,v'.ownBlock=some b/\A.heap.size<=b) (h:∀ b,b < A.heap.size->b≠bx->v.ownBlock≠some b->B.heap[b]? = A.heap[b]?) :
 KeepsFrom K0 A B/\jY n0 bx A B/\Grow n0 bx t e size w xs' n' B:=by
 refine ⟨⟨hs,fun k o _ hk hc=>(h k (Array.getElem?_eq_some_iff.1 hk).1 (fun e1=>?_) (fun e1=>?_)).trans hk⟩,fun _=>Grow.kept h0 hv hr hv' hr' hz hB hs hne h,v',hv',hr',hz,hB⟩
 . subst e1; rw [hv] at hk; injection hk with hk; subst hk; cases hc
 . rcases hr.2 with ⟨rfl,_⟩ | ⟨g,cap,cur,rfl,_,hgb,_⟩
   . cases e1
   . have:g=k:=by simpa [Value.ownBlock] using e1
     subst this; rw [hgb] at hk; injection hk with hk; subst hk; cases hc
theorem zJm {W:World} {B:Nat} {v:Value} {t:TypeId} (v':Value) (h:W.heap[B]? = some (.cells #[v] t (0,0))):(W.setCell ⟨B,0,none⟩ v').heap[B]? = some (.cells #[v'] t (0,0)):=by
 obtain ⟨hlt,hk⟩:=Array.getElem?_eq_some_iff.1 h;show (W.heap.modify B _)[B]? = _;rw [Array.getElem?_eq_getElem (by rw [Array.size_modify]; exact hlt),Array.getElem_modify_self,hk];rfl
theorem zQH {W:World} {base:Nat} {e:TypeId} {size:Nat} {v:Value} {k:Nat} {xs:List Value} (h:W.ownsRow base e size v k xs) {b:Nat} (hb:v.ownBlock=some b):base<=b:=by
 rcases h.2 with ⟨rfl,_⟩ | ⟨g,cap,cur,rfl,hg,_⟩
 . cases hb
 . have:g=b:=by simpa [Value.ownBlock] using hb
   omega
set_option maxRecDepth 100000 in
set_option maxHeartbeats 1000000 in
theorem all_in (F:Fence) (hF:∀ f,F.fn f) (hro:F.round=none) (m:Nat) (v0 v1 v2:Value) (w:World) :
 CallsIn F m Tryz.prog 51 #[.agg #[v0,v1,v2]] w fun e w'=>e = .returned (.func (.func 70) #[] #[.pointer (some ⟨w.heap.size,0,none⟩)])/\w' = w.alloc (.cells #[v0,v1,v2] 29):=by
 refine callsIn_of_wp Tryz.func51 rfl (hF _) ?_ hro;simp only [Tryz.ntmps51,List.size_toArray,List.length_cons,List.length_nil,Nat.reduceAdd,Nat.reduceSub,Array.replicate_succ,Array.replicate_zero,List.push_toArray,List.append_toArray,List.nil_append,List.cons_append];gi_wp2;go_ret;exact ⟨rfl,rfl⟩
end
section
open Go.Al
theorem code91:zQ Tryz.prog 91=true:=by kernel_rfl
end
end Go.Proofs.YtnamdpbcpnnhaaaGreatDoor
section
namespace Go.Proofs
open Go.Shelf
def Tryz.lays137_ren:Go.Shelf.Ren:=⟨fun | 137=>90 | 217=>120 | 266=>133 | n=>n,fun | 9=>9 | 5=>5 | 3=>3 | n=>n,fun | n=>n⟩
theorem Tryz.lays137:Go.Proofs.Lays.n137 Tryz.prog Tryz.lays137_ren:={
 mixed:=by kernel_rfl
 f137:=Tryz.func90.trans (congrArg some (by kernel_rfl))
 f217:=Tryz.func120.trans (congrArg some (by kernel_rfl))
 f266:=Tryz.func133.trans (congrArg some (by kernel_rfl))
 t3:=Tryz.underlying3
 a3:=Tryz.isAgg3
 z3:=Tryz.sizeOf3
 v3:=Tryz.zeroValue3
 t5:=Tryz.underlying5
 a5:=Tryz.isAgg5
 z5:=Tryz.sizeOf5
 v5:=Tryz.zeroValue5
 t9:=Tryz.underlying9
 a9:=Tryz.isAgg9
 z9:=Tryz.sizeOf9
 v9:=Tryz.zeroValue9 }
open Go.RowKit in
theorem Tryz.strings_IndexByte (s:ByteArray) (c:Int) (w:World) :
 Calls Tryz.prog 90 #[.string s,.int .u8 c] w fun e w'=>e = .returned (.int .i64 (Lib.indexByte s.data.toList c.toNat.toUInt8))/\w' = w:=Any.strings_IndexByte Tryz.lays137 s c w
def Tryz.lays143_ren:Go.Shelf.Ren:=⟨fun | 143=>91 | 219=>121 | 217=>120 | 225=>134 | 224=>135 | 267=>136 | 266=>133 | 314=>144 | n=>n,fun | 9=>9 | 3=>3 | 4=>4 | 5=>5 | 46=>109 | 146=>132 | 51=>131 | n=>n,fun | 1=>4 | n=>n⟩
theorem Tryz.lays143:Go.Proofs.Lays.n143 Tryz.prog Tryz.lays143_ren:={
 mixed:=by kernel_rfl
 f143:=Tryz.func91.trans (congrArg some (by kernel_rfl))
 f217:=Tryz.func120.trans (congrArg some (by kernel_rfl))
 f219:=Tryz.func121.trans (congrArg some (by kernel_rfl))
 f224:=Tryz.func135.trans (congrArg some (by kernel_rfl))
 f225:=Tryz.func134.trans (congrArg some (by kernel_rfl))
 f266:=Tryz.func133.trans (congrArg some (by kernel_rfl))
 f267:=Tryz.func136.trans (congrArg some (by kernel_rfl))
 f314:=Tryz.func144.trans (congrArg some (by kernel_rfl))
 t3:=Tryz.underlying3
 a3:=Tryz.isAgg3
 z3:=Tryz.sizeOf3
 v3:=Tryz.zeroValue3
 t4:=Tryz.underlying4
 a4:=Tryz.isAgg4
 z4:=Tryz.sizeOf4
 v4:=Tryz.zeroValue4
 t5:=Tryz.underlying5
 a5:=Tryz.isAgg5
 z5:=Tryz.sizeOf5
 v5:=Tryz.zeroValue5
 t9:=Tryz.underlying9
 a9:=Tryz.isAgg9
 z9:=Tryz.sizeOf9
 v9:=Tryz.zeroValue9
 t46:=Tryz.underlying109
 a46:=Tryz.isAgg109
 z46:=Tryz.sizeOf109
 v46:=Tryz.zeroValue109
 t51:=Tryz.underlying131
 a51:=Tryz.isAgg131
 z51:=Tryz.sizeOf131
 v51:=Tryz.zeroValue131
 t146:=Tryz.underlying132
 a146:=Tryz.isAgg132
 z146:=Tryz.sizeOf132
 v146:=Tryz.zeroValue132
 g1:=by kernel_rfl }
open Go.RowKit Go.Lib in
theorem Tryz.strings_Index (s sub:ByteArray) (m:Int) (w:World) (hs:s.size < 4294967281) (hm:w.cell? ⟨4,0,none⟩=some (.int .i64 m)) :
 Calls Tryz.prog 91 #[.string s,.string sub] w fun e w'=>e = .returned (.int .i64 (Lib.index s.data.toList sub.data.toList))/\w' = w:=Any.strings_Index Tryz.lays143 s sub m w hs hm
def Tryz.lays99_ren:Go.Shelf.Ren:=⟨fun | 99=>119 | 206=>132 | n=>n,fun | 9=>9 | 4=>4 | 3=>3 | n=>n,fun | n=>n⟩
theorem Tryz.lays99:Go.Proofs.Lays.n99 Tryz.prog Tryz.lays99_ren:={
 mixed:=by kernel_rfl
 f99:=Tryz.func119.trans (congrArg some (by kernel_rfl))
 f206:=Tryz.func132.trans (congrArg some (by kernel_rfl))
 t3:=Tryz.underlying3
 a3:=Tryz.isAgg3
 z3:=Tryz.sizeOf3
 v3:=Tryz.zeroValue3
 t4:=Tryz.underlying4
 a4:=Tryz.isAgg4
 z4:=Tryz.sizeOf4
 v4:=Tryz.zeroValue4
 t9:=Tryz.underlying9
 a9:=Tryz.isAgg9
 z9:=Tryz.sizeOf9
 v9:=Tryz.zeroValue9 }
open Go.RowKit Go.Lib in
theorem Tryz.strings_HasPrefix (s p:ByteArray) (w:World) :
 Calls Tryz.prog 119 #[.string s,.string p] w fun e w'=>e = .returned (.bool (Lib.hasPrefix s.data.toList p.data.toList))/\w' = w:=Any.strings_HasPrefix Tryz.lays99 s p w
end Go.Proofs
namespace Go.Proofs.YtnamdpbcpnnhaaaGreatDoor
open Go.Al Go.Den Go.RowKit Go.Sort
theorem zKa {B:Nat} {wm:Nat->Nat} {w:World} (h:GlobOk B wm w):∃ m,w.cell? ⟨4,0,none⟩=some (.int .i64 m):=by
 obtain ⟨h0,arr,el,m,h1,z,h2⟩:=h.one (4,fun us=>∃ m,us=[.int .i64 m]) (by simp [zLn]);refine ⟨z,?_⟩;unfold World.cell?;replace h1:w.heap[4]? = some (.cells arr el m):=h1;simp only [h1];have:arr=[Value.int .i64 z].toArray:=by rw [<- h2]
 rw [this];rfl
theorem jl {wm:Nat->Nat} {w w':World} (hwm:∀ b,w.heap.size<=b->wm b=0) (hb:Below w.heap.size w w') :
 (∀ b,w'.heap.size<=b->wm b=0)/\Step w.heap.size ⟨wm,fun _=>none,Fr.no⟩ w ⟨wm,fun _=>none,Fr.no⟩ w':=by
 have hL:Later ⟨wm,fun _=>none,Fr.no⟩ w ⟨wm,fun _=>none,Fr.no⟩ w':=⟨fun _=>Nat.le_refl _,fun _ _ h=>h,fun b o ho=>by
  have hb2:b < w.heap.size:=by
   rcases Nat.lt_or_ge b w.heap.size with h | h
   . exact h
   . replace ho:o < wm b:=ho;rw [hwm b h] at ho; omega
  exact World.cell?_of_block (hb.block b hb2)⟩
 exact ⟨fun b hb2=>hwm b (Nat.le_trans hb.size hb2),⟨hL,hb,fun b h=>(by simp [Fr.no] at h),fun _ _=>rfl,rfl⟩⟩
theorem pure90 (s:Str) (c:Int):qX Tryz.prog 90 [.at (.string ⟨s.toArray⟩),.at (.int .u8 c)] (.at (.int .i64 (Lib.indexByte s c.toNat.toUInt8))):=by
 intro wm w us hwm hgl hu;cases hu with
 | cons hu1 hu2=>
  cases hu2 with
  | cons hu2 hu3=>
   cases hu3;have e:=yA hu1;subst e;have e:=yA hu2;subst e;refine (Tryz.strings_IndexByte ⟨s.toArray⟩ c w).mono ?_;rintro e w' ⟨rfl,rfl⟩;obtain ⟨q1,q2⟩:=jl hwm (Below.refl _ _);exact ⟨_,wm,rfl,q1,q2,yN rfl⟩
theorem pure91 (s t:Str) (h:s.length < 4294967281):qX Tryz.prog 91 [.at (.string ⟨s.toArray⟩),.at (.string ⟨t.toArray⟩)] (.at (.int .i64 (Lib.index s t))):=by
 intro wm w us hwm hgl hu;cases hu with
 | cons hu1 hu2=>
  cases hu2 with
  | cons hu2 hu3=>
   cases hu3;have e:=yA hu1;subst e;have e:=yA hu2;subst e;obtain ⟨m,hm⟩:=zKa hgl;refine (Tryz.strings_Index ⟨s.toArray⟩ ⟨t.toArray⟩ m w (by simpa [ByteArray.size] using h) hm).mono ?_;rintro e w' ⟨rfl,rfl⟩;obtain ⟨q1,q2⟩:=jl hwm (Below.refl _ _);exact ⟨_,wm,rfl,q1,q2,yN rfl⟩
def c90 (x:Str×Int×Unit):Option (Int×Unit):=some (Lib.indexByte x.1 x.2.1.toNat.toUInt8,())
theorem ok90' (s:Str) (c:Int) (u:Unit) (vs:List V) (hvs:zBD CC as90 ((s,c,u):zh as90) vs):qX Tryz.prog 90 vs (.at (.int .i64 (Lib.indexByte s c.toNat.toUInt8))):=by
 obtain ⟨v,vs',rfl,hv,v2,vs2,rfl,hv2,hvs⟩:=hvs;replace hvs:vs2=[]:=hvs;subst hvs;replace hv:v = .at (.string ⟨List.toArray s⟩):=hv;replace hv2:v2 = .at (.int .u8 c):=hv2;subst hv hv2;exact pure90 s c
theorem ok90:ConOk CC Tryz.prog 90 ⟨as90,rs90,c90⟩:=fun x y hx vs hvs=>by
 have:=ok90' x.1 x.2.1 x.2.2 vs hvs;injection hx with hx
 subst hx;exact this
def c91 (x:Str×Str×Unit):Option (Int×Unit):=if x.1.length < 4294967281 then some (Lib.index x.1 x.2.1,()) else none
theorem ok91' (s t:Str) (h:s.length < 4294967281) (u:Unit) (vs:List V) (hvs:zBD CC as91 ((s,t,u):zh as91) vs):qX Tryz.prog 91 vs (.at (.int .i64 (Lib.index s t))):=by
 obtain ⟨v,vs',rfl,hv,v2,vs2,rfl,hv2,hvs⟩:=hvs;replace hvs:vs2=[]:=hvs;subst hvs;replace hv:v = .at (.string ⟨List.toArray s⟩):=hv;replace hv2:v2 = .at (.string ⟨List.toArray t⟩):=hv2;subst hv hv2;exact pure91 s t h
theorem ok91:ConOk CC Tryz.prog 91 ⟨as91,rs91,c91⟩:=fun x y hx vs hvs=>by
 obtain ⟨s,t,u⟩:=x;by_cases h:List.length (show Str from s) < 4294967281
 . have h2:c91 (s,t,u)=some (Lib.index s t,()):=if_pos h;replace hx:c91 (s,t,u)=some y:=hx;rw [h2] at hx;injection hx with hx
   subst hx;exact ok91' s t h u vs hvs
 . have h2:c91 (s,t,u)=none:=if_neg h;replace hx:c91 (s,t,u)=some y:=hx;rw [h2] at hx;cases hx
end Go.Proofs.YtnamdpbcpnnhaaaGreatDoor
end
namespace Go.Proofs.YtnamdpbcpnnhaaaGreatDoor
section
open Go.Al Go.Den Go.RowKit Go.Shelf
theorem zO9 {wm:Nat->Nat} {w W':World} (hwm:∀ b,w.heap.size<=b->wm b=0) (hbel:Below w.heap.size w W') {size n:Nat} {e:TypeId} {v:Value} {ds:List Value} (hrow:W'.ownsRow w.heap.size e size v n ds) (hz:n=0->v = .slice none 0 0)
 (es:List V) (hl:n=es.length) (hu:∀ x ∈ es,x.size=size) (hrc:RCs ⟨wm,fun _=>none,Fr.no⟩ w es ds) :
 ∃ wm',(∀ b,W'.heap.size<=b->wm' b=0)/\Step w.heap.size ⟨wm,fun _=>none,Fr.no⟩ w ⟨wm',fun _=>none,Fr.no⟩ W'/\RV ⟨wm',fun _=>none,Fr.no⟩ W' (.lst (zw es) es) v:=by
 subst hl;obtain ⟨q1,q2⟩:=jl hwm hbel;cases es with
 | nil=>
  refine ⟨wm,q1,q2,?_⟩;rw [hz rfl];exact qF (by unfold RC; exact .inl ⟨rfl,rfl,trivial⟩)
 | cons x r=>
  obtain ⟨hlen,⟨_,h0⟩ | ⟨g,cap,cur,rfl,hg,hgb,hn,hm,hcs,htk⟩⟩:=hrow
  . simp at h0
  . have hgl:=(Array.getElem?_eq_some_iff.1 hgb).1;have hL:Later ⟨wm,fun _=>none,Fr.no⟩ w ⟨fun b=>if b=g then ds.length else wm b,fun _=>none,Fr.no⟩ W':=by
     refine ⟨fun b=>?_,fun _ _ h=>h,q2.later.cell⟩;show wm b<=if b=g then ds.length else wm b
     split
     . rename_i h; rw [h,hwm g hg]; exact Nat.zero_le _
     . exact Nat.le_refl _
    refine ⟨fun b=>if b=g then ds.length else wm b,fun b hb=>?_,⟨hL,q2.below,fun b h=>(by simp [Fr.no] at h),fun b hb=>?_,rfl⟩,qF ?_⟩
    . show (if b=g then ds.length else wm b)=0;rw [if_neg (by omega)];exact q1 b hb
    . show (if b=g then ds.length else wm b)=wm b;rw [if_neg (by omega)]
    . simp only [RC];refine .inr ⟨g,0,cap,ds,rfl,hn,by simp [zw,zD4],z8 hL _ _ hrc,⟨size,hu,by intro t nb s h; simp [zw] at h⟩,fun k u hk=>⟨?_,?_⟩⟩
      . have hk1:k < ds.length:=(List.getElem?_eq_some_iff.1 hk).1;rw [<- htk,List.getElem?_take] at hk;split at hk
        . simp only [World.cell?,hgb,Nat.zero_add];rw [Array.getElem?_toList] at hk;simpa using hk
        . cases hk
      . have hk1:k < ds.length:=(List.getElem?_eq_some_iff.1 hk).1;show 0+k < if g=g then ds.length else wm g
        rw [if_pos rfl]; omega
theorem zN6 (t:Nd):trT CC ⟨id,id,id,id⟩ (argT CC (.st TI.node) false t)=zc t:=by
 cases t with
 | mk k a ks=>rw [qH]; rfl
end
section
open Go.Al Go.Den Go.RowKit Go.Shelf
attribute [local go_sem] Oper.semAt_some
attribute [local congr] ym xO xT xn yO yq yF yE yn xM yo xW yw yk yB yK yg xZ xU yS xL yj yU yR yr yu yV yl yh yY xm xY xV xK xP xN yi yX yT
abbrev polF:Pol:=⟨fun _=>true,fun d=>d == 18,fun _=>false,fun _=>false,[],fun _=>[]⟩
theorem zKy:cV (.agg #[.int .i64 0,.int .i64 0,.slice none 0 0]) = .agg [.at (.int .i64 0),.at (.int .i64 0),.lst .nil []]:=rfl
def zBG:Nat->List Nat:=fun _=>[3,5,6,13]
def Row (W:World) (n0 bx:Nat) (v:Value) (n:Nat) (ds:List Value):Prop:=
 (n=0/\v = .slice none 0 0/\ds=[]) \/
 (∃ r cap arr el,v = .slice (some ⟨r,0,none⟩) n cap/\n0<=r/\r≠bx/\W.heap[r]? = some (.cells arr el (0,0))/\n<=cap/\arr.size=cap * 3/\arr.toList.take (n * 3)=ds/\ds.length=n * 3/\0 < n/\∀ d ∈ ds,one d=true)
theorem Row.own {W:World} {n0 bx n:Nat} {v:Value} {ds:List Value} (h:Row W n0 bx v n ds) {b:Nat} (hb:v.ownBlock=some b):n0<=b/\b≠bx/\∃ cap arr el,v = .slice (some ⟨b,0,none⟩) n cap/\W.heap[b]? = some (.cells arr el (0,0)):=by
 rcases h with ⟨_,rfl,_⟩ | ⟨r,cap,arr,el,rfl,h1,h2,h3,_⟩
 . cases hb
 . have:r=b:=by simpa [Value.ownBlock] using hb
   subst this;exact ⟨h1,h2,cap,arr,el,rfl,h3⟩
theorem Row.kept {A B:World} {n0 bx n:Nat} {v:Value} {ds:List Value} (h:Row A n0 bx v n ds) (hk:∀ b,v.ownBlock=some b->B.heap[b]? = A.heap[b]?):Row B n0 bx v n ds:=by
 rcases h with h | ⟨r,cap,arr,el,rfl,h1,h2,h3,h4⟩
 . exact .inl h
 . exact .inr ⟨r,cap,arr,el,rfl,h1,h2,(hk r rfl).trans h3,h4⟩
def GrowF (n0 bx:Nat) (w:World) (ds:List Value) (n:Nat) (W:World):Prop:=
 ∃ v,(∃ t,W.heap[bx]? = some (.cells #[v] t (0,0)))/\Row W n0 bx v n ds/\Below n0 w W
theorem zQY {bx:Nat} {W:World} {v:Value} {t:TypeId} (hv:W.heap[bx]? = some (.cells #[v] t (0,0))) (hs:∀ b o l c,v = .slice (some ⟨b,o,none⟩) l c->v.ownBlock=some b) (b:Nat) :
 exb bx W b↔b=bx\/∃ o l c,v = .slice (some ⟨b,o,none⟩) l c:=by
 have hc:W.cell? ⟨bx,0,none⟩=some v:=by simp [World.cell?,hv]
 unfold Go.Proofs.YtnamdpbcpnnhaaaGreatDoor.exb;rw [hc];exact or_congr Iff.rfl ⟨fun ⟨o,l,c,h⟩=>⟨o,l,c,by injection h⟩,fun ⟨o,l,c,h⟩=>⟨o,l,c,by rw [h]⟩⟩
theorem Row.exb {bx n0 n:Nat} {W:World} {v:Value} {t:TypeId} {ds:List Value} (h:Row W n0 bx v n ds) (hv:W.heap[bx]? = some (.cells #[v] t (0,0))) (b:Nat) :
 exb bx W b↔b=bx\/v.ownBlock=some b:=by
 rw [zQY hv (fun b o l c e=>by subst e; rfl) b];refine or_congr Iff.rfl ⟨fun ⟨o,l,c,e⟩=>by subst e; rfl,fun e=>?_⟩;obtain ⟨_,_,cap,arr,el,e1,_⟩:=h.own e;exact ⟨_,_,_,e1⟩
theorem GrowF.box {n0 bx:Nat} {w:World} {ds:List Value} {n:Nat} {W:World} (h0:n0<=bx) (h:GrowF n0 bx w ds n W):BoxOk n0 bx W:=by
 obtain ⟨v,⟨t,hv⟩,hr,hb⟩:=h;refine ⟨h0,⟨_,_,_,hv⟩,fun b hx=>?_⟩;rcases (hr.exb hv b).1 hx with rfl | h
 . exact ⟨h0,(Array.getElem?_eq_some_iff.1 hv).1⟩
 . obtain ⟨h1,_,_,arr,el,_,h2⟩:=hr.own h;exact ⟨h1,(Array.getElem?_eq_some_iff.1 h2).1⟩
theorem qv {A B:World} {row:Option Nat} (hg:A.grownBy B row) (hr:∀ r,row=some r->∃ o:Obj,A.heap[r]? = some o/\o.isCells=false) {b:Nat} {arr:Array Value} {el:TypeId} {m:Nat×Nat} (h:A.heap[b]? = some (.cells arr el m)):B.heap[b]? = some (.cells arr el m):=
 (hg.block b (Array.getElem?_eq_some_iff.1 h).1 (fun e=>by
  obtain ⟨o,ho,hc⟩:=hr b e.symm;rw [h] at ho; injection ho with ho; subst ho; cases hc)).trans h
theorem GrowF.grown {n0 bx:Nat} {w:World} {ds:List Value} {n:Nat} {A B:World} {row:Option Nat} (h0:n0<=w.heap.size) (h:GrowF n0 bx w ds n A) (hg:A.grownBy B row) (hr:∀ r,row=some r->n0<=r/\∃ o:Obj,A.heap[r]? = some o/\o.isCells=false):GrowF n0 bx w ds n B:=by
 obtain ⟨v,⟨t,hv⟩,hr',hb⟩:=h;refine ⟨v,⟨t,qv hg (fun r e=>(hr r e).2) hv⟩,hr'.kept fun b e=>?_,hb.grown hg (Nat.le_trans h0 hb.size) (fun k e=>(hr k e).1)⟩;obtain ⟨_,_,_,arr,el,_,h2⟩:=hr'.own e;exact (qv hg (fun r e=>(hr r e).2) h2).trans h2.symm
theorem zMY {g:Gh} {w:World}:∀ {l us:List Value},RCs g w (l.map .at) us->us=l
 | [],us,h=>by simpa [RCs] using h
 | x::l,us,h=>by
  simp only [List.map_cons,RCs] at h;obtain ⟨u1,u2,rfl,h1,h2⟩:=h;simp only [RC] at h1;rw [h1.1,zMY h2]; rfl
theorem zHz {g:Gh} {w:World}:∀ {l:List Value},(∀ x ∈ l,one x=true)->RCs g w (l.map .at) l
 | [],_=>by simp [RCs]
 | x::l,h=>by
  simp only [List.map_cons,RCs];exact ⟨[x],l,rfl,by simp [RC,h x (by simp)],zHz (fun y hy=>h y (by simp [hy]))⟩
theorem zO2 {P:Program} {X:Cx} {c:Code} {Q:Exit->Env->S->Prop} {Post:Exit->Act->World->Prop} {e:Env} {g:Gh} {a:Act} {w:World} (hs:a.tmps.size=X.N.n/\∀ p ∈ X.N.fx,a.tmps.getD p.1 undef=p.2) (hd:a.defers=X.df) (hgl:GlobOk X.B g.wm w) (hp:∀ ex a' w' g' e' st',Step X.B g w g' w'->Al.Inv X.B g' st' w'->Q ex e' st'->Post ex a' w')
 (he:∀ k,RV g w (e.get k) (a.tmps.getD k undef)) (h:∃ st,awp P X c Q e st/\Al.Inv X.B g st w):c.wpIn (fen X.ro) 0 P Post a w:=by
 obtain ⟨st,h1,h2⟩:=h;refine wpIn_mono (h1 g a w ⟨h2,he,hs,hd,hgl⟩) ?_;rintro ex a' w' ⟨g',e',st',k1,k2,k3⟩;exact hp _ _ _ _ _ _ k1 k2.inv k3
def wmF (bv:Value) (bx T3 B4:Nat) (W:World) (b:Nat):Nat:=
 if b=bx\/b=T3\/b=B4\/bv.ownBlock=some b then 0 else match W.heap[b]? with | some (.cells arr _ _)=>arr.size+1 | _=>0
theorem zA7 {bv:Value} {bx T3 B4:Nat} {W:World} {b:Nat} (h:b=bx\/b=T3\/b=B4\/bv.ownBlock=some b):wmF bv bx T3 B4 W b=0:=if_pos h
theorem zJK {bv:Value} {bx T3 B4:Nat} {W:World} {b:Nat} (h:¬ (b=bx\/b=T3\/b=B4\/bv.ownBlock=some b)) {arr:Array Value} {el:TypeId} {m:Nat×Nat} (hb:W.heap[b]? = some (.cells arr el m)):wmF bv bx T3 B4 W b=arr.size+1:=by
 unfold wmF; rw [if_neg h,hb]
theorem zKr {bv:Value} {bx T3 B4:Nat} {W:World} {b:Nat} (h:W.heap.size<=b):wmF bv bx T3 B4 W b=0:=by
 unfold wmF;split
 . rfl
 . rw [Array.getElem?_eq_none h]
def frW (W:World):Fr:=⟨fun b=>match W.heap[b]? with | some o=>!o.isCells | none=>false,fun _=>false⟩
theorem zMo {W:World} {b:Nat} {o:Obj} (h:W.heap[b]? = some o) (hc:o.isCells=false):(frW W).b b=true:=by simp [frW,h,hc]
theorem zKq {W:World} {b:Nat} (h:(frW W).b b=true):∃ o,W.heap[b]? = some o/\o.isCells=false:=by
 unfold frW at h;simp only at h;split at h
 . rename_i o ho; exact ⟨o,ho,by simpa using h⟩
 . cases h
theorem globF {n0 bx T3 B4:Nat} {bv:Value} {wm:Nat->Nat} {w W:World} (h:GlobOk n0 wm w) (hb:Below n0 w W) (h1:n0<=bx) (h2:n0<=T3) (h3:n0<=B4) (h4:∀ b,bv.ownBlock=some b->n0<=b):GlobOk n0 (wmF bv bx T3 B4 W) W:=
 ⟨fun p hp=>let ⟨h0,arr,el,m,k1,k2⟩:=h.one p hp; ⟨h0,arr,el,m,(hb.block _ h0).trans k1,k2⟩,fun p hp=>by
  obtain ⟨k0,⟨arr,el,m,k1,k2⟩,_⟩:=h.all p hp;have k3:=(hb.block _ k0).trans k1;refine ⟨k0,⟨arr,el,m,k3,k2⟩,?_⟩;rw [zJK (fun e=>?_) k3,<- k2]
  . simp
  . rcases e with e | e | e | e
    . omega
    . omega
    . omega
    . have:=h4 _ e; omega⟩
theorem zM5 (ds:List Value) (n:Nat) (h:ds.length=n * 3) (zs:List V) (us:List Value) (hz:zs.length=3) :
 List.take (n * 3) (List.take (n * 3) (List.map V.at ds)++zs)++us.map V.at++List.drop (n * 3+3) (List.take (n * 3) (List.map V.at ds)++zs)=(ds++us).map V.at:=by
 have e1:List.take (n * 3) (List.map V.at ds)=List.map V.at ds:=List.take_of_length_le (by simp [h]);rw [e1,List.take_append_of_le_length (by simp [h]),e1,List.drop_eq_nil_of_le (by simp [h,hz]),List.append_nil,List.map_append]
theorem zMk {B:Nat} {g:Gh} {W:World} {bs:List (Nat×List V×Nat)} (hB:B<=W.heap.size) (hf:∀ b,W.heap.size<=b->g.wm b=0) (ht:∀ t,g.tb t=none) (hfr:∀ b,g.fr.b b=true->∃ o,W.heap[b]? = some o/\o.isCells=false) (hft:∀ t,g.fr.t t=false)
 (h:∀ b cs k,Go.Al.look bs b=some (cs,k)->B<=b/\g.wm b=0/\cs.length<=k/\(∀ c ∈ cs,c.isOne=true)/\∃ arr el us,W.heap[b]? = some (.cells arr el (0,0))/\arr.size=k/\RCs g W cs us/\arr.toList.take cs.length=us):Al.Inv B g ⟨bs,[],0,[]⟩ W:=
 have hz:∀ b,g.fr.b b=true->b < W.heap.size/\Go.Al.look bs b=none/\∀ t ∈ ([]:List Nat),∀ d,g.tb t=some (some (b,d))->False:=fun b hb=>by
  obtain ⟨o,ho,hc⟩:=hfr b hb;refine ⟨(Array.getElem?_eq_some_iff.1 ho).1,?_,fun t h=>by simp at h⟩;cases hl:Go.Al.look bs b with
  | none=>rfl
  | some x=>
   obtain ⟨_,_,_,_,arr,el,us,h1,_⟩:=h b x.1 x.2 hl;rw [ho] at h1; injection h1 with h1; subst h1; cases hc
 have hx:InvX B g ⟨bs,[],0,[]⟩ W:=by
  refine ⟨hz,fun b o fp h=>?_,fun b o fp b' o' fp' j h=>?_,fun t h=>?_⟩
  . cases h
  . cases h
  . rw [hft] at h; cases h
 ⟨hB,h,fun t h=>by simp at h,fun t h=>by simp at h,fun t h=>by simp at h,by simp,hf,fun t _=>ht t,hx⟩
theorem zHY {φ:Nat->List V->Nat->Prop}:∀ b cs k,Go.Al.look ([]:List (Nat×List V×Nat)) b=some (cs,k)->φ b cs k:=fun b cs k h=>by cases h
theorem ji {φ:Nat->List V->Nat->Prop} {b0 k0:Nat} {cs0:List V} {r:List (Nat×List V×Nat)} (h0:φ b0 cs0 k0) (hr:∀ b cs k,Go.Al.look r b=some (cs,k)->φ b cs k):∀ b cs k,Go.Al.look ((b0,cs0,k0)::r) b=some (cs,k)->φ b cs k:=fun b cs k h=>by
 by_cases e:b0=b
 . subst e;have:Go.Al.look ((b0,cs0,k0)::r) b0=some (cs0,k0):=by simp [Go.Al.look]
   rw [this] at h; injection h with h; injection h with h1 h2; subst h1; subst h2; exact h0
 . have:Go.Al.look ((b0,cs0,k0)::r) b=Go.Al.look r b:=by simp [Go.Al.look,e]
   rw [this] at h; exact hr b cs k h
theorem zC1 {B:Nat} {g:Gh} {W:World} {b k:Nat} {l:List Value} {arr:Array Value} {el:TypeId} (h1:B<=b) (h2:g.wm b=0) (h3:W.heap[b]? = some (.cells arr el (0,0))) (h4:arr.size=k) (h5:arr.toList.take l.length=l) (h6:∀ x ∈ l,one x=true) :
 B<=b/\g.wm b=0/\(l.map V.at).length<=k/\(∀ c ∈ l.map V.at,c.isOne=true)/\∃ arr el us,W.heap[b]? = some (.cells arr el (0,0))/\arr.size=k/\RCs g W (l.map V.at) us/\arr.toList.take (l.map V.at).length=us:=by
 refine ⟨h1,h2,?_,fun c hc=>?_,arr,el,l,h3,h4,zHz h6,by rw [List.length_map]; exact h5⟩
 . have:=congrArg List.length h5;rw [List.length_take] at this;have e:=Array.length_toList (xs:=arr);rw [List.length_map]; omega
 . obtain ⟨x,_,rfl⟩:=List.mem_map.1 hc; rfl
theorem zPR {B:Nat} {g:Gh} {W:World} {b:Nat} {el:TypeId} (h1:B<=b) (h2:g.wm b=0) (h3:W.heap[b]? = some (.cells #[.slice none 0 0] el (0,0))) :
 B<=b/\g.wm b=0/\([.lst .nil []]:List V).length<=1/\(∀ c ∈ ([.lst .nil []]:List V),c.isOne=true)/\∃ arr el us,W.heap[b]? = some (.cells arr el (0,0))/\arr.size=1/\RCs g W [.lst .nil []] us/\arr.toList.take ([.lst .nil []]:List V).length=us:=
 ⟨h1,h2,Nat.le_refl _,by simp [V.isOne],_,el,[.slice none 0 0],h3,rfl,by simp only [RCs]; exact ⟨_,[],rfl,by unfold RC; exact .inl ⟨rfl,rfl,trivial⟩,rfl⟩,rfl⟩
structure BoxQ (bx T3 B4:Nat) (kd k' a':Int) (sv':Value) (n:Nat) (ds:List Value) (s:S):Prop where
 t3:Go.Al.look s.box T3=some ([Value.int .i64 kd].map V.at,1)
 b4:Go.Al.look s.box B4=some ([Value.int .i64 k',.int .i64 a',sv'].map V.at,3)
 row:(n=0/\ds=[]/\Go.Al.look s.box bx=some ([.lst .nil []],1))\/∃ b cap,0 < n/\Go.Al.look s.box bx=some ([Value.slice (some ⟨b,0,none⟩) n cap].map V.at,1)/\Go.Al.look s.box b=some (ds.map V.at,cap * 3)/\n<=cap/\b≠bx/\b≠T3/\b≠B4/\ds.length=n * 3/\∀ d ∈ ds,one d=true
theorem zK0 {B:Nat} {g:Gh} {s:S} {w:World} (h:Al.Inv B g s w) {b k:Nat} {l:List Value} (hl:Go.Al.look s.box b=some (l.map V.at,k)):B<=b/\g.wm b=0/\∃ arr el,w.heap[b]? = some (.cells arr el (0,0))/\arr.size=k/\arr.toList.take l.length=l:=by
 obtain ⟨h1,h2,_,_,arr,el,us,h3,h4,h5,h6⟩:=h.box b _ k hl;rw [zMY h5,List.length_map] at h6;exact ⟨h1,h2,arr,el,h3,h4,h6⟩
theorem zCv {B:Nat} {g:Gh} {s:S} {w:World} (h:Al.Inv B g s w) {b:Nat} {l:List Value} (hl:Go.Al.look s.box b=some (l.map V.at,l.length)):∃ el,w.heap[b]? = some (.cells l.toArray el (0,0)):=by
 obtain ⟨_,_,arr,el,h3,h4,h6⟩:=zK0 h hl;refine ⟨el,?_⟩;have h9:arr.toList.length=l.length:=by simpa using h4
 have:arr.toList=l:=by rw [List.take_of_length_le (Nat.le_of_eq h9)] at h6; exact h6
 rw [h3,<- this]
theorem zQ8 {B:Nat} {g:Gh} {s:S} {w:World} (h:Al.Inv B g s w) {b:Nat} (hl:Go.Al.look s.box b=some ([.lst .nil []],1)):∃ el,w.heap[b]? = some (.cells #[.slice none 0 0] el (0,0)):=by
 obtain ⟨_,_,_,_,arr,el,us,h3,h4,h5,h6⟩:=h.box b _ 1 hl;simp only [RCs] at h5;obtain ⟨u1,u2,rfl,h7,rfl⟩:=h5;simp only [RC] at h7;rcases h7 with ⟨_,rfl,_⟩ | ⟨b',o,cap,ds,_,_,h8,_⟩
 . refine ⟨el,?_⟩;have:arr.toList=[.slice none 0 0]:=by
    have h9:arr.toList.length=1:=by simpa using h4
    simpa [List.take_of_length_le,h9] using h6
   rw [h3,show arr=[Value.slice none 0 0].toArray from by rw [<- this]]
 . simp [zD4] at h8
theorem zO7 {n0 bx T3 B4 K0 n n':Nat} {kd k' a':Int} {sv' bv:Value} {ds ds':List Value} {w W w':World} {g':Gh} {s':S} {tb tk tn:TypeId} (h0:n0<=bx) (hv:W.heap[bx]? = some (.cells #[bv] tb (0,0))) (hr:Row W n0 bx bv n ds)
 (hT:W.heap[T3]? = some (.cells #[.int .i64 kd] tk (0,0))) (hB4:W.heap[B4]? = some (.cells #[.int .i64 k',.int .i64 a',sv'] tn (0,0))) (hbel:Below n0 w W)
 (hS:Step n0 ⟨wmF bv bx T3 B4 W,fun _=>none,frW W⟩ W g' w') (hI:Al.Inv n0 g' s' w') (hq:BoxQ bx T3 B4 kd k' a' sv' n' ds' s') :
 KeepsFrom K0 W w'/\jY n0 bx W w'/\(GrowF n0 bx w ds' n' w'/\∃ t,w'.heap[T3]? = some (.cells #[.int .i64 kd] t (0,0))):=by
 obtain ⟨tk',hT'⟩:=zCv hI hq.t3;obtain ⟨tn',hB4'⟩:=zCv hI hq.b4;obtain ⟨v',t',hv',hr',hown⟩:∃ v' t',w'.heap[bx]? = some (.cells #[v'] t' (0,0))/\Row w' n0 bx v' n' ds'/\∀ b,v'.ownBlock=some b->b≠bx/\b≠T3/\b≠B4/\g'.wm b=0:=by
  rcases hq.row with ⟨rfl,rfl,h1⟩ | ⟨b,cap,h1,h2,h3,h4,h5,h6,h7,h8,h9⟩
  . obtain ⟨el,h2⟩:=zQ8 hI h1;exact ⟨_,el,h2,.inl ⟨rfl,rfl,rfl⟩,fun b e=>by cases e⟩
  . obtain ⟨el,k1⟩:=zCv hI h2;obtain ⟨k2,k3,arr,el2,k4,k5,k6⟩:=zK0 hI h3;refine ⟨_,el,k1,.inr ⟨b,cap,arr,el2,rfl,k2,h5,k4,h4,k5,by rw [<- h8]; exact k6,h8,h1,h9⟩,fun b' e=>?_⟩;have:b=b':=by simpa [Value.ownBlock] using e
    subst this;exact ⟨h5,h6,h7,k3⟩
 have hG:GrowF n0 bx w ds' n' w':=⟨v',⟨t',hv'⟩,hr',hbel.trans hS.below⟩;refine ⟨⟨hS.below.size,fun k o _ hk hc=>((hS.fz k (zMo hk (by cases o <;> first | rfl | (cases hc)))).1).trans hk⟩,fun _=>⟨hG.box h0,hS.below.size,fun b o u hb hx=>?_,fun b hx=>?_,fun b hb=>hS.below.block b hb⟩,hG,tk',hT'⟩
 . have h1:b≠bx:=fun e=>hx ((hr.exb hv b).2 (.inl e));have h2:bv.ownBlock≠some b:=fun e=>hx ((hr.exb hv b).2 (.inr e));by_cases h3:b=T3
   . subst h3;simpa [World.cell?,hT,hT'] using hb
   . by_cases h4:b=B4
     . subst h4;simpa [World.cell?,hB4,hB4'] using hb
     . have hn:¬ (b=bx\/b=T3\/b=B4\/bv.ownBlock=some b):=fun e=>by
        rcases e with e | e | e | e
        . exact h1 e
        . exact h3 e
        . exact h4 e
        . exact h2 e
       refine (hS.later.cell b o ?_).trans hb;show o < wmF bv bx T3 B4 W b;cases hk:W.heap[b]? with
       | none=>simp [World.cell?,hk] at hb
       | some ob=>
        cases ob with
        | cells arr el m=>
         rw [zJK hn hk];simp only [World.cell?,hk] at hb;have:=(Array.getElem?_eq_some_iff.1 (by simpa using hb)).1;omega
        | _=>simp [World.cell?,hk] at hb
 . rcases (hr'.exb hv' b).1 hx with rfl | h1
   . exact .inl (.inl rfl)
   . obtain ⟨q1,q2,q3,q4⟩:=hown b h1;obtain ⟨_,_,cap,arr,el,_,q5⟩:=hr'.own h1;by_cases hlt:W.heap.size<=b
     . exact .inr hlt
     . left;refine (hr.exb hv b).2 (.inr ?_);by_cases hown':bv.ownBlock=some b
       . exact hown'
       . exfalso;have hn:¬ (b=bx\/b=T3\/b=B4\/bv.ownBlock=some b):=fun e=>by
          rcases e with e | e | e | e
          . exact q1 e
          . exact q2 e
          . exact q3 e
          . exact hown' e
         cases hk:W.heap[b]? with
         | none=>rw [Array.getElem?_eq_none_iff] at hk; omega
         | some ob=>
          cases ob with
          | cells arr el m=>
           have h1:=hS.later.wm b;replace h1:wmF bv bx T3 B4 W b<=g'.wm b:=h1;rw [zJK hn hk] at h1;omega
          | _=>
           have h1:=((hS.fz b (zMo hk rfl)).1).trans hk;rw [q5] at h1;cases h1
def lvF {g:Gh} {w0:World} (kd:Int):List (El g w0)->List Nd
 | []=>[]
 | x::r=>if x.1.1.kind=kd then x.1.1::lvF kd r else lvF kd r
def dsF {g:Gh} {w0:World} (kd:Int):List (El g w0)->List Value
 | []=>[]
 | x::r=>if x.1.1.kind=kd then x.1.2.cells.toList++dsF kd r else dsF kd r
theorem zLG {g:Gh} {w0:World} (kd:Int):∀ a b:List (El g w0),lvF kd (a++b)=lvF kd a++lvF kd b
 | [],b=>rfl
 | x::a,b=>by simp only [List.cons_append,lvF,zLG kd a b]; split <;> rfl
theorem zLE {g:Gh} {w0:World} (kd:Int):∀ a b:List (El g w0),dsF kd (a++b)=dsF kd a++dsF kd b
 | [],b=>rfl
 | x::a,b=>by simp only [List.cons_append,dsF,zLE kd a b]; split <;> simp
theorem zKi {g:Gh} {w0:World} (kd:Int):∀ a:List (El g w0),(lvF kd a).length<=a.length
 | []=>Nat.le_refl _
 | x::a=>by have:=zKi kd a; simp only [lvF]; split <;> simp <;> omega
theorem zNn {g:Gh} {w0:World} (kd:Int):∀ a:List (El g w0),lvF kd a=(a.map (·.1.1)).filter (fun t=>t.kind == kd)
 | []=>rfl
 | x::a=>by
  simp only [lvF,List.map_cons,List.filter_cons,zNn kd a,beq_iff_eq]
theorem zNb {g:Gh} {w0:World} (kd:Int):∀ a:List (El g w0),RCs g w0 ((lvF kd a).map zc) (dsF kd a)
 | []=>by simp [lvF,dsF,RCs]
 | x::a=>by
  have ih:=zNb kd a;simp only [lvF,dsF];split
  . obtain ⟨⟨⟨k,a',ks⟩,v⟩,hx⟩:=x;obtain ⟨sv,rfl,hs⟩:=zA2 hx;simp only [List.map_cons,RCs];refine ⟨[.int .i64 k,.int .i64 a',sv],_,rfl,?_,ih⟩;obtain ⟨us,h1,h2⟩:=zBV (show RV g w0 (.agg [vi k,vi a',sl (qn ks)]) _ from hx);have:us=[.int .i64 k,.int .i64 a',sv]:=by
     have:=congrArg (fun v=>match v with | Value.agg a=>a.toList | _=>[]) h2;simpa using this.symm
    subst this;show RC g w0 (.agg [vi k,vi a',sl (qn ks)]) _;simp only [RC]; exact h1
  . exact ih
set_option maxRecDepth 100000 in
set_option maxHeartbeats 1000000 in
theorem zPo (m:Nat) (hm:3<=m) (wm:Nat->Nat) (w:World) (hwm:∀ b,w.heap.size<=b->wm b=0) (hgl:GlobOk w.heap.size wm w) (t:Nd) (v:Value) (kd:Int) (hv:RV ⟨wm,fun _=>none,Fr.no⟩ w (zc t) v) (hN:(allT t).length<=1000000) :
 CallsIn Fence.wide m Tryz.prog 32 #[v,.int .i64 kd] w fun e W'=>∃ v' ds,e = .returned v' /\
  Row W' w.heap.size (w.heap.size+1+1) v' ((allT t).filter (fun t=>t.kind == kd)).length ds/\RCs ⟨wm,fun _=>none,Fr.no⟩ w (((allT t).filter (fun t=>t.kind == kd)).map zc) ds/\Below w.heap.size w W':=by
 obtain ⟨k,a,ks⟩:=t;obtain ⟨sv,rfl,hsv⟩:=zA2 hv;have hF:∀ f,Fence.wide.fn f:=fun _=>trivial;refine callsIn_of_wp_marks Tryz.func32 rfl (hF _) ?_ rfl;simp only [Tryz.ntmps32,List.size_toArray,List.length_cons,List.length_nil,Nat.reduceAdd,Nat.reduceSub,Array.replicate_succ,Array.replicate_zero,List.push_toArray,List.append_toArray,List.nil_append,List.cons_append];have hdd:∀ k:Nat,(Fence.wide.depth.isSome=true->1<=k):=fun k h=>by cases h
 gi_wp2_with ((try refine ⟨hdd _,?_⟩); gi_at_call 51; refine (all_in Fence.wide hF rfl _ _ _ _ _).mono ?_; rintro e w' ⟨rfl,rfl⟩)
 obtain ⟨W2,hW2⟩:∃ W2,(((w.alloc (.cells #[.int .i64 k,.int .i64 a,sv] 29)).alloc (.cells #[.int .i64 kd] 3)).alloc (.cells #[.slice none 0 0] 27)).alloc (.cells #[.int .i64 k,.int .i64 a,sv] 29)=W2:=⟨_,rfl⟩;have hsz2:W2.heap.size=w.heap.size+4:=by rw [<- hW2]; simp
 have hb2:Below w.heap.size w W2:=by rw [<- hW2]; exact ((((Below.refl _ w).alloc (Nat.le_refl _) _).alloc (by simp) _).alloc (by simp; omega) _).alloc (by simp; omega) _
 have hk2:W2.heap[w.heap.size+1]? = some (.cells #[.int .i64 kd] 3 (0,0)):=by
  rw [<- hW2,Below.heap_alloc _ _ _ (by simp),Below.heap_alloc _ _ _ (by simp)];have:=World.alloc_heap_new (w.alloc (.cells #[.int .i64 k,.int .i64 a,sv] 29)) (.cells #[.int .i64 kd] 3 (0,0));simpa using this
 have hbx2:W2.heap[w.heap.size+1+1]? = some (.cells #[.slice none 0 0] 27 (0,0)):=by
  rw [<- hW2,Below.heap_alloc _ _ _ (by simp)];have:=World.alloc_heap_new ((w.alloc (.cells #[.int .i64 k,.int .i64 a,sv] 29)).alloc (.cells #[.int .i64 kd] 3)) (.cells #[.slice none 0 0] 27 (0,0));simpa using this
 have hbt2:W2.heap[w.heap.size+1+1+1]? = some (.cells #[.int .i64 k,.int .i64 a,sv] 29 (0,0)):=by
  rw [<- hW2];have:=World.alloc_heap_new (((w.alloc (.cells #[.int .i64 k,.int .i64 a,sv] 29)).alloc (.cells #[.int .i64 kd] 3)).alloc (.cells #[.slice none 0 0] 27)) (.cells #[.int .i64 k,.int .i64 a,sv] 29 (0,0));simpa using this
 have hS2:Same ⟨wm,fun _=>none,Fr.no⟩ w W2:=fun b o ho=>by
  have hb:b < w.heap.size:=by
   rcases Nat.lt_or_ge b w.heap.size with h1 | h1
   . exact h1
   . replace ho:o < wm b:=ho;rw [hwm b h1] at ho; omega
  exact x8 (hb2.block b hb) o
 have hG0:GrowF w.heap.size (w.heap.size+1+1) w [] 0 W2:=⟨_,⟨_,hbx2⟩,.inl ⟨rfl,rfl,rfl⟩,hb2⟩;have hB2:=hG0.box (by omega);rw [hW2];refine wpIn_rangeFunc_ownH rfl (by omega) (gf:=70) (lb:=#[.pointer (some ⟨w.heap.size+1+1+1,0,none⟩)]) (by simp [Act.eval]) (hF 70) (enters_of Tryz.func70 (by kernel_rfl) rfl)
  (zNo Fence.wide rfl hF rfl (m - 1) w.heap.size (w.heap.size+1+1) (w.heap.size+1+1+1) wm w W2 hwm (.mk k a ks) hN _ _ _ hS2 hv hB2 (by omega) hbt2) zId (fun W l o o' hl h1 h2 _=>zIh W l o o' (by omega) h1 h2) (Below.refl _ _) (fun _=>rfl)
  (fun pre W=>GrowF w.heap.size (w.heap.size+1+1) w (dsF kd pre) (lvF kd pre).length W/\∃ t,W.heap[w.heap.size+1]? = some (.cells #[.int .i64 kd] t (0,0)))
  (fun _ _ _=>False) ?hI (fun _ _ _ _ _ hs _ _=>hs) ⟨hG0,_,hk2⟩
  (fun x a' W=>∃ B4 v0 v1 v2,x.1.2 = .agg #[v0,v1,v2]/\a' = { tmps:=#[.agg #[.int .i64 k,.int .i64 a,sv],.int .i64 kd,.pointer (some ⟨w.heap.size,0,none⟩),.pointer (some ⟨w.heap.size+1,0,none⟩),.slice none 0 0,.pointer (some ⟨w.heap.size+1+1,0,none⟩),.pointer (some ⟨B4,0,none⟩),.agg #[.int .i64 k,.int .i64 a,sv],.func (.func 70) #[] #[.pointer (some ⟨w.heap.size+1+1+1,0,none⟩)],x.1.2,undef,undef,undef,undef,undef,undef,undef,undef,undef,undef,undef],defers:=[] }/\W.heap[B4]? = some (.cells #[v0,v1,v2] 29 (0,0)) /\
   w.heap.size+3<=B4/\∃ bv t,W.heap[w.heap.size+1+1]? = some (.cells #[bv] t (0,0))/\bv.ownBlock≠some B4)
  ?hAx ?assign ?body ?done ?stop
 case hI=>exact fun pre A B row h hg hr=>⟨h.1.grown (Nat.le_refl _) hg (fun r e=>by obtain ⟨h1,h2⟩:=hr r e; exact ⟨by omega,h2⟩),h.2.imp fun t h2=>qv hg (fun r e=>(hr r e).2) h2⟩
 case hAx=>
  rintro x a' _ A B row ⟨B4,v0,v1,v2,e1,e3,e4,e5,bv,t,e6,e7⟩ hg hr;exact ⟨B4,v0,v1,v2,e1,e3,qv hg (fun r e=>(hr r e).2) e4,e5,bv,t,qv hg (fun r e=>(hr r e).2) e6,e7⟩
 case assign=>
  rintro l pre ⟨⟨⟨k',a',ks'⟩,vx⟩,hx⟩ W K hI hK;obtain ⟨sv',rfl,hsv'⟩:=zA2 hx;have h1c:=zJq hx;have hst:=zAo (P:=Tryz.prog) W 29 #[.int .i64 k',.int .i64 a',.slice none 0 0] 2 (by simp) sv' h1c.2.2;have hfin:∀ a2,a2=({ tmps:=#[.agg #[.int .i64 k,.int .i64 a,sv],.int .i64 kd,.pointer (some ⟨w.heap.size,0,none⟩),.pointer (some ⟨w.heap.size+1,0,none⟩),.slice none 0 0,.pointer (some ⟨w.heap.size+1+1,0,none⟩),.pointer (some ⟨W.heap.size,0,none⟩),.agg #[.int .i64 k,.int .i64 a,sv],.func (.func 70) #[] #[.pointer (some ⟨w.heap.size+1+1+1,0,none⟩)],.agg #[.int .i64 k',.int .i64 a',sv'],undef,undef,undef,undef,undef,undef,undef,undef,undef,undef,undef],defers:=[] }:Act)->K a2 (W.alloc (.cells #[.int .i64 k',.int .i64 a',sv'] 29)):=fun a2 e=>by
   have hg:=World.grownBy_alloc W (.cells #[.int .i64 k',.int .i64 a',sv'] 29) none;have hI2:=hI;obtain ⟨⟨bv,⟨t,hbv⟩,hrow,hbel⟩,tk,hkd⟩:=hI2;have hszW:=hbel.size;have hltk:=(Array.getElem?_eq_some_iff.1 hkd).1;refine hK a2 _ ((KeepsOthers.alloc W _).from _) (fun hB=>Kept.grown hB hg) ⟨hI.1.grown (Nat.le_refl _) hg (fun r e=>by cases e),hI.2.imp fun t h2=>qv hg (fun r e=>by cases e) h2⟩
    ⟨W.heap.size,_,_,_,rfl,e,World.alloc_heap_new W _,?_,bv,t,qv hg (fun r e=>by cases e) hbv,fun e=>?_⟩
   . have:=(Array.getElem?_eq_some_iff.1 hbv).1;omega
   . obtain ⟨_,_,_,arr,el,_,h2⟩:=hrow.own e;have:=(Array.getElem?_eq_some_iff.1 h2).1;omega
  gi_wp2_with (rw [hst])
  rfl
 case body=>
  rintro l pre x a' W hl hL ⟨⟨bv,⟨tb,hbv⟩,hrow,hbel⟩,tk,hkd⟩ ⟨B4,v0,v1,v2,e1,rfl,hB4,hB4n,bv',tb',hbv',hB4r⟩ hlen;obtain ⟨⟨⟨k',a',ks'⟩,vx⟩,hx⟩:=x;obtain ⟨sv',rfl,hsv'⟩:=zA2 hx;injection e1 with e1
  have e0:=congrArg Array.toList e1;simp only [List.cons.injEq,and_true] at e0;obtain ⟨rfl,rfl,rfl⟩:=e0;have hne1:¬ w.heap.size+1+1=w.heap.size+1:=by omega
  have hne1':¬ w.heap.size+1=w.heap.size+1+1:=by omega
  have hne2:¬ w.heap.size+1+1=B4:=by omega
  have hne2':¬ B4=w.heap.size+1+1:=by omega
  have hne3:¬ w.heap.size+1=B4:=by omega
  have hne3':¬ B4=w.heap.size+1:=by omega
  have h1c:one (.int .i64 k')=true/\one (.int .i64 a')=true/\one sv' = true:=by
   obtain ⟨ks2,hks⟩:∃ ks2,RC ⟨wm,fun _=>none,Fr.no⟩ w (.lst (zw (qn ks')) ks2) [sv']:=⟨_,hsv'⟩;refine ⟨rfl,rfl,?_⟩;simp only [RC] at hks;rcases hks with ⟨_,h,_⟩ | ⟨b,o,cap,ds,h,_⟩
   . injection h with h; subst h; rfl
   . injection h with h; subst h; rfl
  have hll:=zKi kd pre;have hb1:(lvF kd pre).length+1<=1000000:=by omega
  obtain ⟨n,hn⟩:∃ n,n=(lvF kd pre).length:=⟨_,rfl⟩;obtain ⟨ds,hds⟩:∃ ds,ds=dsF kd pre:=⟨_,rfl⟩;rw [<- hn] at hb1;rw [<- hn,<- hds] at hrow;obtain ⟨n',ds',hnd,hnn,hdd'⟩:∃ n' ds',(k' = kd->n' = n+1/\ds' = ds++[.int .i64 k',.int .i64 a',sv'])/\(k'≠kd->n' = n)/\(k'≠kd->ds' = ds):=by
   by_cases h:k' = kd
   . exact ⟨_,_,fun _=>⟨rfl,rfl⟩,fun e=>absurd h e,fun e=>absurd h e⟩
   . exact ⟨_,_,fun e=>absurd e h,fun _=>rfl,fun _=>rfl⟩
  refine zDg (zO2 (X:=⟨w.heap.size,⟨21,[]⟩,some l,[]⟩) (g:=⟨wmF bv (w.heap.size+1+1) (w.heap.size+1) B4 W,fun _=>none,frW W⟩) (Q:=fun ex e' s'=>ex = .normal/\BoxQ (w.heap.size+1+1) (w.heap.size+1) B4 kd k' a' sv' n' ds' s') (e:=[(3,.at (.pointer (some ⟨w.heap.size+1,0,none⟩))),(5,.at (.pointer (some ⟨w.heap.size+1+1,0,none⟩))),(6,.at (.pointer (some ⟨B4,0,none⟩)))]) ⟨rfl,fun p hp=>by simp at hp⟩ rfl (globF hgl hbel (by show w.heap.size<=_; omega) (by show w.heap.size<=_; omega) (by show w.heap.size<=_; omega) (fun b e=>(hrow.own e).1)) ?hP ?hE ?hA)
  case hE=>
   intro k1;by_cases e3:k1=3
   . subst e3; exact yN rfl
   . by_cases e5:k1=5
     . subst e5; exact yN rfl
     . by_cases e6:k1=6
       . subst e6; exact yN rfl
       . have:Env.get [(3,.at (.pointer (some ⟨w.heap.size+1,0,none⟩))),(5,.at (.pointer (some ⟨w.heap.size+1+1,0,none⟩))),(6,.at (.pointer (some ⟨B4,0,none⟩)))] k1=V.any:=by
          simp only [Env.get,Ne.symm e3,Ne.symm e5,Ne.symm e6,if_false]
         rw [this];trivial
  case hP=>
   rintro ex a2 w2 g' e' s' h1 h2 ⟨rfl,h3⟩;have hR:=zO7 (K0:=w.heap.size+4) (by omega) hbv hrow hkd hB4 hbel h1 h2 h3;have e1:dsF kd (pre++[⟨(.mk k' a' ks',.agg #[.int .i64 k',.int .i64 a',sv']),hx⟩])=ds':=by
    rw [zLE,<- hds];by_cases h:k' = kd
    . rw [(hnd h).2]; simp only [dsF,Nd.kind,h,if_true]; rfl
    . rw [hdd' h]; simp only [dsF,Nd.kind,h,if_false,List.append_nil]
   have e2:(lvF kd (pre++[⟨(.mk k' a' ks',.agg #[.int .i64 k',.int .i64 a',sv']),hx⟩])).length=n':=by
    rw [zLG,List.length_append,<- hn];by_cases h:k' = kd
    . rw [(hnd h).1]; simp only [lvF,Nd.kind,h,if_true]; rfl
    . rw [hnn h]; simp only [lvF,Nd.kind,h,if_false]; rfl
   rw [<- e1,<- e2] at hR;refine ⟨?_,hR.2.1,hR.2.2⟩;rw [hsz2]; exact hR.1
  case hA=>
   rcases hrow with ⟨rfl,rfl,rfl⟩ | hrow
   . refine ⟨⟨[(w.heap.size+1+1,[.lst .nil []],1),(w.heap.size+1,[.at (.int .i64 kd)],1),(B4,[.at (.int .i64 k'),.at (.int .i64 a'),.at sv'],3)],[],0,[]⟩,?_,?_⟩
     . generalize hst:(⟨[(w.heap.size+1+1,[.lst .nil []],1),(w.heap.size+1,[.at (.int .i64 kd)],1),(B4,[.at (.int .i64 k'),.at (.int .i64 a'),.at sv'],3)],[],0,[]⟩:S)=st;have l1:Go.Al.look st.box (w.heap.size+1+1)=some ([.lst .nil []],1):=by rw [<- hst]; simp [Go.Al.look]
       have l2:Go.Al.look st.box (w.heap.size+1)=some ([.at (.int .i64 kd)],1):=by rw [<- hst]; simp [Go.Al.look]
       have l3:Go.Al.look st.box B4=some ([.at (.int .i64 k'),.at (.int .i64 a'),.at sv'],3):=by rw [<- hst]; simp [Go.Al.look,hne2,hne3]
       clear hst
       (repeat (first | (refine zg ?_) | (refine zW ?_; simp -failIfUnchanged only [zB,zC]) | (refine zf ?_; simp -failIfUnchanged only [zV,zS,zd,zU]) | (refine zY ?_; simp -failIfUnchanged only [zR,zM,zB,zC,reduceIte]) | (refine zT ?_) | ((first | (refine ze polF zBG _ rfl rfl ?_) | (refine za polF mixed zBG _ rfl rfl (by kernel_rfl) (by kernel_rfl) ?_)); simp only [↓zk,↓xe,↓zl,↓yD,zB,zH,zI,zK,zP,zb,zX,yW,qz,zx,zq,zj,zp,implies_true,and_self,zy,zz,List.length_cons,List.length_nil,List.drop_zero,List.take_succ_cons,List.take_zero,List.take_nil,List.getD_cons_zero,Bool.true_and,Bool.and_self,if_true,if_false,true_and,Nat.reduceAdd,Nat.reduceEqDiff,Nat.reduceLeDiff,Bool.false_eq_true,Nat.zero_add,Nat.add_zero,Nat.le_refl,Nat.lt_add_one,zDP,zDa,zB1,zLH,zBG,yL,l2,l3])))
       refine xX rfl (fun hk=>?_) (fun hk=>?_)
       . obtain rfl:k' = kd:=eq_of_beq hk;obtain ⟨rfl,rfl⟩:=hnd rfl;refine zHi polF mixed zBG (.tmp 19) (.tmp 5) _ rfl rfl (by kernel_rfl) (by kernel_rfl) (by decide) ⟨_,_,_,_,_,_,_,_,_,_,rfl,rfl⟩ ?_;simp only [↓zk,↓xG,↓yD,↓qV,↓zBZ,↓zBw,↓zEO,zC,zH,xp,zI,zK,zP,zm,zb,zX,zOY,zx,zq,xy,xJ,qS,jc,zD2,zOr,zQv,zBk,spl,zA9,zFw,zG8,jG,zEf,zDV,zLp,zBY,Option.map_some,implies_true,false_implies,Nat.reduceLT,Nat.one_mul,zHd,zHV,zGq,List.map_cons,List.map_nil,List.nil_append,List.append_nil,and_self,beq_self_eq_true,zy,zz,zL,V.isOne,V.size,V.flat,qr,List.all_cons,List.all_nil,List.length_cons,List.length_nil,List.drop_zero,List.drop_succ_cons,List.take_succ_cons,List.take_nil,List.getD_cons_zero,Bool.true_and,Bool.and_self,Option.isSome_some,if_true,if_false,true_and,Nat.reduceAdd,Nat.reduceEqDiff,Nat.reduceLeDiff,reduceCtorEq,Bool.false_eq_true,Nat.zero_add,Nat.add_zero,Nat.le_refl,zN,zo,Nat.reduceBEq,kO,zAY,ja,zCc,jd,zAc,qy,zLQ,zGZ,zBG,zKy,l1,l3];refine ⟨by simp,fun b cap hb hcap=>⟨⟨by omega,by omega⟩,by simp,?_⟩⟩;have m1:¬ b=w.heap.size+1+1:=fun e=>by rw [e,l1] at hb; cases hb
         have m1':¬ w.heap.size+1+1=b:=fun e=>m1 e.symm;have m2:¬ b=w.heap.size+1:=fun e=>by rw [e,l2] at hb; cases hb
         have m3:¬ b=B4:=fun e=>by rw [e,l3] at hb; cases hb
         have z0:((0:Nat):Int).toNat=0:=rfl;simp only [xJ,spl,List.nil_append,List.append_nil,and_self,zL,V.isOne,V.flat,List.all_cons,List.all_nil,List.length_cons,List.length_nil,List.drop_succ_cons,List.take_zero,Bool.true_and,Bool.and_self,if_false,true_and,Nat.zero_add,Nat.le_refl,Nat.zero_mul,kO,ja,m1,z0,Nat.zero_mul,List.drop_nil];refine ⟨⟨_,_,_,_,rfl,rfl,m1⟩,?_⟩;refine ⟨by simp [zN,m2,hne1,l2],by simp [zN,m3,hne2,l3],.inr ⟨b,cap,Nat.zero_lt_one,by simp [zN],by simp [zN,m1'],hcap,m1,m2,m3,rfl,by simpa using h1c⟩⟩
       . have hk':k'≠kd:=beq_eq_false_iff_ne.1 hk;refine zW ?_;refine ⟨rfl,?_⟩;rw [hnn hk',hdd' hk'];exact ⟨l2,l3,.inl ⟨rfl,rfl,l1⟩⟩
     . exact zMk hbel.size (fun b h=>zKr h) (fun _=>rfl) (fun b h=>zKq h) (fun _=>rfl) (ji (zPR (by show w.heap.size<=_; omega) (zA7 (.inl rfl)) hbv) (ji (zC1 (l:=[.int .i64 kd]) (by show w.heap.size<=_; omega) (zA7 (.inr (.inl rfl))) hkd rfl rfl (by simp [one])) (ji (zC1 (l:=[.int .i64 k',.int .i64 a',sv']) (by show w.heap.size<=_; omega) (zA7 (.inr (.inr (.inl rfl)))) hB4 rfl rfl (by simpa using h1c)) zHY)))
   . obtain ⟨r,cap,arr,el,rfl,hr0,hrbx,hrh,hncap,hrs,htk,hdl,hnp,hone⟩:=hrow;have hrT:r≠w.heap.size+1:=fun e=>by
      subst e; rw [hkd] at hrh; injection hrh with hrh; injection hrh with e1; subst e1
      simp at hrs; omega
     have hrB:r≠B4:=fun e=>by
      rw [hbv] at hbv'; injection hbv' with hbv'; injection hbv' with e1
      have e2:bv' = .slice (some ⟨r,0,none⟩) n cap:=by simpa using e1.symm
      exact hB4r (by rw [e2,e]; rfl)
     have hrbx':¬ w.heap.size+1+1=r:=fun e=>hrbx e.symm;have hrT':¬ w.heap.size+1=r:=fun e=>hrT e.symm;have hrB':¬ B4=r:=fun e=>hrB e.symm;refine ⟨⟨[(w.heap.size+1+1,[.at (.slice (some ⟨r,0,none⟩) n cap)],1),(w.heap.size+1,[.at (.int .i64 kd)],1),(B4,[.at (.int .i64 k'),.at (.int .i64 a'),.at sv'],3),(r,ds.map V.at,cap * 3)],[],0,[]⟩,?_,?_⟩
     . generalize hst:(⟨[(w.heap.size+1+1,[.at (.slice (some ⟨r,0,none⟩) n cap)],1),(w.heap.size+1,[.at (.int .i64 kd)],1),(B4,[.at (.int .i64 k'),.at (.int .i64 a'),.at sv'],3),(r,ds.map V.at,cap * 3)],[],0,[]⟩:S)=st;have l1:Go.Al.look st.box (w.heap.size+1+1)=some ([.at (.slice (some ⟨r,0,none⟩) n cap)],1):=by rw [<- hst]; simp [Go.Al.look]
       have l2:Go.Al.look st.box (w.heap.size+1)=some ([.at (.int .i64 kd)],1):=by rw [<- hst]; simp [Go.Al.look]
       have l3:Go.Al.look st.box B4=some ([.at (.int .i64 k'),.at (.int .i64 a'),.at sv'],3):=by rw [<- hst]; simp [Go.Al.look,hne2,hne3]
       have l4:Go.Al.look st.box r=some (ds.map V.at,cap * 3):=by rw [<- hst]; simp [Go.Al.look,hrbx',hrT',hrB']
       clear hst
       (repeat (first | (refine zg ?_) | (refine zW ?_; simp -failIfUnchanged only [zB,zC]) | (refine zf ?_; simp -failIfUnchanged only [zV,zS,zd,zU]) | (refine zY ?_; simp -failIfUnchanged only [zR,zM,zB,zC,reduceIte]) | (refine zT ?_) | ((first | (refine ze polF zBG _ rfl rfl ?_) | (refine za polF mixed zBG _ rfl rfl (by kernel_rfl) (by kernel_rfl) ?_)); simp only [↓zk,↓xe,↓zl,↓yD,zB,zH,zI,zK,zP,zb,zX,yW,qz,zx,zq,zj,zp,implies_true,and_self,zy,zz,List.length_cons,List.length_nil,List.drop_zero,List.take_succ_cons,List.take_zero,List.take_nil,List.getD_cons_zero,Bool.true_and,Bool.and_self,if_true,if_false,true_and,Nat.reduceAdd,Nat.reduceEqDiff,Nat.reduceLeDiff,Bool.false_eq_true,Nat.zero_add,Nat.add_zero,Nat.le_refl,Nat.lt_add_one,zDP,zDa,zB1,zLH,zBG,yL,l2,l3])))
       refine xX rfl (fun hk=>?_) (fun hk=>?_)
       . obtain rfl:k' = kd:=eq_of_beq hk;obtain ⟨rfl,rfl⟩:=hnd rfl;refine zHi polF mixed zBG (.tmp 19) (.tmp 5) _ rfl rfl (by kernel_rfl) (by kernel_rfl) (by decide) ⟨_,_,_,_,_,_,_,_,_,_,rfl,rfl⟩ ?_;simp only [↓zk,↓xG,↓yD,↓qV,↓zBZ,↓zBw,↓zEO,zC,zH,xp,zI,zK,zP,zm,zb,zX,zAi,zx,zq,xy,xJ,qS,jc,zD2,zBk,spl,zA9,zFw,zG8,jG,zEf,zDV,zLp,zBY,Option.map_some,implies_true,false_implies,Nat.reduceLT,Nat.one_mul,zHd,zHV,zGq,List.map_cons,List.map_nil,List.append_nil,and_self,beq_self_eq_true,zy,zz,zL,V.isOne,V.size,V.flat,qr,List.all_cons,List.all_nil,List.length_cons,List.length_nil,List.drop_zero,List.take_succ_cons,List.take_nil,List.getD_cons_zero,List.length_map,Bool.true_and,Bool.and_self,Option.isSome_some,if_true,if_false,true_and,Nat.reduceAdd,Nat.reduceEqDiff,Nat.reduceLeDiff,reduceCtorEq,Bool.false_eq_true,Nat.zero_add,Nat.add_zero,Nat.le_refl,zN,yJ,zJo,zGb,zo,Nat.reduceBEq,kO,zAY,ja,zCc,jd,zAc,qy,zLQ,zGZ,zBG,zKy,l1,l3,l4,hrbx];refine ⟨⟨by omega,by simp only [maxLen]; omega⟩,hncap,by omega,fun b cap2 hb hcap=>⟨⟨by omega,by omega⟩,by simp [hdl],?_⟩⟩;have m1:¬ b=w.heap.size+1+1:=fun e=>by rw [e,if_neg hrbx,l1] at hb; cases hb
         have m1':¬ w.heap.size+1+1=b:=fun e=>m1 e.symm;have m2:¬ b=w.heap.size+1:=fun e=>by rw [e,if_neg hrT,l2] at hb; cases hb
         have m3:¬ b=B4:=fun e=>by rw [e,if_neg hrB,l3] at hb; cases hb
         have hcell:=zM5 ds n hdl [V.at (.int .i64 0),V.at (.int .i64 0),V.lst Tag.nil []] [.int .i64 k',.int .i64 a',sv'] rfl;simp only [xJ,spl,List.nil_append,List.append_nil,and_self,zL,V.isOne,V.flat,List.all_cons,List.all_nil,List.length_cons,List.length_nil,List.drop_zero,List.drop_succ_cons,List.take_zero,Bool.true_and,Bool.and_self,if_false,true_and,Nat.zero_add,Nat.le_refl,kO,ja,m1,Int.toNat_natCast];simp only [List.map_cons,List.map_nil] at hcell;rw [hcell];refine ⟨⟨_,_,_,_,rfl,rfl,m1⟩,?_⟩;refine ⟨by simp [zN,yJ,m2,hne1,hrT,l2],by simp [zN,yJ,m3,hne2,hrB,l3],.inr ⟨b,cap2,Nat.succ_pos _,by simp [zN],by simp [zN,m1'],hcap,m1,m2,m3,by simp [hdl]; omega,fun d hd=>?_⟩⟩;rcases List.mem_append.1 hd with hd | hd
         . exact hone d hd
         . simp only [List.mem_cons,List.not_mem_nil,or_false] at hd;rcases hd with e | e | e
           . rw [e]; rfl
           . rw [e]; rfl
           . rw [e]; exact h1c.2.2
       . have hk':k'≠kd:=beq_eq_false_iff_ne.1 hk;refine zW ?_;refine ⟨rfl,?_⟩;rw [hnn hk',hdd' hk'];exact ⟨l2,l3,.inr ⟨r,cap,hnp,l1,l4,hncap,hrbx,hrT,hrB,hdl,hone⟩⟩
     . exact zMk hbel.size (fun b h=>zKr h) (fun _=>rfl) (fun b h=>zKq h) (fun _=>rfl) (ji (zC1 (l:=[.slice (some ⟨r,0,none⟩) n cap]) (by show w.heap.size<=_; omega) (zA7 (.inl rfl)) hbv rfl rfl (by simp [one])) (ji (zC1 (l:=[.int .i64 kd]) (by show w.heap.size<=_; omega) (zA7 (.inr (.inl rfl))) hkd rfl rfl (by simp [one])) (ji (zC1 (l:=[.int .i64 k',.int .i64 a',sv']) (by show w.heap.size<=_; omega) (zA7 (.inr (.inr (.inl rfl)))) hB4 rfl rfl (by simpa using h1c)) (ji (zC1 (l:=ds) hr0 (zA7 (.inr (.inr (.inr rfl)))) hrh hrs (by rw [hdl]; exact htk) hone) zHY))))
 case stop=>
  rintro D c pre W _ _ h _;exact h.elim
 case done=>
  rintro D ys W hD hys ⟨⟨bv,⟨tb,hbv⟩,hrow,hbel⟩,tk,hkd⟩ hK;have cb:W.cell? ⟨w.heap.size+1+1,0,none⟩=some bv:=by simp [World.cell?,hbv]
  gi_wp2;refine ⟨by simp,.inl ⟨_,_,rfl,run_takeDeferred hK,?_⟩⟩;have hgD:=grownBy_putObj' W D (.deferred none);have hlv:lvF kd ys=(allT (.mk k a ks)).filter (fun t=>t.kind == kd):=by rw [zNn]; exact congrArg _ hys
  have hrc:=zNb kd ys;have hrow':Row (W.putObj D (.deferred none)) w.heap.size (w.heap.size+1+1) bv (lvF kd ys).length (dsF kd ys):=hrow.kept fun b e=>by
   obtain ⟨_,_,cap,arr,el,_,h2⟩:=hrow.own e;exact (qv hgD (fun r e=>by injection e with e; subst e; exact ⟨_,hK,rfl⟩) h2).trans h2.symm
  refine ⟨_,results_tmp rfl _ _ _,bv,dsF kd ys,rfl,?_⟩;rw [<- hlv];exact ⟨hrow',hrc,hbel.grown hgD hbel.size (fun k e=>by injection e with e; omega)⟩
end
section
open Go.Al Go.Den Go.RowKit Go.Shelf
theorem zPJ {wm:Nat->Nat} {w W':World} (hwm:∀ b,w.heap.size<=b->wm b=0) (hbel:Below w.heap.size w W') {n bx:Nat} {v:Value} {ds:List Value} (hrow:Row W' w.heap.size bx v n ds)
 (es:List V) (hl:n=es.length) (hu:∀ x ∈ es,x.size=3) (hrc:RCs ⟨wm,fun _=>none,Fr.no⟩ w es ds) :
 ∃ wm',(∀ b,W'.heap.size<=b->wm' b=0)/\Step w.heap.size ⟨wm,fun _=>none,Fr.no⟩ w ⟨wm',fun _=>none,Fr.no⟩ W'/\RV ⟨wm',fun _=>none,Fr.no⟩ W' (.lst (zw es) es) v:=by
 subst hl;obtain ⟨q1,q2⟩:=jl hwm hbel;rcases hrow with ⟨h0,rfl,rfl⟩ | ⟨g,cap,cur,el,rfl,hg,_,hgb,hn,hcs,htk,hdl,hnp,_⟩
 . have:=List.length_eq_zero_iff.1 h0;subst this;refine ⟨wm,q1,q2,?_⟩;exact qF (by unfold RC; exact .inl ⟨rfl,rfl,trivial⟩)
 . cases es with
   | nil=>simp at hnp
   | cons x r=>
    have hgl:=(Array.getElem?_eq_some_iff.1 hgb).1;have hL:Later ⟨wm,fun _=>none,Fr.no⟩ w ⟨fun b=>if b=g then ds.length else wm b,fun _=>none,Fr.no⟩ W':=by
     refine ⟨fun b=>?_,fun _ _ h=>h,q2.later.cell⟩;show wm b<=if b=g then ds.length else wm b
     split
     . rename_i h; rw [h,hwm g hg]; exact Nat.zero_le _
     . exact Nat.le_refl _
    refine ⟨fun b=>if b=g then ds.length else wm b,fun b hb=>?_,⟨hL,q2.below,fun b h=>(by simp [Fr.no] at h),fun b hb=>?_,rfl⟩,qF ?_⟩
    . show (if b=g then ds.length else wm b)=0;rw [if_neg (by omega)];exact q1 b hb
    . show (if b=g then ds.length else wm b)=wm b;rw [if_neg (by omega)]
    . simp only [RC];refine .inr ⟨g,0,cap,ds,rfl,hn,by simp [zw,zD4],z8 hL _ _ hrc,⟨3,hu,by intro t nb s h; simp [zw] at h⟩,fun k u hk=>⟨?_,?_⟩⟩
      . have hk1:k < ds.length:=(List.getElem?_eq_some_iff.1 hk).1;rw [<- htk,List.getElem?_take] at hk;split at hk
        . simp only [World.cell?,hgb,Nat.zero_add];rw [Array.getElem?_toList] at hk;simpa using hk
        . cases hk
      . have hk1:k < ds.length:=(List.getElem?_eq_some_iff.1 hk).1;show 0+k < if g=g then ds.length else wm g
        rw [if_pos rfl]; omega
theorem qc (t:Nd):(zc t).size=3:=by
 obtain ⟨k,a,ks⟩:=t;rw [qH]; rfl
def fdT (t:Nd) (kd:Int):List Nd:=(allT t).filter fun t=>t.kind == kd
theorem zND (t:Nd) (kd:Int) (hN:(allT t).length<=1000000):qX Tryz.prog 32 [zc t,.at (.int .i64 kd)] (.lst (zw ((fdT t kd).map zc)) ((fdT t kd).map zc)):=by
 intro wm w us hwm hgl hu;cases hu with
 | cons hu1 hu2=>
  cases hu2 with
  | cons hu3 hu4=>
   cases hu4;have e:=yA (RV.of_RV1 hu3);subst e;refine callsIn_wide.1 ((zPo 3 (Nat.le_refl _) wm w hwm hgl t _ kd (RV.of_RV1 hu1) hN).mono ?_);rintro e w' ⟨v',ds,rfl,hrow,hrc,hbel⟩;obtain ⟨wm',h1,h2,h3⟩:=zPJ hwm hbel hrow ((fdT t kd).map zc) (by simp [fdT]) (fun x hx=>by obtain ⟨y,_,rfl⟩:=List.mem_map.1 hx; exact qc y) hrc;exact ⟨_,wm',rfl,h1,h2,h3⟩
def c32 (x:Nd×Int×Unit):Option (List Nd×Unit):=if (allT x.1).length<=1000000 then some (fdT x.1 x.2.1,()) else none
theorem ok32' (t:Nd) (kd:Int) (u:Unit) (y:List Nd×Unit) (hx:c32 (t,kd,u)=some y) (vs:List V) (hvs:zBD CC as32 ((t,kd,u):zh as32) vs):qX Tryz.prog 32 vs (finV ((xz CC rs32 (fun _=>false) 0 (y:zh rs32)).map (trT CC ⟨id,id,id,id⟩))):=by
 obtain ⟨v,vs',rfl,hv,v2,vs2,rfl,hv2,hvs⟩:=hvs;replace hvs:vs2=[]:=hvs;subst hvs;replace hv:v=trT CC ⟨id,id,id,id⟩ (argT CC (.st TI.node) false t):=hv;rw [zN6] at hv;subst hv;replace hv2:v2 = .at (.int .i64 kd):=hv2;subst hv2;unfold c32 at hx;split at hx
 . rename_i h;injection hx with hx
   subst hx;exact zND t kd h
 . cases hx
theorem ok32:ConOk CC Tryz.prog 32 ⟨as32,rs32,c32⟩:=fun x y hx vs hvs=>ok32' x.1 x.2.1 x.2.2 y hx vs hvs
end
section
open Go.Al Go.Den
def sh72 (fu:Nat) (x:((LT×(Int×((List MT)×((Option (Option MT))×Unit))))×Unit)) (a:(Int×Unit)):(Option (Option (((LT×(Int×((List MT)×((Option (Option MT))×Unit))))×Unit)×(Str×Unit)))) :=  let u2:=(x.1.1,(x.1.2.1,(x.1.2.2.1,(none,())))); let u1:=iadd .i64 x.1.2.1 a.1; let u6:=ile (lenI x.1.1) u1; let u3:=inB u1 (List.length x.1.1); let u0:=List.getD x.1.1 (Int.toNat u1) tokD; let u5:=ine (TokT.kind u0) 5; let u4:=ine (TokT.kind u0) 1; zr x.1.2.2.2.1 (cond u6 (some (some ((u2,()),([],())))) (cond u3 (cond u4 (cond u5 (some (some ((u2,()),([],())))) (some (some ((u2,()),((TokT.text u0),()))))) (some (some ((u2,()),((TokT.text u0),()))))) (none))) fun y0=>zr y0 (cond u6 (some (some (((x.1.1,(x.1.2.1,(x.1.2.2.1,((some none),())))),()),([],())))) (cond u3 (cond u4 (cond u5 (some (some (((x.1.1,(x.1.2.1,(x.1.2.2.1,((some none),())))),()),([],())))) (some (some (((x.1.1,(x.1.2.1,(x.1.2.2.1,((some none),())))),()),((TokT.text u0),()))))) (some (some (((x.1.1,(x.1.2.1,(x.1.2.2.1,((some none),())))),()),((TokT.text u0),()))))) (none))) fun y1=>cond u6 (some (some (((x.1.1,(x.1.2.1,(x.1.2.2.1,((some (some y1)),())))),()),([],())))) (cond u3 (cond u4 (cond u5 (some (some (((x.1.1,(x.1.2.1,(x.1.2.2.1,((some (some y1)),())))),()),([],())))) (some (some (((x.1.1,(x.1.2.1,(x.1.2.2.1,((some (some y1)),())))),()),((TokT.text u0),()))))) (some (some (((x.1.1,(x.1.2.1,(x.1.2.2.1,((some (some y1)),())))),()),((TokT.text u0),()))))) (none))
theorem eq72:@run72 = @sh72:=by kernel_rfl
def sh54 (fu:Nat) (c33:((List Str)×(Str×Unit))->(Option (Bool×Unit))) (c72:(Int×Unit)->MM (Str×Unit)) (x:((LT×(Int×((List MT)×((Option (Option MT))×Unit))))×Unit)) (a:((List Str)×Unit)):(Option (Option (((LT×(Int×((List MT)×((Option (Option MT))×Unit))))×Unit)×(Bool×Unit)))) :=  let u1:=(x.1.2.1,x.1.2.2.1); zr x.1.2.2.2.1 (bo (c72 (0,()) x.1.1 u1) fun y1=>let u0:=(x.1.1,(y1.2.1,(y1.2.2,(none,())))); cond (!(seq y1.1.1 [])) (Option.bind (c33 (a.1,(y1.1.1,()))) fun y2=>some (some ((u0,()),(y2.1,())))) (some (some ((u0,()),(false,()))))) fun y0=>zr y0 (bo (c72 (0,()) x.1.1 u1) fun y2=>cond (!(seq y2.1.1 [])) (Option.bind (c33 (a.1,(y2.1.1,()))) fun y3=>some (some (((x.1.1,(y2.2.1,(y2.2.2,((some none),())))),()),(y3.1,())))) (some (some (((x.1.1,(y2.2.1,(y2.2.2,((some none),())))),()),(false,()))))) fun y1=>bo (c72 (0,()) x.1.1 u1) fun y3=>cond (!(seq y3.1.1 [])) (Option.bind (c33 (a.1,(y3.1.1,()))) fun y4=>some (some (((x.1.1,(y3.2.1,(y3.2.2,((some (some y1)),())))),()),(y4.1,())))) (some (some (((x.1.1,(y3.2.1,(y3.2.2,((some (some y1)),())))),()),(false,()))))
theorem eq54:@run54 = @sh54:=by kernel_rfl
def sh85 (fu:Nat) (c15:(Str×Unit)->(Option (Bool×Unit))) (x:(ParT×Unit)) (a:(Int×Unit)):(Option (Option ((ParT×Unit)×(Bool×Unit)))) :=  let u1:=(x.1.1,(x.1.2.1,(x.1.2.2.1,((),())))); let u0:=iadd .i64 x.1.2.1 a.1; let u3:=inB u0 (List.length x.1.1); let u2:=List.getD x.1.1 (Int.toNat u0) tokD; cond (ilt u0 (lenI x.1.1)) (cond u3 (cond (ieq (TokT.kind u2) 1) (cond u3 (Option.bind (c15 ((TokT.text u2),())) fun y0=>some (some ((u1,()),((!y0.1),())))) (none)) (some (some ((u1,()),(false,()))))) (none)) (some (some ((u1,()),(false,()))))
theorem eq85:@run85 = @sh85:=by kernel_rfl
def sh112 (fu:Nat) (x:(ParT×Unit)) (a:(Int×Unit)):(Option (Option ((ParT×Unit)×(Bool×Unit)))) :=  let u0:=(x.1.1,(x.1.2.1,(x.1.2.2.1,((),())))); cond (ilt x.1.2.1 (lenI x.1.1)) (cond (inB x.1.2.1 (List.length x.1.1)) (some (some ((u0,()),((ieq (TokT.kind (List.getD x.1.1 (Int.toNat x.1.2.1) tokD)) a.1),())))) (none)) (some (some ((u0,()),(false,()))))
theorem eq112:@run112 = @sh112:=by kernel_rfl
def sh73 (fu:Nat) (x:(ParT×Unit)) (a:Unit):(Option (Option ((ParT×Unit)×(Nd×Unit)))):=cond (ilt x.1.2.1 (lenI x.1.1)) (some (some (((x.1.1,((iadd .i64 x.1.2.1 1),(x.1.2.2.1,((),())))),()),((Nd.mk 0 (isub .i64 (iadd .i64 x.1.2.1 1) 1) []),())))) (some none)
theorem eq73:@run73 = @sh73:=by kernel_rfl
def sh78 (fu:Nat) (c54:((List Str)×Unit)->MM (Bool×Unit)) (c73:Unit->MM (Nd×Unit)) (x:(ParT×Unit)) (a:(Str×Unit)):(Option (Option ((ParT×Unit)×(Nd×Unit)))):=bo (c54 ([a.1],()) x.1.1 (x.1.2.1,x.1.2.2.1)) fun y1=>cond y1.1.1 (bo (c73 () x.1.1 (y1.2.1,y1.2.2)) fun y3=>some (some (((x.1.1,(y3.2.1,(y3.2.2,((),())))),()),((ndE y3.1.1),())))) (some none)
theorem eq78:@run78 = @sh78:=by kernel_rfl
def sh80 (fu:Nat) (c73:Unit->MM (Nd×Unit)) (c85:(Int×Unit)->MM (Bool×Unit)) (x:(ParT×Unit)) (a:Unit):(Option (Option ((ParT×Unit)×(Nd×Unit)))):=bo (c85 (0,()) x.1.1 (x.1.2.1,x.1.2.2.1)) fun y1=>cond y1.1.1 (bo (c73 () x.1.1 (y1.2.1,y1.2.2)) fun y3=>some (some (((x.1.1,(y3.2.1,(y3.2.2,((),())))),()),((ndE y3.1.1),())))) (some none)
theorem eq80:@run80 = @sh80:=by kernel_rfl
def sh84 (fu:Nat) (c33:((List Str)×(Str×Unit))->(Option (Bool×Unit))) (c72:(Int×Unit)->MM (Str×Unit)) (c76:(Int×Unit)->MM (Bool×Unit)) (x:(ParT×Unit)) (a:(Int×Unit)):(Option (Option ((ParT×Unit)×(Bool×Unit)))):=bo (c72 (a.1,()) x.1.1 (x.1.2.1,x.1.2.2.1)) fun y1=>bo (c76 (a.1,()) x.1.1 (y1.2.1,y1.2.2)) fun y3=>let u0:=(x.1.1,(y3.2.1,(y3.2.2,((),())))); cond y3.1.1 (some (some ((u0,()),(true,())))) (Option.bind (c33 ([[99,111,110,115,116],[101,120,116,101,114,110],[105,110,108,105,110,101],[114,101,103,105,115,116,101,114],[115,116,97,116,105,99],[97,117,116,111],[116,121,112,101,100,101,102],[118,111,108,97,116,105,108,101]],(y1.1.1,()))) fun y4=>cond y4.1 (some (some ((u0,()),(true,())))) (Option.bind (c33 ([[99,104,97,114],[100,111,117,98,108,101],[102,108,111,97,116],[105,110,116],[108,111,110,103],[115,104,111,114,116],[115,105,103,110,101,100],[117,110,115,105,103,110,101,100],[118,111,105,100]],(y1.1.1,()))) fun y5=>cond y5.1 (some (some ((u0,()),(true,())))) (cond (seq y1.1.1 [101,110,117,109]) (some (some ((u0,()),(true,())))) (cond (seq y1.1.1 [115,116,114,117,99,116]) (some (some ((u0,()),(true,())))) (some (some ((u0,()),((seq y1.1.1 [117,110,105,111,110]),()))))))))
theorem eq84:@run84 = @sh84:=by kernel_rfl
theorem hj72 (fu:Nat)  (l:List TokT) (i:Int) (xs:List MT) (m:Option (Option MT)) (a:zA ([.int .i64]:LK)):sh72 fu ((l,i,xs,m,()),()) a=putJ m (sh72 fu ((l,i,xs,none,()),()) a):=by
 unfold sh72;rcases m with _ | _ | c <;> simp only [zLX,zL2,zNY,zMh,zMO,zNm,zOR,zMv]
theorem con72 (fu:Nat) :CQ 72 (cJ kI kS (mJ (sh72 fu))):=
 cJ_of (rpk zE zE zE zE fdok72 rfl (fun x a=>by rw [<- eq72]; rfl)) (hj72 fu )
theorem hj54 (fu:Nat) (c33:zh as33->Option (zh rs33)) (h33:ConOk CC Tryz.prog 33 ⟨as33,rs33,c33⟩) (c72:zA ([.int .i64]:LK)->MM (zA ([.str]:LK))) (h72:CPOk CC Tryz.prog syn 72 (cJ ([.int .i64]:LK) ([.str]:LK) c72)) (l:List TokT) (i:Int) (xs:List MT) (m:Option (Option MT)) (a:zA ([.dl TI.str]:LK)):sh54 fu c33 c72 ((l,i,xs,m,()),()) a=putJ m (sh54 fu c33 c72 ((l,i,xs,none,()),()) a):=by
 unfold sh54;have key:∀ (m:Option (Option MT)) (o:Option (Option ((Str×Unit)×PSt))) (f:Str->Option (Bool×Unit)),(Option.bind o fun y0=>zr y0 (some none) fun y1=>cond (!(seq y1.1.1 [])) (Option.bind (f y1.1.1) fun y2=>some (some (((l,(y1.2.1,(y1.2.2,(m,())))),()),(y2.1,())))) (some (some (((l,(y1.2.1,(y1.2.2,(m,())))),()),(false,()))))) =
  putJ m (Option.bind o fun y0=>zr y0 (some none) fun y1=>cond (!(seq y1.1.1 [])) (Option.bind (f y1.1.1) fun y2=>some (some (((l,(y1.2.1,(y1.2.2,(none,())))),()),(y2.1,())))) (some (some (((l,(y1.2.1,(y1.2.2,(none,())))),()),(false,()))))):=by
  intro m o f;rcases o with _ | _ | y
  . rfl
  . rfl
  . show cond (!(seq y.1.1 [])) _ _=putJ m (cond (!(seq y.1.1 [])) _ _);cases (!(seq y.1.1 [])) with
    | false=>rfl
    | true=>
     show Option.bind (f y.1.1) _=putJ m (Option.bind (f y.1.1) _);cases f y.1.1 <;> rfl
 rcases m with _ | _ | c
 . exact key none (c72 (show Int×Unit from (0,())) l (i,xs)) fun s=>c33 (a.1,(s,()))
 . exact key (some none) (c72 (show Int×Unit from (0,())) l (i,xs)) fun s=>c33 (a.1,(s,()))
 . exact key (some (some c)) (c72 (show Int×Unit from (0,())) l (i,xs)) fun s=>c33 (a.1,(s,()))
theorem con54 (fu:Nat) (c33:zh as33->Option (zh rs33)) (h33:ConOk CC Tryz.prog 33 ⟨as33,rs33,c33⟩) (c72:zA kI->MM (zA kS)) (h72:CQ 72 (cJ kI kS c72)):CQ 54 (cJ kL kB (mJ (sh54 fu c33 c72))):=
 cJ_of (rpk zE (zF (OrcOk.of ⟨zGY,h33⟩ rfl) zE) zE (zF ⟨zIs,h72⟩ zE) fdok54 rfl (fun x a=>by rw [<- eq54]; rfl)) (hj54 fu c33 h33 c72 h72)
theorem con85 (fu:Nat) (c15:zh as15->Option (zh rs15)) (h15:ConOk CC Tryz.prog 15 ⟨as15,rs15,c15⟩):CQ 85 (cM kI kB (mM (sh85 fu c15))):=
 xi (rpk zE (zF (OrcOk.of ⟨zI1,h15⟩ rfl) zE) zE zE fdok85 rfl (fun x a=>by rw [<- eq85]; rfl))
theorem con112 (fu:Nat) :CQ 112 (cM kI kB (mM (sh112 fu))):=
 xi (rpk zE zE zE zE zPl rfl (fun x a=>by rw [<- eq112]; rfl))
theorem con73 (fu:Nat) (h77:CQ 77 (zBl)):CQ 73 (cM k0 kN (mM (sh73 fu))):=
 xi (rpk (lo:=[]) (lr:=[]) (zF zNt zE) zE zE (zF ⟨zGB,h77⟩ zE) fdok73 rfl (fun x a=>by rw [<- eq73]; rfl))
theorem con78 (fu:Nat) (c54:zA kL->MM (zA kB)) (h54:CQ 54 (cJ kL kB c54)) (c73:zA k0->MM (zA kN)) (h73:CQ 73 (cM k0 kN c73)) (h77:CQ 77 (zBl)):CQ 78 (cM kS kN (mM (sh78 fu c54 c73))):=
 xi (rpk zE zE zE (zF ⟨zNB,h54⟩ (zF ⟨zJL,h73⟩ (zF ⟨zGB,h77⟩ zE))) fdok78 rfl (fun x a=>by rw [<- eq78]; rfl))
theorem con80 (fu:Nat) (c73:zA k0->MM (zA kN)) (h73:CQ 73 (cM k0 kN c73)) (h77:CQ 77 (zBl)) (c85:zA kI->MM (zA kB)) (h85:CQ 85 (cM kI kB c85)):CQ 80 (cM k0 kN (mM (sh80 fu c73 c85))):=
 xi (rpk zE zE zE (zF ⟨zJL,h73⟩ (zF ⟨zGB,h77⟩ (zF ⟨zNX,h85⟩ zE))) fdok80 rfl (fun x a=>by rw [<- eq80]; rfl))
theorem con84 (fu:Nat) (c33:zh as33->Option (zh rs33)) (h33:ConOk CC Tryz.prog 33 ⟨as33,rs33,c33⟩) (c72:zA kI->MM (zA kS)) (h72:CQ 72 (cJ kI kS c72)) (c76:zA kI->MM (zA kB)) (h76:CQ 76 (cM kI kB c76)):CQ 84 (cM kI kB (mM (sh84 fu c33 c72 c76))):=
 xi (rpk zE (zF (OrcOk.of ⟨zGY,h33⟩ rfl) zE) zE (zF ⟨zIs,h72⟩ (zF ⟨zM2,h76⟩ zE)) fdok84 rfl (fun x a=>by rw [<- eq84]; rfl))
end
section
open Go.Al Go.Den
structure PS where
 c33:List Str×Str×Unit->Option (Bool×Unit)
 c143:Str×Unit->Option (Int×Unit)
 c54:zA ([.dl TI.str]:LK)->MM (zA ([.bool]:LK))
 c72:zA ([.int .i64]:LK)->MM (zA ([.str]:LK))
 c73:zA ([]:LK)->MM (zA ([.st TI.node]:LK))
 c76:zA ([.int .i64]:LK)->MM (zA ([.bool]:LK))
 c78:zA ([.str]:LK)->MM (zA ([.st TI.node]:LK))
 c80:zA ([]:LK)->MM (zA ([.st TI.node]:LK))
 c84:zA ([.int .i64]:LK)->MM (zA ([.bool]:LK))
 c85:zA ([.int .i64]:LK)->MM (zA ([.bool]:LK))
 c112:zA ([.int .i64]:LK)->MM (zA ([.bool]:LK))
 c58:zA ([.str,.bool]:LK)->MM (zA ([]:LK))
 c59:zA ([.mpo]:LK)->MM (zA ([]:LK))
 c61:zA ([]:LK)->MM (zA ([.mpo]:LK))
structure POk (p:PS):Prop where
 h33:ConOk CC Tryz.prog 33 ⟨as33,rs33,p.c33⟩
 h143:ConOk CC Tryz.prog 143 ⟨zFB,zDb,p.c143⟩
 h38:CROk CC Tryz.prog 38 ky
 h77:CPOk CC Tryz.prog syn 77 zBl
 h54:CPOk CC Tryz.prog syn 54 (cJ ([.dl TI.str]:LK) ([.bool]:LK) p.c54)
 h72:CPOk CC Tryz.prog syn 72 (cJ ([.int .i64]:LK) ([.str]:LK) p.c72)
 h73:CPOk CC Tryz.prog syn 73 (cM ([]:LK) ([.st TI.node]:LK) p.c73)
 h76:CPOk CC Tryz.prog syn 76 (cM ([.int .i64]:LK) ([.bool]:LK) p.c76)
 h78:CPOk CC Tryz.prog syn 78 (cM ([.str]:LK) ([.st TI.node]:LK) p.c78)
 h80:CPOk CC Tryz.prog syn 80 (cM ([]:LK) ([.st TI.node]:LK) p.c80)
 h84:CPOk CC Tryz.prog syn 84 (cM ([.int .i64]:LK) ([.bool]:LK) p.c84)
 h85:CPOk CC Tryz.prog syn 85 (cM ([.int .i64]:LK) ([.bool]:LK) p.c85)
 h112:CPOk CC Tryz.prog syn 112 (cM ([.int .i64]:LK) ([.bool]:LK) p.c112)
 h58:CPOk CC Tryz.prog syn 58 (cM ([.str,.bool]:LK) ([]:LK) p.c58)
 h59:CPOk CC Tryz.prog syn 59 (cM ([.mpo]:LK) ([]:LK) p.c59)
 h61:CPOk CC Tryz.prog syn 61 (cM ([]:LK) ([.mpo]:LK) p.c61)
structure RS where
 c53:zA ([]:LK)->MM (zA ([.st TI.node,.bool]:LK))
 c74:zA ([]:LK)->MM (zA ([.st TI.node]:LK))
 c107:zA ([]:LK)->MM (zA ([.st TI.node]:LK))
 c75:zA ([]:LK)->MM (zA ([.st TI.node]:LK))
 c108:zA ([]:LK)->MM (zA ([.st TI.node]:LK))
 c79:zA ([]:LK)->List Nd->MM (zA ([]:LK)×List Nd)
 c82:zA ([]:LK)->List Nd->MM (zA ([]:LK)×List Nd)
 c56:zA ([]:LK)->MM (zA ([.st TI.node,.str,.bool]:LK)×Option (Option MT))
 c130:zA ([.bool]:LK)->MM (zA ([.st TI.node,.str,.bool]:LK))
 c81:zA ([]:LK)->MM (zA ([.st TI.node]:LK)×Option MT)
 c110:zA ([]:LK)->MM (zA ([.st TI.node]:LK))
 c151:zA ([]:LK)->MM (zA ([.st TI.node]:LK))
 c83:zA ([]:LK)->MM (zA ([.st TI.node]:LK))
 c57:zA ([.st TI.node,.str,.bool]:LK)->MM (zA ([.st TI.node]:LK))
 c55:zA ([.ag [.ow true TI.node],.bool]:LK)->MM (zA ([.st TI.node]:LK))
 c37:zA ([.bool]:LK)->MM (zA ([.st TI.node]:LK))
 c60:zA ([]:LK)->MM (zA ([.st TI.node]:LK))
 c86:zA ([]:LK)->MM (zA ([.st TI.node]:LK))
 c116:zA ([.ag [.ow true TI.node]]:LK)->MM (zA ([.st TI.node]:LK))
 c115:zA ([]:LK)->List Nd->MM (zA ([]:LK)×List Nd)
 c117:zA ([.str]:LK)->List Nd->MM (zA ([]:LK)×List Nd)
 c113:zA ([]:LK)->MM (zA ([.st TI.node]:LK))
 c111:zA ([]:LK)->MM (zA ([.st TI.node]:LK))
 c114:zA ([]:LK)->MM (zA ([.st TI.node]:LK))
 c131:zA ([.int .i64]:LK)->MM (zA ([.st TI.node]:LK))
 c142:zA ([]:LK)->MM (zA ([.st TI.node]:LK))
 c150:zA ([]:LK)->MM (zA ([.st TI.node]:LK))
 c154:zA ([.st TI.node]:LK)->MM (zA ([.st TI.node]:LK))
 c155:zA ([]:LK)->MM (zA ([.st TI.node]:LK))
def RS.zero:RS where
 c53:=fun _ _ _=>none
 c74:=fun _ _ _=>none
 c107:=fun _ _ _=>none
 c75:=fun _ _ _=>none
 c108:=fun _ _ _=>none
 c79:=fun _ _ _ _=>none
 c82:=fun _ _ _ _=>none
 c56:=fun _ _ _=>none
 c130:=fun _ _ _=>none
 c81:=fun _ _ _=>none
 c110:=fun _ _ _=>none
 c151:=fun _ _ _=>none
 c83:=fun _ _ _=>none
 c57:=fun _ _ _=>none
 c55:=fun _ _ _=>none
 c37:=fun _ _ _=>none
 c60:=fun _ _ _=>none
 c86:=fun _ _ _=>none
 c116:=fun _ _ _=>none
 c115:=fun _ _ _ _=>none
 c117:=fun _ _ _ _=>none
 c113:=fun _ _ _=>none
 c111:=fun _ _ _=>none
 c114:=fun _ _ _=>none
 c131:=fun _ _ _=>none
 c142:=fun _ _ _=>none
 c150:=fun _ _ _=>none
 c154:=fun _ _ _=>none
 c155:=fun _ _ _=>none
structure ROk (r:RS):Prop where
 h53:CPOk CC Tryz.prog syn 53 (cM (([]:LK)) (([.st TI.node,.bool]:LK)) r.c53)
 h74:CPOk CC Tryz.prog syn 74 (cM (([]:LK)) (([.st TI.node]:LK)) r.c74)
 h107:CPOk CC Tryz.prog syn 107 (cM (([]:LK)) (([.st TI.node]:LK)) r.c107)
 h75:CPOk CC Tryz.prog syn 75 (cM (([]:LK)) (([.st TI.node]:LK)) r.c75)
 h108:CPOk CC Tryz.prog syn 108 (cM (([]:LK)) (([.st TI.node]:LK)) r.c108)
 h79:CPOk CC Tryz.prog syn 79 (cX (([]:LK)) (([]:LK)) r.c79)
 h82:CPOk CC Tryz.prog syn 82 (cX (([]:LK)) (([]:LK)) r.c82)
 h56:CPOk CC Tryz.prog syn 56 (cN (([]:LK)) (([.st TI.node,.str,.bool]:LK)) r.c56)
 h130:CPOk CC Tryz.prog syn 130 (cM (([.bool]:LK)) (([.st TI.node,.str,.bool]:LK)) r.c130)
 h81:CPOk CC Tryz.prog syn 81 (cL (([]:LK)) (([.st TI.node]:LK)) r.c81)
 h110:CPOk CC Tryz.prog syn 110 (cM (([]:LK)) (([.st TI.node]:LK)) r.c110)
 h151:CPOk CC Tryz.prog syn 151 (cM (([]:LK)) (([.st TI.node]:LK)) r.c151)
 h83:CPOk CC Tryz.prog syn 83 (cM (([]:LK)) (([.st TI.node]:LK)) r.c83)
 h57:CPOk CC Tryz.prog syn 57 (cM (([.st TI.node,.str,.bool]:LK)) (([.st TI.node]:LK)) r.c57)
 h55:CPOk CC Tryz.prog syn 55 (cM (([.ag [.ow true TI.node],.bool]:LK)) (([.st TI.node]:LK)) r.c55)
 h37:CPOk CC Tryz.prog syn 37 (cM (([.bool]:LK)) (([.st TI.node]:LK)) r.c37)
 h60:CPOk CC Tryz.prog syn 60 (cM (([]:LK)) (([.st TI.node]:LK)) r.c60)
 h86:CPOk CC Tryz.prog syn 86 (cM (([]:LK)) (([.st TI.node]:LK)) r.c86)
 h116:CPOk CC Tryz.prog syn 116 (cM (([.ag [.ow true TI.node]]:LK)) (([.st TI.node]:LK)) r.c116)
 h115:CPOk CC Tryz.prog syn 115 (cX (([]:LK)) (([]:LK)) r.c115)
 h117:CPOk CC Tryz.prog syn 117 (cX (([.str]:LK)) (([]:LK)) r.c117)
 h113:CPOk CC Tryz.prog syn 113 (cM (([]:LK)) (([.st TI.node]:LK)) r.c113)
 h111:CPOk CC Tryz.prog syn 111 (cM (([]:LK)) (([.st TI.node]:LK)) r.c111)
 h114:CPOk CC Tryz.prog syn 114 (cM (([]:LK)) (([.st TI.node]:LK)) r.c114)
 h131:CPOk CC Tryz.prog syn 131 (cM (([.int .i64]:LK)) (([.st TI.node]:LK)) r.c131)
 h142:CPOk CC Tryz.prog syn 142 (cM (([]:LK)) (([.st TI.node]:LK)) r.c142)
 h150:CPOk CC Tryz.prog syn 150 (cM (([]:LK)) (([.st TI.node]:LK)) r.c150)
 h154:CPOk CC Tryz.prog syn 154 (cM (([.st TI.node]:LK)) (([.st TI.node]:LK)) r.c154)
 h155:CPOk CC Tryz.prog syn 155 (cM (([]:LK)) (([.st TI.node]:LK)) r.c155)
theorem ROk.zero:ROk RS.zero:=⟨(fun _ _ _ _ _ _ h=>by cases h),(fun _ _ _ _ _ _ h=>by cases h),(fun _ _ _ _ _ _ h=>by cases h),(fun _ _ _ _ _ _ h=>by cases h),(fun _ _ _ _ _ _ h=>by cases h),(fun _ _ _ _ _ _ h=>by cases h),(fun _ _ _ _ _ _ h=>by cases h),(fun _ _ _ _ _ _ h=>by cases h),(fun _ _ _ _ _ _ h=>by cases h),(fun _ _ _ _ _ _ h=>by cases h),(fun _ _ _ _ _ _ h=>by cases h),(fun _ _ _ _ _ _ h=>by cases h),(fun _ _ _ _ _ _ h=>by cases h),(fun _ _ _ _ _ _ h=>by cases h),(fun _ _ _ _ _ _ h=>by cases h),(fun _ _ _ _ _ _ h=>by cases h),(fun _ _ _ _ _ _ h=>by cases h),(fun _ _ _ _ _ _ h=>by cases h),(fun _ _ _ _ _ _ h=>by cases h),(fun _ _ _ _ _ _ h=>by cases h),(fun _ _ _ _ _ _ h=>by cases h),(fun _ _ _ _ _ _ h=>by cases h),(fun _ _ _ _ _ _ h=>by cases h),(fun _ _ _ _ _ _ h=>by cases h),(fun _ _ _ _ _ _ h=>by cases h),(fun _ _ _ _ _ _ h=>by cases h),(fun _ _ _ _ _ _ h=>by cases h),(fun _ _ _ _ _ _ h=>by cases h),(fun _ _ _ _ _ _ h=>by cases h)⟩
def oC (p:PS):Nat->Option (Con UU):=zD [(33,⟨as33,rs33,p.c33⟩),(143,⟨zFB,zDb,p.c143⟩)]
def oR:Nat->Option (CR UU):=zD [(38,ky)]
noncomputable def iI:Nat->Option (FD UU):=zD [(36,fd36),(41,fd41)]
def oA (p:PS) (r:RS) (a b:Bool):Nat->Option (CP UU):=zD [(53,cM ([]:LK) ([.st TI.node,.bool]:LK) r.c53),(74,cM ([]:LK) ([.st TI.node]:LK) r.c74),(107,cM ([]:LK) ([.st TI.node]:LK) r.c107),(75,cM ([]:LK) ([.st TI.node]:LK) r.c75),(108,cM ([]:LK) ([.st TI.node]:LK) r.c108),(79,cX ([]:LK) ([]:LK) r.c79),(82,cX ([]:LK) ([]:LK) r.c82),(56,cond a (cNj ([]:LK) ([.st TI.node,.str,.bool]:LK) r.c56) (cN ([]:LK) ([.st TI.node,.str,.bool]:LK) r.c56)),(130,cM ([.bool]:LK) ([.st TI.node,.str,.bool]:LK) r.c130),(81,cond b (cLj ([]:LK) ([.st TI.node]:LK) r.c81) (cL ([]:LK) ([.st TI.node]:LK) r.c81)),(110,cM ([]:LK) ([.st TI.node]:LK) r.c110),(151,cM ([]:LK) ([.st TI.node]:LK) r.c151),(83,cM ([]:LK) ([.st TI.node]:LK) r.c83),(57,cM ([.st TI.node,.str,.bool]:LK) ([.st TI.node]:LK) r.c57),(55,cM ([.ag [.ow true TI.node],.bool]:LK) ([.st TI.node]:LK) r.c55),(37,cM ([.bool]:LK) ([.st TI.node]:LK) r.c37),(60,cM ([]:LK) ([.st TI.node]:LK) r.c60),(86,cM ([]:LK) ([.st TI.node]:LK) r.c86),(116,cM ([.ag [.ow true TI.node]]:LK) ([.st TI.node]:LK) r.c116),(115,cX ([]:LK) ([]:LK) r.c115),(117,cX ([.str]:LK) ([]:LK) r.c117),(113,cM ([]:LK) ([.st TI.node]:LK) r.c113),(111,cM ([]:LK) ([.st TI.node]:LK) r.c111),(114,cM ([]:LK) ([.st TI.node]:LK) r.c114),(131,cM ([.int .i64]:LK) ([.st TI.node]:LK) r.c131),(142,cM ([]:LK) ([.st TI.node]:LK) r.c142),(150,cM ([]:LK) ([.st TI.node]:LK) r.c150),(154,cM ([.st TI.node]:LK) ([.st TI.node]:LK) r.c154),(155,cM ([]:LK) ([.st TI.node]:LK) r.c155),(54,cJ ([.dl TI.str]:LK) ([.bool]:LK) p.c54),(72,cJ ([.int .i64]:LK) ([.str]:LK) p.c72),(73,cM ([]:LK) ([.st TI.node]:LK) p.c73),(76,cM ([.int .i64]:LK) ([.bool]:LK) p.c76),(78,cM ([.str]:LK) ([.st TI.node]:LK) p.c78),(80,cM ([]:LK) ([.st TI.node]:LK) p.c80),(84,cM ([.int .i64]:LK) ([.bool]:LK) p.c84),(85,cM ([.int .i64]:LK) ([.bool]:LK) p.c85),(112,cM ([.int .i64]:LK) ([.bool]:LK) p.c112),(58,cM ([.str,.bool]:LK) ([]:LK) p.c58),(59,cM ([.mpo]:LK) ([]:LK) p.c59),(61,cM ([]:LK) ([.mpo]:LK) p.c61),(77,zBl)]
theorem oA_ok {p:PS} (hp:POk p) {r:RS} (hr:ROk r) (a b:Bool):∀ f c,oA p r a b f=some c->zQ Tryz.prog f=true/\CPOk CC Tryz.prog syn f c:=
 zF ⟨code53,hr.h53⟩ (zF ⟨code74,hr.h74⟩ (zF ⟨zQt,hr.h107⟩ (zF ⟨code75,hr.h75⟩ (zF ⟨zPP,hr.h108⟩ (zF ⟨code79,hr.h79⟩ (zF ⟨code82,hr.h82⟩ (zF ⟨code56,by cases a; exact hr.h56; exact cNj_of hr.h56⟩ (zF ⟨zPL,hr.h130⟩ (zF ⟨code81,by cases b; exact hr.h81; exact cLj_of hr.h81⟩ (zF ⟨zQW,hr.h110⟩ (zF ⟨zQd,hr.h151⟩ (zF ⟨code83,hr.h83⟩ (zF ⟨code57,hr.h57⟩ (zF ⟨code55,hr.h55⟩ (zF ⟨zNI,hr.h37⟩ (zF ⟨code60,hr.h60⟩ (zF ⟨code86,hr.h86⟩ (zF ⟨zPi,hr.h116⟩ (zF ⟨zQX,hr.h115⟩ (zF ⟨zQV,hr.h117⟩ (zF ⟨zP0,hr.h113⟩ (zF ⟨zPO,hr.h111⟩ (zF ⟨zPp,hr.h114⟩ (zF ⟨zPj,hr.h131⟩ (zF ⟨zQz,hr.h142⟩ (zF ⟨zPt,hr.h150⟩ (zF ⟨zQ7,hr.h154⟩ (zF ⟨zQE,hr.h155⟩ (zF ⟨zNB,hp.h54⟩ (zF ⟨zIs,hp.h72⟩ (zF ⟨zJL,hp.h73⟩ (zF ⟨zM2,hp.h76⟩ (zF ⟨code78,hp.h78⟩ (zF ⟨code80,hp.h80⟩ (zF ⟨code84,hp.h84⟩ (zF ⟨zNX,hp.h85⟩ (zF ⟨zP2,hp.h112⟩ (zF ⟨code58,hp.h58⟩ (zF ⟨code59,hp.h59⟩ (zF ⟨code61,hp.h61⟩ (zF ⟨zGB,hp.h77⟩ zE)))))))))))))))))))))))))))))))))))))))))
noncomputable def rnA (fu:Nat) (p:PS) (r:RS) (a b:Bool) (fd:FD UU) (io oo aa rs:LK) (x:zA io) (y:zA aa):Option (Option (zA oo×zA rs)):=runP CC Tb fu 4 iI (oC p) oR (oA p r a b) fd io oo aa rs x y
theorem xh (fu:Nat) {p:PS} (hp:POk p) {r:RS} (hr:ROk r) {a b:Bool} {f:Nat} {fd:FD UU} (hfd:FDOk Tryz.prog (hasN [33,143]) (hasN [38]) f fd) {io oo aa rs:LK} (hlen:io.length+aa.length<=fd.n) {sh:zA io->zA aa->Option (Option (zA oo×zA rs))}
 (e:∀ x y,rnA fu p r a b fd io oo aa rs x y=sh x y):CPOk CC Tryz.prog syn f ⟨io,oo,aa,rs,fnP sh⟩:=
 zKx (syn:=syn) (fu:=fu) (d:=4) (inl:=iI) (orc:=oC p) (orr:=oR) (orp:=oA p r a b) (pf:=hasN [33,143]) (rf:=hasN [38]) zGA CCok mixed (fun g=>(qI (α:=Con UU) (l:=[(33,⟨as33,rs33,p.c33⟩),(143,⟨zFB,zDb,p.c143⟩)]) g).symm) (fun g=>(qI (α:=CR UU) (l:=[(38,ky)]) g).symm)
  (zF zRV (zF zQ5 zE)) (zF (OrcOk.of ⟨zGY,hp.h33⟩ rfl) (zF (OrcOk.of ⟨zPV,hp.h143⟩ rfl) zE)) (zF ⟨zJS,hp.h38⟩ zE) (oA_ok hp hr a b) hfd hlen e
end
end Go.Proofs.YtnamdpbcpnnhaaaGreatDoor
