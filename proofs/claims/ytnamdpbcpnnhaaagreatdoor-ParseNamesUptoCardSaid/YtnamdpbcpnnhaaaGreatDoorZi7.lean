/-
  Names are all alike: for every text and every two names, where they and what the listed variables hold are of bulk at most 1048576, the law ParseNames answers true, and leaves its arguments as they were. No condition, but that the listed package-level variables hold what the program's text lays (the card ties them).
-/
import Derived.Test.YtnamdpbcpnnhaaaGreatDoorZi6
import Derived.RangeFuncNested
import Derived.RangeFuncBound
import Derived.RangeFuncLeaves
import Derived.RangeFuncWrites
import Derived.Shelf.Abstract
import Derived.OwnWalkIn
import Derived.TacticsInMore
import Derived.LoopIn
import Derived.Maps.AppendAt
import Derived.Shelf.Small.Strs
import Derived.Shelf.Strconv.Itoa0
import Derived.Shelf.Strconv.Itoa1
import Derived.Shelf.LaysM
import Derived.Shelf.Strconv.Itoa2
import Derived.Shelf.Strconv.Itoa3
import Derived.Shelf.Strings.Search1
import Derived.Shelf.Strings.Search2
import Derived.Shelf.Strings.Search3
import Derived.Shelf.Strings.Prefix
import Derived.Lib.QuietBelow
import GoSem.Claims
import Derived.LoopNIn
import Derived.Laws.OwnMore
import Derived.Laws.BytesArg
import Derived.Test.YtnamdpbcpnnhaaaGreatDoorCards
set_option linter.unusedVariables false
set_option linter.unusedSimpArgs false
set_option linter.unusedSectionVars false
namespace Go.Proofs.YtnamdpbcpnnhaaaGreatDoor
section
open Go.Al Go.Den
theorem qg {W:Sim} {n k:Nat} {p:Int} {xs ys:List MT} {C:Prop} (hS:Sta W n p xs ys) (hm:20 * ((W.A.length:Int) - p)+k < (0:Nat)):C:=by
 have:=hS.p1
 exfalso
 omega
theorem RSp.zero (W:Sim) (r s:RS):RSp W 0 r s:=by
 constructor <;> first
  | exact fun _ _ _ _ hS _ hm=>qg hS hm
  | exact fun _ _ _ _ _ hS _ hm=>qg hS hm
  | exact fun _ _ _ _ _ _ hS _ hm=>qg hS hm
  | exact fun _ _ _ _ _ _ _ hS _ hm=>qg hS hm
  | exact fun _ _ _ _ _ _ _ _ hS _ hm=>qg hS hm
  | exact fun _ _ _ _ _ _ _ _ hS _ hm=>qg hS hm
  | exact fun _ _ _ _ _ _ _ _ _ hS _ hm=>qg hS hm
  | exact fun _ _ _ _ _ _ _ _ _ hS _ hm _=>qg hS hm
  | exact fun _ _ _ _ _ _ _ _ hS _ hm _ _=>qg hS hm
  | exact fun _ _ _ _ _ _ _ hS _ hm _ _ _=>qg hS hm
  | exact fun _ _ _ _ _ _ hS _ hm _ _=>qg hS hm
  | exact fun _ _ _ _ _ _ _ _ _ hS _ hm _ _ _ _=>qg hS hm
set_option maxHeartbeats 4000000 in
theorem RSp.next {W:Sim} (hW:W.Ok) {m fu:Nat} {r s:RS} (hfu:5000 < fu) (h:RSp W m r s):RSp W (m+1) (r.next fu) (s.next fu) where
 h53:=sp53 hW (yV fu) hfu h
 h74:=sp74 hW (yV fu) hfu h
 h107:=sp107 hW (yV fu) hfu h
 h75:=sp75 hW (yV fu) hfu h
 h108:=sp108 hW (yV fu) hfu h
 h79:=sp79 hW (yV fu) hfu h
 h82:=sp82 hW (yV fu) hfu h
 h56:=sp56 hW (yV fu) hfu h
 h130:=sp130 hW (yV fu) hfu h
 h81:=sp81 hW (yV fu) hfu h
 h110:=sp110 hW (yV fu) hfu h
 h151:=sp151 hW (yV fu) hfu h
 h83:=sp83 hW (yV fu) hfu h
 h57:=sp57 hW (yV fu) hfu h
 h55:=sp55 hW (yV fu) hfu h
 h37:=sp37 hW (yV fu) hfu h
 h60:=sp60 hW (yV fu) hfu h
 h86:=sp86 hW (yV fu) hfu h
 h116:=sp116 hW (yV fu) hfu h
 h115:=sp115 hW (yV fu) hfu h
 h117:=sp117 hW (yV fu) hfu h
 h113:=sp113 hW (yV fu) hfu h
 h111:=sp111 hW (yV fu) hfu h
 h114:=sp114 hW (yV fu) hfu h
 h131:=sp131 hW (yV fu) hfu h
 h142:=sp142 hW (yV fu) hfu h
 h150:=sp150 hW (yV fu) hfu h
 h154:=sp154 hW (yV fu) hfu h
 h155:=sp155 hW (yV fu) hfu h
theorem rsp2 {W:Sim} (hW:W.Ok) {fu:Nat} (hfu:5000 < fu):∀ m n,RSp W (min m n) (rs fu m) (rs fu n)
 | 0,n=>by rw [Nat.zero_min]; exact RSp.zero W _ _
 | m+1,0=>by rw [Nat.min_zero]; exact RSp.zero W _ _
 | m+1,n+1=>by rw [Nat.succ_min_succ]; exact (rsp2 hW hfu m n).next hW hfu
theorem rsp {W:Sim} (hW:W.Ok) {fu:Nat} (hfu:5000 < fu) (m:Nat):RSp W m (rs fu m) (rs fu m):=by
 have h:=rsp2 hW hfu m m
 rwa [Nat.min_self] at h
def simT (l:List TokT):Sim:=⟨l,l,0,fun _=>False,fun xs ys=>xs.length=ys.length,fun _ _=>True,True,0⟩
theorem zPe {l:List TokT} (hl:l.length<=4000):(simT l).Ok where
 lenA:=hl
 lenB:=by show l.length < 1000000; omega
 d0:=Int.le_refl _
 lo0:=Int.le_refl _
 lenAB:=by show (l.length:Int)+0<=l.length; omega
 mono:=fun _ h=>h
 weak:=fun _ _ _ h=>h.elim
 full:=fun _ _ _ h=>h.elim
 name:=fun _ _ _ h=>h.elim
 kind:=fun _ _ _ _ h=>h.elim
 type:=fun _ _ _ _ _ _ h=>h.elim
 srlen:=fun h=>h
 push:=fun {xs ys m m'} h _=>by show (xs++[m]).length=(ys++[m']).length; replace h:xs.length=ys.length:=h; simp [h]
 mr0:=trivial
 pop:=fun {xs ys m m'} h _=>by
  replace h:(xs++[m]).length=(ys++[m']).length:=h
  exact ⟨by show xs.length=ys.length; simpa using h,trivial⟩
 dcl:=fun {xs ys m m' p v} h _ _ _=>by
  replace h:(xs++[m]).length=(ys++[m']).length:=h
  show (xs++[xh m _ v]).length=(ys++[xh m' _ v]).length
  simpa using h
 nameE:=fun p _ _=>by show zK l p=[]↔zK l (p+0)=[]; rw [Int.add_zero]
 td:=fun _ _=>trivial
structure Deep (fu m:Nat):Prop where
 fu:5000 < fu
 m:80100 < m
theorem zLQ {fu m:Nat} (hd:Deep fu m) {l:List TokT} (hl:l.length<=4000) (t:Bool) {p:Int} {xs:List MT} (p0:0<=p) (p1:p<=l.length) (x0:xs.length=1) :
 ∃ o,(rs fu m).c37 (t,()) l (p,xs)=some o/\∀ y,o=some y->p < y.2.1/\y.2.1<=l.length/\y.2.2.length=1/\Tr p y.2.1 y.1.1:=by
 have h:=(rsp (zPe hl) hd.fu m).h37 1 p xs xs t ⟨p0,p1,Nat.le_refl _,x0,rfl⟩ (by omega) (by have:=hd.m; show 20 * ((l.length:Int) - p)+(5:Nat) < m; omega)
 obtain ⟨o,h1,h2⟩:=h
 refine ⟨o,h1,fun y hy=>?_⟩
 obtain ⟨_,y',⟨h3,h4,h5,h6⟩,_⟩:=h2 y hy
 exact ⟨h5.lt,h3.p1,h3.hn,h5⟩
inductive Decls (f:MM (Nd×Unit)) (l:List TokT):Int->List MT->List Nd->Int->List MT->List Nd->Prop
 | nil {p xs ps}:Decls f l p xs ps p xs ps
 | cons {p xs ps q zs nd p' xs' ps'}:p < (l.length:Int)->f l (p,xs)=some (some ((nd,()),(q,zs)))->Decls f l q zs (ps++[nd]) p' xs' ps'->Decls f l p xs ps p' xs' ps'
def jy (n:Nat) (l:List TokT) (f:MM (Nd×Unit)) (p:Int) (xs:List MT) (ps:List Nd):Option (Option (ParT×NdsT×Unit)):=
 iter n (fun (rec1:(PUnit×(ParT×(NdsT×PUnit)))->Option (Option (ParT×(NdsT×PUnit)))) (s1:(PUnit×(ParT×(NdsT×PUnit))))=>
  cond (ilt s1.2.1.2.1 (lenI l))
   (Option.bind (f s1.2.1.1 (s1.2.1.2.1,s1.2.1.2.2.1)) fun y0=>
    zI y0
     (some Option.none)
     fun y1=>
     cond (okN 40 ((List.length s1.2.2.1.1)+(List.length [(ndE y1.1.1)])))
      (rec1 ((),((s1.2.1.1,(y1.2.1,(y1.2.2,((),())))),(((s1.2.2.1.1++[(ndE y1.1.1)]),()),()))))
      (none))
   (some (Option.some ((s1.2.1.1,(s1.2.1.2.1,(s1.2.1.2.2.1,((),())))),((s1.2.2.1.1,()),())))))
  ((),((l,(p,(xs,((),())))),((ps,()),())))
section
variable {l:List TokT} {f:MM (Nd×Unit)} {p q:Int} {xs zs xs':List MT} {ps ps':List Nd} {nd:Nd} {n:Nat}
theorem zFw (h:(l.length:Int)<=p):jy (n+1) l f p xs ps=some (some ((l,(p,(xs,((),())))),((ps,()),()))):=by
 show cond (ilt p (lenI l)) _ _=_
 rw [show ilt p (lenI l)=false from decide_eq_false (by show ¬ p < (l.length:Int); omega),cond_false]
theorem zLY (h:p < (l.length:Int)) (hf:f l (p,xs)=some none):jy (n+1) l f p xs ps=some none:=by
 show cond (ilt p (lenI l)) (Option.bind (f l (p,xs)) _) _=_
 rw [show ilt p (lenI l)=true from decide_eq_true h,cond_true,hf]
 rfl
theorem zGi (h:p < (l.length:Int)) (hf:f l (p,xs)=some (some ((nd,()),(q,zs)))) (hl:ps.length<=100000):jy (n+1) l f p xs ps=jy n l f q zs (ps++[nd]):=by
 show cond (ilt p (lenI l)) (Option.bind (f l (p,xs)) _) _=_
 rw [show ilt p (lenI l)=true from decide_eq_true h,cond_true,hf]
 show cond (okN 40 (ps.length+1)) (jy n l f q zs (ps++[ndE nd])) none=_
 rw [show okN 40 (ps.length+1)=true from zBG (by omega) (by simp [maxLen]; omega),cond_true,yO]
def Good (l:List TokT) (f:MM (Nd×Unit)):Prop:=∀ p xs,0<=p->p<=(l.length:Int)->xs.length=1->∃ o,f l (p,xs)=some o/\∀ y,o=some y->p < y.2.1/\y.2.1<=l.length/\y.2.2.length=1/\Tr p y.2.1 y.1.1
theorem zCH {fu m:Nat} (hd:Deep fu m) (hl:l.length<=4000) (t:Bool):Good l ((rs fu m).c37 (t,())):=fun _ _ p0 p1 x0=>zLQ hd hl t p0 p1 x0
theorem zIl (hl:l.length<=4000) (hf:Good l f):∀ (n:Nat) p xs ps,0<=p->p<=(l.length:Int)->xs.length=1->Pt 0 p ps->(l.length:Int) - p < n ->
 jy n l f p xs ps=some none\/∃ xs' ps',Decls f l p xs ps l.length xs' ps'/\Pt 0 l.length ps'/\xs'.length=1/\jy n l f p xs ps=some (some ((l,((l.length:Int),(xs',((),())))),((ps',()),()))):=by
 intro n
 induction n with
 | zero=>intro p xs ps _ _ _ _ _; omega
 | succ n ih=>
  intro p xs ps p0 p1 x0 hP hn
  by_cases hp:p < (l.length:Int)
  · obtain ⟨o,h1,h2⟩:=hf p xs p0 p1 x0
    cases o with
    | none=>exact .inl (zLY hp h1)
    | some y=>
     obtain ⟨⟨nd,u⟩,q,zs⟩:=y
     obtain ⟨h3,h4,h5,h6⟩:=h2 _ rfl
     replace h3:p < q:=h3
     replace h4:q<=(l.length:Int):=h4
     have hlen:=hP.len
     rw [zGi (ps:=ps) hp h1 (by omega)]
     rcases ih q zs (ps++[nd]) (by omega) h4 h5 (hP.snoc h6) (by omega) with h7 | ⟨xs',ps',h7,h8,h9,h10⟩
     · exact .inl h7
     · exact .inr ⟨xs',ps',.cons hp h1 h7,h8,h9,h10⟩
  · obtain rfl:p=(l.length:Int):=by omega
    exact .inr ⟨xs,ps,.nil,hP,x0,zFw (Int.le_refl _)⟩
theorem zMl (hl:l.length<=4000) (hf:Good l f) {p':Int} {xs':List MT} {ps':List Nd} (h:Decls f l p xs ps p' xs' ps'):∀ (n:Nat),0<=p->p<=(l.length:Int)->xs.length=1->Pt 0 p ps->(l.length:Int) - p < n ->
 ∃ n',jy n l f p xs ps=jy n' l f p' xs' ps'/\0<=p'/\p'<=(l.length:Int)/\xs'.length=1/\Pt 0 p' ps'/\(l.length:Int) - p' < n':=by
 induction h with
 | nil=>intro n p0 p1 x0 hP hn; exact ⟨n,rfl,p0,p1,x0,hP,hn⟩
 | @cons p xs ps q zs nd p' xs' ps' h1 h2 h3 ih=>
  intro n p0 p1 x0 hP hn
  obtain ⟨o,k1,k2⟩:=hf p xs p0 p1 x0
  rw [h2] at k1
  injection k1 with k1
  obtain ⟨k3,k4,k5,k6⟩:=k2 _ k1.symm
  replace k3:p < q:=k3
  cases n with
  | zero=>omega
  | succ n=>
   have hlen:=hP.len
   rw [zGi (ps:=ps) h1 h2 (by omega)]
   exact ih n (by omega) k4 k5 (hP.snoc k6) (by omega)
end
theorem kq {fu m:Nat} (hd:Deep fu m) {l:List TokT} (hl:l.length<=4000) :
 c17 fu m (l,())=some (Nd.mk 0 0 [],160,())\/∃ xs' ps',Decls ((rs fu m).c37 (true,())) l 0 [[]] [] l.length xs' ps'/\Pt 0 l.length ps'/\xs'.length=1/\c17 fu m (l,())=some (Nd.mk 1 0 ps',0,()):=by
 have e:c17 fu m (l,())=(jy fu l ((rs fu m).c37 (true,())) 0 [[]] []).map cv17:=if_pos hl
 have hfu:=hd.fu
 rcases zIl hl (zCH hd hl true) fu 0 [[]] [] (by omega) (by omega) rfl (Pt.nil 0) (by omega) with h | ⟨xs',ps',h1,h2,h3,h4⟩
 · exact .inl (e.trans (congrArg (Option.map cv17) h))
 · exact .inr ⟨xs',ps',h1,h2,h3,e.trans (congrArg (Option.map cv17) h4)⟩
theorem zIW {fu m:Nat} (hd:Deep fu m) {l:List TokT} (hl:l.length<=4000) {xs':List MT} {ps':List Nd} (h:Decls ((rs fu m).c37 (true,())) l 0 [[]] [] l.length xs' ps'):c17 fu m (l,())=some (Nd.mk 1 0 ps',0,()):=by
 have e:c17 fu m (l,())=(jy fu l ((rs fu m).c37 (true,())) 0 [[]] []).map cv17:=if_pos hl
 have hfu:=hd.fu
 obtain ⟨n',h1,h2,h3,h4,h5,h6⟩:=zMl hl (zCH hd hl true) h fu (by omega) (by omega) rfl (Pt.nil 0) (by omega)
 obtain ⟨k,rfl⟩:∃ k,n' = k+1:=⟨n' - 1,by omega⟩
 exact e.trans (congrArg (Option.map cv17) (h1.trans (zFw (Int.le_refl _))))
end
section
open Go.Al Go.Den Go.RowKit Go.Shelf
def El (g:Gh) (w0:World):Type:={ x:Nd×Value // RV g w0 (yA x.1) x.2 }
def exb (bx:Nat) (W:World) (b:Nat):Prop:=b=bx\/∃ o l c,W.cell? ⟨bx,0,none⟩=some (.slice (some ⟨b,o,none⟩) l c)
def BoxOk (n0 bx:Nat) (W:World):Prop:=n0<=bx/\(∃ arr t m,W.heap[bx]? = some (.cells arr t m))/\∀ b,exb bx W b->n0<=b/\b < W.heap.size
structure Kept (n0 bx:Nat) (A B:World):Prop where
 ok:BoxOk n0 bx B
 size:A.heap.size<=B.heap.size
 same:∀ b o v,A.cell? ⟨b,o,none⟩=some v->¬ exb bx A b->B.cell? ⟨b,o,none⟩=some v
 ex:∀ b,exb bx B b->exb bx A b\/A.heap.size<=b
 low:∀ b,b < n0->B.heap[b]? = A.heap[b]?
def jH (n0 bx:Nat) (A B:World):Prop:=BoxOk n0 bx A->Kept n0 bx A B
theorem zAl {A:World} {b o:Nat} {v:Value} (h:A.cell? ⟨b,o,none⟩=some v):b < A.heap.size:=by
 rcases Nat.lt_or_ge b A.heap.size with h1 | h1
 · exact h1
 · unfold World.cell? at h
   have:A.heap[b]? = none:=Array.getElem?_eq_none h1
   simp only [this] at h
   cases h
theorem xN {A B:World} {b:Nat} (h:B.heap[b]? = A.heap[b]?) (o:Nat):B.cell? ⟨b,o,none⟩=A.cell? ⟨b,o,none⟩:=World.cell?_of_block h
theorem Kept.refl {n0 bx:Nat} {A:World} (h:BoxOk n0 bx A):Kept n0 bx A A:=⟨h,Nat.le_refl _,fun _ _ _ h _=>h,fun _ h=>.inl h,fun _ _=>rfl⟩
theorem Kept.trans {n0 bx:Nat} {A B C:World} (h:Kept n0 bx A B) (k:Kept n0 bx B C):Kept n0 bx A C:=by
 refine ⟨k.ok,Nat.le_trans h.size k.size,fun b o v hb hx=>?_,fun b hb=>?_,fun b hb=>(k.low b hb).trans (h.low b hb)⟩
 · refine k.same b o v (h.same b o v hb hx) (fun hx2=>?_)
   rcases h.ex b hx2 with h1 | h1
   · exact hx h1
   · have:=zAl hb; omega
 · rcases k.ex b hb with h1 | h1
   · exact h.ex b h1
   · exact .inr (Nat.le_trans h.size h1)
theorem zIh {n0 bx:Nat} {A B C:World} (h:jH n0 bx A B) (k:jH n0 bx B C):jH n0 bx A C:=fun hA=>(h hA).trans (k (h hA).ok)
theorem j8 {bx:Nat} {A B:World} (h:B.heap[bx]? = A.heap[bx]?) (b:Nat):exb bx B b↔exb bx A b:=by
 unfold exb; rw [xN h]
theorem BoxOk.grown {n0 bx:Nat} {A B:World} (h:BoxOk n0 bx A) (hs:A.heap.size<=B.heap.size) (hb:B.heap[bx]? = A.heap[bx]?):BoxOk n0 bx B:=by
 obtain ⟨h1,⟨arr,t,m,h2⟩,h3⟩:=h
 exact ⟨h1,⟨arr,t,m,hb.trans h2⟩,fun b hx=>⟨(h3 b ((j8 hb b).1 hx)).1,Nat.lt_of_lt_of_le (h3 b ((j8 hb b).1 hx)).2 hs⟩⟩
theorem BoxOk.lt {n0 bx:Nat} {A:World} (h:BoxOk n0 bx A):bx < A.heap.size:=(h.2.2 bx (.inl rfl)).2
theorem Kept.grown {n0 bx:Nat} {A B:World} (h:BoxOk n0 bx A) (hg:A.grownBy B none):Kept n0 bx A B:=by
 have hb:∀ b,b < A.heap.size->B.heap[b]? = A.heap[b]?:=fun b hb=>hg.block b hb (by simp)
 refine ⟨h.grown hg.size (hb bx h.lt),hg.size,fun b o v ho _=>(xN (hb b (zAl ho)) o).trans ho,fun b hx=>.inl ((j8 (hb bx h.lt) b).1 hx),fun b hl=>hb b (Nat.lt_trans (Nat.lt_of_lt_of_le hl h.1) h.lt)⟩
theorem zIN {n0 bx:Nat} (W:World) (l:Nat) (o o':Obj) (hl:n0<=l) (h:W.heap[l]? = some o) (hc:o.isCells=false):jH n0 bx W (W.putObj l o'):=by
 intro hW
 have hne:bx≠l:=by
  rintro rfl
  obtain ⟨_,⟨arr,t,m,h2⟩,_⟩:=hW
  rw [h] at h2; injection h2 with h2; subst h2; cases hc
 have hb:(W.putObj l o').heap[bx]? = W.heap[bx]?:=World.putObj_heap_other hne
 have hsz:(W.putObj l o').heap.size=W.heap.size:=by simp [World.putObj]
 refine ⟨hW.grown (Nat.le_of_eq hsz.symm) hb,Nat.le_of_eq hsz.symm,fun b o1 v h1 _=>(xN (World.putObj_heap_other ?_) o1).trans h1,fun b hx=>.inl ((j8 hb b).1 hx),fun b hb=>World.putObj_heap_other (by omega)⟩
 rintro rfl
 unfold World.cell? at h1
 simp only [h] at h1
 cases o <;> first | (cases hc; done) | (cases h1; done) | (simp at h1; done)
def Same (g:Gh) (w0 W:World):Prop:=∀ b o,o < g.wm b->W.cell? ⟨b,o,none⟩=w0.cell? ⟨b,o,none⟩
theorem Same.later {wm:Nat->Nat} {w0 W:World} (h:Same ⟨wm,fun _=>none,Fr.no⟩ w0 W):Later ⟨wm,fun _=>none,Fr.no⟩ w0 ⟨wm,fun _=>none,Fr.no⟩ W:=⟨fun _=>Nat.le_refl _,fun _ _ h=>h,h⟩
theorem Same.back {wm:Nat->Nat} {w0 W:World} (h:Same ⟨wm,fun _=>none,Fr.no⟩ w0 W):Later ⟨wm,fun _=>none,Fr.no⟩ W ⟨wm,fun _=>none,Fr.no⟩ w0:=⟨fun _=>Nat.le_refl _,fun _ _ h=>h,fun b o ho=>(h b o ho).symm⟩
theorem Same.kept {wm:Nat->Nat} {n0 bx:Nat} {w0 W W':World} (hwm:∀ b,n0<=b->wm b=0) (h:Same ⟨wm,fun _=>none,Fr.no⟩ w0 W) (k:Kept n0 bx W W'):Same ⟨wm,fun _=>none,Fr.no⟩ w0 W':=fun b o ho=>by
 have hb:b < n0:=by
  rcases Nat.lt_or_ge b n0 with h1 | h1
  · exact h1
  · replace ho:o < wm b:=ho
    rw [hwm b h1] at ho; omega
 exact (xN (k.low b hb) o).trans (h b o ho)
mutual
/-- A tree's parts,the outer ones first. -/
def allT:Nd->List Nd
 | .mk k a ks=>.mk k a ks::allK ks
def allK:List Nd->List Nd
 | []=>[]
 | t::r=>allT t++allK r
end
theorem zAz {g:Gh} {w:World} {k a:Int} {ks:List Nd} {v:Value} (h:RV g w (yA (.mk k a ks)) v):∃ sv,v = .agg #[.int .i64 k,.int .i64 a,sv]/\RC g w (.lst (zh (qE ks)) (qE ks)) [sv]:=by
 obtain ⟨us,h1,h2⟩:=zBv (show RV g w (.agg [vi k,vi a,sl (qE ks)]) v from h)
 simp only [RCs,vi,sl] at h1
 obtain ⟨u1,u2,rfl,⟨rfl,_⟩,u3,u4,rfl,⟨rfl,_⟩,u5,u6,rfl,h3,rfl⟩:=h1
 have:=x8 g w _ _ h3
 simp only [V.size] at this
 obtain ⟨sv,rfl⟩:=List.length_eq_one_iff.1 this
 exact ⟨sv,by rw [h2]; simp,h3⟩
theorem zGw {g:Gh} {w:World}:∀ {ks:List Nd} {us:List Value} (i:Nat) (h:i < ks.length),RCs g w (qE ks) us->∃ v0 v1 v2,RV g w (yA ks[i]) (.agg #[v0,v1,v2])/\us[3 * i]? = some v0/\us[3 * i+1]? = some v1/\us[3 * i+2]? = some v2
 | .mk k a l::r,us,0,_,h=>by
  simp only [qE,yA,RCs] at h
  obtain ⟨u1,u2,rfl,h1,h2⟩:=h
  have hv:RV g w (yA (.mk k a l)) (.agg u1.toArray):=zGn (by simpa only [RC] using h1)
  obtain ⟨sv,e,_⟩:=zAz hv
  have:u1=[.int .i64 k,.int .i64 a,sv]:=by
   have:=congrArg (fun v=>match v with | Value.agg a=>a.toList | _=>[]) e
   simpa using this
  subst this
  exact ⟨_,_,_,hv,rfl,rfl,rfl⟩
 | .mk k a l::r,us,i+1,hi,h=>by
  simp only [qE,yA,RCs] at h
  obtain ⟨u1,u2,rfl,h1,h2⟩:=h
  have h3:=x8 g w _ _ h1
  have h4:u1.length=3:=by rw [h3]; rfl
  obtain ⟨v0,v1,v2,k0,k1,k2,k3⟩:=zGw i (by simpa using hi) h2
  have ap:∀ j,(u1++u2)[3 * (i+1)+j]? = u2[3 * i+j]?:=fun j=>by
   rw [List.getElem?_append_right (by omega),h4]; congr 1; omega
  exact ⟨v0,v1,v2,k0,(ap 0).trans k1,(ap 1).trans k2,(ap 2).trans k3⟩
theorem zH4 (w:World) (t:TypeId) (c:Array Value) (i:Nat) (v:Value):(w.alloc (.cells c t)).setCell ⟨w.heap.size,i,none⟩ v=w.alloc (.cells (c.setIfInBounds i v) t):=by
 unfold World.setCell World.alloc
 simp only [Option.isSome_none,Bool.false_eq_true,if_false]
 congr 1
 refine Array.ext_getElem? fun j=>?_
 rw [Array.getElem?_modify,Array.getElem?_push,Array.getElem?_push]
 by_cases h:w.heap.size=j
 · subst h; simp
 · have h2:¬ j=w.heap.size:=fun e=>h e.symm
   simp [h,h2]
theorem zAW {P:Program} (w:World) (t:TypeId) (c:Array Value) (i:Nat) (hi:i < c.size) (v:Value) (hv:v.oneCell' = true):(store ⟨w.heap.size,i,none⟩ v).run P (w.alloc (.cells c t)) = .ok () (w.alloc (.cells (c.setIfInBounds i v) t)):=by
 have h1:(w.alloc (.cells c t)).heap[w.heap.size]? = some (.cells c t (0,0)):=World.alloc_heap_new w _
 have h2:(w.alloc (.cells c t)).cell? ⟨w.heap.size,i,none⟩=some c[i]:=by unfold World.cell?; simp only [h1]; simp [hi]
 have h3:(w.alloc (.cells c t)).frozen? ⟨w.heap.size,i,none⟩=false:=by unfold World.frozen?; simp only [h1]; simp
 rw [run_store P _ _ v _ hv,h2,h3]
 simp only [Bool.false_eq_true,if_false]
 rw [zH4]
theorem store3 {P:Program} (w:World) (t:TypeId) (z0 z1 z2 v0 v1 v2:Value) (h0:v0.oneCell' = true) (h1:v1.oneCell' = true) (h2:v2.oneCell' = true) :
 (((store ⟨w.heap.size,0,none⟩ v0).run P (w.alloc (.cells #[z0,z1,z2] t))).andThen fun _ w'=>((store ⟨w.heap.size,1,none⟩ v1).run P w').andThen fun _ w'=>(store ⟨w.heap.size,2,none⟩ v2).run P w') = .ok () (w.alloc (.cells #[v0,v1,v2] t)):=by
 rw [zAW w t _ 0 (by simp) v0 h0]
 simp only [Result.andThen]
 rw [zAW w t _ 1 (by simp) v1 h1]
 simp only [Result.andThen]
 rw [zAW w t _ 2 (by simp) v2 h2]
 rfl
theorem zFB (x:Nd):∀ ks:List Nd,allK (ks++[x])=allK ks++allT x
 | []=>by simp [allK]
 | t::r=>by simp only [List.cons_append,allK,zFB x r,List.append_assoc]
theorem zHE:∀ (ks:List Nd) (j:Nat),(allK (ks.take j)).length<=(allK ks).length
 | [],j=>by simp
 | t::r,0=>by simp [allK]
 | t::r,j+1=>by have:=zHE r j; simp only [List.take_succ_cons,allK,List.length_append]; omega
theorem zIs {g:Gh} {w:World} {t:Nd} {v0 v1 v2:Value} (h:RV g w (yA t) (.agg #[v0,v1,v2])):v0.oneCell' = true/\v1.oneCell' = true/\v2.oneCell' = true:=by
 obtain ⟨k,a,ks⟩:=t
 obtain ⟨sv,e,h2⟩:=zAz h
 have h3:=zEY _ _ _ _ h2 sv (by simp)
 injection e with e
 have e0:=congrArg Array.toList e
 simp only [List.cons.injEq,and_true] at e0
 obtain ⟨rfl,rfl,rfl⟩:=e0
 exact ⟨rfl,rfl,h3⟩
theorem zPj {n j:Nat} (h:j < n):n - Int.toNat ((j+1:Nat):Int) < n - Int.toNat ((j:Nat):Int):=by
 rw [Int.toNat_natCast,Int.toNat_natCast]; omega
theorem zNX (t:Nd):0 < (allT t).length:=by cases t; simp [allT]
theorem zIb:∀ ks:List Nd,ks.length<=(allK ks).length
 | []=>by simp
 | t::r=>by have:=zIb r; have:=zNX t; simp only [allK,List.length_cons,List.length_append]; omega
theorem zOk {wm:Nat->Nat} {w:World} {ks:List Nd} {sv:Value} (h:RC ⟨wm,fun _=>none,Fr.no⟩ w (.lst (zh (qE ks)) (qE ks)) [sv]) :
 ∃ ad cap,sv = .slice ad ks.length cap/\∀ i (hi:i < ks.length),∃ b o v0 v1 v2,ad=some ⟨b,o,none⟩/\RV ⟨wm,fun _=>none,Fr.no⟩ w (yA ks[i]) (.agg #[v0,v1,v2]) /\
  (w.cell? ⟨b,o+3 * i,none⟩=some v0/\o+3 * i < wm b)/\(w.cell? ⟨b,o+(3 * i+1),none⟩=some v1/\o+(3 * i+1) < wm b)/\(w.cell? ⟨b,o+(3 * i+2),none⟩=some v2/\o+(3 * i+2) < wm b):=by
 have hl:(qE ks).length=ks.length:=by rw [zC6]; simp
 simp only [RC] at h
 rcases h with ⟨he,hu,_⟩ | ⟨b,o,cap,ds,hu,hc,_,hr,_,ha⟩
 · have h0:ks=[]:=by cases ks with | nil=>rfl | cons x r=>cases he
   subst h0
   injection hu with hu
   exact ⟨none,0,hu,fun i hi=>absurd hi (by simp)⟩
 · injection hu with hu
   refine ⟨_,cap,by rw [hu,hl],fun i hi=>?_⟩
   obtain ⟨v0,v1,v2,k0,k1,k2,k3⟩:=zGw i hi hr
   exact ⟨b,o,v0,v1,v2,rfl,k0,ha _ _ k1,ha _ _ k2,ha _ _ k3⟩
def zI0 (F:Fence) (l n0 bx N by' bw:Nat) (wm:Nat->Nat) (w0:World) (J Jx:List (El ⟨wm,fun _=>none,Fr.no⟩ w0)->World->Prop) (t:Nd):Prop:=
 ∀ (m:Nat) (v:Value) (pre:List (El ⟨wm,fun _=>none,Fr.no⟩ w0)) (W:World),Same ⟨wm,fun _=>none,Fr.no⟩ w0 W->RV ⟨wm,fun _=>none,Fr.no⟩ w0 (yA t) v->J pre W->BoxOk n0 bx W ->
  W.cell? ⟨by',0,none⟩=some (.func (.yield l) #[] #[])->¬ exb bx W by'->W.cell? ⟨bw,0,none⟩=some (.func (.func 71) #[] #[.pointer (some ⟨by',0,none⟩),.pointer (some ⟨bw,0,none⟩)])->¬ exb bx W bw ->
  pre.length+(allT t).length<=N ->
  CallsIn F m Tryz.prog 71 #[v,.pointer (some ⟨by',0,none⟩),.pointer (some ⟨bw,0,none⟩)] W fun e W'=>
   (e = .returned (.bool true)/\∃ q:List (El ⟨wm,fun _=>none,Fr.no⟩ w0),q.map (·.1.1)=allT t/\J (pre++q) W'/\Kept n0 bx W W')\/(e = .returned (.bool false)/\∃ q,Jx (pre++q) W')
set_option maxRecDepth 100000 in
set_option maxHeartbeats 1000000 in
theorem walk36 (F:Fence) (hd:F.depth=none) (hF:∀ f,F.fn f) (hro:F.round=none) (l n0 bx N by' bw:Nat) (wm:Nat->Nat) (w0:World) (hwm:∀ b,n0<=b->wm b=0) (hNb:N<=1000000) (J Jx:List (El ⟨wm,fun _=>none,Fr.no⟩ w0)->World->Prop)
 (hJ:∀ pre W W',J pre W->W.grownBy W' none->J pre W')
 (hY:∀ m pre (x:El ⟨wm,fun _=>none,Fr.no⟩ w0) W,J pre W->pre.length < N->YieldAt F m Tryz.prog l #[x.1.2] W fun e W'=>(e = .returned (.bool true)/\J (pre++[x]) W'/\jH n0 bx W W')\/(e = .returned (.bool false)/\Jx (pre++[x]) W'))
 (k a:Int) (ks:List Nd)
 (ih:∀ t ∈ ks,zI0 F l n0 bx N by' bw wm w0 J Jx t):zI0 F l n0 bx N by' bw wm w0 J Jx (.mk k a ks):=by
 intro m v pre W hS hv hJ0 hB hby hxy hbw hxw hN
 have hdd:∀ k:Nat,(F.depth.isSome=true->1<=k):=fun k h=>by rw [hd] at h; cases h
 obtain ⟨sv,rfl,hsv⟩:=zAz hv
 obtain ⟨ad,cap,rfl,hkid⟩:=zOk hsv
 have c1:(W.alloc (.cells #[.int .i64 k,.int .i64 a,(.slice ad ks.length cap)] 29)).cell? ⟨by',0,none⟩=some (.func (.yield l) #[] #[]):=by
  rw [xN (Below.heap_alloc _ _ _ (zAl hby))]; exact hby
 refine callsIn_of_wp Tryz.func71 rfl (hF _) ?_ hro
 simp only [Tryz.ntmps71,List.size_toArray,List.length_cons,List.length_nil,Nat.reduceAdd,Nat.reduceSub,Array.replicate_succ,Array.replicate_zero,List.push_toArray,List.append_toArray,List.nil_append,List.cons_append]
 obtain ⟨W1,hW1⟩:∃ W1,W.alloc (.cells #[.int .i64 k,.int .i64 a,(.slice ad ks.length cap)] 29)=W1:=⟨_,rfl⟩
 have hK1:Kept n0 bx W W1:=by rw [<- hW1]; exact Kept.grown hB (World.grownBy_alloc W _ none)
 have hn1:W1.heap[W.heap.size]? = some (.cells #[.int .i64 k,.int .i64 a,(.slice ad ks.length cap)] 29 (0,0)):=by rw [<- hW1]; exact World.alloc_heap_new W _
 have e1:W1.heap[bx]? = W.heap[bx]?:=by rw [<- hW1]; exact Below.heap_alloc _ _ _ hB.lt
 have hnx:¬ exb bx W1 W.heap.size:=fun h=>by
  have:=(hB.2.2 _ ((j8 e1 _).1 h)).2
  omega
 have d0:W1.cell? ⟨W.heap.size,0,none⟩=some (.int .i64 k):=by simp [World.cell?,hn1]
 have d1:W1.cell? ⟨W.heap.size,1,none⟩=some (.int .i64 a):=by simp [World.cell?,hn1]
 have d2:W1.cell? ⟨W.heap.size,2,none⟩=some (.slice ad ks.length cap):=by simp [World.cell?,hn1]
 have hJ1:J pre W1:=hJ pre W W1 hJ0 (by rw [<- hW1]; exact World.grownBy_alloc W _ none)
 have hY1:YieldAt F (m - 1) Tryz.prog l #[.agg #[.int .i64 k,.int .i64 a,(.slice ad ks.length cap)]] W1 fun e W2=>
  (e = .returned (.bool true)/\J (pre++[⟨(.mk k a ks,.agg #[.int .i64 k,.int .i64 a,(.slice ad ks.length cap)]),hv⟩]) W2/\Kept n0 bx W1 W2/\W2.cell? ⟨W.heap.size,2,none⟩=some (.slice ad ks.length cap))\/(e = .returned (.bool false)/\∃ q,Jx (pre++q) W2):=by
  refine YieldAt.mono (hY (m - 1) pre ⟨(.mk k a ks,.agg #[.int .i64 k,.int .i64 a,(.slice ad ks.length cap)]),hv⟩ W1 hJ1 (by simp only [allT,List.length_cons] at hN; omega)) fun e W2 h=>h.elim (fun ⟨he,hj,hk⟩=>.inl ⟨he,hj,hk hK1.ok,?_⟩) (fun ⟨he,hx⟩=>.inr ⟨he,_,hx⟩)
  exact (hk hK1.ok).same _ _ _ d2 hnx
 obtain ⟨fn,tmps,assign,body,hy,hR⟩:=hY1
 rw [hW1] at c1
 gi_wp2_with (first
  | ((try refine ⟨hdd _,?_⟩); refine hR.mono ?_; clear hR; rintro e W2 (⟨rfl,hJ2,hK2,hc2⟩ | ⟨rfl,hx2⟩))
  | (rw [hW1]))
 · gi_loopw [14] (fun u14 wr=>∃ (j:Nat) (q:List (El ⟨wm,fun _=>none,Fr.no⟩ w0)),u14 = .int .i64 j/\j<=ks.length/\q.map (·.1.1) = .mk k a ks::allK (ks.take j)/\J (pre++q) wr/\Kept n0 bx W1 wr)
    (fun u14 _=>match u14 with | .int _ z=>ks.length - z.toNat | _=>0)
   case atStart=>exact ⟨0,[⟨(.mk k a ks,_),hv⟩],rfl,Nat.zero_le _,rfl,hJ2,hK2⟩
   case round=>
    obtain ⟨j,q,rfl,hj,hq,hJq,hKq⟩:=hrel
    by_cases hlt:j < ks.length
    · obtain ⟨b,o,v0,v1,v2,rfl,hvj,⟨a0,b0⟩,⟨a1,b1⟩,⟨a2,b2⟩⟩:=hkid j hlt
      have hSr:=(hS.kept hwm hK1).kept hwm hKq
      have f0:wr.cell? ⟨b,o+j * 3,none⟩=some v0:=by rw [Nat.mul_comm j 3]; exact (hSr _ _ b0).trans a0
      have f1:wr.cell? ⟨b,o+j * 3+1,none⟩=some v1:=by rw [Nat.mul_comm j 3]; exact (hSr _ _ b1).trans a1
      have f2:wr.cell? ⟨b,o+j * 3+2,none⟩=some v2:=by rw [Nat.mul_comm j 3]; exact (hSr _ _ b2).trans a2
      have h1c:=zIs hvj
      have hst:=store3 (P:=Tryz.prog) wr 29 (.int .i64 0) (.int .i64 0) (.slice none 0 0) v0 v1 v2 h1c.1 h1c.2.1 h1c.2.2
      obtain ⟨W3,hW3⟩:∃ W3,wr.alloc (.cells #[v0,v1,v2] 29)=W3:=⟨_,rfl⟩
      rw [hW3] at hst
      have hK3:Kept n0 bx wr W3:=by rw [<- hW3]; exact Kept.grown hKq.ok (World.grownBy_alloc wr _ none)
      have hK03:Kept n0 bx W W3:=(hK1.trans hKq).trans hK3
      have hn3:W3.heap[wr.heap.size]? = some (.cells #[v0,v1,v2] 29 (0,0)):=by rw [<- hW3]; exact World.alloc_heap_new wr _
      have g0:W3.cell? ⟨wr.heap.size,0,none⟩=some v0:=by simp [World.cell?,hn3]
      have g1:W3.cell? ⟨wr.heap.size,1,none⟩=some v1:=by simp [World.cell?,hn3]
      have g2:W3.cell? ⟨wr.heap.size,2,none⟩=some v2:=by simp [World.cell?,hn3]
      have hby3:=hK03.same _ _ _ hby hxy
      have g3:=hK03.same _ _ _ hbw hxw
      have hxy3:¬ exb bx W3 by':=fun h=>(hK03.ex _ h).elim hxy (fun h=>by have:=zAl hby; omega)
      have hxw3:¬ exb bx W3 bw:=fun h=>(hK03.ex _ h).elim hxw (fun h=>by have:=zAl hbw; omega)
      have hJ3:J (pre++q) W3:=hJ _ wr W3 hJq (by rw [<- hW3]; exact World.grownBy_alloc wr _ none)
      have hql:q.length=1+(allK (ks.take j)).length:=by
       have:=congrArg List.length hq
       simp only [List.length_map,List.length_cons] at this
       omega
      have htk:ks.take (j+1)=ks.take j++[ks[j]]:=List.take_succ_eq_append_getElem hlt
      have hal:=zHE ks (j+1)
      rw [htk,zFB,List.length_append] at hal
      have ihj:=ih ks[j] (List.getElem_mem hlt) (m - 1) (.agg #[v0,v1,v2]) (pre++q) W3 (hS.kept hwm hK03) hvj hJ3 hK3.ok hby3 hxy3 g3 hxw3 (by
       simp only [allT,List.length_cons] at hN
       rw [List.length_append]; omega)
      gi_wp2_with (first
       | (rw [hst])
       | ((try refine ⟨hdd _,?_⟩); gi_at_call 71; refine ihj.mono ?_; clear ihj; rintro e W4 (⟨rfl,q4,hq4,hJ4,hK4⟩ | ⟨rfl,q4,hx4⟩)))
      · have hkl:=zIb ks
        simp only [allT,List.length_cons] at hN
        have hw:wrap64 ((j:Int)+1)=((j+1:Nat):Int):=by rw [IntWalk.wrap64_in _ ⟨by omega,by omega⟩]; omega
        rw [hw]
        refine ⟨⟨j+1,q++q4,rfl,hlt,?_,by rw [<- List.append_assoc]; exact hJ4,(hKq.trans hK3).trans hK4⟩,?_⟩
        · rw [List.map_append,hq,hq4,htk,zFB]; rfl
        · show ks.length - Int.toNat ((j+1:Nat):Int) < ks.length - Int.toNat ((j:Nat):Int)
          exact zPj hlt
      · go_ret
        exact .inr ⟨rfl,q++q4,by rw [<- List.append_assoc]; exact hx4⟩
    · gi_wp2
      go_ret
      have e2:ks.take j=ks:=List.take_of_length_le (by omega)
      rw [e2] at hq
      exact .inl ⟨rfl,q,by rw [hq]; simp only [allT],hJq,hK1.trans hKq⟩
 · go_ret
   exact .inr ⟨rfl,hx2⟩
theorem zJN (F:Fence) (hd:F.depth=none) (hF:∀ f,F.fn f) (hro:F.round=none) (l n0 bx N by' bw:Nat) (wm:Nat->Nat) (w0:World) (hwm:∀ b,n0<=b->wm b=0) (hNb:N<=1000000) (J Jx:List (El ⟨wm,fun _=>none,Fr.no⟩ w0)->World->Prop)
 (hJ:∀ pre W W',J pre W->W.grownBy W' none->J pre W')
 (hY:∀ m pre (x:El ⟨wm,fun _=>none,Fr.no⟩ w0) W,J pre W->pre.length < N->YieldAt F m Tryz.prog l #[x.1.2] W fun e W'=>(e = .returned (.bool true)/\J (pre++[x]) W'/\jH n0 bx W W')\/(e = .returned (.bool false)/\Jx (pre++[x]) W')) :
 ∀ t:Nd,zI0 F l n0 bx N by' bw wm w0 J Jx t
 | .mk k a ks=>walk36 F hd hF hro l n0 bx N by' bw wm w0 hwm hNb J Jx hJ hY k a ks fun t ht=>
  have:SizeOf.sizeOf t < 1+SizeOf.sizeOf k+SizeOf.sizeOf a+SizeOf.sizeOf ks:=by have:=List.sizeOf_lt_of_mem ht; omega
  zJN F hd hF hro l n0 bx N by' bw wm w0 hwm hNb J Jx hJ hY t
set_option maxRecDepth 100000 in
set_option maxHeartbeats 1000000 in
theorem zPc (F:Fence) (hd:F.depth=none) (hF:∀ f,F.fn f) (hro:F.round=none) (l n0 bx N Bt:Nat) (wm:Nat->Nat) (w0:World) (hwm:∀ b,n0<=b->wm b=0) (hNb:N<=1000000) (J Jx:List (El ⟨wm,fun _=>none,Fr.no⟩ w0)->World->Prop)
 (hJ:∀ pre W W',J pre W->W.grownBy W' none->J pre W')
 (hY:∀ m pre (x:El ⟨wm,fun _=>none,Fr.no⟩ w0) W,J pre W->pre.length < N->YieldAt F m Tryz.prog l #[x.1.2] W fun e W'=>(e = .returned (.bool true)/\J (pre++[x]) W'/\jH n0 bx W W')\/(e = .returned (.bool false)/\Jx (pre++[x]) W'))
 (t:Nd) (m:Nat) (v0 v1 v2:Value) (W:World) (hS:Same ⟨wm,fun _=>none,Fr.no⟩ w0 W) (hv:RV ⟨wm,fun _=>none,Fr.no⟩ w0 (yA t) (.agg #[v0,v1,v2])) (hJ0:J [] W) (hB:BoxOk n0 bx W)
 (hbt:W.heap[Bt]? = some (.cells #[v0,v1,v2] 29 (0,0))) (hN:(allT t).length<=N) :
 CallsIn F m Tryz.prog 70 #[.func (.yield l) #[] #[],.pointer (some ⟨Bt,0,none⟩)] W fun e W'=>(∃ v,e = .returned v)/\((∃ q:List (El ⟨wm,fun _=>none,Fr.no⟩ w0),q.map (·.1.1)=allT t/\J q W')\/(∃ q,True/\Jx q W')):=by
 have hdd:∀ k:Nat,(F.depth.isSome=true->1<=k):=fun k h=>by rw [hd] at h; cases h
 refine callsIn_of_wp Tryz.func70 rfl (hF _) ?_ hro
 simp only [Tryz.ntmps70,List.size_toArray,List.length_cons,List.length_nil,Nat.reduceAdd,Nat.reduceSub,Array.replicate_succ,Array.replicate_zero,List.push_toArray,List.append_toArray,List.nil_append,List.cons_append]
 obtain ⟨Wy,hWy⟩:∃ Wy,W.alloc (.cells #[.func (.yield l) #[] #[]] 117)=Wy:=⟨_,rfl⟩
 have hsy:Wy.heap.size=W.heap.size+1:=by rw [<- hWy]; simp
 obtain ⟨W3,hW3⟩:∃ W3,Wy.alloc (.cells #[.func (.func 71) #[] #[.pointer (some ⟨W.heap.size,0,none⟩),.pointer (some ⟨W.heap.size+1,0,none⟩)]] 117)=W3:=⟨_,rfl⟩
 have hst:(store ⟨W.heap.size+1,0,none⟩ (.func (.func 71) #[] #[.pointer (some ⟨W.heap.size,0,none⟩),.pointer (some ⟨W.heap.size+1,0,none⟩)])).run Tryz.prog (Wy.alloc (.cells #[.nilFunc] 117)) = .ok () W3:=by
  have:=zAW (P:=Tryz.prog) Wy 117 #[.nilFunc] 0 (by simp) (.func (.func 71) #[] #[.pointer (some ⟨W.heap.size,0,none⟩),.pointer (some ⟨W.heap.size+1,0,none⟩)]) rfl
  rw [hsy] at this
  rw [this,<- hW3]
  rfl
 have hKy:Kept n0 bx W Wy:=by rw [<- hWy]; exact Kept.grown hB (World.grownBy_alloc W _ none)
 have hK3:Kept n0 bx W W3:=hKy.trans (by rw [<- hW3]; exact Kept.grown hKy.ok (World.grownBy_alloc Wy _ none))
 have hn1:W3.heap[W.heap.size]? = some (.cells #[.func (.yield l) #[] #[]] 117 (0,0)):=by
  rw [<- hW3,Below.heap_alloc _ _ _ (by omega),<- hWy]; exact World.alloc_heap_new W _
 have hn2:W3.heap[W.heap.size+1]? = some (.cells #[.func (.func 71) #[] #[.pointer (some ⟨W.heap.size,0,none⟩),.pointer (some ⟨W.heap.size+1,0,none⟩)]] 117 (0,0)):=by
  have:=World.alloc_heap_new Wy (.cells #[.func (.func 71) #[] #[.pointer (some ⟨W.heap.size,0,none⟩),.pointer (some ⟨W.heap.size+1,0,none⟩)]] 117 (0,0))
  rw [hW3,hsy] at this
  exact this
 have hlb:Bt < W.heap.size:=(Array.getElem?_eq_some_iff.1 hbt).1
 have hn3:W3.heap[Bt]? = some (.cells #[v0,v1,v2] 29 (0,0)):=by
  rw [<- hW3,Below.heap_alloc _ _ _ (by omega),<- hWy,Below.heap_alloc _ _ _ hlb]; exact hbt
 have g4:W3.cell? ⟨W.heap.size,0,none⟩=some (.func (.yield l) #[] #[]):=by simp [World.cell?,hn1]
 have g0:W3.cell? ⟨Bt,0,none⟩=some v0:=by simp [World.cell?,hn3]
 have g1:W3.cell? ⟨Bt,1,none⟩=some v1:=by simp [World.cell?,hn3]
 have g2:W3.cell? ⟨Bt,2,none⟩=some v2:=by simp [World.cell?,hn3]
 have g3:W3.cell? ⟨W.heap.size+1,0,none⟩=some (.func (.func 71) #[] #[.pointer (some ⟨W.heap.size,0,none⟩),.pointer (some ⟨W.heap.size+1,0,none⟩)]):=by simp [World.cell?,hn2]
 have hxn:∀ b,W.heap.size<=b->¬ exb bx W3 b:=fun b hb hx=>by
  have hbx:W3.heap[bx]? = W.heap[bx]?:=by
   rw [<- hW3,Below.heap_alloc _ _ _ (by have:=hB.lt; omega),<- hWy,Below.heap_alloc _ _ _ hB.lt]
  have:=(hB.2.2 _ ((j8 hbx b).1 hx)).2
  omega
 have hJ3:J [] W3:=hJ _ Wy W3 (hJ _ W Wy hJ0 (by rw [<- hWy]; exact World.grownBy_alloc W _ none)) (by rw [<- hW3]; exact World.grownBy_alloc Wy _ none)
 have hwk:=zJN F hd hF hro l n0 bx N W.heap.size (W.heap.size+1) wm w0 hwm hNb J Jx hJ hY t (m - 1) (.agg #[v0,v1,v2]) [] W3 (hS.kept hwm hK3) hv hJ3 hK3.ok g4 (hxn _ (Nat.le_refl _)) g3 (hxn _ (by omega)) (by simpa using hN)
 gi_wp2_with (first
  | (rw [hst])
  | ((try refine ⟨hdd _,?_⟩); gi_at_call 71; refine hwk.mono ?_; clear hwk; rintro e W4 (⟨rfl,q4,hq4,hJ4,hK4⟩ | ⟨rfl,q4,hx4⟩)))
 · go_end0
   exact ⟨⟨_,rfl⟩,.inl ⟨q4,hq4,by simpa using hJ4⟩⟩
 · go_end0
   exact ⟨⟨_,rfl⟩,.inr ⟨q4,trivial,by simpa using hx4⟩⟩
theorem zL9 (F:Fence) (hd:F.depth=none) (hF:∀ f,F.fn f) (hro:F.round=none) (m n0 bx Bt:Nat) (wm:Nat->Nat) (w0 w:World) (hwm:∀ b,n0<=b->wm b=0) (t:Nd) (hNb:(allT t).length<=1000000)
 (v0 v1 v2:Value) (hS:Same ⟨wm,fun _=>none,Fr.no⟩ w0 w) (hv:RV ⟨wm,fun _=>none,Fr.no⟩ w0 (yA t) (.agg #[v0,v1,v2])) (hB:BoxOk n0 bx w) (hn0:n0<=w.heap.size) (hbt:w.heap[Bt]? = some (.cells #[v0,v1,v2] 29 (0,0))) :
 SeqStopsK F m Tryz.prog 70 #[.pointer (some ⟨Bt,0,none⟩)] (fun x:El ⟨wm,fun _=>none,Fr.no⟩ w0=>#[x.1.2]) (jH n0 bx) (fun q=>q.map (·.1.1)=allT t) (fun _=>True) (allT t).length w:=fun l J Jx W hW hJa _ hY h0=>by
 have hS2:Same ⟨wm,fun _=>none,Fr.no⟩ w0 W:=fun b o ho=>by
  have hb:b < n0:=by
   rcases Nat.lt_or_ge b n0 with h1 | h1
   · exact h1
   · replace ho:o < wm b:=ho
     rw [hwm b h1] at ho; omega
  exact (xN (hW.block b (by omega)) o).trans (hS b o ho)
 exact zPc F hd hF hro l n0 bx (allT t).length Bt wm w0 hwm hNb J Jx (fun pre A B hj hg=>hJa pre A B none hj hg (fun r e=>by cases e)) (fun m' pre x W' hj hl=>by
  obtain ⟨fn,tmps,assign,body,hy,hR⟩:=hY pre x W' hj hl
  exact ⟨fn,tmps,assign,body,hy,hR.1,fun c cs _=>hR.2 c cs (fun d h=>by rw [hd] at h; cases h)⟩)
  t m v0 v1 v2 W hS2 hv h0 (hB.grown hW.size (hW.block _ hB.lt)) ((hW.block _ (Array.getElem?_eq_some_iff.1 hbt).1).trans hbt) (Nat.le_refl _)
end
section
open Go.Al Go.Den Go.RowKit Go.Shelf
attribute [local go_sem] Oper.semAt_some
theorem zDe {F:Fence} {n:Nat} {P:Program} (w:World) {ops:Array Oper} {rest:List Oper} {o:Oper} {a:Act} {Q:Exit->Act->World->Prop}
 (hg:o.guard=none) (s x:Operand) (t:TypeId) (hop:o.op=Op.call { callee:=Callee.builtin Builtin.append,args:=#[s,x],argTypes:=#[t,t] })
 (base:Nat) (e:TypeId) (i:TypeInfo) (z:Value) (size bytes:Nat) (h1:P.underlying t=some (.slice e)) (h2:P.info? e=some i) (h3:i.zero=some z) (h4:i.size=size) (h5:i.bytes=bytes) (h6:z.cells.size=size) (h7:0 < size)
 (v:Value) (k:Nat) (xs:List Value) (hs:a.eval s=v) (hown:w.ownsRow base e size v k xs) (ad:Addr) (m c:Nat) (news:List Value) (hx:a.eval x = .slice (some ad) m c) (hn:news.length=m * size)
 (hc:∀ j u,news[j]? = some u->w.cell? (ad.add j)=some u) (h1c:∀ u ∈ news,u.oneCell' = true) (b1:k+m<=maxLen) (b2:(k+m) * bytes<=140737488355328) (b3:base<=w.heap.size)
 (hK:∀ v' w',w'.ownsRow base e size v' (k+m) (xs++news)->w.grownBy w' v.ownBlock->(v' = .slice none 0 0↔v = .slice none 0 0/\m=0)->(v'.ownBlock=v.ownBlock\/v'.ownBlock=some w.heap.size)->wpListIn F n P ops Q rest (a.put o.dst v') w') :
 wpListIn F n P ops Q (o::rest) a w:=by
 refine wpListIn_plain hg fun K hK'=>?_
 obtain ⟨v',w',hrun,r1,r2,r3,r4⟩:=run_append_own_at (P:=P) w base t o.type e i z size bytes h1 h2 h3 h4 h5 h6 h7 v k xs hown ad m c news hn hc h1c b1 b2 b3
 unfold Oper.wpIn
 refine ⟨?_,?_⟩
 · simp [Oper.about,hop,resolve,Target.leads,Sem.run_pure]
 · rw [Oper.semAt_plain F _ _ (by rw [hop]; intro c hc'; cases hc')]
   simp [execOp,hop,resolve,invoke,builtin,hs,hx,hrun,Result.andThen]
   exact hK' _ _ (hK v' w' r1 r2 r3 r4)
theorem zH6 {W:World} {base:Nat} {e:TypeId} {size:Nat} {v:Value} {k:Nat} {xs:List Value} (h:W.ownsRow base e size v k xs) {j:Nat} {o:Obj} (hj:W.heap[j]? = some o) (hno:∀ cur,o≠.cells cur e (0,0)) :
 v.ownBlock=none\/v.ownBlock≠some j:=by
 rcases h.2 with ⟨rfl,_⟩ | ⟨g,cap,cur,rfl,_,hgb,_⟩
 · exact .inl rfl
 · refine .inr fun e'=>?_
   have:g=j:=by simpa [Value.ownBlock] using e'
   subst this; rw [hgb] at hj; cases hj; exact hno cur rfl
def Grow (n0 bx:Nat) (t e:TypeId) (size:Nat) (w:World) (xs:List Value) (n:Nat) (W:World):Prop:=
 ∃ v,W.heap[bx]? = some (.cells #[v] t (0,0))/\W.ownsRow n0 e size v n xs/\(n=0->v = .slice none 0 0)/\Below n0 w W
theorem Grow.exb {n0 bx:Nat} {t e:TypeId} {size:Nat} {w:World} {xs:List Value} {n:Nat} {W:World} {v:Value} (hv:W.heap[bx]? = some (.cells #[v] t (0,0))) (hr:W.ownsRow n0 e size v n xs) (b:Nat) :
 exb bx W b↔b=bx\/v.ownBlock=some b:=by
 have hc:W.cell? ⟨bx,0,none⟩=some v:=by simp [World.cell?,hv]
 unfold Go.Proofs.YtnamdpbcpnnhaaaGreatDoor.exb
 rw [hc]
 refine or_congr Iff.rfl ⟨fun ⟨o,l,c,h⟩=>?_,fun h=>?_⟩
 · injection h with h; subst h; rfl
 · rcases hr.2 with ⟨rfl,_⟩ | ⟨g,cap,cur,rfl,_,hgb,_⟩
   · cases h
   · have:g=b:=by simpa [Value.ownBlock] using h
     subst this; exact ⟨_,_,_,rfl⟩
theorem Grow.box {n0 bx:Nat} {t e:TypeId} {size:Nat} {w:World} {xs:List Value} {n:Nat} {W:World} (h0:n0<=bx) (h:Grow n0 bx t e size w xs n W):BoxOk n0 bx W:=by
 obtain ⟨v,hv,hr,_,hb⟩:=h
 refine ⟨h0,⟨_,_,_,hv⟩,fun b hx=>?_⟩
 rcases (Grow.exb (w:=w) hv hr b).1 hx with rfl | h
 · exact ⟨h0,(Array.getElem?_eq_some_iff.1 hv).1⟩
 · rcases hr.2 with ⟨rfl,_⟩ | ⟨g,cap,cur,rfl,hg,hgb,_⟩
   · cases h
   · have:g=b:=by simpa [Value.ownBlock] using h
     subst this; exact ⟨hg,(Array.getElem?_eq_some_iff.1 hgb).1⟩
theorem Grow.own {n0 bx:Nat} {t e:TypeId} {size:Nat} {w:World} {xs:List Value} {n:Nat} {A B:World} {row:Option Nat} (h0:n0<=w.heap.size) (h:Grow n0 bx t e size w xs n A) (hg:A.grownBy B row) (hr:∀ r,row=some r->n0<=r/\∃ o:Obj,A.heap[r]? = some o/\o.isCells=false):Grow n0 bx t e size w xs n B:=by
 obtain ⟨v,hv,hr',hz,hb⟩:=h
 have hne:∀ {b:Nat} {o:Obj},A.heap[b]? = some o->o.isCells=true->some b≠row:=fun hb hc e=>by
  obtain ⟨_,o',ho,hc'⟩:=hr _ e.symm
  rw [hb] at ho; injection ho with ho; subst ho; rw [hc] at hc'; cases hc'
 refine ⟨v,(hg.block bx (Array.getElem?_eq_some_iff.1 hv).1 (hne hv rfl)).trans hv,hr'.kept hg ?_,hz,hb.grown hg (Nat.le_trans h0 hb.size) (fun k e=>(hr k e).1)⟩
 rcases hr'.2 with ⟨rfl,_⟩ | ⟨g,cap,cur,rfl,_,hgb,_⟩
 · exact .inl rfl
 · exact .inr (hne hgb rfl)
theorem Grow.kept {n0 bx:Nat} {t e:TypeId} {size:Nat} {w:World} {xs xs':List Value} {n n':Nat} {A B:World} (h0:n0<=bx) {v v':Value} (hv:A.heap[bx]? = some (.cells #[v] t (0,0))) (hr:A.ownsRow n0 e size v n xs)
 (hv':B.heap[bx]? = some (.cells #[v'] t (0,0))) (hr':B.ownsRow n0 e size v' n' xs') (hz:n' = 0->v' = .slice none 0 0) (hB:Below n0 w B) (hs:A.heap.size<=B.heap.size)
 (hne:v'.ownBlock=v.ownBlock\/∃ b,v'.ownBlock=some b/\A.heap.size<=b) (h:∀ b,b < A.heap.size->b≠bx->v.ownBlock≠some b->B.heap[b]? = A.heap[b]?):Kept n0 bx A B:=by
 have hlow:∀ b,b < n0->v.ownBlock≠some b:=fun b hb e1=>by
  rcases hr.2 with ⟨rfl,_⟩ | ⟨g,cap,cur,rfl,hg,hgb,_⟩
  · cases e1
  · have:g=b:=by simpa [Value.ownBlock] using e1
    omega
 have hbx:=(Array.getElem?_eq_some_iff.1 hv).1
 refine ⟨Grow.box h0 ⟨v',hv',hr',hz,hB⟩,hs,fun b o u hb hx=>?_,fun b hx=>?_,fun b hb=>h b (by omega) (by omega) (hlow b hb)⟩
 · have h1:b≠bx:=fun e1=>hx ((Grow.exb (w:=w) hv hr b).2 (.inl e1))
   have h2:v.ownBlock≠some b:=fun e1=>hx ((Grow.exb (w:=w) hv hr b).2 (.inr e1))
   exact (xN (h b (zAl hb) h1 h2) o).trans hb
 · rcases (Grow.exb (w:=w) hv' hr' b).1 hx with rfl | h1
   · exact .inl (.inl rfl)
   · rcases hne with e1 | ⟨b',e1,e2⟩
     · exact .inl ((Grow.exb (w:=w) hv hr b).2 (.inr (e1 ▸ h1)))
     · rw [e1] at h1; injection h1 with h1; subst h1; exact .inr e2
theorem Grow.round {n0 bx K0:Nat} {t e:TypeId} {size:Nat} {w:World} {xs xs':List Value} {n n':Nat} {A B:World} (h0:n0<=bx) {v v':Value} (hv:A.heap[bx]? = some (.cells #[v] t (0,0))) (hr:A.ownsRow n0 e size v n xs)
 (hv':B.heap[bx]? = some (.cells #[v'] t (0,0))) (hr':B.ownsRow n0 e size v' n' xs') (hz:n' = 0->v' = .slice none 0 0) (hB:Below n0 w B) (hs:A.heap.size<=B.heap.size)
 (hne:v'.ownBlock=v.ownBlock\/∃ b,v'.ownBlock=some b/\A.heap.size<=b) (h:∀ b,b < A.heap.size->b≠bx->v.ownBlock≠some b->B.heap[b]? = A.heap[b]?) :
 KeepsFrom K0 A B/\jH n0 bx A B/\Grow n0 bx t e size w xs' n' B:=by
 refine ⟨⟨hs,fun k o _ hk hc=>(h k (Array.getElem?_eq_some_iff.1 hk).1 (fun e1=>?_) (fun e1=>?_)).trans hk⟩,fun _=>Grow.kept h0 hv hr hv' hr' hz hB hs hne h,v',hv',hr',hz,hB⟩
 · subst e1; rw [hv] at hk; injection hk with hk; subst hk; cases hc
 · rcases hr.2 with ⟨rfl,_⟩ | ⟨g,cap,cur,rfl,_,hgb,_⟩
   · cases e1
   · have:g=k:=by simpa [Value.ownBlock] using e1
     subst this; rw [hgb] at hk; injection hk with hk; subst hk; cases hc
theorem zHv {W:World} {B:Nat} {v:Value} {t:TypeId} (v':Value) (h:W.heap[B]? = some (.cells #[v] t (0,0))):(W.setCell ⟨B,0,none⟩ v').heap[B]? = some (.cells #[v'] t (0,0)):=by
 obtain ⟨hlt,hk⟩:=Array.getElem?_eq_some_iff.1 h
 show (W.heap.modify B _)[B]? = _
 rw [Array.getElem?_eq_getElem (by rw [Array.size_modify]; exact hlt),Array.getElem_modify_self,hk]
 rfl
theorem zQP {W:World} {base:Nat} {e:TypeId} {size:Nat} {v:Value} {k:Nat} {xs:List Value} (h:W.ownsRow base e size v k xs) {b:Nat} (hb:v.ownBlock=some b):base<=b:=by
 rcases h.2 with ⟨rfl,_⟩ | ⟨g,cap,cur,rfl,hg,_⟩
 · cases hb
 · have:g=b:=by simpa [Value.ownBlock] using hb
   omega
set_option maxRecDepth 100000 in
set_option maxHeartbeats 1000000 in
theorem all_in (F:Fence) (hF:∀ f,F.fn f) (hro:F.round=none) (m:Nat) (v0 v1 v2:Value) (w:World) :
 CallsIn F m Tryz.prog 51 #[.agg #[v0,v1,v2]] w fun e w'=>e = .returned (.func (.func 70) #[] #[.pointer (some ⟨w.heap.size,0,none⟩)])/\w' = w.alloc (.cells #[v0,v1,v2] 29):=by
 refine callsIn_of_wp Tryz.func51 rfl (hF _) ?_ hro
 simp only [Tryz.ntmps51,List.size_toArray,List.length_cons,List.length_nil,Nat.reduceAdd,Nat.reduceSub,Array.replicate_succ,Array.replicate_zero,List.push_toArray,List.append_toArray,List.nil_append,List.cons_append]
 gi_wp2
 go_ret
 exact ⟨rfl,rfl⟩
end
end Go.Proofs.YtnamdpbcpnnhaaaGreatDoor
section
namespace Go.Proofs
open Go.Shelf
def Tryz.lays137_ren:Go.Shelf.Ren:=⟨fun | 137=>90 | 217=>120 | 266=>133 | n=>n,fun | 9=>9 | 5=>5 | 3=>3 | n=>n,fun | n=>n⟩
theorem Tryz.lays137:Go.Proofs.Lays.n137 Tryz.prog Tryz.lays137_ren:={
 mixed:=by kernel_rfl
 f137:=Tryz.func90.trans (congrArg some (by kernel_rfl))
 f217:=Tryz.func120.trans (congrArg some (by kernel_rfl))
 f266:=Tryz.func133.trans (congrArg some (by kernel_rfl))
 t3:=Tryz.underlying3
 a3:=Tryz.isAgg3
 z3:=Tryz.sizeOf3
 v3:=Tryz.zeroValue3
 t5:=Tryz.underlying5
 a5:=Tryz.isAgg5
 z5:=Tryz.sizeOf5
 v5:=Tryz.zeroValue5
 t9:=Tryz.underlying9
 a9:=Tryz.isAgg9
 z9:=Tryz.sizeOf9
 v9:=Tryz.zeroValue9 }
open Go.RowKit in
theorem Tryz.strings_IndexByte (s:ByteArray) (c:Int) (w:World) :
 Calls Tryz.prog 90 #[.string s,.int .u8 c] w fun e w'=>e = .returned (.int .i64 (Lib.indexByte s.data.toList c.toNat.toUInt8))/\w' = w:=Any.strings_IndexByte Tryz.lays137 s c w
def Tryz.laysM171_ren:Go.Shelf.Ren:=⟨fun | 171=>69 | 243=>106 | 246=>128 | 283=>138 | 284=>139 | 285=>140 | 286=>141 | 129=>146 | 317=>145 | 318=>147 | 319=>148 | 320=>149 | 337=>152 | 338=>153 | n=>n,fun | 3=>3 | 9=>9 | 2=>2 | 4=>4 | 171=>157 | 0=>0 | 53=>134 | 37=>125 | 5=>5 | 173=>160 | 212=>165 | 51=>131 | 20=>20 | 213=>166 | 46=>109 | 232=>170 | 233=>171 | n=>n,fun | 17=>5 | 18=>6 | 19=>7 | n=>n⟩
theorem Tryz.laysM171:Go.Proofs.LaysM.n171 Tryz.prog Tryz.laysM171_ren:={
 mixed:=by kernel_rfl
 f129:=Tryz.func146.trans (congrArg some (by kernel_rfl))
 f171:=Tryz.func69.trans (congrArg some (by kernel_rfl))
 f243:=Tryz.func106.trans (congrArg some (by kernel_rfl))
 f246:=Tryz.func128.trans (congrArg some (by kernel_rfl))
 f283:=Tryz.func138.trans (congrArg some (by kernel_rfl))
 f284:=Tryz.func139.trans (congrArg some (by kernel_rfl))
 f285:=Tryz.func140.trans (congrArg some (by kernel_rfl))
 f286:=Tryz.func141.trans (congrArg some (by kernel_rfl))
 f317:=Tryz.func145.trans (congrArg some (by kernel_rfl))
 f318:=Tryz.func147.trans (congrArg some (by kernel_rfl))
 f319:=Tryz.func148.trans (congrArg some (by kernel_rfl))
 f320:=Tryz.func149.trans (congrArg some (by kernel_rfl))
 f337:=Tryz.func152.trans (congrArg some (by kernel_rfl))
 f338:=Tryz.func153.trans (congrArg some (by kernel_rfl))
 t0:=Tryz.underlying0
 a0:=Tryz.isAgg0
 z0:=Tryz.sizeOf0
 v0:=Tryz.zeroValue0
 t2:=Tryz.underlying2
 a2:=Tryz.isAgg2
 z2:=Tryz.sizeOf2
 v2:=Tryz.zeroValue2
 t3:=Tryz.underlying3
 a3:=Tryz.isAgg3
 z3:=Tryz.sizeOf3
 v3:=Tryz.zeroValue3
 t4:=Tryz.underlying4
 a4:=Tryz.isAgg4
 z4:=Tryz.sizeOf4
 v4:=Tryz.zeroValue4
 t5:=Tryz.underlying5
 a5:=Tryz.isAgg5
 z5:=Tryz.sizeOf5
 v5:=Tryz.zeroValue5
 t9:=Tryz.underlying9
 a9:=Tryz.isAgg9
 z9:=Tryz.sizeOf9
 v9:=Tryz.zeroValue9
 t20:=Tryz.underlying20
 a20:=Tryz.isAgg20
 z20:=Tryz.sizeOf20
 v20:=Tryz.zeroValue20
 t37:=Tryz.underlying125
 a37:=Tryz.isAgg125
 z37:=Tryz.sizeOf125
 v37:=Tryz.zeroValue125
 t46:=Tryz.underlying109
 a46:=Tryz.isAgg109
 z46:=Tryz.sizeOf109
 v46:=Tryz.zeroValue109
 t51:=Tryz.underlying131
 a51:=Tryz.isAgg131
 z51:=Tryz.sizeOf131
 v51:=Tryz.zeroValue131
 t53:=Tryz.underlying134
 a53:=Tryz.isAgg134
 z53:=Tryz.sizeOf134
 v53:=Tryz.zeroValue134
 t171:=Tryz.underlying157
 a171:=Tryz.isAgg157
 z171:=Tryz.sizeOf157
 v171:=Tryz.zeroValue157
 t173:=Tryz.underlying160
 a173:=Tryz.isAgg160
 z173:=Tryz.sizeOf160
 v173:=Tryz.zeroValue160
 t212:=Tryz.underlying165
 a212:=Tryz.isAgg165
 z212:=Tryz.sizeOf165
 v212:=Tryz.zeroValue165
 t213:=Tryz.underlying166
 a213:=Tryz.isAgg166
 z213:=Tryz.sizeOf166
 t232:=Tryz.underlying170
 a232:=Tryz.isAgg170
 z232:=Tryz.sizeOf170
 v232:=Tryz.zeroValue170
 t233:=Tryz.underlying171
 a233:=Tryz.isAgg171
 z233:=Tryz.sizeOf171
 v233:=Tryz.zeroValue171
 g17:=by kernel_rfl
 g18:=by kernel_rfl
 g19:=by kernel_rfl
 i0:=by kernel_rfl
 i2:=by kernel_rfl
 i3:=by kernel_rfl
 i4:=by kernel_rfl
 i5:=by kernel_rfl
 i9:=by kernel_rfl
 i20:=by kernel_rfl
 i37:=by kernel_rfl
 i46:=by kernel_rfl
 i51:=by kernel_rfl
 i53:=by kernel_rfl
 i171:=by kernel_rfl
 i173:=by kernel_rfl
 i212:=by kernel_rfl
 i232:=by kernel_rfl
 i233:=by kernel_rfl
 m17:=by kernel_rfl
 m18:=by kernel_rfl
 m19:=by kernel_rfl }
open Go.RowKit Go.Sort Go.Lib in
theorem Tryz.strconv_Itoa (n:Int) (h0:-9223372036854775808<=n) (h1:n<=9223372036854775807) (w:World) (htab:Lib.TabIs Tryz.prog w "internal/strconv.uint64pow10" .u64 Lib.pow10Tab) :
 Calls Tryz.prog 69 #[.int .i64 n] w fun e w'=>e = .returned (.string ⟨(Lib.itoa n).toArray⟩)/\∃ k os,w' = grow (w.drewN k) os:=Any.strconv_Itoa Tryz.laysM171 n h0 h1 w htab
def Tryz.lays143_ren:Go.Shelf.Ren:=⟨fun | 143=>91 | 219=>121 | 217=>120 | 225=>134 | 224=>135 | 267=>136 | 266=>133 | 314=>144 | n=>n,fun | 9=>9 | 3=>3 | 4=>4 | 5=>5 | 46=>109 | 146=>132 | 51=>131 | n=>n,fun | 1=>4 | n=>n⟩
theorem Tryz.lays143:Go.Proofs.Lays.n143 Tryz.prog Tryz.lays143_ren:={
 mixed:=by kernel_rfl
 f143:=Tryz.func91.trans (congrArg some (by kernel_rfl))
 f217:=Tryz.func120.trans (congrArg some (by kernel_rfl))
 f219:=Tryz.func121.trans (congrArg some (by kernel_rfl))
 f224:=Tryz.func135.trans (congrArg some (by kernel_rfl))
 f225:=Tryz.func134.trans (congrArg some (by kernel_rfl))
 f266:=Tryz.func133.trans (congrArg some (by kernel_rfl))
 f267:=Tryz.func136.trans (congrArg some (by kernel_rfl))
 f314:=Tryz.func144.trans (congrArg some (by kernel_rfl))
 t3:=Tryz.underlying3
 a3:=Tryz.isAgg3
 z3:=Tryz.sizeOf3
 v3:=Tryz.zeroValue3
 t4:=Tryz.underlying4
 a4:=Tryz.isAgg4
 z4:=Tryz.sizeOf4
 v4:=Tryz.zeroValue4
 t5:=Tryz.underlying5
 a5:=Tryz.isAgg5
 z5:=Tryz.sizeOf5
 v5:=Tryz.zeroValue5
 t9:=Tryz.underlying9
 a9:=Tryz.isAgg9
 z9:=Tryz.sizeOf9
 v9:=Tryz.zeroValue9
 t46:=Tryz.underlying109
 a46:=Tryz.isAgg109
 z46:=Tryz.sizeOf109
 v46:=Tryz.zeroValue109
 t51:=Tryz.underlying131
 a51:=Tryz.isAgg131
 z51:=Tryz.sizeOf131
 v51:=Tryz.zeroValue131
 t146:=Tryz.underlying132
 a146:=Tryz.isAgg132
 z146:=Tryz.sizeOf132
 v146:=Tryz.zeroValue132
 g1:=by kernel_rfl }
open Go.RowKit Go.Lib in
theorem Tryz.strings_Index (s sub:ByteArray) (m:Int) (w:World) (hs:s.size < 4294967281) (hm:w.cell? ⟨4,0,none⟩=some (.int .i64 m)) :
 Calls Tryz.prog 91 #[.string s,.string sub] w fun e w'=>e = .returned (.int .i64 (Lib.index s.data.toList sub.data.toList))/\w' = w:=Any.strings_Index Tryz.lays143 s sub m w hs hm
def Tryz.lays99_ren:Go.Shelf.Ren:=⟨fun | 99=>119 | 206=>132 | n=>n,fun | 9=>9 | 4=>4 | 3=>3 | n=>n,fun | n=>n⟩
theorem Tryz.lays99:Go.Proofs.Lays.n99 Tryz.prog Tryz.lays99_ren:={
 mixed:=by kernel_rfl
 f99:=Tryz.func119.trans (congrArg some (by kernel_rfl))
 f206:=Tryz.func132.trans (congrArg some (by kernel_rfl))
 t3:=Tryz.underlying3
 a3:=Tryz.isAgg3
 z3:=Tryz.sizeOf3
 v3:=Tryz.zeroValue3
 t4:=Tryz.underlying4
 a4:=Tryz.isAgg4
 z4:=Tryz.sizeOf4
 v4:=Tryz.zeroValue4
 t9:=Tryz.underlying9
 a9:=Tryz.isAgg9
 z9:=Tryz.sizeOf9
 v9:=Tryz.zeroValue9 }
open Go.RowKit Go.Lib in
theorem Tryz.strings_HasPrefix (s p:ByteArray) (w:World) :
 Calls Tryz.prog 119 #[.string s,.string p] w fun e w'=>e = .returned (.bool (Lib.hasPrefix s.data.toList p.data.toList))/\w' = w:=Any.strings_HasPrefix Tryz.lays99 s p w
end Go.Proofs
namespace Go.Proofs.YtnamdpbcpnnhaaaGreatDoor
open Go.Al Go.Den Go.RowKit Go.Sort
theorem zNm {B:Nat} {wm:Nat->Nat} {w:World} (h:GlobOk B wm w):Lib.TabIs Tryz.prog w "internal/strconv.uint64pow10" .u64 Lib.pow10Tab:=by
 obtain ⟨h0,arr,el,m,h1,h2⟩:=h.one (5,fun us=>us=pow10V) (by simp [zHe])
 unfold Lib.TabIs World.var?
 have e:Tryz.prog.globalNamed "internal/strconv.uint64pow10" = some 5:=by kernel_rfl
 rw [e]
 simp only [Option.bind_some]
 replace h1:w.heap[5]? = some (.cells arr el m):=h1
 rw [h1]
 replace h2:arr.toList=pow10V:=h2
 have:arr=pow10V.toArray:=by rw [<- h2]
 rw [this]
 rfl
theorem zJg {B:Nat} {wm:Nat->Nat} {w:World} (h:GlobOk B wm w):∃ m,w.cell? ⟨4,0,none⟩=some (.int .i64 m):=by
 obtain ⟨h0,arr,el,m,h1,z,h2⟩:=h.one (4,fun us=>∃ m,us=[.int .i64 m]) (by simp [zHe])
 refine ⟨z,?_⟩
 unfold World.cell?
 replace h1:w.heap[4]? = some (.cells arr el m):=h1
 simp only [h1]
 have:arr=[Value.int .i64 z].toArray:=by rw [<- h2]
 rw [this]
 rfl
theorem qZ {wm:Nat->Nat} {w w':World} (hwm:∀ b,w.heap.size<=b->wm b=0) (hb:Below w.heap.size w w') :
 (∀ b,w'.heap.size<=b->wm b=0)/\Step w.heap.size ⟨wm,fun _=>none,Fr.no⟩ w ⟨wm,fun _=>none,Fr.no⟩ w':=by
 have hL:Later ⟨wm,fun _=>none,Fr.no⟩ w ⟨wm,fun _=>none,Fr.no⟩ w':=⟨fun _=>Nat.le_refl _,fun _ _ h=>h,fun b o ho=>by
  have hb2:b < w.heap.size:=by
   rcases Nat.lt_or_ge b w.heap.size with h | h
   · exact h
   · replace ho:o < wm b:=ho
     rw [hwm b h] at ho; omega
  exact World.cell?_of_block (hb.block b hb2)⟩
 exact ⟨fun b hb2=>hwm b (Nat.le_trans hb.size hb2),⟨hL,hb,fun b h=>(by simp [Fr.no] at h),fun _ _=>rfl,rfl⟩⟩
theorem pure69 (n:Int) (h0:-9223372036854775808<=n) (h1:n<=9223372036854775807):qD Tryz.prog 69 [.at (.int .i64 n)] (.at (.string ⟨(Lib.itoa n).toArray⟩)):=by
 intro wm w us hwm hgl hu
 cases hu with
 | cons hu1 hu2=>
  cases hu2
  have e:=zj hu1
  subst e
  refine (Any.strconv_Itoa Tryz.laysM171 n h0 h1 w (zNm hgl)).mono ?_
  rintro e w' ⟨rfl,k,os,rfl⟩
  obtain ⟨q1,q2⟩:=qZ hwm (below_regrown w (w.drawn+k) os)
  exact ⟨_,wm,rfl,q1,q2,zw rfl⟩
theorem pure90 (s:Str) (c:Int):qD Tryz.prog 90 [.at (.string ⟨s.toArray⟩),.at (.int .u8 c)] (.at (.int .i64 (Lib.indexByte s c.toNat.toUInt8))):=by
 intro wm w us hwm hgl hu
 cases hu with
 | cons hu1 hu2=>
  cases hu2 with
  | cons hu2 hu3=>
   cases hu3
   have e:=zj hu1
   subst e
   have e:=zj hu2
   subst e
   refine (Tryz.strings_IndexByte ⟨s.toArray⟩ c w).mono ?_
   rintro e w' ⟨rfl,rfl⟩
   obtain ⟨q1,q2⟩:=qZ hwm (Below.refl _ _)
   exact ⟨_,wm,rfl,q1,q2,zw rfl⟩
theorem pure91 (s t:Str) (h:s.length < 4294967281):qD Tryz.prog 91 [.at (.string ⟨s.toArray⟩),.at (.string ⟨t.toArray⟩)] (.at (.int .i64 (Lib.index s t))):=by
 intro wm w us hwm hgl hu
 cases hu with
 | cons hu1 hu2=>
  cases hu2 with
  | cons hu2 hu3=>
   cases hu3
   have e:=zj hu1
   subst e
   have e:=zj hu2
   subst e
   obtain ⟨m,hm⟩:=zJg hgl
   refine (Tryz.strings_Index ⟨s.toArray⟩ ⟨t.toArray⟩ m w (by simpa [ByteArray.size] using h) hm).mono ?_
   rintro e w' ⟨rfl,rfl⟩
   obtain ⟨q1,q2⟩:=qZ hwm (Below.refl _ _)
   exact ⟨_,wm,rfl,q1,q2,zw rfl⟩
def c90 (x:Str×Int×Unit):Option (Int×Unit):=some (Lib.indexByte x.1 x.2.1.toNat.toUInt8,())
theorem ok90' (s:Str) (c:Int) (u:Unit) (vs:List V) (hvs:zBW CC as90 ((s,c,u):zQ as90) vs):qD Tryz.prog 90 vs (.at (.int .i64 (Lib.indexByte s c.toNat.toUInt8))):=by
 obtain ⟨v,vs',rfl,hv,v2,vs2,rfl,hv2,hvs⟩:=hvs
 replace hvs:vs2=[]:=hvs
 subst hvs
 replace hv:v = .at (.string ⟨List.toArray s⟩):=hv
 replace hv2:v2 = .at (.int .u8 c):=hv2
 subst hv hv2
 exact pure90 s c
theorem ok90:ConOk CC Tryz.prog 90 ⟨as90,rs90,c90⟩:=fun x y hx vs hvs=>by
 have:=ok90' x.1 x.2.1 x.2.2 vs hvs
 injection hx with hx
 subst hx
 exact this
def c91 (x:Str×Str×Unit):Option (Int×Unit):=if x.1.length < 4294967281 then some (Lib.index x.1 x.2.1,()) else none
theorem ok91' (s t:Str) (h:s.length < 4294967281) (u:Unit) (vs:List V) (hvs:zBW CC as91 ((s,t,u):zQ as91) vs):qD Tryz.prog 91 vs (.at (.int .i64 (Lib.index s t))):=by
 obtain ⟨v,vs',rfl,hv,v2,vs2,rfl,hv2,hvs⟩:=hvs
 replace hvs:vs2=[]:=hvs
 subst hvs
 replace hv:v = .at (.string ⟨List.toArray s⟩):=hv
 replace hv2:v2 = .at (.string ⟨List.toArray t⟩):=hv2
 subst hv hv2
 exact pure91 s t h
theorem ok91:ConOk CC Tryz.prog 91 ⟨as91,rs91,c91⟩:=fun x y hx vs hvs=>by
 obtain ⟨s,t,u⟩:=x
 by_cases h:List.length (show Str from s) < 4294967281
 · have h2:c91 (s,t,u)=some (Lib.index s t,()):=if_pos h
   replace hx:c91 (s,t,u)=some y:=hx
   rw [h2] at hx
   injection hx with hx
   subst hx
   exact ok91' s t h u vs hvs
 · have h2:c91 (s,t,u)=none:=if_neg h
   replace hx:c91 (s,t,u)=some y:=hx
   rw [h2] at hx
   cases hx
end Go.Proofs.YtnamdpbcpnnhaaaGreatDoor
end
namespace Go.Proofs.YtnamdpbcpnnhaaaGreatDoor
section
open Go.Al Go.Den Go.RowKit Go.Shelf
attribute [local go_sem] Oper.semAt_some
def chG:List UInt8->Nat->List CharT
 | [],_=>[]
 | [c],i=>[⟨(c.toNat:Int),(i:Int)⟩]
 | c::d::r,i=>cond (c == 92 && d == 10) (chG r (i+2)) (⟨(c.toNat:Int),(i:Int)⟩::chG (d::r) (i+1))
theorem zEg:∀ (s:List UInt8) (i:Nat),(chG s i).length<=s.length
 | [],_=>Nat.le_refl _
 | [c],i=>Nat.le_refl _
 | c::d::r,i=>by
  have h1:=zEg r (i+2)
  have h2:=zEg (d::r) (i+1)
  simp only [chG]
  cases (c == 92 && d == 10)
  · simp only [cond_false,List.length_cons] at *; omega
  · simp only [cond_true,List.length_cons] at *; omega
theorem zNp (s:List UInt8) (k:Nat) (h:k < s.length) :
 (Lib.hasPrefix (List.take (s.length - k) (s.drop k)) [92,10]=true->k+2<=s.length/\chG (s.drop k) k=chG (s.drop (k+2)) (k+2)) /\
 (Lib.hasPrefix (List.take (s.length - k) (s.drop k)) [92,10]=false->chG (s.drop k) k=⟨(s[k].toNat:Int),(k:Int)⟩::chG (s.drop (k+1)) (k+1)):=by
 have ht:List.take (s.length - k) (s.drop k)=s.drop k:=List.take_of_length_le (by simp)
 rw [ht,List.drop_eq_getElem_cons h]
 unfold Lib.hasPrefix
 by_cases h2:k+1 < s.length
 · rw [List.drop_eq_getElem_cons h2]
   have e:[92,10].isPrefixOf (s[k]::s[k+1]::s.drop (k+1+1))=(s[k] == 92 && s[k+1] == 10):=by
    simp only [List.isPrefixOf,Bool.and_true,Bool.beq_comm]
   rw [e]
   refine ⟨fun hh=>⟨by omega,?_⟩,fun hh=>?_⟩
   · simp only [chG,hh,cond_true]
   · simp only [chG,hh,cond_false]
 · have e0:s.drop (k+1)=[]:=List.drop_eq_nil_of_le (by omega)
   rw [e0]
   refine ⟨fun hh=>by simp [List.isPrefixOf] at hh,fun _=>by simp [chG]⟩
def chV (x:CharT):Value:=.agg #[.int .u8 x.b,.int .i64 x.fat]
def chC (x:CharT):List Value:=[.int .u8 x.b,.int .i64 x.fat]
set_option maxRecDepth 100000 in
set_option maxHeartbeats 2000000 in
theorem zML (n n0 bx:Nat) (l Bs:Nat) (s:Str) (hreach:s.length < 1100000) (J Jx:List CharT->World->Prop)
 (hY:∀ pre x W,J pre W->pre.length < s.length->YieldAt Fence.wide (n - 1) Tryz.prog l #[chV x] W fun e W'=>
  (e = .returned (.bool true)/\J (pre++[x]) W'/\jH n0 bx W W')\/(e = .returned (.bool false)/\Jx (pre++[x]) W'))
 (W:World) (hB:BoxOk n0 bx W) (hxs:¬ exb bx W Bs) (hBs:W.cell? ⟨Bs,0,none⟩=some (.string ⟨s.toArray⟩)) (h0:J [] W) :
 CallsIn Fence.wide n Tryz.prog 118 #[.func (.yield l) #[] #[],.pointer (some ⟨Bs,0,none⟩)] W fun e W'=>(∃ v,e = .returned v) /\
  ((∃ ys,ys=chG s 0/\J ys W')\/(∃ pre,True/\Jx pre W')):=by
 refine callsIn_of_wp Tryz.func118 rfl trivial ?_ rfl
 simp only [Tryz.ntmps118,List.size_toArray,List.length_cons,List.length_nil,Nat.reduceAdd,Nat.reduceSub,Array.replicate_succ,Array.replicate_zero,List.push_toArray,List.append_toArray,List.nil_append,List.cons_append]
 have hsz:(⟨s.toArray⟩:ByteArray).size=s.length:=by simp [ByteArray.size]
 gi_wp2
 gi_loopw [3] (fun i wr=>∃ (k:Nat) (pre:List CharT),k<=s.length/\i = .int .i64 (k:Int)/\pre++chG (s.drop k) k=chG s 0/\J pre wr/\Kept n0 bx W wr)
  (fun i _=>match i with | .int _ z=>s.length - z.toNat | _=>0)
 case atStart=>exact ⟨0,[],Nat.zero_le _,rfl,by simp,h0,Kept.refl hB⟩
 case round=>
  obtain ⟨k,pre,hk,rfl,hpre,hJs,hnx⟩:=hrel
  have hBs':=hnx.same _ _ _ hBs hxs
  by_cases hlt:k < s.length
  · have hF:∀ f,Fence.wide.fn f:=fun _=>trivial
    have hdd:∀ k:Nat,(Fence.wide.depth.isSome=true->1<=k):=fun k h=>by cases h
    have hlt2:(k:Int) < (s.length:Int):=by omega
    have hge2:¬ ((k:Int) < 0):=by omega
    obtain ⟨hs1,hs2⟩:=zNp s k hlt
    have hbk:∀ h:k < (⟨s.toArray⟩:ByteArray).size,(⟨s.toArray⟩:ByteArray)[k]'h=s[k]:=fun _=>rfl
    cases hp:Lib.hasPrefix (List.take (s.length - k) (s.drop k)) [92,10] with
    | true=>
     obtain ⟨hk2,hc2⟩:=hs1 hp
     gi_wp2_with ((try refine ⟨hdd _,?_⟩); gi_at_call 119; refine (callsIn_wide.2 (Tryz.strings_HasPrefix _ _ _)).mono ?_; rintro e w' ⟨rfl,rfl⟩)
     refine ⟨⟨k+2,pre,hk2,rfl,by rw [<- hc2]; exact hpre,hJs,hnx⟩,?_⟩
     show s.length - Int.toNat ((k:Int)+1+1) < s.length - Int.toNat (k:Int)
     omega
    | false=>
     have hc2:=hs2 hp
     have hpl:pre.length < s.length:=by
      have e1:=congrArg List.length hpre
      have e2:=zEg s 0
      rw [hc2] at e1
      simp only [List.length_append,List.length_cons] at e1
      omega
     obtain ⟨fn,tmps,assign,body,hy,hR⟩:=hY pre ⟨(s[k].toNat:Int),(k:Int)⟩ wr hJs hpl
     dsimp only [chV] at hy
     gi_wp2_with (first
      | ((try refine ⟨hdd _,?_⟩); gi_at_call 119; refine (callsIn_wide.2 (Tryz.strings_HasPrefix _ _ _)).mono ?_; rintro e w' ⟨rfl,rfl⟩)
      | ((try refine ⟨hdd _,?_⟩); refine hR.mono ?_; clear hR; rintro e W3 (⟨rfl,hJ3,hk3⟩ | ⟨rfl,hJx3⟩)))
     · refine ⟨⟨k+1,pre++[⟨(s[k].toNat:Int),(k:Int)⟩],hlt,rfl,by rw [List.append_assoc,List.singleton_append,<- hc2]; exact hpre,hJ3,hnx.trans (hk3 hnx.ok)⟩,?_⟩
       show s.length - Int.toNat ((k:Int)+1) < s.length - Int.toNat (k:Int)
       omega
     · refine bodyPost_ret (results_none rfl _ _ _) rfl ?_
       exact ⟨⟨_,rfl⟩,.inr ⟨_,trivial,hJx3⟩⟩
  · obtain rfl:k=s.length:=by omega
    gi_wp2
    go_end0
    have e:s.drop s.length=[]:=List.drop_eq_nil_of_le (Nat.le_refl _)
    rw [e] at hpre
    exact ⟨⟨_,rfl⟩,.inl ⟨pre,by simpa [chG] using hpre,hJs⟩⟩
theorem zJe (n n0 bx Bs:Nat) (s:Str) (hreach:s.length < 1100000) (w:World) (hB:BoxOk n0 bx w) (hxs:¬ exb bx w Bs) (hbs:w.heap[Bs]? = some (.cells #[.string ⟨s.toArray⟩] 9 (0,0))) :
 SeqStopsK Fence.wide n Tryz.prog 118 #[.pointer (some ⟨Bs,0,none⟩)] (fun x:CharT=>#[chV x]) (jH n0 bx) (fun ys=>ys=chG s 0) (fun _=>True) s.length w:=fun l J Jx W hW _ _ hY h0=>by
 have hbx:W.heap[bx]? = w.heap[bx]?:=hW.block _ hB.lt
 have h1:W.heap[Bs]? = some (.cells #[.string ⟨s.toArray⟩] 9 (0,0)):=(hW.block _ (Array.getElem?_eq_some_iff.1 hbs).1).trans hbs
 exact zML n n0 bx l Bs s hreach J Jx hY W (hB.grown hW.size hbx) (fun h=>hxs ((j8 hbx Bs).1 h)) (by simp [World.cell?,h1]) h0
set_option maxRecDepth 100000 in
set_option maxHeartbeats 1000000 in
theorem zOC (m:Nat) (s:ByteArray) (w:World) :
 CallsIn Fence.wide m Tryz.prog 87 #[.string s] w fun e w'=>e = .returned (.func (.func 118) #[] #[.pointer (some ⟨w.heap.size,0,none⟩)])/\w' = w.alloc (.cells #[.string s] 9):=by
 refine callsIn_of_wp Tryz.func87 rfl trivial ?_ rfl
 simp only [Tryz.ntmps87,List.size_toArray,List.length_cons,List.length_nil,Nat.reduceAdd,Nat.reduceSub,Array.replicate_succ,Array.replicate_zero,List.push_toArray,List.append_toArray,List.nil_append,List.cons_append]
 gi_wp2
 go_ret
 exact ⟨rfl,rfl⟩
end
section
open Go.Al Go.Den Go.RowKit Go.Shelf
theorem zOe {wm:Nat->Nat} {w W':World} (hwm:∀ b,w.heap.size<=b->wm b=0) (hbel:Below w.heap.size w W') {size n:Nat} {e:TypeId} {v:Value} {ds:List Value} (hrow:W'.ownsRow w.heap.size e size v n ds) (hz:n=0->v = .slice none 0 0)
 (es:List V) (hl:n=es.length) (hu:∀ x ∈ es,x.size=size) (hrc:RCs ⟨wm,fun _=>none,Fr.no⟩ w es ds) :
 ∃ wm',(∀ b,W'.heap.size<=b->wm' b=0)/\Step w.heap.size ⟨wm,fun _=>none,Fr.no⟩ w ⟨wm',fun _=>none,Fr.no⟩ W'/\RV ⟨wm',fun _=>none,Fr.no⟩ W' (.lst (zh es) es) v:=by
 subst hl
 obtain ⟨q1,q2⟩:=qZ hwm hbel
 cases es with
 | nil=>
  refine ⟨wm,q1,q2,?_⟩
  rw [hz rfl]
  exact xS (by unfold RC; exact .inl ⟨rfl,rfl,trivial⟩)
 | cons x r=>
  obtain ⟨hlen,⟨_,h0⟩ | ⟨g,cap,cur,rfl,hg,hgb,hn,hm,hcs,htk⟩⟩:=hrow
  · simp at h0
  · have hgl:=(Array.getElem?_eq_some_iff.1 hgb).1
    have hL:Later ⟨wm,fun _=>none,Fr.no⟩ w ⟨fun b=>if b=g then ds.length else wm b,fun _=>none,Fr.no⟩ W':=by
     refine ⟨fun b=>?_,fun _ _ h=>h,q2.later.cell⟩
     show wm b<=if b=g then ds.length else wm b
     split
     · rename_i h; rw [h,hwm g hg]; exact Nat.zero_le _
     · exact Nat.le_refl _
    refine ⟨fun b=>if b=g then ds.length else wm b,fun b hb=>?_,⟨hL,q2.below,fun b h=>(by simp [Fr.no] at h),fun b hb=>?_,rfl⟩,xS ?_⟩
    · show (if b=g then ds.length else wm b)=0
      rw [if_neg (by omega)]
      exact q1 b hb
    · show (if b=g then ds.length else wm b)=wm b
      rw [if_neg (by omega)]
    · simp only [RC]
      refine .inr ⟨g,0,cap,ds,rfl,hn,by simp [zh,zCv],zk hL _ _ hrc,⟨size,hu,by intro t nb s h; simp [zh] at h⟩,fun k u hk=>⟨?_,?_⟩⟩
      · have hk1:k < ds.length:=(List.getElem?_eq_some_iff.1 hk).1
        rw [<- htk,List.getElem?_take] at hk
        split at hk
        · simp only [World.cell?,hgb,Nat.zero_add]
          rw [Array.getElem?_toList] at hk
          simpa using hk
        · cases hk
      · have hk1:k < ds.length:=(List.getElem?_eq_some_iff.1 hk).1
        show 0+k < if g=g then ds.length else wm g
        rw [if_pos rfl]; omega
theorem zNV (t:Nd):trT CC ⟨id,id,id,id⟩ (argT CC (.st TI.node) false t)=yA t:=by
 cases t with
 | mk k a ks=>rw [ju]; rfl
end
section
open Go.Al Go.Den Go.RowKit Go.Shelf
attribute [local go_sem] Oper.semAt_some
attribute [local congr] jP jg kY zAI qO qz xt xw qx js qy kX jQ jL xm qB jF kQ kZ qd jo jE qY qf jB jG qb jK jJ qe zAJ kR kV jq ji jh jI qa qc
abbrev polF:Pol:=⟨fun _=>true,fun d=>d == 18,fun _=>false,fun _=>false,[],fun _=>[]⟩
theorem zKV:cV (.agg #[.int .i64 0,.int .i64 0,.slice none 0 0]) = .agg [.at (.int .i64 0),.at (.int .i64 0),.lst .nil []]:=rfl
def zA7:Nat->List Nat:=fun _=>[3,5,6,13]
def Row (W:World) (n0 bx:Nat) (v:Value) (n:Nat) (ds:List Value):Prop:=
 (n=0/\v = .slice none 0 0/\ds=[]) \/
 (∃ r cap arr el,v = .slice (some ⟨r,0,none⟩) n cap/\n0<=r/\r≠bx/\W.heap[r]? = some (.cells arr el (0,0))/\n<=cap/\arr.size=cap * 3/\arr.toList.take (n * 3)=ds/\ds.length=n * 3/\0 < n/\∀ d ∈ ds,one d=true)
theorem Row.own {W:World} {n0 bx n:Nat} {v:Value} {ds:List Value} (h:Row W n0 bx v n ds) {b:Nat} (hb:v.ownBlock=some b):n0<=b/\b≠bx/\∃ cap arr el,v = .slice (some ⟨b,0,none⟩) n cap/\W.heap[b]? = some (.cells arr el (0,0)):=by
 rcases h with ⟨_,rfl,_⟩ | ⟨r,cap,arr,el,rfl,h1,h2,h3,_⟩
 · cases hb
 · have:r=b:=by simpa [Value.ownBlock] using hb
   subst this
   exact ⟨h1,h2,cap,arr,el,rfl,h3⟩
theorem Row.kept {A B:World} {n0 bx n:Nat} {v:Value} {ds:List Value} (h:Row A n0 bx v n ds) (hk:∀ b,v.ownBlock=some b->B.heap[b]? = A.heap[b]?):Row B n0 bx v n ds:=by
 rcases h with h | ⟨r,cap,arr,el,rfl,h1,h2,h3,h4⟩
 · exact .inl h
 · exact .inr ⟨r,cap,arr,el,rfl,h1,h2,(hk r rfl).trans h3,h4⟩
def GrowF (n0 bx:Nat) (w:World) (ds:List Value) (n:Nat) (W:World):Prop:=
 ∃ v,(∃ t,W.heap[bx]? = some (.cells #[v] t (0,0)))/\Row W n0 bx v n ds/\Below n0 w W
theorem zOh {bx:Nat} {W:World} {v:Value} {t:TypeId} (hv:W.heap[bx]? = some (.cells #[v] t (0,0))) (hs:∀ b o l c,v = .slice (some ⟨b,o,none⟩) l c->v.ownBlock=some b) (b:Nat) :
 exb bx W b↔b=bx\/∃ o l c,v = .slice (some ⟨b,o,none⟩) l c:=by
 have hc:W.cell? ⟨bx,0,none⟩=some v:=by simp [World.cell?,hv]
 unfold Go.Proofs.YtnamdpbcpnnhaaaGreatDoor.exb
 rw [hc]
 exact or_congr Iff.rfl ⟨fun ⟨o,l,c,h⟩=>⟨o,l,c,by injection h⟩,fun ⟨o,l,c,h⟩=>⟨o,l,c,by rw [h]⟩⟩
theorem Row.exb {bx n0 n:Nat} {W:World} {v:Value} {t:TypeId} {ds:List Value} (h:Row W n0 bx v n ds) (hv:W.heap[bx]? = some (.cells #[v] t (0,0))) (b:Nat) :
 exb bx W b↔b=bx\/v.ownBlock=some b:=by
 rw [zOh hv (fun b o l c e=>by subst e; rfl) b]
 refine or_congr Iff.rfl ⟨fun ⟨o,l,c,e⟩=>by subst e; rfl,fun e=>?_⟩
 obtain ⟨_,_,cap,arr,el,e1,_⟩:=h.own e
 exact ⟨_,_,_,e1⟩
theorem GrowF.box {n0 bx:Nat} {w:World} {ds:List Value} {n:Nat} {W:World} (h0:n0<=bx) (h:GrowF n0 bx w ds n W):BoxOk n0 bx W:=by
 obtain ⟨v,⟨t,hv⟩,hr,hb⟩:=h
 refine ⟨h0,⟨_,_,_,hv⟩,fun b hx=>?_⟩
 rcases (hr.exb hv b).1 hx with rfl | h
 · exact ⟨h0,(Array.getElem?_eq_some_iff.1 hv).1⟩
 · obtain ⟨h1,_,_,arr,el,_,h2⟩:=hr.own h
   exact ⟨h1,(Array.getElem?_eq_some_iff.1 h2).1⟩
theorem qL {A B:World} {row:Option Nat} (hg:A.grownBy B row) (hr:∀ r,row=some r->∃ o:Obj,A.heap[r]? = some o/\o.isCells=false) {b:Nat} {arr:Array Value} {el:TypeId} {m:Nat×Nat} (h:A.heap[b]? = some (.cells arr el m)):B.heap[b]? = some (.cells arr el m):=
 (hg.block b (Array.getElem?_eq_some_iff.1 h).1 (fun e=>by
  obtain ⟨o,ho,hc⟩:=hr b e.symm
  rw [h] at ho; injection ho with ho; subst ho; cases hc)).trans h
theorem GrowF.grown {n0 bx:Nat} {w:World} {ds:List Value} {n:Nat} {A B:World} {row:Option Nat} (h0:n0<=w.heap.size) (h:GrowF n0 bx w ds n A) (hg:A.grownBy B row) (hr:∀ r,row=some r->n0<=r/\∃ o:Obj,A.heap[r]? = some o/\o.isCells=false):GrowF n0 bx w ds n B:=by
 obtain ⟨v,⟨t,hv⟩,hr',hb⟩:=h
 refine ⟨v,⟨t,qL hg (fun r e=>(hr r e).2) hv⟩,hr'.kept fun b e=>?_,hb.grown hg (Nat.le_trans h0 hb.size) (fun k e=>(hr k e).1)⟩
 obtain ⟨_,_,_,arr,el,_,h2⟩:=hr'.own e
 exact (qL hg (fun r e=>(hr r e).2) h2).trans h2.symm
theorem zL0 {g:Gh} {w:World}:∀ {l us:List Value},RCs g w (l.map .at) us->us=l
 | [],us,h=>by simpa [RCs] using h
 | x::l,us,h=>by
  simp only [List.map_cons,RCs] at h
  obtain ⟨u1,u2,rfl,h1,h2⟩:=h
  simp only [RC] at h1
  rw [h1.1,zL0 h2]; rfl
theorem zHI {g:Gh} {w:World}:∀ {l:List Value},(∀ x ∈ l,one x=true)->RCs g w (l.map .at) l
 | [],_=>by simp [RCs]
 | x::l,h=>by
  simp only [List.map_cons,RCs]
  exact ⟨[x],l,rfl,by simp [RC,h x (by simp)],zHI (fun y hy=>h y (by simp [hy]))⟩
theorem zNz {P:Program} {X:Cx} {c:Code} {Q:Exit->Env->S->Prop} {Post:Exit->Act->World->Prop} {e:Env} {g:Gh} {a:Act} {w:World} (hs:a.tmps.size=X.N.n/\∀ p ∈ X.N.fx,a.tmps.getD p.1 undef=p.2) (hd:a.defers=X.df) (hgl:GlobOk X.B g.wm w) (hp:∀ ex a' w' g' e' st',Step X.B g w g' w'->Al.Inv X.B g' st' w'->Q ex e' st'->Post ex a' w')
 (he:∀ k,RV g w (e.get k) (a.tmps.getD k undef)) (h:∃ st,awp P X c Q e st/\Al.Inv X.B g st w):c.wpIn (fen X.ro) 0 P Post a w:=by
 obtain ⟨st,h1,h2⟩:=h
 refine wpIn_mono (h1 g a w ⟨h2,he,hs,hd,hgl⟩) ?_
 rintro ex a' w' ⟨g',e',st',k1,k2,k3⟩
 exact hp _ _ _ _ _ _ k1 k2.inv k3
def wmF (bv:Value) (bx T3 B4:Nat) (W:World) (b:Nat):Nat:=
 if b=bx\/b=T3\/b=B4\/bv.ownBlock=some b then 0 else match W.heap[b]? with | some (.cells arr _ _)=>arr.size+1 | _=>0
theorem zAq {bv:Value} {bx T3 B4:Nat} {W:World} {b:Nat} (h:b=bx\/b=T3\/b=B4\/bv.ownBlock=some b):wmF bv bx T3 B4 W b=0:=if_pos h
theorem zIK {bv:Value} {bx T3 B4:Nat} {W:World} {b:Nat} (h:¬ (b=bx\/b=T3\/b=B4\/bv.ownBlock=some b)) {arr:Array Value} {el:TypeId} {m:Nat×Nat} (hb:W.heap[b]? = some (.cells arr el m)):wmF bv bx T3 B4 W b=arr.size+1:=by
 unfold wmF; rw [if_neg h,hb]
theorem zKI {bv:Value} {bx T3 B4:Nat} {W:World} {b:Nat} (h:W.heap.size<=b):wmF bv bx T3 B4 W b=0:=by
 unfold wmF
 split
 · rfl
 · rw [Array.getElem?_eq_none h]
def frW (W:World):Fr:=⟨fun b=>match W.heap[b]? with | some o=>!o.isCells | none=>false,fun _=>false⟩
theorem zMm {W:World} {b:Nat} {o:Obj} (h:W.heap[b]? = some o) (hc:o.isCells=false):(frW W).b b=true:=by simp [frW,h,hc]
theorem zKN {W:World} {b:Nat} (h:(frW W).b b=true):∃ o,W.heap[b]? = some o/\o.isCells=false:=by
 unfold frW at h
 simp only at h
 split at h
 · rename_i o ho; exact ⟨o,ho,by simpa using h⟩
 · cases h
theorem globF {n0 bx T3 B4:Nat} {bv:Value} {wm:Nat->Nat} {w W:World} (h:GlobOk n0 wm w) (hb:Below n0 w W) (h1:n0<=bx) (h2:n0<=T3) (h3:n0<=B4) (h4:∀ b,bv.ownBlock=some b->n0<=b):GlobOk n0 (wmF bv bx T3 B4 W) W:=
 ⟨fun p hp=>let ⟨h0,arr,el,m,k1,k2⟩:=h.one p hp; ⟨h0,arr,el,m,(hb.block _ h0).trans k1,k2⟩,fun p hp=>by
  obtain ⟨k0,⟨arr,el,m,k1,k2⟩,_⟩:=h.all p hp
  have k3:=(hb.block _ k0).trans k1
  refine ⟨k0,⟨arr,el,m,k3,k2⟩,?_⟩
  rw [zIK (fun e=>?_) k3,<- k2]
  · simp
  · rcases e with e | e | e | e
    · omega
    · omega
    · omega
    · have:=h4 _ e; omega⟩
theorem zMf (ds:List Value) (n:Nat) (h:ds.length=n * 3) (zs:List V) (us:List Value) (hz:zs.length=3) :
 List.take (n * 3) (List.take (n * 3) (List.map V.at ds)++zs)++us.map V.at++List.drop (n * 3+3) (List.take (n * 3) (List.map V.at ds)++zs)=(ds++us).map V.at:=by
 have e1:List.take (n * 3) (List.map V.at ds)=List.map V.at ds:=List.take_of_length_le (by simp [h])
 rw [e1,List.take_append_of_le_length (by simp [h]),e1,List.drop_eq_nil_of_le (by simp [h,hz]),List.append_nil,List.map_append]
theorem zLx {B:Nat} {g:Gh} {W:World} {bs:List (Nat×List V×Nat)} (hB:B<=W.heap.size) (hf:∀ b,W.heap.size<=b->g.wm b=0) (ht:∀ t,g.tb t=none) (hfr:∀ b,g.fr.b b=true->∃ o,W.heap[b]? = some o/\o.isCells=false) (hft:∀ t,g.fr.t t=false)
 (h:∀ b cs k,Go.Al.look bs b=some (cs,k)->B<=b/\g.wm b=0/\cs.length<=k/\(∀ c ∈ cs,c.isOne=true)/\∃ arr el us,W.heap[b]? = some (.cells arr el (0,0))/\arr.size=k/\RCs g W cs us/\arr.toList.take cs.length=us):Al.Inv B g ⟨bs,[],0,[]⟩ W:=
 have hz:∀ b,g.fr.b b=true->b < W.heap.size/\Go.Al.look bs b=none/\∀ t ∈ ([]:List Nat),∀ d,g.tb t=some (some (b,d))->False:=fun b hb=>by
  obtain ⟨o,ho,hc⟩:=hfr b hb
  refine ⟨(Array.getElem?_eq_some_iff.1 ho).1,?_,fun t h=>by simp at h⟩
  cases hl:Go.Al.look bs b with
  | none=>rfl
  | some x=>
   obtain ⟨_,_,_,_,arr,el,us,h1,_⟩:=h b x.1 x.2 hl
   rw [ho] at h1; injection h1 with h1; subst h1; cases hc
 have hx:InvX B g ⟨bs,[],0,[]⟩ W:=by
  refine ⟨hz,fun b o fp h=>?_,fun b o fp b' o' fp' j h=>?_,fun t h=>?_⟩
  · cases h
  · cases h
  · rw [hft] at h; cases h
 ⟨hB,h,fun t h=>by simp at h,fun t h=>by simp at h,fun t h=>by simp at h,by simp,hf,fun t _=>ht t,hx⟩
theorem zG0 {φ:Nat->List V->Nat->Prop}:∀ b cs k,Go.Al.look ([]:List (Nat×List V×Nat)) b=some (cs,k)->φ b cs k:=fun b cs k h=>by cases h
theorem jZ {φ:Nat->List V->Nat->Prop} {b0 k0:Nat} {cs0:List V} {r:List (Nat×List V×Nat)} (h0:φ b0 cs0 k0) (hr:∀ b cs k,Go.Al.look r b=some (cs,k)->φ b cs k):∀ b cs k,Go.Al.look ((b0,cs0,k0)::r) b=some (cs,k)->φ b cs k:=fun b cs k h=>by
 by_cases e:b0=b
 · subst e
   have:Go.Al.look ((b0,cs0,k0)::r) b0=some (cs0,k0):=by simp [Go.Al.look]
   rw [this] at h; injection h with h; injection h with h1 h2; subst h1; subst h2; exact h0
 · have:Go.Al.look ((b0,cs0,k0)::r) b=Go.Al.look r b:=by simp [Go.Al.look,e]
   rw [this] at h; exact hr b cs k h
theorem zCu {B:Nat} {g:Gh} {W:World} {b k:Nat} {l:List Value} {arr:Array Value} {el:TypeId} (h1:B<=b) (h2:g.wm b=0) (h3:W.heap[b]? = some (.cells arr el (0,0))) (h4:arr.size=k) (h5:arr.toList.take l.length=l) (h6:∀ x ∈ l,one x=true) :
 B<=b/\g.wm b=0/\(l.map V.at).length<=k/\(∀ c ∈ l.map V.at,c.isOne=true)/\∃ arr el us,W.heap[b]? = some (.cells arr el (0,0))/\arr.size=k/\RCs g W (l.map V.at) us/\arr.toList.take (l.map V.at).length=us:=by
 refine ⟨h1,h2,?_,fun c hc=>?_,arr,el,l,h3,h4,zHI h6,by rw [List.length_map]; exact h5⟩
 · have:=congrArg List.length h5
   rw [List.length_take] at this
   have e:=Array.length_toList (xs:=arr)
   rw [List.length_map]; omega
 · obtain ⟨x,_,rfl⟩:=List.mem_map.1 hc; rfl
theorem zPl {B:Nat} {g:Gh} {W:World} {b:Nat} {el:TypeId} (h1:B<=b) (h2:g.wm b=0) (h3:W.heap[b]? = some (.cells #[.slice none 0 0] el (0,0))) :
 B<=b/\g.wm b=0/\([.lst .nil []]:List V).length<=1/\(∀ c ∈ ([.lst .nil []]:List V),c.isOne=true)/\∃ arr el us,W.heap[b]? = some (.cells arr el (0,0))/\arr.size=1/\RCs g W [.lst .nil []] us/\arr.toList.take ([.lst .nil []]:List V).length=us:=
 ⟨h1,h2,Nat.le_refl _,by simp [V.isOne],_,el,[.slice none 0 0],h3,rfl,by simp only [RCs]; exact ⟨_,[],rfl,by unfold RC; exact .inl ⟨rfl,rfl,trivial⟩,rfl⟩,rfl⟩
structure BoxQ (bx T3 B4:Nat) (kd k' a':Int) (sv':Value) (n:Nat) (ds:List Value) (s:S):Prop where
 t3:Go.Al.look s.box T3=some ([Value.int .i64 kd].map V.at,1)
 b4:Go.Al.look s.box B4=some ([Value.int .i64 k',.int .i64 a',sv'].map V.at,3)
 row:(n=0/\ds=[]/\Go.Al.look s.box bx=some ([.lst .nil []],1))\/∃ b cap,0 < n/\Go.Al.look s.box bx=some ([Value.slice (some ⟨b,0,none⟩) n cap].map V.at,1)/\Go.Al.look s.box b=some (ds.map V.at,cap * 3)/\n<=cap/\b≠bx/\b≠T3/\b≠B4/\ds.length=n * 3/\∀ d ∈ ds,one d=true
theorem zKF {B:Nat} {g:Gh} {s:S} {w:World} (h:Al.Inv B g s w) {b k:Nat} {l:List Value} (hl:Go.Al.look s.box b=some (l.map V.at,k)):B<=b/\g.wm b=0/\∃ arr el,w.heap[b]? = some (.cells arr el (0,0))/\arr.size=k/\arr.toList.take l.length=l:=by
 obtain ⟨h1,h2,_,_,arr,el,us,h3,h4,h5,h6⟩:=h.box b _ k hl
 rw [zL0 h5,List.length_map] at h6
 exact ⟨h1,h2,arr,el,h3,h4,h6⟩
theorem zCZ {B:Nat} {g:Gh} {s:S} {w:World} (h:Al.Inv B g s w) {b:Nat} {l:List Value} (hl:Go.Al.look s.box b=some (l.map V.at,l.length)):∃ el,w.heap[b]? = some (.cells l.toArray el (0,0)):=by
 obtain ⟨_,_,arr,el,h3,h4,h6⟩:=zKF h hl
 refine ⟨el,?_⟩
 have h9:arr.toList.length=l.length:=by simpa using h4
 have:arr.toList=l:=by rw [List.take_of_length_le (Nat.le_of_eq h9)] at h6; exact h6
 rw [h3,<- this]
theorem zOq {B:Nat} {g:Gh} {s:S} {w:World} (h:Al.Inv B g s w) {b:Nat} (hl:Go.Al.look s.box b=some ([.lst .nil []],1)):∃ el,w.heap[b]? = some (.cells #[.slice none 0 0] el (0,0)):=by
 obtain ⟨_,_,_,_,arr,el,us,h3,h4,h5,h6⟩:=h.box b _ 1 hl
 simp only [RCs] at h5
 obtain ⟨u1,u2,rfl,h7,rfl⟩:=h5
 simp only [RC] at h7
 rcases h7 with ⟨_,rfl,_⟩ | ⟨b',o,cap,ds,_,_,h8,_⟩
 · refine ⟨el,?_⟩
   have:arr.toList=[.slice none 0 0]:=by
    have h9:arr.toList.length=1:=by simpa using h4
    simpa [List.take_of_length_le,h9] using h6
   rw [h3,show arr=[Value.slice none 0 0].toArray from by rw [<- this]]
 · simp [zCv] at h8
theorem zOR {n0 bx T3 B4 K0 n n':Nat} {kd k' a':Int} {sv' bv:Value} {ds ds':List Value} {w W w':World} {g':Gh} {s':S} {tb tk tn:TypeId} (h0:n0<=bx) (hv:W.heap[bx]? = some (.cells #[bv] tb (0,0))) (hr:Row W n0 bx bv n ds)
 (hT:W.heap[T3]? = some (.cells #[.int .i64 kd] tk (0,0))) (hB4:W.heap[B4]? = some (.cells #[.int .i64 k',.int .i64 a',sv'] tn (0,0))) (hbel:Below n0 w W)
 (hS:Step n0 ⟨wmF bv bx T3 B4 W,fun _=>none,frW W⟩ W g' w') (hI:Al.Inv n0 g' s' w') (hq:BoxQ bx T3 B4 kd k' a' sv' n' ds' s') :
 KeepsFrom K0 W w'/\jH n0 bx W w'/\(GrowF n0 bx w ds' n' w'/\∃ t,w'.heap[T3]? = some (.cells #[.int .i64 kd] t (0,0))):=by
 obtain ⟨tk',hT'⟩:=zCZ hI hq.t3
 obtain ⟨tn',hB4'⟩:=zCZ hI hq.b4
 obtain ⟨v',t',hv',hr',hown⟩:∃ v' t',w'.heap[bx]? = some (.cells #[v'] t' (0,0))/\Row w' n0 bx v' n' ds'/\∀ b,v'.ownBlock=some b->b≠bx/\b≠T3/\b≠B4/\g'.wm b=0:=by
  rcases hq.row with ⟨rfl,rfl,h1⟩ | ⟨b,cap,h1,h2,h3,h4,h5,h6,h7,h8,h9⟩
  · obtain ⟨el,h2⟩:=zOq hI h1
    exact ⟨_,el,h2,.inl ⟨rfl,rfl,rfl⟩,fun b e=>by cases e⟩
  · obtain ⟨el,k1⟩:=zCZ hI h2
    obtain ⟨k2,k3,arr,el2,k4,k5,k6⟩:=zKF hI h3
    refine ⟨_,el,k1,.inr ⟨b,cap,arr,el2,rfl,k2,h5,k4,h4,k5,by rw [<- h8]; exact k6,h8,h1,h9⟩,fun b' e=>?_⟩
    have:b=b':=by simpa [Value.ownBlock] using e
    subst this
    exact ⟨h5,h6,h7,k3⟩
 have hG:GrowF n0 bx w ds' n' w':=⟨v',⟨t',hv'⟩,hr',hbel.trans hS.below⟩
 refine ⟨⟨hS.below.size,fun k o _ hk hc=>((hS.fz k (zMm hk (by cases o <;> first | rfl | (cases hc)))).1).trans hk⟩,fun _=>⟨hG.box h0,hS.below.size,fun b o u hb hx=>?_,fun b hx=>?_,fun b hb=>hS.below.block b hb⟩,hG,tk',hT'⟩
 · have h1:b≠bx:=fun e=>hx ((hr.exb hv b).2 (.inl e))
   have h2:bv.ownBlock≠some b:=fun e=>hx ((hr.exb hv b).2 (.inr e))
   by_cases h3:b=T3
   · subst h3
     simpa [World.cell?,hT,hT'] using hb
   · by_cases h4:b=B4
     · subst h4
       simpa [World.cell?,hB4,hB4'] using hb
     · have hn:¬ (b=bx\/b=T3\/b=B4\/bv.ownBlock=some b):=fun e=>by
        rcases e with e | e | e | e
        · exact h1 e
        · exact h3 e
        · exact h4 e
        · exact h2 e
       refine (hS.later.cell b o ?_).trans hb
       show o < wmF bv bx T3 B4 W b
       cases hk:W.heap[b]? with
       | none=>simp [World.cell?,hk] at hb
       | some ob=>
        cases ob with
        | cells arr el m=>
         rw [zIK hn hk]
         simp only [World.cell?,hk] at hb
         have:=(Array.getElem?_eq_some_iff.1 (by simpa using hb)).1
         omega
        | _=>simp [World.cell?,hk] at hb
 · rcases (hr'.exb hv' b).1 hx with rfl | h1
   · exact .inl (.inl rfl)
   · obtain ⟨q1,q2,q3,q4⟩:=hown b h1
     obtain ⟨_,_,cap,arr,el,_,q5⟩:=hr'.own h1
     by_cases hlt:W.heap.size<=b
     · exact .inr hlt
     · left
       refine (hr.exb hv b).2 (.inr ?_)
       by_cases hown':bv.ownBlock=some b
       · exact hown'
       · exfalso
         have hn:¬ (b=bx\/b=T3\/b=B4\/bv.ownBlock=some b):=fun e=>by
          rcases e with e | e | e | e
          · exact q1 e
          · exact q2 e
          · exact q3 e
          · exact hown' e
         cases hk:W.heap[b]? with
         | none=>rw [Array.getElem?_eq_none_iff] at hk; omega
         | some ob=>
          cases ob with
          | cells arr el m=>
           have h1:=hS.later.wm b
           replace h1:wmF bv bx T3 B4 W b<=g'.wm b:=h1
           rw [zIK hn hk] at h1
           omega
          | _=>
           have h1:=((hS.fz b (zMm hk rfl)).1).trans hk
           rw [q5] at h1
           cases h1
def lvF {g:Gh} {w0:World} (kd:Int):List (El g w0)->List Nd
 | []=>[]
 | x::r=>if x.1.1.kind=kd then x.1.1::lvF kd r else lvF kd r
def dsF {g:Gh} {w0:World} (kd:Int):List (El g w0)->List Value
 | []=>[]
 | x::r=>if x.1.1.kind=kd then x.1.2.cells.toList++dsF kd r else dsF kd r
theorem zKR {g:Gh} {w0:World} (kd:Int):∀ a b:List (El g w0),lvF kd (a++b)=lvF kd a++lvF kd b
 | [],b=>rfl
 | x::a,b=>by simp only [List.cons_append,lvF,zKR kd a b]; split <;> rfl
theorem zKr {g:Gh} {w0:World} (kd:Int):∀ a b:List (El g w0),dsF kd (a++b)=dsF kd a++dsF kd b
 | [],b=>rfl
 | x::a,b=>by simp only [List.cons_append,dsF,zKr kd a b]; split <;> simp
theorem zKZ {g:Gh} {w0:World} (kd:Int):∀ a:List (El g w0),(lvF kd a).length<=a.length
 | []=>Nat.le_refl _
 | x::a=>by have:=zKZ kd a; simp only [lvF]; split <;> simp <;> omega
theorem zMX {g:Gh} {w0:World} (kd:Int):∀ a:List (El g w0),lvF kd a=(a.map (·.1.1)).filter (fun t=>t.kind == kd)
 | []=>rfl
 | x::a=>by
  simp only [lvF,List.map_cons,List.filter_cons,zMX kd a,beq_iff_eq]
theorem zM2 {g:Gh} {w0:World} (kd:Int):∀ a:List (El g w0),RCs g w0 ((lvF kd a).map yA) (dsF kd a)
 | []=>by simp [lvF,dsF,RCs]
 | x::a=>by
  have ih:=zM2 kd a
  simp only [lvF,dsF]
  split
  · obtain ⟨⟨⟨k,a',ks⟩,v⟩,hx⟩:=x
    obtain ⟨sv,rfl,hs⟩:=zAz hx
    simp only [List.map_cons,RCs]
    refine ⟨[.int .i64 k,.int .i64 a',sv],_,rfl,?_,ih⟩
    obtain ⟨us,h1,h2⟩:=zBv (show RV g w0 (.agg [vi k,vi a',sl (qE ks)]) _ from hx)
    have:us=[.int .i64 k,.int .i64 a',sv]:=by
     have:=congrArg (fun v=>match v with | Value.agg a=>a.toList | _=>[]) h2
     simpa using this.symm
    subst this
    show RC g w0 (.agg [vi k,vi a',sl (qE ks)]) _
    simp only [RC]; exact h1
  · exact ih
set_option maxRecDepth 100000 in
set_option maxHeartbeats 1000000 in
theorem zQC (m:Nat) (hm:3<=m) (wm:Nat->Nat) (w:World) (hwm:∀ b,w.heap.size<=b->wm b=0) (hgl:GlobOk w.heap.size wm w) (t:Nd) (v:Value) (kd:Int) (hv:RV ⟨wm,fun _=>none,Fr.no⟩ w (yA t) v) (hN:(allT t).length<=1000000) :
 CallsIn Fence.wide m Tryz.prog 32 #[v,.int .i64 kd] w fun e W'=>∃ v' ds,e = .returned v' /\
  Row W' w.heap.size (w.heap.size+1+1) v' ((allT t).filter (fun t=>t.kind == kd)).length ds/\RCs ⟨wm,fun _=>none,Fr.no⟩ w (((allT t).filter (fun t=>t.kind == kd)).map yA) ds/\Below w.heap.size w W':=by
 obtain ⟨k,a,ks⟩:=t
 obtain ⟨sv,rfl,hsv⟩:=zAz hv
 have hF:∀ f,Fence.wide.fn f:=fun _=>trivial
 refine callsIn_of_wp_marks Tryz.func32 rfl (hF _) ?_ rfl
 simp only [Tryz.ntmps32,List.size_toArray,List.length_cons,List.length_nil,Nat.reduceAdd,Nat.reduceSub,Array.replicate_succ,Array.replicate_zero,List.push_toArray,List.append_toArray,List.nil_append,List.cons_append]
 have hdd:∀ k:Nat,(Fence.wide.depth.isSome=true->1<=k):=fun k h=>by cases h
 gi_wp2_with ((try refine ⟨hdd _,?_⟩); gi_at_call 51; refine (all_in Fence.wide hF rfl _ _ _ _ _).mono ?_; rintro e w' ⟨rfl,rfl⟩)
 obtain ⟨W2,hW2⟩:∃ W2,(((w.alloc (.cells #[.int .i64 k,.int .i64 a,sv] 29)).alloc (.cells #[.int .i64 kd] 3)).alloc (.cells #[.slice none 0 0] 27)).alloc (.cells #[.int .i64 k,.int .i64 a,sv] 29)=W2:=⟨_,rfl⟩
 have hsz2:W2.heap.size=w.heap.size+4:=by rw [<- hW2]; simp
 have hb2:Below w.heap.size w W2:=by rw [<- hW2]; exact ((((Below.refl _ w).alloc (Nat.le_refl _) _).alloc (by simp) _).alloc (by simp; omega) _).alloc (by simp; omega) _
 have hk2:W2.heap[w.heap.size+1]? = some (.cells #[.int .i64 kd] 3 (0,0)):=by
  rw [<- hW2,Below.heap_alloc _ _ _ (by simp),Below.heap_alloc _ _ _ (by simp)]
  have:=World.alloc_heap_new (w.alloc (.cells #[.int .i64 k,.int .i64 a,sv] 29)) (.cells #[.int .i64 kd] 3 (0,0))
  simpa using this
 have hbx2:W2.heap[w.heap.size+1+1]? = some (.cells #[.slice none 0 0] 27 (0,0)):=by
  rw [<- hW2,Below.heap_alloc _ _ _ (by simp)]
  have:=World.alloc_heap_new ((w.alloc (.cells #[.int .i64 k,.int .i64 a,sv] 29)).alloc (.cells #[.int .i64 kd] 3)) (.cells #[.slice none 0 0] 27 (0,0))
  simpa using this
 have hbt2:W2.heap[w.heap.size+1+1+1]? = some (.cells #[.int .i64 k,.int .i64 a,sv] 29 (0,0)):=by
  rw [<- hW2]
  have:=World.alloc_heap_new (((w.alloc (.cells #[.int .i64 k,.int .i64 a,sv] 29)).alloc (.cells #[.int .i64 kd] 3)).alloc (.cells #[.slice none 0 0] 27)) (.cells #[.int .i64 k,.int .i64 a,sv] 29 (0,0))
  simpa using this
 have hS2:Same ⟨wm,fun _=>none,Fr.no⟩ w W2:=fun b o ho=>by
  have hb:b < w.heap.size:=by
   rcases Nat.lt_or_ge b w.heap.size with h1 | h1
   · exact h1
   · replace ho:o < wm b:=ho
     rw [hwm b h1] at ho; omega
  exact xN (hb2.block b hb) o
 have hG0:GrowF w.heap.size (w.heap.size+1+1) w [] 0 W2:=⟨_,⟨_,hbx2⟩,.inl ⟨rfl,rfl,rfl⟩,hb2⟩
 have hB2:=hG0.box (by omega)
 rw [hW2]
 refine wpIn_rangeFunc_ownH rfl (by omega) (gf:=70) (lb:=#[.pointer (some ⟨w.heap.size+1+1+1,0,none⟩)]) (by simp [Act.eval]) (hF 70) (enters_of Tryz.func70 (by kernel_rfl) rfl)
  (zL9 Fence.wide rfl hF rfl (m - 1) w.heap.size (w.heap.size+1+1) (w.heap.size+1+1+1) wm w W2 hwm (.mk k a ks) hN _ _ _ hS2 hv hB2 (by omega) hbt2) zIh (fun W l o o' hl h1 h2 _=>zIN W l o o' (by omega) h1 h2) (Below.refl _ _) (fun _=>rfl)
  (fun pre W=>GrowF w.heap.size (w.heap.size+1+1) w (dsF kd pre) (lvF kd pre).length W/\∃ t,W.heap[w.heap.size+1]? = some (.cells #[.int .i64 kd] t (0,0)))
  (fun _ _ _=>False) ?hI (fun _ _ _ _ _ hs _ _=>hs) ⟨hG0,_,hk2⟩
  (fun x a' W=>∃ B4 v0 v1 v2,x.1.2 = .agg #[v0,v1,v2]/\a' = { tmps:=#[.agg #[.int .i64 k,.int .i64 a,sv],.int .i64 kd,.pointer (some ⟨w.heap.size,0,none⟩),.pointer (some ⟨w.heap.size+1,0,none⟩),.slice none 0 0,.pointer (some ⟨w.heap.size+1+1,0,none⟩),.pointer (some ⟨B4,0,none⟩),.agg #[.int .i64 k,.int .i64 a,sv],.func (.func 70) #[] #[.pointer (some ⟨w.heap.size+1+1+1,0,none⟩)],x.1.2,undef,undef,undef,undef,undef,undef,undef,undef,undef,undef,undef],defers:=[] }/\W.heap[B4]? = some (.cells #[v0,v1,v2] 29 (0,0)) /\
   w.heap.size+3<=B4/\∃ bv t,W.heap[w.heap.size+1+1]? = some (.cells #[bv] t (0,0))/\bv.ownBlock≠some B4)
  ?hAx ?assign ?body ?done ?stop
 case hI=>exact fun pre A B row h hg hr=>⟨h.1.grown (Nat.le_refl _) hg (fun r e=>by obtain ⟨h1,h2⟩:=hr r e; exact ⟨by omega,h2⟩),h.2.imp fun t h2=>qL hg (fun r e=>(hr r e).2) h2⟩
 case hAx=>
  rintro x a' _ A B row ⟨B4,v0,v1,v2,e1,e3,e4,e5,bv,t,e6,e7⟩ hg hr
  exact ⟨B4,v0,v1,v2,e1,e3,qL hg (fun r e=>(hr r e).2) e4,e5,bv,t,qL hg (fun r e=>(hr r e).2) e6,e7⟩
 case assign=>
  rintro l pre ⟨⟨⟨k',a',ks'⟩,vx⟩,hx⟩ W K hI hK
  obtain ⟨sv',rfl,hsv'⟩:=zAz hx
  have h1c:=zIs hx
  have hst:=zAW (P:=Tryz.prog) W 29 #[.int .i64 k',.int .i64 a',.slice none 0 0] 2 (by simp) sv' h1c.2.2
  have hfin:∀ a2,a2=({ tmps:=#[.agg #[.int .i64 k,.int .i64 a,sv],.int .i64 kd,.pointer (some ⟨w.heap.size,0,none⟩),.pointer (some ⟨w.heap.size+1,0,none⟩),.slice none 0 0,.pointer (some ⟨w.heap.size+1+1,0,none⟩),.pointer (some ⟨W.heap.size,0,none⟩),.agg #[.int .i64 k,.int .i64 a,sv],.func (.func 70) #[] #[.pointer (some ⟨w.heap.size+1+1+1,0,none⟩)],.agg #[.int .i64 k',.int .i64 a',sv'],undef,undef,undef,undef,undef,undef,undef,undef,undef,undef,undef],defers:=[] }:Act)->K a2 (W.alloc (.cells #[.int .i64 k',.int .i64 a',sv'] 29)):=fun a2 e=>by
   have hg:=World.grownBy_alloc W (.cells #[.int .i64 k',.int .i64 a',sv'] 29) none
   have hI2:=hI
   obtain ⟨⟨bv,⟨t,hbv⟩,hrow,hbel⟩,tk,hkd⟩:=hI2
   have hszW:=hbel.size
   have hltk:=(Array.getElem?_eq_some_iff.1 hkd).1
   refine hK a2 _ ((KeepsOthers.alloc W _).from _) (fun hB=>Kept.grown hB hg) ⟨hI.1.grown (Nat.le_refl _) hg (fun r e=>by cases e),hI.2.imp fun t h2=>qL hg (fun r e=>by cases e) h2⟩
    ⟨W.heap.size,_,_,_,rfl,e,World.alloc_heap_new W _,?_,bv,t,qL hg (fun r e=>by cases e) hbv,fun e=>?_⟩
   · have:=(Array.getElem?_eq_some_iff.1 hbv).1
     omega
   · obtain ⟨_,_,_,arr,el,_,h2⟩:=hrow.own e
     have:=(Array.getElem?_eq_some_iff.1 h2).1
     omega
  gi_wp2_with (rw [hst])
  rfl
 case body=>
  rintro l pre x a' W hl hL ⟨⟨bv,⟨tb,hbv⟩,hrow,hbel⟩,tk,hkd⟩ ⟨B4,v0,v1,v2,e1,rfl,hB4,hB4n,bv',tb',hbv',hB4r⟩ hlen
  obtain ⟨⟨⟨k',a',ks'⟩,vx⟩,hx⟩:=x
  obtain ⟨sv',rfl,hsv'⟩:=zAz hx
  injection e1 with e1
  have e0:=congrArg Array.toList e1
  simp only [List.cons.injEq,and_true] at e0
  obtain ⟨rfl,rfl,rfl⟩:=e0
  have hne1:¬ w.heap.size+1+1=w.heap.size+1:=by omega
  have hne1':¬ w.heap.size+1=w.heap.size+1+1:=by omega
  have hne2:¬ w.heap.size+1+1=B4:=by omega
  have hne2':¬ B4=w.heap.size+1+1:=by omega
  have hne3:¬ w.heap.size+1=B4:=by omega
  have hne3':¬ B4=w.heap.size+1:=by omega
  have h1c:one (.int .i64 k')=true/\one (.int .i64 a')=true/\one sv' = true:=by
   obtain ⟨ks2,hks⟩:∃ ks2,RC ⟨wm,fun _=>none,Fr.no⟩ w (.lst (zh (qE ks')) ks2) [sv']:=⟨_,hsv'⟩
   refine ⟨rfl,rfl,?_⟩
   simp only [RC] at hks
   rcases hks with ⟨_,h,_⟩ | ⟨b,o,cap,ds,h,_⟩
   · injection h with h; subst h; rfl
   · injection h with h; subst h; rfl
  have hll:=zKZ kd pre
  have hb1:(lvF kd pre).length+1<=1000000:=by omega
  obtain ⟨n,hn⟩:∃ n,n=(lvF kd pre).length:=⟨_,rfl⟩
  obtain ⟨ds,hds⟩:∃ ds,ds=dsF kd pre:=⟨_,rfl⟩
  rw [<- hn] at hb1
  rw [<- hn,<- hds] at hrow
  obtain ⟨n',ds',hnd,hnn,hdd'⟩:∃ n' ds',(k' = kd->n' = n+1/\ds' = ds++[.int .i64 k',.int .i64 a',sv'])/\(k'≠kd->n' = n)/\(k'≠kd->ds' = ds):=by
   by_cases h:k' = kd
   · exact ⟨_,_,fun _=>⟨rfl,rfl⟩,fun e=>absurd h e,fun e=>absurd h e⟩
   · exact ⟨_,_,fun e=>absurd e h,fun _=>rfl,fun _=>rfl⟩
  refine zII (zNz (X:=⟨w.heap.size,⟨21,[]⟩,some l,[]⟩) (g:=⟨wmF bv (w.heap.size+1+1) (w.heap.size+1) B4 W,fun _=>none,frW W⟩) (Q:=fun ex e' s'=>ex = .normal/\BoxQ (w.heap.size+1+1) (w.heap.size+1) B4 kd k' a' sv' n' ds' s') (e:=[(3,.at (.pointer (some ⟨w.heap.size+1,0,none⟩))),(5,.at (.pointer (some ⟨w.heap.size+1+1,0,none⟩))),(6,.at (.pointer (some ⟨B4,0,none⟩)))]) ⟨rfl,fun p hp=>by simp at hp⟩ rfl (globF hgl hbel (by show w.heap.size<=_; omega) (by show w.heap.size<=_; omega) (by show w.heap.size<=_; omega) (fun b e=>(hrow.own e).1)) ?hP ?hE ?hA)
  case hE=>
   intro k1
   by_cases e3:k1=3
   · subst e3; exact zw rfl
   · by_cases e5:k1=5
     · subst e5; exact zw rfl
     · by_cases e6:k1=6
       · subst e6; exact zw rfl
       · have:Env.get [(3,.at (.pointer (some ⟨w.heap.size+1,0,none⟩))),(5,.at (.pointer (some ⟨w.heap.size+1+1,0,none⟩))),(6,.at (.pointer (some ⟨B4,0,none⟩)))] k1=V.any:=by
          simp only [Env.get,Ne.symm e3,Ne.symm e5,Ne.symm e6,if_false]
         rw [this]
         trivial
  case hP=>
   rintro ex a2 w2 g' e' s' h1 h2 ⟨rfl,h3⟩
   have hR:=zOR (K0:=w.heap.size+4) (by omega) hbv hrow hkd hB4 hbel h1 h2 h3
   have e1:dsF kd (pre++[⟨(.mk k' a' ks',.agg #[.int .i64 k',.int .i64 a',sv']),hx⟩])=ds':=by
    rw [zKr,<- hds]
    by_cases h:k' = kd
    · rw [(hnd h).2]; simp only [dsF,Nd.kind,h,if_true]; rfl
    · rw [hdd' h]; simp only [dsF,Nd.kind,h,if_false,List.append_nil]
   have e2:(lvF kd (pre++[⟨(.mk k' a' ks',.agg #[.int .i64 k',.int .i64 a',sv']),hx⟩])).length=n':=by
    rw [zKR,List.length_append,<- hn]
    by_cases h:k' = kd
    · rw [(hnd h).1]; simp only [lvF,Nd.kind,h,if_true]; rfl
    · rw [hnn h]; simp only [lvF,Nd.kind,h,if_false]; rfl
   rw [<- e1,<- e2] at hR
   refine ⟨?_,hR.2.1,hR.2.2⟩
   rw [hsz2]; exact hR.1
  case hA=>
   rcases hrow with ⟨rfl,rfl,rfl⟩ | hrow
   · refine ⟨⟨[(w.heap.size+1+1,[.lst .nil []],1),(w.heap.size+1,[.at (.int .i64 kd)],1),(B4,[.at (.int .i64 k'),.at (.int .i64 a'),.at sv'],3)],[],0,[]⟩,?_,?_⟩
     · generalize hst:(⟨[(w.heap.size+1+1,[.lst .nil []],1),(w.heap.size+1,[.at (.int .i64 kd)],1),(B4,[.at (.int .i64 k'),.at (.int .i64 a'),.at sv'],3)],[],0,[]⟩:S)=st
       have l1:Go.Al.look st.box (w.heap.size+1+1)=some ([.lst .nil []],1):=by rw [<- hst]; simp [Go.Al.look]
       have l2:Go.Al.look st.box (w.heap.size+1)=some ([.at (.int .i64 kd)],1):=by rw [<- hst]; simp [Go.Al.look]
       have l3:Go.Al.look st.box B4=some ([.at (.int .i64 k'),.at (.int .i64 a'),.at sv'],3):=by rw [<- hst]; simp [Go.Al.look,hne2,hne3]
       clear hst
       (repeat (first | (refine ya ?_) | (refine zq ?_; simp -failIfUnchanged only [zH,zN]) | (refine yd ?_; simp -failIfUnchanged only [zz,zu,yN,z8]) | (refine yI ?_; simp -failIfUnchanged only [zr,zo,zH,zN,reduceIte]) | (refine zv ?_) | ((first | (refine yc polF zA7 _ rfl rfl ?_) | (refine yH polF mixed zA7 _ rfl rfl (by kernel_rfl) (by kernel_rfl) ?_)); simp only [↓xK,↓kn,↓xP,↓qP,zH,zp,z6,yQ,yz,yE,z7,qR,zFF,xU,xI,yu,xO,implies_true,and_self,ye,yS,List.length_cons,List.length_nil,List.drop_zero,List.take_succ_cons,List.take_zero,List.take_nil,List.getD_cons_zero,Bool.true_and,Bool.and_self,if_true,if_false,true_and,Nat.reduceAdd,Nat.reduceEqDiff,Nat.reduceLeDiff,Bool.false_eq_true,Nat.zero_add,Nat.add_zero,Nat.le_refl,Nat.lt_add_one,zF3,zF7,zDs,zKL,zA7,x9,l2,l3])))
       refine ja rfl (fun hk=>?_) (fun hk=>?_)
       · obtain rfl:k' = kd:=eq_of_beq hk
         obtain ⟨rfl,rfl⟩:=hnd rfl
         refine zGz polF mixed zA7 (.tmp 19) (.tmp 5) _ rfl rfl (by kernel_rfl) (by kernel_rfl) (by decide) ⟨_,_,_,_,_,_,_,_,_,_,rfl,rfl⟩ ?_
         simp only [↓xK,↓kJ,↓qP,↓zAp,↓zBN,↓zBr,↓zDn,zN,zp,jT,z6,yQ,yz,xR,yE,z7,zOg,xU,xI,kW,qK,qS,jw,zC7,zOK,zPk,zBR,spl,zAk,zE0,zGe,qh,zDm,zDR,zK7,zBO,Option.map_some,implies_true,false_implies,Nat.reduceLT,Nat.one_mul,zEC,zEI,zDE,List.map_cons,List.map_nil,List.nil_append,List.append_nil,and_self,beq_self_eq_true,ye,yS,zJ,V.isOne,V.size,V.flat,jW,List.all_cons,List.all_nil,List.length_cons,List.length_nil,List.drop_zero,List.drop_succ_cons,List.take_succ_cons,List.take_nil,List.getD_cons_zero,Bool.true_and,Bool.and_self,Option.isSome_some,if_true,if_false,true_and,Nat.reduceAdd,Nat.reduceEqDiff,Nat.reduceLeDiff,reduceCtorEq,Bool.false_eq_true,Nat.zero_add,Nat.add_zero,Nat.le_refl,zW,zb,Nat.reduceBEq,zDi,zJC,zCd,elT27,zD1,zEB,zBf,zKl,zIZ,zA7,zKV,l1,l3]
         refine ⟨by simp,fun b cap hb hcap=>⟨⟨by omega,by omega⟩,by simp,?_⟩⟩
         have m1:¬ b=w.heap.size+1+1:=fun e=>by rw [e,l1] at hb; cases hb
         have m1':¬ w.heap.size+1+1=b:=fun e=>m1 e.symm
         have m2:¬ b=w.heap.size+1:=fun e=>by rw [e,l2] at hb; cases hb
         have m3:¬ b=B4:=fun e=>by rw [e,l3] at hb; cases hb
         have z0:((0:Nat):Int).toNat=0:=rfl
         simp only [qK,spl,List.nil_append,List.append_nil,and_self,zJ,V.isOne,V.flat,List.all_cons,List.all_nil,List.length_cons,List.length_nil,List.drop_succ_cons,List.take_zero,Bool.true_and,Bool.and_self,if_false,true_and,Nat.zero_add,Nat.le_refl,Nat.zero_mul,zDi,zCd,m1,z0,Nat.zero_mul,List.drop_nil]
         refine ⟨⟨_,_,_,_,rfl,rfl,m1⟩,?_⟩
         refine ⟨by simp [zW,m2,hne1,l2],by simp [zW,m3,hne2,l3],.inr ⟨b,cap,Nat.zero_lt_one,by simp [zW],by simp [zW,m1'],hcap,m1,m2,m3,rfl,by simpa using h1c⟩⟩
       · have hk':k'≠kd:=beq_eq_false_iff_ne.1 hk
         refine zq ?_
         refine ⟨rfl,?_⟩
         rw [hnn hk',hdd' hk']
         exact ⟨l2,l3,.inl ⟨rfl,rfl,l1⟩⟩
     · exact zLx hbel.size (fun b h=>zKI h) (fun _=>rfl) (fun b h=>zKN h) (fun _=>rfl) (jZ (zPl (by show w.heap.size<=_; omega) (zAq (.inl rfl)) hbv) (jZ (zCu (l:=[.int .i64 kd]) (by show w.heap.size<=_; omega) (zAq (.inr (.inl rfl))) hkd rfl rfl (by simp [one])) (jZ (zCu (l:=[.int .i64 k',.int .i64 a',sv']) (by show w.heap.size<=_; omega) (zAq (.inr (.inr (.inl rfl)))) hB4 rfl rfl (by simpa using h1c)) zG0)))
   · obtain ⟨r,cap,arr,el,rfl,hr0,hrbx,hrh,hncap,hrs,htk,hdl,hnp,hone⟩:=hrow
     have hrT:r≠w.heap.size+1:=fun e=>by
      subst e; rw [hkd] at hrh; injection hrh with hrh; injection hrh with e1; subst e1
      simp at hrs; omega
     have hrB:r≠B4:=fun e=>by
      rw [hbv] at hbv'; injection hbv' with hbv'; injection hbv' with e1
      have e2:bv' = .slice (some ⟨r,0,none⟩) n cap:=by simpa using e1.symm
      exact hB4r (by rw [e2,e]; rfl)
     have hrbx':¬ w.heap.size+1+1=r:=fun e=>hrbx e.symm
     have hrT':¬ w.heap.size+1=r:=fun e=>hrT e.symm
     have hrB':¬ B4=r:=fun e=>hrB e.symm
     refine ⟨⟨[(w.heap.size+1+1,[.at (.slice (some ⟨r,0,none⟩) n cap)],1),(w.heap.size+1,[.at (.int .i64 kd)],1),(B4,[.at (.int .i64 k'),.at (.int .i64 a'),.at sv'],3),(r,ds.map V.at,cap * 3)],[],0,[]⟩,?_,?_⟩
     · generalize hst:(⟨[(w.heap.size+1+1,[.at (.slice (some ⟨r,0,none⟩) n cap)],1),(w.heap.size+1,[.at (.int .i64 kd)],1),(B4,[.at (.int .i64 k'),.at (.int .i64 a'),.at sv'],3),(r,ds.map V.at,cap * 3)],[],0,[]⟩:S)=st
       have l1:Go.Al.look st.box (w.heap.size+1+1)=some ([.at (.slice (some ⟨r,0,none⟩) n cap)],1):=by rw [<- hst]; simp [Go.Al.look]
       have l2:Go.Al.look st.box (w.heap.size+1)=some ([.at (.int .i64 kd)],1):=by rw [<- hst]; simp [Go.Al.look]
       have l3:Go.Al.look st.box B4=some ([.at (.int .i64 k'),.at (.int .i64 a'),.at sv'],3):=by rw [<- hst]; simp [Go.Al.look,hne2,hne3]
       have l4:Go.Al.look st.box r=some (ds.map V.at,cap * 3):=by rw [<- hst]; simp [Go.Al.look,hrbx',hrT',hrB']
       clear hst
       (repeat (first | (refine ya ?_) | (refine zq ?_; simp -failIfUnchanged only [zH,zN]) | (refine yd ?_; simp -failIfUnchanged only [zz,zu,yN,z8]) | (refine yI ?_; simp -failIfUnchanged only [zr,zo,zH,zN,reduceIte]) | (refine zv ?_) | ((first | (refine yc polF zA7 _ rfl rfl ?_) | (refine yH polF mixed zA7 _ rfl rfl (by kernel_rfl) (by kernel_rfl) ?_)); simp only [↓xK,↓kn,↓xP,↓qP,zH,zp,z6,yQ,yz,yE,z7,qR,zFF,xU,xI,yu,xO,implies_true,and_self,ye,yS,List.length_cons,List.length_nil,List.drop_zero,List.take_succ_cons,List.take_zero,List.take_nil,List.getD_cons_zero,Bool.true_and,Bool.and_self,if_true,if_false,true_and,Nat.reduceAdd,Nat.reduceEqDiff,Nat.reduceLeDiff,Bool.false_eq_true,Nat.zero_add,Nat.add_zero,Nat.le_refl,Nat.lt_add_one,zF3,zF7,zDs,zKL,zA7,x9,l2,l3])))
       refine ja rfl (fun hk=>?_) (fun hk=>?_)
       · obtain rfl:k' = kd:=eq_of_beq hk
         obtain ⟨rfl,rfl⟩:=hnd rfl
         refine zGz polF mixed zA7 (.tmp 19) (.tmp 5) _ rfl rfl (by kernel_rfl) (by kernel_rfl) (by decide) ⟨_,_,_,_,_,_,_,_,_,_,rfl,rfl⟩ ?_
         simp only [↓xK,↓kJ,↓qP,↓zAp,↓zBN,↓zBr,↓zDn,zN,zp,jT,z6,yQ,yz,xR,yE,z7,zAT,xU,xI,kW,qK,qS,jw,zC7,zBR,spl,zAk,zE0,zGe,qh,zDm,zDR,zK7,zBO,Option.map_some,implies_true,false_implies,Nat.reduceLT,Nat.one_mul,zEC,zEI,zDE,List.map_cons,List.map_nil,List.append_nil,and_self,beq_self_eq_true,ye,yS,zJ,V.isOne,V.size,V.flat,jW,List.all_cons,List.all_nil,List.length_cons,List.length_nil,List.drop_zero,List.take_succ_cons,List.take_nil,List.getD_cons_zero,List.length_map,Bool.true_and,Bool.and_self,Option.isSome_some,if_true,if_false,true_and,Nat.reduceAdd,Nat.reduceEqDiff,Nat.reduceLeDiff,reduceCtorEq,Bool.false_eq_true,Nat.zero_add,Nat.add_zero,Nat.le_refl,zW,yh,zJS,zFb,zb,Nat.reduceBEq,zDi,zJC,zCd,elT27,zD1,zEB,zBf,zKl,zIZ,zA7,zKV,l1,l3,l4,hrbx]
         refine ⟨⟨by omega,by simp only [maxLen]; omega⟩,hncap,by omega,fun b cap2 hb hcap=>⟨⟨by omega,by omega⟩,by simp [hdl],?_⟩⟩
         have m1:¬ b=w.heap.size+1+1:=fun e=>by rw [e,if_neg hrbx,l1] at hb; cases hb
         have m1':¬ w.heap.size+1+1=b:=fun e=>m1 e.symm
         have m2:¬ b=w.heap.size+1:=fun e=>by rw [e,if_neg hrT,l2] at hb; cases hb
         have m3:¬ b=B4:=fun e=>by rw [e,if_neg hrB,l3] at hb; cases hb
         have hcell:=zMf ds n hdl [V.at (.int .i64 0),V.at (.int .i64 0),V.lst Tag.nil []] [.int .i64 k',.int .i64 a',sv'] rfl
         simp only [qK,spl,List.nil_append,List.append_nil,and_self,zJ,V.isOne,V.flat,List.all_cons,List.all_nil,List.length_cons,List.length_nil,List.drop_zero,List.drop_succ_cons,List.take_zero,Bool.true_and,Bool.and_self,if_false,true_and,Nat.zero_add,Nat.le_refl,zDi,zCd,m1,Int.toNat_natCast]
         simp only [List.map_cons,List.map_nil] at hcell
         rw [hcell]
         refine ⟨⟨_,_,_,_,rfl,rfl,m1⟩,?_⟩
         refine ⟨by simp [zW,yh,m2,hne1,hrT,l2],by simp [zW,yh,m3,hne2,hrB,l3],.inr ⟨b,cap2,Nat.succ_pos _,by simp [zW],by simp [zW,m1'],hcap,m1,m2,m3,by simp [hdl]; omega,fun d hd=>?_⟩⟩
         rcases List.mem_append.1 hd with hd | hd
         · exact hone d hd
         · simp only [List.mem_cons,List.not_mem_nil,or_false] at hd
           rcases hd with e | e | e
           · rw [e]; rfl
           · rw [e]; rfl
           · rw [e]; exact h1c.2.2
       · have hk':k'≠kd:=beq_eq_false_iff_ne.1 hk
         refine zq ?_
         refine ⟨rfl,?_⟩
         rw [hnn hk',hdd' hk']
         exact ⟨l2,l3,.inr ⟨r,cap,hnp,l1,l4,hncap,hrbx,hrT,hrB,hdl,hone⟩⟩
     · exact zLx hbel.size (fun b h=>zKI h) (fun _=>rfl) (fun b h=>zKN h) (fun _=>rfl) (jZ (zCu (l:=[.slice (some ⟨r,0,none⟩) n cap]) (by show w.heap.size<=_; omega) (zAq (.inl rfl)) hbv rfl rfl (by simp [one])) (jZ (zCu (l:=[.int .i64 kd]) (by show w.heap.size<=_; omega) (zAq (.inr (.inl rfl))) hkd rfl rfl (by simp [one])) (jZ (zCu (l:=[.int .i64 k',.int .i64 a',sv']) (by show w.heap.size<=_; omega) (zAq (.inr (.inr (.inl rfl)))) hB4 rfl rfl (by simpa using h1c)) (jZ (zCu (l:=ds) hr0 (zAq (.inr (.inr (.inr rfl)))) hrh hrs (by rw [hdl]; exact htk) hone) zG0))))
 case stop=>
  rintro D c pre W _ _ h _
  exact h.elim
 case done=>
  rintro D ys W hD hys ⟨⟨bv,⟨tb,hbv⟩,hrow,hbel⟩,tk,hkd⟩ hK
  have cb:W.cell? ⟨w.heap.size+1+1,0,none⟩=some bv:=by simp [World.cell?,hbv]
  gi_wp2
  refine ⟨by simp,.inl ⟨_,_,rfl,run_takeDeferred hK,?_⟩⟩
  have hgD:=grownBy_putObj' W D (.deferred none)
  have hlv:lvF kd ys=(allT (.mk k a ks)).filter (fun t=>t.kind == kd):=by rw [zMX]; exact congrArg _ hys
  have hrc:=zM2 kd ys
  have hrow':Row (W.putObj D (.deferred none)) w.heap.size (w.heap.size+1+1) bv (lvF kd ys).length (dsF kd ys):=hrow.kept fun b e=>by
   obtain ⟨_,_,cap,arr,el,_,h2⟩:=hrow.own e
   exact (qL hgD (fun r e=>by injection e with e; subst e; exact ⟨_,hK,rfl⟩) h2).trans h2.symm
  refine ⟨_,results_tmp rfl _ _ _,bv,dsF kd ys,rfl,?_⟩
  rw [<- hlv]
  exact ⟨hrow',hrc,hbel.grown hgD hbel.size (fun k e=>by injection e with e; omega)⟩
end
section
open Go.Al Go.Den Go.RowKit Go.Shelf
theorem zOa {wm:Nat->Nat} {w W':World} (hwm:∀ b,w.heap.size<=b->wm b=0) (hbel:Below w.heap.size w W') {n bx:Nat} {v:Value} {ds:List Value} (hrow:Row W' w.heap.size bx v n ds)
 (es:List V) (hl:n=es.length) (hu:∀ x ∈ es,x.size=3) (hrc:RCs ⟨wm,fun _=>none,Fr.no⟩ w es ds) :
 ∃ wm',(∀ b,W'.heap.size<=b->wm' b=0)/\Step w.heap.size ⟨wm,fun _=>none,Fr.no⟩ w ⟨wm',fun _=>none,Fr.no⟩ W'/\RV ⟨wm',fun _=>none,Fr.no⟩ W' (.lst (zh es) es) v:=by
 subst hl
 obtain ⟨q1,q2⟩:=qZ hwm hbel
 rcases hrow with ⟨h0,rfl,rfl⟩ | ⟨g,cap,cur,el,rfl,hg,_,hgb,hn,hcs,htk,hdl,hnp,_⟩
 · have:=List.length_eq_zero_iff.1 h0
   subst this
   refine ⟨wm,q1,q2,?_⟩
   exact xS (by unfold RC; exact .inl ⟨rfl,rfl,trivial⟩)
 · cases es with
   | nil=>simp at hnp
   | cons x r=>
    have hgl:=(Array.getElem?_eq_some_iff.1 hgb).1
    have hL:Later ⟨wm,fun _=>none,Fr.no⟩ w ⟨fun b=>if b=g then ds.length else wm b,fun _=>none,Fr.no⟩ W':=by
     refine ⟨fun b=>?_,fun _ _ h=>h,q2.later.cell⟩
     show wm b<=if b=g then ds.length else wm b
     split
     · rename_i h; rw [h,hwm g hg]; exact Nat.zero_le _
     · exact Nat.le_refl _
    refine ⟨fun b=>if b=g then ds.length else wm b,fun b hb=>?_,⟨hL,q2.below,fun b h=>(by simp [Fr.no] at h),fun b hb=>?_,rfl⟩,xS ?_⟩
    · show (if b=g then ds.length else wm b)=0
      rw [if_neg (by omega)]
      exact q1 b hb
    · show (if b=g then ds.length else wm b)=wm b
      rw [if_neg (by omega)]
    · simp only [RC]
      refine .inr ⟨g,0,cap,ds,rfl,hn,by simp [zh,zCv],zk hL _ _ hrc,⟨3,hu,by intro t nb s h; simp [zh] at h⟩,fun k u hk=>⟨?_,?_⟩⟩
      · have hk1:k < ds.length:=(List.getElem?_eq_some_iff.1 hk).1
        rw [<- htk,List.getElem?_take] at hk
        split at hk
        · simp only [World.cell?,hgb,Nat.zero_add]
          rw [Array.getElem?_toList] at hk
          simpa using hk
        · cases hk
      · have hk1:k < ds.length:=(List.getElem?_eq_some_iff.1 hk).1
        show 0+k < if g=g then ds.length else wm g
        rw [if_pos rfl]; omega
theorem zLR (t:Nd):(yA t).size=3:=by
 obtain ⟨k,a,ks⟩:=t
 rw [ju]; rfl
def fdT (t:Nd) (kd:Int):List Nd:=(allT t).filter fun t=>t.kind == kd
theorem pure32 (t:Nd) (kd:Int) (hN:(allT t).length<=1000000):qD Tryz.prog 32 [yA t,.at (.int .i64 kd)] (.lst (zh ((fdT t kd).map yA)) ((fdT t kd).map yA)):=by
 intro wm w us hwm hgl hu
 cases hu with
 | cons hu1 hu2=>
  cases hu2 with
  | cons hu3 hu4=>
   cases hu4
   have e:=zj (RV.of_RV1 hu3)
   subst e
   refine callsIn_wide.1 ((zQC 3 (Nat.le_refl _) wm w hwm hgl t _ kd (RV.of_RV1 hu1) hN).mono ?_)
   rintro e w' ⟨v',ds,rfl,hrow,hrc,hbel⟩
   obtain ⟨wm',h1,h2,h3⟩:=zOa hwm hbel hrow ((fdT t kd).map yA) (by simp [fdT]) (fun x hx=>by obtain ⟨y,_,rfl⟩:=List.mem_map.1 hx; exact zLR y) hrc
   exact ⟨_,wm',rfl,h1,h2,h3⟩
def c32 (x:Nd×Int×Unit):Option (List Nd×Unit):=if (allT x.1).length<=1000000 then some (fdT x.1 x.2.1,()) else none
theorem ok32' (t:Nd) (kd:Int) (u:Unit) (y:List Nd×Unit) (hx:c32 (t,kd,u)=some y) (vs:List V) (hvs:zBW CC as32 ((t,kd,u):zQ as32) vs):qD Tryz.prog 32 vs (finV ((xM CC rs32 (fun _=>false) 0 (y:zQ rs32)).map (trT CC ⟨id,id,id,id⟩))):=by
 obtain ⟨v,vs',rfl,hv,v2,vs2,rfl,hv2,hvs⟩:=hvs
 replace hvs:vs2=[]:=hvs
 subst hvs
 replace hv:v=trT CC ⟨id,id,id,id⟩ (argT CC (.st TI.node) false t):=hv
 rw [zNV] at hv
 subst hv
 replace hv2:v2 = .at (.int .i64 kd):=hv2
 subst hv2
 unfold c32 at hx
 split at hx
 · rename_i h
   injection hx with hx
   subst hx
   exact pure32 t kd h
 · cases hx
theorem ok32:ConOk CC Tryz.prog 32 ⟨as32,rs32,c32⟩:=fun x y hx vs hvs=>ok32' x.1 x.2.1 x.2.2 y hx vs hvs
end
section
open Go.Al Go.Den Go.RowKit Go.Shelf
attribute [local go_sem] Oper.semAt_some
theorem zPo:(Tryz.prog.info? 108).map (fun i=>(i.zero,i.size,i.bytes))=some (some (.agg #[.int .u8 0,.int .i64 0]),2,16):=by kernel_rfl
def chCs (l:List CharT):List Value:=l.flatMap chC
theorem zNY (l:List CharT) (x:CharT):chCs (l++[x])=chCs l++chC x:=by simp [chCs]
theorem zI8 (w:World) (u v:Value) (t:TypeId) (m:Nat×Nat):∀ j x,[u,v][j]? = some x->(w.alloc (.cells #[u,v] t m)).cell? ((⟨w.heap.size,0,none⟩:Addr).add j)=some x:=by
 intro j x hx
 have hn:=World.alloc_heap_new w (.cells #[u,v] t m)
 match j,hx with
 | 0,hx=>
  have:u=x:=by simpa using hx
  subst this
  show (w.alloc (.cells #[u,v] t m)).cell? ⟨w.heap.size,0,none⟩=some u
  unfold World.cell?
  simp only [hn]; rfl
 | 1,hx=>
  have:v=x:=by simpa using hx
  subst this
  show (w.alloc (.cells #[u,v] t m)).cell? ⟨w.heap.size,1,none⟩=some v
  unfold World.cell?
  simp only [hn]; rfl
 | j+2,hx=>simp at hx
set_option maxRecDepth 100000 in
set_option maxHeartbeats 1000000 in
theorem zPL (m:Nat) (hm:3<=m) (s:Str) (hlen:s.length < 1100000) (w:World) :
 CallsIn Fence.wide m Tryz.prog 62 #[.string ⟨s.toArray⟩] w fun e W'=>∃ v',e = .returned v'/\W'.ownsRow w.heap.size 108 2 v' (chG s 0).length (chCs (chG s 0))/\((chG s 0).length=0->v' = .slice none 0 0)/\Below w.heap.size w W':=by
 have hF:∀ f,Fence.wide.fn f:=fun _=>trivial
 have hdd:∀ k:Nat,(Fence.wide.depth.isSome=true->1<=k):=fun k h=>by cases h
 refine callsIn_of_wp_marks Tryz.func62 rfl (hF _) ?_ rfl
 simp only [Tryz.ntmps62,List.size_toArray,List.length_cons,List.length_nil,Nat.reduceAdd,Nat.reduceSub,Array.replicate_succ,Array.replicate_zero,List.push_toArray,List.append_toArray,List.nil_append,List.cons_append]
 gi_wp2_with ((try refine ⟨hdd _,?_⟩); gi_at_call 87; refine (zOC _ _ _).mono ?_; rintro e w' ⟨rfl,rfl⟩)
 obtain ⟨W2,hW2⟩:∃ W2,(w.alloc (.cells #[.slice none 0 0] 99)).alloc (.cells #[.string ⟨s.toArray⟩] 9)=W2:=⟨_,rfl⟩
 have hsz2:W2.heap.size=w.heap.size+2:=by rw [<- hW2]; simp
 have hb2:Below w.heap.size w W2:=by rw [<- hW2]; exact ((Below.refl _ w).alloc (Nat.le_refl _) _).alloc (by simp) _
 have hbx2:W2.heap[w.heap.size]? = some (.cells #[.slice none 0 0] 99 (0,0)):=by
  rw [<- hW2,Below.heap_alloc _ _ _ (by simp)]
  exact World.alloc_heap_new w _
 have hbt2:W2.heap[w.heap.size+1]? = some (.cells #[.string ⟨s.toArray⟩] 9 (0,0)):=by
  rw [<- hW2]
  have:=World.alloc_heap_new (w.alloc (.cells #[.slice none 0 0] 99)) (.cells #[.string ⟨s.toArray⟩] 9 (0,0))
  simpa using this
 have hG0:Grow w.heap.size w.heap.size 99 108 2 w [] 0 W2:=⟨_,hbx2,World.ownsRow_nil W2 _ _ _,fun _=>rfl,hb2⟩
 have hB2:=hG0.box (Nat.le_refl _)
 have hx2:¬ exb w.heap.size W2 (w.heap.size+1):=fun h=>by
  rcases h with h | ⟨o,l,c,h⟩
  · omega
  · simp [World.cell?,hbx2] at h
 rw [hW2]
 refine wpIn_rangeFunc_ownH rfl (by omega) (gf:=118) (lb:=#[.pointer (some ⟨w.heap.size+1,0,none⟩)]) (by simp [Act.eval]) (hF 118) (enters_of Tryz.func118 (by kernel_rfl) rfl)
  (zJe (m - 1) w.heap.size w.heap.size (w.heap.size+1) s hlen W2 hB2 hx2 hbt2) zIh (fun W l o o' hl h1 h2 _=>zIN W l o o' (by omega) h1 h2) (Below.refl _ _) (fun _=>rfl)
  (fun pre W=>Grow w.heap.size w.heap.size 99 108 2 w (chCs pre) pre.length W)
  (fun _ _ _=>False) ?hI (fun _ _ _ _ _ hs _ _=>hs) hG0
  (fun x a' W=>∃ B4,a' = { tmps:=#[.string ⟨s.toArray⟩,undef,.slice none 0 0,.pointer (some ⟨w.heap.size,0,none⟩),.pointer (some ⟨B4,0,none⟩),.string ⟨s.toArray⟩,.func (.func 118) #[] #[.pointer (some ⟨w.heap.size+1,0,none⟩)],chV x,undef,undef,undef,undef,undef],defers:=[] }/\W.heap[B4]? = some (.cells #[.int .u8 x.b,.int .i64 x.fat] 108 (0,0)))
  ?hAx ?assign ?body ?done ?stop
 case hI=>exact fun pre A B row h hg hr=>h.own (Nat.le_refl _) hg (fun r e=>by obtain ⟨h1,h2⟩:=hr r e; exact ⟨by omega,h2⟩)
 case hAx=>
  rintro x a' _ A B row ⟨B4,e3,e4⟩ hg hr
  refine ⟨B4,e3,(hg.block B4 (Array.getElem?_eq_some_iff.1 e4).1 fun e=>?_).trans e4⟩
  obtain ⟨_,o,ho,hc⟩:=hr B4 e.symm
  rw [e4] at ho; injection ho with ho; subst ho; cases hc
 case assign=>
  rintro l pre ⟨xb,xa⟩ W K hI hK
  have hfin:∀ a2,a2=({ tmps:=#[.string ⟨s.toArray⟩,undef,.slice none 0 0,.pointer (some ⟨w.heap.size,0,none⟩),.pointer (some ⟨W.heap.size,0,none⟩),.string ⟨s.toArray⟩,.func (.func 118) #[] #[.pointer (some ⟨w.heap.size+1,0,none⟩)],chV ⟨xb,xa⟩,undef,undef,undef,undef,undef],defers:=[] }:Act)->K a2 (W.alloc (.cells #[.int .u8 xb,.int .i64 xa] 108)):=fun a2 e=>hK a2 _ ((KeepsOthers.alloc W _).from _) (fun hB=>Kept.grown hB (World.grownBy_alloc W _ none))
   (hI.own (Nat.le_refl _) (World.grownBy_alloc W _ none) (fun r e=>by cases e)) ⟨W.heap.size,e,World.alloc_heap_new W _⟩
  unfold chV at *
  gi_wp2
  rfl
 case body=>
  rintro l pre ⟨xb,xa⟩ a' W hl hL ⟨bv,hbv,hrow,hz,hbel⟩ ⟨B4,rfl,hB4⟩ hlen2
  replace hB4:W.heap[B4]? = some (.cells #[.int .u8 xb,.int .i64 xa] 108 (0,0)):=hB4
  have c0:W.cell? ⟨B4,0,none⟩=some (.int .u8 xb):=by simp [World.cell?,hB4]
  have c1:W.cell? ⟨B4,1,none⟩=some (.int .i64 xa):=by simp [World.cell?,hB4]
  have cb:W.cell? ⟨w.heap.size,0,none⟩=some bv:=by simp [World.cell?,hbv]
  obtain ⟨i0,hi,hz0,hz1,hz2⟩:=info_parts zPo
  have hb1:pre.length+1<=1100000:=by omega
  have hsz:w.heap.size<=W.heap.size:=hbel.size
  have hlt:w.heap.size < W.heap.size:=(Array.getElem?_eq_some_iff.1 hbv).1
  have hnb:some w.heap.size≠bv.ownBlock:=by
   rcases zH6 hrow hbv (fun cur e=>by cases e) with e | e
   · rw [e]; simp
   · exact fun e'=>e e'.symm
  gi_wp2_with (
   gi_at_builtin
   refine zDe _ rfl _ _ 99 rfl w.heap.size 108 i0 (.agg #[.int .u8 0,.int .i64 0]) 2 16 Tryz.underlying99 hi hz0 hz1 hz2 rfl (by decide) _ _ _ rfl (hrow.alloc _) ⟨W.heap.size,0,none⟩ 1 1 [.int .u8 xb,.int .i64 xa] rfl rfl (zI8 _ _ _ _ _) (by simp [Value.oneCell']) (Nat.le_trans hb1 (by decide)) (Nat.le_trans (Nat.mul_le_mul_right 16 hb1) (by decide)) (by simp; omega) ?_
   intro v' w3 hown' hg3 hnil3 hat
   have hv3:w3.heap[w.heap.size]? = some (.cells #[bv] 99 (0,0)):=(hg3.block _ (by simp; omega) hnb).trans ((Below.heap_alloc _ _ _ hlt).trans hbv)
   obtain ⟨hc3,hf3⟩:w3.cell? ⟨w.heap.size,0,none⟩=some bv/\w3.frozen? ⟨w.heap.size,0,none⟩=false:=by constructor <;> simp [World.cell?,World.frozen?,hv3]
   obtain ⟨g',cap',cur',rfl,hbase',hgb',hr1,hr2,hr3,hr4⟩:∃ g' cap' cur',v' = .slice (some ⟨g',0,none⟩) (pre.length+1) cap'/\w.heap.size<=g'/\w3.heap[g']? = some (.cells cur' 108 (0,0))/\pre.length+1<=cap'/\cap'<=maxLen/\cur'.size=cap' * 2/\cur'.toList.take ((pre.length+1) * 2)=chCs pre++[.int .u8 xb,.int .i64 xa]:=by
    rcases hown'.2 with ⟨_,h0⟩ | h'
    · exact absurd h0 (by omega)
    · exact h')
  have hg4:=grownBy_setCell' w3 w.heap.size (.slice (some ⟨g',0,none⟩) (pre.length+1) cap')
  have hg3':(W.alloc (.cells #[.int .u8 xb,.int .i64 xa] 108)).grownBy w3 bv.ownBlock:=hg3
  have hs3:W.heap.size+1<=w3.heap.size:=by have:=hg3'.size; simpa using this
  refine (?_:KeepsFrom _ _ _/\jH _ _ _ _/\Grow _ _ _ _ _ _ (chCs (pre++[_])) (pre++[_]).length _)
  rw [zNY,List.length_append,List.length_cons,List.length_nil]
  have hbel3:Below w.heap.size w w3:=(hbel.alloc hsz _).grown hg3' (by simp; omega) (fun k e=>zQP hrow e)
  refine Grow.round (Nat.le_refl _) hbv hrow (zHv _ hv3) (hown'.kept hg4 (zH6 hown' hv3 (fun cur e=>by cases e))) (fun e=>absurd e (by omega)) (hbel3.grown hg4 hbel3.size (fun k e=>by injection e with e; omega)) (by simp; omega) ?_ (fun b hb h1 h2=>?_)
  · rcases hat with e | e
    · exact .inl e
    · exact .inr ⟨_,e,by simp⟩
  · exact ((hg4.block b (by omega) (fun e=>h1 (by injection e))).trans (hg3'.block b (by simp; omega) (fun e=>h2 e.symm))).trans (Below.heap_alloc _ _ _ hb)
 case stop=>
  rintro D c pre W _ _ h _
  exact h.elim
 case done=>
  rintro D ys W hD hys ⟨bv,hbv,hrow,hz,hbel⟩ hK
  have cb:W.cell? ⟨w.heap.size,0,none⟩=some bv:=by simp [World.cell?,hbv]
  gi_wp2
  refine ⟨by simp,.inl ⟨_,_,rfl,run_takeDeferred hK,?_⟩⟩
  have hgD:=grownBy_putObj' W D (.deferred none)
  subst hys
  refine ⟨_,results_tmp rfl _ _ _,_,rfl,?_⟩
  refine ⟨hrow.kept hgD (zH6 hrow hK (fun cur e=>by cases e)),hz,hbel.grown hgD hbel.size (fun k e=>by injection e with e; omega)⟩
theorem zG2 {g:Gh} {w:World}:∀ l:List CharT,RCs g w (l.map yw) (chCs l)
 | []=>by simp [RCs,chCs]
 | x::r=>by
  have ih:=zG2 (g:=g) (w:=w) r
  simp only [List.map_cons,RCs]
  refine ⟨chC x,chCs r,by simp [chCs],?_,ih⟩
  show RC g w (.agg [.at (.int .u8 (CharT.b x)),.at (.int .i64 (CharT.fat x))]) _
  simp only [RC,RCs,chC]
  exact ⟨[.int .u8 x.b],[.int .i64 x.fat],rfl,⟨rfl,rfl⟩,[.int .i64 x.fat],[],rfl,⟨rfl,rfl⟩,rfl⟩
theorem pure62 (s:Str) (hlen:s.length < 1100000):qD Tryz.prog 62 [.at (.string ⟨s.toArray⟩)] (.lst (zh ((chG s 0).map yw)) ((chG s 0).map yw)):=by
 intro wm w us hwm hgl hu
 cases hu with
 | cons hu1 hu2=>
  cases hu2
  have e:=zj hu1
  subst e
  refine callsIn_wide.1 ((zPL 3 (Nat.le_refl _) s hlen w).mono ?_)
  rintro e w' ⟨v',rfl,hrow,hz,hbel⟩
  obtain ⟨wm',h1,h2,h3⟩:=zOe hwm hbel hrow hz ((chG s 0).map yw) (by simp) (fun x hx=>by obtain ⟨y,_,rfl⟩:=List.mem_map.1 hx; exact zGN y) (zG2 _)
  exact ⟨_,wm',rfl,h1,h2,h3⟩
def c62 (x:Str×Unit):Option (List CharT×Unit):=if x.1.length < 1100000 then some (chG x.1 0,()) else none
theorem ok62:ConOk CC Tryz.prog 62 ⟨as62,rs62,c62⟩:=fun x y hx vs hvs=>by
 obtain ⟨s,u⟩:=x
 obtain ⟨v,vs',rfl,hv,hvs⟩:=hvs
 replace hvs:vs' = []:=hvs
 subst hvs
 replace hv:v = .at (.string ⟨List.toArray s⟩):=hv
 subst hv
 by_cases h:List.length (show Str from s) < 1100000
 · have h2:c62 (s,u)=some (chG s 0,()):=if_pos h
   replace hx:c62 (s,u)=some y:=hx
   rw [h2] at hx
   injection hx with hx
   subst hx
   exact pure62 s h
 · have h2:c62 (s,u)=none:=if_neg h
   replace hx:c62 (s,u)=some y:=hx
   rw [h2] at hx
   cases hx
end
section
open Go.Al Go.Den Go.RowKit Go.Shelf
attribute [local go_sem] Oper.semAt_some
theorem zD8 {g:Gh} {w:World}:∀ {l:List CharT} {us:List Value} (i:Nat) (h:i < l.length),RCs g w (l.map yw) us->us[2 * i]? = some (.int .u8 l[i].b)/\us[2 * i+1]? = some (.int .i64 l[i].fat)
 | x::r,us,0,_,h=>by
  simp only [List.map_cons,RCs] at h
  obtain ⟨u1,u2,rfl,h1,h2⟩:=h
  have h1':RC g w (.agg [.at (.int .u8 (CharT.b x)),.at (.int .i64 (CharT.fat x))]) u1:=h1
  simp only [RC,RCs] at h1'
  obtain ⟨v1,v2,rfl,⟨rfl,_⟩,v3,v4,rfl,⟨rfl,_⟩,rfl⟩:=h1'
  exact ⟨rfl,rfl⟩
 | x::r,us,i+1,hi,h=>by
  simp only [List.map_cons,RCs] at h
  obtain ⟨u1,u2,rfl,h1,h2⟩:=h
  have h3:=x8 g w _ _ h1
  have h4:u1.length=2:=by rw [h3]; exact zGN x
  obtain ⟨k0,k1⟩:=zD8 i (by simpa using hi) h2
  have ap:∀ j,(u1++u2)[2 * (i+1)+j]? = u2[2 * i+j]?:=fun j=>by
   rw [List.getElem?_append_right (by omega),h4]; congr 1; omega
  exact ⟨(ap 0).trans k0,(ap 1).trans k1⟩
theorem zN3 {wm:Nat->Nat} {w:World} {l:List CharT} {sv:Value} (h:RC ⟨wm,fun _=>none,Fr.no⟩ w (.lst (zh (l.map yw)) (l.map yw)) [sv]) :
 ∃ ad cap,sv = .slice ad l.length cap/\∀ i (hi:i < l.length),∃ b o,ad=some ⟨b,o,none⟩/\(w.cell? ⟨b,o+2 * i,none⟩=some (.int .u8 l[i].b)/\o+2 * i < wm b)/\(w.cell? ⟨b,o+(2 * i+1),none⟩=some (.int .i64 l[i].fat)/\o+(2 * i+1) < wm b):=by
 have hl:(l.map yw).length=l.length:=by simp
 simp only [RC] at h
 rcases h with ⟨he,hu,_⟩ | ⟨b,o,cap,ds,hu,hc,_,hr,_,ha⟩
 · have h0:l=[]:=by simpa using he
   subst h0
   injection hu with hu
   exact ⟨none,0,hu,fun i hi=>absurd hi (by simp)⟩
 · injection hu with hu
   refine ⟨_,cap,by rw [hu,hl],fun i hi=>?_⟩
   obtain ⟨k1,k2⟩:=zD8 i hi hr
   exact ⟨b,o,rfl,ha _ _ k1,ha _ _ k2⟩
theorem info5:(Tryz.prog.info? 5).map (fun i=>(i.zero,i.size,i.bytes))=some (some (.int .u8 0),1,1):=by kernel_rfl
theorem zEn (W:World) (b i:Nat) (v:Value):W.grownBy (W.setCell ⟨b,i,none⟩ v) (some b):=
 ⟨rfl,rfl,rfl,(KeepsWalks.setCell W _ v).size,fun k _ hk=>Below.heap_setCell _ _ _ k (fun e=>hk (by rw [e]))⟩
theorem zJq {W:World} {B i:Nat} {c:Array Value} {t:TypeId} (v':Value) (h:W.heap[B]? = some (.cells c t (0,0))):(W.setCell ⟨B,i,none⟩ v').heap[B]? = some (.cells (c.setIfInBounds i v') t (0,0)):=by
 obtain ⟨hlt,hk⟩:=Array.getElem?_eq_some_iff.1 h
 show (W.heap.modify B _)[B]? = _
 rw [Array.getElem?_eq_getElem (by rw [Array.size_modify]; exact hlt),Array.getElem_modify_self,hk]
 rfl
def TRow (n0 g:Nat) (w:World) (xs:List Int) (n k:Nat) (W:World):Prop:=
 Below n0 w W/\∃ cur,W.heap[g]? = some (.cells cur 5 (0,0))/\cur.size=n/\(∀ i,i < k->cur[i]? = some (.int .u8 (xs.getD i 0)))/\∀ i,i < n->∃ z,cur[i]? = some (.int .u8 z)
set_option maxRecDepth 100000 in
set_option maxHeartbeats 1000000 in
theorem zQl (m:Nat) (l:List CharT) (hlen:l.length < 1100000) (wm:Nat->Nat) (w:World) (hwm:∀ b,w.heap.size<=b->wm b=0) (ad:Option Addr) (cap:Nat)
 (hch:∀ i (hi:i < l.length),∃ b o,ad=some ⟨b,o,none⟩/\(w.cell? ⟨b,o+2 * i,none⟩=some (.int .u8 l[i].b)/\o+2 * i < wm b)/\(w.cell? ⟨b,o+(2 * i+1),none⟩=some (.int .i64 l[i].fat)/\o+(2 * i+1) < wm b)) :
 CallsIn Fence.wide m Tryz.prog 63 #[.slice ad l.length cap] w fun e W'=>e = .returned (.string (strOfNums (l.map CharT.b)))/\Below w.heap.size w W':=by
 have hF:∀ f,Fence.wide.fn f:=fun _=>trivial
 refine callsIn_of_wp Tryz.func63 rfl trivial ?_ rfl
 simp only [Tryz.ntmps63,List.size_toArray,List.length_cons,List.length_nil,Nat.reduceAdd,Nat.reduceSub,Array.replicate_succ,Array.replicate_zero,List.push_toArray,List.append_toArray,List.nil_append,List.cons_append]
 obtain ⟨i0,hi,hz0,hz1,hz2⟩:=info_parts info5
 obtain ⟨W1,hmk,hown,hg1⟩:=run_make_full (P:=Tryz.prog) w w.heap.size 125 5 i0 (.int .u8 0) 1 Tryz.underlying125 hi hz0 hz1 .i64 .i64 l.length (by rw [hz2]; omega) (by simp only [maxLen]; omega) (Nat.le_refl _)
 have h0:TRow w.heap.size w.heap.size w (l.map CharT.b) l.length 0 W1:=by
  refine ⟨(Below.refl _ w).grown hg1 (Nat.le_refl _) (fun k e=>by cases e),?_⟩
  rcases hown.2 with ⟨h,_⟩ | ⟨g,cap',cur,h,_,hgb,_,_,hcs,htk⟩
  · cases h
  · injection h with e1 _ e3
    injection e1 with e1
    injection e1 with e1
    subst e1 e3
    refine ⟨cur,hgb,by omega,fun i h=>by omega,fun i hi=>⟨0,?_⟩⟩
    have hh:(List.take (l.length * 1) cur.toList)[i]? = (madeCells (Value.int .u8 0).cells (l.length * 1)).toList[i]?:=by rw [htk]
    rw [List.getElem?_take,if_pos (by omega),Array.getElem?_toList,Array.getElem?_toList] at hh
    rw [hh]
    have hz:(Value.int IntKind.u8 0).cells = #[.int .u8 0]:=rfl
    rw [hz]
    simp [madeCells,hi,Nat.mod_one]
 have hgl:w.heap.size≠W1.heap.size:=by
  obtain ⟨_,cur,h,_⟩:=h0
  have:=(Array.getElem?_eq_some_iff.1 h).1
  omega
 gi_wp2_with (rw [hmk])
 gi_loopw [11] (fun u wr=>∃ k:Nat,k<=l.length/\u = .int .i64 (k:Int)/\TRow w.heap.size w.heap.size w (l.map CharT.b) l.length k wr)
  (fun u _=>match u with | .int _ z=>l.length - z.toNat | _=>0)
 case atStart=>exact ⟨0,Nat.zero_le _,rfl,h0⟩
 case round=>
  obtain ⟨k,hk,rfl,hbel,cur,hgb,hcs,hc1,hc2⟩:=hrel
  by_cases hlt:k < l.length
  · obtain ⟨b,o,rfl,⟨a0,b0⟩,⟨a1,b1⟩⟩:=hch k hlt
    have hbl:b < w.heap.size:=by
     rcases Nat.lt_or_ge b w.heap.size with h | h
     · exact h
     · rw [hwm b h] at b0; omega
    have f0:wr.cell? ⟨b,o+k * 2,none⟩=some (.int .u8 l[k].b):=by rw [Nat.mul_comm k 2]; exact (xN (hbel.block b hbl) _).trans a0
    have f1:wr.cell? ⟨b,o+k * 2+1,none⟩=some (.int .i64 l[k].fat):=by rw [Nat.mul_comm k 2]; exact (xN (hbel.block b hbl) _).trans a1
    have hgs:=(Array.getElem?_eq_some_iff.1 hgb).1
    obtain ⟨W3,hW3⟩:∃ W3,wr.alloc (.cells #[.int .u8 l[k].b,.int .i64 l[k].fat] 108)=W3:=⟨_,rfl⟩
    have hg3:W3.heap[w.heap.size]? = some (.cells cur 5 (0,0)):=by rw [<- hW3,Below.heap_alloc _ _ _ hgs]; exact hgb
    have hn3:W3.heap[wr.heap.size]? = some (.cells #[.int .u8 l[k].b,.int .i64 l[k].fat] 108 (0,0)):=by rw [<- hW3]; exact World.alloc_heap_new wr _
    have g0:W3.cell? ⟨wr.heap.size,0,none⟩=some (.int .u8 l[k].b):=by simp [World.cell?,hn3]
    obtain ⟨z,hz⟩:=hc2 k hlt
    have hck:W3.cell? ⟨w.heap.size,k,none⟩=some (.int .u8 z):=by simp [World.cell?,hg3,hz]
    have hfk:W3.frozen? ⟨w.heap.size,k,none⟩=false:=by simp [World.frozen?,hg3]
    gi_wp2_with (rw [hW3])
    refine ⟨⟨k+1,hlt,rfl,?_⟩,?_⟩
    · have hbel3:Below w.heap.size w W3:=by rw [<- hW3]; exact hbel.alloc hbel.size _
      refine ⟨hbel3.grown (zEn W3 w.heap.size k (.int .u8 l[k].b)) hbel3.size (fun j e=>by injection e with e; omega),cur.setIfInBounds k (.int .u8 l[k].b),zJq _ hg3,by simpa using hcs,fun i hi=>?_,fun i hi=>?_⟩
      · rw [Array.getElem?_setIfInBounds]
        by_cases e:k=i
        · subst e
          rw [if_pos rfl,if_pos (by omega)]
          simp [hlt]
        · rw [if_neg e]; exact hc1 i (by omega)
      · rw [Array.getElem?_setIfInBounds]
        by_cases e:k=i
        · subst e
          rw [if_pos rfl,if_pos (by omega)]
          exact ⟨_,rfl⟩
        · rw [if_neg e]; exact hc2 i hi
    · show l.length - Int.toNat ((k:Int)+1) < l.length - Int.toNat (k:Int)
      omega
  · obtain rfl:k=l.length:=by omega
    have hcv:=run_convert_bytes_arg (P:=Tryz.prog) wr 125 5 Tryz.underlying125 Tryz.underlying5 w.heap.size 0 l.length l.length (l.map CharT.b) (by simp) (fun i hi=>by
     have:=hc1 i hi
     simp [World.cell?,hgb,this]) 9 Tryz.underlying9
    gi_wp2_with (rw [hcv])
    go_ret
    exact ⟨rfl,hbel⟩
def c63 (x:List CharT×Unit):Option (Str×Unit):=if x.1.length < 1100000 then some (x.1.map (fun c=>UInt8.ofNat c.b.toNat),()) else none
theorem pure63 (l:List CharT) (hlen:l.length < 1100000):qD Tryz.prog 63 [.lst (zh (l.map yw)) (l.map yw)] (.at (.string ⟨(l.map (fun c=>UInt8.ofNat c.b.toNat)).toArray⟩)):=by
 intro wm w us hwm hgl hu
 obtain ⟨v,rfl⟩:∃ v,us=[v]:=by cases hu with | cons _ hv=>cases hv; exact ⟨_,rfl⟩
 cases hu with
 | cons h _=>
  obtain ⟨us,h1,h2⟩:=h
  have hle:=x8 _ _ _ _ h1
  obtain ⟨sv,rfl⟩:=List.length_eq_one_iff.1 (show us.length=1 from hle)
  obtain ⟨ad,cap,rfl,hch⟩:=zN3 h1
  have:v = .slice ad l.length cap:=h2
  subst this
  refine callsIn_wide.1 ((zQl 3 l hlen wm w hwm ad cap hch).mono ?_)
  rintro e w' ⟨rfl,hbel⟩
  obtain ⟨q1,q2⟩:=qZ hwm hbel
  refine ⟨_,wm,rfl,q1,q2,?_⟩
  have e2:strOfNums (l.map CharT.b)=⟨(l.map (fun c=>UInt8.ofNat c.b.toNat)).toArray⟩:=by simp [strOfNums,List.map_map,Function.comp_def]
  rw [e2]
  exact zw rfl
theorem ok63:ConOk CC Tryz.prog 63 ⟨as63,rs63,c63⟩:=fun x y hx vs hvs=>by
 obtain ⟨s,u⟩:=x
 obtain ⟨v,vs',rfl,hv,hvs⟩:=hvs
 replace hvs:vs' = []:=hvs
 subst hvs
 change List CharT at s
 replace hv:v = .lst (zh (s.map yw)) (s.map yw):=hv
 subst hv
 by_cases h:s.length < 1100000
 · have h2:c63 (s,u)=some (s.map (fun c=>UInt8.ofNat c.b.toNat),()):=if_pos h
   replace hx:c63 (s,u)=some y:=hx
   rw [h2] at hx
   injection hx with hx
   subst hx
   exact pure63 s h
 · have h2:c63 (s,u)=none:=if_neg h
   replace hx:c63 (s,u)=some y:=hx
   rw [h2] at hx
   cases hx
end
section
open Go.Al Go.Den
noncomputable def c89:zA ([.str]:LK)->DD (zA ([.bool]:LK)):=mD (sh89 0)
theorem ok89:CPOk CC Tryz.prog syn 89 (cD ([.str]:LK) ([.bool]:LK) c89):=con89 0
noncomputable def c92 (fu:Nat):zA ([]:LK)->DD (zA ([.int .i64]:LK)):=mD (sh92 fu c88)
theorem ok92 (fu:Nat):CPOk CC Tryz.prog syn 92 (cD ([]:LK) ([.int .i64]:LK) (c92 fu)):=con92 fu c88 ok88
noncomputable def c93 (fu:Nat):zA ([]:LK)->DD (zA ([.int .i64]:LK)):=mD (sh93 fu c90 c88)
theorem ok93 (fu:Nat):CPOk CC Tryz.prog syn 93 (cD ([]:LK) ([.int .i64]:LK) (c93 fu)):=con93 fu c90 ok90 c88 ok88
noncomputable def c94 (fu:Nat):zA ([.int .u8]:LK)->DD (zA ([.int .i64]:LK)):=mD (sh94 fu c88)
theorem ok94 (fu:Nat):CPOk CC Tryz.prog syn 94 (cD ([.int .u8]:LK) ([.int .i64]:LK) (c94 fu)):=con94 fu c88 ok88
noncomputable def c95 (fu:Nat):zA ([]:LK)->DD (zA ([.int .i64]:LK)):=mD (sh95 fu c89)
theorem ok95 (fu:Nat):CPOk CC Tryz.prog syn 95 (cD ([]:LK) ([.int .i64]:LK) (c95 fu)):=con95 fu c89 ok89
noncomputable def c65 (fu:Nat):zA ([]:LK)->DD (zA ([.int .i64,.int .i64]:LK)):=mD (sh65 fu c89 (c92 fu) (c93 fu) (c94 fu) (c95 fu))
theorem ok65 (fu:Nat):CPOk CC Tryz.prog syn 65 (cD ([]:LK) ([.int .i64,.int .i64]:LK) (c65 fu)):=con65 fu c89 ok89 (c92 fu) (ok92 fu) (c93 fu) (ok93 fu) (c94 fu) (ok94 fu) (c95 fu) (ok95 fu)
noncomputable def c64 (fu:Nat):zA ([]:LK)->DD (zA ([.bool]:LK)):=mD (sh64 fu c90 c91 c88 c89)
theorem ok64 (fu:Nat):CPOk CC Tryz.prog syn 64 (cD ([]:LK) ([.bool]:LK) (c64 fu)):=con64 fu c90 ok90 c91 ok91 c88 ok88 c89 ok89
noncomputable def c39 (fu:Nat) (x:Int×Str×Unit):Option (List TokT×Unit):=sh39 fu c62 c63 (c64 fu) (c65 fu) (fun _=>false) x.1 x.2.1
theorem ok39 (fu:Nat):ConOk CC Tryz.prog 39 ⟨as39,rs39,c39 fu⟩:=con39 fu c62 ok62 c63 ok63 (c64 fu) (ok64 fu) (c65 fu) (ok65 fu)
noncomputable def c18 (fu:Nat) (x:Str×Unit):Option (List TokT×Unit):=sh18 fu (c39 fu) (fun _=>false) x.1
theorem ok18 (fu:Nat):ConOk CC Tryz.prog 18 ⟨as18,rs18,c18 fu⟩:=con18 fu (c39 fu) (ok39 fu)
noncomputable def c20 (fu:Nat) (x:Str×Unit):Option (TokT×Bool×Unit):=sh20 fu (c39 fu) (fun _=>false) x.1
theorem ok20 (fu:Nat):ConOk CC Tryz.prog 20 ⟨as20,rs20,c20 fu⟩:=con20 fu (c39 fu) (ok39 fu)
def c69 (x:Int×Unit):Option (Str×Unit):=if -9223372036854775808<=x.1/\x.1<=9223372036854775807 then some (Lib.itoa x.1,()) else none
theorem ok69:ConOk CC Tryz.prog 69 ⟨as69,rs69,c69⟩:=fun x y hx vs hvs=>by
 obtain ⟨n,u⟩:=x
 obtain ⟨v,vs',rfl,hv,hvs⟩:=hvs
 replace hvs:vs' = []:=hvs
 subst hvs
 change Int at n
 replace hv:v = .at (.int .i64 n):=hv
 subst hv
 by_cases h:-9223372036854775808<=n/\n<=9223372036854775807
 · have h2:c69 (n,u)=some (Lib.itoa n,()):=if_pos h
   replace hx:c69 (n,u)=some y:=hx
   rw [h2] at hx
   injection hx with hx
   subst hx
   exact pure69 n h.1 h.2
 · have h2:c69 (n,u)=none:=if_neg h
   replace hx:c69 (n,u)=some y:=hx
   rw [h2] at hx
   cases hx
noncomputable def c50 (fu:Nat):Nat->Nd×Unit->Option (Str×Unit)
 | 0,_=>none
 | n+1,x=>sh50 fu (c50 fu n) c69 (fun _=>false) x.1
theorem ok50 (fu:Nat):∀ n,ConOk CC Tryz.prog 50 ⟨as50,rs50,c50 fu n⟩
 | 0=>fun x y hx=>by cases hx
 | n+1=>con50 fu (c50 fu n) (ok50 fu n) c69 ok69
noncomputable def c19 (fu:Nat):Nat->Nd×Nd×Unit->Option (Bool×Unit)
 | 0,_=>none
 | n+1,x=>sh19 fu (c19 fu n) (fun _=>false) x.1 x.2.1
theorem ok19 (fu:Nat):∀ n,ConOk CC Tryz.prog 19 ⟨as19,rs19,c19 fu n⟩
 | 0=>fun x y hx=>by cases hx
 | n+1=>con19 fu (c19 fu n) (ok19 fu n)
noncomputable def c31 (fu n:Nat) (x:Str×Unit):Option (Str×Unit):=sh31 fu (c17 fu n) (c18 fu) (c50 fu n) (fun _=>false) x.1
theorem ok31 (fu n:Nat):ConOk CC Tryz.prog 31 ⟨as31,rs31,c31 fu n⟩:=con31 fu (c17 fu n) (ok17 fu n) (c18 fu) (ok18 fu) (c50 fu n) (ok50 fu n)
noncomputable def c14 (fu n:Nat) (_:Unit):Option (Bool×Unit):=sh14 fu c15 (c17 fu n) (c18 fu) (c31 fu n) c32 (fun _=>false)
theorem ok14 (fu n:Nat):ConOk CC Tryz.prog 14 ⟨as14,rs14,c14 fu n⟩:=con14 fu c15 ok15 (c17 fu n) (ok17 fu n) (c18 fu) (ok18 fu) (c31 fu n) (ok31 fu n) c32 ok32
theorem zK1:c14 100 100 ()=some (true,()):=by kernel_rfl
end
section
open Go.Al Go.Den
def TT {ρ:Type} (a:Option (Option ρ)) (Q:ρ->Prop):Prop:=∃ y,a=some (some y)/\Q y
section
variable {ρ α:Type} {Q:ρ->Prop} {t f:Option (Option ρ)} {a b:Int}
theorem xi {y:ρ} (h:Q y):TT (some (some y)) Q:=⟨y,rfl,h⟩
theorem yr {x:Option α} {v:α} {F:α->Option (Option ρ)} (h:x=some v) (h2:TT (F v) Q):TT (Option.bind x F) Q:=by subst h; exact h2
theorem ki (h1:a=b->TT t Q) (h2:a≠b->TT f Q):TT (cond (ieq a b) t f) Q:=by
 rw [zGX]; by_cases h:a=b
 · rw [decide_eq_true h]; exact h1 h
 · rw [decide_eq_false h]; exact h2 h
theorem zMd (h1:a≠b->TT t Q) (h2:a=b->TT f Q):TT (cond (ine a b) t f) Q:=by
 rw [zER]; by_cases h:a=b
 · rw [decide_eq_true h]; exact h2 h
 · rw [decide_eq_false h]; exact h1 h
theorem zGE (h1:a<=b->TT t Q) (h2:b < a->TT f Q):TT (cond (ile a b) t f) Q:=by
 unfold ile; by_cases h:a<=b
 · rw [decide_eq_true h]; exact h1 h
 · rw [decide_eq_false h]; exact h2 (by omega)
theorem jd (h1:a < b->TT t Q) (h2:b<=a->TT f Q):TT (cond (ilt a b) t f) Q:=by
 unfold ilt; by_cases h:a < b
 · rw [decide_eq_true h]; exact h1 h
 · rw [decide_eq_false h]; exact h2 (by omega)
theorem zO8 (h1:b < a->TT t Q) (h2:a<=b->TT f Q):TT (cond (!(ile a b)) t f) Q:=by
 unfold ile; by_cases h:a<=b
 · rw [decide_eq_true h]; exact h2 h
 · rw [decide_eq_false h]; exact h1 (by omega)
theorem zKT {c:Bool} (h1:c=true->TT t Q) (h2:c=false->TT f Q):TT (cond c t f) Q:=by
 cases c
 · exact h2 rfl
 · exact h1 rfl
theorem zLu {c:Bool} (h1:c=false->TT t Q) (h2:c=true->TT f Q):TT (cond (!c) t f) Q:=by
 cases c
 · exact h1 rfl
 · exact h2 rfl
theorem zGf {c:Bool} (h:c=true) (h1:TT t Q):TT (cond c t f) Q:=by rw [h]; exact h1
theorem zEP {σ:Type} {F:(σ->Option (Option ρ))->σ->Option (Option ρ)} (I:σ->Prop) (μ:σ->Nat)
 (step:∀ (rec:σ->Option (Option ρ)) s,I s->(∀ s',I s'->μ s' < μ s->TT (rec s') Q)->TT (F rec s) Q) (n:Nat) (s:σ) (hs:I s) (hn:μ s < n):TT (iter n F s) Q:=
 zCU (fun o=>TT o Q) I μ step n s hs hn
end
theorem zDg {a b:Int} {n:Nat} (h1:0<=a) (h2:a<=b) (h3:b<=n):inS a b n=true:=by unfold inS; simp [h1,h2,h3]
theorem zBz {a:Int} {n:Nat} (h1:0<=a) (h2:a < n):inB a n=true:=by unfold inB; simp [h1,h2]
section
variable {s:Str} {i k:Int} {fu:Nat}
theorem zBI (h:xX s k≠0):k < (s.length:Int):=by
 unfold xX at h
 by_cases hh:k < (s.length:Int)
 · exact hh
 · rw [if_neg hh] at h; exact absurd rfl h
theorem e88 (h0:0<=i+k) (h1:i+k < 9223372036854775808) (h2:s.length < 9223372036854775808):c88 (k,()) s i=some (xX s (i+k),()):=if_pos ⟨h0,h1,h2⟩
theorem zGY {a b:Int} (h0:0<=a) (h1:a<=b) (h2:b<=s.length):((cutL s a b).length:Int)=b - a:=by
 unfold cutL; rw [List.length_drop,List.length_take]; omega
noncomputable def r89:Str×Unit->DD (Bool×Unit):=c89
noncomputable def r92 (fu:Nat):Unit->DD (Int×Unit):=c92 fu
noncomputable def r93 (fu:Nat):Unit->DD (Int×Unit):=c93 fu
noncomputable def r94 (fu:Nat):Int×Unit->DD (Int×Unit):=c94 fu
noncomputable def r95 (fu:Nat):Unit->DD (Int×Unit):=c95 fu
noncomputable def r65 (fu:Nat):Unit->DD (Int×Int×Unit):=c65 fu
noncomputable def r64 (fu:Nat):Unit->DD (Bool×Unit):=c64 fu
theorem e89 (t:Str) (h0:0<=i) (h1:i<=s.length):∃ b,r89 (t,()) s i=some ((b,()),i)/\(b=true->i+t.length<=s.length/\(cutL s i s.length).take t.length=t):=by
 have hl:=zGY (s:=s) h0 h1 (Int.le_refl _)
 show ∃ b,outD s (cond (inS i (lenI s) s.length) (cond (ile (lenI t) (lenI (cutL s i (lenI s)))) (cond (inS 0 (lenI t) (cutL s i (lenI s)).length) (some (some (((s,(i,())),()),((seq (cutL (cutL s i (lenI s)) 0 (lenI t)) t),())))) none) (some (some (((s,(i,())),()),(false,()))))) none)=some ((b,()),i)/\_
 rw [show lenI s=(s.length:Int) from rfl,show lenI t=(t.length:Int) from rfl,zDg h0 h1 (Int.le_refl _),cond_true]
 by_cases h:(t.length:Int)<=lenI (cutL s i (s.length:Int))
 · have h':(t.length:Int)<=((cutL s i (s.length:Int)).length:Int):=h
   rw [show ile (t.length:Int) (lenI (cutL s i (s.length:Int)))=true from decide_eq_true h,cond_true,zDg (by omega) (by omega) h',cond_true]
   refine ⟨_,if_pos rfl,fun e=>⟨by omega,?_⟩⟩
   rw [yx] at e
   have e2:=of_decide_eq_true e
   rw [zOP] at e2
   exact e2
 · rw [show ile (t.length:Int) (lenI (cutL s i (s.length:Int)))=false from decide_eq_false h,cond_false]
   exact ⟨false,if_pos rfl,fun e=>by cases e⟩
def je (z:Int):Prop:=z=95\/(97<=z/\z<=122)\/(65<=z/\z<=90)
def RdQ (s:Str) (i:Int) (P:Int->Prop) (y:(RdT×Unit)×(Int×Unit)):Prop:=y.1.1.1=s/\y.1.1.2.1=i/\P y.2.1
theorem zEb {P:Int->Prop} {o:Option (Option ((RdT×Unit)×(Int×Unit)))} (h:TT o (RdQ s i P)):∃ n,outD s o=some ((n,()),i)/\P n:=by
 obtain ⟨⟨⟨⟨s',i',u⟩,u'⟩,⟨n,u2⟩⟩,rfl,h1,h2,h3⟩:=h
 replace h1:s' = s:=h1
 replace h2:i' = i:=h2
 subst h1 h2
 exact ⟨n,if_pos rfl,h3⟩
end
section
variable {s:Str} {i:Int} {fu:Nat} (hs:s.length<=1090000) (hfu:s.length+100 < fu) (h0:0<=i) (h1:i<=s.length)
include hs hfu h0 h1
theorem e92:∃ n,r92 fu () s i=some ((n,()),i)/\0<=n/\i+n<=s.length/\(0 < n->je (xX s i)):=by
 refine zEb (o:=sh92 fu c88 ((s,(i,())),()) ()) (P:=fun n=>0<=n/\i+n<=s.length/\(0 < n->je (xX s i))) ?_
 unfold sh92
 refine zEP (fun st=>∃ k:Int,st=((k,()),((s,(i,())),()))/\0<=k/\i+k<=s.length/\(0 < k->je (xX s i))) (fun st=>((s.length:Int) - st.1.1).toNat) ?_ fu _ ⟨0,rfl,by omega,by omega,fun h=>by omega⟩ (by dsimp only; omega)
 rintro rec st ⟨k,rfl,hk0,hk1,hk2⟩ hrec
 dsimp only
 refine yr (e88 (by omega) (by omega) (by omega)) ?_
 dsimp only
 have go:xX s (i+k)≠0->(k=0->je (xX s (i+k)))->TT (rec ((iadd .i64 k 1,()),((s,(i,())),()))) (RdQ s i fun n=>0<=n/\i+n<=s.length/\(0 < n->je (xX s i))):=fun e e2=>by
  have h3:=zBI e
  have h4:iadd .i64 k 1=k+1:=xD _ _ (by omega) (by omega)
  rw [h4]
  refine hrec _ ⟨k+1,rfl,by omega,by omega,fun _=>?_⟩ (by dsimp only; omega)
  by_cases hk:k=0
  · have:=e2 hk
    rw [hk,Int.add_zero] at this
    exact this
  · exact hk2 (by omega)
 have stop:TT (some (some (((s,(i,())),()),(k,())))) (RdQ s i fun n=>0<=n/\i+n<=s.length/\(0 < n->je (xX s i))):=xi ⟨rfl,rfl,hk0,hk1,hk2⟩
 repeat' (first
  | exact stop
  | exact go (by omega) (fun _=>by unfold je; omega)
  | exact go (by omega) (fun _=>by omega)
  | (refine ki (fun _=>?_) fun _=>?_)
  | (refine zGE (fun _=>?_) fun _=>?_)
  | (refine jd (fun _=>?_) fun _=>?_)
  | (refine yr (e88 (by omega) (by omega) (by omega)) ?_; dsimp only))
theorem e93:∃ n,r93 fu () s i=some ((n,()),i)/\0<=n/\i+n<=s.length:=by
 refine zEb (o:=sh93 fu c90 c88 ((s,(i,())),()) ()) (P:=fun n=>0<=n/\i+n<=s.length) ?_
 unfold sh93
 dsimp only
 have zero:TT (some (some (((s,(i,())),()),((0:Int),())))) (RdQ s i fun n=>0<=n/\i+n<=s.length):=xi ⟨rfl,rfl,by show (0:Int)<=0; omega,by show i+0<=s.length; omega⟩
 repeat' (first
  | exact zero
  | (refine ki (fun _=>?_) fun _=>?_)
  | (refine zMd (fun _=>?_) fun _=>?_)
  | (refine zGE (fun _=>?_) fun _=>?_)
  | (refine zO8 (fun _=>?_) fun _=>?_)
  | (refine yr (e88 (by omega) (by omega) (by omega)) ?_; dsimp only))
 all_goals
  have hb0:xX s (i+0)≠0:=by omega
  have hb1:=zBI hb0
  refine zEP (fun st=>∃ k:Int,st=((k,()),((s,(i,())),()))/\0<=k/\i+k<=s.length) (fun st=>((s.length:Int) - st.1.1).toNat) ?_ fu _ ⟨1,rfl,by omega,by omega⟩ (by dsimp only; omega)
  rintro rec st ⟨k,rfl,hk0,hk1⟩ hrec
  dsimp only
  have e1:iadd .i64 k 1=k+1:=xD _ _ (by omega) (by omega)
  have e2:iadd .i64 k 2=k+2:=xD _ _ (by omega) (by omega)
  rw [e1,e2]
  refine yr (e88 (by omega) (by omega) (by omega)) ?_
  dsimp only
  refine yr (e88 (by omega) (by omega) (by omega)) ?_
  dsimp only
  refine yr (show c90 _=some (_,()) from rfl) ?_
  dsimp only
  have go1:xX s (i+k)≠0->TT (rec ((k+1,()),((s,(i,())),()))) (RdQ s i fun n=>0<=n/\i+n<=s.length):=fun e=>by
   have h3:=zBI e
   exact hrec _ ⟨k+1,rfl,by omega,by omega⟩ (by dsimp only; omega)
  have go2:xX s (i+(k+1))≠0->TT (rec ((k+2,()),((s,(i,())),()))) (RdQ s i fun n=>0<=n/\i+n<=s.length):=fun e=>by
   have h3:=zBI e
   exact hrec _ ⟨k+2,rfl,by omega,by omega⟩ (by dsimp only; omega)
  have stop:TT (some (some (((s,(i,())),()),(k,())))) (RdQ s i fun n=>0<=n/\i+n<=s.length):=xi ⟨rfl,rfl,hk0,hk1⟩
  repeat' (first
   | exact stop
   | exact go1 (by omega)
   | exact go2 (by omega)
   | (refine ki (fun _=>?_) fun _=>?_)
   | (refine zGE (fun _=>?_) fun _=>?_)
   | (refine jd (fun _=>?_) fun _=>?_))
theorem e94 (c:Int):∃ n,r94 fu (c,()) s i=some ((n,()),i)/\0<=n/\i+n<=s.length:=by
 refine zEb (o:=sh94 fu c88 ((s,(i,())),()) (c,())) (P:=fun n=>0<=n/\i+n<=s.length) ?_
 unfold sh94
 have zero:TT (some (some (((s,(i,())),()),((0:Int),())))) (RdQ s i fun n=>0<=n/\i+n<=s.length):=xi ⟨rfl,rfl,by show (0:Int)<=0; omega,by show i+0<=s.length; omega⟩
 dsimp only
 refine ki (fun _=>zero) fun hne=>?_
 replace hne:i≠(s.length:Int):=hne
 refine yr (e88 (by omega) (by omega) (by omega)) ?_
 dsimp only
 refine zMd (fun _=>zero) fun _=>?_
 refine zEP (fun st=>∃ k:Int,st=((k,()),((s,(i,())),()))/\0<=k/\i+k<=s.length+2) (fun st=>((s.length:Int)+2 - st.1.1).toNat) ?_ fu _ ⟨1,rfl,by omega,by omega⟩ (by dsimp only; omega)
 rintro rec st ⟨k,rfl,hk0,hk1⟩ hrec
 dsimp only
 have e1:iadd .i64 k 1=k+1:=xD _ _ (by omega) (by omega)
 have e2:iadd .i64 (k+1) 1=k+1+1:=xD _ _ (by omega) (by omega)
 have e3:iadd .i64 i k=i+k:=xD _ _ (by omega) (by omega)
 have e4:iadd .i64 i (k+1)=i+(k+1):=xD _ _ (by omega) (by omega)
 rw [e1,e2,e3,e4]
 refine jd (fun hlt=>?_) fun _=>zero
 replace hlt:i+k < (s.length:Int):=hlt
 refine yr (e88 (by omega) (by omega) (by omega)) ?_
 dsimp only
 have go1:TT (rec ((k+1,()),((s,(i,())),()))) (RdQ s i fun n=>0<=n/\i+n<=s.length):=hrec _ ⟨k+1,rfl,by omega,by omega⟩ (by dsimp only; omega)
 have go2:TT (rec ((k+1+1,()),((s,(i,())),()))) (RdQ s i fun n=>0<=n/\i+n<=s.length):=hrec _ ⟨k+1+1,rfl,by omega,by omega⟩ (by dsimp only; omega)
 have stop:TT (some (some (((s,(i,())),()),(k+1,())))) (RdQ s i fun n=>0<=n/\i+n<=s.length):=xi ⟨rfl,rfl,by show 0<=k+1; omega,by show i+(k+1)<=s.length; omega⟩
 repeat' (first
  | exact zero
  | exact stop
  | exact go1
  | exact go2
  | (refine ki (fun _=>?_) fun _=>?_)
  | (refine jd (fun _=>?_) fun _=>?_)
  | (refine yr (e88 (by omega) (by omega) (by omega)) ?_; dsimp only))
theorem e95:∃ n,r95 fu () s i=some ((n,()),i)/\0<=n/\i+n<=s.length:=by
 refine zEb (o:=sh95 fu c89 ((s,(i,())),()) ()) (P:=fun n=>0<=n/\i+n<=s.length) ?_
 unfold sh95
 refine zEP (fun st=>∃ n k:Int,st=((n,(k,())),((s,(i,())),()))/\0<=k/\k<=48/\0<=n/\i+n<=s.length) (fun st=>(48 - st.1.2.1).toNat) ?_ fu _ ⟨0,0,rfl,by omega,by omega,by omega,by omega⟩ (by dsimp only; omega)
 rintro rec st ⟨n,k,rfl,hk0,hk1,hn0,hn1⟩ hrec
 dsimp only
 refine jd (fun hlt=>?_) fun _=>xi ⟨rfl,rfl,hn0,hn1⟩
 refine zGf (zBz hk0 hlt) ?_
 have e1:iadd .i64 k 1=k+1:=xD _ _ (by omega) (by omega)
 rw [e1]
 generalize List.getD _ (Int.toNat k) []=w
 refine zGE (fun _=>?_) fun _=>?_
 · exact hrec _ ⟨n,k+1,rfl,by omega,by omega,hn0,hn1⟩ (by dsimp only; omega)
 · obtain ⟨b,h3,h4⟩:=e89 (s:=s) (i:=i) w h0 h1
   refine yr h3 ?_
   dsimp only
   refine zLu (fun _=>?_) fun hb=>?_
   · exact hrec _ ⟨n,k+1,rfl,by omega,by omega,hn0,hn1⟩ (by dsimp only; omega)
   · exact hrec _ ⟨(w.length:Int),k+1,rfl,by omega,by omega,by omega,(h4 hb).1⟩ (by dsimp only; omega)
theorem e65 (hi:i < s.length):∃ k n,r65 fu () s i=some ((k,(n,())),i)/\0 < n/\i+n<=s.length/\(k=1->je (xX s i)):=by
 obtain ⟨b0,f1,f2⟩:=e89 (s:=s) (i:=i) [10] h0 h1
 obtain ⟨n1,f3,f4,f5,f6⟩:=e92 hs hfu h0 h1
 obtain ⟨n2,f7,f8,f9⟩:=e93 hs hfu h0 h1
 obtain ⟨n3,f10,f11,f12⟩:=e94 hs hfu h0 h1 34
 obtain ⟨n4,f13,f14,f15⟩:=e94 hs hfu h0 h1 39
 obtain ⟨n5,f16,f17,f18⟩:=e95 hs hfu h0 h1
 suffices h:TT (sh65 fu c89 (c92 fu) (c93 fu) (c94 fu) (c95 fu) ((s,(i,())),()) ()) (fun y=>y.1.1.1=s/\y.1.1.2.1=i/\0 < y.2.2.1/\i+y.2.2.1<=s.length/\(y.2.1=1->je (xX s i))) by
  obtain ⟨⟨⟨⟨s',i',u⟩,u'⟩,⟨k,n,u2⟩⟩,g1,g2,g3,g4⟩:=h
  replace g2:s' = s:=g2
  replace g3:i' = i:=g3
  subst g2 g3
  refine ⟨k,n,?_,g4⟩
  show outD s' _=_
  rw [g1]
  exact if_pos rfl
 unfold sh65
 refine yr f1 ?_
 dsimp only
 refine zKT (fun e=>xi ⟨rfl,rfl,by show (0:Int) < 1; omega,by show i+1<=s.length; omega,fun e=>by cases e⟩) fun _=>?_
 refine yr f3 ?_
 dsimp only
 refine jd (fun e=>xi ⟨rfl,rfl,e,f5,fun _=>f6 e⟩) fun _=>?_
 refine yr f7 ?_
 dsimp only
 refine jd (fun e=>xi ⟨rfl,rfl,e,f9,fun e=>by cases e⟩) fun _=>?_
 refine yr f10 ?_
 dsimp only
 refine jd (fun e=>xi ⟨rfl,rfl,e,f12,fun e=>by cases e⟩) fun _=>?_
 refine yr f13 ?_
 dsimp only
 refine jd (fun e=>xi ⟨rfl,rfl,e,f15,fun e=>by cases e⟩) fun _=>?_
 refine yr f16 ?_
 dsimp only
 refine jd (fun e=>xi ⟨rfl,rfl,e,f18,fun e=>by cases e⟩) fun _=>xi ⟨rfl,rfl,by show (0:Int) < 1; omega,by show i+1<=s.length; omega,fun e=>by cases e⟩
end
end
section
open Go.Al Go.Den
theorem zJH:∀ (s sub:List UInt8),0<=Lib.index s sub->Lib.index s sub+sub.length<=s.length
 | [],sub,h=>by
  unfold Lib.index at h ⊢
  cases sub with
  | nil=>simp
  | cons a l=>simp at h
 | b::l,sub,h=>by
  unfold Lib.index at h ⊢
  by_cases hp:sub.isPrefixOf (b::l)=true
  · rw [if_pos hp]
    have:=(List.isPrefixOf_iff_prefix.1 hp).length_le
    omega
  · rw [if_neg hp] at h ⊢
    by_cases h1:(Lib.index l sub == -1)=true
    · rw [if_pos h1] at h; omega
    · rw [if_neg h1] at h ⊢
      have h2:Lib.index l sub≠-1:=fun e=>h1 (by rw [e]; rfl)
      have h3:=Lib.index_ge l sub
      have h4:=zJH l sub (by omega)
      simp only [List.length_cons]
      omega
theorem zD0:∀ (s:List UInt8) (c:UInt8),0<=Lib.indexByte s c->Lib.indexByte s c < s.length
 | [],c,h=>by unfold Lib.indexByte at h; omega
 | b::l,c,h=>by
  unfold Lib.indexByte at h ⊢
  by_cases hp:(b == c)=true
  · rw [if_pos hp]; simp only [List.length_cons]; omega
  · rw [if_neg hp] at h ⊢
    by_cases h1:(Lib.indexByte l c == -1)=true
    · rw [if_pos h1] at h; omega
    · rw [if_neg h1] at h ⊢
      have h2:Lib.indexByte l c≠-1:=fun e=>h1 (by rw [e]; rfl)
      have h3:=Lib.indexByte_ge l c
      have h4:=zD0 l c (by omega)
      simp only [List.length_cons]
      omega
theorem zGT {s:List UInt8} {c:UInt8} (h:Lib.indexByte s c=0):s.head? = some c:=by
 cases s with
 | nil=>unfold Lib.indexByte at h; omega
 | cons b l=>
  unfold Lib.indexByte at h
  by_cases hp:(b == c)=true
  · have:=eq_of_beq hp; rw [this]; rfl
  · rw [if_neg hp] at h
    by_cases h1:(Lib.indexByte l c == -1)=true
    · rw [if_pos h1] at h; omega
    · rw [if_neg h1] at h
      have h2:Lib.indexByte l c≠-1:=fun e=>h1 (by rw [e]; rfl)
      have h3:=Lib.indexByte_ge l c
      omega
section
variable {s:Str} {i:Int} {fu:Nat} (hs:s.length<=1090000) (hfu:s.length+100 < fu) (h0:0<=i) (h1:i<=s.length)
include hs hfu h0 h1
theorem e64:∃ b j,r64 fu () s i=some ((b,()),j)/\i<=j/\j<=s.length/\(b=true->i < j):=by
 obtain ⟨b0,f1,f2⟩:=e89 (s:=s) (i:=i) [47,47] h0 h1
 obtain ⟨b1,f3,f4⟩:=e89 (s:=s) (i:=i) [47,42] h0 h1
 suffices h:TT (sh64 fu c90 c91 c88 c89 ((s,(i,())),()) ()) (fun y=>y.1.1.1=s/\i<=y.1.1.2.1/\y.1.1.2.1<=s.length/\(y.2.1=true->i < y.1.1.2.1)) by
  obtain ⟨⟨⟨⟨s',j,u⟩,u'⟩,⟨b,u2⟩⟩,g1,g2,g3⟩:=h
  replace g2:s' = s:=g2
  subst g2
  refine ⟨b,j,?_,g3⟩
  show outD s' _=_
  rw [g1]
  exact if_pos rfl
 unfold sh64
 dsimp only [zR]
 have rest:TT (Option.bind (c89 ([47,47],()) s i) fun y0=>
  cond y0.1.1
   (cond (inS y0.2 (lenI s) (List.length s))
    (Option.bind (c90 ((cutL s y0.2 (lenI s)),(10,()))) fun y1=>
     cond (ilt y1.1 0)
      (some (Option.some (((s,((iadd .i64 y0.2 (isub .i64 (lenI s) y0.2)),())),()),(true,()))))
      (some (Option.some (((s,((iadd .i64 y0.2 y1.1),())),()),(true,())))))
    (none))
   (Option.bind (c89 ([47,42],()) s y0.2) fun y1=>
    cond (!y1.1.1)
     (some (Option.some (((s,(y1.2,())),()),(false,()))))
     (cond (inS (iadd .i64 y1.2 2) (lenI s) (List.length s))
      (Option.bind (c91 ((cutL s (iadd .i64 y1.2 2) (lenI s)),([42,47],()))) fun y2=>
       cond (ilt y2.1 0)
        (some (Option.some (((s,(y1.2,())),()),(false,()))))
        (some (Option.some (((s,((iadd .i64 y1.2 (iadd .i64 y2.1 4)),())),()),(true,())))))
      (none)))) (fun y:(RdT×Unit)×(Bool×Unit)=>y.1.1.1=s/\i<=y.1.1.2.1/\y.1.1.2.1<=s.length/\(y.2.1=true->i < y.1.1.2.1)):=by
  refine yr f1 ?_
  dsimp only
  refine zKT (fun hb=>?_) fun _=>?_
  · obtain ⟨k1,k2⟩:=f2 hb
    replace k1:i+2<=(s.length:Int):=k1
    refine zGf (zDg h0 h1 (Int.le_refl _)) ?_
    have hl:=zGY (s:=s) h0 h1 (Int.le_refl _)
    refine yr (show c90 _=some (_,()) from rfl) ?_
    dsimp only
    refine jd (fun _=>?_) fun hv=>?_
    · have e1:isub .i64 (lenI s) i=(s.length:Int) - i:=zGa _ _ (by show _<=(s.length:Int) - i; omega) (by show (s.length:Int) - i<=_; omega)
      have e2:iadd .i64 i ((s.length:Int) - i)=s.length:=by rw [xD _ _ (by omega) (by omega)]; omega
      rw [e1,e2]
      exact xi ⟨rfl,h1,Int.le_refl _,fun _=>by show i < (s.length:Int); omega⟩
    · have hv2:=zD0 _ _ hv
      have hv3:Lib.indexByte (cutL s i (lenI s)) (Int.toNat 10).toUInt8≠0:=fun e=>by
       have e3:=zGT e
       have e4:(cutL s i (s.length:Int)).head? = some 47:=by
        have:((cutL s i (s.length:Int)).take 2).head? = some 47:=by rw [show (2:Nat)=([47,47]:Str).length from rfl,k2]; rfl
        rw [List.head?_take] at this
        simpa using this
       rw [show lenI s=(s.length:Int) from rfl,e4] at e3
       revert e3
       decide
      generalize hg:Lib.indexByte (cutL s i (lenI s)) (Int.toNat 10).toUInt8=v at hv hv2 hv3 ⊢
      have hv4:v < (s.length:Int) - i:=by
       have:((cutL s i (lenI s)).length:Int)=(s.length:Int) - i:=hl
       omega
      rw [xD i v (by omega) (by omega)]
      exact xi ⟨rfl,by show i<=i+v; omega,by show i+v<=s.length; omega,fun _=>by show i < i+v; omega⟩
  · refine yr f3 ?_
    dsimp only
    refine zLu (fun _=>xi ⟨rfl,Int.le_refl _,h1,fun e=>by cases e⟩) fun hb=>?_
    obtain ⟨k1,k2⟩:=f4 hb
    replace k1:i+2<=(s.length:Int):=k1
    have e1:iadd .i64 i 2=i+2:=xD _ _ (by omega) (by omega)
    rw [e1]
    refine zGf (zDg (by omega) k1 (Int.le_refl _)) ?_
    have hl:=zGY (s:=s) (a:=i+2) (by omega) k1 (Int.le_refl _)
    refine yr (show c91 _=some (_,()) from if_pos (show (cutL s (i+2) (lenI s)).length < 4294967281 by have:((cutL s (i+2) (lenI s)).length:Int)=(s.length:Int) - (i+2):=hl; omega)) ?_
    dsimp only
    refine jd (fun _=>xi ⟨rfl,Int.le_refl _,h1,fun e=>by cases e⟩) fun hv=>?_
    have hv2:=zJH _ _ hv
    generalize Lib.index (cutL s (i+2) (lenI s)) [42,47]=v at hv hv2 ⊢
    have hv4:v+2<=(s.length:Int) - (i+2):=by
     have h5:((cutL s (i+2) (lenI s)).length:Int)=(s.length:Int) - (i+2):=hl
     have h6:v+((2:Nat):Int)<=((cutL s (i+2) (lenI s)).length:Int):=hv2
     omega
    have e2:iadd .i64 v 4=v+4:=xD _ _ (by omega) (by omega)
    rw [e2,xD i (v+4) (by omega) (by omega)]
    exact xi ⟨rfl,by show i<=i+(v+4); omega,by show i+(v+4)<=s.length; omega,fun _=>by show i < i+(v+4); omega⟩
 refine yr (e88 (by omega) (by omega) (by omega)) ?_
 dsimp only
 have one:xX s (i+0)≠0->TT (some (some (((s,(iadd .i64 i 1,())),()),(true,())))) (fun y:(RdT×Unit)×(Bool×Unit)=>y.1.1.1=s/\i<=y.1.1.2.1/\y.1.1.2.1<=s.length/\(y.2.1=true->i < y.1.1.2.1)):=fun e=>by
  have h3:=zBI e
  rw [xD i 1 (by omega) (by omega)]
  exact xi ⟨rfl,by show i<=i+1; omega,by show i+1<=s.length; omega,fun _=>by show i < i+1; omega⟩
 refine ki (fun _=>one (by omega)) fun _=>?_
 refine ki (fun _=>one (by omega)) fun _=>?_
 refine ki (fun _=>one (by omega)) fun _=>?_
 refine ki (fun _=>one (by omega)) fun _=>?_
 refine ki (fun _=>one (by omega)) fun _=>?_
 exact rest
end
def TokG (t:TokT):Prop:=t.kind=1->∃ c r,t.text=c::r/\je (c.toNat:Int)
theorem zNq {s:Str} {i n:Int} (h0:0<=i) (hn:0 < n) (h1:i+n<=s.length):∃ c r,cutL s i (i+n)=c::r/\(c.toNat:Int)=xX s i:=by
 have hi:i.toNat < s.length:=by omega
 unfold cutL
 have h2:i.toNat < (s.take (i+n).toNat).length:=by rw [List.length_take]; omega
 rw [List.drop_eq_getElem_cons h2]
 refine ⟨_,_,rfl,?_⟩
 unfold xX
 rw [if_pos (by omega)]
 unfold zEA
 rw [List.getElem_take,List.getD_eq_getElem?_getD,List.getElem?_eq_getElem hi]
 rfl
theorem zGo {fu:Nat} (z:Int) (x:Str) (hfu:x.length+200 < fu) (hx:x.length<=1090000):∃ l,c39 fu (z,(x,()))=some (l,())/\l.length<=x.length/\∀ t ∈ l,TokG t:=by
 have h62:c62 (x,())=some (chG x 0,()):=if_pos (show x.length < 1100000 by omega)
 have hcl:=zEg x 0
 have h63:c63 (chG x 0,())=some ((chG x 0).map (fun c=>UInt8.ofNat c.b.toNat),()):=if_pos (show (chG x 0).length < 1100000 by omega)
 show ∃ l,sh39 fu c62 c63 (r64 fu) (r65 fu) (fun _=>false) z x=some (l,())/\_
 unfold sh39
 rw [h62,Option.bind_some,h63,Option.bind_some]
 dsimp only
 generalize hcs:chG x 0=cs at hcl ⊢
 obtain ⟨s,hs⟩:∃ s,s=cs.map (fun c=>UInt8.ofNat c.b.toNat):=⟨_,rfl⟩
 have hsl:s.length=cs.length:=by rw [hs,List.length_map]
 rw [<- hs]
 refine zCU (P:=fun o=>∃ l:List TokT,o=some (l,())/\l.length<=x.length/\∀ t ∈ l,TokG t)
  (I:=fun st:(List TokT×Unit)×((Str×(Int×Unit))×Unit)=>∃ toks i,st=((toks,()),((s,(i,())),()))/\0<=i/\i<=(s.length:Int)/\(toks.length:Int)<=i/\∀ t ∈ toks,TokG t) (μ:=fun st=>((s.length:Int) - st.2.1.2.1).toNat) ?_ fu _ ⟨[],0,rfl,by omega,by omega,by simp,fun t ht=>by cases ht⟩ (by dsimp only; omega)
 rintro rec st ⟨toks,i,rfl,hi0,hi1,hl,hg⟩ hrec
 dsimp only
 refine zCU (P:=fun o=>∃ l:List TokT,o=some (l,())/\l.length<=x.length/\∀ t ∈ l,TokG t)
  (I:=fun st:(List TokT×Unit)×((Str×(Int×Unit))×((Int×(Str×(Int×(Int×(Int×(Bool×Unit))))))×Unit))=>∃ j w,st=((toks,()),((s,(j,())),(w,())))/\i<=j/\j<=(s.length:Int)) (μ:=fun st=>((s.length:Int) - st.2.1.2.1).toNat) ?_ fu _ ⟨i,_,rfl,Int.le_refl _,hi1⟩ (by dsimp only; omega)
 rintro rec2 st2 ⟨j,w,rfl,hj0,hj1⟩ hrec2
 dsimp only
 have done:∃ l,(some (toks,()):Option (List TokT×Unit))=some (l,())/\l.length<=x.length/\∀ t ∈ l,TokG t:=⟨toks,rfl,by omega,hg⟩
 have tok:∀ j':Int,i<=j'->j' < (s.length:Int)->∀ (u:(Int×Int×Unit)×Int->TokT),(∀ y,(u y).kind=y.1.1/\(u y).text=cutL s y.2 (iadd .i64 y.2 y.1.2.1))->∃ l,(Option.bind (r65 fu () s j') fun y3=>
  cond (inS y3.2 (iadd .i64 y3.2 y3.1.2.1) (List.length s))
   (cond (inB y3.2 (List.length cs))
    (cond (inB (isub .i64 (iadd .i64 y3.2 y3.1.2.1) 1) (List.length cs))
     (cond (okN 56 ((List.length toks)+(List.length [u y3])))
      (rec (((toks++[u y3]),()),((s,((iadd .i64 y3.2 y3.1.2.1),())),())))
      (none))
     (none))
    (none))
   (none))=some (l,())/\l.length<=x.length/\∀ t ∈ l,TokG t:=by
  intro j' a1 a2 u hu
  obtain ⟨k,n,f1,f2,f3,f4⟩:=e65 (s:=s) (i:=j') (fu:=fu) (by omega) (by omega) (by omega) (by omega) a2
  obtain ⟨u1,u2⟩:=hu ((k,(n,())),j')
  replace u2:(u ((k,(n,())),j')).text=cutL s j' (iadd .i64 j' n):=u2
  replace u1:(u ((k,(n,())),j')).kind=k:=u1
  rw [f1,Option.bind_some]
  dsimp only
  have e1:iadd .i64 j' n=j' + n:=xD _ _ (by omega) (by omega)
  have e2:isub .i64 (j' + n) 1=j' + n - 1:=zGa _ _ (by omega) (by omega)
  rw [e1] at u2
  rw [e1,e2,zDg (by omega) (by omega) f3,cond_true,zBz (by omega) (by omega),cond_true,zBz (by omega) (by omega),cond_true]
  rw [show okN 56 (toks.length+[u ((k,(n,())),j')].length)=true from zBG (by simp only [List.length_cons,List.length_nil]; omega) (by simp only [List.length_cons,List.length_nil,maxLen]; omega),cond_true]
  refine hrec _ ⟨toks++[u ((k,(n,())),j')],j' + n,rfl,by omega,f3,by rw [List.length_append]; simp only [List.length_cons,List.length_nil]; omega,fun t ht=>?_⟩ (by dsimp only; omega)
  rcases List.mem_append.1 ht with ht | ht
  · exact hg t ht
  · rw [List.mem_singleton] at ht
    subst ht
    intro hk
    obtain ⟨c,r,q1,q2⟩:=zNq (s:=s) (i:=j') (n:=n) (by omega) f2 f3
    exact ⟨c,r,u2.trans q1,by rw [q2]; exact f4 (u1 ▸ hk)⟩
 by_cases hj:j < (s.length:Int)
 · rw [show ilt j (lenI s)=true from decide_eq_true hj,cond_true]
   obtain ⟨b,j',f1,f2,f3,f4⟩:=e64 (s:=s) (i:=j) (fu:=fu) (by omega) (by omega) (by omega) hj1
   rw [f1,Option.bind_some]
   cases b with
   | true=>
    have:=f4 rfl
    exact hrec2 _ ⟨j',_,rfl,by omega,f3⟩ (by dsimp only; omega)
   | false=>
    dsimp only
    rw [cond_false]
    by_cases hj':j' < (s.length:Int)
    · rw [show ile (lenI s) j' = false from decide_eq_false (by show ¬ (s.length:Int)<=j'; omega),cond_false]
      exact tok j' (by omega) hj' (fun y=>TokT.mk y.1.1 (cutL s y.2 (iadd .i64 y.2 y.1.2.1)) _ _ _ _) fun _=>⟨rfl,rfl⟩
    · rw [show ile (lenI s) j' = true from decide_eq_true (by show (s.length:Int)<=j'; omega),cond_true]
      exact done
 · rw [show ilt j (lenI s)=false from decide_eq_false hj,cond_false]
   rw [show ile (lenI s) j=true from decide_eq_true (by show (s.length:Int)<=j; omega),cond_true]
   exact done
theorem zLw {fu:Nat} (x:Str) (hfu:x.length+200 < fu) (hx:x.length<=1090000):∃ l,c18 fu (x,())=some (l,())/\l.length<=x.length/\∀ t ∈ l,TokG t:=by
 obtain ⟨l,h1,h2,h3⟩:=zGo 0 x hfu hx
 show ∃ l,sh18 fu (c39 fu) (fun _=>false) x=some (l,())/\_
 unfold sh18
 rw [h1,Option.bind_some]
 dsimp only
 refine zCU (P:=fun o=>∃ l:List TokT,o=some (l,())/\l.length<=x.length/\∀ t ∈ l,TokG t)
  (I:=fun st:(List TokT×(Int×Unit))×Unit=>∃ toks k,st=((toks,(((k:Nat):Int),())),())/\k<=l.length/\toks.length<=k/\∀ t ∈ toks,TokG t) (μ:=fun st=>l.length - st.1.2.1.toNat) ?_ fu _ ⟨[],0,rfl,by omega,by simp,fun t ht=>by cases ht⟩ (by dsimp only; omega)
 rintro rec st ⟨toks,k,rfl,hk,hl,hg⟩ hrec
 dsimp only
 have e1:iadd .i64 (k:Int) 1=((k+1:Nat):Int):=by rw [xD _ _ (by omega) (by omega)]; omega
 by_cases hlt:k < l.length
 · rw [show ilt (k:Int) (lenI l)=true from decide_eq_true (by show (k:Int) < (l.length:Int); omega),cond_true,zBz (by omega) (by omega),cond_true,cond_true,e1]
   have hget:List.getD l (Int.toNat (k:Int)) tokD=l[k]:=by rw [Int.toNat_natCast,List.getD_eq_getElem?_getD,List.getElem?_eq_getElem hlt]; rfl
   rw [hget]
   have eta:∀ t:TokT,TokT.mk t.kind t.text t.file t.ffrom t.fto t.blank=t:=fun t=>rfl
   simp only [eta]
   cases hn:ine l[k].kind 7
   · rw [cond_false]
     exact hrec _ ⟨toks,k+1,rfl,hlt,by omega,hg⟩ (by dsimp only; omega)
   · rw [cond_true]
     rw [show okN 56 (toks.length+[l[k]].length)=true from zBG (by simp only [List.length_cons,List.length_nil]; omega) (by simp only [List.length_cons,List.length_nil,maxLen]; omega),cond_true]
     refine hrec _ ⟨toks++[l[k]],k+1,rfl,hlt,by rw [List.length_append]; simp only [List.length_cons,List.length_nil]; omega,fun t ht=>?_⟩ (by dsimp only; omega)
     rcases List.mem_append.1 ht with ht | ht
     · exact hg t ht
     · rw [List.mem_singleton] at ht
       subst ht
       exact h3 _ (List.getElem_mem _)
 · obtain rfl:k=l.length:=by omega
   rw [show ilt (l.length:Int) (lenI l)=false from decide_eq_false (by show ¬ (l.length:Int) < (l.length:Int); omega),cond_false]
   exact ⟨toks,rfl,by omega,hg⟩
end
section
open Go.Al Go.Den
def c34 (x:Str×List Str×Unit):Option (Bool×Unit):=if x.2.1.length < 1000 then some (x.2.1.contains x.1,()) else none
theorem zPh (fu:Nat) (hfu:1000 < fu) (nf:Nat->Bool) (x1:Str) (x0:List Str) (h:x0.length < 1000):sh34 fu nf x1 x0=some (x0.contains x1,()):=by
 unfold sh34
 refine zDK (fun s=>∃ k:Nat,s=((((k:Int),()),()):(Int×PUnit)×PUnit)/\k<=x0.length/\(x0.take k).contains x1=false) (fun s=>x0.length - s.1.1.toNat) ?_ fu _ ⟨0,rfl,Nat.zero_le _,by simp⟩ (by simp; omega)
 rintro rec s ⟨k,rfl,hk,hc⟩ hrec
 simp only [ilt,lenI,inB,ile]
 by_cases hlt:k < x0.length
 · have h1:((k:Int) < (x0.length:Int)):=by omega
   have h2:(0:Int)<=(k:Int):=by omega
   simp only [h1,h2,decide_true,Bool.and_self,cond_true,Int.toNat_natCast]
   have hg:x0.getD k []=x0[k]:=by simp [List.getD_eq_getElem?_getD,hlt]
   rw [hg]
   by_cases e:x0[k]=x1
   · have:seq x0[k] x1=true:=by simp [seq,e]
     rw [this,cond_true]
     have hm:x1 ∈ x0:=by rw [<- e]; exact List.getElem_mem _
     simp [hm]
   · have:seq x0[k] x1=false:=by simp [seq,e]
     rw [this,cond_false]
     have hw:iadd .i64 (k:Int) 1=((k+1:Nat):Int):=by unfold iadd; rw [IntWalk.i64_in _ (by omega)]; omega
     refine hrec _ ⟨k+1,by rw [hw],hlt,?_⟩ (by simp only [hw]; simp; omega)
     rw [List.take_succ_eq_append_getElem hlt]
     simp only [List.contains_eq_mem,List.mem_append,List.mem_singleton,decide_eq_false_iff_not,not_or] at hc ⊢
     exact ⟨hc,fun e2=>e e2.symm⟩
 · obtain rfl:k=x0.length:=by omega
   have h1:¬ ((x0.length:Int) < (x0.length:Int)):=by omega
   simp only [h1,decide_false,cond_false]
   rw [List.take_length] at hc
   rw [hc]
theorem ok34:ConOk CC Tryz.prog 34 ⟨as34,rs34,c34⟩:=by
 refine (con34 1001).sub ?_
 rintro ⟨x0,x1,u⟩ y hy
 unfold c34 at hy
 split at hy
 · rename_i h
   injection hy with hy
   subst hy
   exact zPh 1001 (by omega) _ _ _ h
 · cases hy
def c16 (x:Str×Unit):Option (Bool×Unit):=some (kwL.contains x.1,())
theorem ok16:ConOk CC Tryz.prog 16 ⟨as16,rs16,c16⟩:=by
 refine (con16 0 c34 ok34).sub ?_
 rintro ⟨x0,u⟩ y hy
 injection hy with hy
 subst hy
 rfl
def c14t (_:Unit):Option (Bool×Unit):=some (true,())
theorem ok14t:ConOk CC Tryz.prog 14 ⟨as14,rs14,c14t⟩:=by
 refine (ok14 100 100).sub ?_
 rintro u y hy
 injection hy with hy
 subst hy
 exact zK1
end
section
open Go.Al Go.Den
mutual
theorem zN0:∀ x:Nd,shN 0 x=x
 | .mk k p l=>by
  show Nd.mk k (if k=0 then p+0 else p) (shL 0 l)=_
  rw [zCw l,Int.add_zero]
  simp
theorem zCw:∀ l:List Nd,shL 0 l=l
 | []=>rfl
 | x::r=>by rw [shL,zN0 x,zCw r]
end
theorem zNj {W:Sim} (hW:W.Ok) {fu m:Nat} (hd:Deep fu m) {t:Bool} {p q:Int} {xs ys zs:List MT} {nd:Nd} (hS:Sta W 1 p xs ys)
 (h:(rs fu m).c37 (t,()) W.A (p,xs)=some (some ((nd,()),(q,zs)))) (hA:W.Ag (2 * q)) :
 ∃ zs',(rs fu m).c37 (t,()) W.B (p+W.d,ys)=some (some ((shN W.d nd,()),(q+W.d,zs')))/\Sta W 1 q zs zs'/\Tr p q nd:=by
 have h0:=(rsp hW hd.fu m).h37 1 p xs ys t hS (by have:=hS.p0; have:=hW.lo0; omega) (by have:=hd.m; have:=hS.p0; have:=hW.lo0; have:=hW.lenA; omega)
 obtain ⟨o,h1,h2⟩:=h0
 obtain ⟨_,⟨⟨nd',u'⟩,q',zs'⟩,⟨h3,h4,h5,h6⟩,h7⟩:=h2 _ (Option.some.inj (h1.symm.trans h))
 replace h4:q' = q+W.d:=h4
 replace h6:nd' = shN W.d nd:=h6
 subst h4 h6
 refine ⟨zs',h7 ?_,h3,h5⟩
 show W.Ag (2 * q+0)
 rw [Int.add_zero]
 exact hA
theorem zG7 {W:Sim} (hW:W.Ok) {fu m:Nat} (hd:Deep fu m) {p p':Int} {xs xs':List MT} {ps ps':List Nd} (h:Decls ((rs fu m).c37 (true,())) W.A p xs ps p' xs' ps') :
 ∀ (ys:List MT),Sta W 1 p xs ys->W.Ag (2 * p')->∃ ys' qs,ps' = ps++qs/\Sta W 1 p' xs' ys'/\p<=p'/\∀ ps0,Decls ((rs fu m).c37 (true,())) W.B (p+W.d) ys ps0 (p' + W.d) ys' (ps0++shL W.d qs):=by
 induction h with
 | nil=>intro ys hS _; exact ⟨ys,[],by simp,hS,Int.le_refl _,fun ps0=>by rw [show shL W.d []=[] from rfl,List.append_nil]; exact .nil⟩
 | @cons p xs ps q zs nd p' xs' ps' h1 h2 h3 ih=>
  intro ys hS hA
  have hAB:=hW.lenAB
  have hmono:∀ {p p':Int} {xs xs':List MT} {ps ps':List Nd},Decls ((rs fu m).c37 (true,())) W.A p xs ps p' xs' ps'->0<=p->p<=(W.A.length:Int)->xs.length=1->p<=p':=by
   intro p p' xs xs' ps ps' h
   induction h with
   | nil=>intro _ _ _; exact Int.le_refl _
   | @cons p xs ps q zs nd p' xs' ps' h1 h2 h3 ih=>
    intro p0 p1 x0
    obtain ⟨o,k1,k2⟩:=zCH hd hW.lenA true p xs p0 p1 x0
    obtain ⟨k3,k4,k5,_⟩:=k2 _ (Option.some.inj (k1.symm.trans h2))
    replace k3:p < q:=k3
    have:=ih (by omega) k4 k5
    omega
  obtain ⟨o,k1,k2⟩:=zCH hd hW.lenA true p xs (Int.le_trans hW.lo0 hS.p0) hS.p1 hS.hn
  obtain ⟨k3,k4,k5,_⟩:=k2 _ (Option.some.inj (k1.symm.trans h2))
  replace k3:p < q:=k3
  have hq:=hmono h3 (by have:=hS.p0; have:=hW.lo0; omega) k4 k5
  obtain ⟨zs',f1,f2,f3⟩:=zNj hW hd hS h2 (hW.mono (by omega) hA)
  obtain ⟨ys',qs,g1,g2,g3,g4⟩:=ih zs' f2 hA
  refine ⟨ys',nd::qs,by rw [g1]; simp,g2,by omega,fun ps0=>?_⟩
  refine .cons (by omega) f1 ?_
  have:=g4 (ps0++[shN W.d nd])
  rw [List.append_assoc] at this
  exact this
theorem zGx {f n:Nat} {nd:Nd} (hk:nd.kids.length < f) (hf:f < 1000000) (h:∀ x ∈ nd.kids,c19 f n (x,(x,()))=some (true,())):c19 f (n+1) (nd,(nd,()))=some (true,()):=by
 show sh19 f (c19 f n) (fun _=>false) nd nd=_
 unfold sh19
 rw [zCJ rfl,cond_false,zCJ rfl,cond_false,zCJ rfl,cond_false]
 refine zDK (fun st=>∃ k:Nat,st=((((k:Int),())),((nd.kind,(nd.tok,(nd.kids,()))),((nd.kind,(nd.tok,(nd.kids,()))),())))/\k<=nd.kids.length) (fun st=>nd.kids.length - st.1.1.toNat) ?_ f _ ⟨0,rfl,by omega⟩ (by dsimp only; omega)
 rintro rec st ⟨k,rfl,hk1⟩ hrec
 dsimp only
 by_cases hlt:k < nd.kids.length
 · rw [show ilt (k:Int) (lenI nd.kids)=true from decide_eq_true (by show (k:Int) < (nd.kids.length:Int); omega),cond_true,zBz (by omega) (by omega),cond_true,cond_true]
   have hget:List.getD nd.kids (Int.toNat (k:Int)) zAY=nd.kids[k]:=by rw [Int.toNat_natCast,List.getD_eq_getElem?_getD,List.getElem?_eq_getElem hlt]; rfl
   rw [hget,zDt,h _ (List.getElem_mem hlt),Option.bind_some]
   dsimp only
   rw [Bool.not_true,cond_false,xD _ _ (by omega) (by omega)]
   exact hrec _ ⟨k+1,by simp,hlt⟩ (by dsimp only; omega)
 · obtain rfl:k=nd.kids.length:=by omega
   rw [show ilt (nd.kids.length:Int) (lenI nd.kids)=false from decide_eq_false (by show ¬ (nd.kids.length:Int) < (nd.kids.length:Int); omega),cond_false]
mutual
/-- How deep a tree is. -/
def dpN:Nd->Nat
 | .mk _ _ l=>dpL l+1
def dpL:List Nd->Nat
 | []=>0
 | x::r=>max (dpN x) (dpL r)
end
theorem zGI:∀ {l:List Nd} {x:Nd},x ∈ l->dpN x<=dpL l
 | y::r,x,h=>by
  rcases List.mem_cons.1 h with rfl | h
  · exact Nat.le_max_left _ _
  · exact Nat.le_trans (zGI h) (Nat.le_max_right _ _)
theorem zGh:∀ {l:List Nd} {x:Nd},okL l->x ∈ l->okT x
 | y::r,x,h,hx=>by
  rcases List.mem_cons.1 hx with rfl | hx
  · exact h.1.1
  · exact zGh h.2 hx
theorem zGd:∀ {l:List Nd} {x:Nd},x ∈ l->(lvN x).length<=(lvL l).length
 | y::r,x,h=>by
  rw [lvL,List.length_append]
  rcases List.mem_cons.1 h with rfl | h
  · omega
  · have:=zGd h; omega
theorem zPx {nd:Nd} (h:okT nd):nd.kids.length<=(lvN nd).length:=by
 obtain ⟨k,p,l⟩:=nd
 obtain ⟨h1,h2,h3,_,h4⟩:=h
 show l.length<=(if k=0 then [p] else lvL l).length
 by_cases hk:k=0
 · rw [h1 hk]; simp
 · rw [if_neg hk]; exact h3
theorem kid_lv {nd x:Nd} (h:okT nd) (hx:x ∈ nd.kids):(lvN x).length<=(lvN nd).length/\okT x/\dpN x < dpN nd:=by
 obtain ⟨k,p,l⟩:=nd
 obtain ⟨h1,h2,h3,_,h4⟩:=h
 replace hx:x ∈ l:=hx
 have hk:k≠0:=fun e=>by rw [h1 e] at hx; cases hx
 refine ⟨?_,zGh h4 hx,?_⟩
 · show _<=(if k=0 then [p] else lvL l).length
   rw [if_neg hk]
   exact zGd hx
 · show dpN x < dpL l+1
   have:=zGI hx
   omega
theorem zD3 {f:Nat} (hf:f < 1000000):∀ (n:Nat) (nd:Nd),okT nd->(lvN nd).length < f->dpN nd<=n->c19 f n (nd,(nd,()))=some (true,())
 | 0,nd,_,_,h=>by obtain ⟨k,p,l⟩:=nd; simp [dpN] at h
 | n+1,nd,h1,h2,h3=>zGx (by have:=zPx h1; omega) hf fun x hx=>by
  obtain ⟨q1,q2,q3⟩:=kid_lv h1 hx
  exact zD3 hf n x q2 (by omega) (by omega)
theorem zMU {f:Nat} (hf:f < 1000000) {n:Int} {ps:List Nd} (h:Pt 0 n ps) (hn:n.toNat < f):∃ N,c19 f N (Nd.mk 1 0 ps,(Nd.mk 1 0 ps,()))=some (true,()):=by
 have h1:(lvL ps).length=n.toNat:=by rw [h.2.1,ky]; congr 1; omega
 refine ⟨dpL ps+1,zGx (nd:=Nd.mk 1 0 ps) (by have:=h.len; show ps.length < f; omega) hf fun x hx=>?_⟩
 replace hx:x ∈ ps:=hx
 exact zD3 hf _ x (zGh h.2.2.1 hx) (by have:=zGd hx; omega) (zGI hx)
end
section
open Go.Al Go.Den
structure Alk (l m:List TokT):Prop where
 len:l.length=m.length
 eqv:∀ p:Nat,(l.getD p tokD).kind=(m.getD p tokD).kind/\((l.getD p tokD).kind=1\/(l.getD p tokD).kind=5->(l.getD p tokD).text=(m.getD p tokD).text)
theorem Alk.symm {l m:List TokT} (h:Alk l m):Alk m l:=⟨h.len.symm,fun p=>⟨(h.eqv p).1.symm,fun e=>((h.eqv p).2 (by rw [(h.eqv p).1]; exact e)).symm⟩⟩
section
variable {l m:List TokT} (h:Alk l m) (p:Int)
include h
theorem Alk.text:zK l p=zK m p:=by
 obtain ⟨h1,h2⟩:=h.eqv p.toNat
 unfold zK
 rw [h.len]
 by_cases hp:(m.length:Int)<=p
 · rw [if_pos hp,if_pos hp]
 · rw [if_neg hp,if_neg hp]
   show (if (l.getD p.toNat tokD).kind=1\/(l.getD p.toNat tokD).kind=5 then _ else _)=(if (m.getD p.toNat tokD).kind=1\/(m.getD p.toNat tokD).kind=5 then _ else _)
   by_cases hk:(l.getD p.toNat tokD).kind=1\/(l.getD p.toNat tokD).kind=5
   · rw [if_pos hk,if_pos (by rw [<- h1]; exact hk)]; exact h2 hk
   · rw [if_neg hk,if_neg (by rw [<- h1]; exact hk)]
theorem Alk.name:zn l p=zn m p:=by
 obtain ⟨h1,h2⟩:=h.eqv p.toNat
 unfold zn
 rw [h.len]
 show (decide (p < (m.length:Int)) && (decide ((l.getD p.toNat tokD).kind=1) && !kwL.contains (l.getD p.toNat tokD).text))=(decide (p < (m.length:Int)) && (decide ((m.getD p.toNat tokD).kind=1) && !kwL.contains (m.getD p.toNat tokD).text))
 rw [h1]
 by_cases hk:(m.getD p.toNat tokD).kind=1
 · rw [h2 (by rw [h1]; exact .inl hk)]
 · rw [show decide ((m.getD p.toNat tokD).kind=1)=false from decide_eq_false hk,Bool.false_and,Bool.false_and]
theorem Alk.kind (k:Int):xc k l p=xc k m p:=by
 obtain ⟨h1,h2⟩:=h.eqv p.toNat
 unfold xc
 rw [h.len]
 show (decide (p < (m.length:Int)) && decide ((l.getD p.toNat tokD).kind=k))=(decide (p < (m.length:Int)) && decide ((m.getD p.toNat tokD).kind=k))
 rw [h1]
theorem Alk.type (xs:List MT):xQ l xs p=xQ m xs p:=by
 obtain ⟨h1,h2⟩:=h.eqv p.toNat
 unfold xQ
 rw [h.name p]
 by_cases hn:zn m p=true
 · have hk:(m.getD p.toNat tokD).kind=1:=by
    unfold zn at hn
    simp only [Bool.and_eq_true,decide_eq_true_eq] at hn
    exact hn.2.1
   show (zn m p && qX (l.getD p.toNat tokD).text xs.reverse)=(zn m p && qX (m.getD p.toNat tokD).text xs.reverse)
   rw [h2 (by rw [h1]; exact .inl hk)]
 · rw [Bool.not_eq_true] at hn
   rw [hn]; rfl
end
def simE (l m:List TokT):Sim:=⟨l,m,0,fun _=>True,fun xs ys=>xs=ys,fun x y=>x=y,True,0⟩
theorem zPm {l m:List TokT} (hl:l.length<=4000) (h:Alk l m):(simE l m).Ok where
 lenA:=hl
 lenB:=by show m.length < 1000000; rw [<- h.len]; omega
 d0:=Int.le_refl _
 lo0:=Int.le_refl _
 lenAB:=by show (l.length:Int)+0<=m.length; rw [h.len]; omega
 mono:=fun _ h=>h
 weak:=fun p _ _ _ w _=>by show zK l p=w↔zK m (p+0)=w; rw [Int.add_zero,h.text]
 full:=fun p _ _ _ w _=>by show zK l p=w↔zK m (p+0)=w; rw [Int.add_zero,h.text]
 name:=fun p _ _ _=>by show zn l p=zn m (p+0); rw [Int.add_zero,h.name]
 kind:=fun k p _ _ _=>by show xc k l p=xc k m (p+0); rw [Int.add_zero,h.kind]
 type:=fun p xs ys _ _ e _=>by
  replace e:xs=ys:=e
  subst e
  show xQ l xs p=xQ m xs (p+0)
  rw [Int.add_zero,h.type]
 srlen:=fun {xs ys} e=>by replace e:xs=ys:=e; rw [e]
 push:=fun {xs ys x y} e e2=>by replace e:xs=ys:=e; replace e2:x=y:=e2; subst e e2; rfl
 mr0:=rfl
 pop:=fun {xs ys x y} e _=>by
  replace e:xs++[x]=ys++[y]:=e
  obtain ⟨h1,h2⟩:=List.append_inj' e rfl
  exact ⟨h1,by injection h2⟩
 dcl:=fun {xs ys x y p v} e _ _ _=>by
  replace e:xs++[x]=ys++[y]:=e
  obtain ⟨h1,h2⟩:=List.append_inj' e rfl
  injection h2 with h2
  subst h1 h2
  show xs++[xh x (zK l p) v]=xs++[xh x (zK m (p+0)) v]
  rw [Int.add_zero,h.text]
 nameE:=fun p _ _=>by show zK l p=[]↔zK m (p+0)=[]; rw [Int.add_zero,h.text]
 td:=fun _ _=>trivial
theorem zNK {fu m:Nat} (hd:Deep fu m) {l l':List TokT} (hl:l.length<=4000) (h:Alk l l'):c17 fu m (l,())=c17 fu m (l',()):=by
 have one:∀ {l l':List TokT},l.length<=4000->Alk l l'->∀ {xs':List MT} {ps':List Nd},Decls ((rs fu m).c37 (true,())) l 0 [[]] [] l.length xs' ps'->c17 fu m (l',())=some (Nd.mk 1 0 ps',0,()):=by
  intro l l' hl h xs' ps' hD
  obtain ⟨ys',qs,g1,g2,g3,g4⟩:=zG7 (zPm hl h) hd hD [[]] ⟨Int.le_refl _,by show (0:Int)<=(l.length:Int); omega,Nat.le_refl _,rfl,rfl⟩ trivial
  have g5:=g4 []
  rw [List.nil_append] at g1
  subst g1
  have e1:(simE l l').d=0:=rfl
  rw [e1,zCw,Int.add_zero,Int.add_zero,List.nil_append] at g5
  have e2:((simE l l').A.length:Int)=(l'.length:Int):=by show (l.length:Int)=_; rw [h.len]
  refine zIW hd (by rw [<- h.len]; exact hl) (xs':=ys') ?_
  have e3:(l.length:Int)=(l'.length:Int):=by rw [h.len]
  rw [e3] at g5
  exact g5
 rcases kq hd hl with h1 | ⟨xs',ps',h1,h2,h3,h4⟩
 · rcases kq hd (l:=l') (by rw [<- h.len]; exact hl) with k1 | ⟨ys',qs',k1,k2,k3,k4⟩
   · rw [h1,k1]
   · have:=one (l:=l') (l':=l) (by rw [<- h.len]; exact hl) h.symm k1
     rw [k4,this]
 · rw [h4,one hl h h1]
theorem zHR {fu m:Nat} (hd:Deep fu m) {l:List TokT} (hl:l.length<=4000):∃ nd e n,c17 fu m (l,())=some (nd,(e,()))/\c19 5000 n (nd,(nd,()))=some (true,()):=by
 rcases kq hd hl with h1 | ⟨xs',ps',h1,h2,h3,h4⟩
 · exact ⟨_,_,_,h1,zD3 (f:=5000) (by omega) 1 _ ⟨fun _=>rfl,fun _=>rfl,by simp [lvL],fun x e=>(by cases e),trivial⟩ (by simp [lvN]) (by simp [dpN,dpL])⟩
 · obtain ⟨N,hN⟩:=zMU (f:=5000) (by omega) h2 (by omega)
   exact ⟨_,_,_,h4,hN⟩
end
section
open Go.Al Go.Den
theorem zMy {fu:Nat} (x:Str) (hfu:x.length+200 < fu) (hx:x.length<=1090000):∃ t b,c20 fu (x,())=some (t,(b,()))/\(b=true->t.text=x/\TokG t):=by
 obtain ⟨l,h1,h2,h3⟩:=zGo 0 x hfu hx
 show ∃ t b,sh20 fu (c39 fu) (fun _=>false) x=some (t,(b,()))/\_
 unfold sh20
 rw [h1,Option.bind_some]
 dsimp only
 by_cases hl:l.length=1
 · rw [show ine (lenI l) 1=false from zCJ (by show (l.length:Int)=1; omega),cond_false,zBz (by omega) (by omega),cond_true,cond_true,cond_true]
   have hget:List.getD l 0 tokD=l[0]'(by omega):=by rw [List.getD_eq_getElem?_getD,List.getElem?_eq_getElem (by omega)]; rfl
   rw [hget]
   cases ieq (l[0]'(by omega)).kind 7
   · rw [cond_false]
     cases hs:seq (l[0]'(by omega)).text x
     · exact ⟨_,_,rfl,fun e=>by cases e⟩
     · rw [Bool.not_true,cond_false]
       rw [yx] at hs
       exact ⟨_,_,rfl,fun _=>⟨of_decide_eq_true hs,h3 (l[0]'(by omega)) (List.getElem_mem _)⟩⟩
   · exact ⟨_,_,rfl,fun e=>by cases e⟩
 · rw [show ine (lenI l) 1=true from zNn (by show (l.length:Int)≠1; omega),cond_true]
   exact ⟨_,_,rfl,fun e=>by cases e⟩
def swp (a b:Str) (s:Str):Str:=if s=a then b else if s=b then a else s
theorem zP4 {a b s t:Str} (h:swp a b s=swp a b t):s=t:=by
 unfold swp at h
 by_cases h1:s=a <;> by_cases h2:t=a <;> by_cases h3:s=b <;> by_cases h4:t=b <;> simp_all
def RnT (a b:Str) (t u:TokT):Prop:=u.kind=t.kind/\¬ (t.kind=1/\t.text=b)/\u.text=if t.kind=1/\t.text=a then b else t.text
theorem RnT.symm {a b:Str} {t u:TokT} (h:RnT a b t u) (hd:RnT a b tokD tokD):RnT b a u t:=by
 obtain ⟨h1,h2,h3⟩:=h
 refine ⟨h1.symm,fun e=>?_,?_⟩
 · obtain ⟨e1,e2⟩:=e
   by_cases hk:t.kind=1/\t.text=a
   · rw [if_pos hk] at h3
     exact h2 ⟨hk.1,by rw [hk.2,<- e2,h3]⟩
   · rw [if_neg hk] at h3
     exact hk ⟨by rw [<- h1]; exact e1,by rw [<- h3]; exact e2⟩
 · by_cases hk:t.kind=1/\t.text=a
   · rw [if_pos hk] at h3
     rw [if_pos ⟨h1.trans hk.1,h3⟩,hk.2]
   · rw [if_neg hk] at h3
     rw [if_neg (fun e=>h2 ⟨by rw [<- h1]; exact e.1,by rw [<- h3]; exact e.2⟩),h3]
structure Rns (a b:Str) (l m:List TokT):Prop where
 len:l.length=m.length
 eqv:∀ p:Nat,RnT a b (l.getD p tokD) (m.getD p tokD)
def isNm (s:Str):Prop:=kwL.contains s=false/\∃ c r,s=c::r/\je (c.toNat:Int)
theorem zNh:∀ w ∈ weakW++fullW,(kwL.contains w || (match w with | []=>true | c::_=>!(c.toNat == 95 || (Nat.ble 97 c.toNat && Nat.ble c.toNat 122) || (Nat.ble 65 c.toNat && Nat.ble c.toNat 90))))=true:=by decide
theorem zKh {s:Str} (h:isNm s):s ∉ weakW++fullW:=fun hm=>by
 obtain ⟨h1,c,r,rfl,h2⟩:=h
 have h3:=zNh _ hm
 rw [h1,Bool.false_or] at h3
 have h4:(!(c.toNat == 95 || (Nat.ble 97 c.toNat && Nat.ble c.toNat 122) || (Nat.ble 65 c.toNat && Nat.ble c.toNat 90)))=true:=h3
 have h5:(c.toNat == 95 || (Nat.ble 97 c.toNat && Nat.ble c.toNat 122) || (Nat.ble 65 c.toNat && Nat.ble c.toNat 90))=true:=by
  unfold je at h2
  rw [Bool.or_eq_true,Bool.or_eq_true,Bool.and_eq_true,Bool.and_eq_true,Nat.ble_eq,Nat.ble_eq,Nat.ble_eq,Nat.ble_eq,beq_iff_eq]
  omega
 rw [h5] at h4
 cases h4
section
variable {a b:Str} {l m:List TokT} (h:Rns a b l m) (hb:isNm b) (ha:kwL.contains a=false) (hg:∀ t ∈ l,TokG t) (p:Int)
include h
theorem Rns.kind (k:Int):xc k l p=xc k m p:=by
 unfold xc
 rw [h.len]
 show (decide (p < (m.length:Int)) && decide ((l.getD p.toNat tokD).kind=k))=(decide (p < (m.length:Int)) && decide ((m.getD p.toNat tokD).kind=k))
 rw [(h.eqv p.toNat).1]
include hb ha hg
theorem Rns.name:zn l p=zn m p:=by
 unfold zn
 rw [h.len]
 show (decide (p < (m.length:Int)) && (decide ((l.getD p.toNat tokD).kind=1) && !kwL.contains (l.getD p.toNat tokD).text))=(decide (p < (m.length:Int)) && (decide ((m.getD p.toNat tokD).kind=1) && !kwL.contains (m.getD p.toNat tokD).text))
 obtain ⟨h1,h2,h3⟩:=h.eqv p.toNat
 rw [h1,h3]
 by_cases hk:(l.getD p.toNat tokD).kind=1/\(l.getD p.toNat tokD).text=a
 · rw [if_pos hk,hk.2,ha,hb.1]
 · rw [if_neg hk]
theorem Rns.word (p0:0<=p) (w:Str) (hw:w ∈ weakW++fullW):zK l p=w↔zK m p=w:=by
 obtain ⟨h1,h2,h3⟩:=h.eqv p.toNat
 unfold zK
 rw [h.len]
 by_cases hp:(m.length:Int)<=p
 · rw [if_pos hp,if_pos hp]
 · rw [if_neg hp,if_neg hp]
   show (if (l.getD p.toNat tokD).kind=1\/(l.getD p.toNat tokD).kind=5 then (l.getD p.toNat tokD).text else [])=w↔(if (m.getD p.toNat tokD).kind=1\/(m.getD p.toNat tokD).kind=5 then (m.getD p.toNat tokD).text else [])=w
   rw [h1,h3]
   by_cases hk:(l.getD p.toNat tokD).kind=1/\(l.getD p.toNat tokD).text=a
   · rw [if_pos (.inl hk.1),if_pos hk,if_pos (.inl hk.1)]
     have hlt:p.toNat < l.length:=by have:=h.len; omega
     have hmem:l.getD p.toNat tokD ∈ l:=by rw [List.getD_eq_getElem?_getD,List.getElem?_eq_getElem hlt]; exact List.getElem_mem _
     have hna:isNm a:=by
      obtain ⟨c,r,e1,e2⟩:=hg _ hmem hk.1
      exact ⟨ha,c,r,hk.2 ▸ e1,e2⟩
     rw [hk.2]
     exact ⟨fun e=>absurd hw (e ▸ zKh hna),fun e=>absurd hw (e ▸ zKh hb)⟩
   · rw [if_neg hk]
theorem Rns.text (hn:zn l p=true):zK m p=swp a b (zK l p)/\(tkA m p).text=swp a b (tkA l p).text/\zK l p=(tkA l p).text:=by
 have hlt:=jz hn
 obtain ⟨h1,h2,h3⟩:=h.eqv p.toNat
 have hk:(l.getD p.toNat tokD).kind=1:=by
  unfold zn at hn
  simp only [Bool.and_eq_true,decide_eq_true_eq] at hn
  exact hn.2.1
 have e1:zK l p=(tkA l p).text:=by
  unfold zK
  rw [if_neg (by omega),if_pos (.inl hk)]
 have e2:zK m p=(tkA m p).text:=by
  unfold zK
  rw [if_neg (by have:=h.len; omega),if_pos (.inl (h1.trans hk))]
 have e3:(tkA m p).text=swp a b (tkA l p).text:=by
  show (m.getD p.toNat tokD).text=swp a b (l.getD p.toNat tokD).text
  rw [h3]
  unfold swp
  by_cases ht:(l.getD p.toNat tokD).text=a
  · rw [if_pos ⟨hk,ht⟩,if_pos ht]
  · rw [if_neg (fun e=>ht e.2),if_neg ht,if_neg (fun e=>h2 ⟨hk,e⟩)]
 exact ⟨by rw [e2,e3,e1],e3,e1⟩
end
def MRn (a b:Str) (x y:MT):Prop:=∀ k,zfM (swp a b k) y=zfM k x
def SRn (a b:Str):List MT->List MT->Prop
 | [],[]=>True
 | x::r,y::s=>MRn a b x y/\SRn a b r s
 | _,_=>False
theorem SRn.len {a b:Str}:∀ {xs ys:List MT},SRn a b xs ys->xs.length=ys.length
 | [],[],_=>rfl
 | x::r,y::s,h=>by simp [SRn.len h.2]
theorem SRn.push {a b:Str} {x y:MT} (h2:MRn a b x y):∀ {xs ys:List MT},SRn a b xs ys->SRn a b (xs++[x]) (ys++[y])
 | [],[],_=>⟨h2,trivial⟩
 | _::_,_::_,h=>⟨h.1,SRn.push h2 h.2⟩
theorem SRn.pop {a b:Str} {x y:MT}:∀ {xs ys:List MT},SRn a b (xs++[x]) (ys++[y])->SRn a b xs ys/\MRn a b x y
 | [],[],h=>⟨trivial,h.1⟩
 | [],y' :: ys,h=>by have:=h.len; simp at this
 | x' :: xs,[],h=>by have:=h.len; simp at this
 | _::_,_::_,h=>⟨⟨h.1,(SRn.pop h.2).1⟩,(SRn.pop h.2).2⟩
theorem zJW (x:MT) (k:Str) (v:Int) (n:Str):zfM n (xh x k v)=if n=k then v else zfM n x:=by
 unfold zfM
 induction x with
 | nil=>
  simp only [xh,qA]
  by_cases h:n=k <;> simp [h]
 | cons a r ih=>
  obtain ⟨k',u⟩:=a
  simp only [xh]
  by_cases h:k=k'
  · subst h
    simp only [if_true,qA]
    by_cases h2:n=k <;> simp [h2]
  · rw [if_neg h]
    simp only [qA]
    by_cases h2:n=k'
    · subst h2
      rw [if_pos rfl,if_pos rfl,if_neg (fun e=>h e.symm)]
    · rw [if_neg h2,if_neg h2,ih]
theorem MRn.put {a b:Str} {x y:MT} (h:MRn a b x y) (k:Str) (v:Int):MRn a b (xh x k v) (xh y (swp a b k) v):=fun n=>by
 rw [zJW,zJW]
 by_cases e:n=k
 · rw [if_pos e,if_pos (by rw [e])]
 · rw [if_neg e,if_neg (fun e2=>e (zP4 e2)),h n]
theorem zG9 {a b nm:Str}:∀ {xs ys:List MT},SRn a b xs ys->qX (swp a b nm) ys=qX nm xs
 | [],[],_=>rfl
 | x::r,y::s,h=>by rw [zAf,zAf,h.1 nm,zG9 h.2]
theorem SRn.rev {a b:Str}:∀ {xs ys:List MT},SRn a b xs ys->SRn a b xs.reverse ys.reverse
 | [],[],_=>trivial
 | _::_,_::_,h=>by rw [List.reverse_cons,List.reverse_cons]; exact SRn.push h.1 h.2.rev
def simN (a b:Str) (l m:List TokT):Sim:=⟨l,m,0,fun _=>True,SRn a b,MRn a b,True,0⟩
theorem zQY {a b:Str} {l m:List TokT} (hl:l.length<=4000) (h:Rns a b l m) (hb:isNm b) (ha:kwL.contains a=false) (hg:∀ t ∈ l,TokG t):(simN a b l m).Ok where
 lenA:=hl
 lenB:=by show m.length < 1000000; rw [<- h.len]; omega
 d0:=Int.le_refl _
 lo0:=Int.le_refl _
 lenAB:=by show (l.length:Int)+0<=m.length; rw [h.len]; omega
 mono:=fun _ h=>h
 weak:=fun p p0 _ _ w hw=>by show zK l p=w↔zK m (p+0)=w; rw [Int.add_zero]; exact h.word hb ha hg p p0 w (List.mem_append_left _ hw)
 full:=fun p p0 _ _ w hw=>by show zK l p=w↔zK m (p+0)=w; rw [Int.add_zero]; exact h.word hb ha hg p p0 w (List.mem_append_right _ hw)
 name:=fun p _ _ _=>by show zn l p=zn m (p+0); rw [Int.add_zero,h.name hb ha hg]
 kind:=fun k p _ _ _=>by show xc k l p=xc k m (p+0); rw [Int.add_zero,h.kind]
 type:=fun p xs ys _ _ e _=>by
  show xQ l xs p=xQ m ys (p+0)
  rw [Int.add_zero]
  unfold xQ
  rw [<- h.name hb ha hg]
  cases hn:zn l p
  · rfl
  · rw [(h.text hb ha hg p hn).2.1,zG9 (SRn.rev e)]
 srlen:=fun e=>SRn.len e
 push:=fun e e2=>SRn.push e2 e
 mr0:=fun _=>rfl
 pop:=fun e _=>SRn.pop e
 dcl:=fun {xs ys x y p v} e _ hn _=>by
  obtain ⟨e1,e2⟩:=SRn.pop e
  have h3:=(h.text hb ha hg p hn).1
  show SRn a b (xs++[xh x (zK l p) v]) (ys++[xh y (zK m (p+0)) v])
  rw [Int.add_zero,h3]
  exact SRn.push (e2.put _ _) e1
 nameE:=fun p p0 hn=>by
  show zK l p=[]↔zK m (p+0)=[]
  rw [Int.add_zero]
  have p1:0<=p:=p0
  replace hn:zn l p=true:=hn
  obtain ⟨h3,_,h4⟩:=h.text hb ha hg p hn
  have hlt:=jz hn
  have hk:(l.getD p.toNat tokD).kind=1:=by
   unfold zn at hn
   simp only [Bool.and_eq_true,decide_eq_true_eq] at hn
   exact hn.2.1
  have hmem:l.getD p.toNat tokD ∈ l:=by rw [List.getD_eq_getElem?_getD,List.getElem?_eq_getElem (by omega)]; exact List.getElem_mem _
  obtain ⟨c,r,e1,e2⟩:=hg _ hmem hk
  have h5:zK l p≠[]:=by
   rw [h4]
   show (l.getD p.toNat tokD).text≠[]
   rw [e1]; simp
  refine ⟨fun e=>absurd e h5,fun e=>?_⟩
  rw [h3] at e
  unfold swp at e
  obtain ⟨_,c2,r2,e3,_⟩:=hb
  by_cases q1:zK l p=a
  · rw [if_pos q1,e3] at e; cases e
  · rw [if_neg q1] at e
    by_cases q2:zK l p=b
    · -- a is empty: then the first one has no such name; but b's place would be empty
      rw [if_pos q2] at e
      have h6:=(h.eqv p.toNat).2.1
      exact absurd ⟨hk,by rw [h4] at q2; exact q2⟩ h6
    · rw [if_neg q2] at e; exact e
 td:=fun _ _=>trivial
theorem Rns.good {a b:Str} {l m:List TokT} (h:Rns a b l m) (hb:isNm b) (hg:∀ t ∈ l,TokG t):∀ t ∈ m,TokG t:=fun t ht hk=>by
 obtain ⟨p,hp,rfl⟩:=List.getElem_of_mem ht
 have e1:m.getD p tokD=m[p]:=by rw [List.getD_eq_getElem?_getD,List.getElem?_eq_getElem hp]; rfl
 have hp2:p < l.length:=by rw [h.len]; exact hp
 have e2:l.getD p tokD=l[p]:=by rw [List.getD_eq_getElem?_getD,List.getElem?_eq_getElem hp2]; rfl
 obtain ⟨h1,h2,h3⟩:=h.eqv p
 rw [e1,e2] at h1 h3
 rw [h3]
 by_cases hc:l[p].kind=1/\l[p].text=a
 · rw [if_pos hc]; exact hb.2
 · rw [if_neg hc]
   exact hg _ (List.getElem_mem hp2) (by rw [<- h1]; exact hk)
theorem zNB {fu m:Nat} (hd:Deep fu m) {a b:Str} {l l':List TokT} (hl:l.length<=4000) (h:Rns a b l l') (hb:isNm b) (ha:kwL.contains a=false) (hg:∀ t ∈ l,TokG t):c17 fu m (l,())=c17 fu m (l',()):=by
 have one:∀ {a b:Str} {l l':List TokT},l.length<=4000->Rns a b l l'->isNm b->kwL.contains a=false->(∀ t ∈ l,TokG t)->∀ {xs':List MT} {ps':List Nd},Decls ((rs fu m).c37 (true,())) l 0 [[]] [] l.length xs' ps'->c17 fu m (l',())=some (Nd.mk 1 0 ps',0,()):=by
  intro a b l l' hl h hb ha hg xs' ps' hD
  obtain ⟨ys',qs,g1,g2,g3,g4⟩:=zG7 (zQY hl h hb ha hg) hd hD [[]] ⟨Int.le_refl _,by show (0:Int)<=(l.length:Int); omega,Nat.le_refl _,rfl,⟨fun _=>rfl,trivial⟩⟩ trivial
  have g5:=g4 []
  rw [List.nil_append] at g1
  subst g1
  have e1:(simN a b l l').d=0:=rfl
  rw [e1,zCw,Int.add_zero,Int.add_zero,List.nil_append] at g5
  refine zIW hd (by rw [<- h.len]; exact hl) (xs':=ys') ?_
  have e3:(l.length:Int)=(l'.length:Int):=by rw [h.len]
  rw [e3] at g5
  exact g5
 rcases kq hd hl with h1 | ⟨xs',ps',h1,h2,h3,h4⟩
 · rcases kq hd (l:=l') (by rw [<- h.len]; exact hl) with k1 | ⟨ys',qs',k1,k2,k3,k4⟩
   · rw [h1,k1]
   · -- the second one ends well: so does the first one
     by_cases hex:∃ t ∈ l,t.kind=1/\t.text=a
     · obtain ⟨t,ht,hk,hta⟩:=hex
       have hna:isNm a:=by
        obtain ⟨c,r,e1,e2⟩:=hg t ht hk
        exact ⟨ha,c,r,hta ▸ e1,e2⟩
       have hs:Rns b a l' l:=⟨h.len.symm,fun p=>(h.eqv p).symm (by
        refine ⟨rfl,fun e=>absurd e.1 (by decide),?_⟩
        rw [if_neg (fun e=>absurd e.1 (by decide))])⟩
       have:=one (l:=l') (l':=l) (by rw [<- h.len]; exact hl) hs hna hb.1 (h.good hb hg) k1
       rw [k4,this]
     · have heq:Alk l l':=⟨h.len,fun p=>by
        obtain ⟨e1,e2,e3⟩:=h.eqv p
        refine ⟨e1.symm,fun _=>?_⟩
        rw [e3,if_neg]
        intro e
        by_cases hp:p < l.length
        · exact hex ⟨_,by rw [List.getD_eq_getElem?_getD,List.getElem?_eq_getElem hp]; exact List.getElem_mem _,e⟩
        · rw [List.getD_eq_getElem?_getD,List.getElem?_eq_none (by omega)] at e
          exact absurd e.1 (by decide)⟩
       exact zNK hd hl heq
 · rw [h4,one hl h hb ha hg h1]
theorem zOQ {fu f2 m:Nat} (hd:Deep fu m) (nf:Nat->Bool) (x0 x1 x2:Str) (h2:x2.length<=1090000) (hf2:x2.length+200 < f2):∃ n,sh5 fu c14t c16 (c17 fu m) (c18 fu) (c19 5000 n) (c20 f2) nf x0 x1 x2=some (true,()):=by
 have hfu:=hd.fu
 obtain ⟨t,bo,g1,g2⟩:=zMy x2 hf2 h2
 have hc16:∀ s:Str,c16 (s,())=some (kwL.contains s,()):=fun s=>rfl
 by_cases hx:400 < x0.length
 · refine ⟨0,?_⟩
   have e:ilt 400 (lenI x0)=true:=decide_eq_true (by show (400:Int) < (x0.length:Int); omega)
   unfold sh5
   show Option.bind (some (true,())) _=_
   rw [Option.bind_some,g1,Option.bind_some,hc16,Option.bind_some]
   dsimp only
   cases kwL.contains x1
   · rw [cond_false,hc16,Option.bind_some,e,cond_true]
   · rw [cond_true,e,cond_true]
 · obtain ⟨l,f1,f2',f3⟩:=zLw (fu:=fu) x0 (by omega) (by omega)
   obtain ⟨nd,e,n,q1,q2⟩:=zHR hd (l:=l) (by omega)
   refine ⟨n,?_⟩
   have e0:ilt 400 (lenI x0)=false:=decide_eq_false (by show ¬ (400:Int) < (x0.length:Int); omega)
   unfold sh5
   show Option.bind (some (true,())) _=_
   rw [Option.bind_some,g1,Option.bind_some,hc16,Option.bind_some]
   dsimp only
   cases hk1:kwL.contains x1 with
   | true=>
    rw [cond_true,e0,cond_false]
    cases bo
    · rfl
    · rw [Bool.not_true,cond_false]; cases ine t.kind 1 <;> rfl
   | false=>
    rw [cond_false,hc16,Option.bind_some,e0,cond_false]
    dsimp only
    cases bo with
    | false=>rfl
    | true=>
     rw [Bool.not_true,cond_false]
     cases hkd:ine t.kind 1 with
     | true=>rfl
     | false=>
      rw [cond_false]
      cases hk2:kwL.contains x2 with
      | true=>rfl
      | false=>
       rw [cond_false,f1,Option.bind_some]
       dsimp only
       have hb:isNm x2:=by
        obtain ⟨u1,u2⟩:=g2 rfl
        rw [zER] at hkd
        have hk:t.kind=1:=by simpa using hkd
        obtain ⟨c,r,v1,v2⟩:=u2 hk
        exact ⟨hk2,c,r,u1 ▸ v1,v2⟩
       refine zDK (fun st=>∃ (k:Nat) (mm:List TokT),st=((mm,((k:Int),())),())/\k<=l.length/\mm.length=k/\∀ p:Nat,p < k->RnT x1 x2 (l.getD p tokD) (mm.getD p tokD)) (fun st=>l.length - st.1.2.1.toNat) ?_ fu _ ⟨0,[],rfl,by omega,rfl,fun p hp=>by omega⟩ (by dsimp only; omega)
       rintro rec st ⟨k,mm,rfl,hk,hmm,hal⟩ hrec
       dsimp only
       by_cases hlt:k < l.length
       · rw [show ilt (k:Int) (lenI l)=true from decide_eq_true (by show (k:Int) < (l.length:Int); omega),cond_true,zBz (by omega) (by omega),cond_true]
         rw [xD (k:Int) 1 (by omega) (by omega),Int.toNat_natCast]
         generalize hT:l.getD k tokD=T at *
         have go:∀ T':TokT,RnT x1 x2 T T'->cond (okN 56 (mm.length+[T'].length)) (rec ((mm++[T'],((k:Int)+1,())),())) none=some (true,()):=by
          intro T' h1
          rw [show okN 56 (mm.length+[T'].length)=true from zBG (by simp only [List.length_cons,List.length_nil]; omega) (by simp only [List.length_cons,List.length_nil,maxLen]; omega),cond_true]
          refine hrec _ ⟨k+1,mm++[T'],by simp,hlt,by simp [hmm],fun p hp=>?_⟩ (by dsimp only; omega)
          by_cases hpk:p < k
          · have e1:(mm++[T']).getD p tokD=mm.getD p tokD:=by
             rw [List.getD_eq_getElem?_getD,List.getD_eq_getElem?_getD,List.getElem?_append_left (by omega)]
            rw [e1]
            exact hal p hpk
          · obtain rfl:p=k:=by omega
            have e1:(mm++[T']).getD p tokD=T':=by
             rw [List.getD_eq_getElem?_getD,List.getElem?_append_right (by omega),hmm]; simp
            rw [e1,hT]
            exact h1
         by_cases c1:T.kind=1
         · rw [zIL c1,cond_true]
           by_cases c2:T.text=x2
           · rw [show seq T.text x2=true by rw [yx]; exact decide_eq_true c2,cond_true]
           · rw [show seq T.text x2=false by rw [yx]; exact decide_eq_false c2,cond_false,cond_true]
             by_cases c3:T.text=x1
             · rw [show seq T.text x1=true by rw [yx]; exact decide_eq_true c3,cond_true]
               exact go ⟨T.kind,x2,T.file,T.ffrom,T.fto,T.blank⟩ ⟨rfl,fun e=>c2 e.2,by rw [if_pos ⟨c1,c3⟩]⟩
             · rw [show seq T.text x1=false by rw [yx]; exact decide_eq_false c3,cond_false]
               exact go ⟨T.kind,T.text,T.file,T.ffrom,T.fto,T.blank⟩ ⟨rfl,fun e=>c2 e.2,by rw [if_neg (fun e=>c3 e.2)]⟩
         · rw [zMC c1,cond_false,cond_false]
           exact go ⟨T.kind,T.text,T.file,T.ffrom,T.fto,T.blank⟩ ⟨rfl,fun e=>c1 e.1,by rw [if_neg (fun e=>c1 e.1)]⟩
       · obtain rfl:k=l.length:=by omega
         rw [show ilt (l.length:Int) (lenI l)=false from decide_eq_false (by show ¬ (l.length:Int) < (l.length:Int); omega),cond_false]
         have hA:Rns x1 x2 l mm:=⟨hmm.symm,fun p=>by
          by_cases hp:p < l.length
          · exact hal p hp
          · have e1:l.getD p tokD=tokD:=by rw [List.getD_eq_getElem?_getD,List.getElem?_eq_none (by omega)]; rfl
            have e2:mm.getD p tokD=tokD:=by rw [List.getD_eq_getElem?_getD,List.getElem?_eq_none (by omega)]; rfl
            rw [e1,e2]
            exact ⟨rfl,fun e=>absurd e.1 (by decide),by rw [if_neg (fun e=>absurd e.1 (by decide))]⟩⟩
         rw [<- zNB hd (by omega) hA hb hk1 f3,q1,Option.bind_some,Option.bind_some]
         dsimp only
         rw [cond_true,zIL rfl,cond_true,yO,q2,Option.bind_some]
end
section
open Go.Al Go.Den
def u5 (x:Str×Str×Str×Unit):Option (Bool×Unit):=if x.1.length+x.2.1.length+x.2.2.1.length<=1048576 then some (true,()) else none
theorem ok5:ConOk CC Tryz.prog 5 ⟨as5,rs5,u5⟩:=fun x y hx=>by
 obtain ⟨x0,x1,x2,u⟩:=x
 change Str at x0 x1 x2
 by_cases h:x0.length+x1.length+x2.length<=1048576
 · have h2:u5 (x0,x1,x2,u)=some (true,()):=if_pos h
   replace hx:u5 (x0,x1,x2,u)=some y:=hx
   rw [h2] at hx
   injection hx with hx
   subst hx
   obtain ⟨n,hn⟩:=zOQ (fu:=6000) (f2:=x2.length+201) (m:=80200) ⟨by omega,by omega⟩ (fun _=>false) x0 x1 x2 (by omega) (by omega)
   exact con5 6000 c14t ok14t c16 ok16 (c17 6000 80200) (ok17 6000 80200) (c18 6000) (ok18 6000) (c19 5000 n) (ok19 5000 n) (c20 (x2.length+201)) (ok20 (x2.length+201)) (x0,x1,x2,u) _ hn
 · have h2:u5 (x0,x1,x2,u)=none:=if_neg h
   replace hx:u5 (x0,x1,x2,u)=some y:=hx
   rw [h2] at hx
   cases hx
end
end Go.Proofs.YtnamdpbcpnnhaaaGreatDoor
namespace Go.Proofs.YtnamdpbcpnnhaaaGreatDoor.parseNames
section
open Go.Al Go.Den Go.ChangeShapes Go.WideShapes Go.ChangeAt Go.RowKit
open Go.ChangeMaps (open_string shut_string)
theorem own:ownKnob Tryz.prog.godebug=none:=by kernel_rfl
theorem laidOut:laidOutB Tryz.prog=true:=by kernel_rfl
theorem walk (z0:List UInt8) (z1:List UInt8) (z2:List UInt8) (hb:z0.length+z1.length+z2.length<=1048576) (W:World) (hgl:GlobOk W.heap.size (wmOf W) W) (v0 v1 v2:Value) (h0:RV1 ⟨wmOf W,fun _=>none,Fr.no⟩ W (.at (.string ⟨z0.toArray⟩)) v0) (h1:RV1 ⟨wmOf W,fun _=>none,Fr.no⟩ W (.at (.string ⟨z1.toArray⟩)) v1) (h2:RV1 ⟨wmOf W,fun _=>none,Fr.no⟩ W (.at (.string ⟨z2.toArray⟩)) v2):Calls Tryz.prog 5 #[v0,v1,v2] W fun e W'=>e = .returned (.bool true)/\Below W.heap.size W W':=by
 have hp:=ok5 (z0,z1,z2,()) (true,()) (if_pos hb) _ ⟨_,_,rfl,rfl,⟨_,_,rfl,rfl,⟨_,_,rfl,rfl,rfl⟩⟩⟩
 refine (hp (wmOf W) W [v0,v1,v2] (zKv W) hgl (.cons h0 (.cons h1 (.cons h2 RVs.nil)))).mono ?_
 rintro e W' ⟨v,wm',rfl,_,hst,hr⟩
 have hv:v = .bool true:=zj hr
 subst hv
 exact ⟨rfl,hst.below⟩
theorem reads (os:Os) {H:Type} (enc:TypeId×Value->H):∃ places,DataW.whole enc Tryz.prog ((World.doorLaid Tryz.prog 400 os).forCall (fun _ _=>0) ⟨#[],#[.string ByteArray.empty,.string ByteArray.empty,.string ByteArray.empty],[]⟩).memory Tryz.f5.params.toList Rows.parseNamesSpec.vars false (#[.string ByteArray.empty,.string ByteArray.empty,.string ByteArray.empty]:Array Value).toList 8=some ([DataW.lit (.string []),DataW.lit (.string []),DataW.lit (.string [])],[],places):=
 ⟨[],by kernel_rfl⟩
set_option maxRecDepth 100000 in
theorem lifted (os:Os) (started:os.Started) (H:Type) (enc:TypeId×Value->H) (F:Stop.Interp) :
 ReturnsInHanded {} Tryz.checked os 5 .any ((Rows.OpenSpec.upto Rows.parseNamesSpec).preRow enc Tryz.prog Tryz.f5 Rows.parseNamesUptoRow.domain false Rows.parseNamesUptoRow.laid) (((Rows.OpenSpec.upto Rows.parseNamesSpec).at F).post enc Tryz.prog Tryz.f5 false true false false):=by
 obtain ⟨places,hx⟩:=reads os enc
 refine returnsInHanded_of_row (C:=Tryz.checked) (s:=Rows.OpenSpec.upto Rows.parseNamesSpec) own started (by kernel_rfl) Tryz.func5
  (zGc (enc:=enc) (C:=Tryz.checked) false (World.doorLaid Tryz.prog 400 os) #[.string ByteArray.empty,.string ByteArray.empty,.string ByteArray.empty] rfl (World.shaped_of_RefB (by kernel_rfl) (by kernel_rfl)) (by kernel_rfl)
   (OpenSpec.preRow_of_cond 8 hx (by kernel_rfl) (fun k hk=>by cases hk; kernel_rfl) (by kernel_rfl) (zOc os _))) ?_
 intro W base args ds gs before hval0 hW _ hcond _ hL hsh _
 have hval:∀ (j:Nat) t v,Tryz.f5.params[j]? = some t->args[j]? = some v->Value.okWide Tryz.prog W .any base t v:=hval0
 have hW':=hW
 obtain ⟨p,q,hA0,hV,rfl,hfz,hnd⟩:=hW
 have hA:DataW.TrodAll enc Tryz.prog W 0 (fun _=>true) true Tryz.f5.params.toList args.toList ds p:=hA0
 rw [Tryz.params5] at hA hval
 obtain ⟨v0,vs0,d0,ds0,p0,q0,hargs,rfl,rfl,h0,r0⟩:=trodAll_cons hA
 obtain ⟨v1,vs1,d1,ds1,p1,q1,rfl,rfl,rfl,h1,r1⟩:=trodAll_cons r0
 obtain ⟨v2,vs2,d2,ds2,p2,q2,rfl,rfl,rfl,h2,r2⟩:=trodAll_cons r1
 obtain ⟨rfl,rfl,rfl⟩:=trodAll_nil r2
 obtain rfl:args = #[v0,v1,v2]:=by cases args; simp_all
 obtain ⟨rfl,rfl⟩:=trodVars_none hV
 have hgl:=zGb hsh hL
 have k0:=h0
 have lt0:∀ x ∈ p0,x.block < W.heap.size:=by obtain ⟨m,hm⟩:=k0; exact DataW.trod_lt m _ _ _ hm
 obtain ⟨s0,rfl,rfl,rfl,w0⟩:=open_string Tryz.underlying9 (hval 0 9 v0 rfl rfl) h0
 have k1:=h1
 have lt1:∀ x ∈ p1,x.block < W.heap.size:=by obtain ⟨m,hm⟩:=k1; exact DataW.trod_lt m _ _ _ hm
 obtain ⟨s1,rfl,rfl,rfl,w1⟩:=open_string Tryz.underlying9 (hval 1 9 v1 rfl rfl) h1
 have k2:=h2
 have lt2:∀ x ∈ p2,x.block < W.heap.size:=by obtain ⟨m,hm⟩:=k2; exact DataW.trod_lt m _ _ _ hm
 obtain ⟨s2,rfl,rfl,rfl,w2⟩:=open_string Tryz.underlying9 (hval 2 9 v2 rfl rfl) h2
 have hb:=of_decide_eq_true (hcond _ rfl)
 simp only [List.append_nil,List.nil_append,Rows.uptoBulkAll,Rows.uptoBulk,List.cons_append] at hb
 clear hA0 hval0 hcond
 refine (walk s0.data.toList s1.data.toList s2.data.toList (by omega) W hgl _ _ _ (zGZ s0) (zGZ s1) (zGZ s2)).mono fun e W' ⟨he,bel⟩=>?_
 subst he
 exact ⟨_,rfl,_,_,_,[],_,[],hW',trodAll_mk1 (shut_bool Tryz.underlying4 _),(trodAll_cons_mk (Below.trod laidOut (by kernel_rfl) (of_decide_eq_true (by kernel_rfl)) k0 bel lt0) (trodAll_cons_mk (Below.trod laidOut (by kernel_rfl) (of_decide_eq_true (by kernel_rfl)) k1 bel lt1) (trodAll_cons_mk (Below.trod laidOut (by kernel_rfl) (of_decide_eq_true (by kernel_rfl)) k2 bel lt2) trodAll_mk0))),rfl,bel.frame _,fun h=>by cases h⟩
theorem over:Rows.ParseNamesUptoSaid:=
 OpenClaim.holds_of_cond 5 Tryz.f5 rfl rfl rfl rfl rfl rfl rfl ⟨rfl,rfl,rfl,rfl,rfl⟩ rfl rfl rfl rfl rfl (by kernel_rfl) Tryz.func5 (by kernel_rfl)
  (of_decide_eq_true (by kernel_rfl)) (by unfold Func.isWrapper; first | (rw [if_pos (by decide +kernel)]; kernel_rfl) | (rw [if_neg (by decide +kernel)]; exact ⟨rfl,rfl⟩))
  (fun os started H enc _ F=>by rw [OpenClaim.pre_eq_preRow]; exact lifted os started H enc F)
theorem parseNames_holds:Rows.ParseNamesUptoCardSaid:=
 Claim7.holds_tied_plain_at .later [] [.data,.data,.data,.data,.widerDeep,.widerDeep,.widerDeep] true (true, "7c58562b21b618913f75bececb98783b54f88d308e840749b21184127f6feb62") true
  over (fun _ h=>by cases h) (by kernel_rfl) (fun _ h=>by cases h) parseNamesUpto_row_tie rfl ⟨rfl,rfl⟩ (by kernel_rfl) rfl
  (fun f fn hf hfn=>by
   obtain rfl:f=5:=Option.some.inj ((show Tryz.prog.funcNamed "emend/emendlaw16.ParseNames" = some 5 by kernel_rfl).symm.trans hf) |>.symm
   obtain rfl:fn=Tryz.f5:=(Option.some.inj (Tryz.func5.symm.trans hfn)).symm
   exact ⟨by kernel_rfl,fun j t ht=>by
    rw [Tryz.params5] at ht
    have hm:t ∈ [9,9,9]:=by simpa using Array.mem_of_getElem? ht
    have hall:([9,9,9].all fun u=>!Tryz.prog.wantsStandIn u)=true:=by kernel_rfl
    exact (show Tryz.prog.wantsStandIn t=false by simpa using List.all_eq_true.1 hall t hm)⟩)
  (by kernel_rfl)
end
end Go.Proofs.YtnamdpbcpnnhaaaGreatDoor.parseNames
