/-
  Brackets around an expression are a Paren of it: for every text the law ParseBrackets answers true, and leaves its argument as it was. No condition, but that the listed package-level variables hold what the program's text lays (the card ties them).
-/
import Derived.Test.YtnamdpbcpnnhaaaGreatDoorZj6
import Derived.RangeFuncNested
import Derived.RangeFuncBound
import Derived.RangeFuncLeaves
import Derived.RangeFuncWrites
import Derived.Shelf.Abstract
import Derived.OwnWalkIn
import Derived.TacticsInMore
import Derived.LoopIn
import Derived.Maps.AppendAt
import Derived.Shelf.Small.Strs
import Derived.Shelf.Strconv.Itoa0
import Derived.Shelf.Strconv.Itoa1
import Derived.Shelf.LaysM
import Derived.Shelf.Strconv.Itoa2
import Derived.Shelf.Strconv.Itoa3
import Derived.Shelf.Strings.Search1
import Derived.Shelf.Strings.Search2
import Derived.Shelf.Strings.Search3
import Derived.Shelf.Strings.Prefix
import Derived.Lib.QuietBelow
import GoSem.Claims
import Derived.LoopNIn
import Derived.Laws.OwnMore
import Derived.Laws.BytesArg
import Derived.Test.YtnamdpbcpnnhaaaGreatDoorCards
set_option linter.unusedVariables false
set_option linter.unusedSimpArgs false
set_option linter.unusedSectionVars false
namespace Go.Proofs.YtnamdpbcpnnhaaaGreatDoor
section
open Go.Al Go.Den
theorem jD {W:Sim} {n k:Nat} {p:Int} {xs ys:List MT} {C:Prop} (hS:Sta W n p xs ys) (hm:20 * ((W.A.length:Int) - p)+k < (0:Nat)):C:=by
 have:=hS.p1
 exfalso
 omega
theorem RSp.zero (W:Sim) (r s:RS):RSp W 0 r s:=by
 constructor <;> first
  | exact fun _ _ _ _ hS _ hm=>jD hS hm
  | exact fun _ _ _ _ _ hS _ hm=>jD hS hm
  | exact fun _ _ _ _ _ _ hS _ hm=>jD hS hm
  | exact fun _ _ _ _ _ _ _ hS _ hm=>jD hS hm
  | exact fun _ _ _ _ _ _ _ _ hS _ hm=>jD hS hm
  | exact fun _ _ _ _ _ _ _ _ hS _ hm=>jD hS hm
  | exact fun _ _ _ _ _ _ _ _ _ hS _ hm=>jD hS hm
  | exact fun _ _ _ _ _ _ _ _ _ hS _ hm _=>jD hS hm
  | exact fun _ _ _ _ _ _ _ _ hS _ hm _ _=>jD hS hm
  | exact fun _ _ _ _ _ _ _ hS _ hm _ _ _=>jD hS hm
  | exact fun _ _ _ _ _ _ hS _ hm _ _=>jD hS hm
  | exact fun _ _ _ _ _ _ _ _ _ hS _ hm _ _ _ _=>jD hS hm
set_option maxHeartbeats 4000000 in
theorem RSp.next {W:Sim} (hW:W.Ok) {m fu:Nat} {r s:RS} (hfu:5000 < fu) (h:RSp W m r s):RSp W (m+1) (r.next fu) (s.next fu) where
 h53:=sp53 hW (yY fu) hfu h
 h74:=sp74 hW (yY fu) hfu h
 h107:=sp107 hW (yY fu) hfu h
 h75:=sp75 hW (yY fu) hfu h
 h108:=sp108 hW (yY fu) hfu h
 h79:=sp79 hW (yY fu) hfu h
 h82:=sp82 hW (yY fu) hfu h
 h56:=sp56 hW (yY fu) hfu h
 h130:=sp130 hW (yY fu) hfu h
 h81:=sp81 hW (yY fu) hfu h
 h110:=sp110 hW (yY fu) hfu h
 h151:=sp151 hW (yY fu) hfu h
 h83:=sp83 hW (yY fu) hfu h
 h57:=sp57 hW (yY fu) hfu h
 h55:=sp55 hW (yY fu) hfu h
 h37:=sp37 hW (yY fu) hfu h
 h60:=sp60 hW (yY fu) hfu h
 h86:=sp86 hW (yY fu) hfu h
 h116:=sp116 hW (yY fu) hfu h
 h115:=sp115 hW (yY fu) hfu h
 h117:=sp117 hW (yY fu) hfu h
 h113:=sp113 hW (yY fu) hfu h
 h111:=sp111 hW (yY fu) hfu h
 h114:=sp114 hW (yY fu) hfu h
 h131:=sp131 hW (yY fu) hfu h
 h142:=sp142 hW (yY fu) hfu h
 h150:=sp150 hW (yY fu) hfu h
 h154:=sp154 hW (yY fu) hfu h
 h155:=sp155 hW (yY fu) hfu h
theorem rsp2 {W:Sim} (hW:W.Ok) {fu:Nat} (hfu:5000 < fu):∀ m n,RSp W (min m n) (rs fu m) (rs fu n)
 | 0,n=>by rw [Nat.zero_min]; exact RSp.zero W _ _
 | m+1,0=>by rw [Nat.min_zero]; exact RSp.zero W _ _
 | m+1,n+1=>by rw [Nat.succ_min_succ]; exact (rsp2 hW hfu m n).next hW hfu
theorem rsp {W:Sim} (hW:W.Ok) {fu:Nat} (hfu:5000 < fu) (m:Nat):RSp W m (rs fu m) (rs fu m):=by
 have h:=rsp2 hW hfu m m
 rwa [Nat.min_self] at h
def simT (l:List TokT):Sim:=⟨l,l,0,fun _=>False,fun xs ys=>xs.length=ys.length,fun _ _=>True,True,0⟩
theorem zHJ {l:List TokT} (hl:l.length<=4000):(simT l).Ok where
 lenA:=hl
 lenB:=by show l.length < 1000000; omega
 d0:=Int.le_refl _
 lo0:=Int.le_refl _
 lenAB:=by show (l.length:Int)+0<=l.length; omega
 mono:=fun _ h=>h
 weak:=fun _ _ _ h=>h.elim
 full:=fun _ _ _ h=>h.elim
 name:=fun _ _ _ h=>h.elim
 kind:=fun _ _ _ _ h=>h.elim
 type:=fun _ _ _ _ _ _ h=>h.elim
 srlen:=fun h=>h
 push:=fun {xs ys m m'} h _=>by show (xs++[m]).length=(ys++[m']).length; replace h:xs.length=ys.length:=h; simp [h]
 mr0:=trivial
 pop:=fun {xs ys m m'} h _=>by
  replace h:(xs++[m]).length=(ys++[m']).length:=h
  exact ⟨by show xs.length=ys.length; simpa using h,trivial⟩
 dcl:=fun {xs ys m m' p v} h _ _ _=>by
  replace h:(xs++[m]).length=(ys++[m']).length:=h
  show (xs++[xy m _ v]).length=(ys++[xy m' _ v]).length
  simpa using h
 nameE:=fun p _ _=>by show zH l p=[]↔zH l (p+0)=[]; rw [Int.add_zero]
 td:=fun _ _=>trivial
structure Deep (fu m:Nat):Prop where
 fu:5000 < fu
 m:80100 < m
theorem zLg {fu m:Nat} (hd:Deep fu m) {l:List TokT} (hl:l.length<=4000) (t:Bool) {p:Int} {xs:List MT} (p0:0<=p) (p1:p<=l.length) (x0:xs.length=1) :
 ∃ o,(rs fu m).c37 (t,()) l (p,xs)=some o/\∀ y,o=some y->p < y.2.1/\y.2.1<=l.length/\y.2.2.length=1/\Tr p y.2.1 y.1.1:=by
 have h:=(rsp (zHJ hl) hd.fu m).h37 1 p xs xs t ⟨p0,p1,Nat.le_refl _,x0,rfl⟩ (by omega) (by have:=hd.m; show 20 * ((l.length:Int) - p)+(5:Nat) < m; omega)
 obtain ⟨o,h1,h2⟩:=h
 refine ⟨o,h1,fun y hy=>?_⟩
 obtain ⟨_,y',⟨h3,h4,h5,h6⟩,_⟩:=h2 y hy
 exact ⟨h5.lt,h3.p1,h3.hn,h5⟩
inductive Decls (f:MM (Nd×Unit)) (l:List TokT):Int->List MT->List Nd->Int->List MT->List Nd->Prop
 | nil {p xs ps}:Decls f l p xs ps p xs ps
 | cons {p xs ps q zs nd p' xs' ps'}:p < (l.length:Int)->f l (p,xs)=some (some ((nd,()),(q,zs)))->Decls f l q zs (ps++[nd]) p' xs' ps'->Decls f l p xs ps p' xs' ps'
def kq (n:Nat) (l:List TokT) (f:MM (Nd×Unit)) (p:Int) (xs:List MT) (ps:List Nd):Option (Option (ParT×NdsT×Unit)):=
 iter n (fun (rec1:(PUnit×(ParT×(NdsT×PUnit)))->Option (Option (ParT×(NdsT×PUnit)))) (s1:(PUnit×(ParT×(NdsT×PUnit))))=>
  cond (ilt s1.2.1.2.1 (lenI l))
   (Option.bind (f s1.2.1.1 (s1.2.1.2.1,s1.2.1.2.2.1)) fun y0=>
    zJ y0
     (some Option.none)
     fun y1=>
     cond (okN 40 ((List.length s1.2.2.1.1)+(List.length [(ndE y1.1.1)])))
      (rec1 ((),((s1.2.1.1,(y1.2.1,(y1.2.2,((),())))),(((s1.2.2.1.1++[(ndE y1.1.1)]),()),()))))
      (none))
   (some (Option.some ((s1.2.1.1,(s1.2.1.2.1,(s1.2.1.2.2.1,((),())))),((s1.2.2.1.1,()),())))))
  ((),((l,(p,(xs,((),())))),((ps,()),())))
section
variable {l:List TokT} {f:MM (Nd×Unit)} {p q:Int} {xs zs xs':List MT} {ps ps':List Nd} {nd:Nd} {n:Nat}
theorem zGR (h:(l.length:Int)<=p):kq (n+1) l f p xs ps=some (some ((l,(p,(xs,((),())))),((ps,()),()))):=by
 show cond (ilt p (lenI l)) _ _=_
 rw [show ilt p (lenI l)=false from decide_eq_false (by show ¬ p < (l.length:Int); omega),cond_false]
theorem zL2 (h:p < (l.length:Int)) (hf:f l (p,xs)=some none):kq (n+1) l f p xs ps=some none:=by
 show cond (ilt p (lenI l)) (Option.bind (f l (p,xs)) _) _=_
 rw [show ilt p (lenI l)=true from decide_eq_true h,cond_true,hf]
 rfl
theorem zHr (h:p < (l.length:Int)) (hf:f l (p,xs)=some (some ((nd,()),(q,zs)))) (hl:ps.length<=100000):kq (n+1) l f p xs ps=kq n l f q zs (ps++[nd]):=by
 show cond (ilt p (lenI l)) (Option.bind (f l (p,xs)) _) _=_
 rw [show ilt p (lenI l)=true from decide_eq_true h,cond_true,hf]
 show cond (okN 40 (ps.length+1)) (kq n l f q zs (ps++[ndE nd])) none=_
 rw [show okN 40 (ps.length+1)=true from kj (by omega) (by simp [maxLen]; omega),cond_true,zg]
def Good (l:List TokT) (f:MM (Nd×Unit)):Prop:=∀ p xs,0<=p->p<=(l.length:Int)->xs.length=1->∃ o,f l (p,xs)=some o/\∀ y,o=some y->p < y.2.1/\y.2.1<=l.length/\y.2.2.length=1/\Tr p y.2.1 y.1.1
theorem zHZ {fu m:Nat} (hd:Deep fu m) (hl:l.length<=4000) (t:Bool):Good l ((rs fu m).c37 (t,())):=fun _ _ p0 p1 x0=>zLg hd hl t p0 p1 x0
theorem zKC (hl:l.length<=4000) (hf:Good l f):∀ (n:Nat) p xs ps,0<=p->p<=(l.length:Int)->xs.length=1->Pt 0 p ps->(l.length:Int) - p < n ->
 kq n l f p xs ps=some none\/∃ xs' ps',Decls f l p xs ps l.length xs' ps'/\Pt 0 l.length ps'/\xs'.length=1/\kq n l f p xs ps=some (some ((l,((l.length:Int),(xs',((),())))),((ps',()),()))):=by
 intro n
 induction n with
 | zero=>intro p xs ps _ _ _ _ _; omega
 | succ n ih=>
  intro p xs ps p0 p1 x0 hP hn
  by_cases hp:p < (l.length:Int)
  · obtain ⟨o,h1,h2⟩:=hf p xs p0 p1 x0
    cases o with
    | none=>exact .inl (zL2 hp h1)
    | some y=>
     obtain ⟨⟨nd,u⟩,q,zs⟩:=y
     obtain ⟨h3,h4,h5,h6⟩:=h2 _ rfl
     replace h3:p < q:=h3
     replace h4:q<=(l.length:Int):=h4
     have hlen:=hP.len
     rw [zHr (ps:=ps) hp h1 (by omega)]
     rcases ih q zs (ps++[nd]) (by omega) h4 h5 (hP.snoc h6) (by omega) with h7 | ⟨xs',ps',h7,h8,h9,h10⟩
     · exact .inl h7
     · exact .inr ⟨xs',ps',.cons hp h1 h7,h8,h9,h10⟩
  · obtain rfl:p=(l.length:Int):=by omega
    exact .inr ⟨xs,ps,.nil,hP,x0,zGR (Int.le_refl _)⟩
theorem zMh (hl:l.length<=4000) (hf:Good l f) {p':Int} {xs':List MT} {ps':List Nd} (h:Decls f l p xs ps p' xs' ps'):∀ (n:Nat),0<=p->p<=(l.length:Int)->xs.length=1->Pt 0 p ps->(l.length:Int) - p < n ->
 ∃ n',kq n l f p xs ps=kq n' l f p' xs' ps'/\0<=p'/\p'<=(l.length:Int)/\xs'.length=1/\Pt 0 p' ps'/\(l.length:Int) - p' < n':=by
 induction h with
 | nil=>intro n p0 p1 x0 hP hn; exact ⟨n,rfl,p0,p1,x0,hP,hn⟩
 | @cons p xs ps q zs nd p' xs' ps' h1 h2 h3 ih=>
  intro n p0 p1 x0 hP hn
  obtain ⟨o,k1,k2⟩:=hf p xs p0 p1 x0
  rw [h2] at k1
  injection k1 with k1
  obtain ⟨k3,k4,k5,k6⟩:=k2 _ k1.symm
  replace k3:p < q:=k3
  cases n with
  | zero=>omega
  | succ n=>
   have hlen:=hP.len
   rw [zHr (ps:=ps) h1 h2 (by omega)]
   exact ih n (by omega) k4 k5 (hP.snoc k6) (by omega)
end
theorem zCo {fu m:Nat} (hd:Deep fu m) {l:List TokT} (hl:l.length<=4000) :
 c17 fu m (l,())=some (Nd.mk 0 0 [],160,())\/∃ xs' ps',Decls ((rs fu m).c37 (true,())) l 0 [[]] [] l.length xs' ps'/\Pt 0 l.length ps'/\xs'.length=1/\c17 fu m (l,())=some (Nd.mk 1 0 ps',0,()):=by
 have e:c17 fu m (l,())=(kq fu l ((rs fu m).c37 (true,())) 0 [[]] []).map cv17:=if_pos hl
 have hfu:=hd.fu
 rcases zKC hl (zHZ hd hl true) fu 0 [[]] [] (by omega) (by omega) rfl (Pt.nil 0) (by omega) with h | ⟨xs',ps',h1,h2,h3,h4⟩
 · exact .inl (e.trans (congrArg (Option.map cv17) h))
 · exact .inr ⟨xs',ps',h1,h2,h3,e.trans (congrArg (Option.map cv17) h4)⟩
theorem zPW {fu m:Nat} (hd:Deep fu m) {l:List TokT} (hl:l.length<=4000) {xs':List MT} {ps':List Nd} (h:Decls ((rs fu m).c37 (true,())) l 0 [[]] [] l.length xs' ps'):c17 fu m (l,())=some (Nd.mk 1 0 ps',0,()):=by
 have e:c17 fu m (l,())=(kq fu l ((rs fu m).c37 (true,())) 0 [[]] []).map cv17:=if_pos hl
 have hfu:=hd.fu
 obtain ⟨n',h1,h2,h3,h4,h5,h6⟩:=zMh hl (zHZ hd hl true) h fu (by omega) (by omega) rfl (Pt.nil 0) (by omega)
 obtain ⟨k,rfl⟩:∃ k,n' = k+1:=⟨n' - 1,by omega⟩
 exact e.trans (congrArg (Option.map cv17) (h1.trans (zGR (Int.le_refl _))))
end
section
open Go.Al Go.Den Go.RowKit Go.Shelf
def El (g:Gh) (w0:World):Type:={ x:Nd×Value // RV g w0 (z6 x.1) x.2 }
def exb (bx:Nat) (W:World) (b:Nat):Prop:=b=bx\/∃ o l c,W.cell? ⟨bx,0,none⟩=some (.slice (some ⟨b,o,none⟩) l c)
def BoxOk (n0 bx:Nat) (W:World):Prop:=n0<=bx/\(∃ arr t m,W.heap[bx]? = some (.cells arr t m))/\∀ b,exb bx W b->n0<=b/\b < W.heap.size
structure Kept (n0 bx:Nat) (A B:World):Prop where
 ok:BoxOk n0 bx B
 size:A.heap.size<=B.heap.size
 same:∀ b o v,A.cell? ⟨b,o,none⟩=some v->¬ exb bx A b->B.cell? ⟨b,o,none⟩=some v
 ex:∀ b,exb bx B b->exb bx A b\/A.heap.size<=b
 low:∀ b,b < n0->B.heap[b]? = A.heap[b]?
def ja (n0 bx:Nat) (A B:World):Prop:=BoxOk n0 bx A->Kept n0 bx A B
theorem zA4 {A:World} {b o:Nat} {v:Value} (h:A.cell? ⟨b,o,none⟩=some v):b < A.heap.size:=by
 rcases Nat.lt_or_ge b A.heap.size with h1 | h1
 · exact h1
 · unfold World.cell? at h
   have:A.heap[b]? = none:=Array.getElem?_eq_none h1
   simp only [this] at h
   cases h
theorem xU {A B:World} {b:Nat} (h:B.heap[b]? = A.heap[b]?) (o:Nat):B.cell? ⟨b,o,none⟩=A.cell? ⟨b,o,none⟩:=World.cell?_of_block h
theorem Kept.refl {n0 bx:Nat} {A:World} (h:BoxOk n0 bx A):Kept n0 bx A A:=⟨h,Nat.le_refl _,fun _ _ _ h _=>h,fun _ h=>.inl h,fun _ _=>rfl⟩
theorem Kept.trans {n0 bx:Nat} {A B C:World} (h:Kept n0 bx A B) (k:Kept n0 bx B C):Kept n0 bx A C:=by
 refine ⟨k.ok,Nat.le_trans h.size k.size,fun b o v hb hx=>?_,fun b hb=>?_,fun b hb=>(k.low b hb).trans (h.low b hb)⟩
 · refine k.same b o v (h.same b o v hb hx) (fun hx2=>?_)
   rcases h.ex b hx2 with h1 | h1
   · exact hx h1
   · have:=zA4 hb; omega
 · rcases k.ex b hb with h1 | h1
   · exact h.ex b h1
   · exact .inr (Nat.le_trans h.size h1)
theorem zIk {n0 bx:Nat} {A B C:World} (h:ja n0 bx A B) (k:ja n0 bx B C):ja n0 bx A C:=fun hA=>(h hA).trans (k (h hA).ok)
theorem kU {bx:Nat} {A B:World} (h:B.heap[bx]? = A.heap[bx]?) (b:Nat):exb bx B b↔exb bx A b:=by
 unfold exb; rw [xU h]
theorem BoxOk.grown {n0 bx:Nat} {A B:World} (h:BoxOk n0 bx A) (hs:A.heap.size<=B.heap.size) (hb:B.heap[bx]? = A.heap[bx]?):BoxOk n0 bx B:=by
 obtain ⟨h1,⟨arr,t,m,h2⟩,h3⟩:=h
 exact ⟨h1,⟨arr,t,m,hb.trans h2⟩,fun b hx=>⟨(h3 b ((kU hb b).1 hx)).1,Nat.lt_of_lt_of_le (h3 b ((kU hb b).1 hx)).2 hs⟩⟩
theorem BoxOk.lt {n0 bx:Nat} {A:World} (h:BoxOk n0 bx A):bx < A.heap.size:=(h.2.2 bx (.inl rfl)).2
theorem Kept.grown {n0 bx:Nat} {A B:World} (h:BoxOk n0 bx A) (hg:A.grownBy B none):Kept n0 bx A B:=by
 have hb:∀ b,b < A.heap.size->B.heap[b]? = A.heap[b]?:=fun b hb=>hg.block b hb (by simp)
 refine ⟨h.grown hg.size (hb bx h.lt),hg.size,fun b o v ho _=>(xU (hb b (zA4 ho)) o).trans ho,fun b hx=>.inl ((kU (hb bx h.lt) b).1 hx),fun b hl=>hb b (Nat.lt_trans (Nat.lt_of_lt_of_le hl h.1) h.lt)⟩
theorem zI4 {n0 bx:Nat} (W:World) (l:Nat) (o o':Obj) (hl:n0<=l) (h:W.heap[l]? = some o) (hc:o.isCells=false):ja n0 bx W (W.putObj l o'):=by
 intro hW
 have hne:bx≠l:=by
  rintro rfl
  obtain ⟨_,⟨arr,t,m,h2⟩,_⟩:=hW
  rw [h] at h2; injection h2 with h2; subst h2; cases hc
 have hb:(W.putObj l o').heap[bx]? = W.heap[bx]?:=World.putObj_heap_other hne
 have hsz:(W.putObj l o').heap.size=W.heap.size:=by simp [World.putObj]
 refine ⟨hW.grown (Nat.le_of_eq hsz.symm) hb,Nat.le_of_eq hsz.symm,fun b o1 v h1 _=>(xU (World.putObj_heap_other ?_) o1).trans h1,fun b hx=>.inl ((kU hb b).1 hx),fun b hb=>World.putObj_heap_other (by omega)⟩
 rintro rfl
 unfold World.cell? at h1
 simp only [h] at h1
 cases o <;> first | (cases hc; done) | (cases h1; done) | (simp at h1; done)
def Same (g:Gh) (w0 W:World):Prop:=∀ b o,o < g.wm b->W.cell? ⟨b,o,none⟩=w0.cell? ⟨b,o,none⟩
theorem Same.later {wm:Nat->Nat} {w0 W:World} (h:Same ⟨wm,fun _=>none,Fr.no⟩ w0 W):Later ⟨wm,fun _=>none,Fr.no⟩ w0 ⟨wm,fun _=>none,Fr.no⟩ W:=⟨fun _=>Nat.le_refl _,fun _ _ h=>h,h⟩
theorem Same.back {wm:Nat->Nat} {w0 W:World} (h:Same ⟨wm,fun _=>none,Fr.no⟩ w0 W):Later ⟨wm,fun _=>none,Fr.no⟩ W ⟨wm,fun _=>none,Fr.no⟩ w0:=⟨fun _=>Nat.le_refl _,fun _ _ h=>h,fun b o ho=>(h b o ho).symm⟩
theorem Same.kept {wm:Nat->Nat} {n0 bx:Nat} {w0 W W':World} (hwm:∀ b,n0<=b->wm b=0) (h:Same ⟨wm,fun _=>none,Fr.no⟩ w0 W) (k:Kept n0 bx W W'):Same ⟨wm,fun _=>none,Fr.no⟩ w0 W':=fun b o ho=>by
 have hb:b < n0:=by
  rcases Nat.lt_or_ge b n0 with h1 | h1
  · exact h1
  · replace ho:o < wm b:=ho
    rw [hwm b h1] at ho; omega
 exact (xU (k.low b hb) o).trans (h b o ho)
mutual
/-- A tree's parts,the outer ones first. -/
def allT:Nd->List Nd
 | .mk k a ks=>.mk k a ks::allK ks
def allK:List Nd->List Nd
 | []=>[]
 | t::r=>allT t++allK r
end
theorem zAz {g:Gh} {w:World} {k a:Int} {ks:List Nd} {v:Value} (h:RV g w (z6 (.mk k a ks)) v):∃ sv,v = .agg #[.int .i64 k,.int .i64 a,sv]/\RC g w (.lst (zk (qV ks)) (qV ks)) [sv]:=by
 obtain ⟨us,h1,h2⟩:=zB2 (show RV g w (.agg [vi k,vi a,sl (qV ks)]) v from h)
 simp only [RCs,vi,sl] at h1
 obtain ⟨u1,u2,rfl,⟨rfl,_⟩,u3,u4,rfl,⟨rfl,_⟩,u5,u6,rfl,h3,rfl⟩:=h1
 have:=qG g w _ _ h3
 simp only [V.size] at this
 obtain ⟨sv,rfl⟩:=List.length_eq_one_iff.1 this
 exact ⟨sv,by rw [h2]; simp,h3⟩
theorem zHL {g:Gh} {w:World}:∀ {ks:List Nd} {us:List Value} (i:Nat) (h:i < ks.length),RCs g w (qV ks) us->∃ v0 v1 v2,RV g w (z6 ks[i]) (.agg #[v0,v1,v2])/\us[3 * i]? = some v0/\us[3 * i+1]? = some v1/\us[3 * i+2]? = some v2
 | .mk k a l::r,us,0,_,h=>by
  simp only [qV,z6,RCs] at h
  obtain ⟨u1,u2,rfl,h1,h2⟩:=h
  have hv:RV g w (z6 (.mk k a l)) (.agg u1.toArray):=zHq (by simpa only [RC] using h1)
  obtain ⟨sv,e,_⟩:=zAz hv
  have:u1=[.int .i64 k,.int .i64 a,sv]:=by
   have:=congrArg (fun v=>match v with | Value.agg a=>a.toList | _=>[]) e
   simpa using this
  subst this
  exact ⟨_,_,_,hv,rfl,rfl,rfl⟩
 | .mk k a l::r,us,i+1,hi,h=>by
  simp only [qV,z6,RCs] at h
  obtain ⟨u1,u2,rfl,h1,h2⟩:=h
  have h3:=qG g w _ _ h1
  have h4:u1.length=3:=by rw [h3]; rfl
  obtain ⟨v0,v1,v2,k0,k1,k2,k3⟩:=zHL i (by simpa using hi) h2
  have ap:∀ j,(u1++u2)[3 * (i+1)+j]? = u2[3 * i+j]?:=fun j=>by
   rw [List.getElem?_append_right (by omega),h4]; congr 1; omega
  exact ⟨v0,v1,v2,k0,(ap 0).trans k1,(ap 1).trans k2,(ap 2).trans k3⟩
theorem zJk (w:World) (t:TypeId) (c:Array Value) (i:Nat) (v:Value):(w.alloc (.cells c t)).setCell ⟨w.heap.size,i,none⟩ v=w.alloc (.cells (c.setIfInBounds i v) t):=by
 unfold World.setCell World.alloc
 simp only [Option.isSome_none,Bool.false_eq_true,if_false]
 congr 1
 refine Array.ext_getElem? fun j=>?_
 rw [Array.getElem?_modify,Array.getElem?_push,Array.getElem?_push]
 by_cases h:w.heap.size=j
 · subst h; simp
 · have h2:¬ j=w.heap.size:=fun e=>h e.symm
   simp [h,h2]
theorem zAj {P:Program} (w:World) (t:TypeId) (c:Array Value) (i:Nat) (hi:i < c.size) (v:Value) (hv:v.oneCell' = true):(store ⟨w.heap.size,i,none⟩ v).run P (w.alloc (.cells c t)) = .ok () (w.alloc (.cells (c.setIfInBounds i v) t)):=by
 have h1:(w.alloc (.cells c t)).heap[w.heap.size]? = some (.cells c t (0,0)):=World.alloc_heap_new w _
 have h2:(w.alloc (.cells c t)).cell? ⟨w.heap.size,i,none⟩=some c[i]:=by unfold World.cell?; simp only [h1]; simp [hi]
 have h3:(w.alloc (.cells c t)).frozen? ⟨w.heap.size,i,none⟩=false:=by unfold World.frozen?; simp only [h1]; simp
 rw [run_store P _ _ v _ hv,h2,h3]
 simp only [Bool.false_eq_true,if_false]
 rw [zJk]
theorem store3 {P:Program} (w:World) (t:TypeId) (z0 z1 z2 v0 v1 v2:Value) (h0:v0.oneCell' = true) (h1:v1.oneCell' = true) (h2:v2.oneCell' = true) :
 (((store ⟨w.heap.size,0,none⟩ v0).run P (w.alloc (.cells #[z0,z1,z2] t))).andThen fun _ w'=>((store ⟨w.heap.size,1,none⟩ v1).run P w').andThen fun _ w'=>(store ⟨w.heap.size,2,none⟩ v2).run P w') = .ok () (w.alloc (.cells #[v0,v1,v2] t)):=by
 rw [zAj w t _ 0 (by simp) v0 h0]
 simp only [Result.andThen]
 rw [zAj w t _ 1 (by simp) v1 h1]
 simp only [Result.andThen]
 rw [zAj w t _ 2 (by simp) v2 h2]
 rfl
theorem zFr (x:Nd):∀ ks:List Nd,allK (ks++[x])=allK ks++allT x
 | []=>by simp [allK]
 | t::r=>by simp only [List.cons_append,allK,zFr x r,List.append_assoc]
theorem zHd:∀ (ks:List Nd) (j:Nat),(allK (ks.take j)).length<=(allK ks).length
 | [],j=>by simp
 | t::r,0=>by simp [allK]
 | t::r,j+1=>by have:=zHd r j; simp only [List.take_succ_cons,allK,List.length_append]; omega
theorem zIy {g:Gh} {w:World} {t:Nd} {v0 v1 v2:Value} (h:RV g w (z6 t) (.agg #[v0,v1,v2])):v0.oneCell' = true/\v1.oneCell' = true/\v2.oneCell' = true:=by
 obtain ⟨k,a,ks⟩:=t
 obtain ⟨sv,e,h2⟩:=zAz h
 have h3:=zEk _ _ _ _ h2 sv (by simp)
 injection e with e
 have e0:=congrArg Array.toList e
 simp only [List.cons.injEq,and_true] at e0
 obtain ⟨rfl,rfl,rfl⟩:=e0
 exact ⟨rfl,rfl,h3⟩
theorem zQp {n j:Nat} (h:j < n):n - Int.toNat ((j+1:Nat):Int) < n - Int.toNat ((j:Nat):Int):=by
 rw [Int.toNat_natCast,Int.toNat_natCast]; omega
theorem zOL (t:Nd):0 < (allT t).length:=by cases t; simp [allT]
theorem zJs:∀ ks:List Nd,ks.length<=(allK ks).length
 | []=>by simp
 | t::r=>by have:=zJs r; have:=zOL t; simp only [allK,List.length_cons,List.length_append]; omega
theorem zRj {wm:Nat->Nat} {w:World} {ks:List Nd} {sv:Value} (h:RC ⟨wm,fun _=>none,Fr.no⟩ w (.lst (zk (qV ks)) (qV ks)) [sv]) :
 ∃ ad cap,sv = .slice ad ks.length cap/\∀ i (hi:i < ks.length),∃ b o v0 v1 v2,ad=some ⟨b,o,none⟩/\RV ⟨wm,fun _=>none,Fr.no⟩ w (z6 ks[i]) (.agg #[v0,v1,v2]) /\
  (w.cell? ⟨b,o+3 * i,none⟩=some v0/\o+3 * i < wm b)/\(w.cell? ⟨b,o+(3 * i+1),none⟩=some v1/\o+(3 * i+1) < wm b)/\(w.cell? ⟨b,o+(3 * i+2),none⟩=some v2/\o+(3 * i+2) < wm b):=by
 have hl:(qV ks).length=ks.length:=by rw [zDm]; simp
 simp only [RC] at h
 rcases h with ⟨he,hu,_⟩ | ⟨b,o,cap,ds,hu,hc,_,hr,_,ha⟩
 · have h0:ks=[]:=by cases ks with | nil=>rfl | cons x r=>cases he
   subst h0
   injection hu with hu
   exact ⟨none,0,hu,fun i hi=>absurd hi (by simp)⟩
 · injection hu with hu
   refine ⟨_,cap,by rw [hu,hl],fun i hi=>?_⟩
   obtain ⟨v0,v1,v2,k0,k1,k2,k3⟩:=zHL i hi hr
   exact ⟨b,o,v0,v1,v2,rfl,k0,ha _ _ k1,ha _ _ k2,ha _ _ k3⟩
def zJy (F:Fence) (l n0 bx N by' bw:Nat) (wm:Nat->Nat) (w0:World) (J Jx:List (El ⟨wm,fun _=>none,Fr.no⟩ w0)->World->Prop) (t:Nd):Prop:=
 ∀ (m:Nat) (v:Value) (pre:List (El ⟨wm,fun _=>none,Fr.no⟩ w0)) (W:World),Same ⟨wm,fun _=>none,Fr.no⟩ w0 W->RV ⟨wm,fun _=>none,Fr.no⟩ w0 (z6 t) v->J pre W->BoxOk n0 bx W ->
  W.cell? ⟨by',0,none⟩=some (.func (.yield l) #[] #[])->¬ exb bx W by'->W.cell? ⟨bw,0,none⟩=some (.func (.func 71) #[] #[.pointer (some ⟨by',0,none⟩),.pointer (some ⟨bw,0,none⟩)])->¬ exb bx W bw ->
  pre.length+(allT t).length<=N ->
  CallsIn F m Tryz.prog 71 #[v,.pointer (some ⟨by',0,none⟩),.pointer (some ⟨bw,0,none⟩)] W fun e W'=>
   (e = .returned (.bool true)/\∃ q:List (El ⟨wm,fun _=>none,Fr.no⟩ w0),q.map (·.1.1)=allT t/\J (pre++q) W'/\Kept n0 bx W W')\/(e = .returned (.bool false)/\∃ q,Jx (pre++q) W')
set_option maxRecDepth 100000 in
set_option maxHeartbeats 1000000 in
theorem walk36 (F:Fence) (hd:F.depth=none) (hF:∀ f,F.fn f) (hro:F.round=none) (l n0 bx N by' bw:Nat) (wm:Nat->Nat) (w0:World) (hwm:∀ b,n0<=b->wm b=0) (hNb:N<=1000000) (J Jx:List (El ⟨wm,fun _=>none,Fr.no⟩ w0)->World->Prop)
 (hJ:∀ pre W W',J pre W->W.grownBy W' none->J pre W')
 (hY:∀ m pre (x:El ⟨wm,fun _=>none,Fr.no⟩ w0) W,J pre W->pre.length < N->YieldAt F m Tryz.prog l #[x.1.2] W fun e W'=>(e = .returned (.bool true)/\J (pre++[x]) W'/\ja n0 bx W W')\/(e = .returned (.bool false)/\Jx (pre++[x]) W'))
 (k a:Int) (ks:List Nd)
 (ih:∀ t ∈ ks,zJy F l n0 bx N by' bw wm w0 J Jx t):zJy F l n0 bx N by' bw wm w0 J Jx (.mk k a ks):=by
 intro m v pre W hS hv hJ0 hB hby hxy hbw hxw hN
 have hdd:∀ k:Nat,(F.depth.isSome=true->1<=k):=fun k h=>by rw [hd] at h; cases h
 obtain ⟨sv,rfl,hsv⟩:=zAz hv
 obtain ⟨ad,cap,rfl,hkid⟩:=zRj hsv
 have c1:(W.alloc (.cells #[.int .i64 k,.int .i64 a,(.slice ad ks.length cap)] 29)).cell? ⟨by',0,none⟩=some (.func (.yield l) #[] #[]):=by
  rw [xU (Below.heap_alloc _ _ _ (zA4 hby))]; exact hby
 refine callsIn_of_wp Tryz.func71 rfl (hF _) ?_ hro
 simp only [Tryz.ntmps71,List.size_toArray,List.length_cons,List.length_nil,Nat.reduceAdd,Nat.reduceSub,Array.replicate_succ,Array.replicate_zero,List.push_toArray,List.append_toArray,List.nil_append,List.cons_append]
 obtain ⟨W1,hW1⟩:∃ W1,W.alloc (.cells #[.int .i64 k,.int .i64 a,(.slice ad ks.length cap)] 29)=W1:=⟨_,rfl⟩
 have hK1:Kept n0 bx W W1:=by rw [<- hW1]; exact Kept.grown hB (World.grownBy_alloc W _ none)
 have hn1:W1.heap[W.heap.size]? = some (.cells #[.int .i64 k,.int .i64 a,(.slice ad ks.length cap)] 29 (0,0)):=by rw [<- hW1]; exact World.alloc_heap_new W _
 have e1:W1.heap[bx]? = W.heap[bx]?:=by rw [<- hW1]; exact Below.heap_alloc _ _ _ hB.lt
 have hnx:¬ exb bx W1 W.heap.size:=fun h=>by
  have:=(hB.2.2 _ ((kU e1 _).1 h)).2
  omega
 have d0:W1.cell? ⟨W.heap.size,0,none⟩=some (.int .i64 k):=by simp [World.cell?,hn1]
 have d1:W1.cell? ⟨W.heap.size,1,none⟩=some (.int .i64 a):=by simp [World.cell?,hn1]
 have d2:W1.cell? ⟨W.heap.size,2,none⟩=some (.slice ad ks.length cap):=by simp [World.cell?,hn1]
 have hJ1:J pre W1:=hJ pre W W1 hJ0 (by rw [<- hW1]; exact World.grownBy_alloc W _ none)
 have hY1:YieldAt F (m - 1) Tryz.prog l #[.agg #[.int .i64 k,.int .i64 a,(.slice ad ks.length cap)]] W1 fun e W2=>
  (e = .returned (.bool true)/\J (pre++[⟨(.mk k a ks,.agg #[.int .i64 k,.int .i64 a,(.slice ad ks.length cap)]),hv⟩]) W2/\Kept n0 bx W1 W2/\W2.cell? ⟨W.heap.size,2,none⟩=some (.slice ad ks.length cap))\/(e = .returned (.bool false)/\∃ q,Jx (pre++q) W2):=by
  refine YieldAt.mono (hY (m - 1) pre ⟨(.mk k a ks,.agg #[.int .i64 k,.int .i64 a,(.slice ad ks.length cap)]),hv⟩ W1 hJ1 (by simp only [allT,List.length_cons] at hN; omega)) fun e W2 h=>h.elim (fun ⟨he,hj,hk⟩=>.inl ⟨he,hj,hk hK1.ok,?_⟩) (fun ⟨he,hx⟩=>.inr ⟨he,_,hx⟩)
  exact (hk hK1.ok).same _ _ _ d2 hnx
 obtain ⟨fn,tmps,assign,body,hy,hR⟩:=hY1
 rw [hW1] at c1
 gi_wp2_with (first
  | ((try refine ⟨hdd _,?_⟩); refine hR.mono ?_; clear hR; rintro e W2 (⟨rfl,hJ2,hK2,hc2⟩ | ⟨rfl,hx2⟩))
  | (rw [hW1]))
 · gi_loopw [14] (fun u14 wr=>∃ (j:Nat) (q:List (El ⟨wm,fun _=>none,Fr.no⟩ w0)),u14 = .int .i64 j/\j<=ks.length/\q.map (·.1.1) = .mk k a ks::allK (ks.take j)/\J (pre++q) wr/\Kept n0 bx W1 wr)
    (fun u14 _=>match u14 with | .int _ z=>ks.length - z.toNat | _=>0)
   case atStart=>exact ⟨0,[⟨(.mk k a ks,_),hv⟩],rfl,Nat.zero_le _,rfl,hJ2,hK2⟩
   case round=>
    obtain ⟨j,q,rfl,hj,hq,hJq,hKq⟩:=hrel
    by_cases hlt:j < ks.length
    · obtain ⟨b,o,v0,v1,v2,rfl,hvj,⟨a0,b0⟩,⟨a1,b1⟩,⟨a2,b2⟩⟩:=hkid j hlt
      have hSr:=(hS.kept hwm hK1).kept hwm hKq
      have f0:wr.cell? ⟨b,o+j * 3,none⟩=some v0:=by rw [Nat.mul_comm j 3]; exact (hSr _ _ b0).trans a0
      have f1:wr.cell? ⟨b,o+j * 3+1,none⟩=some v1:=by rw [Nat.mul_comm j 3]; exact (hSr _ _ b1).trans a1
      have f2:wr.cell? ⟨b,o+j * 3+2,none⟩=some v2:=by rw [Nat.mul_comm j 3]; exact (hSr _ _ b2).trans a2
      have h1c:=zIy hvj
      have hst:=store3 (P:=Tryz.prog) wr 29 (.int .i64 0) (.int .i64 0) (.slice none 0 0) v0 v1 v2 h1c.1 h1c.2.1 h1c.2.2
      obtain ⟨W3,hW3⟩:∃ W3,wr.alloc (.cells #[v0,v1,v2] 29)=W3:=⟨_,rfl⟩
      rw [hW3] at hst
      have hK3:Kept n0 bx wr W3:=by rw [<- hW3]; exact Kept.grown hKq.ok (World.grownBy_alloc wr _ none)
      have hK03:Kept n0 bx W W3:=(hK1.trans hKq).trans hK3
      have hn3:W3.heap[wr.heap.size]? = some (.cells #[v0,v1,v2] 29 (0,0)):=by rw [<- hW3]; exact World.alloc_heap_new wr _
      have g0:W3.cell? ⟨wr.heap.size,0,none⟩=some v0:=by simp [World.cell?,hn3]
      have g1:W3.cell? ⟨wr.heap.size,1,none⟩=some v1:=by simp [World.cell?,hn3]
      have g2:W3.cell? ⟨wr.heap.size,2,none⟩=some v2:=by simp [World.cell?,hn3]
      have hby3:=hK03.same _ _ _ hby hxy
      have g3:=hK03.same _ _ _ hbw hxw
      have hxy3:¬ exb bx W3 by':=fun h=>(hK03.ex _ h).elim hxy (fun h=>by have:=zA4 hby; omega)
      have hxw3:¬ exb bx W3 bw:=fun h=>(hK03.ex _ h).elim hxw (fun h=>by have:=zA4 hbw; omega)
      have hJ3:J (pre++q) W3:=hJ _ wr W3 hJq (by rw [<- hW3]; exact World.grownBy_alloc wr _ none)
      have hql:q.length=1+(allK (ks.take j)).length:=by
       have:=congrArg List.length hq
       simp only [List.length_map,List.length_cons] at this
       omega
      have htk:ks.take (j+1)=ks.take j++[ks[j]]:=List.take_succ_eq_append_getElem hlt
      have hal:=zHd ks (j+1)
      rw [htk,zFr,List.length_append] at hal
      have ihj:=ih ks[j] (List.getElem_mem hlt) (m - 1) (.agg #[v0,v1,v2]) (pre++q) W3 (hS.kept hwm hK03) hvj hJ3 hK3.ok hby3 hxy3 g3 hxw3 (by
       simp only [allT,List.length_cons] at hN
       rw [List.length_append]; omega)
      gi_wp2_with (first
       | (rw [hst])
       | ((try refine ⟨hdd _,?_⟩); gi_at_call 71; refine ihj.mono ?_; clear ihj; rintro e W4 (⟨rfl,q4,hq4,hJ4,hK4⟩ | ⟨rfl,q4,hx4⟩)))
      · have hkl:=zJs ks
        simp only [allT,List.length_cons] at hN
        have hw:wrap64 ((j:Int)+1)=((j+1:Nat):Int):=by rw [IntWalk.wrap64_in _ ⟨by omega,by omega⟩]; omega
        rw [hw]
        refine ⟨⟨j+1,q++q4,rfl,hlt,?_,by rw [<- List.append_assoc]; exact hJ4,(hKq.trans hK3).trans hK4⟩,?_⟩
        · rw [List.map_append,hq,hq4,htk,zFr]; rfl
        · show ks.length - Int.toNat ((j+1:Nat):Int) < ks.length - Int.toNat ((j:Nat):Int)
          exact zQp hlt
      · go_ret
        exact .inr ⟨rfl,q++q4,by rw [<- List.append_assoc]; exact hx4⟩
    · gi_wp2
      go_ret
      have e2:ks.take j=ks:=List.take_of_length_le (by omega)
      rw [e2] at hq
      exact .inl ⟨rfl,q,by rw [hq]; simp only [allT],hJq,hK1.trans hKq⟩
 · go_ret
   exact .inr ⟨rfl,hx2⟩
theorem zJL (F:Fence) (hd:F.depth=none) (hF:∀ f,F.fn f) (hro:F.round=none) (l n0 bx N by' bw:Nat) (wm:Nat->Nat) (w0:World) (hwm:∀ b,n0<=b->wm b=0) (hNb:N<=1000000) (J Jx:List (El ⟨wm,fun _=>none,Fr.no⟩ w0)->World->Prop)
 (hJ:∀ pre W W',J pre W->W.grownBy W' none->J pre W')
 (hY:∀ m pre (x:El ⟨wm,fun _=>none,Fr.no⟩ w0) W,J pre W->pre.length < N->YieldAt F m Tryz.prog l #[x.1.2] W fun e W'=>(e = .returned (.bool true)/\J (pre++[x]) W'/\ja n0 bx W W')\/(e = .returned (.bool false)/\Jx (pre++[x]) W')) :
 ∀ t:Nd,zJy F l n0 bx N by' bw wm w0 J Jx t
 | .mk k a ks=>walk36 F hd hF hro l n0 bx N by' bw wm w0 hwm hNb J Jx hJ hY k a ks fun t ht=>
  have:SizeOf.sizeOf t < 1+SizeOf.sizeOf k+SizeOf.sizeOf a+SizeOf.sizeOf ks:=by have:=List.sizeOf_lt_of_mem ht; omega
  zJL F hd hF hro l n0 bx N by' bw wm w0 hwm hNb J Jx hJ hY t
set_option maxRecDepth 100000 in
set_option maxHeartbeats 1000000 in
theorem zPi (F:Fence) (hd:F.depth=none) (hF:∀ f,F.fn f) (hro:F.round=none) (l n0 bx N Bt:Nat) (wm:Nat->Nat) (w0:World) (hwm:∀ b,n0<=b->wm b=0) (hNb:N<=1000000) (J Jx:List (El ⟨wm,fun _=>none,Fr.no⟩ w0)->World->Prop)
 (hJ:∀ pre W W',J pre W->W.grownBy W' none->J pre W')
 (hY:∀ m pre (x:El ⟨wm,fun _=>none,Fr.no⟩ w0) W,J pre W->pre.length < N->YieldAt F m Tryz.prog l #[x.1.2] W fun e W'=>(e = .returned (.bool true)/\J (pre++[x]) W'/\ja n0 bx W W')\/(e = .returned (.bool false)/\Jx (pre++[x]) W'))
 (t:Nd) (m:Nat) (v0 v1 v2:Value) (W:World) (hS:Same ⟨wm,fun _=>none,Fr.no⟩ w0 W) (hv:RV ⟨wm,fun _=>none,Fr.no⟩ w0 (z6 t) (.agg #[v0,v1,v2])) (hJ0:J [] W) (hB:BoxOk n0 bx W)
 (hbt:W.heap[Bt]? = some (.cells #[v0,v1,v2] 29 (0,0))) (hN:(allT t).length<=N) :
 CallsIn F m Tryz.prog 70 #[.func (.yield l) #[] #[],.pointer (some ⟨Bt,0,none⟩)] W fun e W'=>(∃ v,e = .returned v)/\((∃ q:List (El ⟨wm,fun _=>none,Fr.no⟩ w0),q.map (·.1.1)=allT t/\J q W')\/(∃ q,True/\Jx q W')):=by
 have hdd:∀ k:Nat,(F.depth.isSome=true->1<=k):=fun k h=>by rw [hd] at h; cases h
 refine callsIn_of_wp Tryz.func70 rfl (hF _) ?_ hro
 simp only [Tryz.ntmps70,List.size_toArray,List.length_cons,List.length_nil,Nat.reduceAdd,Nat.reduceSub,Array.replicate_succ,Array.replicate_zero,List.push_toArray,List.append_toArray,List.nil_append,List.cons_append]
 obtain ⟨Wy,hWy⟩:∃ Wy,W.alloc (.cells #[.func (.yield l) #[] #[]] 117)=Wy:=⟨_,rfl⟩
 have hsy:Wy.heap.size=W.heap.size+1:=by rw [<- hWy]; simp
 obtain ⟨W3,hW3⟩:∃ W3,Wy.alloc (.cells #[.func (.func 71) #[] #[.pointer (some ⟨W.heap.size,0,none⟩),.pointer (some ⟨W.heap.size+1,0,none⟩)]] 117)=W3:=⟨_,rfl⟩
 have hst:(store ⟨W.heap.size+1,0,none⟩ (.func (.func 71) #[] #[.pointer (some ⟨W.heap.size,0,none⟩),.pointer (some ⟨W.heap.size+1,0,none⟩)])).run Tryz.prog (Wy.alloc (.cells #[.nilFunc] 117)) = .ok () W3:=by
  have:=zAj (P:=Tryz.prog) Wy 117 #[.nilFunc] 0 (by simp) (.func (.func 71) #[] #[.pointer (some ⟨W.heap.size,0,none⟩),.pointer (some ⟨W.heap.size+1,0,none⟩)]) rfl
  rw [hsy] at this
  rw [this,<- hW3]
  rfl
 have hKy:Kept n0 bx W Wy:=by rw [<- hWy]; exact Kept.grown hB (World.grownBy_alloc W _ none)
 have hK3:Kept n0 bx W W3:=hKy.trans (by rw [<- hW3]; exact Kept.grown hKy.ok (World.grownBy_alloc Wy _ none))
 have hn1:W3.heap[W.heap.size]? = some (.cells #[.func (.yield l) #[] #[]] 117 (0,0)):=by
  rw [<- hW3,Below.heap_alloc _ _ _ (by omega),<- hWy]; exact World.alloc_heap_new W _
 have hn2:W3.heap[W.heap.size+1]? = some (.cells #[.func (.func 71) #[] #[.pointer (some ⟨W.heap.size,0,none⟩),.pointer (some ⟨W.heap.size+1,0,none⟩)]] 117 (0,0)):=by
  have:=World.alloc_heap_new Wy (.cells #[.func (.func 71) #[] #[.pointer (some ⟨W.heap.size,0,none⟩),.pointer (some ⟨W.heap.size+1,0,none⟩)]] 117 (0,0))
  rw [hW3,hsy] at this
  exact this
 have hlb:Bt < W.heap.size:=(Array.getElem?_eq_some_iff.1 hbt).1
 have hn3:W3.heap[Bt]? = some (.cells #[v0,v1,v2] 29 (0,0)):=by
  rw [<- hW3,Below.heap_alloc _ _ _ (by omega),<- hWy,Below.heap_alloc _ _ _ hlb]; exact hbt
 have g4:W3.cell? ⟨W.heap.size,0,none⟩=some (.func (.yield l) #[] #[]):=by simp [World.cell?,hn1]
 have g0:W3.cell? ⟨Bt,0,none⟩=some v0:=by simp [World.cell?,hn3]
 have g1:W3.cell? ⟨Bt,1,none⟩=some v1:=by simp [World.cell?,hn3]
 have g2:W3.cell? ⟨Bt,2,none⟩=some v2:=by simp [World.cell?,hn3]
 have g3:W3.cell? ⟨W.heap.size+1,0,none⟩=some (.func (.func 71) #[] #[.pointer (some ⟨W.heap.size,0,none⟩),.pointer (some ⟨W.heap.size+1,0,none⟩)]):=by simp [World.cell?,hn2]
 have hxn:∀ b,W.heap.size<=b->¬ exb bx W3 b:=fun b hb hx=>by
  have hbx:W3.heap[bx]? = W.heap[bx]?:=by
   rw [<- hW3,Below.heap_alloc _ _ _ (by have:=hB.lt; omega),<- hWy,Below.heap_alloc _ _ _ hB.lt]
  have:=(hB.2.2 _ ((kU hbx b).1 hx)).2
  omega
 have hJ3:J [] W3:=hJ _ Wy W3 (hJ _ W Wy hJ0 (by rw [<- hWy]; exact World.grownBy_alloc W _ none)) (by rw [<- hW3]; exact World.grownBy_alloc Wy _ none)
 have hwk:=zJL F hd hF hro l n0 bx N W.heap.size (W.heap.size+1) wm w0 hwm hNb J Jx hJ hY t (m - 1) (.agg #[v0,v1,v2]) [] W3 (hS.kept hwm hK3) hv hJ3 hK3.ok g4 (hxn _ (Nat.le_refl _)) g3 (hxn _ (by omega)) (by simpa using hN)
 gi_wp2_with (first
  | (rw [hst])
  | ((try refine ⟨hdd _,?_⟩); gi_at_call 71; refine hwk.mono ?_; clear hwk; rintro e W4 (⟨rfl,q4,hq4,hJ4,hK4⟩ | ⟨rfl,q4,hx4⟩)))
 · go_end0
   exact ⟨⟨_,rfl⟩,.inl ⟨q4,hq4,by simpa using hJ4⟩⟩
 · go_end0
   exact ⟨⟨_,rfl⟩,.inr ⟨q4,trivial,by simpa using hx4⟩⟩
theorem zM9 (F:Fence) (hd:F.depth=none) (hF:∀ f,F.fn f) (hro:F.round=none) (m n0 bx Bt:Nat) (wm:Nat->Nat) (w0 w:World) (hwm:∀ b,n0<=b->wm b=0) (t:Nd) (hNb:(allT t).length<=1000000)
 (v0 v1 v2:Value) (hS:Same ⟨wm,fun _=>none,Fr.no⟩ w0 w) (hv:RV ⟨wm,fun _=>none,Fr.no⟩ w0 (z6 t) (.agg #[v0,v1,v2])) (hB:BoxOk n0 bx w) (hn0:n0<=w.heap.size) (hbt:w.heap[Bt]? = some (.cells #[v0,v1,v2] 29 (0,0))) :
 SeqStopsK F m Tryz.prog 70 #[.pointer (some ⟨Bt,0,none⟩)] (fun x:El ⟨wm,fun _=>none,Fr.no⟩ w0=>#[x.1.2]) (ja n0 bx) (fun q=>q.map (·.1.1)=allT t) (fun _=>True) (allT t).length w:=fun l J Jx W hW hJa _ hY h0=>by
 have hS2:Same ⟨wm,fun _=>none,Fr.no⟩ w0 W:=fun b o ho=>by
  have hb:b < n0:=by
   rcases Nat.lt_or_ge b n0 with h1 | h1
   · exact h1
   · replace ho:o < wm b:=ho
     rw [hwm b h1] at ho; omega
  exact (xU (hW.block b (by omega)) o).trans (hS b o ho)
 exact zPi F hd hF hro l n0 bx (allT t).length Bt wm w0 hwm hNb J Jx (fun pre A B hj hg=>hJa pre A B none hj hg (fun r e=>by cases e)) (fun m' pre x W' hj hl=>by
  obtain ⟨fn,tmps,assign,body,hy,hR⟩:=hY pre x W' hj hl
  exact ⟨fn,tmps,assign,body,hy,hR.1,fun c cs _=>hR.2 c cs (fun d h=>by rw [hd] at h; cases h)⟩)
  t m v0 v1 v2 W hS2 hv h0 (hB.grown hW.size (hW.block _ hB.lt)) ((hW.block _ (Array.getElem?_eq_some_iff.1 hbt).1).trans hbt) (Nat.le_refl _)
end
section
open Go.Al Go.Den Go.RowKit Go.Shelf
attribute [local go_sem] Oper.semAt_some
theorem zEJ {F:Fence} {n:Nat} {P:Program} (w:World) {ops:Array Oper} {rest:List Oper} {o:Oper} {a:Act} {Q:Exit->Act->World->Prop}
 (hg:o.guard=none) (s x:Operand) (t:TypeId) (hop:o.op=Op.call { callee:=Callee.builtin Builtin.append,args:=#[s,x],argTypes:=#[t,t] })
 (base:Nat) (e:TypeId) (i:TypeInfo) (z:Value) (size bytes:Nat) (h1:P.underlying t=some (.slice e)) (h2:P.info? e=some i) (h3:i.zero=some z) (h4:i.size=size) (h5:i.bytes=bytes) (h6:z.cells.size=size) (h7:0 < size)
 (v:Value) (k:Nat) (xs:List Value) (hs:a.eval s=v) (hown:w.ownsRow base e size v k xs) (ad:Addr) (m c:Nat) (news:List Value) (hx:a.eval x = .slice (some ad) m c) (hn:news.length=m * size)
 (hc:∀ j u,news[j]? = some u->w.cell? (ad.add j)=some u) (h1c:∀ u ∈ news,u.oneCell' = true) (b1:k+m<=maxLen) (b2:(k+m) * bytes<=140737488355328) (b3:base<=w.heap.size)
 (hK:∀ v' w',w'.ownsRow base e size v' (k+m) (xs++news)->w.grownBy w' v.ownBlock->(v' = .slice none 0 0↔v = .slice none 0 0/\m=0)->(v'.ownBlock=v.ownBlock\/v'.ownBlock=some w.heap.size)->wpListIn F n P ops Q rest (a.put o.dst v') w') :
 wpListIn F n P ops Q (o::rest) a w:=by
 refine wpListIn_plain hg fun K hK'=>?_
 obtain ⟨v',w',hrun,r1,r2,r3,r4⟩:=run_append_own_at (P:=P) w base t o.type e i z size bytes h1 h2 h3 h4 h5 h6 h7 v k xs hown ad m c news hn hc h1c b1 b2 b3
 unfold Oper.wpIn
 refine ⟨?_,?_⟩
 · simp [Oper.about,hop,resolve,Target.leads,Sem.run_pure]
 · rw [Oper.semAt_plain F _ _ (by rw [hop]; intro c hc'; cases hc')]
   simp [execOp,hop,resolve,invoke,builtin,hs,hx,hrun,Result.andThen]
   exact hK' _ _ (hK v' w' r1 r2 r3 r4)
theorem zJJ {W:World} {base:Nat} {e:TypeId} {size:Nat} {v:Value} {k:Nat} {xs:List Value} (h:W.ownsRow base e size v k xs) {j:Nat} {o:Obj} (hj:W.heap[j]? = some o) (hno:∀ cur,o≠.cells cur e (0,0)) :
 v.ownBlock=none\/v.ownBlock≠some j:=by
 rcases h.2 with ⟨rfl,_⟩ | ⟨g,cap,cur,rfl,_,hgb,_⟩
 · exact .inl rfl
 · refine .inr fun e'=>?_
   have:g=j:=by simpa [Value.ownBlock] using e'
   subst this; rw [hgb] at hj; cases hj; exact hno cur rfl
def Grow (n0 bx:Nat) (t e:TypeId) (size:Nat) (w:World) (xs:List Value) (n:Nat) (W:World):Prop:=
 ∃ v,W.heap[bx]? = some (.cells #[v] t (0,0))/\W.ownsRow n0 e size v n xs/\(n=0->v = .slice none 0 0)/\Below n0 w W
theorem Grow.exb {n0 bx:Nat} {t e:TypeId} {size:Nat} {w:World} {xs:List Value} {n:Nat} {W:World} {v:Value} (hv:W.heap[bx]? = some (.cells #[v] t (0,0))) (hr:W.ownsRow n0 e size v n xs) (b:Nat) :
 exb bx W b↔b=bx\/v.ownBlock=some b:=by
 have hc:W.cell? ⟨bx,0,none⟩=some v:=by simp [World.cell?,hv]
 unfold Go.Proofs.YtnamdpbcpnnhaaaGreatDoor.exb
 rw [hc]
 refine or_congr Iff.rfl ⟨fun ⟨o,l,c,h⟩=>?_,fun h=>?_⟩
 · injection h with h; subst h; rfl
 · rcases hr.2 with ⟨rfl,_⟩ | ⟨g,cap,cur,rfl,_,hgb,_⟩
   · cases h
   · have:g=b:=by simpa [Value.ownBlock] using h
     subst this; exact ⟨_,_,_,rfl⟩
theorem Grow.box {n0 bx:Nat} {t e:TypeId} {size:Nat} {w:World} {xs:List Value} {n:Nat} {W:World} (h0:n0<=bx) (h:Grow n0 bx t e size w xs n W):BoxOk n0 bx W:=by
 obtain ⟨v,hv,hr,_,hb⟩:=h
 refine ⟨h0,⟨_,_,_,hv⟩,fun b hx=>?_⟩
 rcases (Grow.exb (w:=w) hv hr b).1 hx with rfl | h
 · exact ⟨h0,(Array.getElem?_eq_some_iff.1 hv).1⟩
 · rcases hr.2 with ⟨rfl,_⟩ | ⟨g,cap,cur,rfl,hg,hgb,_⟩
   · cases h
   · have:g=b:=by simpa [Value.ownBlock] using h
     subst this; exact ⟨hg,(Array.getElem?_eq_some_iff.1 hgb).1⟩
theorem Grow.own {n0 bx:Nat} {t e:TypeId} {size:Nat} {w:World} {xs:List Value} {n:Nat} {A B:World} {row:Option Nat} (h0:n0<=w.heap.size) (h:Grow n0 bx t e size w xs n A) (hg:A.grownBy B row) (hr:∀ r,row=some r->n0<=r/\∃ o:Obj,A.heap[r]? = some o/\o.isCells=false):Grow n0 bx t e size w xs n B:=by
 obtain ⟨v,hv,hr',hz,hb⟩:=h
 have hne:∀ {b:Nat} {o:Obj},A.heap[b]? = some o->o.isCells=true->some b≠row:=fun hb hc e=>by
  obtain ⟨_,o',ho,hc'⟩:=hr _ e.symm
  rw [hb] at ho; injection ho with ho; subst ho; rw [hc] at hc'; cases hc'
 refine ⟨v,(hg.block bx (Array.getElem?_eq_some_iff.1 hv).1 (hne hv rfl)).trans hv,hr'.kept hg ?_,hz,hb.grown hg (Nat.le_trans h0 hb.size) (fun k e=>(hr k e).1)⟩
 rcases hr'.2 with ⟨rfl,_⟩ | ⟨g,cap,cur,rfl,_,hgb,_⟩
 · exact .inl rfl
 · exact .inr (hne hgb rfl)
theorem Grow.kept {n0 bx:Nat} {t e:TypeId} {size:Nat} {w:World} {xs xs':List Value} {n n':Nat} {A B:World} (h0:n0<=bx) {v v':Value} (hv:A.heap[bx]? = some (.cells #[v] t (0,0))) (hr:A.ownsRow n0 e size v n xs)
 (hv':B.heap[bx]? = some (.cells #[v'] t (0,0))) (hr':B.ownsRow n0 e size v' n' xs') (hz:n' = 0->v' = .slice none 0 0) (hB:Below n0 w B) (hs:A.heap.size<=B.heap.size)
 (hne:v'.ownBlock=v.ownBlock\/∃ b,v'.ownBlock=some b/\A.heap.size<=b) (h:∀ b,b < A.heap.size->b≠bx->v.ownBlock≠some b->B.heap[b]? = A.heap[b]?):Kept n0 bx A B:=by
 have hlow:∀ b,b < n0->v.ownBlock≠some b:=fun b hb e1=>by
  rcases hr.2 with ⟨rfl,_⟩ | ⟨g,cap,cur,rfl,hg,hgb,_⟩
  · cases e1
  · have:g=b:=by simpa [Value.ownBlock] using e1
    omega
 have hbx:=(Array.getElem?_eq_some_iff.1 hv).1
 refine ⟨Grow.box h0 ⟨v',hv',hr',hz,hB⟩,hs,fun b o u hb hx=>?_,fun b hx=>?_,fun b hb=>h b (by omega) (by omega) (hlow b hb)⟩
 · have h1:b≠bx:=fun e1=>hx ((Grow.exb (w:=w) hv hr b).2 (.inl e1))
   have h2:v.ownBlock≠some b:=fun e1=>hx ((Grow.exb (w:=w) hv hr b).2 (.inr e1))
   exact (xU (h b (zA4 hb) h1 h2) o).trans hb
 · rcases (Grow.exb (w:=w) hv' hr' b).1 hx with rfl | h1
   · exact .inl (.inl rfl)
   · rcases hne with e1 | ⟨b',e1,e2⟩
     · exact .inl ((Grow.exb (w:=w) hv hr b).2 (.inr (e1 ▸ h1)))
     · rw [e1] at h1; injection h1 with h1; subst h1; exact .inr e2
theorem Grow.round {n0 bx K0:Nat} {t e:TypeId} {size:Nat} {w:World} {xs xs':List Value} {n n':Nat} {A B:World} (h0:n0<=bx) {v v':Value} (hv:A.heap[bx]? = some (.cells #[v] t (0,0))) (hr:A.ownsRow n0 e size v n xs)
 (hv':B.heap[bx]? = some (.cells #[v'] t (0,0))) (hr':B.ownsRow n0 e size v' n' xs') (hz:n' = 0->v' = .slice none 0 0) (hB:Below n0 w B) (hs:A.heap.size<=B.heap.size)
 (hne:v'.ownBlock=v.ownBlock\/∃ b,v'.ownBlock=some b/\A.heap.size<=b) (h:∀ b,b < A.heap.size->b≠bx->v.ownBlock≠some b->B.heap[b]? = A.heap[b]?) :
 KeepsFrom K0 A B/\ja n0 bx A B/\Grow n0 bx t e size w xs' n' B:=by
 refine ⟨⟨hs,fun k o _ hk hc=>(h k (Array.getElem?_eq_some_iff.1 hk).1 (fun e1=>?_) (fun e1=>?_)).trans hk⟩,fun _=>Grow.kept h0 hv hr hv' hr' hz hB hs hne h,v',hv',hr',hz,hB⟩
 · subst e1; rw [hv] at hk; injection hk with hk; subst hk; cases hc
 · rcases hr.2 with ⟨rfl,_⟩ | ⟨g,cap,cur,rfl,_,hgb,_⟩
   · cases e1
   · have:g=k:=by simpa [Value.ownBlock] using e1
     subst this; rw [hgb] at hk; injection hk with hk; subst hk; cases hc
theorem zJu {W:World} {B:Nat} {v:Value} {t:TypeId} (v':Value) (h:W.heap[B]? = some (.cells #[v] t (0,0))):(W.setCell ⟨B,0,none⟩ v').heap[B]? = some (.cells #[v'] t (0,0)):=by
 obtain ⟨hlt,hk⟩:=Array.getElem?_eq_some_iff.1 h
 show (W.heap.modify B _)[B]? = _
 rw [Array.getElem?_eq_getElem (by rw [Array.size_modify]; exact hlt),Array.getElem_modify_self,hk]
 rfl
theorem zRm {W:World} {base:Nat} {e:TypeId} {size:Nat} {v:Value} {k:Nat} {xs:List Value} (h:W.ownsRow base e size v k xs) {b:Nat} (hb:v.ownBlock=some b):base<=b:=by
 rcases h.2 with ⟨rfl,_⟩ | ⟨g,cap,cur,rfl,hg,_⟩
 · cases hb
 · have:g=b:=by simpa [Value.ownBlock] using hb
   omega
set_option maxRecDepth 100000 in
set_option maxHeartbeats 1000000 in
theorem all_in (F:Fence) (hF:∀ f,F.fn f) (hro:F.round=none) (m:Nat) (v0 v1 v2:Value) (w:World) :
 CallsIn F m Tryz.prog 51 #[.agg #[v0,v1,v2]] w fun e w'=>e = .returned (.func (.func 70) #[] #[.pointer (some ⟨w.heap.size,0,none⟩)])/\w' = w.alloc (.cells #[v0,v1,v2] 29):=by
 refine callsIn_of_wp Tryz.func51 rfl (hF _) ?_ hro
 simp only [Tryz.ntmps51,List.size_toArray,List.length_cons,List.length_nil,Nat.reduceAdd,Nat.reduceSub,Array.replicate_succ,Array.replicate_zero,List.push_toArray,List.append_toArray,List.nil_append,List.cons_append]
 gi_wp2
 go_ret
 exact ⟨rfl,rfl⟩
end
end Go.Proofs.YtnamdpbcpnnhaaaGreatDoor
section
namespace Go.Proofs
open Go.Shelf
def Tryz.lays137_ren:Go.Shelf.Ren:=⟨fun | 137=>90 | 217=>120 | 266=>133 | n=>n,fun | 9=>9 | 5=>5 | 3=>3 | n=>n,fun | n=>n⟩
theorem Tryz.lays137:Go.Proofs.Lays.n137 Tryz.prog Tryz.lays137_ren:={
 mixed:=by kernel_rfl
 f137:=Tryz.func90.trans (congrArg some (by kernel_rfl))
 f217:=Tryz.func120.trans (congrArg some (by kernel_rfl))
 f266:=Tryz.func133.trans (congrArg some (by kernel_rfl))
 t3:=Tryz.underlying3
 a3:=Tryz.isAgg3
 z3:=Tryz.sizeOf3
 v3:=Tryz.zeroValue3
 t5:=Tryz.underlying5
 a5:=Tryz.isAgg5
 z5:=Tryz.sizeOf5
 v5:=Tryz.zeroValue5
 t9:=Tryz.underlying9
 a9:=Tryz.isAgg9
 z9:=Tryz.sizeOf9
 v9:=Tryz.zeroValue9 }
open Go.RowKit in
theorem Tryz.strings_IndexByte (s:ByteArray) (c:Int) (w:World) :
 Calls Tryz.prog 90 #[.string s,.int .u8 c] w fun e w'=>e = .returned (.int .i64 (Lib.indexByte s.data.toList c.toNat.toUInt8))/\w' = w:=Any.strings_IndexByte Tryz.lays137 s c w
def Tryz.laysM171_ren:Go.Shelf.Ren:=⟨fun | 171=>69 | 243=>106 | 246=>128 | 283=>138 | 284=>139 | 285=>140 | 286=>141 | 129=>146 | 317=>145 | 318=>147 | 319=>148 | 320=>149 | 337=>152 | 338=>153 | n=>n,fun | 3=>3 | 9=>9 | 2=>2 | 4=>4 | 171=>157 | 0=>0 | 53=>134 | 37=>125 | 5=>5 | 173=>160 | 212=>165 | 51=>131 | 20=>20 | 213=>166 | 46=>109 | 232=>170 | 233=>171 | n=>n,fun | 17=>5 | 18=>6 | 19=>7 | n=>n⟩
theorem Tryz.laysM171:Go.Proofs.LaysM.n171 Tryz.prog Tryz.laysM171_ren:={
 mixed:=by kernel_rfl
 f129:=Tryz.func146.trans (congrArg some (by kernel_rfl))
 f171:=Tryz.func69.trans (congrArg some (by kernel_rfl))
 f243:=Tryz.func106.trans (congrArg some (by kernel_rfl))
 f246:=Tryz.func128.trans (congrArg some (by kernel_rfl))
 f283:=Tryz.func138.trans (congrArg some (by kernel_rfl))
 f284:=Tryz.func139.trans (congrArg some (by kernel_rfl))
 f285:=Tryz.func140.trans (congrArg some (by kernel_rfl))
 f286:=Tryz.func141.trans (congrArg some (by kernel_rfl))
 f317:=Tryz.func145.trans (congrArg some (by kernel_rfl))
 f318:=Tryz.func147.trans (congrArg some (by kernel_rfl))
 f319:=Tryz.func148.trans (congrArg some (by kernel_rfl))
 f320:=Tryz.func149.trans (congrArg some (by kernel_rfl))
 f337:=Tryz.func152.trans (congrArg some (by kernel_rfl))
 f338:=Tryz.func153.trans (congrArg some (by kernel_rfl))
 t0:=Tryz.underlying0
 a0:=Tryz.isAgg0
 z0:=Tryz.sizeOf0
 v0:=Tryz.zeroValue0
 t2:=Tryz.underlying2
 a2:=Tryz.isAgg2
 z2:=Tryz.sizeOf2
 v2:=Tryz.zeroValue2
 t3:=Tryz.underlying3
 a3:=Tryz.isAgg3
 z3:=Tryz.sizeOf3
 v3:=Tryz.zeroValue3
 t4:=Tryz.underlying4
 a4:=Tryz.isAgg4
 z4:=Tryz.sizeOf4
 v4:=Tryz.zeroValue4
 t5:=Tryz.underlying5
 a5:=Tryz.isAgg5
 z5:=Tryz.sizeOf5
 v5:=Tryz.zeroValue5
 t9:=Tryz.underlying9
 a9:=Tryz.isAgg9
 z9:=Tryz.sizeOf9
 v9:=Tryz.zeroValue9
 t20:=Tryz.underlying20
 a20:=Tryz.isAgg20
 z20:=Tryz.sizeOf20
 v20:=Tryz.zeroValue20
 t37:=Tryz.underlying125
 a37:=Tryz.isAgg125
 z37:=Tryz.sizeOf125
 v37:=Tryz.zeroValue125
 t46:=Tryz.underlying109
 a46:=Tryz.isAgg109
 z46:=Tryz.sizeOf109
 v46:=Tryz.zeroValue109
 t51:=Tryz.underlying131
 a51:=Tryz.isAgg131
 z51:=Tryz.sizeOf131
 v51:=Tryz.zeroValue131
 t53:=Tryz.underlying134
 a53:=Tryz.isAgg134
 z53:=Tryz.sizeOf134
 v53:=Tryz.zeroValue134
 t171:=Tryz.underlying157
 a171:=Tryz.isAgg157
 z171:=Tryz.sizeOf157
 v171:=Tryz.zeroValue157
 t173:=Tryz.underlying160
 a173:=Tryz.isAgg160
 z173:=Tryz.sizeOf160
 v173:=Tryz.zeroValue160
 t212:=Tryz.underlying165
 a212:=Tryz.isAgg165
 z212:=Tryz.sizeOf165
 v212:=Tryz.zeroValue165
 t213:=Tryz.underlying166
 a213:=Tryz.isAgg166
 z213:=Tryz.sizeOf166
 t232:=Tryz.underlying170
 a232:=Tryz.isAgg170
 z232:=Tryz.sizeOf170
 v232:=Tryz.zeroValue170
 t233:=Tryz.underlying171
 a233:=Tryz.isAgg171
 z233:=Tryz.sizeOf171
 v233:=Tryz.zeroValue171
 g17:=by kernel_rfl
 g18:=by kernel_rfl
 g19:=by kernel_rfl
 i0:=by kernel_rfl
 i2:=by kernel_rfl
 i3:=by kernel_rfl
 i4:=by kernel_rfl
 i5:=by kernel_rfl
 i9:=by kernel_rfl
 i20:=by kernel_rfl
 i37:=by kernel_rfl
 i46:=by kernel_rfl
 i51:=by kernel_rfl
 i53:=by kernel_rfl
 i171:=by kernel_rfl
 i173:=by kernel_rfl
 i212:=by kernel_rfl
 i232:=by kernel_rfl
 i233:=by kernel_rfl
 m17:=by kernel_rfl
 m18:=by kernel_rfl
 m19:=by kernel_rfl }
open Go.RowKit Go.Sort Go.Lib in
theorem Tryz.strconv_Itoa (n:Int) (h0:-9223372036854775808<=n) (h1:n<=9223372036854775807) (w:World) (htab:Lib.TabIs Tryz.prog w "internal/strconv.uint64pow10" .u64 Lib.pow10Tab) :
 Calls Tryz.prog 69 #[.int .i64 n] w fun e w'=>e = .returned (.string ⟨(Lib.itoa n).toArray⟩)/\∃ k os,w' = grow (w.drewN k) os:=Any.strconv_Itoa Tryz.laysM171 n h0 h1 w htab
def Tryz.lays143_ren:Go.Shelf.Ren:=⟨fun | 143=>91 | 219=>121 | 217=>120 | 225=>134 | 224=>135 | 267=>136 | 266=>133 | 314=>144 | n=>n,fun | 9=>9 | 3=>3 | 4=>4 | 5=>5 | 46=>109 | 146=>132 | 51=>131 | n=>n,fun | 1=>4 | n=>n⟩
theorem Tryz.lays143:Go.Proofs.Lays.n143 Tryz.prog Tryz.lays143_ren:={
 mixed:=by kernel_rfl
 f143:=Tryz.func91.trans (congrArg some (by kernel_rfl))
 f217:=Tryz.func120.trans (congrArg some (by kernel_rfl))
 f219:=Tryz.func121.trans (congrArg some (by kernel_rfl))
 f224:=Tryz.func135.trans (congrArg some (by kernel_rfl))
 f225:=Tryz.func134.trans (congrArg some (by kernel_rfl))
 f266:=Tryz.func133.trans (congrArg some (by kernel_rfl))
 f267:=Tryz.func136.trans (congrArg some (by kernel_rfl))
 f314:=Tryz.func144.trans (congrArg some (by kernel_rfl))
 t3:=Tryz.underlying3
 a3:=Tryz.isAgg3
 z3:=Tryz.sizeOf3
 v3:=Tryz.zeroValue3
 t4:=Tryz.underlying4
 a4:=Tryz.isAgg4
 z4:=Tryz.sizeOf4
 v4:=Tryz.zeroValue4
 t5:=Tryz.underlying5
 a5:=Tryz.isAgg5
 z5:=Tryz.sizeOf5
 v5:=Tryz.zeroValue5
 t9:=Tryz.underlying9
 a9:=Tryz.isAgg9
 z9:=Tryz.sizeOf9
 v9:=Tryz.zeroValue9
 t46:=Tryz.underlying109
 a46:=Tryz.isAgg109
 z46:=Tryz.sizeOf109
 v46:=Tryz.zeroValue109
 t51:=Tryz.underlying131
 a51:=Tryz.isAgg131
 z51:=Tryz.sizeOf131
 v51:=Tryz.zeroValue131
 t146:=Tryz.underlying132
 a146:=Tryz.isAgg132
 z146:=Tryz.sizeOf132
 v146:=Tryz.zeroValue132
 g1:=by kernel_rfl }
open Go.RowKit Go.Lib in
theorem Tryz.strings_Index (s sub:ByteArray) (m:Int) (w:World) (hs:s.size < 4294967281) (hm:w.cell? ⟨4,0,none⟩=some (.int .i64 m)) :
 Calls Tryz.prog 91 #[.string s,.string sub] w fun e w'=>e = .returned (.int .i64 (Lib.index s.data.toList sub.data.toList))/\w' = w:=Any.strings_Index Tryz.lays143 s sub m w hs hm
def Tryz.lays99_ren:Go.Shelf.Ren:=⟨fun | 99=>119 | 206=>132 | n=>n,fun | 9=>9 | 4=>4 | 3=>3 | n=>n,fun | n=>n⟩
theorem Tryz.lays99:Go.Proofs.Lays.n99 Tryz.prog Tryz.lays99_ren:={
 mixed:=by kernel_rfl
 f99:=Tryz.func119.trans (congrArg some (by kernel_rfl))
 f206:=Tryz.func132.trans (congrArg some (by kernel_rfl))
 t3:=Tryz.underlying3
 a3:=Tryz.isAgg3
 z3:=Tryz.sizeOf3
 v3:=Tryz.zeroValue3
 t4:=Tryz.underlying4
 a4:=Tryz.isAgg4
 z4:=Tryz.sizeOf4
 v4:=Tryz.zeroValue4
 t9:=Tryz.underlying9
 a9:=Tryz.isAgg9
 z9:=Tryz.sizeOf9
 v9:=Tryz.zeroValue9 }
open Go.RowKit Go.Lib in
theorem Tryz.strings_HasPrefix (s p:ByteArray) (w:World) :
 Calls Tryz.prog 119 #[.string s,.string p] w fun e w'=>e = .returned (.bool (Lib.hasPrefix s.data.toList p.data.toList))/\w' = w:=Any.strings_HasPrefix Tryz.lays99 s p w
end Go.Proofs
namespace Go.Proofs.YtnamdpbcpnnhaaaGreatDoor
open Go.Al Go.Den Go.RowKit Go.Sort
theorem zO2 {B:Nat} {wm:Nat->Nat} {w:World} (h:GlobOk B wm w):Lib.TabIs Tryz.prog w "internal/strconv.uint64pow10" .u64 Lib.pow10Tab:=by
 obtain ⟨h0,arr,el,m,h1,h2⟩:=h.one (5,fun us=>us=pow10V) (by simp [zIQ])
 unfold Lib.TabIs World.var?
 have e:Tryz.prog.globalNamed "internal/strconv.uint64pow10" = some 5:=by kernel_rfl
 rw [e]
 simp only [Option.bind_some]
 replace h1:w.heap[5]? = some (.cells arr el m):=h1
 rw [h1]
 replace h2:arr.toList=pow10V:=h2
 have:arr=pow10V.toArray:=by rw [<- h2]
 rw [this]
 rfl
theorem zKI {B:Nat} {wm:Nat->Nat} {w:World} (h:GlobOk B wm w):∃ m,w.cell? ⟨4,0,none⟩=some (.int .i64 m):=by
 obtain ⟨h0,arr,el,m,h1,z,h2⟩:=h.one (4,fun us=>∃ m,us=[.int .i64 m]) (by simp [zIQ])
 refine ⟨z,?_⟩
 unfold World.cell?
 replace h1:w.heap[4]? = some (.cells arr el m):=h1
 simp only [h1]
 have:arr=[Value.int .i64 z].toArray:=by rw [<- h2]
 rw [this]
 rfl
theorem jF {wm:Nat->Nat} {w w':World} (hwm:∀ b,w.heap.size<=b->wm b=0) (hb:Below w.heap.size w w') :
 (∀ b,w'.heap.size<=b->wm b=0)/\Step w.heap.size ⟨wm,fun _=>none,Fr.no⟩ w ⟨wm,fun _=>none,Fr.no⟩ w':=by
 have hL:Later ⟨wm,fun _=>none,Fr.no⟩ w ⟨wm,fun _=>none,Fr.no⟩ w':=⟨fun _=>Nat.le_refl _,fun _ _ h=>h,fun b o ho=>by
  have hb2:b < w.heap.size:=by
   rcases Nat.lt_or_ge b w.heap.size with h | h
   · exact h
   · replace ho:o < wm b:=ho
     rw [hwm b h] at ho; omega
  exact World.cell?_of_block (hb.block b hb2)⟩
 exact ⟨fun b hb2=>hwm b (Nat.le_trans hb.size hb2),⟨hL,hb,fun b h=>(by simp [Fr.no] at h),fun _ _=>rfl,rfl⟩⟩
theorem pure69 (n:Int) (h0:-9223372036854775808<=n) (h1:n<=9223372036854775807):xz Tryz.prog 69 [.at (.int .i64 n)] (.at (.string ⟨(Lib.itoa n).toArray⟩)):=by
 intro wm w us hwm hgl hu
 cases hu with
 | cons hu1 hu2=>
  cases hu2
  have e:=zm hu1
  subst e
  refine (Any.strconv_Itoa Tryz.laysM171 n h0 h1 w (zO2 hgl)).mono ?_
  rintro e w' ⟨rfl,k,os,rfl⟩
  obtain ⟨q1,q2⟩:=jF hwm (below_regrown w (w.drawn+k) os)
  exact ⟨_,wm,rfl,q1,q2,zz rfl⟩
theorem pure90 (s:Str) (c:Int):xz Tryz.prog 90 [.at (.string ⟨s.toArray⟩),.at (.int .u8 c)] (.at (.int .i64 (Lib.indexByte s c.toNat.toUInt8))):=by
 intro wm w us hwm hgl hu
 cases hu with
 | cons hu1 hu2=>
  cases hu2 with
  | cons hu2 hu3=>
   cases hu3
   have e:=zm hu1
   subst e
   have e:=zm hu2
   subst e
   refine (Tryz.strings_IndexByte ⟨s.toArray⟩ c w).mono ?_
   rintro e w' ⟨rfl,rfl⟩
   obtain ⟨q1,q2⟩:=jF hwm (Below.refl _ _)
   exact ⟨_,wm,rfl,q1,q2,zz rfl⟩
theorem pure91 (s t:Str) (h:s.length < 4294967281):xz Tryz.prog 91 [.at (.string ⟨s.toArray⟩),.at (.string ⟨t.toArray⟩)] (.at (.int .i64 (Lib.index s t))):=by
 intro wm w us hwm hgl hu
 cases hu with
 | cons hu1 hu2=>
  cases hu2 with
  | cons hu2 hu3=>
   cases hu3
   have e:=zm hu1
   subst e
   have e:=zm hu2
   subst e
   obtain ⟨m,hm⟩:=zKI hgl
   refine (Tryz.strings_Index ⟨s.toArray⟩ ⟨t.toArray⟩ m w (by simpa [ByteArray.size] using h) hm).mono ?_
   rintro e w' ⟨rfl,rfl⟩
   obtain ⟨q1,q2⟩:=jF hwm (Below.refl _ _)
   exact ⟨_,wm,rfl,q1,q2,zz rfl⟩
def c90 (x:Str×Int×Unit):Option (Int×Unit):=some (Lib.indexByte x.1 x.2.1.toNat.toUInt8,())
theorem ok90' (s:Str) (c:Int) (u:Unit) (vs:List V) (hvs:zBg CC as90 ((s,c,u):zR as90) vs):xz Tryz.prog 90 vs (.at (.int .i64 (Lib.indexByte s c.toNat.toUInt8))):=by
 obtain ⟨v,vs',rfl,hv,v2,vs2,rfl,hv2,hvs⟩:=hvs
 replace hvs:vs2=[]:=hvs
 subst hvs
 replace hv:v = .at (.string ⟨List.toArray s⟩):=hv
 replace hv2:v2 = .at (.int .u8 c):=hv2
 subst hv hv2
 exact pure90 s c
theorem ok90:ConOk CC Tryz.prog 90 ⟨as90,rs90,c90⟩:=fun x y hx vs hvs=>by
 have:=ok90' x.1 x.2.1 x.2.2 vs hvs
 injection hx with hx
 subst hx
 exact this
def c91 (x:Str×Str×Unit):Option (Int×Unit):=if x.1.length < 4294967281 then some (Lib.index x.1 x.2.1,()) else none
theorem ok91' (s t:Str) (h:s.length < 4294967281) (u:Unit) (vs:List V) (hvs:zBg CC as91 ((s,t,u):zR as91) vs):xz Tryz.prog 91 vs (.at (.int .i64 (Lib.index s t))):=by
 obtain ⟨v,vs',rfl,hv,v2,vs2,rfl,hv2,hvs⟩:=hvs
 replace hvs:vs2=[]:=hvs
 subst hvs
 replace hv:v = .at (.string ⟨List.toArray s⟩):=hv
 replace hv2:v2 = .at (.string ⟨List.toArray t⟩):=hv2
 subst hv hv2
 exact pure91 s t h
theorem ok91:ConOk CC Tryz.prog 91 ⟨as91,rs91,c91⟩:=fun x y hx vs hvs=>by
 obtain ⟨s,t,u⟩:=x
 by_cases h:List.length (show Str from s) < 4294967281
 · have h2:c91 (s,t,u)=some (Lib.index s t,()):=if_pos h
   replace hx:c91 (s,t,u)=some y:=hx
   rw [h2] at hx
   injection hx with hx
   subst hx
   exact ok91' s t h u vs hvs
 · have h2:c91 (s,t,u)=none:=if_neg h
   replace hx:c91 (s,t,u)=some y:=hx
   rw [h2] at hx
   cases hx
end Go.Proofs.YtnamdpbcpnnhaaaGreatDoor
end
namespace Go.Proofs.YtnamdpbcpnnhaaaGreatDoor
section
open Go.Al Go.Den Go.RowKit Go.Shelf
attribute [local go_sem] Oper.semAt_some
def chG:List UInt8->Nat->List CharT
 | [],_=>[]
 | [c],i=>[⟨(c.toNat:Int),(i:Int)⟩]
 | c::d::r,i=>cond (c == 92 && d == 10) (chG r (i+2)) (⟨(c.toNat:Int),(i:Int)⟩::chG (d::r) (i+1))
theorem zEw:∀ (s:List UInt8) (i:Nat),(chG s i).length<=s.length
 | [],_=>Nat.le_refl _
 | [c],i=>Nat.le_refl _
 | c::d::r,i=>by
  have h1:=zEw r (i+2)
  have h2:=zEw (d::r) (i+1)
  simp only [chG]
  cases (c == 92 && d == 10)
  · simp only [cond_false,List.length_cons] at *; omega
  · simp only [cond_true,List.length_cons] at *; omega
theorem zOT (s:List UInt8) (k:Nat) (h:k < s.length) :
 (Lib.hasPrefix (List.take (s.length - k) (s.drop k)) [92,10]=true->k+2<=s.length/\chG (s.drop k) k=chG (s.drop (k+2)) (k+2)) /\
 (Lib.hasPrefix (List.take (s.length - k) (s.drop k)) [92,10]=false->chG (s.drop k) k=⟨(s[k].toNat:Int),(k:Int)⟩::chG (s.drop (k+1)) (k+1)):=by
 have ht:List.take (s.length - k) (s.drop k)=s.drop k:=List.take_of_length_le (by simp)
 rw [ht,List.drop_eq_getElem_cons h]
 unfold Lib.hasPrefix
 by_cases h2:k+1 < s.length
 · rw [List.drop_eq_getElem_cons h2]
   have e:[92,10].isPrefixOf (s[k]::s[k+1]::s.drop (k+1+1))=(s[k] == 92 && s[k+1] == 10):=by
    simp only [List.isPrefixOf,Bool.and_true,Bool.beq_comm]
   rw [e]
   refine ⟨fun hh=>⟨by omega,?_⟩,fun hh=>?_⟩
   · simp only [chG,hh,cond_true]
   · simp only [chG,hh,cond_false]
 · have e0:s.drop (k+1)=[]:=List.drop_eq_nil_of_le (by omega)
   rw [e0]
   refine ⟨fun hh=>by simp [List.isPrefixOf] at hh,fun _=>by simp [chG]⟩
def chV (x:CharT):Value:=.agg #[.int .u8 x.b,.int .i64 x.fat]
def chC (x:CharT):List Value:=[.int .u8 x.b,.int .i64 x.fat]
set_option maxRecDepth 100000 in
set_option maxHeartbeats 2000000 in
theorem zNt (n n0 bx:Nat) (l Bs:Nat) (s:Str) (hreach:s.length < 1100000) (J Jx:List CharT->World->Prop)
 (hY:∀ pre x W,J pre W->pre.length < s.length->YieldAt Fence.wide (n - 1) Tryz.prog l #[chV x] W fun e W'=>
  (e = .returned (.bool true)/\J (pre++[x]) W'/\ja n0 bx W W')\/(e = .returned (.bool false)/\Jx (pre++[x]) W'))
 (W:World) (hB:BoxOk n0 bx W) (hxs:¬ exb bx W Bs) (hBs:W.cell? ⟨Bs,0,none⟩=some (.string ⟨s.toArray⟩)) (h0:J [] W) :
 CallsIn Fence.wide n Tryz.prog 118 #[.func (.yield l) #[] #[],.pointer (some ⟨Bs,0,none⟩)] W fun e W'=>(∃ v,e = .returned v) /\
  ((∃ ys,ys=chG s 0/\J ys W')\/(∃ pre,True/\Jx pre W')):=by
 refine callsIn_of_wp Tryz.func118 rfl trivial ?_ rfl
 simp only [Tryz.ntmps118,List.size_toArray,List.length_cons,List.length_nil,Nat.reduceAdd,Nat.reduceSub,Array.replicate_succ,Array.replicate_zero,List.push_toArray,List.append_toArray,List.nil_append,List.cons_append]
 have hsz:(⟨s.toArray⟩:ByteArray).size=s.length:=by simp [ByteArray.size]
 gi_wp2
 gi_loopw [3] (fun i wr=>∃ (k:Nat) (pre:List CharT),k<=s.length/\i = .int .i64 (k:Int)/\pre++chG (s.drop k) k=chG s 0/\J pre wr/\Kept n0 bx W wr)
  (fun i _=>match i with | .int _ z=>s.length - z.toNat | _=>0)
 case atStart=>exact ⟨0,[],Nat.zero_le _,rfl,by simp,h0,Kept.refl hB⟩
 case round=>
  obtain ⟨k,pre,hk,rfl,hpre,hJs,hnx⟩:=hrel
  have hBs':=hnx.same _ _ _ hBs hxs
  by_cases hlt:k < s.length
  · have hF:∀ f,Fence.wide.fn f:=fun _=>trivial
    have hdd:∀ k:Nat,(Fence.wide.depth.isSome=true->1<=k):=fun k h=>by cases h
    have hlt2:(k:Int) < (s.length:Int):=by omega
    have hge2:¬ ((k:Int) < 0):=by omega
    obtain ⟨hs1,hs2⟩:=zOT s k hlt
    have hbk:∀ h:k < (⟨s.toArray⟩:ByteArray).size,(⟨s.toArray⟩:ByteArray)[k]'h=s[k]:=fun _=>rfl
    cases hp:Lib.hasPrefix (List.take (s.length - k) (s.drop k)) [92,10] with
    | true=>
     obtain ⟨hk2,hc2⟩:=hs1 hp
     gi_wp2_with ((try refine ⟨hdd _,?_⟩); gi_at_call 119; refine (callsIn_wide.2 (Tryz.strings_HasPrefix _ _ _)).mono ?_; rintro e w' ⟨rfl,rfl⟩)
     refine ⟨⟨k+2,pre,hk2,rfl,by rw [<- hc2]; exact hpre,hJs,hnx⟩,?_⟩
     show s.length - Int.toNat ((k:Int)+1+1) < s.length - Int.toNat (k:Int)
     omega
    | false=>
     have hc2:=hs2 hp
     have hpl:pre.length < s.length:=by
      have e1:=congrArg List.length hpre
      have e2:=zEw s 0
      rw [hc2] at e1
      simp only [List.length_append,List.length_cons] at e1
      omega
     obtain ⟨fn,tmps,assign,body,hy,hR⟩:=hY pre ⟨(s[k].toNat:Int),(k:Int)⟩ wr hJs hpl
     dsimp only [chV] at hy
     gi_wp2_with (first
      | ((try refine ⟨hdd _,?_⟩); gi_at_call 119; refine (callsIn_wide.2 (Tryz.strings_HasPrefix _ _ _)).mono ?_; rintro e w' ⟨rfl,rfl⟩)
      | ((try refine ⟨hdd _,?_⟩); refine hR.mono ?_; clear hR; rintro e W3 (⟨rfl,hJ3,hk3⟩ | ⟨rfl,hJx3⟩)))
     · refine ⟨⟨k+1,pre++[⟨(s[k].toNat:Int),(k:Int)⟩],hlt,rfl,by rw [List.append_assoc,List.singleton_append,<- hc2]; exact hpre,hJ3,hnx.trans (hk3 hnx.ok)⟩,?_⟩
       show s.length - Int.toNat ((k:Int)+1) < s.length - Int.toNat (k:Int)
       omega
     · refine bodyPost_ret (results_none rfl _ _ _) rfl ?_
       exact ⟨⟨_,rfl⟩,.inr ⟨_,trivial,hJx3⟩⟩
  · obtain rfl:k=s.length:=by omega
    gi_wp2
    go_end0
    have e:s.drop s.length=[]:=List.drop_eq_nil_of_le (Nat.le_refl _)
    rw [e] at hpre
    exact ⟨⟨_,rfl⟩,.inl ⟨pre,by simpa [chG] using hpre,hJs⟩⟩
theorem zKd (n n0 bx Bs:Nat) (s:Str) (hreach:s.length < 1100000) (w:World) (hB:BoxOk n0 bx w) (hxs:¬ exb bx w Bs) (hbs:w.heap[Bs]? = some (.cells #[.string ⟨s.toArray⟩] 9 (0,0))) :
 SeqStopsK Fence.wide n Tryz.prog 118 #[.pointer (some ⟨Bs,0,none⟩)] (fun x:CharT=>#[chV x]) (ja n0 bx) (fun ys=>ys=chG s 0) (fun _=>True) s.length w:=fun l J Jx W hW _ _ hY h0=>by
 have hbx:W.heap[bx]? = w.heap[bx]?:=hW.block _ hB.lt
 have h1:W.heap[Bs]? = some (.cells #[.string ⟨s.toArray⟩] 9 (0,0)):=(hW.block _ (Array.getElem?_eq_some_iff.1 hbs).1).trans hbs
 exact zNt n n0 bx l Bs s hreach J Jx hY W (hB.grown hW.size hbx) (fun h=>hxs ((kU hbx Bs).1 h)) (by simp [World.cell?,h1]) h0
set_option maxRecDepth 100000 in
set_option maxHeartbeats 1000000 in
theorem zOd (m:Nat) (s:ByteArray) (w:World) :
 CallsIn Fence.wide m Tryz.prog 87 #[.string s] w fun e w'=>e = .returned (.func (.func 118) #[] #[.pointer (some ⟨w.heap.size,0,none⟩)])/\w' = w.alloc (.cells #[.string s] 9):=by
 refine callsIn_of_wp Tryz.func87 rfl trivial ?_ rfl
 simp only [Tryz.ntmps87,List.size_toArray,List.length_cons,List.length_nil,Nat.reduceAdd,Nat.reduceSub,Array.replicate_succ,Array.replicate_zero,List.push_toArray,List.append_toArray,List.nil_append,List.cons_append]
 gi_wp2
 go_ret
 exact ⟨rfl,rfl⟩
end
section
open Go.Al Go.Den Go.RowKit Go.Shelf
theorem zPD {wm:Nat->Nat} {w W':World} (hwm:∀ b,w.heap.size<=b->wm b=0) (hbel:Below w.heap.size w W') {size n:Nat} {e:TypeId} {v:Value} {ds:List Value} (hrow:W'.ownsRow w.heap.size e size v n ds) (hz:n=0->v = .slice none 0 0)
 (es:List V) (hl:n=es.length) (hu:∀ x ∈ es,x.size=size) (hrc:RCs ⟨wm,fun _=>none,Fr.no⟩ w es ds) :
 ∃ wm',(∀ b,W'.heap.size<=b->wm' b=0)/\Step w.heap.size ⟨wm,fun _=>none,Fr.no⟩ w ⟨wm',fun _=>none,Fr.no⟩ W'/\RV ⟨wm',fun _=>none,Fr.no⟩ W' (.lst (zk es) es) v:=by
 subst hl
 obtain ⟨q1,q2⟩:=jF hwm hbel
 cases es with
 | nil=>
  refine ⟨wm,q1,q2,?_⟩
  rw [hz rfl]
  exact xe (by unfold RC; exact .inl ⟨rfl,rfl,trivial⟩)
 | cons x r=>
  obtain ⟨hlen,⟨_,h0⟩ | ⟨g,cap,cur,rfl,hg,hgb,hn,hm,hcs,htk⟩⟩:=hrow
  · simp at h0
  · have hgl:=(Array.getElem?_eq_some_iff.1 hgb).1
    have hL:Later ⟨wm,fun _=>none,Fr.no⟩ w ⟨fun b=>if b=g then ds.length else wm b,fun _=>none,Fr.no⟩ W':=by
     refine ⟨fun b=>?_,fun _ _ h=>h,q2.later.cell⟩
     show wm b<=if b=g then ds.length else wm b
     split
     · rename_i h; rw [h,hwm g hg]; exact Nat.zero_le _
     · exact Nat.le_refl _
    refine ⟨fun b=>if b=g then ds.length else wm b,fun b hb=>?_,⟨hL,q2.below,fun b h=>(by simp [Fr.no] at h),fun b hb=>?_,rfl⟩,xe ?_⟩
    · show (if b=g then ds.length else wm b)=0
      rw [if_neg (by omega)]
      exact q1 b hb
    · show (if b=g then ds.length else wm b)=wm b
      rw [if_neg (by omega)]
    · simp only [RC]
      refine .inr ⟨g,0,cap,ds,rfl,hn,by simp [zk,zDT],zp hL _ _ hrc,⟨size,hu,by intro t nb s h; simp [zk] at h⟩,fun k u hk=>⟨?_,?_⟩⟩
      · have hk1:k < ds.length:=(List.getElem?_eq_some_iff.1 hk).1
        rw [<- htk,List.getElem?_take] at hk
        split at hk
        · simp only [World.cell?,hgb,Nat.zero_add]
          rw [Array.getElem?_toList] at hk
          simpa using hk
        · cases hk
      · have hk1:k < ds.length:=(List.getElem?_eq_some_iff.1 hk).1
        show 0+k < if g=g then ds.length else wm g
        rw [if_pos rfl]; omega
theorem zO4 (t:Nd):trT CC ⟨id,id,id,id⟩ (argT CC (.st TI.node) false t)=z6 t:=by
 cases t with
 | mk k a ks=>rw [kT]; rfl
end
section
open Go.Al Go.Den Go.RowKit Go.Shelf
attribute [local go_sem] Oper.semAt_some
attribute [local congr] qt jY js kP qC ql xW xX jC jT qr j0 qv jA xP xj qk jz jr qR jV qw qP qQ qi qn qM qu qo qS kp jx jq jX jU jP qp qO qN
abbrev polF:Pol:=⟨fun _=>true,fun d=>d == 18,fun _=>false,fun _=>false,[],fun _=>[]⟩
theorem zLE:cV (.agg #[.int .i64 0,.int .i64 0,.slice none 0 0]) = .agg [.at (.int .i64 0),.at (.int .i64 0),.lst .nil []]:=rfl
def zBJ:Nat->List Nat:=fun _=>[3,5,6,13]
def Row (W:World) (n0 bx:Nat) (v:Value) (n:Nat) (ds:List Value):Prop:=
 (n=0/\v = .slice none 0 0/\ds=[]) \/
 (∃ r cap arr el,v = .slice (some ⟨r,0,none⟩) n cap/\n0<=r/\r≠bx/\W.heap[r]? = some (.cells arr el (0,0))/\n<=cap/\arr.size=cap * 3/\arr.toList.take (n * 3)=ds/\ds.length=n * 3/\0 < n/\∀ d ∈ ds,one d=true)
theorem Row.own {W:World} {n0 bx n:Nat} {v:Value} {ds:List Value} (h:Row W n0 bx v n ds) {b:Nat} (hb:v.ownBlock=some b):n0<=b/\b≠bx/\∃ cap arr el,v = .slice (some ⟨b,0,none⟩) n cap/\W.heap[b]? = some (.cells arr el (0,0)):=by
 rcases h with ⟨_,rfl,_⟩ | ⟨r,cap,arr,el,rfl,h1,h2,h3,_⟩
 · cases hb
 · have:r=b:=by simpa [Value.ownBlock] using hb
   subst this
   exact ⟨h1,h2,cap,arr,el,rfl,h3⟩
theorem Row.kept {A B:World} {n0 bx n:Nat} {v:Value} {ds:List Value} (h:Row A n0 bx v n ds) (hk:∀ b,v.ownBlock=some b->B.heap[b]? = A.heap[b]?):Row B n0 bx v n ds:=by
 rcases h with h | ⟨r,cap,arr,el,rfl,h1,h2,h3,h4⟩
 · exact .inl h
 · exact .inr ⟨r,cap,arr,el,rfl,h1,h2,(hk r rfl).trans h3,h4⟩
def GrowF (n0 bx:Nat) (w:World) (ds:List Value) (n:Nat) (W:World):Prop:=
 ∃ v,(∃ t,W.heap[bx]? = some (.cells #[v] t (0,0)))/\Row W n0 bx v n ds/\Below n0 w W
theorem zRF {bx:Nat} {W:World} {v:Value} {t:TypeId} (hv:W.heap[bx]? = some (.cells #[v] t (0,0))) (hs:∀ b o l c,v = .slice (some ⟨b,o,none⟩) l c->v.ownBlock=some b) (b:Nat) :
 exb bx W b↔b=bx\/∃ o l c,v = .slice (some ⟨b,o,none⟩) l c:=by
 have hc:W.cell? ⟨bx,0,none⟩=some v:=by simp [World.cell?,hv]
 unfold Go.Proofs.YtnamdpbcpnnhaaaGreatDoor.exb
 rw [hc]
 exact or_congr Iff.rfl ⟨fun ⟨o,l,c,h⟩=>⟨o,l,c,by injection h⟩,fun ⟨o,l,c,h⟩=>⟨o,l,c,by rw [h]⟩⟩
theorem Row.exb {bx n0 n:Nat} {W:World} {v:Value} {t:TypeId} {ds:List Value} (h:Row W n0 bx v n ds) (hv:W.heap[bx]? = some (.cells #[v] t (0,0))) (b:Nat) :
 exb bx W b↔b=bx\/v.ownBlock=some b:=by
 rw [zRF hv (fun b o l c e=>by subst e; rfl) b]
 refine or_congr Iff.rfl ⟨fun ⟨o,l,c,e⟩=>by subst e; rfl,fun e=>?_⟩
 obtain ⟨_,_,cap,arr,el,e1,_⟩:=h.own e
 exact ⟨_,_,_,e1⟩
theorem GrowF.box {n0 bx:Nat} {w:World} {ds:List Value} {n:Nat} {W:World} (h0:n0<=bx) (h:GrowF n0 bx w ds n W):BoxOk n0 bx W:=by
 obtain ⟨v,⟨t,hv⟩,hr,hb⟩:=h
 refine ⟨h0,⟨_,_,_,hv⟩,fun b hx=>?_⟩
 rcases (hr.exb hv b).1 hx with rfl | h
 · exact ⟨h0,(Array.getElem?_eq_some_iff.1 hv).1⟩
 · obtain ⟨h1,_,_,arr,el,_,h2⟩:=hr.own h
   exact ⟨h1,(Array.getElem?_eq_some_iff.1 h2).1⟩
theorem qc {A B:World} {row:Option Nat} (hg:A.grownBy B row) (hr:∀ r,row=some r->∃ o:Obj,A.heap[r]? = some o/\o.isCells=false) {b:Nat} {arr:Array Value} {el:TypeId} {m:Nat×Nat} (h:A.heap[b]? = some (.cells arr el m)):B.heap[b]? = some (.cells arr el m):=
 (hg.block b (Array.getElem?_eq_some_iff.1 h).1 (fun e=>by
  obtain ⟨o,ho,hc⟩:=hr b e.symm
  rw [h] at ho; injection ho with ho; subst ho; cases hc)).trans h
theorem GrowF.grown {n0 bx:Nat} {w:World} {ds:List Value} {n:Nat} {A B:World} {row:Option Nat} (h0:n0<=w.heap.size) (h:GrowF n0 bx w ds n A) (hg:A.grownBy B row) (hr:∀ r,row=some r->n0<=r/\∃ o:Obj,A.heap[r]? = some o/\o.isCells=false):GrowF n0 bx w ds n B:=by
 obtain ⟨v,⟨t,hv⟩,hr',hb⟩:=h
 refine ⟨v,⟨t,qc hg (fun r e=>(hr r e).2) hv⟩,hr'.kept fun b e=>?_,hb.grown hg (Nat.le_trans h0 hb.size) (fun k e=>(hr k e).1)⟩
 obtain ⟨_,_,_,arr,el,_,h2⟩:=hr'.own e
 exact (qc hg (fun r e=>(hr r e).2) h2).trans h2.symm
theorem zNA {g:Gh} {w:World}:∀ {l us:List Value},RCs g w (l.map .at) us->us=l
 | [],us,h=>by simpa [RCs] using h
 | x::l,us,h=>by
  simp only [List.map_cons,RCs] at h
  obtain ⟨u1,u2,rfl,h1,h2⟩:=h
  simp only [RC] at h1
  rw [h1.1,zNA h2]; rfl
theorem zHs {g:Gh} {w:World}:∀ {l:List Value},(∀ x ∈ l,one x=true)->RCs g w (l.map .at) l
 | [],_=>by simp [RCs]
 | x::l,h=>by
  simp only [List.map_cons,RCs]
  exact ⟨[x],l,rfl,by simp [RC,h x (by simp)],zHs (fun y hy=>h y (by simp [hy]))⟩
theorem zOn {P:Program} {X:Cx} {c:Code} {Q:Exit->Env->S->Prop} {Post:Exit->Act->World->Prop} {e:Env} {g:Gh} {a:Act} {w:World} (hs:a.tmps.size=X.N.n/\∀ p ∈ X.N.fx,a.tmps.getD p.1 undef=p.2) (hd:a.defers=X.df) (hgl:GlobOk X.B g.wm w) (hp:∀ ex a' w' g' e' st',Step X.B g w g' w'->Al.Inv X.B g' st' w'->Q ex e' st'->Post ex a' w')
 (he:∀ k,RV g w (e.get k) (a.tmps.getD k undef)) (h:∃ st,awp P X c Q e st/\Al.Inv X.B g st w):c.wpIn (fen X.ro) 0 P Post a w:=by
 obtain ⟨st,h1,h2⟩:=h
 refine wpIn_mono (h1 g a w ⟨h2,he,hs,hd,hgl⟩) ?_
 rintro ex a' w' ⟨g',e',st',k1,k2,k3⟩
 exact hp _ _ _ _ _ _ k1 k2.inv k3
def wmF (bv:Value) (bx T3 B4:Nat) (W:World) (b:Nat):Nat:=
 if b=bx\/b=T3\/b=B4\/bv.ownBlock=some b then 0 else match W.heap[b]? with | some (.cells arr _ _)=>arr.size+1 | _=>0
theorem zBB {bv:Value} {bx T3 B4:Nat} {W:World} {b:Nat} (h:b=bx\/b=T3\/b=B4\/bv.ownBlock=some b):wmF bv bx T3 B4 W b=0:=if_pos h
theorem zJU {bv:Value} {bx T3 B4:Nat} {W:World} {b:Nat} (h:¬ (b=bx\/b=T3\/b=B4\/bv.ownBlock=some b)) {arr:Array Value} {el:TypeId} {m:Nat×Nat} (hb:W.heap[b]? = some (.cells arr el m)):wmF bv bx T3 B4 W b=arr.size+1:=by
 unfold wmF; rw [if_neg h,hb]
theorem zKu {bv:Value} {bx T3 B4:Nat} {W:World} {b:Nat} (h:W.heap.size<=b):wmF bv bx T3 B4 W b=0:=by
 unfold wmF
 split
 · rfl
 · rw [Array.getElem?_eq_none h]
def frW (W:World):Fr:=⟨fun b=>match W.heap[b]? with | some o=>!o.isCells | none=>false,fun _=>false⟩
theorem zNT {W:World} {b:Nat} {o:Obj} (h:W.heap[b]? = some o) (hc:o.isCells=false):(frW W).b b=true:=by simp [frW,h,hc]
theorem zLF {W:World} {b:Nat} (h:(frW W).b b=true):∃ o,W.heap[b]? = some o/\o.isCells=false:=by
 unfold frW at h
 simp only at h
 split at h
 · rename_i o ho; exact ⟨o,ho,by simpa using h⟩
 · cases h
theorem globF {n0 bx T3 B4:Nat} {bv:Value} {wm:Nat->Nat} {w W:World} (h:GlobOk n0 wm w) (hb:Below n0 w W) (h1:n0<=bx) (h2:n0<=T3) (h3:n0<=B4) (h4:∀ b,bv.ownBlock=some b->n0<=b):GlobOk n0 (wmF bv bx T3 B4 W) W:=
 ⟨fun p hp=>let ⟨h0,arr,el,m,k1,k2⟩:=h.one p hp; ⟨h0,arr,el,m,(hb.block _ h0).trans k1,k2⟩,fun p hp=>by
  obtain ⟨k0,⟨arr,el,m,k1,k2⟩,_⟩:=h.all p hp
  have k3:=(hb.block _ k0).trans k1
  refine ⟨k0,⟨arr,el,m,k3,k2⟩,?_⟩
  rw [zJU (fun e=>?_) k3,<- k2]
  · simp
  · rcases e with e | e | e | e
    · omega
    · omega
    · omega
    · have:=h4 _ e; omega⟩
theorem zM1 (ds:List Value) (n:Nat) (h:ds.length=n * 3) (zs:List V) (us:List Value) (hz:zs.length=3) :
 List.take (n * 3) (List.take (n * 3) (List.map V.at ds)++zs)++us.map V.at++List.drop (n * 3+3) (List.take (n * 3) (List.map V.at ds)++zs)=(ds++us).map V.at:=by
 have e1:List.take (n * 3) (List.map V.at ds)=List.map V.at ds:=List.take_of_length_le (by simp [h])
 rw [e1,List.take_append_of_le_length (by simp [h]),e1,List.drop_eq_nil_of_le (by simp [h,hz]),List.append_nil,List.map_append]
theorem zOI {B:Nat} {g:Gh} {W:World} {bs:List (Nat×List V×Nat)} (hB:B<=W.heap.size) (hf:∀ b,W.heap.size<=b->g.wm b=0) (ht:∀ t,g.tb t=none) (hfr:∀ b,g.fr.b b=true->∃ o,W.heap[b]? = some o/\o.isCells=false) (hft:∀ t,g.fr.t t=false)
 (h:∀ b cs k,Go.Al.look bs b=some (cs,k)->B<=b/\g.wm b=0/\cs.length<=k/\(∀ c ∈ cs,c.isOne=true)/\∃ arr el us,W.heap[b]? = some (.cells arr el (0,0))/\arr.size=k/\RCs g W cs us/\arr.toList.take cs.length=us):Al.Inv B g ⟨bs,[],0,[]⟩ W:=
 have hz:∀ b,g.fr.b b=true->b < W.heap.size/\Go.Al.look bs b=none/\∀ t ∈ ([]:List Nat),∀ d,g.tb t=some (some (b,d))->False:=fun b hb=>by
  obtain ⟨o,ho,hc⟩:=hfr b hb
  refine ⟨(Array.getElem?_eq_some_iff.1 ho).1,?_,fun t h=>by simp at h⟩
  cases hl:Go.Al.look bs b with
  | none=>rfl
  | some x=>
   obtain ⟨_,_,_,_,arr,el,us,h1,_⟩:=h b x.1 x.2 hl
   rw [ho] at h1; injection h1 with h1; subst h1; cases hc
 have hx:InvX B g ⟨bs,[],0,[]⟩ W:=by
  refine ⟨hz,fun b o fp h=>?_,fun b o fp b' o' fp' j h=>?_,fun t h=>?_⟩
  · cases h
  · cases h
  · rw [hft] at h; cases h
 ⟨hB,h,fun t h=>by simp at h,fun t h=>by simp at h,fun t h=>by simp at h,by simp,hf,fun t _=>ht t,hx⟩
theorem zHw {φ:Nat->List V->Nat->Prop}:∀ b cs k,Go.Al.look ([]:List (Nat×List V×Nat)) b=some (cs,k)->φ b cs k:=fun b cs k h=>by cases h
theorem jt {φ:Nat->List V->Nat->Prop} {b0 k0:Nat} {cs0:List V} {r:List (Nat×List V×Nat)} (h0:φ b0 cs0 k0) (hr:∀ b cs k,Go.Al.look r b=some (cs,k)->φ b cs k):∀ b cs k,Go.Al.look ((b0,cs0,k0)::r) b=some (cs,k)->φ b cs k:=fun b cs k h=>by
 by_cases e:b0=b
 · subst e
   have:Go.Al.look ((b0,cs0,k0)::r) b0=some (cs0,k0):=by simp [Go.Al.look]
   rw [this] at h; injection h with h; injection h with h1 h2; subst h1; subst h2; exact h0
 · have:Go.Al.look ((b0,cs0,k0)::r) b=Go.Al.look r b:=by simp [Go.Al.look,e]
   rw [this] at h; exact hr b cs k h
theorem zC4 {B:Nat} {g:Gh} {W:World} {b k:Nat} {l:List Value} {arr:Array Value} {el:TypeId} (h1:B<=b) (h2:g.wm b=0) (h3:W.heap[b]? = some (.cells arr el (0,0))) (h4:arr.size=k) (h5:arr.toList.take l.length=l) (h6:∀ x ∈ l,one x=true) :
 B<=b/\g.wm b=0/\(l.map V.at).length<=k/\(∀ c ∈ l.map V.at,c.isOne=true)/\∃ arr el us,W.heap[b]? = some (.cells arr el (0,0))/\arr.size=k/\RCs g W (l.map V.at) us/\arr.toList.take (l.map V.at).length=us:=by
 refine ⟨h1,h2,?_,fun c hc=>?_,arr,el,l,h3,h4,zHs h6,by rw [List.length_map]; exact h5⟩
 · have:=congrArg List.length h5
   rw [List.length_take] at this
   have e:=Array.length_toList (xs:=arr)
   rw [List.length_map]; omega
 · obtain ⟨x,_,rfl⟩:=List.mem_map.1 hc; rfl
theorem zRR {B:Nat} {g:Gh} {W:World} {b:Nat} {el:TypeId} (h1:B<=b) (h2:g.wm b=0) (h3:W.heap[b]? = some (.cells #[.slice none 0 0] el (0,0))) :
 B<=b/\g.wm b=0/\([.lst .nil []]:List V).length<=1/\(∀ c ∈ ([.lst .nil []]:List V),c.isOne=true)/\∃ arr el us,W.heap[b]? = some (.cells arr el (0,0))/\arr.size=1/\RCs g W [.lst .nil []] us/\arr.toList.take ([.lst .nil []]:List V).length=us:=
 ⟨h1,h2,Nat.le_refl _,by simp [V.isOne],_,el,[.slice none 0 0],h3,rfl,by simp only [RCs]; exact ⟨_,[],rfl,by unfold RC; exact .inl ⟨rfl,rfl,trivial⟩,rfl⟩,rfl⟩
structure BoxQ (bx T3 B4:Nat) (kd k' a':Int) (sv':Value) (n:Nat) (ds:List Value) (s:S):Prop where
 t3:Go.Al.look s.box T3=some ([Value.int .i64 kd].map V.at,1)
 b4:Go.Al.look s.box B4=some ([Value.int .i64 k',.int .i64 a',sv'].map V.at,3)
 row:(n=0/\ds=[]/\Go.Al.look s.box bx=some ([.lst .nil []],1))\/∃ b cap,0 < n/\Go.Al.look s.box bx=some ([Value.slice (some ⟨b,0,none⟩) n cap].map V.at,1)/\Go.Al.look s.box b=some (ds.map V.at,cap * 3)/\n<=cap/\b≠bx/\b≠T3/\b≠B4/\ds.length=n * 3/\∀ d ∈ ds,one d=true
theorem zLa {B:Nat} {g:Gh} {s:S} {w:World} (h:Al.Inv B g s w) {b k:Nat} {l:List Value} (hl:Go.Al.look s.box b=some (l.map V.at,k)):B<=b/\g.wm b=0/\∃ arr el,w.heap[b]? = some (.cells arr el (0,0))/\arr.size=k/\arr.toList.take l.length=l:=by
 obtain ⟨h1,h2,_,_,arr,el,us,h3,h4,h5,h6⟩:=h.box b _ k hl
 rw [zNA h5,List.length_map] at h6
 exact ⟨h1,h2,arr,el,h3,h4,h6⟩
theorem zCp {B:Nat} {g:Gh} {s:S} {w:World} (h:Al.Inv B g s w) {b:Nat} {l:List Value} (hl:Go.Al.look s.box b=some (l.map V.at,l.length)):∃ el,w.heap[b]? = some (.cells l.toArray el (0,0)):=by
 obtain ⟨_,_,arr,el,h3,h4,h6⟩:=zLa h hl
 refine ⟨el,?_⟩
 have h9:arr.toList.length=l.length:=by simpa using h4
 have:arr.toList=l:=by rw [List.take_of_length_le (Nat.le_of_eq h9)] at h6; exact h6
 rw [h3,<- this]
theorem zRe {B:Nat} {g:Gh} {s:S} {w:World} (h:Al.Inv B g s w) {b:Nat} (hl:Go.Al.look s.box b=some ([.lst .nil []],1)):∃ el,w.heap[b]? = some (.cells #[.slice none 0 0] el (0,0)):=by
 obtain ⟨_,_,_,_,arr,el,us,h3,h4,h5,h6⟩:=h.box b _ 1 hl
 simp only [RCs] at h5
 obtain ⟨u1,u2,rfl,h7,rfl⟩:=h5
 simp only [RC] at h7
 rcases h7 with ⟨_,rfl,_⟩ | ⟨b',o,cap,ds,_,_,h8,_⟩
 · refine ⟨el,?_⟩
   have:arr.toList=[.slice none 0 0]:=by
    have h9:arr.toList.length=1:=by simpa using h4
    simpa [List.take_of_length_le,h9] using h6
   rw [h3,show arr=[Value.slice none 0 0].toArray from by rw [<- this]]
 · simp [zDT] at h8
theorem zOo {n0 bx T3 B4 K0 n n':Nat} {kd k' a':Int} {sv' bv:Value} {ds ds':List Value} {w W w':World} {g':Gh} {s':S} {tb tk tn:TypeId} (h0:n0<=bx) (hv:W.heap[bx]? = some (.cells #[bv] tb (0,0))) (hr:Row W n0 bx bv n ds)
 (hT:W.heap[T3]? = some (.cells #[.int .i64 kd] tk (0,0))) (hB4:W.heap[B4]? = some (.cells #[.int .i64 k',.int .i64 a',sv'] tn (0,0))) (hbel:Below n0 w W)
 (hS:Step n0 ⟨wmF bv bx T3 B4 W,fun _=>none,frW W⟩ W g' w') (hI:Al.Inv n0 g' s' w') (hq:BoxQ bx T3 B4 kd k' a' sv' n' ds' s') :
 KeepsFrom K0 W w'/\ja n0 bx W w'/\(GrowF n0 bx w ds' n' w'/\∃ t,w'.heap[T3]? = some (.cells #[.int .i64 kd] t (0,0))):=by
 obtain ⟨tk',hT'⟩:=zCp hI hq.t3
 obtain ⟨tn',hB4'⟩:=zCp hI hq.b4
 obtain ⟨v',t',hv',hr',hown⟩:∃ v' t',w'.heap[bx]? = some (.cells #[v'] t' (0,0))/\Row w' n0 bx v' n' ds'/\∀ b,v'.ownBlock=some b->b≠bx/\b≠T3/\b≠B4/\g'.wm b=0:=by
  rcases hq.row with ⟨rfl,rfl,h1⟩ | ⟨b,cap,h1,h2,h3,h4,h5,h6,h7,h8,h9⟩
  · obtain ⟨el,h2⟩:=zRe hI h1
    exact ⟨_,el,h2,.inl ⟨rfl,rfl,rfl⟩,fun b e=>by cases e⟩
  · obtain ⟨el,k1⟩:=zCp hI h2
    obtain ⟨k2,k3,arr,el2,k4,k5,k6⟩:=zLa hI h3
    refine ⟨_,el,k1,.inr ⟨b,cap,arr,el2,rfl,k2,h5,k4,h4,k5,by rw [<- h8]; exact k6,h8,h1,h9⟩,fun b' e=>?_⟩
    have:b=b':=by simpa [Value.ownBlock] using e
    subst this
    exact ⟨h5,h6,h7,k3⟩
 have hG:GrowF n0 bx w ds' n' w':=⟨v',⟨t',hv'⟩,hr',hbel.trans hS.below⟩
 refine ⟨⟨hS.below.size,fun k o _ hk hc=>((hS.fz k (zNT hk (by cases o <;> first | rfl | (cases hc)))).1).trans hk⟩,fun _=>⟨hG.box h0,hS.below.size,fun b o u hb hx=>?_,fun b hx=>?_,fun b hb=>hS.below.block b hb⟩,hG,tk',hT'⟩
 · have h1:b≠bx:=fun e=>hx ((hr.exb hv b).2 (.inl e))
   have h2:bv.ownBlock≠some b:=fun e=>hx ((hr.exb hv b).2 (.inr e))
   by_cases h3:b=T3
   · subst h3
     simpa [World.cell?,hT,hT'] using hb
   · by_cases h4:b=B4
     · subst h4
       simpa [World.cell?,hB4,hB4'] using hb
     · have hn:¬ (b=bx\/b=T3\/b=B4\/bv.ownBlock=some b):=fun e=>by
        rcases e with e | e | e | e
        · exact h1 e
        · exact h3 e
        · exact h4 e
        · exact h2 e
       refine (hS.later.cell b o ?_).trans hb
       show o < wmF bv bx T3 B4 W b
       cases hk:W.heap[b]? with
       | none=>simp [World.cell?,hk] at hb
       | some ob=>
        cases ob with
        | cells arr el m=>
         rw [zJU hn hk]
         simp only [World.cell?,hk] at hb
         have:=(Array.getElem?_eq_some_iff.1 (by simpa using hb)).1
         omega
        | _=>simp [World.cell?,hk] at hb
 · rcases (hr'.exb hv' b).1 hx with rfl | h1
   · exact .inl (.inl rfl)
   · obtain ⟨q1,q2,q3,q4⟩:=hown b h1
     obtain ⟨_,_,cap,arr,el,_,q5⟩:=hr'.own h1
     by_cases hlt:W.heap.size<=b
     · exact .inr hlt
     · left
       refine (hr.exb hv b).2 (.inr ?_)
       by_cases hown':bv.ownBlock=some b
       · exact hown'
       · exfalso
         have hn:¬ (b=bx\/b=T3\/b=B4\/bv.ownBlock=some b):=fun e=>by
          rcases e with e | e | e | e
          · exact q1 e
          · exact q2 e
          · exact q3 e
          · exact hown' e
         cases hk:W.heap[b]? with
         | none=>rw [Array.getElem?_eq_none_iff] at hk; omega
         | some ob=>
          cases ob with
          | cells arr el m=>
           have h1:=hS.later.wm b
           replace h1:wmF bv bx T3 B4 W b<=g'.wm b:=h1
           rw [zJU hn hk] at h1
           omega
          | _=>
           have h1:=((hS.fz b (zNT hk rfl)).1).trans hk
           rw [q5] at h1
           cases h1
def lvF {g:Gh} {w0:World} (kd:Int):List (El g w0)->List Nd
 | []=>[]
 | x::r=>if x.1.1.kind=kd then x.1.1::lvF kd r else lvF kd r
def dsF {g:Gh} {w0:World} (kd:Int):List (El g w0)->List Value
 | []=>[]
 | x::r=>if x.1.1.kind=kd then x.1.2.cells.toList++dsF kd r else dsF kd r
theorem zK3 {g:Gh} {w0:World} (kd:Int):∀ a b:List (El g w0),lvF kd (a++b)=lvF kd a++lvF kd b
 | [],b=>rfl
 | x::a,b=>by simp only [List.cons_append,lvF,zK3 kd a b]; split <;> rfl
theorem zKw {g:Gh} {w0:World} (kd:Int):∀ a b:List (El g w0),dsF kd (a++b)=dsF kd a++dsF kd b
 | [],b=>rfl
 | x::a,b=>by simp only [List.cons_append,dsF,zKw kd a b]; split <;> simp
theorem zKz {g:Gh} {w0:World} (kd:Int):∀ a:List (El g w0),(lvF kd a).length<=a.length
 | []=>Nat.le_refl _
 | x::a=>by have:=zKz kd a; simp only [lvF]; split <;> simp <;> omega
theorem zNn {g:Gh} {w0:World} (kd:Int):∀ a:List (El g w0),lvF kd a=(a.map (·.1.1)).filter (fun t=>t.kind == kd)
 | []=>rfl
 | x::a=>by
  simp only [lvF,List.map_cons,List.filter_cons,zNn kd a,beq_iff_eq]
theorem zNf {g:Gh} {w0:World} (kd:Int):∀ a:List (El g w0),RCs g w0 ((lvF kd a).map z6) (dsF kd a)
 | []=>by simp [lvF,dsF,RCs]
 | x::a=>by
  have ih:=zNf kd a
  simp only [lvF,dsF]
  split
  · obtain ⟨⟨⟨k,a',ks⟩,v⟩,hx⟩:=x
    obtain ⟨sv,rfl,hs⟩:=zAz hx
    simp only [List.map_cons,RCs]
    refine ⟨[.int .i64 k,.int .i64 a',sv],_,rfl,?_,ih⟩
    obtain ⟨us,h1,h2⟩:=zB2 (show RV g w0 (.agg [vi k,vi a',sl (qV ks)]) _ from hx)
    have:us=[.int .i64 k,.int .i64 a',sv]:=by
     have:=congrArg (fun v=>match v with | Value.agg a=>a.toList | _=>[]) h2
     simpa using this.symm
    subst this
    show RC g w0 (.agg [vi k,vi a',sl (qV ks)]) _
    simp only [RC]; exact h1
  · exact ih
set_option maxRecDepth 100000 in
set_option maxHeartbeats 1000000 in
theorem zQT (m:Nat) (hm:3<=m) (wm:Nat->Nat) (w:World) (hwm:∀ b,w.heap.size<=b->wm b=0) (hgl:GlobOk w.heap.size wm w) (t:Nd) (v:Value) (kd:Int) (hv:RV ⟨wm,fun _=>none,Fr.no⟩ w (z6 t) v) (hN:(allT t).length<=1000000) :
 CallsIn Fence.wide m Tryz.prog 32 #[v,.int .i64 kd] w fun e W'=>∃ v' ds,e = .returned v' /\
  Row W' w.heap.size (w.heap.size+1+1) v' ((allT t).filter (fun t=>t.kind == kd)).length ds/\RCs ⟨wm,fun _=>none,Fr.no⟩ w (((allT t).filter (fun t=>t.kind == kd)).map z6) ds/\Below w.heap.size w W':=by
 obtain ⟨k,a,ks⟩:=t
 obtain ⟨sv,rfl,hsv⟩:=zAz hv
 have hF:∀ f,Fence.wide.fn f:=fun _=>trivial
 refine callsIn_of_wp_marks Tryz.func32 rfl (hF _) ?_ rfl
 simp only [Tryz.ntmps32,List.size_toArray,List.length_cons,List.length_nil,Nat.reduceAdd,Nat.reduceSub,Array.replicate_succ,Array.replicate_zero,List.push_toArray,List.append_toArray,List.nil_append,List.cons_append]
 have hdd:∀ k:Nat,(Fence.wide.depth.isSome=true->1<=k):=fun k h=>by cases h
 gi_wp2_with ((try refine ⟨hdd _,?_⟩); gi_at_call 51; refine (all_in Fence.wide hF rfl _ _ _ _ _).mono ?_; rintro e w' ⟨rfl,rfl⟩)
 obtain ⟨W2,hW2⟩:∃ W2,(((w.alloc (.cells #[.int .i64 k,.int .i64 a,sv] 29)).alloc (.cells #[.int .i64 kd] 3)).alloc (.cells #[.slice none 0 0] 27)).alloc (.cells #[.int .i64 k,.int .i64 a,sv] 29)=W2:=⟨_,rfl⟩
 have hsz2:W2.heap.size=w.heap.size+4:=by rw [<- hW2]; simp
 have hb2:Below w.heap.size w W2:=by rw [<- hW2]; exact ((((Below.refl _ w).alloc (Nat.le_refl _) _).alloc (by simp) _).alloc (by simp; omega) _).alloc (by simp; omega) _
 have hk2:W2.heap[w.heap.size+1]? = some (.cells #[.int .i64 kd] 3 (0,0)):=by
  rw [<- hW2,Below.heap_alloc _ _ _ (by simp),Below.heap_alloc _ _ _ (by simp)]
  have:=World.alloc_heap_new (w.alloc (.cells #[.int .i64 k,.int .i64 a,sv] 29)) (.cells #[.int .i64 kd] 3 (0,0))
  simpa using this
 have hbx2:W2.heap[w.heap.size+1+1]? = some (.cells #[.slice none 0 0] 27 (0,0)):=by
  rw [<- hW2,Below.heap_alloc _ _ _ (by simp)]
  have:=World.alloc_heap_new ((w.alloc (.cells #[.int .i64 k,.int .i64 a,sv] 29)).alloc (.cells #[.int .i64 kd] 3)) (.cells #[.slice none 0 0] 27 (0,0))
  simpa using this
 have hbt2:W2.heap[w.heap.size+1+1+1]? = some (.cells #[.int .i64 k,.int .i64 a,sv] 29 (0,0)):=by
  rw [<- hW2]
  have:=World.alloc_heap_new (((w.alloc (.cells #[.int .i64 k,.int .i64 a,sv] 29)).alloc (.cells #[.int .i64 kd] 3)).alloc (.cells #[.slice none 0 0] 27)) (.cells #[.int .i64 k,.int .i64 a,sv] 29 (0,0))
  simpa using this
 have hS2:Same ⟨wm,fun _=>none,Fr.no⟩ w W2:=fun b o ho=>by
  have hb:b < w.heap.size:=by
   rcases Nat.lt_or_ge b w.heap.size with h1 | h1
   · exact h1
   · replace ho:o < wm b:=ho
     rw [hwm b h1] at ho; omega
  exact xU (hb2.block b hb) o
 have hG0:GrowF w.heap.size (w.heap.size+1+1) w [] 0 W2:=⟨_,⟨_,hbx2⟩,.inl ⟨rfl,rfl,rfl⟩,hb2⟩
 have hB2:=hG0.box (by omega)
 rw [hW2]
 refine wpIn_rangeFunc_ownH rfl (by omega) (gf:=70) (lb:=#[.pointer (some ⟨w.heap.size+1+1+1,0,none⟩)]) (by simp [Act.eval]) (hF 70) (enters_of Tryz.func70 (by kernel_rfl) rfl)
  (zM9 Fence.wide rfl hF rfl (m - 1) w.heap.size (w.heap.size+1+1) (w.heap.size+1+1+1) wm w W2 hwm (.mk k a ks) hN _ _ _ hS2 hv hB2 (by omega) hbt2) zIk (fun W l o o' hl h1 h2 _=>zI4 W l o o' (by omega) h1 h2) (Below.refl _ _) (fun _=>rfl)
  (fun pre W=>GrowF w.heap.size (w.heap.size+1+1) w (dsF kd pre) (lvF kd pre).length W/\∃ t,W.heap[w.heap.size+1]? = some (.cells #[.int .i64 kd] t (0,0)))
  (fun _ _ _=>False) ?hI (fun _ _ _ _ _ hs _ _=>hs) ⟨hG0,_,hk2⟩
  (fun x a' W=>∃ B4 v0 v1 v2,x.1.2 = .agg #[v0,v1,v2]/\a' = { tmps:=#[.agg #[.int .i64 k,.int .i64 a,sv],.int .i64 kd,.pointer (some ⟨w.heap.size,0,none⟩),.pointer (some ⟨w.heap.size+1,0,none⟩),.slice none 0 0,.pointer (some ⟨w.heap.size+1+1,0,none⟩),.pointer (some ⟨B4,0,none⟩),.agg #[.int .i64 k,.int .i64 a,sv],.func (.func 70) #[] #[.pointer (some ⟨w.heap.size+1+1+1,0,none⟩)],x.1.2,undef,undef,undef,undef,undef,undef,undef,undef,undef,undef,undef],defers:=[] }/\W.heap[B4]? = some (.cells #[v0,v1,v2] 29 (0,0)) /\
   w.heap.size+3<=B4/\∃ bv t,W.heap[w.heap.size+1+1]? = some (.cells #[bv] t (0,0))/\bv.ownBlock≠some B4)
  ?hAx ?assign ?body ?done ?stop
 case hI=>exact fun pre A B row h hg hr=>⟨h.1.grown (Nat.le_refl _) hg (fun r e=>by obtain ⟨h1,h2⟩:=hr r e; exact ⟨by omega,h2⟩),h.2.imp fun t h2=>qc hg (fun r e=>(hr r e).2) h2⟩
 case hAx=>
  rintro x a' _ A B row ⟨B4,v0,v1,v2,e1,e3,e4,e5,bv,t,e6,e7⟩ hg hr
  exact ⟨B4,v0,v1,v2,e1,e3,qc hg (fun r e=>(hr r e).2) e4,e5,bv,t,qc hg (fun r e=>(hr r e).2) e6,e7⟩
 case assign=>
  rintro l pre ⟨⟨⟨k',a',ks'⟩,vx⟩,hx⟩ W K hI hK
  obtain ⟨sv',rfl,hsv'⟩:=zAz hx
  have h1c:=zIy hx
  have hst:=zAj (P:=Tryz.prog) W 29 #[.int .i64 k',.int .i64 a',.slice none 0 0] 2 (by simp) sv' h1c.2.2
  have hfin:∀ a2,a2=({ tmps:=#[.agg #[.int .i64 k,.int .i64 a,sv],.int .i64 kd,.pointer (some ⟨w.heap.size,0,none⟩),.pointer (some ⟨w.heap.size+1,0,none⟩),.slice none 0 0,.pointer (some ⟨w.heap.size+1+1,0,none⟩),.pointer (some ⟨W.heap.size,0,none⟩),.agg #[.int .i64 k,.int .i64 a,sv],.func (.func 70) #[] #[.pointer (some ⟨w.heap.size+1+1+1,0,none⟩)],.agg #[.int .i64 k',.int .i64 a',sv'],undef,undef,undef,undef,undef,undef,undef,undef,undef,undef,undef],defers:=[] }:Act)->K a2 (W.alloc (.cells #[.int .i64 k',.int .i64 a',sv'] 29)):=fun a2 e=>by
   have hg:=World.grownBy_alloc W (.cells #[.int .i64 k',.int .i64 a',sv'] 29) none
   have hI2:=hI
   obtain ⟨⟨bv,⟨t,hbv⟩,hrow,hbel⟩,tk,hkd⟩:=hI2
   have hszW:=hbel.size
   have hltk:=(Array.getElem?_eq_some_iff.1 hkd).1
   refine hK a2 _ ((KeepsOthers.alloc W _).from _) (fun hB=>Kept.grown hB hg) ⟨hI.1.grown (Nat.le_refl _) hg (fun r e=>by cases e),hI.2.imp fun t h2=>qc hg (fun r e=>by cases e) h2⟩
    ⟨W.heap.size,_,_,_,rfl,e,World.alloc_heap_new W _,?_,bv,t,qc hg (fun r e=>by cases e) hbv,fun e=>?_⟩
   · have:=(Array.getElem?_eq_some_iff.1 hbv).1
     omega
   · obtain ⟨_,_,_,arr,el,_,h2⟩:=hrow.own e
     have:=(Array.getElem?_eq_some_iff.1 h2).1
     omega
  gi_wp2_with (rw [hst])
  rfl
 case body=>
  rintro l pre x a' W hl hL ⟨⟨bv,⟨tb,hbv⟩,hrow,hbel⟩,tk,hkd⟩ ⟨B4,v0,v1,v2,e1,rfl,hB4,hB4n,bv',tb',hbv',hB4r⟩ hlen
  obtain ⟨⟨⟨k',a',ks'⟩,vx⟩,hx⟩:=x
  obtain ⟨sv',rfl,hsv'⟩:=zAz hx
  injection e1 with e1
  have e0:=congrArg Array.toList e1
  simp only [List.cons.injEq,and_true] at e0
  obtain ⟨rfl,rfl,rfl⟩:=e0
  have hne1:¬ w.heap.size+1+1=w.heap.size+1:=by omega
  have hne1':¬ w.heap.size+1=w.heap.size+1+1:=by omega
  have hne2:¬ w.heap.size+1+1=B4:=by omega
  have hne2':¬ B4=w.heap.size+1+1:=by omega
  have hne3:¬ w.heap.size+1=B4:=by omega
  have hne3':¬ B4=w.heap.size+1:=by omega
  have h1c:one (.int .i64 k')=true/\one (.int .i64 a')=true/\one sv' = true:=by
   obtain ⟨ks2,hks⟩:∃ ks2,RC ⟨wm,fun _=>none,Fr.no⟩ w (.lst (zk (qV ks')) ks2) [sv']:=⟨_,hsv'⟩
   refine ⟨rfl,rfl,?_⟩
   simp only [RC] at hks
   rcases hks with ⟨_,h,_⟩ | ⟨b,o,cap,ds,h,_⟩
   · injection h with h; subst h; rfl
   · injection h with h; subst h; rfl
  have hll:=zKz kd pre
  have hb1:(lvF kd pre).length+1<=1000000:=by omega
  obtain ⟨n,hn⟩:∃ n,n=(lvF kd pre).length:=⟨_,rfl⟩
  obtain ⟨ds,hds⟩:∃ ds,ds=dsF kd pre:=⟨_,rfl⟩
  rw [<- hn] at hb1
  rw [<- hn,<- hds] at hrow
  obtain ⟨n',ds',hnd,hnn,hdd'⟩:∃ n' ds',(k' = kd->n' = n+1/\ds' = ds++[.int .i64 k',.int .i64 a',sv'])/\(k'≠kd->n' = n)/\(k'≠kd->ds' = ds):=by
   by_cases h:k' = kd
   · exact ⟨_,_,fun _=>⟨rfl,rfl⟩,fun e=>absurd h e,fun e=>absurd h e⟩
   · exact ⟨_,_,fun e=>absurd e h,fun _=>rfl,fun _=>rfl⟩
  refine zJi (zOn (X:=⟨w.heap.size,⟨21,[]⟩,some l,[]⟩) (g:=⟨wmF bv (w.heap.size+1+1) (w.heap.size+1) B4 W,fun _=>none,frW W⟩) (Q:=fun ex e' s'=>ex = .normal/\BoxQ (w.heap.size+1+1) (w.heap.size+1) B4 kd k' a' sv' n' ds' s') (e:=[(3,.at (.pointer (some ⟨w.heap.size+1,0,none⟩))),(5,.at (.pointer (some ⟨w.heap.size+1+1,0,none⟩))),(6,.at (.pointer (some ⟨B4,0,none⟩)))]) ⟨rfl,fun p hp=>by simp at hp⟩ rfl (globF hgl hbel (by show w.heap.size<=_; omega) (by show w.heap.size<=_; omega) (by show w.heap.size<=_; omega) (fun b e=>(hrow.own e).1)) ?hP ?hE ?hA)
  case hE=>
   intro k1
   by_cases e3:k1=3
   · subst e3; exact zz rfl
   · by_cases e5:k1=5
     · subst e5; exact zz rfl
     · by_cases e6:k1=6
       · subst e6; exact zz rfl
       · have:Env.get [(3,.at (.pointer (some ⟨w.heap.size+1,0,none⟩))),(5,.at (.pointer (some ⟨w.heap.size+1+1,0,none⟩))),(6,.at (.pointer (some ⟨B4,0,none⟩)))] k1=V.any:=by
          simp only [Env.get,Ne.symm e3,Ne.symm e5,Ne.symm e6,if_false]
         rw [this]
         trivial
  case hP=>
   rintro ex a2 w2 g' e' s' h1 h2 ⟨rfl,h3⟩
   have hR:=zOo (K0:=w.heap.size+4) (by omega) hbv hrow hkd hB4 hbel h1 h2 h3
   have e1:dsF kd (pre++[⟨(.mk k' a' ks',.agg #[.int .i64 k',.int .i64 a',sv']),hx⟩])=ds':=by
    rw [zKw,<- hds]
    by_cases h:k' = kd
    · rw [(hnd h).2]; simp only [dsF,Nd.kind,h,if_true]; rfl
    · rw [hdd' h]; simp only [dsF,Nd.kind,h,if_false,List.append_nil]
   have e2:(lvF kd (pre++[⟨(.mk k' a' ks',.agg #[.int .i64 k',.int .i64 a',sv']),hx⟩])).length=n':=by
    rw [zK3,List.length_append,<- hn]
    by_cases h:k' = kd
    · rw [(hnd h).1]; simp only [lvF,Nd.kind,h,if_true]; rfl
    · rw [hnn h]; simp only [lvF,Nd.kind,h,if_false]; rfl
   rw [<- e1,<- e2] at hR
   refine ⟨?_,hR.2.1,hR.2.2⟩
   rw [hsz2]; exact hR.1
  case hA=>
   rcases hrow with ⟨rfl,rfl,rfl⟩ | hrow
   · refine ⟨⟨[(w.heap.size+1+1,[.lst .nil []],1),(w.heap.size+1,[.at (.int .i64 kd)],1),(B4,[.at (.int .i64 k'),.at (.int .i64 a'),.at sv'],3)],[],0,[]⟩,?_,?_⟩
     · generalize hst:(⟨[(w.heap.size+1+1,[.lst .nil []],1),(w.heap.size+1,[.at (.int .i64 kd)],1),(B4,[.at (.int .i64 k'),.at (.int .i64 a'),.at sv'],3)],[],0,[]⟩:S)=st
       have l1:Go.Al.look st.box (w.heap.size+1+1)=some ([.lst .nil []],1):=by rw [<- hst]; simp [Go.Al.look]
       have l2:Go.Al.look st.box (w.heap.size+1)=some ([.at (.int .i64 kd)],1):=by rw [<- hst]; simp [Go.Al.look]
       have l3:Go.Al.look st.box B4=some ([.at (.int .i64 k'),.at (.int .i64 a'),.at sv'],3):=by rw [<- hst]; simp [Go.Al.look,hne2,hne3]
       clear hst
       (repeat (first | (refine yd ?_) | (refine zv ?_; simp -failIfUnchanged only [zI,zN]) | (refine ye ?_; simp -failIfUnchanged only [yE,zx,yP,yC]) | (refine yK ?_; simp -failIfUnchanged only [zw,zq,zI,zN,reduceIte]) | (refine zy ?_) | ((first | (refine yc polF zBJ _ rfl rfl ?_) | (refine yL polF mixed zBJ _ rfl rfl (by kernel_rfl) (by kernel_rfl) ?_)); simp only [↓xO,↓zAJ,↓xT,↓qh,zI,zt,yF,yS,xG,yG,yD,qm,zFd,xZ,xL,xC,xS,implies_true,and_self,yh,yV,List.length_cons,List.length_nil,List.drop_zero,List.take_succ_cons,List.take_zero,List.take_nil,List.getD_cons_zero,Bool.true_and,Bool.and_self,if_true,if_false,true_and,Nat.reduceAdd,Nat.reduceEqDiff,Nat.reduceLeDiff,Bool.false_eq_true,Nat.zero_add,Nat.add_zero,Nat.le_refl,Nat.lt_add_one,zGP,zGQ,zEb,zKt,zBJ,qI,l2,l3])))
       refine jw rfl (fun hk=>?_) (fun hk=>?_)
       · obtain rfl:k' = kd:=eq_of_beq hk
         obtain ⟨rfl,rfl⟩:=hnd rfl
         refine zHg polF mixed zBJ (.tmp 19) (.tmp 5) _ rfl rfl (by kernel_rfl) (by kernel_rfl) (by decide) ⟨_,_,_,_,_,_,_,_,_,_,rfl,rfl⟩ ?_
         simp only [↓xO,↓kg,↓qh,↓zBA,↓zBf,↓zB3,↓zEL,zN,zt,jh,yF,yS,xG,xV,yG,yD,zPL,xZ,xL,kt,qe,qj,kR,zDc,zPY,zRP,zBn,spl,zA3,zFh,zHC,jE,zEg,zDU,zMK,zBe,Option.map_some,implies_true,false_implies,Nat.reduceLT,Nat.one_mul,zEV,zD4,zDS,List.map_cons,List.map_nil,List.nil_append,List.append_nil,and_self,beq_self_eq_true,yh,yV,zK,V.isOne,V.size,V.flat,jl,List.all_cons,List.all_nil,List.length_cons,List.length_nil,List.drop_zero,List.drop_succ_cons,List.take_succ_cons,List.take_nil,List.getD_cons_zero,Bool.true_and,Bool.and_self,Option.isSome_some,if_true,if_false,true_and,Nat.reduceAdd,Nat.reduceEqDiff,Nat.reduceLeDiff,reduceCtorEq,Bool.false_eq_true,Nat.zero_add,Nat.add_zero,Nat.le_refl,zW,zb,Nat.reduceBEq,zEc,zIz,zC9,elT27,zEa,zD6,zBx,zKv,zJW,zBJ,zLE,l1,l3]
         refine ⟨by simp,fun b cap hb hcap=>⟨⟨by omega,by omega⟩,by simp,?_⟩⟩
         have m1:¬ b=w.heap.size+1+1:=fun e=>by rw [e,l1] at hb; cases hb
         have m1':¬ w.heap.size+1+1=b:=fun e=>m1 e.symm
         have m2:¬ b=w.heap.size+1:=fun e=>by rw [e,l2] at hb; cases hb
         have m3:¬ b=B4:=fun e=>by rw [e,l3] at hb; cases hb
         have z0:((0:Nat):Int).toNat=0:=rfl
         simp only [qe,spl,List.nil_append,List.append_nil,and_self,zK,V.isOne,V.flat,List.all_cons,List.all_nil,List.length_cons,List.length_nil,List.drop_succ_cons,List.take_zero,Bool.true_and,Bool.and_self,if_false,true_and,Nat.zero_add,Nat.le_refl,Nat.zero_mul,zEc,zC9,m1,z0,Nat.zero_mul,List.drop_nil]
         refine ⟨⟨_,_,_,_,rfl,rfl,m1⟩,?_⟩
         refine ⟨by simp [zW,m2,hne1,l2],by simp [zW,m3,hne2,l3],.inr ⟨b,cap,Nat.zero_lt_one,by simp [zW],by simp [zW,m1'],hcap,m1,m2,m3,rfl,by simpa using h1c⟩⟩
       · have hk':k'≠kd:=beq_eq_false_iff_ne.1 hk
         refine zv ?_
         refine ⟨rfl,?_⟩
         rw [hnn hk',hdd' hk']
         exact ⟨l2,l3,.inl ⟨rfl,rfl,l1⟩⟩
     · exact zOI hbel.size (fun b h=>zKu h) (fun _=>rfl) (fun b h=>zLF h) (fun _=>rfl) (jt (zRR (by show w.heap.size<=_; omega) (zBB (.inl rfl)) hbv) (jt (zC4 (l:=[.int .i64 kd]) (by show w.heap.size<=_; omega) (zBB (.inr (.inl rfl))) hkd rfl rfl (by simp [one])) (jt (zC4 (l:=[.int .i64 k',.int .i64 a',sv']) (by show w.heap.size<=_; omega) (zBB (.inr (.inr (.inl rfl)))) hB4 rfl rfl (by simpa using h1c)) zHw)))
   · obtain ⟨r,cap,arr,el,rfl,hr0,hrbx,hrh,hncap,hrs,htk,hdl,hnp,hone⟩:=hrow
     have hrT:r≠w.heap.size+1:=fun e=>by
      subst e; rw [hkd] at hrh; injection hrh with hrh; injection hrh with e1; subst e1
      simp at hrs; omega
     have hrB:r≠B4:=fun e=>by
      rw [hbv] at hbv'; injection hbv' with hbv'; injection hbv' with e1
      have e2:bv' = .slice (some ⟨r,0,none⟩) n cap:=by simpa using e1.symm
      exact hB4r (by rw [e2,e]; rfl)
     have hrbx':¬ w.heap.size+1+1=r:=fun e=>hrbx e.symm
     have hrT':¬ w.heap.size+1=r:=fun e=>hrT e.symm
     have hrB':¬ B4=r:=fun e=>hrB e.symm
     refine ⟨⟨[(w.heap.size+1+1,[.at (.slice (some ⟨r,0,none⟩) n cap)],1),(w.heap.size+1,[.at (.int .i64 kd)],1),(B4,[.at (.int .i64 k'),.at (.int .i64 a'),.at sv'],3),(r,ds.map V.at,cap * 3)],[],0,[]⟩,?_,?_⟩
     · generalize hst:(⟨[(w.heap.size+1+1,[.at (.slice (some ⟨r,0,none⟩) n cap)],1),(w.heap.size+1,[.at (.int .i64 kd)],1),(B4,[.at (.int .i64 k'),.at (.int .i64 a'),.at sv'],3),(r,ds.map V.at,cap * 3)],[],0,[]⟩:S)=st
       have l1:Go.Al.look st.box (w.heap.size+1+1)=some ([.at (.slice (some ⟨r,0,none⟩) n cap)],1):=by rw [<- hst]; simp [Go.Al.look]
       have l2:Go.Al.look st.box (w.heap.size+1)=some ([.at (.int .i64 kd)],1):=by rw [<- hst]; simp [Go.Al.look]
       have l3:Go.Al.look st.box B4=some ([.at (.int .i64 k'),.at (.int .i64 a'),.at sv'],3):=by rw [<- hst]; simp [Go.Al.look,hne2,hne3]
       have l4:Go.Al.look st.box r=some (ds.map V.at,cap * 3):=by rw [<- hst]; simp [Go.Al.look,hrbx',hrT',hrB']
       clear hst
       (repeat (first | (refine yd ?_) | (refine zv ?_; simp -failIfUnchanged only [zI,zN]) | (refine ye ?_; simp -failIfUnchanged only [yE,zx,yP,yC]) | (refine yK ?_; simp -failIfUnchanged only [zw,zq,zI,zN,reduceIte]) | (refine zy ?_) | ((first | (refine yc polF zBJ _ rfl rfl ?_) | (refine yL polF mixed zBJ _ rfl rfl (by kernel_rfl) (by kernel_rfl) ?_)); simp only [↓xO,↓zAJ,↓xT,↓qh,zI,zt,yF,yS,xG,yG,yD,qm,zFd,xZ,xL,xC,xS,implies_true,and_self,yh,yV,List.length_cons,List.length_nil,List.drop_zero,List.take_succ_cons,List.take_zero,List.take_nil,List.getD_cons_zero,Bool.true_and,Bool.and_self,if_true,if_false,true_and,Nat.reduceAdd,Nat.reduceEqDiff,Nat.reduceLeDiff,Bool.false_eq_true,Nat.zero_add,Nat.add_zero,Nat.le_refl,Nat.lt_add_one,zGP,zGQ,zEb,zKt,zBJ,qI,l2,l3])))
       refine jw rfl (fun hk=>?_) (fun hk=>?_)
       · obtain rfl:k' = kd:=eq_of_beq hk
         obtain ⟨rfl,rfl⟩:=hnd rfl
         refine zHg polF mixed zBJ (.tmp 19) (.tmp 5) _ rfl rfl (by kernel_rfl) (by kernel_rfl) (by decide) ⟨_,_,_,_,_,_,_,_,_,_,rfl,rfl⟩ ?_
         simp only [↓xO,↓kg,↓qh,↓zBA,↓zBf,↓zB3,↓zEL,zN,zt,jh,yF,yS,xG,xV,yG,yD,zAw,xZ,xL,kt,qe,qj,kR,zDc,zBn,spl,zA3,zFh,zHC,jE,zEg,zDU,zMK,zBe,Option.map_some,implies_true,false_implies,Nat.reduceLT,Nat.one_mul,zEV,zD4,zDS,List.map_cons,List.map_nil,List.append_nil,and_self,beq_self_eq_true,yh,yV,zK,V.isOne,V.size,V.flat,jl,List.all_cons,List.all_nil,List.length_cons,List.length_nil,List.drop_zero,List.take_succ_cons,List.take_nil,List.getD_cons_zero,List.length_map,Bool.true_and,Bool.and_self,Option.isSome_some,if_true,if_false,true_and,Nat.reduceAdd,Nat.reduceEqDiff,Nat.reduceLeDiff,reduceCtorEq,Bool.false_eq_true,Nat.zero_add,Nat.add_zero,Nat.le_refl,zW,yj,zJB,zGY,zb,Nat.reduceBEq,zEc,zIz,zC9,elT27,zEa,zD6,zBx,zKv,zJW,zBJ,zLE,l1,l3,l4,hrbx]
         refine ⟨⟨by omega,by simp only [maxLen]; omega⟩,hncap,by omega,fun b cap2 hb hcap=>⟨⟨by omega,by omega⟩,by simp [hdl],?_⟩⟩
         have m1:¬ b=w.heap.size+1+1:=fun e=>by rw [e,if_neg hrbx,l1] at hb; cases hb
         have m1':¬ w.heap.size+1+1=b:=fun e=>m1 e.symm
         have m2:¬ b=w.heap.size+1:=fun e=>by rw [e,if_neg hrT,l2] at hb; cases hb
         have m3:¬ b=B4:=fun e=>by rw [e,if_neg hrB,l3] at hb; cases hb
         have hcell:=zM1 ds n hdl [V.at (.int .i64 0),V.at (.int .i64 0),V.lst Tag.nil []] [.int .i64 k',.int .i64 a',sv'] rfl
         simp only [qe,spl,List.nil_append,List.append_nil,and_self,zK,V.isOne,V.flat,List.all_cons,List.all_nil,List.length_cons,List.length_nil,List.drop_zero,List.drop_succ_cons,List.take_zero,Bool.true_and,Bool.and_self,if_false,true_and,Nat.zero_add,Nat.le_refl,zEc,zC9,m1,Int.toNat_natCast]
         simp only [List.map_cons,List.map_nil] at hcell
         rw [hcell]
         refine ⟨⟨_,_,_,_,rfl,rfl,m1⟩,?_⟩
         refine ⟨by simp [zW,yj,m2,hne1,hrT,l2],by simp [zW,yj,m3,hne2,hrB,l3],.inr ⟨b,cap2,Nat.succ_pos _,by simp [zW],by simp [zW,m1'],hcap,m1,m2,m3,by simp [hdl]; omega,fun d hd=>?_⟩⟩
         rcases List.mem_append.1 hd with hd | hd
         · exact hone d hd
         · simp only [List.mem_cons,List.not_mem_nil,or_false] at hd
           rcases hd with e | e | e
           · rw [e]; rfl
           · rw [e]; rfl
           · rw [e]; exact h1c.2.2
       · have hk':k'≠kd:=beq_eq_false_iff_ne.1 hk
         refine zv ?_
         refine ⟨rfl,?_⟩
         rw [hnn hk',hdd' hk']
         exact ⟨l2,l3,.inr ⟨r,cap,hnp,l1,l4,hncap,hrbx,hrT,hrB,hdl,hone⟩⟩
     · exact zOI hbel.size (fun b h=>zKu h) (fun _=>rfl) (fun b h=>zLF h) (fun _=>rfl) (jt (zC4 (l:=[.slice (some ⟨r,0,none⟩) n cap]) (by show w.heap.size<=_; omega) (zBB (.inl rfl)) hbv rfl rfl (by simp [one])) (jt (zC4 (l:=[.int .i64 kd]) (by show w.heap.size<=_; omega) (zBB (.inr (.inl rfl))) hkd rfl rfl (by simp [one])) (jt (zC4 (l:=[.int .i64 k',.int .i64 a',sv']) (by show w.heap.size<=_; omega) (zBB (.inr (.inr (.inl rfl)))) hB4 rfl rfl (by simpa using h1c)) (jt (zC4 (l:=ds) hr0 (zBB (.inr (.inr (.inr rfl)))) hrh hrs (by rw [hdl]; exact htk) hone) zHw))))
 case stop=>
  rintro D c pre W _ _ h _
  exact h.elim
 case done=>
  rintro D ys W hD hys ⟨⟨bv,⟨tb,hbv⟩,hrow,hbel⟩,tk,hkd⟩ hK
  have cb:W.cell? ⟨w.heap.size+1+1,0,none⟩=some bv:=by simp [World.cell?,hbv]
  gi_wp2
  refine ⟨by simp,.inl ⟨_,_,rfl,run_takeDeferred hK,?_⟩⟩
  have hgD:=grownBy_putObj' W D (.deferred none)
  have hlv:lvF kd ys=(allT (.mk k a ks)).filter (fun t=>t.kind == kd):=by rw [zNn]; exact congrArg _ hys
  have hrc:=zNf kd ys
  have hrow':Row (W.putObj D (.deferred none)) w.heap.size (w.heap.size+1+1) bv (lvF kd ys).length (dsF kd ys):=hrow.kept fun b e=>by
   obtain ⟨_,_,cap,arr,el,_,h2⟩:=hrow.own e
   exact (qc hgD (fun r e=>by injection e with e; subst e; exact ⟨_,hK,rfl⟩) h2).trans h2.symm
  refine ⟨_,results_tmp rfl _ _ _,bv,dsF kd ys,rfl,?_⟩
  rw [<- hlv]
  exact ⟨hrow',hrc,hbel.grown hgD hbel.size (fun k e=>by injection e with e; omega)⟩
end
section
open Go.Al Go.Den Go.RowKit Go.Shelf
theorem zPE {wm:Nat->Nat} {w W':World} (hwm:∀ b,w.heap.size<=b->wm b=0) (hbel:Below w.heap.size w W') {n bx:Nat} {v:Value} {ds:List Value} (hrow:Row W' w.heap.size bx v n ds)
 (es:List V) (hl:n=es.length) (hu:∀ x ∈ es,x.size=3) (hrc:RCs ⟨wm,fun _=>none,Fr.no⟩ w es ds) :
 ∃ wm',(∀ b,W'.heap.size<=b->wm' b=0)/\Step w.heap.size ⟨wm,fun _=>none,Fr.no⟩ w ⟨wm',fun _=>none,Fr.no⟩ W'/\RV ⟨wm',fun _=>none,Fr.no⟩ W' (.lst (zk es) es) v:=by
 subst hl
 obtain ⟨q1,q2⟩:=jF hwm hbel
 rcases hrow with ⟨h0,rfl,rfl⟩ | ⟨g,cap,cur,el,rfl,hg,_,hgb,hn,hcs,htk,hdl,hnp,_⟩
 · have:=List.length_eq_zero_iff.1 h0
   subst this
   refine ⟨wm,q1,q2,?_⟩
   exact xe (by unfold RC; exact .inl ⟨rfl,rfl,trivial⟩)
 · cases es with
   | nil=>simp at hnp
   | cons x r=>
    have hgl:=(Array.getElem?_eq_some_iff.1 hgb).1
    have hL:Later ⟨wm,fun _=>none,Fr.no⟩ w ⟨fun b=>if b=g then ds.length else wm b,fun _=>none,Fr.no⟩ W':=by
     refine ⟨fun b=>?_,fun _ _ h=>h,q2.later.cell⟩
     show wm b<=if b=g then ds.length else wm b
     split
     · rename_i h; rw [h,hwm g hg]; exact Nat.zero_le _
     · exact Nat.le_refl _
    refine ⟨fun b=>if b=g then ds.length else wm b,fun b hb=>?_,⟨hL,q2.below,fun b h=>(by simp [Fr.no] at h),fun b hb=>?_,rfl⟩,xe ?_⟩
    · show (if b=g then ds.length else wm b)=0
      rw [if_neg (by omega)]
      exact q1 b hb
    · show (if b=g then ds.length else wm b)=wm b
      rw [if_neg (by omega)]
    · simp only [RC]
      refine .inr ⟨g,0,cap,ds,rfl,hn,by simp [zk,zDT],zp hL _ _ hrc,⟨3,hu,by intro t nb s h; simp [zk] at h⟩,fun k u hk=>⟨?_,?_⟩⟩
      · have hk1:k < ds.length:=(List.getElem?_eq_some_iff.1 hk).1
        rw [<- htk,List.getElem?_take] at hk
        split at hk
        · simp only [World.cell?,hgb,Nat.zero_add]
          rw [Array.getElem?_toList] at hk
          simpa using hk
        · cases hk
      · have hk1:k < ds.length:=(List.getElem?_eq_some_iff.1 hk).1
        show 0+k < if g=g then ds.length else wm g
        rw [if_pos rfl]; omega
theorem zLl (t:Nd):(z6 t).size=3:=by
 obtain ⟨k,a,ks⟩:=t
 rw [kT]; rfl
def fdT (t:Nd) (kd:Int):List Nd:=(allT t).filter fun t=>t.kind == kd
theorem pure32 (t:Nd) (kd:Int) (hN:(allT t).length<=1000000):xz Tryz.prog 32 [z6 t,.at (.int .i64 kd)] (.lst (zk ((fdT t kd).map z6)) ((fdT t kd).map z6)):=by
 intro wm w us hwm hgl hu
 cases hu with
 | cons hu1 hu2=>
  cases hu2 with
  | cons hu3 hu4=>
   cases hu4
   have e:=zm (RV.of_RV1 hu3)
   subst e
   refine callsIn_wide.1 ((zQT 3 (Nat.le_refl _) wm w hwm hgl t _ kd (RV.of_RV1 hu1) hN).mono ?_)
   rintro e w' ⟨v',ds,rfl,hrow,hrc,hbel⟩
   obtain ⟨wm',h1,h2,h3⟩:=zPE hwm hbel hrow ((fdT t kd).map z6) (by simp [fdT]) (fun x hx=>by obtain ⟨y,_,rfl⟩:=List.mem_map.1 hx; exact zLl y) hrc
   exact ⟨_,wm',rfl,h1,h2,h3⟩
def c32 (x:Nd×Int×Unit):Option (List Nd×Unit):=if (allT x.1).length<=1000000 then some (fdT x.1 x.2.1,()) else none
theorem ok32' (t:Nd) (kd:Int) (u:Unit) (y:List Nd×Unit) (hx:c32 (t,kd,u)=some y) (vs:List V) (hvs:zBg CC as32 ((t,kd,u):zR as32) vs):xz Tryz.prog 32 vs (finV ((xI CC rs32 (fun _=>false) 0 (y:zR rs32)).map (trT CC ⟨id,id,id,id⟩))):=by
 obtain ⟨v,vs',rfl,hv,v2,vs2,rfl,hv2,hvs⟩:=hvs
 replace hvs:vs2=[]:=hvs
 subst hvs
 replace hv:v=trT CC ⟨id,id,id,id⟩ (argT CC (.st TI.node) false t):=hv
 rw [zO4] at hv
 subst hv
 replace hv2:v2 = .at (.int .i64 kd):=hv2
 subst hv2
 unfold c32 at hx
 split at hx
 · rename_i h
   injection hx with hx
   subst hx
   exact pure32 t kd h
 · cases hx
theorem ok32:ConOk CC Tryz.prog 32 ⟨as32,rs32,c32⟩:=fun x y hx vs hvs=>ok32' x.1 x.2.1 x.2.2 y hx vs hvs
end
section
open Go.Al Go.Den Go.RowKit Go.Shelf
attribute [local go_sem] Oper.semAt_some
theorem zQt:(Tryz.prog.info? 108).map (fun i=>(i.zero,i.size,i.bytes))=some (some (.agg #[.int .u8 0,.int .i64 0]),2,16):=by kernel_rfl
def chCs (l:List CharT):List Value:=l.flatMap chC
theorem zOU (l:List CharT) (x:CharT):chCs (l++[x])=chCs l++chC x:=by simp [chCs]
theorem zJe (w:World) (u v:Value) (t:TypeId) (m:Nat×Nat):∀ j x,[u,v][j]? = some x->(w.alloc (.cells #[u,v] t m)).cell? ((⟨w.heap.size,0,none⟩:Addr).add j)=some x:=by
 intro j x hx
 have hn:=World.alloc_heap_new w (.cells #[u,v] t m)
 match j,hx with
 | 0,hx=>
  have:u=x:=by simpa using hx
  subst this
  show (w.alloc (.cells #[u,v] t m)).cell? ⟨w.heap.size,0,none⟩=some u
  unfold World.cell?
  simp only [hn]; rfl
 | 1,hx=>
  have:v=x:=by simpa using hx
  subst this
  show (w.alloc (.cells #[u,v] t m)).cell? ⟨w.heap.size,1,none⟩=some v
  unfold World.cell?
  simp only [hn]; rfl
 | j+2,hx=>simp at hx
set_option maxRecDepth 100000 in
set_option maxHeartbeats 1000000 in
theorem zQW (m:Nat) (hm:3<=m) (s:Str) (hlen:s.length < 1100000) (w:World) :
 CallsIn Fence.wide m Tryz.prog 62 #[.string ⟨s.toArray⟩] w fun e W'=>∃ v',e = .returned v'/\W'.ownsRow w.heap.size 108 2 v' (chG s 0).length (chCs (chG s 0))/\((chG s 0).length=0->v' = .slice none 0 0)/\Below w.heap.size w W':=by
 have hF:∀ f,Fence.wide.fn f:=fun _=>trivial
 have hdd:∀ k:Nat,(Fence.wide.depth.isSome=true->1<=k):=fun k h=>by cases h
 refine callsIn_of_wp_marks Tryz.func62 rfl (hF _) ?_ rfl
 simp only [Tryz.ntmps62,List.size_toArray,List.length_cons,List.length_nil,Nat.reduceAdd,Nat.reduceSub,Array.replicate_succ,Array.replicate_zero,List.push_toArray,List.append_toArray,List.nil_append,List.cons_append]
 gi_wp2_with ((try refine ⟨hdd _,?_⟩); gi_at_call 87; refine (zOd _ _ _).mono ?_; rintro e w' ⟨rfl,rfl⟩)
 obtain ⟨W2,hW2⟩:∃ W2,(w.alloc (.cells #[.slice none 0 0] 99)).alloc (.cells #[.string ⟨s.toArray⟩] 9)=W2:=⟨_,rfl⟩
 have hsz2:W2.heap.size=w.heap.size+2:=by rw [<- hW2]; simp
 have hb2:Below w.heap.size w W2:=by rw [<- hW2]; exact ((Below.refl _ w).alloc (Nat.le_refl _) _).alloc (by simp) _
 have hbx2:W2.heap[w.heap.size]? = some (.cells #[.slice none 0 0] 99 (0,0)):=by
  rw [<- hW2,Below.heap_alloc _ _ _ (by simp)]
  exact World.alloc_heap_new w _
 have hbt2:W2.heap[w.heap.size+1]? = some (.cells #[.string ⟨s.toArray⟩] 9 (0,0)):=by
  rw [<- hW2]
  have:=World.alloc_heap_new (w.alloc (.cells #[.slice none 0 0] 99)) (.cells #[.string ⟨s.toArray⟩] 9 (0,0))
  simpa using this
 have hG0:Grow w.heap.size w.heap.size 99 108 2 w [] 0 W2:=⟨_,hbx2,World.ownsRow_nil W2 _ _ _,fun _=>rfl,hb2⟩
 have hB2:=hG0.box (Nat.le_refl _)
 have hx2:¬ exb w.heap.size W2 (w.heap.size+1):=fun h=>by
  rcases h with h | ⟨o,l,c,h⟩
  · omega
  · simp [World.cell?,hbx2] at h
 rw [hW2]
 refine wpIn_rangeFunc_ownH rfl (by omega) (gf:=118) (lb:=#[.pointer (some ⟨w.heap.size+1,0,none⟩)]) (by simp [Act.eval]) (hF 118) (enters_of Tryz.func118 (by kernel_rfl) rfl)
  (zKd (m - 1) w.heap.size w.heap.size (w.heap.size+1) s hlen W2 hB2 hx2 hbt2) zIk (fun W l o o' hl h1 h2 _=>zI4 W l o o' (by omega) h1 h2) (Below.refl _ _) (fun _=>rfl)
  (fun pre W=>Grow w.heap.size w.heap.size 99 108 2 w (chCs pre) pre.length W)
  (fun _ _ _=>False) ?hI (fun _ _ _ _ _ hs _ _=>hs) hG0
  (fun x a' W=>∃ B4,a' = { tmps:=#[.string ⟨s.toArray⟩,undef,.slice none 0 0,.pointer (some ⟨w.heap.size,0,none⟩),.pointer (some ⟨B4,0,none⟩),.string ⟨s.toArray⟩,.func (.func 118) #[] #[.pointer (some ⟨w.heap.size+1,0,none⟩)],chV x,undef,undef,undef,undef,undef],defers:=[] }/\W.heap[B4]? = some (.cells #[.int .u8 x.b,.int .i64 x.fat] 108 (0,0)))
  ?hAx ?assign ?body ?done ?stop
 case hI=>exact fun pre A B row h hg hr=>h.own (Nat.le_refl _) hg (fun r e=>by obtain ⟨h1,h2⟩:=hr r e; exact ⟨by omega,h2⟩)
 case hAx=>
  rintro x a' _ A B row ⟨B4,e3,e4⟩ hg hr
  refine ⟨B4,e3,(hg.block B4 (Array.getElem?_eq_some_iff.1 e4).1 fun e=>?_).trans e4⟩
  obtain ⟨_,o,ho,hc⟩:=hr B4 e.symm
  rw [e4] at ho; injection ho with ho; subst ho; cases hc
 case assign=>
  rintro l pre ⟨xb,xa⟩ W K hI hK
  have hfin:∀ a2,a2=({ tmps:=#[.string ⟨s.toArray⟩,undef,.slice none 0 0,.pointer (some ⟨w.heap.size,0,none⟩),.pointer (some ⟨W.heap.size,0,none⟩),.string ⟨s.toArray⟩,.func (.func 118) #[] #[.pointer (some ⟨w.heap.size+1,0,none⟩)],chV ⟨xb,xa⟩,undef,undef,undef,undef,undef],defers:=[] }:Act)->K a2 (W.alloc (.cells #[.int .u8 xb,.int .i64 xa] 108)):=fun a2 e=>hK a2 _ ((KeepsOthers.alloc W _).from _) (fun hB=>Kept.grown hB (World.grownBy_alloc W _ none))
   (hI.own (Nat.le_refl _) (World.grownBy_alloc W _ none) (fun r e=>by cases e)) ⟨W.heap.size,e,World.alloc_heap_new W _⟩
  unfold chV at *
  gi_wp2
  rfl
 case body=>
  rintro l pre ⟨xb,xa⟩ a' W hl hL ⟨bv,hbv,hrow,hz,hbel⟩ ⟨B4,rfl,hB4⟩ hlen2
  replace hB4:W.heap[B4]? = some (.cells #[.int .u8 xb,.int .i64 xa] 108 (0,0)):=hB4
  have c0:W.cell? ⟨B4,0,none⟩=some (.int .u8 xb):=by simp [World.cell?,hB4]
  have c1:W.cell? ⟨B4,1,none⟩=some (.int .i64 xa):=by simp [World.cell?,hB4]
  have cb:W.cell? ⟨w.heap.size,0,none⟩=some bv:=by simp [World.cell?,hbv]
  obtain ⟨i0,hi,hz0,hz1,hz2⟩:=info_parts zQt
  have hb1:pre.length+1<=1100000:=by omega
  have hsz:w.heap.size<=W.heap.size:=hbel.size
  have hlt:w.heap.size < W.heap.size:=(Array.getElem?_eq_some_iff.1 hbv).1
  have hnb:some w.heap.size≠bv.ownBlock:=by
   rcases zJJ hrow hbv (fun cur e=>by cases e) with e | e
   · rw [e]; simp
   · exact fun e'=>e e'.symm
  gi_wp2_with (
   gi_at_builtin
   refine zEJ _ rfl _ _ 99 rfl w.heap.size 108 i0 (.agg #[.int .u8 0,.int .i64 0]) 2 16 Tryz.underlying99 hi hz0 hz1 hz2 rfl (by decide) _ _ _ rfl (hrow.alloc _) ⟨W.heap.size,0,none⟩ 1 1 [.int .u8 xb,.int .i64 xa] rfl rfl (zJe _ _ _ _ _) (by simp [Value.oneCell']) (Nat.le_trans hb1 (by decide)) (Nat.le_trans (Nat.mul_le_mul_right 16 hb1) (by decide)) (by simp; omega) ?_
   intro v' w3 hown' hg3 hnil3 hat
   have hv3:w3.heap[w.heap.size]? = some (.cells #[bv] 99 (0,0)):=(hg3.block _ (by simp; omega) hnb).trans ((Below.heap_alloc _ _ _ hlt).trans hbv)
   obtain ⟨hc3,hf3⟩:w3.cell? ⟨w.heap.size,0,none⟩=some bv/\w3.frozen? ⟨w.heap.size,0,none⟩=false:=by constructor <;> simp [World.cell?,World.frozen?,hv3]
   obtain ⟨g',cap',cur',rfl,hbase',hgb',hr1,hr2,hr3,hr4⟩:∃ g' cap' cur',v' = .slice (some ⟨g',0,none⟩) (pre.length+1) cap'/\w.heap.size<=g'/\w3.heap[g']? = some (.cells cur' 108 (0,0))/\pre.length+1<=cap'/\cap'<=maxLen/\cur'.size=cap' * 2/\cur'.toList.take ((pre.length+1) * 2)=chCs pre++[.int .u8 xb,.int .i64 xa]:=by
    rcases hown'.2 with ⟨_,h0⟩ | h'
    · exact absurd h0 (by omega)
    · exact h')
  have hg4:=grownBy_setCell' w3 w.heap.size (.slice (some ⟨g',0,none⟩) (pre.length+1) cap')
  have hg3':(W.alloc (.cells #[.int .u8 xb,.int .i64 xa] 108)).grownBy w3 bv.ownBlock:=hg3
  have hs3:W.heap.size+1<=w3.heap.size:=by have:=hg3'.size; simpa using this
  refine (?_:KeepsFrom _ _ _/\ja _ _ _ _/\Grow _ _ _ _ _ _ (chCs (pre++[_])) (pre++[_]).length _)
  rw [zOU,List.length_append,List.length_cons,List.length_nil]
  have hbel3:Below w.heap.size w w3:=(hbel.alloc hsz _).grown hg3' (by simp; omega) (fun k e=>zRm hrow e)
  refine Grow.round (Nat.le_refl _) hbv hrow (zJu _ hv3) (hown'.kept hg4 (zJJ hown' hv3 (fun cur e=>by cases e))) (fun e=>absurd e (by omega)) (hbel3.grown hg4 hbel3.size (fun k e=>by injection e with e; omega)) (by simp; omega) ?_ (fun b hb h1 h2=>?_)
  · rcases hat with e | e
    · exact .inl e
    · exact .inr ⟨_,e,by simp⟩
  · exact ((hg4.block b (by omega) (fun e=>h1 (by injection e))).trans (hg3'.block b (by simp; omega) (fun e=>h2 e.symm))).trans (Below.heap_alloc _ _ _ hb)
 case stop=>
  rintro D c pre W _ _ h _
  exact h.elim
 case done=>
  rintro D ys W hD hys ⟨bv,hbv,hrow,hz,hbel⟩ hK
  have cb:W.cell? ⟨w.heap.size,0,none⟩=some bv:=by simp [World.cell?,hbv]
  gi_wp2
  refine ⟨by simp,.inl ⟨_,_,rfl,run_takeDeferred hK,?_⟩⟩
  have hgD:=grownBy_putObj' W D (.deferred none)
  subst hys
  refine ⟨_,results_tmp rfl _ _ _,_,rfl,?_⟩
  refine ⟨hrow.kept hgD (zJJ hrow hK (fun cur e=>by cases e)),hz,hbel.grown hgD hbel.size (fun k e=>by injection e with e; omega)⟩
theorem zHi {g:Gh} {w:World}:∀ l:List CharT,RCs g w (l.map yz) (chCs l)
 | []=>by simp [RCs,chCs]
 | x::r=>by
  have ih:=zHi (g:=g) (w:=w) r
  simp only [List.map_cons,RCs]
  refine ⟨chC x,chCs r,by simp [chCs],?_,ih⟩
  show RC g w (.agg [.at (.int .u8 (CharT.b x)),.at (.int .i64 (CharT.fat x))]) _
  simp only [RC,RCs,chC]
  exact ⟨[.int .u8 x.b],[.int .i64 x.fat],rfl,⟨rfl,rfl⟩,[.int .i64 x.fat],[],rfl,⟨rfl,rfl⟩,rfl⟩
theorem pure62 (s:Str) (hlen:s.length < 1100000):xz Tryz.prog 62 [.at (.string ⟨s.toArray⟩)] (.lst (zk ((chG s 0).map yz)) ((chG s 0).map yz)):=by
 intro wm w us hwm hgl hu
 cases hu with
 | cons hu1 hu2=>
  cases hu2
  have e:=zm hu1
  subst e
  refine callsIn_wide.1 ((zQW 3 (Nat.le_refl _) s hlen w).mono ?_)
  rintro e w' ⟨v',rfl,hrow,hz,hbel⟩
  obtain ⟨wm',h1,h2,h3⟩:=zPD hwm hbel hrow hz ((chG s 0).map yz) (by simp) (fun x hx=>by obtain ⟨y,_,rfl⟩:=List.mem_map.1 hx; exact zHG y) (zHi _)
  exact ⟨_,wm',rfl,h1,h2,h3⟩
def c62 (x:Str×Unit):Option (List CharT×Unit):=if x.1.length < 1100000 then some (chG x.1 0,()) else none
theorem ok62:ConOk CC Tryz.prog 62 ⟨as62,rs62,c62⟩:=fun x y hx vs hvs=>by
 obtain ⟨s,u⟩:=x
 obtain ⟨v,vs',rfl,hv,hvs⟩:=hvs
 replace hvs:vs' = []:=hvs
 subst hvs
 replace hv:v = .at (.string ⟨List.toArray s⟩):=hv
 subst hv
 by_cases h:List.length (show Str from s) < 1100000
 · have h2:c62 (s,u)=some (chG s 0,()):=if_pos h
   replace hx:c62 (s,u)=some y:=hx
   rw [h2] at hx
   injection hx with hx
   subst hx
   exact pure62 s h
 · have h2:c62 (s,u)=none:=if_neg h
   replace hx:c62 (s,u)=some y:=hx
   rw [h2] at hx
   cases hx
end
section
open Go.Al Go.Den Go.RowKit Go.Shelf
attribute [local go_sem] Oper.semAt_some
theorem zEE {g:Gh} {w:World}:∀ {l:List CharT} {us:List Value} (i:Nat) (h:i < l.length),RCs g w (l.map yz) us->us[2 * i]? = some (.int .u8 l[i].b)/\us[2 * i+1]? = some (.int .i64 l[i].fat)
 | x::r,us,0,_,h=>by
  simp only [List.map_cons,RCs] at h
  obtain ⟨u1,u2,rfl,h1,h2⟩:=h
  have h1':RC g w (.agg [.at (.int .u8 (CharT.b x)),.at (.int .i64 (CharT.fat x))]) u1:=h1
  simp only [RC,RCs] at h1'
  obtain ⟨v1,v2,rfl,⟨rfl,_⟩,v3,v4,rfl,⟨rfl,_⟩,rfl⟩:=h1'
  exact ⟨rfl,rfl⟩
 | x::r,us,i+1,hi,h=>by
  simp only [List.map_cons,RCs] at h
  obtain ⟨u1,u2,rfl,h1,h2⟩:=h
  have h3:=qG g w _ _ h1
  have h4:u1.length=2:=by rw [h3]; exact zHG x
  obtain ⟨k0,k1⟩:=zEE i (by simpa using hi) h2
  have ap:∀ j,(u1++u2)[2 * (i+1)+j]? = u2[2 * i+j]?:=fun j=>by
   rw [List.getElem?_append_right (by omega),h4]; congr 1; omega
  exact ⟨(ap 0).trans k0,(ap 1).trans k1⟩
theorem zOV {wm:Nat->Nat} {w:World} {l:List CharT} {sv:Value} (h:RC ⟨wm,fun _=>none,Fr.no⟩ w (.lst (zk (l.map yz)) (l.map yz)) [sv]) :
 ∃ ad cap,sv = .slice ad l.length cap/\∀ i (hi:i < l.length),∃ b o,ad=some ⟨b,o,none⟩/\(w.cell? ⟨b,o+2 * i,none⟩=some (.int .u8 l[i].b)/\o+2 * i < wm b)/\(w.cell? ⟨b,o+(2 * i+1),none⟩=some (.int .i64 l[i].fat)/\o+(2 * i+1) < wm b):=by
 have hl:(l.map yz).length=l.length:=by simp
 simp only [RC] at h
 rcases h with ⟨he,hu,_⟩ | ⟨b,o,cap,ds,hu,hc,_,hr,_,ha⟩
 · have h0:l=[]:=by simpa using he
   subst h0
   injection hu with hu
   exact ⟨none,0,hu,fun i hi=>absurd hi (by simp)⟩
 · injection hu with hu
   refine ⟨_,cap,by rw [hu,hl],fun i hi=>?_⟩
   obtain ⟨k1,k2⟩:=zEE i hi hr
   exact ⟨b,o,rfl,ha _ _ k1,ha _ _ k2⟩
theorem info5:(Tryz.prog.info? 5).map (fun i=>(i.zero,i.size,i.bytes))=some (some (.int .u8 0),1,1):=by kernel_rfl
theorem zFE (W:World) (b i:Nat) (v:Value):W.grownBy (W.setCell ⟨b,i,none⟩ v) (some b):=
 ⟨rfl,rfl,rfl,(KeepsWalks.setCell W _ v).size,fun k _ hk=>Below.heap_setCell _ _ _ k (fun e=>hk (by rw [e]))⟩
theorem zKY {W:World} {B i:Nat} {c:Array Value} {t:TypeId} (v':Value) (h:W.heap[B]? = some (.cells c t (0,0))):(W.setCell ⟨B,i,none⟩ v').heap[B]? = some (.cells (c.setIfInBounds i v') t (0,0)):=by
 obtain ⟨hlt,hk⟩:=Array.getElem?_eq_some_iff.1 h
 show (W.heap.modify B _)[B]? = _
 rw [Array.getElem?_eq_getElem (by rw [Array.size_modify]; exact hlt),Array.getElem_modify_self,hk]
 rfl
def TRow (n0 g:Nat) (w:World) (xs:List Int) (n k:Nat) (W:World):Prop:=
 Below n0 w W/\∃ cur,W.heap[g]? = some (.cells cur 5 (0,0))/\cur.size=n/\(∀ i,i < k->cur[i]? = some (.int .u8 (xs.getD i 0)))/\∀ i,i < n->∃ z,cur[i]? = some (.int .u8 z)
set_option maxRecDepth 100000 in
set_option maxHeartbeats 1000000 in
theorem zRd (m:Nat) (l:List CharT) (hlen:l.length < 1100000) (wm:Nat->Nat) (w:World) (hwm:∀ b,w.heap.size<=b->wm b=0) (ad:Option Addr) (cap:Nat)
 (hch:∀ i (hi:i < l.length),∃ b o,ad=some ⟨b,o,none⟩/\(w.cell? ⟨b,o+2 * i,none⟩=some (.int .u8 l[i].b)/\o+2 * i < wm b)/\(w.cell? ⟨b,o+(2 * i+1),none⟩=some (.int .i64 l[i].fat)/\o+(2 * i+1) < wm b)) :
 CallsIn Fence.wide m Tryz.prog 63 #[.slice ad l.length cap] w fun e W'=>e = .returned (.string (strOfNums (l.map CharT.b)))/\Below w.heap.size w W':=by
 have hF:∀ f,Fence.wide.fn f:=fun _=>trivial
 refine callsIn_of_wp Tryz.func63 rfl trivial ?_ rfl
 simp only [Tryz.ntmps63,List.size_toArray,List.length_cons,List.length_nil,Nat.reduceAdd,Nat.reduceSub,Array.replicate_succ,Array.replicate_zero,List.push_toArray,List.append_toArray,List.nil_append,List.cons_append]
 obtain ⟨i0,hi,hz0,hz1,hz2⟩:=info_parts info5
 obtain ⟨W1,hmk,hown,hg1⟩:=run_make_full (P:=Tryz.prog) w w.heap.size 125 5 i0 (.int .u8 0) 1 Tryz.underlying125 hi hz0 hz1 .i64 .i64 l.length (by rw [hz2]; omega) (by simp only [maxLen]; omega) (Nat.le_refl _)
 have h0:TRow w.heap.size w.heap.size w (l.map CharT.b) l.length 0 W1:=by
  refine ⟨(Below.refl _ w).grown hg1 (Nat.le_refl _) (fun k e=>by cases e),?_⟩
  rcases hown.2 with ⟨h,_⟩ | ⟨g,cap',cur,h,_,hgb,_,_,hcs,htk⟩
  · cases h
  · injection h with e1 _ e3
    injection e1 with e1
    injection e1 with e1
    subst e1 e3
    refine ⟨cur,hgb,by omega,fun i h=>by omega,fun i hi=>⟨0,?_⟩⟩
    have hh:(List.take (l.length * 1) cur.toList)[i]? = (madeCells (Value.int .u8 0).cells (l.length * 1)).toList[i]?:=by rw [htk]
    rw [List.getElem?_take,if_pos (by omega),Array.getElem?_toList,Array.getElem?_toList] at hh
    rw [hh]
    have hz:(Value.int IntKind.u8 0).cells = #[.int .u8 0]:=rfl
    rw [hz]
    simp [madeCells,hi,Nat.mod_one]
 have hgl:w.heap.size≠W1.heap.size:=by
  obtain ⟨_,cur,h,_⟩:=h0
  have:=(Array.getElem?_eq_some_iff.1 h).1
  omega
 gi_wp2_with (rw [hmk])
 gi_loopw [11] (fun u wr=>∃ k:Nat,k<=l.length/\u = .int .i64 (k:Int)/\TRow w.heap.size w.heap.size w (l.map CharT.b) l.length k wr)
  (fun u _=>match u with | .int _ z=>l.length - z.toNat | _=>0)
 case atStart=>exact ⟨0,Nat.zero_le _,rfl,h0⟩
 case round=>
  obtain ⟨k,hk,rfl,hbel,cur,hgb,hcs,hc1,hc2⟩:=hrel
  by_cases hlt:k < l.length
  · obtain ⟨b,o,rfl,⟨a0,b0⟩,⟨a1,b1⟩⟩:=hch k hlt
    have hbl:b < w.heap.size:=by
     rcases Nat.lt_or_ge b w.heap.size with h | h
     · exact h
     · rw [hwm b h] at b0; omega
    have f0:wr.cell? ⟨b,o+k * 2,none⟩=some (.int .u8 l[k].b):=by rw [Nat.mul_comm k 2]; exact (xU (hbel.block b hbl) _).trans a0
    have f1:wr.cell? ⟨b,o+k * 2+1,none⟩=some (.int .i64 l[k].fat):=by rw [Nat.mul_comm k 2]; exact (xU (hbel.block b hbl) _).trans a1
    have hgs:=(Array.getElem?_eq_some_iff.1 hgb).1
    obtain ⟨W3,hW3⟩:∃ W3,wr.alloc (.cells #[.int .u8 l[k].b,.int .i64 l[k].fat] 108)=W3:=⟨_,rfl⟩
    have hg3:W3.heap[w.heap.size]? = some (.cells cur 5 (0,0)):=by rw [<- hW3,Below.heap_alloc _ _ _ hgs]; exact hgb
    have hn3:W3.heap[wr.heap.size]? = some (.cells #[.int .u8 l[k].b,.int .i64 l[k].fat] 108 (0,0)):=by rw [<- hW3]; exact World.alloc_heap_new wr _
    have g0:W3.cell? ⟨wr.heap.size,0,none⟩=some (.int .u8 l[k].b):=by simp [World.cell?,hn3]
    obtain ⟨z,hz⟩:=hc2 k hlt
    have hck:W3.cell? ⟨w.heap.size,k,none⟩=some (.int .u8 z):=by simp [World.cell?,hg3,hz]
    have hfk:W3.frozen? ⟨w.heap.size,k,none⟩=false:=by simp [World.frozen?,hg3]
    gi_wp2_with (rw [hW3])
    refine ⟨⟨k+1,hlt,rfl,?_⟩,?_⟩
    · have hbel3:Below w.heap.size w W3:=by rw [<- hW3]; exact hbel.alloc hbel.size _
      refine ⟨hbel3.grown (zFE W3 w.heap.size k (.int .u8 l[k].b)) hbel3.size (fun j e=>by injection e with e; omega),cur.setIfInBounds k (.int .u8 l[k].b),zKY _ hg3,by simpa using hcs,fun i hi=>?_,fun i hi=>?_⟩
      · rw [Array.getElem?_setIfInBounds]
        by_cases e:k=i
        · subst e
          rw [if_pos rfl,if_pos (by omega)]
          simp [hlt]
        · rw [if_neg e]; exact hc1 i (by omega)
      · rw [Array.getElem?_setIfInBounds]
        by_cases e:k=i
        · subst e
          rw [if_pos rfl,if_pos (by omega)]
          exact ⟨_,rfl⟩
        · rw [if_neg e]; exact hc2 i hi
    · show l.length - Int.toNat ((k:Int)+1) < l.length - Int.toNat (k:Int)
      omega
  · obtain rfl:k=l.length:=by omega
    have hcv:=run_convert_bytes_arg (P:=Tryz.prog) wr 125 5 Tryz.underlying125 Tryz.underlying5 w.heap.size 0 l.length l.length (l.map CharT.b) (by simp) (fun i hi=>by
     have:=hc1 i hi
     simp [World.cell?,hgb,this]) 9 Tryz.underlying9
    gi_wp2_with (rw [hcv])
    go_ret
    exact ⟨rfl,hbel⟩
def c63 (x:List CharT×Unit):Option (Str×Unit):=if x.1.length < 1100000 then some (x.1.map (fun c=>UInt8.ofNat c.b.toNat),()) else none
theorem pure63 (l:List CharT) (hlen:l.length < 1100000):xz Tryz.prog 63 [.lst (zk (l.map yz)) (l.map yz)] (.at (.string ⟨(l.map (fun c=>UInt8.ofNat c.b.toNat)).toArray⟩)):=by
 intro wm w us hwm hgl hu
 obtain ⟨v,rfl⟩:∃ v,us=[v]:=by cases hu with | cons _ hv=>cases hv; exact ⟨_,rfl⟩
 cases hu with
 | cons h _=>
  obtain ⟨us,h1,h2⟩:=h
  have hle:=qG _ _ _ _ h1
  obtain ⟨sv,rfl⟩:=List.length_eq_one_iff.1 (show us.length=1 from hle)
  obtain ⟨ad,cap,rfl,hch⟩:=zOV h1
  have:v = .slice ad l.length cap:=h2
  subst this
  refine callsIn_wide.1 ((zRd 3 l hlen wm w hwm ad cap hch).mono ?_)
  rintro e w' ⟨rfl,hbel⟩
  obtain ⟨q1,q2⟩:=jF hwm hbel
  refine ⟨_,wm,rfl,q1,q2,?_⟩
  have e2:strOfNums (l.map CharT.b)=⟨(l.map (fun c=>UInt8.ofNat c.b.toNat)).toArray⟩:=by simp [strOfNums,List.map_map,Function.comp_def]
  rw [e2]
  exact zz rfl
theorem ok63:ConOk CC Tryz.prog 63 ⟨as63,rs63,c63⟩:=fun x y hx vs hvs=>by
 obtain ⟨s,u⟩:=x
 obtain ⟨v,vs',rfl,hv,hvs⟩:=hvs
 replace hvs:vs' = []:=hvs
 subst hvs
 change List CharT at s
 replace hv:v = .lst (zk (s.map yz)) (s.map yz):=hv
 subst hv
 by_cases h:s.length < 1100000
 · have h2:c63 (s,u)=some (s.map (fun c=>UInt8.ofNat c.b.toNat),()):=if_pos h
   replace hx:c63 (s,u)=some y:=hx
   rw [h2] at hx
   injection hx with hx
   subst hx
   exact pure63 s h
 · have h2:c63 (s,u)=none:=if_neg h
   replace hx:c63 (s,u)=some y:=hx
   rw [h2] at hx
   cases hx
end
section
open Go.Al Go.Den
noncomputable def c89:zA ([.str]:LK)->DD (zA ([.bool]:LK)):=mD (sh89 0)
theorem ok89:CPOk CC Tryz.prog syn 89 (cD ([.str]:LK) ([.bool]:LK) c89):=con89 0
noncomputable def c92 (fu:Nat):zA ([]:LK)->DD (zA ([.int .i64]:LK)):=mD (sh92 fu c88)
theorem ok92 (fu:Nat):CPOk CC Tryz.prog syn 92 (cD ([]:LK) ([.int .i64]:LK) (c92 fu)):=con92 fu c88 ok88
noncomputable def c93 (fu:Nat):zA ([]:LK)->DD (zA ([.int .i64]:LK)):=mD (sh93 fu c90 c88)
theorem ok93 (fu:Nat):CPOk CC Tryz.prog syn 93 (cD ([]:LK) ([.int .i64]:LK) (c93 fu)):=con93 fu c90 ok90 c88 ok88
noncomputable def c94 (fu:Nat):zA ([.int .u8]:LK)->DD (zA ([.int .i64]:LK)):=mD (sh94 fu c88)
theorem ok94 (fu:Nat):CPOk CC Tryz.prog syn 94 (cD ([.int .u8]:LK) ([.int .i64]:LK) (c94 fu)):=con94 fu c88 ok88
noncomputable def c95 (fu:Nat):zA ([]:LK)->DD (zA ([.int .i64]:LK)):=mD (sh95 fu c89)
theorem ok95 (fu:Nat):CPOk CC Tryz.prog syn 95 (cD ([]:LK) ([.int .i64]:LK) (c95 fu)):=con95 fu c89 ok89
noncomputable def c65 (fu:Nat):zA ([]:LK)->DD (zA ([.int .i64,.int .i64]:LK)):=mD (sh65 fu c89 (c92 fu) (c93 fu) (c94 fu) (c95 fu))
theorem ok65 (fu:Nat):CPOk CC Tryz.prog syn 65 (cD ([]:LK) ([.int .i64,.int .i64]:LK) (c65 fu)):=con65 fu c89 ok89 (c92 fu) (ok92 fu) (c93 fu) (ok93 fu) (c94 fu) (ok94 fu) (c95 fu) (ok95 fu)
noncomputable def c64 (fu:Nat):zA ([]:LK)->DD (zA ([.bool]:LK)):=mD (sh64 fu c90 c91 c88 c89)
theorem ok64 (fu:Nat):CPOk CC Tryz.prog syn 64 (cD ([]:LK) ([.bool]:LK) (c64 fu)):=con64 fu c90 ok90 c91 ok91 c88 ok88 c89 ok89
noncomputable def c39 (fu:Nat) (x:Int×Str×Unit):Option (List TokT×Unit):=sh39 fu c62 c63 (c64 fu) (c65 fu) (fun _=>false) x.1 x.2.1
theorem ok39 (fu:Nat):ConOk CC Tryz.prog 39 ⟨as39,rs39,c39 fu⟩:=con39 fu c62 ok62 c63 ok63 (c64 fu) (ok64 fu) (c65 fu) (ok65 fu)
noncomputable def c18 (fu:Nat) (x:Str×Unit):Option (List TokT×Unit):=sh18 fu (c39 fu) (fun _=>false) x.1
theorem ok18 (fu:Nat):ConOk CC Tryz.prog 18 ⟨as18,rs18,c18 fu⟩:=con18 fu (c39 fu) (ok39 fu)
def c69 (x:Int×Unit):Option (Str×Unit):=if -9223372036854775808<=x.1/\x.1<=9223372036854775807 then some (Lib.itoa x.1,()) else none
theorem ok69:ConOk CC Tryz.prog 69 ⟨as69,rs69,c69⟩:=fun x y hx vs hvs=>by
 obtain ⟨n,u⟩:=x
 obtain ⟨v,vs',rfl,hv,hvs⟩:=hvs
 replace hvs:vs' = []:=hvs
 subst hvs
 change Int at n
 replace hv:v = .at (.int .i64 n):=hv
 subst hv
 by_cases h:-9223372036854775808<=n/\n<=9223372036854775807
 · have h2:c69 (n,u)=some (Lib.itoa n,()):=if_pos h
   replace hx:c69 (n,u)=some y:=hx
   rw [h2] at hx
   injection hx with hx
   subst hx
   exact pure69 n h.1 h.2
 · have h2:c69 (n,u)=none:=if_neg h
   replace hx:c69 (n,u)=some y:=hx
   rw [h2] at hx
   cases hx
noncomputable def c50 (fu:Nat):Nat->Nd×Unit->Option (Str×Unit)
 | 0,_=>none
 | n+1,x=>sh50 fu (c50 fu n) c69 (fun _=>false) x.1
theorem ok50 (fu:Nat):∀ n,ConOk CC Tryz.prog 50 ⟨as50,rs50,c50 fu n⟩
 | 0=>fun x y hx=>by cases hx
 | n+1=>con50 fu (c50 fu n) (ok50 fu n) c69 ok69
noncomputable def c19 (fu:Nat):Nat->Nd×Nd×Unit->Option (Bool×Unit)
 | 0,_=>none
 | n+1,x=>sh19 fu (c19 fu n) (fun _=>false) x.1 x.2.1
theorem ok19 (fu:Nat):∀ n,ConOk CC Tryz.prog 19 ⟨as19,rs19,c19 fu n⟩
 | 0=>fun x y hx=>by cases hx
 | n+1=>con19 fu (c19 fu n) (ok19 fu n)
noncomputable def c21 (fu:Nat):Nat->Nd×Int×Unit->Option (Nd×Unit)
 | 0,_=>none
 | n+1,x=>sh21 fu (c21 fu n) (fun x=>some (Nd.mk x.1 0 x.2.1,())) (fun _=>false) x.1 x.2.1
theorem ok21 (fu:Nat):∀ n,ConOk CC Tryz.prog 21 ⟨as21,rs21,c21 fu n⟩
 | 0=>fun x y hx=>by cases hx
 | n+1=>con21 fu (c21 fu n) (ok21 fu n) (fun x=>some (Nd.mk x.1 0 x.2.1,())) ok41
noncomputable def c31 (fu n:Nat) (x:Str×Unit):Option (Str×Unit):=sh31 fu (c17 fu n) (c18 fu) (c50 fu n) (fun _=>false) x.1
theorem ok31 (fu n:Nat):ConOk CC Tryz.prog 31 ⟨as31,rs31,c31 fu n⟩:=con31 fu (c17 fu n) (ok17 fu n) (c18 fu) (ok18 fu) (c50 fu n) (ok50 fu n)
noncomputable def c14 (fu n:Nat) (_:Unit):Option (Bool×Unit):=sh14 fu c15 (c17 fu n) (c18 fu) (c31 fu n) c32 (fun _=>false)
theorem ok14 (fu n:Nat):ConOk CC Tryz.prog 14 ⟨as14,rs14,c14 fu n⟩:=con14 fu c15 ok15 (c17 fu n) (ok17 fu n) (c18 fu) (ok18 fu) (c31 fu n) (ok31 fu n) c32 ok32
theorem zLx:c14 100 100 ()=some (true,()):=by kernel_rfl
end
section
open Go.Al Go.Den
def TT {ρ:Type} (a:Option (Option ρ)) (Q:ρ->Prop):Prop:=∃ y,a=some (some y)/\Q y
section
variable {ρ α:Type} {Q:ρ->Prop} {t f:Option (Option ρ)} {a b:Int}
theorem xn {y:ρ} (h:Q y):TT (some (some y)) Q:=⟨y,rfl,h⟩
theorem xA {x:Option α} {v:α} {F:α->Option (Option ρ)} (h:x=some v) (h2:TT (F v) Q):TT (Option.bind x F) Q:=by subst h; exact h2
theorem zAG (h1:a=b->TT t Q) (h2:a≠b->TT f Q):TT (cond (ieq a b) t f) Q:=by
 rw [zGx]; by_cases h:a=b
 · rw [decide_eq_true h]; exact h1 h
 · rw [decide_eq_false h]; exact h2 h
theorem zN7 (h1:a≠b->TT t Q) (h2:a=b->TT f Q):TT (cond (ine a b) t f) Q:=by
 rw [zEi]; by_cases h:a=b
 · rw [decide_eq_true h]; exact h2 h
 · rw [decide_eq_false h]; exact h1 h
theorem zGU (h1:a<=b->TT t Q) (h2:b < a->TT f Q):TT (cond (ile a b) t f) Q:=by
 unfold ile; by_cases h:a<=b
 · rw [decide_eq_true h]; exact h1 h
 · rw [decide_eq_false h]; exact h2 (by omega)
theorem j9 (h1:a < b->TT t Q) (h2:b<=a->TT f Q):TT (cond (ilt a b) t f) Q:=by
 unfold ilt; by_cases h:a < b
 · rw [decide_eq_true h]; exact h1 h
 · rw [decide_eq_false h]; exact h2 (by omega)
theorem zQ1 (h1:b < a->TT t Q) (h2:a<=b->TT f Q):TT (cond (!(ile a b)) t f) Q:=by
 unfold ile; by_cases h:a<=b
 · rw [decide_eq_true h]; exact h2 h
 · rw [decide_eq_false h]; exact h1 (by omega)
theorem zKo {c:Bool} (h1:c=true->TT t Q) (h2:c=false->TT f Q):TT (cond c t f) Q:=by
 cases c
 · exact h2 rfl
 · exact h1 rfl
theorem zMl {c:Bool} (h1:c=false->TT t Q) (h2:c=true->TT f Q):TT (cond (!c) t f) Q:=by
 cases c
 · exact h1 rfl
 · exact h2 rfl
theorem zG5 {c:Bool} (h:c=true) (h1:TT t Q):TT (cond c t f) Q:=by rw [h]; exact h1
theorem zFB {σ:Type} {F:(σ->Option (Option ρ))->σ->Option (Option ρ)} (I:σ->Prop) (μ:σ->Nat)
 (step:∀ (rec:σ->Option (Option ρ)) s,I s->(∀ s',I s'->μ s' < μ s->TT (rec s') Q)->TT (F rec s) Q) (n:Nat) (s:σ) (hs:I s) (hn:μ s < n):TT (iter n F s) Q:=
 zCa (fun o=>TT o Q) I μ step n s hs hn
end
theorem zEU {a b:Int} {n:Nat} (h1:0<=a) (h2:a<=b) (h3:b<=n):inS a b n=true:=by unfold inS; simp [h1,h2,h3]
theorem zB1 {a:Int} {n:Nat} (h1:0<=a) (h2:a < n):inB a n=true:=by unfold inB; simp [h1,h2]
section
variable {s:Str} {i k:Int} {fu:Nat}
theorem zBR (h:xg s k≠0):k < (s.length:Int):=by
 unfold xg at h
 by_cases hh:k < (s.length:Int)
 · exact hh
 · rw [if_neg hh] at h; exact absurd rfl h
theorem e88 (h0:0<=i+k) (h1:i+k < 9223372036854775808) (h2:s.length < 9223372036854775808):c88 (k,()) s i=some (xg s (i+k),()):=if_pos ⟨h0,h1,h2⟩
theorem zG0 {a b:Int} (h0:0<=a) (h1:a<=b) (h2:b<=s.length):((cutL s a b).length:Int)=b - a:=by
 unfold cutL; rw [List.length_drop,List.length_take]; omega
noncomputable def r89:Str×Unit->DD (Bool×Unit):=c89
noncomputable def r92 (fu:Nat):Unit->DD (Int×Unit):=c92 fu
noncomputable def r93 (fu:Nat):Unit->DD (Int×Unit):=c93 fu
noncomputable def r94 (fu:Nat):Int×Unit->DD (Int×Unit):=c94 fu
noncomputable def r95 (fu:Nat):Unit->DD (Int×Unit):=c95 fu
noncomputable def r65 (fu:Nat):Unit->DD (Int×Int×Unit):=c65 fu
noncomputable def r64 (fu:Nat):Unit->DD (Bool×Unit):=c64 fu
theorem e89 (t:Str) (h0:0<=i) (h1:i<=s.length):∃ b,r89 (t,()) s i=some ((b,()),i)/\(b=true->i+t.length<=s.length/\(cutL s i s.length).take t.length=t):=by
 have hl:=zG0 (s:=s) h0 h1 (Int.le_refl _)
 show ∃ b,outD s (cond (inS i (lenI s) s.length) (cond (ile (lenI t) (lenI (cutL s i (lenI s)))) (cond (inS 0 (lenI t) (cutL s i (lenI s)).length) (some (some (((s,(i,())),()),((seq (cutL (cutL s i (lenI s)) 0 (lenI t)) t),())))) none) (some (some (((s,(i,())),()),(false,()))))) none)=some ((b,()),i)/\_
 rw [show lenI s=(s.length:Int) from rfl,show lenI t=(t.length:Int) from rfl,zEU h0 h1 (Int.le_refl _),cond_true]
 by_cases h:(t.length:Int)<=lenI (cutL s i (s.length:Int))
 · have h':(t.length:Int)<=((cutL s i (s.length:Int)).length:Int):=h
   rw [show ile (t.length:Int) (lenI (cutL s i (s.length:Int)))=true from decide_eq_true h,cond_true,zEU (by omega) (by omega) h',cond_true]
   refine ⟨_,if_pos rfl,fun e=>⟨by omega,?_⟩⟩
   rw [xd] at e
   have e2:=of_decide_eq_true e
   rw [zOe] at e2
   exact e2
 · rw [show ile (t.length:Int) (lenI (cutL s i (s.length:Int)))=false from decide_eq_false h,cond_false]
   exact ⟨false,if_pos rfl,fun e=>by cases e⟩
def zAA (z:Int):Prop:=z=95\/(97<=z/\z<=122)\/(65<=z/\z<=90)
def RdQ (s:Str) (i:Int) (P:Int->Prop) (y:(RdT×Unit)×(Int×Unit)):Prop:=y.1.1.1=s/\y.1.1.2.1=i/\P y.2.1
theorem zE1 {P:Int->Prop} {o:Option (Option ((RdT×Unit)×(Int×Unit)))} (h:TT o (RdQ s i P)):∃ n,outD s o=some ((n,()),i)/\P n:=by
 obtain ⟨⟨⟨⟨s',i',u⟩,u'⟩,⟨n,u2⟩⟩,rfl,h1,h2,h3⟩:=h
 replace h1:s' = s:=h1
 replace h2:i' = i:=h2
 subst h1 h2
 exact ⟨n,if_pos rfl,h3⟩
end
section
variable {s:Str} {i:Int} {fu:Nat} (hs:s.length<=1090000) (hfu:s.length+100 < fu) (h0:0<=i) (h1:i<=s.length)
include hs hfu h0 h1
theorem e92:∃ n,r92 fu () s i=some ((n,()),i)/\0<=n/\i+n<=s.length/\(0 < n->zAA (xg s i)):=by
 refine zE1 (o:=sh92 fu c88 ((s,(i,())),()) ()) (P:=fun n=>0<=n/\i+n<=s.length/\(0 < n->zAA (xg s i))) ?_
 unfold sh92
 refine zFB (fun st=>∃ k:Int,st=((k,()),((s,(i,())),()))/\0<=k/\i+k<=s.length/\(0 < k->zAA (xg s i))) (fun st=>((s.length:Int) - st.1.1).toNat) ?_ fu _ ⟨0,rfl,by omega,by omega,fun h=>by omega⟩ (by dsimp only; omega)
 rintro rec st ⟨k,rfl,hk0,hk1,hk2⟩ hrec
 dsimp only
 refine xA (e88 (by omega) (by omega) (by omega)) ?_
 dsimp only
 have go:xg s (i+k)≠0->(k=0->zAA (xg s (i+k)))->TT (rec ((iadd .i64 k 1,()),((s,(i,())),()))) (RdQ s i fun n=>0<=n/\i+n<=s.length/\(0 < n->zAA (xg s i))):=fun e e2=>by
  have h3:=zBR e
  have h4:iadd .i64 k 1=k+1:=xB _ _ (by omega) (by omega)
  rw [h4]
  refine hrec _ ⟨k+1,rfl,by omega,by omega,fun _=>?_⟩ (by dsimp only; omega)
  by_cases hk:k=0
  · have:=e2 hk
    rw [hk,Int.add_zero] at this
    exact this
  · exact hk2 (by omega)
 have stop:TT (some (some (((s,(i,())),()),(k,())))) (RdQ s i fun n=>0<=n/\i+n<=s.length/\(0 < n->zAA (xg s i))):=xn ⟨rfl,rfl,hk0,hk1,hk2⟩
 repeat' (first
  | exact stop
  | exact go (by omega) (fun _=>by unfold zAA; omega)
  | exact go (by omega) (fun _=>by omega)
  | (refine zAG (fun _=>?_) fun _=>?_)
  | (refine zGU (fun _=>?_) fun _=>?_)
  | (refine j9 (fun _=>?_) fun _=>?_)
  | (refine xA (e88 (by omega) (by omega) (by omega)) ?_; dsimp only))
theorem e93:∃ n,r93 fu () s i=some ((n,()),i)/\0<=n/\i+n<=s.length:=by
 refine zE1 (o:=sh93 fu c90 c88 ((s,(i,())),()) ()) (P:=fun n=>0<=n/\i+n<=s.length) ?_
 unfold sh93
 dsimp only
 have zero:TT (some (some (((s,(i,())),()),((0:Int),())))) (RdQ s i fun n=>0<=n/\i+n<=s.length):=xn ⟨rfl,rfl,by show (0:Int)<=0; omega,by show i+0<=s.length; omega⟩
 repeat' (first
  | exact zero
  | (refine zAG (fun _=>?_) fun _=>?_)
  | (refine zN7 (fun _=>?_) fun _=>?_)
  | (refine zGU (fun _=>?_) fun _=>?_)
  | (refine zQ1 (fun _=>?_) fun _=>?_)
  | (refine xA (e88 (by omega) (by omega) (by omega)) ?_; dsimp only))
 all_goals
  have hb0:xg s (i+0)≠0:=by omega
  have hb1:=zBR hb0
  refine zFB (fun st=>∃ k:Int,st=((k,()),((s,(i,())),()))/\0<=k/\i+k<=s.length) (fun st=>((s.length:Int) - st.1.1).toNat) ?_ fu _ ⟨1,rfl,by omega,by omega⟩ (by dsimp only; omega)
  rintro rec st ⟨k,rfl,hk0,hk1⟩ hrec
  dsimp only
  have e1:iadd .i64 k 1=k+1:=xB _ _ (by omega) (by omega)
  have e2:iadd .i64 k 2=k+2:=xB _ _ (by omega) (by omega)
  rw [e1,e2]
  refine xA (e88 (by omega) (by omega) (by omega)) ?_
  dsimp only
  refine xA (e88 (by omega) (by omega) (by omega)) ?_
  dsimp only
  refine xA (show c90 _=some (_,()) from rfl) ?_
  dsimp only
  have go1:xg s (i+k)≠0->TT (rec ((k+1,()),((s,(i,())),()))) (RdQ s i fun n=>0<=n/\i+n<=s.length):=fun e=>by
   have h3:=zBR e
   exact hrec _ ⟨k+1,rfl,by omega,by omega⟩ (by dsimp only; omega)
  have go2:xg s (i+(k+1))≠0->TT (rec ((k+2,()),((s,(i,())),()))) (RdQ s i fun n=>0<=n/\i+n<=s.length):=fun e=>by
   have h3:=zBR e
   exact hrec _ ⟨k+2,rfl,by omega,by omega⟩ (by dsimp only; omega)
  have stop:TT (some (some (((s,(i,())),()),(k,())))) (RdQ s i fun n=>0<=n/\i+n<=s.length):=xn ⟨rfl,rfl,hk0,hk1⟩
  repeat' (first
   | exact stop
   | exact go1 (by omega)
   | exact go2 (by omega)
   | (refine zAG (fun _=>?_) fun _=>?_)
   | (refine zGU (fun _=>?_) fun _=>?_)
   | (refine j9 (fun _=>?_) fun _=>?_))
theorem e94 (c:Int):∃ n,r94 fu (c,()) s i=some ((n,()),i)/\0<=n/\i+n<=s.length:=by
 refine zE1 (o:=sh94 fu c88 ((s,(i,())),()) (c,())) (P:=fun n=>0<=n/\i+n<=s.length) ?_
 unfold sh94
 have zero:TT (some (some (((s,(i,())),()),((0:Int),())))) (RdQ s i fun n=>0<=n/\i+n<=s.length):=xn ⟨rfl,rfl,by show (0:Int)<=0; omega,by show i+0<=s.length; omega⟩
 dsimp only
 refine zAG (fun _=>zero) fun hne=>?_
 replace hne:i≠(s.length:Int):=hne
 refine xA (e88 (by omega) (by omega) (by omega)) ?_
 dsimp only
 refine zN7 (fun _=>zero) fun _=>?_
 refine zFB (fun st=>∃ k:Int,st=((k,()),((s,(i,())),()))/\0<=k/\i+k<=s.length+2) (fun st=>((s.length:Int)+2 - st.1.1).toNat) ?_ fu _ ⟨1,rfl,by omega,by omega⟩ (by dsimp only; omega)
 rintro rec st ⟨k,rfl,hk0,hk1⟩ hrec
 dsimp only
 have e1:iadd .i64 k 1=k+1:=xB _ _ (by omega) (by omega)
 have e2:iadd .i64 (k+1) 1=k+1+1:=xB _ _ (by omega) (by omega)
 have e3:iadd .i64 i k=i+k:=xB _ _ (by omega) (by omega)
 have e4:iadd .i64 i (k+1)=i+(k+1):=xB _ _ (by omega) (by omega)
 rw [e1,e2,e3,e4]
 refine j9 (fun hlt=>?_) fun _=>zero
 replace hlt:i+k < (s.length:Int):=hlt
 refine xA (e88 (by omega) (by omega) (by omega)) ?_
 dsimp only
 have go1:TT (rec ((k+1,()),((s,(i,())),()))) (RdQ s i fun n=>0<=n/\i+n<=s.length):=hrec _ ⟨k+1,rfl,by omega,by omega⟩ (by dsimp only; omega)
 have go2:TT (rec ((k+1+1,()),((s,(i,())),()))) (RdQ s i fun n=>0<=n/\i+n<=s.length):=hrec _ ⟨k+1+1,rfl,by omega,by omega⟩ (by dsimp only; omega)
 have stop:TT (some (some (((s,(i,())),()),(k+1,())))) (RdQ s i fun n=>0<=n/\i+n<=s.length):=xn ⟨rfl,rfl,by show 0<=k+1; omega,by show i+(k+1)<=s.length; omega⟩
 repeat' (first
  | exact zero
  | exact stop
  | exact go1
  | exact go2
  | (refine zAG (fun _=>?_) fun _=>?_)
  | (refine j9 (fun _=>?_) fun _=>?_)
  | (refine xA (e88 (by omega) (by omega) (by omega)) ?_; dsimp only))
theorem e95:∃ n,r95 fu () s i=some ((n,()),i)/\0<=n/\i+n<=s.length:=by
 refine zE1 (o:=sh95 fu c89 ((s,(i,())),()) ()) (P:=fun n=>0<=n/\i+n<=s.length) ?_
 unfold sh95
 refine zFB (fun st=>∃ n k:Int,st=((n,(k,())),((s,(i,())),()))/\0<=k/\k<=48/\0<=n/\i+n<=s.length) (fun st=>(48 - st.1.2.1).toNat) ?_ fu _ ⟨0,0,rfl,by omega,by omega,by omega,by omega⟩ (by dsimp only; omega)
 rintro rec st ⟨n,k,rfl,hk0,hk1,hn0,hn1⟩ hrec
 dsimp only
 refine j9 (fun hlt=>?_) fun _=>xn ⟨rfl,rfl,hn0,hn1⟩
 refine zG5 (zB1 hk0 hlt) ?_
 have e1:iadd .i64 k 1=k+1:=xB _ _ (by omega) (by omega)
 rw [e1]
 generalize List.getD _ (Int.toNat k) []=w
 refine zGU (fun _=>?_) fun _=>?_
 · exact hrec _ ⟨n,k+1,rfl,by omega,by omega,hn0,hn1⟩ (by dsimp only; omega)
 · obtain ⟨b,h3,h4⟩:=e89 (s:=s) (i:=i) w h0 h1
   refine xA h3 ?_
   dsimp only
   refine zMl (fun _=>?_) fun hb=>?_
   · exact hrec _ ⟨n,k+1,rfl,by omega,by omega,hn0,hn1⟩ (by dsimp only; omega)
   · exact hrec _ ⟨(w.length:Int),k+1,rfl,by omega,by omega,by omega,(h4 hb).1⟩ (by dsimp only; omega)
theorem e65 (hi:i < s.length):∃ k n,r65 fu () s i=some ((k,(n,())),i)/\0 < n/\i+n<=s.length/\(k=1->zAA (xg s i)):=by
 obtain ⟨b0,f1,f2⟩:=e89 (s:=s) (i:=i) [10] h0 h1
 obtain ⟨n1,f3,f4,f5,f6⟩:=e92 hs hfu h0 h1
 obtain ⟨n2,f7,f8,f9⟩:=e93 hs hfu h0 h1
 obtain ⟨n3,f10,f11,f12⟩:=e94 hs hfu h0 h1 34
 obtain ⟨n4,f13,f14,f15⟩:=e94 hs hfu h0 h1 39
 obtain ⟨n5,f16,f17,f18⟩:=e95 hs hfu h0 h1
 suffices h:TT (sh65 fu c89 (c92 fu) (c93 fu) (c94 fu) (c95 fu) ((s,(i,())),()) ()) (fun y=>y.1.1.1=s/\y.1.1.2.1=i/\0 < y.2.2.1/\i+y.2.2.1<=s.length/\(y.2.1=1->zAA (xg s i))) by
  obtain ⟨⟨⟨⟨s',i',u⟩,u'⟩,⟨k,n,u2⟩⟩,g1,g2,g3,g4⟩:=h
  replace g2:s' = s:=g2
  replace g3:i' = i:=g3
  subst g2 g3
  refine ⟨k,n,?_,g4⟩
  show outD s' _=_
  rw [g1]
  exact if_pos rfl
 unfold sh65
 refine xA f1 ?_
 dsimp only
 refine zKo (fun e=>xn ⟨rfl,rfl,by show (0:Int) < 1; omega,by show i+1<=s.length; omega,fun e=>by cases e⟩) fun _=>?_
 refine xA f3 ?_
 dsimp only
 refine j9 (fun e=>xn ⟨rfl,rfl,e,f5,fun _=>f6 e⟩) fun _=>?_
 refine xA f7 ?_
 dsimp only
 refine j9 (fun e=>xn ⟨rfl,rfl,e,f9,fun e=>by cases e⟩) fun _=>?_
 refine xA f10 ?_
 dsimp only
 refine j9 (fun e=>xn ⟨rfl,rfl,e,f12,fun e=>by cases e⟩) fun _=>?_
 refine xA f13 ?_
 dsimp only
 refine j9 (fun e=>xn ⟨rfl,rfl,e,f15,fun e=>by cases e⟩) fun _=>?_
 refine xA f16 ?_
 dsimp only
 refine j9 (fun e=>xn ⟨rfl,rfl,e,f18,fun e=>by cases e⟩) fun _=>xn ⟨rfl,rfl,by show (0:Int) < 1; omega,by show i+1<=s.length; omega,fun e=>by cases e⟩
end
end
section
open Go.Al Go.Den
theorem zI5:∀ (s sub:List UInt8),0<=Lib.index s sub->Lib.index s sub+sub.length<=s.length
 | [],sub,h=>by
  unfold Lib.index at h ⊢
  cases sub with
  | nil=>simp
  | cons a l=>simp at h
 | b::l,sub,h=>by
  unfold Lib.index at h ⊢
  by_cases hp:sub.isPrefixOf (b::l)=true
  · rw [if_pos hp]
    have:=(List.isPrefixOf_iff_prefix.1 hp).length_le
    omega
  · rw [if_neg hp] at h ⊢
    by_cases h1:(Lib.index l sub == -1)=true
    · rw [if_pos h1] at h; omega
    · rw [if_neg h1] at h ⊢
      have h2:Lib.index l sub≠-1:=fun e=>h1 (by rw [e]; rfl)
      have h3:=Lib.index_ge l sub
      have h4:=zI5 l sub (by omega)
      simp only [List.length_cons]
      omega
theorem zEK:∀ (s:List UInt8) (c:UInt8),0<=Lib.indexByte s c->Lib.indexByte s c < s.length
 | [],c,h=>by unfold Lib.indexByte at h; omega
 | b::l,c,h=>by
  unfold Lib.indexByte at h ⊢
  by_cases hp:(b == c)=true
  · rw [if_pos hp]; simp only [List.length_cons]; omega
  · rw [if_neg hp] at h ⊢
    by_cases h1:(Lib.indexByte l c == -1)=true
    · rw [if_pos h1] at h; omega
    · rw [if_neg h1] at h ⊢
      have h2:Lib.indexByte l c≠-1:=fun e=>h1 (by rw [e]; rfl)
      have h3:=Lib.indexByte_ge l c
      have h4:=zEK l c (by omega)
      simp only [List.length_cons]
      omega
theorem zHE {s:List UInt8} {c:UInt8} (h:Lib.indexByte s c=0):s.head? = some c:=by
 cases s with
 | nil=>unfold Lib.indexByte at h; omega
 | cons b l=>
  unfold Lib.indexByte at h
  by_cases hp:(b == c)=true
  · have:=eq_of_beq hp; rw [this]; rfl
  · rw [if_neg hp] at h
    by_cases h1:(Lib.indexByte l c == -1)=true
    · rw [if_pos h1] at h; omega
    · rw [if_neg h1] at h
      have h2:Lib.indexByte l c≠-1:=fun e=>h1 (by rw [e]; rfl)
      have h3:=Lib.indexByte_ge l c
      omega
section
variable {s:Str} {i:Int} {fu:Nat} (hs:s.length<=1090000) (hfu:s.length+100 < fu) (h0:0<=i) (h1:i<=s.length)
include hs hfu h0 h1
theorem e64:∃ b j,r64 fu () s i=some ((b,()),j)/\i<=j/\j<=s.length/\(b=true->i < j):=by
 obtain ⟨b0,f1,f2⟩:=e89 (s:=s) (i:=i) [47,47] h0 h1
 obtain ⟨b1,f3,f4⟩:=e89 (s:=s) (i:=i) [47,42] h0 h1
 suffices h:TT (sh64 fu c90 c91 c88 c89 ((s,(i,())),()) ()) (fun y=>y.1.1.1=s/\i<=y.1.1.2.1/\y.1.1.2.1<=s.length/\(y.2.1=true->i < y.1.1.2.1)) by
  obtain ⟨⟨⟨⟨s',j,u⟩,u'⟩,⟨b,u2⟩⟩,g1,g2,g3⟩:=h
  replace g2:s' = s:=g2
  subst g2
  refine ⟨b,j,?_,g3⟩
  show outD s' _=_
  rw [g1]
  exact if_pos rfl
 unfold sh64
 dsimp only [zQ]
 have rest:TT (Option.bind (c89 ([47,47],()) s i) fun y0=>
  cond y0.1.1
   (cond (inS y0.2 (lenI s) (List.length s))
    (Option.bind (c90 ((cutL s y0.2 (lenI s)),(10,()))) fun y1=>
     cond (ilt y1.1 0)
      (some (Option.some (((s,((iadd .i64 y0.2 (isub .i64 (lenI s) y0.2)),())),()),(true,()))))
      (some (Option.some (((s,((iadd .i64 y0.2 y1.1),())),()),(true,())))))
    (none))
   (Option.bind (c89 ([47,42],()) s y0.2) fun y1=>
    cond (!y1.1.1)
     (some (Option.some (((s,(y1.2,())),()),(false,()))))
     (cond (inS (iadd .i64 y1.2 2) (lenI s) (List.length s))
      (Option.bind (c91 ((cutL s (iadd .i64 y1.2 2) (lenI s)),([42,47],()))) fun y2=>
       cond (ilt y2.1 0)
        (some (Option.some (((s,(y1.2,())),()),(false,()))))
        (some (Option.some (((s,((iadd .i64 y1.2 (iadd .i64 y2.1 4)),())),()),(true,())))))
      (none)))) (fun y:(RdT×Unit)×(Bool×Unit)=>y.1.1.1=s/\i<=y.1.1.2.1/\y.1.1.2.1<=s.length/\(y.2.1=true->i < y.1.1.2.1)):=by
  refine xA f1 ?_
  dsimp only
  refine zKo (fun hb=>?_) fun _=>?_
  · obtain ⟨k1,k2⟩:=f2 hb
    replace k1:i+2<=(s.length:Int):=k1
    refine zG5 (zEU h0 h1 (Int.le_refl _)) ?_
    have hl:=zG0 (s:=s) h0 h1 (Int.le_refl _)
    refine xA (show c90 _=some (_,()) from rfl) ?_
    dsimp only
    refine j9 (fun _=>?_) fun hv=>?_
    · have e1:isub .i64 (lenI s) i=(s.length:Int) - i:=zGu _ _ (by show _<=(s.length:Int) - i; omega) (by show (s.length:Int) - i<=_; omega)
      have e2:iadd .i64 i ((s.length:Int) - i)=s.length:=by rw [xB _ _ (by omega) (by omega)]; omega
      rw [e1,e2]
      exact xn ⟨rfl,h1,Int.le_refl _,fun _=>by show i < (s.length:Int); omega⟩
    · have hv2:=zEK _ _ hv
      have hv3:Lib.indexByte (cutL s i (lenI s)) (Int.toNat 10).toUInt8≠0:=fun e=>by
       have e3:=zHE e
       have e4:(cutL s i (s.length:Int)).head? = some 47:=by
        have:((cutL s i (s.length:Int)).take 2).head? = some 47:=by rw [show (2:Nat)=([47,47]:Str).length from rfl,k2]; rfl
        rw [List.head?_take] at this
        simpa using this
       rw [show lenI s=(s.length:Int) from rfl,e4] at e3
       revert e3
       decide
      generalize hg:Lib.indexByte (cutL s i (lenI s)) (Int.toNat 10).toUInt8=v at hv hv2 hv3 ⊢
      have hv4:v < (s.length:Int) - i:=by
       have:((cutL s i (lenI s)).length:Int)=(s.length:Int) - i:=hl
       omega
      rw [xB i v (by omega) (by omega)]
      exact xn ⟨rfl,by show i<=i+v; omega,by show i+v<=s.length; omega,fun _=>by show i < i+v; omega⟩
  · refine xA f3 ?_
    dsimp only
    refine zMl (fun _=>xn ⟨rfl,Int.le_refl _,h1,fun e=>by cases e⟩) fun hb=>?_
    obtain ⟨k1,k2⟩:=f4 hb
    replace k1:i+2<=(s.length:Int):=k1
    have e1:iadd .i64 i 2=i+2:=xB _ _ (by omega) (by omega)
    rw [e1]
    refine zG5 (zEU (by omega) k1 (Int.le_refl _)) ?_
    have hl:=zG0 (s:=s) (a:=i+2) (by omega) k1 (Int.le_refl _)
    refine xA (show c91 _=some (_,()) from if_pos (show (cutL s (i+2) (lenI s)).length < 4294967281 by have:((cutL s (i+2) (lenI s)).length:Int)=(s.length:Int) - (i+2):=hl; omega)) ?_
    dsimp only
    refine j9 (fun _=>xn ⟨rfl,Int.le_refl _,h1,fun e=>by cases e⟩) fun hv=>?_
    have hv2:=zI5 _ _ hv
    generalize Lib.index (cutL s (i+2) (lenI s)) [42,47]=v at hv hv2 ⊢
    have hv4:v+2<=(s.length:Int) - (i+2):=by
     have h5:((cutL s (i+2) (lenI s)).length:Int)=(s.length:Int) - (i+2):=hl
     have h6:v+((2:Nat):Int)<=((cutL s (i+2) (lenI s)).length:Int):=hv2
     omega
    have e2:iadd .i64 v 4=v+4:=xB _ _ (by omega) (by omega)
    rw [e2,xB i (v+4) (by omega) (by omega)]
    exact xn ⟨rfl,by show i<=i+(v+4); omega,by show i+(v+4)<=s.length; omega,fun _=>by show i < i+(v+4); omega⟩
 refine xA (e88 (by omega) (by omega) (by omega)) ?_
 dsimp only
 have one:xg s (i+0)≠0->TT (some (some (((s,(iadd .i64 i 1,())),()),(true,())))) (fun y:(RdT×Unit)×(Bool×Unit)=>y.1.1.1=s/\i<=y.1.1.2.1/\y.1.1.2.1<=s.length/\(y.2.1=true->i < y.1.1.2.1)):=fun e=>by
  have h3:=zBR e
  rw [xB i 1 (by omega) (by omega)]
  exact xn ⟨rfl,by show i<=i+1; omega,by show i+1<=s.length; omega,fun _=>by show i < i+1; omega⟩
 refine zAG (fun _=>one (by omega)) fun _=>?_
 refine zAG (fun _=>one (by omega)) fun _=>?_
 refine zAG (fun _=>one (by omega)) fun _=>?_
 refine zAG (fun _=>one (by omega)) fun _=>?_
 refine zAG (fun _=>one (by omega)) fun _=>?_
 exact rest
end
def TokG (t:TokT):Prop:=t.kind=1->∃ c r,t.text=c::r/\zAA (c.toNat:Int)
theorem zPA {s:Str} {i n:Int} (h0:0<=i) (hn:0 < n) (h1:i+n<=s.length):∃ c r,cutL s i (i+n)=c::r/\(c.toNat:Int)=xg s i:=by
 have hi:i.toNat < s.length:=by omega
 unfold cutL
 have h2:i.toNat < (s.take (i+n).toNat).length:=by rw [List.length_take]; omega
 rw [List.drop_eq_getElem_cons h2]
 refine ⟨_,_,rfl,?_⟩
 unfold xg
 rw [if_pos (by omega)]
 unfold zEQ
 rw [List.getElem_take,List.getD_eq_getElem?_getD,List.getElem?_eq_getElem hi]
 rfl
theorem zNd {fu:Nat} (z:Int) (x:Str) (hfu:x.length+200 < fu) (hx:x.length<=1090000):∃ l,c39 fu (z,(x,()))=some (l,())/\l.length<=x.length/\∀ t ∈ l,TokG t:=by
 have h62:c62 (x,())=some (chG x 0,()):=if_pos (show x.length < 1100000 by omega)
 have hcl:=zEw x 0
 have h63:c63 (chG x 0,())=some ((chG x 0).map (fun c=>UInt8.ofNat c.b.toNat),()):=if_pos (show (chG x 0).length < 1100000 by omega)
 show ∃ l,sh39 fu c62 c63 (r64 fu) (r65 fu) (fun _=>false) z x=some (l,())/\_
 unfold sh39
 rw [h62,Option.bind_some,h63,Option.bind_some]
 dsimp only
 generalize hcs:chG x 0=cs at hcl ⊢
 obtain ⟨s,hs⟩:∃ s,s=cs.map (fun c=>UInt8.ofNat c.b.toNat):=⟨_,rfl⟩
 have hsl:s.length=cs.length:=by rw [hs,List.length_map]
 rw [<- hs]
 refine zCa (P:=fun o=>∃ l:List TokT,o=some (l,())/\l.length<=x.length/\∀ t ∈ l,TokG t)
  (I:=fun st:(List TokT×Unit)×((Str×(Int×Unit))×Unit)=>∃ toks i,st=((toks,()),((s,(i,())),()))/\0<=i/\i<=(s.length:Int)/\(toks.length:Int)<=i/\∀ t ∈ toks,TokG t) (μ:=fun st=>((s.length:Int) - st.2.1.2.1).toNat) ?_ fu _ ⟨[],0,rfl,by omega,by omega,by simp,fun t ht=>by cases ht⟩ (by dsimp only; omega)
 rintro rec st ⟨toks,i,rfl,hi0,hi1,hl,hg⟩ hrec
 dsimp only
 refine zCa (P:=fun o=>∃ l:List TokT,o=some (l,())/\l.length<=x.length/\∀ t ∈ l,TokG t)
  (I:=fun st:(List TokT×Unit)×((Str×(Int×Unit))×((Int×(Str×(Int×(Int×(Int×(Bool×Unit))))))×Unit))=>∃ j w,st=((toks,()),((s,(j,())),(w,())))/\i<=j/\j<=(s.length:Int)) (μ:=fun st=>((s.length:Int) - st.2.1.2.1).toNat) ?_ fu _ ⟨i,_,rfl,Int.le_refl _,hi1⟩ (by dsimp only; omega)
 rintro rec2 st2 ⟨j,w,rfl,hj0,hj1⟩ hrec2
 dsimp only
 have done:∃ l,(some (toks,()):Option (List TokT×Unit))=some (l,())/\l.length<=x.length/\∀ t ∈ l,TokG t:=⟨toks,rfl,by omega,hg⟩
 have tok:∀ j':Int,i<=j'->j' < (s.length:Int)->∀ (u:(Int×Int×Unit)×Int->TokT),(∀ y,(u y).kind=y.1.1/\(u y).text=cutL s y.2 (iadd .i64 y.2 y.1.2.1))->∃ l,(Option.bind (r65 fu () s j') fun y3=>
  cond (inS y3.2 (iadd .i64 y3.2 y3.1.2.1) (List.length s))
   (cond (inB y3.2 (List.length cs))
    (cond (inB (isub .i64 (iadd .i64 y3.2 y3.1.2.1) 1) (List.length cs))
     (cond (okN 56 ((List.length toks)+(List.length [u y3])))
      (rec (((toks++[u y3]),()),((s,((iadd .i64 y3.2 y3.1.2.1),())),())))
      (none))
     (none))
    (none))
   (none))=some (l,())/\l.length<=x.length/\∀ t ∈ l,TokG t:=by
  intro j' a1 a2 u hu
  obtain ⟨k,n,f1,f2,f3,f4⟩:=e65 (s:=s) (i:=j') (fu:=fu) (by omega) (by omega) (by omega) (by omega) a2
  obtain ⟨u1,u2⟩:=hu ((k,(n,())),j')
  replace u2:(u ((k,(n,())),j')).text=cutL s j' (iadd .i64 j' n):=u2
  replace u1:(u ((k,(n,())),j')).kind=k:=u1
  rw [f1,Option.bind_some]
  dsimp only
  have e1:iadd .i64 j' n=j' + n:=xB _ _ (by omega) (by omega)
  have e2:isub .i64 (j' + n) 1=j' + n - 1:=zGu _ _ (by omega) (by omega)
  rw [e1] at u2
  rw [e1,e2,zEU (by omega) (by omega) f3,cond_true,zB1 (by omega) (by omega),cond_true,zB1 (by omega) (by omega),cond_true]
  rw [show okN 56 (toks.length+[u ((k,(n,())),j')].length)=true from kj (by simp only [List.length_cons,List.length_nil]; omega) (by simp only [List.length_cons,List.length_nil,maxLen]; omega),cond_true]
  refine hrec _ ⟨toks++[u ((k,(n,())),j')],j' + n,rfl,by omega,f3,by rw [List.length_append]; simp only [List.length_cons,List.length_nil]; omega,fun t ht=>?_⟩ (by dsimp only; omega)
  rcases List.mem_append.1 ht with ht | ht
  · exact hg t ht
  · rw [List.mem_singleton] at ht
    subst ht
    intro hk
    obtain ⟨c,r,q1,q2⟩:=zPA (s:=s) (i:=j') (n:=n) (by omega) f2 f3
    exact ⟨c,r,u2.trans q1,by rw [q2]; exact f4 (u1 ▸ hk)⟩
 by_cases hj:j < (s.length:Int)
 · rw [show ilt j (lenI s)=true from decide_eq_true hj,cond_true]
   obtain ⟨b,j',f1,f2,f3,f4⟩:=e64 (s:=s) (i:=j) (fu:=fu) (by omega) (by omega) (by omega) hj1
   rw [f1,Option.bind_some]
   cases b with
   | true=>
    have:=f4 rfl
    exact hrec2 _ ⟨j',_,rfl,by omega,f3⟩ (by dsimp only; omega)
   | false=>
    dsimp only
    rw [cond_false]
    by_cases hj':j' < (s.length:Int)
    · rw [show ile (lenI s) j' = false from decide_eq_false (by show ¬ (s.length:Int)<=j'; omega),cond_false]
      exact tok j' (by omega) hj' (fun y=>TokT.mk y.1.1 (cutL s y.2 (iadd .i64 y.2 y.1.2.1)) _ _ _ _) fun _=>⟨rfl,rfl⟩
    · rw [show ile (lenI s) j' = true from decide_eq_true (by show (s.length:Int)<=j'; omega),cond_true]
      exact done
 · rw [show ilt j (lenI s)=false from decide_eq_false hj,cond_false]
   rw [show ile (lenI s) j=true from decide_eq_true (by show (s.length:Int)<=j; omega),cond_true]
   exact done
theorem zM7 {fu:Nat} (x:Str) (hfu:x.length+200 < fu) (hx:x.length<=1090000):∃ l,c18 fu (x,())=some (l,())/\l.length<=x.length/\∀ t ∈ l,TokG t:=by
 obtain ⟨l,h1,h2,h3⟩:=zNd 0 x hfu hx
 show ∃ l,sh18 fu (c39 fu) (fun _=>false) x=some (l,())/\_
 unfold sh18
 rw [h1,Option.bind_some]
 dsimp only
 refine zCa (P:=fun o=>∃ l:List TokT,o=some (l,())/\l.length<=x.length/\∀ t ∈ l,TokG t)
  (I:=fun st:(List TokT×(Int×Unit))×Unit=>∃ toks k,st=((toks,(((k:Nat):Int),())),())/\k<=l.length/\toks.length<=k/\∀ t ∈ toks,TokG t) (μ:=fun st=>l.length - st.1.2.1.toNat) ?_ fu _ ⟨[],0,rfl,by omega,by simp,fun t ht=>by cases ht⟩ (by dsimp only; omega)
 rintro rec st ⟨toks,k,rfl,hk,hl,hg⟩ hrec
 dsimp only
 have e1:iadd .i64 (k:Int) 1=((k+1:Nat):Int):=by rw [xB _ _ (by omega) (by omega)]; omega
 by_cases hlt:k < l.length
 · rw [show ilt (k:Int) (lenI l)=true from decide_eq_true (by show (k:Int) < (l.length:Int); omega),cond_true,zB1 (by omega) (by omega),cond_true,cond_true,e1]
   have hget:List.getD l (Int.toNat (k:Int)) tokD=l[k]:=by rw [Int.toNat_natCast,List.getD_eq_getElem?_getD,List.getElem?_eq_getElem hlt]; rfl
   rw [hget]
   have eta:∀ t:TokT,TokT.mk t.kind t.text t.file t.ffrom t.fto t.blank=t:=fun t=>rfl
   simp only [eta]
   cases hn:ine l[k].kind 7
   · rw [cond_false]
     exact hrec _ ⟨toks,k+1,rfl,hlt,by omega,hg⟩ (by dsimp only; omega)
   · rw [cond_true]
     rw [show okN 56 (toks.length+[l[k]].length)=true from kj (by simp only [List.length_cons,List.length_nil]; omega) (by simp only [List.length_cons,List.length_nil,maxLen]; omega),cond_true]
     refine hrec _ ⟨toks++[l[k]],k+1,rfl,hlt,by rw [List.length_append]; simp only [List.length_cons,List.length_nil]; omega,fun t ht=>?_⟩ (by dsimp only; omega)
     rcases List.mem_append.1 ht with ht | ht
     · exact hg t ht
     · rw [List.mem_singleton] at ht
       subst ht
       exact h3 _ (List.getElem_mem _)
 · obtain rfl:k=l.length:=by omega
   rw [show ilt (l.length:Int) (lenI l)=false from decide_eq_false (by show ¬ (l.length:Int) < (l.length:Int); omega),cond_false]
   exact ⟨toks,rfl,by omega,hg⟩
end
section
open Go.Al Go.Den
def c14t (_:Unit):Option (Bool×Unit):=some (true,())
theorem ok14t:ConOk CC Tryz.prog 14 ⟨as14,rs14,c14t⟩:=by
 refine (ok14 100 100).sub ?_
 rintro u y hy
 injection hy with hy
 subst hy
 exact zLx
end
section
open Go.Al Go.Den
mutual
theorem zKB:∀ x:Nd,shN 0 x=x
 | .mk k p l=>by
  show Nd.mk k (if k=0 then p+0 else p) (shL 0 l)=_
  rw [zI0 l,Int.add_zero]
  simp
theorem zI0:∀ l:List Nd,shL 0 l=l
 | []=>rfl
 | x::r=>by rw [shL,zKB x,zI0 r]
end
theorem zN0 {f n:Nat} {nd:Nd} (hk:nd.kids.length < f) (hf:f < 1000000) (h:∀ x ∈ nd.kids,c19 f n (x,(x,()))=some (true,())):c19 f (n+1) (nd,(nd,()))=some (true,()):=by
 show sh19 f (c19 f n) (fun _=>false) nd nd=_
 unfold sh19
 rw [qd rfl,cond_false,qd rfl,cond_false,qd rfl,cond_false]
 refine zFc (fun st=>∃ k:Nat,st=((((k:Int),())),((nd.kind,(nd.tok,(nd.kids,()))),((nd.kind,(nd.tok,(nd.kids,()))),())))/\k<=nd.kids.length) (fun st=>nd.kids.length - st.1.1.toNat) ?_ f _ ⟨0,rfl,by omega⟩ (by dsimp only; omega)
 rintro rec st ⟨k,rfl,hk1⟩ hrec
 dsimp only
 by_cases hlt:k < nd.kids.length
 · rw [show ilt (k:Int) (lenI nd.kids)=true from decide_eq_true (by show (k:Int) < (nd.kids.length:Int); omega),cond_true,zB1 (by omega) (by omega),cond_true,cond_true]
   have hget:List.getD nd.kids (Int.toNat (k:Int)) ze=nd.kids[k]:=by rw [Int.toNat_natCast,List.getD_eq_getElem?_getD,List.getElem?_eq_getElem hlt]; rfl
   rw [hget,zC6,h _ (List.getElem_mem hlt),Option.bind_some]
   dsimp only
   rw [Bool.not_true,cond_false,xB _ _ (by omega) (by omega)]
   exact hrec _ ⟨k+1,by simp,hlt⟩ (by dsimp only; omega)
 · obtain rfl:k=nd.kids.length:=by omega
   rw [show ilt (nd.kids.length:Int) (lenI nd.kids)=false from decide_eq_false (by show ¬ (nd.kids.length:Int) < (nd.kids.length:Int); omega),cond_false]
mutual
/-- How deep a tree is. -/
def dpN:Nd->Nat
 | .mk _ _ l=>dpL l+1
def dpL:List Nd->Nat
 | []=>0
 | x::r=>max (dpN x) (dpL r)
end
theorem zLT:∀ {l:List Nd} {x:Nd},x ∈ l->dpN x<=dpL l
 | y::r,x,h=>by
  rcases List.mem_cons.1 h with rfl | h
  · exact Nat.le_max_left _ _
  · exact Nat.le_trans (zLT h) (Nat.le_max_right _ _)
theorem zHH:∀ {l:List Nd} {x:Nd},okL l->x ∈ l->okT x
 | y::r,x,h,hx=>by
  rcases List.mem_cons.1 hx with rfl | hx
  · exact h.1.1
  · exact zHH h.2 hx
theorem zGv:∀ {l:List Nd} {x:Nd},x ∈ l->(lvN x).length<=(lvL l).length
 | y::r,x,h=>by
  rw [lvL,List.length_append]
  rcases List.mem_cons.1 h with rfl | h
  · omega
  · have:=zGv h; omega
theorem zK5 {nd:Nd} (h:okT nd):nd.kids.length<=(lvN nd).length:=by
 obtain ⟨k,p,l⟩:=nd
 obtain ⟨h1,h2,h3,_,h4⟩:=h
 show l.length<=(if k=0 then [p] else lvL l).length
 by_cases hk:k=0
 · rw [h1 hk]; simp
 · rw [if_neg hk]; exact h3
theorem zC0 {nd x:Nd} (h:okT nd) (hx:x ∈ nd.kids):(lvN x).length<=(lvN nd).length/\okT x/\dpN x < dpN nd:=by
 obtain ⟨k,p,l⟩:=nd
 obtain ⟨h1,h2,h3,_,h4⟩:=h
 replace hx:x ∈ l:=hx
 have hk:k≠0:=fun e=>by rw [h1 e] at hx; cases hx
 refine ⟨?_,zHH h4 hx,?_⟩
 · show _<=(if k=0 then [p] else lvL l).length
   rw [if_neg hk]
   exact zGv hx
 · show dpN x < dpL l+1
   have:=zLT hx
   omega
theorem zHW {f:Nat} (hf:f < 1000000):∀ (n:Nat) (nd:Nd),okT nd->(lvN nd).length < f->dpN nd<=n->c19 f n (nd,(nd,()))=some (true,())
 | 0,nd,_,_,h=>by obtain ⟨k,p,l⟩:=nd; simp [dpN] at h
 | n+1,nd,h1,h2,h3=>zN0 (by have:=zK5 h1; omega) hf fun x hx=>by
  obtain ⟨q1,q2,q3⟩:=zC0 h1 hx
  exact zHW hf n x q2 (by omega) (by omega)
end
section
open Go.Al Go.Den
structure Alk (l m:List TokT):Prop where
 len:l.length=m.length
 eqv:∀ p:Nat,(l.getD p tokD).kind=(m.getD p tokD).kind/\((l.getD p tokD).kind=1\/(l.getD p tokD).kind=5->(l.getD p tokD).text=(m.getD p tokD).text)
theorem Alk.symm {l m:List TokT} (h:Alk l m):Alk m l:=⟨h.len.symm,fun p=>⟨(h.eqv p).1.symm,fun e=>((h.eqv p).2 (by rw [(h.eqv p).1]; exact e)).symm⟩⟩
section
variable {l m:List TokT} (h:Alk l m) (p:Int)
include h
theorem Alk.text:zH l p=zH m p:=by
 obtain ⟨h1,h2⟩:=h.eqv p.toNat
 unfold zH
 rw [h.len]
 by_cases hp:(m.length:Int)<=p
 · rw [if_pos hp,if_pos hp]
 · rw [if_neg hp,if_neg hp]
   show (if (l.getD p.toNat tokD).kind=1\/(l.getD p.toNat tokD).kind=5 then _ else _)=(if (m.getD p.toNat tokD).kind=1\/(m.getD p.toNat tokD).kind=5 then _ else _)
   by_cases hk:(l.getD p.toNat tokD).kind=1\/(l.getD p.toNat tokD).kind=5
   · rw [if_pos hk,if_pos (by rw [<- h1]; exact hk)]; exact h2 hk
   · rw [if_neg hk,if_neg (by rw [<- h1]; exact hk)]
theorem Alk.name:zh l p=zh m p:=by
 obtain ⟨h1,h2⟩:=h.eqv p.toNat
 unfold zh
 rw [h.len]
 show (decide (p < (m.length:Int)) && (decide ((l.getD p.toNat tokD).kind=1) && !kwL.contains (l.getD p.toNat tokD).text))=(decide (p < (m.length:Int)) && (decide ((m.getD p.toNat tokD).kind=1) && !kwL.contains (m.getD p.toNat tokD).text))
 rw [h1]
 by_cases hk:(m.getD p.toNat tokD).kind=1
 · rw [h2 (by rw [h1]; exact .inl hk)]
 · rw [show decide ((m.getD p.toNat tokD).kind=1)=false from decide_eq_false hk,Bool.false_and,Bool.false_and]
theorem Alk.kind (k:Int):yn k l p=yn k m p:=by
 obtain ⟨h1,h2⟩:=h.eqv p.toNat
 unfold yn
 rw [h.len]
 show (decide (p < (m.length:Int)) && decide ((l.getD p.toNat tokD).kind=k))=(decide (p < (m.length:Int)) && decide ((m.getD p.toNat tokD).kind=k))
 rw [h1]
theorem Alk.type (xs:List MT):yy l xs p=yy m xs p:=by
 obtain ⟨h1,h2⟩:=h.eqv p.toNat
 unfold yy
 rw [h.name p]
 by_cases hn:zh m p=true
 · have hk:(m.getD p.toNat tokD).kind=1:=by
    unfold zh at hn
    simp only [Bool.and_eq_true,decide_eq_true_eq] at hn
    exact hn.2.1
   show (zh m p && qZ (l.getD p.toNat tokD).text xs.reverse)=(zh m p && qZ (m.getD p.toNat tokD).text xs.reverse)
   rw [h2 (by rw [h1]; exact .inl hk)]
 · rw [Bool.not_eq_true] at hn
   rw [hn]; rfl
end
end
section
open Go.Al Go.Den
def PlainM (x:MT):Prop:=∀ k,zfM k x=0\/zfM k x=1
theorem zQV (x:MT) (k:Str) (v:Int) (n:Str):zfM n (xy x k v)=if n=k then v else zfM n x:=by
 unfold zfM
 induction x with
 | nil=>
  simp only [xy,qF]
  by_cases h:n=k <;> simp [h]
 | cons a r ih=>
  obtain ⟨k',u⟩:=a
  simp only [xy]
  by_cases h:k=k'
  · subst h
    simp only [if_true,qF]
    by_cases h2:n=k <;> simp [h2]
  · rw [if_neg h]
    simp only [qF]
    by_cases h2:n=k'
    · subst h2
      rw [if_pos rfl,if_pos rfl,if_neg (fun e=>h e.symm)]
    · rw [if_neg h2,if_neg h2,ih]
theorem PlainM.nil:PlainM []:=fun _=>.inl rfl
theorem PlainM.put {x:MT} (h:PlainM x) (k:Str):PlainM (xy x k 1):=fun n=>by
 rw [zQV]
 by_cases e:n=k
 · rw [if_pos e]; exact .inr rfl
 · rw [if_neg e]; exact h n
theorem zBV {l m:List TokT} {p:Int} (h0:0<=p) (h:p < (l.length:Int)):tkA (l++m) p=tkA l p:=by
 unfold tkA
 rw [List.getD_eq_getElem?_getD,List.getD_eq_getElem?_getD,List.getElem?_append_left (by omega)]
theorem qL {l m:List TokT} {p:Int} (h0:0<=p) (h:p < (l.length:Int)):zH (l++m) p=zH l p:=by
 unfold zH
 rw [zBV h0 h,if_neg (by rw [List.length_append]; omega),if_neg (show ¬ (l.length:Int)<=p by omega)]
theorem zDe {l m:List TokT} {p:Int} (h0:0<=p) (h:p < (l.length:Int)):zh (l++m) p=zh l p:=by
 unfold zh
 rw [zBV h0 h,decide_eq_true h,decide_eq_true (show p < ((l++m).length:Int) by rw [List.length_append]; omega)]
theorem zIW {l m:List TokT} {p:Int} (k:Int) (h0:0<=p) (h:p < (l.length:Int)):yn k (l++m) p=yn k l p:=by
 unfold yn
 rw [zBV h0 h,decide_eq_true h,decide_eq_true (show p < ((l++m).length:Int) by rw [List.length_append]; omega)]
theorem zMC {f n:Nat} {d:Int} {nd:Nd} (hk:nd.kids.length < f) (hf:f < 100000) (ho:okT nd) (ht:nd.kind=0->-100000<=nd.tok+d/\nd.tok+d<=100000) (h:∀ x ∈ nd.kids,c21 f n (x,(d,()))=some (shN d x,())) :
 c21 f (n+1) (nd,(d,()))=some (shN d nd,()):=by
 obtain ⟨k,p,l⟩:=nd
 show sh21 f (c21 f n) (fun x=>some (Nd.mk x.1 0 x.2.1,())) (fun _=>false) (Nd.mk k p l) d=_
 unfold sh21
 obtain ⟨h1,h2,h3,_,h4⟩:=ho
 change l.length < f at hk
 change k=0->-100000<=p+d/\p+d<=100000 at ht
 change ∀ x ∈ l,c21 f n (x,(d,()))=some (shN d x,()) at h
 by_cases hk0:k=0
 · rw [show ieq (Nd.kind (Nd.mk k p l)) 0=true from zPC hk0,cond_true]
   have:=ht hk0
   subst hk0
   rw [h1 rfl]
   show some (Nd.mk 0 (iadd .i64 p d) [],())=some (Nd.mk 0 (if (0:Int)=0 then p+d else p) (shL d []),())
   rw [if_pos rfl,xB p d (by omega) (by omega)]
   rfl
 · rw [show ieq (Nd.kind (Nd.mk k p l)) 0=false from zNh hk0,cond_false]
   simp only [yA,yB,yU]
   have hsh:shN d (Nd.mk k p l)=Nd.mk k 0 (shL d l):=by rw [h2 hk0]; exact zn d k l hk0
   rw [hsh]
   refine zFc (fun st=>∃ (i:Nat) (j:Int×(Int×NdsT)),st=((shL d (l.take i),((i:Int),())),((k,(p,(l,()))),(j,())))/\i<=l.length) (fun st=>l.length - st.1.2.1.toNat) ?_ f _ ⟨0,_,rfl,by omega⟩ (by dsimp only; omega)
   rintro rec st ⟨i,j,rfl,hi⟩ hrec
   dsimp only
   by_cases hlt:i < l.length
   · rw [show ilt (i:Int) (lenI l)=true from decide_eq_true (by show (i:Int) < (l.length:Int); omega),cond_true,zB1 (by omega) (by omega),cond_true]
     have hget:List.getD l (Int.toNat (i:Int)) ze=l[i]:=by rw [Int.toNat_natCast,List.getD_eq_getElem?_getD,List.getElem?_eq_getElem hlt]; rfl
     rw [hget,zC6,h _ (List.getElem_mem hlt),Option.bind_some]
     dsimp only
     rw [zg]
     rw [show okN 40 ((shL d (l.take i)).length+[shN d l[i]].length)=true from kj (by rw [zU,List.length_take]; simp only [List.length_cons,List.length_nil]; omega) (by rw [zU,List.length_take]; simp only [List.length_cons,List.length_nil,maxLen]; omega),cond_true,xB _ _ (by omega) (by omega)]
     refine hrec _ ⟨i+1,(j.1,(j.2.1,(j.2.2.1,()))),?_,hlt⟩ (by dsimp only; omega)
     have e:shL d (l.take i)++[shN d l[i]]=shL d (l.take (i+1)):=by
      rw [List.take_succ_eq_append_getElem hlt,zC]; rfl
     rw [e]
     simp
   · obtain rfl:i=l.length:=by omega
     rw [show ilt (l.length:Int) (lenI l)=false from decide_eq_false (by show ¬ (l.length:Int) < (l.length:Int); omega),cond_false,List.take_length,Option.bind_some]
     dsimp only
     rw [zg]
mutual
/-- Its leaves' tokens are small numbers. -/
def smT:Nd->Prop
 | .mk k p l=>(k=0->0<=p/\p<=50000)/\smL l
def smL:List Nd->Prop
 | []=>True
 | x::r=>smT x/\smL r
end
theorem zKp:∀ {l:List Nd} {x:Nd},smL l->x ∈ l->smT x
 | y::r,x,h,hx=>by
  rcases List.mem_cons.1 hx with rfl | hx
  · exact h.1
  · exact zKp h.2 hx
theorem zJb {f:Nat} (hf:f < 100000) {d:Int} (d0:0<=d) (d1:d<=50000):∀ (n:Nat) (nd:Nd),okT nd->smT nd->(lvN nd).length < f->dpN nd<=n->c21 f n (nd,(d,()))=some (shN d nd,())
 | 0,nd,_,_,_,h=>by obtain ⟨k,p,l⟩:=nd; simp [dpN] at h
 | n+1,nd,h1,h5,h2,h3=>zMC (by have:=zK5 h1; omega) hf h1 (fun e=>by
  obtain ⟨k,p,l⟩:=nd
  obtain ⟨h6,_⟩:=h5
  have:=h6 e
  show -100000<=p+d/\p+d<=100000
  omega) fun x hx=>by
  obtain ⟨q1,q2,q3⟩:=zC0 h1 hx
  refine zJb hf d0 d1 n x q2 ?_ (by omega) (by omega)
  obtain ⟨k,p,l⟩:=nd
  exact zKp h5.2 hx
mutual
theorem zNG:∀ {nd:Nd},okT nd->(∀ p ∈ lvN nd,0<=p/\p<=50000)->smT nd
 | .mk k p l,h,hp=>by
  obtain ⟨h1,h2,h3,_,h4⟩:=h
  by_cases hk:k=0
  · rw [h1 hk]
    refine ⟨fun _=>hp p ?_,trivial⟩
    show p ∈ (if k=0 then [p] else lvL l)
    rw [if_pos hk]; simp
  · refine ⟨fun e=>absurd e hk,zMp h4 fun q hq=>hp q ?_⟩
    show q ∈ (if k=0 then [p] else lvL l)
    rw [if_neg hk]; exact hq
theorem zMp:∀ {l:List Nd},okL l->(∀ p ∈ lvL l,0<=p/\p<=50000)->smL l
 | [],_,_=>trivial
 | x::r,h,hp=>⟨zNG h.1.1 fun p h1=>hp p (List.mem_append_left _ h1),zMp h.2 fun p h1=>hp p (List.mem_append_right _ h1)⟩
end
end
section
open Go.Al Go.Den
section
variable {ρ ρ1 α:Type} {X:Option (Option ρ1)} {y:ρ1} {F:ρ1->Option (Option ρ)} {c:Bool} {a b:α}
theorem stp (h:X=some (some y)):(Option.bind X fun y0=>zJ y0 (some none) F)=F y:=by rw [h]; rfl
theorem stn (h:X=some none):(Option.bind X fun y0=>zJ y0 (some none) F)=some none:=by rw [h]; rfl
theorem cdt (h:c=true):cond c a b=a:=by rw [h]; rfl
theorem cdf (h:c=false):cond c a b=b:=by rw [h]; rfl
end
theorem okn {k:Nat} (h:k<=100000):okN 40 k=true:=kj (by omega) (by simp [maxLen]; omega)
theorem iu {σ R:Type} {F:(σ->Option R)->σ->Option R} {n:Nat} {s:σ} (h:0 < n):iter n F s=F (iter (n - 1) F) s:=by
 obtain ⟨k,rfl⟩:∃ k,n=k+1:=⟨n - 1,by omega⟩
 rfl
theorem sq {s t w:Str} (h:t=s):seq t w=seq s w:=by rw [h]
theorem jc {l:List TokT} {p:Int} {t:Str} (L:List Str) (h:zH l p=t):isF L l p=(!seq t [] && L.contains t):=by unfold isF; rw [h]
section
variable {fu n:Nat} {l:List TokT} {xs zs:List MT} {p q:Int} {x:Nd} {t:Str}
theorem bb54 (L:List Str) (hL:L.length < 1000) (p0:0<=p) (p1:p<=l.length) (hl:l.length < 1000000):b54 fu (L,()) l (p,xs)=some (some ((isF L l p,()),(p,xs))):=zIv fu L hL p0 p1 hl
theorem bb72 (p0:0<=p) (p1:p<=l.length) (hl:l.length < 1000000):b72 fu ((0:Int),()) l (p,xs)=some (some ((zH l p,()),(p,xs))):=by
 have h:=zGp (xs:=xs) fu 0 p0 p1 hl (by omega) (by omega)
 rwa [Int.add_zero] at h
theorem bb85 (p0:0<=p) (p1:p<=l.length) (hl:l.length < 1000000):b85 fu ((0:Int),()) l (p,xs)=some (some ((zh l p,()),(p,xs))):=by
 have h:=zGi (xs:=xs) fu 0 p0 p1 hl (by omega) (by omega)
 rwa [Int.add_zero] at h
theorem zDd (k:Int) (p0:0<=p) (p1:p<=l.length) (hl:l.length < 1000000):b112 fu (k,()) l (p,xs)=some (some ((yn k l p,()),(p,xs))):=zK2 fu k p0 p1 hl
theorem bb73 (p0:0<=p) (p1:p < l.length) (hl:l.length < 1000000):b73 fu () l (p,xs)=some (some ((Nd.mk 0 p [],()),(p+1,xs))):=(zF8 fu p0 (by omega) hl).trans (if_pos p1)
theorem bb78 (s:Str) (p0:0<=p) (p1:p<=l.length) (hl:l.length < 1000000) (h:isF [s] l p=true):b78 fu (s,()) l (p,xs)=some (some ((Nd.mk 0 p [],()),(p+1,xs))):=(zI8 fu s p0 p1 hl).trans (if_pos h)
theorem bb78n (s:Str) (p0:0<=p) (p1:p<=l.length) (hl:l.length < 1000000) (h:isF [s] l p=false):b78 fu (s,()) l (p,xs)=some none:=(zI8 fu s p0 p1 hl).trans (if_neg (by rw [h]; decide))
theorem bb84 (f:Int) (p0:0<=p) (p1:p<=l.length) (hl:l.length < 1000000) (f0:0<=f) (f1:f < 1000000) (hx:xs.length < 1000000):b84 fu (f,()) l (p,xs)=some (some ((ym l xs (p+f),()),(p,xs))):=zNX fu f p0 p1 hl f0 f1 hx
theorem retM {X:Option (Option ((ParT×Unit)×(Nd×Unit)))} (h:X=aM l q zs (ndE x,())):outM l X=some (some ((x,()),(q,zs))):=by rw [h,zg]; exact qU _
theorem retN {X:Option (Option ((ParT×Unit)×(Nd×Unit)))} (h:X=some none):outM l X=some none:=by rw [h]; rfl
def zDV (t:Str):Prop:=t=[59]\/t=[41]
theorem zBF {L:List Str} (ht:zH l q=t) (hs:zDV t) (h1:L.contains [59]=false) (h2:L.contains [41]=false):isF L l q=false:=by
 rw [jc L ht]
 rcases hs with rfl | rfl
 · rw [h1,Bool.and_false]
 · rw [h2,Bool.and_false]
theorem lvl59:lvlF [59]=0:=by decide
theorem lvl41:lvlF [41]=0:=by decide
variable (p0:0<=p) (p1:p<=(l.length:Int)) (q0:0<=q) (q1:q<=(l.length:Int)) (hl:l.length < 1000000)
include q0 q1 hl
theorem st113 (h:(rs fu n).c111 () l (p,xs)=some (some ((x,()),(q,zs)))) (ht:zH l q=t) (hs:zDV t):(rs fu (n+1)).c113 () l (p,xs)=some (some ((x,()),(q,zs))):=by
 show outM l (sh113 fu (b54 fu) (b73 fu) (rs fu n).c111 (rs fu n).c113 ((l,p,xs,(),()),()) ())=_
 refine retM ?_
 unfold sh113
 refine (stp h).trans ?_
 refine (stp (bb54 _ (by decide) q0 q1 hl)).trans ?_
 refine (cdt ?_).trans ?_
 · show (!isF [[44]] l q)=true
   rw [zBF ht hs (by decide) (by decide)]; rfl
 rfl
theorem st111 (h:(rs fu n).c114 () l (p,xs)=some (some ((x,()),(q,zs)))) (ht:zH l q=t) (hs:zDV t):(rs fu (n+1)).c111 () l (p,xs)=some (some ((x,()),(q,zs))):=by
 show outM l (sh111 fu (b54 fu) (b73 fu) (rs fu n).c111 (rs fu n).c114 ((l,p,xs,(),()),()) ())=_
 refine retM ?_
 unfold sh111
 refine (stp h).trans ?_
 refine (stp (bb54 _ (by decide) q0 q1 hl)).trans ?_
 refine (cdt ?_).trans ?_
 · show (!isF [[61],[42,61],[47,61],[37,61],[43,61],[45,61],[60,60,61],[62,62,61],[38,61],[94,61],[124,61]] l q)=true
   rw [zBF ht hs (by decide) (by decide)]; rfl
 rfl
theorem st114 (h:(rs fu n).c131 ((1:Int),()) l (p,xs)=some (some ((x,()),(q,zs)))) (ht:zH l q=t) (hs:zDV t):(rs fu (n+1)).c114 () l (p,xs)=some (some ((x,()),(q,zs))):=by
 show outM l (sh114 fu (b54 fu) (b73 fu) (b78 fu) (rs fu n).c113 (rs fu n).c114 (rs fu n).c131 ((l,p,xs,(),()),()) ())=_
 refine retM ?_
 unfold sh114
 refine (stp h).trans ?_
 refine (stp (bb54 _ (by decide) q0 q1 hl)).trans ?_
 refine (cdt ?_).trans ?_
 · show (!isF [[63]] l q)=true
   rw [zBF ht hs (by decide) (by decide)]; rfl
 rfl
theorem st131 (hfu:5000 < fu) (h:(rs fu n).c142 () l (p,xs)=some (some ((x,()),(q,zs)))) (ht:zH l q=t) (hs:zDV t):(rs fu (n+1)).c131 ((1:Int),()) l (p,xs)=some (some ((x,()),(q,zs))):=by
 show outM l (sh131 fu c143 (b72 fu) (b73 fu) (rs fu n).c131 (rs fu n).c142 ((l,p,xs,(),()),()) (1,()))=_
 refine retM ?_
 unfold sh131
 refine (stp h).trans ?_
 refine (iu (by omega)).trans ?_
 refine (stp (bb72 q0 q1 hl)).trans ?_
 have e:c143 (zH l q,())=some (0,()):=by
  rw [zGt,ht]
  rcases hs with rfl | rfl
  · rw [lvl59]
  · rw [lvl41]
 refine (congrArg (fun o=>Option.bind o _) e).trans ?_
 rfl
omit q0 q1 in
include p0 p1 in
theorem st142 (ht:zH l p=[40]) (hb:ym l xs (p+1)=false) (hx:xs.length < 1000000) (h:(rs fu n).c150 () l (p,xs)=some (some ((x,()),(q,zs)))):(rs fu (n+1)).c142 () l (p,xs)=some (some ((x,()),(q,zs))):=by
 show outM l (sh142 fu (b54 fu) (b73 fu) (b78 fu) (b84 fu) (rs fu n).c142 (rs fu n).c150 (rs fu n).c151 ((l,p,xs,(),()),()) ())=_
 refine retM ?_
 unfold sh142
 refine (stp (bb54 _ (by decide) p0 p1 hl)).trans ?_
 refine (cdf ?_).trans ?_
 · show (!isF [[40]] l p)=false
   rw [jc _ ht]; rfl
 refine (stp (bb84 1 p0 p1 hl (by omega) (by omega) hx)).trans ?_
 refine (cdt ?_).trans ?_
 · show (!ym l xs (p+1))=true
   rw [hb]; rfl
 refine (stp h).trans ?_
 rfl
theorem st154 (hfu:5000 < fu) (ht:zH l q=t) (hs:zDV t):(rs fu (n+1)).c154 (x,()) l (q,zs)=some (some ((x,()),(q,zs))):=by
 show outM l (sh154 fu (b54 fu) (b73 fu) (b78 fu) (b80 fu) (rs fu n).c111 (rs fu n).c113 ((l,q,zs,(),()),()) (x,()))=_
 refine retM ?_
 unfold sh154
 refine (iu (by omega)).trans ?_
 refine (cdt (okn (by show 1<=100000; omega))).trans ?_
 refine (stp (bb54 _ (by decide) q0 q1 hl)).trans ?_
 refine (cdf (zBF ht hs (by decide) (by decide))).trans ?_
 refine (stp (bb54 _ (by decide) q0 q1 hl)).trans ?_
 refine (cdf (zBF ht hs (by decide) (by decide))).trans ?_
 refine (stp (bb54 _ (by decide) q0 q1 hl)).trans ?_
 refine (cdf (zBF ht hs (by decide) (by decide))).trans ?_
 refine (stp (bb54 _ (by decide) q0 q1 hl)).trans ?_
 refine (cdf (zBF ht hs (by decide) (by decide))).trans ?_
 rfl
include p0 p1 in
theorem st150 (hfu:5000 < fu) (hp:zH l p=[40]) (ht:zH l q=t) (hs:zDV t) (h:(rs fu (n+1)).c155 () l (p,xs)=some (some ((x,()),(q,zs)))):(rs fu (n+2)).c150 () l (p,xs)=some (some ((x,()),(q,zs))):=by
 show outM l (sh150 fu (b54 fu) (b73 fu) (b78 fu) (b84 fu) (rs fu (n+1)).c142 (rs fu (n+1)).c150 (rs fu (n+1)).c151 (rs fu (n+1)).c154 (rs fu (n+1)).c155 ((l,p,xs,(),()),()) ())=_
 refine retM ?_
 unfold sh150
 refine (stp (bb54 _ (by decide) p0 p1 hl)).trans ?_
 refine (cdf ((jc _ hp).trans rfl)).trans ?_
 refine (stp (bb54 _ (by decide) p0 p1 hl)).trans ?_
 refine (cdf ((jc _ hp).trans rfl)).trans ?_
 refine (stp (bb54 _ (by decide) p0 p1 hl)).trans ?_
 refine (cdf ((jc _ hp).trans rfl)).trans ?_
 refine (stp h).trans ?_
 refine (stp (y:=((x,()),(q,zs))) ?_).trans ?_
 · show (rs fu (n+1)).c154 (ndE x,()) l (q,zs)=_
   rw [zg]
   exact st154 q0 q1 hl hfu ht hs
 rfl
end
section
variable {fu n:Nat} {l:List TokT} {xs zs:List MT} {p q:Int} {x:Nd}
theorem st155 (p0:0<=p) (p1:p<=(l.length:Int)) (hl:l.length < 1000000) (q0:0<=q) (q1:q<=(l.length:Int)) (hk:(tkA l p).kind=5) (hp:zH l p=[40]) (hp2:p+1<=(l.length:Int)) (hq:zH l q=[41]) (h:(rs fu n).c113 () l (p+1,xs)=some (some ((x,()),(q,zs)))) :
 (rs fu (n+2)).c155 () l (p,xs)=some (some ((Nd.mk 43 0 [Nd.mk 0 p [],x,Nd.mk 0 q []],()),(q+1,zs))):=by
 have e:(rs fu (n+1)).c115 () [] l (p,xs)=some (some (((),[Nd.mk 0 p [],x,Nd.mk 0 q []]),(q+1,zs))):=by
  show outX l (sh115 fu (b78 fu) (rs fu n).c113 ((l,p,xs,(),()),([],()),()) ())=_
  have e2:sh115 fu (b78 fu) (rs fu n).c113 ((l,p,xs,(),()),([],()),()) ()=some (some (((l,q+1,zs,(),()),(([ndE (Nd.mk 0 p []),ndE x,ndE (Nd.mk 0 q [])]),()),()),())):=by
   unfold sh115
   refine (stp (bb78 _ p0 p1 hl ((jc _ hp).trans rfl))).trans ?_
   refine (stp h).trans ?_
   refine (stp (bb78 _ q0 q1 hl ((jc _ hq).trans rfl))).trans ?_
   refine (cdt (okn (by show 0+3<=100000; omega))).trans ?_
   rfl
  rw [e2,zg,zg,zg]
  exact if_pos rfl
 have hn:zh l p=false:=by
  unfold zh; rw [hk]; simp
 have hkk:∀ k:Int,k≠5->yn k l p=false:=fun k hk5=>by
  unfold yn; rw [hk,decide_eq_false (Ne.symm hk5),Bool.and_false]
 show outM l (sh155 fu (b73 fu) (b85 fu) (b112 fu) (rs fu (n+1)).c115 ((l,p,xs,(),()),()) ())=_
 refine retM ?_
 unfold sh155
 refine (stp (bb85 p0 p1 hl)).trans ?_
 refine (cdf hn).trans ?_
 refine (stp (zDd 2 p0 p1 hl)).trans ?_
 refine (cdf (hkk 2 (by decide))).trans ?_
 refine (stp (zDd 3 p0 p1 hl)).trans ?_
 refine (cdf (hkk 3 (by decide))).trans ?_
 refine (stp (zDd 4 p0 p1 hl)).trans ?_
 refine (cdf (hkk 4 (by decide))).trans ?_
 refine (stp e).trans ?_
 rfl
theorem zMa (hfu:5000 < fu) (p0:0<=p) (p1:p+1<=(l.length:Int)) (hl:l.length < 1000000) (hx:xs.length < 1000000) (q0:0<=q) (q1:q+1<=(l.length:Int))
 (hk:(tkA l p).kind=5) (hp:zH l p=[40]) (hb:ym l xs (p+1)=false) (hq:zH l q=[41]) (hr:zH l (q+1)=[59]) (h:(rs fu n).c113 () l (p+1,xs)=some (some ((x,()),(q,zs)))) :
 (rs fu (n+8)).c113 () l (p,xs)=some (some ((Nd.mk 43 0 [Nd.mk 0 p [],x,Nd.mk 0 q []],()),(q+1,zs))):=by
 have a1:=st155 (fu:=fu) (n:=n) p0 (by omega) hl q0 (by omega) hk hp p1 hq h
 have a2:=st150 (n:=n+1) p0 (by omega) (by omega) q1 hl hfu hp hr (.inl rfl) a1
 have a3:=st142 p0 (by omega) hl hp hb hx a2
 have a4:=st131 (by omega) q1 hl hfu a3 hr (.inl rfl)
 have a5:=st114 (by omega) q1 hl a4 hr (.inl rfl)
 have a6:=st111 (by omega) q1 hl a5 hr (.inl rfl)
 exact st113 (by omega) q1 hl a6 hr (.inl rfl)
theorem sn113 (h:(rs fu n).c111 () l (p,xs)=some none):(rs fu (n+1)).c113 () l (p,xs)=some none:=retN (stn h)
theorem sn111 (h:(rs fu n).c114 () l (p,xs)=some none):(rs fu (n+1)).c111 () l (p,xs)=some none:=retN (stn h)
theorem sn114 (h:(rs fu n).c131 ((1:Int),()) l (p,xs)=some none):(rs fu (n+1)).c114 () l (p,xs)=some none:=retN (stn h)
theorem sn131 (h:(rs fu n).c142 () l (p,xs)=some none):(rs fu (n+1)).c131 ((1:Int),()) l (p,xs)=some none:=retN (stn h)
def beginW:List Str:=marksL++(wordsL++[[101,110,117,109],[115,116,114,117,99,116],[117,110,105,111,110]])
theorem zLq:beginW.all (fun w=>kwL.contains w && !([[40],[43,43],[45,45],[38],[42],[43],[45],[126],[33],[115,105,122,101,111,102]]:List Str).contains w)=true:=by decide
theorem zL1 (p0:0<=p) (p1:p<=(l.length:Int)) (hl:l.length < 1000000) (hw:zH l p ∈ beginW):(rs fu (n+8)).c113 () l (p,xs)=some none:=by
 have hw2:=List.all_eq_true.1 zLq _ hw
 rw [Bool.and_eq_true] at hw2
 obtain ⟨w1,w2⟩:=hw2
 rw [Bool.not_eq_true',<- Bool.not_eq_true,List.contains_iff_mem] at w2
 have hno:∀ L:List Str,(∀ w ∈ L,w ∈ ([[40],[43,43],[45,45],[38],[42],[43],[45],[126],[33],[115,105,122,101,111,102]]:List Str))->isF L l p=false:=fun L hL=>by
  have:L.contains (zH l p)=false:=by
   rw [<- Bool.not_eq_true,List.contains_iff_mem]
   exact fun e=>w2 (hL _ e)
  unfold isF; rw [this,Bool.and_false]
 have hne:zH l p≠[]:=fun e=>by rw [e] at w1; exact absurd w1 (by decide)
 have hk:(tkA l p).kind=1\/(tkA l p).kind=5:=by
  apply Classical.byContradiction
  intro e
  apply hne
  unfold zH
  rw [if_neg e]
  split <;> rfl
 have htk:zH l p=(tkA l p).text:=by
  unfold zH at hne ⊢
  by_cases h:(l.length:Int)<=p
  · rw [if_pos h] at hne; exact absurd rfl hne
  · rw [if_neg h,if_pos hk]
 have hn:zh l p=false:=by
  unfold zh
  rw [<- htk,w1]; simp
 have hkk:∀ k:Int,k≠1->k≠5->yn k l p=false:=fun k h1 h5=>by
  unfold yn
  rw [decide_eq_false (show ¬ (tkA l p).kind=k from fun e=>by rcases hk with h | h <;> omega),Bool.and_false]
 have a0:(rs fu (n+1)).c115 () [] l (p,xs)=some none:=by
  show outX l (sh115 fu (b78 fu) (rs fu n).c113 ((l,p,xs,(),()),([],()),()) ())=_
  have e2:sh115 fu (b78 fu) (rs fu n).c113 ((l,p,xs,(),()),([],()),()) ()=some none:=stn (bb78n _ p0 p1 hl (hno _ (by decide)))
  rw [e2]; rfl
 have a1:(rs fu (n+2)).c155 () l (p,xs)=some none:=by
  show outM l (sh155 fu (b73 fu) (b85 fu) (b112 fu) (rs fu (n+1)).c115 ((l,p,xs,(),()),()) ())=_
  refine retN ?_
  unfold sh155
  refine (stp (bb85 p0 p1 hl)).trans ?_
  refine (cdf hn).trans ?_
  refine (stp (zDd 2 p0 p1 hl)).trans ?_
  refine (cdf (hkk 2 (by decide) (by decide))).trans ?_
  refine (stp (zDd 3 p0 p1 hl)).trans ?_
  refine (cdf (hkk 3 (by decide) (by decide))).trans ?_
  refine (stp (zDd 4 p0 p1 hl)).trans ?_
  refine (cdf (hkk 4 (by decide) (by decide))).trans ?_
  exact stn a0
 have a2:(rs fu (n+3)).c150 () l (p,xs)=some none:=by
  show outM l (sh150 fu (b54 fu) (b73 fu) (b78 fu) (b84 fu) (rs fu (n+2)).c142 (rs fu (n+2)).c150 (rs fu (n+2)).c151 (rs fu (n+2)).c154 (rs fu (n+2)).c155 ((l,p,xs,(),()),()) ())=_
  refine retN ?_
  unfold sh150
  refine (stp (bb54 _ (by decide) p0 p1 hl)).trans ?_
  refine (cdf (hno _ (by decide))).trans ?_
  refine (stp (bb54 _ (by decide) p0 p1 hl)).trans ?_
  refine (cdf (hno _ (by decide))).trans ?_
  refine (stp (bb54 _ (by decide) p0 p1 hl)).trans ?_
  refine (cdf (hno _ (by decide))).trans ?_
  exact stn a1
 have a3:(rs fu (n+4)).c142 () l (p,xs)=some none:=by
  show outM l (sh142 fu (b54 fu) (b73 fu) (b78 fu) (b84 fu) (rs fu (n+3)).c142 (rs fu (n+3)).c150 (rs fu (n+3)).c151 ((l,p,xs,(),()),()) ())=_
  refine retN ?_
  unfold sh142
  refine (stp (bb54 _ (by decide) p0 p1 hl)).trans ?_
  refine (cdt ?_).trans ?_
  · show (!isF [[40]] l p)=true
    rw [hno _ (by decide)]; rfl
  exact stn a2
 exact sn113 (sn111 (sn114 (sn131 a3)))
end
end
section
open Go.Al Go.Den
section
variable {fu n:Nat} {l:List TokT} {xs zs:List MT} {p q e:Int} {x ret:Nd}
def zBy:Str:=[114,101,116,117,114,110]
theorem st117 (p0:0<=p) (p1:p<=(l.length:Int)) (hl:l.length < 1000000) (q0:0<=q) (q1:q<=(l.length:Int)) (ps:List Nd) (hps:ps.length<=1000) (hn:isF [[59]] l p=false) (h:(rs fu n).c113 () l (p,xs)=some (some ((x,()),(q,zs)))) (hq:isF [[59]] l q=true) :
 (rs fu (n+1)).c117 ([59],()) ps l (p,xs)=some (some (((),ps++[x]++[Nd.mk 0 q []]),(q+1,zs))):=by
 show outX l (sh117 fu (b54 fu) (b78 fu) (rs fu n).c113 ((l,p,xs,(),()),(ps,()),()) ([59],()))=_
 have e2:sh117 fu (b54 fu) (b78 fu) (rs fu n).c113 ((l,p,xs,(),()),(ps,()),()) ([59],())=some (some (((l,q+1,zs,(),()),((ps++[ndE x]++[ndE (Nd.mk 0 q [])]),()),()),())):=by
  unfold sh117 zQ
  refine (stp (bb54 _ (by decide) p0 p1 hl)).trans ?_
  refine (cdt ?_).trans ?_
  · show (!isF [[59]] l p)=true
    rw [hn]; rfl
  refine (stp h).trans ?_
  refine (cdt (okn (by show ps.length+1<=100000; omega))).trans ?_
  refine (stp (bb78 _ q0 q1 hl hq)).trans ?_
  refine (cdt (okn ?_)).trans ?_
  · show (ps++[ndE x]).length+1<=100000
    rw [List.length_append]; simp only [List.length_cons,List.length_nil]; omega
  rfl
 rw [e2,zg,zg]
 exact if_pos rfl
theorem st117e (p0:0<=p) (p1:p<=(l.length:Int)) (hl:l.length < 1000000) (ps:List Nd) (hps:ps.length<=1000) (hn:isF [[59]] l p=true) :
 (rs fu (n+1)).c117 ([59],()) ps l (p,xs)=some (some (((),ps++[Nd.mk 0 p []]),(p+1,xs))):=by
 show outX l (sh117 fu (b54 fu) (b78 fu) (rs fu n).c113 ((l,p,xs,(),()),(ps,()),()) ([59],()))=_
 have e2:sh117 fu (b54 fu) (b78 fu) (rs fu n).c113 ((l,p,xs,(),()),(ps,()),()) ([59],())=some (some (((l,p+1,xs,(),()),((ps++[ndE (Nd.mk 0 p [])]),()),()),())):=by
  unfold sh117 zQ
  refine (stp (bb54 _ (by decide) p0 p1 hl)).trans ?_
  refine (cdf ?_).trans ?_
  · show (!isF [[59]] l p)=false
    rw [hn]; rfl
  refine (stp (bb78 _ p0 p1 hl hn)).trans ?_
  refine (cdt (okn ?_)).trans ?_
  · show ps.length+1<=100000
    omega
  rfl
 rw [e2,zg]
 exact if_pos rfl
theorem sn117 (p0:0<=p) (p1:p<=(l.length:Int)) (hl:l.length < 1000000) (ps:List Nd) (hps:ps.length<=1000) (hn:isF [[59]] l p=false) (h:(rs fu n).c113 () l (p,xs)=some none\/∃ x q zs,0<=q/\q<=(l.length:Int)/\(rs fu n).c113 () l (p,xs)=some (some ((x,()),(q,zs)))/\isF [[59]] l q=false) :
 (rs fu (n+1)).c117 ([59],()) ps l (p,xs)=some none:=by
 show outX l (sh117 fu (b54 fu) (b78 fu) (rs fu n).c113 ((l,p,xs,(),()),(ps,()),()) ([59],()))=_
 have e2:sh117 fu (b54 fu) (b78 fu) (rs fu n).c113 ((l,p,xs,(),()),(ps,()),()) ([59],())=some none:=by
  unfold sh117 zQ
  refine (stp (bb54 _ (by decide) p0 p1 hl)).trans ?_
  refine (cdt ?_).trans ?_
  · show (!isF [[59]] l p)=true
    rw [hn]; rfl
  rcases h with h | ⟨x,q,zs,q0,q1,h,hq⟩
  · exact stn h
  · refine (stp h).trans ?_
    refine (cdt (okn (by show ps.length+1<=100000; omega))).trans ?_
    exact stn (bb78n _ q0 q1 hl hq)
 rw [e2]; rfl
theorem st86 (p0:0<=p) (p1:p < (l.length:Int)) (hl:l.length < 1000000) (hp:zH l p=zBy) (hk:(tkA l p).kind=1) {o:Option ((Unit×List Nd)×PSt)} (h:(rs fu n).c117 ([59],()) [Nd.mk 0 p []] l (p+1,xs)=some o) :
 (rs fu (n+1)).c86 () l (p,xs)=some (o.map fun y=>((Nd.mk 26 0 y.1.2,()),y.2)):=by
 have htk:(tkA l p).text=zBy:=by
  unfold zH at hp
  rw [if_neg (by omega),if_pos (.inl hk)] at hp
  exact hp
 have hn:zh l p=false:=by
  unfold zh
  rw [htk]
  simp only [Bool.and_eq_false_iff]
  exact .inr (.inr (by decide))
 have hkk:yn 1 l p=true:=by
  unfold yn
  rw [hk,decide_eq_true p1]; rfl
 show outM l (sh86 fu (b54 fu) c59 (rs fu n).c60 c61 (b72 fu) (b73 fu) (b78 fu) (b80 fu) (b85 fu) (rs fu n).c86 (b112 fu) (rs fu n).c113 (rs fu n).c114 (rs fu n).c115 (rs fu n).c116 (rs fu n).c117 ((l,p,xs,(),()),()) ())=_
 have e2:sh86 fu (b54 fu) c59 (rs fu n).c60 c61 (b72 fu) (b73 fu) (b78 fu) (b80 fu) (b85 fu) (rs fu n).c86 (b112 fu) (rs fu n).c113 (rs fu n).c114 (rs fu n).c115 (rs fu n).c116 (rs fu n).c117 ((l,p,xs,(),()),()) () =
  some (o.map fun y=>(((l,y.2.1,y.2.2,(),()),()),(Nd.mk 26 0 y.1.2,()))):=by
  unfold sh86 zQ
  refine (stp (bb72 p0 (by omega) hl)).trans ?_
  refine (cdf ((sq hp).trans (by decide))).trans ?_
  refine (cdf ((sq hp).trans (by decide))).trans ?_
  refine (stp (bb85 p0 (by omega) hl)).trans ?_
  refine (cdf hn).trans ?_
  refine (stp (bb85 p0 (by omega) hl)).trans ?_
  refine (cdf hn).trans ?_
  refine (stp (zDd 1 p0 (by omega) hl)).trans ?_
  refine (cdf ?_).trans ?_
  · show (!yn 1 l p)=false
    rw [hkk]; rfl
  refine (cdf ((sq hp).trans (by decide))).trans ?_
  refine (stp (bb73 p0 p1 hl)).trans ?_
  refine (cdt (okn (by show 1<=100000; omega))).trans ?_
  refine (cdf ((sq hp).trans (by decide))).trans ?_
  refine (cdf ((sq hp).trans (by decide))).trans ?_
  refine (cdf ((sq hp).trans (by decide))).trans ?_
  refine (cdf ((sq hp).trans (by decide))).trans ?_
  refine (cdf ((sq hp).trans (by decide))).trans ?_
  refine (cdf ((sq hp).trans (by decide))).trans ?_
  refine (cdf ((sq hp).trans (by decide))).trans ?_
  refine (cdt ((sq hp).trans (by decide))).trans ?_
  cases o with
  | none=>exact stn h
  | some y=>exact (stp h).trans rfl
 rw [e2]
 cases o with
 | none=>rfl
 | some y=>exact if_pos rfl
end
theorem ocs {α β:Type} {o:Option α} {a:β} {f:α->β} {y:α} (h:o=some y):zJ o a f=f y:=by rw [h]; rfl
def PC {ρ:Type} (X:Option (Option ρ)) (Q:ρ->Prop):Prop:=∀ r,X=some (some r)->Q r
section
variable {ρ ρ1:Type} {Q:ρ->Prop} {X:Option (Option ρ1)} {F:ρ1->Option (Option ρ)} {c:Bool} {a b:Option (Option ρ)}
theorem zK4 (h:∀ y,PC (F y) Q):PC (Option.bind X fun y0=>zJ y0 (some none) F) Q:=fun r hr=>by
 cases X with
 | none=>cases hr
 | some o=>cases o with
  | none=>cases hr
  | some y=>exact h y r hr
theorem zHI (h1:c=true->PC a Q) (h2:c=false->PC b Q):PC (cond c a b) Q:=by
 cases c
 · exact h2 rfl
 · exact h1 rfl
theorem zD7 {y:ρ1} (h:X=some (some y)) (h2:PC (F y) Q):PC (Option.bind X fun y0=>zJ y0 (some none) F) Q:=by rw [h]; exact h2
theorem zKD (h:c=true) (h2:PC a Q):PC (cond c a b) Q:=by rw [h]; exact h2
theorem PC_cdf (h:c=false) (h2:PC b Q):PC (cond c a b) Q:=by rw [h]; exact h2
theorem zGy:PC (none:Option (Option ρ)) Q:=fun r hr=>by cases hr
theorem PC_ret {r:ρ} (h:Q r):PC (some (some r)) Q:=fun r' hr=>by injection hr with hr; injection hr with hr; subst hr; exact h
theorem zKx {σ:Type} {F:(σ->Option (Option ρ))->σ->Option (Option ρ)} (I:σ->Prop) (h:∀ rec,(∀ s,I s->PC (rec s) Q)->∀ s,I s->PC (F rec s) Q):∀ n s,I s->PC (iter n F s) Q
 | 0,_,_=>fun r hr=>by cases hr
 | n+1,s,hs=>h _ (fun s' hs'=>zKx I h n s' hs') s hs
end
theorem zRZ {l:List TokT} {X:Option (Option ((ParT×Unit)×(Nd×Unit)))} {Q:(Nd×Unit)×PSt->Prop} (h:PC X fun r=>Q (r.2,(r.1.1.2.1,r.1.1.2.2.1))):PC (outM l X) Q:=fun r hr=>by
 cases X with
 | none=>cases hr
 | some o=>cases o with
  | none=>cases hr
  | some y=>
   have h2:=h y rfl
   unfold outM at hr
   simp only at hr
   split at hr
   · injection hr with hr; injection hr with hr; subst hr; exact h2
   · cases hr
section
variable {fu n:Nat} {l:List TokT} {xs zs:List MT} {p q e:Int} {x ret:Nd}
theorem st60 (hfu:5000 < fu) (p0:0<=p) (p1:p+1<=(l.length:Int)) (hl:l.length < 1000000) (hx:xs.length < 1000000) (hp:isF [[123]] l p=true) (hp1:isF [[125]] l (p+1)=false) (hb:ym l xs (p+1)=false)
 {o:Option ((Nd×Unit)×PSt)} (h:(rs fu n).c86 () l (p+1,xs)=some o) :
 (o=none->(rs fu (n+1)).c60 () l (p,xs)=some none) /\
 (∀ ret e zs,o=some ((ret,()),(e,zs))->0<=e->e < (l.length:Int)->isF [[125]] l e=true->(rs fu (n+1)).c60 () l (p,xs)=some (some ((Nd.mk 20 0 [Nd.mk 0 p [],ret,Nd.mk 0 e []],()),(e+1,zs)))) /\
 (∀ ret e zs,o=some ((ret,()),(e,zs))->0<=e->e<=(l.length:Int)->isF [[125]] l e=false->PC ((rs fu (n+1)).c60 () l (p,xs)) fun y=>4<=y.1.1.kids.length):=by
 have e0:(rs fu (n+1)).c60 () l (p,xs)=outM l (sh60 fu (rs fu n).c37 (b54 fu) (b72 fu) (b73 fu) (b78 fu) (b84 fu) (b85 fu) (rs fu n).c86 ((l,p,xs,(),()),()) ()):=rfl
 have hb':b84 fu ((0:Int),()) l (p+1,xs)=some (some ((false,()),(p+1,xs))):=by
  rw [bb84 0 (by omega) p1 hl (by omega) (by omega) hx,Int.add_zero,hb]
 rw [e0]
 refine ⟨fun ho=>?_,fun ret e zs ho e0 e1 he=>?_,fun ret e zs ho e0 e1 he=>?_⟩
 · subst ho
   refine retN ?_
   unfold sh60
   refine (stp (bb78 _ p0 (by omega) hl hp)).trans ?_
   refine (cdt (okn (by show 1<=100000; omega))).trans ?_
   refine (iu (by omega)).trans ?_
   refine (stp (bb54 _ (by decide) (by omega) p1 hl)).trans ?_
   refine (cdt ?_).trans ?_
   · show (!isF [[125]] l (p+1))=true
     rw [hp1]; rfl
   refine (stp hb').trans ?_
   refine (cdf rfl).trans ?_
   exact stn h
 · subst ho
   have e2:sh60 fu (rs fu n).c37 (b54 fu) (b72 fu) (b73 fu) (b78 fu) (b84 fu) (b85 fu) (rs fu n).c86 ((l,p,xs,(),()),()) ()=aM l (e+1) zs (ndE (Nd.mk 20 0 [ndE (Nd.mk 0 p []),ndE ret,ndE (Nd.mk 0 e [])]),()):=by
    unfold sh60
    refine (stp (bb78 _ p0 (by omega) hl hp)).trans ?_
    refine (cdt (okn (by show 1<=100000; omega))).trans ?_
    refine (iu (by omega)).trans ?_
    refine (stp (bb54 _ (by decide) (by omega) p1 hl)).trans ?_
    refine (cdt ?_).trans ?_
    · show (!isF [[125]] l (p+1))=true
      rw [hp1]; rfl
    refine (stp hb').trans ?_
    refine (cdf rfl).trans ?_
    refine (stp h).trans ?_
    refine (cdt (okn (by show 1+1<=100000; omega))).trans ?_
    refine (iu (by omega)).trans ?_
    refine (stp (bb54 _ (by decide) e0 (by omega) hl)).trans ?_
    refine (cdf ?_).trans ?_
    · show (!isF [[125]] l e)=false
      rw [he]; rfl
    refine (stp (bb73 e0 e1 hl)).trans ?_
    refine (cdt (okn (by show 2+1<=100000; omega))).trans ?_
    rfl
   rw [e2,zg,zg,zg,zg]
   exact qU _
 · subst ho
   refine zRZ ?_
   unfold sh60
   refine zD7 (bb78 _ p0 (show p<=(l.length:Int) by omega) hl hp) ?_
   refine zKD (okn (by show 1<=100000; omega)) ?_
   have nx:∀ (a:List Nd) (b:Nd) (k:Nat),k<=a.length->k+1<=(a++[b]).length:=fun a b k hh=>by rw [List.length_append]; simp only [List.length_cons,List.length_nil]; omega
   refine zKx (fun s=>3<=(List.length s.2.2.2.1.1:Nat)\/(2<=(List.length s.2.2.2.1.1:Nat)/\s.2.1.1=l/\s.2.1.2.1=e)\/(1<=(List.length s.2.2.2.1.1:Nat)/\s.2.1.1=l/\s.2.1.2.1=p+1/\s.2.1.2.2.1=xs)) ?_ fu _ (.inr (.inr ⟨Nat.le_refl _,rfl,rfl,rfl⟩))
   intro rec hrec s hs
   obtain ⟨_,⟨l',i',xs',_⟩,r1,⟨ps,_⟩,_⟩:=s
   dsimp only at hs ⊢
   rcases hs with hs | ⟨hs,rfl,rfl⟩ | ⟨hs,rfl,rfl,rfl⟩
   · repeat' first
      | exact zGy
      | refine zK4 fun _=>?_
      | refine zHI (fun _=>?_) (fun _=>?_)
      | (refine hrec _ (.inl ?_); exact Nat.le_trans hs (by rw [List.length_append]; omega))
      | (refine PC_ret ?_; exact nx _ _ _ hs)
   · refine zD7 (bb54 _ (by decide) e0 e1 hl) ?_
     refine zKD (show (!isF [[125]] _ _)=true by rw [he]; rfl) ?_
     repeat' first
      | exact zGy
      | refine zK4 fun _=>?_
      | refine zHI (fun _=>?_) (fun _=>?_)
      | (refine hrec _ (.inl ?_); exact nx _ _ _ hs)
   · refine zD7 (bb54 _ (by decide) (by omega) p1 hl) ?_
     refine zKD (show (!isF [[125]] _ _)=true by rw [hp1]; rfl) ?_
     refine zD7 hb' ?_
     refine PC_cdf rfl ?_
     refine zD7 h ?_
     refine zHI (fun _=>?_) (fun _=>zGy)
     exact hrec _ (.inr (.inl ⟨nx _ _ _ hs,rfl,rfl⟩))
theorem st37 {sp dc:Nd} {m:Nat} {z1:MT} (hl:l.length < 1000000) (h5:5<=l.length)
 (e53:(rs fu n).c53 () l (0,[[]])=some (some ((sp,(false,())),(1,[[]])))) (i1:isF [[59]] l 1=false)
 (e56:(rs fu n).c56 () l (1,[[]])=some (some ((((dc,([102],(true,()))):Nd×Str×Bool×Unit),some (some [])),(5,[[]])))) (i5:isF [[123]] l 5=true) :
 (∀ (bl:Nd) q z1 z2,(rs fu n).c60 () l (5,[[([102],1)],[]])=some (some ((bl,()),(q,[z1,z2])))->(rs fu (n+1)).c37 (true,()) l (0,[[]])=some (some ((Nd.mk 2 0 [sp,dc,bl],()),(q,[z1])))) /\
 ((rs fu n).c60 () l (5,[[([102],1)],[]])=some none->(rs fu (n+1)).c37 (true,()) l (0,[[]])=some none):=by
 have e0:(rs fu (n+1)).c37 (true,()) l (0,[[]])=outM l (sh37 fu (rs fu n).c53 (b54 fu) (rs fu n).c55 (rs fu n).c56 (rs fu n).c57 c58 c59 (rs fu n).c60 c61 ((l,0,[[]],(),()),()) (true,())):=rfl
 have e58:c58 ([102],(false,())) l (5,[[]])=some (some ((),(5,[[([102],1)]]))):=rfl
 have e59:c59 (some [],()) l (5,[[([102],1)]])=some (some ((),(5,[[([102],1)],[]]))):=rfl
 rw [e0]
 refine ⟨fun bl q z1 z2 h=>?_,fun h=>?_⟩
 · have e2:sh37 fu (rs fu n).c53 (b54 fu) (rs fu n).c55 (rs fu n).c56 (rs fu n).c57 c58 c59 (rs fu n).c60 c61 ((l,0,[[]],(),()),()) (true,())=aM l q [z1] (ndE (Nd.mk 2 0 [ndE sp,ndE dc,ndE bl]),()):=by
    unfold sh37
    refine (stp e53).trans ?_
    refine (cdt (okn (by show 1<=100000; omega))).trans ?_
    refine (stp (bb54 (p:=1) _ (by decide) (by omega) (by omega) hl)).trans ?_
    refine (cdf i1).trans ?_
    refine (stp e56).trans ?_
    refine (ocs rfl).trans ?_
    refine (ocs rfl).trans ?_
    refine (cdf rfl).trans ?_
    refine (cdf rfl).trans ?_
    refine (cdf rfl).trans ?_
    refine (stp (bb54 (p:=5) _ (by decide) (by omega) (by omega) hl)).trans ?_
    refine (cdf ?_).trans ?_
    · show (!isF [[123]] l 5)=false
      rw [i5]; rfl
    refine (stp e58).trans ?_
    refine (stp e59).trans ?_
    refine (stp h).trans ?_
    refine (cdt (okn (by show 1+2<=100000; omega))).trans ?_
    refine (stp (y:=((some z2,()),(q,[z1]))) rfl).trans ?_
    rfl
   rw [e2,zg,zg,zg,zg]
   exact qU _
 · refine retN ?_
   unfold sh37
   refine (stp e53).trans ?_
   refine (cdt (okn (by show 1<=100000; omega))).trans ?_
   refine (stp (bb54 (p:=1) _ (by decide) (by omega) (by omega) hl)).trans ?_
   refine (cdf i1).trans ?_
   refine (stp e56).trans ?_
   refine (ocs rfl).trans ?_
   refine (ocs rfl).trans ?_
   refine (cdf rfl).trans ?_
   refine (cdf rfl).trans ?_
   refine (cdf rfl).trans ?_
   refine (stp (bb54 (p:=5) _ (by decide) (by omega) (by omega) hl)).trans ?_
   refine (cdf ?_).trans ?_
   · show (!isF [[123]] l 5)=false
     rw [i5]; rfl
   refine (stp e58).trans ?_
   refine (stp e59).trans ?_
   exact stn h
end
end
section
open Go.Al Go.Den
noncomputable def headL:List TokT:=match c18 6000 ([105,110,116,32,102,40,118,111,105,100,41,32,123,32,114,101,116,117,114,110],()) with
 | some y=>y.1
 | none=>[]
theorem zQ2:c18 6000 ([105,110,116,32,102,40,118,111,105,100,41,32,123,32,114,101,116,117,114,110],())=some (headL,()):=by kernel_rfl
theorem zr:headL.length=7:=by kernel_rfl
noncomputable def endL:List TokT:=match c18 6000 ([59,32,125],()) with
 | some y=>y.1
 | none=>[]
theorem end_eq:c18 6000 ([59,32,125],())=some (endL,()):=by kernel_rfl
theorem kr:endL.length=2:=by kernel_rfl
theorem head_text:zH headL 1=[102]/\zH headL 5=[123]/\zH headL 6=zBy/\(tkA headL 6).kind=1:=⟨by kernel_rfl,by kernel_rfl,by kernel_rfl,by kernel_rfl⟩
theorem zIY:∃ s c:TokT,endL=[s,c]/\s.kind=5/\s.text=[59]/\c.kind=5/\c.text=[125]:=by
 refine ⟨endL.getD 0 tokD,endL.getD 1 tokD,?_,by kernel_rfl,by kernel_rfl,by kernel_rfl,by kernel_rfl⟩
 have h:=kr
 match endL,h with
 | [s,c],_=>rfl
noncomputable def headE:List TokT:=headL++endL
def spN:Nd:=Nd.mk 4 0 [Nd.mk 0 0 []]
def dcN:Nd:=Nd.mk 10 0 [Nd.mk 0 1 [],Nd.mk 11 0 [Nd.mk 0 2 [],Nd.mk 12 0 [Nd.mk 4 0 [Nd.mk 0 3 []]],Nd.mk 0 4 []]]
theorem head_53:(rs 6000 300).c53 () headE (0,[[]])=some (some ((spN,(false,())),(1,[[]]))):=by kernel_rfl
theorem head_56:(rs 6000 300).c56 () headE (1,[[]])=some (some (((dcN,([102],(true,()))),some (some [])),(5,[[]]))):=by kernel_rfl
theorem zDi:∀ p:Fin 9,zh headE (p.val:Int)=true->p.val=1:=by
 have h:((List.range 9).all fun p=>!zh headE (p:Int) || Nat.beq p 1)=true:=by kernel_rfl
 intro p hp
 have:=List.all_eq_true.1 h p.val (List.mem_range.2 p.2)
 rw [hp] at this
 simpa using this
noncomputable def simH (r:List TokT):Sim:=⟨headE,headL++r,0,fun k=>k<=14,fun xs ys=>xs=ys,fun x y=>x=y,True,0⟩
theorem ji:headE.length=9:=by unfold headE; rw [List.length_append,zr,kr]
theorem zRH {r:List TokT} (h2:2<=r.length) (h3:r.length<=4000):(simH r).Ok where
 lenA:=by show headE.length<=4000; rw [ji]; omega
 lenB:=by show (headL++r).length < 1000000; rw [List.length_append,zr]; omega
 d0:=Int.le_refl _
 lo0:=Int.le_refl _
 lenAB:=by show (headE.length:Int)+0<=(headL++r).length; rw [ji,List.length_append,zr]; omega
 mono:=fun {a b} h h2=>by show a<=14; replace h2:b<=14:=h2; omega
 weak:=fun p p0 _ hA w _=>by
  replace hA:2 * p+1<=14:=hA
  show zH (headL++endL) p=w↔zH (headL++r) (p+0)=w
  rw [Int.add_zero,qL p0 (by rw [zr]; omega),qL p0 (by rw [zr]; omega)]
 full:=fun p p0 _ hA w _=>by
  replace hA:2 * p+2<=14:=hA
  show zH (headL++endL) p=w↔zH (headL++r) (p+0)=w
  rw [Int.add_zero,qL p0 (by rw [zr]; omega),qL p0 (by rw [zr]; omega)]
 name:=fun p p0 _ hA=>by
  replace hA:2 * p+1<=14:=hA
  show zh (headL++endL) p=zh (headL++r) (p+0)
  rw [Int.add_zero,zDe p0 (by rw [zr]; omega),zDe p0 (by rw [zr]; omega)]
 kind:=fun k p p0 _ hA=>by
  replace hA:2 * p+1<=14:=hA
  show yn k (headL++endL) p=yn k (headL++r) (p+0)
  rw [Int.add_zero,zIW k p0 (by rw [zr]; omega),zIW k p0 (by rw [zr]; omega)]
 type:=fun p xs ys p0 _ e hA=>by
  replace hA:2 * p+1<=14:=hA
  replace e:xs=ys:=e
  subst e
  show yy (headL++endL) xs p=yy (headL++r) xs (p+0)
  unfold yy
  rw [Int.add_zero,zDe p0 (by rw [zr]; omega),zDe p0 (by rw [zr]; omega),zBV p0 (by rw [zr]; omega),zBV p0 (by rw [zr]; omega)]
 srlen:=fun {xs ys} e=>by replace e:xs=ys:=e; rw [e]
 push:=fun {xs ys x y} e e2=>by replace e:xs=ys:=e; replace e2:x=y:=e2; subst e e2; rfl
 mr0:=rfl
 pop:=fun {xs ys x y} e _=>by
  replace e:xs++[x]=ys++[y]:=e
  obtain ⟨h1,h2⟩:=List.append_inj' e rfl
  exact ⟨h1,by injection h2⟩
 dcl:=fun {xs ys x y p v} e p0 hn _=>by
  replace e:xs++[x]=ys++[y]:=e
  obtain ⟨h1,h2⟩:=List.append_inj' e rfl
  injection h2 with h2
  subst h1 h2
  have p1:0<=p:=p0
  have hlt:p < (headE.length:Int):=jS hn
  rw [ji] at hlt
  obtain ⟨k,rfl⟩:∃ k:Nat,p=k:=⟨p.toNat,by omega⟩
  have hk:k=1:=zDi ⟨k,by omega⟩ hn
  subst hk
  show xs++[xy x (zH (headL++endL) ((1:Nat):Int)) v]=xs++[xy x (zH (headL++r) (((1:Nat):Int)+0)) v]
  rw [Int.add_zero,qL (by omega) (by rw [zr]; omega),qL (by omega) (by rw [zr]; omega)]
 nameE:=fun p p0 hn=>by
  have p1:0<=p:=p0
  have hlt:p < (headE.length:Int):=jS hn
  rw [ji] at hlt
  obtain ⟨k,rfl⟩:∃ k:Nat,p=k:=⟨p.toNat,by omega⟩
  have hk:k=1:=zDi ⟨k,by omega⟩ hn
  subst hk
  show zH (headL++endL) ((1:Nat):Int)=[]↔zH (headL++r) (((1:Nat):Int)+0)=[]
  rw [Int.add_zero,qL (by omega) (by rw [zr]; omega),qL (by omega) (by rw [zr]; omega)]
 td:=fun _ _=>trivial
theorem zQF {r:List TokT} {x y:MT} (h:(simH r).MR x y):x=y:=h
theorem mo_eq {mo':Option (Option MT)} {x x':MT} (h:mo' = some (some x')) (h2:x=x') (h3:[]=x):mo' = some (some []):=by rw [h,<- h2,<- h3]
set_option maxRecDepth 100000 in
theorem zJh {r:List TokT} (h2:2<=r.length) (h3:r.length<=4000) {m:Nat} (hm:300<=m) :
 (rs 6000 m).c53 () (headL++r) (0,[[]])=some (some ((spN,(false,())),(1,[[]]))) /\
 (rs 6000 m).c56 () (headL++r) (1,[[]])=some (some (((dcN,([102],(true,()))),some (some [])),(5,[[]]))):=by
 have hW:=zRH h2 h3
 have hR:=rsp2 hW (fu:=6000) (by omega) 300 m
 rw [Nat.min_eq_left hm] at hR
 have hz:∀ x:Nd,shN (simH r).d x=x:=fun x=>zKB x
 constructor
 · obtain ⟨o,e1,e2⟩:=hR.h53 1 0 [[]] [[]] ⟨Int.le_refl _,by show (0:Int)<=(headE.length:Int); omega,Nat.le_refl _,rfl,rfl⟩ (by omega) (by show 20 * ((headE.length:Int) - 0)+(3:Nat) < (300:Nat); rw [ji]; omega)
   have e3:some (some ((spN,(false,())),(1,[[]])))=some o:=head_53.symm.trans e1
   injection e3 with e3
   obtain ⟨_,⟨⟨nd',b',u⟩,q',ys⟩,⟨k1,k2,k3,k4,k5,_⟩,k6⟩:=e2 _ e3.symm
   have k7:=k6 (by show 2 * (1:Int)+1<=14; omega)
   replace k2:q' = (1:Int)+0:=k2
   replace k4:nd' = shN (simH r).d spN:=k4
   replace k5:b' = false:=k5
   have k8:[[]]=ys:=k1.sr
   rw [hz] at k4
   rw [Int.add_zero] at k2
   subst k2 k4 k5 k8
   exact k7
 · obtain ⟨o,e1,e2⟩:=hR.h56 1 1 [[]] [[]] ⟨by show (0:Int)<=1; omega,by show (1:Int)<=(headE.length:Int); rw [ji]; omega,Nat.le_refl _,rfl,rfl⟩ (by omega) (by show 20 * ((headE.length:Int) - 1)+(2:Nat) < (300:Nat); rw [ji]; omega)
   have e3:some (some (((dcN,([102],(true,()))),some (some [])),(5,[[]])))=some o:=head_56.symm.trans e1
   injection e3 with e3
   obtain ⟨_,⟨⟨⟨nd',nm',fn',u⟩,mo'⟩,q',ys⟩,⟨k1,k2,k3,k4,k5,k9,k10,_⟩,k6⟩:=e2 _ e3.symm
   have k7:=k6 (by show 2 * (5:Int)+1<=14; omega)
   replace k2:q' = (5:Int)+0:=k2
   replace k4:nd' = shN (simH r).d dcN:=k4
   replace k9:fn' = true:=k9
   have k8:[[]]=ys:=k1.sr
   have k11:nm' = [102]:=by
    rcases k5 with ⟨k5,_⟩ | ⟨p,p0,hn,k5,k12⟩
    · replace k5:([102]:Str)=[]:=k5
      cases k5
    · replace p0:0<=p:=p0
      have hlt:p < (headE.length:Int):=jS hn
      rw [ji] at hlt
      obtain ⟨k,rfl⟩:∃ k:Nat,p=k:=⟨p.toNat,by omega⟩
      have hk:k=1:=zDi ⟨k,by omega⟩ hn
      subst hk
      replace k12:nm' = zH (headL++r) (((1:Nat):Int)+0):=k12
      rw [k12,Int.add_zero,qL (by omega) (by rw [zr]; omega)]
      exact head_text.1
   have k13:mo' = some (some []):=by
    rcases k10 with ⟨k10,_⟩ | ⟨k10,_⟩ | ⟨x,x',k10,k11,k12⟩
    · exact absurd k10 (fun e=>by replace e:(some (some []):Option (Option MT))=none:=e; cases e)
    · replace k10:(some (some []):Option (Option MT))=some none:=k10
      injection k10 with k10; exact absurd k10 (fun e=>by cases e)
    · refine mo_eq k11 (zQF k12) ?_
      have k14:∀ {o:Option (Option MT)},o=some (some [])->o=some (some x)->[]=x:=fun e1 e2=>by subst e1; injection e2 with e2; injection e2 with e2
      exact k14 rfl k10
   rw [hz] at k4
   rw [Int.add_zero] at k2
   subst k2 k4 k9 k8 k11 k13
   exact k7
end
section
open Go.Al Go.Den Go.RowKit
attribute [local congr] qt jY js kP qC ql xW xX jC jT qr j0 qv jA xP xj qk jz jr qR jV qw qP qQ qi qn qM qu qo qS kp jx jq jX jU jP qp qO qN
abbrev parE:SK UU:=.box [.bl TI.tok,.int .i64,.scs,.jm]
abbrev k17e:LK:=[.bl TI.tok,parE,ptsK]
noncomputable def zLz:FI UU:=⟨fd17.fi.wr,fd17.fi.own,fd17.fi.kf,zB [(6,⟨[0,2,3,4,5],[],[(4,parE),(5,ptsK)]⟩)],fd17.fi.jn,fd17.fi.kl⟩
noncomputable def run17e (v2 v3:Value) (x:zA k17e):Option (Option (zA ([parE,ptsK]:LK))):=
 runQ CC Tb 2 3 (zB [(36,fd36)]) (zB []) (zB [(38,jg)]) (zB []) zLz zCr [(2,v2),(3,v3)] false [0,4,5] [4,5] k17e ([parE,ptsK]:LK) x
def x17e:zA k17e:=(show (Bool×List TokT)×((Bool×List TokT)×Int×List MT×Unit×Unit)×NdsT×Unit from ((false,[]),((false,[]),0,[[]],(),()),([],()),()))
def y17e:zA ([parE,ptsK]:LK):=(show ((Bool×List TokT)×Int×List MT×Unit×Unit)×NdsT×Unit from (((false,[]),0,[[]],(),()),([],()),()))
theorem eq17e (v2 v3:Value):run17e v2 v3 x17e=some (some y17e):=by kernel_rfl
theorem zLp (v2 v3:Value) {X:Cx} (hX:X.N=⟨28,[(2,v2),(3,v3)]⟩)
 {s0:S} {vx:List V} {rs:List Res} (hv:VKs CC s0 k17e x17e vx rs) (hn:rs.Nodup):awp Tryz.prog X zCr (zIH CC syn ([parE,ptsK]:LK) false [(2,v2),(3,v3)] [4,5] (some y17e)) (conE [(2,v2),(3,v3)] (zipE [0,4,5] vx)) s0:=by
 exact zG2 (fu:=2) (d:=3) (inl:=zB [(36,fd36)]) (orc:=zB []) (orr:=zB [(38,jg)]) (orp:=zB []) (pf:=hasN []) (rf:=hasN [38]) yo CCok mixed (fun g=>(zL (α:=Con UU) (l:=[]) g).symm) (fun g=>(zL (α:=CR UU) (l:=[(38,jg)]) g).symm)
  (zE zHO zD) zD (zE ⟨zF7,ok38⟩ zD) zD (fi:=zLz) (cs:=[(2,v2),(3,v3)]) (slots:=[0,4,5]) (oslots:=[4,5]) (by rw [hX]; kernel_rfl) (by kernel_rfl) (eq17e v2 v3) (by
   intro p hp
   have hd:dsts zLz zCr=[16,17,18,19,20,21,22,23,24,25,26]:=by kernel_rfl
   rw [hd]
   simp only [List.mem_cons,List.not_mem_nil,or_false] at hp
   rcases hp with rfl | rfl
   · show (2:Nat) ∉ _; decide
   · show (3:Nat) ∉ _; decide) hv hn
set_option maxRecDepth 100000 in
set_option maxHeartbeats 2000000 in
theorem zOQ (a:Option Addr) (cap:Nat) (wm:Nat->Nat) (w:World) (hwm:∀ b,w.heap.size<=b->wm b=0) (hgl:GlobOk w.heap.size wm w)
 (hu:RC ⟨wm,fun _=>none,Fr.no⟩ w (.lst .no []) [.slice a 0 cap]) :
 Calls Tryz.prog 17 #[.slice a 0 cap] w fun e w'=>∃ v wm',e = .returned v/\(∀ b,w'.heap.size<=b->wm' b=0)/\Step w.heap.size ⟨wm,fun _=>none,Fr.no⟩ w ⟨wm',fun _=>none,Fr.no⟩ w'/\RV ⟨wm',fun _=>none,Fr.no⟩ w' (.tup [z6 (Nd.mk 1 0 []),.at (.int .i64 0)]) v:=by
 have h4:¬ ((4000:Int) < ((0:Nat):Int)):=by decide
 have hmf:∀ fn first cap w,(Instr.makeFunc fn first cap).run Tryz.prog w = .ok (.func fn first cap) w:=fun _ _ _ _=>rfl
 have hmk:∀ w,(Instr.makeMap 63 none).run Tryz.prog w = .ok (.map (some w.heap.size)) (w.alloc (.map #[] 0)):=fun _=>by kernel_rfl
 go_enter_defers Tryz.func17,Tryz.ntmps17
 go_wp2
 rename_i hle K hK
 have B0:Below w.heap.size w ((((((w.alloc (.cells #[.int .i64 0,.int .i64 0,.slice none 0 0] 29)).alloc (.cells #[.int .i64 0] 30)).alloc (.map #[] 0)).alloc (.cells #[.map (some (w.heap.size+1+1))] 63)).alloc
  (.cells #[.slice a 0 cap,.int .i64 0,.slice (some ⟨w.heap.size+1+1+1,0,none⟩) 1 1,.map none] 66)).alloc (.cells #[.slice none 0 0] 68)):=
  ((((((Below.refl _ w).alloc (Nat.le_refl _) _).alloc (by simp) _).alloc (by simp; omega) _).alloc (by simp; omega) _).alloc (by simp; omega) _).alloc (by simp; omega) _
 obtain ⟨W6,hW6⟩:∃ W6,((((((w.alloc (.cells #[.int .i64 0,.int .i64 0,.slice none 0 0] 29)).alloc (.cells #[.int .i64 0] 30)).alloc (.map #[] 0)).alloc (.cells #[.map (some (w.heap.size+1+1))] 63)).alloc
  (.cells #[.slice a 0 cap,.int .i64 0,.slice (some ⟨w.heap.size+1+1+1,0,none⟩) 1 1,.map none] 66)).alloc (.cells #[.slice none 0 0] 68))=W6:=⟨_,rfl⟩
 obtain ⟨hsz,q0,q1,q2,q3,q4,q5⟩:=six w _ _ _ _ _ _ hW6
 rw [hW6] at B0 ⊢
 have hL:Later ⟨wm,fun _=>none,Fr.no⟩ w ⟨wm,fun t=>if t=0 then some none else none,Fr.no⟩ W6:=⟨fun _=>Nat.le_refl _,(fun _ _ e=>(by cases e)),fun b o ho=>World.cell?_of_block (B0.block b (by
  rcases Nat.lt_or_ge b w.heap.size with hh | hh
  · exact hh
  · replace ho:o < wm b:=ho; rw [hwm b hh] at ho; omega))⟩
 have hu':=zBG hL _ _ hu
 have i0:=inv17 (toks:=.lst .no []) hwm hsz q2 q3 q4 q5 rfl hu'
 have hV:VKs CC ⟨[(w.heap.size+4,[.lst .no [],.at (.int .i64 0),.at (.slice (some ⟨w.heap.size+3,0,none⟩) 1 1),.at (.map none)],4),(w.heap.size+5,[.lst (.own 0 true 3) []],1)],[0],1,[(w.heap.size+3,.sc [[]] 1,[w.heap.size+3,w.heap.size+2])]⟩
  k17e x17e [.lst .no [],.at (pv (w.heap.size+4)),.at (pv (w.heap.size+5))] [.inr (w.heap.size+4),.ob (w.heap.size+3),.inr (w.heap.size+5),.inl 0]:=
  ⟨_,_,[],_,rfl,rfl,⟨rfl,rfl⟩,_,_,[.inr (w.heap.size+4),.ob (w.heap.size+3)],[.inr (w.heap.size+5),.inl 0],rfl,rfl,⟨_,[.lst .no [],.at (.int .i64 0),.at (.slice (some ⟨w.heap.size+3,0,none⟩) 1 1),.at (.map none)],[.ob (w.heap.size+3)],rfl,by simp [Al.look],
   ⟨_,_,[],[.ob (w.heap.size+3)],rfl,rfl,⟨rfl,rfl⟩,_,_,[],[.ob (w.heap.size+3)],rfl,rfl,⟨rfl,rfl⟩,_,_,[.ob (w.heap.size+3)],[],rfl,rfl,⟨w.heap.size+3,1,_,rfl,by rw [z7,if_pos rfl]; rfl,rfl⟩,_,_,[],[],rfl,rfl,⟨⟨none,rfl⟩,rfl⟩,rfl,rfl⟩,rfl⟩,
   _,_,[.inr (w.heap.size+5),.inl 0],[],rfl,rfl,⟨_,[.lst (.own 0 true 3) []],[.inl 0],rfl,by simp [Al.look],⟨_,_,[.inl 0],[],rfl,rfl,⟨0,rfl,by simp,by simp,rfl⟩,rfl,rfl⟩,rfl⟩,rfl,rfl⟩
 have H:=zLp (pv w.heap.size) (pv (w.heap.size+1)) (X:=⟨w.heap.size+2,⟨28,[(2,pv w.heap.size),(3,pv (w.heap.size+1))]⟩,none,zEy w.heap.size⟩) rfl hV (by simp)
 refine wpIn_wide.1 (wpIn_mono (H ⟨wm,fun t=>if t=0 then some none else none,Fr.no⟩ _ W6 ⟨i0,fun k=>?_,⟨rfl,fun p hp=>?_⟩,rfl,(hgl.below B0 fun _=>Nat.le_refl _).mono (Nat.le_add_right _ 2)⟩) ?_)
 · have hat:∀ v:Value,one v=true->RV ⟨wm,fun t=>if t=0 then some none else none,Fr.no⟩ W6 (.at v) v:=fun v hv=>RV.of_RV1 ⟨[v],by simp [RC,hv],rfl⟩
   show RV _ _ (Env.get [(2,.at (pv w.heap.size)),(3,.at (pv (w.heap.size+1))),(0,.lst .no []),(4,.at (pv (w.heap.size+4))),(5,.at (pv (w.heap.size+5)))] k) _
   simp only [Env.get]
   split
   · rename_i e; subst e; exact hat _ rfl
   split
   · rename_i e; subst e; exact hat _ rfl
   split
   · rename_i e; subst e; exact RV.of_RV1 ⟨_,hu',rfl⟩
   split
   · rename_i e; subst e; exact hat _ rfl
   split
   · rename_i e; subst e; exact hat _ rfl
   trivial
 · simp only [List.mem_cons,List.not_mem_nil,or_false] at hp
   rcases hp with rfl | rfl <;> rfl
 · rintro ex a' w' ⟨g',e',s',k1,k2,k3⟩
   have S1:Step w.heap.size ⟨wm,fun t=>if t=0 then some none else none,Fr.no⟩ W6 g' w':=⟨k1.later,k1.below.mono (Nat.le_add_right _ 2),k1.fz,fun b hb=>k1.wmB b (Nat.lt_of_lt_of_le hb (Nat.le_add_right _ 2)),k1.fr⟩
   have p0:w'.heap[w.heap.size]? = _:=(k1.below.block _ (by show w.heap.size < w.heap.size+2; omega)).trans q0
   have p1:w'.heap[w.heap.size+1]? = _:=(k1.below.block _ (by show w.heap.size+1 < w.heap.size+2; omega)).trans q1
   have hw0:g'.wm w.heap.size=0:=(k1.wmB _ (by show w.heap.size < w.heap.size+2; omega)).trans (hwm _ (Nat.le_refl _))
   have hw1:g'.wm (w.heap.size+1)=0:=(k1.wmB _ (by show w.heap.size+1 < w.heap.size+2; omega)).trans (hwm _ (Nat.le_succ _))
   have hg':GlobOk w.heap.size g'.wm w':=hgl.below (B0.trans S1.below) fun b=>k1.later.wm b
   have all:∀ g2 W2,Step w.heap.size ⟨wm,fun t=>if t=0 then some none else none,Fr.no⟩ W6 g2 W2->Step w.heap.size ⟨wm,fun _=>none,Fr.no⟩ w ⟨g2.wm,fun _=>none,Fr.no⟩ W2:=fun g2 W2 S2=>
    ⟨⟨S2.later.wm,(fun _ _ e=>(by cases e)),fun b o ho=>(S2.later.cell b o ho).trans (hL.cell b o ho)⟩,B0.trans S2.below,(fun b hb=>by cases hb),S2.wmB,rfl⟩
   have good:QEnd CC ([parE,ptsK]:LK) [(2,pv w.heap.size),(3,pv (w.heap.size+1))] [4,5] (some y17e) e' s'->K a' w':=by
    intro hq
    refine hK a' w' (zNI k2 hq p0 p1 hw0 hw1 hg' k1.fr fun g2 W2 v r1 r2 r3=>?_)
    exact ⟨v,g2.wm,rfl,r2,all g2 W2 (S1.trans r1),RV.fr _ _ r3⟩
   cases ex with
   | normal=>exact good k3
   | ret=>cases k3.1
   | exit id=>
    obtain ⟨⟨rfl,_⟩,k3⟩:=k3
    exact good k3
   | panic c=>cases k3.2
   | goto l=>exact k3.elim
   | outgrown=>exact k3.elim
theorem zPs:xz Tryz.prog 17 [.lst .no []] (.tup [z6 (Nd.mk 1 0 []),.at (.int .i64 0)]):=by
 intro wm w vs hwm hgl hv
 obtain ⟨v,rfl⟩:∃ v,vs=[v]:=by cases hv with | cons _ hv=>cases hv; exact ⟨_,rfl⟩
 cases hv with
 | cons h _=>
  obtain ⟨us,h1,h2⟩:=h
  obtain ⟨a,cap,rfl,rfl⟩:∃ a cap,v = .slice a 0 cap/\us=[.slice a 0 cap]:=by
   have h1':=h1
   simp only [RC] at h1
   rcases h1 with ⟨e,rfl,_⟩ | ⟨b,o,cap,ds,rfl,_⟩
   · exact ⟨none,0,by rw [h2]; simp [pack],rfl⟩
   · exact ⟨some ⟨b,o,none⟩,cap,h2,rfl⟩
  exact zOQ a cap wm w hwm hgl h1
theorem nil_no {g:Gh} {w:World} {t:V} {r:List V} {us:List Value} (h:RC g w (.lst .nil (t::r)) us):False:=by
 simp only [RC] at h
 rcases h with ⟨e,_⟩ | ⟨_,_,_,_,_,_,ht,_⟩
 · cases e
 · exact ht
abbrev zEs:List (AK UU):=[.ls TI.tok]
theorem ok17l (fu n:Nat):ConOk CC Tryz.prog 17 ⟨zEs,rs17,c17 fu n⟩:=fun x y hx vs hvs=>by
 obtain ⟨l,u⟩:=x
 obtain ⟨v,vs',rfl,⟨nb,hv⟩,hvs⟩:=hvs
 replace hvs:vs' = []:=hvs
 subst hvs
 replace hv:v = .lst (if nb then .nil else .no) (List.map (CC.encV TI.tok) (show List TokT from l)):=hv
 change List TokT at l
 have e:finV ((xI CC rs17 (fun _=>false) 0 y).map (trT CC ⟨id,id,id,id⟩)) = .tup [z6 y.1,.at (.int .i64 y.2.1)]:=zNj y.1 y.2.1
 show xz Tryz.prog 17 [v] (finV ((xI CC rs17 (fun _=>false) 0 y).map (trT CC ⟨id,id,id,id⟩)))
 rw [e]
 cases l with
 | cons t r=>
  cases nb with
  | false=>exact zL4 fu n (t::r) u y hx _ ⟨v,[],rfl,hv,rfl⟩
  | true=>
   subst hv
   intro wm w vs hwm hgl hv
   cases hv with
   | cons h _=>
    obtain ⟨us,h1,h2⟩:=h
    exact (nil_no h1).elim
 | nil=>
  cases nb with
  | true=>exact zL4 fu n [] u y hx _ ⟨v,[],rfl,hv,rfl⟩
  | false=>
   subst hv
   have h0:c17 fu n ([],u)=(sh17 fu (.int .i64 0) (.int .i64 0) (rs fu n).c37 (x17 [])).map cv17:=if_pos (Nat.zero_le 4000)
   replace hx:c17 fu n ([],u)=some y:=hx
   rw [h0] at hx
   cases fu with
   | zero=>cases hx
   | succ k=>
    have h2:some (Nd.mk 1 0 [],((0:Int),()))=some y:=hx
    injection h2 with h2
    subst h2
    exact zPs
end
section
open Go.Al Go.Den
def kf7b:Nat->List Nat
 | 0=>[0]
 | 1=>[0,3]
 | 2=>[0,3,21]
 | 3=>[2]
 | 4=>[0,3,4]
 | 5=>[3,4,5]
 | 6=>[3,4,5,6]
 | 7=>[3,4,5,6,7]
 | 8=>[3,5,6,7,8]
 | 9=>[3,6,7,8]
 | 10=>[3,7,8]
 | 11=>[3,8,9,10]
 | 12=>[3,9,10,11,12]
 | 13=>[3,10,11,12,13,14]
 | 14=>[3,11,12,13,69]
 | 15=>[2]
 | 16=>[3,12,13,15,16]
 | 17=>[3,12,15,16,17]
 | 18=>[2]
 | _=>[]
def hd7b:List (Nat×Head UU):=[]
def jn7b:List (Nat×Head UU):=[]
noncomputable def fd7b:FD UU:=⟨⟨fun d=>hasN [] d,fun d=>hasN [27,34] d,kf7b,zB hd7b,zB jn7b,zf []⟩,zV Tryz.f7,105,[.tmp 2]⟩
noncomputable def run7b (fu:Nat) (c14:Unit->Option (Bool×Unit)) (c17:List TokT×Unit->Option (Nd×Int×Unit)) (c18:List UInt8×Unit->Option (List TokT×Unit)) (c19:Nd×Nd×Unit->Option (Bool×Unit)) (c21:Nd×Int×Unit->Option (Nd×Unit)) (c22:Nd×Unit->Option (Nd×Bool×Unit)) (nf:Nat->Bool) (x0:List UInt8):Option (zR rs7):=
 jv CC Tb fu 2 (zB []) (zB [(14,(⟨as14,rs14,c14⟩:Con UU)),(17,(⟨zEs,rs17,c17⟩:Con UU)),(18,(⟨as18,rs18,c18⟩:Con UU)),(19,(⟨as19,rs19,c19⟩:Con UU)),(21,(⟨as21,rs21,c21⟩:Con UU)),(22,(⟨as22,rs22,c22⟩:Con UU))]) (zB []) (zB []) fd7b as7 rs7 nf (x0,())
theorem fdok7b:FDOk Tryz.prog (hasN [14,17,18,19,21,22]) (hasN []) 7 fd7b:=⟨⟨Tryz.f7,Tryz.func7,by kernel_rfl,Tryz.ntmps7,Tryz.results7⟩,by kernel_rfl,by kernel_rfl,by kernel_rfl⟩
end
section
open Go.Al Go.Den
def sh7b (fu:Nat) (c14:Unit->(Option (Bool×Unit))) (c17:(LT×Unit)->(Option (Nd×(Int×Unit)))) (c18:(Str×Unit)->(Option (LT×Unit))) (c19:(Nd×(Nd×Unit))->(Option (Bool×Unit))) (c21:(Nd×(Int×Unit))->(Option (Nd×Unit))) (c22:(Nd×Unit)->(Option (Nd×(Bool×Unit)))) (nf:Nat->Bool) (x0:Str):(Option (Bool×Unit)):=Option.bind (c14 ()) fun y0=>cond (ilt 300 (lenI x0)) (some (y0.1,())) (Option.bind (c18 ([105,110,116,32,102,40,118,111,105,100,41,32,123,32,114,101,116,117,114,110],())) fun y1=>Option.bind (c18 (x0,())) fun y2=>Option.bind (c18 ([59,32,125],())) fun y3=>cond (okN 56 (0+(List.length y1.1))) (cond (okN 56 ((List.length ([]++y1.1))+(List.length y2.1))) (cond (okN 56 ((List.length (([]++y1.1)++y2.1))+(List.length y3.1))) (cond (okN 56 (0+(List.length y1.1))) (cond (okN 56 ((List.length ([]++y1.1))+1)) (cond (okN 56 ((List.length (([]++y1.1)++[(TokT.mk 5 [40] 0 0 0 false)]))+(List.length y2.1))) (cond (okN 56 ((List.length ((([]++y1.1)++[(TokT.mk 5 [40] 0 0 0 false)])++y2.1))+1)) (cond (okN 56 ((List.length (((([]++y1.1)++[(TokT.mk 5 [40] 0 0 0 false)])++y2.1)++[(TokT.mk 5 [41] 0 0 0 false)]))+(List.length y3.1))) (Option.bind (c17 (((([]++y1.1)++y2.1)++y3.1),())) fun y4=>Option.bind (c17 (((((([]++y1.1)++[(TokT.mk 5 [40] 0 0 0 false)])++y2.1)++[(TokT.mk 5 [41] 0 0 0 false)])++y3.1),())) fun y5=>Option.bind (c22 ((ndE y4.1),())) fun y6=>cond (ine y4.2.1 0) (some (y0.1,())) (cond (!y6.2.1) (some (y0.1,())) (Option.bind (c22 ((ndE y5.1),())) fun y7=>Option.bind (c21 ((ndE y6.1),(1,()))) fun y8=>cond y0.1 (cond (ieq y5.2.1 0) (cond y7.2.1 (cond (ieq (Nd.kind y7.1) 43) (cond (ieq (lenI (Nd.kids y7.1)) 3) (cond (inB 1 (List.length (Nd.kids y7.1))) (Option.bind (c19 ((Nd.mk (Nd.kind (List.getD (Nd.kids y7.1) 1 ze)) (Nd.tok (List.getD (Nd.kids y7.1) 1 ze)) (Nd.kids (List.getD (Nd.kids y7.1) 1 ze))),((ndE y8.1),()))) fun y9=>some (y9.1,())) (none)) (some (false,()))) (some (false,()))) (some (false,()))) (some (false,()))) (some (false,()))))) (none)) (none)) (none)) (none)) (none)) (none)) (none)) (none))
theorem eq7b:@run7b = @sh7b:=by kernel_rfl
theorem con7b (fu:Nat) (c14:zR as14->Option (zR rs14)) (h14:ConOk CC Tryz.prog 14 ⟨as14,rs14,c14⟩) (c17:zR zEs->Option (zR rs17)) (h17:ConOk CC Tryz.prog 17 ⟨zEs,rs17,c17⟩) (c18:zR as18->Option (zR rs18)) (h18:ConOk CC Tryz.prog 18 ⟨as18,rs18,c18⟩) (c19:zR as19->Option (zR rs19)) (h19:ConOk CC Tryz.prog 19 ⟨as19,rs19,c19⟩) (c21:zR as21->Option (zR rs21)) (h21:ConOk CC Tryz.prog 21 ⟨as21,rs21,c21⟩) (c22:zR as22->Option (zR rs22)) (h22:ConOk CC Tryz.prog 22 ⟨as22,rs22,c22⟩):ConOk CC Tryz.prog 7 ⟨as7,rs7,fun x=>sh7b fu c14 c17 c18 c19 c21 c22 (fun _=>false) x.1⟩:=
 x6 (c:=⟨as7,rs7,fun x=>sh7b fu c14 c17 c18 c19 c21 c22 (fun _=>false) x.1⟩) (syn:=syn) (fu:=fu) (d:=2) (inl:=zB []) (orc:=zB [(14,(⟨as14,rs14,c14⟩:Con UU)),(17,(⟨zEs,rs17,c17⟩:Con UU)),(18,(⟨as18,rs18,c18⟩:Con UU)),(19,(⟨as19,rs19,c19⟩:Con UU)),(21,(⟨as21,rs21,c21⟩:Con UU)),(22,(⟨as22,rs22,c22⟩:Con UU))]) (orr:=zB []) (orp:=zB []) (pf:=hasN [14,17,18,19,21,22]) (rf:=hasN []) yo CCok mixed (fun g=>(zL (α:=Con UU) (l:=[(14,(⟨as14,rs14,c14⟩:Con UU)),(17,(⟨zEs,rs17,c17⟩:Con UU)),(18,(⟨as18,rs18,c18⟩:Con UU)),(19,(⟨as19,rs19,c19⟩:Con UU)),(21,(⟨as21,rs21,c21⟩:Con UU)),(22,(⟨as22,rs22,c22⟩:Con UU))]) g).symm) (fun g=>(zL (α:=CR UU) (l:=[]) g).symm) (zD) (zE ⟨code14,h14⟩ (zE ⟨zJt,h17⟩ (zE ⟨zJ6,h18⟩ (zE ⟨zN9,h19⟩ (zE ⟨zNH,h21⟩ (zE ⟨code22,h22⟩ (zD))))))) (zD) (zD) fdok7b (by show 1<=105; decide) (xR rfl) (fun nf x=>by show run7b fu c14 c17 c18 c19 c21 c22 nf x.1=_; rw [eq7b]; rfl)
end
section
open Go.Al Go.Den
def oTok:TokT:=⟨5,[40],0,0,0,false⟩
def cTok:TokT:=⟨5,[41],0,0,0,false⟩
noncomputable def oneL (l:List TokT):List TokT:=headL++(l++endL)
noncomputable def twoL (l:List TokT):List TokT:=headL++(oTok::(l++(cTok::endL)))
theorem zAZ {r:List TokT} {p:Int} (h:7<=p):tkA (headL++r) p=tkA r (p - 7):=by
 unfold tkA
 rw [List.getD_eq_getElem?_getD,List.getD_eq_getElem?_getD,List.getElem?_append_right (by rw [zr]; omega),zr]
 rw [show p.toNat - 7=(p - 7).toNat by omega]
theorem zE2 {a:TokT} {r:List TokT} {p:Int} (h:0<=p):tkA (a::r) (p+1)=tkA r p:=by
 unfold tkA
 rw [show (p+1).toNat=p.toNat+1 by omega]
 rfl
section
variable {l:List TokT} {p:Int}
theorem zGL (h:7<=p) (h2:p < 7+(l.length:Int)):tkA (oneL l) p=tkA l (p - 7):=by
 unfold oneL
 rw [zAZ h,zBV (by omega) (by omega)]
theorem zGl (h:7<=p) (h2:p < 7+(l.length:Int)):tkA (twoL l) (p+1)=tkA l (p - 7):=by
 unfold twoL
 rw [zAZ (by omega),show p+1 - 7=(p - 7)+1 by omega,zE2 (by omega),zBV (by omega) (by omega)]
theorem kG:(oneL l).length=l.length+9:=by unfold oneL; rw [List.length_append,List.length_append,zr,kr]; omega
theorem zAd:(twoL l).length=l.length+11:=by unfold twoL; rw [List.length_append,List.length_cons,List.length_append,List.length_cons,zr,kr]; omega
theorem zEF {m:List TokT} {a:TokT} {r:List TokT}:tkA (m++(a::r)) m.length=a:=by
 unfold tkA
 rw [Int.toNat_natCast,List.getD_eq_getElem?_getD,List.getElem?_append_right (Nat.le_refl _)]; simp
theorem one_semi:(tkA (oneL l) (7+l.length)).kind=5/\(tkA (oneL l) (7+l.length)).text=[59]/\(tkA (oneL l) (8+l.length)).kind=5/\(tkA (oneL l) (8+l.length)).text=[125]:=by
 obtain ⟨s,c,e,h1,h2,h3,h4⟩:=zIY
 have e1:tkA (oneL l) (7+l.length)=s:=by
  unfold oneL
  rw [zAZ (by omega),show (7:Int)+l.length - 7=l.length by omega,e,zEF]
 have e2:tkA (oneL l) (8+l.length)=c:=by
  unfold oneL
  rw [zAZ (by omega),show (8:Int)+l.length - 7=((l++[s]).length:Nat) by rw [List.length_append]; simp; omega,e,show l++[s,c]=(l++[s])++[c] by simp,zEF]
 rw [e1,e2]
 exact ⟨h1,h2,h3,h4⟩
theorem two_signs:tkA (twoL l) 7=oTok/\tkA (twoL l) (8+l.length)=cTok/\(tkA (twoL l) (9+l.length)).kind=5/\(tkA (twoL l) (9+l.length)).text=[59]/\(tkA (twoL l) (10+l.length)).kind=5/\(tkA (twoL l) (10+l.length)).text=[125]:=by
 obtain ⟨s,c,e,h1,h2,h3,h4⟩:=zIY
 have e0:tkA (twoL l) 7=oTok:=by
  unfold twoL
  rw [zAZ (by omega)]; rfl
 have e1:tkA (twoL l) (8+l.length)=cTok:=by
  unfold twoL
  rw [zAZ (by omega),show (8:Int)+l.length - 7=(l.length:Int)+1 by omega,zE2 (by omega),zEF]
 have e2:tkA (twoL l) (9+l.length)=s:=by
  unfold twoL
  rw [zAZ (by omega),show (9:Int)+l.length - 7=((l++[cTok]).length:Int)+1 by rw [List.length_append]; simp; omega,zE2 (by omega),e,show l++(cTok::[s,c])=(l++[cTok])++(s::[c]) by simp,zEF]
 have e3:tkA (twoL l) (10+l.length)=c:=by
  unfold twoL
  rw [zAZ (by omega),show (10:Int)+l.length - 7=((l++[cTok,s]).length:Int)+1 by rw [List.length_append]; simp; omega,zE2 (by omega),e,show l++(cTok::[s,c])=(l++[cTok,s])++[c] by simp,zEF]
 rw [e0,e1,e2,e3]
 exact ⟨rfl,rfl,h1,h2,h3,h4⟩
theorem zBr {L:List TokT} {q:Int} (h:q < (L.length:Int)) (hk:(tkA L q).kind=5):zH L q=(tkA L q).text:=by
 unfold zH; rw [if_neg (by omega),if_pos (.inr hk)]
theorem zE3 {L:List TokT} {q:Int} (hk:(tkA L q).kind=5):zh L q=false:=by
 unfold zh; rw [hk]; simp
noncomputable def simK (l:List TokT):Sim:=⟨oneL l,twoL l,1,fun k=>k<=2 * (7+(l.length:Int))+1,fun xs ys=>xs=ys,fun x y=>x=y,True,7⟩
theorem zF3 (h:7<=p) (h2:p < 7+(l.length:Int)):zH (oneL l) p=zH (twoL l) (p+1):=by
 unfold zH
 rw [zGL h h2,zGl h h2,if_neg (show ¬ ((oneL l).length:Int)<=p by rw [kG]; omega),if_neg (show ¬ ((twoL l).length:Int)<=p+1 by rw [zAd]; omega)]
theorem zNR (h:7<=p) (h2:p<=7+(l.length:Int)):zh (oneL l) p=zh (twoL l) (p+1):=by
 by_cases h3:p < 7+(l.length:Int)
 · unfold zh
   rw [zGL h h3,zGl h h3,decide_eq_true (show p < ((oneL l).length:Int) by rw [kG]; omega),decide_eq_true (show p+1 < ((twoL l).length:Int) by rw [zAd]; omega)]
 · obtain rfl:p=7+l.length:=by omega
   rw [zE3 one_semi.1,zE3 (L:=twoL l) (q:=7+l.length+1) (by rw [show (7:Int)+l.length+1=8+l.length by omega,two_signs.2.1]; rfl)]
theorem k_lt (hn:zh (oneL l) p=true) (h:7<=p):p < 7+(l.length:Int):=by
 have h1:=jS hn
 rw [kG] at h1
 apply Classical.byContradiction
 intro h2
 by_cases h3:p=7+l.length
 · subst h3
   rw [zE3 one_semi.1] at hn; cases hn
 · obtain rfl:p=8+l.length:=by omega
   rw [zE3 one_semi.2.2.1] at hn; cases hn
theorem weak_no:([59]:Str) ∉ weakW/\([41]:Str) ∉ weakW:=by decide
theorem zRb (hl:l.length<=3000):(simK l).Ok where
 lenA:=by show (oneL l).length<=4000; rw [kG]; omega
 lenB:=by show (twoL l).length < 1000000; rw [zAd]; omega
 d0:=by show (0:Int)<=1; omega
 lo0:=by show (0:Int)<=7; omega
 lenAB:=by show ((oneL l).length:Int)+1<=(twoL l).length; rw [kG,zAd]; omega
 mono:=fun {a b} h h2=>by show a<=2 * (7+(l.length:Int))+1; replace h2:b<=2 * (7+(l.length:Int))+1:=h2; omega
 weak:=fun p p0 _ hA w hw=>by
  replace p0:7<=p:=p0
  replace hA:2 * p+1<=2 * (7+(l.length:Int))+1:=hA
  show zH (oneL l) p=w↔zH (twoL l) (p+1)=w
  by_cases h3:p < 7+(l.length:Int)
  · rw [zF3 p0 h3]
  · obtain rfl:p=7+l.length:=by omega
    rw [zBr (by rw [kG]; omega) one_semi.1,one_semi.2.1,show (7:Int)+l.length+1=8+l.length by omega,zBr (by rw [zAd]; omega) (by rw [two_signs.2.1]; rfl),two_signs.2.1]
    exact ⟨fun e=>absurd (e ▸ hw) weak_no.1,fun e=>absurd ((show ([41]:Str)=w from e) ▸ hw) weak_no.2⟩
 full:=fun p p0 _ hA w hw=>by
  replace p0:7<=p:=p0
  replace hA:2 * p+2<=2 * (7+(l.length:Int))+1:=hA
  show zH (oneL l) p=w↔zH (twoL l) (p+1)=w
  rw [zF3 p0 (by omega)]
 name:=fun p p0 _ hA=>by
  replace p0:7<=p:=p0
  replace hA:2 * p+1<=2 * (7+(l.length:Int))+1:=hA
  exact zNR p0 (by omega)
 kind:=fun k p p0 _ hA=>by
  replace p0:7<=p:=p0
  replace hA:2 * p+1<=2 * (7+(l.length:Int))+1:=hA
  show yn k (oneL l) p=yn k (twoL l) (p+1)
  unfold yn
  rw [decide_eq_true (show p < ((oneL l).length:Int) by rw [kG]; omega),decide_eq_true (show p+1 < ((twoL l).length:Int) by rw [zAd]; omega)]
  by_cases h3:p < 7+(l.length:Int)
  · rw [zGL p0 h3,zGl p0 h3]
  · obtain rfl:p=7+l.length:=by omega
    rw [one_semi.1,show (7:Int)+l.length+1=8+l.length by omega,two_signs.2.1]; rfl
 type:=fun p xs ys p0 _ e hA=>by
  replace p0:7<=p:=p0
  replace hA:2 * p+1<=2 * (7+(l.length:Int))+1:=hA
  replace e:xs=ys:=e
  subst e
  show yy (oneL l) xs p=yy (twoL l) xs (p+1)
  unfold yy
  rw [<- zNR p0 (by omega)]
  cases hn:zh (oneL l) p
  · rfl
  · have:=k_lt hn p0
    rw [zGL p0 this,zGl p0 this]
 srlen:=fun {xs ys} e=>by replace e:xs=ys:=e; rw [e]
 push:=fun {xs ys x y} e e2=>by replace e:xs=ys:=e; replace e2:x=y:=e2; subst e e2; rfl
 mr0:=rfl
 pop:=fun {xs ys x y} e _=>by
  replace e:xs++[x]=ys++[y]:=e
  obtain ⟨h1,h2⟩:=List.append_inj' e rfl
  exact ⟨h1,by injection h2⟩
 dcl:=fun {xs ys x y p v} e p0 hn _=>by
  replace e:xs++[x]=ys++[y]:=e
  replace p0:7<=p:=p0
  obtain ⟨h1,h2⟩:=List.append_inj' e rfl
  injection h2 with h2
  subst h1 h2
  show xs++[xy x (zH (oneL l) p) v]=xs++[xy x (zH (twoL l) (p+1)) v]
  rw [zF3 p0 (k_lt hn p0)]
 nameE:=fun p p0 hn=>by
  replace p0:7<=p:=p0
  show zH (oneL l) p=[]↔zH (twoL l) (p+1)=[]
  rw [zF3 p0 (k_lt hn p0)]
 td:=fun _ _=>trivial
end
def retT (sp dc x:Nd) (q:Int):Nd:=Nd.mk 1 0 [Nd.mk 2 0 [sp,dc,Nd.mk 20 0 [Nd.mk 0 5 [],Nd.mk 26 0 [Nd.mk 0 6 [],x,Nd.mk 0 q []],Nd.mk 0 (q+1) []]]]
theorem zHA {r:List TokT}:isF [[59]] (headL++r) 1=false/\isF [[123]] (headL++r) 5=true/\isF [[125]] (headL++r) 6=false/\zH (headL++r) 6=zBy/\(tkA (headL++r) 6).kind=1/\∀ xs,xs.length < 3->ym (headL++r) xs 6=false:=by
 obtain ⟨h1,h2,h3,h4⟩:=head_text
 have t1:zH (headL++r) 1=[102]:=by rw [qL (by omega) (by rw [zr]; omega),h1]
 have t5:zH (headL++r) 5=[123]:=by rw [qL (by omega) (by rw [zr]; omega),h2]
 have t6:zH (headL++r) 6=zBy:=by rw [qL (by omega) (by rw [zr]; omega),h3]
 have k6:(tkA (headL++r) 6).kind=1:=by rw [zBV (by omega) (by rw [zr]; omega),h4]
 refine ⟨(jc _ t1).trans (by decide),(jc _ t5).trans (by decide),(jc _ t6).trans (by decide),t6,k6,fun xs _=>?_⟩
 have hn:zh (headL++r) 6=false:=by
  have htk:(tkA (headL++r) 6).text=zBy:=by
   unfold zH at t6
   rw [if_neg (by rw [List.length_append,zr]; omega),if_pos (.inl k6)] at t6
   exact t6
  unfold zh
  rw [htk]
  simp only [Bool.and_eq_false_iff]
  exact .inr (.inr (by decide))
 unfold ym yy
 rw [hn,t6,Bool.false_and]
 decide
end
section
open Go.Al Go.Den
def scF:List MT:=[[([102],1)],[]]
def c22 (x:Nd×Unit):Option (Nd×Bool×Unit):=sh22 0 (fun _=>false) x.1
theorem ok22:ConOk CC Tryz.prog 22 ⟨as22,rs22,c22⟩:=con22 0
theorem zK6 (sp dc x:Nd) (q:Int):c22 (retT sp dc x q,())=some (x,(true,())):=by
 show sh22 0 (fun _=>false) (retT sp dc x q)=_
 have e:sh22 0 (fun _=>false) (retT sp dc x q)=some (ndE x,(true,())):=by kernel_rfl
 rw [e,zg]
theorem zPg {ps:List Nd} (h:ps.length≠1):c22 (Nd.mk 1 0 ps,())=some (Nd.mk 0 0 [],(false,())):=by
 show sh22 0 (fun _=>false) (Nd.mk 1 0 ps)=_
 unfold sh22
 refine (cdf (qd rfl)).trans (cdt ?_)
 exact zFk (by show (ps.length:Int)≠1; omega)
theorem zHS {sp dc bl:Nd} (h:bl.kids.length≠3):c22 (Nd.mk 1 0 [Nd.mk 2 0 [sp,dc,bl]],())=some (Nd.mk 0 0 [],(false,())):=by
 show sh22 0 (fun _=>false) (Nd.mk 1 0 [Nd.mk 2 0 [sp,dc,bl]])=_
 unfold sh22
 refine (cdf (qd rfl)).trans ((cdf (qd rfl)).trans ((cdt rfl).trans ((cdf (qd rfl)).trans ((cdt rfl).trans ((cdf (qd rfl)).trans ((cdt rfl).trans ((cdt rfl).trans ?_)))))))
 show cond (ine bl.kind 20) _ (cond (ine (lenI bl.kids) 3) _ _)=_
 cases ine bl.kind 20
 · refine (cdf rfl).trans (cdt ?_)
   exact zFk (by show (bl.kids.length:Int)≠3; omega)
 · rfl
theorem c22_empty {sp dc a b c d:Nd}:c22 (Nd.mk 1 0 [Nd.mk 2 0 [sp,dc,Nd.mk 20 0 [a,Nd.mk 26 0 [b,c],d]]],())=some (Nd.mk 0 0 [],(false,())):=by kernel_rfl
theorem zRY {l:List TokT} {p:Int}:yy l scF p=false:=by
 unfold yy
 have h:∀ nm:Str,qZ nm scF.reverse=false:=fun nm=>by
  show qZ nm [[],[([102],1)]]=false
  rw [zAp,zAp]
  have e:zfM nm [([102],1)]=if nm=[102] then 1 else 0:=by
   unfold zfM
   simp only [qF]
   by_cases h:nm=[102]
   · rw [if_pos h,if_pos h]; rfl
   · rw [if_neg h,if_neg h]; rfl
  rw [e]
  have e0:zfM nm []=0:=rfl
  rw [e0]
  by_cases h:nm=[102] <;> simp [h,qZ]
 rw [h,Bool.and_false]
theorem zKW {l:List TokT} {xs:List MT} {p:Int} (ht:yy l xs p=false) (h:ym l xs p=true):zH l p ∈ beginW:=by
 unfold ym at h
 rw [ht,Bool.false_or] at h
 unfold beginW
 simp only [Bool.or_eq_true,List.contains_iff_mem,xd,decide_eq_true_eq] at h
 simp only [List.mem_append,List.mem_cons,List.not_mem_nil,or_false]
 exact h
theorem sn_ne {ρ:Type} {X:Option (Option ρ)} {y:ρ} {P:Prop} (h1:X=some none) (h2:X=some (some y)):P:=by rw [h1] at h2; injection h2 with h2; cases h2
theorem ft {P:Prop} (h:(false:Bool)=true):P:=by cases h
section
variable {k:Nat} {l:List TokT}
theorem zJv {L:List TokT} {n:Nat} {p:Int} {xs:List MT} (p0:0<=p) (p1:p<=(L.length:Int)) (n1:1<=n) (h:xs.length=n):Sta (simT L) n p xs xs:=⟨p0,p1,n1,h,rfl⟩
theorem zQU (hk:80100 < k) {r:List TokT} (h2:2<=r.length) (h3:r.length<=3900) {y:(Nd×Unit)×PSt} (h:(rs 6000 (k+12)).c37 (true,()) (headL++r) (0,[[]])=some (some y)) :
 ∃ bl q z1 z2,(rs 6000 (k+11)).c60 () (headL++r) (5,scF)=some (some ((bl,()),(q,[z1,z2])))/\y=((Nd.mk 2 0 [spN,dcN,bl],()),(q,[z1])):=by
 have hl:(headL++r).length=r.length+7:=by rw [List.length_append,zr]; omega
 obtain ⟨e53,e56⟩:=zJh h2 (by omega) (m:=k+11) (by omega)
 obtain ⟨i1,i5,_⟩:=zHA (r:=r)
 obtain ⟨s1,s2⟩:=st37 (m:=0) (z1:=[]) (by omega) (by omega) e53 i1 e56 i5
 obtain ⟨o,e1,e2⟩:=(rsp (zHJ (l:=headL++r) (by omega)) (by omega:5000 < 6000) (k+11)).h60 2 5 scF scF (zJv (by omega) (by omega) (by omega) rfl) (by omega) (by show 20 * (((headL++r).length:Int) - 5)+(1:Nat) < ((k+11:Nat):Int); omega)
 replace e1:(rs 6000 (k+11)).c60 () (headL++r) (5,scF)=some o:=e1
 cases o with
 | none=>
  have:=(s2 e1).symm.trans h
  injection this with this; cases this
 | some y'=>
  obtain ⟨⟨bl,u⟩,q,zs⟩:=y'
  obtain ⟨_,_,⟨k1,_⟩,_⟩:=e2 _ rfl
  have hz:zs.length=2:=k1.hn
  match zs,hz with
  | [z1,z2],_=>
   have:=(s1 bl q z1 z2 e1).symm.trans h
   injection this with this; injection this with this
   exact ⟨bl,q,z1,z2,e1,this.symm⟩
theorem zQ8 (hk:80100 < k) (hl:l.length<=3000) {nd:Nd} {er:Int} (h:c17 6000 (k+12) (oneL l,())=some (nd,(er,()))) (he:er=0) {w:Nd} (hr:c22 (nd,())=some (w,(true,()))) :
 ∃ (x:Nd) (zs:List MT),nd=retT spN dcN x (7+l.length)/\(rs 6000 (k+8)).c113 () (oneL l) (7,scF)=some (some ((x,()),((7:Int)+(l.length:Int),zs)))/\zs.length=2/\Tr 7 (7+l.length) x/\isF [[59]] (oneL l) 7=false:=by
 have hd:Deep 6000 (k+12):=⟨by omega,by omega⟩
 have hlen:=kG (l:=l)
 have hol:(oneL l).length<=4000:=by omega
 have hll:(oneL l).length < 1000000:=by omega
 rcases zCo hd hol with h1 | ⟨xs',ps',h1,h2,h3,h4⟩
 · have e:=h1.symm.trans h
   injection e with e
   have e2:(160:Int)=er:=congrArg (fun y:Nd×Int×Unit=>y.2.1) e
   omega
 have e:=h4.symm.trans h
 injection e with e
 have e2:Nd.mk 1 0 ps' = nd:=congrArg (fun y:Nd×Int×Unit=>y.1) e
 subst e2
 by_cases hps0:ps'.length≠1
 · rw [zPg hps0] at hr; cases hr
 have hps:ps'.length=1:=Classical.not_not.1 hps0
 cases h1 with
 | @cons _ _ _ q0 zs0 nd0 _ _ _ hp h37 h5=>
  obtain ⟨ys,qs,g1,_⟩:∃ ys:Unit,∃ qs,ps' = ([]++[nd0])++qs/\True:=by
   have:∀ {f:MM (Nd×Unit)} {L:List TokT} {p p':Int} {a b:List MT} {A B:List Nd},Decls f L p a A p' b B->∃ qs,B=A++qs:=by
    intro f L p p' a b A B h
    induction h with
    | nil=>exact ⟨[],by simp⟩
    | @cons _ _ _ _ _ nd _ _ _ _ _ _ ih=>obtain ⟨qs,rfl⟩:=ih; exact ⟨nd::qs,by simp⟩
   obtain ⟨qs,hq⟩:=this h5
   exact ⟨(),qs,hq,trivial⟩
  have hqs:qs=[]:=by
   rw [g1] at hps
   rw [List.nil_append,List.length_append] at hps
   exact List.length_eq_zero_iff.1 (by simp only [List.length_cons,List.length_nil] at hps; omega)
  subst hqs
  rw [List.append_nil,List.nil_append] at g1
  subst g1
  obtain ⟨bl,qb,z1,z2,hb,hy⟩:=zQU hk (r:=l++endL) (by rw [List.length_append,kr]; omega) (by rw [List.length_append,kr]; omega) h37
  injection hy with hy1 hy2
  injection hy1 with hy1 _
  injection hy2 with hy2 hy3
  subst hy1 hy2 hy3
  have hend:q0=((oneL l).length:Int):=by
   cases h5 with
   | nil=>rfl
   | @cons _ _ _ _ _ nd1 _ _ _ _ _ h6=>
    have:∀ {f:MM (Nd×Unit)} {L:List TokT} {p p':Int} {a b:List MT} {A B:List Nd},Decls f L p a A p' b B->A.length<=B.length:=by
     intro f L p p' a b A B h
     induction h with
     | nil=>exact Nat.le_refl _
     | cons _ _ _ ih=>rw [List.length_append] at ih; omega
    have:=this h6
    simp at this
  obtain ⟨i1,i5,i6,t6,k6,b6⟩:=zHA (r:=l++endL)
  obtain ⟨o,e1,e2⟩:=(rsp (zHJ hol) (by omega:5000 < 6000) (k+8)).h113 2 7 scF scF (zJv (by omega) (by omega) (by omega) rfl) (by omega) (by show 20 * (((oneL l).length:Int) - 7)+(8:Nat) < ((k+8:Nat):Int); omega)
  replace e1:(rs 6000 (k+8)).c113 () (oneL l) (7,scF)=some o:=e1
  have hno:∀ {o'},(rs 6000 (k+10)).c86 () (oneL l) (6,scF)=some o'->o'≠none:=fun {o'} h86 e=>by
   subst e
   have:=(st60 (fu:=6000) (n:=k+10) (by omega) (by omega) (by rw [hlen]; omega) hll (by decide) i5 i6 (b6 scF (by decide)) h86).1 rfl
   have:=this.symm.trans hb
   injection this with this; cases this
  cases hs:isF [[59]] (oneL l) 7 with
  | true=>
   exfalso
   have h117:=st117e (fu:=6000) (n:=k+8) (xs:=scF) (p:=7) (by omega) (by rw [hlen]; omega) hll [Nd.mk 0 6 []] (by decide) hs
   have h86:=st86 (fu:=6000) (n:=k+9) (xs:=scF) (p:=6) (by omega) (by rw [hlen]; omega) hll t6 k6 h117
   obtain ⟨_,j2,j3⟩:=st60 (fu:=6000) (n:=k+10) (by omega) (by omega) (by rw [hlen]; omega) hll (by decide) i5 i6 (b6 scF (by decide)) h86
   cases hc:isF [[125]] (oneL l) 8 with
   | true=>
    have:=(j2 _ _ _ rfl (by omega) (by rw [hlen]; omega) hc).symm.trans hb
    injection this with this; injection this with this
    injection this with this _
    injection this with this _
    rw [<- this] at hr
    have:=c22_empty.symm.trans hr
    injection this with this
    exact ft (congrArg (fun y:Nd×Bool×Unit=>y.2.1) this)
   | false=>
    have:=j3 _ _ _ rfl (by omega) (by rw [hlen]; omega) hc _ hb
    replace this:4<=bl.kids.length:=this
    have:=(zHS (sp:=spN) (dc:=dcN) (bl:=bl) (by omega)).symm.trans hr
    injection this with this
    exact ft (congrArg (fun y:Nd×Bool×Unit=>y.2.1) this)
  | false=>
   cases o with
   | none=>
    exfalso
    have h117:=sn117 (fu:=6000) (n:=k+8) (xs:=scF) (p:=7) (by omega) (by rw [hlen]; omega) hll [Nd.mk 0 6 []] (by decide) hs (.inl e1)
    exact hno (st86 (fu:=6000) (n:=k+9) (xs:=scF) (p:=6) (by omega) (by rw [hlen]; omega) hll t6 k6 h117) rfl
   | some y=>
    obtain ⟨⟨x,u⟩,q,zs⟩:=y
    obtain ⟨_,_,⟨k1,_,k2,_⟩,_⟩:=e2 _ rfl
    have hz:zs.length=2:=k1.hn
    have hq0:(0:Int)<=q:=by have:=k2.lt; replace this:7 < q:=this; omega
    have hq1:q<=((oneL l).length:Int):=k1.p1
    replace k2:Tr 7 q x:=k2
    cases hs2:isF [[59]] (oneL l) q with
    | false=>
     exfalso
     have h117:=sn117 (fu:=6000) (n:=k+8) (xs:=scF) (p:=7) (by omega) (by rw [hlen]; omega) hll [Nd.mk 0 6 []] (by decide) hs (.inr ⟨x,q,zs,hq0,hq1,e1,hs2⟩)
     exact hno (st86 (fu:=6000) (n:=k+9) (xs:=scF) (p:=6) (by omega) (by rw [hlen]; omega) hll t6 k6 h117) rfl
    | true=>
     have hlt:=zAy hs2
     have h117:=st117 (fu:=6000) (n:=k+8) (xs:=scF) (p:=7) (by omega) (by rw [hlen]; omega) hll hq0 hq1 [Nd.mk 0 6 []] (by decide) hs e1 hs2
     have h86:=st86 (fu:=6000) (n:=k+9) (xs:=scF) (p:=6) (by omega) (by rw [hlen]; omega) hll t6 k6 h117
     obtain ⟨_,j2,j3⟩:=st60 (fu:=6000) (n:=k+10) (by omega) (by omega) (by rw [hlen]; omega) hll (by decide) i5 i6 (b6 scF (by decide)) h86
     cases hc:isF [[125]] (oneL l) (q+1) with
     | true=>
      have hb2:=(j2 _ _ _ rfl (by omega) (zAy hc) hc).symm.trans hb
      injection hb2 with hb2; injection hb2 with hb2
      injection hb2 with hb2 hb3
      injection hb2 with hb2 _
      injection hb3 with hb3 _
      replace hb2:Nd.mk 20 0 [Nd.mk 0 5 [],Nd.mk 26 0 ([Nd.mk 0 6 []]++[x]++[Nd.mk 0 q []]),Nd.mk 0 (q+1) []]=bl:=hb2
      have hq:q=7+l.length:=by rw [hend,hlen] at hb3; omega
      subst hq
      exact ⟨x,zs,by rw [<- hb2]; rfl,e1,hz,k2,rfl⟩
     | false=>
      exfalso
      have:=j3 _ _ _ rfl (by omega) (by omega) hc _ hb
      replace this:4<=bl.kids.length:=this
      have:=(zHS (sp:=spN) (dc:=dcN) (bl:=bl) (by omega)).symm.trans hr
      injection this with this
      exact ft (congrArg (fun y:Nd×Bool×Unit=>y.2.1) this)
theorem two_of (hk:80100 < k) (hl:l.length<=3000) {x:Nd} {zs:List MT} (h:(rs 6000 (k+8)).c113 () (oneL l) (7,scF)=some (some ((x,()),((7:Int)+(l.length:Int),zs)))) (hz:zs.length=2) :
 ∃ q1 q2:Int,c17 6000 (k+12) (twoL l,())=some (retT spN dcN (Nd.mk 43 0 [Nd.mk 0 7 [],shN 1 x,Nd.mk 0 q1 []]) q2,(0,())):=by
 have hd:Deep 6000 (k+12):=⟨by omega,by omega⟩
 have hlen:=zAd (l:=l)
 have h1l:=kG (l:=l)
 have hll:(twoL l).length < 1000000:=by omega
 have hW:=zRb hl
 obtain ⟨s7,s8,k9,t9,k10,t10⟩:=two_signs (l:=l)
 have x7:zH (twoL l) 7=[40]:=by rw [zBr (by rw [hlen]; omega) (by rw [s7]; rfl),s7]; rfl
 have x8:zH (twoL l) (8+l.length)=[41]:=by rw [zBr (by rw [hlen]; omega) (by rw [s8]; rfl),s8]; rfl
 have x9:zH (twoL l) (9+l.length)=[59]:=by rw [zBr (by rw [hlen]; omega) k9,t9]
 have x10:zH (twoL l) (10+l.length)=[125]:=by rw [zBr (by rw [hlen]; omega) k10,t10]
 have hS:Sta (simK l) 2 7 scF scF:=⟨Int.le_refl _,by show (7:Int)<=(oneL l).length; rw [h1l]; omega,by omega,rfl,rfl⟩
 have hR:=rsp2 hW (fu:=6000) (by omega) (k+8) k
 rw [Nat.min_eq_right (by omega)] at hR
 obtain ⟨o,e1,e2⟩:=hR.h113 2 7 scF scF hS (by omega) (by show 20 * (((oneL l).length:Int) - 7)+(8:Nat) < (k:Int); rw [h1l]; omega)
 have e3:some (some ((x,()),(7+(l.length:Int),zs)))=some o:=h.symm.trans e1
 injection e3 with e3
 obtain ⟨_,⟨⟨x',u⟩,q',zs'⟩,⟨k1,k2,_,k3⟩,k4⟩:=e2 _ e3.symm
 have k5:=k4 (by show 2 * (7+(l.length:Int))+1<=2 * (7+(l.length:Int))+1; omega)
 replace k2:q' = 7+l.length+1:=k2
 replace k3:x' = shN 1 x:=k3
 have k6:zs=zs':=k1.sr
 have k7:(rs 6000 k).c113 () (twoL l) (7+1,scF)=some (some ((shN 1 x,()),((8:Int)+(l.length:Int),zs))):=by
  rw [k6,<- k3,show (8:Int)+l.length=q' by omega]
  exact k5
 have hb:ym (twoL l) scF (7+1)=false:=by
  have hs:=zGc hW (q:=7) (xs:=scF) (ys:=scF) (Int.le_refl _) (by show (7:Int)<=(oneL l).length; rw [h1l]; omega) rfl (by show 2 * (7:Int)+1<=2 * (7+(l.length:Int))+1; omega)
  replace hs:ym (oneL l) scF 7=ym (twoL l) scF (7+1):=hs
  rw [<- hs]
  cases hbb:ym (oneL l) scF 7 with
  | false=>rfl
  | true=>
   have:=zL1 (fu:=6000) (n:=k) (xs:=scF) (p:=7) (by omega) (by rw [h1l]; omega) (by omega) (zKW zRY hbb)
   exact sn_ne this h
 have e113:=zMa (fu:=6000) (n:=k) (l:=twoL l) (p:=7) (q:=8+l.length) (by omega) (by omega) (by rw [hlen]; omega) hll (by decide) (by omega) (by rw [hlen]; omega) (by rw [s7]; rfl) x7 hb x8 (by rw [show (8:Int)+l.length+1=9+l.length by omega]; exact x9) k7
 rw [show (8:Int)+l.length+1=9+l.length by omega] at e113
 obtain ⟨i1,i5,i6,t6,k6',b6⟩:=zHA (r:=oTok::(l++(cTok::endL)))
 have h117:=st117 (fu:=6000) (n:=k+8) (xs:=scF) (p:=7) (by omega) (by rw [hlen]; omega) hll (by omega) (by rw [hlen]; omega) [Nd.mk 0 6 []] (by decide) ((jc _ x7).trans (by decide)) e113 ((jc _ x9).trans (by decide))
 have h86:=st86 (fu:=6000) (n:=k+9) (xs:=scF) (p:=6) (by omega) (by rw [hlen]; omega) hll t6 k6' h117
 obtain ⟨_,j2,_⟩:=st60 (fu:=6000) (n:=k+10) (by omega) (by omega) (by rw [hlen]; omega) hll (by decide) i5 i6 (b6 scF (by decide)) h86
 have hb60:=j2 _ _ _ rfl (by omega) (by rw [hlen]; omega) (by rw [show (9:Int)+l.length+1=10+l.length by omega]; exact (jc _ x10).trans (by decide))
 obtain ⟨e53,e56⟩:=zJh (r:=oTok::(l++(cTok::endL))) (by simp only [List.length_cons,List.length_append,kr]; omega) (by simp only [List.length_cons,List.length_append,kr]; omega) (m:=k+11) (by omega)
 obtain ⟨s1,_⟩:=st37 (l:=twoL l) (m:=0) (z1:=[]) (by omega) (by rw [hlen]; omega) e53 i1 e56 i5
 match zs,hz with
 | [z1,z2],_=>
  have h37:=s1 _ _ z1 z2 hb60
  refine ⟨8+l.length,9+l.length,zPW (xs':=[z1]) hd (by omega) (.cons (by rw [hlen]; omega) h37 ?_)⟩
  have eq:(9:Int)+l.length+1+1=((twoL l).length:Int):=by rw [hlen]; omega
  rw [eq]
  exact .nil
end
theorem zP5 (nd:Nd):∃ y,c22 (nd,())=some y:=by
 show ∃ y,sh22 0 (fun _=>false) nd=some y
 unfold sh22
 have hl:∀ {l:List Nd} {n:Int},ine (lenI l) n=false->(l.length:Int)=n:=fun {l n} h=>by
  rw [zEi] at h
  cases hd:decide (lenI l=n)
  · rw [hd] at h; cases h
  · exact of_decide_eq_true hd
 have hb:∀ {l:List Nd} {n:Int} (i:Int),ine (lenI l) n=false->0<=i->i < n->inB i l.length=true:=fun i h h0 h1=>zB1 h0 (by have:=hl h; omega)
 cases ine (Nd.kind nd) 1
 · rw [cond_false]
   cases h1:ine (lenI (Nd.kids nd)) 1
   · rw [cond_false,cdt (hb 0 h1 (by omega) (by omega))]
     cases ine (Nd.kind (List.getD (Nd.kids nd) 0 ze)) 2
     · rw [cond_false,cdt (hb 0 h1 (by omega) (by omega))]
       cases h2:ine (lenI (Nd.kids (List.getD (Nd.kids nd) 0 ze))) 3
       · rw [cond_false,cdt (hb 0 h1 (by omega) (by omega)),cdt (hb 2 h2 (by omega) (by omega))]
         cases ine (Nd.kind (List.getD (Nd.kids (List.getD (Nd.kids nd) 0 ze)) 2 ze)) 20
         · rw [cond_false]
           cases h3:ine (lenI (Nd.kids (List.getD (Nd.kids (List.getD (Nd.kids nd) 0 ze)) 2 ze))) 3
           · rw [cond_false,cdt (hb 1 h3 (by omega) (by omega))]
             cases ine (Nd.kind (List.getD (Nd.kids (List.getD (Nd.kids (List.getD (Nd.kids nd) 0 ze)) 2 ze)) 1 ze)) 26
             · rw [cond_false,cdt (hb 1 h3 (by omega) (by omega))]
               cases h4:ine (lenI (Nd.kids (List.getD (Nd.kids (List.getD (Nd.kids (List.getD (Nd.kids nd) 0 ze)) 2 ze)) 1 ze))) 3
               · rw [cond_false,cdt (hb 1 h3 (by omega) (by omega)),cdt (hb 1 h4 (by omega) (by omega))]
                 exact ⟨_,rfl⟩
               · exact ⟨_,rfl⟩
             · exact ⟨_,rfl⟩
           · exact ⟨_,rfl⟩
         · exact ⟨_,rfl⟩
       · exact ⟨_,rfl⟩
     · exact ⟨_,rfl⟩
   · exact ⟨_,rfl⟩
 · exact ⟨_,rfl⟩
theorem zPX (nf:Nat->Bool) (x0:Str):∃ n,sh7b 6000 c14t (c17 6000 80212) (c18 6000) (c19 5000 n) (c21 5000 n) c22 nf x0=some (true,()):=by
 have hd:Deep 6000 80212:=⟨by omega,by omega⟩
 by_cases hx:300 < x0.length
 · refine ⟨0,?_⟩
   unfold sh7b
   show Option.bind (some (true,())) _=_
   rw [Option.bind_some,show ilt 300 (lenI x0)=true from decide_eq_true (by show (300:Int) < (x0.length:Int); omega),cond_true]
 obtain ⟨l,f1,f2,f3⟩:=zM7 (fu:=6000) x0 (by omega) (by omega)
 have h1l:=kG (l:=l)
 have h2l:=zAd (l:=l)
 obtain ⟨nd1,er1,p1⟩:∃ nd er,c17 6000 80212 (oneL l,())=some (nd,(er,())):=by
  rcases zCo hd (l:=oneL l) (by omega) with h | ⟨_,_,_,_,_,h⟩
  · exact ⟨_,_,h⟩
  · exact ⟨_,_,h⟩
 obtain ⟨nd2,er2,p2,p3⟩:∃ nd er,c17 6000 80212 (twoL l,())=some (nd,(er,()))/\(er=0->∃ ps,nd=Nd.mk 1 0 ps/\Pt 0 ((twoL l).length:Nat) ps):=by
  rcases zCo hd (l:=twoL l) (by omega) with h | ⟨_,_,_,h2,_,h⟩
  · exact ⟨_,_,h,fun e=>by cases e⟩
  · exact ⟨_,_,h,fun _=>⟨_,rfl,h2⟩⟩
 obtain ⟨⟨w,bo,u⟩,q1⟩:=zP5 nd1
 have key:∃ n,cond (ine er1 0) (some (true,())) (cond (!bo) (some (true,())) (Option.bind (c22 (nd2,())) fun y7=>Option.bind (c21 5000 n (w,(1,()))) fun y8=>
  cond (ieq er2 0) (cond y7.2.1 (cond (ieq (Nd.kind y7.1) 43) (cond (ieq (lenI (Nd.kids y7.1)) 3) (cond (inB 1 (List.length (Nd.kids y7.1))) (Option.bind (c19 5000 n (ndE (List.getD (Nd.kids y7.1) 1 ze),(ndE y8.1,()))) fun y9=>some (y9.1,())) none) (some (false,()))) (some (false,()))) (some (false,()))) (some (false,()))))=some (true,()):=by
  by_cases he:er1≠0
  · exact ⟨0,by rw [zFk he]; rfl⟩
  have he0:er1=0:=Classical.not_not.1 he
  cases bo with
  | false=>exact ⟨0,by rw [qd he0]; rfl⟩
  | true=>
   obtain ⟨x,zs,e1,e2,e3,e4,_⟩:=zQ8 (k:=80200) (by omega) (by omega) p1 he0 q1
   obtain ⟨a,b,g1⟩:=two_of (k:=80200) (by omega) (by omega) e2 e3
   have g2:=p2.symm.trans g1
   injection g2 with g2
   have g3:nd2=_:=congrArg (fun y:Nd×Int×Unit=>y.1) g2
   have g4:er2=0:=congrArg (fun y:Nd×Int×Unit=>y.2.1) g2
   obtain ⟨ps,g5,g6⟩:=p3 g4
   have hw:w=x:=by
    rw [e1,zK6] at q1
    injection q1 with q1
    exact (congrArg (fun y:Nd×Bool×Unit=>y.1) q1).symm
   subst hw
   have g7:=g5.symm.trans g3
   injection g7 with _ _ g7
   rw [g7] at g6
   have h5:(lvL [Nd.mk 2 0 [spN,dcN,Nd.mk 20 0 [Nd.mk 0 5 [],Nd.mk 26 0 [Nd.mk 0 6 [],Nd.mk 43 0 [Nd.mk 0 7 [],shN 1 w,Nd.mk 0 a []],Nd.mk 0 b []],Nd.mk 0 (b+1) []]]]).length=(twoL l).length:=by rw [g6.2.1,kA]; omega
   have o1:=zHH g6.2.2.1 (List.mem_singleton.2 rfl)
   have l1:=zGv (l:=[Nd.mk 2 0 [spN,dcN,Nd.mk 20 0 [Nd.mk 0 5 [],Nd.mk 26 0 [Nd.mk 0 6 [],Nd.mk 43 0 [Nd.mk 0 7 [],shN 1 w,Nd.mk 0 a []],Nd.mk 0 b []],Nd.mk 0 (b+1) []]]]) (List.mem_singleton.2 rfl)
   obtain ⟨l2,o2,_⟩:=zC0 o1 (x:=Nd.mk 20 0 [Nd.mk 0 5 [],Nd.mk 26 0 [Nd.mk 0 6 [],Nd.mk 43 0 [Nd.mk 0 7 [],shN 1 w,Nd.mk 0 a []],Nd.mk 0 b []],Nd.mk 0 (b+1) []]) (by simp [Nd.kids])
   obtain ⟨l3,o3,_⟩:=zC0 o2 (x:=Nd.mk 26 0 [Nd.mk 0 6 [],Nd.mk 43 0 [Nd.mk 0 7 [],shN 1 w,Nd.mk 0 a []],Nd.mk 0 b []]) (by simp [Nd.kids])
   obtain ⟨l4,o4,_⟩:=zC0 o3 (x:=Nd.mk 43 0 [Nd.mk 0 7 [],shN 1 w,Nd.mk 0 a []]) (by simp [Nd.kids])
   obtain ⟨l5,o5,_⟩:=zC0 o4 (x:=shN 1 w) (by simp [Nd.kids])
   have hs:=zHW (f:=5000) (by omega) (dpN w+dpN (shN 1 w)) (shN 1 w) o5 (by omega) (by omega)
   have hlw:(lvN w).length<=300:=by rw [e4.2.1,kA]; omega
   have hsm:smT w:=zNG e4.2.2 fun p hp=>by
    rw [e4.2.1] at hp
    unfold jM at hp
    obtain ⟨j,hj,rfl⟩:=List.mem_map.1 hp
    have:=List.mem_range.1 hj
    omega
   have hm:=zJb (f:=5000) (by omega) (d:=1) (by omega) (by omega) (dpN w+dpN (shN 1 w)) w e4.2.2 hsm (by omega) (by omega)
   refine ⟨dpN w+dpN (shN 1 w),?_⟩
   rw [qd he0,g3,zK6,g4]
   show Option.bind (c21 5000 (dpN w+dpN (shN 1 w)) (w,(1,()))) (fun y8=>Option.bind (c19 5000 (dpN w+dpN (shN 1 w)) (ndE (shN 1 w),(ndE y8.1,()))) fun y9=>some (y9.1,()))=_
   rw [hm]
   show Option.bind (c19 5000 (dpN w+dpN (shN 1 w)) (ndE (shN 1 w),(ndE (shN 1 w),()))) (fun y9=>some (y9.1,()))=_
   rw [zg,hs]
   rfl
 obtain ⟨n,hn⟩:=key
 refine ⟨n,?_⟩
 have ok:∀ k:Nat,k<=100000->okN 56 k=true:=fun k hk=>kj (by omega) (by simp only [maxLen]; omega)
 have a1:((([]:List TokT)++headL)++l)++endL=oneL l:=by unfold oneL; simp
 have a2:((((([]:List TokT)++headL)++[TokT.mk 5 [40] 0 0 0 false])++l)++[TokT.mk 5 [41] 0 0 0 false])++endL=twoL l:=by unfold twoL oTok cTok; simp
 have hh:=zr
 have hee:=kr
 unfold sh7b
 show Option.bind (some (true,())) _=_
 rw [Option.bind_some,show ilt 300 (lenI x0)=false from decide_eq_false (by show ¬ (300:Int) < (x0.length:Int); omega),cond_false,zQ2,Option.bind_some,f1,Option.bind_some,end_eq,Option.bind_some]
 dsimp only
 rw [cdt (ok _ (by rw [hh]; omega)),cdt (ok _ (by rw [List.nil_append,hh]; omega)),cdt (ok _ (by rw [List.nil_append,List.length_append,hh,hee]; omega)),cdt (ok _ (by rw [hh]; omega)),cdt (ok _ (by rw [List.nil_append,hh]; omega)),
  cdt (ok _ (by simp only [List.nil_append,List.length_append,List.length_cons,List.length_nil]; omega)),cdt (ok _ (by simp only [List.nil_append,List.length_append,List.length_cons,List.length_nil]; omega)),cdt (ok _ (by simp only [List.nil_append,List.length_append,List.length_cons,List.length_nil]; omega))]
 rw [a1,a2,p1,Option.bind_some,p2,Option.bind_some,zg,q1,Option.bind_some]
 dsimp only
 rw [zg,zg]
 exact hn
theorem ok7:ConOk CC Tryz.prog 7 ⟨as7,rs7,fun _=>some (true,())⟩:=fun x y hx=>by
 obtain ⟨n,hn⟩:=zPX (fun _=>false) x.1
 injection hx with hx
 subst hx
 exact con7b 6000 c14t ok14t (c17 6000 80212) (ok17l 6000 80212) (c18 6000) (ok18 6000) (c19 5000 n) (ok19 5000 n) (c21 5000 n) (ok21 5000 n) c22 ok22 x _ hn
end
end Go.Proofs.YtnamdpbcpnnhaaaGreatDoor
namespace Go.Proofs.YtnamdpbcpnnhaaaGreatDoor.parseBrackets
section
open Go.Al Go.Den Go.ChangeShapes Go.WideShapes Go.ChangeAt Go.RowKit
open Go.ChangeMaps (open_string shut_string)
theorem own:ownKnob Tryz.prog.godebug=none:=by kernel_rfl
theorem laidOut:laidOutB Tryz.prog=true:=by kernel_rfl
theorem walk (z0:List UInt8) (W:World) (hgl:GlobOk W.heap.size (wmOf W) W) (v0:Value) (h0:RV1 ⟨wmOf W,fun _=>none,Fr.no⟩ W (.at (.string ⟨z0.toArray⟩)) v0):Calls Tryz.prog 7 #[v0] W fun e W'=>e = .returned (.bool true)/\Below W.heap.size W W':=by
 have hp:=ok7 (z0,()) (true,()) rfl _ ⟨_,_,rfl,rfl,rfl⟩
 refine (hp (wmOf W) W [v0] (zMX W) hgl (.cons h0 RVs.nil)).mono ?_
 rintro e W' ⟨v,wm',rfl,_,hst,hr⟩
 have hv:v = .bool true:=zm hr
 subst hv
 exact ⟨rfl,hst.below⟩
set_option maxRecDepth 100000 in
theorem lifted (os:Os) (started:os.Started) (H:Type) (enc:TypeId×Value->H) :
 ReturnsInHanded {} Tryz.checked os 7 .any (fun w args=>(Rows.parseBracketsSpec.pre enc Tryz.prog Tryz.f7 [] false w args/\laidMetH Tryz.prog zGr w)/\sizedMet enc Tryz.prog Tryz.f7 (OpenSpec.ofChange Rows.parseBracketsSpec) false w args)
  (Rows.parseBracketsSpec.post enc Tryz.prog Tryz.f7 false true false false):=by
 refine zDx (C:=Tryz.checked) (X:=fun w _=>laidMetH Tryz.prog zGr w) (fun _ _ _ hh h=>laidMetH.of_heap hh h) own started (by kernel_rfl) Tryz.func7
  (ChangeSpec.witness_shaped (enc:=enc) (C:=Tryz.checked) (os:=os) (X:=fun w _=>laidMetH Tryz.prog zGr w) false (World.doorLaid Tryz.prog 400 os) #[.string ByteArray.empty] 8 rfl (World.shaped_of_RefB (by kernel_rfl) (by kernel_rfl)) (by kernel_rfl) (by kernel_rfl) (by kernel_rfl) (zO6 os _)) ?_
 intro W base args ds gs before hval0 hW hsh hL
 have hval:∀ (j:Nat) t v,Tryz.f7.params[j]? = some t->args[j]? = some v->Value.okWide Tryz.prog W .any base t v:=hval0
 have hW':=hW
 obtain ⟨p,q,hA0,hV,rfl,hfz,hnd⟩:=hW
 have hA:DataW.TrodAll enc Tryz.prog W 0 (fun _=>true) true Tryz.f7.params.toList args.toList ds p:=hA0
 rw [Tryz.params7] at hA hval
 obtain ⟨v0,vs0,d0,ds0,p0,q0,hargs,rfl,rfl,h0,r0⟩:=trodAll_cons hA
 obtain ⟨rfl,rfl,rfl⟩:=trodAll_nil r0
 obtain rfl:args = #[v0]:=by cases args; simp_all
 obtain ⟨rfl,rfl⟩:=trodVars_none hV
 have hgl:=zGw hsh hL
 have k0:=h0
 have lt0:∀ x ∈ p0,x.block < W.heap.size:=by obtain ⟨m,hm⟩:=k0; exact DataW.trod_lt m _ _ _ hm
 obtain ⟨s0,rfl,rfl,rfl,w0⟩:=open_string Tryz.underlying9 (hval 0 9 v0 rfl rfl) h0
 clear hA0 hval0
 refine (walk s0.data.toList W hgl _ (zQ3 s0)).mono fun e W' ⟨he,bel⟩=>?_
 subst he
 exact ⟨_,rfl,_,_,_,[],_,[],hW',trodAll_mk1 (shut_bool Tryz.underlying4 _),(trodAll_cons_mk (Below.trod laidOut (by kernel_rfl) (of_decide_eq_true (by kernel_rfl)) k0 bel lt0) trodAll_mk0),rfl,bel.frame _,fun h=>by cases h⟩
theorem over:Rows.ParseBracketsSaid:=
 OpenClaim.holds_of_wide 7 Tryz.f7 rfl rfl rfl rfl rfl rfl rfl ⟨rfl,rfl,rfl,rfl,rfl⟩ rfl rfl rfl rfl rfl (by kernel_rfl) Tryz.func7 (by kernel_rfl)
  (of_decide_eq_true (by kernel_rfl)) (by unfold Func.isWrapper; first | (rw [if_pos (by decide +kernel)]; kernel_rfl) | (rw [if_neg (by decide +kernel)]; exact ⟨rfl,rfl⟩))
  (fun os started H enc _=>lifted os started H enc)
theorem parseBrackets_holds:Rows.ParseBracketsCardSaid:=
 Claim7.holds_tied_plain_at .later [] [.data,.data,.data,.data,.widerDeep,.widerDeep,.widerDeep] true (true, "7c58562b21b618913f75bececb98783b54f88d308e840749b21184127f6feb62") true
  over (fun _ h=>by cases h) (by kernel_rfl) (fun _ h=>by cases h) parseBrackets_row_tie rfl ⟨rfl,rfl⟩ (by kernel_rfl) rfl
  (fun f fn hf hfn=>by
   obtain rfl:f=7:=Option.some.inj ((show Tryz.prog.funcNamed "emend/emendlaw16.ParseBrackets" = some 7 by kernel_rfl).symm.trans hf) |>.symm
   obtain rfl:fn=Tryz.f7:=(Option.some.inj (Tryz.func7.symm.trans hfn)).symm
   exact ⟨by kernel_rfl,fun j t ht=>by
    rw [Tryz.params7] at ht
    have hm:t ∈ [9]:=by simpa using Array.mem_of_getElem? ht
    have hall:([9].all fun u=>!Tryz.prog.wantsStandIn u)=true:=by kernel_rfl
    exact (show Tryz.prog.wantsStandIn t=false by simpa using List.all_eq_true.1 hall t hm)⟩)
  (by kernel_rfl)
end
end Go.Proofs.YtnamdpbcpnnhaaaGreatDoor.parseBrackets
