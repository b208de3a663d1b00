/-
  Part 7 of what the last text needs: library, runs, contracts, plain laws. No condition of its own.
-/
import Derived.Test.YtfjiiknfopmcjaaGreatDoorZB6
import Derived.Laws.MakeOwn
import Derived.Laws.AppendOwn
import Derived.Lib.UnsafeStr
import Derived.Lib.Builder
import Derived.Lib.MakeNoZero
import Derived.Lib.Bytealg
import Derived.RangeFuncLeaves
import Derived.RangeFuncCalls
import Derived.LoopNIn
import Derived.OrdersIn
import Derived.RecoverIn
import Derived.RangeFuncNested
import Derived.Scope
set_option linter.unusedVariables false
set_option linter.unusedSimpArgs false
set_option linter.unusedSectionVars false
namespace Go.Cx
section
open Go.RowKit
section
variable {P:Program} {B:Bs} {N:NM} {S:XS} {w:World} {D:Dat}
noncomputable def wrK (S:XS) (l o:Nat) (xs:List T) (K:XS->Bool):Bool:=
 match S.h.get l with
 | some ob=>(match ob with
  | .row g cs fz el=>bif Nat.ble fz o then splK xs o cs fun cs'=>Tr.setK (.row g cs' fz el) 40 S.h l fun h=>K ⟨h,S.nl⟩ else false
  | _=>false)
 | none=>false
theorem zQR (hs:HSim B N S w) {l o:Nat} {xs:List T} {K:XS->Bool} (h:wrK S l o xs K=true) (hb:bds S.nl xs) (h1:ones xs):∃ S' w',K S' = true/\(storeCells ⟨N.bl l,o,none⟩ (xs.map (tr N))).run P w = .ok () w'/\Stp B N S w N S' w'/\S'.nl=S.nl:=by
 unfold wrK at h;split at h
 . rename_i ob ho;split at h
   . rename_i g cs fz el;obtain ⟨h2,h3⟩:=zK h;obtain ⟨h4,h5⟩:=zAp _ _ _ _ h3;obtain ⟨h',h6,h7⟩:=Tr.setK_ok _ _ _ _ _ h5;obtain ⟨w',r1,r2⟩:=zCW (P:=P) hs ho hb h1 (Nat.le_of_ble_eq_true h2) h4 h7;exact ⟨_,w',h6,r1,r2,rfl⟩
   . cases h
 . cases h
def lenT:T->Option Nat
 | .atm v=>(match v with | .slice none n _=>some n | _=>none)
 | .slc _ _ n _=>some n
 | .sl _ _ _ _ n=>some n
 | _=>none
theorem zCY {x:T} {n:Nat} (h:lenT x=some n):∃ ad c,tr N x = .slice ad n c:=by
 unfold lenT at h;split at h
 . split at h
   . injection h with h; subst h; exact ⟨_,_,rfl⟩
   . cases h
 . injection h with h; subst h; exact ⟨_,_,rfl⟩
 . injection h with h; subst h; exact ⟨_,_,rfl⟩
 . cases h
noncomputable def xLen (D:Dat) (S:XS) (t:TypeId) (x:T) (K:T->Bool):Bool:=
 match D.tt.get t with
 | some d=>(match d.u with
  | .string=>(match x with | .str s=>mkI .i64 (.ofNat s.length) K | _=>false)
  | .slice _=>(match lenT x with | some n=>mkI .i64 (.ofNat n) K | none=>false)
  | .array n _=>mkI .i64 (.ofNat n) K
  | .map _ _=>(match x with
   | .atm v=>(match v with | .map none=>K (.int .i64 0) | _=>false)
   | .mp l=>(match S.h.get l with
    | some ob=>(match ob with | .mp es _=>mkI .i64 (.ofNat es.length) K | _=>false)
    | none=>false)
   | _=>false)
  | _=>false)
 | none=>false
theorem zNW (hD:DOk P D) (hs:HSim B N S w) {t:TypeId} {x:T} {K:T->Bool} (h:xLen D S t x K=true) (rest:List TypeId) (ty:TypeId):FinS P N S w K (Builtin.len_ (t::rest).toArray ty #[tr N x]):=by
 unfold xLen at h;split at h
 . rename_i d hd;have ht:=hD.tt _ _ hd;split at h
   . rename_i hu;split at h
     . rename_i s;rw [kN] at h;exact finS  h (by simp [Builtin.len_,ht.run_und,hu,goInt,tr,kp]) trivial
     . cases h
   . rename_i el hu;split at h
     . rename_i n hn;rw [kN] at h;obtain ⟨ad,c,e⟩:=zCY (N:=N) hn;exact finS  h (by rw [e]; simp [Builtin.len_,ht.run_und,hu,goInt,tr]) trivial
     . cases h
   . rename_i n el hu;rw [kN] at h;exact finS  h (by simp [Builtin.len_,ht.run_und,hu,goInt,tr]) trivial
   . rename_i k el hu;split at h
     . split at h
       . exact finS  h (by simp [Builtin.len_,ht.run_und,hu,goInt,tr]) trivial
       . cases h
     . rename_i l;split at h
       . rename_i ob ho;split at h
         . rename_i es clock;rw [kN] at h;obtain ⟨arr,k1,k2,k3⟩:=hs.ok l _ ho;refine finS  h ?_ trivial;have e:arr.size=es.length:=by rw [<- Array.length_toList,k2]; simp
           simp [Builtin.len_,ht.run_und,hu,goInt,tr,getObj,Sem.run,k1,e]
         . cases h
       . cases h
     . cases h
   . cases h
 . cases h
noncomputable def celK (S:XS) (sz n:Nat) (x:T) (κ:List T->Bool):Bool:=
 bif Nat.beq n 0 then κ [] else
 match x with
 | .slc l o _ _=>rdK S l fun cs=>zA8 (n * sz) (drpL o cs) κ
 | .sl l z a _ _=>bif Nat.beq z sz then grK S l z fun cs _ _=>zA8 (n * z) (drpL (a * z) cs) κ else false
 | _=>false
theorem zNM (hs:HSim B N S w) {sz n m:Nat} {x:T} {κ:List T->Bool} (h:celK S sz n x κ=true) (hm:lenT x=some m):∃ cs,κ cs=true/\bds S.nl cs/\ones cs/\cs.length=n * sz/\(Builtin.firstCells sz n (tr N x)).run P w = .ok (cs.map (tr N)).toArray w:=by
 unfold celK at h;cases hn:Nat.beq n 0 with
 | true=>
  rw [hn,cond_true] at h;have:=beq_iff.1 hn;subst this;refine ⟨[],h,trivial,rfl,by simp,?_⟩;obtain ⟨ad,c,e⟩:=zCY (N:=N) hm;rw [e];cases ad with
  | none=>exact run_firstCells_none _ _ _ _ _
  | some ad=>exact run_firstCells_some w sz 0 ad m c [] (by simp) (fun j v hj=>by simp at hj)
 | false=>
  rw [hn,cond_false] at h;have hn0:n≠0:=fun e=>by rw [beq_iff.2 e] at hn; cases hn
  split at h
  . rename_i l o k c;obtain ⟨cs,arr,el,mm,h1,_,h2,h3,h4,h5,h6⟩:=zFF hs h;obtain ⟨h7,h8⟩:=qb _ _ _ h1;rw [jY] at h7 h8;refine ⟨_,h8,jh (ki h5 o) _,jA (jc h6 o) _,by rw [List.length_take]; omega,?_⟩;refine run_firstCells_some w sz n ⟨N.bl l,o,none⟩ k c _ (by rw [List.length_map,List.length_take]; omega) (fun j v hv=>?_);rw [zq];have hcl:(cs.map (tr N)).length=cs.length:=by simp
    rw [<- hcl] at h4;refine kx h2 h4 _ ?_;rw [List.getElem?_map,List.getElem?_take] at hv;split at hv
    . rw [List.getElem?_drop] at hv; rw [List.getElem?_map]; exact hv
    . cases hv
  . rename_i l z a p k;obtain ⟨hz,h'⟩:=zK h;clear h;have hz:=beq_iff.1 hz;subst hz;obtain ⟨cs,fz,arr,el',hi',g1,g2,g3,g4,g5,g6,g7,g8,g9,g10⟩:=zB5 hs h';obtain ⟨h7,h8⟩:=qb _ _ _ g1;rw [jY] at h7 h8;have hpos:0 < n * z:=Nat.mul_pos (by omega) g3;refine ⟨_,h8,jh (ki g8 _) _,jA (jc g9 _) _,by rw [List.length_take]; omega,?_⟩;rw [List.length_drop] at h7;have hac:a < N.cp l:=Nat.lt_of_mul_lt_mul_right (by omega:a * z < N.cp l * z);have hne:¬ N.cp l=a:=by omega
    simp only [tr,if_neg hne];refine run_firstCells_some w z n ⟨N.bl l,a * z,none⟩ k _ _ (by rw [List.length_map,List.length_take,List.length_drop]; omega) (fun j v hv=>?_);rw [zq];have hcl:(cs.map (tr N)).length=cs.length:=by simp
    rw [<- hcl] at g7;refine kx g4 g7 _ ?_;rw [List.getElem?_map,List.getElem?_take] at hv;split at hv
    . rw [List.getElem?_drop] at hv; rw [List.getElem?_map]; exact hv
    . cases hv
  . cases h
noncomputable def wrsK (S:XS) (sz:Nat) (x:T) (xs:List T) (K:XS->Bool):Bool:=
 match xs with
 | []=>K S
 | _::_=>(match x with
  | .slc l o _ _=>wrK S l o xs K
  | .sl l z a _ _=>bif Nat.beq z sz then grK S l z fun cs _ _=>bif Nat.ble (a * z+xs.length) cs.length then wrK S l (a * z) xs K else false else false
  | _=>false)
theorem zU5 (hs:HSim B N S w) {sz:Nat} {x:T} {xs:List T} {K:XS->Bool} (h:wrsK S sz x xs K=true) (hb:bds S.nl xs) (h1:ones xs):∃ S' w',K S' = true/\Stp B N S w N S' w'/\S'.nl=S.nl/\(∀ ad n c,tr N x = .slice (some ad) n c->(storeCells ad (xs.map (tr N))).run P w = .ok () w')/\(∀ n c,tr N x = .slice none n c->w' = w/\xs=[]):=by
 unfold wrsK at h;split at h
 . exact ⟨S,w,h,.refl hs,rfl,fun ad n c e=>by simp [storeCells],fun n c e=>⟨rfl,rfl⟩⟩
 . rename_i y ys;split at h
   . rename_i l o n c;obtain ⟨S',w',q1,q2,q3,q4⟩:=zQR (P:=P) hs h hb h1;refine ⟨S',w',q1,q3,q4,fun ad n' c' e=>?_,fun n' c' e=>by simp [tr] at e⟩;simp only [tr] at e;injection e with e _ _
     injection e with e
     subst e;exact q2
   . rename_i l z a p n;obtain ⟨hz,h'⟩:=zK h;clear h;have hz:=beq_iff.1 hz;subst hz;obtain ⟨cs,fz,arr,el',hi',g1,g2,g3,g4,g5,g6,g7,g8,g9,g10⟩:=zB5 hs h';obtain ⟨h2,h3⟩:=zK g1;have hle:=Nat.le_of_ble_eq_true h2;obtain ⟨S',w',q1,q2,q3,q4⟩:=zQR (P:=P) hs h3 hb h1;refine ⟨S',w',q1,q3,q4,fun ad n' c' e=>?_,fun n' c' e=>by simp [tr] at e⟩;have hac:a < N.cp l:=Nat.lt_of_mul_lt_mul_right (by simp at hle; omega:a * z < N.cp l * z);have hne:¬ N.cp l=a:=by omega
     simp only [tr,if_neg hne] at e;injection e with e _ _
     injection e with e
     subst e;exact q2
   . cases h
noncomputable def zOO (D:Dat) (S:XS) (t:TypeId) (x y:T) (K:T->XS->Bool):Bool:=
 match D.tt.get t with
 | some d=>(match d.u with
  | .slice el=>(match D.tt.get el with
   | some e=>(match lenT x,lenT y with
    | some n,some m=>celK S e.sz (min m n) y fun cs=>wrsK S e.sz x cs fun S'=>mkI .i64 (.ofNat (min m n)) fun v=>K v S'
    | _,_=>false)
   | none=>false)
  | _=>false)
 | none=>false
theorem zR5 (hD:DOk P D) (hs:HSim B N S w) {t:TypeId} {x y:T} {K:T->XS->Bool} (h:zOO D S t x y K=true) (rest:List TypeId) (ty:TypeId):Fin P B N S w K (Builtin.copy_ (t::rest).toArray ty #[tr N x,tr N y]):=by
 unfold zOO at h;split at h
 . rename_i d hd;have ht:=hD.tt _ _ hd;split at h
   . rename_i el hu;split at h
     . rename_i e he;have hte:=hD.tt _ _ he;split at h
       . rename_i n m hn hm;obtain ⟨cs,h1,h2,h3,h4,h5⟩:=zNM (P:=P) hs h hm;obtain ⟨S',w',q1,q2,q3,q4,q5⟩:=zU5 (P:=P) hs h1 h2 h3;rw [kN] at q1;refine ⟨_,N,S',w',q1,?_,q2,trivial⟩;obtain ⟨ad,c,ex⟩:=zCY (N:=N) hn;obtain ⟨ad',c',ey⟩:=zCY (N:=N) hm;rw [ey] at h5 ⊢;have hmin:Nat.min m n=min m n:=rfl;cases ad with
         | some ad=>
          have:=q4 ad n c ex;rw [ex];simp [Builtin.copy_,ht.run_und,hu,Builtin.lenOf,hte.run_sz,hmin,h5,this,goInt,tr]
         | none=>
          obtain ⟨rfl,rfl⟩:=q5 n c ex;rw [ex];simp [Builtin.copy_,ht.run_und,hu,Builtin.lenOf,hte.run_sz,hmin,h5,goInt,tr]
       . cases h
     . cases h
   . cases h
 . cases h
def xMin (x y:T) (K:T->Bool):Bool:=
 match x with
 | .int k a=>(match y with | .int _ b=>(bif iltB b a then K (.int k b) else K (.int k a)) | _=>false)
 | _=>false
def xMax (x y:T) (K:T->Bool):Bool:=
 match x with
 | .int k a=>(match y with | .int _ b=>(bif iltB a b then K (.int k b) else K (.int k a)) | _=>false)
 | _=>false
theorem zOM (hs:HSim B N S w) {x y:T} {K:T->Bool} (h:xMin x y K=true) (ts:Array TypeId) (ty:TypeId):FinS P N S w K (Builtin.min_ ts ty #[tr N x,tr N y]):=by
 unfold xMin at h;split at h
 . split at h
   . rename_i k a _ k' b;rw [zBU] at h;by_cases hab:b < a
     . simp only [hab,decide_true,cond_true] at h;exact finS  h (by simp [Builtin.min_,Builtin.min2,tr,hab]) trivial
     . simp only [hab,decide_false,cond_false] at h;exact finS  h (by simp [Builtin.min_,Builtin.min2,tr,hab]) trivial
   . cases h
 . cases h
theorem zN6 (hs:HSim B N S w) {x y:T} {K:T->Bool} (h:xMax x y K=true) (ts:Array TypeId) (ty:TypeId):FinS P N S w K (Builtin.max_ ts ty #[tr N x,tr N y]):=by
 unfold xMax at h;split at h
 . split at h
   . rename_i k a _ k' b;rw [zBU] at h;by_cases hab:a < b
     . simp only [hab,decide_true,cond_true] at h;exact finS  h (by simp [Builtin.max_,Builtin.max2,tr,hab]) trivial
     . simp only [hab,decide_false,cond_false] at h;exact finS  h (by simp [Builtin.max_,Builtin.max2,tr,hab]) trivial
   . cases h
 . cases h
theorem zOZ (vs:List Value):∀ (off:Nat) (k:Nat) (cells:Array Value),off+k+vs.length<=cells.size ->
 ((vs.zipIdx k).foldl (fun cs (c,j)=>cs.setIfInBounds (off+j) c) cells).toList=cells.toList.take (off+k)++vs++cells.toList.drop (off+k+vs.length):=by
 induction vs with
 | nil=>intro off k cells h; simp
 | cons v vs ih=>
  intro off k cells h;simp only [List.zipIdx_cons,List.foldl_cons,List.length_cons] at h ⊢;rw [ih off (k+1) _ (by simp; omega)];apply List.ext_getElem?;intro j;simp only [Array.toList_setIfInBounds,List.getElem?_append,List.length_append,List.length_take,List.getElem?_take,List.getElem?_drop,List.getElem?_set,Array.length_toList,List.length_set,List.length_cons];have m1:min (off+(k+1)) cells.size=off+(k+1):=by omega
  have m2:min (off+k) cells.size=off+k:=by omega
  rw [m1,m2];by_cases j1:j < off+k
  . simp [j1,show j < off+(k+1) by omega,show j < off+(k+1)+vs.length by omega,show off+k≠j by omega,show j < off+k+(vs.length+1) by omega]
  . by_cases j2:j=off+k
    . subst j2;simp [show off+k < off+(k+1) by omega,show off+k < off+(k+1)+vs.length by omega,show off+k < cells.size by omega]
    . by_cases j3:j < off+(k+1)+vs.length
      . have e:j - (off+k)=(j - (off+(k+1)))+1:=by omega
        simp [j1,j3,show ¬ j < off+(k+1) by omega,e,show j < off+k+(vs.length+1) by omega]
      . simp [j1,j3,show ¬ j < off+(k+1) by omega,show ¬ j < off+k+(vs.length+1) by omega,show off+k≠off+(k+1)+vs.length+(j - (off+(k+1)+vs.length)) by omega];congr 1;omega
noncomputable def filK (pl:Nat->(Nat->Nat->Bool)->Bool) (ps:List (Nat×T)):List T->(List T->Bool)->Bool:=
 List.rec (motive:=fun _=>List T->(List T->Bool)->Bool) (fun cs κ=>κ cs) (fun p _ ih cs κ=>pl p.1 fun off size=>zGN p.2 fun xs=>bif Nat.beq xs.length size then splK xs off cs fun cs'=>ih cs' κ else false) ps
theorem zD1 {nl:Nat} {pl:Nat->(Nat->Nat->Bool)->Bool} {place:Nat->Option (Nat×Nat)} (hpl:∀ i κ,pl i κ=true->∃ o s,place i=some (o,s)/\κ o s=true) (N:NM):∀ {ps:List (Nat×T)} {cs:List T} {κ:List T->Bool},filK pl ps cs κ=true->(∀ p ∈ ps,bd nl p.2)->bds nl cs->ones cs ->
 ∃ cs',κ cs' = true/\bds nl cs'/\ones cs'/\Instr.fill place (cs.map (tr N)).toArray (ps.map fun p=>(p.1,tr N p.2))=some (cs'.map (tr N)).toArray
 | [],cs,κ,h,_,hb,h1=>⟨cs,h,hb,h1,rfl⟩
 | p::ps,cs,κ,h,hp,hb,h1=>by
  obtain ⟨o,s,h2,h3⟩:=hpl _ _ (show pl p.1 (fun off size=>zGN p.2 fun xs=>bif Nat.beq xs.length size then splK xs off cs fun cs'=>filK pl ps cs' κ else false)=true from h);obtain ⟨xs,h4,h5,h6,h7⟩:=zET h3 (hp p (by simp)) N;obtain ⟨h8,h9⟩:=zK h4;obtain ⟨h10,h11⟩:=zAp _ _ _ _ h9;obtain ⟨cs',q1,q2,q3,q4⟩:=zD1 hpl N h11 (fun q hq=>hp q (by simp [hq])) (yw (yw (jh hb _) h6) (ki hb _)) (jE (jE (jA h1 _) h7) (jc h1 _));refine ⟨cs',q1,q2,q3,?_⟩;simp only [List.map_cons,Instr.fill,h2,h5];have hs:=beq_iff.1 h8;have hb':(decide ((xs.map (tr N)).toArray.size≠s) || decide (o+(xs.map (tr N)).toArray.size > (cs.map (tr N)).toArray.size))=false:=by simp; omega
  simp only [hb',Bool.false_eq_true,if_false];rw [<- q4];congr 1;apply Array.ext';have:=zOZ (xs.map (tr N)) o 0 (cs.map (tr N)).toArray (by simp; omega);simp only [Nat.add_zero] at this;simp only [List.map_append,List.map_take,List.map_drop];rw [List.length_map] at this;rw [<- this];simp
noncomputable def zFV (D:Dat) (t:TypeId) (ps:List (Nat×T)) (K:T->Bool):Bool:=
 match D.tt.get t with
 | some d=>(match d.zs with
  | some zs=>(match d.u with
   | .struct _=>bif d.fl.all (fun p=>(D.tt.get p.2).isSome) then filK (fun i κ=>nthK i d.fl fun p=>(match D.tt.get p.2 with | some e=>κ p.1 e.sz | none=>false)) ps zs fun cs=>K (.agg cs) else false
   | .array _ el=>(match D.tt.get el with
    | some e=>filK (fun i κ=>κ (i * e.sz) e.sz) ps zs fun cs=>K (.agg cs)
    | none=>false)
   | _=>false)
  | none=>false)
 | none=>false
theorem zJn {α β:Type} (f:α->Option β) (g:α->β):∀ (l:List α),(∀ x ∈ l,f x=some (g x))->l.mapM f=some (l.map g)
 | [],_=>rfl
 | x::r,hx=>by
  simp only [List.mapM_cons,hx x (by simp),zJn f g r fun y hy=>hx y (by simp [hy])];rfl
theorem zJs (hD:DOk P D) (hs:HSim B N S w) {t:TypeId} {ps:List (Nat×T)} {K:T->Bool} (h:zFV D t ps K=true) (hb:∀ p ∈ ps,bd S.nl p.2):FinS P N S w K (Instr.build t (ps.map fun p=>(p.1,tr N p.2)).toArray):=by
 unfold zFV at h;split at h
 . rename_i d hd;have ht:=hD.tt _ _ hd;split at h
   . rename_i zs hz;obtain ⟨z,z1,z2,z3,z4⟩:=ht.zs zs hz;have z5:z.cells=(zs.map (tr N)).toArray:=by apply Array.ext'; simp [z2]
     split at h
     . rename_i fs hu;obtain ⟨h1,h2⟩:=zK h;have hall:∀ f ∈ fs.toList,∃ e,TOk P f.type e:=fun f hf=>by
        have:=List.all_eq_true.1 h1 (f.offset,f.type) (by rw [<- ht.fl fs hu]; exact List.mem_map.2 ⟨f,hf,rfl⟩);obtain ⟨e,he⟩:=Option.isSome_iff_exists.1 this;exact ⟨e,hD.tt _ _ he⟩
       have hm:fs.toList.mapM (fun f=>(P.info? f.type).map fun i=>(f.offset,i.size))=some (fs.toList.map fun f=>(f.offset,P.cellsOf f.type)):=zJn _ _ _ fun f hf=>by
        obtain ⟨e,he⟩:=hall f hf;simp [he.info,Program.cellsOf]
       obtain ⟨cs',q1,q2,q3,q4⟩:=zD1 (place:=fun i=>(fs.toList.map fun f=>(f.offset,P.cellsOf f.type)).toArray[i]?) (fun i κ hk=>by
        obtain ⟨p,k1,k2⟩:=zBX hk;obtain ⟨fd,k3,k4,k5⟩:=zMY ht hu k1;split at k2
        . rename_i e he;have hte:=hD.tt _ _ he;refine ⟨_,_,?_,k2⟩;have:P.cellsOf fd.type=e.sz:=by rw [k5]; simp [Program.cellsOf,hte.info,hte.sz]
          simp [k3,this,k4]
        . cases k2) N h2 hb (yI (Nat.zero_le _) _ z3) z4
       refine finS  q1 ?_ ⟨q2,q3⟩;simp only [tr,yE];refine run_build w t _ _ ?_;unfold Program.built;simp only [ht.info,ht.und,hu,z1,hm,z5];exact q4
     . rename_i n el hu;split at h
       . rename_i e he;have hte:=hD.tt _ _ he;obtain ⟨cs',q1,q2,q3,q4⟩:=zD1 (place:=fun i=>some (i * e.sz,e.sz)) (fun i κ hk=>⟨_,_,rfl,hk⟩) N h hb (yI (Nat.zero_le _) _ z3) z4;refine finS  q1 ?_ ⟨q2,q3⟩;simp only [tr,yE];refine run_build w t _ _ ?_;unfold Program.built;simp only [ht.info,ht.und,hu,z1,hte.info,hte.sz,z5];exact q4
       . cases h
     . cases h
   . cases h
 . cases h
noncomputable def repK (zs:List T) (n:Nat):(List T->Bool)->Bool:=
 Nat.rec (motive:=fun _=>(List T->Bool)->Bool) (fun κ=>κ []) (fun _ ih κ=>ih fun r=>appK zs r κ) n
theorem zBP (zs:List T):∀ (n:Nat) (κ:List T->Bool),repK zs n κ=κ (List.replicate n zs).flatten
 | 0,κ=>rfl
 | n+1,κ=>by
  show (repK zs n fun r=>appK zs r κ)=_;rw [zBP zs n,qS,List.replicate_succ,List.flatten_cons]
theorem zN1 {α:Type} (zs:List α):∀ (n i:Nat),i < n * zs.length->(List.replicate n zs).flatten[i]? = zs[i % zs.length]?
 | 0,i,h=>by omega
 | n+1,i,h=>by
  rw [List.replicate_succ,List.flatten_cons,List.getElem?_append];split
  . rename_i hi; rw [Nat.mod_eq_of_lt hi]
  . rename_i hi;rw [Nat.add_mul] at h;rw [zN1 zs n (i - zs.length) (by omega)];have:i=(i - zs.length)+zs.length:=by omega
    rw [this,Nat.add_mod_right];simp
theorem zBr {n sz:Nat} {z:Array Value} {zs:List T} (hz:zs.map (tr N)=z.toList) (hsz:zs.length=sz) (hpos:0 < sz):((Array.range (n * sz)).map (z[· % z.size]!)).toList=(List.replicate n zs).flatten.map (tr N):=by
 have hl:z.size=sz:=by rw [<- Array.length_toList,<- hz,List.length_map,hsz]
 apply List.ext_getElem?;intro i;rw [List.getElem?_map];by_cases hi:i < n * sz
 . rw [zN1 zs n i (by rw [hsz]; exact hi),hsz];have hm:i % sz < z.size:=by rw [hl]; exact Nat.mod_lt _ hpos
   have e:(zs[i % sz]?).map (tr N)=some (z[i % sz]'hm):=by
    rw [<- List.getElem?_map,hz];simp [hm]
   rw [e];simp [hi,hl];exact getElem!_pos z (i % sz) hm
 . have:(List.replicate n zs).flatten.length=n * sz:=by simp [hsz]
   rw [List.getElem?_eq_none (by simp; omega),List.getElem?_eq_none (by omega)];rfl
noncomputable def zBe (D:Dat) (S:XS) (t:TypeId) (n:Nat) (ps:List (Nat×T)) (K:T->XS->Bool):Bool:=
 match D.tt.get t with
 | some d=>(match d.u with
  | .slice el=>(match D.tt.get el with
   | some e=>(match e.zs with
    | some zs=>bif Nat.beq zs.length e.sz && Nat.blt 0 e.sz && Nat.ble (n * e.sz) 16777216 then repK zs n fun cs=>filK (fun i κ=>κ (i * e.sz) e.sz) ps cs fun cs'=>newK S (.row 0 cs' 0 el) fun l S=>K (.slc l 0 n n) S else false
    | none=>false)
   | none=>false)
  | _=>false)
 | none=>false
theorem zAa {nl:Nat} {zs:List T} (h:bds nl zs):∀ n,bds nl (List.replicate n zs).flatten
 | 0=>trivial
 | n+1=>by rw [List.replicate_succ,List.flatten_cons]; exact yw h (zAa h n)
theorem kj {zs:List T} (h:ones zs):∀ n,ones (List.replicate n zs).flatten
 | 0=>rfl
 | n+1=>by rw [List.replicate_succ,List.flatten_cons]; exact jE h (kj h n)
theorem zJD (hD:DOk P D) (hs:HSim B N S w) {t:TypeId} {n:Nat} {ps:List (Nat×T)} {K:T->XS->Bool} (h:zBe D S t n ps K=true) (hb:∀ p ∈ ps,bd S.nl p.2):Fin P B N S w K (Instr.buildSlice t n (ps.map fun p=>(p.1,tr N p.2)).toArray):=by
 unfold zBe at h;split at h
 . rename_i d hd;have ht:=hD.tt _ _ hd;split at h
   . rename_i el hu;split at h
     . rename_i e he;have hte:=hD.tt _ _ he;split at h
       . rename_i zs hz;obtain ⟨z,z1,z2,z3,z4⟩:=hte.zs zs hz;obtain ⟨h1,h2⟩:=zK h;simp only [Bool.and_eq_true] at h1;have k1:=beq_iff.1 h1.1.1;have k2:=blt_iff.1 h1.1.2;have k3:=Nat.le_of_ble_eq_true h1.2;rw [zBP] at h2;obtain ⟨cs',q1,q2,q3,q4⟩:=zD1 (place:=fun i=>some (i * e.sz,e.sz)) (fun i κ hk=>⟨_,_,rfl,hk⟩) N h2 hb (yI (Nat.zero_le _) _ (zAa z3 n)) (kj z4 n);obtain ⟨S',r1,r2,r3⟩:=zBZ hs q1 q2 q3 [] 0 (by simp);refine ⟨_,_,S',_,r1,?_,r2,by simp only [bd,r3]; omega⟩;have hu':P.underlying t=some (.slice el):=by rw [ht.und,hu]
         rw [List.append_nil];by_cases hz0:n * e.sz=0
         . have hn:n=0:=by
            rcases Nat.mul_eq_zero.1 hz0 with h | h
            . exact h
            . omega
           subst hn;have q5:Instr.fill (fun i=>some (i * e.sz,e.sz)) #[] (ps.map fun p=>(p.1,tr N p.2))=some (cs'.map (tr N)).toArray:=by simpa using q4
           simp [Instr.buildSlice,run_underlying hu',hte.run_sz,q5,newRow,tr,NM.add_bl,show (Array.range 0:Array Nat) = #[] from rfl]
         . have e1:(Array.range (n * e.sz)).map (z.cells[· % z.cells.size]!)=((List.replicate n zs).flatten.map (tr N)).toArray:=by
            apply Array.ext';rw [zBr (N:=N) (z2 N) k1 k2]
           rw [<- e1] at q4;simp [Instr.buildSlice,run_underlying hu',hte.run_sz,hz0,show ¬ (16777216 < n * e.sz) by omega,zeroValue,typeInfo,hte.info,z1,q4,newRow,tr,NM.add_bl]
       . cases h
     . cases h
   . cases h
 . cases h
noncomputable def zCA (D:Dat) (S:XS) (t:TypeId) (x y:T) (K:T->XS->Bool):Bool:=
 match D.tt.get t with
 | some d=>(match d.u with
  | .slice el=>(match D.tt.get el with
   | some e=>(match e.zs with
    | some zs=>ixK x 4611686018427387904 fun n=>ixK y 4611686018427387904 fun c=>bif Nat.beq zs.length e.sz && Nat.blt 0 e.sz && Nat.ble n c && Nat.ble (e.bytes * c) 281474976710656 then repK zs c fun cs=>newK S (.row 0 cs 0 el) fun l S=>K (.slc l 0 n c) S else false
    | none=>false)
   | none=>false)
  | _=>false)
 | none=>false
theorem zKA (hD:DOk P D) (hs:HSim B N S w) {t:TypeId} {x y:T} {K:T->XS->Bool} (h:zCA D S t x y K=true):Fin P B N S w K (Instr.makeSlice t (tr N x) (tr N y)):=by
 unfold zCA at h;split at h
 . rename_i d hd;have ht:=hD.tt _ _ hd;split at h
   . rename_i el hu;split at h
     . rename_i e he;have hte:=hD.tt _ _ he;split at h
       . rename_i zs hz;obtain ⟨z,z1,z2,z3,z4⟩:=hte.zs zs hz;obtain ⟨k,n,rfl,hn,h1⟩:=zCk h;obtain ⟨k',c,rfl,hc,h2⟩:=zCk h1;obtain ⟨h3,h4⟩:=zK h2;simp only [Bool.and_eq_true] at h3;have k1:=beq_iff.1 h3.1.1.1;have k2:=blt_iff.1 h3.1.1.2;have k3:=Nat.le_of_ble_eq_true h3.1.2;have k4:=Nat.le_of_ble_eq_true h3.2;rw [zBP] at h4;obtain ⟨S',r1,r2,r3⟩:=zBZ hs h4 (yI (Nat.zero_le _) _ (zAa z3 c)) (kj z4 c) [] 0 (by simp);refine ⟨_,_,S',_,r1,?_,r2,by simp only [bd,r3]; omega⟩;have hu':P.underlying t=some (.slice el):=by rw [ht.und,hu]
         rw [List.append_nil];have hb':(e.i.bytes:Int) * (Int.ofNat c)<=281474976710656:=by
          rw [hte.bytes];have h:((e.bytes * c:Nat):Int)<=281474976710656:=by omega
          rwa [Int.natCast_mul] at h
         have hr:=run_make (P:=P) w t el e.i z hu' hte.info z1 k k' (Int.ofNat n) (Int.ofNat c) (by simp) (by simpa using k3) hb' (by simp only [Int.ofNat_eq_natCast]; omega);simp only [tr,NM.add_bl];rw [hr];have e1:madeCells z.cells ((Int.ofNat c).toNat * e.i.size)=((List.replicate c zs).flatten.map (tr N)).toArray:=by
          apply Array.ext';rw [hte.sz];exact zBr (N:=N) (z2 N) k1 k2
         rw [e1];rfl
       . cases h
     . cases h
   . cases h
 . cases h
end
end
section
open Go.RowKit
section
variable {P:Program} {B:Bs} {N:NM} {S:XS} {w:World} {D:Dat}
def byT (x:T) (κ:Nat->Bool):Bool:=
 match x with
 | .int k n=>(match k with
  | .u8=>(match n with
   | .ofNat m=>κ m
   | .negSucc _=>false)
  | _=>false)
 | _=>false
noncomputable def zHf (l:List T):(List Nat->Bool)->Bool:=
 List.rec (motive:=fun _=>(List Nat->Bool)->Bool) (fun κ=>κ []) (fun x _ ih κ=>byT x fun m=>ih fun r=>κ (m::r)) l
theorem zFI:∀ {l:List T} {κ:List Nat->Bool},zHf l κ=true->∃ ns,κ ns=true/\l=ns.map fun n=>.int .u8 (.ofNat n)
 | [],κ,h=>⟨[],h,rfl⟩
 | x::r,κ,h=>by
  replace h:byT x (fun m=>zHf r fun q=>κ (m::q))=true:=h;unfold byT at h;split at h
  . split at h
    . split at h
      . rename_i m;obtain ⟨ns,h1,h2⟩:=zFI h;exact ⟨m::ns,h1,by rw [h2]; rfl⟩
      . cases h
    . cases h
  . cases h
noncomputable def zO7 (D:Dat) (S:XS) (f t:TypeId) (x:T) (K:T->Bool):Bool:=
 match D.tt.get f with
 | some df=>(match D.tt.get t with
  | some dt=>(match x with
   | .int _ n=>(match dt.u with
    | .int k=>mkI k (wr k n) K
    | .string=>(match n with
     | .ofNat m=>bif Nat.blt m 128 then K (.str [m]) else false
     | .negSucc _=>false)
    | _=>false)
   | .str s=>(match dt.u with
    | .string=>K (.str s)
    | _=>false)
   | x=>(match dt.u with
    | .string=>(match df.u with
     | .slice e=>(match D.tt.get e with
      | some de=>(match de.u with
       | .int .u8=>(match lenT x with
        | some n=>celK S 1 n x fun cs=>zHf cs fun s=>K (.str s)
        | none=>false)
       | _=>false)
      | none=>false)
     | _=>false)
    | _=>false))
  | none=>false)
 | none=>false
theorem zKx {x:T} {n:Nat} (hn:lenT x=some n) {ns:List Nat} (h:(Builtin.firstCells 1 n (tr N x)).run P w = .ok ((ns.map fun n=>T.int .u8 (.ofNat n)).map (tr N)).toArray w) (hl:ns.length=n):(Conv.bytesToString (tr N x)).run P w = .ok (.string (bts ns)) w:=by
 obtain ⟨ad,c,e⟩:=zCY (N:=N) hn;rw [e] at h ⊢;cases ad with
 | none=>
  simp only [Builtin.firstCells,Sem.run_pure] at h;injection h with h
  have:ns=[]:=by
   cases ns with
   | nil=>rfl
   | cons a b=>have:=congrArg Array.size h; simp at this
  subst this;simp [Conv.bytesToString,bts];rfl
 | some ad=>
  simp only [Builtin.firstCells,Nat.mul_one] at h;have e1:(ns.map fun n=>T.int .u8 (.ofNat n)).map (tr N)=(ns.map Int.ofNat).map (Value.int .u8):=by simp [tr]
  rw [e1] at h;have:=run_bytesToString (P:=P) w ad n c (ns.map Int.ofNat) h;rw [this];congr 2;have key:∀ (l:List Nat) (acc:ByteArray),(l.map Int.ofNat).foldl (fun s n=>s.push (UInt8.ofNat n.toNat)) acc=⟨acc.data++(l.map UInt8.ofNat).toArray⟩:=by
   intro l
   induction l with
   | nil=>intro acc; simp
   | cons a l ih=>
    intro acc;rw [List.map_cons,List.foldl_cons,ih];simp [ByteArray.push]
  have k2:=key ns ByteArray.empty;rw [k2];apply ByteArray.ext;show #[]++(ns.map UInt8.ofNat).toArray=(ns.map UInt8.ofNat).toArray;simp
theorem zS1 (hD:DOk P D) (hs:HSim B N S w) {f t:TypeId} {x:T} {K:T->Bool} (h:zO7 D S f t x K=true):FinS P N S w K (Go.convert f t (tr N x)):=by
 unfold zO7 at h;split at h
 . rename_i df hdf;have htf:=hD.tt _ _ hdf;split at h
   . rename_i dt hdt;have htt:=hD.tt _ _ hdt;split at h
     . rename_i k n;split at h
       . rename_i k' hu;rw [kN,zPF] at h;refine finS  h ?_ trivial;unfold Go.convert;simp only [Sem.run_bind,htf.run_und,htt.run_und,hu,Result.andThen_ok,tr];rfl
       . rename_i hu;split at h
         . rename_i m;obtain ⟨h1,h2⟩:=zK h;have hm:=blt_iff.1 h1;refine finS  h2 ?_ trivial;unfold Go.convert;simp only [Sem.run_bind,htf.run_und,htt.run_und,hu,Result.andThen_ok,tr,Conv.intToString,Sem.run_pure];have hv:Utf8.valid (Int.ofNat m)=true:=by
            unfold Utf8.valid;rw [Bool.or_eq_true,Bool.and_eq_true];left;constructor <;> (rw [decide_eq_true_eq]; simp only [Int.ofNat_eq_natCast]; omega)
           have he:Utf8.encode (Int.ofNat m)=bts [m]:=by
            unfold Utf8.encode;simp only [hv,if_true];rw [if_pos (show (Int.ofNat m).toNat < 128 from hm)];rfl
           rw [he]
         . cases h
       . cases h
     . rename_i s;split at h
       . rename_i hu;refine finS  h ?_ trivial;unfold Go.convert;simp only [Sem.run_bind,htf.run_und,htt.run_und,hu,Result.andThen_ok,tr];cases df.u <;> rfl
       . cases h
     . rename_i hni hns;split at h
       . rename_i hu;split at h
         . rename_i e huf;split at h
           . rename_i de hde;have hte:=hD.tt _ _ hde;split at h
             . rename_i hue;split at h
               . rename_i n hn;obtain ⟨cs,h1,h2,h3,h4,h5⟩:=zNM (P:=P) hs h hn;obtain ⟨ns,h6,rfl⟩:=zFI h1;refine finS  h6 ?_ trivial;have hr:=zKx hn h5 (by simpa using h4);obtain ⟨ad,c,ex⟩:=zCY (N:=N) hn;rw [ex] at hr ⊢;unfold Go.convert;simp only [Sem.run_bind,htf.run_und,htt.run_und,hu,huf,Result.andThen_ok,hte.run_und,hue,tr];cases ad <;> exact hr
               . cases h
             . cases h
           . cases h
         . cases h
       . cases h
   . cases h
 . cases h
noncomputable def keqK (d:TypeDesc) (k k':T) (κ:Bool->Bool):Bool:=
 match d with
 | .string=>(match k with
  | .str a=>(match k' with | .str b=>fB (seqB a b) κ | _=>false)
  | _=>false)
 | .int _=>(match k with
  | .int kk a=>(match k' with | .int kk' b=>bif Nat.beq (Kd kk) (Kd kk') then fB (ieqB a b) κ else false | _=>false)
  | _=>false)
 | _=>false
theorem zIa (a b:List Nat):(bts a == bts b)=seqB a b:=by
 rw [jv,Bool.eq_iff_iff,decide_eq_true_eq];constructor
 . intro h;have h':bts a=bts b:=by
    have h2:((bts a).data == (bts b).data)=true:=h;apply ByteArray.ext;exact eq_of_beq h2
   have:=congrArg (fun b=>b.data.toList) h';simpa [bts] using this
 . intro h;have h':bts a=bts b:=by unfold bts; rw [h]
   rw [h'];show ((bts b).data == (bts b).data)=true;simp
theorem zNL {d:TypeDesc} {k k':T} {κ:Bool->Bool} (h:keqK d k k' κ=true) (N:NM):∃ b,κ b=true/\Instr.sameNow d (tr N k) (tr N k')=some b/\((d = .string/\∃ a a',k = .str a/\k' = .str a'/\b=seqB a a')\/(∃ q,d = .int q)/\∃ kk a a',k = .int kk a/\k' = .int kk a'/\b=(a == a')):=by
 unfold keqK at h;split at h
 . split at h
   . split at h
     . rename_i a _ b;rw [zBH] at h;exact ⟨_,h,by simp [Instr.sameNow,tr,zIa],.inl ⟨rfl,_,_,rfl,rfl,rfl⟩⟩
     . cases h
   . cases h
 . split at h
   . split at h
     . rename_i kk a _ kk' b;obtain ⟨h1,h2⟩:=zK h;have:=zHQ h1;subst this;rw [zBH,zCg] at h2;exact ⟨_,h2,by simp [Instr.sameNow,tr],.inr ⟨⟨_,rfl⟩,_,_,_,rfl,rfl,rfl⟩⟩
     . cases h
   . cases h
 . cases h
def trE (N:NM) (p:T×T×Nat):MapEntry:=⟨tr N p.1,tr N p.2.1,p.2.2⟩
noncomputable def zKV (d:TypeDesc) (k:T) (es:List (T×T×Nat)) (κ:Option T->Bool):Bool:=
 List.rec (motive:=fun _=>Bool) (κ none) (fun e _ ih=>keqK d k e.1 fun b=>bif b then κ (some e.2.1) else ih) es
theorem zMc {d:TypeDesc} {k:T} (N:NM):∀ {es:List (T×T×Nat)} {κ:Option T->Bool},zKV d k es κ=true->∀ i,∃ r,κ r=true/\(match r with
 | none=>Instr.findNow d (tr N k) (es.map (trE N)) i=some none
 | some v=>∃ j p,es[j]? = some p/\p.2.1=v/\Instr.findNow d (tr N k) (es.map (trE N)) i=some (some (i+j,tr N v)))
 | [],κ,h,i=>⟨none,h,rfl⟩
 | e::es,κ,h,i=>by
  obtain ⟨b,h1,h2,_⟩:=zNL (show keqK d k e.1 (fun b=>bif b then κ (some e.2.1) else zKV d k es κ)=true from h) N;cases b with
  | true=>
   refine ⟨some e.2.1,h1,0,e,rfl,rfl,?_⟩;simp only [List.map_cons,Instr.findNow,trE,h2];rfl
  | false=>
   obtain ⟨r,h3,h4⟩:=zMc N (show zKV d k es κ=true from h1) (i+1);refine ⟨r,h3,?_⟩;cases r with
   | none=>simpa only [List.map_cons,Instr.findNow,trE,h2] using h4
   | some v=>
    obtain ⟨j,p,h5,h6,h7⟩:=h4;refine ⟨j+1,p,h5,h6,?_⟩;simp only [List.map_cons,Instr.findNow,trE,h2];rw [h7];congr 3;omega
noncomputable def zKf (d:TypeDesc) (k v:T) (clock:Nat) (es:List (T×T×Nat)):(List (T×T×Nat)->Nat->Bool)->Bool:=
 List.rec (motive:=fun _=>(List (T×T×Nat)->Nat->Bool)->Bool) (fun κ=>fN (clock+1) fun c=>κ [(k,v,clock)] c)
  (fun e r ih κ=>keqK d k e.1 fun b=>bif b then κ ((k,v,e.2.2)::r) clock else ih fun es c=>κ (e::es) c) es
theorem zLQ {d:TypeDesc} {k v:T} {clock:Nat} (N:NM):∀ {es:List (T×T×Nat)} {κ:List (T×T×Nat)->Nat->Bool},zKf d k v clock es κ=true->∀ i,∃ es' c,κ es' c=true /\
 ((∃ j p u,es[j]? = some p/\es' = es.set j (k,v,p.2.2)/\c=clock/\Instr.findNow d (tr N k) (es.map (trE N)) i=some (some (i+j,u))/\Instr.sameNow d (tr N k) (tr N p.1)=some true/\((∃ a b,k = .str a/\p.1 = .str b/\seqB a b=true)\/(∃ kk a,k = .int kk a/\p.1 = .int kk a))) \/
  (es' = es++[(k,v,clock)]/\c=clock+1/\Instr.findNow d (tr N k) (es.map (trE N)) i=some none))
 | [],κ,h,i=>⟨_,_,by have h:(fN (clock+1) fun c=>κ [(k,v,clock)] c)=true:=h; rw [zo] at h; exact h,.inr ⟨rfl,rfl,rfl⟩⟩
 | e::es,κ,h,i=>by
  obtain ⟨b,h1,h2,hk⟩:=zNL (show keqK d k e.1 (fun b=>bif b then κ ((k,v,e.2.2)::es) clock else zKf d k v clock es fun es c=>κ (e::es) c)=true from h) N;cases b with
  | true=>
   refine ⟨_,_,h1,.inl ⟨0,e,tr N e.2.1,rfl,rfl,rfl,?_,h2,?_⟩⟩
   . simp only [List.map_cons,Instr.findNow,trE,h2]; rfl
   . rcases hk with ⟨_,a,a',q1,q2,q3⟩ | ⟨_,kk,a,a',q1,q2,q3⟩
     . exact .inl ⟨a,a',q1,q2,q3.symm⟩
     . have:a=a':=by simpa using q3.symm
       subst this;exact .inr ⟨kk,a,q1,q2⟩
  | false=>
   obtain ⟨es',c,h3,h4⟩:=zLQ N (show zKf d k v clock es (fun es c=>κ (e::es) c)=true from h1) (i+1);refine ⟨_,c,h3,?_⟩;rcases h4 with ⟨j,p,u,q1,q2,q3,q4,q5,q6⟩ | ⟨q1,q2,q3⟩
   . refine .inl ⟨j+1,p,u,q1,by rw [q2]; rfl,q3,?_,q5,q6⟩;simp only [List.map_cons,Instr.findNow,trE,h2];rw [q4];congr 3;omega
   . refine .inr ⟨by rw [q1]; rfl,q2,?_⟩;simpa only [List.map_cons,Instr.findNow,trE,h2] using q3
theorem zED {kt:TypeId} {d:TypeDesc} (hk:P.underlying kt=some d) (hd:d = .string\/∃ q,d = .int q) (b:Bool) (n:Nat) (v:Value):(Instr.checkKey b (n+1) kt v).run P w = .ok () w:=by
 unfold Instr.checkKey;rcases hd with rfl | ⟨q,rfl⟩ <;> simp [Sem.run_bind,run_underlying hk]
theorem zDu {kt:TypeId} {d:TypeDesc} (hk:P.underlying kt=some d) {v:Value} {es:List MapEntry} {r:Option (Nat×Value)} (h:Instr.findNow d v es 0=some r):(Instr.findKey kt v es).run P w = .ok r w:=by
 unfold Instr.findKey;simp [Sem.run_bind,run_underlying hk,h]
def keyD (d:TypeDesc):Bool:=
 match d with
 | .string=>true
 | .int _=>true
 | _=>false
theorem zOH {d:TypeDesc} (h:keyD d=true):d = .string\/∃ q,d = .int q:=by
 unfold keyD at h;split at h
 . exact .inl rfl
 . exact .inr ⟨_,rfl⟩
 . cases h
noncomputable def zroK (e:TD) (κ:T->Bool):Bool:=
 match e.zs with
 | some zs=>bif e.ag then κ (.agg zs) else (match zs with
  | [z]=>κ z
  | _=>false)
 | none=>false
def aggV:Value->Bool
 | .agg _=>true
 | _=>false
theorem zGK {t:TypeId} {e:TD} (ht:TOk P t e) {κ:T->Bool} (h:zroK e κ=true) (hag:∀ z,e.i.zero=some z->aggV z=e.ag) (N:NM):∃ x,κ x=true/\bd 0 x/\∀ w,(zeroValue t).run P w = .ok (tr N x) w:=by
 unfold zroK at h;split at h
 . rename_i zs hz;obtain ⟨z,z1,z2,z3,z4⟩:=ht.zs zs hz;have hz0:=hag z z1;cases ha:e.ag with
   | true=>
    rw [ha,cond_true] at h;rw [ha] at hz0;refine ⟨_,h,⟨z3,z4⟩,fun w=>?_⟩;cases z <;> simp [aggV] at hz0
    rename_i cs;have:cs=(zs.map (tr N)).toArray:=by apply Array.ext'; simp [z2,Value.cells]
    simp [zeroValue,typeInfo,ht.info,z1,tr,yE,this]
   | false=>
    rw [ha,cond_false] at h;rw [ha] at hz0;split at h
    . rename_i x;refine ⟨x,h,z3.1,fun w=>?_⟩;have:=z2 N;cases z <;> simp [aggV] at hz0 <;> simp [Value.cells] at this <;> simp [zeroValue,typeInfo,ht.info,z1,this]
    . cases h
 . cases h
def zagB (e:TD):Bool:=match e.i.zero with | some z=>(match z with | .agg _=>e.ag | _=>!e.ag) | none=>false
theorem zOL {e:TD} (h:zagB e=true):∀ z,e.i.zero=some z->aggV z=e.ag:=fun z hz=>by
 unfold zagB at h;rw [hz] at h;cases z <;> simp_all [aggV]
noncomputable def outK (c:Bool) (x:T) (ok:Bool) (K:T->Bool):Bool:=bif c then K (.tup [x,.bool ok]) else K x
noncomputable def zPJ (D:Dat) (S:XS) (t:TypeId) (m k:T) (c:Bool) (K:T->Bool):Bool:=
 match D.tt.get t with
 | some d=>(match d.u with
  | .map kt el=>(match D.tt.get kt with
   | some dk=>(match D.tt.get el with
    | some e=>bif keyD dk.u && zagB e then (match m with
     | .atm v=>(match v with
      | .map none=>zroK e fun x=>outK c x false K
      | _=>false)
     | .mp l=>(match S.h.get l with
      | some ob=>(match ob with
       | .mp es _=>zKV dk.u k es fun r=>(match r with
        | some x=>outK c x true K
        | none=>zroK e fun x=>outK c x false K)
       | _=>false)
      | none=>false)
     | _=>false) else false
    | none=>false)
   | none=>false)
  | _=>false)
 | none=>false
theorem zCV {c ok:Bool} {x:T} {K:T->Bool} (h:outK c x ok K=true) (hb:bd S.nl x):∃ y,K y=true/\bd S.nl y/\tr N y=(if c=true then .tuple #[tr N x,.bool ok] else tr N x):=by
 unfold outK at h;cases c with
 | true=>exact ⟨_,h,⟨hb,trivial,trivial⟩,by simp [tr,trs]⟩
 | false=>exact ⟨_,h,hb,by simp⟩
theorem zR1 (hD:DOk P D) (hs:HSim B N S w) {t:TypeId} {m k:T} {c:Bool} {K:T->Bool} (h:zPJ D S t m k c K=true):FinS P N S w K (Instr.lookup t (tr N m) (tr N k) c):=by
 unfold zPJ at h;split at h
 . rename_i d hd;have ht:=hD.tt _ _ hd;split at h
   . rename_i kt el hu;split at h
     . rename_i dk hdk;have htk:=hD.tt _ _ hdk;split at h
       . rename_i e he;have hte:=hD.tt _ _ he;obtain ⟨h1,h2⟩:=zK h;rw [Bool.and_eq_true] at h1;have hkd:=zOH h1.1;have hag:=zOL h1.2;clear h;split at h2
         . split at h2
           . obtain ⟨x,q1,q2,q3⟩:=zGK hte h2 hag N;obtain ⟨y,r1,r2,r3⟩:=zCV (S:=S) (N:=N) q1 (qR (Nat.zero_le _) _ q2);refine finS  r1 ?_ r2;have hf:(Instr.findKey kt (tr N k) []).run P w = .ok none w:=zDu htk.und rfl;rw [r3];simp only [Instr.lookup,Sem.run_bind,ht.run_und,hu,Result.andThen_ok,tr,Sem.run_pure];rw [zED htk.und hkd];simp only [Result.andThen_ok,hf,Sem.run_bind,q3,Sem.run_pure]
             all_goals (cases c <;> rfl)
           . cases h2
         . rename_i l;split at h2
           . rename_i ob ho;split at h2
             . rename_i es clock;obtain ⟨arr,k1,k2,k3⟩:=hs.ok l _ ho;have k2':arr.toList=es.map (trE N):=k2;obtain ⟨r,q1,q2⟩:=zMc N h2 0;have hget:(getObj (N.bl l)).run P w = .ok (.map arr clock) w:=by simp [getObj,Sem.run,k1]
               cases r with
               | some x=>
                obtain ⟨j,p,p1,p2,p3⟩:=q2;have hbx:bd S.nl x:=by rw [<- p2]; exact (k3 p (List.mem_of_getElem? p1)).2
                obtain ⟨y,r1,r2,r3⟩:=zCV (S:=S) (N:=N) q1 hbx;refine finS  r1 ?_ r2;rw [r3];simp only [Instr.lookup,Sem.run_bind,ht.run_und,hu,Result.andThen_ok,tr,hget,Sem.run_pure];rw [zED htk.und hkd];simp only [Result.andThen_ok,k2',zDu htk.und p3,Sem.run_pure,Sem.run_bind]
                all_goals (cases c <;> rfl)
               | none=>
                obtain ⟨x,q3,q4,q5⟩:=zGK hte q1 hag N;obtain ⟨y,r1,r2,r3⟩:=zCV (S:=S) (N:=N) q3 (qR (Nat.zero_le _) _ q4);refine finS  r1 ?_ r2;rw [r3];simp only [Instr.lookup,Sem.run_bind,ht.run_und,hu,Result.andThen_ok,tr,hget,Sem.run_pure];rw [zED htk.und hkd];simp only [Result.andThen_ok,k2',zDu htk.und q2,Sem.run_bind,q5,Sem.run_pure]
                all_goals (cases c <;> rfl)
             . cases h2
           . cases h2
         . cases h2
       . cases h
     . cases h
   . cases h
 . cases h
end
end
section
open Go.RowKit
section
variable {P:Program} {B:Bs} {N:NM} {S:XS} {w:World} {D:Dat}
theorem jw {w:World} {b:Nat} {o:Obj} (o':Obj) (h:w.heap[b]? = some o):(w.putObj b o').heap[b]? = some o':=by
 have hb:=(Array.getElem?_eq_some_iff.1 h).1;simp [World.putObj,hb]
theorem zAk (hs:HSim B N S w) {l:Nat} {o o':HO} (ho:S.h.get l=some o) (hd:y9 o=false) (hr:isRo o=false) (hr':isRo o' = false) {ob ob':Obj} (hb:w.heap[N.bl l]? = some ob) (hk:ObOk N S.nl l (some ob') o') {h':Tr HO} (hh:∀ j,h'.get j=if j=l then some o' else S.h.get j) :
 Stp B N S w N ⟨h',S.nl⟩ (w.putObj (N.bl l) ob'):=by
 have hsz:(w.putObj (N.bl l) ob').heap.size=w.heap.size:=by simp [World.putObj]
 refine .set ho hd hh (hs.upd ho hd hr hr' (fun b hb=>World.putObj_heap_other hb) hsz (by rw [jw _ hb]; exact hk) hh) ⟨rfl,rfl,rfl,by rw [hsz]; exact Nat.le_refl _,fun k hk=>World.putObj_heap_other (fun e=>?_)⟩ (fun b hb=>World.putObj_heap_other hb);have:=(hs.low l o ho hd).1;rw [hr] at this;simp only [Bool.false_eq_true,if_false] at this;omega
noncomputable def zHE (S:XS) (K:T->XS->Bool):Bool:=newK S (.mp [] 0) fun l S=>K (.mp l) S
theorem zNC (hs:HSim B N S w) {K:T->XS->Bool} (h:zHE S K=true) (t:TypeId):Fin P B N S w K (Instr.makeMap t none):=by
 obtain ⟨S',q1,q2,q3⟩:=zFs hs h rfl 0 (ob:=.map #[] 0) ⟨#[],rfl,rfl,fun _ hp=>by cases hp⟩;refine ⟨_,_,S',_,q1,?_,q2,by simp only [bd,q3]; omega⟩;simp only [tr,NM.add_bl];simp [Instr.makeMap]
noncomputable def zLN (D:Dat) (S:XS) (t:TypeId) (m k v:T) (K:XS->Bool):Bool:=
 match D.tt.get t with
 | some d=>(match d.u with
  | .map kt _=>(match D.tt.get kt with
   | some dk=>bif keyD dk.u then (match m with
    | .mp l=>(match S.h.get l with
     | some ob=>(match ob with
      | .mp es clock=>zKf dk.u k v clock es fun es' c=>Tr.setK (.mp es' c) 40 S.h l fun h=>K ⟨h,S.nl⟩
      | _=>false)
     | none=>false)
    | _=>false) else false
   | none=>false)
  | _=>false)
 | none=>false
theorem zNb {u v:Value} (h:Instr.sameBits 10000 u v=true):(Instr.keyThatStays u v).run P w = .ok v w:=by
 unfold Instr.keyThatStays;simp [h]
theorem zHZ (arr:Array MapEntry) (i:Nat) (f:MapEntry->MapEntry) {e:MapEntry} (h:arr.toList[i]? = some e):(arr.modify i f).toList=arr.toList.set i (f e):=by
 apply List.ext_getElem?;intro j;rw [Array.getElem?_toList,Array.getElem?_modify,List.getElem?_set];obtain ⟨hi,he⟩:=List.getElem?_eq_some_iff.1 h;by_cases e1:i=j
 . subst e1;rw [if_pos rfl,if_pos rfl,if_pos hi];rw [<- Array.getElem?_toList,h]; rfl
 . rw [if_neg e1,if_neg e1]; simp
theorem zQh (hD:DOk P D) (hs:HSim B N S w) {t:TypeId} {m k v:T} {K:XS->Bool} (h:zLN D S t m k v K=true) (hk:bd S.nl k) (hv:bd S.nl v):Fin0 P B N S w K (Instr.mapUpdate t (tr N m) (tr N k) (tr N v)):=by
 unfold zLN at h;split at h
 . rename_i d hd;have ht:=hD.tt _ _ hd;split at h
   . rename_i kt el hu;split at h
     . rename_i dk hdk;have htk:=hD.tt _ _ hdk;obtain ⟨h1,h2⟩:=zK h;have hkd:=zOH h1;clear h;split at h2
       . rename_i l;split at h2
         . rename_i ob ho;split at h2
           . rename_i es clock;obtain ⟨arr,k1,k2,k3⟩:=hs.ok l _ ho;have k2':arr.toList=es.map (trE N):=k2;have hget:(getObj (N.bl l)).run P w = .ok (.map arr clock) w:=by simp [getObj,Sem.run,k1]
             have hset:∀ o,(setObj (N.bl l) o).run P w = .ok () (w.putObj (N.bl l) o):=fun o=>by
              simp [setObj,Sem.run,World.putObj,k1]
             obtain ⟨es',c,q1,q2⟩:=zLQ N h2 0;obtain ⟨h',q3,q4⟩:=Tr.setK_ok _ _ _ _ _ q1;rcases q2 with ⟨j,p,u,r1,r2,r3,r4,r5,r6⟩ | ⟨r1,r2,r3⟩
             . rw [Nat.zero_add] at r4;have hjl:arr.toList[j]? = some (trE N p):=by rw [k2',List.getElem?_map,r1]; rfl
               have hja:arr[j]? = some (trE N p):=by rw [<- Array.getElem?_toList]; exact hjl
               have hsame:Instr.sameBits 10000 (tr N p.1) (tr N k)=true:=by
                rcases r6 with ⟨a,b,e1,e2,e3⟩ | ⟨kk,a,e1,e2⟩
                . rw [e1,e2];show (bts b == bts a)=true;rw [jv,decide_eq_true_eq] at e3;rw [zIa,jv,decide_eq_true_eq,e3]
                . rw [e1,e2];show (kk == kk && a == a)=true;simp
               have hobj:ObOk N S.nl l (some (.map (arr.modify j fun e=>{ e with key:=tr N k,val:=tr N v }) clock)) (.mp es' c):=by
                subst r2; subst r3;refine ⟨_,rfl,?_,fun q hq=>?_⟩
                . rw [zHZ arr j _ hjl,k2',List.map_set]; rfl
                . rcases List.mem_or_eq_of_mem_set hq with hq | rfl
                  . exact k3 q hq
                  . exact ⟨hk,hv⟩
               refine ⟨N,_,_,q3,?_,zAk hs ho rfl rfl rfl k1 hobj q4⟩;unfold Instr.mapUpdate;simp only [Sem.run_bind,ht.run_und,hu,Result.andThen_ok,tr,hget];rw [zED htk.und hkd];simp only [Result.andThen_ok,k2',zDu htk.und r4,Sem.run_bind,hja,Option.map_some,Option.getD_some];rw [show (trE N p).key=tr N p.1 from rfl,zNb hsame];simp only [Result.andThen_ok];exact hset _
             . have hobj:ObOk N S.nl l (some (.map (arr.push { key:=tr N k,val:=tr N v,born:=clock }) (clock+1))) (.mp es' c):=by
                subst r1; subst r2;refine ⟨_,rfl,?_,fun q hq=>?_⟩
                . rw [Array.toList_push,k2']; simp [trE]
                . rcases List.mem_append.1 hq with hq | hq
                  . exact k3 q hq
                  . simp at hq; subst hq; exact ⟨hk,hv⟩
               refine ⟨N,_,_,q3,?_,zAk hs ho rfl rfl rfl k1 hobj q4⟩;unfold Instr.mapUpdate;simp only [Sem.run_bind,ht.run_und,hu,Result.andThen_ok,tr,hget];rw [zED htk.und hkd];simp only [Result.andThen_ok,k2',zDu htk.und r3];exact hset _
           . cases h2
         . cases h2
       . cases h2
     . cases h
   . cases h
 . cases h
noncomputable def zIU (D:Dat) (S:XS) (t:TypeId) (x:T) (K:T->XS->Bool):Bool:=
 match D.tt.get t with
 | some d=>(match d.u with
  | .string=>(match x with
   | .str s=>newK S (.sit s 0) fun l S=>K (.ptr l 0) S
   | _=>false)
  | _=>false)
 | none=>false
theorem zQC (hD:DOk P D) (hs:HSim B N S w) {t:TypeId} {x:T} {K:T->XS->Bool} (h:zIU D S t x K=true):Fin P B N S w K (Instr.range t (tr N x)):=by
 unfold zIU at h;split at h
 . rename_i d hd;have ht:=hD.tt _ _ hd;split at h
   . rename_i hu;split at h
     . rename_i s;obtain ⟨S',q1,q2,q3⟩:=zFs hs h rfl 0 (ob:=.stringIter (bts s) 0) rfl;refine ⟨_,_,S',_,q1,?_,q2,by simp only [bd,q3]; omega⟩;simp only [tr,NM.add_bl];simp [Instr.range,ht.run_und,hu]
     . cases h
   . cases h
 . cases h
noncomputable def zKW (S:XS) (x:T) (str:Bool) (K:T->XS->Bool):Bool:=
 match x with
 | .ptr l o=>bif Nat.beq o 0 && str then (match S.h.get l with
  | some ob=>(match ob with
   | .sit s pos=>(match drpL pos s with
    | []=>K (.tup [.bool false]) S
    | b::_=>bif Nat.blt b 128 then fN (pos+1) fun p=>fN pos fun q=>fN b fun b=>Tr.setK (.sit s p) 40 S.h l fun h=>K (.tup [.bool true,.int .i64 (.ofNat q),.int .i32 (.ofNat b)]) ⟨h,S.nl⟩ else false)
   | _=>false)
  | none=>false) else false
 | _=>false
theorem zSg (hs:HSim B N S w) {x:T} {str:Bool} {K:T->XS->Bool} (h:zKW S x str K=true) (t:TypeId):Fin P B N S w K (Instr.next (tr N x) str t):=by
 unfold zKW at h;split at h
 . rename_i l o;obtain ⟨h1,h2⟩:=zK h;rw [Bool.and_eq_true] at h1;have ho:=beq_iff.1 h1.1;have hst:=h1.2;subst ho; subst hst;split at h2
   . rename_i ob hob;split at h2
     . rename_i s pos;have k1:w.heap[N.bl l]? = some (.stringIter (bts s) pos):=hs.ok l _ hob;have hget:(getObj (N.bl l)).run P w = .ok (.stringIter (bts s) pos) w:=by simp [getObj,Sem.run,k1]
       split at h2
       . rename_i hd;rw [jY] at hd;have hlen:¬ pos < (bts s).size:=by rw [kp]; have:=List.drop_eq_nil_iff.1 hd; omega
         refine qP hs h2 ?_ ⟨trivial,trivial⟩;simp only [tr,Instr.next,Sem.run_bind,hget,Result.andThen_ok,if_neg hlen,Sem.run_pure,trs]
       . rename_i b r hd;rw [jY] at hd;obtain ⟨h3,h4⟩:=zK h2;simp only [zo] at h4;obtain ⟨h',h5,h6⟩:=Tr.setK_ok _ _ _ _ _ h4;have hb:=blt_iff.1 h3;have hsb:s[pos]? = some b:=by
          have:=congrArg (fun l=>l[0]?) hd;simpa using this
         have hlt:pos < s.length:=(List.getElem?_eq_some_iff.1 hsb).1;have hlen:pos < (bts s).size:=by rw [kp]; exact hlt
         have hset:∀ o,(setObj (N.bl l) o).run P w = .ok () (w.putObj (N.bl l) o):=fun o=>by simp [setObj,Sem.run,World.putObj,k1]
         have hdec:Utf8.decode (bts s) pos=(b,1):=by
          have hg:((bts s).get! (pos+0)).toNat=b:=by
           show ((bts s).data[pos+0]!).toNat=b;have hl':pos+0 < (bts s).data.size:=by simpa [bts] using hlt
           rw [getElem!_pos (bts s).data (pos+0) hl'];have:(bts s).data[pos+0]=UInt8.ofNat b:=by
            obtain ⟨q1,q2⟩:=List.getElem?_eq_some_iff.1 hsb;simp [bts,q2]
           rw [this,UInt8.toNat_ofNat'];omega
          unfold Utf8.decode;simp only [hg];rw [if_pos hb]
         refine ⟨_,N,_,_,h5,?_,zAk hs hob rfl rfl rfl k1 (o':=.sit s (pos+1)) rfl h6,⟨trivial,trivial,trivial,trivial⟩⟩;simp only [tr,Instr.next,Sem.run_bind,hget,Result.andThen_ok,if_pos hlen,hdec,hset,Sem.run_pure,trs,goInt];rfl
     . cases h2
   . cases h2
 . cases h
end
end
section
open Go.RowKit
section
variable {P:Program} {B:Bs} {N:NM} {S:XS} {w:World} {D:Dat}
theorem zRm {t el ty t2:TypeId} {ik k:IntKind} {i:TypeInfo} {z:Value} {m:Nat} (hu:P.underlying t=some (.slice el)) (hu2:P.underlying t2=some (.int ik)) (hi:P.info? el=some i) (hz:i.zero=some z) (hm:0 < m) (hs:0 < i.size) (h48:m * i.bytes<=140737488355328) (h63:m<=4611686018427387904) :
 (Builtin.append_ #[t,t2] ty #[.slice none 0 0,.int k (m:Nat)]).run P w = .ok (.slice (some ⟨w.heap.size,0,none⟩) m (grownCap w m 0 el)) (w.drew.alloc (.cells (Builtin.zeroCells z.cells m++Builtin.zeroCells z.cells (grownCap w m 0 el - m)) el)):=by
 have hw:IntKind.i64.wrap (m:Int)=m:=by rw [IntKind.wrap_i64]; omega
 have h1:¬ ((m:Int) < 0):=by omega
 have h2:¬ ((m:Int) * (i.bytes:Int) > 2 ^ 48):=by
  have:((m * i.bytes:Nat):Int)<=140737488355328:=by omega
  rw [Int.natCast_mul] at this;omega
 have h3:¬ (281474976710656 < Builtin.nextslicecap m 0 * i.bytes):=by rw [nextslicecap_zero hm]; omega
 have h4:m≠0:=by omega
 have h5:i.size≠0:=by omega
 have h6:¬ (9223372036854775807 < (m:Int)):=by omega
 have h8:¬ ((m:Int)<=0):=by omega
 have h7:¬ ((281474976710656:Int) < (m:Int) * (i.bytes:Int)):=by simpa using h2
 simp [Builtin.append_,run_underlying hu,run_underlying hu2,sizeOf,typeInfo,zeroValue,hi,hz,asInt,asIntOf,hw,h1,h3,h4,h5,h6,h7,h8,Question.forced,run_firstCells_none,newRow,grownCap];intro h;exact absurd h (Nat.mul_ne_zero h4 h5)
theorem zGw (zs:List T):∀ n,((List.replicate n zs).flatten).length=n * zs.length
 | 0=>by simp
 | n+1=>by rw [List.replicate_succ,List.flatten_cons,List.length_append,zGw zs n,Nat.succ_mul]; omega
noncomputable def zOV (D:Dat) (S:XS) (t t2:TypeId) (s x:T) (K:T->XS->Bool):Bool:=
 match s with
 | .atm v=>(match v with
  | .slice none 0 0=>(match D.tt.get t2 with
   | some d2=>(match d2.u with
    | .int _=>(match D.tt.get t with
     | some d=>(match d.u with
      | .slice el=>(match D.tt.get el with
       | some e=>(match e.zs with
        | some zs=>ixK x 4611686018427387904 fun m=>bif Nat.beq zs.length e.sz && Nat.blt 0 e.sz && Nat.blt 0 m && Nat.ble (m * e.bytes) 140737488355328 then repK zs m fun cs=>newK S (.row e.sz cs 0 el) fun l S=>K (.sl l e.sz 0 0 m) S else false
        | none=>false)
       | none=>false)
      | _=>false)
     | none=>false)
    | _=>false)
   | none=>false)
  | _=>false)
 | _=>false
theorem zSe (hD:DOk P D) (hs:HSim B N S w) {t t2 ty:TypeId} {s x:T} {K:T->XS->Bool} (h:zOV D S t t2 s x K=true):Fin P B N S w K (Builtin.append_ #[t,t2] ty #[tr N s,tr N x]):=by
 unfold zOV at h;split at h
 case h_2=>cases h
 split at h
 case h_2=>cases h
 split at h
 case h_2=>cases h
 rename_i d2 hd2;split at h
 case h_2=>cases h
 rename_i ik hu2;split at h
 case h_2=>cases h
 rename_i d hd;split at h
 case h_2=>cases h
 rename_i el hu;split at h
 case h_2=>cases h
 rename_i e he;split at h
 case h_2=>cases h
 rename_i zs hz;have ht:=hD.tt _ _ hd;have ht2:=hD.tt _ _ hd2;have hte:=hD.tt _ _ he;obtain ⟨z,z1,z2,z3,z4⟩:=hte.zs zs hz;obtain ⟨k,m,rfl,hm,h1⟩:=zCk h;obtain ⟨h2,h3⟩:=zK h1;simp only [Bool.and_eq_true] at h2;have k1:=beq_iff.1 h2.1.1.1;have k2:=blt_iff.1 h2.1.1.2;have k3:=blt_iff.1 h2.1.2;have k4:=Nat.le_of_ble_eq_true h2.2;rw [zBP] at h3;have hr:=zRm (P:=P) (w:=w) (ty:=ty) (k:=k) (by rw [ht.und,hu]) (by rw [ht2.und,hu2]) hte.info z1 k3 (by rw [hte.sz]; exact k2) (by rw [hte.bytes]; exact k4) (by omega);have hzs:z.cells.size=e.sz:=by
  have:=congrArg List.length (z2 N);simp at this;omega
 have hge:=grownCap_ge w m 0 el;have hcl:((List.replicate m zs).flatten).length=m * e.sz:=by rw [<- k1]; exact zGw zs m
 obtain ⟨S',q1,q2,q3⟩:=zBZ (hs.drew) h3 (yI (Nat.zero_le _) _ (zAa z3 m)) (kj z4 m) (Builtin.zeroCells z.cells (grownCap w m 0 el - m)).toList (grownCap w m 0 el) (by
  rw [if_neg (by omega),hcl,Array.length_toList,size_zeroCells,hzs,<- Nat.add_mul];congr 1; omega)
 refine ⟨_,_,S',_,q1,?_,(zEJ hs).trans q2,by simp only [bd,q3]; omega⟩;have e1:((Builtin.zeroCells z.cells m).toList)=(List.replicate m zs).flatten.map (tr N):=by
  have:=zBr (N:=N) (n:=m) (z2 N) k1 k2;rw [<- this];unfold Builtin.zeroCells;rw [hzs]
 simp only [tr,NM.add_bl,NM.add_cp,Nat.zero_mul,Nat.sub_zero,zE4,ite_self];show (Builtin.append_ #[t,t2] ty #[.slice none 0 0,.int k (m:Nat)]).run P w=_;rw [hr];congr 2;congr 1;apply Array.ext';rw [Array.toList_append,e1]
noncomputable def xCap (D:Dat) (t:TypeId) (x:T) (K:T->Bool):Bool:=
 match D.tt.get t with
 | some d=>(match d.u with
  | .slice _=>(match x with
   | .atm v=>(match v with
    | .slice none _ c=>mkI .i64 (.ofNat c) K
    | _=>false)
   | .slc _ _ _ c=>mkI .i64 (.ofNat c) K
   | _=>false)
  | _=>false)
 | none=>false
theorem zNS (hD:DOk P D) (hs:HSim B N S w) {t:TypeId} {x:T} {K:T->Bool} (h:xCap D t x K=true) (rest:List TypeId) (ty:TypeId):FinS P N S w K (Builtin.cap_ (t::rest).toArray ty #[tr N x]):=by
 unfold xCap at h;split at h
 case h_2=>cases h
 rename_i d hd;have ht:=hD.tt _ _ hd;split at h
 case h_2=>cases h
 rename_i el hu;split at h
 . split at h
   . rw [kN] at h;exact finS  h (by simp [Builtin.cap_,ht.run_und,hu,goInt,tr]) trivial
   . cases h
 . rw [kN] at h;exact finS  h (by simp [Builtin.cap_,ht.run_und,hu,goInt,tr]) trivial
 . cases h
noncomputable def zKu (D:Dat) (S:XS) (t:TypeId) (x:T) (K:T->XS->Bool):Bool:=
 match D.tt.get t with
 | some d=>(match d.u with
  | .slice el=>(match x with
   | .atm v=>(match v with
    | .slice none _ _=>K (.tup []) S
    | _=>false)
   | .slc l o n _=>bif Nat.beq n 0 then K (.tup []) S else (match D.tt.get el with
    | some e=>(match e.zs with
     | some zs=>bif Nat.beq zs.length e.sz && Nat.blt 0 e.sz then repK zs n fun xs=>(match S.h.get l with
      | some ob=>(match ob with
       | .row g cs fz el0=>bif Nat.ble fz o then splK xs o cs fun cs'=>Tr.setK (.row g cs' fz el0) 40 S.h l fun h=>K (.tup []) ⟨h,S.nl⟩ else false
       | _=>false)
      | none=>false) else false
     | none=>false)
    | none=>false)
   | .sl l z a _ n=>bif Nat.beq n 0 then K (.tup []) S else (match D.tt.get el with
    | some e=>(match e.zs with
     | some zs=>bif Nat.beq zs.length e.sz && Nat.blt 0 e.sz && Nat.beq z e.sz then repK zs n fun xs=>grK S l z fun cs fz el0=>bif Nat.ble fz (a * z) then splK xs (a * z) cs fun cs'=>Tr.setK (.row z cs' fz el0) 40 S.h l fun h=>K (.tup []) ⟨h,S.nl⟩ else false else false
     | none=>false)
    | none=>false)
   | _=>false)
  | _=>false)
 | none=>false
theorem zJh {t el:TypeId} {e:TD} {ty:TypeId} {ts:List TypeId} (hu:P.underlying t=some (.slice el)) (hte:TOk P el e) {zs:List T} (hz:e.zs=some zs) (hzl:zs.length=e.sz) (hp:0 < e.sz) {b o n c:Nat} {w':World} (hn:n≠0)
 (hst:(storeCells ⟨b,o,none⟩ ((List.replicate n zs).flatten.map (tr N))).run P w = .ok () w'):(Builtin.clear_ (t::ts).toArray ty #[.slice (some ⟨b,o,none⟩) n c]).run P w = .ok (.tuple #[]) w':=by
 obtain ⟨z,z1,z2,z3,z4⟩:=hte.zs zs hz;have hzs:z.cells.size=e.sz:=by
  have:=congrArg List.length (z2 N);simp at this;omega
 have e1:((Builtin.zeroCells z.cells n).toList)=(List.replicate n zs).flatten.map (tr N):=by
  have:=zBr (N:=N) (n:=n) (z2 N) hzl hp;rw [<- this];unfold Builtin.zeroCells;rw [hzs]
 have hzv:(zeroValue el).run P w = .ok z w:=by simp [zeroValue,typeInfo,hte.info,z1]
 obtain ⟨m,rfl⟩:∃ m,n=m+1:=⟨n - 1,by omega⟩;unfold Builtin.clear_;simp only [List.getElem?_toArray,List.getElem?_cons_zero,Sem.run_bind,run_underlying hu,Result.andThen_ok,hzv,e1,hst];rfl
theorem zPm (hD:DOk P D) (hs:HSim B N S w) {t:TypeId} {x:T} {K:T->XS->Bool} (h:zKu D S t x K=true) (rest:List TypeId) (ty:TypeId):Fin P B N S w K (Builtin.clear_ (t::rest).toArray ty #[tr N x]):=by
 unfold zKu at h;split at h
 case h_2=>cases h
 rename_i d hd;have ht:=hD.tt _ _ hd;split at h
 case h_2=>cases h
 rename_i el hu;have hu':P.underlying t=some (.slice el):=by rw [ht.und,hu]
 have zero:∀ {ad:Option Addr} {c:Nat},K (.tup []) S=true->Fin P B N S w K (Builtin.clear_ (t::rest).toArray ty #[.slice ad 0 c]):=fun {ad c} hk=>
  qP (x:=.tup []) hs hk (by
   unfold Builtin.clear_;simp only [List.getElem?_toArray,List.getElem?_cons_zero,Sem.run_bind,run_underlying hu',Result.andThen_ok];cases ad <;> rfl) trivial
 split at h
 . split at h
   . exact qP (x:=.tup []) hs h (by
      unfold Builtin.clear_;simp only [List.getElem?_toArray,List.getElem?_cons_zero,Sem.run_bind,run_underlying hu',Result.andThen_ok];rfl) trivial
   . cases h
 . rename_i l o n c;cases hn:Nat.beq n 0 with
   | true=>
    rw [hn,cond_true] at h;have:=beq_iff.1 hn;subst this;exact zero h
   | false=>
    rw [hn,cond_false] at h;have hn0:n≠0:=fun e=>by rw [beq_iff.2 e] at hn; cases hn
    split at h
    case h_2=>cases h
    rename_i e he;have hte:=hD.tt _ _ he;split at h
    case h_2=>cases h
    rename_i zs hz;obtain ⟨h1,h2⟩:=zK h;simp only [Bool.and_eq_true] at h1;have k1:=beq_iff.1 h1.1;have k2:=blt_iff.1 h1.2;rw [zBP] at h2;split at h2
    case h_2=>cases h2
    rename_i ob ho;split at h2
    case h_2=>cases h2
    rename_i g cs fz el0;obtain ⟨h3,h4⟩:=zK h2;obtain ⟨h5,h6⟩:=zAp _ _ _ _ h4;obtain ⟨h',h7,h8⟩:=Tr.setK_ok _ _ _ _ _ h6;obtain ⟨z,z1,z2,z3,z4⟩:=hte.zs zs hz;obtain ⟨w',r1,r2⟩:=zCW (P:=P) hs ho (yI (Nat.zero_le _) _ (zAa z3 n)) (kj z4 n) (Nat.le_of_ble_eq_true h3) h5 h8;exact ⟨_,N,_,w',h7,zJh (N:=N) hu' hte hz k1 k2 hn0 r1,r2,trivial⟩
 . rename_i l z' a p n;cases hn:Nat.beq n 0 with
   | true=>
    rw [hn,cond_true] at h;have:=beq_iff.1 hn;subst this;exact zero h
   | false=>
    rw [hn,cond_false] at h;have hn0:n≠0:=fun e=>by rw [beq_iff.2 e] at hn; cases hn
    split at h
    case h_2=>cases h
    rename_i e he;have hte:=hD.tt _ _ he;split at h
    case h_2=>cases h
    rename_i zs hz;obtain ⟨h1,h2⟩:=zK h;simp only [Bool.and_eq_true] at h1;have k1:=beq_iff.1 h1.1.1;have k2:=blt_iff.1 h1.1.2;have k3:=beq_iff.1 h1.2;subst k3;rw [zBP] at h2;obtain ⟨cs,fz,arr,el',hi',g1,g2,g3,g4,g5,g6,g7,g8,g9,g10⟩:=zB5 hs h2;obtain ⟨h3,h4⟩:=zK g1;obtain ⟨h5,h6⟩:=zAp _ _ _ _ h4;obtain ⟨h',h7,h8⟩:=Tr.setK_ok _ _ _ _ _ h6;obtain ⟨z,z1,z2,z3,z4⟩:=hte.zs zs hz;obtain ⟨w',r1,r2⟩:=zCW (P:=P) hs g2 (yI (Nat.zero_le _) _ (zAa z3 n)) (kj z4 n) (Nat.le_of_ble_eq_true h3) h5 h8;have hcl:((List.replicate n zs).flatten).length=n * e.sz:=by rw [<- k1]; exact zGw zs n
    rw [hcl] at h5;have hpos:0 < n * e.sz:=Nat.mul_pos (by omega) k2;have hac:a < N.cp l:=Nat.lt_of_mul_lt_mul_right (by omega:a * e.sz < N.cp l * e.sz);have hne:¬ N.cp l=a:=by omega
    refine ⟨_,N,_,w',h7,?_,r2,trivial⟩;simp only [tr,if_neg hne];exact zJh (N:=N) hu' hte hz k1 k2 hn0 r1
 . cases h
end
end
section
open Go.RowKit
section
variable {P:Program} {B:Bs} {N:NM} {S:XS} {w:World} {D:Dat}
theorem zSQ {e:TypeId} (hs:P.cellsOf e≠0) {c off n:Nat} (h1:off % P.cellsOf e=0) (h2:off / P.cellsOf e+n<=c):liesAt P P.depth e c off e n=true:=by
 obtain ⟨d,hd⟩:∃ d,P.depth=d+1:=⟨_,rfl⟩;rw [hd];unfold liesAt;rw [hd];have hsame:sameLayout P (d+1) e e=true:=by
  unfold sameLayout;simp
 have hrow:rowAt P (sameLayout P (d+1) · e) (d+1) e c off n=true:=by
  unfold rowAt;simp [hs,h1,h2,hsame]
 rw [hrow];rfl
theorem zMT {b:Nat} {arr:Array Value} {el:TypeId} {m:Nat×Nat} (h:w.heap[b]? = some (.cells arr el m)):w.shape? b=some (el,arr.size):=by
 unfold World.shape?;rw [h]
theorem TOk.cellsOf {t:TypeId} {d:TD} (h:TOk P t d):P.cellsOf t=d.sz:=by
 unfold Program.cellsOf;rw [h.info,Option.map_some,Option.getD_some,h.sz]
noncomputable def zPM (D:Dat) (S:XS) (df dt:TD) (x:T) (K:T->Bool):Bool:=
 match x with
 | .ptr l o=>(match S.h.get l with
  | some ob=>(match ob with
   | .row _ cs _ el=>(match df.u with
    | .pointer e0=>(match dt.u with
     | .unsafePointer=>(match D.tt.get e0 with
      | some d0=>bif Nat.blt 0 d0.sz && Nat.blt o cs.length then K x else false
      | none=>false)
     | _=>false)
    | .unsafePointer=>(match dt.u with
     | .pointer u=>(match D.tt.get u with
      | some d0=>bif Nat.beq u el && Nat.beq o 0 && Nat.blt 0 d0.sz && Nat.ble d0.sz cs.length then K x else false
      | none=>false)
     | _=>false)
    | _=>false)
   | _=>false)
  | none=>false)
 | _=>false
theorem zSt (hD:DOk P D) (hs:HSim B N S w) {f t:TypeId} {df dt:TD} (hf:TOk P f df) (ht:TOk P t dt) {x:T} {K:T->Bool} (h:zPM D S df dt x K=true) (hb:bd S.nl x):FinS P N S w K (Go.convert f t (tr N x)):=by
 unfold zPM at h;split at h
 case h_2=>cases h
 rename_i l o;split at h
 case h_2=>cases h
 rename_i ob ho;split at h
 case h_2=>cases h
 rename_i g cs fz el;obtain ⟨arr,hi,k1,k2,k3,k4,k5,k6⟩:=hs.ok l _ ho;have hsh:=zMT k1;split at h
 . rename_i e0 hfu;split at h
   case h_2=>cases h
   rename_i htu;split at h
   case h_2=>cases h
   rename_i d0 hd0;obtain ⟨h1,h2⟩:=zK h;rw [Bool.and_eq_true] at h1;have h3:=blt_iff.1 h1.1;have h4:=blt_iff.1 h1.2;have ht0:=hD.tt _ _ hd0;refine finS h2 ?_ hb;exact Lib.run_to_unsafe w ⟨N.bl l,o,none⟩ (by rw [hf.und,hfu]) (by rw [ht.und,htu]) ht0.info (by rw [ht0.sz]; omega) hsh (by show o < arr.size; omega)
 . rename_i hfu;split at h
   case h_2=>cases h
   rename_i u htu;split at h
   case h_2=>cases h
   rename_i d0 hd0;obtain ⟨h1,h2⟩:=zK h;simp only [Bool.and_eq_true] at h1;have h3:=beq_iff.1 h1.1.1.1;have h4:=beq_iff.1 h1.1.1.2;have h5:=blt_iff.1 h1.1.2;have h6:=Nat.le_of_ble_eq_true h1.2;subst h3; subst h4;have ht0:=hD.tt _ _ hd0;refine finS h2 ?_ hb;refine Lib.run_from_unsafe w ⟨N.bl l,0,none⟩ (by rw [hf.und,hfu]) (by rw [ht.und,htu]) ht0.info hsh ?_;rw [ht0.cellsOf];refine zSQ (by rw [ht0.cellsOf]; omega) (by simp) ?_;rw [ht0.cellsOf];have:1<=arr.size / d0.sz:=(Nat.one_le_div_iff h5).2 (by omega);simp only [Nat.zero_div];omega
 . cases h
noncomputable def zFr (D:Dat) (S:XS) (f t:TypeId) (x:T) (K:T->Bool):Bool:=
 match x with
 | .ptr l o=>(match D.tt.get f with
  | some df=>(match D.tt.get t with
   | some dt=>zPM D S df dt (.ptr l o) K
   | none=>false)
  | none=>false)
 | x=>zO7 D S f t x K
theorem zJk (hD:DOk P D) (hs:HSim B N S w) {f t:TypeId} {x:T} {K:T->Bool} (h:zFr D S f t x K=true) (hb:bd S.nl x):FinS P N S w K (Go.convert f t (tr N x)):=by
 unfold zFr at h;split at h
 . split at h
   case h_2=>cases h
   rename_i df hdf;split at h
   case h_2=>cases h
   rename_i dt hdt;exact zSt hD hs (hD.tt _ _ hdf) (hD.tt _ _ hdt) h hb
 . exact zS1 hD hs h
noncomputable def zPC (D:Dat) (op:BinOp) (t:TypeId) (c:Bool) (x y:T) (K:T->Bool):Bool:=
 match x with
 | .ptr l o=>(match y with
  | .ptr l' o'=>bif Nat.beq l l' && Nat.beq o o' then (match D.tt.get t with
   | some d=>(match d.u with
    | .pointer te=>(match D.tt.get te with
     | some _=>(match op with
      | .eql=>K (.bool true)
      | .neq=>K (.bool false)
      | _=>false)
     | none=>false)
    | _=>false)
   | none=>false) else false
  | y=>xBin D op t c (.ptr l o) y K)
 | x=>xBin D op t c x y K
theorem zRn (hD:DOk P D) (hs:HSim B N S w) {op:BinOp} {t:TypeId} {x y:T} {ox oy:Operand} {K:T->Bool} (h:zPC D op t (zAL oy) x y K=true):FinS P N S w K (do eqGuard op t ox oy (tr N x) (tr N y); Go.binOp op t (tr N x) (tr N y)):=by
 unfold zPC at h;split at h
 . rename_i l o;split at h
   . rename_i l' o';obtain ⟨h1,h2⟩:=zK h;rw [Bool.and_eq_true] at h1;have e1:=beq_iff.1 h1.1;have e2:=beq_iff.1 h1.2;subst e1; subst e2;split at h2
     case h_2=>cases h2
     rename_i d hd;have ht:=hD.tt _ _ hd;split at h2
     case h_2=>cases h2
     rename_i te hu;split at h2
     case h_2=>cases h2
     rename_i de hde;have hte:=hD.tt _ _ hde;split at h2
     . exact finS h2 (zBb rfl (by simp [tr]) (run_eql_ptr_same w ⟨N.bl l,o,none⟩ (by rw [ht.und,hu]) hte.info)) trivial
     . exact finS h2 (zBb rfl (by simp [tr]) (Lib.run_neq_ptr_same w ⟨N.bl l,o,none⟩ (by rw [ht.und,hu]) hte.info)) trivial
     . cases h2
   . exact zNX hD hs h
 . exact zNX hD hs h
noncomputable def xUSD (S:XS) (x:T) (K:T->Bool):Bool:=
 match x with
 | .slc l o _ c=>bif Nat.blt 0 c then K (.ptr l o) else false
 | .sl l z a _ _=>grK S l z fun cs _ _=>bif Nat.ble ((a+1) * z) cs.length then fN (a * z) fun o=>K (.ptr l o) else false
 | .atm v=>(match v with
  | .slice none _ _=>K (.atm (.pointer none))
  | _=>false)
 | _=>false
theorem zOK (hs:HSim B N S w) {x:T} {K:T->Bool} (h:xUSD S x K=true) (hb:bd S.nl x) (ts:Array TypeId) (ty:TypeId):FinS P N S w K (Builtin.unsafeSliceData_ ts ty #[tr N x]):=by
 unfold xUSD at h;split at h
 . rename_i l o n c;obtain ⟨h1,h2⟩:=zK h;have h3:=blt_iff.1 h1;exact finS h2 (Lib.run_unsafeSliceData_row w ts ty ⟨N.bl l,o,none⟩ n c (by omega)) hb
 . rename_i l z a p n;obtain ⟨cs,fz,arr,el',hi',g1,g2,g3,g4,g5,g6,g7,g8,g9,g10⟩:=zB5 hs h;obtain ⟨h1,h2⟩:=zK g1;rw [zo] at h2;have h3:=Nat.le_of_ble_eq_true h1;have hcp:a+1<=N.cp l:=Nat.le_of_mul_le_mul_right (by omega:(a+1) * z<=N.cp l * z) g3;refine finS h2 ?_ hb;have hne:¬ N.cp l=a:=by omega
   simp only [tr,if_neg hne];exact Lib.run_unsafeSliceData_row w ts ty ⟨N.bl l,a * z,none⟩ n (N.cp l - a) (by omega)
 . split at h
   . exact finS h (Lib.run_unsafeSliceData_nil w ts ty _ _) rfl
   . cases h
 . cases h
noncomputable def u8K (l:List Nat):Bool:=List.rec (motive:=fun _=>Bool) true (fun b _ ih=>bif Nat.blt b 256 then ih else false) l
theorem zQB:∀ {l:List Nat},u8K l=true->∀ b ∈ l,b < 256
 | [],_,b,hb=>by cases hb
 | c::l,h,b,hb=>by
  have h:(bif Nat.blt c 256 then u8K l else false)=true:=h;obtain ⟨h1,h2⟩:=zK h;rcases List.mem_cons.1 hb with rfl | hb
  . exact blt_iff.1 h1
  . exact zQB h2 b hb
noncomputable def zPE (D:Dat) (S:XS) (ts:List TypeId) (x y:T) (K:T->XS->Bool):Bool:=
 match ts with
 | [pt,_]=>(match y with
  | .int .i64 n=>(match n with
   | .ofNat n=>bif Nat.beq n 0 then (match x with
    | .ptr _ _=>K (.str []) S
    | .atm v=>(match v with
     | .pointer none=>K (.str []) S
     | _=>false)
    | _=>false) else (match x with
    | .ptr l o=>(match D.tt.get pt with
     | some dp=>(match dp.u with
      | .pointer e=>(match D.tt.get e with
       | some de=>(match S.h.get l with
        | some ob=>(match ob with
         | .row g cs fz el=>bif Nat.beq o 0 && Nat.beq el e && Nat.beq de.sz 1 && Nat.ble n 9223372036854775807 then zA8 n cs fun r=>zHf r fun s=>bif u8K s then fN (bif Nat.ble fz n then n else fz) fun fz=>Tr.setK (.row g cs fz el) 40 S.h l fun h=>K (.str s) ⟨h,S.nl⟩ else false else false
         | _=>false)
        | none=>false)
       | none=>false)
      | _=>false)
     | none=>false)
    | _=>false)
   | .negSucc _=>false)
  | _=>false)
 | _=>false
theorem zMt {b:Nat} {arr:Array Value} {el:TypeId} {hi n:Nat} (h:w.heap[b]? = some (.cells arr el (0,hi))) (hn:n≠0):(w.freeze ⟨b,0,none⟩ n).heap[b]? = some (.cells arr el (0,max hi n)):=by
 unfold World.freeze;rw [if_neg hn];simp only [Array.getElem?_modify,if_true,h,Option.map_some];congr 2;by_cases e:(0 == hi)=true
 . rw [if_pos e];have:0=hi:=by simpa using e
   subst this;simp
 . rw [if_neg e];simp
theorem zFg {b c n:Nat} (h:c≠b):(w.freeze ⟨b,0,none⟩ n).heap[c]? = w.heap[c]?:=by
 unfold World.freeze;split
 . rfl
 . simp only [Array.getElem?_modify];rw [if_neg (Ne.symm h)]
theorem zM3 {b n:Nat}:(w.freeze ⟨b,0,none⟩ n).heap.size=w.heap.size:=by
 unfold World.freeze;split
 . rfl
 . simp
theorem zLC {b n B:Nat} (h:B<=b):Below B w (w.freeze ⟨b,0,none⟩ n):=Lib.below_freeze (Below.refl B w) (p:=⟨b,0,none⟩) h n
theorem zSD (hD:DOk P D) (hs:HSim B N S w) {ts:List TypeId} {x y:T} {K:T->XS->Bool} (h:zPE D S ts x y K=true) (ty:TypeId):Fin P B N S w K (Builtin.unsafeString_ ts.toArray ty #[tr N x,tr N y]):=by
 unfold zPE at h;split at h
 case h_2=>cases h
 rename_i pt it;split at h
 case h_2=>cases h
 rename_i n;split at h
 case h_2=>cases h
 rename_i n;cases hn:Nat.beq n 0 with
 | true=>
  rw [hn,cond_true] at h;have:=beq_iff.1 hn;subst this;split at h
  . exact qP (x:=.str []) hs h (Lib.run_unsafeString_none w pt it ty _) trivial
  . split at h
    . exact qP (x:=.str []) hs h (Lib.run_unsafeString_none w pt it ty _) trivial
    . cases h
  . cases h
 | false=>
  rw [hn,cond_false] at h;have hn0:n≠0:=fun e=>by rw [beq_iff.2 e] at hn; cases hn
  split at h
  case h_2=>cases h
  rename_i l o;split at h
  case h_2=>cases h
  rename_i dp hdp;split at h
  case h_2=>cases h
  rename_i e hpu;split at h
  case h_2=>cases h
  rename_i de hde;split at h
  case h_2=>cases h
  rename_i ob ho;split at h
  case h_2=>cases h
  rename_i g cs fz el;obtain ⟨h1,h2⟩:=zK h;simp only [Bool.and_eq_true] at h1;have e1:=beq_iff.1 h1.1.1.1;have e2:=beq_iff.1 h1.1.1.2;have e3:=beq_iff.1 h1.1.2;have e4:=Nat.le_of_ble_eq_true h1.2;subst e1; subst e2;obtain ⟨h3,h4⟩:=qb _ _ _ h2;obtain ⟨ns,h5,h6⟩:=zFI h4;obtain ⟨h7,h8⟩:=zK h5;rw [zo] at h8;obtain ⟨h',h9,h10⟩:=Tr.setK_ok _ _ _ _ _ h8;have h256:=zQB h7;obtain ⟨arr,hi,k1,k2,k3,k4,⟨k5,k6⟩,k7⟩:=hs.ok l _ ho;have hlow:=hs.low l _ ho rfl;simp only [isRo,Bool.false_eq_true,if_false] at hlow;have hnl:ns.length=n:=by
   have:=congrArg List.length h6;simp at this;omega
  have htp:=hD.tt _ _ hdp;have hte:=hD.tt _ _ hde;have hfz:(bif Nat.ble fz n then n else fz)=max fz n:=by
   cases hb:Nat.ble fz n with
   | true=>rw [cond_true]; have:=Nat.le_of_ble_eq_true hb; omega
   | false=>
    rw [cond_false];have:¬ fz<=n:=fun q=>by rw [Nat.ble_eq_true_of_le q] at hb; cases hb
    omega
  rw [hfz] at h10;have hlen:(ns.map UInt8.ofNat).length=n:=by simpa using hnl
  have hr:=Lib.run_unsafeString_row (P:=P) w pt it ty el (by rw [htp.und,hpu]) (by rw [hte.cellsOf,e3]) (N.bl l) arr.size (zMT k1) (ns.map UInt8.ofNat) (fun q=>hn0 (by rw [<- hlen,q]; rfl)) (by omega) (by omega) (fun j x hj=>by
   rw [zq,Nat.zero_add];have hcl:(cs.map (tr N)).length=cs.length:=by simp
   rw [<- hcl] at k4;refine kx k1 k4 _ ?_;rw [List.getElem?_map] at hj;cases hnj:ns[j]? with
   | none=>rw [hnj] at hj; cases hj
   | some b=>
    rw [hnj] at hj;injection hj with hj
    subst hj;have h11:(cs.take n)[j]? = some (.int .u8 (.ofNat b)):=by rw [h6,List.getElem?_map,hnj]; rfl
    rw [List.getElem?_take] at h11;split at h11
    . rw [List.getElem?_map,h11];have hb:=h256 b (List.mem_of_getElem? hnj);simp only [Option.map_some,tr];congr 2;simp only [UInt8.toNat_ofNat'];show Int.ofNat b=Int.ofNat (b % 256);rw [Nat.mod_eq_of_lt hb]
    . cases h11)
  rw [hlen] at hr;refine ⟨.str ns,N,_,_,h9,hr,.set ho rfl h10 ?_ (zLC hlow.1) (fun b hb=>zFg hb),trivial⟩;refine hs.upd ho rfl rfl rfl (fun b hb=>zFg hb) zM3 ?_ h10;rw [zMt k1 hn0];exact ⟨arr,max hi n,rfl,by omega,k3,k4,⟨k5,k6⟩,k7⟩
noncomputable def cntK (c:Nat) (l:List Nat):Nat->(Nat->Bool)->Bool:=
 List.rec (motive:=fun _=>Nat->(Nat->Bool)->Bool) (fun i κ=>κ i) (fun b _ ih i κ=>bif Nat.beq (Nat.mod b 256) c then fN (i+1) fun j=>ih j κ else ih i κ) l
theorem zUt (hs:HSim B N S w) {ps:Array TypeId} {t e:TypeId} (ht:P.underlying t=some (.slice e)) {n:Nat} (hn:n<=281474976710656) {K:T->XS->Bool} (h:(newK S (.row 1 [] 0 e) fun l S=>K (.sl l 1 0 0 n) S)=true):Fin P B N S w K (Extern.BytealgMakeNoZero.makeNoZero ps #[t] #[.int .i64 n]):=by
 obtain ⟨cs,hr,h1,h2⟩:=Lib.run_makeNoZero (P:=P) w ps t e ht n hn;obtain ⟨S',q1,q2,q3⟩:=zBZ (hs.drew.drew) (cs:=[]) h trivial rfl cs.toList cs.size (by simp);refine ⟨_,_,S',_,q1,?_,((zEJ hs).trans (zEJ hs.drew)).trans q2,by simp only [bd,q3]; omega⟩;rw [hr];simp only [tr,NM.add_bl,NM.add_cp,Nat.zero_mul,Nat.sub_zero,zE4,ite_self];congr 2
end
end
section
open Go.RowKit
section
variable {P:Program} {B:Bs} {N:NM} {S:XS} {w:World} {D:Dat}
noncomputable def ekK (k:EK) (x y:T) (κ:Bool->Bool):Bool:=
 match k with
 | .i=>(match x with
  | .int a m=>(match y with | .int b n=>bif Nat.beq (Kd a) (Kd b) then fB (ieqB m n) κ else false | _=>false)
  | _=>false)
 | .b=>(match x with
  | .bool a=>(match y with | .bool b=>fB (a == b) κ | _=>false)
  | _=>false)
 | .s=>(match x with
  | .str a=>(match y with | .str b=>fB (seqB a b) κ | _=>false)
  | _=>false)
theorem ekK_ok {k:EK} {x y:T} {κ:Bool->Bool} (h:ekK k x y κ=true) {t:TypeId} (ht:EkOk P t k) (N:NM):∃ b,κ b=true/\(∀ d w,(Op.equalIn (d+1) t (tr N x) (tr N y)).run P w = .ok b w)/\(b=true->tr N x=tr N y)/\∀ m,Instr.sameBits m (tr N x) (tr N x)=true:=by
 unfold ekK at h;split at h
 . obtain ⟨q,hq⟩:=ht;split at h
   . split at h
     . obtain ⟨h1,h2⟩:=zK h;have:=zHQ h1;subst this;rw [zBH,zCg] at h2;refine ⟨_,h2,fun d w=>by simp only [tr]; rw [run_equalIn_int w d t _ _ _ _ hq],fun e=>?_,fun m=>?_⟩
       . rw [beq_iff_eq] at e; rw [e]
       . cases m <;> simp [tr,Instr.sameBits]
     . cases h
   . cases h
 . split at h
   . split at h
     . rw [zBH] at h;refine ⟨_,h,fun d w=>by simp only [tr]; exact run_equalIn_bool w d t _ _ ht,fun e=>?_,fun m=>?_⟩
       . rw [beq_iff_eq] at e; rw [e]
       . cases m <;> simp [tr,Instr.sameBits]
     . cases h
   . cases h
 . split at h
   . split at h
     . rename_i a _ b;rw [zBH] at h;refine ⟨_,h,fun d w=>?_,fun e=>?_,fun m=>?_⟩
       . simp only [tr];rw [run_equalIn_string w d t _ _ ht,<- beq_toListBytes,zIa]
       . rw [jv,decide_eq_true_eq] at e; simp only [tr,bts,e]
       . have:(bts a == bts a)=true:=by rw [zIa,jv,decide_eq_true_eq]
         cases m <;> simp [tr,Instr.sameBits,this]
     . cases h
   . cases h
noncomputable def eqCK (fs:List EK):List T->List T->(Bool->Bool)->Bool:=
 List.rec (motive:=fun _=>List T->List T->(Bool->Bool)->Bool) (fun xs ys κ=>List.casesOn (motive:=fun _=>Bool) xs (List.casesOn (motive:=fun _=>Bool) ys (κ true) fun _ _=>false) fun _ _=>false)
  (fun k _ ih xs ys κ=>List.casesOn (motive:=fun _=>Bool) xs false fun x xs=>List.casesOn (motive:=fun _=>Bool) ys false fun y ys=>ekK k x y fun b=>bif b then ih xs ys κ else κ false) fs
theorem zHL {t:TypeId} {vs:List Value} {n:Nat} {v:Value} (ha:(isAgg t).run P w = .ok false w) (hv:vs[n]? = some v):(part t vs.toArray n).run P w = .ok v w:=by
 unfold part;simp [ha,hv]
theorem zNI:∀ {fs:List EK} {flds:List Field} {n:Nat} {pre pre' xs ys:List T} {κ:Bool->Bool},eqCK fs xs ys κ=true->FsOk P n flds fs->pre.length=n->pre'.length=n->∃ b,κ b=true /\
 (∀ d w,(Op.eqFields (d+1) ((pre++xs).map (tr N)).toArray ((pre' ++ ys).map (tr N)).toArray flds).run P w = .ok b w)/\(b=true->xs.map (tr N)=ys.map (tr N)/\∀ x ∈ xs,∀ m,Instr.sameBits m (tr N x) (tr N x)=true)
 | [],[],n,pre,pre',xs,ys,κ,h,hf,_,_=>by
  cases xs with
  | nil=>cases ys with
   | nil=>exact ⟨true,h,fun d w=>rfl,fun _=>⟨rfl,fun x hx=>by cases hx⟩⟩
   | cons _ _=>cases h
  | cons _ _=>cases h
 | [],_::_,_,_,_,_,_,_,_,hf,_,_=>by cases hf
 | _::_,[],_,_,_,_,_,_,_,hf,_,_=>by cases hf
 | k::fs,f::flds,n,pre,pre',xs,ys,κ,h,hf,hp,hp'=>by
  obtain ⟨h1,h2,h3,h4⟩:=hf;cases xs with
  | nil=>cases h
  | cons x xs=>cases ys with
   | nil=>cases h
   | cons y ys=>
    have h:(ekK k x y fun b=>bif b then eqCK fs xs ys κ else κ false)=true:=h;obtain ⟨b,q1,q2,q4,q5⟩:=ekK_ok h h3 N;have ha:∀ w,(isAgg f.type).run P w = .ok false w:=fun w=>by
     unfold EkOk at h3;split at h3
     . obtain ⟨q,hq⟩:=h3; simp [isAgg,run_underlying hq]
     . simp [isAgg,run_underlying h3]
     . simp [isAgg,run_underlying h3]
    have e1:((pre++x::xs).map (tr N))[n]? = some (tr N x):=by subst hp; simp
    have e2:((pre' ++ y::ys).map (tr N))[n]? = some (tr N y):=by subst hp'; simp
    have hstep:∀ d w,(Op.eqFields (d+1) ((pre++x::xs).map (tr N)).toArray ((pre' ++ y::ys).map (tr N)).toArray (f::flds)).run P w=(if (!b)=true then (pure false:Sem Bool) else Op.eqFields (d+1) ((pre++x::xs).map (tr N)).toArray ((pre' ++ y::ys).map (tr N)).toArray flds).run P w:=fun d w=>by
     simp only [Op.eqFields];rw [if_pos h1,h2];simp only [Sem.run_bind];rw [zHL (ha w) e1];simp only [Result.andThen_ok,Sem.run_bind];rw [zHL (ha w) e2];simp only [Result.andThen_ok,Sem.run_bind];rw [q2 d w];rfl
    cases b with
    | false=>
     refine ⟨false,q1,fun d w=>?_,fun e=>by cases e⟩;rw [hstep];rfl
    | true=>
     have r0:=zNI (pre:=pre++[x]) (pre':=pre' ++ [y]) (n:=n+1) (show eqCK fs xs ys κ=true from q1) h4 (by simp [hp]) (by simp [hp']);obtain ⟨b',r1,r2,r3⟩:=r0;refine ⟨b',r1,fun d w=>?_,fun e=>?_⟩
     . rw [hstep];have:=r2 d w;simp only [List.append_assoc,List.singleton_append] at this;simpa using this
     . obtain ⟨r4,r5⟩:=r3 e;refine ⟨by rw [List.map_cons,List.map_cons,q4 rfl,r4],fun z hz=>?_⟩;rcases List.mem_cons.1 hz with rfl | hz
       . exact q5
       . exact r5 z hz
theorem zG7 {t:TypeId} {fs:List EK} (ht:EqT P t fs) {xs ys:List T} {κ:Bool->Bool} (h:eqCK fs xs ys κ=true) (N:NM):∃ b,κ b=true/\(∀ w,(Op.equalIn 10000 t (.agg (xs.map (tr N)).toArray) (.agg (ys.map (tr N)).toArray)).run P w = .ok b w)/\(b=true->xs.map (tr N)=ys.map (tr N)/\∀ x ∈ xs,∀ m,Instr.sameBits m (tr N x) (tr N x)=true):=by
 obtain ⟨b,h1,h2,h3⟩:=zNI (N:=N) (pre:=[]) (pre':=[]) h ht.fs rfl rfl;refine ⟨b,h1,fun w=>?_,h3⟩;rw [run_equalIn_struct w 9999 t _ _ ht.und ht.held];exact h2 9998 w
noncomputable def eqtK (D:Dat) (t:TypeId) (κ:List EK->Bool):Bool:=
 match D.ex.get (1000000+t) with
 | some k=>(match k with
  | .eqt fs=>κ fs
  | _=>false)
 | none=>false
theorem zI9 (hD:DOk P D) {t:TypeId} {κ:List EK->Bool} (h:eqtK D t κ=true):∃ fs,κ fs=true/\EqT P t fs:=by
 unfold eqtK at h;split at h
 . rename_i k hk;split at h
   . rename_i fs;have:=hD.ex _ _ hk;have e:1000000+t - 1000000=t:=Nat.add_sub_cancel_left _ _;have:EqT P (1000000+t - 1000000) fs:=this;rw [e] at this;exact ⟨fs,h,this⟩
   . cases h
 . cases h
noncomputable def zIV (D:Dat) (op:BinOp) (t:TypeId) (c:Bool) (x y:T) (K:T->Bool):Bool:=
 match x with
 | .agg xs=>(match y with
  | .agg ys=>eqtK D t fun fs=>eqCK fs xs ys fun b=>(match op with
   | .eql=>K (.bool b)
   | .neq=>fB (!b) fun b=>K (.bool b)
   | _=>false)
  | _=>false)
 | x=>zPC D op t c x y K
theorem zMJ (hD:DOk P D) (hs:HSim B N S w) {op:BinOp} {t:TypeId} {x y:T} {ox oy:Operand} {K:T->Bool} (h:zIV D op t (zAL oy) x y K=true):FinS P N S w K (do eqGuard op t ox oy (tr N x) (tr N y); Go.binOp op t (tr N x) (tr N y)):=by
 unfold zIV at h;split at h
 . split at h
   case h_2=>cases h
   rename_i xs _ ys;obtain ⟨fs,h1,h2⟩:=zI9 hD h;obtain ⟨b,h3,h4,_⟩:=zG7 h2 h1 N;have hg:=run_eqGuard_agg (P:=P) w op t ox oy (xs.map (tr N)).toArray (ys.map (tr N)).toArray h2.grd;split at h3
   . refine finS h3 ?_ trivial;simp only [tr,yE,Sem.run_bind,hg,Result.andThen_ok];rw [run_eql_struct,h4];rfl
   . rw [zBH] at h3;refine finS h3 ?_ trivial;simp only [tr,yE,Sem.run_bind,hg,Result.andThen_ok];rw [run_neq_struct,h4];rfl
   . cases h3
 . exact zRn hD hs h
theorem zH6 {t:TypeId} {fs:List EK} (ht:EqT P t fs) {vs:List Value} (hl:vs.length=fs.length) (b:Bool) (n:Nat):(Instr.checkKey b (n+2) t (.agg vs.toArray)).run P w = .ok () w:=by
 unfold Instr.checkKey;simp only [Sem.run_bind,run_underlying ht.und,Result.andThen_ok];rw [<- Array.forIn_toList];have key:∀ (l:List Field) (q:List EK) (i:Nat),FsOk P i l q->i+q.length=vs.length->(forIn l PUnit.unit fun f _=>if f.name ≠ "_" then (do
  let v <- part f.type vs.toArray f.offset
  Instr.checkKey b (n+1) f.type v
  pure (ForInStep.yield PUnit.unit)) else pure (ForInStep.yield PUnit.unit):Sem PUnit).run P w = .ok () w:=by
  intro l
  induction l with
  | nil=>intro q i _ _; rfl
  | cons f l ih=>
   intro q i hf hi;cases q with
   | nil=>cases hf
   | cons k q=>
    obtain ⟨h1,h2,h3,h4⟩:=hf;have ha:(isAgg f.type).run P w = .ok false w:=by
     unfold EkOk at h3;split at h3
     . obtain ⟨q,hq⟩:=h3; simp [isAgg,run_underlying hq]
     . simp [isAgg,run_underlying h3]
     . simp [isAgg,run_underlying h3]
    have hv:vs[f.offset]? = some (vs[i]'(by simp at hi; omega)):=by rw [h2]; simp
    have hc:∀ v,(Instr.checkKey b (n+1) f.type v).run P w = .ok () w:=fun v=>by
     unfold Instr.checkKey;unfold EkOk at h3;split at h3
     . obtain ⟨q,hq⟩:=h3; simp [run_underlying hq]
     . simp [run_underlying h3]
     . simp [run_underlying h3]
    rw [List.forIn_cons];simp only [if_pos h1,Sem.run_bind];rw [zHL ha hv];simp only [Result.andThen_ok,hc,Sem.run_pure];exact ih q (i+1) h4 (by simp at hi; omega)
 have:=key _ fs 0 ht.fs (by omega);rw [this];rfl
noncomputable def zKe (fs:List EK) (k:List T) (es:List (T×T×Nat)) (κ:Option T->Bool):Bool:=
 List.rec (motive:=fun _=>Bool) (κ none) (fun e _ ih=>(match e.1 with
  | .agg c=>eqCK fs k c fun b=>bif b then κ (some e.2.1) else ih
  | _=>false)) es
theorem zIj {t:TypeId} {fs:List EK} (ht:EqT P t fs) {k:List T}:∀ {es:List (T×T×Nat)} {κ:Option T->Bool},zKe fs k es κ=true->∀ i,∃ r,κ r=true/\(match r with
 | none=>∀ w,(Instr.findAsking t (tr N (.agg k)) (es.map (trE N)) i).run P w = .ok none w
 | some v=>∃ j p,es[j]? = some p/\p.2.1=v/\∀ w,(Instr.findAsking t (tr N (.agg k)) (es.map (trE N)) i).run P w = .ok (some (i+j,tr N v)) w)
 | [],κ,h,i=>⟨none,h,fun w=>rfl⟩
 | e::es,κ,h,i=>by
  have h:(match e.1 with
   | .agg c=>eqCK fs k c fun b=>bif b then κ (some e.2.1) else zKe fs k es κ
   | _=>false)=true:=h
  split at h
  case h_2=>cases h
  rename_i c hc;obtain ⟨b,h1,h2,_⟩:=zG7 ht h N;have hrun:∀ w,(Instr.findAsking t (tr N (.agg k)) ((e::es).map (trE N)) i).run P w=(if b=true then (pure (some (i,tr N e.2.1)):Sem (Option (Nat×Value))) else Instr.findAsking t (tr N (.agg k)) (es.map (trE N)) (i+1)).run P w:=fun w=>by
   simp only [List.map_cons,Instr.findAsking,Sem.run_bind,trE,hc];have:(Op.equal t (tr N (.agg k)) (tr N (.agg c))).run P w = .ok b w:=by
    simp only [tr,yE];exact h2 w
   rw [this];rfl
  cases b with
  | true=>
   exact ⟨some e.2.1,h1,0,e,rfl,rfl,fun w=>by rw [hrun w]; rfl⟩
  | false=>
   obtain ⟨r,h3,h4⟩:=zIj ht (show zKe fs k es κ=true from h1) (i+1);refine ⟨r,h3,?_⟩;cases r with
   | none=>exact fun w=>by rw [hrun w]; exact h4 w
   | some v=>
    obtain ⟨j,p,h5,h6,h7⟩:=h4;refine ⟨j+1,p,h5,h6,fun w=>?_⟩;rw [hrun w,if_neg (by simp),h7 w];congr 3;omega
theorem zC0 {t:TypeId} {fs:List EK} (ht:EqT P t fs) {k:Value} {es:List MapEntry} {r:Option (Nat×Value)} (h:∀ w,(Instr.findAsking t k es 0).run P w = .ok r w):(Instr.findKey t k es).run P w = .ok r w:=by
 unfold Instr.findKey;simp only [Sem.run_bind,run_underlying ht.und,Result.andThen_ok];cases es with
 | nil=>
  have:=h w;simp only [Instr.findNow];exact this
 | cons e es=>
  have:Instr.findNow (.struct (P.fieldsOf t)) k (e::es) 0=none:=by
   simp only [Instr.findNow];have:Instr.sameNow (.struct (P.fieldsOf t)) k e.key=none:=by
    unfold Instr.sameNow;split <;> first | rfl | simp_all
   rw [this]
  rw [this];exact h w
noncomputable def zFY (D:Dat) (S:XS) (t:TypeId) (m k:T) (c:Bool) (K:T->Bool):Bool:=
 match k with
 | .agg kc=>(match D.tt.get t with
  | some d=>(match d.u with
   | .map kt el=>(match D.tt.get el with
    | some e=>eqtK D kt fun fs=>bif zagB e && Nat.beq kc.length fs.length then (match m with
     | .atm v=>(match v with
      | .map none=>zroK e fun x=>outK c x false K
      | _=>false)
     | .mp l=>(match S.h.get l with
      | some ob=>(match ob with
       | .mp es _=>zKe fs kc es fun r=>(match r with
        | some x=>outK c x true K
        | none=>zroK e fun x=>outK c x false K)
       | _=>false)
      | none=>false)
     | _=>false) else false
    | none=>false)
   | _=>false)
  | none=>false)
 | k=>zPJ D S t m k c K
theorem zJ3 (hD:DOk P D) (hs:HSim B N S w) {t:TypeId} {m k:T} {c:Bool} {K:T->Bool} (h:zFY D S t m k c K=true):FinS P N S w K (Instr.lookup t (tr N m) (tr N k) c):=by
 unfold zFY at h;split at h
 case h_2=>exact zR1 hD hs h
 rename_i kc;split at h
 case h_2=>cases h
 rename_i d hd;have ht:=hD.tt _ _ hd;split at h
 case h_2=>cases h
 rename_i kt el hu;split at h
 case h_2=>cases h
 rename_i e he;have hte:=hD.tt _ _ he;obtain ⟨fs,h1,hq⟩:=zI9 hD h;obtain ⟨h2,h3⟩:=zK h1;rw [Bool.and_eq_true] at h2;have hag:=zOL h2.1;have hl:=beq_iff.1 h2.2;clear h h1 h2;have hchk:∀ b,(Instr.checkKey b 10000 kt (tr N (.agg kc))).run P w = .ok () w:=fun b=>by
  simp only [tr,yE];exact zH6 hq (by simpa using hl) b 9998
 split at h3
 . split at h3
   . obtain ⟨x,q1,q2,q3⟩:=zGK hte h3 hag N;obtain ⟨y,r1,r2,r3⟩:=zCV (S:=S) (N:=N) q1 (qR (Nat.zero_le _) _ q2);refine finS  r1 ?_ r2;have hf:(Instr.findKey kt (tr N (.agg kc)) []).run P w = .ok none w:=zC0 hq fun w=>rfl;rw [r3];simp only [Instr.lookup,Sem.run_bind,ht.run_und,hu,Result.andThen_ok,Sem.run_pure];simp only [tr] at hf hchk ⊢;simp only [Sem.run_bind,Sem.run_pure,Result.andThen_ok];rw [hchk];simp only [Result.andThen_ok,hf,Sem.run_bind,q3,Sem.run_pure]
     all_goals (cases c <;> rfl)
   . cases h3
 . rename_i l;split at h3
   case h_2=>cases h3
   rename_i ob ho;split at h3
   case h_2=>cases h3
   rename_i es clock;obtain ⟨arr,k1,k2,k3⟩:=hs.ok l _ ho;have k2':arr.toList=es.map (trE N):=k2;obtain ⟨r,q1,q2⟩:=zIj (N:=N) hq h3 0;have hget:(getObj (N.bl l)).run P w = .ok (.map arr clock) w:=by simp [getObj,Sem.run,k1]
   cases r with
   | some x=>
    obtain ⟨j,p,p1,p2,p3⟩:=q2;have hbx:bd S.nl x:=by rw [<- p2]; exact (k3 p (List.mem_of_getElem? p1)).2
    obtain ⟨y,r1,r2,r3⟩:=zCV (S:=S) (N:=N) q1 hbx;refine finS  r1 ?_ r2;have hf:(Instr.findKey kt (tr N (.agg kc)) (es.map (trE N))).run P w = .ok (some (0+j,tr N x)) w:=zC0 hq p3;rw [r3];simp only [Instr.lookup,Sem.run_bind,ht.run_und,hu,Result.andThen_ok,Sem.run_pure];rw [show tr N (.mp l) = .map (some (N.bl l)) from rfl];simp only [Sem.run_bind,hget,Sem.run_pure,Result.andThen_ok];rw [hchk];simp only [Result.andThen_ok,k2',hf,Sem.run_pure,Sem.run_bind]
    all_goals (cases c <;> rfl)
   | none=>
    obtain ⟨x,q3,q4,q5⟩:=zGK hte q1 hag N;obtain ⟨y,r1,r2,r3⟩:=zCV (S:=S) (N:=N) q3 (qR (Nat.zero_le _) _ q4);refine finS  r1 ?_ r2;have hf:(Instr.findKey kt (tr N (.agg kc)) (es.map (trE N))).run P w = .ok none w:=zC0 hq q2;rw [r3];simp only [Instr.lookup,Sem.run_bind,ht.run_und,hu,Result.andThen_ok,Sem.run_pure];rw [show tr N (.mp l) = .map (some (N.bl l)) from rfl];simp only [Sem.run_bind,hget,Sem.run_pure,Result.andThen_ok];rw [hchk];simp only [Result.andThen_ok,k2',hf,Sem.run_bind,q5,Sem.run_pure]
    all_goals (cases c <;> rfl)
 . cases h3
noncomputable def zKZ (fs:List EK) (k:List T) (v:T) (clock:Nat) (es:List (T×T×Nat)):(List (T×T×Nat)->Nat->Bool)->Bool:=
 List.rec (motive:=fun _=>(List (T×T×Nat)->Nat->Bool)->Bool) (fun κ=>fN (clock+1) fun c=>κ [(.agg k,v,clock)] c)
  (fun e r ih κ=>(match e.1 with
   | .agg c=>eqCK fs k c fun b=>bif b then κ ((.agg k,v,e.2.2)::r) clock else ih fun es c=>κ (e::es) c
   | _=>false)) es
theorem zMK {t:TypeId} {fs:List EK} (ht:EqT P t fs) {k:List T} {v:T} {clock:Nat}:∀ {es:List (T×T×Nat)} {κ:List (T×T×Nat)->Nat->Bool},zKZ fs k v clock es κ=true->∀ i,∃ es' c,κ es' c=true /\
 ((∃ j p,es[j]? = some p/\es' = es.set j (.agg k,v,p.2.2)/\c=clock/\(∀ w,(Instr.findAsking t (tr N (.agg k)) (es.map (trE N)) i).run P w = .ok (some (i+j,tr N p.2.1)) w)/\Instr.sameBits 10000 (tr N p.1) (tr N (.agg k))=true) \/
  (es' = es++[(.agg k,v,clock)]/\c=clock+1/\∀ w,(Instr.findAsking t (tr N (.agg k)) (es.map (trE N)) i).run P w = .ok none w))
 | [],κ,h,i=>⟨_,_,by have h:(fN (clock+1) fun c=>κ [(.agg k,v,clock)] c)=true:=h; rw [zo] at h; exact h,.inr ⟨rfl,rfl,fun _=>rfl⟩⟩
 | e::es,κ,h,i=>by
  have h:(match e.1 with
   | .agg c=>eqCK fs k c fun b=>bif b then κ ((.agg k,v,e.2.2)::es) clock else zKZ fs k v clock es fun es c=>κ (e::es) c
   | _=>false)=true:=h
  split at h
  case h_2=>cases h
  rename_i c hc;obtain ⟨b,h1,h2,h3⟩:=zG7 ht h N;have hrun:∀ w,(Instr.findAsking t (tr N (.agg k)) ((e::es).map (trE N)) i).run P w=(if b=true then (pure (some (i,tr N e.2.1)):Sem (Option (Nat×Value))) else Instr.findAsking t (tr N (.agg k)) (es.map (trE N)) (i+1)).run P w:=fun w=>by
   simp only [List.map_cons,Instr.findAsking,Sem.run_bind,trE,hc];have:(Op.equal t (tr N (.agg k)) (tr N (.agg c))).run P w = .ok b w:=by
    simp only [tr,yE];exact h2 w
   rw [this];rfl
  cases b with
  | true=>
   obtain ⟨h4,h5⟩:=h3 rfl;refine ⟨_,_,h1,.inl ⟨0,e,rfl,rfl,rfl,fun w=>by rw [hrun w]; rfl,?_⟩⟩;rw [hc];simp only [tr,yE,<- h4];have hall:∀ l:List T,(∀ x ∈ l,∀ m,Instr.sameBits m (tr N x) (tr N x)=true)->((l.map (tr N)).zip (l.map (tr N))).all (fun (x,y)=>Instr.sameBits 9999 x y)=true:=by
    intro l hl
    induction l with
    | nil=>rfl
    | cons x l ih=>
     simp only [List.map_cons,List.zip_cons_cons,List.all_cons,Bool.and_eq_true];exact ⟨hl x (by simp) 9999,ih fun y hy=>hl y (List.mem_cons_of_mem _ hy)⟩
   show ((k.map (tr N)).toArray.size == (k.map (tr N)).toArray.size && ((k.map (tr N)).toArray.toList.zip (k.map (tr N)).toArray.toList).all fun (x,y)=>Instr.sameBits 9999 x y)=true;rw [Bool.and_eq_true];exact ⟨by simp,hall k h5⟩
  | false=>
   obtain ⟨es',c',h4,h5⟩:=zMK ht (show zKZ fs k v clock es (fun es c=>κ (e::es) c)=true from h1) (i+1);refine ⟨_,c',h4,?_⟩;rcases h5 with ⟨j,p,q1,q2,q3,q4,q5⟩ | ⟨q1,q2,q3⟩
   . refine .inl ⟨j+1,p,q1,by rw [q2]; rfl,q3,fun w=>?_,q5⟩;rw [hrun w,if_neg (by simp),q4 w];congr 3;omega
   . exact .inr ⟨by rw [q1]; rfl,q2,fun w=>by rw [hrun w,if_neg (by simp),q3 w]⟩
noncomputable def zCf (D:Dat) (S:XS) (t:TypeId) (m k v:T) (K:XS->Bool):Bool:=
 match k with
 | .agg kc=>(match D.tt.get t with
  | some d=>(match d.u with
   | .map kt _=>eqtK D kt fun fs=>bif Nat.beq kc.length fs.length then (match m with
    | .mp l=>(match S.h.get l with
     | some ob=>(match ob with
      | .mp es clock=>zKZ fs kc v clock es fun es' c=>Tr.setK (.mp es' c) 40 S.h l fun h=>K ⟨h,S.nl⟩
      | _=>false)
     | none=>false)
    | _=>false) else false
   | _=>false)
  | none=>false)
 | k=>zLN D S t m k v K
theorem zIQ (hD:DOk P D) (hs:HSim B N S w) {t:TypeId} {m k v:T} {K:XS->Bool} (h:zCf D S t m k v K=true) (hk:bd S.nl k) (hv:bd S.nl v):Fin0 P B N S w K (Instr.mapUpdate t (tr N m) (tr N k) (tr N v)):=by
 unfold zCf at h;split at h
 case h_2=>exact zQh hD hs h hk hv
 rename_i kc;split at h
 case h_2=>cases h
 rename_i d hd;have ht:=hD.tt _ _ hd;split at h
 case h_2=>cases h
 rename_i kt el hu;obtain ⟨fs,h1,hq⟩:=zI9 hD h;obtain ⟨h2,h3⟩:=zK h1;have hl:=beq_iff.1 h2;clear h h1 h2;have hchk:∀ b,(Instr.checkKey b 10000 kt (tr N (.agg kc))).run P w = .ok () w:=fun b=>by
  simp only [tr,yE];exact zH6 hq (by simpa using hl) b 9998
 split at h3
 case h_2=>cases h3
 rename_i l;split at h3
 case h_2=>cases h3
 rename_i ob ho;split at h3
 case h_2=>cases h3
 rename_i es clock;obtain ⟨arr,k1,k2,k3⟩:=hs.ok l _ ho;have k2':arr.toList=es.map (trE N):=k2;have hget:(getObj (N.bl l)).run P w = .ok (.map arr clock) w:=by simp [getObj,Sem.run,k1]
 have hset:∀ o,(setObj (N.bl l) o).run P w = .ok () (w.putObj (N.bl l) o):=fun o=>by
  simp [setObj,Sem.run,World.putObj,k1]
 obtain ⟨es',c,q1,q2⟩:=zMK (N:=N) hq h3 0;obtain ⟨h',q3,q4⟩:=Tr.setK_ok _ _ _ _ _ q1;rcases q2 with ⟨j,p,r1,r2,r3,r4,r5⟩ | ⟨r1,r2,r3⟩
 . rw [Nat.zero_add] at r4;have hjl:arr.toList[j]? = some (trE N p):=by rw [k2',List.getElem?_map,r1]; rfl
   have hja:arr[j]? = some (trE N p):=by rw [<- Array.getElem?_toList]; exact hjl
   have hobj:ObOk N S.nl l (some (.map (arr.modify j fun e=>{ e with key:=tr N (.agg kc),val:=tr N v }) clock)) (.mp es' c):=by
    subst r2; subst r3;refine ⟨_,rfl,?_,fun q hq=>?_⟩
    . rw [zHZ arr j _ hjl,k2',List.map_set]; rfl
    . rcases List.mem_or_eq_of_mem_set hq with hq | rfl
      . exact k3 q hq
      . exact ⟨hk,hv⟩
   refine ⟨N,_,_,q3,?_,zAk hs ho rfl rfl rfl k1 hobj q4⟩;have hf:(Instr.findKey kt (tr N (.agg kc)) (es.map (trE N))).run P w = .ok (some (j,tr N p.2.1)) w:=zC0 hq r4;unfold Instr.mapUpdate;simp only [Sem.run_bind,ht.run_und,hu,Result.andThen_ok];rw [show tr N (.mp l) = .map (some (N.bl l)) from rfl];simp only [Sem.run_bind,hget,Result.andThen_ok];rw [hchk];simp only [Result.andThen_ok,k2',hf,Sem.run_bind,hja,Option.map_some,Option.getD_some];rw [show (trE N p).key=tr N p.1 from rfl,zNb r5];simp only [Result.andThen_ok];exact hset _
 . have hobj:ObOk N S.nl l (some (.map (arr.push { key:=tr N (.agg kc),val:=tr N v,born:=clock }) (clock+1))) (.mp es' c):=by
    subst r1; subst r2;refine ⟨_,rfl,?_,fun q hq=>?_⟩
    . rw [Array.toList_push,k2']; simp [trE]
    . rcases List.mem_append.1 hq with hq | hq
      . exact k3 q hq
      . simp at hq; subst hq; exact ⟨hk,hv⟩
   refine ⟨N,_,_,q3,?_,zAk hs ho rfl rfl rfl k1 hobj q4⟩;have hf:(Instr.findKey kt (tr N (.agg kc)) (es.map (trE N))).run P w = .ok none w:=zC0 hq r3;unfold Instr.mapUpdate;simp only [Sem.run_bind,ht.run_und,hu,Result.andThen_ok];rw [show tr N (.mp l) = .map (some (N.bl l)) from rfl];simp only [Sem.run_bind,hget,Result.andThen_ok];rw [hchk];simp only [Result.andThen_ok,k2',hf];exact hset _
end
end
section
open Go.RowKit Go.Lib
inductive Out where
 | v (x:T)
 | sk
 | ent (f:FuncId) (args:List T)
 | rnd (l:Nat) (args:List T)
 | pan (x:T)
 | dfr (f:FuncId) (args caps:List T)
 | rcv
def OutR (P:Program) (D:Dat) (N:NM) (S:XS) (w:World) (r:Result Next):Out->Prop
 | .v x=>r = .ok (.value (tr N x)) w/\bd S.nl x
 | .sk=>r = .ok .skip w
 | .ent f args=>r = .ok (.enter f (args.map (tr N)).toArray) w/\bds S.nl args/\∃ d,D.ft.get f=some d
 | .rnd l args=>bds S.nl args/\∃ e nt ps assign body dl st pd,S.h.get l=some (.loop st pd nt e ps assign body dl)/\ps.length=args.length/\∃ fn tmps,w.heap[N.bl l]? = some (.loop ⟨st,pd,fn,tmps,ps.toArray,assign,body,N.bl dl⟩)/\ESim N S.nl nt e tmps /\
  r = .ok (.round (N.bl l) fn ((ps.toArray.zip (args.map (tr N)).toArray).foldl (fun tmps (t,a)=>tmps.setIfInBounds t a) tmps) assign body) w
 | .pan x=>r = .halt (.panic (tr N x)) w/\bd S.nl x
 | .dfr f args caps=>r = .ok (.defer { target:=.fn (.func f) (trs N caps).toArray,args:=(trs N args).toArray }) w/\bds S.nl args/\bds S.nl caps
 | .rcv=>r = .ok .recover w
def OFin (P:Program) (D:Dat) (B:Bs) (N:NM) (S:XS) (w:World) (K:Out->XS->Bool) (s:Sem Next):Prop:=
 ∃ out N' S' w',K out S' = true/\Stp B N S w N' S' w'/\OutR P D N' S' w' (s.run P w) out
section
variable {P:Program} {B:Bs} {N:NM} {S:XS} {w:World} {D:Dat}
theorem y7 {s:Sem Value} {u:Value} {w':World} (h:s.run P w = .ok u w'):((do pure (Next.value (<- s))):Sem Next).run P w = .ok (.value u) w':=by simp [Sem.run_bind,h]
theorem zKS {s:Sem Unit} {w':World} (h:s.run P w = .ok () w'):((do s; pure Next.skip):Sem Next).run P w = .ok .skip w':=by simp [Sem.run_bind,h]
theorem Fin.out {K:Out->XS->Bool} {s:Sem Value} (h:Fin P B N S w (fun x S=>K (.v x) S) s):OFin P D B N S w K (do pure (Next.value (<- s))):=by
 obtain ⟨x,N',S',w',h1,h2,h3,h4⟩:=h;exact ⟨.v x,N',S',w',h1,h3,y7 h2,h4⟩
theorem FinS.out {K:Out->XS->Bool} {s:Sem Value} (h:FinS P N S w (fun x=>K (.v x) S) s) (hs:HSim B N S w):OFin P D B N S w K (do pure (Next.value (<- s))):=Fin.out (FinS.fin (K:=fun x S=>K (.v x) S) hs h)
theorem Fin0.out {K:Out->XS->Bool} {s:Sem Unit} (h:Fin0 P B N S w (fun S=>K .sk S) s):OFin P D B N S w K (do s; pure Next.skip):=by
 obtain ⟨N',S',w',h1,h2,h3⟩:=h;exact ⟨.sk,N',S',w',h1,h3,zKS h2⟩
noncomputable def xBi (D:Dat) (S:XS) (b:Builtin) (ts:List TypeId) (args:List T) (K:T->XS->Bool):Bool:=
 match args with
 | [x]=>(match b with
  | .len=>(match ts with | t::_=>xLen D S t x fun y=>K y S | []=>false)
  | .cap=>(match ts with | t::_=>xCap D t x fun y=>K y S | []=>false)
  | .clear=>(match ts with | t::_=>zKu D S t x K | []=>false)
  | .unsafeSliceData=>xUSD S x fun y=>K y S
  | _=>false)
 | [x,y]=>(match b with
  | .append=>(match ts with
   | [t,t2]=>(match y with
    | .int _ _=>zOV D S t t2 x y K
    | y=>xApp D S t t2 x y K)
   | _=>false)
  | .copy=>(match ts with | t::_=>zOO D S t x y K | []=>false)
  | .min=>xMin x y fun z=>K z S
  | .max=>xMax x y fun z=>K z S
  | .unsafeString=>zPE D S ts x y K
  | _=>false)
 | _=>false
theorem xBi_ok (hD:DOk P D) (hs:HSim B N S w) {b:Builtin} {ts:List TypeId} {args:List T} {K:Out->XS->Bool} (h:xBi D S b ts args (fun x S=>K (.v x) S)=true) (hb:bds S.nl args) (ty:TypeId) (cs:Array Bool):OFin P D B N S w K (Go.builtin b ts.toArray ty cs (args.map (tr N)).toArray):=by
 unfold xBi at h;split at h
 . rename_i x;split at h
   . split at h
     . rename_i t r;exact (zNW (K:=fun x=>K (.v x) S) hD hs h r ty).out hs
     . cases h
   . split at h
     . rename_i t r;exact (zNS (K:=fun x=>K (.v x) S) hD hs h r ty).out hs
     . cases h
   . split at h
     . rename_i t r;exact (zPm (K:=fun x S=>K (.v x) S) hD hs h r ty).out
     . cases h
   . exact (zOK (K:=fun x=>K (.v x) S) hs h hb.1 ts.toArray ty).out hs
   . cases h
 . rename_i x y;split at h
   . split at h
     . rename_i t t2;split at h
       . exact (zSe (ty:=ty) (K:=fun x S=>K (.v x) S) hD hs h).out
       . exact (zTf (ty:=ty) (K:=fun x S=>K (.v x) S) hD hs h hb.1).out
     . cases h
   . split at h
     . rename_i t r;exact (zR5 (K:=fun x S=>K (.v x) S) hD hs h r ty).out
     . cases h
   . exact (zOM (K:=fun x=>K (.v x) S) hs h ts.toArray ty).out hs
   . exact (zN6 (K:=fun x=>K (.v x) S) hs h ts.toArray ty).out hs
   . exact (zSD (K:=fun x S=>K (.v x) S) hD hs h ty).out
   . cases h
 . cases h
def refB:T->Bool
 | .ptr _ _=>true
 | .mp _=>true
 | .ifc _ _=>true
 | .yl _=>true
 | .fn f _ _=>(match f with | .func _=>true | _=>false)
 | _=>false
noncomputable def idxK (c:Nat) (l:List Nat):Nat->(Int->Bool)->Bool:=
 List.rec (motive:=fun _=>Nat->(Int->Bool)->Bool) (fun _ κ=>κ (-1)) (fun b _ ih i κ=>bif Nat.beq (Nat.mod b 256) c then fI (Int.ofNat i) κ else fN (i+1) fun j=>ih j κ) l
noncomputable def xExt (k:EX) (args:List T) (K:T->Bool):Bool:=
 match k with
 | .eqt _=>false
 | .idxB=>(match args with
  | [.str s,.int .u8 c]=>(match c with
   | .ofNat c=>bif Nat.blt c 256 then idxK c s 0 fun i=>K (.int .i64 i) else false
   | _=>false)
  | _=>false)
 | .same=>(match args with
  | [x]=>K x
  | _=>false)
 | .cntB=>(match args with
  | [.str s,.int .u8 c]=>(match c with
   | .ofNat c=>bif Nat.blt c 256 then cntK c s 0 fun n=>fI (Int.ofNat n) fun i=>K (.int .i64 i) else false
   | _=>false)
  | _=>false)
 | .mnz _=>false
noncomputable def zPO (D:Dat) (S:XS) (k:EX) (args:List T) (K:T->XS->Bool):Bool:=
 match k with
 | .mnz t=>(match args with
  | [.int .i64 n]=>(match n with
   | .ofNat n=>(match D.tt.get t with
    | some d=>(match d.u with
     | .slice e=>bif Nat.ble n 281474976710656 then newK S (.row 1 [] 0 e) fun l S=>K (.sl l 1 0 0 n) S else false
     | _=>false)
    | none=>false)
   | .negSucc _=>false)
  | _=>false)
 | k=>xExt k args fun x=>K x S
noncomputable def zGM (D:Dat) (S:XS) (f:T) (args:List T) (K:Out->XS->Bool):Bool:=
 match f with
 | .fn fn first caps=>(match fn with
  | .func n=>(match D.ft.get n with
   | some _=>appK first args fun q=>appK q caps fun r=>K (.ent n r) S
   | none=>(match D.ex.get n with
    | some k=>appK first args fun q=>appK q caps fun r=>zPO D S k r fun x S=>K (.v x) S
    | none=>false))
  | _=>false)
 | .yl l=>(match S.h.get l with
  | some o=>(match o with
   | .loop _ _ _ _ ps _ _ _=>bif Nat.beq ps.length args.length then K (.rnd l args) S else false
   | _=>false)
  | none=>false)
 | _=>false
noncomputable def xop (D:Dat) (e:Tr T) (S:XS) (o:Oper) (K:Out->XS->Bool):Bool:=
 match o.op with
 | .move x=>evK D.ng e x fun x=>K (.v x) S
 | .assign x=>evK D.ng e x fun x=>K (.v x) S
 | .pick c a b=>evK D.ng e c fun c=>(match c with
  | .bool t=>(match t with
   | true=>evK D.ng e a fun x=>K (.v x) S
   | false=>evK D.ng e b fun x=>K (.v x) S)
  | _=>false)
 | .alloc t=>zHc D S t fun x S=>K (.v x) S
 | .box t x=>evK D.ng e x fun x=>xBox S t x fun y S=>K (.v y) S
 | .build t ps=>(match ps with | ⟨l⟩=>evpK D.ng e l fun ps=>zFV D t ps fun y=>K (.v y) S)
 | .buildSlice t n ps=>(match ps with | ⟨l⟩=>evpK D.ng e l fun ps=>fN n fun n=>zBe D S t n ps fun y S=>K (.v y) S)
 | .load t a=>evK D.ng e a fun a=>zCJ D S t a fun y S=>K (.v y) S
 | .store t a x=>evK D.ng e a fun a=>evK D.ng e x fun x=>zH4 D S t a x fun S=>K .sk S
 | .nilCheck x=>evK D.ng e x fun x=>bif refB x then K (.v x) S else false
 | .binOp op t x y _=>evK D.ng e x fun a=>evK D.ng e y fun b=>zIV D op t (zAL y) a b fun z=>K (.v z) S
 | .unOp op _ x=>evK D.ng e x fun a=>xUn op a fun z=>K (.v z) S
 | .convert f t x=>evK D.ng e x fun a=>zFr D S f t a fun z=>K (.v z) S
 | .makeInterface t x=>evK D.ng e x fun a=>zCw D t a fun z=>K (.v z) S
 | .makeFunc fn a b=>(match a,b with | ⟨a⟩,⟨b⟩=>evsK D.ng e a fun a=>evsK D.ng e b fun b=>K (.v (.fn fn a b)) S)
 | .makeMap _ r=>(match r with
  | none=>zHE S fun y S=>K (.v y) S
  | some _=>false)
 | .makeSlice t l c=>evK D.ng e l fun a=>evK D.ng e c fun b=>zCA D S t a b fun y S=>K (.v y) S
 | .slice t x lo hi mx=>evK D.ng e x fun x=>evoK D.ng e lo fun lo=>evoK D.ng e hi fun hi=>evoK D.ng e mx fun mx=>zFh D S t x lo hi mx fun y=>K (.v y) S
 | .fieldAddr t x f=>evK D.ng e x fun x=>zA0 D t x f fun y=>K (.v y) S
 | .field t x f=>evK D.ng e x fun x=>zFA D t x f fun y=>K (.v y) S
 | .indexAddr t x i=>evK D.ng e x fun x=>evK D.ng e i fun i=>zA3 D S t x i fun y=>K (.v y) S
 | .index t x i=>evK D.ng e x fun x=>evK D.ng e i fun i=>zFX D t x i fun y=>K (.v y) S
 | .lookup t x i c=>evK D.ng e x fun x=>evK D.ng e i fun i=>zFY D S t x i c fun y=>K (.v y) S
 | .mapUpdate t m k x=>evK D.ng e m fun m=>evK D.ng e k fun k=>evK D.ng e x fun x=>zCf D S t m k x fun S=>K .sk S
 | .insert t m k x=>evK D.ng e m fun m=>evK D.ng e k fun k=>evK D.ng e x fun x=>zCf D S t m k x fun S=>K .sk S
 | .range t x=>evK D.ng e x fun x=>zIU D S t x fun y S=>K (.v y) S
 | .next x b=>evK D.ng e x fun x=>zKW S x b fun y S=>K (.v y) S
 | .extract x i=>evK D.ng e x fun x=>zCn x i fun y=>K (.v y) S
 | .panic x=>evK D.ng e x fun x=>(match x with
  | .ifc _ _=>K (.pan x) S
  | _=>false)
 | .call c=>(match c.args with
  | ⟨l⟩=>(match c.callee with
   | .builtin b=>evsK D.ng e l fun args=>(match c.argTypes with | ⟨ts⟩=>xBi D S b ts args fun y S=>K (.v y) S)
   | .value f=>evK D.ng e f fun f=>evsK D.ng e l fun args=>zGM D S f args K
   | .invoke _ _=>false))
 | .defer c=>(match c.args with
  | ⟨l⟩=>(match c.callee with
   | .value f=>evK D.ng e f fun f=>evsK D.ng e l fun args=>(match f with
    | .fn fn first caps=>(match fn with
     | .func n=>appK first args fun q=>K (.dfr n q caps) S
     | _=>false)
    | _=>false)
   | _=>false))
 | _=>false
abbrev OpK:=Dat->Tr T->XS->(Out->XS->Bool)->Bool
def zAZ:OpK:=fun _ _ _ _=>false
noncomputable def zUD (x:Operand):OpK:=fun D e S K=>evK D.ng e x fun x=>K (.v x) S
noncomputable def zQD (x:Operand):OpK:=fun D e S K=>evK D.ng e x fun x=>K (.v x) S
noncomputable def zUx (c:Operand) (a:Operand) (b:Operand):OpK:=fun D e S K=>evK D.ng e c fun c=>(match c with
 | .bool t=>(match t with
  | true=>evK D.ng e a fun x=>K (.v x) S
  | false=>evK D.ng e b fun x=>K (.v x) S)
 | _=>false)
noncomputable def zSR (t:TypeId):OpK:=fun D e S K=>zHc D S t fun x S=>K (.v x) S
noncomputable def fo_box (t:TypeId) (x:Operand):OpK:=fun D e S K=>evK D.ng e x fun x=>xBox S t x fun y S=>K (.v y) S
noncomputable def zSC (t:TypeId) (ps:Array (Nat×Operand)):OpK:=fun D e S K=>(match ps with | ⟨l⟩=>evpK D.ng e l fun ps=>zFV D t ps fun y=>K (.v y) S)
noncomputable def zKI (t:TypeId) (n:Nat) (ps:Array (Nat×Operand)):OpK:=fun D e S K=>(match ps with | ⟨l⟩=>evpK D.ng e l fun ps=>fN n fun n=>zBe D S t n ps fun y S=>K (.v y) S)
noncomputable def zQ3 (t:TypeId) (m:Operand) (k:Operand) (x:Operand):OpK:=fun D e S K=>evK D.ng e m fun m=>evK D.ng e k fun k=>evK D.ng e x fun x=>zCf D S t m k x fun S=>K .sk S
noncomputable def zT4 (t:TypeId) (a:Operand):OpK:=fun D e S K=>evK D.ng e a fun a=>zCJ D S t a fun y S=>K (.v y) S
noncomputable def zRi (t:TypeId) (a:Operand) (x:Operand):OpK:=fun D e S K=>evK D.ng e a fun a=>evK D.ng e x fun x=>zH4 D S t a x fun S=>K .sk S
noncomputable def zMs (x:Operand):OpK:=fun D e S K=>evK D.ng e x fun x=>bif refB x then K (.v x) S else false
noncomputable def zTF (op:BinOp) (t:TypeId) (x:Operand) (y:Operand) (_4:TypeId):OpK:=fun D e S K=>evK D.ng e x fun a=>evK D.ng e y fun b=>zIV D op t (zAL y) a b fun z=>K (.v z) S
noncomputable def zUV (op:UnOp) (_1:TypeId) (x:Operand):OpK:=fun D e S K=>evK D.ng e x fun a=>xUn op a fun z=>K (.v z) S
noncomputable def zPB (f:TypeId) (t:TypeId) (x:Operand):OpK:=fun D e S K=>evK D.ng e x fun a=>zFr D S f t a fun z=>K (.v z) S
noncomputable def zGv (t:TypeId) (x:Operand):OpK:=fun D e S K=>evK D.ng e x fun a=>zCw D t a fun z=>K (.v z) S
noncomputable def zMv (fn:Fn) (a:Array Operand) (b:Array Operand):OpK:=fun D e S K=>(match a,b with | ⟨a⟩,⟨b⟩=>evsK D.ng e a fun a=>evsK D.ng e b fun b=>K (.v (.fn fn a b)) S)
noncomputable def zON (_0:TypeId) (r:Option Operand):OpK:=fun D e S K=>(match r with
 | none=>zHE S fun y S=>K (.v y) S
 | some _=>false)
noncomputable def zKz (t:TypeId) (l:Operand) (c:Operand):OpK:=fun D e S K=>evK D.ng e l fun a=>evK D.ng e c fun b=>zCA D S t a b fun y S=>K (.v y) S
noncomputable def zTD (t:TypeId) (x:Operand) (lo:Option Operand) (hi:Option Operand) (mx:Option Operand):OpK:=fun D e S K=>evK D.ng e x fun x=>evoK D.ng e lo fun lo=>evoK D.ng e hi fun hi=>evoK D.ng e mx fun mx=>zFh D S t x lo hi mx fun y=>K (.v y) S
noncomputable def zMj (t:TypeId) (x:Operand) (f:Nat):OpK:=fun D e S K=>evK D.ng e x fun x=>zA0 D t x f fun y=>K (.v y) S
noncomputable def zRt (t:TypeId) (x:Operand) (f:Nat):OpK:=fun D e S K=>evK D.ng e x fun x=>zFA D t x f fun y=>K (.v y) S
noncomputable def zKo (t:TypeId) (x:Operand) (i:Operand):OpK:=fun D e S K=>evK D.ng e x fun x=>evK D.ng e i fun i=>zA3 D S t x i fun y=>K (.v y) S
noncomputable def zRo (t:TypeId) (x:Operand) (i:Operand):OpK:=fun D e S K=>evK D.ng e x fun x=>evK D.ng e i fun i=>zFX D t x i fun y=>K (.v y) S
noncomputable def zRT (t:TypeId) (x:Operand) (i:Operand) (c:Bool):OpK:=fun D e S K=>evK D.ng e x fun x=>evK D.ng e i fun i=>zFY D S t x i c fun y=>K (.v y) S
noncomputable def zLI (t:TypeId) (m:Operand) (k:Operand) (x:Operand):OpK:=fun D e S K=>evK D.ng e m fun m=>evK D.ng e k fun k=>evK D.ng e x fun x=>zCf D S t m k x fun S=>K .sk S
noncomputable def zSH (t:TypeId) (x:Operand):OpK:=fun D e S K=>evK D.ng e x fun x=>zIU D S t x fun y S=>K (.v y) S
noncomputable def zUT (x:Operand) (b:Bool):OpK:=fun D e S K=>evK D.ng e x fun x=>zKW S x b fun y S=>K (.v y) S
noncomputable def zO9 (x:Operand) (i:Nat):OpK:=fun D e S K=>evK D.ng e x fun x=>zCn x i fun y=>K (.v y) S
noncomputable def zTp (c:Call):OpK:=fun D e S K=>(match c.args with
 | ⟨l⟩=>(match c.callee with
  | .builtin b=>evsK D.ng e l fun args=>(match c.argTypes with | ⟨ts⟩=>xBi D S b ts args fun y S=>K (.v y) S)
  | .value f=>evK D.ng e f fun f=>evsK D.ng e l fun args=>zGM D S f args K
  | .invoke _ _=>false))
noncomputable def zRj (c:Call):OpK:=fun D e S K=>(match c.args with
 | ⟨l⟩=>(match c.callee with
  | .value f=>evK D.ng e f fun f=>evsK D.ng e l fun args=>(match f with
   | .fn fn first caps=>(match fn with
    | .func n=>appK first args fun q=>K (.dfr n q caps) S
    | _=>false)
   | _=>false)
  | _=>false))
noncomputable def zSS (x:Operand):OpK:=fun D e S K=>evK D.ng e x fun x=>(match x with
 | .ifc _ _=>K (.pan x) S
 | _=>false)
noncomputable def foK (o:Op):OpK:=Op.casesOn (motive:=fun _=>OpK) o zUD zQD zUx zSR fo_box zSC zKI zQ3 zT4 zRi (fun _=>zAZ) (fun _=>zAZ) zMs zTF zUV zPB (fun _ _=>zAZ) zGv zMv zON (fun _ _=>zAZ) zKz zTD zMj zRt zKo zRo zRT zLI (fun _ _ _=>zAZ) (fun _ _ _ _=>zAZ) zSH zUT (fun _=>zAZ) (fun _ _ _ _=>zAZ) zO9 zTp (fun _=>zAZ) zRj zSS (fun _ _=>zAZ) (fun _ _ _=>zAZ) (fun _ _=>zAZ)
noncomputable def xopF (D:Dat) (e:Tr T) (S:XS) (o:Oper) (K:Out->XS->Bool):Bool:=foK o.op D e S K
theorem zN0 (D:Dat) (e:Tr T) (S:XS) (o:Oper) (K:Out->XS->Bool):xopF D e S o K=xop D e S o K:=by
 unfold xopF xop;cases o.op <;> rfl
theorem zQX (b c:Nat) (hc:c < 256):(UInt8.ofNat b == UInt8.ofNat c)=Nat.beq (Nat.mod b 256) c:=by
 have hm:Nat.mod b 256=b % 256:=rfl;rw [hm,Bool.eq_iff_iff,beq_iff,beq_iff_eq];constructor
 . intro h;have:=congrArg UInt8.toNat h;simp at this;omega
 . intro h;apply UInt8.toNat_inj.1;simp;omega
theorem zN7 {c:Nat} (hc:c < 256):∀ {l:List Nat} {i:Nat} {κ:Int->Bool},idxK c l i κ=true->κ (if indexByte (l.map UInt8.ofNat) (UInt8.ofNat c) = -1 then -1 else indexByte (l.map UInt8.ofNat) (UInt8.ofNat c)+i)=true
 | [],i,κ,h=>by
  have h:κ (-1)=true:=h;simpa [indexByte] using h
 | b::l,i,κ,h=>by
  have h:(bif Nat.beq (Nat.mod b 256) c then fI (Int.ofNat i) κ else fN (i+1) fun j=>idxK c l j κ)=true:=h;have hge:=indexByte_ge (l.map UInt8.ofNat) (UInt8.ofNat c);simp only [List.map_cons,indexByte,zQX b c hc];cases hb:Nat.beq (Nat.mod b 256) c with
  | true=>
   rw [hb,cond_true,zKa] at h;simp only [if_true];rw [if_neg (by omega)];simpa using h
  | false=>
   rw [hb,cond_false,zo] at h;have h2:=zN7 hc h;simp only [Bool.false_eq_true,if_false,beq_iff_eq];by_cases e:indexByte (l.map UInt8.ofNat) (UInt8.ofNat c) = -1
   . rw [if_pos e] at h2;rw [if_pos e,if_pos rfl];exact h2
   . rw [if_neg e] at h2;rw [if_neg e,if_neg (by omega)];have e2:indexByte (l.map UInt8.ofNat) (UInt8.ofNat c)+1+(i:Int)=indexByte (l.map UInt8.ofNat) (UInt8.ofNat c)+((i+1:Nat):Int):=by omega
     rw [e2];exact h2
theorem zIv {c:Nat} (hc:c < 256):∀ {l:List Nat} {i:Nat} {κ:Nat->Bool},cntK c l i κ=true->κ (i+countByte (l.map UInt8.ofNat) (UInt8.ofNat c))=true
 | [],i,κ,h=>h
 | b::l,i,κ,h=>by
  have h:(bif Nat.beq (Nat.mod b 256) c then fN (i+1) fun j=>cntK c l j κ else cntK c l i κ)=true:=h;have hb:=zQX b c hc;cases hq:Nat.beq (Nat.mod b 256) c with
  | true=>
   rw [hq,cond_true,zo] at h;rw [hq] at hb;have:=zIv hc h;unfold countByte at this ⊢;rw [List.map_cons,List.count_cons,hb,if_pos rfl]
   rwa [show i+((l.map UInt8.ofNat).count (UInt8.ofNat c)+1)=i+1+(l.map UInt8.ofNat).count (UInt8.ofNat c) from by omega]
  | false=>
   rw [hq,cond_false] at h;rw [hq] at hb;have:=zIv hc h;unfold countByte at this ⊢;rw [List.map_cons,List.count_cons,hb,if_neg (by simp)];exact this
theorem zTa {k:EX} {args:List T} {K:T->Bool} (h:xExt k args K=true) (ha:bds S.nl args):∃ x,K x=true/\(zGX k (args.map (tr N)).toArray).run P w = .ok (tr N x) w/\bd S.nl x:=by
 unfold xExt at h;split at h
 . cases h
 . split at h
   . rename_i s c;split at h
     . rename_i c;obtain ⟨h1,h2⟩:=zK h;have hc:=blt_iff.1 h1;have h3:=zN7 hc h2;refine ⟨_,h3,?_,trivial⟩;have e:=run_indexByteString (P:=P) (bts s) (Int.ofNat c) w;have e1:(zGX .idxB (List.map (tr N) [.str s,.int .u8 (Int.ofNat c)]).toArray)=Extern.BytealgIndexByte.indexByte #[.string (bts s),.int .u8 (Int.ofNat c)]:=rfl;rw [e1,e];have e2:(bts s).data.toList=s.map UInt8.ofNat:=by simp [bts]
       have e3:((Int.ofNat c).toNat).toUInt8=UInt8.ofNat c:=rfl;rw [e2,e3];simp only [tr];congr 2;split
       . rename_i e4; exact e4
       . simp
     . cases h
   . cases h
 . split at h
   . rename_i x;exact ⟨x,h,rfl,ha.1⟩
   . cases h
 . split at h
   . rename_i s c;split at h
     . rename_i c;obtain ⟨h1,h2⟩:=zK h;have hc:=blt_iff.1 h1;have h3:=zIv hc h2;rw [zKa] at h3;refine ⟨_,h3,?_,trivial⟩;have e:=run_countString (P:=P) (bts s) (Int.ofNat c) w;have e1:(zGX .cntB (List.map (tr N) [.str s,.int .u8 (Int.ofNat c)]).toArray)=Extern.BytealgCount.count #[.string (bts s),.int .u8 (Int.ofNat c)]:=rfl;rw [e1,e];have e2:(bts s).data.toList=s.map UInt8.ofNat:=by simp [bts]
       have e3:((Int.ofNat c).toNat).toUInt8=UInt8.ofNat c:=rfl;rw [e2,e3];simp only [tr,Nat.zero_add];rfl
     . cases h
   . cases h
 . cases h
theorem zSl (hD:DOk P D) (hs:HSim B N S w) {k:EX} {args:List T} {K:T->XS->Bool} (h:zPO D S k args K=true) (ha:bds S.nl args):Fin P B N S w K (zGX k (args.map (tr N)).toArray):=by
 unfold zPO at h;split at h
 . rename_i t;split at h
   case h_2=>cases h
   rename_i n;split at h
   case h_2=>cases h
   rename_i n;split at h
   case h_2=>cases h
   rename_i d hd;split at h
   case h_2=>cases h
   rename_i e hu;obtain ⟨h1,h2⟩:=zK h;exact zUt (ps:=#[]) hs (by rw [(hD.tt _ _ hd).und,hu]) (Nat.le_of_ble_eq_true h1) h2
 . obtain ⟨x,h1,h2,h3⟩:=zTa (P:=P) (N:=N) (S:=S) (w:=w) h ha;exact qP hs h1 h2 h3
theorem zAv {n:FuncId} {d:FD} (h:FOk P n d) (args:Array Value):(callFunc n args).run P w = .ok (.enter n args) w:=by
 obtain ⟨fn,h1,h2,h3,h4,h5⟩:=h.fn;simp only [callFunc,program,Sem.run,Sem.run_bind];simp [h1,h2,h5]
theorem zK9 (hD:DOk P D) (hs:HSim B N S w) {f:T} {args:List T} {K:Out->XS->Bool} (h:zGM D S f args K=true) (hf:bd S.nl f) (ha:bds S.nl args):OFin P D B N S w K (do let d <- Deferred.ofValue (tr N f) (args.map (tr N)).toArray; invoke d.target d.args):=by
 unfold zGM at h;split at h
 . rename_i fn first caps;split at h
   . rename_i n;split at h
     . rename_i d hd;rw [qS,qS] at h;refine ⟨_,N,S,w,h,.refl hs,?_,yw (yw hf.1 ha) hf.2,d,hd⟩;simp only [tr,Deferred.ofValue,Sem.run_bind,Sem.run_pure,Result.andThen_ok,invoke];rw [zAv (hD.ft _ _ hd)];simp [yE]
     . split at h
       . rename_i k hk;rw [qS,qS] at h;have hek:∀ args w,(callFunc n args).run P w=((do pure (Next.value (<- zGX k args))):Sem Next).run P w:=by
          have:=hD.ex _ _ hk;cases k with
          | eqt fs=>cases h
          | _=>exact this
         obtain ⟨x,N',S',w',h1,h2,h3,h4⟩:=zSl (P:=P) (N:=N) (S:=S) (w:=w) (K:=fun x S=>K (.v x) S) hD hs h (yw (yw hf.1 ha) hf.2);refine ⟨.v x,N',S',w',h1,h3,?_,h4⟩;simp only [tr,Deferred.ofValue,Sem.run_bind,Sem.run_pure,Result.andThen_ok,invoke];rw [hek];have e1:((trs N first).toArray++(args.map (tr N)).toArray++(trs N caps).toArray)=((first++args++caps).map (tr N)).toArray:=by simp [yE]
         rw [e1,Sem.run_bind,h2];rfl
       . cases h
   . cases h
 . rename_i l;split at h
   . rename_i o ho;split at h
     . rename_i st pd nt e ps assign body dl;obtain ⟨h1,h2⟩:=zK h;have hl:=beq_iff.1 h1;obtain ⟨fn,tmps,k1,k2,k3⟩:=hs.ok l _ ho;refine ⟨_,N,S,w,h2,.refl hs,ha,e,nt,ps,assign,body,dl,st,pd,ho,hl,fn,tmps,k1,k2,?_⟩;simp only [tr,Deferred.ofValue,Sem.run_bind,Sem.run_pure,Result.andThen_ok,invoke];have e1:(#[]++(args.map (tr N)).toArray)=(args.map (tr N)).toArray:=by simp
       rw [e1];exact run_yield k1 (by simp [hl])
     . cases h
   . cases h
 . cases h
theorem zQI (hD:DOk P D) (hng:D.ng=B.ng) (hs:HSim B N S w) {nt:Nat} {e:Tr T} {a:Act} (he:ESim N S.nl nt e a.tmps) {o:Oper} {K:Out->XS->Bool} (h:xop D e S o K=true):OFin P D B N S w K (execOp a.eval o):=by
 unfold xop at h;rw [hng] at h;unfold execOp;have val:∀ {u:Value} {x:T},K (.v x) S=true->u=tr N x->bd S.nl x->OFin P D B N S w K (pure (.value u)):=fun {u x} h1 h2 h3=>⟨.v x,N,S,w,h1,.refl hs,by rw [h2]; rfl,h3⟩;split at h <;> (try (rename_i hop; rw [hop])) <;> (try simp only)
 . obtain ⟨x,h1,h2,h3⟩:=zU hs he h;exact val h1 h2 h3
 . obtain ⟨x,h1,h2,h3⟩:=zU hs he h;exact val h1 h2 h3
 . rename_i c x y;obtain ⟨c',h1,h2,h3⟩:=zU hs he h;split at h1
   . rename_i t;have ht:a.eval c = .bool t:=h2;have hrun:∀ u v:Value,((do pure (.value (if <- asBool (a.eval c) then u else v))):Sem Next).run P w = .ok (.value (if t then u else v)) w:=fun u v=>by
      rw [ht]; simp [asBool]
     cases t with
     | true=>
      obtain ⟨x',q1,q2,q3⟩:=zU hs he h1;exact ⟨.v x',N,S,w,q1,.refl hs,by rw [hrun]; simp [q2],q3⟩
     | false=>
      obtain ⟨x',q1,q2,q3⟩:=zU hs he h1;exact ⟨.v x',N,S,w,q1,.refl hs,by rw [hrun]; simp [q2],q3⟩
   . cases h1
 . exact (zRa (K:=fun x S=>K (.v x) S) hD hs h _).out
 . obtain ⟨x,h1,h2,h3⟩:=zU hs he h;rw [h2];exact (zTR (K:=fun x S=>K (.v x) S) hs h1 h3).out
 . split at h;rename_i l;obtain ⟨ps,h1,h2,h3⟩:=zDg hs he h;have e1:((l.toArray).map fun (i,x)=>(i,a.eval x))=(ps.map fun p=>(p.1,tr N p.2)).toArray:=by
    rw [<- h2]; simp
   rw [show (Array.map (fun x=>match x with | (i,x)=>(i,a.eval x)) (Array.mk l))=(ps.map fun p=>(p.1,tr N p.2)).toArray from e1];exact (zJs (K:=fun x=>K (.v x) S) hD hs h1 h3).out hs
 . split at h;rename_i l;obtain ⟨ps,h1,h2,h3⟩:=zDg hs he h;rw [zo] at h1;have e1:((l.toArray).map fun (i,x)=>(i,a.eval x))=(ps.map fun p=>(p.1,tr N p.2)).toArray:=by
    rw [<- h2]; simp
   rw [show (Array.map (fun x=>match x with | (i,x)=>(i,a.eval x)) (Array.mk l))=(ps.map fun p=>(p.1,tr N p.2)).toArray from e1];exact (zJD (K:=fun x S=>K (.v x) S) hD hs h1 h3).out
 . obtain ⟨x,h1,h2,h3⟩:=zU hs he h;rw [h2];exact (zS5 (K:=fun x S=>K (.v x) S) hD hs h1).out
 . obtain ⟨x,h1,h2,h3⟩:=zU hs he h;obtain ⟨y,h4,h5,h6⟩:=zU hs he h1;rw [h2,h5];exact (zPZ (K:=fun S=>K .sk S) hD hs h4 h6).out
 . obtain ⟨x,h1,h2,h3⟩:=zU hs he h;obtain ⟨h4,h5⟩:=zK h1;rw [h2];refine ⟨.v x,N,S,w,h5,.refl hs,?_,h3⟩;cases x <;> first | rfl | (simp [refB] at h4)
   rename_i f p q;cases f <;> first | rfl | (simp [refB] at h4)
 . obtain ⟨x,h1,h2,h3⟩:=zU hs he h;obtain ⟨y,h4,h5,h6⟩:=zU hs he h1;rw [h2,h5];exact (zMJ (K:=fun x=>K (.v x) S) hD hs h4).out hs
 . obtain ⟨x,h1,h2,h3⟩:=zU hs he h;rw [h2];exact (zPb (K:=fun x=>K (.v x) S) hs h1).out hs
 . obtain ⟨x,h1,h2,h3⟩:=zU hs he h;rw [h2];exact (zJk (K:=fun x=>K (.v x) S) hD hs h1 h3).out hs
 . obtain ⟨x,h1,h2,h3⟩:=zU hs he h;rw [h2];exact (zGp (K:=fun x=>K (.v x) S) hD hs h1 h3).out hs
 . split at h;rename_i la lb;obtain ⟨x,h1,h2,h3⟩:=zBV hs he h;obtain ⟨y,h4,h5,h6⟩:=zBV hs he h1;refine ⟨_,N,S,w,h4,.refl hs,?_,h3,h6⟩;have e1:Array.map a.eval (Array.mk la)=(x.map (tr N)).toArray:=by rw [<- h2]; simp
   have e2:Array.map a.eval (Array.mk lb)=(y.map (tr N)).toArray:=by rw [<- h5]; simp
   rw [e1,e2];simp [Instr.makeFunc,tr,yE]
 . split at h
   . exact (zNC (K:=fun x S=>K (.v x) S) hs h _).out
   . cases h
 . obtain ⟨x,h1,h2,h3⟩:=zU hs he h;obtain ⟨y,h4,h5,h6⟩:=zU hs he h1;rw [h2,h5];exact (zKA (K:=fun x S=>K (.v x) S) hD hs h4).out
 . obtain ⟨x,h1,h2,h3⟩:=zU hs he h;obtain ⟨lo,h4,h5,h6⟩:=zCX hs he h1;obtain ⟨hi,h7,h8,h9⟩:=zCX hs he h4;obtain ⟨mx,h10,h11,h12⟩:=zCX hs he h7;rw [h2,h5,h8,h11];exact (zJa (K:=fun x=>K (.v x) S) hD hs h10 h3).out hs
 . obtain ⟨x,h1,h2,h3⟩:=zU hs he h;rw [h2];exact (zE3 (K:=fun x=>K (.v x) S) hD hs h1 h3).out hs
 . obtain ⟨x,h1,h2,h3⟩:=zU hs he h;rw [h2];exact (zJZ (K:=fun x=>K (.v x) S) hD hs h1 h3).out hs
 . obtain ⟨x,h1,h2,h3⟩:=zU hs he h;obtain ⟨y,h4,h5,h6⟩:=zU hs he h1;rw [h2,h5];exact (zE0 (K:=fun x=>K (.v x) S) hD hs h4 h3).out hs
 . obtain ⟨x,h1,h2,h3⟩:=zU hs he h;obtain ⟨y,h4,h5,h6⟩:=zU hs he h1;rw [h2,h5];exact (zJm (K:=fun x=>K (.v x) S) hD hs h4 h3).out hs
 . obtain ⟨x,h1,h2,h3⟩:=zU hs he h;obtain ⟨y,h4,h5,h6⟩:=zU hs he h1;rw [h2,h5];exact (zJ3 (K:=fun x=>K (.v x) S) hD hs h4).out hs
 . obtain ⟨x,h1,h2,h3⟩:=zU hs he h;obtain ⟨y,h4,h5,h6⟩:=zU hs he h1;obtain ⟨z,h7,h8,h9⟩:=zU hs he h4;rw [h2,h5,h8];exact (zIQ (K:=fun S=>K .sk S) hD hs h7 h6 h9).out
 . obtain ⟨x,h1,h2,h3⟩:=zU hs he h;obtain ⟨y,h4,h5,h6⟩:=zU hs he h1;obtain ⟨z,h7,h8,h9⟩:=zU hs he h4;rw [h2,h5,h8];exact (zIQ (K:=fun S=>K .sk S) hD hs h7 h6 h9).out
 . obtain ⟨x,h1,h2,h3⟩:=zU hs he h;rw [h2];exact (zQC (K:=fun x S=>K (.v x) S) hD hs h1).out
 . obtain ⟨x,h1,h2,h3⟩:=zU hs he h;rw [h2];exact (zSg (K:=fun x S=>K (.v x) S) hs h1 _).out
 . obtain ⟨x,h1,h2,h3⟩:=zU hs he h;rw [h2];exact (zGh (K:=fun x=>K (.v x) S) hs h1 h3).out hs
 . obtain ⟨x,h1,h2,h3⟩:=zU hs he h;split at h1
   . rename_i t y;rw [h2];refine ⟨_,N,S,w,h1,.refl hs,?_,h3⟩;simp only [tr,Instr.panic,Sem.run_bind];rfl
   . cases h1
 . rename_i c;split at h;rename_i l hl;have e1:∀ ys:List T,l.map a.eval=ys.map (tr N)->Array.map a.eval c.args=(ys.map (tr N)).toArray:=fun ys h=>by rw [hl,<- h]; simp
   split at h
   . rename_i b hc;obtain ⟨ys,h1,h2,h3⟩:=zBV hs he h;split at h1;rename_i ts hts;unfold resolve;simp only [hc,e1 ys h2,hts,pure_bind];exact xBi_ok hD hs h1 h3 _ _
   . rename_i f hc;obtain ⟨f',h1,h2,h3⟩:=zU hs he h;obtain ⟨ys,h4,h5,h6⟩:=zBV hs he h1;unfold resolve;simp only [hc,e1 ys h5,h2];exact zK9 hD hs h4 h3 h6
   . cases h
 . rename_i c;split at h;rename_i l hl;split at h
   . rename_i f hc;obtain ⟨f',h1,h2,h3⟩:=zU hs he h;obtain ⟨ys,h4,h5,h6⟩:=zBV hs he h1;have e1:Array.map a.eval c.args=(ys.map (tr N)).toArray:=by rw [hl,<- h5]; simp
     split at h4
     . rename_i fn first caps;split at h4
       . rename_i n;rw [qS] at h4;refine ⟨_,N,S,w,h4,.refl hs,?_,yw h3.1 h6,h3.2⟩;unfold resolve;simp only [hc,e1,h2,tr,Deferred.ofValue,Sem.run_bind,Sem.run_pure,Result.andThen_ok];simp [yE]
       . cases h4
     . cases h4
   . cases h
 . cases h
end
end
section
open Go.RowKit
inductive XE where
 | n
 | e (id:Nat)
 | g (l:Nat)
 | r
 | p (x:T)
inductive Res where
 | ret (x:T)
 | pan (x:T)
inductive DE where
 | mk (l:Nat)
 | fn (f:FuncId) (args caps:List T)
abbrev XK:=XE->Tr T->XS->List DE->Bool
abbrev XC:=Option Nat->Nat->Code->Tr T->XS->List DE->XK->Bool
noncomputable def putE (nt:Nat) (d:Option Nat) (x:T) (e:Tr T) (κ:Tr T->Bool):Bool:=
 match d with
 | none=>κ e
 | some t=>bif Nat.blt t nt then Tr.setK x 40 e t κ else false
noncomputable def j8 (nt:Nat) (dsts:List (Option Nat)) (e:Tr T) (g:Option (Nat×Bool)) (κ:Bool->Bool):Bool:=
 match g with
 | none=>κ true
 | some p=>nthK p.1 dsts fun d=>(match d with
  | some t=>bif Nat.blt t nt then (match e.get t with
   | some x=>(match x with
    | .bool c=>fB (c == p.2) κ
    | .tup _=>κ false
    | _=>false)
   | none=>false) else false
  | none=>false)
noncomputable def argK (args:List T):Nat->Tr T->(Tr T->Bool)->Bool:=
 List.rec (motive:=fun _=>Nat->Tr T->(Tr T->Bool)->Bool) (fun _ e κ=>κ e) (fun x _ ih i e κ=>Tr.setK x 40 e i fun e=>fN (i+1) fun j=>ih j e κ) args
noncomputable def resK (D:Dat) (S:XS) (e:Tr T) (rs:List ResultVar):(List T->Bool)->Bool:=
 List.rec (motive:=fun _=>(List T->Bool)->Bool) (fun κ=>κ []) (fun r _ ih κ=>(match r with
  | .tmp t=>(match e.get t with
   | some x=>ih fun xs=>κ (x::xs)
   | none=>ih fun xs=>κ (.tup []::xs))
  | .cell p t=>(match e.get p with
   | some x=>zCJ D S t x fun y _=>ih fun xs=>κ (y::xs)
   | none=>false))) rs
def oneK (xs:List T) (κ:T->Bool):Bool:=
 match xs with
 | [x]=>κ x
 | xs=>κ (.tup xs)
def recB (o:Oper):Bool:=
 match o.op with
 | .call c=>(match c.callee with
  | .builtin .recover=>(match o.guard with
   | none=>(match c.args with
    | ⟨[]⟩=>true
    | _=>false)
   | _=>false)
  | _=>false)
 | _=>false
def rcV (u:Option T):T:=
 match u with
 | none=>.atm .nilIface
 | some x=>x
noncomputable def xdf (rc:XC) (D:Dat) (f:FuncId) (args:List T) (u:Option T) (S:XS) (K:XS->Bool):Bool:=
 match D.ft.get f with
 | some d=>(match d.body with
  | .seq c rest=>(match c with
   | .region _ ops dr=>(match dr with
    | false=>(match ops with
     | ⟨l⟩=>(match l with
      | o::l=>(match l with
       | []=>bif recB o && Nat.ble args.length d.nt then argK args 0 .lf fun e=>putE d.nt o.dst (rcV u) e fun e=>rc none d.nt rest e S [] fun ex e S ds=>(match ds with
        | []=>(match ex with
         | .n=>resK D S e d.rs fun _=>K S
         | .r=>resK D S e d.rs fun _=>K S
         | _=>false)
        | _=>false) else false
       | _=>false)
      | _=>false))
    | _=>false)
   | _=>false)
  | _=>false)
 | none=>false
noncomputable def leaK (rc:XC) (D:Dat) (ds:List DE):Option T->XS->(Option T->XS->Bool)->Bool:=
 List.rec (motive:=fun _=>Option T->XS->(Option T->XS->Bool)->Bool) (fun u S κ=>κ u S) (fun d _ ih u S κ=>(match d with
  | .mk l=>(match S.h.get l with
   | some o=>(match o with
    | .dfr=>Tr.setK .dead 40 S.h l fun h=>ih u ⟨h,S.nl⟩ κ
    | _=>false)
   | none=>false)
  | .fn f args caps=>appK args caps fun q=>xdf rc D f q u S fun S=>ih none S κ)) ds
noncomputable def xfn0 (rc:XC) (D:Dat) (f:FuncId) (args:List T) (S:XS) (K:Res->XS->Bool):Bool:=
 match D.ft.get f with
 | some d=>bif Nat.ble args.length d.nt then argK args 0 .lf fun e=>rc none d.nt d.body e S [] fun ex e S ds=>(match ex with
  | .n=>leaK rc D ds none S fun u S=>(match u with
   | none=>resK D S e d.rs fun xs=>oneK xs fun x=>K (.ret x) S
   | some x=>K (.pan x) S)
  | .r=>leaK rc D ds none S fun u S=>(match u with
   | none=>resK D S e d.rs fun xs=>oneK xs fun x=>K (.ret x) S
   | some x=>K (.pan x) S)
  | .p x=>leaK rc D ds (some x) S fun u S=>(match u with
   | none=>resK D S e d.rs fun xs=>oneK xs fun x=>K (.ret x) S
   | some x=>K (.pan x) S)
  | _=>false) else false
 | none=>false
noncomputable def xfn (rc:XC) (D:Dat) (f:FuncId) (args:List T) (S:XS) (K:Res->XS->Bool):Bool:=
 match D.sm.get f with
 | some g=>g args S fun x S=>K (.ret x) S
 | none=>xfn0 rc D f args S K
noncomputable def psK (nt:Nat) (args:List T):List Nat->Tr T->(Tr T->Bool)->Bool:=
 List.rec (motive:=fun _=>List Nat->Tr T->(Tr T->Bool)->Bool) (fun ps e κ=>List.casesOn (motive:=fun _=>Bool) ps (κ e) (fun _ _=>false))
  (fun x _ ih ps e κ=>List.casesOn (motive:=fun _=>Bool) ps false (fun p q=>bif Nat.blt p nt then Tr.setK x 40 e p fun e=>ih q e κ else false)) args
noncomputable def lpK (S:XS) (l:Nat) (st:LoopState) (pd:Option Code) (κ:XS->Bool):Bool:=
 match S.h.get l with
 | some o=>(match o with
  | .loop _ _ nt e ps a b dl=>Tr.setK (.loop st pd nt e ps a b dl) 40 S.h l fun h=>κ ⟨h,S.nl⟩
  | _=>false)
 | none=>false
def zL8:LoopState->Bool
 | .ready=>true
 | _=>false
def zOX:LoopState->Bool
 | .busy=>true
 | _=>false
noncomputable def endK (S:XS) (l:Nat) (ds:List DE) (jump:Option Code) (K:Res->XS->Bool):Bool:=
 match ds with
 | []=>lpK S l (match jump with | none=>.ready | some _=>.done) jump fun S=>K (.ret (.bool (match jump with | none=>true | some _=>false))) S
 | _::_=>false
noncomputable def xrnd (rc:XC) (l:Nat) (args:List T) (S:XS) (K:Res->XS->Bool):Bool:=
 match S.h.get l with
 | some o=>(match o with
  | .loop st _ nt e ps assign body _=>bif zL8 st then psK nt args ps e fun e=>rc (some l) nt assign e S [] fun ex e S ds=>(match ex with
   | .n=>(match S.h.get l with
    | some o=>(match o with
     | .loop st pd _ _ _ _ _ _=>bif zL8 st then lpK S l .busy pd fun S=>rc (some l) nt body e S ds fun ex _ S ds=>(match ex with
      | .n=>endK S l ds none K
      | .r=>endK S l ds (some .ret) K
      | .e id=>endK S l ds (some (.exit id)) K
      | .g t=>endK S l ds (some (.goto t)) K
      | .p _=>false) else false
     | _=>false)
    | none=>false)
   | _=>false) else false
  | _=>false)
 | none=>false
def noRo (ro:Option Nat):Bool:=
 match ro with
 | none=>true
 | some _=>false
noncomputable def zIZ (nt:Nat) (dst:Option Nat) (e:Tr T) (ih:Tr T->XS->List DE->XK->Bool) (ds:List DE) (K:XK) (x:T) (S:XS):Bool:=putE nt dst x e fun e=>ih e S ds K
noncomputable def xret (nt:Nat) (dst:Option Nat) (e:Tr T) (ih:Tr T->XS->List DE->XK->Bool) (ds:List DE) (K:XK) (r:Res) (S:XS):Bool:=
 match r with
 | .ret x=>zIZ nt dst e ih ds K x S
 | .pan x=>K (.p x) e S ds
noncomputable def xcont (rc:XC) (D:Dat) (ro:Option Nat) (nt:Nat) (dst:Option Nat) (e:Tr T) (ih:Tr T->XS->List DE->XK->Bool) (ds:List DE) (K:XK) (out:Out) (S:XS):Bool:=
 match out with
 | .v x=>zIZ nt dst e ih ds K x S
 | .sk=>zIZ nt dst e ih ds K (.tup []) S
 | .ent f args=>xfn rc D f args S (xret nt dst e ih ds K)
 | .rnd l args=>xrnd rc l args S (xret nt dst e ih ds K)
 | .dfr f args caps=>bif noRo ro then zIZ nt dst e ih (.fn f args caps::ds) K (.tup []) S else false
 | .rcv=>false
 | .pan x=>K (.p x) e S ds
noncomputable def xops (rc:XC) (D:Dat) (ro:Option Nat) (nt:Nat) (dsts:List (Option Nat)) (l:List Oper):Tr T->XS->List DE->XK->Bool:=
 List.rec (motive:=fun _=>Tr T->XS->List DE->XK->Bool) (fun e S ds K=>K .n e S ds)
  (fun o _ ih e S ds K=>j8 nt dsts e o.guard fun wn=>bif wn then xopF D e S o (xcont rc D ro nt o.dst e ih ds K) else zIZ nt o.dst e ih ds K (.tup []) S) l
noncomputable def dlOf (S:XS) (ro:Option Nat) (κ:Nat->XS->List DE->Bool):Bool:=
 match ro with
 | none=>newK S .dfr fun l S=>κ l S [.mk l]
 | some l=>(match S.h.get l with
  | some o=>(match o with
   | .loop _ _ _ _ _ _ _ dl=>κ dl S []
   | _=>false)
  | none=>false)
noncomputable def zLs (rc:XC) (D:Dat) (ro:Option Nat) (nt:Nat) (g:Operand) (ps:List Nat) (assign body:Code) (e:Tr T) (S:XS) (ds:List DE) (K:XK):Bool:=
 dlOf S ro fun dl S mk=>newK S (.loop .ready none nt e ps assign body dl) fun l S=>evK D.ng e g fun g=>zGM D S g [.yl l] fun out S=>(match out with
  | .ent f args=>xfn rc D f args S fun r S=>appK mk ds fun ds=>(match r with
   | .ret _=>(match S.h.get l with
    | some o=>(match o with
     | .loop st pd _ _ _ _ _ _=>bif zOX st then false else Tr.setK .dead 40 S.h l fun h=>(match pd with
      | none=>K .n e ⟨h,S.nl⟩ ds
      | some c=>rc ro nt c e ⟨h,S.nl⟩ ds K)
     | _=>false)
    | none=>false)
   | .pan x=>K (.p x) e S ds)
  | _=>false)
noncomputable def zKb (D:Dat) (xd:XC->Option Nat->Nat->List Oper->Tr T->XS->List DE->XK->Bool) (rc:XC):XC:=fun ro nt c e S ds K=>
 match c with
 | .skip=>K .n e S ds
 | .region _ ops d=>(match ops with
  | ⟨l⟩=>(match d with
   | false=>xops rc D ro nt (l.map (·.dst)) l e S ds K
   | true=>xd rc ro nt l e S ds K))
 | .seq a b=>rc ro nt a e S ds fun ex e S ds=>(match ex with
  | .n=>rc ro nt b e S ds K
  | ex=>K ex e S ds)
 | .cond c a b=>evK D.ng e c fun c=>(match c with
  | .bool t=>(match t with
   | true=>rc ro nt a e S ds K
   | false=>rc ro nt b e S ds K)
  | _=>false)
 | .block id b=>rc ro nt b e S ds fun ex e S ds=>(match ex with
  | .e i=>bif Nat.beq i id then K .n e S ds else K (.e i) e S ds
  | ex=>K ex e S ds)
 | .loop b=>rc ro nt b e S ds fun ex e S ds=>(match ex with
  | .n=>rc ro nt (.loop b) e S ds K
  | ex=>K ex e S ds)
 | .rangeFunc g ps a b=>(match ps with | ⟨ps⟩=>zLs rc D ro nt g ps a b e S ds K)
 | .scope b=>rc ro nt b e S ds fun ex e S ds=>(match ex with
  | .g _=>false
  | ex=>K ex e S ds)
 | .exit id=>K (.e id) e S ds
 | .label _=>K .n e S ds
 | .goto l=>K (.g l) e S ds
 | .ret=>K .r e S ds
 | _=>false
noncomputable def xc (D:Dat) (xd:XC->Option Nat->Nat->List Oper->Tr T->XS->List DE->XK->Bool) (fu:Nat):XC:=
 Nat.rec (motive:=fun _=>XC) (fun _ _ _ _ _ _ _=>false) (fun _ ih=>zKb D xd ih) fu
def mkD (N:NM):DE->Deferred
 | .mk l=>{ target:=.collected (N.bl l),args:=#[] }
 | .fn f args caps=>{ target:=.fn (.func f) (trs N caps).toArray,args:=(trs N args).toArray }
def bdE (nl:Nat):DE->Prop
 | .mk l=>l < nl
 | .fn _ args caps=>bds nl args/\bds nl caps
structure Sm (B:Bs) (nt:Nat) (N:NM) (e:Tr T) (S:XS) (ds:List DE) (a:Act) (w:World):Prop where
 env:ESim N S.nl nt e a.tmps
 sim:HSim B N S w
 df:a.defers=ds.map (mkD N)
 lt:∀ d ∈ ds,bdE S.nl d
def XR (N:NM) (nl:Nat):XE->Exit->Prop
 | .n,ex=>ex = .normal
 | .e id,ex=>ex = .exit id
 | .g l,ex=>ex = .goto l
 | .r,ex=>ex = .ret
 | .p x,ex=>ex = .panic [{ v:=tr N x,recovered:=false }]/\bd nl x
def Post (B:Bs) (nt:Nat) (N:NM) (S:XS) (w:World) (K:XK):Exit->Act->World->Prop:=fun ex a' w'=>
 ∃ x N' e' S' ds',K x e' S' ds' = true/\XR N' S'.nl x ex/\Sm B nt N' e' S' ds' a' w'/\Stp B N S w N' S' w'
def CodeOk (P:Program) (B:Bs) (rc:XC):Prop:=∀ (ro:Option Nat) (nt:Nat) (c:Code) (e:Tr T) (S:XS) (ds:List DE) (K:XK) (N:NM) (a:Act) (w:World),
 rc ro nt c e S ds K=true->Sm B nt N e S ds a w->(∀ l,ro=some l->l < S.nl)->c.wpIn (fen (ro.map N.bl)) 0 P (Post B nt N S w K) a w
section
variable {P:Program} {B:Bs} {N:NM} {S:XS} {w:World} {D:Dat}
theorem Post.trans {nt:Nat} {K:XK} {N1:NM} {S1:XS} {w1:World} (h:Stp B N S w N1 S1 w1) {ex:Exit} {a':Act} {w':World} (hp:Post B nt N1 S1 w1 K ex a' w'):Post B nt N S w K ex a' w':=by
 obtain ⟨x,N',e',S',ds',h1,h2,h3,h4⟩:=hp;exact ⟨x,N',e',S',ds',h1,h2,h3,h.trans h4⟩
theorem zF5 {N1:NM} {nl:Nat} (h:Ext nl N N1) {ds:List DE} (hl:∀ d ∈ ds,bdE nl d):ds.map (mkD N1)=ds.map (mkD N):=List.map_congr_left fun d hd=>by
 have:=hl d hd;cases d with
 | mk l=>simp only [mkD]; rw [h.bl l this]
 | fn f args caps=>simp only [mkD]; rw [zAf h _ this.1,zAf h _ this.2]
theorem zEr {nl nl':Nat} (h:nl<=nl') {d:DE} (hd:bdE nl d):bdE nl' d:=by
 cases d with
 | mk l=>exact Nat.lt_of_lt_of_le hd h
 | fn f args caps=>exact ⟨yI h _ hd.1,yI h _ hd.2⟩
theorem Sm.later {nt:Nat} {e:Tr T} {ds:List DE} {a:Act} (h:Sm B nt N e S ds a w) {N1:NM} {S1:XS} {w1:World} (hs:Stp B N S w N1 S1 w1):Sm B nt N1 e S1 ds a w1:=
 ⟨h.env.ext hs.ext hs.nl,hs.sim,by rw [zF5 hs.ext h.lt]; exact h.df,fun d hd=>zEr hs.nl (h.lt d hd)⟩
theorem zBR {e e':Tr T} {t:Nat} {x:T} (h:∀ j,e'.get j=if j=t then some x else e.get j) (j:Nat):eget e' j=if j=t then x else eget e j:=by
 unfold eget;rw [h j];split <;> rfl
theorem zJE {nt:Nat} {e:Tr T} {ds:List DE} {a:Act} (h:Sm B nt N e S ds a w) {d:Option Nat} {x:T} {κ:Tr T->Bool} (hk:putE nt d x e κ=true) (hb:bd S.nl x):∃ e',κ e' = true/\Sm B nt N e' S ds (a.put d (tr N x)) w:=by
 unfold putE at hk;cases d with
 | none=>exact ⟨e,hk,h⟩
 | some t=>
  obtain ⟨h1,h2⟩:=zK hk;have ht:=blt_iff.1 h1;obtain ⟨e',h3,h4⟩:=Tr.setK_ok _ _ _ _ _ h2;refine ⟨e',h3,⟨⟨by simp [Act.put,h.env.size],fun k=>?_,fun k=>?_⟩,h.sim,h.df,h.lt⟩⟩
  . rw [zBR h4];simp only [Act.put];have hs:t < a.tmps.size:=by rw [h.env.size]; exact ht
    split
    . rename_i e1; subst e1;simp [Array.getD_eq_getD_getElem?,hs]
    . rename_i e1;have:=h.env.val k;rw [<- this];simp [Array.getD_eq_getD_getElem?,Array.getElem?_setIfInBounds_ne (Ne.symm e1)]
  . rw [zBR h4];split
    . exact hb
    . exact h.env.bd k
theorem zAd {nt:Nat} {e:Tr T} {tmps:Array Value} (he:ESim N S.nl nt e tmps) {ops:Array Oper} {o:Oper} {κ:Bool->Bool} (h:j8 nt (ops.toList.map (·.dst)) e o.guard κ=true):κ (Region.wanted o (yielded ops tmps))=true:=by
 unfold j8 at h;unfold Region.wanted;split at h
 . rename_i hg; rw [hg]; exact h
 . rename_i p hg;rw [hg];obtain ⟨d,h1,h2⟩:=zBX h;split at h2
   . rename_i t;obtain ⟨h3,h4⟩:=zK h2;have ht:=blt_iff.1 h3;split at h4
     . rename_i x hx;have hv:=he.val t;have hs:t < tmps.size:=by rw [he.size]; exact ht
       unfold eget at hv;rw [hx] at hv;have hv':tmps[t]? = some (tr N x):=by
        rw [Array.getElem?_eq_getElem hs];simp only [Array.getD_eq_getD_getElem?,Array.getElem?_eq_getElem hs,Option.getD_some,Option.elim] at hv;rw [hv]
       have hy:∀ z,(match tr N x with | .bool c=>some c | _=>none)=z->yielded ops tmps p.1=z:=by
        intro z hz;unfold yielded;rw [List.getElem?_map] at h1;cases ho:ops.toList[p.1]? with
        | none=>rw [ho] at h1; cases h1
        | some o'=>
         rw [ho] at h1;injection h1 with h1
         rw [Array.getElem?_toList] at ho;rw [<- hz];simp [ho,h1,hv']
         try (split <;> simp_all)
       split at h4
       . rename_i c;rw [zBH] at h4;simp only [hy (some c) rfl];have:(some c == some p.2)=(c == p.2):=rfl;rw [this];exact h4
       . simp only [hy none rfl];exact h4
       . cases h4
     . cases h4
   . cases h2
def ResR (N:NM) (nl:Nat):Res->Ending->Prop
 | .ret x,en=>en = .returned (tr N x)/\bd nl x
 | .pan x,en=>en = .panicked [{ v:=tr N x,recovered:=false }]/\bd nl x
def qo (B:Bs) (N:NM) (S:XS) (w:World) (K:Res->XS->Bool):Ending->World->Prop:=fun en w'=>∃ r N' S',K r S' = true/\ResR N' S'.nl r en/\Stp B N S w N' S' w'
theorem zIw:∀ {args:List T} {i:Nat} {e:Tr T} {κ:Tr T->Bool},argK args i e κ=true->∃ e',κ e' = true/\∀ j,e'.get j=if i<=j/\j < i+args.length then args[j - i]? else e.get j
 | [],i,e,κ,h=>⟨e,h,fun j=>by rw [if_neg]; simp⟩
 | x::r,i,e,κ,h=>by
  obtain ⟨e1,h1,h2⟩:=Tr.setK_ok _ _ _ _ _ (show Tr.setK x 40 e i (fun e=>fN (i+1) fun j=>argK r j e κ)=true from h);rw [zo] at h1;obtain ⟨e2,h3,h4⟩:=zIw h1;refine ⟨e2,h3,fun j=>?_⟩;rw [h4,h2];by_cases hj:j=i
  . subst hj;rw [if_neg (by omega),if_pos rfl,if_pos (by simp)];simp
  . by_cases h5:i+1<=j/\j < i+1+r.length
    . rw [if_pos h5,if_pos (by simp; omega)];have:j - i=(j - (i+1))+1:=by omega
      rw [this]; rfl
    . rw [if_neg h5,if_neg hj,if_neg (by simp; omega)]
def qH (tmps:Array Value):ResultVar->Sem Value
 | .tmp t=>pure (tmps.getD t undef)
 | .cell p t=>do loadVar t (<- asAddr (tmps.getD p undef))
theorem zF7 (hD:DOk P D) {nt:Nat} {e:Tr T} {tmps:Array Value} (hs:HSim B N S w) (he:ESim N S.nl nt e tmps):∀ {rs:List ResultVar} {κ:List T->Bool},resK D S e rs κ=true->∃ xs,κ xs=true/\bds S.nl xs/\(rs.mapM (qH tmps)).run P w = .ok (xs.map (tr N)) w
 | [],κ,h=>⟨[],h,trivial,by simp⟩
 | .tmp t::rs,κ,h=>by
  have h:(match e.get t with
   | some x=>resK D S e rs fun xs=>κ (x::xs)
   | none=>resK D S e rs fun xs=>κ (.tup []::xs))=true:=h
  have hv:=he.val t;have hb:=he.bd t;unfold eget at hv hb;split at h
  . rename_i x hx;rw [hx] at hv hb;obtain ⟨xs,h1,h2,h3⟩:=zF7 hD hs he h;refine ⟨x::xs,h1,⟨hb,h2⟩,?_⟩;simp only [List.mapM_cons,Sem.run_bind,qH,Sem.run_pure,Result.andThen_ok,h3];rw [hv]; rfl
  . rename_i hx;rw [hx] at hv hb;obtain ⟨xs,h1,h2,h3⟩:=zF7 hD hs he h;refine ⟨_,h1,⟨hb,h2⟩,?_⟩;simp only [List.mapM_cons,Sem.run_bind,qH,Sem.run_pure,Result.andThen_ok,h3];rw [hv]; rfl
 | .cell p t::rs,κ,h=>by
  have h:(match e.get p with
   | some x=>zCJ D S t x fun y _=>resK D S e rs fun xs=>κ (y::xs)
   | none=>false)=true:=h
  have hv:=he.val p;unfold eget at hv;split at h
  . rename_i x hx;rw [hx] at hv;have hp:∃ l o,x = .ptr l o:=by
     unfold zCJ at h;split at h
     . exact ⟨_,_,rfl⟩
     . cases h
    obtain ⟨l,o,rfl⟩:=hp;obtain ⟨y,h1,h3',h2⟩:=zDQ hD hs h;have h3:(loadVar t ⟨N.bl l,o,none⟩).run P w = .ok (tr N y) w:=by
     simpa only [tr,Instr.loadAt,Instr.sureAddr,Sem.run_bind,Sem.run_pure,Result.andThen_ok] using h3'
    obtain ⟨xs,h4,h5,h6⟩:=zF7 hD hs he h1;refine ⟨y::xs,h4,⟨h2,h5⟩,?_⟩;have hv2:tmps.getD p undef = .pointer (some ⟨N.bl l,o,none⟩):=hv;simp only [List.mapM_cons,Sem.run_bind,qH,hv2,asAddr,Sem.run_pure,Result.andThen_ok,h3,h6];rfl
  . cases h
end
end
section
open Go.RowKit
section
variable {P:Program} {B:Bs} {N:NM} {S:XS} {w:World} {D:Dat} {rc:XC}
def oneT:List T->T
 | [x]=>x
 | xs=>.tup xs
theorem zU0 (xs:List T) (κ:T->Bool):oneK xs κ=κ (oneT xs):=by
 cases xs with
 | nil=>rfl
 | cons x r=>cases r <;> rfl
theorem zT8 {nl:Nat} {xs:List T} (h:bds nl xs):bd nl (oneT xs):=by
 unfold oneT;split
 . exact h.1
 . exact h
theorem zTm (N:NM) (xs:List T):tr N (oneT xs)=if h:(xs.map (tr N)).toArray.size=1 then (xs.map (tr N)).toArray[0] else .tuple (xs.map (tr N)).toArray:=by
 cases xs with
 | nil=>simp [oneT,tr,trs]
 | cons x r=>
  cases r with
  | nil=>simp [oneT]
  | cons y r=>simp [oneT,tr,trs,yE]
theorem jK {fn:Func} {tmps:Array Value} {us:List Value} (h:(fn.results.toList.mapM (qH tmps)).run P w = .ok us w) :
 (results fn tmps).run P w = .ok (if h:us.toArray.size=1 then us.toArray[0] else .tuple us.toArray) w:=by
 have e:results fn tmps=(do let vs <- fn.results.mapM (qH tmps); pure (if h:vs.size=1 then vs[0] else .tuple vs)):=by
  unfold results;congr 1
 rw [e,Array.mapM_eq_mapM_toList];have:(Functor.map List.toArray (fn.results.toList.mapM (qH tmps))).run P w = .ok us.toArray w:=by
  rw [<- bind_pure_comp,Sem.run_bind,h]; rfl
 rw [Sem.run_bind,this];rfl
theorem zQu (hD:DOk P D) (hs:HSim B N S w) {nt:Nat} {e:Tr T} {tmps:Array Value} (he:ESim N S.nl nt e tmps) {fn:Func} {rs:List ResultVar} (hrs:fn.results=rs.toArray) {κ:List T->Bool} (h:resK D S e rs κ=true) :
 ∃ xs,κ xs=true/\bd S.nl (oneT xs)/\(results fn tmps).run P w = .ok (tr N (oneT xs)) w:=by
 obtain ⟨xs,h1,h2,h3⟩:=zF7 hD hs he h;refine ⟨xs,h1,zT8 h2,?_⟩;have h4:(fn.results.toList.mapM (qH tmps)).run P w = .ok (xs.map (tr N)) w:=by rw [hrs]; exact h3
 rw [jK h4,zTm]
theorem zJ9 {args:List T} {nt:Nat} {e:Tr T} (hl:args.length<=nt) (ha:bds S.nl args) (he:∀ j,e.get j=if 0<=j/\j < 0+args.length then args[j - 0]? else (Tr.lf:Tr T).get j) :
 ESim N S.nl nt e ((args.map (tr N)).toArray++Array.replicate (nt - (args.map (tr N)).toArray.size) undef):=by
 have hg:∀ k,eget e k=if k < args.length then args.getD k (.tup []) else .tup []:=fun k=>by
  unfold eget;rw [he k];by_cases hk:k < args.length
  . rw [if_pos (by omega),if_pos hk];simp [List.getD,hk]
  . rw [if_neg (by omega),if_neg hk,Tr.get_lf];rfl
 refine ⟨by simp; omega,fun k=>?_,fun k=>?_⟩
 . rw [hg,Array.getD_eq_getD_getElem?];split
   . rename_i hk;rw [Array.getElem?_append_left (by simpa using hk)];simp [List.getD,hk]
   . rename_i hk;rw [Array.getElem?_append_right (by simp; omega)];rw [Array.getElem?_replicate];split <;> rfl
 . rw [hg];split
   . rename_i hk;have:=zLk ha (List.getElem?_eq_getElem hk);simpa [List.getD,hk] using this
   . trivial
def zGA (N:NM):Option T->FrameMode
 | none=>.returning
 | some x=>.panicking [{ v:=tr N x,recovered:=false }]
def bdO (nl:Nat) (u:Option T):Prop:=∀ x,u=some x->bd nl x
theorem zSd {o:Oper} (h:recB o=true) (ρ:Operand->Value) (w:World):o.guard=none/\(execOp ρ o).run P w = .ok .recover w:=by
 unfold recB at h;split at h
 . rename_i c hc;split at h
   . rename_i hb;split at h
     . rename_i hg;split at h
       . rename_i ha;refine ⟨hg,?_⟩;unfold execOp;rw [hc];simp only [resolve,hb,ha];rfl
       . cases h
     . cases h
   . cases h
 . cases h
theorem xdf_ok (hrc:CodeOk P B rc) (hD:DOk P D) {f:FuncId} {args:List T} {u:Option T} {K:XS->Bool} (h:xdf rc D f args u S K=true) (hs:HSim B N S w) (ha:bds S.nl args) (hu:bdO S.nl u) :
 (∃ d,D.ft.get f=some d)/\CallsDIn (fen none) 0 P f (args.map (tr N)).toArray (zGA N u) w fun en u' w'=>(∃ v,en = .returned v)/\settle u' = .returning/\∃ N' S',K S' = true/\Stp B N S w N' S' w':=by
 unfold xdf at h;split at h
 case h_2=>cases h
 rename_i d hd;refine ⟨⟨d,hd⟩,?_⟩;obtain ⟨fn,hf,hb,hn,hr,_⟩:=hD.ft f d hd;split at h
 case h_2=>cases h
 rename_i c rest hbody;split at h
 case h_2=>cases h
 rename_i id ops dr;split at h
 case h_2=>cases h
 split at h;rename_i l;split at h
 case h_2=>cases h
 rename_i o l';split at h
 case h_2=>cases h
 obtain ⟨h1,h2⟩:=zK h;rw [Bool.and_eq_true] at h1;obtain ⟨e0,h3,h4⟩:=zIw h2;have hlen:=Nat.le_of_ble_eq_true h1.2;have henv:=zJ9 (N:=N) hlen ha h4;refine callsDIn_of_wpSIn hf hb trivial fun c₀ cs hc=>?_;rw [hbody,hn];obtain ⟨hg,hrun⟩:=zSd (P:=P) h1.1 (Act.eval { tmps:=(args.map (tr N)).toArray++Array.replicate (d.nt - (args.map (tr N)).toArray.size) undef,defers:=[] }) w;have hsm:Sm B d.nt N e0 S [] { tmps:=(args.map (tr N)).toArray++Array.replicate (d.nt - (args.map (tr N)).toArray.size) undef,defers:=[] } w:=⟨henv,hs,rfl,fun _ hd=>by cases hd⟩;obtain ⟨z,u1,hz,hrec,hset,hzb⟩:∃ z u1,z=rcV u/\(match recoverD (c₀::cs) with | some (v,cs')=>v=tr N z/\cs' = { c₀ with mode:=u1 }::cs | none=>tr N z = .nilIface/\c₀={ c₀ with mode:=u1 })/\settle u1 = .returning/\bd S.nl z:=by
  cases u with
  | none=>
   refine ⟨_,.returning,rfl,?_,rfl,rfl⟩;have hm:c₀.mode = .returning:=hc;simp only [recoverD,hm];refine ⟨rfl,?_⟩;rw [<- hm]
  | some x=>
   refine ⟨_,.panicking [{ v:=tr N x,recovered:=true }],rfl,?_,rfl,hu x rfl⟩;have hm:c₀.mode = .panicking [{ v:=tr N x,recovered:=false }]:=hc;simp only [recoverD,hm];exact ⟨rfl,trivial⟩
 rw [<- hz] at h3;obtain ⟨e1,h5,h6⟩:=zJE hsm h3 hzb;have hcode:=hrc _ _ _ _ _ _ _ _ _ _ h5 h6 (fun _ e=>by cases e);refine wpSIn_seq (wpSIn_region ?_);have key:rest.wpSIn (fen none) 0 P (bodyPostS P fn c₀ cs fun en u' w'=>(∃ v,en = .returned v)/\settle u' = .returning/\∃ N' S',K S' = true/\Stp B N S w N' S' w') ((Act.mk ((args.map (tr N)).toArray++Array.replicate (d.nt - (args.map (tr N)).toArray.size) undef) []).put o.dst (tr N z)) ({ c₀ with mode:=u1 }::cs) w:=by
  refine wpSIn_of_wpIn rfl (wpIn_mono hcode ?_);rintro ex a' w' ⟨x,N',e',S',ds',k1,k2,k3,k4⟩;dsimp only at k1;split at k1
  case h_2=>cases k1
  have fin:∀ {κ:XS->Bool},(resK D S' e' d.rs fun _=>κ S')=true->κ=K->(a'.defers=[]/\∃ u',{ c₀ with mode:=u1 }::cs={ c₀ with mode:=u' }::cs/\∃ v,(results fn a'.tmps).run P w' = .ok v w'/\((∃ v',Ending.returned v = .returned v')/\settle u' = .returning/\∃ N' S',K S' = true/\Stp B N S w N' S' w')):=fun {κ} q eκ=>by
   obtain ⟨xs,q1,_,q2⟩:=zQu hD k3.sim k3.env hr q;exact ⟨k3.df,u1,rfl,_,q2,⟨_,rfl⟩,hset,N',S',by rw [<- eκ]; exact q1,k4⟩
  split at k1
  . cases k2; exact fin k1 rfl
  . cases k2; exact fin k1 rfl
  . cases k1
 show wpOpsSIn (fen none) 0 P #[o] _ (List.range 1) _ _ _;have hr1:List.range 1=[0]:=rfl;rw [hr1];simp only [wpOpsSIn,List.getElem?_toArray,List.getElem?_cons_zero];refine ⟨fun _ _=>trivial,?_⟩;have hw:∀ y,Region.wanted o y=true:=fun y=>by unfold Region.wanted; rw [hg]
 rw [if_pos (hw _)];rw [hrun];simp only;cases hR:recoverD (c₀::cs) with
 | none=>
  rw [hR] at hrec;simp only;rw [<- hrec.1];have:(c₀::cs)={ c₀ with mode:=u1 }::cs:=by rw [<- hrec.2]
  rw [this];exact key
 | some p=>
  obtain ⟨v,cs'⟩:=p;rw [hR] at hrec;simp only;rw [hrec.1,hrec.2];exact key
theorem zKM {F:Fence} {n:Nat} {f:FuncId} {args:Array Value} {u:FrameMode} {R R':Ending->FrameMode->World->Prop} (h:CallsDIn F n P f args u w R) (hr:∀ e u w,R e u w->R' e u w):CallsDIn F n P f args u w R':=
 ⟨h.1,fun c cs hu hroom=>let ⟨e,u',w',fr,r,x⟩:=h.2 c cs hu hroom; ⟨e,u',w',fr,hr _ _ _ r,x⟩⟩
theorem zI0 (hrc:CodeOk P B rc) (hD:DOk P D) {fn:Func} {tmps:Array Value} {R:Ending->World->Prop}:∀ {ds:List DE} {u:Option T} {N:NM} {S:XS} {w:World} {κ:Option T->XS->Bool},leaK rc D ds u S κ=true->HSim B N S w->(∀ d ∈ ds,bdE S.nl d)->bdO S.nl u ->
 (∀ u' N' S' w',κ u' S' = true->Stp B N S w N' S' w'->bdO S'.nl u'->LeavesInM (fen none) 0 P fn tmps R [] (zGA N' u') w')->LeavesInM (fen none) 0 P fn tmps R (ds.map (mkD N)) (zGA N u) w
 | [],u,N,S,w,κ,h,hs,_,hu,hk=>hk u N S w h (.refl hs) hu
 | .mk l::ds,u,N,S,w,κ,h,hs,hl,hu,hk=>by
  have h:(match S.h.get l with
   | some o=>(match o with
    | .dfr=>Tr.setK .dead 40 S.h l fun h=>leaK rc D ds u ⟨h,S.nl⟩ κ
    | _=>false)
   | none=>false)=true:=h
  split at h
  . rename_i o ho;split at h
    . obtain ⟨h',h1,h2⟩:=Tr.setK_ok _ _ _ _ _ h;have k1:w.heap[N.bl l]? = some (.deferred (some [])):=hs.ok l _ ho;have st:=zAk hs ho rfl rfl rfl k1 (ob':=.deferred none) (o':=.dead) trivial h2;simp only [List.map_cons];refine ⟨by cases u <;> simp [zGA],.inl ⟨N.bl l,_,rfl,run_takeDeferred k1,?_⟩⟩;exact zI0 hrc hD h1 st.sim (fun q hq=>hl q (by simp [hq])) hu fun u' N' S' w' q1 q2 q3=>hk u' N' S' w' q1 (st.trans q2) q3
    . cases h
  . cases h
 | .fn f args caps::ds,u,N,S,w,κ,h,hs,hl,hu,hk=>by
  have h:(appK args caps fun q=>xdf rc D f q u S fun S=>leaK rc D ds none S κ)=true:=h;rw [qS] at h;have hb:=hl (.fn f args caps) (by simp);obtain ⟨⟨d,hd⟩,hc⟩:=xdf_ok hrc hD h hs (yw hb.1 hb.2) hu;simp only [List.map_cons];refine ⟨by cases u <;> simp [zGA],.inr ⟨fun e=>(by cases e),.func f,(trs N caps).toArray,f,_,rfl,?_,fun _ _=>trivial,zKM hc ?_⟩⟩
  . simp only [mkD,invoke];rw [zAv (hD.ft _ _ hd)];simp [yE]
  . rintro en u' w' ⟨⟨v,rfl⟩,hset,N',S',k1,k2⟩;simp only;rw [hset];have:=zI0 (u:=none) hrc hD k1 k2.sim (fun q hq=>zEr k2.nl (hl q (by simp [hq]))) (fun _ e=>by cases e) (fun u'' N'' S'' w'' q1 q2 q3=>hk u'' N'' S'' w'' q1 (k2.trans q2) q3);rw [zF5 k2.ext (fun q hq=>hl q (by simp [hq]))] at this;exact this
theorem zUq (hrc:CodeOk P B rc) (hD:DOk P D) {f:FuncId} {args:List T} {K:Res->XS->Bool} (h:xfn0 rc D f args S K=true) (hs:HSim B N S w) (ha:bds S.nl args) (ro:Option Nat):CallsIn (fen ro) 0 P f (args.map (tr N)).toArray w (qo B N S w K):=by
 show CallsIn (fen none) 0 P f (args.map (tr N)).toArray w (qo B N S w K);unfold xfn0 at h;split at h
 case h_2=>cases h
 rename_i d hd;obtain ⟨fn,hf,hb,hn,hr,_⟩:=hD.ft f d hd;obtain ⟨h1,h2⟩:=zK h;obtain ⟨e0,h3,h4⟩:=zIw h2;have henv:=zJ9 (N:=N) (Nat.le_of_ble_eq_true h1) ha h4;refine callsIn_of_wp_marks hf hb trivial ?_;rw [hn];have hsm:Sm B d.nt N e0 S [] { tmps:=(args.map (tr N)).toArray++Array.replicate (d.nt - (args.map (tr N)).toArray.size) undef,defers:=[] } w:=⟨henv,hs,rfl,fun _ hd=>by cases hd⟩;refine wpIn_mono (hrc _ _ _ _ _ _ _ _ _ _ h3 hsm (fun _ e=>by cases e)) ?_;rintro ex a' w' ⟨x,N',e',S',ds',k1,k2,k3,k4⟩;have fin:∀ (u:Option T),bdO S'.nl u->(leaK rc D ds' u S' fun u S=>(match u with
  | none=>resK D S e' d.rs fun xs=>oneK xs fun x=>K (.ret x) S
  | some x=>K (.pan x) S))=true->LeavesInM (fen none) 0 P fn a'.tmps (qo B N S w K) a'.defers (zGA N' u) w':=fun u hu q=>by
  rw [k3.df];refine zI0 hrc hD q k3.sim k3.lt hu fun u' N2 S2 w2 q1 q2 q3=>?_;cases u' with
  | none=>
   obtain ⟨xs,r1,r2,r3⟩:=zQu hD q2.sim (k3.env.ext q2.ext q2.nl) hr q1;rw [zU0] at r1;exact ⟨_,r3,_,N2,S2,r1,⟨rfl,r2⟩,k4.trans q2⟩
  | some x=>exact ⟨_,N2,S2,q1,⟨rfl,q3 x rfl⟩,k4.trans q2⟩
 dsimp only at k1;split at k1
 . cases k2; exact fin none (fun _ e=>by cases e) k1
 . cases k2; exact fin none (fun _ e=>by cases e) k1
 . rename_i y;obtain ⟨rfl,k2⟩:=k2;exact fin (some y) (fun z e=>by injection e with e; subst e; exact k2) k1
 . cases k1
theorem zIk (hrc:CodeOk P B rc) (hD:DOk P D) (hng:D.ng=B.ng) {f:FuncId} {args:List T} {K:Res->XS->Bool} (h:xfn rc D f args S K=true) (hs:HSim B N S w) (ha:bds S.nl args) (ro:Option Nat):CallsIn (fen ro) 0 P f (args.map (tr N)).toArray w (qo B N S w K):=by
 unfold xfn at h;split at h
 . rename_i g hg;show CallsIn (fen none) 0 P f (args.map (tr N)).toArray w (qo B N S w K);refine CallsIn.mono (hD.sm f g hg B N S w args _ hng.symm hs ha h) ?_;rintro en w' ⟨x,N',S',h1,rfl,h2,h3⟩;exact ⟨.ret x,N',S',h1,⟨rfl,h2⟩,h3⟩
 . exact zUq hrc hD h hs ha ro
end
end
section
open Go.RowKit
section
variable {P:Program} {B:Bs} {N:NM} {S:XS} {w:World} {D:Dat} {rc:XC}
def RoOk (N:NM) (nl:Nat) (ro fr:Option Nat):Prop:=(∀ l,ro=some l->l < nl)/\ro.map N.bl=fr
theorem RoOk.ext {N':NM} {nl nl':Nat} {ro fr:Option Nat} (h:RoOk N nl ro fr) (hx:Ext nl N N') (hn:nl<=nl'):RoOk N' nl' ro fr:=by
 refine ⟨fun l e=>Nat.lt_of_lt_of_le (h.1 l e) hn,?_⟩;rw [<- h.2];cases ro with
 | none=>rfl
 | some l=>simp only [Option.map_some,hx.bl l (h.1 l rfl)]
theorem CodeOk.at (hrc:CodeOk P B rc) {ro fr:Option Nat} {nt:Nat} {c:Code} {e:Tr T} {ds:List DE} {K:XK} {a:Act} (h:rc ro nt c e S ds K=true) (hs:Sm B nt N e S ds a w) (hr:RoOk N S.nl ro fr):c.wpIn (fen fr) 0 P (Post B nt N S w K) a w:=by
 rw [<- hr.2];exact hrc _ _ _ _ _ _ _ _ _ _ h hs hr.1
theorem zQJ {nt:Nat}:∀ {args:List T} {ps:List Nat} {e:Tr T} {tmps:Array Value} {κ:Tr T->Bool},psK nt args ps e κ=true->ESim N S.nl nt e tmps->bds S.nl args->ps.length=args.length /\
 ∃ e',κ e' = true/\ESim N S.nl nt e' ((ps.zip (args.map (tr N))).foldl (fun tmps (p:Nat×Value)=>tmps.setIfInBounds p.1 p.2) tmps)
 | [],ps,e,tmps,κ,h,he,_=>by
  cases ps with
  | nil=>exact ⟨rfl,e,h,he⟩
  | cons p q=>cases h
 | x::r,ps,e,tmps,κ,h,he,ha=>by
  cases ps with
  | nil=>cases h
  | cons p q=>
   have h:(bif Nat.blt p nt then Tr.setK x 40 e p fun e=>psK nt r q e κ else false)=true:=h;obtain ⟨h1,h2⟩:=zK h;have ht:=blt_iff.1 h1;obtain ⟨e1,h3,h4⟩:=Tr.setK_ok _ _ _ _ _ h2;have he1:ESim N S.nl nt e1 (tmps.setIfInBounds p (tr N x)):=by
    refine ⟨by simp [he.size],fun k=>?_,fun k=>?_⟩
    . rw [zBR h4];have hs:p < tmps.size:=by rw [he.size]; exact ht
      split
      . rename_i e1; subst e1;simp [Array.getD_eq_getD_getElem?,hs]
      . rename_i e1;have:=he.val k;rw [<- this];simp [Array.getD_eq_getD_getElem?,Array.getElem?_setIfInBounds_ne (Ne.symm e1)]
    . rw [zBR h4];split
      . exact ha.1
      . exact he.bd k
   obtain ⟨h5,e',h6,h7⟩:=zQJ h3 he1 ha.2;exact ⟨by simp [h5],e',h6,h7⟩
theorem zQQ (hs:HSim B N S w) {l:Nat} {st st':LoopState} {pd pd':Option Code} {nt dl:Nat} {e:Tr T} {ps:List Nat} {assign body:Code} (ho:S.h.get l=some (.loop st pd nt e ps assign body dl)) {κ:XS->Bool} (h:lpK S l st' pd' κ=true) {r:Loop} (hr:w.heap[N.bl l]? = some (.loop r)) (h1:r.params=ps.toArray) (h2:r.assign=assign) (h3:r.body=body) (h4:r.defers=N.bl dl) (h5:ESim N S.nl nt e r.tmps) (h6:dl < S.nl) :
 ∃ S',κ S' = true/\Stp B N S w N S' (w.putObj (N.bl l) (.loop { r with state:=st',pending:=pd' }))/\S'.nl=S.nl:=by
 unfold lpK at h;rw [ho] at h;obtain ⟨h',h7,h8⟩:=Tr.setK_ok _ _ _ _ _ h;refine ⟨_,h7,zAk hs ho rfl rfl rfl hr (ob':=.loop { r with state:=st',pending:=pd' }) (o':=.loop st' pd' nt e ps assign body dl) ⟨r.fn,r.tmps,by rw [h1,h2,h3,h4],h5,h6⟩ h8,rfl⟩
theorem zUp (hs:HSim B N S w) {l:Nat} {ds:List DE} {jump:Option Code} {K:Res->XS->Bool} (h:endK S l ds jump K=true) (hb:∃ o,S.h.get l=some o) :
 ∃ v w',(Instr.endRound (N.bl l) jump).run P w = .ok v w'/\qo B N S w K (.returned v) w':=by
 unfold endK at h;split at h
 . have h0:=h;unfold lpK at h0;split at h0
   . rename_i o ho;split at h0
     . rename_i st pd nt e ps assign body dl;obtain ⟨fn,tmps,k1,k2,k3⟩:=hs.ok l _ ho;obtain ⟨S',q1,q2,_⟩:=zQQ hs ho h k1 rfl rfl rfl rfl k2 k3;refine ⟨_,_,run_endRound jump k1,?_⟩;cases jump with
       | none=>exact ⟨_,N,S',q1,⟨rfl,trivial⟩,q2⟩
       | some c=>exact ⟨_,N,S',q1,⟨rfl,trivial⟩,q2⟩
     . cases h0
   . cases h0
 . cases h
theorem zQY {st:LoopState} (h:zL8 st=true):st = .ready:=by cases st <;> first | rfl | cases h
theorem zTx (hrc:CodeOk P B rc) {l:Nat} {args:List T} {K:Res->XS->Bool} (h:xrnd rc l args S K=true) (hs:HSim B N S w) (ha:bds S.nl args) (ro:Option Nat) {e:Tr T} {nt dl:Nat} {ps:List Nat} {assign body:Code} {st:LoopState} {pd:Option Code}
 (ho:S.h.get l=some (.loop st pd nt e ps assign body dl)) {fn:FuncId} {tmps:Array Value} (he:ESim N S.nl nt e tmps) :
 RoundIn (fen ro) 0 P (N.bl l) fn ((ps.toArray.zip (args.map (tr N)).toArray).foldl (fun tmps (t,a)=>tmps.setIfInBounds t a) tmps) assign body w (qo B N S w K):=by
 unfold xrnd at h;rw [ho] at h;obtain ⟨h1,h2⟩:=zK h;obtain ⟨h3,e1,h4,h5⟩:=zQJ h2 he ha;have hl:=hs.lt l _ ho;have eq1:(ps.toArray.zip (args.map (tr N)).toArray).foldl (fun tmps (x:Nat×Value)=>tmps.setIfInBounds x.1 x.2) tmps=(ps.zip (args.map (tr N))).foldl (fun tmps (p:Nat×Value)=>tmps.setIfInBounds p.1 p.2) tmps:=by
  simp
 have hsm:Sm B nt N e1 S [] { tmps:=(ps.zip (args.map (tr N))).foldl (fun tmps (p:Nat×Value)=>tmps.setIfInBounds p.1 p.2) tmps,defers:=[] } w:=⟨h5,hs,rfl,fun _ hd=>by cases hd⟩;have ra:=hrc.at h4 hsm (fr:=some (N.bl l)) ⟨fun l' e=>by injection e with e; subst e; exact hl,rfl⟩;show RoundIn (fen ro) 0 P (N.bl l) fn ((ps.toArray.zip (args.map (tr N)).toArray).foldl (fun tmps (x:Nat×Value)=>tmps.setIfInBounds x.1 x.2) tmps) assign body w (qo B N S w K);rw [eq1];refine roundIn_of_wpIn trivial ?_;show assign.wpIn (fen (some (N.bl l))) 0 P _ _ w;refine wpIn_mono ra ?_;rintro ex a1 w1 ⟨x,N1,e2,S1,ds1,k1,k2,k3,k4⟩;dsimp only at k1;split at k1
 case h_2=>cases k1
 cases k2;split at k1
 case h_2=>cases k1
 rename_i o ho1;split at k1
 case h_2=>cases k1
 rename_i st1 pd1 nt1 e3 ps1 as1 bo1 dl1;obtain ⟨k5,k6⟩:=zK k1;obtain ⟨fn1,tmps1,q1,q2,q3⟩:=k3.sim.ok l _ ho1;have hbl:N1.bl l=N.bl l:=k4.ext.bl l hl;obtain ⟨S2,r1,r2,r3⟩:=zQQ k3.sim ho1 k6 q1 rfl rfl rfl rfl q2 q3;have hst:=zQY k5;subst hst;show ∃ w₂,(Instr.beginRound (N.bl l)).run P w1 = .ok () w₂/\body.wpIn (fen (some (N.bl l))) 0 P (roundPost P (N.bl l) (qo B N S w K)) a1 w₂;refine ⟨_,by rw [<- hbl]; exact run_beginRound q1 rfl,?_⟩;have rb:=hrc.at r1 (k3.later r2) (fr:=some (N.bl l)) ⟨fun l' e=>by injection e with e; subst e; rw [r3]; exact Nat.lt_of_lt_of_le hl k4.nl,by rw [<- hbl]; rfl⟩;refine wpIn_mono rb ?_;rintro ex a2 w2 ⟨x,N2,e4,S3,ds3,j1,j2,j3,j4⟩;have hl3:l < S1.nl:=Nat.lt_of_lt_of_le hl k4.nl;have hbl2:N2.bl l=N.bl l:=(j4.ext.bl l (by rw [r3]; exact hl3)).trans hbl;have hall:=k4.trans (r2.trans j4);have fin:∀ {jump:Option Code},endK S3 l ds3 jump K=true->∃ v w',(Instr.endRound (N.bl l) jump).run P w2 = .ok v w'/\qo B N S w K (.returned v) w':=fun {jump} q=>by
  have hex:∃ o,S3.h.get l=some o:=by
   have q0:=q;unfold endK at q0;split at q0
   . unfold lpK at q0;split at q0
     . rename_i o ho; exact ⟨o,ho⟩
     . cases q0
   . cases q0
  obtain ⟨v,w',t1,r,N',S',t2,t3,t4⟩:=zUp (P:=P) j3.sim q hex;rw [hbl2] at t1;exact ⟨v,w',t1,r,N',S',t2,t3,hall.trans t4⟩
 dsimp only at j1;split at j1
 . cases j2; exact fin j1
 . cases j2; exact fin j1
 . cases j2; exact fin j1
 . cases j2; exact fin j1
 . cases j1
theorem zQt {e:Tr T} {o:Oper} {c:Call} (hc:o.op = .defer c) {K:Out->XS->Bool} (h:xop D e S o K=true):∃ n q caps,K (.dfr n q caps) S=true:=by
 unfold xop at h;rw [hc] at h;simp only at h;split at h
 . rename_i f _;have key:∀ {ng:Nat} {x:Operand} {κ:T->Bool},evK ng e x κ=true->∃ y,κ y=true:=fun {ng x κ} h=>by
    cases x with
    | tmp t=>simp only [evK] at h; split at h <;> exact ⟨_,h⟩
    | const v=>obtain ⟨y,h1,_⟩:=zQv (show cvK v κ=true from h); exact ⟨y,h1⟩
    | global g=>obtain ⟨_,h2⟩:=zK (show (bif Nat.blt g ng then fN g fun g=>κ (.ptr g 0) else false)=true from h); rw [zo] at h2; exact ⟨_,h2⟩
    | func f=>exact ⟨_,h⟩
   have keys:∀ {ng:Nat} {l:List Operand} {κ:List T->Bool},evsK ng e l κ=true->∃ ys,κ ys=true:=fun {ng l}=>by
    induction l with
    | nil=>intro κ h; exact ⟨[],h⟩
    | cons x r ih=>
     intro κ h;obtain ⟨y,h1⟩:=key (show evK ng e x (fun y=>evsK ng e r fun q=>κ (y::q))=true from h);obtain ⟨ys,h2⟩:=ih h1;exact ⟨_,h2⟩
   obtain ⟨y,h1⟩:=key h;obtain ⟨ys,h2⟩:=keys h1;split at h2
   . split at h2
     . rw [qS] at h2; exact ⟨_,_,_,h2⟩
     . cases h2
   . cases h2
 . cases h
theorem zJP (hrc:CodeOk P B rc) (hD:DOk P D) (hng:D.ng=B.ng) {nt:Nat} {ops:Array Oper} {ro fr:Option Nat} {K:XK} {N0:NM} {S0:XS} {w0:World}:∀ {l:List Oper} {e:Tr T} {ds:List DE} {N:NM} {S:XS} {a:Act} {w:World},
 xops rc D ro nt (ops.toList.map (·.dst)) l e S ds K=true->Stp B N0 S0 w0 N S w->Sm B nt N e S ds a w->RoOk N S.nl ro fr->wpListIn (fen fr) 0 P ops (Post B nt N0 S0 w0 K) l a w
 | [],e,ds,N,S,a,w,h,h0,hs,_=>⟨.n,N,e,S,ds,h,rfl,hs,h0⟩
 | o::l,e,ds,N,S,a,w,h,h0,hs,hr=>by
  have h:(j8 nt (ops.toList.map (·.dst)) e o.guard fun wn=>bif wn then
   xopF D e S o (xcont rc D ro nt o.dst e (xops rc D ro nt (ops.toList.map (·.dst)) l) ds K)
   else putE nt o.dst (.tup []) e fun e=>xops rc D ro nt (ops.toList.map (·.dst)) l e S ds K)=true:=h
  have hw:=zAd hs.env h;unfold wpListIn;have next:∀ {N1:NM} {S1:XS} {w1:World} {x:T},Stp B N S w N1 S1 w1->bd S1.nl x->(putE nt o.dst x e fun e=>xops rc D ro nt (ops.toList.map (·.dst)) l e S1 ds K)=true->wpListIn (fen fr) 0 P ops (Post B nt N0 S0 w0 K) l (a.put o.dst (tr N1 x)) w1:=fun {N1 S1 w1 x} q1 q2 q3=>by
   obtain ⟨e',t1,t2⟩:=zJE (hs.later q1) q3 q2;exact zJP hrc hD hng t1 (h0.trans q1) t2 (hr.ext q1.ext q1.nl)
  have pan:∀ {N1:NM} {S1:XS} {w1:World} {x:T},Stp B N S w N1 S1 w1->bd S1.nl x->K (.p x) e S1 ds=true->Post B nt N0 S0 w0 K (.panic [{ v:=tr N1 x,recovered:=false }]) a w1:=fun {N1 S1 w1 x} q1 q2 q3=>
   ⟨.p x,N1,e,S1,ds,q3,⟨rfl,q2⟩,hs.later q1,h0.trans q1⟩
  cases hwn:Region.wanted o (yielded ops a.tmps) with
  | false=>
   rw [hwn,cond_false] at hw;simp only [Bool.false_eq_true,if_false];exact ⟨fun _ _=>trivial,next (x:=.tup []) (.refl hs.sim) trivial hw⟩
  | true=>
   rw [hwn,cond_true,zN0] at hw;simp only [if_true];refine ⟨fun _ _=>trivial,?_⟩;have hsem:Oper.semAt (fen fr).round a.eval o=execOp a.eval o:=by
    cases ro with
    | none=>
     have:fr=none:=hr.2.symm;subst this;rfl
    | some l0=>
     refine Oper.semAt_eq _ _ _ fun c hc=>?_;obtain ⟨_,_,_,hh⟩:=zQt hc hw;cases hh
   rw [hsem];obtain ⟨out,N1,S1,w1,k1,k2,k3⟩:=zQI hD hng hs.sim hs.env hw;cases out with
   | v x=>
    rw [k3.1,Oper.uponIn_value];exact next k2 k3.2 k1
   | sk=>
    have k3:(execOp a.eval o).run P w = .ok .skip w1:=k3;rw [k3,Oper.uponIn_skip];exact next (x:=.tup []) k2 trivial k1
   | ent f args=>
    obtain ⟨k3,k4,k5⟩:=k3;rw [k3,Oper.uponIn_enter];refine ⟨fun e=>(by cases e),CallsIn.mono (zIk hrc hD hng k1 k2.sim k4 fr) ?_⟩;rintro en w2 ⟨r,N2,S2,t1,t2,t3⟩;cases r with
    | ret x=>obtain ⟨rfl,t2⟩:=t2; exact next (k2.trans t3) t2 t1
    | pan x=>obtain ⟨rfl,t2⟩:=t2; exact pan (k2.trans t3) t2 t1
   | rnd l' args=>
    obtain ⟨k4,e1,nt1,ps,as1,bo1,dl1,st,pd,k5,k6,fn,tmps,k7,k8,k9⟩:=k3;rw [k9,Oper.uponIn_round];refine ⟨fun e=>(by cases e),RoundIn.mono (zTx hrc k1 k2.sim k4 fr k5 k8) ?_⟩;rintro en w2 ⟨r,N2,S2,t1,t2,t3⟩;cases r with
    | ret x=>obtain ⟨rfl,t2⟩:=t2; exact next (k2.trans t3) t2 t1
    | pan x=>obtain ⟨rfl,t2⟩:=t2; exact pan (k2.trans t3) t2 t1
   | dfr f args caps=>
    obtain ⟨k3,k4,k5⟩:=k3;rw [k3,Oper.uponIn_defer];obtain ⟨k6,k7⟩:=zK k1;have hs1:=hs.later k2;have hs2:Sm B nt N1 e S1 (.fn f args caps::ds) { a with defers:={ target:=.fn (.func f) (trs N1 caps).toArray,args:=(trs N1 args).toArray }::a.defers } w1:=by
     refine ⟨hs1.env,hs1.sim,?_,fun d hd=>?_⟩
     . simp only [List.map_cons,mkD]; rw [<- hs1.df]
     . rcases List.mem_cons.1 hd with rfl | hd
       . exact ⟨k4,k5⟩
       . exact hs1.lt d hd
    obtain ⟨e',t1,t2⟩:=zJE hs2 k7 trivial;exact zJP hrc hD hng t1 (h0.trans k2) t2 (hr.ext k2.ext k2.nl)
   | rcv=>cases k1
   | pan x=>
    rw [k3.1,Oper.uponIn_panic];exact pan k2 k3.2 k1
end
end
section
open Go.RowKit
section
variable {P:Program} {B:Bs} {N:NM} {S:XS} {w:World} {D:Dat} {rc:XC}
theorem yg {b:Frame} {a:Act} {k:List Item} {cs:List Frame} {w:World} {c:Code}:step P (lone (b.atR a (.code (.scope c)::k)) cs w) = .next (lone (b.atR a (.code c :: .inScope c::k)) cs w):=
 step_lone_go (by simp [stepG,stepG.exec,Frame.atR])
theorem zB7 {b:Frame} {a:Act} {k:List Item} {cs:List Frame} {w:World} {c:Code}:step P (lone (b.atR a (.inScope c::k)) cs w) = .next (lone (b.atR a k) cs w):=
 step_lone_go (by simp [stepG,stepG.exec,Frame.atR])
theorem zEN {F:Fence} {n:Nat} {Q:Exit->Act->World->Prop} {a:Act} {w:World} {c:Code} (h:c.wpIn F n P (Exit.noGoto Q) a w):(Code.scope c).wpIn F n P Q a w:=by
 intro b k cs hro hb hr;have h0:(lone (b.atR a (.code (.scope c)::k)) cs w).fenced P F:=fenced_calm hb hr rfl;obtain ⟨e,a₁,w₁,hq,harr⟩:=h b (.inScope c::k) cs hro hb hr;cases e with
 | normal=>exact ⟨.normal,a₁,w₁,hq,.head h0 yg (StepsIn.trans harr (.one (fenced_calm hb hr rfl) zB7))⟩
 | exit id'=>
  have hx:exitTo id' (.inScope c::k)=exitTo id' k:=by simp [exitTo]
  exact ⟨.exit id',a₁,w₁,hq,fun k' hk=>.head h0 yg (harr.1 k' (by rw [hx]; exact hk)),
   fun hr' hk=>let ⟨k₁,h1,h2⟩:=harr.2 hr' (by rw [hx]; exact hk); ⟨k₁,h1,.head h0 yg h2⟩⟩
 | goto l=>exact hq.elim
 | ret=>exact ⟨_,a₁,w₁,hq,.of_steps (.one h0 yg) harr⟩
 | panic ch=>exact ⟨_,a₁,w₁,hq,.of_steps (.one h0 yg) harr⟩
 | outgrown=>exact ⟨_,a₁,w₁,hq,.of_steps (.one h0 yg) harr⟩
def zKt (P:Program) (B:Bs) (D:Dat) (xd:XC->Option Nat->Nat->List Oper->Tr T->XS->List DE->XK->Bool):Prop:=∀ (rc:XC),CodeOk P B rc->∀ (ro fr:Option Nat) (nt id:Nat) (l:List Oper) (e:Tr T) (S:XS) (ds:List DE) (K:XK) (N:NM) (a:Act) (w:World),
 xd rc ro nt l e S ds K=true->Sm B nt N e S ds a w->RoOk N S.nl ro fr->(Code.region id ⟨l⟩ true).wpIn (fen fr) 0 P (Post B nt N S w K) a w
theorem zQ6 (hrc:CodeOk P B rc) (hD:DOk P D) (hng:D.ng=B.ng) {ro fr:Option Nat} {nt:Nat} {g:Operand} {ps:List Nat} {assign body:Code} {e:Tr T} {ds:List DE} {K:XK} {a:Act} (h:zLs rc D ro nt g ps assign body e S ds K=true) (hs:Sm B nt N e S ds a w) (hr:RoOk N S.nl ro fr) :
 (Code.rangeFunc g ⟨ps⟩ assign body).wpIn (fen fr) 0 P (Post B nt N S w K) a w:=by
 unfold zLs at h;refine wpIn_rangeFunc fun fn _=>?_;obtain ⟨dl,S1,mk,N1,w1,mark,k1,k2,k3,k4,k5⟩:∃ dl S1 mk N1 w1 mark,(newK S1 (.loop .ready none nt e ps assign body dl) fun l S=>evK D.ng e g fun g=>zGM D S g [.yl l] fun out S=>(match out with
  | .ent f args=>xfn rc D f args S fun r S=>appK mk ds fun ds=>(match r with
   | .ret _=>(match S.h.get l with
    | some o=>(match o with
     | .loop st pd _ _ _ _ _ _=>bif zOX st then false else Tr.setK .dead 40 S.h l fun h=>(match pd with
      | none=>K .n e ⟨h,S.nl⟩ ds
      | some c=>rc ro nt c e ⟨h,S.nl⟩ ds K)
     | _=>false)
    | none=>false)
   | .pan x=>K (.p x) e S ds)
  | _=>false))=true/\Stp B N S w N1 S1 w1/\dl < S1.nl/\((Instr.enterLoop fn a.tmps ⟨ps⟩ assign body (fen fr).round).run P w = .ok (w1.heap.size,mark) (w1.alloc (.loop { state:=.ready,pending:=none,fn,tmps:=a.tmps,params:=⟨ps⟩,assign,body,defers:=N1.bl dl })))/\(mark=mk.map (mkD N1)/\∀ d ∈ mk,bdE S1.nl d):=by
  unfold dlOf at h;cases ro with
  | none=>
   have:fr=none:=hr.2.symm;subst this;simp only at h;obtain ⟨S1,q1,q2,q3⟩:=zFs hs.sim h rfl 0 (ob:=.deferred (some [])) rfl;refine ⟨S.nl,S1,_,_,_,_,q1,q2,by omega,?_,rfl,fun d hd=>?_⟩
   . have:=run_enterLoop_outer (P:=P) (w:=w) fn a.tmps ⟨ps⟩ assign body;rw [NM.add_bl];show (Instr.enterLoop fn a.tmps ⟨ps⟩ assign body none).run P w=_;simpa [mkD,NM.add_bl] using this
   . rcases List.mem_singleton.1 hd with rfl
     show S.nl < S1.nl;omega
  | some l0=>
   have hfr:fr=some (N.bl l0):=hr.2.symm;subst hfr;simp only at h;split at h
   . rename_i o ho;split at h
     . rename_i st0 pd0 nt0 e0 ps0 as0 bo0 dl;obtain ⟨fn0,tmps0,t1,t2,t3⟩:=hs.sim.ok l0 _ ho;exact ⟨dl,S,[],N,w,[],h,.refl hs.sim,t3,run_enterLoop_inner t1 _ _ _ _ _,rfl,fun _ hd=>by cases hd⟩
     . cases h
   . cases h
 have hs1:=hs.later k2;obtain ⟨S2,q1,q2,q3⟩:=zFs hs1.sim k1 rfl 0 (ob:=.loop { state:=.ready,pending:=none,fn,tmps:=a.tmps,params:=⟨ps⟩,assign,body,defers:=N1.bl dl })
  ⟨fn,a.tmps,by rw [(N1.ext_add S1.nl w1.heap.size 0).bl dl k3],hs1.env.ext (N1.ext_add _ _ _) (by omega),by omega⟩
 have hs2:=hs1.later q2;rw [hng] at q1;obtain ⟨g',r1,r2,r3⟩:=zU hs2.sim hs2.env q1;have hyl:bds S2.nl [T.yl S1.nl]:=⟨by show S1.nl < S2.nl; omega,trivial⟩;obtain ⟨out,N3,S3,w3,r4,r5,r6⟩:=zK9 (P:=P) hD hs2.sim r1 r3 hyl;cases out with
 | ent f args=>
  obtain ⟨r6,r7,r8⟩:=r6;rw [Sem.run_bind] at r6;have hy:(List.map (tr (N1.add S1.nl w1.heap.size 0)) [T.yl S1.nl]).toArray = #[.func (.yield w1.heap.size) #[] #[]]:=by simp [tr,NM.add_bl]
  rw [hy,<- r2] at r6;cases hd:(Deferred.ofValue (a.eval g) #[.func (.yield w1.heap.size) #[] #[]]).run P (w1.alloc (.loop { state:=.ready,pending:=none,fn,tmps:=a.tmps,params:=⟨ps⟩,assign,body,defers:=N1.bl dl })) with
  | halt x w'=>rw [hd] at r6; cases r6
  | ok d w1'=>
   rw [hd,Result.andThen_ok] at r6;refine ⟨w1.heap.size,mark,_,d,w1',f,_,w3,k4,?_,fun _ _=>trivial,r6,fun e=>(by cases e),?_⟩
   . show (resolve a.eval (rangeCall g w1.heap.size) 0).run P _=_;unfold resolve;simp only [rangeCall];have ea:Array.map a.eval #[Operand.const (.func (.yield w1.heap.size) #[] #[])] = #[.func (.yield w1.heap.size) #[] #[]]:=by simp [Act.eval]
     rw [ea];exact hd
   . refine CallsIn.mono (zIk hrc hD hng r4 r5.sim r7 fr) ?_;rintro en w4 ⟨r,N4,S4,t1,t2,t3⟩;dsimp only at t1;rw [qS] at t1;have hst1:=q2.trans (r5.trans t3);have hst:=k2.trans hst1;have hs4:=hs.later hst;have hmk:∀ {h':Tr HO} {N5:NM} {w5:World},Stp B N S w N5 ⟨h',S4.nl⟩ w5->Ext S1.nl N1 N5->Sm B nt N5 e ⟨h',S4.nl⟩ (mk++ds) { a with defers:=mark++a.defers } w5:=fun {h' N5 w5} q qx=>by
      have:=hs.later q;refine ⟨this.env,this.sim,?_,fun d hd=>?_⟩
      . simp only [List.map_append];rw [<- this.df,k5.1,zF5 qx k5.2]
      . rcases List.mem_append.1 hd with hd | hd
        . exact zEr (Nat.le_trans (by omega) (Nat.le_trans r5.nl t3.nl)) (k5.2 d hd)
        . exact this.lt d hd
     cases r with
     | pan x=>
      obtain ⟨rfl,t2⟩:=t2;have h4:S4=⟨S4.h,S4.nl⟩:=rfl;exact ⟨.p x,N4,e,S4,mk++ds,t1,⟨rfl,t2⟩,hmk (h':=S4.h) hst hst1.ext,hst⟩
     | ret x=>
      obtain ⟨rfl,t2⟩:=t2;dsimp only at t1;split at t1
      case h_2=>cases t1
      rename_i o ho;split at t1
      case h_2=>cases t1
      rename_i st pd nt5 e5 ps5 as5 bo5 dl5;obtain ⟨fn5,tmps5,u1,u2,u3⟩:=t3.sim.ok S1.nl _ ho;cases hb:zOX st with
      | true=>rw [hb,cond_true] at t1; cases t1
      | false=>
       rw [hb,cond_false] at t1;obtain ⟨h5,u4,u5⟩:=Tr.setK_ok _ _ _ _ _ t1;have hbl:N4.bl S1.nl=w1.heap.size:=by
        rw [t3.ext.bl _ (Nat.lt_of_lt_of_le (by omega) r5.nl),r5.ext.bl _ (by omega),NM.add_bl]
       have hnb:(Loop.mk st pd fn5 tmps5 ps5.toArray as5 bo5 (N4.bl dl5)).state≠.busy:=by
        intro e; dsimp only at e; subst e; cases hb
       have run:=run_endLoop (P:=P) u1 hnb;rw [hbl] at run;rw [hbl] at u1;have st5:=zAk t3.sim ho rfl rfl rfl (by rw [hbl]; exact u1) (ob':=.loop { (Loop.mk st pd fn5 tmps5 ps5.toArray as5 bo5 (N4.bl dl5)) with state:=.exhausted }) (o':=.dead) trivial u5;rw [hbl] at st5;refine ⟨pd,_,run,?_⟩;have hall:=hst.trans st5;have hsm:=hmk hall (hst1.trans st5).ext;cases pd with
       | none=>exact ⟨.n,N4,e,_,mk++ds,u4,rfl,hsm,hall⟩
       | some c=>exact wpIn_mono (hrc.at u4 hsm (hr.ext hall.ext hall.nl)) fun _ _ _ q=>q.trans hall
 | v x=>cases r4
 | sk=>cases r4
 | rnd l' args=>cases r4
 | dfr f args caps=>cases r4
 | rcv=>cases r4
 | pan x=>cases r4
def zId (P:Program) (B:Bs) (rc:XC) (n:Nat):Prop:=∀ (ro fr:Option Nat) (nt:Nat) (c:Code) (e:Tr T) (S:XS) (ds:List DE) (K:XK) (N:NM) (a:Act) (w:World) (N0:NM) (S0:XS) (w0:World),
 rc ro nt (.loop c) e S ds K=true->Stp B N0 S0 w0 N S w->Sm B nt N e S ds a w->RoOk N S.nl ro fr->Code.roundsIn (fen fr) 0 P c (Post B nt N0 S0 w0 K) n a w
variable {xd:XC->Option Nat->Nat->List Oper->Tr T->XS->List DE->XK->Bool}
theorem zHm (hrc:CodeOk P B rc) {n:Nat} (hl:zId P B rc n):zId P B (zKb D xd rc) (n+1):=by
 intro ro fr nt c e S ds K N a w N0 S0 w0 h h0 hs hr;have h:rc ro nt c e S ds (fun ex e S ds=>(match ex with
  | .n=>rc ro nt (.loop c) e S ds K
  | ex=>K ex e S ds))=true:=h
 rw [roundsIn_succ];refine wpIn_mono (hrc.at h hs hr) ?_;rintro ex a' w' ⟨x,N',e',S',ds',k1,k2,k3,k4⟩;cases x with
 | n=>cases k2; exact hl ro fr nt c e' S' ds' K N' a' w' N0 S0 w0 k1 (h0.trans k4) k3 (hr.ext k4.ext k4.nl)
 | e id=>cases k2; exact ⟨.e id,N',e',S',ds',k1,rfl,k3,h0.trans k4⟩
 | g l=>cases k2; exact ⟨.g l,N',e',S',ds',k1,rfl,k3,h0.trans k4⟩
 | r=>cases k2; exact ⟨.r,N',e',S',ds',k1,rfl,k3,h0.trans k4⟩
 | p y=>obtain ⟨rfl,k2⟩:=k2; exact ⟨.p y,N',e',S',ds',k1,⟨rfl,k2⟩,k3,h0.trans k4⟩
theorem zSv (hrc:CodeOk P B rc) (hD:DOk P D) (hng:D.ng=B.ng) (hxd:zKt P B D xd) {n:Nat} (hl:zId P B rc n):CodeOk P B (zKb D xd rc):=by
 intro ro nt c e S ds K N a w h hs hro;have hr:RoOk N S.nl ro (ro.map N.bl):=⟨hro,rfl⟩;have hc:=h;unfold zKb at hc;split at hc
 . exact wpIn_skip ⟨.n,N,e,S,ds,hc,rfl,hs,.refl hs.sim⟩
 . split at hc;rename_i l;split at hc
   . exact wpIn_region_list (ops:=⟨l⟩) (zJP (ops:=⟨l⟩) hrc hD hng hc (.refl hs.sim) hs hr)
   . exact hxd rc hrc _ _ _ _ _ _ _ _ _ _ _ _ hc hs hr
 . rename_i x y;refine wpIn_seq (wpIn_mono (hrc.at hc hs hr) ?_);rintro ex a' w' ⟨x,N',e',S',ds',k1,k2,k3,k4⟩;cases x with
   | n=>cases k2; exact wpIn_mono (hrc.at k1 k3 (hr.ext k4.ext k4.nl)) fun _ _ _ q=>q.trans k4
   | e id=>cases k2; exact ⟨.e id,N',e',S',ds',k1,rfl,k3,k4⟩
   | g l=>cases k2; exact ⟨.g l,N',e',S',ds',k1,rfl,k3,k4⟩
   | r=>cases k2; exact ⟨.r,N',e',S',ds',k1,rfl,k3,k4⟩
   | p y=>obtain ⟨rfl,k2⟩:=k2; exact ⟨.p y,N',e',S',ds',k1,⟨rfl,k2⟩,k3,k4⟩
 . rename_i g x y;rw [hng] at hc;obtain ⟨z,k1,k2,k3⟩:=zU hs.sim hs.env hc;split at k1
   . rename_i t;cases t with
     | true=>exact wpIn_cond_true k2 (hrc.at k1 hs hr)
     | false=>exact wpIn_cond_false k2 (hrc.at k1 hs hr)
   . cases k1
 . rename_i id b;refine wpIn_block (wpIn_mono (hrc.at hc hs hr) ?_);rintro ex a' w' ⟨x,N',e',S',ds',k1,k2,k3,k4⟩;cases x with
   | n=>cases k2; exact ⟨.n,N',e',S',ds',k1,rfl,k3,k4⟩
   | e i=>
    cases k2;show (if i=id then _ else _);dsimp only at k1;by_cases hi:i=id
    . rw [if_pos hi];rw [beq_iff.2 hi,cond_true] at k1;exact ⟨.n,N',e',S',ds',k1,rfl,k3,k4⟩
    . rw [if_neg hi];rw [zJi hi,cond_false] at k1;exact ⟨.e i,N',e',S',ds',k1,rfl,k3,k4⟩
   | g l=>cases k2; exact ⟨.g l,N',e',S',ds',k1,rfl,k3,k4⟩
   | r=>cases k2; exact ⟨.r,N',e',S',ds',k1,rfl,k3,k4⟩
   | p y=>obtain ⟨rfl,k2⟩:=k2; exact ⟨.p y,N',e',S',ds',k1,⟨rfl,k2⟩,k3,k4⟩
 . rename_i b;exact wpIn_loop_rounds (n+1) (zHm (D:=D) (xd:=xd) hrc hl _ _ _ _ _ _ _ _ _ _ _ _ _ _ h (.refl hs.sim) hs hr)
 . rename_i g ps x y;split at hc;rename_i ps;exact zQ6 hrc hD hng hc hs hr
 . rename_i b;refine zEN (wpIn_mono (hrc.at hc hs hr) ?_);rintro ex a' w' ⟨x,N',e',S',ds',k1,k2,k3,k4⟩;cases x with
   | n=>cases k2; exact ⟨.n,N',e',S',ds',k1,rfl,k3,k4⟩
   | e id=>cases k2; exact ⟨.e id,N',e',S',ds',k1,rfl,k3,k4⟩
   | g l=>cases k1
   | r=>cases k2; exact ⟨.r,N',e',S',ds',k1,rfl,k3,k4⟩
   | p y=>obtain ⟨rfl,k2⟩:=k2; exact ⟨.p y,N',e',S',ds',k1,⟨rfl,k2⟩,k3,k4⟩
 . exact wpIn_exit ⟨.e _,N,e,S,ds,hc,rfl,hs,.refl hs.sim⟩
 . exact wpIn_label ⟨.n,N,e,S,ds,hc,rfl,hs,.refl hs.sim⟩
 . exact wpIn_goto ⟨.g _,N,e,S,ds,hc,rfl,hs,.refl hs.sim⟩
 . exact wpIn_ret ⟨.r,N,e,S,ds,hc,rfl,hs,.refl hs.sim⟩
 . cases hc
theorem xc_ok (hD:DOk P D) (hng:D.ng=B.ng) (hxd:zKt P B D xd):∀ n,CodeOk P B (xc D xd n)/\zId P B (xc D xd n) n
 | 0=>⟨fun _ _ _ _ _ _ _ _ _ _ h=>(by cases h),fun _ _ _ _ _ _ _ _ _ _ _ _ _ _ h=>(by cases h)⟩
 | n+1=>by
  obtain ⟨h1,h2⟩:=xc_ok hD hng hxd n;exact ⟨zSv h1 hD hng hxd h2,zHm h1 h2⟩
end
end
section
open Go.RowKit
inductive Bef (ops:Array Oper) (i:Nat):Nat->Prop
 | one {j:Nat} {o:Oper} {ed:Edge}:ops[j]? = some o->ed ∈ o.after->Region.binds .any ed=true->ed.on=i->Bef ops i j
 | more {m j:Nat} {o:Oper} {ed:Edge}:ops[j]? = some o->ed ∈ o.after->Region.binds .any ed=true->ed.on=m->Bef ops i m->Bef ops i j
def jq (ops:Array Oper) (M:Nat->Prop):Prop:=∀ j o,ops[j]? = some o->M j->∀ ed ∈ o.after,Region.binds .any ed=true->M ed.on
def PreIn (ops:Array Oper) (M:Nat->Prop) (j:Nat):Prop:=∀ o,ops[j]? = some o->∀ ed ∈ o.after,Region.binds .any ed=true->M ed.on
section
variable {P:Program} {ops:Array Oper} {Q:Exit->Act->World->Prop}
theorem Bef.closed {i j:Nat} {M:Nat->Prop} (h:Bef ops i j) (hM:jq ops M) (hj:M j):M i:=by
 induction h with
 | one ho he hb hon=>exact hon ▸ hM _ _ ho hj _ he hb
 | more ho he hb hon _ ih=>exact ih (hon ▸ hM _ _ ho hj _ he hb)
theorem Bef.pre {i j:Nat} {M:Nat->Prop} (h:Bef ops i j) (hM:jq ops M) (hj:PreIn ops M j):M i:=by
 cases h with
 | one ho he hb hon=>exact hon ▸ hj _ ho _ he hb
 | more ho he hb hon h=>exact h.closed hM (hon ▸ hj _ ho _ he hb)
def zt (ops:Array Oper) (k:Nat):Option Tmp:=(ops[k]?).bind (·.dst)
structure Static (ops:Array Oper):Prop where
 nodup:∀ (i j:Nat) (t:Tmp),zt ops i=some t->zt ops j=some t->i=j
 nosel:∀ (k:Nat) (o:Oper),ops[k]? = some o->(∀ cs b,o.op≠Op.select cs b)/\(∀ c,o.op≠Op.defer c)
 back:∀ (k:Nat) (o:Oper),ops[k]? = some o->∀ ed ∈ o.after,Region.binds .any ed=true->ed.on < k
structure LookEq (ops:Array Oper) (o:Oper) (a a':Act):Prop where
 size:a'.tmps.size=a.tmps.size
 val:∀ t ∈ o.looksAt ops,a'.tmps.getD t undef=a.tmps.getD t undef
theorem zFC {o:Oper} {a a':Act} (hs:∀ cs b,o.op≠.select cs b) (h:LookEq ops o a a'):execOp a'.eval o=execOp a.eval o:=
 execOp_congr o hs fun x hx=>by
  cases x with
  | tmp t=>exact h.val t (List.mem_append_left _ (List.mem_filterMap.2 ⟨.tmp t,by simpa using hx,rfl⟩))
  | _=>rfl
theorem zFH {a a':Array Value} (hs:a'.size=a.size) {t:Nat} (h:a'.getD t undef=a.getD t undef):a'[t]? = a[t]?:=by
 by_cases ht:t < a.size
 . have ht':t < a'.size:=by omega
   simp only [Array.getD_eq_getD_getElem?,Array.getElem?_eq_getElem ht,Array.getElem?_eq_getElem ht',Option.getD_some] at h;rw [Array.getElem?_eq_getElem ht,Array.getElem?_eq_getElem ht',h]
 . rw [Array.getElem?_eq_none (by omega),Array.getElem?_eq_none (by omega)]
theorem zAT {o:Oper} {a a':Act} (h:LookEq ops o a a'):Region.wanted o (yielded ops a'.tmps)=Region.wanted o (yielded ops a.tmps):=by
 unfold Region.wanted;cases hg:o.guard with
 | none=>rfl
 | some gw=>
  obtain ⟨g,want⟩:=gw;have hy:yielded ops a'.tmps g=yielded ops a.tmps g:=by
   unfold yielded;cases ht:(ops[g]?).bind (·.dst) with
   | none=>rfl
   | some t=>
    have:=zFH h.size (h.val t (by unfold Oper.looksAt; rw [hg]; simp [ht]));simp [this]
  simp only [hy]
def Yld (P:Program) (ops:Array Oper) (k:Nat) (v:Value) (a:Act) (w:World):Prop:=
 ∃ o,ops[k]? = some o/\((Region.wanted o (yielded ops a.tmps)=true/\(execOp a.eval o).run P w = .ok (.value v) w)\/(Region.wanted o (yielded ops a.tmps)=false/\v=undef))
theorem Yld.look {k:Nat} {v:Value} {a a':Act} {w:World} (st:Static ops) (h:Yld P ops k v a w) (hl:∀ o,ops[k]? = some o->LookEq ops o a a'):Yld P ops k v a' w:=by
 obtain ⟨o,ho,h⟩:=h;refine ⟨o,ho,?_⟩;rw [zAT (hl o ho),zFC (st.nosel k o ho).1 (hl o ho)];exact h
theorem Yld.wp {k:Nat} {v:Value} {a:Act} {w:World} {fr:Option Nat} {n:Nat} {K:Act->World->Prop} (st:Static ops) (h:Yld P ops k v a w) (hk:K (a.put (zt ops k) v) w):wpOpIn (fen fr) n P ops Q k K a w:=by
 obtain ⟨o,ho,h⟩:=h;have hd:zt ops k=o.dst:=by simp [zt,ho]
 rw [hd] at hk;unfold wpOpIn;simp only [ho];rcases h with ⟨h1,h2⟩ | ⟨h1,rfl⟩
 . simp only [h1,if_true];refine ⟨fun _ _=>trivial,?_⟩;rw [Oper.semAt_eq _ _ _ (st.nosel k o ho).2,h2];exact hk
 . simp only [h1,Bool.false_eq_true,if_false];exact ⟨fun _ _=>trivial,hk⟩
theorem zQ1 {i:Nat} {a a':Act} {w:World} {fr:Option Nat} {n:Nat} {K:Act->World->Prop} (st:Static ops) (hQ:∀ c a w,¬ Q (.panic c) a w) (hL:¬ LetsOut Q) (hi:i < ops.size) (hl:∀ o,ops[i]? = some o->LookEq ops o a a') (h:wpOpIn (fen fr) n P ops Q i K a w) :
 wpOpIn (fen fr) n P ops Q i (fun a1 w1=>∃ v ds,K (Act.put { a with defers:=ds++a.defers } (zt ops i) v) w1/\a1=Act.put { a' with defers:=ds++a'.defers } (zt ops i) v) a' w:=by
 obtain ⟨o,ho⟩:∃ o,ops[i]? = some o:=⟨_,Array.getElem?_eq_getElem hi⟩;have hd:zt ops i=o.dst:=by simp [zt,ho]
 have hns:=st.nosel i o ho;have hlo:=hl o ho;clear hl st;rw [hd];unfold wpOpIn at *;simp only [ho] at *;rw [zAT hlo];split
 . rename_i hw;rw [if_pos hw] at h;unfold Oper.wpIn at *;refine ⟨fun _ _=>trivial,?_⟩;have h:=h.2;rw [Oper.semAt_eq _ _ _ hns.2] at h ⊢;rw [zFC hns.1 hlo];generalize (execOp a.eval o).run P w=r at *;cases r with
   | ok x w'=>
    cases x <;> simp only [Oper.uponIn] at h ⊢ <;>
     first
      | exact ⟨_,[],h,rfl⟩
      | exact ⟨_,[_],h,rfl⟩
      | exact ⟨h.1,CallsIn.mono h.2 (fun e w'' he=>by
       cases e with
       | returned v=>exact ⟨_,[],he,rfl⟩
       | panicked c=>exact absurd he (hQ _ _ _)
       | outgrown=>exact he)⟩
      | exact ⟨h.1,RowsIn.mono h.2 (fun _ _ he=>⟨_,[],he,rfl⟩)⟩
      | exact ⟨h.1,RoundIn.mono h.2 (fun e w'' he=>by
       cases e with
       | returned v=>exact ⟨_,[],he,rfl⟩
       | panicked c=>exact absurd he (hQ _ _ _)
       | outgrown=>exact he)⟩
   | halt x w'=>cases x <;> simp only [Oper.uponIn] at h ⊢ <;> first | exact h | exact absurd h (hQ _ _ _)
 . rename_i hw;rw [if_neg hw] at h;exact ⟨fun _ _=>trivial,_,[],h.2,rfl⟩
theorem xC {a:Act} {d:Option Tmp} {v:Value} {t:Nat}:(a.put d v).tmps.getD t undef=if d=some t/\t < a.tmps.size then v else a.tmps.getD t undef:=by
 cases d with
 | none=>simp [Act.put]
 | some d=>
  simp only [Act.put,Option.some.injEq];by_cases e:d=t
  . subst e;by_cases ht:d < a.tmps.size
    . simp [Array.getD_eq_getD_getElem?,ht]
    . simp [Array.getD_eq_getD_getElem?,ht]
  . rw [if_neg (fun h=>e h.1)];simp [Array.getD_eq_getD_getElem?,Array.getElem?_setIfInBounds_ne e]
theorem xI {a:Act} {d:Option Tmp} {v:Value}:(a.put d v).tmps.size=a.tmps.size:=by cases d <;> simp [Act.put]
theorem zDm {a:Act} {d:Option Tmp} {v:Value}:(a.put d v).defers=a.defers:=by cases d <;> rfl
theorem zOI {a a':Act} (hs:a'.tmps.size=a.tmps.size) (hd:a'.defers=a.defers) (h:∀ t,a'.tmps.getD t undef=a.tmps.getD t undef):a' = a:=by
 obtain ⟨t,d⟩:=a;obtain ⟨t',d'⟩:=a';dsimp only at hs hd h;subst hd;congr;exact Array.ext_getElem? fun i=>zFH hs (h i)
def zEp (ops:Array Oper) (listed:Array Bool):List Nat:=(List.range ops.size).filter fun k=>!listed.getD k true
theorem zPs {listed:Array Bool} {j:Nat} (hj:j < ops.size) (h:listed.getD j true=false):(zEp ops (listed.setIfInBounds j true)).length < (zEp ops listed).length:=by
 unfold zEp;have e:((List.range ops.size).filter fun k=>!(listed.setIfInBounds j true).getD k true)=((List.range ops.size).filter fun k=>!listed.getD k true).filter fun k=>k != j:=by
  rw [List.filter_filter];refine List.filter_congr fun k _=>?_;by_cases hk:j=k
  . subst hk;have hlt:j < listed.size:=by
     rcases Nat.lt_or_ge j listed.size with h' | h'
     . exact h'
     . simp [Array.getElem?_eq_none h'] at h
    simp [hlt]
  . rw [getD_set_ne true hk]; simp [Ne.symm hk]
 rw [e];exact List.length_filter_lt_length_iff_exists.2 ⟨j,List.mem_filter.2 ⟨List.mem_range.2 hj,by rw [h]; rfl⟩,by simp⟩
theorem zEb {listed:Array Bool} {j k:Nat} (hj:j < listed.size) (d:Bool):(listed.setIfInBounds j true).getD k d=if k=j then true else listed.getD k d:=by
 by_cases e:j=k
 . subst e; simp [hj]
 . rw [getD_set_ne d e,if_neg (Ne.symm e)]
theorem zEF {listed:Array Bool} {k:Nat} (h:k < listed.size):listed.getD k true=listed.getD k false:=by simp [h]
theorem zQG (st:Static ops) {listed:Array Bool} (hlen:listed.size=ops.size) (h:Region.ready .any ops listed=[]):∀ k,k < ops.size->listed.getD k true=true:=by
 intro k
 induction k using Nat.strongRecOn with
 | ind k ih=>
  intro hk;cases hl:listed.getD k true with
  | true=>rfl
  | false=>
   have:k ∈ Region.ready .any ops listed:=by
    rw [mem_ready];refine ⟨hl,ops[k],Array.getElem?_eq_getElem hk,fun ed he hb=>?_⟩;have hlt:=st.back k _ (Array.getElem?_eq_getElem hk) ed he hb;rw [<- zEF (by omega)];exact ih _ hlt (by omega)
   rw [h] at this;cases this
end
end
section
open Go.RowKit
section
variable {P:Program} {B:Bs} {N:NM} {S:XS} {w:World} {D:Dat} {rc:XC}
noncomputable def xst (D:Dat) (e:Tr T) (S:XS) (o:Oper) (K:T->Bool):Bool:=
 match o.op with
 | .move x=>evK D.ng e x K
 | .assign x=>evK D.ng e x K
 | .pick c a b=>evK D.ng e c fun c=>(match c with
  | .bool t=>(match t with
   | true=>evK D.ng e a K
   | false=>evK D.ng e b K)
  | _=>false)
 | .load t a=>evK D.ng e a fun a=>zCJ D S t a fun y _=>K y
 | .nilCheck x=>evK D.ng e x fun x=>bif refB x then K x else false
 | .binOp op t x y _=>evK D.ng e x fun a=>evK D.ng e y fun b=>zIV D op t (zAL y) a b K
 | .unOp op _ x=>evK D.ng e x fun a=>xUn op a K
 | .convert f t x=>evK D.ng e x fun a=>zFr D S f t a K
 | .makeInterface t x=>evK D.ng e x fun a=>zCw D t a K
 | .slice t x lo hi mx=>evK D.ng e x fun x=>evoK D.ng e lo fun lo=>evoK D.ng e hi fun hi=>evoK D.ng e mx fun mx=>zFh D S t x lo hi mx K
 | .fieldAddr t x f=>evK D.ng e x fun x=>zA0 D t x f K
 | .field t x f=>evK D.ng e x fun x=>zFA D t x f K
 | .indexAddr t x i=>evK D.ng e x fun x=>evK D.ng e i fun i=>zA3 D S t x i K
 | .index t x i=>evK D.ng e x fun x=>evK D.ng e i fun i=>zFX D t x i K
 | .lookup t x i c=>evK D.ng e x fun x=>evK D.ng e i fun i=>zFY D S t x i c K
 | .extract x i=>evK D.ng e x fun x=>zCn x i K
 | .build t ps=>(match ps with | ⟨l⟩=>evpK D.ng e l fun ps=>zFV D t ps K)
 | .call c=>(match c.args with
  | ⟨l⟩=>(match c.callee with
   | .builtin b=>evsK D.ng e l fun args=>(match c.argTypes with
    | ⟨ts⟩=>(match args with
     | [x]=>(match b with
      | .len=>(match ts with | t::_=>xLen D S t x K | []=>false)
      | .cap=>(match ts with | t::_=>xCap D t x K | []=>false)
      | .unsafeSliceData=>xUSD S x K
      | _=>false)
     | [x,y]=>(match b with
      | .min=>xMin x y K
      | .max=>xMax x y K
      | _=>false)
     | _=>false))
   | _=>false))
 | _=>false
def zHU (o:Oper):Bool:=
 match o.op with
 | .move _=>true
 | .assign _=>true
 | .pick _ _ _=>true
 | .load _ _=>true
 | .nilCheck _=>true
 | .binOp _ _ _ _ _=>true
 | .unOp _ _ _=>true
 | .convert _ _ _=>true
 | .makeInterface _ _=>true
 | .slice _ _ _ _ _=>true
 | .fieldAddr _ _ _=>true
 | .field _ _ _=>true
 | .indexAddr _ _ _=>true
 | .index _ _ _=>true
 | .lookup _ _ _ _=>true
 | .extract _ _=>true
 | .build _ _=>true
 | .call c=>(match c.callee with
  | .builtin .len=>true
  | .builtin .cap=>true
  | .builtin .unsafeSliceData=>true
  | .builtin .min=>true
  | .builtin .max=>true
  | _=>false)
 | _=>false
theorem FinS.val {K:T->Bool} {s:Sem Value} (h:FinS P N S w K s):∃ x,K x=true/\((do pure (Next.value (<- s))):Sem Next).run P w = .ok (.value (tr N x)) w/\bd S.nl x:=by
 obtain ⟨x,h1,h2,h3⟩:=h;exact ⟨x,h1,y7 h2,h3⟩
theorem zLS (hD:DOk P D) (hng:D.ng=B.ng) (hs:HSim B N S w) {nt:Nat} {e:Tr T} {a:Act} (he:ESim N S.nl nt e a.tmps) {o:Oper} {K:T->Bool} (h:xst D e S o K=true):∃ x,K x=true/\(execOp a.eval o).run P w = .ok (.value (tr N x)) w/\bd S.nl x:=by
 unfold xst at h;rw [hng] at h;unfold execOp;have val:∀ {u:Value} {x:T},K x=true->u=tr N x->bd S.nl x->∃ x,K x=true/\(pure (.value u):Sem Next).run P w = .ok (.value (tr N x)) w/\bd S.nl x:=fun {u x} h1 h2 h3=>⟨x,h1,by rw [h2]; rfl,h3⟩;split at h <;> (try (rename_i hop; rw [hop])) <;> (try simp only)
 . obtain ⟨x,h1,h2,h3⟩:=zU hs he h;exact val h1 h2 h3
 . obtain ⟨x,h1,h2,h3⟩:=zU hs he h;exact val h1 h2 h3
 . rename_i c x y;obtain ⟨c',h1,h2,h3⟩:=zU hs he h;split at h1
   . rename_i t;have ht:a.eval c = .bool t:=h2;have hrun:∀ u v:Value,((do pure (.value (if <- asBool (a.eval c) then u else v))):Sem Next).run P w = .ok (.value (if t then u else v)) w:=fun u v=>by
      rw [ht]; simp [asBool]
     cases t with
     | true=>
      obtain ⟨x',q1,q2,q3⟩:=zU hs he h1;exact ⟨x',q1,by rw [hrun]; simp [q2],q3⟩
     | false=>
      obtain ⟨x',q1,q2,q3⟩:=zU hs he h1;exact ⟨x',q1,by rw [hrun]; simp [q2],q3⟩
   . cases h1
 . obtain ⟨x,h1,h2,h3⟩:=zU hs he h;rw [h2];obtain ⟨y,q1,q2,q3⟩:=zDQ hD hs h1;exact ⟨y,q1,y7 q2,q3⟩
 . obtain ⟨x,h1,h2,h3⟩:=zU hs he h;obtain ⟨h4,h5⟩:=zK h1;rw [h2];refine ⟨x,h5,?_,h3⟩;cases x <;> first | rfl | (simp [refB] at h4)
   rename_i f p q;cases f <;> first | rfl | (simp [refB] at h4)
 . obtain ⟨x,h1,h2,h3⟩:=zU hs he h;obtain ⟨y,h4,h5,h6⟩:=zU hs he h1;rw [h2,h5];exact (zMJ hD hs h4).val
 . obtain ⟨x,h1,h2,h3⟩:=zU hs he h;rw [h2];exact (zPb hs h1).val
 . obtain ⟨x,h1,h2,h3⟩:=zU hs he h;rw [h2];exact (zJk hD hs h1 h3).val
 . obtain ⟨x,h1,h2,h3⟩:=zU hs he h;rw [h2];exact (zGp hD hs h1 h3).val
 . obtain ⟨x,h1,h2,h3⟩:=zU hs he h;obtain ⟨lo,h4,h5,h6⟩:=zCX hs he h1;obtain ⟨hi,h7,h8,h9⟩:=zCX hs he h4;obtain ⟨mx,h10,h11,h12⟩:=zCX hs he h7;rw [h2,h5,h8,h11];exact (zJa hD hs h10 h3).val
 . obtain ⟨x,h1,h2,h3⟩:=zU hs he h;rw [h2];exact (zE3 hD hs h1 h3).val
 . obtain ⟨x,h1,h2,h3⟩:=zU hs he h;rw [h2];exact (zJZ hD hs h1 h3).val
 . obtain ⟨x,h1,h2,h3⟩:=zU hs he h;obtain ⟨y,h4,h5,h6⟩:=zU hs he h1;rw [h2,h5];exact (zE0 hD hs h4 h3).val
 . obtain ⟨x,h1,h2,h3⟩:=zU hs he h;obtain ⟨y,h4,h5,h6⟩:=zU hs he h1;rw [h2,h5];exact (zJm hD hs h4 h3).val
 . obtain ⟨x,h1,h2,h3⟩:=zU hs he h;obtain ⟨y,h4,h5,h6⟩:=zU hs he h1;rw [h2,h5];exact (zJ3 hD hs h4).val
 . obtain ⟨x,h1,h2,h3⟩:=zU hs he h;rw [h2];exact (zGh hs h1 h3).val
 . split at h;rename_i l;obtain ⟨ps,h1,h2,h3⟩:=zDg hs he h;have e1:((l.toArray).map fun (i,x)=>(i,a.eval x))=(ps.map fun p=>(p.1,tr N p.2)).toArray:=by
    rw [<- h2]; simp
   rw [show (Array.map (fun x=>match x with | (i,x)=>(i,a.eval x)) (Array.mk l))=(ps.map fun p=>(p.1,tr N p.2)).toArray from e1];exact (zJs hD hs h1 h3).val
 . rename_i c;split at h;rename_i l hl;have e1:∀ ys:List T,l.map a.eval=ys.map (tr N)->Array.map a.eval c.args=(ys.map (tr N)).toArray:=fun ys h=>by rw [hl,<- h]; simp
   split at h
   . rename_i b hc;obtain ⟨ys,h1,h2,h3⟩:=zBV hs he h;split at h1;rename_i ts hts;unfold resolve;simp only [hc,e1 ys h2,hts,pure_bind];split at h1
     . rename_i x;split at h1
       . split at h1
         . rename_i t r;exact (zNW hD hs h1 r _).val
         . cases h1
       . split at h1
         . rename_i t r;exact (zNS hD hs h1 r _).val
         . cases h1
       . exact (zOK hs h1 h3.1 _ _).val
       . cases h1
     . rename_i x y;split at h1
       . exact (zOM hs h1 _ _).val
       . exact (zN6 hs h1 _ _).val
       . cases h1
     . cases h1
   . cases h
 . cases h
def eqV (u v:Value):Bool:=
 match u,v with
 | .nilIface,.nilIface=>true
 | .pointer none,.pointer none=>true
 | .map none,.map none=>true
 | .slice none n c,.slice none n' c'=>Nat.beq n n' && Nat.beq c c'
 | _,_=>false
theorem eqV_ok {u v:Value} (h:eqV u v=true):u=v:=by
 unfold eqV at h;split at h
 . rfl
 . rfl
 . rfl
 . rw [Bool.and_eq_true] at h;rw [beq_iff.1 h.1,beq_iff.1 h.2]
 . cases h
noncomputable def eq0 (x y:T):Bool:=
 match x with
 | .atm u=>(match y with | .atm v=>eqV u v | _=>false)
 | .int k n=>(match y with | .int k' n'=>Nat.beq (Kd k) (Kd k') && ieqB n n' | _=>false)
 | .bool b=>(match y with | .bool c=>b == c | _=>false)
 | .str s=>(match y with | .str s'=>seqB s s' | _=>false)
 | .ptr l o=>(match y with | .ptr l' o'=>Nat.beq l l' && Nat.beq o o' | _=>false)
 | .sl l z a p n=>(match y with | .sl l' z' a' p' n'=>Nat.beq l l' && Nat.beq z z' && Nat.beq a a' && Nat.beq p p' && Nat.beq n n' | _=>false)
 | .slc l o n c=>(match y with | .slc l' o' n' c'=>Nat.beq l l' && Nat.beq o o' && Nat.beq n n' && Nat.beq c c' | _=>false)
 | .mp l=>(match y with | .mp l'=>Nat.beq l l' | _=>false)
 | .yl l=>(match y with | .yl l'=>Nat.beq l l' | _=>false)
 | _=>false
theorem zHR {x y:T} (h:eq0 x y=true) (N:NM):tr N x=tr N y:=by
 unfold eq0 at h;split at h <;> (try split at h) <;> try (cases h; done)
 . simp only [tr]; exact eqV_ok h
 . simp only [Bool.and_eq_true,zCg,beq_iff_eq] at h;rw [zHQ h.1,h.2]
 . rw [beq_iff_eq] at h; rw [h]
 . rw [jv,decide_eq_true_eq] at h;simp only [tr,bts,h]
 . simp only [Bool.and_eq_true,beq_iff] at h;rw [h.1,h.2]
 . simp only [Bool.and_eq_true,beq_iff] at h;rw [h.1.1.1.1,h.1.1.1.2,h.1.1.2,h.1.2,h.2]
 . simp only [Bool.and_eq_true,beq_iff] at h;rw [h.1.1.1,h.1.1.2,h.1.2,h.2]
 . rw [beq_iff.1 h]
 . rw [beq_iff.1 h]
noncomputable def eqs0 (a:List T):List T->Bool:=
 List.rec (motive:=fun _=>List T->Bool) (fun b=>List.casesOn (motive:=fun _=>Bool) b true fun _ _=>false)
  (fun x _ ih b=>List.casesOn (motive:=fun _=>Bool) b false fun y r=>eq0 x y && ih r) a
theorem zBN (N:NM):∀ {a b:List T},eqs0 a b=true->trs N a=trs N b
 | [],[],_=>rfl
 | [],_::_,h=>by cases h
 | _::_,[],h=>by cases h
 | x::a,y::b,h=>by
  have h:(eq0 x y && eqs0 a b)=true:=h;rw [Bool.and_eq_true] at h;simp only [trs];rw [zHR h.1 N,zBN N h.2]
noncomputable def eq1 (x y:T):Bool:=
 match x with
 | .agg a=>(match y with | .agg b=>eqs0 a b | _=>false)
 | x=>eq0 x y
theorem eq1_ok {x y:T} (h:eq1 x y=true) (N:NM):tr N x=tr N y:=by
 unfold eq1 at h;split at h
 . split at h
   . simp only [tr]; rw [zBN N h]
   . cases h
 . exact zHR h N
noncomputable def eqs1 (a:List T):List T->Bool:=
 List.rec (motive:=fun _=>List T->Bool) (fun b=>List.casesOn (motive:=fun _=>Bool) b true fun _ _=>false)
  (fun x _ ih b=>List.casesOn (motive:=fun _=>Bool) b false fun y r=>eq1 x y && ih r) a
theorem zNg (N:NM):∀ {a b:List T},eqs1 a b=true->trs N a=trs N b
 | [],[],_=>rfl
 | [],_::_,h=>by cases h
 | _::_,[],h=>by cases h
 | x::a,y::b,h=>by
  have h:(eq1 x y && eqs1 a b)=true:=h;rw [Bool.and_eq_true] at h;simp only [trs];rw [eq1_ok h.1 N,zNg N h.2]
noncomputable def eqT (x y:T):Bool:=
 match x with
 | .agg a=>(match y with | .agg b=>eqs0 a b | _=>false)
 | .tup a=>(match y with | .tup b=>eqs1 a b | _=>false)
 | .ifc t x=>(match y with | .ifc t' y=>Nat.beq t t' && eq0 x y | _=>false)
 | .fn f a b=>(match y with
  | .fn f' a' b'=>(match f with
   | .func n=>(match f' with
    | .func n'=>Nat.beq n n' && eqs0 a a' && eqs0 b b'
    | _=>false)
   | _=>false)
  | _=>false)
 | x=>eq0 x y
theorem zLj {x y:T} (h:eqT x y=true) (N:NM):tr N x=tr N y:=by
 unfold eqT at h;split at h
 . split at h
   . simp only [tr]; rw [zBN N h]
   . cases h
 . split at h
   . simp only [tr]; rw [zNg N h]
   . cases h
 . split at h
   . rw [Bool.and_eq_true] at h;simp only [tr]; rw [beq_iff.1 h.1,zHR h.2 N]
   . cases h
 . split at h
   . split at h
     . split at h
       . simp only [Bool.and_eq_true] at h;simp only [tr]; rw [beq_iff.1 h.1.1,zBN N h.1.2,zBN N h.2]
       . cases h
     . cases h
   . cases h
 . exact zHR h N
noncomputable def bitB (m k:Nat):Bool:=Nat.beq (Nat.land (Nat.shiftRight m k) 1) 1
noncomputable def addB (m k:Nat):Nat:=Nat.lor m (Nat.shiftLeft 1 k)
noncomputable def subB (m m':Nat):Bool:=Nat.beq (Nat.land m m') m
theorem zAj (m k:Nat):bitB m k=m.testBit k:=by
 unfold bitB;rw [Bool.eq_iff_iff,beq_iff];show (m >>> k) &&& 1=1↔_;unfold Nat.testBit;rw [Nat.and_comm];simp only [Nat.one_and_eq_mod_two,bne_iff_ne,ne_eq];omega
theorem kg (m k j:Nat):(addB m k).testBit j=(m.testBit j || decide (k=j)):=by
 unfold addB;show (m ||| (1 <<< k)).testBit j=_;rw [Nat.testBit_or,Nat.one_shiftLeft,Nat.testBit_two_pow]
theorem zLG {m m':Nat} (h:subB m m' = true) {k:Nat} (hk:m.testBit k=true):m'.testBit k=true:=by
 have h:=beq_iff.1 h;have h1:(m &&& m').testBit k=true:=by rw [show m &&& m' = m from h]; exact hk
 rw [Nat.testBit_and,Bool.and_eq_true] at h1;exact h1.2
end
end
section
open Go.RowKit
noncomputable def edgK (i:Nat) (mt:Tr Nat) (es:List Edge):Nat->(Nat->Bool)->Bool:=
 List.rec (motive:=fun _=>Nat->(Nat->Bool)->Bool) (fun m κ=>κ m) (fun ed _ ih m κ=>bif Region.binds .any ed then (bif Nat.blt ed.on i then (match mt.get ed.on with
  | some t=>fN (Nat.lor (addB m ed.on) t) fun m=>ih m κ
  | none=>false) else false) else ih m κ) es
def zEf (o:Oper):Bool:=
 match o.op with
 | .select _ _=>false
 | .defer _=>false
 | _=>true
noncomputable def mskK (l:List Oper):Nat->Tr Nat->Tr Nat->(Tr Nat->Tr Nat->Bool)->Bool:=
 List.rec (motive:=fun _=>Nat->Tr Nat->Tr Nat->(Tr Nat->Tr Nat->Bool)->Bool) (fun _ mt dt κ=>κ mt dt)
  (fun o _ ih i mt dt κ=>bif zEf o then edgK i mt o.after.toList 0 fun m=>Tr.setK m 40 mt i fun mt=>(match o.dst with
   | none=>fN (i+1) fun j=>ih j mt dt κ
   | some d=>(match dt.get d with
    | none=>Tr.setK i 40 dt d fun dt=>fN (i+1) fun j=>ih j mt dt κ
    | some _=>false)) else false) l
noncomputable def dirT (dt:Tr Nat) (m:Nat) (ts:List Tmp):Nat->(Nat->Bool)->Bool:=
 List.rec (motive:=fun _=>Nat->(Nat->Bool)->Bool) (fun d κ=>κ d) (fun t _ ih d κ=>(match dt.get t with
  | none=>ih d κ
  | some p=>bif bitB m p then ih d κ else fN (addB d p) fun d=>ih d κ)) ts
noncomputable def dirK (ops:Array Oper) (mt dt:Tr Nat) (l:List Oper):Nat->Nat->(Nat->Bool)->Bool:=
 List.rec (motive:=fun _=>Nat->Nat->(Nat->Bool)->Bool) (fun _ d κ=>κ d) (fun o _ ih i d κ=>(match mt.get i with
  | some m=>dirT dt m (o.looksAt ops) d fun d=>fN (i+1) fun j=>ih j d κ
  | none=>false)) l
noncomputable def zAW (p:Nat->Oper->Bool) (l:List Oper):Nat->(Nat->Oper->Bool)->Bool->Bool:=
 List.rec (motive:=fun _=>Nat->(Nat->Oper->Bool)->Bool->Bool) (fun _ _ κ0=>κ0) (fun o _ ih i κ κ0=>bif p i o then κ i o else fN (i+1) fun j=>ih j κ κ0) l
noncomputable def mB (mt:Tr Nat) (i:Nat) (κ:Nat->Bool):Bool:=
 match mt.get i with
 | some m=>κ m
 | none=>false
def isT0 (x:T):Bool:=
 match x with
 | .tup l=>(match l with | []=>true | _=>false)
 | _=>false
noncomputable def rchF (D:Dat) (nt:Nat) (dsts:List (Option Nat)) (m:Nat) (e:Tr T) (S:XS) (l:List (Nat×Oper×T)):(List (Nat×Oper×T)->Bool)->Bool:=
 List.rec (motive:=fun _=>(List (Nat×Oper×T)->Bool)->Bool) (fun κ=>κ []) (fun p _ ih κ=>bif bitB m p.1 then ih κ else bif (j8 nt dsts e p.2.1.guard fun wn=>bif wn then xst D e S p.2.1 (eqT p.2.2) else isT0 p.2.2) then ih (fun r=>κ (p::r)) else false) l
section
variable {P:Program} {B:Bs} {N:NM} {S:XS} {w:World} {D:Dat} {rc:XC}
theorem zJH {i:Nat} {mt:Tr Nat}:∀ {es:List Edge} {m:Nat} {κ:Nat->Bool},edgK i mt es m κ=true->∃ m',κ m' = true /\
 (∀ p,m'.testBit p=true->m.testBit p=true\/∃ ed ∈ es,Region.binds .any ed=true/\(p=ed.on\/∃ t,mt.get ed.on=some t/\t.testBit p=true)) /\
 (∀ p,m.testBit p=true->m'.testBit p=true)/\(∀ ed ∈ es,Region.binds .any ed=true->ed.on < i/\m'.testBit ed.on=true)
 | [],m,κ,h=>⟨m,h,fun p hp=>.inl hp,fun p hp=>hp,fun _ he=>by cases he⟩
 | ed::es,m,κ,h=>by
  have h:(bif Region.binds .any ed then (bif Nat.blt ed.on i then (match mt.get ed.on with
   | some t=>fN (Nat.lor (addB m ed.on) t) fun m=>edgK i mt es m κ
   | none=>false) else false) else edgK i mt es m κ)=true:=h
  cases hb:Region.binds .any ed with
  | false=>
   rw [hb,cond_false] at h;obtain ⟨m',h1,h2,h3,h4⟩:=zJH h;refine ⟨m',h1,fun p hp=>?_,h3,fun ed' he hb'=>?_⟩
   . rcases h2 p hp with q | ⟨ed',q1,q2⟩
     . exact .inl q
     . exact .inr ⟨ed',List.mem_cons_of_mem _ q1,q2⟩
   . rcases List.mem_cons.1 he with rfl | he
     . rw [hb] at hb'; cases hb'
     . exact h4 ed' he hb'
  | true=>
   rw [hb,cond_true] at h;obtain ⟨hlt,h⟩:=zK h;split at h
   . rename_i t ht;rw [zo] at h;obtain ⟨m',h1,h2,h3,h4⟩:=zJH h;have hor:∀ p,(Nat.lor (addB m ed.on) t).testBit p=(m.testBit p || decide (ed.on=p) || t.testBit p):=fun p=>by
      show ((addB m ed.on) ||| t).testBit p=_;rw [Nat.testBit_or,kg]
     refine ⟨m',h1,fun p hp=>?_,fun p hp=>h3 p (by rw [hor,hp]; rfl),fun ed' he hb'=>?_⟩
     . rcases h2 p hp with q | ⟨ed',q1,q2⟩
       . rw [hor] at q;simp only [Bool.or_eq_true,decide_eq_true_eq] at q;rcases q with (q | q) | q
         . exact .inl q
         . exact .inr ⟨ed,List.mem_cons_self ..,hb,.inl q.symm⟩
         . exact .inr ⟨ed,List.mem_cons_self ..,hb,.inr ⟨t,ht,q⟩⟩
       . exact .inr ⟨ed',List.mem_cons_of_mem _ q1,q2⟩
     . rcases List.mem_cons.1 he with rfl | he
       . exact ⟨blt_iff.1 hlt,h3 _ (by rw [hor]; simp)⟩
       . exact h4 ed' he hb'
   . cases h
structure MOk (ops:Array Oper) (n:Nat) (mt:Tr Nat):Prop where
 ex:∀ j,j < n->∃ m,mt.get j=some m
 bef:∀ j m,j < n->mt.get j=some m->∀ p,m.testBit p=true->Bef ops p j
 dir:∀ j m o,j < n->mt.get j=some m->ops[j]? = some o->∀ ed ∈ o.after,Region.binds .any ed=true->ed.on < j/\m.testBit ed.on=true
theorem zI5 {ops:Array Oper}:∀ {l:List Oper} {i:Nat} {mt dt:Tr Nat} {κ:Tr Nat->Tr Nat->Bool},(∀ k,l[k]? = ops[i+k]?)->i<=ops.size->MOk ops i mt->(∀ (j:Nat) (o:Oper),j < i->ops[j]? = some o->zEf o=true)->(∀ t p,dt.get t=some p↔p < i/\zt ops p=some t)->mskK l i mt dt κ=true ->
 ∃ mt' dt',κ mt' dt' = true/\MOk ops ops.size mt'/\(∀ (j:Nat) (o:Oper),ops[j]? = some o->zEf o=true)/\(∀ t p,dt'.get t=some p↔zt ops p=some t)
 | [],i,mt,dt,κ,hl,hi,hm,hn,hd,h=>by
  have hsz:i=ops.size:=by
   have:=hl 0;simp at this;omega
  subst hsz;refine ⟨mt,dt,h,hm,fun j o ho=>hn j o (Array.getElem?_eq_some_iff.1 ho).1 ho,fun t p=>?_⟩;rw [hd];refine ⟨fun q=>q.2,fun q=>⟨?_,q⟩⟩;unfold zt at q;cases ho:ops[p]? with
  | none=>rw [ho] at q; cases q
  | some o=>exact (Array.getElem?_eq_some_iff.1 ho).1
 | o::l,i,mt,dt,κ,hl,hi,hm,hn,hd,h=>by
  have h:(bif zEf o then edgK i mt o.after.toList 0 fun m=>Tr.setK m 40 mt i fun mt=>(match o.dst with
   | none=>fN (i+1) fun j=>mskK l j mt dt κ
   | some d=>(match dt.get d with
    | none=>Tr.setK i 40 dt d fun dt=>fN (i+1) fun j=>mskK l j mt dt κ
    | some _=>false)) else false)=true:=h
  have ho:ops[i]? = some o:=by simpa using (hl 0).symm
  have hsz:i < ops.size:=(Array.getElem?_eq_some_iff.1 ho).1;obtain ⟨h0,h⟩:=zK h;obtain ⟨m,h1,h2,_,h4⟩:=zJH h;obtain ⟨mt',h5,h6⟩:=Tr.setK_ok _ _ _ _ _ h1;have hl':∀ k,l[k]? = ops[i+1+k]?:=fun k=>by have:=hl (k+1); simpa [Nat.add_assoc,Nat.add_comm 1 k] using this
  have hm':MOk ops (i+1) mt':=by
   refine ⟨fun j hj=>?_,fun j mm hj hg p hp=>?_,fun j mm o' hj hg ho' ed he hb=>?_⟩
   . rw [h6];split
     . exact ⟨_,rfl⟩
     . exact hm.ex j (by omega)
   . rw [h6] at hg;split at hg
     . rename_i e; subst e;injection hg with hg; subst hg
       rcases h2 p hp with q | ⟨ed,q1,q2,q3⟩
       . simp at q
       . have q1':ed ∈ o.after:=by simpa using q1
         rcases q3 with rfl | ⟨t,q3,q4⟩
         . exact .one ho q1' q2 rfl
         . exact .more ho q1' q2 rfl (hm.bef _ t (h4 ed q1 q2).1 q3 p q4)
     . exact hm.bef j mm (by omega) hg p hp
   . rw [h6] at hg;split at hg
     . rename_i e; subst e;injection hg with hg; subst hg
       rw [ho] at ho'; injection ho' with ho'; subst ho'
       exact h4 ed (by simpa using he) hb
     . exact hm.dir j mm o' (by omega) hg ho' ed he hb
  have hn':∀ j o,j < i+1->ops[j]? = some o->zEf o=true:=fun j o' hj ho'=>by
   by_cases e:j=i
   . subst e; rw [ho] at ho'; injection ho' with ho'; subst ho'; exact h0
   . exact hn j o' (by omega) ho'
  have hdi:zt ops i=o.dst:=by simp [zt,ho]
  split at h5
  . rename_i hdst;rw [zo] at h5;refine zI5 hl' hsz hm' hn' (fun t p=>?_) h5;rw [hd];refine ⟨fun q=>⟨by omega,q.2⟩,fun q=>⟨?_,q.2⟩⟩;by_cases e:p=i
    . subst e; rw [hdi,hdst] at q; cases q.2
    . omega
  . rename_i d hdst;split at h5
    . rename_i hnone;obtain ⟨dt',h7,h8⟩:=Tr.setK_ok _ _ _ _ _ h5;rw [zo] at h7;refine zI5 hl' hsz hm' hn' (fun t p=>?_) h7;rw [h8];by_cases e:t=d
      . subst e;rw [if_pos rfl];constructor
        . intro q; injection q with q; subst q; exact ⟨by omega,by rw [hdi,hdst]⟩
        . rintro ⟨q1,q2⟩;by_cases e2:p=i
          . rw [e2]
          . have:=(hd t p).2 ⟨by omega,q2⟩;rw [hnone] at this; cases this
      . rw [if_neg e,hd];refine ⟨fun q=>⟨by omega,q.2⟩,fun q=>⟨?_,q.2⟩⟩;by_cases e2:p=i
        . subst e2; rw [hdi,hdst] at q; have:=q.2; injection this with this; exact absurd this.symm e
        . omega
    . cases h5
theorem zFx {dt:Tr Nat} {m:Nat}:∀ {ts:List Tmp} {d:Nat} {κ:Nat->Bool},dirT dt m ts d κ=true->∃ d',κ d' = true/\(∀ p,d.testBit p=true->d'.testBit p=true)/\∀ t ∈ ts,∀ p,dt.get t=some p->m.testBit p=true\/d'.testBit p=true
 | [],d,κ,h=>⟨d,h,fun _ h=>h,fun _ ht=>by cases ht⟩
 | t::ts,d,κ,h=>by
  have h:(match dt.get t with
   | none=>dirT dt m ts d κ
   | some p=>bif bitB m p then dirT dt m ts d κ else fN (addB d p) fun d=>dirT dt m ts d κ)=true:=h
  split at h
  . rename_i hn;obtain ⟨d',h1,h2,h3⟩:=zFx h;refine ⟨d',h1,h2,fun u hu p hp=>?_⟩;rcases List.mem_cons.1 hu with rfl | hu
    . rw [hn] at hp; cases hp
    . exact h3 u hu p hp
  . rename_i q hq;cases hb:bitB m q with
    | true=>
     rw [hb,cond_true] at h;obtain ⟨d',h1,h2,h3⟩:=zFx h;refine ⟨d',h1,h2,fun u hu p hp=>?_⟩;rcases List.mem_cons.1 hu with rfl | hu
     . rw [hq] at hp; injection hp with hp; subst hp
       rw [zAj] at hb; exact .inl hb
     . exact h3 u hu p hp
    | false=>
     rw [hb,cond_false,zo] at h;obtain ⟨d',h1,h2,h3⟩:=zFx h;refine ⟨d',h1,fun p hp=>h2 p (by rw [kg,hp]; rfl),fun u hu p hp=>?_⟩;rcases List.mem_cons.1 hu with rfl | hu
     . rw [hq] at hp; injection hp with hp; subst hp
       exact .inr (h2 _ (by rw [kg]; simp))
     . exact h3 u hu p hp
theorem zNh {ops:Array Oper} {mt dt:Tr Nat}:∀ {l:List Oper} {i d:Nat} {κ:Nat->Bool},(∀ k,l[k]? = ops[i+k]?)->dirK ops mt dt l i d κ=true->∃ d',κ d' = true/\(∀ p,d.testBit p=true->d'.testBit p=true)/\∀ k o,i<=k->ops[k]? = some o->∀ t ∈ o.looksAt ops,∀ p,dt.get t=some p->(∃ m,mt.get k=some m/\m.testBit p=true)\/d'.testBit p=true
 | [],i,d,κ,hl,h=>⟨d,h,fun _ h=>h,fun k o hk ho=>by
  exfalso;have:=hl (k - i);rw [show i+(k - i)=k from by omega,ho] at this;cases this⟩
 | o0::l,i,d,κ,hl,h=>by
  have h:(match mt.get i with
   | some m=>dirT dt m (o0.looksAt ops) d fun d=>fN (i+1) fun j=>dirK ops mt dt l j d κ
   | none=>false)=true:=h
  split at h
  case h_2=>cases h
  rename_i m hm;obtain ⟨d1,h1,h2,h3⟩:=zFx h;rw [zo] at h1;obtain ⟨d',h4,h5,h6⟩:=zNh (fun k=>by have:=hl (k+1); simpa [Nat.add_assoc,Nat.add_comm 1 k] using this) h1;refine ⟨d',h4,fun p hp=>h5 p (h2 p hp),fun k o hk ho t ht p hp=>?_⟩;by_cases e:k=i
  . subst e;have ho0:ops[k]? = some o0:=by simpa using (hl 0).symm
    rw [ho] at ho0; injection ho0 with ho0; subst ho0
    rcases h3 t ht p hp with q | q
    . exact .inl ⟨m,hm,q⟩
    . exact .inr (h5 p q)
  . exact h6 k o (by omega) ho t ht p hp
theorem zQw {ops:Array Oper} {mt dt:Tr Nat} (hm:MOk ops ops.size mt) (hn:∀ (j:Nat) (o:Oper),ops[j]? = some o->zEf o=true) (hd:∀ t p,dt.get t=some p↔zt ops p=some t):Static ops where
 nodup:=fun i j t h1 h2=>by
  have a:=(hd t i).2 h1;have b:=(hd t j).2 h2;rw [a] at b; injection b
 nosel:=fun k o ho=>by
  have:=hn k o ho;unfold zEf at this;exact ⟨fun cs b e=>(by rw [e] at this; cases this),fun c e=>(by rw [e] at this; cases this)⟩
 back:=fun k o ho ed he hb=>by
  have hk:=(Array.getElem?_eq_some_iff.1 ho).1;obtain ⟨m,h1⟩:=hm.ex k hk;exact (hm.dir k m o hk h1 ho ed he hb).1
theorem zCj {p:Nat->Oper->Bool}:∀ {l:List Oper} {i:Nat} {κ:Nat->Oper->Bool} {κ0:Bool},zAW p l i κ κ0=true->(∃ k o,l[k]? = some o/\p (i+k) o=true/\κ (i+k) o=true)\/((∀ k o,l[k]? = some o->p (i+k) o=false)/\κ0=true)
 | [],i,κ,κ0,h=>.inr ⟨fun k o ho=>(by simp at ho),h⟩
 | o::l,i,κ,κ0,h=>by
  have h:(bif p i o then κ i o else fN (i+1) fun j=>zAW p l j κ κ0)=true:=h;cases hp:p i o with
  | true=>rw [hp,cond_true] at h; exact .inl ⟨0,o,rfl,hp,h⟩
  | false=>
   rw [hp,cond_false,zo] at h;rcases zCj h with ⟨k,o',h1,h2,h3⟩ | ⟨h1,h2⟩
   . have e:i+1+k=i+(k+1):=by omega
     rw [e] at h2 h3;exact .inl ⟨k+1,o',by simpa using h1,h2,h3⟩
   . refine .inr ⟨fun k o' ho=>?_,h2⟩;cases k with
     | zero=>simp at ho; subst ho; exact hp
     | succ k=>have:=h1 k o' (by simpa using ho); rwa [show i+1+k=i+(k+1) from by omega] at this
theorem zUi {x:T} (h:isT0 x=true):x = .tup []:=by
 unfold isT0 at h;split at h
 . split at h
   . rfl
   . cases h
 . cases h
theorem zF4 (hD:DOk P D) (hng:D.ng=B.ng) (hs:HSim B N S w) {nt:Nat} {e:Tr T} {a:Act} (he:ESim N S.nl nt e a.tmps) {ops:Array Oper} {m:Nat}:∀ {l:List (Nat×Oper×T)} {κ:List (Nat×Oper×T)->Bool},rchF D nt (ops.toList.map (·.dst)) m e S l κ=true->κ (l.filter fun p=>!m.testBit p.1)=true/\∀ p ∈ l.filter (fun p=>!m.testBit p.1),ops[p.1]? = some p.2.1->Yld P ops p.1 (tr N p.2.2) a w
 | [],κ,h=>⟨h,fun _ hp=>by cases hp⟩
 | q::l,κ,h=>by
  have h:(bif bitB m q.1 then rchF D nt (ops.toList.map (·.dst)) m e S l κ else bif (j8 nt (ops.toList.map (·.dst)) e q.2.1.guard fun wn=>bif wn then xst D e S q.2.1 (eqT q.2.2) else isT0 q.2.2) then rchF D nt (ops.toList.map (·.dst)) m e S l (fun r=>κ (q::r)) else false)=true:=h;cases hb:bitB m q.1 with
  | true=>
   rw [hb,cond_true] at h;rw [zAj] at hb;rw [List.filter_cons_of_neg (by rw [hb]; simp)];exact zF4 hD hng hs he h
  | false=>
   rw [hb,cond_false] at h;rw [zAj] at hb;obtain ⟨h1,h2⟩:=zK h;obtain ⟨h3,h4⟩:=zF4 hD hng hs he h2;rw [List.filter_cons_of_pos (by rw [hb]; simp)];refine ⟨h3,fun p hp ho=>?_⟩;rcases List.mem_cons.1 hp with rfl | hp
   . have hw:=zAd he h1;refine ⟨p.2.1,ho,?_⟩;cases hwn:Region.wanted p.2.1 (yielded ops a.tmps) with
     | true=>
      rw [hwn,cond_true] at hw;obtain ⟨x,k1,k2,k3⟩:=zLS hD hng hs he hw;exact .inl ⟨rfl,by rw [k2,zLj k1 N]⟩
     | false=>
      rw [hwn,cond_false] at hw;exact .inr ⟨rfl,by rw [zUi hw]; rfl⟩
   . exact h4 p hp ho
theorem zEd (M i:Nat):(fun k=>(addB M i).testBit k=true)=fun k=>M.testBit k=true\/k=i:=by
 funext k
 rw [kg];simp only [Bool.or_eq_true,decide_eq_true_eq,eq_iff_iff];exact ⟨fun h=>h.imp id Eq.symm,fun h=>h.imp id Eq.symm⟩
def DQ (B:Bs) (nt:Nat) (N0:NM) (S0:XS) (w0:World) (ds:List DE) (K:Tr T->XS->Bool):Exit->Act->World->Prop:=fun ex a' w'=>
 ex = .normal/\∃ N' e' S',K e' S' = true/\Sm B nt N' e' S' ds a' w'/\Stp B N0 S0 w0 N' S' w'
end
end
section
open Go.RowKit
abbrev Fam:=(Nat->Prop)->Act->World->Prop
def zBE (I:Fam):Prop:=∀ X a w ob,I X a w->I (fun b=>X b\/b=w.heap.size) a (w.alloc ob)
def Fam.put (I:Fam) (d:Option Tmp) (v:Value):Fam:=fun X a w=>∃ a0,a=a0.put d v/\I X a0 w
theorem Fam.put_ok {I:Fam} (h:zBE I) (d:Option Tmp) (v:Value):zBE (I.put d v):=fun X _ w ob ⟨a0,e,q⟩=>⟨a0,e,h X a0 w ob q⟩
section
variable {P:Program} {ops:Array Oper} {Q:Exit->Act->World->Prop}
def Alc (P:Program) (ops:Array Oper) (k:Nat) (mk:Nat->Value) (ob:Obj) (a:Act) (w:World):Prop:=
 ∃ o,ops[k]? = some o/\Region.wanted o (yielded ops a.tmps)=true/\(execOp a.eval o).run P w = .ok (.value (mk w.heap.size)) (w.alloc ob)
theorem Alc.look {k:Nat} {mk:Nat->Value} {ob:Obj} {a a':Act} {w:World} (st:Static ops) (h:Alc P ops k mk ob a w) (hl:∀ o,ops[k]? = some o->LookEq ops o a a'):Alc P ops k mk ob a' w:=by
 obtain ⟨o,ho,h1,h2⟩:=h;refine ⟨o,ho,?_⟩;rw [zAT (hl o ho),zFC (st.nosel k o ho).1 (hl o ho)];exact ⟨h1,h2⟩
theorem Alc.wp {k:Nat} {mk:Nat->Value} {ob:Obj} {a:Act} {w:World} {fr:Option Nat} {n:Nat} {K:Act->World->Prop} (st:Static ops) (h:Alc P ops k mk ob a w) (hk:K (a.put (zt ops k) (mk w.heap.size)) (w.alloc ob)):wpOpIn (fen fr) n P ops Q k K a w:=by
 obtain ⟨o,ho,h1,h2⟩:=h;have hd:zt ops k=o.dst:=by simp [zt,ho]
 rw [hd] at hk;unfold wpOpIn;simp only [ho,h1,if_true];refine ⟨fun _ _=>trivial,?_⟩;rw [Oper.semAt_eq _ _ _ (st.nosel k o ho).2,h2];exact hk
def zCQ (ops:Array Oper) (i:Nat):Prop:=∀ (k:Nat) (o:Oper) (t:Tmp),ops[k]? = some o->t ∈ o.looksAt ops->zt ops i=some t->Bef ops i k
def CanF (P:Program) (ops:Array Oper) (fr:Option Nat) (Q:Exit->Act->World->Prop):Nat->(Nat->Prop)->List (Nat×Value)->List (Nat×(Nat->Value)×Obj)->Fam->Prop
 | 0,M,_,_,I=>(∀ k,k < ops.size->M k)/\∀ X a w,I X a w->Q .normal a w
 | f+1,M,pend,preps,I=>CanF P ops fr Q f M pend preps I\/((∀ k,k < ops.size->M k)/\∀ X a w,I X a w->Q .normal a w) \/
  (∃ i,i < ops.size/\¬ M i/\PreIn ops M i/\(∀ q ∈ preps,q.1≠i) /\
   ((∃ v,zCQ ops i/\(∀ X a w,I X a w->Yld P ops i v a w)/\CanF P ops fr Q f (fun k=>M k\/k=i) ((i,v)::pend) preps (I.put (zt ops i) v)) \/
    (∃ (mk:Nat->Value) (ob:Obj) (I1:Fam),zCQ ops i/\zBE I1/\(∀ X a w,I X a w->I1 X a w)/\(∀ p ∈ pend,∀ X a w,I1 X a w->Yld P ops p.1 p.2 a w)/\(∀ q ∈ (i,mk,ob)::preps,∀ X a w,I1 X a w->Alc P ops q.1 q.2.1 q.2.2 a w)/\CanF P ops fr Q f M pend ((i,mk,ob)::preps) I1) \/
    ((∀ k,k < ops.size->¬ M k->(∀ q ∈ preps,q.1≠k)->k≠i->Bef ops i k) /\
     ∀ X a w,I X a w->wpOpIn (fen fr) 0 P ops Q i (fun a1 w1=>∃ (I1:Fam) (pend1:List (Nat×Value)),(preps≠[]->zBE I1)/\I1 X a1 w1/\(∀ b,X b->w1.heap[b]? = w.heap[b]?) /\
      (∀ p ∈ pend,Bef ops p.1 i\/(p ∈ pend1/\∀ X a w,I1 X a w->Yld P ops p.1 p.2 a w))/\(∀ q ∈ preps,∀ X a w,I1 X a w->Alc P ops q.1 q.2.1 q.2.2 a w) /\
      CanF P ops fr Q f (fun k=>M k\/k=i) pend1 preps I1) a w))) \/
  (∃ i mk ob,(i,mk,ob) ∈ preps/\¬ M i/\(∀ k,k < ops.size->¬ M k->(∀ q ∈ preps,q.1≠k)->Bef ops i k) /\
   ∀ X a w b,I X a w->X b->w.heap[b]? = some ob->∃ I1:Fam,((preps.filter fun q=>q.1 != i)≠[]->zBE I1)/\I1 (fun c=>X c/\c≠b) (a.put (zt ops i) (mk b)) w /\
    (∀ p ∈ pend,∀ X a w,I1 X a w->Yld P ops p.1 p.2 a w)/\(∀ q ∈ preps,q.1≠i->∀ X a w,I1 X a w->Alc P ops q.1 q.2.1 q.2.2 a w) /\
    CanF P ops fr Q f (fun k=>M k\/k=i) pend (preps.filter fun q=>q.1 != i) I1)
theorem CanF.mono {fr:Option Nat}:∀ {f:Nat} {M:Nat->Prop} {pend:List (Nat×Value)} {preps:List (Nat×(Nat->Value)×Obj)} {I I':Fam},(∀ X a w,I' X a w->I X a w)->CanF P ops fr Q f M pend preps I->CanF P ops fr Q f M pend preps I'
 | 0,M,pend,preps,I,I',hI,h=>⟨h.1,fun X a w q=>h.2 X a w (hI _ _ _ q)⟩
 | f+1,M,pend,preps,I,I',hI,h=>by
  rcases h with h | h | ⟨i,h1,h2,h3,h4,h5⟩ | ⟨i,mk,ob,h1,h2,h3,h4⟩
  . exact .inl (CanF.mono hI h)
  . exact .inr (.inl ⟨h.1,fun X a w q=>h.2 X a w (hI _ _ _ q)⟩)
  . refine .inr (.inr (.inl ⟨i,h1,h2,h3,h4,?_⟩));rcases h5 with ⟨v,hc,h5,h6⟩ | ⟨mk,ob,I1,hc,k1,k2,k3⟩ | ⟨h5,h6⟩
    . refine .inl ⟨v,hc,fun X a w q=>h5 X a w (hI _ _ _ q),CanF.mono ?_ h6⟩;rintro X a w ⟨a0,e,q⟩;exact ⟨a0,e,hI _ _ _ q⟩
    . exact .inr (.inl ⟨mk,ob,I1,hc,k1,fun X a w q=>k2 X a w (hI _ _ _ q),k3⟩)
    . exact .inr (.inr ⟨h5,fun X a w q=>h6 X a w (hI _ _ _ q)⟩)
  . exact .inr (.inr (.inr ⟨i,mk,ob,h1,h2,h3,fun X a w b q=>h4 X a w b (hI _ _ _ q)⟩))
structure CanJ (P:Program) (ops:Array Oper) (M U:Nat->Prop) (E:Nat->Option Nat) (pend:List (Nat×Value)) (preps:List (Nat×(Nat->Value)×Obj)) (listed:Array Bool) (X:Nat->Prop) (a a':Act) (w:World) (I:Fam):Prop where
 mem:I X a w
 fok:preps≠[]->zBE I
 lst:∀ k,k < ops.size->(listed.getD k true=true↔(M k/\¬ U k)\/∃ b,E k=some b)
 len:listed.size=ops.size
 clM:jq ops M
 clL:jq ops fun k=>listed.getD k false=true
 sub:∀ k,U k->M k/\k < ops.size
 size:a'.tmps.size=a.tmps.size
 df:a'.defers=a.defers
 agr:∀ t,(∀ k,U k->zt ops k≠some t)->(∀ k b,E k=some b->zt ops k≠some t)->a'.tmps.getD t undef=a.tmps.getD t undef
 yld:∀ k,U k->∃ v,(k,v) ∈ pend/\(∀ X a w,I X a w->Yld P ops k v a w)/\∀ t,zt ops k=some t->t < a.tmps.size->a.tmps.getD t undef=v
 pre:∀ q ∈ preps,q.1 < ops.size/\¬ M q.1/\PreIn ops M q.1
 dis:∀ q ∈ preps,∀ q' ∈ preps,q.1=q'.1->q=q'
 cln:∀ k,U k->zCQ ops k
 cle:∀ q ∈ preps,zCQ ops q.1
 alc:∀ q ∈ preps,∀ X a w,I X a w->Alc P ops q.1 q.2.1 q.2.2 a w
 ear:∀ k b,E k=some b->∃ mk ob,(k,mk,ob) ∈ preps/\X b/\w.heap[b]? = some ob/\∀ t,zt ops k=some t->t < a.tmps.size->a'.tmps.getD t undef=mk b
 one:∀ k k' b,E k=some b->E k' = some b->k=k'
section
variable {M U:Nat->Prop} {E:Nat->Option Nat} {pend:List (Nat×Value)} {preps:List (Nat×(Nat->Value)×Obj)} {listed:Array Bool} {X:Nat->Prop} {a a':Act} {w:World} {I:Fam}
theorem CanJ.eM (h:CanJ P ops M U E pend preps listed X a a' w I) {k b:Nat} (hk:E k=some b):k < ops.size/\¬ M k/\PreIn ops M k:=by
 obtain ⟨mk,ob,h1,_⟩:=h.ear k b hk;exact h.pre _ h1
theorem CanJ.nU (h:CanJ P ops M U E pend preps listed X a a' w I) {k:Nat} (hk:U k):listed.getD k false=false:=by
 obtain ⟨hM,hs⟩:=h.sub k hk;rw [<- zEF (by rw [h.len]; exact hs)];cases hl:listed.getD k true with
 | false=>rfl
 | true=>
  rcases (h.lst k hs).1 hl with q | ⟨b,q⟩
  . exact absurd hk q.2
  . exact absurd hM (h.eM q).2.1
theorem CanJ.look (h:CanJ P ops M U E pend preps listed X a a' w I) {j:Nat} (hL:PreIn ops (fun k=>listed.getD k false=true) j) (hM:PreIn ops M j):∀ o,ops[j]? = some o->LookEq ops o a a':=fun o ho=>
 ⟨h.size,fun t ht=>h.agr t (fun k hk e=>by
  have:=(h.cln k hk j o t ho ht e).pre h.clL hL;rw [h.nU hk] at this; cases this) (fun k b hk e=>(h.eM hk).2.1 (by
   obtain ⟨_,_,q1,_⟩:=h.ear k b hk;exact (h.cle _ q1 j o t ho ht e).pre h.clM hM))⟩
theorem setL (hcl:jq ops fun k=>listed.getD k false=true) {j:Nat} {oj:Oper} (hoj:ops[j]? = some oj) (hjz:j < listed.size) (hjp:∀ ed ∈ oj.after,Region.binds .any ed=true->listed.getD ed.on false=true):jq ops fun k=>(listed.setIfInBounds j true).getD k false=true:=by
 intro k o ho hk ed he hb;rw [zEb hjz] at hk ⊢;split at hk
 . rename_i e; subst e;rw [hoj] at ho; injection ho with ho; subst ho
   split
   . rfl
   . exact hjp ed he hb
 . split
   . rfl
   . exact hcl k o ho hk ed he hb
theorem CanJ.runU (st:Static ops) (h:CanJ P ops M U E pend preps listed X a a' w I) {j:Nat} {fr:Option Nat} {n:Nat} {K:Act->World->Prop} (hj:U j) (hcl:jq ops fun k=>(listed.setIfInBounds j true).getD k false=true) (hL:PreIn ops (fun k=>listed.getD k false=true) j)
 (hk:∀ v,CanJ P ops M (fun k=>U k/\k≠j) E pend preps (listed.setIfInBounds j true) X a (a'.put (zt ops j) v) w I->K (a'.put (zt ops j) v) w):wpOpIn (fen fr) n P ops Q j K a' w:=by
 obtain ⟨hM,hjs⟩:=h.sub j hj;obtain ⟨v,h1,h2,h3⟩:=h.yld j hj;have hjz:j < listed.size:=by rw [h.len]; exact hjs
 have hpM:PreIn ops M j:=fun o ho ed he hb=>h.clM j o ho hM ed he hb;refine ((h2 _ _ _ h.mem).look st (h.look hL hpM)).wp st (hk v ⟨h.mem,h.fok,fun k hk=>?_,by simp [h.len],h.clM,hcl,fun k hk=>h.sub k hk.1,by rw [xI]; exact h.size,by rw [zDm]; exact h.df,fun t ht hte=>?_,fun k hk=>h.yld k hk.1,h.pre,h.dis,fun k hk=>h.cln k hk.1,h.cle,h.alc,fun k b hkE=>?_,h.one⟩)
 . rw [zEb hjz];split
   . rename_i e; subst e; exact ⟨fun _=>.inl ⟨hM,fun e=>e.2 rfl⟩,fun _=>rfl⟩
   . rename_i e;rw [h.lst k hk];exact ⟨fun q=>q.imp (fun q=>⟨q.1,fun e'=>q.2 e'.1⟩) id,fun q=>q.imp (fun q=>⟨q.1,fun e'=>q.2 ⟨e',e⟩⟩) id⟩
 . rw [xC];split
   . rename_i e; exact (h3 t e.1 (by rw [<- h.size]; exact e.2)).symm
   . rename_i e;by_cases he:zt ops j=some t
     . have hz:¬ t < a'.tmps.size:=fun q=>e ⟨he,q⟩;have hz':¬ t < a.tmps.size:=by rw [<- h.size]; exact hz
       simp [Array.getD_eq_getD_getElem?,hz,hz']
     . exact h.agr t (fun k hk e'=>by
        by_cases hkj:k=j
        . subst hkj; exact he e'
        . exact ht k ⟨hk,hkj⟩ e') hte
 . obtain ⟨mk,ob,q1,q2,q3,q4⟩:=h.ear k b hkE;refine ⟨mk,ob,q1,q2,q3,fun t e hz=>?_⟩;rw [xC,if_neg]
   . exact q4 t e hz
   . rintro ⟨e',_⟩;have:=st.nodup _ _ _ e e';exact (h.eM hkE).2.1 (this ▸ hM)
theorem CanJ.runE (st:Static ops) (h:CanJ P ops M U E pend preps listed X a a' w I) {j:Nat} {fr:Option Nat} {n:Nat} {K:Act->World->Prop} {mk:Nat->Value} {ob:Obj} (hj:(j,mk,ob) ∈ preps) (hE:E j=none) (hcl:jq ops fun k=>(listed.setIfInBounds j true).getD k false=true) (hL:PreIn ops (fun k=>listed.getD k false=true) j)
 (hk:CanJ P ops M U (fun k=>if k=j then some w.heap.size else E k) pend preps (listed.setIfInBounds j true) (fun b=>X b\/b=w.heap.size) a (a'.put (zt ops j) (mk w.heap.size)) (w.alloc ob) I->K (a'.put (zt ops j) (mk w.heap.size)) (w.alloc ob)):wpOpIn (fen fr) n P ops Q j K a' w:=by
 obtain ⟨hjs,hM,hpM⟩:=h.pre _ hj;have hjz:j < listed.size:=by rw [h.len]; exact hjs
 have hold:∀ {b ob'},w.heap[b]? = some ob'->(w.alloc ob).heap[b]? = some ob':=fun {b ob'} q=>by
  have hb:=(Array.getElem?_eq_some_iff.1 q).1;show (w.heap.push ob)[b]? = _;rw [Array.getElem?_push_lt hb,<- q,Array.getElem?_eq_getElem hb]
 have hnew:(w.alloc ob).heap[w.heap.size]? = some ob:=by
  show (w.heap.push ob)[w.heap.size]? = _;simp
 refine ((h.alc _ hj _ _ _ h.mem).look st (h.look hL hpM)).wp st (hk ⟨h.fok (List.ne_nil_of_mem hj) _ _ _ ob h.mem,h.fok,fun k hk=>?_,by simp [h.len],h.clM,hcl,h.sub,by rw [xI]; exact h.size,by rw [zDm]; exact h.df,fun t ht hte=>?_,h.yld,h.pre,h.dis,h.cln,h.cle,h.alc,fun k b hk=>?_,fun k k' b q1 q2=>?_⟩)
 . rw [zEb hjz];by_cases e:k=j
   . subst e; simp
   . simp only [e,if_false]; exact h.lst k hk
 . rw [xC,if_neg]
   . refine h.agr t ht fun k b hk=>hte k (if k=j then w.heap.size else b) ?_;by_cases e:k=j
     . simp [e]
     . simp [e,hk]
   . rintro ⟨e,_⟩;exact hte j w.heap.size (by simp) e
 . by_cases e:k=j
   . subst e;simp only [if_true,Option.some.injEq] at hk;subst hk;refine ⟨mk,ob,hj,.inr rfl,hnew,fun t e hz=>?_⟩;rw [xC,if_pos ⟨e,by rw [h.size]; exact hz⟩]
   . simp only [e,if_false] at hk;obtain ⟨mk',ob',q1,q2,q3,q4⟩:=h.ear k b hk;refine ⟨mk',ob',q1,.inl q2,hold q3,fun t e1 hz=>?_⟩;rw [xC,if_neg]
     . exact q4 t e1 hz
     . rintro ⟨e',_⟩;exact e (st.nodup _ _ _ e1 e')
 . have lt:∀ {k},E k=some w.heap.size->False:=fun {k} q=>by
    obtain ⟨_,_,_,_,q3,_⟩:=h.ear k _ q;have:=(Array.getElem?_eq_some_iff.1 q3).1;omega
   by_cases e:k=j <;> by_cases e':k' = j
   . rw [e,e']
   . simp only [e,e',if_true,if_false,Option.some.injEq] at q1 q2;subst q1; exact (lt q2).elim
   . simp only [e,e',if_true,if_false,Option.some.injEq] at q1 q2;subst q2; exact (lt q1).elim
   . simp only [e,e',if_false] at q1 q2;exact h.one k k' b q1 q2
theorem zIt (hc:jq ops M) {i:Nat} (hp:PreIn ops M i):jq ops fun k=>M k\/k=i:=by
 intro k o ho hk ed he hb;rcases hk with hk | rfl
 . exact .inl (hc k o ho hk ed he hb)
 . exact .inl (hp o ho ed he hb)
theorem zJJ {i j:Nat} (hp:PreIn ops M j):PreIn ops (fun k=>M k\/k=i) j:=fun o ho ed he hb=>.inl (hp o ho ed he hb)
theorem PreIn.closed {i:Nat} (hc:jq ops M) (hp:M i):PreIn ops M i:=fun o ho ed he hb=>hc i o ho hp ed he hb
theorem CanJ.still (st:Static ops) (h:CanJ P ops M U E pend preps listed X a a' w I) {i:Nat} {v:Value} (h1:i < ops.size) (h2:¬ M i) (h3:PreIn ops M i) (h4:∀ q ∈ preps,q.1≠i) (hc:zCQ ops i) (hy:∀ X a w,I X a w->Yld P ops i v a w) :
 CanJ P ops (fun k=>M k\/k=i) (fun k=>U k\/k=i) E ((i,v)::pend) preps listed X (a.put (zt ops i) v) a' w (I.put (zt ops i) v):=by
 have hUi:¬ U i:=fun q=>h2 (h.sub i q).1;have hEi:∀ b,E i≠some b:=fun b q=>by
  obtain ⟨_,_,q1,_⟩:=h.ear i b q;exact h4 _ q1 rfl
 have lk:∀ {k:Nat} (a:Act) (o:Oper),ops[k]? = some o->¬ Bef ops i k->LookEq ops o a (a.put (zt ops i) v):=fun {k} a o ho hn=>⟨xI,fun t ht=>by
  rw [xC,if_neg];rintro ⟨e,_⟩;exact hn (hc k o t ho ht e)⟩
 refine ⟨⟨a,rfl,h.mem⟩,fun hn=>Fam.put_ok (h.fok hn) _ _,fun k hk=>?_,h.len,zIt h.clM h3,h.clL,fun k hk=>?_,by rw [xI]; exact h.size,by rw [zDm]; exact h.df,fun t ht hte=>?_,fun k hk=>?_,fun q hq=>⟨(h.pre q hq).1,fun e=>e.elim (h.pre q hq).2.1 (h4 q hq),zJJ (h.pre q hq).2.2⟩,h.dis,fun k hk=>hk.elim (h.cln k) (fun e=>e ▸ hc),h.cle,fun q hq=>?_,fun k b hk=>?_,h.one⟩
 . rw [h.lst k hk];constructor
   . rintro (⟨q1,q2⟩ | q)
     . exact .inl ⟨.inl q1,fun q=>q.elim q2 fun e=>h2 (e ▸ q1)⟩
     . exact .inr q
   . rintro (⟨q1,q2⟩ | q)
     . exact .inl ⟨q1.resolve_right fun e=>q2 (.inr e),fun q=>q2 (.inl q)⟩
     . exact .inr q
 . rcases hk with hk | rfl
   . exact ⟨.inl (h.sub k hk).1,(h.sub k hk).2⟩
   . exact ⟨.inr rfl,h1⟩
 . rw [xC,if_neg (fun e=>ht i (.inr rfl) e.1)];exact h.agr t (fun k hk=>ht k (.inl hk)) hte
 . rcases hk with hk | rfl
   . obtain ⟨u,q1,q2,q3⟩:=h.yld k hk;refine ⟨u,List.mem_cons_of_mem _ q1,?_,fun t e hz=>?_⟩
     . rintro X _ w ⟨a0,rfl,hI⟩;exact (q2 _ _ _ hI).look st fun o ho=>lk a0 o ho fun hb=>h2 (hb.closed h.clM (h.sub k hk).1)
     . rw [xC,if_neg]
       . exact q3 t e (by rwa [xI] at hz)
       . rintro ⟨e',_⟩;have:=st.nodup _ _ _ e e';subst this;exact hUi hk
   . refine ⟨v,List.mem_cons_self ..,?_,fun t e hz=>?_⟩
     . rintro X _ w ⟨a0,rfl,hI⟩;exact (hy _ _ _ hI).look st fun o ho=>lk a0 o ho fun hb=>h2 (hb.pre h.clM h3)
     . rw [xC,if_pos ⟨e,by rwa [xI] at hz⟩]
 . rintro X _ w ⟨a0,rfl,hI⟩;exact (h.alc q hq _ _ _ hI).look st fun o ho=>lk a0 o ho fun hb=>h2 (hb.pre h.clM (h.pre q hq).2.2)
 . obtain ⟨mk,ob,q1,q2,q3,q4⟩:=h.ear k b hk;exact ⟨mk,ob,q1,q2,q3,fun t e hz=>q4 t e (by rwa [xI] at hz)⟩
theorem CanJ.prep (h:CanJ P ops M U E pend preps listed X a a' w I) {i:Nat} {mk:Nat->Value} {ob:Obj} (h1:i < ops.size) (h2:¬ M i) (h3:PreIn ops M i) (h4:∀ q ∈ preps,q.1≠i) (hc:zCQ ops i) {I1:Fam} (hok:zBE I1) (hI:∀ X a w,I X a w->I1 X a w)
 (hp:∀ p ∈ pend,∀ X a w,I1 X a w->Yld P ops p.1 p.2 a w) (hq:∀ q ∈ (i,mk,ob)::preps,∀ X a w,I1 X a w->Alc P ops q.1 q.2.1 q.2.2 a w) :
 CanJ P ops M U E pend ((i,mk,ob)::preps) listed X a a' w I1 where
 mem:=hI _ _ _ h.mem
 fok:=fun _=>hok
 lst:=h.lst
 len:=h.len
 clM:=h.clM
 clL:=h.clL
 sub:=h.sub
 size:=h.size
 df:=h.df
 agr:=h.agr
 yld:=fun k hk=>by
  obtain ⟨v,q1,_,q3⟩:=h.yld k hk;exact ⟨v,q1,hp _ q1,q3⟩
 pre:=fun q hq=>by
  rcases List.mem_cons.1 hq with rfl | hq
  . exact ⟨h1,h2,h3⟩
  . exact h.pre q hq
 dis:=fun q hq q' hq' e=>by
  rcases List.mem_cons.1 hq with rfl | hq <;> rcases List.mem_cons.1 hq' with rfl | hq'
  . rfl
  . exact absurd e.symm (h4 q' hq')
  . exact absurd e (h4 q hq)
  . exact h.dis q hq q' hq' e
 cln:=h.cln
 cle:=fun q hq=>by
  rcases List.mem_cons.1 hq with rfl | hq
  . exact hc
  . exact h.cle q hq
 alc:=hq
 ear:=fun k b hk=>by
  obtain ⟨mk',ob',q1,q⟩:=h.ear k b hk;exact ⟨mk',ob',List.mem_cons_of_mem _ q1,q⟩
 one:=h.one
theorem CanJ.commit (st:Static ops) (h:CanJ P ops M U E pend preps listed X a a' w I) {i b:Nat} {mk:Nat->Value} {ob:Obj} (hi:(i,mk,ob) ∈ preps) (hE:E i=some b) {I1:Fam} (hok:(preps.filter fun q=>q.1 != i)≠[]->zBE I1) (hmem:I1 (fun c=>X c/\c≠b) (a.put (zt ops i) (mk b)) w)
 (hp:∀ p ∈ pend,∀ X a w,I1 X a w->Yld P ops p.1 p.2 a w) (hq:∀ q ∈ preps,q.1≠i->∀ X a w,I1 X a w->Alc P ops q.1 q.2.1 q.2.2 a w) :
 CanJ P ops (fun k=>M k\/k=i) U (fun k=>if k=i then none else E k) pend (preps.filter fun q=>q.1 != i) listed (fun c=>X c/\c≠b) (a.put (zt ops i) (mk b)) a' w I1:=by
 obtain ⟨h1,h2,h3⟩:=h.eM hE;have hUi:¬ U i:=fun q=>h2 (h.sub i q).1;have hin:∀ {q},q ∈ preps.filter (fun q=>q.1 != i)->q ∈ preps/\q.1≠i:=fun {q} hq=>by
  obtain ⟨q1,q2⟩:=List.mem_filter.1 hq;exact ⟨q1,by simpa using q2⟩
 obtain ⟨mk0,ob0,e1,e2,e3,e4⟩:=h.ear i b hE;have hmk:mk0=mk:=by
  have:=h.dis _ e1 _ hi rfl;injection this with _ this; injection this
 subst hmk;refine ⟨hmem,hok,fun k hk=>?_,h.len,zIt h.clM h3,h.clL,fun k hk=>⟨.inl (h.sub k hk).1,(h.sub k hk).2⟩,by rw [xI]; exact h.size,by rw [zDm]; exact h.df,fun t ht hte=>?_,fun k hk=>?_,fun q hq=>?_,fun q hq q' hq'=>h.dis q (hin hq).1 q' (hin hq').1,h.cln,fun q hq'=>h.cle q (hin hq').1,fun q hq'=>hq q (hin hq').1 (hin hq').2,fun k c hk=>?_,fun k k' c q1 q2=>?_⟩
 . rw [h.lst k hk];by_cases e:k=i
   . subst e;exact ⟨fun _=>.inl ⟨.inr rfl,hUi⟩,fun _=>.inr ⟨b,hE⟩⟩
   . simp only [e,or_false,if_false]
 . rw [xC];split
   . rename_i e; exact e4 t e.1 e.2
   . rename_i e;by_cases he:zt ops i=some t
     . have hz:¬ t < a.tmps.size:=fun q=>e ⟨he,q⟩;have hz':¬ t < a'.tmps.size:=by rw [h.size]; exact hz
       simp [Array.getD_eq_getD_getElem?,hz,hz']
     . exact h.agr t ht fun k c hk e'=>by
        by_cases hki:k=i
        . subst hki; exact he e'
        . exact hte k c (by simp [hki,hk]) e'
 . obtain ⟨u,q1,q2,q3⟩:=h.yld k hk;refine ⟨u,q1,hp _ q1,fun t e hz=>?_⟩;rw [xC,if_neg]
   . exact q3 t e (by rwa [xI] at hz)
   . rintro ⟨e',_⟩;have:=st.nodup _ _ _ e e';subst this;exact hUi hk
 . obtain ⟨q1,q2⟩:=hin hq;obtain ⟨p1,p2,p3⟩:=h.pre q q1;exact ⟨p1,fun e=>e.elim p2 q2,zJJ p3⟩
 . by_cases e:k=i
   . simp [e] at hk
   . simp only [e,if_false] at hk;obtain ⟨mk',ob',q1,q2,q3,q4⟩:=h.ear k c hk;refine ⟨mk',ob',List.mem_filter.2 ⟨q1,by simpa using e⟩,⟨q2,fun ec=>?_⟩,q3,fun t e1 hz=>q4 t e1 (by rwa [xI] at hz)⟩;subst ec;exact e (h.one k i _ hk hE)
 . by_cases e:k=i
   . simp [e] at q1
   . by_cases e':k' = i
     . simp [e'] at q2
     . simp only [e,e',if_false] at q1 q2;exact h.one k k' c q1 q2
theorem CanJ.eff (st:Static ops) (h:CanJ P ops M U E pend preps listed X a a' w I) {i:Nat} {w1:World} {v:Value} {ds:List Deferred} {I1:Fam} {pend1:List (Nat×Value)} (h1:i < ops.size) (h2:¬ M i) (h3:PreIn ops M i) (h4:∀ q ∈ preps,q.1≠i) (hcl:jq ops fun k=>(listed.setIfInBounds i true).getD k false=true) (hL:PreIn ops (fun k=>listed.getD k false=true) i)
 (hok:preps≠[]->zBE I1) (hmem:I1 X (Act.put { a with defers:=ds++a.defers } (zt ops i) v) w1) (hold:∀ b,X b->w1.heap[b]? = w.heap[b]?)
 (hp:∀ p ∈ pend,Bef ops p.1 i\/(p ∈ pend1/\∀ X a w,I1 X a w->Yld P ops p.1 p.2 a w)) (hq:∀ q ∈ preps,∀ X a w,I1 X a w->Alc P ops q.1 q.2.1 q.2.2 a w) :
 CanJ P ops (fun k=>M k\/k=i) U E pend1 preps (listed.setIfInBounds i true) X (Act.put { a with defers:=ds++a.defers } (zt ops i) v) (Act.put { a' with defers:=ds++a'.defers } (zt ops i) v) w1 I1:=by
 have hiz:i < listed.size:=by rw [h.len]; exact h1
 have hUi:¬ U i:=fun q=>h2 (h.sub i q).1;refine ⟨hmem,hok,fun k hk=>?_,by simp [h.len],zIt h.clM h3,hcl,fun k hk=>⟨.inl (h.sub k hk).1,(h.sub k hk).2⟩,by rw [xI,xI]; exact h.size,by rw [zDm,zDm]; simp [h.df],fun t ht hte=>?_,fun k hk=>?_,fun q hq=>?_,h.dis,h.cln,h.cle,hq,fun k b hk=>?_,h.one⟩
 . rw [zEb hiz];split
   . rename_i e; subst e; exact ⟨fun _=>.inl ⟨.inr rfl,hUi⟩,fun _=>rfl⟩
   . rename_i e;rw [h.lst k hk];exact ⟨fun q=>q.imp (fun q=>⟨.inl q.1,q.2⟩) id,fun q=>q.imp (fun q=>⟨q.1.resolve_right e,q.2⟩) id⟩
 . rw [xC,xC];simp only [h.size];split
   . rfl
   . exact h.agr t ht hte
 . obtain ⟨u,q1,q2,q3⟩:=h.yld k hk;obtain ⟨q4,q5⟩:=(hp _ q1).resolve_left fun hb=>by
    have:=hb.pre h.clL hL;rw [h.nU hk] at this; cases this
   refine ⟨u,q4,q5,fun t e hz=>?_⟩
   . rw [xC,if_neg]
     . exact q3 t e (by rwa [xI] at hz)
     . rintro ⟨e',_⟩;have:=st.nodup _ _ _ e e';subst this;exact hUi hk
 . obtain ⟨p1,p2,p3⟩:=h.pre q hq;exact ⟨p1,fun e=>e.elim p2 (h4 q hq),zJJ p3⟩
 . obtain ⟨mk,ob,q1,q2,q3,q4⟩:=h.ear k b hk;refine ⟨mk,ob,q1,q2,(hold b q2).trans q3,fun t e hz=>?_⟩;rw [xC,if_neg]
   . exact q4 t e (by rwa [xI] at hz)
   . rintro ⟨e',_⟩;have:=st.nodup _ _ _ e e';subst this;exact h4 _ q1 rfl
end
theorem zL3 (st:Static ops) {fr:Option Nat}:∀ {f:Nat} {M U:Nat->Prop} {E:Nat->Option Nat} {pend:List (Nat×Value)} {preps:List (Nat×(Nat->Value)×Obj)} {listed:Array Bool} {X:Nat->Prop} {a a':Act} {w:World} {I:Fam},
 CanJ P ops M U E pend preps listed X a a' w I->(∀ k,k < ops.size->listed.getD k true=true)->CanF P ops fr Q f M pend preps I->Q .normal a' w:=by
 have fin:∀ {M U:Nat->Prop} {E:Nat->Option Nat} {pend:List (Nat×Value)} {preps:List (Nat×(Nat->Value)×Obj)} {listed:Array Bool} {X:Nat->Prop} {a a':Act} {w:World} {I:Fam},
  CanJ P ops M U E pend preps listed X a a' w I->(∀ k,k < ops.size->listed.getD k true=true)->(∀ k,k < ops.size->M k)->(∀ X a w,I X a w->Q .normal a w)->Q .normal a' w:=fun {M U E pend preps listed X a a' w I} hi hall hM h=>by
  have hu:∀ k,¬ U k:=fun k hk=>by
   have:=hi.nU hk;rw [<- zEF (by rw [hi.len]; exact (hi.sub k hk).2),hall k (hi.sub k hk).2] at this;cases this
  have he:∀ k b,E k≠some b:=fun k b hk=>(hi.eM hk).2.1 (hM k (hi.eM hk).1);have:a' = a:=zOI hi.size hi.df fun t=>hi.agr t (fun k hk=>absurd hk (hu k)) (fun k b hk=>absurd hk (he k b));rw [this];exact h _ _ _ hi.mem
 intro f
 induction f with
 | zero=>intro M U E pend preps listed X a a' w I hi hall h; exact fin hi hall h.1 h.2
 | succ f ih=>
  intro M U E pend preps listed X a a' w I hi hall h;rcases h with h | h | ⟨i,h1,h2,_,h4,_⟩ | ⟨i,mk,ob,h1,h2,_,h3⟩
  . exact ih hi hall h
  . exact fin hi hall h.1 h.2
  . rcases (hi.lst i h1).1 (hall i h1) with q | ⟨b,q⟩
    . exact absurd q.1 h2
    . obtain ⟨_,_,q1,_⟩:=hi.ear i b q;exact absurd rfl (h4 _ q1)
  . have hs:=(hi.pre _ h1).1;rcases (hi.lst i hs).1 (hall i hs) with q | ⟨b,q⟩
    . exact absurd q.1 h2
    . obtain ⟨mk0,ob0,e1,e2,e3,_⟩:=hi.ear i b q;have hmk:=hi.dis _ e1 _ h1 rfl;injection hmk with _ hmk; injection hmk with hm ho
      subst hm; subst ho;obtain ⟨I1,k1,k2,k3,k4,k5⟩:=h3 _ _ _ b hi.mem e2 e3;exact ih (hi.commit st h1 q k1 k2 k3 k4) hall k5
theorem zN2 (st:Static ops) (hQ:∀ c a w,¬ Q (.panic c) a w) (hL:¬ LetsOut Q) {fr:Option Nat}:∀ (g f:Nat) (M U:Nat->Prop) (E:Nat->Option Nat) (pend:List (Nat×Value)) (preps:List (Nat×(Nat->Value)×Obj)) (listed:Array Bool) (X:Nat->Prop) (a a':Act) (w:World) (I:Fam),(zEp ops listed).length<=g ->
 CanJ P ops M U E pend preps listed X a a' w I->CanF P ops fr Q f M pend preps I->wpAnyIn (fen fr) 0 P .any ops Q g listed a' w
 | 0,f,M,U,E,pend,preps,listed,X,a,a',w,I,hg,hi,h=>by
  have hnil:zEp ops listed=[]:=List.eq_nil_of_length_eq_zero (by omega);have hall:∀ k,k < ops.size->listed.getD k true=true:=fun k hk=>by
   cases hl:listed.getD k true with
   | true=>rfl
   | false=>
    have:k ∈ zEp ops listed:=List.mem_filter.2 ⟨List.mem_range.2 hk,by rw [hl]; rfl⟩;rw [hnil] at this; cases this
  refine ⟨?_,zL3 st hi hall h⟩;cases hr:Region.ready .any ops listed with
  | nil=>rfl
  | cons j r=>
   have hj:j ∈ Region.ready .any ops listed:=by rw [hr]; simp
   obtain ⟨h1,o,ho,_⟩:=mem_ready.1 hj;rw [hall j (Array.getElem?_eq_some_iff.1 ho).1] at h1;cases h1
 | g+1,f,M,U,E,pend,preps,listed,X,a,a',w,I,hg,hi,h=>by
  refine ⟨fun hr=>zL3 st hi (zQG st hi.len hr) h,fun j hj=>?_⟩;have ih:=zN2 st hQ hL (fr:=fr) g;obtain ⟨hjl,oj,hoj,hjp⟩:=mem_ready.1 hj;have hjs:j < ops.size:=(Array.getElem?_eq_some_iff.1 hoj).1;have hjz:j < listed.size:=by rw [hi.len]; exact hjs
  have hg':(zEp ops (listed.setIfInBounds j true)).length<=g:=by have:=zPs hjs hjl; omega
  have hcl':=setL hi.clL hoj hjz hjp;have hpreL:PreIn ops (fun k=>listed.getD k false=true) j:=fun o ho ed he hb=>by
   rw [hoj] at ho; injection ho with ho; subst ho; exact hjp ed he hb
  have hEj:∀ {E:Nat->Option Nat} {M U:Nat->Prop},(listed.getD j true=true↔(M j/\¬ U j)\/∃ b,E j=some b)->E j=none:=fun {E M U} hl=>by
   cases he:E j with
   | none=>rfl
   | some b=>have:=hl.2 (.inr ⟨b,he⟩); rw [hjl] at this; cases this
  clear hg
  induction f generalizing M U E pend preps X a I with
  | zero=>
   have hM:=h.1 j hjs;have hUj:U j:=Classical.byContradiction fun hn=>by
    have:=(hi.lst j hjs).2 (.inl ⟨hM,hn⟩);rw [hjl] at this; cases this
   exact hi.runU st hUj hcl' hpreL fun v hi'=>ih 0 M _ E pend preps _ X a _ w I hg' hi' h
  | succ f ihf=>
   by_cases hUj:U j
   . exact hi.runU st hUj hcl' hpreL fun v hi'=>ih (f+1) M _ E pend preps _ X a _ w I hg' hi' h
   by_cases hPj:∃ mk ob,(j,mk,ob) ∈ preps
   . obtain ⟨mk,ob,hPj⟩:=hPj;exact hi.runE st hPj (hEj (hi.lst j hjs)) hcl' hpreL fun hi'=>ih (f+1) M U _ pend preps _ _ a _ _ I hg' hi' h
   have hMj:¬ M j:=fun q=>by
    have:=(hi.lst j hjs).2 (.inl ⟨q,hUj⟩);rw [hjl] at this; cases this
   have hnp:∀ q ∈ preps,q.1≠j:=fun q hq e=>hPj ⟨q.2.1,q.2.2,by rw [<- e]; exact hq⟩;rcases h with h | h | ⟨i,h1,h2,h3,h4,h5⟩ | ⟨i,mk,ob,h1,h2,h3,h4⟩
   . exact ihf M U E pend preps X a I hi h
   . exact absurd (h.1 j hjs) hMj
   . rcases h5 with ⟨v,hc,h5,h6⟩ | ⟨mk,ob,I1,hc,k1,k2,k3,k4,k5⟩ | ⟨h5,h6⟩
     . exact ihf _ _ E _ preps X _ _ (hi.still st h1 h2 h3 h4 hc h5) h6
     . exact ihf M U E pend _ X a I1 (hi.prep h1 h2 h3 h4 hc k1 k2 k3 k4) k5
     . have hji:j=i:=Classical.byContradiction fun hne=>by
        have hb:=(h5 j hjs hMj hnp hne).pre hi.clL hpreL;rw [<- zEF (by rw [hi.len]; exact h1)] at hb;rcases (hi.lst i h1).1 hb with q | ⟨b,q⟩
        . exact h2 q.1
        . obtain ⟨_,_,q1,_⟩:=hi.ear i b q;exact h4 _ q1 rfl
       subst hji;refine wpOpIn_mono ?_ (zQ1 st hQ hL hjs (hi.look hpreL h3) (h6 _ _ _ hi.mem));rintro a1 w1 ⟨v,ds,⟨I1,pend1,k1,k2,k3,k4,k5,k6⟩,rfl⟩;exact ih f _ U E pend1 preps _ X _ _ w1 I1 hg' (hi.eff st h1 h2 h3 h4 hcl' hpreL k1 k2 k3 k4 k5) k6
   . obtain ⟨hs,_,_⟩:=hi.pre _ h1;have hb:=(h3 j hjs hMj hnp).pre hi.clL hpreL;rw [<- zEF (by rw [hi.len]; exact hs)] at hb;rcases (hi.lst i hs).1 hb with q | ⟨b,q⟩
     . exact absurd q.1 h2
     . obtain ⟨mk0,ob0,e1,e2,e3,_⟩:=hi.ear i b q;have hmk:=hi.dis _ e1 _ h1 rfl;injection hmk with _ hmk; injection hmk with hm ho
       subst hm; subst ho;obtain ⟨I1,k1,k2,k3,k4,k5⟩:=h4 _ _ _ b hi.mem e2 e3;exact ihf _ U _ pend _ _ _ I1 (hi.commit st h1 q k1 k2 k3 k4) k5
theorem zHb {id:Nat} {a:Act} {w:World} {fr:Option Nat} (hm:P.follows .mixedOrders=true) (st:Static ops) (hQ:∀ c a w,¬ Q (.panic c) a w) (hL:¬ LetsOut Q) {f:Nat} {I:Fam} (hI:I (fun _=>False) a { w with drawn:=w.drawn+1 }) (h:CanF P ops fr Q f (fun _=>False) [] [] I):(Code.region id ops true).wpIn (fen fr) 0 P Q a w:=by
 refine wpIn_region_any hm (zN2 st hQ hL _ f (fun _=>False) (fun _=>False) (fun _=>none) [] [] _ (fun _=>False) a a _ I ?_ ⟨hI,fun q=>absurd rfl q,fun k hk=>?_,by simp,fun _ _ _ hk=>hk.elim,fun k o ho hk=>?_,fun _ hk=>hk.elim,rfl,rfl,fun _ _ _=>rfl,fun _ hk=>hk.elim,fun _ hq=>(by cases hq),fun _ hq=>(by cases hq),fun _ hk=>hk.elim,fun _ hq=>(by cases hq),fun _ hq=>(by cases hq),fun _ _ hk=>(by cases hk),fun _ _ _ hk=>(by cases hk)⟩ h)
 . exact Nat.le_trans (List.length_filter_le _ _) (by simp)
 . simp [hk]
 . dsimp only at hk;rw [Array.getD_eq_getD_getElem?,Array.getElem?_replicate] at hk;split at hk <;> simp at hk
end
end
section
open Go.RowKit
inductive PV where
 | ptr
 | slc (n:Nat)
def PV.val (p:PV) (b:Nat):Value:=
 match p with
 | .ptr=>.pointer (some ⟨b,0,none⟩)
 | .slc n=>.slice (some ⟨b,0,none⟩) n n
def PV.T (p:PV) (l:Nat):T:=
 match p with
 | .ptr=>.ptr l 0
 | .slc n=>.slc l 0 n n
def pvB (p q:PV):Bool:=
 match p with
 | .ptr=>(match q with | .ptr=>true | _=>false)
 | .slc n=>(match q with | .slc m=>Nat.beq n m | _=>false)
theorem pvB_ok {p q:PV} (h:pvB p q=true):p=q:=by
 unfold pvB at h;split at h <;> split at h <;> first | cases h; done | rfl | rw [beq_iff.1 h]
theorem PV.tr_eq (p:PV) (N:NM) (l:Nat):tr N (p.T l)=p.val (N.bl l):=by cases p <;> rfl
theorem PV.bd (p:PV) {l nl:Nat} (h:l < nl):Cx.bd nl (p.T l):=by cases p <;> exact h
structure PE where
 i:Nat
 o:Oper
 cs:List T
 pv:PV
 el:Nat
def PE.pr (N:NM) (p:PE):Nat×(Nat->Value)×Obj:=(p.i,p.pv.val,.cells (p.cs.map (tr N)).toArray p.el)
def prpB (o:Oper):Bool:=
 match o.op with
 | .alloc _=>true
 | .box _ _=>true
 | .buildSlice _ _ _=>true
 | _=>false
noncomputable def prpK (D:Dat) (e:Tr T) (o:Oper) (κ:List T->PV->Nat->Bool):Bool:=
 match o.op with
 | .alloc t=>(match D.tt.get t with
  | some d=>(match d.zs with
   | some zs=>κ zs .ptr t
   | none=>false)
  | none=>false)
 | .box t x=>evK D.ng e x fun x=>zGN x fun cs=>κ cs .ptr t
 | .buildSlice t n ps=>(match ps with | ⟨l⟩=>evpK D.ng e l fun ps=>fN n fun n=>(match D.tt.get t with
  | some d=>(match d.u with
   | .slice el=>(match D.tt.get el with
    | some e=>(match e.zs with
     | some zs=>bif Nat.beq zs.length e.sz && Nat.blt 0 e.sz && Nat.ble (n * e.sz) 16777216 then repK zs n fun cs=>filK (fun i κ=>κ (i * e.sz) e.sz) ps cs fun cs'=>κ cs' (.slc n) el else false
     | none=>false)
    | none=>false)
   | _=>false)
  | none=>false))
 | _=>false
noncomputable def eqsT (a:List T):List T->Bool:=
 List.rec (motive:=fun _=>List T->Bool) (fun b=>List.casesOn (motive:=fun _=>Bool) b true fun _ _=>false)
  (fun x _ ih b=>List.casesOn (motive:=fun _=>Bool) b false fun y r=>eqT x y && ih r) a
theorem zN3 (N:NM):∀ {a b:List T},eqsT a b=true->a.map (tr N)=b.map (tr N)
 | [],[],_=>rfl
 | [],_::_,h=>by cases h
 | _::_,[],h=>by cases h
 | x::a,y::b,h=>by
  have h:(eqT x y && eqsT a b)=true:=h;rw [Bool.and_eq_true] at h;simp only [List.map_cons];rw [zLj h.1 N,zN3 N h.2]
noncomputable def inP (l:List PE) (k:Nat):Bool:=
 List.rec (motive:=fun _=>Bool) false (fun p _ ih=>bif Nat.beq p.i k then true else ih) l
theorem zHa {k:Nat}:∀ {l:List PE},inP l k=false->∀ p ∈ l,p.i≠k
 | [],_,p,hp=>by cases hp
 | q::l,h,p,hp=>by
  have h:(bif Nat.beq q.i k then true else inP l k)=false:=h;cases hb:Nat.beq q.i k with
  | true=>rw [hb] at h; cases h
  | false=>
   rw [hb,cond_false] at h;rcases List.mem_cons.1 hp with rfl | hp
   . intro e; rw [beq_iff.2 e] at hb; cases hb
   . exact zHa h p hp
theorem zLf {k:Nat}:∀ {l:List PE},inP l k=true->∃ p ∈ l,p.i=k
 | [],h=>by cases h
 | q::l,h=>by
  have h:(bif Nat.beq q.i k then true else inP l k)=true:=h;cases hb:Nat.beq q.i k with
  | true=>exact ⟨q,by simp,beq_iff.1 hb⟩
  | false=>
   rw [hb,cond_false] at h;obtain ⟨p,hp,e⟩:=zLf h;exact ⟨p,List.mem_cons_of_mem _ hp,e⟩
noncomputable def remK (i:Nat) (l:List PE):(List PE->Bool)->Bool:=
 List.rec (motive:=fun _=>(List PE->Bool)->Bool) (fun κ=>κ []) (fun p _ ih κ=>bif Nat.beq p.i i then ih κ else ih fun r=>κ (p::r)) l
theorem zJS {i:Nat}:∀ {l:List PE} {κ:List PE->Bool},remK i l κ=κ (l.filter fun p=>p.i != i)
 | [],κ=>rfl
 | p::l,κ=>by
  show (bif Nat.beq p.i i then remK i l κ else remK i l fun r=>κ (p::r))=_;cases hb:Nat.beq p.i i with
  | true=>rw [cond_true,zJS,List.filter_cons_of_neg (by simpa using beq_iff.1 hb)]
  | false=>
   rw [cond_false,zJS,List.filter_cons_of_pos (by
    simp only [bne_iff_ne,ne_eq];intro e; rw [beq_iff.2 e] at hb; cases hb)]
def nilB (l:List PE):Bool:=match l with | []=>true | _::_=>false
noncomputable def pchk (D:Dat) (nt:Nat) (dsts:List (Option Nat)) (e:Tr T) (κ:Bool) (l:List PE):Bool:=
 List.rec (motive:=fun _=>Bool) κ (fun p _ ih=>bif (j8 nt dsts e p.o.guard fun wn=>bif wn then prpK D e p.o (fun cs pv el=>eqsT p.cs cs && pvB p.pv pv && Nat.beq p.el el) else false) then ih else false) l
noncomputable def pasF (D:Dat) (nt:Nat) (dsts:List (Option Nat)) (mt:Tr Nat) (dm:Nat) (np:Bool) (l:List Oper):Nat->Nat->List (Nat×Oper×T)->Tr T->XS->(Nat->List (Nat×Oper×T)->Tr T->Bool)->Bool:=
 List.rec (motive:=fun _=>Nat->Nat->List (Nat×Oper×T)->Tr T->XS->(Nat->List (Nat×Oper×T)->Tr T->Bool)->Bool) (fun _ M pend e _ κ=>κ M pend e)
  (fun o _ ih i M pend e S κ=>bif !bitB M i && zHU o && !bitB dm i && mB mt i fun m=>subB m M then
   (j8 nt dsts e o.guard fun wn=>bif wn then xst D e S o (fun x=>bif np || xst D e S o (eqT x) then putE nt o.dst x e fun e=>fN (addB M i) fun M=>fN (i+1) fun j=>ih j M ((i,o,x)::pend) e S κ else false) else putE nt o.dst (.tup []) e fun e=>fN (addB M i) fun M=>fN (i+1) fun j=>ih j M ((i,o,.tup [])::pend) e S κ)
   else fN (i+1) fun j=>ih j M pend e S κ) l
noncomputable def domB (l:List Oper) (mt:Tr Nat) (M:Nat) (preps:List PE) (i:Nat):Bool:=
 zAW (fun k _=>!(bitB M k || Nat.beq k i || inP preps k || mB mt k fun m=>bitB m i)) l 0 (fun _ _=>false) true
noncomputable def cmtK (D:Dat) (nt:Nat) (dsts:List (Option Nat)) (l:List Oper) (mt:Tr Nat) (M:Nat) (pend:List (Nat×Oper×T)) (preps:List PE) (e:Tr T) (S:XS) (ih:Nat->List (Nat×Oper×T)->List PE->Tr T->XS->Bool) (κ0:Bool) (ps:List PE):Bool:=
 List.rec (motive:=fun _=>Bool) κ0 (fun p _ r=>bif domB l mt M preps p.i then
  (newK S (.row 0 p.cs 0 p.el) fun n S=>putE nt p.o.dst (p.pv.T n) e fun e=>remK p.i preps fun preps=>rchF D nt dsts 0 e S pend fun pend=>pchk D nt dsts e (fN (addB M p.i) fun M=>ih M pend preps e S) preps) else r) ps
noncomputable def xdrF (rc:XC) (D:Dat) (nt:Nat) (dsts:List (Option Nat)) (l:List Oper) (mt:Tr Nat) (dm:Nat) (f:Nat):Nat->List (Nat×Oper×T)->List PE->Tr T->XS->(Tr T->XS->Bool)->Bool:=
 Nat.rec (motive:=fun _=>Nat->List (Nat×Oper×T)->List PE->Tr T->XS->(Tr T->XS->Bool)->Bool) (fun _ _ _ _ _ _=>false)
  (fun _ ih M pend preps e S K=>pasF D nt dsts mt dm (nilB preps) l 0 M pend e S fun M pend e=>
   zAW (fun i _=>!(bitB M i || inP preps i) && (mB mt i fun m=>subB m M) && domB l mt M preps i) l 0
    (fun i o=>mB mt i fun m=>
     (j8 nt dsts e o.guard fun wn=>bif wn then xopF D e S o (fun out S=>(match out with
      | .v x=>putE nt o.dst x e fun e=>rchF D nt dsts m e S pend fun pend=>pchk D nt dsts e (fN (addB M i) fun M=>ih M pend preps e S K) preps
      | .sk=>putE nt o.dst (.tup []) e fun e=>rchF D nt dsts m e S pend fun pend=>pchk D nt dsts e (fN (addB M i) fun M=>ih M pend preps e S K) preps
      | .ent f args=>xfn rc D f args S fun r S=>(match r with
       | .ret x=>putE nt o.dst x e fun e=>rchF D nt dsts m e S pend fun pend=>pchk D nt dsts e (fN (addB M i) fun M=>ih M pend preps e S K) preps
       | .pan _=>false)
      | _=>false)) else putE nt o.dst (.tup []) e fun e=>rchF D nt dsts m e S pend fun pend=>pchk D nt dsts e (fN (addB M i) fun M=>ih M pend preps e S K) preps))
    (zAW (fun i o=>!(bitB M i || inP preps i) && prpB o && !bitB dm i && mB mt i fun m=>subB m M) l 0
     (fun i o=>j8 nt dsts e o.guard fun wn=>bif wn then prpK D e o (fun cs pv el=>rchF D nt dsts 0 e S pend fun pend=>pchk D nt dsts e (ih M pend (⟨i,o,cs,pv,el⟩::preps) e S K) (⟨i,o,cs,pv,el⟩::preps))
      else putE nt o.dst (.tup []) e fun e=>fN (addB M i) fun M=>ih M ((i,o,.tup [])::pend) preps e S K)
     (cmtK D nt dsts l mt M pend preps e S (fun M pend preps e S=>ih M pend preps e S K)
      (bif nilB preps && zAW (fun i _=>!bitB M i) l 0 (fun _ _=>false) true then K e S else false) preps))) f
noncomputable def zLq (D:Dat):XC->Option Nat->Nat->List Oper->Tr T->XS->List DE->XK->Bool:=fun rc _ nt l e S ds K=>
 mskK l 0 .lf .lf fun mt dt=>dirK ⟨l⟩ mt dt l 0 0 fun dm=>xdrF rc D nt (l.map (·.dst)) l mt dm (2 * l.length+1) 0 [] [] e S (fun e S=>K .n e S ds)
section
variable {P:Program} {B:Bs} {N:NM} {S:XS} {w:World} {D:Dat} {rc:XC}
theorem zNe (hD:DOk P D) (hng:D.ng=B.ng) (hs:HSim B N S w) {nt:Nat} {e:Tr T} {a:Act} (he:ESim N S.nl nt e a.tmps) {o:Oper} {κ:List T->PV->Nat->Bool} (h:prpK D e o κ=true) :
 ∃ cs pv el,κ cs pv el=true/\bds S.nl cs/\ones cs/\(execOp a.eval o).run P w = .ok (.value (pv.val w.heap.size)) (w.alloc (.cells (cs.map (tr N)).toArray el)):=by
 unfold prpK at h;rw [hng] at h;unfold execOp;split at h <;> (try (rename_i hop; rw [hop])) <;> (try simp only)
 . rename_i t;split at h
   . rename_i d hd;have ht:=hD.tt _ _ hd;split at h
     . rename_i zs hz;obtain ⟨z,h1,h2,h3,h4,h5⟩:=ht.run_zero hz N w;refine ⟨zs,.ptr,t,h,yI (Nat.zero_le _) _ h4,h5,?_⟩;have e:(zs.map (tr N)).toArray=z.cells:=by rw [<- h3]
       rw [e];refine y7 ?_;generalize (Option.map a.eval (o.dst.map Operand.tmp)).getD undef=old
       first
        | (cases old <;> simp [Instr.alloc,h1,newVar,newRow,PV.val] <;> rfl)
        | simp [Instr.alloc,h1,newVar,newRow,PV.val]
     . cases h
   . cases h
 . rename_i t x;obtain ⟨x',h1,h2,h3⟩:=zU hs he h;obtain ⟨cs,q1,q2,q3,q4⟩:=zET h1 h3 N;refine ⟨cs,.ptr,t,q1,q3,q4,y7 ?_⟩;rw [h2];simp [Instr.box,newVar,newRow,q2,PV.val]
 . rename_i t n ps;split at h;rename_i l;obtain ⟨ps,h1,h2,h3⟩:=zDg hs he h;rw [zo] at h1;have e1:((l.toArray).map fun (i,x)=>(i,a.eval x))=(ps.map fun p=>(p.1,tr N p.2)).toArray:=by
    rw [<- h2]; simp
   rw [show (Array.map (fun x=>match x with | (i,x)=>(i,a.eval x)) (Array.mk l))=(ps.map fun p=>(p.1,tr N p.2)).toArray from e1];split at h1
   . rename_i d hd;have ht:=hD.tt _ _ hd;split at h1
     . rename_i el hu;split at h1
       . rename_i e he;have hte:=hD.tt _ _ he;split at h1
         . rename_i zs hz;obtain ⟨z,z1,z2,z3,z4⟩:=hte.zs zs hz;obtain ⟨h1,h2⟩:=zK h1;simp only [Bool.and_eq_true] at h1;have k1:=beq_iff.1 h1.1.1;have k2:=blt_iff.1 h1.1.2;have k3:=Nat.le_of_ble_eq_true h1.2;rw [zBP] at h2;obtain ⟨cs',q1,q2,q3,q4⟩:=zD1 (place:=fun i=>some (i * e.sz,e.sz)) (fun i κ hk=>⟨_,_,rfl,hk⟩) N h2 h3 (yI (Nat.zero_le _) _ (zAa z3 n)) (kj z4 n);refine ⟨cs',.slc n,el,q1,q2,q3,y7 ?_⟩;have hu':P.underlying t=some (.slice el):=by rw [ht.und,hu]
           by_cases hz0:n * e.sz=0
           . have hn:n=0:=by
              rcases Nat.mul_eq_zero.1 hz0 with h | h
              . exact h
              . omega
             subst hn;have q5:Instr.fill (fun i=>some (i * e.sz,e.sz)) #[] (ps.map fun p=>(p.1,tr N p.2))=some (cs'.map (tr N)).toArray:=by simpa using q4
             simp [Instr.buildSlice,run_underlying hu',hte.run_sz,q5,newRow,PV.val,show (Array.range 0:Array Nat) = #[] from rfl]
           . have e1:(Array.range (n * e.sz)).map (z.cells[· % z.cells.size]!)=((List.replicate n zs).flatten.map (tr N)).toArray:=by
              apply Array.ext';rw [zBr (N:=N) (z2 N) k1 k2]
             rw [<- e1] at q4;simp [Instr.buildSlice,run_underlying hu',hte.run_sz,hz0,show ¬ (16777216 < n * e.sz) by omega,zeroValue,typeInfo,hte.info,z1,q4,newRow,PV.val]
         . cases h1
       . cases h1
     . cases h1
   . cases h1
 . cases h
theorem zJO (hD:DOk P D) (hng:D.ng=B.ng) (hs:HSim B N S w) {nt:Nat} {e:Tr T} {a:Act} (he:ESim N S.nl nt e a.tmps) {ops:Array Oper} {κ:Bool}:∀ {l:List PE},pchk D nt (ops.toList.map (·.dst)) e κ l=true->κ=true/\∀ p ∈ l,ops[p.i]? = some p.o->Alc P ops p.i p.pv.val (.cells (p.cs.map (tr N)).toArray p.el) a w
 | [],h=>⟨h,fun _ hp=>by cases hp⟩
 | q::l,h=>by
  have h:(bif (j8 nt (ops.toList.map (·.dst)) e q.o.guard fun wn=>bif wn then prpK D e q.o (fun cs pv el=>eqsT q.cs cs && pvB q.pv pv && Nat.beq q.el el) else false) then pchk D nt (ops.toList.map (·.dst)) e κ l else false)=true:=h;obtain ⟨h1,h2⟩:=zK h;obtain ⟨h3,h4⟩:=zJO hD hng hs he h2;refine ⟨h3,fun p hp ho=>?_⟩;rcases List.mem_cons.1 hp with rfl | hp
  . have hw:=zAd he h1;cases hwn:Region.wanted p.o (yielded ops a.tmps) with
    | false=>rw [hwn,cond_false] at hw; cases hw
    | true=>
     rw [hwn,cond_true] at hw;obtain ⟨cs,pv,el,k1,_,_,k4⟩:=zNe hD hng hs he hw;simp only [Bool.and_eq_true] at k1;have e1:=zN3 N k1.1.1;have e2:=pvB_ok k1.1.2;have e3:=beq_iff.1 k1.2;refine ⟨p.o,ho,hwn,?_⟩;rw [e1,e2,e3];exact k4
  . exact h4 p hp ho
theorem HSim.named (hs:HSim B N S w) {cs:List T} {K:Nat->XS->Bool} {b el:Nat} (h:newK S (.row 0 cs 0 el) K=true) (hb:bds S.nl cs) (h1:ones cs) (hB:B.B<=b) (hno:∀ l o,S.h.get l=some o->y9 o=false->N.bl l≠b) (hob:w.heap[b]? = some (.cells (cs.map (tr N)).toArray el)) :
 ∃ S',K S.nl S' = true/\HSim B (N.add S.nl b 0) S' w/\S'.nl=S.nl+1/\∀ j,S'.h.get j=if j=S.nl then some (.row 0 cs 0 el) else S.h.get j:=by
 unfold newK at h;rw [zo] at h;obtain ⟨h',h1',h2⟩:=Tr.setK_ok _ _ _ _ _ h;rw [zo] at h1';refine ⟨_,h1',hs.name hB (Array.getElem?_eq_some_iff.1 hob).1 rfl hno ?_ h2,rfl,h2⟩;rw [hob];refine ⟨_,0,rfl,Nat.zero_le _,by simp,?_,⟨yI (Nat.le_succ _) _ hb,h1⟩,by simp⟩;rw [zCR (N.ext_add _ _ _) hb];exact List.take_of_length_le (by simp)
def GF (np:Prop) (B:Bs) (nt:Nat) (N0:NM) (S0:XS) (w0:World) (N:NM) (e:Tr T) (S:XS) (ds:List DE) (a1:Act) (w1:World):Fam:=fun X a w=>
 Sm B nt N e S ds a w/\Stp B N0 S0 w0 N S w/\(∀ b,X b->w0.heap.size<=b/\b < w.heap.size/\∀ l o,S.h.get l=some o->y9 o=false->N.bl l≠b)/\(np->a=a1/\w=w1)
theorem GF.ok {np:Prop} (hn:¬ np) {nt:Nat} {N0:NM} {S0:XS} {w0:World} {e:Tr T} {ds:List DE} {a1:Act} {w1:World}:zBE (GF np B nt N0 S0 w0 N e S ds a1 w1):=by
 rintro X a w ob ⟨h1,h2,h3,_⟩;have hold:∀ b,b < w.heap.size->(w.alloc ob).heap[b]? = w.heap[b]?:=fun b hb=>Below.heap_alloc w ob b hb;have hsz:(w.alloc ob).heap.size=w.heap.size+1:=by show (w.heap.push ob).size=_; simp
 have hs1:=h1.sim.same hold (by omega);have stp:Stp B N S w N S (w.alloc ob):=.stay hs1 hold ⟨rfl,rfl,rfl,by omega,fun k hk=>hold k (Nat.lt_of_lt_of_le hk h1.sim.base)⟩;refine ⟨h1.later stp,h2.trans stp,fun b hb=>?_,fun q=>absurd q hn⟩;rcases hb with hb | rfl
 . obtain ⟨q1,q2,q3⟩:=h3 b hb;exact ⟨q1,by omega,q3⟩
 . exact ⟨h2.bel.size,by omega,h1.sim.free⟩
theorem Sm.ren {nt:Nat} {e:Tr T} {ds:List DE} {a:Act} (h:Sm B nt N e S ds a w) {N1:NM} {S1:XS} (hx:Ext S.nl N N1) (hl:S.nl<=S1.nl) (hs:HSim B N1 S1 w):Sm B nt N1 e S1 ds a w:=
 ⟨h.env.ext hx hl,hs,by rw [zF5 hx h.lt]; exact h.df,fun d hd=>zEr hl (h.lt d hd)⟩
theorem zGO {nt:Nat} {e:Tr T} {d:Option Nat} {x:T} {κ:Tr T->Bool} (hk:putE nt d x e κ=true):∃ e',κ e' = true/\∀ {N:NM} {S:XS} {ds:List DE} {a:Act} {w:World},Sm B nt N e S ds a w->bd S.nl x->Sm B nt N e' S ds (a.put d (tr N x)) w:=by
 unfold putE at hk;cases d with
 | none=>exact ⟨e,hk,fun h _=>h⟩
 | some t=>
  obtain ⟨h1,h2⟩:=zK hk;have ht:=blt_iff.1 h1;obtain ⟨e',h3,h4⟩:=Tr.setK_ok _ _ _ _ _ h2;refine ⟨e',h3,fun {N S ds a w} h hb=>⟨⟨by simp [Act.put,h.env.size],fun k=>?_,fun k=>?_⟩,h.sim,h.df,h.lt⟩⟩
  . rw [zBR h4];simp only [Act.put];have hs:t < a.tmps.size:=by rw [h.env.size]; exact ht
    split
    . rename_i e1; subst e1;simp [Array.getD_eq_getD_getElem?,hs]
    . rename_i e1;have:=h.env.val k;rw [<- this];simp [Array.getD_eq_getD_getElem?,Array.getElem?_setIfInBounds_ne (Ne.symm e1)]
  . rw [zBR h4];split
    . exact hb
    . exact h.env.bd k
theorem zNJ {ops:Array Oper} {mt:Tr Nat} (hm:MOk ops ops.size mt) {M i:Nat} {preps:List PE} (h:domB ops.toList mt M preps i=true):∀ k,k < ops.size->¬ (M.testBit k=true)->(∀ q ∈ preps.map (PE.pr N),q.1≠k)->k≠i->Bef ops i k:=fun k hk hMk hp hne=>by
 rcases zCj h with ⟨_,_,_,_,q⟩ | ⟨q,_⟩
 . cases q
 . have:=q k ops[k] (by simp [hk]);rw [Nat.zero_add] at this;simp only [Bool.not_eq_false',Bool.or_eq_true,zAj,beq_iff] at this;rcases this with ((q | q) | q) | q
   . exact absurd q hMk
   . exact absurd q hne
   . obtain ⟨p,hp',e⟩:=zLf q;exact absurd e (hp _ (List.mem_map.2 ⟨p,hp',rfl⟩))
   . unfold mB at q;split at q
     . rename_i m' hg'; exact hm.bef k m' hk hg' i q
     . cases q
structure PendOk (ops:Array Oper) (nl:Nat) (pend:List (Nat×Oper×T)) (preps:List PE):Prop where
 pn:∀ p ∈ pend,ops[p.1]? = some p.2.1/\bd nl p.2.2
 pp:∀ p ∈ preps,ops[p.i]? = some p.o/\bds nl p.cs/\ones p.cs
theorem PendOk.mono {ops:Array Oper} {nl nl':Nat} {pend:List (Nat×Oper×T)} {preps:List PE} (h:PendOk ops nl pend preps) (hl:nl<=nl'):PendOk ops nl' pend preps:=
 ⟨fun p hp=>⟨(h.pn p hp).1,qR hl _ (h.pn p hp).2⟩,fun p hp=>⟨(h.pp p hp).1,yI hl _ (h.pp p hp).2.1,(h.pp p hp).2.2⟩⟩
def pnM (N:NM) (pend:List (Nat×Oper×T)):List (Nat×Value):=pend.map fun p=>(p.1,tr N p.2.2)
theorem zIm {N1:NM} {nl:Nat} {ops:Array Oper} {pend:List (Nat×Oper×T)} {preps:List PE} (hx:Ext nl N N1) (h:PendOk ops nl pend preps):pnM N1 pend=pnM N pend:=
 List.map_congr_left fun p hp=>by rw [zDx hx _ (h.pn p hp).2]
theorem zGH {N1:NM} {nl:Nat} {ops:Array Oper} {pend:List (Nat×Oper×T)} {preps:List PE} (hx:Ext nl N N1) (h:PendOk ops nl pend preps):preps.map (PE.pr N1)=preps.map (PE.pr N):=
 List.map_congr_left fun p hp=>by unfold PE.pr; rw [zCR hx (h.pp p hp).2.1]
theorem zNZ {l:List PE}:nilB l=true↔l=[]:=by cases l <;> simp [nilB]
theorem zKn (hD:DOk P D) (hng:D.ng=B.ng) {nt:Nat} {ops:Array Oper} {m:Nat} {e:Tr T} {κ:List (Nat×Oper×T)->Bool} {pend:List (Nat×Oper×T)} {preps:List PE} {N0:NM} {S0:XS} {w0:World} {ds:List DE} {a1:Act} {w1:World} {np:Prop} (hp:PendOk ops S.nl pend preps)
 (h:(rchF D nt (ops.toList.map (·.dst)) m e S pend fun pend=>pchk D nt (ops.toList.map (·.dst)) e (κ pend) preps)=true) {X:Nat->Prop} (hI:GF np B nt N0 S0 w0 N e S ds a1 w1 X a1 w1) :
 ∃ pend1,κ pend1=true/\PendOk ops S.nl pend1 preps/\(∀ p ∈ pnM N pend,m.testBit p.1=true\/(p ∈ pnM N pend1/\∀ X a w,GF np B nt N0 S0 w0 N e S ds a1 w1 X a w->Yld P ops p.1 p.2 a w))/\(∀ q ∈ preps.map (PE.pr N),∀ X a w,GF np B nt N0 S0 w0 N e S ds a1 w1 X a w->Alc P ops q.1 q.2.1 q.2.2 a w)/\(m=0->pend1=pend):=by
 obtain ⟨h1,_⟩:=zF4 hD hng hI.1.sim hI.1.env h;obtain ⟨h2,_⟩:=zJO hD hng hI.1.sim hI.1.env h1;refine ⟨_,h2,⟨fun p hp'=>hp.pn p (List.mem_filter.1 hp').1,hp.pp⟩,fun p hp'=>?_,fun q hq X a w hm=>?_,fun e=>by subst e; simp⟩
 . obtain ⟨p,hpp,rfl⟩:=List.mem_map.1 hp';cases hb:m.testBit p.1 with
   | true=>exact .inl rfl
   | false=>
    have hin:p ∈ pend.filter fun p=>!m.testBit p.1:=List.mem_filter.2 ⟨hpp,by rw [hb]; rfl⟩;refine .inr ⟨List.mem_map.2 ⟨p,hin,rfl⟩,fun X a w hm=>?_⟩;exact (zF4 hD hng hm.1.sim hm.1.env h).2 p hin (hp.pn p hpp).1
 . obtain ⟨q,hqq,rfl⟩:=List.mem_map.1 hq;exact (zJO hD hng hm.1.sim hm.1.env h1).2 q hqq (hp.pp q hqq).1
theorem zIr (hD:DOk P D) (hng:D.ng=B.ng) {nt:Nat} {ops:Array Oper} {fr:Option Nat} {mt:Tr Nat} (hm:MOk ops ops.size mt) {dm:Nat} (hcl:∀ i,dm.testBit i=false->zCQ ops i) {Q:Exit->Act->World->Prop} {ds:List DE} {N0:NM} {S0:XS} {w0:World} {F:Nat} {preps:List PE}:∀ {l:List Oper} {i M:Nat} {pend:List (Nat×Oper×T)} {e:Tr T} {X:Nat->Prop} {a:Act} {κ:Nat->List (Nat×Oper×T)->Tr T->Bool},(∀ k,l[k]? = ops[i+k]?) ->
 pasF D nt (ops.toList.map (·.dst)) mt dm (nilB preps) l i M pend e S κ=true->GF (preps=[]) B nt N0 S0 w0 N e S ds a w X a w->PendOk ops S.nl pend preps->(∀ q ∈ preps,prpB q.o=true)->(∀ q ∈ preps,¬ (M.testBit q.i=true)) ->
 (∀ M' pend' e' a',κ M' pend' e' = true->GF (preps=[]) B nt N0 S0 w0 N e' S ds a' w X a' w->PendOk ops S.nl pend' preps->(∀ q ∈ preps,¬ (M'.testBit q.i=true))->CanF P ops fr Q F (fun k=>M'.testBit k=true) (pnM N pend') (preps.map (PE.pr N)) (GF (preps=[]) B nt N0 S0 w0 N e' S ds a' w)) ->
 CanF P ops fr Q (l.length+F) (fun k=>M.testBit k=true) (pnM N pend) (preps.map (PE.pr N)) (GF (preps=[]) B nt N0 S0 w0 N e S ds a w)
 | [],i,M,pend,e,X,a,κ,hl,h,hs,hp,hpb,hpm,hk=>by
  rw [List.length_nil,Nat.zero_add];exact hk M pend e a h hs hp hpm
 | o::l,i,M,pend,e,X,a,κ,hl,h,hs,hp,hpb,hpm,hk=>by
  have h:(bif !bitB M i && zHU o && !bitB dm i && mB mt i fun m=>subB m M then
   (j8 nt (ops.toList.map (·.dst)) e o.guard fun wn=>bif wn then xst D e S o (fun x=>bif nilB preps || xst D e S o (eqT x) then putE nt o.dst x e fun e=>fN (addB M i) fun M=>fN (i+1) fun j=>pasF D nt (ops.toList.map (·.dst)) mt dm (nilB preps) l j M ((i,o,x)::pend) e S κ else false) else putE nt o.dst (.tup []) e fun e=>fN (addB M i) fun M=>fN (i+1) fun j=>pasF D nt (ops.toList.map (·.dst)) mt dm (nilB preps) l j M ((i,o,.tup [])::pend) e S κ)
   else fN (i+1) fun j=>pasF D nt (ops.toList.map (·.dst)) mt dm (nilB preps) l j M pend e S κ)=true:=h
  have ho:ops[i]? = some o:=by simpa using (hl 0).symm
  have hi:=(Array.getElem?_eq_some_iff.1 ho).1;have hdi:zt ops i=o.dst:=by simp [zt,ho]
  have hl':∀ k,l[k]? = ops[i+1+k]?:=fun k=>by have:=hl (k+1); simpa [Nat.add_assoc,Nat.add_comm 1 k] using this
  have elen:(o::l).length+F=(l.length+F)+1:=by simp; omega
  rw [elen];cases hc:(!bitB M i && zHU o && !bitB dm i && mB mt i fun m=>subB m M) with
  | false=>
   rw [hc,cond_false,zo] at h;exact .inl (zIr hD hng hm hcl hl' h hs hp hpb hpm hk)
  | true=>
   rw [hc,cond_true] at h;simp only [Bool.and_eq_true,Bool.not_eq_true',zAj] at hc;obtain ⟨⟨⟨h4,hst⟩,hdm⟩,h5⟩:=hc;unfold mB at h5;split at h5
   case h_2=>cases h5
   rename_i m hg;have hpre:PreIn ops (fun k=>M.testBit k=true) i:=fun o' ho' ed he hb=>zLG h5 (hm.dir i m o' hi hg ho' ed he hb).2;have hnp:∀ q ∈ preps.map (PE.pr N),q.1≠i:=fun q hq e=>by
    obtain ⟨q,hqq,rfl⟩:=List.mem_map.1 hq;have h1:=(hp.pp q hqq).1;have e:q.i=i:=e;rw [e,ho] at h1;injection h1 with h1
    have h2:=hpb q hqq;rw [<- h1] at h2;unfold prpB at h2;unfold zHU at hst;cases hop:o.op <;> rw [hop] at h2 hst <;> simp at h2 hst
   have next:∀ {x:T},bd S.nl x->(putE nt o.dst x e fun e=>fN (addB M i) fun M=>fN (i+1) fun j=>pasF D nt (ops.toList.map (·.dst)) mt dm (nilB preps) l j M ((i,o,x)::pend) e S κ)=true->CanF P ops fr Q (l.length+F) (fun k=>M.testBit k=true\/k=i) ((i,tr N x)::pnM N pend) (preps.map (PE.pr N)) (Fam.put (GF (preps=[]) B nt N0 S0 w0 N e S ds a w) (zt ops i) (tr N x)):=fun {x} hb q=>by
    obtain ⟨e',t1,t2⟩:=zGO (B:=B) q;rw [zo,zo] at t1;rw [<- zEd,hdi];refine CanF.mono (I:=GF (preps=[]) B nt N0 S0 w0 N e' S ds (a.put o.dst (tr N x)) w) ?_ (zIr hD hng hm hcl hl' t1 (X:=X) ⟨t2 hs.1 hb,hs.2.1,hs.2.2.1,fun _=>⟨rfl,rfl⟩⟩ ⟨fun p hp'=>?_,hp.pp⟩ hpb (fun q hq hb=>?_) hk)
    . rintro X' _ w' ⟨a0,rfl,q1,q2,q3,q4⟩;exact ⟨t2 q1 hb,q2,q3,fun hn=>by obtain ⟨r1,r2⟩:=q4 hn; subst r1; subst r2; exact ⟨rfl,rfl⟩⟩
    . rcases List.mem_cons.1 hp' with rfl | hp'
      . exact ⟨ho,hb⟩
      . exact hp.pn p hp'
    . rw [kg] at hb;simp only [Bool.or_eq_true,decide_eq_true_eq] at hb;rcases hb with hb | hb
      . exact hpm q hq hb
      . exact hnp _ (List.mem_map.2 ⟨q,hq,rfl⟩) hb.symm
   refine .inr (.inr (.inl ⟨i,hi,fun q=>absurd (show M.testBit i=true from q) (by rw [h4]; simp),hpre,hnp,.inl ?_⟩));have hw:=zAd hs.1.env h;cases hwn:Region.wanted o (yielded ops a.tmps) with
   | true=>
    rw [hwn,cond_true] at hw;obtain ⟨x,k1,k2,k3⟩:=zLS hD hng hs.1.sim hs.1.env hw;obtain ⟨k4,k5⟩:=zK k1;refine ⟨tr N x,hcl i hdm,fun X' a' w' hm'=>?_,next k3 k5⟩;rw [Bool.or_eq_true,zNZ] at k4;rcases k4 with k4 | k4
    . obtain ⟨r1,r2⟩:=hm'.2.2.2 k4;subst r1; subst r2;exact ⟨o,ho,.inl ⟨hwn,k2⟩⟩
    . have hw':=zAd hm'.1.env h;cases hwn':Region.wanted o (yielded ops a'.tmps) with
      | true=>
       obtain ⟨y,r1,r2,r3⟩:=zLS hD hng hm'.1.sim hm'.1.env k4;exact ⟨o,ho,.inl ⟨hwn',by rw [r2,zLj r1 N]⟩⟩
      | false=>
       exfalso;have hh:Region.wanted o (yielded ops a'.tmps)=Region.wanted o (yielded ops a.tmps):=by
        have ee:∀ t,a'.tmps.getD t undef=a.tmps.getD t undef:=fun t=>by rw [hm'.1.env.val t,hs.1.env.val t]
        have es:a'.tmps.size=a.tmps.size:=by rw [hm'.1.env.size,hs.1.env.size]
        exact zAT ⟨es,fun t _=>ee t⟩
       rw [hwn,hwn'] at hh; cases hh
   | false=>
    rw [hwn,cond_false] at hw;refine ⟨undef,hcl i hdm,fun X' a' w' hm'=>⟨o,ho,.inr ⟨?_,rfl⟩⟩,next (x:=.tup []) trivial hw⟩;have ee:∀ t,a'.tmps.getD t undef=a.tmps.getD t undef:=fun t=>by rw [hm'.1.env.val t,hs.1.env.val t]
    have es:a'.tmps.size=a.tmps.size:=by rw [hm'.1.env.size,hs.1.env.size]
    rw [zAT (a:=a) (a':=a') ⟨es,fun t _=>ee t⟩];exact hwn
theorem GF.act {np:Prop} {nt:Nat} {N0:NM} {S0:XS} {w0:World} {e:Tr T} {ds:List DE} {a1 a a':Act} {w1 w w':World} (h:Sm B nt N e S ds a w) (h':Sm B nt N e S ds a' w'):a' = a:=
 zOI (by rw [h.env.size,h'.env.size]) (by rw [h.df,h'.df]) fun t=>by rw [h.env.val t,h'.env.val t]
theorem zDw (hrc:CodeOk P B rc) (hD:DOk P D) (hng:D.ng=B.ng) {nt:Nat} {ops:Array Oper} {fr:Option Nat} {mt:Tr Nat} (hm:MOk ops ops.size mt) (hst:Static ops) {dm:Nat} (hcl:∀ i,dm.testBit i=false->zCQ ops i) {N0:NM} {S0:XS} {w0:World} {ds:List DE} {K:Tr T->XS->Bool} (hB0:B.B<=w0.heap.size):∀ (f:Nat) {M:Nat} {pend:List (Nat×Oper×T)} {preps:List PE} {e:Tr T} {N:NM} {S:XS} {X:Nat->Prop} {a:Act} {w:World},
 xdrF rc D nt (ops.toList.map (·.dst)) ops.toList mt dm f M pend preps e S K=true->GF (preps=[]) B nt N0 S0 w0 N e S ds a w X a w->PendOk ops S.nl pend preps->(∀ q ∈ preps,prpB q.o=true)->(∀ q ∈ preps,¬ (M.testBit q.i=true)) ->
 CanF P ops fr (DQ B nt N0 S0 w0 ds K) (f * (ops.size+1)) (fun k=>M.testBit k=true) (pnM N pend) (preps.map (PE.pr N)) (GF (preps=[]) B nt N0 S0 w0 N e S ds a w)
 | 0,M,pend,preps,e,N,S,X,a,w,h,hs,hp,hpb,hpm=>by cases h
 | f+1,M,pend,preps,e,N,S,X,a,w,h,hs,hp,hpb,hpm=>by
  have efu:(f+1) * (ops.size+1)=ops.toList.length+(f * (ops.size+1)+1):=by rw [Nat.succ_mul,Array.length_toList]; omega
  rw [efu];refine zIr hD hng hm hcl (l:=ops.toList) (i:=0) (by simp) h hs hp hpb hpm fun M pend e a h3 hs hp hpm=>?_;have hpre:∀ {i m:Nat},i < ops.size->mt.get i=some m->subB m M=true->PreIn ops (fun k=>M.testBit k=true) i:=fun {i m} hi hg hsb o ho ed he hb=>zLG hsb (hm.dir i m o hi hg ho ed he hb).2;have hnot:∀ {i},inP preps i=false->∀ q ∈ preps.map (PE.pr N),q.1≠i:=fun {i} h q hq=>by
   obtain ⟨q,hqq,rfl⟩:=List.mem_map.1 hq;exact zHa h q hqq
  replace h3:(zAW (fun i _=>!(bitB M i || inP preps i) && (mB mt i fun m=>subB m M) && domB ops.toList mt M preps i) ops.toList 0
   (fun i o=>mB mt i fun m=>
    (j8 nt (ops.toList.map (·.dst)) e o.guard fun wn=>bif wn then xopF D e S o (fun out S=>(match out with
     | .v x=>putE nt o.dst x e fun e=>rchF D nt (ops.toList.map (·.dst)) m e S pend fun pend=>pchk D nt (ops.toList.map (·.dst)) e (fN (addB M i) fun M=>xdrF rc D nt (ops.toList.map (·.dst)) ops.toList mt dm f M pend preps e S K) preps
     | .sk=>putE nt o.dst (.tup []) e fun e=>rchF D nt (ops.toList.map (·.dst)) m e S pend fun pend=>pchk D nt (ops.toList.map (·.dst)) e (fN (addB M i) fun M=>xdrF rc D nt (ops.toList.map (·.dst)) ops.toList mt dm f M pend preps e S K) preps
     | .ent fn args=>xfn rc D fn args S fun r S=>(match r with
      | .ret x=>putE nt o.dst x e fun e=>rchF D nt (ops.toList.map (·.dst)) m e S pend fun pend=>pchk D nt (ops.toList.map (·.dst)) e (fN (addB M i) fun M=>xdrF rc D nt (ops.toList.map (·.dst)) ops.toList mt dm f M pend preps e S K) preps
      | .pan _=>false)
     | _=>false)) else putE nt o.dst (.tup []) e fun e=>rchF D nt (ops.toList.map (·.dst)) m e S pend fun pend=>pchk D nt (ops.toList.map (·.dst)) e (fN (addB M i) fun M=>xdrF rc D nt (ops.toList.map (·.dst)) ops.toList mt dm f M pend preps e S K) preps))
   (zAW (fun i o=>!(bitB M i || inP preps i) && prpB o && !bitB dm i && mB mt i fun m=>subB m M) ops.toList 0
    (fun i o=>j8 nt (ops.toList.map (·.dst)) e o.guard fun wn=>bif wn then prpK D e o (fun cs pv el=>rchF D nt (ops.toList.map (·.dst)) 0 e S pend fun pend=>pchk D nt (ops.toList.map (·.dst)) e (xdrF rc D nt (ops.toList.map (·.dst)) ops.toList mt dm f M pend (⟨i,o,cs,pv,el⟩::preps) e S K) (⟨i,o,cs,pv,el⟩::preps))
     else putE nt o.dst (.tup []) e fun e=>fN (addB M i) fun M=>xdrF rc D nt (ops.toList.map (·.dst)) ops.toList mt dm f M ((i,o,.tup [])::pend) preps e S K)
    (cmtK D nt (ops.toList.map (·.dst)) ops.toList mt M pend preps e S (fun M pend preps e S=>xdrF rc D nt (ops.toList.map (·.dst)) ops.toList mt dm f M pend preps e S K)
     (bif nilB preps && zAW (fun i _=>!bitB M i) ops.toList 0 (fun _ _=>false) true then K e S else false) preps)))=true:=h3
  rcases zCj h3 with ⟨i,o,h1,h2,h3⟩ | ⟨_,h3⟩
  . -- one that turns something
    rw [Nat.zero_add] at h2 h3;have ho:ops[i]? = some o:=by simpa using h1
    have hi:=(Array.getElem?_eq_some_iff.1 ho).1;have hdi:zt ops i=o.dst:=by simp [zt,ho]
    simp only [Bool.and_eq_true,Bool.not_eq_true',Bool.or_eq_false_iff,zAj] at h2;obtain ⟨⟨⟨h2,h2p⟩,h2m⟩,h2d⟩:=h2;unfold mB at h3 h2m;split at h3
    case h_2=>cases h3
    rename_i m hg;rw [hg] at h2m;have hoth:=zNJ (N:=N) hm h2d;refine .inr (.inr (.inl ⟨i,hi,fun q=>absurd (show M.testBit i=true from q) (by rw [h2]; simp),hpre hi hg h2m,hnot h2p,.inr (.inr ⟨hoth,fun Xm am wm hmm=>?_⟩)⟩));obtain rfl:am=a:=GF.act (N0:=N0) (S0:=S0) (w0:=w0) (np:=False) (a1:=a) (w1:=w) hs.1 hmm.1;have hns:=hst.nosel i o ho;have next:∀ {N1:NM} {S1:XS} {w1:World} {x:T},Stp B N S wm N1 S1 w1->bd S1.nl x->(putE nt o.dst x e fun e=>rchF D nt (ops.toList.map (·.dst)) m e S1 pend fun pend=>pchk D nt (ops.toList.map (·.dst)) e (fN (addB M i) fun M=>xdrF rc D nt (ops.toList.map (·.dst)) ops.toList mt dm f M pend preps e S1 K) preps)=true ->
     ∃ (I1:Fam) (pend1:List (Nat×Value)),(preps.map (PE.pr N)≠[]->zBE I1)/\I1 Xm (am.put o.dst (tr N1 x)) w1/\(∀ b,Xm b->w1.heap[b]? = wm.heap[b]?) /\
      (∀ p ∈ pnM N pend,Bef ops p.1 i\/(p ∈ pend1/\∀ X a w,I1 X a w->Yld P ops p.1 p.2 a w))/\(∀ q ∈ preps.map (PE.pr N),∀ X a w,I1 X a w->Alc P ops q.1 q.2.1 q.2.2 a w) /\
      CanF P ops fr (DQ B nt N0 S0 w0 ds K) (f * (ops.size+1)) (fun k=>M.testBit k=true\/k=i) pend1 (preps.map (PE.pr N)) I1:=fun {N1 S1 w1 x} q1 q2 q3=>by
     obtain ⟨e',t1,t2⟩:=zGO (B:=B) q3;have hp1:=hp.mono q1.nl;have hmem:GF (preps=[]) B nt N0 S0 w0 N1 e' S1 ds (am.put o.dst (tr N1 x)) w1 Xm (am.put o.dst (tr N1 x)) w1:=by
      refine ⟨t2 (hmm.1.later q1) q2,hmm.2.1.trans q1,fun b hb=>?_,fun _=>⟨rfl,rfl⟩⟩;obtain ⟨r1,r2,r3⟩:=hmm.2.2.1 b hb;refine ⟨r1,Nat.lt_of_lt_of_le r2 q1.bel.size,fun l o hl hd eb=>?_⟩;rcases q1.prov l o hl hd with r | ⟨l',o',s1,s2,s3⟩
      . omega
      . exact r3 l' o' s1 s2 (s3.trans eb)
     obtain ⟨pend1,t3,tp,t4,t5,_⟩:=zKn (P:=P) (κ:=fun pend=>fN (addB M i) fun M=>xdrF rc D nt (ops.toList.map (·.dst)) ops.toList mt dm f M pend preps e' S1 K) hD hng hp1 t1 hmem;rw [zo] at t3;refine ⟨_,pnM N1 pend1,fun hn=>GF.ok (np:=preps=[]) fun e=>hn (by rw [e]; rfl),hmem,fun b hb=>?_,fun p hp'=>?_,fun q hq=>?_,?_⟩
     . obtain ⟨r1,r2,r3⟩:=hmm.2.2.1 b hb;exact q1.frm b r2 r3
     . rw [<- zIm q1.ext hp] at hp';rcases t4 p hp' with q | q
       . exact .inl (hm.bef i m hi hg _ q)
       . exact .inr q
     . rw [<- zGH q1.ext hp] at hq;exact t5 q hq
     . rw [<- zEd,<- zGH q1.ext hp];exact zDw hrc hD hng hm hst hcl hB0 f t3 hmem tp hpb fun q hq hb=>by
        rw [kg] at hb;simp only [Bool.or_eq_true,decide_eq_true_eq] at hb;rcases hb with hb | hb
        . exact hpm q hq hb
        . exact zHa h2p q hq hb.symm
    have hw:=zAd hmm.1.env h3;unfold wpOpIn;simp only [ho];cases hwn:Region.wanted o (yielded ops am.tmps) with
    | false=>
     rw [hwn,cond_false] at hw;rw [if_neg (by simp)];obtain ⟨I1,pend1,r1,r2,r3,r4⟩:=next (x:=.tup []) (.refl hmm.1.sim) trivial hw;exact ⟨fun _ _=>trivial,I1,pend1,r1,r2,fun _ _=>trivial,r4⟩
    | true=>
     rw [hwn,cond_true,zN0] at hw;rw [if_pos rfl];refine ⟨fun _ _=>trivial,?_⟩;rw [Oper.semAt_eq _ _ _ hns.2];obtain ⟨out,N1,S1,w1,k1,k2,k3⟩:=zQI hD hng hmm.1.sim hmm.1.env hw;cases out with
     | v x=>rw [k3.1,Oper.uponIn_value]; exact next k2 k3.2 k1
     | sk=>
      have k3:(execOp am.eval o).run P wm = .ok .skip w1:=k3;rw [k3,Oper.uponIn_skip];exact next (x:=.tup []) k2 trivial k1
     | ent fn args=>
      obtain ⟨k3,k4,k5⟩:=k3;rw [k3,Oper.uponIn_enter];refine ⟨fun e=>(by cases e),CallsIn.mono (zIk hrc hD hng k1 k2.sim k4 fr) ?_⟩;rintro en w2 ⟨r,N2,S2,t1,t2,t3⟩;cases r with
      | ret x=>obtain ⟨rfl,t2⟩:=t2; exact next (k2.trans t3) t2 t1
      | pan x=>cases t1
     | rnd l' args=>cases k1
     | dfr fn args caps=>cases k1
     | rcv=>cases k1
     | pan x=>cases k1
  rcases zCj h3 with ⟨i,o,h1,h2,h3⟩ | ⟨_,h3⟩
  . -- an allocation gets ready
    rw [Nat.zero_add] at h2 h3;have ho:ops[i]? = some o:=by simpa using h1
    have hi:=(Array.getElem?_eq_some_iff.1 ho).1;have hdi:zt ops i=o.dst:=by simp [zt,ho]
    simp only [Bool.and_eq_true,Bool.not_eq_true',Bool.or_eq_false_iff,zAj] at h2;obtain ⟨⟨⟨⟨h2,h2p⟩,h2b⟩,hdm⟩,h2m⟩:=h2;unfold mB at h2m;split at h2m
    case h_2=>cases h2m
    rename_i m hg;refine .inr (.inr (.inl ⟨i,hi,fun q=>absurd (show M.testBit i=true from q) (by rw [h2]; simp),hpre hi hg h2m,hnot h2p,?_⟩));have hw:=zAd hs.1.env h3;cases hwn:Region.wanted o (yielded ops a.tmps) with
    | false=>
     rw [hwn,cond_false] at hw;left;refine ⟨undef,hcl i hdm,fun X' a' w' hm'=>⟨o,ho,.inr ⟨?_,rfl⟩⟩,?_⟩
     . obtain rfl:a' = a:=GF.act (N0:=N0) (S0:=S0) (w0:=w0) (np:=False) (a1:=a) (w1:=w) hs.1 hm'.1;exact hwn
     . obtain ⟨e',t1,t2⟩:=zGO (B:=B) hw;rw [zo] at t1;rw [<- zEd,hdi];refine CanF.mono (I:=GF (preps=[]) B nt N0 S0 w0 N e' S ds (a.put o.dst undef) w) ?_ (zDw hrc hD hng hm hst hcl hB0 f (pend:=(i,o,.tup [])::pend) t1 (X:=X) ⟨t2 hs.1 trivial,hs.2.1,hs.2.2.1,fun _=>⟨rfl,rfl⟩⟩ ⟨fun p hp'=>?_,hp.pp⟩ hpb fun q hq hb=>?_)
       . rintro X' _ w' ⟨a0,rfl,q1,q2,q3,q4⟩;exact ⟨t2 q1 trivial,q2,q3,fun hn=>by obtain ⟨r1,r2⟩:=q4 hn; subst r1; subst r2; exact ⟨rfl,rfl⟩⟩
       . rcases List.mem_cons.1 hp' with rfl | hp'
         . exact ⟨ho,trivial⟩
         . exact hp.pn p hp'
       . rw [kg] at hb;simp only [Bool.or_eq_true,decide_eq_true_eq] at hb;rcases hb with hb | hb
         . exact hpm q hq hb
         . exact zHa h2p q hq hb.symm
    | true=>
     rw [hwn,cond_true] at hw;right; left;obtain ⟨cs,pv,el,k1,k2,k3,_⟩:=zNe hD hng hs.1.sim hs.1.env hw;have hp1:PendOk ops S.nl pend (⟨i,o,cs,pv,el⟩::preps):=⟨hp.pn,fun p hp'=>by
      rcases List.mem_cons.1 hp' with rfl | hp'
      . exact ⟨ho,k2,k3⟩
      . exact hp.pp p hp'⟩
     have hmem:GF ((⟨i,o,cs,pv,el⟩::preps)=([]:List PE)) B nt N0 S0 w0 N e S ds a w X a w:=⟨hs.1,hs.2.1,hs.2.2.1,fun q=>by cases q⟩;obtain ⟨pend1,t3,_,t4,t5,t6⟩:=zKn (P:=P) (κ:=fun pend=>xdrF rc D nt (ops.toList.map (·.dst)) ops.toList mt dm f M pend (⟨i,o,cs,pv,el⟩::preps) e S K) hD hng hp1 k1 hmem;obtain rfl:=t6 rfl;refine ⟨pv.val,.cells (cs.map (tr N)).toArray el,_,hcl i hdm,GF.ok (np:=(⟨i,o,cs,pv,el⟩::preps)=([]:List PE)) (fun q=>by cases q),fun X' a' w' hm'=>⟨hm'.1,hm'.2.1,hm'.2.2.1,fun q=>by cases q⟩,fun p hp'=>((t4 p hp').resolve_left (by simp)).2,t5,?_⟩;exact zDw hrc hD hng hm hst hcl hB0 f t3 hmem hp1 (fun q hq=>by
      rcases List.mem_cons.1 hq with rfl | hq
      . exact h2b
      . exact hpb q hq) (fun q hq hb=>by
      rcases List.mem_cons.1 hq with rfl | hq
      . rw [h2] at hb; cases hb
      . exact hpm q hq hb)
  have hcm:∀ ps:List PE,(∀ p ∈ ps,p ∈ preps)->cmtK D nt (ops.toList.map (·.dst)) ops.toList mt M pend preps e S (fun M pend preps e S=>xdrF rc D nt (ops.toList.map (·.dst)) ops.toList mt dm f M pend preps e S K)
   (bif nilB preps && zAW (fun i _=>!bitB M i) ops.toList 0 (fun _ _=>false) true then K e S else false) ps=true ->
   (∃ p ∈ preps,domB ops.toList mt M preps p.i=true/\(newK S (.row 0 p.cs 0 p.el) fun n S=>putE nt p.o.dst (p.pv.T n) e fun e=>remK p.i preps fun preps=>rchF D nt (ops.toList.map (·.dst)) 0 e S pend fun pend=>pchk D nt (ops.toList.map (·.dst)) e (fN (addB M p.i) fun M=>xdrF rc D nt (ops.toList.map (·.dst)) ops.toList mt dm f M pend preps e S K) preps)=true) \/
   (bif nilB preps && zAW (fun i _=>!bitB M i) ops.toList 0 (fun _ _=>false) true then K e S else false)=true:=by
   intro ps
   induction ps with
   | nil=>intro _ h; exact .inr h
   | cons p ps ih=>
    intro hsub h;have h:(bif domB ops.toList mt M preps p.i then
     (newK S (.row 0 p.cs 0 p.el) fun n S=>putE nt p.o.dst (p.pv.T n) e fun e=>remK p.i preps fun preps=>rchF D nt (ops.toList.map (·.dst)) 0 e S pend fun pend=>pchk D nt (ops.toList.map (·.dst)) e (fN (addB M p.i) fun M=>xdrF rc D nt (ops.toList.map (·.dst)) ops.toList mt dm f M pend preps e S K) preps) else
     cmtK D nt (ops.toList.map (·.dst)) ops.toList mt M pend preps e S (fun M pend preps e S=>xdrF rc D nt (ops.toList.map (·.dst)) ops.toList mt dm f M pend preps e S K)
      (bif nilB preps && zAW (fun i _=>!bitB M i) ops.toList 0 (fun _ _=>false) true then K e S else false) ps)=true:=h
    cases hb:domB ops.toList mt M preps p.i with
    | true=>
     rw [hb,cond_true] at h;exact .inl ⟨p,hsub p (by simp),hb,h⟩
    | false=>
     rw [hb,cond_false] at h;exact ih (fun q hq=>hsub q (List.mem_cons_of_mem _ hq)) h
  rcases hcm preps (fun _ h=>h) h3 with ⟨p,hpin,hdom,h4⟩ | h4
  . obtain ⟨ho,hcb,hc1⟩:=hp.pp p hpin;have hi:=(Array.getElem?_eq_some_iff.1 ho).1;have hdi:zt ops p.i=p.o.dst:=by simp [zt,ho]
    have hoth:=zNJ (N:=N) hm hdom;refine .inr (.inr (.inr ⟨p.i,p.pv.val,_,List.mem_map.2 ⟨p,hpin,rfl⟩,fun q=>hpm p hpin q,fun k hk hMk hq=>hoth k hk hMk hq fun e=>hq _ (List.mem_map.2 ⟨p,hpin,rfl⟩) (by rw [e]; rfl),fun Xm am wm b hmm hXb hob=>?_⟩));obtain rfl:am=a:=GF.act (N0:=N0) (S0:=S0) (w0:=w0) (np:=False) (a1:=a) (w1:=w) hs.1 hmm.1;obtain ⟨r1,r2,r3⟩:=hmm.2.2.1 b hXb;obtain ⟨S',q1,q2,q3,q4⟩:=hmm.1.sim.named h4 hcb hc1 (Nat.le_trans hB0 r1) r3 hob;obtain ⟨e',t1,t2⟩:=zGO (B:=B) q1;rw [zJS] at t1;have hx:=N.ext_add S.nl b 0;have hnl:S.nl<=S'.nl:=by omega
    have hfm:(preps.filter fun q=>q.i != p.i).map (PE.pr N)=(preps.map (PE.pr N)).filter fun q=>q.1 != p.i:=by
     rw [List.filter_map]; rfl
    have hp1:PendOk ops S'.nl pend (preps.filter fun q=>q.i != p.i):=⟨(hp.mono hnl).pn,fun q hq=>(hp.mono hnl).pp q (List.mem_filter.1 hq).1⟩;have hp0:PendOk ops S.nl pend (preps.filter fun q=>q.i != p.i):=⟨hp.pn,fun q hq=>hp.pp q (List.mem_filter.1 hq).1⟩;have hval:tr (N.add S.nl b 0) (p.pv.T S.nl)=p.pv.val b:=by rw [PV.tr_eq,NM.add_bl]
    have stp:Stp B N0 S0 w0 (N.add S.nl b 0) S' wm:=by
     have h0:=hmm.2.1;refine ⟨h0.ext.trans hx h0.nl,Nat.le_trans h0.nl hnl,q2,h0.bel,h0.frm,fun l o hl hd=>?_⟩;rw [q4] at hl;split at hl
     . rename_i el; subst el;exact .inl (by rw [NM.add_bl]; exact r1)
     . rw [hx.bl l (hmm.1.sim.lt l o hl)];exact h0.prov l o hl hd
    have hmem:GF ((preps.filter fun q=>q.i != p.i)=[]) B nt N0 S0 w0 (N.add S.nl b 0) e' S' ds (am.put p.o.dst (p.pv.val b)) wm (fun c=>Xm c/\c≠b) (am.put p.o.dst (p.pv.val b)) wm:=by
     refine ⟨?_,stp,fun c hc=>?_,fun _=>⟨rfl,rfl⟩⟩
     . rw [<- hval];exact t2 (hmm.1.ren hx hnl q2) (PV.bd _ (by omega))
     . obtain ⟨s1,s2,s3⟩:=hmm.2.2.1 c hc.1;refine ⟨s1,s2,fun l o hl hd=>?_⟩;rw [q4] at hl;split at hl
       . rename_i el; subst el;rw [NM.add_bl]; exact Ne.symm hc.2
       . rw [hx.bl l (hmm.1.sim.lt l o hl)];exact s3 l o hl hd
    obtain ⟨pend1,t3,_,t4,t5,t6⟩:=zKn (P:=P) (κ:=fun pend=>fN (addB M p.i) fun M=>xdrF rc D nt (ops.toList.map (·.dst)) ops.toList mt dm f M pend (preps.filter fun q=>q.i != p.i) e' S' K) hD hng hp1 t1 hmem;obtain rfl:=t6 rfl;rw [zo] at t3;refine ⟨_,fun hn=>GF.ok (np:=(preps.filter fun q=>q.i != p.i)=[]) fun e=>hn (by rw [<- hfm,e]; rfl),by rw [hdi]; exact hmem,fun q hq=>?_,fun q hq hne=>?_,?_⟩
    . rw [<- zIm hx hp] at hq;exact ((t4 q hq).resolve_left (by simp)).2
    . refine t5 q ?_;rw [zGH hx hp0,hfm];exact List.mem_filter.2 ⟨hq,by simpa using hne⟩
    . rw [<- zEd,<- hfm,<- zIm hx hp,<- zGH hx hp0];refine zDw hrc hD hng hm hst hcl hB0 f t3 hmem hp1 (fun q hq=>hpb q (List.mem_filter.1 hq).1) fun q hq hb=>?_;obtain ⟨q1,q2⟩:=List.mem_filter.1 hq;rw [kg] at hb;simp only [Bool.or_eq_true,decide_eq_true_eq] at hb;rcases hb with hb | hb
      . exact hpm q q1 hb
      . simp [hb] at q2
  . obtain ⟨h5,h6⟩:=zK h4;rw [Bool.and_eq_true,zNZ] at h5;refine .inr (.inl ⟨fun k hk=>?_,fun X' a' w' hm'=>⟨rfl,N,e,S,h6,hm'.1,hm'.2.1⟩⟩);rcases zCj h5.2 with ⟨_,_,_,_,q⟩ | ⟨q,_⟩
    . cases q
    . have:=q k ops[k] (by simp [hk]);rw [Nat.zero_add] at this;simpa [zAj] using this
theorem zPz (hD:DOk P D) (hng:D.ng=B.ng):zKt P B D (zLq D):=by
 intro rc hrc ro fr nt id l e S ds K N a w h hs hr;unfold zLq at h;have h:=h;obtain ⟨mt,dt,h1,h2,h3,h4⟩:=zI5 (ops:=⟨l⟩) (by simp) (Nat.zero_le _) ⟨fun j hj=>(by omega),fun j m hj=>(by omega),fun j m o hj=>(by omega)⟩ (fun j o hj=>(by omega)) (fun t p=>⟨fun q=>(by rw [Tr.get_lf] at q; cases q),fun q=>(by omega)⟩) h;obtain ⟨dm,h6,_,h5⟩:=zNh (ops:=⟨l⟩) (by simp) h1;have hst:=zQw h2 h3 h4;have hcl:∀ i,dm.testBit i=false->zCQ (⟨l⟩:Array Oper) i:=fun i hi k o t ho ht hd=>by
  rcases h5 k o (by omega) ho t ht i ((h4 t i).2 hd) with ⟨m,q1,q2⟩ | q
  . exact h2.bef k m (Array.getElem?_eq_some_iff.1 ho).1 q1 i q2
  . rw [hi] at q; cases q
 have stp:Stp B N S w N S { w with drawn:=w.drawn+1 }:=.stay (hs.sim.same (fun _ _=>rfl) (Nat.le_refl _)) (fun _ _=>rfl) ⟨rfl,rfl,rfl,Nat.le_refl _,fun _ _=>rfl⟩;have hI:GF (([]:List PE)=[]) B nt N S w N e S ds a { w with drawn:=w.drawn+1 } (fun _=>False) a { w with drawn:=w.drawn+1 }:=⟨hs.later stp,stp,fun _ hb=>hb.elim,fun _=>⟨rfl,rfl⟩⟩;have hc:=zDw (fr:=fr) hrc hD hng (ops:=⟨l⟩) h2 hst hcl hs.sim.base _ (M:=0) (pend:=[]) (preps:=[]) h6 hI ⟨fun _ hp=>(by cases hp),fun _ hp=>(by cases hp)⟩ (fun _ hp=>by cases hp) (fun _ hp=>by cases hp);have e0:(fun k=>Nat.testBit 0 k=true)=fun _=>False:=by funext k; simp
 rw [e0] at hc;refine wpIn_mono (zHb (Q:=DQ B nt N S w ds fun e S=>K .n e S ds) hD.mixed hst (fun c a w q=>by cases q.1) (fun ⟨a,w,q⟩=>by cases q.1) hI hc) ?_;rintro ex a' w' ⟨rfl,N',e',S',k1,k2,k3⟩;exact ⟨.n,N',e',S',ds,k1,rfl,k2,k3⟩
end
end
end Go.Cx
