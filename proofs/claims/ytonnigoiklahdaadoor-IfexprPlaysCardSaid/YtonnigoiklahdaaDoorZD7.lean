/-
  What comes of any expression, or what is wrong with it, is as the document says: for every text the law IfexprPlays answers true, and leaves its argument as it was. No condition, but that the listed package-level variables hold what the program's text lays (the card ties them).
-/
import Derived.Test.YtonnigoiklahdaaDoorZD6
import Derived.Test.YtonnigoiklahdaaDoorCards
set_option linter.unusedVariables false
set_option linter.unusedSimpArgs false
set_option linter.unusedSectionVars false
namespace Go.Proofs.YtonnigoiklahdaaDoor
section
open Go.Al Go.Den
inductive WT where
 | num (n:Int) (bad:Bool)
 | un (s:Str) (x:WT)
 | bin (s:Str) (x y:WT)
 | cho (c x y:WT)
def toV:WT->VT
 | .num n _=>.num n
 | .un s x=>.un s (toV x)
 | .bin s x y=>.bin s (toV x) (toV y)
 | .cho c x y=>.cho (toV c) (toV x) (toV y)
def toNd:WT->Nd
 | .num n b=>if b then .mk [98,97,100] 0 [] else .mk [] n []
 | .un s x=>.mk s 0 [toNd x]
 | .bin s x y=>.mk s 0 [toNd x,toNd y]
 | .cho c x y=>.mk [63] 0 [toNd c,toNd x,toNd y]
def badW:WT->Bool
 | .num _ b=>b
 | .un _ x=>badW x
 | .bin _ x y=>badW x || badW y
 | .cho c x y=>(badW c || badW x) || badW y
def in64 (n:Int):Prop:=-9223372036854775808<=n/\n<=9223372036854775807
def okW:WT->Prop
 | .num n _=>in64 n
 | .un s x=>isUn s/\okW x
 | .bin s x y=>s ∈ signs18/\okW x/\okW y
 | .cho c x y=>okW c/\okW x/\okW y
def cmb (b:Int) (f:Bool):Int:=if b=0 then (if f then 91 else 0) else b
theorem zGl (b:Int) (f g:Bool):cmb (cmb b f) g=cmb b (f || g):=by
 unfold cmb
 by_cases h:b=0
 · rw [if_pos h,if_pos h]
   cases f <;> cases g <;> rfl
 · rw [if_neg h,if_neg h,if_neg h]
theorem xd (x:Nd):Nd.mk (Nd.sign x) (Nd.num x) (Nd.kids x)=x:=by cases x; rfl
def Rel (l:List TokT) (b:Int) (o:Option PR) (run:Option (Nd×Int×Unit)):Prop:=
 match o with
 | some y=>∃ (w:WT) (j:Nat),y.1=toV w/\okW w/\y.2.1=l.drop j/\j<=l.length/\y.2.2=cmb b (badW w)/\run=some (toNd w,(j:Int),())
 | none=>∃ (nd:Nd) (j:Int),j < 0/\run=some (nd,j,())
theorem R_of {l:List TokT} {b:Int} {o:Option PR} {r r':Option (Nd×Int×Unit)} (e:r=r') (h:Rel l b o r'):Rel l b o r:=by rw [e]; exact h
theorem R_eta {l:List TokT} {b:Int} {o:Option PR} {r:Option (Nd×Int×Unit)} (h:Rel l b o r):Rel l b o (Option.bind r fun y0=>some (Nd.mk (Nd.sign y0.1) (Nd.num y0.1) (Nd.kids y0.1),(y0.2.1,()))):=by
 cases o with
 | none=>
  obtain ⟨nd,j,hj,rfl⟩:=h
  exact ⟨nd,j,hj,zK rfl (by rw [xd])⟩
 | some y=>
  obtain ⟨w,j,h1,h2,h3,h4,h5,rfl⟩:=h
  exact ⟨w,j,h1,h2,h3,h4,h5,zK rfl (by rw [xd])⟩
def zEV (v e:Int):Prop:=in64 v/\(e=0\/e=91)
theorem zK2 (b:Nat):∀ (t:Str) (n:Nat) (m:Nat) (r:Str),n < 9223372036854775808->numG b n t=some (m,r)->m < 9223372036854775808
 | [],n,m,r,hn,h=>by injection h with h; injection h with h1 _; omega
 | c::t,n,m,r,hn,h=>by
  unfold numG at h
  by_cases h1:b<=digN c.toNat
  · rw [if_pos h1] at h; injection h with h; injection h with h1 _; omega
  · rw [if_neg h1] at h
    by_cases h2:9223372036854775808<=n * b+digN c.toNat
    · rw [if_pos h2] at h; cases h
    · rw [if_neg h2] at h
      exact zK2 b t _ m r (by omega) h
theorem zAK (b:Nat) (t:Str):zEV (numR b t).1 (numR b t).2.1:=by
 have hz:zEV 0 91:=⟨by unfold in64; omega,.inr rfl⟩
 unfold numR
 cases e:numG b 0 t with
 | none=>exact hz
 | some y=>
  obtain ⟨m,r⟩:=y
  have:=zK2 b t 0 m r (by omega) e
  dsimp only
  by_cases h1:r.length=t.length
  · rw [if_pos h1]; exact hz
  · rw [if_neg h1]
    by_cases h2:zEc r=true
    · rw [if_pos h2]; exact ⟨by unfold in64; dsimp only; omega,.inl rfl⟩
    · rw [if_neg h2]; exact hz
theorem zQJ (t:Str):zEV (numS t).1 (numS t).2.1:=by
 match t with
 | []=>exact zAK 10 []
 | [a]=>
  rw [numS]
  by_cases h:a=48
  · rw [if_pos h]; exact zAK 8 _
  · rw [if_neg h]; exact zAK 10 _
 | a::c::r=>
  rw [numS]
  by_cases h:a=48
  · rw [if_pos h]
    by_cases h2:c=120\/c=88
    · rw [if_pos h2]; exact zAK 16 _
    · rw [if_neg h2]; exact zAK 8 _
  · rw [if_neg h]; exact zAK 10 _
def nrOk (o:NR):Prop:=∀ y,o=some y->zEV y.1 y.2.1
theorem zHU {v e:Int} (h:zEV v e):nrOk (some (v,e,())):=fun y hy=>by injection hy with hy; subst hy; exact h
theorem jG {c:Bool} {x y:NR} (h1:nrOk x) (h2:nrOk y):nrOk (cond c x y):=by cases c <;> assumption
theorem qn:nrOk yu:=zHU ⟨by unfold in64; omega,.inr rfl⟩
def nrB (o:NR):Bool:=match o with
 | none=>true
 | some y=>decide (-9223372036854775808<=y.1) && decide (y.1<=9223372036854775807) && (decide (y.2.1=0) || decide (y.2.1=91))
theorem nrB_ok {o:NR} (h:nrB o=true):nrOk o:=fun y hy=>by
 subst hy
 unfold nrB at h
 simp only [Bool.and_eq_true,Bool.or_eq_true,decide_eq_true_iff] at h
 exact ⟨⟨h.1.1,h.1.2⟩,h.2⟩
theorem zPf:((List.range 256).all fun n=>nrB (zEL (n:Int)))=true:=by kernel_rfl
theorem c16_ok (x:Str):nrOk (c16 (x,())):=by
 match x with
 | []=>exact (show c16 ([],())=yu by kernel_rfl) ▸ qn
 | [a]=>exact (show c16 ([a],())=yu by kernel_rfl) ▸ qn
 | [a,b]=>exact (show c16 ([a,b],())=yu by kernel_rfl) ▸ qn
 | [a,b,c]=>
  rw [c16_3]
  exact jG qn (jG qn (jG (zHU ⟨zB2 _,.inl rfl⟩) qn))
 | [a,b,c,d]=>
  rw [c16_4]
  exact jG qn (jG qn (jG qn (nrB_ok (List.all_eq_true.1 zPf c.toNat (List.mem_range.2 c.toNat_lt)))))
 | a::b::c::d::e::r=>
  rw [zJ3 _ (by show 4 < r.length+1+1+1+1+1; omega)]
  exact qn
def sgs:Nat->List Str
 | 1=>[[124,124]]
 | 2=>[[38,38]]
 | 3=>[[124]]
 | 4=>[[94]]
 | 5=>[[38]]
 | 6=>[[61,61],[33,61]]
 | 7=>[[60],[62],[60,61],[62,61]]
 | 8=>[[60,60],[62,62]]
 | 9=>[[43],[45]]
 | _=>[[42],[47],[37]]
theorem n10 {P:Nat->Prop} (h:P 1/\P 2/\P 3/\P 4/\P 5/\P 6/\P 7/\P 8/\P 9/\P 10) (n:Nat) (h1:1<=n) (h2:n<=10):P n:=by
 obtain ⟨a1,a2,a3,a4,a5,a6,a7,a8,a9,a10⟩:=h
 have:n=1\/n=2\/n=3\/n=4\/n=5\/n=6\/n=7\/n=8\/n=9\/n=10:=by omega
 rcases this with rfl | rfl | rfl | rfl | rfl | rfl | rfl | rfl | rfl | rfl <;> assumption
theorem c64_eq (n:Nat) (h1:1<=n) (h2:n<=10):c64 ((n:Int),())=some (sgs n,()):=
 n10 (P:=fun n=>c64 ((n:Int),())=some (sgs n,())) ⟨by kernel_rfl,by kernel_rfl,by kernel_rfl,by kernel_rfl,by kernel_rfl,by kernel_rfl,by kernel_rfl,by kernel_rfl,by kernel_rfl,by kernel_rfl⟩ n h1 h2
def pick (q:Str):List Str->Str->Str
 | [],a=>a
 | s::r,a=>pick q r (if q=s then s else a)
theorem zHG (q:Str):(q ∈ signs18/\1<=lv q/\lv q<=10)\/(q ∉ signs18/\lv q=0):=by
 by_cases h:q ∈ signs18
 · refine .inl ⟨h,?_⟩
   simp only [signs18,List.mem_cons,List.not_mem_nil,or_false] at h
   rcases h with rfl | rfl | rfl | rfl | rfl | rfl | rfl | rfl | rfl | rfl | rfl | rfl | rfl | rfl | rfl | rfl | rfl | rfl <;> decide
 · refine .inr ⟨h,?_⟩
   simp only [signs18,List.mem_cons,List.not_mem_nil,or_false,not_or] at h
   obtain ⟨h1,h2,h3,h4,h5,h6,h7,h8,h9,h10,h11,h12,h13,h14,h15,h16,h17,h18⟩:=h
   unfold lv lvL
   simp only [lvl,if_neg h1,if_neg h2,if_neg h3,if_neg h4,if_neg h5,if_neg h6,if_neg h7,if_neg h8,if_neg h9,if_neg h10,if_neg h11,if_neg h12,if_neg h13,if_neg h14,if_neg h15,if_neg h16,if_neg h17,if_neg h18]
theorem zHR (q:Str):∀ (ys:List Str) (a:Str),(∀ s ∈ ys,q≠s)->pick q ys a=a
 | [],_,_=>rfl
 | s::r,a,h=>by
  unfold pick
  rw [if_neg (h s (by simp))]
  exact zHR q r a fun s hs=>h s (by simp [hs])
theorem zK4 (n:Nat) (h1:1<=n) (h2:n<=10):∀ s ∈ sgs n,s ∈ signs18:=
 fun s hs=>of_decide_eq_true (List.all_eq_true.1 (n10 (P:=fun n=>((sgs n).all fun s=>decide (s ∈ signs18))=true) ⟨by kernel_rfl,by kernel_rfl,by kernel_rfl,by kernel_rfl,by kernel_rfl,by kernel_rfl,by kernel_rfl,by kernel_rfl,by kernel_rfl,by kernel_rfl⟩ n h1 h2) s hs)
theorem zOQ:(signs18.all fun q=>(List.range 11).all fun n=>n == 0 || decide (pick q (sgs n) []=if lv q=(n:Int) then q else []))=true:=by kernel_rfl
theorem zPI (q:Str) (n:Nat) (h1:1<=n) (h2:n<=10):pick q (sgs n) []=if lv q=(n:Int) then q else []:=by
 rcases zHG q with ⟨hq,_⟩ | ⟨hq,h0⟩
 · have:=List.all_eq_true.1 (List.all_eq_true.1 zOQ q hq) n (List.mem_range.2 (by omega))
   rw [Bool.or_eq_true,decide_eq_true_iff,beq_iff_eq] at this
   rcases this with h | h
   · omega
   · exact h
 · rw [if_neg (by omega)]
   exact zHR q _ _ fun s hs e=>hq (e ▸ zK4 n h1 h2 s hs)
end
section
open Go.Al Go.Den
structure At (fu:Nat) (l:List TokT) (i:Nat):Prop where
 un:∀ (m k d:Nat) (b:Int),d<=60->8 * (l.length - i)+2 < m->32 * (l.length - i)+2 < k->Rel l b ((pf m).un d (l.drop i) b) (c31 fu k (l,(i:Int),11,(d:Int),()))
 bin:∀ (n m k d:Nat) (b:Int),1<=n->n<=11->d<=60->8 * (l.length - i)+3 < m->32 * (l.length - i)+14 < k+n->Rel l b ((pf m).bin (n:Int) d (l.drop i) b) (c31 fu k (l,(i:Int),(n:Int),(d:Int),()))
 cho:∀ (m k d:Nat) (b:Int),d<=60->8 * (l.length - i)+4 < m->32 * (l.length - i)+15 < k->Rel l b ((pf m).cho d (l.drop i) b) (c31 fu k (l,(i:Int),0,(d:Int),()))
theorem zMS (fu k:Nat) (l:List TokT) (i lev:Int):c31 fu (k+1) (l,i,lev,61,())=some (Nd.mk [] 0 [],-1,()):=by
 rw [zAg]
 unfold sh31
 exact zF rfl rfl
theorem zLk (fu k:Nat) (l:List TokT) (i:Nat) (lev:Int) (d:Nat) (hd:d<=60) (h:l.length<=i):c31 fu (k+1) (l,(i:Int),lev,(d:Int),())=some (Nd.mk [] 0 [],-1,()):=by
 rw [zAg]
 unfold sh31
 exact zE (z6 (by omega)) (zF (qr (by show (l.length:Int)<=(i:Int); omega)) rfl)
theorem zJr (m:Nat) (b:Int):(∀ d,(pf m).at1 d [] b=none)/\(∀ d,(pf m).un d [] b=none)/\(∀ n d,(pf m).bin n d [] b=none)/\(∀ d,(pf m).cho d [] b=none):=by
 have h1:∀ m d,(pf m).at1 d [] b=none:=fun m d=>by
  cases m with
  | zero=>rfl
  | succ m=>rfl
 have h2:∀ m d,(pf m).un d [] b=none:=fun m d=>by
  cases m with
  | zero=>rfl
  | succ m=>
   have e0:(pf (m+1)).un d [] b=(pf m).at1 d [] b:=rfl
   rw [e0]
   exact h1 m d
 have h3:∀ m n d,(pf m).bin n d [] b=none:=fun m n d=>by
  cases m with
  | zero=>rfl
  | succ m=>
   show ((pf m).un d [] b).bind (fun x=>zk (fun n l b=>(pf m).bin n d l b) n (x.2.1.length+1) x.1 x.2.1 x.2.2)=none
   rw [h2 m d]; rfl
 have h4:∀ m d,(pf m).cho d [] b=none:=fun m d=>by
  cases m with
  | zero=>rfl
  | succ m=>
   show ((pf m).bin 1 d [] b).bind (fun c=>if sg c.2.1=[63] then ((pf m).inn d (c.2.1.drop 1) c.2.2).bind (fun x=>if sg x.2.1=[58] then ((pf m).inn d (x.2.1.drop 1) x.2.2).bind (fun y=>some (VT.cho c.1 x.1 y.1,y.2.1,y.2.2)) else none) else some c)=none
   rw [h3 m 1 d]; rfl
 exact ⟨h1 m,h2 m,h3 m,h4 m⟩
theorem xR {l:List TokT} {b:Int} {r:Option (Nd×Int×Unit)} {nd:Nd} {j:Int} (e:r=some (nd,j,())) (h:j < 0):Rel l b none r:=⟨nd,j,h,e⟩
theorem zNl (fu:Nat) (l:List TokT) (i:Nat) (h:l.length<=i):At fu l i:=by
 have e:l.drop i=[]:=List.drop_eq_nil_of_le h
 refine ⟨fun m k d b hd hm hk=>?_,fun n m k d b h1 h2 hd hm hk=>?_,fun m k d b hd hm hk=>?_⟩
 · obtain ⟨k,rfl⟩:∃ k',k=k' + 1:=⟨k - 1,by omega⟩
   rw [e,(zJr m b).2.1 d]
   exact xR (zLk fu k l i _ d hd h) (by decide)
 · obtain ⟨k,rfl⟩:∃ k',k=k' + 1:=⟨k - 1,by omega⟩
   rw [e,(zJr m b).2.2.1 _ d]
   exact xR (zLk fu k l i _ d hd h) (by decide)
 · obtain ⟨k,rfl⟩:∃ k',k=k' + 1:=⟨k - 1,by omega⟩
   rw [e,(zJr m b).2.2.2 d]
   exact xR (zLk fu k l i _ d hd h) (by decide)
theorem i1n (i:Nat) (h:i < 5000):iadd .i64 (i:Int) 1=((i+1:Nat):Int):=zOU i (by omega)
theorem zLU {fu:Nat} {l:List TokT} {i:Nat} (ha:At fu l i) (m k d:Nat) (b:Int) (hd:d<=60) (hm:8 * (l.length - i)+5 < m) (hk:32 * (l.length - i)+15 < k):Rel l b ((pf m).inn d (l.drop i) b) (c31 fu k (l,(i:Int),0,(iadd .i64 (d:Int) 1),())):=by
 obtain ⟨m,rfl⟩:∃ m',m=m' + 1:=⟨m - 1,by omega⟩
 obtain ⟨k,rfl⟩:∃ k',k=k' + 1:=⟨k - 1,by omega⟩
 show Rel l b (if d=60 then none else (pf m).cho (d+1) (l.drop i) b) _
 rw [i1n d (by omega)]
 by_cases h:d=60
 · rw [if_pos h,h]
   exact xR (zMS fu k l _ _) (by decide)
 · rw [if_neg h]
   exact ha.cho m (k+1) (d+1) b (by omega) (by omega) hk
theorem zEO {l:List TokT} {i:Nat} {s:Str} (hs:s≠[]) (h:sg (l.drop i)=s):i < l.length:=by
 apply Classical.byContradiction
 intro h2
 rw [List.drop_eq_nil_of_le (by omega)] at h
 exact hs h.symm
theorem zJo {p:Prop} [Decidable p] (h:p):(!decide p)=false:=by rw [decide_eq_true h]; rfl
theorem zJ4 {p:Prop} [Decidable p] (h:¬ p):(!decide p)=true:=by rw [decide_eq_false h]; rfl
theorem tail63 {fu:Nat} {l:List TokT} {i:Nat} (hl:l.length < 1500) (hfu:2000 < fu) (ht:∀ t ∈ l,t.text.length<=1000) (hi:i < l.length) (ha:At fu l (i+1)) (m k d:Nat) (b:Int) (hd:d<=60) (hm:8 * (l.length - i) < m+2) (hk:32 * (l.length - i) < k+2) :
 Rel l b ((pf (m+1)).at1 d (l.drop i) b) (Option.bind (c49 (l,((i:Int),([40],())))) fun y0=>
  cond y0.1
   (Option.bind (c31 fu k (l,((iadd .i64 (i:Int) 1),(0,((iadd .i64 (d:Int) 1),()))))) fun y1=>
    cond (ile 0 y1.2.1)
     (Option.bind (c49 (l,(y1.2.1,([41],())))) fun y2=>
      cond (!y2.1)
       (some ((Nd.mk (Nd.sign y1.1) (Nd.num y1.1) (Nd.kids y1.1)),((Neg.neg 1),())))
       (some ((Nd.mk (Nd.sign y1.1) (Nd.num y1.1) (Nd.kids y1.1)),((iadd .i64 y1.2.1 1),()))))
     (some ((Nd.mk (Nd.sign y1.1) (Nd.num y1.1) (Nd.kids y1.1)),((Neg.neg 1),()))))
   (cond (ieq (TokT.kind (List.getD l (Int.toNat (i:Int)) tokD)) 2)
    (Option.bind (c14 fu ((TokT.text (List.getD l (Int.toNat (i:Int)) tokD)),())) fun y1=>
     cond (ine y1.2.1 0)
      (some ((Nd.mk [98,97,100] 0 []),((iadd .i64 (i:Int) 1),())))
      (some ((Nd.mk [] y1.1 []),((iadd .i64 (i:Int) 1),()))))
    (cond (ieq (TokT.kind (List.getD l (Int.toNat (i:Int)) tokD)) 3)
     (Option.bind (c16 ((TokT.text (List.getD l (Int.toNat (i:Int)) tokD)),())) fun y1=>
      cond (ine y1.2.1 0)
       (some ((Nd.mk [98,97,100] 0 []),((iadd .i64 (i:Int) 1),())))
       (some ((Nd.mk [] y1.1 []),((iadd .i64 (i:Int) 1),()))))
     (cond (ine (TokT.kind (List.getD l (Int.toNat (i:Int)) tokD)) 1)
      (some ((Nd.mk [] 0 []),((Neg.neg 1),())))
      (cond (ine 0 0)
       (some ((Nd.mk [98,97,100] 0 []),((iadd .i64 (i:Int) 1),())))
       (some ((Nd.mk [] 0 []),((iadd .i64 (i:Int) 1),())))))))):=by
 show Rel l b (if sg (l.drop i)=[40] then ((pf m).inn d ((l.drop i).drop 1) b).bind (fun x=>if sg x.2.1=[41] then some (x.1,x.2.1.drop 1,x.2.2) else none) else hdA (l.drop i) b) _
 rw [List.drop_drop,i1n i (by omega)]
 refine R_of (zK (zDg l i [40] (by decide)) rfl) ?_
 by_cases h40:sg (l.drop i)=[40]
 · rw [if_pos h40]
   refine R_of (zF (decide_eq_true h40) rfl) ?_
   have hin:=zLU ha m k d b hd (by omega) (by omega)
   generalize (pf m).inn d (l.drop (i+1)) b=o at hin ⊢
   cases o with
   | none=>
    obtain ⟨nd,j,hj,e⟩:=hin
    exact xR (zK e (zE (zEY hj) rfl)) (by decide)
   | some y=>
    obtain ⟨w,j,h1,h2,h3,h4,h5,e⟩:=hin
    refine R_of (zK e (zF (qr (by show (0:Int)<=(j:Int); omega)) (zK (zDg l j [41] (by decide)) rfl))) ?_
    show Rel l b (if sg y.2.1=[41] then some (y.1,y.2.1.drop 1,y.2.2) else none) _
    rw [h3]
    by_cases h41:sg (l.drop j)=[41]
    · have hj:=zEO (by decide) h41
      rw [if_pos h41]
      refine R_of (zE (zJo h41) rfl) ?_
      refine ⟨w,j+1,h1,h2,?_,hj,h5,?_⟩
      · show (l.drop j).drop 1=_
        rw [List.drop_drop]
      · dsimp only
        rw [xd,i1n j (by omega)]
    · rw [if_neg h41]
      exact xR (zF (zJ4 h41) rfl) (by decide)
 · rw [if_neg h40]
   refine R_of (zE (decide_eq_false h40) rfl) ?_
   rw [Int.toNat_natCast,zAn hi]
   have htx:(l.getD i tokD).text.length<=1000:=by
    rw [zBf l i tokD hi]
    exact ht _ (List.getElem_mem hi)
   show Rel l b ((jQ (l.getD i tokD)).bind fun v=>some (.num v.1,l.drop (i+1),if b=0 then v.2 else b)) _
   generalize l.getD i tokD=t at htx ⊢
   have num:∀ (v e:Int),zEV v e->Rel l b (some (.num v,l.drop (i+1),if b=0 then e else b)) (cond (ine e 0) (some (Nd.mk [98,97,100] 0 [],(((i+1:Nat):Int),()))) (some (Nd.mk [] v [],(((i+1:Nat):Int),())))):=fun v e he=>by
    by_cases h0:e=0
    · refine R_of (zE (j7 h0) rfl) ⟨.num v false,i+1,rfl,he.1,rfl,hi,?_,rfl⟩
      show (if b=0 then e else b)=if b=0 then 0 else b
      rw [h0]
    · refine R_of (zF (xI h0) rfl) ⟨.num v true,i+1,rfl,he.1,rfl,hi,?_,rfl⟩
      show (if b=0 then e else b)=if b=0 then 91 else b
      rcases he.2 with h | h
      · exact absurd h h0
      · rw [h]
   unfold jQ
   by_cases h2:t.kind=2
   · rw [if_pos h2]
     refine R_of (zF (yY h2) (zK (c14_eq fu t.text (by omega) (by omega)) rfl)) ?_
     exact num _ _ (zQJ t.text)
   rw [if_neg h2]
   by_cases h3:t.kind=3
   · rw [if_pos h3]
     obtain ⟨y,hy⟩:=(zNr t.text (by omega)).2
     have hok:=c16_ok t.text y hy
     refine R_of (zE (z7 h2) (zF (yY h3) (zK hy rfl))) ?_
     rw [hy]
     exact num _ _ hok
   rw [if_neg h3]
   by_cases h1:t.kind=1
   · rw [if_pos h1]
     refine R_of (zE (z7 h2) (zE (z7 h3) (zE (j7 h1) (zE rfl rfl)))) ?_
     refine ⟨.num 0 false,i+1,rfl,(by unfold okW in64; omega),rfl,hi,?_,rfl⟩
     exact (show (if b=0 then (0:Int) else b)=if b=0 then 0 else b from rfl)
   · rw [if_neg h1]
     exact xR (zE (z7 h2) (zE (z7 h3) (zF (xI h1) rfl))) (by decide)
theorem unB {fu:Nat} {l:List TokT} {i:Nat} (hl:l.length < 1500) (hi:i < l.length) (ha:At fu l (i+1)) (m k d:Nat) (b:Int) (hd:d<=60) (hm:8 * (l.length - i) < m+2) (hk:32 * (l.length - i) < k+2) (h5:(l.getD i tokD).kind=5) (hu:isUn (l.getD i tokD).text) :
 Rel l b ((pf (m+1)).un d (l.drop i) b) (Option.bind (c31 fu k (l,((iadd .i64 (i:Int) 1),(11,((iadd .i64 (d:Int) 1),()))))) fun y0=>
  some ((Nd.mk (TokT.text (List.getD l (Int.toNat (i:Int)) tokD)) 0 [(Nd.mk (Nd.sign y0.1) (Nd.num y0.1) (Nd.kids y0.1))]),(y0.2.1,()))):=by
 have hs:sg (l.drop i)=(l.getD i tokD).text:=by rw [zAn hi]; exact if_pos h5
 show Rel l b (if isUn (sg (l.drop i)) then (if d=60 then none else ((pf m).un (d+1) ((l.drop i).drop 1) b).bind fun x=>some (.un (sg (l.drop i)) x.1,x.2.1,x.2.2)) else (pf m).at1 d (l.drop i) b) _
 rw [hs,if_pos hu,List.drop_drop,i1n i (by omega),i1n d (by omega),Int.toNat_natCast]
 obtain ⟨k,rfl⟩:∃ k',k=k' + 1:=⟨k - 1,by omega⟩
 by_cases h:d=60
 · rw [if_pos h]
   subst h
   exact xR (zK (zMS fu k l _ _) rfl) (by decide)
 · rw [if_neg h]
   have hr:=ha.un m (k+1) (d+1) b (by omega) (by omega) (by omega)
   generalize (pf m).un (d+1) (l.drop (i+1)) b=o at hr ⊢
   cases o with
   | none=>
    obtain ⟨nd,j,hj,e⟩:=hr
    exact xR (zK e rfl) hj
   | some y=>
    obtain ⟨w,j,h1,h2,h3,h4,h6,e⟩:=hr
    refine R_of (zK e rfl) ⟨.un (l.getD i tokD).text w,j,?_,⟨hu,h2⟩,h3,h4,h6,?_⟩
    · show VT.un _ y.1=VT.un _ (toV w)
      rw [h1]
    · dsimp only
      rw [xd]
      rfl
theorem un63 {fu:Nat} {l:List TokT} {i:Nat} (hl:l.length < 1500) (hfu:2000 < fu) (ht:∀ t ∈ l,t.text.length<=1000) (hi:i < l.length) (ha:At fu l (i+1)) (m k d:Nat) (b:Int) (hd:d<=60) (hm:8 * (l.length - i) < m+1) (hk:32 * (l.length - i) < k+2) :
 Rel l b ((pf (m+1)).un d (l.drop i) b) (c63 fu (k+1) (l,(i:Int),(d:Int),())):=by
 rw [zOq]
 unfold sh63
 refine R_of (zF (zY (by omega) (by omega)) rfl) ?_
 have tl:¬ isUn (sg (l.drop i))->Rel l b ((pf (m+1)).un d (l.drop i) b) (Option.bind (c49 (l,((i:Int),([40],())))) fun y0=>
  cond y0.1
   (Option.bind (c31 fu k (l,((iadd .i64 (i:Int) 1),(0,((iadd .i64 (d:Int) 1),()))))) fun y1=>
    cond (ile 0 y1.2.1)
     (Option.bind (c49 (l,(y1.2.1,([41],())))) fun y2=>
      cond (!y2.1)
       (some ((Nd.mk (Nd.sign y1.1) (Nd.num y1.1) (Nd.kids y1.1)),((Neg.neg 1),())))
       (some ((Nd.mk (Nd.sign y1.1) (Nd.num y1.1) (Nd.kids y1.1)),((iadd .i64 y1.2.1 1),()))))
     (some ((Nd.mk (Nd.sign y1.1) (Nd.num y1.1) (Nd.kids y1.1)),((Neg.neg 1),()))))
   (cond (ieq (TokT.kind (List.getD l (Int.toNat (i:Int)) tokD)) 2)
    (Option.bind (c14 fu ((TokT.text (List.getD l (Int.toNat (i:Int)) tokD)),())) fun y1=>
     cond (ine y1.2.1 0)
      (some ((Nd.mk [98,97,100] 0 []),((iadd .i64 (i:Int) 1),())))
      (some ((Nd.mk [] y1.1 []),((iadd .i64 (i:Int) 1),()))))
    (cond (ieq (TokT.kind (List.getD l (Int.toNat (i:Int)) tokD)) 3)
     (Option.bind (c16 ((TokT.text (List.getD l (Int.toNat (i:Int)) tokD)),())) fun y1=>
      cond (ine y1.2.1 0)
       (some ((Nd.mk [98,97,100] 0 []),((iadd .i64 (i:Int) 1),())))
       (some ((Nd.mk [] y1.1 []),((iadd .i64 (i:Int) 1),()))))
     (cond (ine (TokT.kind (List.getD l (Int.toNat (i:Int)) tokD)) 1)
      (some ((Nd.mk [] 0 []),((Neg.neg 1),())))
      (cond (ine 0 0)
       (some ((Nd.mk [98,97,100] 0 []),((iadd .i64 (i:Int) 1),())))
       (some ((Nd.mk [] 0 []),((iadd .i64 (i:Int) 1),())))))))):=fun hn=>by
  show Rel l b (if isUn (sg (l.drop i)) then (if d=60 then none else ((pf m).un (d+1) ((l.drop i).drop 1) b).bind fun x=>some (.un (sg (l.drop i)) x.1,x.2.1,x.2.2)) else (pf m).at1 d (l.drop i) b) _
  rw [if_neg hn]
  obtain ⟨m,rfl⟩:∃ m',m=m' + 1:=⟨m - 1,by omega⟩
  exact tail63 hl hfu ht hi ha m k d b hd (by omega) (by omega)
 have hs:sg (l.drop i)=if (l.getD i tokD).kind=5 then (l.getD i tokD).text else []:=by rw [zAn hi]; rfl
 by_cases h5:(l.getD i tokD).kind=5
 · rw [if_pos h5] at hs
   refine R_of (zF (yY h5) rfl) ?_
   have e:List.getD l (Int.toNat (i:Int)) tokD=l.getD i tokD:=by rw [Int.toNat_natCast]
   have bb:=unB hl hi ha m k d b hd (by omega) (by omega) h5
   by_cases g1:(l.getD i tokD).text=[43]
   · exact R_of (zF (yW (by rw [e]; exact g1)) rfl) (bb (.inl g1))
   refine R_of (zE (yB (by rw [e]; exact g1)) rfl) ?_
   by_cases g2:(l.getD i tokD).text=[45]
   · exact R_of (zF (yW (by rw [e]; exact g2)) rfl) (bb (.inr (.inl g2)))
   refine R_of (zE (yB (by rw [e]; exact g2)) rfl) ?_
   by_cases g3:(l.getD i tokD).text=[33]
   · exact R_of (zF (yW (by rw [e]; exact g3)) rfl) (bb (.inr (.inr (.inl g3))))
   refine R_of (zE (yB (by rw [e]; exact g3)) rfl) ?_
   by_cases g4:(l.getD i tokD).text=[126]
   · exact R_of (zF (yW (by rw [e]; exact g4)) rfl) (bb (.inr (.inr (.inr g4))))
   refine R_of (zE (yB (by rw [e]; exact g4)) rfl) ?_
   refine tl ?_
   rw [hs]
   unfold isUn
   rintro (h | h | h | h)
   · exact g1 h
   · exact g2 h
   · exact g3 h
   · exact g4 h
 · rw [if_neg h5] at hs
   refine R_of (zE (z7 h5) rfl) ?_
   refine tl ?_
   rw [hs]
   decide
theorem zIs {fu:Nat} {l:List TokT} {i:Nat} (hl:l.length < 1500) (hfu:2000 < fu) (ht:∀ t ∈ l,t.text.length<=1000) (hi:i < l.length) (ha:At fu l (i+1)) (m k d:Nat) (b:Int) (hd:d<=60) (hm:8 * (l.length - i)+2 < m) (hk:32 * (l.length - i)+2 < k) :
 Rel l b ((pf m).un d (l.drop i) b) (c31 fu k (l,(i:Int),11,(d:Int),())):=by
 obtain ⟨m,rfl⟩:∃ m',m=m' + 1:=⟨m - 1,by omega⟩
 obtain ⟨k,rfl⟩:∃ k',k=k' + 1+1:=⟨k - 2,by omega⟩
 rw [zAg]
 unfold sh31
 refine R_of (zE (z6 (by omega)) (zE (zEY (by show (i:Int) < (l.length:Int); omega)) (zF rfl rfl))) ?_
 exact R_eta (un63 hl hfu ht hi ha m k d b hd (by omega) (by omega))
end
section
open Go.Al Go.Den
theorem zJy {m:Nat} {n:Int} {d:Nat} {l:List TokT} {b:Int} {y:PR} (h:(pf m).bin n d l b=some y):lv (sg y.2.1) < n\/lv (sg y.2.1)=0:=by
 cases m with
 | zero=>cases h
 | succ m=>
  obtain ⟨x,_,h⟩:=bind_some h
  exact (zDC _ (fun n l b y h=>(kO m).bin n d l b y h) _ _ _ _ _ _ h).2
theorem zNN (m:Nat) (n:Nat) (d:Nat) (l:List TokT) (b:Int):(pf (m+1)).bin (n:Int) d l b=((pf (m+1)).bin ((n+1:Nat):Int) d l b).bind fun y=>zk (fun n l b=>(pf m).bin n d l b) (n:Int) (y.2.1.length+1) y.1 y.2.1 y.2.2:=by
 show ((pf m).un d l b).bind (fun x=>zk (fun n l b=>(pf m).bin n d l b) (n:Int) (x.2.1.length+1) x.1 x.2.1 x.2.2)=(((pf m).un d l b).bind (fun x=>zk (fun n l b=>(pf m).bin n d l b) ((n:Int)+1) (x.2.1.length+1) x.1 x.2.1 x.2.2)).bind fun y=>zk (fun n l b=>(pf m).bin n d l b) (n:Int) (y.2.1.length+1) y.1 y.2.1 y.2.2
 cases (pf m).un d l b with
 | none=>rfl
 | some x=>exact zEj _ (fun n l b y h=>(kO m).bin n d l b y h) _ _ _ _ _ (Nat.lt_succ_self _)
theorem bin11 (m d:Nat) (l:List TokT) (b:Int):(pf (m+1)).bin ((11:Nat):Int) d l b=(pf m).un d l b:=by
 show ((pf m).un d l b).bind (fun x=>zk (fun n l b=>(pf m).bin n d l b) ((11:Nat):Int) (x.2.1.length+1) x.1 x.2.1 x.2.2)=_
 cases (pf m).un d l b with
 | none=>rfl
 | some x=>
  show zk (fun n l b=>(pf m).bin n d l b) ((11:Nat):Int) (x.2.1.length+1) x.1 x.2.1 x.2.2=some x
  unfold zk
  rw [if_pos]
  rcases zHG (sg x.2.1) with ⟨_,h⟩ | ⟨_,h⟩
  · exact .inl (by omega)
  · exact .inr h
theorem zPS (n:Nat) (h1:1<=n) (h2:n<=10):(sgs n).length<=4:=n10 (P:=fun n=>(sgs n).length<=4) ⟨by decide,by decide,by decide,by decide,by decide,by decide,by decide,by decide,by decide,by decide⟩ n h1 h2
theorem zEA {l:List TokT} {i j:Nat} (hi:i<=l.length) (hj:j<=l.length) (h:(l.drop j).length<=(l.drop i).length):i<=j:=by
 rw [List.length_drop,List.length_drop] at h
 omega
theorem zHL (q s:Str) (r:List Str) (a:Str):pick q (s::r) a=pick q r (if q=s then s else a):=rfl
abbrev LS:Type:=(Int×PUnit)×((Str×(Int×NdsT))×((Str×(Int×NdsT))×PUnit))
abbrev LI:Type:=(Str×(Int×PUnit))×((Str×(Int×NdsT))×((Str×(Int×NdsT))×PUnit))
theorem loop31 {fu:Nat} {l:List TokT} {i:Nat} (hl:l.length < 1500) (hfu:2000 < fu) (hi:i < l.length) (ha:∀ j,i < j->j<=l.length->At fu l j) (n:Nat) (h1:1<=n) (h2:n<=10) (m k d:Nat) (b:Int) (hd:d<=60) (hm:8 * (l.length - i) < m+5) (hk:32 * (l.length - i) < k+n+19) (o:Option PR)
 (st:LS) (hst:∃ (j:Nat) (w:WT) (J:Str×(Int×NdsT)),st=(((j:Int),()),(J,((Nd.sign (toNd w),(Nd.num (toNd w),(Nd.kids (toNd w),()))),())))/\i<=j/\j<=l.length/\okW w/\(lv (sg (l.drop j)) < (n:Int)+1\/lv (sg (l.drop j))=0)/\zk (fun n l b=>(pf m).bin n d l b) (n:Int) ((l.drop j).length+1) (toV w) (l.drop j) (cmb b (badW w))=o) :
 Rel l b o (iter fu (fun (rec1:((Int×PUnit)×((Str×(Int×NdsT))×((Str×(Int×NdsT))×PUnit)))->Option (Nd×(Int×PUnit))) (s1:((Int×PUnit)×((Str×(Int×NdsT))×((Str×(Int×NdsT))×PUnit))))=>
  Option.bind (c64 ((n:Int),())) fun y1=>
   iter fu (fun (rec2:((Str×(Int×PUnit))×((Str×(Int×NdsT))×((Str×(Int×NdsT))×PUnit)))->Option (Nd×(Int×PUnit))) (s2:((Str×(Int×PUnit))×((Str×(Int×NdsT))×((Str×(Int×NdsT))×PUnit))))=>
    cond (ilt s2.1.2.1 (lenI y1.1))
     (cond (inB s2.1.2.1 (List.length y1.1))
      (Option.bind (c49 (l,(s1.1.1,((List.getD y1.1 (Int.toNat s2.1.2.1) []),())))) fun y2=>
       cond y2.1
        (cond (inB s2.1.2.1 (List.length y1.1))
         (rec2 (((List.getD y1.1 (Int.toNat s2.1.2.1) []),((iadd .i64 s2.1.2.1 1),())),((s2.2.1.1,(s2.2.1.2.1,(s2.2.1.2.2.1,()))),((s2.2.2.1.1,(s2.2.2.1.2.1,(s2.2.2.1.2.2.1,()))),()))))
         (none))
        (rec2 ((s2.1.1,((iadd .i64 s2.1.2.1 1),())),((s2.2.1.1,(s2.2.1.2.1,(s2.2.1.2.2.1,()))),((s2.2.2.1.1,(s2.2.2.1.2.1,(s2.2.2.1.2.2.1,()))),())))))
      (none))
     (cond (seq s2.1.1 [])
      (some ((Nd.mk s2.2.2.1.1 s2.2.2.1.2.1 s2.2.2.1.2.2.1),(s1.1.1,())))
      (Option.bind (c31 fu k (l,((iadd .i64 s1.1.1 1),((iadd .i64 (n:Int) 1),((d:Int),()))))) fun y2=>
       cond (ilt y2.2.1 0)
        (some ((Nd.mk s2.2.2.1.1 s2.2.2.1.2.1 s2.2.2.1.2.2.1),(y2.2.1,())))
        (rec1 ((y2.2.1,()),((s2.2.1.1,(s2.2.1.2.1,(s2.2.1.2.2.1,()))),((s2.1.1,(0,([(Nd.mk s2.2.2.1.1 s2.2.2.1.2.1 s2.2.2.1.2.2.1),(Nd.mk (Nd.sign y2.1) (Nd.num y2.1) (Nd.kids y2.1))],()))),())))))))
    (([],(0,())),((s1.2.1.1,(s1.2.1.2.1,(s1.2.1.2.2.1,()))),((s1.2.2.1.1,(s1.2.2.1.2.1,(s1.2.2.1.2.2.1,()))),())))) st):=by
 refine zBA (fun r=>Rel l b o r) (fun st=>∃ (j:Nat) (w:WT) (J:Str×(Int×NdsT)),st=(((j:Int),()),(J,((Nd.sign (toNd w),(Nd.num (toNd w),(Nd.kids (toNd w),()))),())))/\i<=j/\j<=l.length/\okW w/\(lv (sg (l.drop j)) < (n:Int)+1\/lv (sg (l.drop j))=0)/\zk (fun n l b=>(pf m).bin n d l b) (n:Int) ((l.drop j).length+1) (toV w) (l.drop j) (cmb b (badW w))=o) (fun st=>l.length - st.1.1.toNat) ?_ fu st hst (by omega)
 rintro rec st ⟨j,w,J,rfl,hij,hj,hw,hpost,ho⟩ hrec
 dsimp only at hrec ⊢
 refine R_of (zK (c64_eq n h1 h2) rfl) ?_
 dsimp only
 have hsl:=zPS n h1 h2
 have hmem:=zK4 n h1 h2
 refine zBA (fun r=>Rel l b o r) (fun s2:LI=>∃ (a:Nat) (acc:Str) (J:Str×(Int×NdsT)),s2=((acc,((a:Int),())),(J,((Nd.sign (toNd w),(Nd.num (toNd w),(Nd.kids (toNd w),()))),())))/\a<=(sgs n).length/\pick (sg (l.drop j)) ((sgs n).drop a) acc=pick (sg (l.drop j)) (sgs n) []) (fun s2=>(sgs n).length - s2.1.2.1.toNat) ?_ fu _ ⟨0,[],_,rfl,Nat.zero_le _,rfl⟩ (by dsimp only; omega)
 rintro rec2 s2 ⟨a,acc,J2,rfl,haa,hp⟩ hrec2
 dsimp only at hrec2 ⊢
 by_cases hlt:a < (sgs n).length
 · have hin:inB (a:Int) (sgs n).length=true:=zY (by omega) (by omega)
   obtain ⟨s,hs⟩:∃ s,s=(sgs n).getD a []:=⟨_,rfl⟩
   have hdr:(sgs n).drop a=s::(sgs n).drop (a+1):=by
    rw [hs,List.drop_eq_getElem_cons hlt,zBf _ a [] hlt]
   have hsm:s ∈ signs18:=by
    refine hmem s ?_
    rw [hs,zBf _ a [] hlt]
    exact List.getElem_mem hlt
   have hsn:s≠[]:=fun e=>by rw [e] at hsm; exact absurd hsm (by decide)
   have hi1:iadd .i64 (a:Int) 1=((a+1:Nat):Int):=i1n a (by omega)
   rw [Int.toNat_natCast,<- hs,hi1]
   refine R_of (zF (ya (by show (a:Int) < ((sgs n).length:Int); omega)) (zF hin (zK (zDg l j s hsn) rfl))) ?_
   rw [hdr] at hp
   by_cases hq:sg (l.drop j)=s
   · refine R_of (zF (decide_eq_true hq) (zF hin rfl)) ?_
     refine hrec2 _ ⟨a+1,s,_,rfl,hlt,?_⟩ (by dsimp only; omega)
     rw [<- hp,zHL,if_pos hq]
   · refine R_of (zE (decide_eq_false hq) rfl) ?_
     refine hrec2 _ ⟨a+1,acc,_,rfl,hlt,?_⟩ (by dsimp only; omega)
     rw [<- hp,zHL,if_neg hq]
 · obtain rfl:a=(sgs n).length:=by omega
   rw [List.drop_length] at hp
   replace hp:acc=pick (sg (l.drop j)) (sgs n) []:=hp
   rw [zPI _ n h1 h2] at hp
   refine R_of (zE (z6 (Int.le_refl _)) rfl) ?_
   by_cases hq:lv (sg (l.drop j))=(n:Int)
   · rw [if_pos hq] at hp
     have hqn:sg (l.drop j)≠[]:=fun e=>by
      rw [e] at hq
      have:lv []=0:=by decide
      omega
     have hjl:=zEO hqn rfl
     have hsign:sg (l.drop j) ∈ signs18:=by
      rcases zHG (sg (l.drop j)) with ⟨h,_⟩ | ⟨_,h⟩
      · exact h
      · omega
     refine R_of (zE (yB (by rw [hp]; exact hqn)) rfl) ?_
     rw [i1n j (by omega),i1n n (by omega)]
     have hb:=(ha (j+1) (by omega) hjl).bin (n+1) m k d (cmb b (badW w)) (by omega) (by omega) hd (by omega) (by omega)
     have e1:zk (fun n l b=>(pf m).bin n d l b) (n:Int) ((l.drop j).length+1) (toV w) (l.drop j) (cmb b (badW w))=((pf m).bin ((n+1:Nat):Int) d (l.drop (j+1)) (cmb b (badW w))).bind fun y=>zk (fun n l b=>(pf m).bin n d l b) (n:Int) (l.drop j).length (.bin (sg (l.drop j)) (toV w) y.1) y.2.1 y.2.2:=by
      conv=>lhs; unfold zk
      rw [if_neg (by omega),hq,List.drop_drop]
      rfl
     rw [e1] at ho
     cases eo:(pf m).bin ((n+1:Nat):Int) d (l.drop (j+1)) (cmb b (badW w)) with
     | none=>
      rw [eo] at ho hb
      replace ho:none=o:=ho
      subst ho
      obtain ⟨nd,jj,hjj,e⟩:=hb
      exact xR (zK e (zF (ya hjj) rfl)) hjj
     | some y=>
      have hpo:=zJy eo
      have hlen:=(kO m).bin _ _ _ _ _ eo
      rw [eo] at ho hb
      obtain ⟨w2,j2,g1,g2,g3,g4,g5,e⟩:=hb
      obtain ⟨y1,y2,y3⟩:=y
      dsimp only at g1 g3 g5 hpo hlen
      subst g1 g3 g5
      have hj2:=zEA hjl g4 hlen
      refine R_of (zK e (zE (z6 (by show (0:Int)<=(j2:Int); omega)) rfl)) ?_
      rw [xd,xd]
      refine hrec _ ⟨j2,.bin (sg (l.drop j)) w w2,(J2.1,(J2.2.1,(J2.2.2.1,()))),?_,by omega,g4,⟨hsign,hw,g2⟩,hpo,?_⟩ (by dsimp only; omega)
      · rw [hp]; rfl
      · rw [<- ho]
        show _=zk (fun n l b=>(pf m).bin n d l b) (n:Int) (l.drop j).length (.bin (sg (l.drop j)) (toV w) (toV w2)) (l.drop j2) (cmb (cmb b (badW w)) (badW w2))
        rw [zGl]
        exact zCu _ (fun n l b y h=>(kO m).bin n d l b y h) _ _ _ _ _ _ (Nat.lt_succ_self _) (by rw [List.length_drop,List.length_drop]; omega)
   · rw [if_neg hq] at hp
     refine R_of (zF (yW hp) rfl) ?_
     rw [xd]
     have e1:zk (fun n l b=>(pf m).bin n d l b) (n:Int) ((l.drop j).length+1) (toV w) (l.drop j) (cmb b (badW w))=some (toV w,l.drop j,cmb b (badW w)):=by
      unfold zk
      rw [if_pos (by omega)]
     rw [e1] at ho
     subst ho
     exact ⟨w,j,rfl,hw,rfl,hj,rfl,rfl⟩
theorem zC7 {fu:Nat} {l:List TokT} {i:Nat} (hl:l.length < 1500) (hfu:2000 < fu) (ht:∀ t ∈ l,t.text.length<=1000) (hi:i < l.length) (ha:∀ j,i < j->j<=l.length->At fu l j):∀ (t n m k d:Nat) (b:Int),n+t=11->1<=n->d<=60->8 * (l.length - i)+3 < m->32 * (l.length - i)+14 < k+n ->
 Rel l b ((pf m).bin (n:Int) d (l.drop i) b) (c31 fu k (l,(i:Int),(n:Int),(d:Int),()))
 | 0,n,m,k,d,b,hn,h1,hd,hm,hk=>by
  obtain rfl:n=11:=by omega
  obtain ⟨m,rfl⟩:∃ m',m=m' + 1:=⟨m - 1,by omega⟩
  rw [bin11]
  exact zIs hl hfu ht hi (ha (i+1) (by omega) hi) m k d b hd (by omega) (by omega)
 | t+1,n,m,k,d,b,hn,h1,hd,hm,hk=>by
  obtain ⟨m,rfl⟩:∃ m',m=m' + 1:=⟨m - 1,by omega⟩
  obtain ⟨k,rfl⟩:∃ k',k=k' + 1:=⟨k - 1,by omega⟩
  have ih:=zC7 hl hfu ht hi ha t (n+1) (m+1) k d b (by omega) (by omega) hd hm (by omega)
  rw [zNN,zAg]
  unfold sh31
  refine R_of (zE (z6 (by omega)) (zE (zEY (by show (i:Int) < (l.length:Int); omega)) (zE (z7 (by omega)) rfl))) ?_
  replace ih:Rel l b ((pf (m+1)).bin ((n+1:Nat):Int) d (l.drop i) b) (c31 fu k (l,(i:Int),iadd .i64 (n:Int) 1,(d:Int),())):=by
   rw [i1n n (by omega)]
   exact ih
  cases eo:(pf (m+1)).bin ((n+1:Nat):Int) d (l.drop i) b with
  | none=>
   rw [eo] at ih
   obtain ⟨nd,jj,hjj,e⟩:=ih
   exact xR (zK e (zF (ya hjj) rfl)) hjj
  | some y=>
   have hpo:=zJy eo
   have hlen:=(kO (m+1)).bin _ _ _ _ _ eo
   rw [eo] at ih
   obtain ⟨w,j,g1,g2,g3,g4,g5,e⟩:=ih
   obtain ⟨y1,y2,y3⟩:=y
   dsimp only at g1 g3 g5 hpo hlen
   subst g1 g3 g5
   have hj:=zEA (by omega) g4 hlen
   refine R_of (zK e (zE (z6 (by show (0:Int)<=(j:Int); omega)) (zE (z7 (by omega)) rfl))) ?_
   exact loop31 hl hfu hi ha n h1 (by omega) m k d b hd (by omega) (by omega) _ _ ⟨j,w,([],(0,([],()))),rfl,hj,g4,g2,hpo,rfl⟩
theorem zNH {fu:Nat} {l:List TokT} {i:Nat} (hl:l.length < 1500) (hfu:2000 < fu) (ht:∀ t ∈ l,t.text.length<=1000) (hi:i < l.length) (ha:∀ j,i < j->j<=l.length->At fu l j) (m k d:Nat) (b:Int) (hd:d<=60) (hm:8 * (l.length - i)+4 < m) (hk:32 * (l.length - i)+15 < k) :
 Rel l b ((pf m).cho d (l.drop i) b) (c31 fu k (l,(i:Int),0,(d:Int),())):=by
 obtain ⟨m,rfl⟩:∃ m',m=m' + 1:=⟨m - 1,by omega⟩
 obtain ⟨k,rfl⟩:∃ k',k=k' + 1:=⟨k - 1,by omega⟩
 have ih:=zC7 hl hfu ht hi ha 10 1 m k d b (by omega) (by omega) hd (by omega) (by omega)
 rw [zAg]
 unfold sh31
 refine R_of (zE (z6 (by omega)) (zE (zEY (by show (i:Int) < (l.length:Int); omega)) (zE rfl rfl))) ?_
 show Rel l b (((pf m).bin ((1:Nat):Int) d (l.drop i) b).bind fun c=>if sg c.2.1=[63] then ((pf m).inn d (c.2.1.drop 1) c.2.2).bind fun x=>if sg x.2.1=[58] then ((pf m).inn d (x.2.1.drop 1) x.2.2).bind fun y=>some (.cho c.1 x.1 y.1,y.2.1,y.2.2) else none else some c) _
 have e01:iadd .i64 0 1=((1:Nat):Int):=by decide
 rw [e01]
 cases eo:(pf m).bin ((1:Nat):Int) d (l.drop i) b with
 | none=>
  rw [eo] at ih
  obtain ⟨nd,jj,hjj,e⟩:=ih
  exact xR (zK e (zF (ya hjj) rfl)) hjj
 | some y=>
  have hlen:=(kO m).bin _ _ _ _ _ eo
  rw [eo] at ih
  obtain ⟨w,j,g1,g2,g3,g4,g5,e⟩:=ih
  obtain ⟨y1,y2,y3⟩:=y
  dsimp only at g1 g3 g5 hlen
  subst g1 g3 g5
  have hj:=zEA (by omega) g4 hlen
  refine R_of (zK e (zE (z6 (by show (0:Int)<=(j:Int); omega)) (zF rfl (zK (zDg l j [63] (by decide)) rfl)))) ?_
  show Rel l b (if sg (l.drop j)=[63] then ((pf m).inn d ((l.drop j).drop 1) (cmb b (badW w))).bind fun x=>if sg x.2.1=[58] then ((pf m).inn d (x.2.1.drop 1) x.2.2).bind fun y=>some (.cho (toV w) x.1 y.1,y.2.1,y.2.2) else none else some (toV w,l.drop j,cmb b (badW w))) _
  by_cases h63:sg (l.drop j)=[63]
  · have hjl:=zEO (by decide) h63
    rw [if_pos h63,List.drop_drop]
    refine R_of (zE (zJo h63) rfl) ?_
    dsimp only
    rw [i1n j (by omega)]
    have h2:=zLU (ha (j+1) (by omega) hjl) m k d (cmb b (badW w)) hd (by omega) (by omega)
    cases eo2:(pf m).inn d (l.drop (j+1)) (cmb b (badW w)) with
    | none=>
     rw [eo2] at h2
     obtain ⟨nd,jj,hjj,e⟩:=h2
     exact xR (zK e (zE (zEY hjj) rfl)) (by decide)
    | some y=>
     have hlen2:=(kO m).inn _ _ _ _ eo2
     rw [eo2] at h2
     obtain ⟨w2,j2,f1,f2,f3,f4,f5,e⟩:=h2
     obtain ⟨y1,y2,y3⟩:=y
     dsimp only at f1 f3 f5 hlen2
     subst f1 f3 f5
     have hj2:=zEA hjl f4 hlen2
     refine R_of (zK e (zF (qr (by show (0:Int)<=(j2:Int); omega)) (zK (zDg l j2 [58] (by decide)) rfl))) ?_
     show Rel l b (if sg (l.drop j2)=[58] then ((pf m).inn d ((l.drop j2).drop 1) (cmb (cmb b (badW w)) (badW w2))).bind fun y=>some (.cho (toV w) (toV w2) y.1,y.2.1,y.2.2) else none) _
     by_cases h58:sg (l.drop j2)=[58]
     · have hjl2:=zEO (by decide) h58
       rw [if_pos h58,List.drop_drop]
       refine R_of (zE (zJo h58) rfl) ?_
       dsimp only
       rw [i1n j2 (by omega)]
       have h3:=zLU (ha (j2+1) (by omega) hjl2) m k d (cmb (cmb b (badW w)) (badW w2)) hd (by omega) (by omega)
       cases eo3:(pf m).inn d (l.drop (j2+1)) (cmb (cmb b (badW w)) (badW w2)) with
       | none=>
        rw [eo3] at h3
        obtain ⟨nd,jj,hjj,e⟩:=h3
        exact xR (zK e rfl) hjj
       | some y=>
        rw [eo3] at h3
        obtain ⟨w3,j3,q1,q2,q3,q4,q5,e⟩:=h3
        obtain ⟨y1,y2,y3⟩:=y
        dsimp only at q1 q3 q5
        subst q1 q3 q5
        refine R_of (zK e rfl) ⟨.cho w w2 w3,j3,rfl,⟨g2,f2,q2⟩,rfl,q4,?_,?_⟩
        · show cmb (cmb (cmb b (badW w)) (badW w2)) (badW w3)=cmb b ((badW w || badW w2) || badW w3)
          rw [zGl,zGl,Bool.or_assoc]
        · dsimp only
          rw [xd,xd,xd]
          rfl
     · rw [if_neg h58]
       exact xR (zF (zJ4 h58) rfl) (by decide)
  · rw [if_neg h63]
    refine R_of (zF (zJ4 h63) rfl) ?_
    dsimp only
    rw [xd]
    exact ⟨w,j,rfl,g2,rfl,g4,rfl,rfl⟩
theorem zNG {fu:Nat} {l:List TokT} (hl:l.length < 1500) (hfu:2000 < fu) (ht:∀ t ∈ l,t.text.length<=1000):∀ (r i:Nat),l.length - i<=r->At fu l i
 | 0,i,h=>zNl fu l i (by omega)
 | r+1,i,h=>by
  by_cases hi:i < l.length
  · have ha:∀ j,i < j->j<=l.length->At fu l j:=fun j h1 h2=>zNG hl hfu ht r j (by omega)
    exact ⟨fun m k d b hd hm hk=>zIs hl hfu ht hi (ha (i+1) (by omega) hi) m k d b hd hm hk,fun n m k d b h1 h2 hd hm hk=>zC7 hl hfu ht hi ha (11 - n) n m k d b (by omega) h1 hd hm hk,fun m k d b hd hm hk=>zNH hl hfu ht hi ha m k d b hd hm hk⟩
  · exact zNl fu l i (by omega)
end
section
open Go.Al Go.Den
theorem zQP (a:Int):jnot .i64 a=isub .i64 (-1) a:=by
 have e1:BitVec.ofInt 64 (-1)=BitVec.allOnes 64:=by decide
 have e2:((BitVec.ofInt 64 (-1)) ^^^ (BitVec.ofInt 64 a)).toNat=2 ^ 64 - 1 - (a % ((2 ^ 64:Nat):Int)).toNat:=by
  rw [e1,BitVec.allOnes_xor,BitVec.toNat_not,BitVec.toNat_ofInt]
 show IntKind.i64.wrap (((BitVec.ofInt 64 (-1)) ^^^ (BitVec.ofInt 64 a)).toNat:Int)=IntKind.i64.wrap (-1 - a)
 rw [e2,wrp,wrp]
 omega
def bads:Str:=[98,97,100]
noncomputable def c32 (fu:Nat):Nat->Nd×Unit->Option (Bool×Unit)
 | 0=>fun _=>none
 | k+1=>fun x=>sh32 fu (c32 fu k) (fun _=>false) x.1
theorem ok32 (fu:Nat):∀ k,ConOk CC Tryd.prog 32 ⟨as32,rs32,c32 fu k⟩
 | 0=>fun _ _ h=>by cases h
 | k+1=>con32 fu (c32 fu k) (ok32 fu k)
noncomputable def c33 (fu:Nat):Nat->Nd×Unit->Option (Int×Int×Unit)
 | 0=>fun _=>none
 | k+1=>fun x=>sh33 fu (c19 fu) (c33 fu k) c45 (fun _=>false) x.1
theorem ok33 (fu:Nat):∀ k,ConOk CC Tryd.prog 33 ⟨as33,rs33,c33 fu k⟩
 | 0=>fun _ _ h=>by cases h
 | k+1=>con33 fu (c19 fu) (ok19 fu) (c33 fu k) (ok33 fu k) c45 ok45
theorem zAm (fu:Nat) (c:Nd×Unit->Option (Bool×Unit)) (s:Str) (n:Int) (ws:List WT) (hc:∀ w ∈ ws,c (toNd w,())=some (badW w,())) (hfu:ws.length < fu) (hl:ws.length < 100) :
 sh32 fu c (fun _=>false) (Nd.mk s n (ws.map toNd))=some (ws.any badW || decide (s=bads),()):=by
 unfold sh32
 refine zn (fun st=>∃ a:Nat,st=(((((a:Int),()),((s,(n,(ws.map toNd,()))),())):(Int×PUnit)×((Str×(Int×NdsT))×PUnit)))/\a<=ws.length/\(ws.drop a).any badW=ws.any badW) (fun st=>ws.length - st.1.1.toNat) ?_ fu _ ⟨0,rfl,Nat.zero_le _,rfl⟩ (by dsimp only; omega)
 rintro rec st ⟨a,rfl,ha,hp⟩ hrec
 dsimp only at hrec ⊢
 have hlen:(ws.map toNd).length=ws.length:=List.length_map ..
 by_cases hlt:a < ws.length
 · have hd:ws.drop a=ws[a]::ws.drop (a+1):=List.drop_eq_getElem_cons hlt
   have hg:(ws.map toNd).getD a yF=toNd ws[a]:=by
    rw [zBf _ a yF (by omega)]
    simp
   refine zF (ya (by show (a:Int) < ((ws.map toNd).length:Int); omega)) (zF (zY (by omega) (by omega)) ?_)
   rw [Int.toNat_natCast,hg,xd]
   refine zK (hc _ (List.getElem_mem hlt)) ?_
   rw [hd,List.any_cons] at hp
   rw [i1n a (by omega)]
   cases hb:badW ws[a] with
   | true=>
    rw [hb,Bool.true_or] at hp
    rw [<- hp]
    rfl
   | false=>
    rw [hb,Bool.false_or] at hp
    exact hrec _ ⟨a+1,rfl,hlt,hp⟩ (by dsimp only; omega)
 · obtain rfl:a=ws.length:=by omega
   rw [List.drop_length] at hp
   rw [<- hp]
   refine zE (z6 (by show ((ws.map toNd).length:Int)<=(ws.length:Int); omega)) ?_
   rw [xt]
   rfl
def dpW:WT->Nat
 | .num _ _=>0
 | .un _ x=>dpW x+1
 | .bin _ x y=>max (dpW x) (dpW y)+1
 | .cho c x y=>max (dpW c) (max (dpW x) (dpW y))+1
theorem zP3 {s:Str} (h:isUn s):s≠bads:=by
 unfold isUn at h
 rcases h with rfl | rfl | rfl | rfl <;> decide
theorem zK6 {s:Str} (h:s ∈ signs18):s≠bads/\s≠[63]/\s≠[]:=by
 simp only [signs18,List.mem_cons,List.not_mem_nil,or_false] at h
 rcases h with rfl | rfl | rfl | rfl | rfl | rfl | rfl | rfl | rfl | rfl | rfl | rfl | rfl | rfl | rfl | rfl | rfl | rfl <;> exact ⟨by decide,by decide,by decide⟩
theorem zAd (fu:Nat) (hfu:2000 < fu):∀ (k:Nat) (w:WT),dpW w < k->okW w->c32 fu k (toNd w,())=some (badW w,())
 | 0,w,h,_=>by omega
 | k+1,.num n b,h,hw=>by
  show sh32 fu (c32 fu k) (fun _=>false) (toNd (.num n b))=_
  cases b with
  | true=>exact zAm fu (c32 fu k) bads 0 [] (fun w hw=>by cases hw) (by show 0 < fu; omega) (by decide)
  | false=>exact zAm fu (c32 fu k) [] n [] (fun w hw=>by cases hw) (by show 0 < fu; omega) (by decide)
 | k+1,.un s x,h,hw=>by
  have hx:=zAd fu hfu k x (by simp only [dpW] at h; omega) hw.2
  have:=zAm fu (c32 fu k) s 0 [x] (fun w hw=>by
   rw [List.mem_singleton] at hw; subst hw; exact hx) (by show 1 < fu; omega) (by show 1 < 100; omega)
  rw [decide_eq_false (zP3 hw.1)] at this
  refine this.trans ?_
  simp [badW]
 | k+1,.bin s x y,h,hw=>by
  have hx:=zAd fu hfu k x (by simp only [dpW] at h; omega) hw.2.1
  have hy:=zAd fu hfu k y (by simp only [dpW] at h; omega) hw.2.2
  have:=zAm fu (c32 fu k) s 0 [x,y] (fun w hw=>by
   simp only [List.mem_cons,List.not_mem_nil,or_false] at hw
   rcases hw with rfl | rfl
   · exact hx
   · exact hy) (by show 2 < fu; omega) (by show 2 < 100; omega)
  rw [decide_eq_false (zK6 hw.1).1] at this
  refine this.trans ?_
  simp [badW]
 | k+1,.cho c x y,h,hw=>by
  have hc:=zAd fu hfu k c (by simp only [dpW] at h; omega) hw.1
  have hx:=zAd fu hfu k x (by simp only [dpW] at h; omega) hw.2.1
  have hy:=zAd fu hfu k y (by simp only [dpW] at h; omega) hw.2.2
  have:=zAm fu (c32 fu k) [63] 0 [c,x,y] (fun w hw=>by
   simp only [List.mem_cons,List.not_mem_nil,or_false] at hw
   rcases hw with rfl | rfl | rfl
   · exact hc
   · exact hx
   · exact hy) (by show 3 < fu; omega) (by show 3 < 100; omega)
  rw [decide_eq_false (show ([63]:Str)≠bads by decide)] at this
  refine this.trans ?_
  simp [badW,Bool.or_assoc]
def kOk (o:Option (Int×Int×Unit)):Prop:=∀ y,o=some y->in64 y.1
theorem zp {v e:Int} (h:in64 v):kOk (some (v,e,())):=fun y hy=>by injection hy with hy; subst hy; exact h
theorem zCm:kOk none:=fun y hy=>by cases hy
theorem yo {c:Bool} {x y:Option (Int×Int×Unit)} (h1:kOk x) (h2:kOk y):kOk (cond c x y):=by cases c <;> assumption
theorem yK {s:Str} {a b:Int} {o:Option (Int×Int×Unit)} (e:k111 (s,a,b,())=o) (h:kOk o):in64 (both s a b).1:=by
 unfold both
 rw [e]
 cases o with
 | none=>unfold in64; decide
 | some y=>exact h y rfl
theorem in01:in64 1/\in64 0:=by unfold in64; omega
theorem zEP (c:Bool):kOk (Option.bind (cond c (some ((1:Int),())) (some ((0:Int),()))) fun y0=>some (y0.1,((0:Int),()))):=by
 cases c
 · exact zp in01.2
 · exact zp in01.1
theorem kOk_l (c:Bool):kOk (cond c (some ((1:Int),((0:Int),()))) (some ((0:Int),((0:Int),())))):=yo (zp in01.1) (zp in01.2)
theorem xN (x:Int):in64 (IntKind.i64.wrap x):=zB2 x
theorem in_shr {a:Int} (h:in64 a) (b:Int):in64 (jshr .i64 a b):=by
 show in64 (a.fdiv (2 ^ (min (Int.toNat b) 64)))
 have hp:(0:Int) < 2 ^ (min (Int.toNat b) 64):=Int.pow_pos (by omega)
 rw [Int.fdiv_eq_ediv_of_nonneg _ (Int.le_of_lt hp)]
 unfold in64 at h ⊢
 generalize (2:Int) ^ (min (Int.toNat b) 64)=p at hp
 constructor
 · refine Int.le_ediv_of_mul_le hp ?_
   have:(-9223372036854775808:Int) * p<=-9223372036854775808 * 1:=by omega
   omega
 · rcases Int.le_total 0 a with h0 | h0
   · have:=Int.ediv_le_self p h0
     omega
   · have:=Int.ediv_nonpos_of_nonpos_of_neg h0 hp
     omega
theorem in_rem {a:Int} (h:in64 a) (b:Int):in64 (irem a b):=by
 rw [<- zMk a b h.1 h.2]
 exact xN _
theorem zQD (s:Str) (hs:s ∈ signs18) (a b:Int) (ha:in64 a):in64 (both s a b).1:=by
 simp only [signs18,List.mem_cons,List.not_mem_nil,or_false] at hs
 rcases hs with rfl | rfl | rfl | rfl | rfl | rfl | rfl | rfl | rfl | rfl | rfl | rfl | rfl | rfl | rfl | rfl | rfl | rfl
 · exact yK (o:=cond (ine b 0) (some ((1:Int),((0:Int),()))) (some (0,(0,())))) (by kernel_rfl) (kOk_l _)
 · exact yK (o:=cond (ine b 0) (some ((1:Int),((0:Int),()))) (some (0,(0,())))) (by kernel_rfl) (kOk_l _)
 · exact yK (o:=some (jor .i64 a b,0,())) (by kernel_rfl) (zp (xN _))
 · exact yK (o:=some (jxor .i64 a b,0,())) (by kernel_rfl) (zp (xN _))
 · exact yK (o:=some (jand .i64 a b,0,())) (by kernel_rfl) (zp (xN _))
 · exact yK (o:=Option.bind (cond (ieq a b) (some ((1:Int),())) (some (0,()))) fun y0=>some (y0.1,(0,()))) (by kernel_rfl) (zEP _)
 · exact yK (o:=Option.bind (cond (ine a b) (some ((1:Int),())) (some (0,()))) fun y0=>some (y0.1,(0,()))) (by kernel_rfl) (zEP _)
 · exact yK (o:=Option.bind (cond (ilt a b) (some ((1:Int),())) (some (0,()))) fun y0=>some (y0.1,(0,()))) (by kernel_rfl) (zEP _)
 · exact yK (o:=Option.bind (cond (ilt b a) (some ((1:Int),())) (some (0,()))) fun y0=>some (y0.1,(0,()))) (by kernel_rfl) (zEP _)
 · exact yK (o:=Option.bind (cond (ile a b) (some ((1:Int),())) (some (0,()))) fun y0=>some (y0.1,(0,()))) (by kernel_rfl) (zEP _)
 · exact yK (o:=Option.bind (cond (ile b a) (some ((1:Int),())) (some (0,()))) fun y0=>some (y0.1,(0,()))) (by kernel_rfl) (zEP _)
 · exact yK (o:=cond (ilt b 0) (some (0,(93,()))) (cond (ilt 63 b) (some (0,(93,()))) (cond (ile 0 b) (some ((jshl .i64 a b),(0,()))) none))) (by kernel_rfl) (yo (zp in01.2) (yo (zp in01.2) (yo (zp (xN _)) zCm)))
 · exact yK (o:=cond (ilt b 0) (some (0,(93,()))) (cond (ilt 63 b) (some (0,(93,()))) (cond (ile 0 b) (some ((jshr .i64 a b),(0,()))) none))) (by kernel_rfl) (yo (zp in01.2) (yo (zp in01.2) (yo (zp (in_shr ha _)) zCm)))
 · exact yK (o:=some (iadd .i64 a b,0,())) (by kernel_rfl) (zp (xN _))
 · exact yK (o:=some (isub .i64 a b,0,())) (by kernel_rfl) (zp (xN _))
 · exact yK (o:=some (imul .i64 a b,0,())) (by kernel_rfl) (zp (xN _))
 · exact yK (o:=cond (ieq b 0) (some (0,(92,()))) (cond (ieq b (Neg.neg 1)) (some (imul .i64 (isub .i64 0 a) 1,(0,()))) (cond (ine b 0) (some (iquo .i64 a b,(0,()))) none))) (by kernel_rfl) (yo (zp in01.2) (yo (zp (xN _)) (yo (zp (xN _)) zCm)))
 · exact yK (o:=cond (ieq b 0) (some (0,(92,()))) (cond (ieq b (Neg.neg 1)) (some (imul .i64 (isub .i64 0 a) 0,(0,()))) (cond (ine b 0) (some (irem a b,(0,()))) none))) (by kernel_rfl) (yo (zp in01.2) (yo (zp (xN _)) (yo (zp (in_rem ha _)) zCm)))
theorem in_un (s:Str) {a:Int} (ha:in64 a):in64 (unV s a):=by
 unfold unV
 by_cases h1:s=[45]
 · rw [if_pos h1]; exact xN _
 rw [if_neg h1]
 by_cases h2:s=[33]
 · rw [if_pos h2]
   by_cases h3:a=0
   · rw [if_pos h3]; exact in01.1
   · rw [if_neg h3]; exact in01.2
 rw [if_neg h2]
 by_cases h3:s=[126]
 · rw [if_pos h3]; exact xN _
 · rw [if_neg h3]; exact ha
theorem zER:∀ w:WT,okW w->in64 (vS (toV w)).1
 | .num n b,h=>h
 | .un s x,h=>by
  have hx:=zER x h.2
  show in64 (vS (.un s (toV x))).1
  rw [vS]
  by_cases h1:(vS (toV x)).2=0
  · rw [if_pos h1]; exact in_un s hx
  · rw [if_neg h1]; exact in01.2
 | .bin s x y,h=>by
  have hx:=zER x h.2.1
  show in64 (vS (.bin s (toV x) (toV y))).1
  rw [vS]
  by_cases h1:(vS (toV x)).2=0
  · rw [if_pos h1]
    by_cases h2:s=[124,124]/\(vS (toV x)).1≠0
    · rw [if_pos h2]; exact in01.1
    rw [if_neg h2]
    by_cases h3:s=[38,38]/\(vS (toV x)).1=0
    · rw [if_pos h3]; exact in01.2
    rw [if_neg h3]
    by_cases h4:(vS (toV y)).2=0
    · rw [if_pos h4]; exact zQD s h.1 _ _ hx
    · rw [if_neg h4]; exact in01.2
  · rw [if_neg h1]; exact in01.2
 | .cho c x y,h=>by
  have hx:=zER x h.2.1
  have hy:=zER y h.2.2
  show in64 (vS (.cho (toV c) (toV x) (toV y))).1
  rw [vS]
  by_cases h1:(vS (toV c)).2=0
  · rw [if_pos h1]
    by_cases h2:(vS (toV c)).1=0
    · rw [if_pos h2]; exact hy
    · rw [if_neg h2]; exact hx
  · rw [if_neg h1]; exact in01.2
end
section
open Go.Al Go.Den
theorem zEJ (fu k:Nat) (w:WT) {v:Int×Int} (h:c33 fu k (toNd w,())=some (v.1,v.2,())):c33 fu k (Nd.mk (Nd.sign (toNd w)) (Nd.num (toNd w)) (Nd.kids (toNd w)),())=some (v.1,v.2,()):=by rw [xd]; exact h
theorem zAf (fu:Nat) (hfu:2000 < fu):∀ (k:Nat) (w:WT),dpW w < k->okW w->badW w=false->c33 fu k (toNd w,())=some ((vS (toV w)).1,(vS (toV w)).2,())
 | 0,w,h,_,_=>by omega
 | k+1,.num n b,h,hw,hb=>by
  obtain rfl:b=false:=hb
  show sh33 fu (c19 fu) (c33 fu k) c45 (fun _=>false) (Nd.mk [] n [])=some ((vS (.num n)).1,(vS (.num n)).2,())
  unfold sh33
  rw [vS]
  exact zF rfl rfl
 | k+1,.un s x,h,hw,hb=>by
  have hx:=zEJ fu k x (zAf fu hfu k x (by simp only [dpW] at h; omega) hw.2 hb)
  have hr:=zER x hw.2
  show sh33 fu (c19 fu) (c33 fu k) c45 (fun _=>false) (Nd.mk s 0 [toNd x])=some ((vS (.un s (toV x))).1,(vS (.un s (toV x))).2,())
  rw [vS]
  generalize vS (toV x)=v at hx hr ⊢
  obtain ⟨a,e⟩:=v
  dsimp only at hx hr ⊢
  unfold sh33
  refine zE rfl (zF rfl (zK hx ?_))
  dsimp only
  by_cases he:e=0
  · rw [if_pos he]
    refine zE (j7 he) ?_
    have n63:s≠[63]:=fun h63=>by
     have:=hw.1
     rw [h63] at this
     revert this
     decide
    refine zE (yB n63) (zF rfl ?_)
    unfold unV
    by_cases h1:s=[45]
    · rw [if_pos h1]
      exact zF (yW h1) rfl
    rw [if_neg h1]
    refine zE (yB h1) ?_
    by_cases h2:s=[33]
    · rw [if_pos h2]
      refine zF (yW h2) (zK (c45_eq _) ?_)
      by_cases h0:a=0
      · rw [if_pos h0,yY h0]; rfl
      · rw [if_neg h0,z7 h0]; rfl
    rw [if_neg h2]
    refine zE (yB h2) ?_
    by_cases h3:s=[126]
    · rw [if_pos h3,zQP]
      exact zF (yW h3) rfl
    · rw [if_neg h3]
      exact zE (yB h3) rfl
  · rw [if_neg he]
    exact zF (xI he) rfl
 | k+1,.bin s x y,h,hw,hb=>by
  replace hb:(badW x || badW y)=false:=hb
  rw [Bool.or_eq_false_iff] at hb
  have hx:=zEJ fu k x (zAf fu hfu k x (by simp only [dpW] at h; omega) hw.2.1 hb.1)
  have hy:=zEJ fu k y (zAf fu hfu k y (by simp only [dpW] at h; omega) hw.2.2 hb.2)
  have hr:=zER x hw.2.1
  show sh33 fu (c19 fu) (c33 fu k) c45 (fun _=>false) (Nd.mk s 0 [toNd x,toNd y])=some ((vS (.bin s (toV x) (toV y))).1,(vS (.bin s (toV x) (toV y))).2,())
  rw [vS]
  generalize vS (toV x)=v at hx hr ⊢
  obtain ⟨a,e⟩:=v
  generalize vS (toV y)=v2 at hy ⊢
  obtain ⟨a2,e2⟩:=v2
  dsimp only at hx hr hy ⊢
  have h19:=zOx fu hfu s hw.1 a a2 hr.1 hr.2
  generalize both s a a2=bo at h19 ⊢
  unfold sh33
  refine zE rfl (zF rfl (zK hx ?_))
  dsimp only
  by_cases he:e=0
  · rw [if_pos he]
    refine zE (j7 he) ?_
    refine zE (yB (zK6 hw.1).2.1) (zE rfl ?_)
    have fin:∀ r:Int×Int,r=(if e2=0 then bo else (0,e2))->(cond (inB 1 (List.length (Nd.kids (Nd.mk s 0 [toNd x,toNd y]))))
     (Option.bind (c33 fu k ((Nd.mk (Nd.sign (List.getD (Nd.kids (Nd.mk s 0 [toNd x,toNd y])) 1 yF)) (Nd.num (List.getD (Nd.kids (Nd.mk s 0 [toNd x,toNd y])) 1 yF)) (Nd.kids (List.getD (Nd.kids (Nd.mk s 0 [toNd x,toNd y])) 1 yF))),())) fun y1=>
      cond (ine y1.2.1 0)
       (some (0,(y1.2.1,())))
       (Option.bind (c19 fu ((Nd.sign (Nd.mk s 0 [toNd x,toNd y])),(a,(y1.1,())))) fun y2=>
        some (y2.1,(y2.2.1,()))))
     none)=some (r.1,r.2,()):=fun r hr=>by
     subst hr
     refine zF rfl (zK hy ?_)
     dsimp only
     by_cases h0:e2=0
     · rw [if_pos h0]
       refine zE (j7 h0) (zK h19 rfl)
     · rw [if_neg h0]
       exact zF (xI h0) rfl
    by_cases h1:s=[124,124]
    · have hn:s≠[38,38]:=by rw [h1]; decide
      refine zF (yW h1) ?_
      by_cases h0:a=0
      · rw [if_neg (fun h=>h.2 h0),if_neg (fun h=>hn h.1)]
        exact zE (j7 h0) (zE (yB hn) (fin _ rfl))
      · rw [if_pos ⟨h1,h0⟩]
        exact zF (xI h0) rfl
    · rw [if_neg (fun h=>h1 h.1)]
      refine zE (yB h1) ?_
      by_cases h2:s=[38,38]
      · refine zF (yW h2) ?_
        by_cases h0:a=0
        · rw [if_pos ⟨h2,h0⟩]
          exact zF (yY h0) rfl
        · rw [if_neg (fun h=>h0 h.2)]
          exact zE (z7 h0) (fin _ rfl)
      · rw [if_neg (fun h=>h2 h.1)]
        exact zE (yB h2) (fin _ rfl)
  · rw [if_neg he]
    exact zF (xI he) rfl
 | k+1,.cho c x y,h,hw,hb=>by
  replace hb:((badW c || badW x) || badW y)=false:=hb
  rw [Bool.or_eq_false_iff,Bool.or_eq_false_iff] at hb
  have hc:=zEJ fu k c (zAf fu hfu k c (by simp only [dpW] at h; omega) hw.1 hb.1.1)
  have hx:=zEJ fu k x (zAf fu hfu k x (by simp only [dpW] at h; omega) hw.2.1 hb.1.2)
  have hy:=zEJ fu k y (zAf fu hfu k y (by simp only [dpW] at h; omega) hw.2.2 hb.2)
  show sh33 fu (c19 fu) (c33 fu k) c45 (fun _=>false) (Nd.mk [63] 0 [toNd c,toNd x,toNd y])=some ((vS (.cho (toV c) (toV x) (toV y))).1,(vS (.cho (toV c) (toV x) (toV y))).2,())
  rw [vS]
  generalize vS (toV c)=v at hc ⊢
  obtain ⟨a,e⟩:=v
  dsimp only at hc ⊢
  unfold sh33
  refine zE rfl (zF rfl (zK hc ?_))
  dsimp only
  by_cases he:e=0
  · rw [if_pos he]
    refine zE (j7 he) (zF rfl ?_)
    by_cases h0:a=0
    · rw [if_pos h0]
      exact zE (j7 h0) (zF rfl (zK hy rfl))
    · rw [if_neg h0]
      exact zF (xI h0) (zF rfl (zK hx rfl))
  · rw [if_neg he]
    exact zF (xI he) rfl
noncomputable def c11 (fu k:Nat) (x:List TokT×Unit):Option (Int×Int×Unit):=sh11 fu (c31 fu k) (c32 fu k) (c33 fu k) (fun _=>false) x.1
theorem ok11 (fu k:Nat):ConOk CC Tryd.prog 11 ⟨as11,rs11,c11 fu k⟩:=con11 fu (c31 fu k) (okR fu k).1 (c32 fu k) (ok32 fu k) (c33 fu k) (ok33 fu k)
theorem zMo (t:TokT) (r:List TokT):noNl (t::r)=if t.kind=7 then noNl r else t::noNl r:=by
 unfold noNl
 rw [List.filter_cons]
 by_cases h:t.kind=7
 · rw [if_pos h,if_neg (by simp [h])]
 · rw [if_neg h,if_pos (by simp [h])]
theorem c11_eq (fu m:Nat) (hfu:2000 < fu) (l:List TokT) (hl:l.length < 1500) (ht:∀ t ∈ l,t.text.length<=1000) (hm:13000 < m):∃ k0,∀ k,k0<=k->c11 fu k (l,())=some ((evS m l).1,(evS m l).2,()):=by
 have hL:(noNl l).length < 1500:=by have:=zIn l; omega
 have hLt:∀ t ∈ noNl l,t.text.length<=1000:=fun t h=>ht t (List.mem_filter.1 h).1
 have hat:=(zNG hL hfu hLt _ 0 (Nat.le_refl _)).cho m
 rw [List.drop_zero] at hat
 have part:∃ k0,∀ k,k0<=k->(Option.bind (c31 fu k (noNl l,(0,(0,(0,()))))) fun y0=>
  cond (ine y0.2.1 (lenI (noNl l)))
   (some ((0:Int),((90:Int),())))
   (cond (ilt y0.2.1 0)
    (some (0,(90,())))
    (Option.bind (c32 fu k ((Nd.mk (Nd.sign y0.1) (Nd.num y0.1) (Nd.kids y0.1)),())) fun y1=>
     cond y1.1
      (some (0,(91,())))
      (Option.bind (c33 fu k ((Nd.mk (Nd.sign y0.1) (Nd.num y0.1) (Nd.kids y0.1)),())) fun y2=>
       some (y2.1,(y2.2.1,()))))))=some ((evS m l).1,(evS m l).2,()):=by
  unfold evS
  have hr0:=fun k hk=>hat k 0 0 (by omega) (by omega) hk
  generalize (pf m).cho 0 (noNl l) 0=o at hr0 ⊢
  cases o with
  | none=>
   refine ⟨32 * ((noNl l).length - 0)+16,fun k hk=>?_⟩
   obtain ⟨nd,j,hj,e⟩:=hr0 k (by omega)
   refine zK e (zF (xI (fun h=>?_)) rfl)
   have:j=((noNl l).length:Int):=h
   omega
  | some y=>
   obtain ⟨w0,_,hw0,_,_,_,_,_⟩:=hr0 (32 * ((noNl l).length - 0)+16) (by omega)
   refine ⟨max (32 * ((noNl l).length - 0)+16) (dp y.1+1),fun k hk=>?_⟩
   obtain ⟨w,j,g1,g2,g3,g4,g5,e⟩:=hr0 k (by omega)
   obtain ⟨y1,y2,y3⟩:=y
   dsimp only at g1 g3 g5 hk
   subst g1 g3 g5
   have hdp:∀ w:WT,dpW w=dp (toV w):=fun w=>by
    induction w with
    | num n b=>rfl
    | un s x ih=>simp only [dpW,toV,dp,ih]
    | bin s x y h1 h2=>simp only [dpW,toV,dp,h1,h2]
    | cho c x y h1 h2 h3=>simp only [dpW,toV,dp,h1,h2,h3]
   have hk2:dpW w < k:=by rw [hdp]; omega
   refine zK e ?_
   dsimp only
   rw [xd]
   by_cases hj:j=(noNl l).length
   · subst hj
     rw [List.drop_length,if_pos rfl]
     refine zE (j7 rfl) (zE (z6 (by omega)) (zK (zAd fu hfu k w hk2 g2) ?_))
     cases hb:badW w with
     | true=>
      have e0:cmb 0 true=91:=rfl
      rw [e0,if_neg (by decide)]
      rfl
     | false=>
      have e0:cmb 0 false=0:=rfl
      rw [e0,if_pos rfl]
      exact zE rfl (zK (zAf fu hfu k w hk2 g2 hb) rfl)
   · have hne:(noNl l).drop j≠[]:=fun h0=>by
      rw [List.drop_eq_nil_iff] at h0
      omega
     rw [if_neg hne]
     refine zF (xI (fun h=>hj ?_)) rfl
     have:(j:Int)=((noNl l).length:Int):=h
     omega
 obtain ⟨k0,hp⟩:=part
 refine ⟨k0,fun k hk=>?_⟩
 show sh11 fu (c31 fu k) (c32 fu k) (c33 fu k) (fun _=>false) l=_
 have hp2:=hp k hk
 generalize ((evS m l).1,(evS m l).2,())=res at hp2 ⊢
 unfold sh11
 refine zn (fun st=>∃ (i:Nat) (acc:List TokT),st=(((acc,((i:Int),())),()):(List TokT×(Int×PUnit))×PUnit)/\i<=l.length/\acc.length<=i/\acc++noNl (l.drop i)=noNl l) (fun st=>l.length - st.1.2.1.toNat) ?_ fu _ ⟨0,[],rfl,Nat.zero_le _,Nat.le_refl _,rfl⟩ (by dsimp only; omega)
 rintro rec st ⟨i,acc,rfl,hi,hacc,hn⟩ hrec
 dsimp only at hrec ⊢
 by_cases hlt:i < l.length
 · have hin:inB (i:Int) l.length=true:=zY (by omega) (by omega)
   refine zF (ya (by show (i:Int) < (l.length:Int); omega)) (zF hin ?_)
   rw [Int.toNat_natCast,i1n i (by omega)]
   rw [zAn hlt,zMo] at hn
   rw [zKk]
   refine xD (fun h7=>?_) fun h7=>?_
   · rw [if_neg h7] at hn
     refine zF hin (zF (kT (by rw [List.length_singleton]; omega) (by rw [List.length_singleton]; simp only [maxLen]; omega)) ?_)
     refine hrec _ ⟨i+1,_,rfl,hlt,by rw [List.length_append,List.length_singleton]; omega,?_⟩ (by dsimp only; omega)
     rw [<- hn,List.append_assoc]
     rfl
   · rw [if_pos h7] at hn
     exact hrec _ ⟨i+1,_,rfl,hlt,by omega,hn⟩ (by dsimp only; omega)
 · obtain rfl:i=l.length:=by omega
   rw [List.drop_length] at hn
   have e:acc=noNl l:=by rw [<- hn]; show acc=acc++[]; rw [List.append_nil]
   subst e
   exact zE (z6 (Int.le_refl _)) hp2
end
section
open Go.Al Go.Den
def sh79 (fu:Nat) (nf:Nat->Bool) (x0:Int):(Option (Bool×Unit)):=cond (ieq x0 95) (some (true,())) (cond (ile 97 x0) (cond (ile x0 122) (some (true,())) (cond (ile 65 x0) (some ((ile x0 90),())) (some (false,())))) (cond (ile 65 x0) (some ((ile x0 90),())) (some (false,()))))
theorem eq79:@run79 = @sh79:=by kernel_rfl
def sh80 (fu:Nat) (nf:Nat->Bool) (x0:Int):(Option (Bool×Unit)):=cond (ile 48 x0) (some ((ile x0 57),())) (some (false,()))
theorem eq80:@run80 = @sh80:=by kernel_rfl
def sh65 (fu:Nat) (nf:Nat->Bool) (x0:Str) (x1:Int) (x2:Str):(Option (Bool×Unit)):=cond (ile (iadd .i64 x1 (lenI x2)) (lenI x0)) (cond (inS x1 (iadd .i64 x1 (lenI x2)) (List.length x0)) (some ((seq (cutL x0 x1 (iadd .i64 x1 (lenI x2))) x2),())) (none)) (some (false,()))
theorem eq65:@run65 = @sh65:=by kernel_rfl
def sh66 (fu:Nat) (c79:(Int×Unit)->(Option (Bool×Unit))) (c80:(Int×Unit)->(Option (Bool×Unit))) (nf:Nat->Bool) (x0:Str) (x1:Int):(Option (Int×Unit)):=iter fu (fun (rec1:((Int×Unit)×Unit)->Option (Int×Unit)) (s1:((Int×Unit)×Unit))=>cond (ilt (iadd .i64 x1 s1.1.1) (lenI x0)) (cond (inB (iadd .i64 x1 s1.1.1) (List.length x0)) (Option.bind (c79 ((zD x0 (iadd .i64 x1 s1.1.1)),())) fun y0=>cond y0.1 (rec1 (((iadd .i64 s1.1.1 1),()),())) (cond (ilt 0 s1.1.1) (cond (inB (iadd .i64 x1 s1.1.1) (List.length x0)) (Option.bind (c80 ((zD x0 (iadd .i64 x1 s1.1.1)),())) fun y1=>cond y1.1 (rec1 (((iadd .i64 s1.1.1 1),()),())) (some (s1.1.1,()))) (none)) (some (s1.1.1,())))) (none)) (some (s1.1.1,()))) ((0,()),())
theorem eq66:@run66 = @sh66:=by kernel_rfl
def sh67 (fu:Nat) (c79:(Int×Unit)->(Option (Bool×Unit))) (c80:(Int×Unit)->(Option (Bool×Unit))) (nf:Nat->Bool) (x0:Str) (x1:Int):(Option (Int×Unit)):=cond (inB x1 (List.length x0)) (Option.bind (c80 ((zD x0 x1),())) fun y0=>cond (!y0.1) (cond (inB x1 (List.length x0)) (cond (ieq (zD x0 x1) 46) (cond (ilt (iadd .i64 x1 1) (lenI x0)) (cond (inB (iadd .i64 x1 1) (List.length x0)) (Option.bind (c80 ((zD x0 (iadd .i64 x1 1)),())) fun y1=>cond (!y1.1) (some (0,())) (iter fu (fun (rec1:((Int×Unit)×Unit)->Option (Int×Unit)) (s1:((Int×Unit)×Unit))=>cond (ilt (iadd .i64 x1 s1.1.1) (lenI x0)) (cond (inB (iadd .i64 x1 s1.1.1) (List.length x0)) (cond (ilt (iadd .i64 (iadd .i64 x1 s1.1.1) 1) (lenI x0)) (cond (inB (iadd .i64 (iadd .i64 x1 s1.1.1) 1) (List.length x0)) (cond (ieq (zD x0 (iadd .i64 (iadd .i64 x1 s1.1.1) 1)) 43) (cond (ieq (zD x0 (iadd .i64 x1 s1.1.1)) 101) (rec1 (((iadd .i64 s1.1.1 2),()),())) (cond (ieq (zD x0 (iadd .i64 x1 s1.1.1)) 69) (rec1 (((iadd .i64 s1.1.1 2),()),())) (cond (ieq (zD x0 (iadd .i64 x1 s1.1.1)) 112) (rec1 (((iadd .i64 s1.1.1 2),()),())) (cond (ieq (zD x0 (iadd .i64 x1 s1.1.1)) 80) (rec1 (((iadd .i64 s1.1.1 2),()),())) (Option.bind (c79 ((zD x0 (iadd .i64 x1 s1.1.1)),())) fun y2=>cond (!y2.1) (Option.bind (c80 ((zD x0 (iadd .i64 x1 s1.1.1)),())) fun y3=>cond (!y3.1) (cond (ine (zD x0 (iadd .i64 x1 s1.1.1)) 46) (some (s1.1.1,())) (rec1 (((iadd .i64 s1.1.1 1),()),()))) (rec1 (((iadd .i64 s1.1.1 1),()),()))) (rec1 (((iadd .i64 s1.1.1 1),()),()))))))) (cond (inB (iadd .i64 (iadd .i64 x1 s1.1.1) 1) (List.length x0)) (cond (ieq (zD x0 (iadd .i64 x1 s1.1.1)) 101) (cond (ieq (zD x0 (iadd .i64 (iadd .i64 x1 s1.1.1) 1)) 45) (rec1 (((iadd .i64 s1.1.1 2),()),())) (Option.bind (c79 ((zD x0 (iadd .i64 x1 s1.1.1)),())) fun y2=>cond (!y2.1) (Option.bind (c80 ((zD x0 (iadd .i64 x1 s1.1.1)),())) fun y3=>cond (!y3.1) (cond (ine (zD x0 (iadd .i64 x1 s1.1.1)) 46) (some (s1.1.1,())) (rec1 (((iadd .i64 s1.1.1 1),()),()))) (rec1 (((iadd .i64 s1.1.1 1),()),()))) (rec1 (((iadd .i64 s1.1.1 1),()),())))) (cond (ieq (zD x0 (iadd .i64 x1 s1.1.1)) 69) (cond (ieq (zD x0 (iadd .i64 (iadd .i64 x1 s1.1.1) 1)) 45) (rec1 (((iadd .i64 s1.1.1 2),()),())) (Option.bind (c79 ((zD x0 (iadd .i64 x1 s1.1.1)),())) fun y2=>cond (!y2.1) (Option.bind (c80 ((zD x0 (iadd .i64 x1 s1.1.1)),())) fun y3=>cond (!y3.1) (cond (ine (zD x0 (iadd .i64 x1 s1.1.1)) 46) (some (s1.1.1,())) (rec1 (((iadd .i64 s1.1.1 1),()),()))) (rec1 (((iadd .i64 s1.1.1 1),()),()))) (rec1 (((iadd .i64 s1.1.1 1),()),())))) (cond (ieq (zD x0 (iadd .i64 x1 s1.1.1)) 112) (cond (ieq (zD x0 (iadd .i64 (iadd .i64 x1 s1.1.1) 1)) 45) (rec1 (((iadd .i64 s1.1.1 2),()),())) (Option.bind (c79 ((zD x0 (iadd .i64 x1 s1.1.1)),())) fun y2=>cond (!y2.1) (Option.bind (c80 ((zD x0 (iadd .i64 x1 s1.1.1)),())) fun y3=>cond (!y3.1) (cond (ine (zD x0 (iadd .i64 x1 s1.1.1)) 46) (some (s1.1.1,())) (rec1 (((iadd .i64 s1.1.1 1),()),()))) (rec1 (((iadd .i64 s1.1.1 1),()),()))) (rec1 (((iadd .i64 s1.1.1 1),()),())))) (cond (ieq (zD x0 (iadd .i64 x1 s1.1.1)) 80) (cond (ieq (zD x0 (iadd .i64 (iadd .i64 x1 s1.1.1) 1)) 45) (rec1 (((iadd .i64 s1.1.1 2),()),())) (Option.bind (c79 ((zD x0 (iadd .i64 x1 s1.1.1)),())) fun y2=>cond (!y2.1) (Option.bind (c80 ((zD x0 (iadd .i64 x1 s1.1.1)),())) fun y3=>cond (!y3.1) (cond (ine (zD x0 (iadd .i64 x1 s1.1.1)) 46) (some (s1.1.1,())) (rec1 (((iadd .i64 s1.1.1 1),()),()))) (rec1 (((iadd .i64 s1.1.1 1),()),()))) (rec1 (((iadd .i64 s1.1.1 1),()),())))) (Option.bind (c79 ((zD x0 (iadd .i64 x1 s1.1.1)),())) fun y2=>cond (!y2.1) (Option.bind (c80 ((zD x0 (iadd .i64 x1 s1.1.1)),())) fun y3=>cond (!y3.1) (cond (ine (zD x0 (iadd .i64 x1 s1.1.1)) 46) (some (s1.1.1,())) (rec1 (((iadd .i64 s1.1.1 1),()),()))) (rec1 (((iadd .i64 s1.1.1 1),()),()))) (rec1 (((iadd .i64 s1.1.1 1),()),()))))))) (none))) (none)) (cond (ieq (zD x0 (iadd .i64 x1 s1.1.1)) 101) (Option.bind (c79 ((zD x0 (iadd .i64 x1 s1.1.1)),())) fun y2=>cond (!y2.1) (Option.bind (c80 ((zD x0 (iadd .i64 x1 s1.1.1)),())) fun y3=>cond (!y3.1) (cond (ine (zD x0 (iadd .i64 x1 s1.1.1)) 46) (some (s1.1.1,())) (rec1 (((iadd .i64 s1.1.1 1),()),()))) (rec1 (((iadd .i64 s1.1.1 1),()),()))) (rec1 (((iadd .i64 s1.1.1 1),()),()))) (cond (ieq (zD x0 (iadd .i64 x1 s1.1.1)) 69) (Option.bind (c79 ((zD x0 (iadd .i64 x1 s1.1.1)),())) fun y2=>cond (!y2.1) (Option.bind (c80 ((zD x0 (iadd .i64 x1 s1.1.1)),())) fun y3=>cond (!y3.1) (cond (ine (zD x0 (iadd .i64 x1 s1.1.1)) 46) (some (s1.1.1,())) (rec1 (((iadd .i64 s1.1.1 1),()),()))) (rec1 (((iadd .i64 s1.1.1 1),()),()))) (rec1 (((iadd .i64 s1.1.1 1),()),()))) (cond (ieq (zD x0 (iadd .i64 x1 s1.1.1)) 112) (Option.bind (c79 ((zD x0 (iadd .i64 x1 s1.1.1)),())) fun y2=>cond (!y2.1) (Option.bind (c80 ((zD x0 (iadd .i64 x1 s1.1.1)),())) fun y3=>cond (!y3.1) (cond (ine (zD x0 (iadd .i64 x1 s1.1.1)) 46) (some (s1.1.1,())) (rec1 (((iadd .i64 s1.1.1 1),()),()))) (rec1 (((iadd .i64 s1.1.1 1),()),()))) (rec1 (((iadd .i64 s1.1.1 1),()),()))) (cond (ieq (zD x0 (iadd .i64 x1 s1.1.1)) 80) (Option.bind (c79 ((zD x0 (iadd .i64 x1 s1.1.1)),())) fun y2=>cond (!y2.1) (Option.bind (c80 ((zD x0 (iadd .i64 x1 s1.1.1)),())) fun y3=>cond (!y3.1) (cond (ine (zD x0 (iadd .i64 x1 s1.1.1)) 46) (some (s1.1.1,())) (rec1 (((iadd .i64 s1.1.1 1),()),()))) (rec1 (((iadd .i64 s1.1.1 1),()),()))) (rec1 (((iadd .i64 s1.1.1 1),()),()))) (Option.bind (c79 ((zD x0 (iadd .i64 x1 s1.1.1)),())) fun y2=>cond (!y2.1) (Option.bind (c80 ((zD x0 (iadd .i64 x1 s1.1.1)),())) fun y3=>cond (!y3.1) (cond (ine (zD x0 (iadd .i64 x1 s1.1.1)) 46) (some (s1.1.1,())) (rec1 (((iadd .i64 s1.1.1 1),()),()))) (rec1 (((iadd .i64 s1.1.1 1),()),()))) (rec1 (((iadd .i64 s1.1.1 1),()),())))))))) (none)) (some (s1.1.1,()))) ((1,()),()))) (none)) (some (0,()))) (some (0,()))) (none)) (iter fu (fun (rec1:((Int×Unit)×Unit)->Option (Int×Unit)) (s1:((Int×Unit)×Unit))=>cond (ilt (iadd .i64 x1 s1.1.1) (lenI x0)) (cond (inB (iadd .i64 x1 s1.1.1) (List.length x0)) (cond (ilt (iadd .i64 (iadd .i64 x1 s1.1.1) 1) (lenI x0)) (cond (inB (iadd .i64 (iadd .i64 x1 s1.1.1) 1) (List.length x0)) (cond (ieq (zD x0 (iadd .i64 (iadd .i64 x1 s1.1.1) 1)) 43) (cond (ieq (zD x0 (iadd .i64 x1 s1.1.1)) 101) (rec1 (((iadd .i64 s1.1.1 2),()),())) (cond (ieq (zD x0 (iadd .i64 x1 s1.1.1)) 69) (rec1 (((iadd .i64 s1.1.1 2),()),())) (cond (ieq (zD x0 (iadd .i64 x1 s1.1.1)) 112) (rec1 (((iadd .i64 s1.1.1 2),()),())) (cond (ieq (zD x0 (iadd .i64 x1 s1.1.1)) 80) (rec1 (((iadd .i64 s1.1.1 2),()),())) (Option.bind (c79 ((zD x0 (iadd .i64 x1 s1.1.1)),())) fun y1=>cond (!y1.1) (Option.bind (c80 ((zD x0 (iadd .i64 x1 s1.1.1)),())) fun y2=>cond (!y2.1) (cond (ine (zD x0 (iadd .i64 x1 s1.1.1)) 46) (some (s1.1.1,())) (rec1 (((iadd .i64 s1.1.1 1),()),()))) (rec1 (((iadd .i64 s1.1.1 1),()),()))) (rec1 (((iadd .i64 s1.1.1 1),()),()))))))) (cond (inB (iadd .i64 (iadd .i64 x1 s1.1.1) 1) (List.length x0)) (cond (ieq (zD x0 (iadd .i64 x1 s1.1.1)) 101) (cond (ieq (zD x0 (iadd .i64 (iadd .i64 x1 s1.1.1) 1)) 45) (rec1 (((iadd .i64 s1.1.1 2),()),())) (Option.bind (c79 ((zD x0 (iadd .i64 x1 s1.1.1)),())) fun y1=>cond (!y1.1) (Option.bind (c80 ((zD x0 (iadd .i64 x1 s1.1.1)),())) fun y2=>cond (!y2.1) (cond (ine (zD x0 (iadd .i64 x1 s1.1.1)) 46) (some (s1.1.1,())) (rec1 (((iadd .i64 s1.1.1 1),()),()))) (rec1 (((iadd .i64 s1.1.1 1),()),()))) (rec1 (((iadd .i64 s1.1.1 1),()),())))) (cond (ieq (zD x0 (iadd .i64 x1 s1.1.1)) 69) (cond (ieq (zD x0 (iadd .i64 (iadd .i64 x1 s1.1.1) 1)) 45) (rec1 (((iadd .i64 s1.1.1 2),()),())) (Option.bind (c79 ((zD x0 (iadd .i64 x1 s1.1.1)),())) fun y1=>cond (!y1.1) (Option.bind (c80 ((zD x0 (iadd .i64 x1 s1.1.1)),())) fun y2=>cond (!y2.1) (cond (ine (zD x0 (iadd .i64 x1 s1.1.1)) 46) (some (s1.1.1,())) (rec1 (((iadd .i64 s1.1.1 1),()),()))) (rec1 (((iadd .i64 s1.1.1 1),()),()))) (rec1 (((iadd .i64 s1.1.1 1),()),())))) (cond (ieq (zD x0 (iadd .i64 x1 s1.1.1)) 112) (cond (ieq (zD x0 (iadd .i64 (iadd .i64 x1 s1.1.1) 1)) 45) (rec1 (((iadd .i64 s1.1.1 2),()),())) (Option.bind (c79 ((zD x0 (iadd .i64 x1 s1.1.1)),())) fun y1=>cond (!y1.1) (Option.bind (c80 ((zD x0 (iadd .i64 x1 s1.1.1)),())) fun y2=>cond (!y2.1) (cond (ine (zD x0 (iadd .i64 x1 s1.1.1)) 46) (some (s1.1.1,())) (rec1 (((iadd .i64 s1.1.1 1),()),()))) (rec1 (((iadd .i64 s1.1.1 1),()),()))) (rec1 (((iadd .i64 s1.1.1 1),()),())))) (cond (ieq (zD x0 (iadd .i64 x1 s1.1.1)) 80) (cond (ieq (zD x0 (iadd .i64 (iadd .i64 x1 s1.1.1) 1)) 45) (rec1 (((iadd .i64 s1.1.1 2),()),())) (Option.bind (c79 ((zD x0 (iadd .i64 x1 s1.1.1)),())) fun y1=>cond (!y1.1) (Option.bind (c80 ((zD x0 (iadd .i64 x1 s1.1.1)),())) fun y2=>cond (!y2.1) (cond (ine (zD x0 (iadd .i64 x1 s1.1.1)) 46) (some (s1.1.1,())) (rec1 (((iadd .i64 s1.1.1 1),()),()))) (rec1 (((iadd .i64 s1.1.1 1),()),()))) (rec1 (((iadd .i64 s1.1.1 1),()),())))) (Option.bind (c79 ((zD x0 (iadd .i64 x1 s1.1.1)),())) fun y1=>cond (!y1.1) (Option.bind (c80 ((zD x0 (iadd .i64 x1 s1.1.1)),())) fun y2=>cond (!y2.1) (cond (ine (zD x0 (iadd .i64 x1 s1.1.1)) 46) (some (s1.1.1,())) (rec1 (((iadd .i64 s1.1.1 1),()),()))) (rec1 (((iadd .i64 s1.1.1 1),()),()))) (rec1 (((iadd .i64 s1.1.1 1),()),()))))))) (none))) (none)) (cond (ieq (zD x0 (iadd .i64 x1 s1.1.1)) 101) (Option.bind (c79 ((zD x0 (iadd .i64 x1 s1.1.1)),())) fun y1=>cond (!y1.1) (Option.bind (c80 ((zD x0 (iadd .i64 x1 s1.1.1)),())) fun y2=>cond (!y2.1) (cond (ine (zD x0 (iadd .i64 x1 s1.1.1)) 46) (some (s1.1.1,())) (rec1 (((iadd .i64 s1.1.1 1),()),()))) (rec1 (((iadd .i64 s1.1.1 1),()),()))) (rec1 (((iadd .i64 s1.1.1 1),()),()))) (cond (ieq (zD x0 (iadd .i64 x1 s1.1.1)) 69) (Option.bind (c79 ((zD x0 (iadd .i64 x1 s1.1.1)),())) fun y1=>cond (!y1.1) (Option.bind (c80 ((zD x0 (iadd .i64 x1 s1.1.1)),())) fun y2=>cond (!y2.1) (cond (ine (zD x0 (iadd .i64 x1 s1.1.1)) 46) (some (s1.1.1,())) (rec1 (((iadd .i64 s1.1.1 1),()),()))) (rec1 (((iadd .i64 s1.1.1 1),()),()))) (rec1 (((iadd .i64 s1.1.1 1),()),()))) (cond (ieq (zD x0 (iadd .i64 x1 s1.1.1)) 112) (Option.bind (c79 ((zD x0 (iadd .i64 x1 s1.1.1)),())) fun y1=>cond (!y1.1) (Option.bind (c80 ((zD x0 (iadd .i64 x1 s1.1.1)),())) fun y2=>cond (!y2.1) (cond (ine (zD x0 (iadd .i64 x1 s1.1.1)) 46) (some (s1.1.1,())) (rec1 (((iadd .i64 s1.1.1 1),()),()))) (rec1 (((iadd .i64 s1.1.1 1),()),()))) (rec1 (((iadd .i64 s1.1.1 1),()),()))) (cond (ieq (zD x0 (iadd .i64 x1 s1.1.1)) 80) (Option.bind (c79 ((zD x0 (iadd .i64 x1 s1.1.1)),())) fun y1=>cond (!y1.1) (Option.bind (c80 ((zD x0 (iadd .i64 x1 s1.1.1)),())) fun y2=>cond (!y2.1) (cond (ine (zD x0 (iadd .i64 x1 s1.1.1)) 46) (some (s1.1.1,())) (rec1 (((iadd .i64 s1.1.1 1),()),()))) (rec1 (((iadd .i64 s1.1.1 1),()),()))) (rec1 (((iadd .i64 s1.1.1 1),()),()))) (Option.bind (c79 ((zD x0 (iadd .i64 x1 s1.1.1)),())) fun y1=>cond (!y1.1) (Option.bind (c80 ((zD x0 (iadd .i64 x1 s1.1.1)),())) fun y2=>cond (!y2.1) (cond (ine (zD x0 (iadd .i64 x1 s1.1.1)) 46) (some (s1.1.1,())) (rec1 (((iadd .i64 s1.1.1 1),()),()))) (rec1 (((iadd .i64 s1.1.1 1),()),()))) (rec1 (((iadd .i64 s1.1.1 1),()),())))))))) (none)) (some (s1.1.1,()))) ((1,()),()))) (none)
theorem eq67:@run67 = @sh67:=by kernel_rfl
def sh68 (fu:Nat) (nf:Nat->Bool) (x0:Str) (x1:Int) (x2:Int):(Option (Int×Unit)):=cond (inB x1 (List.length x0)) (cond (ine (zD x0 x1) x2) (some (0,())) (iter fu (fun (rec1:((Int×Unit)×Unit)->Option (Int×Unit)) (s1:((Int×Unit)×Unit))=>cond (ilt (iadd .i64 x1 s1.1.1) (lenI x0)) (cond (inB (iadd .i64 x1 s1.1.1) (List.length x0)) (cond (ine (zD x0 (iadd .i64 x1 s1.1.1)) 10) (cond (inB (iadd .i64 x1 s1.1.1) (List.length x0)) (cond (ieq (zD x0 (iadd .i64 x1 s1.1.1)) x2) (cond (ieq s1.1.1 1) (cond (ieq x2 39) (some (0,())) (some ((iadd .i64 s1.1.1 1),()))) (some ((iadd .i64 s1.1.1 1),()))) (cond (inB (iadd .i64 x1 s1.1.1) (List.length x0)) (cond (ieq (zD x0 (iadd .i64 x1 s1.1.1)) 92) (cond (ile (lenI x0) (iadd .i64 x1 (iadd .i64 s1.1.1 1))) (some (0,())) (cond (inB (iadd .i64 x1 (iadd .i64 s1.1.1 1)) (List.length x0)) (cond (ieq (zD x0 (iadd .i64 x1 (iadd .i64 s1.1.1 1))) 10) (some (0,())) (rec1 (((iadd .i64 (iadd .i64 s1.1.1 1) 1),()),()))) (none))) (rec1 (((iadd .i64 s1.1.1 1),()),()))) (none))) (none)) (some (0,()))) (none)) (some (0,()))) ((1,()),()))) (none)
theorem eq68:@run68 = @sh68:=by kernel_rfl
def sh69 (fu:Nat) (c65:(Str×(Int×(Str×Unit)))->(Option (Bool×Unit))) (nf:Nat->Bool) (x0:Str) (x1:Int):(Option (Int×Unit)):=iter fu (fun (rec1:((Int×Unit)×Unit)->Option (Int×Unit)) (s1:((Int×Unit)×Unit))=>cond (ilt s1.1.1 (lenI [[46,46,46],[60,60,61],[62,62,61]])) (cond (inB s1.1.1 3) (Option.bind (c65 (x0,(x1,((List.getD [[46,46,46],[60,60,61],[62,62,61]] (Int.toNat s1.1.1) []),())))) fun y0=>cond y0.1 (some (3,())) (rec1 (((iadd .i64 s1.1.1 1),()),()))) (none)) (iter fu (fun (rec2:((Int×Unit)×Unit)->Option (Int×Unit)) (s2:((Int×Unit)×Unit))=>cond (ilt s2.1.1 (lenI [[45,62],[43,43],[45,45],[60,60],[62,62],[60,61],[62,61],[61,61],[33,61],[38,38],[124,124],[42,61],[47,61],[37,61],[43,61],[45,61],[38,61],[94,61],[124,61],[35,35]])) (cond (inB s2.1.1 20) (Option.bind (c65 (x0,(x1,((List.getD [[45,62],[43,43],[45,45],[60,60],[62,62],[60,61],[62,61],[61,61],[33,61],[38,38],[124,124],[42,61],[47,61],[37,61],[43,61],[45,61],[38,61],[94,61],[124,61],[35,35]] (Int.toNat s2.1.1) []),())))) fun y0=>cond y0.1 (some (2,())) (rec2 (((iadd .i64 s2.1.1 1),()),()))) (none)) (iter fu (fun (rec3:((Int×Unit)×Unit)->Option (Int×Unit)) (s3:((Int×Unit)×Unit))=>cond (ilt s3.1.1 (lenI [91,93,40,41,123,125,46,38,42,43,45,126,33,47,37,60,62,94,124,63,58,59,61,44,35])) (cond (inB x1 (List.length x0)) (cond (inB s3.1.1 25) (cond (ieq (zD x0 x1) (zD [91,93,40,41,123,125,46,38,42,43,45,126,33,47,37,60,62,94,124,63,58,59,61,44,35] s3.1.1)) (some (1,())) (rec3 (((iadd .i64 s3.1.1 1),()),()))) (none)) (none)) (some (0,()))) ((0,()),()))) ((0,()),()))) ((0,()),())
theorem eq69:@run69 = @sh69:=by kernel_rfl
def sh36 (fu:Nat) (c65:(Str×(Int×(Str×Unit)))->(Option (Bool×Unit))) (nf:Nat->Bool) (x0:Str) (x1:Int):(Option (Int×Unit)):=cond (inB x1 (List.length x0)) (cond (ieq (zD x0 x1) 32) (some ((iadd .i64 x1 1),())) (cond (inB x1 (List.length x0)) (cond (ieq (zD x0 x1) 9) (some ((iadd .i64 x1 1),())) (cond (inB x1 (List.length x0)) (cond (ile 11 (zD x0 x1)) (cond (inB x1 (List.length x0)) (cond (ile (zD x0 x1) 13) (some ((iadd .i64 x1 1),())) (Option.bind (c65 (x0,(x1,([47,47],())))) fun y0=>cond y0.1 (iter fu (fun (rec1:((Int×Unit)×Unit)->Option (Int×Unit)) (s1:((Int×Unit)×Unit))=>cond (ilt s1.1.1 (lenI x0)) (cond (inB s1.1.1 (List.length x0)) (cond (ine (zD x0 s1.1.1) 10) (rec1 (((iadd .i64 s1.1.1 1),()),())) (some (s1.1.1,()))) (none)) (some (s1.1.1,()))) ((x1,()),())) (Option.bind (c65 (x0,(x1,([47,42],())))) fun y1=>cond y1.1 (iter fu (fun (rec1:((Int×Unit)×Unit)->Option (Int×Unit)) (s1:((Int×Unit)×Unit))=>cond (ilt s1.1.1 (lenI x0)) (Option.bind (c65 (x0,(s1.1.1,([42,47],())))) fun y2=>cond y2.1 (some ((iadd .i64 s1.1.1 2),())) (rec1 (((iadd .i64 s1.1.1 1),()),()))) (some (x1,()))) (((iadd .i64 x1 2),()),())) (some (x1,()))))) (none)) (Option.bind (c65 (x0,(x1,([47,47],())))) fun y0=>cond y0.1 (iter fu (fun (rec1:((Int×Unit)×Unit)->Option (Int×Unit)) (s1:((Int×Unit)×Unit))=>cond (ilt s1.1.1 (lenI x0)) (cond (inB s1.1.1 (List.length x0)) (cond (ine (zD x0 s1.1.1) 10) (rec1 (((iadd .i64 s1.1.1 1),()),())) (some (s1.1.1,()))) (none)) (some (s1.1.1,()))) ((x1,()),())) (Option.bind (c65 (x0,(x1,([47,42],())))) fun y1=>cond y1.1 (iter fu (fun (rec1:((Int×Unit)×Unit)->Option (Int×Unit)) (s1:((Int×Unit)×Unit))=>cond (ilt s1.1.1 (lenI x0)) (Option.bind (c65 (x0,(s1.1.1,([42,47],())))) fun y2=>cond y2.1 (some ((iadd .i64 s1.1.1 2),())) (rec1 (((iadd .i64 s1.1.1 1),()),()))) (some (x1,()))) (((iadd .i64 x1 2),()),())) (some (x1,()))))) (none))) (none))) (none)
theorem eq36:@run36 = @sh36:=by kernel_rfl
def sh37 (fu:Nat) (c66:(Str×(Int×Unit))->(Option (Int×Unit))) (c67:(Str×(Int×Unit))->(Option (Int×Unit))) (c68:(Str×(Int×(Int×Unit)))->(Option (Int×Unit))) (c69:(Str×(Int×Unit))->(Option (Int×Unit))) (nf:Nat->Bool) (x0:Str) (x1:Int):(Option (Int×(Int×Unit))):=cond (inB x1 (List.length x0)) (cond (ieq (zD x0 x1) 10) (some (7,(1,()))) (Option.bind (c66 (x0,(x1,()))) fun y0=>cond (ilt 0 y0.1) (some (1,(y0.1,()))) (Option.bind (c67 (x0,(x1,()))) fun y1=>cond (ilt 0 y1.1) (some (2,(y1.1,()))) (Option.bind (c68 (x0,(x1,(34,())))) fun y2=>cond (ilt 0 y2.1) (some (4,(y2.1,()))) (Option.bind (c68 (x0,(x1,(39,())))) fun y3=>cond (ilt 0 y3.1) (some (3,(y3.1,()))) (Option.bind (c69 (x0,(x1,()))) fun y4=>cond (ilt 0 y4.1) (some (5,(y4.1,()))) (some (6,(1,()))))))))) (none)
theorem eq37:@run37 = @sh37:=by kernel_rfl
def sh34 (fu:Nat) (nf:Nat->Bool) (x0:Str):(Option ((List CharT)×Unit)):=iter fu (fun (rec1:(((List CharT)×(Int×Unit))×Unit)->Option ((List CharT)×Unit)) (s1:(((List CharT)×(Int×Unit))×Unit))=>cond (ilt s1.1.2.1 (lenI x0)) (cond (inB s1.1.2.1 (List.length x0)) (cond (ieq (zD x0 s1.1.2.1) 92) (cond (ilt (iadd .i64 s1.1.2.1 1) (lenI x0)) (cond (inB (iadd .i64 s1.1.2.1 1) (List.length x0)) (cond (ieq (zD x0 (iadd .i64 s1.1.2.1 1)) 10) (rec1 ((s1.1.1,((iadd .i64 s1.1.2.1 2),())),())) (cond (inB s1.1.2.1 (List.length x0)) (cond (okN 16 ((List.length s1.1.1)+(List.length [(CharT.mk (zD x0 s1.1.2.1) s1.1.2.1)]))) (rec1 (((s1.1.1++[(CharT.mk (zD x0 s1.1.2.1) s1.1.2.1)]),((iadd .i64 s1.1.2.1 1),())),())) (none)) (none))) (none)) (cond (inB s1.1.2.1 (List.length x0)) (cond (okN 16 ((List.length s1.1.1)+(List.length [(CharT.mk (zD x0 s1.1.2.1) s1.1.2.1)]))) (rec1 (((s1.1.1++[(CharT.mk (zD x0 s1.1.2.1) s1.1.2.1)]),((iadd .i64 s1.1.2.1 1),())),())) (none)) (none))) (cond (inB s1.1.2.1 (List.length x0)) (cond (okN 16 ((List.length s1.1.1)+(List.length [(CharT.mk (zD x0 s1.1.2.1) s1.1.2.1)]))) (rec1 (((s1.1.1++[(CharT.mk (zD x0 s1.1.2.1) s1.1.2.1)]),((iadd .i64 s1.1.2.1 1),())),())) (none)) (none))) (none)) (some (s1.1.1,()))) (([],(0,())),())
theorem eq34:@run34 = @sh34:=by kernel_rfl
def sh35 (fu:Nat) (nf:Nat->Bool) (x0:(List CharT)):(Option (Str×Unit)):=iter fu (fun (rec1:((Str×(Int×Unit))×Unit)->Option (Str×Unit)) (s1:((Str×(Int×Unit))×Unit))=>cond (ilt s1.1.2.1 (lenI x0)) (cond (inB s1.1.2.1 (List.length x0)) (cond (okS ((List.length s1.1.1)+(List.length (zED (fun x=>x) [(CharT.b (List.getD x0 (Int.toNat s1.1.2.1) yX))])))) (rec1 (((s1.1.1++(zED (fun x=>x) [(CharT.b (List.getD x0 (Int.toNat s1.1.2.1) yX))])),((iadd .i64 s1.1.2.1 1),())),())) (none)) (none)) (some (s1.1.1,()))) (([],(0,())),())
theorem eq35:@run35 = @sh35:=by kernel_rfl
def sh12 (fu:Nat) (c34:(Str×Unit)->(Option ((List CharT)×Unit))) (c35:((List CharT)×Unit)->(Option (Str×Unit))) (c36:(Str×(Int×Unit))->(Option (Int×Unit))) (c37:(Str×(Int×Unit))->(Option (Int×(Int×Unit)))) (nf:Nat->Bool) (x0:Int) (x1:Str):(Option (LT×Unit)):=Option.bind (c34 (x1,())) fun y0=>Option.bind (c35 (y0.1,())) fun y1=>iter fu (fun (rec1:((LT×(Int×(Bool×Unit)))×Unit)->Option (LT×Unit)) (s1:((LT×(Int×(Bool×Unit)))×Unit))=>cond (ilt s1.1.2.1 (lenI y1.1)) (Option.bind (c36 (y1.1,(s1.1.2.1,()))) fun y2=>cond (ilt s1.1.2.1 y2.1) (rec1 ((s1.1.1,(y2.1,(true,()))),())) (Option.bind (c37 (y1.1,(s1.1.2.1,()))) fun y3=>cond (inS s1.1.2.1 (iadd .i64 s1.1.2.1 y3.2.1) (List.length y1.1)) (cond (inB s1.1.2.1 (List.length y0.1)) (cond (inB (isub .i64 (iadd .i64 s1.1.2.1 y3.2.1) 1) (List.length y0.1)) (cond (okN 56 ((List.length s1.1.1)+(List.length [(TokT.mk y3.1 (cutL y1.1 s1.1.2.1 (iadd .i64 s1.1.2.1 y3.2.1)) x0 (CharT.fat (List.getD y0.1 (Int.toNat s1.1.2.1) yX)) (iadd .i64 (CharT.fat (List.getD y0.1 (Int.toNat (isub .i64 (iadd .i64 s1.1.2.1 y3.2.1) 1)) yX)) 1) s1.1.2.2.1)]))) (rec1 (((s1.1.1++[(TokT.mk y3.1 (cutL y1.1 s1.1.2.1 (iadd .i64 s1.1.2.1 y3.2.1)) x0 (CharT.fat (List.getD y0.1 (Int.toNat s1.1.2.1) yX)) (iadd .i64 (CharT.fat (List.getD y0.1 (Int.toNat (isub .i64 (iadd .i64 s1.1.2.1 y3.2.1) 1)) yX)) 1) s1.1.2.2.1)]),((iadd .i64 s1.1.2.1 y3.2.1),(false,()))),())) (none)) (none)) (none)) (none))) (some (s1.1.1,()))) (([],(0,(false,()))),())
theorem eq12:@run12 = @sh12:=by kernel_rfl
theorem con79 (fu:Nat) :ConOk CC Tryd.prog 79 ⟨as79,rs79,fun x=>sh79 fu (fun _=>false) x.1⟩:=
 zS (c:=⟨as79,rs79,fun x=>sh79 fu (fun _=>false) x.1⟩) (syn:=syn) (fu:=fu) (d:=2) (inl:=zA []) (orc:=zA []) (orr:=zA []) (orp:=zA []) (pf:=hasN []) (rf:=hasN []) zV CCok mixed (fun g=>(zG (α:=Con UU) (l:=[]) g).symm) (fun g=>(zG (α:=CR UU) (l:=[]) g).symm) (zB) (zB) (zB) (zB) fdok79 (by show 1<=21; decide) (zP rfl) (fun nf x=>by show run79 fu nf x.1=_; rw [eq79]; rfl)
theorem con80 (fu:Nat) :ConOk CC Tryd.prog 80 ⟨as80,rs80,fun x=>sh80 fu (fun _=>false) x.1⟩:=
 zS (c:=⟨as80,rs80,fun x=>sh80 fu (fun _=>false) x.1⟩) (syn:=syn) (fu:=fu) (d:=2) (inl:=zA []) (orc:=zA []) (orr:=zA []) (orp:=zA []) (pf:=hasN []) (rf:=hasN []) zV CCok mixed (fun g=>(zG (α:=Con UU) (l:=[]) g).symm) (fun g=>(zG (α:=CR UU) (l:=[]) g).symm) (zB) (zB) (zB) (zB) fdok80 (by show 1<=9; decide) (zP rfl) (fun nf x=>by show run80 fu nf x.1=_; rw [eq80]; rfl)
theorem con65 (fu:Nat) :ConOk CC Tryd.prog 65 ⟨as65,rs65,fun x=>sh65 fu (fun _=>false) x.1 x.2.1 x.2.2.1⟩:=
 zS (c:=⟨as65,rs65,fun x=>sh65 fu (fun _=>false) x.1 x.2.1 x.2.2.1⟩) (syn:=syn) (fu:=fu) (d:=2) (inl:=zA []) (orc:=zA []) (orr:=zA []) (orp:=zA []) (pf:=hasN []) (rf:=hasN []) zV CCok mixed (fun g=>(zG (α:=Con UU) (l:=[]) g).symm) (fun g=>(zG (α:=CR UU) (l:=[]) g).symm) (zB) (zB) (zB) (zB) fdok65 (by show 3<=25; decide) (zP rfl) (fun nf x=>by show run65 fu nf x.1 x.2.1 x.2.2.1=_; rw [eq65]; rfl)
theorem con66 (fu:Nat) (c79:zI as79->Option (zI rs79)) (h79:ConOk CC Tryd.prog 79 ⟨as79,rs79,c79⟩) (c80:zI as80->Option (zI rs80)) (h80:ConOk CC Tryd.prog 80 ⟨as80,rs80,c80⟩):ConOk CC Tryd.prog 66 ⟨as66,rs66,fun x=>sh66 fu c79 c80 (fun _=>false) x.1 x.2.1⟩:=
 zS (c:=⟨as66,rs66,fun x=>sh66 fu c79 c80 (fun _=>false) x.1 x.2.1⟩) (syn:=syn) (fu:=fu) (d:=2) (inl:=zA []) (orc:=zA [(79,(⟨as79,rs79,c79⟩:Con UU)),(80,(⟨as80,rs80,c80⟩:Con UU))]) (orr:=zA []) (orp:=zA []) (pf:=hasN [79,80]) (rf:=hasN []) zV CCok mixed (fun g=>(zG (α:=Con UU) (l:=[(79,(⟨as79,rs79,c79⟩:Con UU)),(80,(⟨as80,rs80,c80⟩:Con UU))]) g).symm) (fun g=>(zG (α:=CR UU) (l:=[]) g).symm) (zB) (zH (OrcOk.of ⟨zM4,h79⟩ rfl) (zH (OrcOk.of ⟨zNB,h80⟩ rfl) (zB))) (zB) (zB) fdok66 (by show 2<=35; decide) (zP rfl) (fun nf x=>by show run66 fu c79 c80 nf x.1 x.2.1=_; rw [eq66]; rfl)
theorem con67 (fu:Nat) (c79:zI as79->Option (zI rs79)) (h79:ConOk CC Tryd.prog 79 ⟨as79,rs79,c79⟩) (c80:zI as80->Option (zI rs80)) (h80:ConOk CC Tryd.prog 80 ⟨as80,rs80,c80⟩):ConOk CC Tryd.prog 67 ⟨as67,rs67,fun x=>sh67 fu c79 c80 (fun _=>false) x.1 x.2.1⟩:=
 zS (c:=⟨as67,rs67,fun x=>sh67 fu c79 c80 (fun _=>false) x.1 x.2.1⟩) (syn:=syn) (fu:=fu) (d:=2) (inl:=zA []) (orc:=zA [(79,(⟨as79,rs79,c79⟩:Con UU)),(80,(⟨as80,rs80,c80⟩:Con UU))]) (orr:=zA []) (orp:=zA []) (pf:=hasN [79,80]) (rf:=hasN []) zV CCok mixed (fun g=>(zG (α:=Con UU) (l:=[(79,(⟨as79,rs79,c79⟩:Con UU)),(80,(⟨as80,rs80,c80⟩:Con UU))]) g).symm) (fun g=>(zG (α:=CR UU) (l:=[]) g).symm) (zB) (zH (OrcOk.of ⟨zM4,h79⟩ rfl) (zH (OrcOk.of ⟨zNB,h80⟩ rfl) (zB))) (zB) (zB) fdok67 (by show 2<=106; decide) (zP rfl) (fun nf x=>by show run67 fu c79 c80 nf x.1 x.2.1=_; rw [eq67]; rfl)
theorem con68 (fu:Nat) :ConOk CC Tryd.prog 68 ⟨as68,rs68,fun x=>sh68 fu (fun _=>false) x.1 x.2.1 x.2.2.1⟩:=
 zS (c:=⟨as68,rs68,fun x=>sh68 fu (fun _=>false) x.1 x.2.1 x.2.2.1⟩) (syn:=syn) (fu:=fu) (d:=2) (inl:=zA []) (orc:=zA []) (orr:=zA []) (orp:=zA []) (pf:=hasN []) (rf:=hasN []) zV CCok mixed (fun g=>(zG (α:=Con UU) (l:=[]) g).symm) (fun g=>(zG (α:=CR UU) (l:=[]) g).symm) (zB) (zB) (zB) (zB) fdok68 (by show 3<=66; decide) (zP rfl) (fun nf x=>by show run68 fu nf x.1 x.2.1 x.2.2.1=_; rw [eq68]; rfl)
theorem con69 (fu:Nat) (c65:zI as65->Option (zI rs65)) (h65:ConOk CC Tryd.prog 65 ⟨as65,rs65,c65⟩):ConOk CC Tryd.prog 69 ⟨as69,rs69,fun x=>sh69 fu c65 (fun _=>false) x.1 x.2.1⟩:=
 zS (c:=⟨as69,rs69,fun x=>sh69 fu c65 (fun _=>false) x.1 x.2.1⟩) (syn:=syn) (fu:=fu) (d:=2) (inl:=zA []) (orc:=zA [(65,(⟨as65,rs65,c65⟩:Con UU))]) (orr:=zA []) (orp:=zA []) (pf:=hasN [65]) (rf:=hasN []) zV CCok mixed (fun g=>(zG (α:=Con UU) (l:=[(65,(⟨as65,rs65,c65⟩:Con UU))]) g).symm) (fun g=>(zG (α:=CR UU) (l:=[]) g).symm) (zB) (zH (OrcOk.of ⟨zNv,h65⟩ rfl) (zB)) (zB) (zB) fdok69 (by show 2<=56; decide) (zP rfl) (fun nf x=>by show run69 fu c65 nf x.1 x.2.1=_; rw [eq69]; rfl)
theorem con36 (fu:Nat) (c65:zI as65->Option (zI rs65)) (h65:ConOk CC Tryd.prog 65 ⟨as65,rs65,c65⟩):ConOk CC Tryd.prog 36 ⟨as36,rs36,fun x=>sh36 fu c65 (fun _=>false) x.1 x.2.1⟩:=
 zS (c:=⟨as36,rs36,fun x=>sh36 fu c65 (fun _=>false) x.1 x.2.1⟩) (syn:=syn) (fu:=fu) (d:=2) (inl:=zA []) (orc:=zA [(65,(⟨as65,rs65,c65⟩:Con UU))]) (orr:=zA []) (orp:=zA []) (pf:=hasN [65]) (rf:=hasN []) zV CCok mixed (fun g=>(zG (α:=Con UU) (l:=[(65,(⟨as65,rs65,c65⟩:Con UU))]) g).symm) (fun g=>(zG (α:=CR UU) (l:=[]) g).symm) (zB) (zH (OrcOk.of ⟨zNv,h65⟩ rfl) (zB)) (zB) (zB) fdok36 (by show 2<=69; decide) (zP rfl) (fun nf x=>by show run36 fu c65 nf x.1 x.2.1=_; rw [eq36]; rfl)
theorem con37 (fu:Nat) (c66:zI as66->Option (zI rs66)) (h66:ConOk CC Tryd.prog 66 ⟨as66,rs66,c66⟩) (c67:zI as67->Option (zI rs67)) (h67:ConOk CC Tryd.prog 67 ⟨as67,rs67,c67⟩) (c68:zI as68->Option (zI rs68)) (h68:ConOk CC Tryd.prog 68 ⟨as68,rs68,c68⟩) (c69:zI as69->Option (zI rs69)) (h69:ConOk CC Tryd.prog 69 ⟨as69,rs69,c69⟩):ConOk CC Tryd.prog 37 ⟨as37,rs37,fun x=>sh37 fu c66 c67 c68 c69 (fun _=>false) x.1 x.2.1⟩:=
 zS (c:=⟨as37,rs37,fun x=>sh37 fu c66 c67 c68 c69 (fun _=>false) x.1 x.2.1⟩) (syn:=syn) (fu:=fu) (d:=2) (inl:=zA []) (orc:=zA [(66,(⟨as66,rs66,c66⟩:Con UU)),(67,(⟨as67,rs67,c67⟩:Con UU)),(68,(⟨as68,rs68,c68⟩:Con UU)),(69,(⟨as69,rs69,c69⟩:Con UU))]) (orr:=zA []) (orp:=zA []) (pf:=hasN [66,67,68,69]) (rf:=hasN []) zV CCok mixed (fun g=>(zG (α:=Con UU) (l:=[(66,(⟨as66,rs66,c66⟩:Con UU)),(67,(⟨as67,rs67,c67⟩:Con UU)),(68,(⟨as68,rs68,c68⟩:Con UU)),(69,(⟨as69,rs69,c69⟩:Con UU))]) g).symm) (fun g=>(zG (α:=CR UU) (l:=[]) g).symm) (zB) (zH (OrcOk.of ⟨code66,h66⟩ rfl) (zH (OrcOk.of ⟨code67,h67⟩ rfl) (zH (OrcOk.of ⟨code68,h68⟩ rfl) (zH (OrcOk.of ⟨code69,h69⟩ rfl) (zB))))) (zB) (zB) fdok37 (by show 2<=41; decide) (zP rfl) (fun nf x=>by show run37 fu c66 c67 c68 c69 nf x.1 x.2.1=_; rw [eq37]; rfl)
theorem con34 (fu:Nat) :ConOk CC Tryd.prog 34 ⟨as34,rs34,fun x=>sh34 fu (fun _=>false) x.1⟩:=
 zS (c:=⟨as34,rs34,fun x=>sh34 fu (fun _=>false) x.1⟩) (syn:=syn) (fu:=fu) (d:=2) (inl:=zA []) (orc:=zA []) (orr:=zA []) (orp:=zA []) (pf:=hasN []) (rf:=hasN []) zV CCok mixed (fun g=>(zG (α:=Con UU) (l:=[]) g).symm) (fun g=>(zG (α:=CR UU) (l:=[]) g).symm) (zB) (zB) (zB) (zB) fdok34 (by show 1<=40; decide) (zP rfl) (fun nf x=>by show run34 fu nf x.1=_; rw [eq34]; rfl)
theorem con35 (fu:Nat) :ConOk CC Tryd.prog 35 ⟨as35,rs35,fun x=>sh35 fu (fun _=>false) x.1⟩:=
 zS (c:=⟨as35,rs35,fun x=>sh35 fu (fun _=>false) x.1⟩) (syn:=syn) (fu:=fu) (d:=2) (inl:=zA []) (orc:=zA []) (orr:=zA []) (orp:=zA []) (pf:=hasN []) (rf:=hasN []) zV CCok mixed (fun g=>(zG (α:=Con UU) (l:=[]) g).symm) (fun g=>(zG (α:=CR UU) (l:=[]) g).symm) (zB) (zB) (zB) (zB) fdok35 (by show 1<=21; decide) (zP rfl) (fun nf x=>by show run35 fu nf x.1=_; rw [eq35]; rfl)
theorem con12 (fu:Nat) (c34:zI as34->Option (zI rs34)) (h34:ConOk CC Tryd.prog 34 ⟨as34,rs34,c34⟩) (c35:zI as35->Option (zI rs35)) (h35:ConOk CC Tryd.prog 35 ⟨as35,rs35,c35⟩) (c36:zI as36->Option (zI rs36)) (h36:ConOk CC Tryd.prog 36 ⟨as36,rs36,c36⟩) (c37:zI as37->Option (zI rs37)) (h37:ConOk CC Tryd.prog 37 ⟨as37,rs37,c37⟩):ConOk CC Tryd.prog 12 ⟨as12,rs12,fun x=>sh12 fu c34 c35 c36 c37 (fun _=>false) x.1 x.2.1⟩:=
 zS (c:=⟨as12,rs12,fun x=>sh12 fu c34 c35 c36 c37 (fun _=>false) x.1 x.2.1⟩) (syn:=syn) (fu:=fu) (d:=2) (inl:=zA []) (orc:=zA [(34,(⟨as34,rs34,c34⟩:Con UU)),(35,(⟨as35,rs35,c35⟩:Con UU)),(36,(⟨as36,rs36,c36⟩:Con UU)),(37,(⟨as37,rs37,c37⟩:Con UU))]) (orr:=zA []) (orp:=zA []) (pf:=hasN [34,35,36,37]) (rf:=hasN []) zV CCok mixed (fun g=>(zG (α:=Con UU) (l:=[(34,(⟨as34,rs34,c34⟩:Con UU)),(35,(⟨as35,rs35,c35⟩:Con UU)),(36,(⟨as36,rs36,c36⟩:Con UU)),(37,(⟨as37,rs37,c37⟩:Con UU))]) g).symm) (fun g=>(zG (α:=CR UU) (l:=[]) g).symm) (zB) (zH (OrcOk.of ⟨code34,h34⟩ rfl) (zH (OrcOk.of ⟨code35,h35⟩ rfl) (zH (OrcOk.of ⟨code36,h36⟩ rfl) (zH (OrcOk.of ⟨code37,h37⟩ rfl) (zB))))) (zB) (zB) fdok12 (by show 2<=65; decide) (zP rfl) (fun nf x=>by show run12 fu c34 c35 c36 c37 nf x.1 x.2.1=_; rw [eq12]; rfl)
end
section
open Go.Al Go.Den
section
variable {ρ:Type} {r t f:Option ρ} {P:Prop} [Decidable P]
theorem Q_dec (h1:P->t=r) (h2:¬ P->f=r):cond (decide P) t f=r:=by
 by_cases h:P
 · rw [decide_eq_true h]; exact h1 h
 · rw [decide_eq_false h]; exact h2 h
theorem zBo (h1:¬ P->t=r) (h2:P->f=r):cond (!(decide P)) t f=r:=by
 by_cases h:P
 · rw [decide_eq_true h]; exact h2 h
 · rw [decide_eq_false h]; exact h1 h
end
def d79 (n:Int):Option (Bool×Unit):=sh79 0 (fun _=>false) n
def c79 (x:Int×Unit):Option (Bool×Unit):=d79 x.1
theorem ok79:ConOk CC Tryd.prog 79 ⟨as79,rs79,c79⟩:=con79 0
def c80 (x:Int×Unit):Option (Bool×Unit):=sh80 0 (fun _=>false) x.1
theorem ok80:ConOk CC Tryd.prog 80 ⟨as80,rs80,c80⟩:=con80 0
theorem zD3 (z:Int):c79 (z,())=some (decide (z=95\/(97<=z/\z<=122)\/(65<=z/\z<=90)),()):=by
 show sh79 0 (fun _=>false) z=_
 unfold sh79
 have fin:∀ b:Bool,(b=true↔(z=95\/(97<=z/\z<=122)\/(65<=z/\z<=90)))->(some (b,()):Option (Bool×Unit))=some (decide (z=95\/(97<=z/\z<=122)\/(65<=z/\z<=90)),()):=fun b h=>by
  have:b=decide (z=95\/(97<=z/\z<=122)\/(65<=z/\z<=90)):=by rw [Bool.eq_iff_iff,decide_eq_true_iff]; exact h
  rw [this]
 with_reducible refine zc (fun h=>?_) fun h=>?_
 · exact fin true (by simp; omega)
 with_reducible refine xE (fun h1=>?_) fun h1=>?_
 · with_reducible refine xE (fun h2=>?_) fun h2=>?_
   · exact fin true (by simp; omega)
   with_reducible refine xE (fun h3=>?_) fun h3=>?_
   · exact fin _ (by unfold ile; rw [decide_eq_true_iff]; omega)
   · exact fin false (by simp; omega)
 · with_reducible refine xE (fun h3=>?_) fun h3=>?_
   · exact fin _ (by unfold ile; rw [decide_eq_true_iff]; omega)
   · exact fin false (by simp; omega)
theorem zAP (z:Int):c80 (z,())=some (decide (48<=z/\z<=57),()):=by
 show sh80 0 (fun _=>false) z=_
 unfold sh80
 with_reducible refine xE (fun h=>?_) fun h=>?_
 · have:ile z 57=decide (48<=z/\z<=57):=by unfold ile; rw [Bool.eq_iff_iff,decide_eq_true_iff,decide_eq_true_iff]; omega
   rw [this]
 · rw [decide_eq_false (by omega)]
theorem yO (s:Str) (j:Nat) (h:j < s.length):zD s (j:Int)=hd (s.drop j):=by
 rw [<- zIV]
 exact (if_pos (show (j:Int) < (s.length:Int) by omega)).symm
noncomputable def c65 (x:Str×Int×Str×Unit):Option (Bool×Unit):=sh65 0 (fun _=>false) x.1 x.2.1 x.2.2.1
theorem ok65:ConOk CC Tryd.prog 65 ⟨as65,rs65,c65⟩:=con65 0
noncomputable def c66 (fu:Nat) (x:Str×Int×Unit):Option (Int×Unit):=sh66 fu c79 c80 (fun _=>false) x.1 x.2.1
theorem ok66 (fu:Nat):ConOk CC Tryd.prog 66 ⟨as66,rs66,c66 fu⟩:=con66 fu c79 ok79 c80 ok80
noncomputable def c67 (fu:Nat) (x:Str×Int×Unit):Option (Int×Unit):=sh67 fu c79 c80 (fun _=>false) x.1 x.2.1
theorem ok67 (fu:Nat):ConOk CC Tryd.prog 67 ⟨as67,rs67,c67 fu⟩:=con67 fu c79 ok79 c80 ok80
noncomputable def c68 (fu:Nat) (x:Str×Int×Int×Unit):Option (Int×Unit):=sh68 fu (fun _=>false) x.1 x.2.1 x.2.2.1
theorem ok68 (fu:Nat):ConOk CC Tryd.prog 68 ⟨as68,rs68,c68 fu⟩:=con68 fu
noncomputable def c69 (fu:Nat) (x:Str×Int×Unit):Option (Int×Unit):=sh69 fu c65 (fun _=>false) x.1 x.2.1
theorem ok69 (fu:Nat):ConOk CC Tryd.prog 69 ⟨as69,rs69,c69 fu⟩:=con69 fu c65 ok65
noncomputable def c36 (fu:Nat) (x:Str×Int×Unit):Option (Int×Unit):=sh36 fu c65 (fun _=>false) x.1 x.2.1
theorem ok36 (fu:Nat):ConOk CC Tryd.prog 36 ⟨as36,rs36,c36 fu⟩:=con36 fu c65 ok65
noncomputable def c37 (fu:Nat) (x:Str×Int×Unit):Option (Int×Int×Unit):=sh37 fu (c66 fu) (c67 fu) (c68 fu) (c69 fu) (fun _=>false) x.1 x.2.1
theorem ok37 (fu:Nat):ConOk CC Tryd.prog 37 ⟨as37,rs37,c37 fu⟩:=con37 fu (c66 fu) (ok66 fu) (c67 fu) (ok67 fu) (c68 fu) (ok68 fu) (c69 fu) (ok69 fu)
noncomputable def c34 (fu:Nat) (x:Str×Unit):Option (List CharT×Unit):=sh34 fu (fun _=>false) x.1
theorem ok34 (fu:Nat):ConOk CC Tryd.prog 34 ⟨as34,rs34,c34 fu⟩:=con34 fu
noncomputable def c35 (fu:Nat) (x:List CharT×Unit):Option (Str×Unit):=sh35 fu (fun _=>false) x.1
theorem ok35 (fu:Nat):ConOk CC Tryd.prog 35 ⟨as35,rs35,c35 fu⟩:=con35 fu
noncomputable def c12 (fu:Nat) (x:Int×Str×Unit):Option (List TokT×Unit):=sh12 fu (c34 fu) (c35 fu) (c36 fu) (c37 fu) (fun _=>false) x.1 x.2.1
theorem ok12 (fu:Nat):ConOk CC Tryd.prog 12 ⟨as12,rs12,c12 fu⟩:=con12 fu (c34 fu) (ok34 fu) (c35 fu) (ok35 fu) (c36 fu) (ok36 fu) (c37 fu) (ok37 fu)
section
variable {s:Str} {p k:Nat} {fu:Nat} (hs:s.length<=1090000) (hfu:s.length+100 < fu) (hp:p<=s.length)
include hs hfu hp
theorem r65 (t:Str) (ht:t.length<=1000):c65 (s,(p:Int),t,())=some (t.isPrefixOf (s.drop p),()):=by
 show sh65 0 (fun _=>false) s (p:Int) t=_
 unfold sh65
 have e1:iadd .i64 (p:Int) (lenI t)=((p+t.length:Nat):Int):=by rw [show lenI t=(t.length:Int) from rfl,zl _ _ (by omega) (by omega)]; omega
 rw [e1,show lenI s=(s.length:Int) from rfl]
 with_reducible refine xE (fun h=>?_) fun h=>?_
 · refine zF (ym (by omega) (by omega) h) ?_
   have e2:cutL s (p:Int) ((p+t.length:Nat):Int)=(s.drop p).take t.length:=by
    unfold cutL
    rw [Int.toNat_natCast,Int.toNat_natCast,List.drop_take,Nat.add_sub_cancel_left]
   have e3:seq ((s.drop p).take t.length) t=t.isPrefixOf (s.drop p):=by
    rw [xt,Bool.eq_iff_iff,decide_eq_true_iff,List.isPrefixOf_iff_prefix,List.prefix_iff_eq_take]
    exact eq_comm
   rw [e2,e3]
 · have e:t.isPrefixOf (s.drop p)=false:=by
    cases hh:t.isPrefixOf (s.drop p)
    · rfl
    · have:=(List.isPrefixOf_iff_prefix.1 hh).length_le
      rw [List.length_drop] at this
      omega
   rw [e]
theorem r66:c66 fu (s,(p:Int),())=some (((yw (s.drop p):Nat):Int),()):=by
 show sh66 fu c79 c80 (fun _=>false) s (p:Int)=(some (((yw (s.drop p):Nat):Int),()):Option (Int×Unit))
 unfold sh66
 refine zn (fun st=>∃ k:Nat,st=((((k:Int),()),()):(Int×PUnit)×PUnit)/\p+k<=s.length/\yw (s.drop p)=k+(if k=0 then yw (s.drop (p+k)) else qH (s.drop (p+k)))) (fun st=>s.length - st.1.1.toNat) ?_ fu _ ⟨0,rfl,by omega,by simp⟩ (by show s.length - (0:Int).toNat < fu; omega)
 rintro rec st ⟨k,rfl,hk,hw⟩ hrec
 dsimp only
 have hstep:(if k=0 then yw (s.drop (p+k)) else qH (s.drop (p+k)))=if letP (hd (s.drop (p+k)))\/(0 < k/\digP (hd (s.drop (p+k)))) then qH (s.drop (p+k+1))+1 else 0:=by
  by_cases h0:k=0
  · subst h0
    rw [if_pos rfl,zIR,List.drop_drop]
    by_cases h1:letP (hd (s.drop (p+0)))
    · rw [if_pos h1,if_pos (.inl h1)]
    · rw [if_neg h1,if_neg (by rintro (h | ⟨h,_⟩); exact h1 h; omega)]
  · rw [if_neg h0,zJz,List.drop_drop]
    by_cases h1:letP (hd (s.drop (p+k)))\/digP (hd (s.drop (p+k)))
    · rw [if_pos h1,if_pos (by rcases h1 with h | h; exact .inl h; exact .inr ⟨by omega,h⟩)]
    · rw [if_neg h1,if_neg (by rintro (h | ⟨_,h⟩); exact h1 (.inl h); exact h1 (.inr h))]
 rw [hstep] at hw
 have e1:iadd .i64 (p:Int) (k:Int)=((p+k:Nat):Int):=by rw [zl _ _ (by omega) (by omega)]; omega
 rw [e1,i1 (k:=k) (by omega),show lenI s=(s.length:Int) from rfl]
 with_reducible refine zh (fun h=>?_) fun h=>?_
 rotate_left
 · rw [List.drop_eq_nil_of_le (show s.length<=p+k by omega),if_neg (by show ¬ (letP (0:Int)\/(0 < k/\digP (0:Int))); unfold letP digP; omega)] at hw
   rw [hw]; rfl
 have hlt:p+k < s.length:=by omega
 refine zF (zY (by omega) (by omega)) ?_
 rw [yO s (p+k) hlt]
 generalize hd (s.drop (p+k))=z at hw ⊢
 have go:(letP z\/(0 < k/\digP z))->rec (((((k+1:Nat):Int)),()),())=some (((yw (s.drop p):Nat):Int),()):=fun h=>by
  rw [if_pos h] at hw
  exact hrec _ ⟨k+1,rfl,by omega,by rw [if_neg (by omega),hw,Nat.add_assoc p k 1]; omega⟩ (by dsimp only; omega)
 have stop:¬ (letP z\/(0 < k/\digP z))->(some ((k:Int),()):Option (Int×Unit))=some (((yw (s.drop p):Nat):Int),()):=fun h=>by
  rw [if_neg h] at hw
  rw [hw]; rfl
 unfold letP digP at go stop
 refine zK (zD3 z) ?_
 dsimp only
 with_reducible refine Q_dec (fun h1=>?_) fun h1=>?_
 · exact go (.inl h1)
 with_reducible refine zh (fun h2=>?_) fun h2=>?_
 · refine zF (zY (by omega) (by omega)) ?_
   refine zK (zAP z) ?_
   dsimp only
   with_reducible refine Q_dec (fun h3=>?_) fun h3=>?_
   · exact go (.inr ⟨by omega,h3⟩)
   · exact stop (by omega)
 · exact stop (by omega)
theorem r68 (q:Int) (hq:q≠10) (hp1:p < s.length):c68 fu (s,(p:Int),q,())=some (((quoL q (s.drop p):Nat):Int),()):=by
 show sh68 fu (fun _=>false) s (p:Int) q=(some (((quoL q (s.drop p):Nat):Int),()):Option (Int×Unit))
 unfold sh68
 have hn:quoL q (s.drop p)=if hd (s.drop p)=q then quoT q 1 (s.drop (p+1)) else 0:=by
  unfold quoL
  rw [List.drop_drop]
 refine zF (zY (by omega) (by omega)) ?_
 rw [yO s p hp1]
 generalize hd (s.drop p)=z at hn
 with_reducible refine xD (fun h1=>?_) fun h1=>?_
 · rw [hn,if_neg h1]; rfl
 rw [hn,if_pos h1]
 refine zn (fun st=>∃ k:Nat,st=((((k:Int),()),()):(Int×PUnit)×PUnit)/\1<=k/\p+k<=s.length+1/\quoT q 1 (s.drop (p+1))=quoT q k (s.drop (p+k))) (fun st=>s.length+2 - st.1.1.toNat) ?_ fu _ ⟨1,rfl,by omega,by omega,rfl⟩ (by show s.length+2 - (1:Int).toNat < fu; omega)
 rintro rec st ⟨k,rfl,hk1,hk,hw⟩ hrec
 dsimp only
 have e1:iadd .i64 (p:Int) (k:Int)=((p+k:Nat):Int):=by rw [zl _ _ (by omega) (by omega)]; omega
 have e2:iadd .i64 (p:Int) ((k+1:Nat):Int)=((p+k+1:Nat):Int):=by rw [zl _ _ (by omega) (by omega)]; omega
 rw [i1 (k:=k) (by omega),i1 (k:=k+1) (by omega),e1,e2,show lenI s=(s.length:Int) from rfl]
 with_reducible refine zh (fun h2=>?_) fun h2=>?_
 rotate_left
 · rw [hw,List.drop_eq_nil_of_le (by omega)]; rfl
 have hlt:p+k < s.length:=by omega
 have hne:s.drop (p+k)≠[]:=fun e=>by
  have:=congrArg List.length e
  rw [List.length_drop,List.length_nil] at this
  omega
 rw [zKy q k _ hne,List.drop_drop,List.drop_drop] at hw
 rw [yO s (p+k) hlt]
 have hw1:p+k+1 < s.length->zD s ((p+k+1:Nat):Int)=hd (s.drop (p+k+1)):=yO s _
 have hend:s.length<=p+k+1->hd (s.drop (p+k+1))=0/\∀ n,quoT q n (s.drop (p+k+2))=0:=fun h=>by
  rw [List.drop_eq_nil_of_le h,List.drop_eq_nil_of_le (show s.length<=p+k+2 by omega)]
  exact ⟨rfl,fun n=>rfl⟩
 generalize hd (s.drop (p+k))=y at hw ⊢
 generalize hd (s.drop (p+k+1))=w at hw hw1 hend
 have hin:inB ((p+k:Nat):Int) s.length=true:=zY (by omega) (by omega)
 refine zF hin ?_
 with_reducible refine xD (fun a0=>?_) fun a0=>?_
 · refine zF hin ?_
   with_reducible refine zc (fun a1=>?_) fun a1=>?_
   · rw [if_pos a1] at hw
     with_reducible refine zc (fun a2=>?_) fun a2=>?_
     · with_reducible refine zc (fun a3=>?_) fun a3=>?_
       · rw [if_pos ⟨a3,by omega⟩] at hw; rw [hw]; rfl
       · rw [if_neg fun h=>a3 h.1] at hw; rw [hw]
     · rw [if_neg fun h=>a2 (by omega)] at hw; rw [hw]
   rw [if_neg a1,if_neg a0] at hw
   refine zF hin ?_
   with_reducible refine zc (fun a3=>?_) fun a3=>?_
   · rw [if_pos a3] at hw
     with_reducible refine xE (fun a4=>?_) fun a4=>?_
     · obtain ⟨b1,b2⟩:=hend (by omega)
       rw [if_neg (by omega),b2] at hw
       rw [hw]; rfl
     · refine zF (zY (by omega) (by omega)) ?_
       rw [hw1 (by omega)]
       with_reducible refine zc (fun a5=>?_) fun a5=>?_
       · rw [if_pos a5] at hw; rw [hw]; rfl
       · rw [if_neg a5] at hw
         exact hrec _ ⟨k+1+1,rfl,by omega,by omega,by rw [hw,<- Nat.add_assoc p (k+1) 1,<- Nat.add_assoc p k 1]⟩ (by dsimp only; omega)
   · rw [if_neg a3] at hw
     exact hrec _ ⟨k+1,rfl,by omega,by omega,by rw [hw,<- Nat.add_assoc p k 1]⟩ (by dsimp only; omega)
 · rw [if_neg (by omega),if_pos a0] at hw
   rw [hw]; rfl
theorem zMW (hp1:p+1<=s.length) {r:Option (Int×Unit)} (hr:r=some (((numT (s.drop (p+1))+1:Nat):Int),())) {F:((Int×PUnit)×PUnit->Option (Int×Unit))->(Int×PUnit)×PUnit->Option (Int×Unit)}
 (hF:∀ (k:Nat) (z w:Int) rec,p+k<=s.length->(p+k < s.length->zD s ((p+k:Nat):Int)=z)->(p+k+1 < s.length->zD s ((p+k+1:Nat):Int)=w)->(s.length<=p+k->z=0)->(s.length<=p+k+1->w=0)->1<=k->k<=1100000 ->
  ((expP z/\(w=43\/w=45))->rec (((((k+2:Nat):Int)),()),())=r)->((¬ (expP z/\(w=43\/w=45))/\aldP z)->rec (((((k+1:Nat):Int)),()),())=r) ->
  ((¬ (expP z/\(w=43\/w=45))/\¬ aldP z)->(some ((k:Int),()):Option (Int×Unit))=r)->F rec (((k:Int),()),())=r) :
 iter fu F ((1,()),())=r:=by
 obtain ⟨y,hy⟩:∃ y,r=some y:=⟨_,hr⟩
 rw [hy] at hF ⊢
 refine zn (fun st=>∃ k:Nat,st=((((k:Int),()),()):(Int×PUnit)×PUnit)/\1<=k/\p+k<=s.length/\numT (s.drop (p+1))+1=k+numT (s.drop (p+k))) (fun st=>s.length - st.1.1.toNat) ?_ fu _ ⟨1,rfl,by omega,by omega,by omega⟩ (by show s.length - (1:Int).toNat < fu; omega)
 rintro rec st ⟨k,rfl,hk1,hk,hw⟩ hrec
 rw [hy] at hr
 rw [zKz (s.drop (p+k)),List.drop_drop,List.drop_drop] at hw
 have b0:=yO s (p+k)
 have b1:=yO s (p+k+1)
 have hpos:s.length<=p+k->hd (s.drop (p+k))=0:=fun h=>by rw [List.drop_eq_nil_of_le h]; rfl
 have hpos1:s.length<=p+k+1->hd (s.drop (p+k+1))=0:=fun h=>by rw [List.drop_eq_nil_of_le h]; rfl
 generalize hd (s.drop (p+k))=z at hw hpos b0
 generalize hd (s.drop (p+k+1))=w at hw hpos1 b1
 refine hF k z w rec hk b0 b1 hpos hpos1 hk1 (by omega) (fun h=>?_) (fun h=>?_) (fun h=>?_)
 · rw [if_pos h] at hw
   have h3:p+k+1 < s.length:=by
    rcases Nat.lt_or_ge (p+k+1) s.length with h1 | h1
    · exact h1
    · have:=hpos1 h1; omega
   exact hrec _ ⟨k+2,rfl,by omega,by omega,by rw [<- Nat.add_assoc p k 2]; omega⟩ (by dsimp only; omega)
 · rw [if_neg h.1,if_pos h.2] at hw
   have h3:p+k < s.length:=by
    rcases Nat.lt_or_ge (p+k) s.length with h1 | h1
    · exact h1
    · have h4:=hpos h1
      have h5:=h.2
      rw [h4] at h5
      unfold aldP letP digP at h5
      omega
   exact hrec _ ⟨k+1,rfl,by omega,by omega,by rw [<- Nat.add_assoc p k 1]; omega⟩ (by dsimp only; omega)
 · rw [if_neg h.1,if_neg h.2] at hw
   rw [hr,hw]; rfl
theorem r67 (hp1:p < s.length):c67 fu (s,(p:Int),())=some (((numL (s.drop p):Nat):Int),()):=by
 show sh67 fu c79 c80 (fun _=>false) s (p:Int)=(some (((numL (s.drop p):Nat):Int),()):Option (Int×Unit))
 unfold sh67
 have hn:numL (s.drop p)=if digP (hd (s.drop p))\/(hd (s.drop p)=46/\digP (hd (s.drop (p+1)))) then numT (s.drop (p+1))+1 else 0:=by
  unfold numL
  rw [List.drop_drop]
 have b0:=yO s p hp1
 have b1:=yO s (p+1)
 have hend:s.length<=p+1->hd (s.drop (p+1))=0:=fun h=>by rw [List.drop_eq_nil_of_le h]; rfl
 generalize hd (s.drop p)=z at b0 hn
 generalize hd (s.drop (p+1))=w at b1 hn hend
 have no:¬ (digP z\/(z=46/\digP w))->(some ((0:Int),()):Option (Int×Unit))=some (((numL (s.drop p):Nat):Int),()):=fun h=>by
  rw [hn,if_neg h]; rfl
 have go:∀ {F:((Int×PUnit)×PUnit->Option (Int×Unit))->(Int×PUnit)×PUnit->Option (Int×Unit)},(digP z\/(z=46/\digP w)) ->
  (∀ (k:Nat) (z w:Int) rec (r:Option (Int×Unit)),p+k<=s.length->(p+k < s.length->zD s ((p+k:Nat):Int)=z)->(p+k+1 < s.length->zD s ((p+k+1:Nat):Int)=w)->(s.length<=p+k->z=0)->(s.length<=p+k+1->w=0)->1<=k->k<=1100000 ->
   ((expP z/\(w=43\/w=45))->rec (((((k+2:Nat):Int)),()),())=r)->((¬ (expP z/\(w=43\/w=45))/\aldP z)->rec (((((k+1:Nat):Int)),()),())=r) ->
   ((¬ (expP z/\(w=43\/w=45))/\¬ aldP z)->(some ((k:Int),()):Option (Int×Unit))=r)->F rec (((k:Int),()),())=r) ->
  iter fu F ((1,()),())=some (((numL (s.drop p):Nat):Int),()):=fun h hF=>by
  rw [hn,if_pos h]
  exact zMW hs hfu hp (by omega) rfl fun k z w rec a1 a2 a3 a4 a5 a6 a7 a8 a9 a10=>hF k z w rec _ a1 a2 a3 a4 a5 a6 a7 a8 a9 a10
 unfold digP at no go
 have hin:inB (p:Int) s.length=true:=zY (by omega) (by omega)
 have e1:iadd .i64 (p:Int) 1=((p+1:Nat):Int):=i1 (by omega)
 rw [e1,b0,show lenI s=(s.length:Int) from rfl]
 refine zF hin ?_
 refine zK (zAP z) ?_
 dsimp only
 have fin:∀ (k:Nat) (z w:Int) (rec:(Int×PUnit)×PUnit->Option (Int×Unit)) (r:Option (Int×Unit)),p+k<=s.length->(p+k < s.length->zD s ((p+k:Nat):Int)=z)->(p+k+1 < s.length->zD s ((p+k+1:Nat):Int)=w)->(s.length<=p+k->z=0)->(s.length<=p+k+1->w=0)->1<=k->k<=1100000 ->
  iadd .i64 (p:Int) (k:Int)=((p+k:Nat):Int)/\iadd .i64 ((p+k:Nat):Int) 1=((p+k+1:Nat):Int)/\iadd .i64 (k:Int) 1=((k+1:Nat):Int)/\iadd .i64 (k:Int) 2=((k+2:Nat):Int)/\(p+k < s.length->inB ((p+k:Nat):Int) s.length=true)/\(p+k+1 < s.length->inB ((p+k+1:Nat):Int) s.length=true):=fun k z w rec r a1 a2 a3 a4 a5 a6 a7=>
  ⟨by rw [zl _ _ (by omega) (by omega)]; omega,by rw [zl _ _ (by omega) (by omega)]; omega,i1 (by omega),by rw [zl _ _ (by omega) (by omega)]; omega,fun h=>zY (by omega) (by omega),fun h=>zY (by omega) (by omega)⟩
 with_reducible refine zBo (fun h=>?_) fun h=>?_
 · refine zF hin ?_
   with_reducible refine zc (fun h1=>?_) fun h1=>?_
   · with_reducible refine zh (fun h2=>?_) fun h2=>?_
     · have h3:p+1 < s.length:=by omega
       refine zF (zY (by omega) (by omega)) ?_
       rw [b1 h3]
       refine zK (zAP w) ?_
       dsimp only
       with_reducible refine zBo (fun h4=>?_) fun h4=>?_
       · exact no (by omega)
       · refine go (.inr ⟨h1,h4⟩) ?_
         intro k z w rec r a1 a2 a3 a4 a5 a6 a7 go2 go1 stop
         obtain ⟨x1,x2,x3,x4,x5,x6⟩:=fin k z w rec r a1 a2 a3 a4 a5 a6 a7
         clear fin go no hn b0 b1 hend
         dsimp only
         rw [x1,x2,x3,x4]
         unfold expP aldP letP digP at *
         with_reducible refine zh (fun u=>?_) fun u=>?_
         rotate_left
         · have:=a4 (by omega)
           exact stop (by omega)
         have u1:p+k < s.length:=by omega
         rw [a2 u1]
         refine zF (x5 u1) ?_
         with_reducible refine zh (fun v=>?_) fun v=>?_
         · have v1:p+k+1 < s.length:=by omega
           rw [a3 v1]
           have x7:=x6 v1
           clear a2 a3 a4 a5
           repeat' (first
            | ((with_reducible refine go2 ?_); omega)
            | ((with_reducible refine go1 ?_); omega)
            | ((with_reducible refine stop ?_); omega)
            | (with_reducible refine zF x7 ?_)
            | (with_reducible refine zc (fun _=>?_) fun _=>?_)
            | (with_reducible refine xD (fun _=>?_) fun _=>?_)
            | ((with_reducible refine zK (zD3 z) ?_); dsimp only)
            | ((with_reducible refine zK (zAP z) ?_); dsimp only)
            | (with_reducible refine zBo (fun _=>?_) fun _=>?_))
         · have v0:=a5 (by omega)
           clear a2 a3 a4 a5
           repeat' (first
            | ((with_reducible refine go1 ?_); omega)
            | ((with_reducible refine stop ?_); omega)
            | (with_reducible refine zc (fun _=>?_) fun _=>?_)
            | (with_reducible refine xD (fun _=>?_) fun _=>?_)
            | ((with_reducible refine zK (zD3 z) ?_); dsimp only)
            | ((with_reducible refine zK (zAP z) ?_); dsimp only)
            | (with_reducible refine zBo (fun _=>?_) fun _=>?_))
     · have:=hend (by omega)
       exact no (by omega)
   · exact no (by omega)
 · refine go (.inl h) ?_
   intro k z w rec r a1 a2 a3 a4 a5 a6 a7 go2 go1 stop
   obtain ⟨x1,x2,x3,x4,x5,x6⟩:=fin k z w rec r a1 a2 a3 a4 a5 a6 a7
   clear fin go no hn b0 b1 hend
   dsimp only
   rw [x1,x2,x3,x4]
   unfold expP aldP letP digP at *
   with_reducible refine zh (fun u=>?_) fun u=>?_
   rotate_left
   · have:=a4 (by omega)
     exact stop (by omega)
   have u1:p+k < s.length:=by omega
   rw [a2 u1]
   refine zF (x5 u1) ?_
   with_reducible refine zh (fun v=>?_) fun v=>?_
   · have v1:p+k+1 < s.length:=by omega
     rw [a3 v1]
     have x7:=x6 v1
     clear a2 a3 a4 a5
     repeat' (first
      | ((with_reducible refine go2 ?_); omega)
      | ((with_reducible refine go1 ?_); omega)
      | ((with_reducible refine stop ?_); omega)
      | (with_reducible refine zF x7 ?_)
      | (with_reducible refine zc (fun _=>?_) fun _=>?_)
      | (with_reducible refine xD (fun _=>?_) fun _=>?_)
      | ((with_reducible refine zK (zD3 z) ?_); dsimp only)
      | ((with_reducible refine zK (zAP z) ?_); dsimp only)
      | (with_reducible refine zBo (fun _=>?_) fun _=>?_))
   · have v0:=a5 (by omega)
     clear a2 a3 a4 a5
     repeat' (first
      | ((with_reducible refine go1 ?_); omega)
      | ((with_reducible refine stop ?_); omega)
      | (with_reducible refine zc (fun _=>?_) fun _=>?_)
      | (with_reducible refine xD (fun _=>?_) fun _=>?_)
      | ((with_reducible refine zK (zD3 z) ?_); dsimp only)
      | ((with_reducible refine zK (zAP z) ?_); dsimp only)
      | (with_reducible refine zBo (fun _=>?_) fun _=>?_))
end
end
section
open Go.Al Go.Den
theorem zE7 {ρ:Type} {fu n:Nat} (P:Nat->Bool) {F:((Int×PUnit)×PUnit->Option ρ)->(Int×PUnit)×PUnit->Option ρ} (yes rest:Option ρ) (hn:n < fu)
 (hF:∀ (k:Nat) rec,k<=n->(k < n->(P k=true->F rec (((k:Int),()),())=yes)/\(P k=false->F rec (((k:Int),()),())=rec (((((k+1:Nat):Int)),()),())))/\(¬ k < n->F rec (((k:Int),()),())=rest)) :
 iter fu F ((0,()),())=if (List.range n).any P then yes else rest:=by
 refine zBA (fun o=>o=if (List.range n).any P then yes else rest) (fun st=>∃ k:Nat,st=((((k:Int),()),()):(Int×PUnit)×PUnit)/\k<=n/\(List.range k).any P=false) (fun st=>n - st.1.1.toNat) ?_ fu _ ⟨0,rfl,Nat.zero_le _,rfl⟩ (by show n - (0:Int).toNat < fu; omega)
 rintro rec st ⟨k,rfl,hk,hw⟩ hrec
 obtain ⟨h1,h2⟩:=hF k rec hk
 by_cases hlt:k < n
 · cases hP:P k with
   | true=>
    rw [(h1 hlt).1 hP,if_pos (List.any_eq_true.2 ⟨k,List.mem_range.2 hlt,hP⟩)]
   | false=>
    rw [(h1 hlt).2 hP]
    exact hrec _ ⟨k+1,rfl,hlt,by rw [List.range_succ,List.any_append,hw,List.any_cons,hP]; rfl⟩ (by dsimp only; omega)
 · obtain rfl:k=n:=by omega
   rw [h2 hlt,hw]; rfl
theorem zC9 {α:Type} (l:List α) (d:α) (P:α->Bool):(List.range l.length).any (fun k=>P (l.getD k d))=l.any P:=by
 rw [Bool.eq_iff_iff,List.any_eq_true,List.any_eq_true]
 constructor
 · rintro ⟨k,hk,h⟩
   have hk:=List.mem_range.1 hk
   rw [List.getD_eq_getElem?_getD,List.getElem?_eq_getElem hk] at h
   exact ⟨_,List.getElem_mem hk,h⟩
 · rintro ⟨x,hx,h⟩
   obtain ⟨k,hk,rfl⟩:=List.getElem_of_mem hx
   exact ⟨k,List.mem_range.2 hk,by rw [List.getD_eq_getElem?_getD,List.getElem?_eq_getElem hk]; exact h⟩
def sgn3:List Str:=[[46,46,46],[60,60,61],[62,62,61]]
def sgn2:List Str:=[[45,62],[43,43],[45,45],[60,60],[62,62],[60,61],[62,61],[61,61],[33,61],[38,38],[124,124],[42,61],[47,61],[37,61],[43,61],[45,61],[38,61],[94,61],[124,61],[35,35]]
def one1:Str:=[91,93,40,41,123,125,46,38,42,43,45,126,33,47,37,60,62,94,124,63,58,59,61,44,35]
theorem zKd:signsL=sgn3++(sgn2++one1.map fun c=>[c]):=by kernel_rfl
theorem zDZ (r:Str):∀ (a b:List Str) (n:Nat),qt (a++b) n r=qt b (qt a n r) r
 | [],b,n=>rfl
 | t::a,b,n=>zDZ r a b _
theorem zA9 (r:Str) (m:Nat):∀ (l:List Str) (n:Nat),(∀ t ∈ l,t.length=m)->qt l n r=if m<=n then n else if l.any (fun t=>t.isPrefixOf r) then m else n
 | [],n,_=>by rw [qt]; simp
 | t::l,n,h=>by
  have ht:=h t (by simp)
  have ih:=fun n=>zA9 r m l n (fun t ht=>h t (by simp [ht]))
  rw [qt,ht]
  by_cases h1:m<=n
  · rw [if_pos h1,ih,if_pos h1,if_pos h1]
  · rw [if_neg h1,if_neg h1,List.any_cons]
    cases hp:t.isPrefixOf r with
    | true=>
     rw [if_pos rfl,ih,if_pos (Nat.le_refl _),Bool.true_or,if_pos rfl]
    | false=>
     rw [if_neg Bool.false_ne_true,ih,if_neg h1,Bool.false_or]
theorem len3:∀ t ∈ sgn3,t.length=3:=by decide
theorem len2:∀ t ∈ sgn2,t.length=2:=by decide
theorem zMY (r:Str):x8 r=if sgn3.any (fun t=>t.isPrefixOf r) then 3 else if sgn2.any (fun t=>t.isPrefixOf r) then 2 else if (one1.map fun c=>([c]:Str)).any (fun t=>t.isPrefixOf r) then 1 else 0:=by
 unfold x8
 rw [zKd,zDZ,zDZ,zA9 r 3 sgn3 0 len3,if_neg (show ¬ 3<=0 by omega)]
 rw [zA9 r 2 sgn2 _ len2,zA9 r 1 (one1.map fun c=>[c]) _ (fun t ht=>by obtain ⟨c,_,rfl⟩:=List.mem_map.1 ht; rfl)]
 generalize sgn3.any (fun t=>t.isPrefixOf r)=a
 generalize sgn2.any (fun t=>t.isPrefixOf r)=b
 generalize (one1.map fun c=>([c]:Str)).any (fun t=>t.isPrefixOf r)=c
 cases a <;> cases b <;> cases c <;> simp
theorem zKO (r:Str):(if Lib.indexByte r 10 < 0 then r.length else (Lib.indexByte r 10).toNat)=if r=[]\/hd r=10 then 0 else (if Lib.indexByte (r.drop 1) 10 < 0 then (r.drop 1).length else (Lib.indexByte (r.drop 1) 10).toNat)+1:=by
 cases r with
 | nil=>simp [Lib.indexByte]
 | cons c q=>
  rw [Lib.indexByte]
  by_cases h:(c == 10)=true
  · rw [if_pos h,if_neg (Int.lt_irrefl 0),if_pos (Or.inr (by have:=eq_of_beq h; rw [this]; rfl))]; rfl
  · have h1:¬ (c::q=[]\/hd (c::q)=10):=by
     rintro (e | e)
     · cases e
     · refine h (beq_iff_eq.2 (UInt8.toNat_inj.1 ?_))
       have e2:(c.toNat:Int)=10:=e
       show c.toNat=10
       omega
    rw [if_neg h,if_neg h1,List.drop_one,List.tail_cons]
    have h3:=Lib.indexByte_ge q 10
    by_cases h2:(Lib.indexByte q 10 == -1)=true
    · have h4:Lib.indexByte q 10 = -1:=eq_of_beq h2
      rw [if_pos h2,h4]; rfl
    · have h4:Lib.indexByte q 10≠-1:=fun e=>h2 (by rw [e]; rfl)
      rw [if_neg h2,if_neg (by omega),if_neg (by omega)]
      omega
theorem zLV (r sub:Str) (hs:sub≠[]) (hr:r≠[]):Lib.index r sub=if sub.isPrefixOf r then 0 else if Lib.index (r.drop 1) sub < 0 then -1 else Lib.index (r.drop 1) sub+1:=by
 cases r with
 | nil=>exact absurd rfl hr
 | cons c q=>
  rw [Lib.index]
  by_cases h:sub.isPrefixOf (c::q)=true
  · rw [if_pos h,if_pos h]
  · rw [if_neg h,if_neg h,List.drop_one,List.tail_cons]
    have h3:=Lib.index_ge q sub
    by_cases h2:(Lib.index q sub == -1)=true
    · have h4:Lib.index q sub = -1:=eq_of_beq h2
      rw [if_pos h2,if_pos (by omega)]
    · have h4:Lib.index q sub≠-1:=fun e=>h2 (by rw [e]; rfl)
      rw [if_neg h2,if_neg (by omega)]
theorem zNM (sub:Str) (hs:sub≠[]):Lib.index [] sub = -1:=by
 cases sub with
 | nil=>exact absurd rfl hs
 | cons a l=>rfl
section
variable {s:Str} {p k:Nat} {fu:Nat} (hs:s.length<=1090000) (hfu:s.length+100 < fu) (hp:p<=s.length)
include hs hfu hp
theorem r69 (hp1:p < s.length):c69 fu (s,(p:Int),())=some (((x8 (s.drop p):Nat):Int),()):=by
 show sh69 fu c65 (fun _=>false) s (p:Int)=(some (((x8 (s.drop p):Nat):Int),()):Option (Int×Unit))
 rw [zMY,<- zC9 sgn3 [] fun t=>t.isPrefixOf (s.drop p),<- zC9 sgn2 [] fun t=>t.isPrefixOf (s.drop p),<- zC9 (one1.map fun c=>([c]:Str)) [] fun t=>t.isPrefixOf (s.drop p)]
 have hR:∀ a b c:Bool,(some (((if a=true then 3 else if b=true then 2 else if c=true then 1 else 0:Nat):Int),()):Option (Int×Unit))=if a=true then some (3,()) else if b=true then some (2,()) else if c=true then some (1,()) else some (0,()):=by
  intro a b c
  cases a <;> cases b <;> cases c <;> rfl
 rw [hR]
 unfold sh69
 have hin:inB (p:Int) s.length=true:=zY (by omega) (by omega)
 have g3:∀ k,k < 3->(sgn3.getD k []).length<=1000:=by decide
 have g2:∀ k,k < 20->(sgn2.getD k []).length<=1000:=by decide
 refine zE7 (n:=3) (fun k=>(sgn3.getD k []).isPrefixOf (s.drop p)) _ _ (by omega) fun k rec hk=>⟨fun hlt=>?_,fun hn=>?_⟩
 · have h65:=r65 hs hfu hp (sgn3.getD k []) (g3 k hlt)
   have key:∀ b:Bool,(sgn3.getD k []).isPrefixOf (s.drop p)=b->∀ (Y N:Option (Int×Unit)) (r:Option (Int×Unit)),(cond b Y N=r)->(Option.bind (c65 (s,((p:Int),(sgn3.getD k [],())))) fun y0=>cond y0.1 Y N)=r:=fun b hb Y N r h=>by
    refine zK h65 ?_
    dsimp only
    rw [hb]
    exact h
   refine ⟨fun hP=>?_,fun hP=>?_⟩
   · refine zF (ya (show (k:Int) < 3 by omega)) (zF (zY (show (0:Int)<=(k:Int) by omega) (show (k:Int) < ((3:Nat):Int) by omega)) ?_)
     exact key true hP _ _ _ rfl
   · refine zF (ya (show (k:Int) < 3 by omega)) (zF (zY (show (0:Int)<=(k:Int) by omega) (show (k:Int) < ((3:Nat):Int) by omega)) ?_)
     rw [i1 (k:=k) (by omega)]
     exact key false hP _ _ _ rfl
 refine zE (z6 (show (3:Int)<=(k:Int) by omega)) ?_
 clear hk hn k rec
 refine zE7 (n:=20) (fun k=>(sgn2.getD k []).isPrefixOf (s.drop p)) _ _ (by omega) fun k rec hk=>⟨fun hlt=>?_,fun hn=>?_⟩
 · have h65:=r65 hs hfu hp (sgn2.getD k []) (g2 k hlt)
   have key:∀ b:Bool,(sgn2.getD k []).isPrefixOf (s.drop p)=b->∀ (Y N:Option (Int×Unit)) (r:Option (Int×Unit)),(cond b Y N=r)->(Option.bind (c65 (s,((p:Int),(sgn2.getD k [],())))) fun y0=>cond y0.1 Y N)=r:=fun b hb Y N r h=>by
    refine zK h65 ?_
    dsimp only
    rw [hb]
    exact h
   refine ⟨fun hP=>?_,fun hP=>?_⟩
   · refine zF (ya (show (k:Int) < 20 by omega)) (zF (zY (show (0:Int)<=(k:Int) by omega) (show (k:Int) < ((20:Nat):Int) by omega)) ?_)
     exact key true hP _ _ _ rfl
   · refine zF (ya (show (k:Int) < 20 by omega)) (zF (zY (show (0:Int)<=(k:Int) by omega) (show (k:Int) < ((20:Nat):Int) by omega)) ?_)
     rw [i1 (k:=k) (by omega)]
     exact key false hP _ _ _ rfl
 refine zE (z6 (show (20:Int)<=(k:Int) by omega)) ?_
 clear hk hn k rec
 have h1l:(one1.map fun c=>([c]:Str)).length=25:=rfl
 rw [h1l]
 refine zE7 (n:=25) (fun k=>((one1.map fun c=>([c]:Str)).getD k []).isPrefixOf (s.drop p)) _ _ (by omega) fun k rec hk=>⟨fun hlt=>?_,fun hn=>?_⟩
 · have hb:((one1.map fun c=>([c]:Str)).getD k []).isPrefixOf (s.drop p)=decide (zD s (p:Int)=zD one1 (k:Int)):=by
    have hk1:k < one1.length:=hlt
    rw [yO s p hp1,yO one1 k hk1,List.drop_eq_getElem_cons hp1,List.drop_eq_getElem_cons hk1,List.getD_eq_getElem?_getD,List.getElem?_map,List.getElem?_eq_getElem hk1]
    show (one1[k] == s[p] && true)=decide ((s[p].toNat:Int)=(one1[k].toNat:Int))
    rw [Bool.and_true,Bool.eq_iff_iff,beq_iff_eq,decide_eq_true_iff]
    exact ⟨fun h=>by rw [h],fun h=>UInt8.toNat_inj.1 (by omega)⟩
   refine ⟨fun hP=>?_,fun hP=>?_⟩
   · rw [hb] at hP
     refine zF (ya (show (k:Int) < 25 by omega)) (zF hin (zF (zY (show (0:Int)<=(k:Int) by omega) (show (k:Int) < ((25:Nat):Int) by omega)) ?_))
     exact zF (yY (of_decide_eq_true hP)) rfl
   · rw [hb] at hP
     refine zF (ya (show (k:Int) < 25 by omega)) (zF hin (zF (zY (show (0:Int)<=(k:Int) by omega) (show (k:Int) < ((25:Nat):Int) by omega)) ?_))
     rw [i1 (k:=k) (by omega)]
     exact zE (z7 (of_decide_eq_false hP)) rfl
 · exact zE (z6 (show (25:Int)<=(k:Int) by omega)) rfl
theorem r36 (hp1:p < s.length):c36 fu (s,(p:Int),())=some (((p+blaL (s.drop p):Nat):Int),()):=by
 show sh36 fu c65 (fun _=>false) s (p:Int)=(some (((p+blaL (s.drop p):Nat):Int),()):Option (Int×Unit))
 obtain ⟨B,hB⟩:∃ B,B=blaL (s.drop p):=⟨_,rfl⟩
 rw [<- hB]
 unfold blaL at hB
 unfold sh36
 have hin:inB (p:Int) s.length=true:=zY (by omega) (by omega)
 have b0:=yO s p hp1
 generalize hd (s.drop p)=z at b0 hB
 rw [b0,i1 (k:=p) (by omega)]
 have e2:iadd .i64 (p:Int) 2=((p+2:Nat):Int):=by rw [zl _ _ (by omega) (by omega)]; omega
 rw [e2]
 have one:(z=32\/z=9\/z=11\/z=12\/z=13)->(some ((((p+1:Nat):Int)),()):Option (Int×Unit))=some (((p+B:Nat):Int),()):=fun h=>by
  rw [if_pos h] at hB
  rw [hB]
 have h47:=r65 hs hfu hp [47,47] (by show 2<=1000; omega)
 have h42:=r65 hs hfu hp [47,42] (by show 2<=1000; omega)
 have rest:¬ (z=32\/z=9\/z=11\/z=12\/z=13)->(Option.bind (c65 (s,((p:Int),([47,47],())))) fun y0=>
  cond y0.1
   (iter fu (fun (rec1:((Int×PUnit)×PUnit)->Option (Int×PUnit)) (s1:((Int×PUnit)×PUnit))=>
    cond (ilt s1.1.1 (lenI s))
     (cond (inB s1.1.1 (List.length s))
      (cond (ine (zD s s1.1.1) 10)
       (rec1 (((iadd .i64 s1.1.1 1),()),()))
       (some (s1.1.1,())))
      (none))
     (some (s1.1.1,())))
    (((p:Int),()),()))
   (Option.bind (c65 (s,((p:Int),([47,42],())))) fun y1=>
    cond y1.1
     (iter fu (fun (rec1:((Int×PUnit)×PUnit)->Option (Int×PUnit)) (s1:((Int×PUnit)×PUnit))=>
      cond (ilt s1.1.1 (lenI s))
       (Option.bind (c65 (s,(s1.1.1,([42,47],())))) fun y2=>
        cond y2.1
         (some ((iadd .i64 s1.1.1 2),()))
         (rec1 (((iadd .i64 s1.1.1 1),()),())))
       (some ((p:Int),())))
      (((((p+2:Nat):Int)),()),()))
     (some ((p:Int),()))))=(some (((p+B:Nat):Int),()):Option (Int×Unit)):=fun hn=>by
  rw [if_neg hn] at hB
  refine zK h47 ?_
  dsimp only
  refine qf (fun h1=>?_) fun h1=>?_
  · rw [if_pos h1] at hB
    refine zn (fun st=>∃ q:Nat,st=((((q:Int),()),()):(Int×PUnit)×PUnit)/\p<=q/\q<=s.length/\p+B=q+(if Lib.indexByte (s.drop q) 10 < 0 then (s.drop q).length else (Lib.indexByte (s.drop q) 10).toNat)) (fun st=>s.length - st.1.1.toNat) ?_ fu _ ⟨p,rfl,Nat.le_refl _,hp,by rw [hB]⟩ (by show s.length - (p:Int).toNat < fu; omega)
    rintro rec st ⟨q,rfl,hpq,hq,hw⟩ hrec
    dsimp only
    rw [zKO,List.drop_drop] at hw
    with_reducible refine zh (fun h2=>?_) fun h2=>?_
    · have hlt:q < s.length:=by have:(q:Int) < (s.length:Int):=h2; omega
      refine zF (zY (by omega) (by omega)) ?_
      rw [yO s q hlt]
      have hne:s.drop q≠[]:=fun e=>by
       have:=congrArg List.length e
       rw [List.length_drop,List.length_nil] at this
       omega
      with_reducible refine xD (fun h3=>?_) fun h3=>?_
      · rw [if_neg (by rintro (e | e); exact hne e; exact h3 e)] at hw
        rw [i1 (k:=q) (by omega)]
        exact hrec _ ⟨q+1,rfl,by omega,by omega,by omega⟩ (by dsimp only; omega)
      · rw [if_pos (.inr h3)] at hw
        rw [hw]; rfl
    · have hge:s.length<=q:=by have:(s.length:Int)<=(q:Int):=h2; omega
      rw [if_pos (.inl (List.drop_eq_nil_of_le hge))] at hw
      rw [hw]; rfl
  · rw [if_neg (by rw [h1]; exact Bool.false_ne_true)] at hB
    refine zK h42 ?_
    dsimp only
    refine qf (fun h2=>?_) fun h2=>?_
    rotate_left
    · rw [if_neg (by rw [h2]; exact Bool.false_ne_true)] at hB
      rw [hB]; rfl
    rw [if_pos h2,List.drop_drop] at hB
    have hpl:=(List.isPrefixOf_iff_prefix.1 h2).length_le
    rw [List.length_drop] at hpl
    have hpl2:2<=s.length - p:=hpl
    refine zn (fun st=>∃ q:Nat,st=((((q:Int),()),()):(Int×PUnit)×PUnit)/\p+2<=q/\q<=s.length/\(Lib.index (s.drop (p+2)) [42,47] < 0↔Lib.index (s.drop q) [42,47] < 0)/\(0<=Lib.index (s.drop q) [42,47]->((p+2:Nat):Int)+Lib.index (s.drop (p+2)) [42,47]=(q:Int)+Lib.index (s.drop q) [42,47])) (fun st=>s.length - st.1.1.toNat) ?_ fu _ ⟨p+2,rfl,Nat.le_refl _,by omega,Iff.rfl,fun _=>rfl⟩ (by show s.length - ((p+2:Nat):Int).toNat < fu; omega)
    rintro rec st ⟨q,rfl,hpq,hq,hw1,hw2⟩ hrec
    dsimp only
    with_reducible refine zh (fun h3=>?_) fun h3=>?_
    · have hlt:q < s.length:=by have:(q:Int) < (s.length:Int):=h3; omega
      have hne:s.drop q≠[]:=fun e=>by
       have:=congrArg List.length e
       rw [List.length_drop,List.length_nil] at this
       omega
      rw [zLV (s.drop q) [42,47] (by decide) hne,List.drop_drop] at hw1 hw2
      refine zK (r65 hs hfu (show q<=s.length by omega) [42,47] (by show 2<=1000; omega)) ?_
      dsimp only
      have hmono:=Lib.index_ge (s.drop (q+1)) [42,47]
      generalize hv:Lib.index (s.drop (q+1)) [42,47]=v at hw1 hw2 hmono
      refine qf (fun h4=>?_) fun h4=>?_
      · rw [if_pos h4] at hw1 hw2
        have h5:=hw2 (Int.le_refl 0)
        have h6:¬ Lib.index (s.drop (p+2)) [42,47] < 0:=fun h=>absurd (hw1.1 h) (by omega)
        rw [if_neg h6] at hB
        have e7:iadd .i64 (q:Int) 2=((q+2:Nat):Int):=by rw [zl _ _ (by omega) (by omega)]; omega
        rw [e7]
        have e8:q+2=p+B:=by omega
        rw [e8]
      · rw [if_neg (by rw [h4]; exact Bool.false_ne_true)] at hw1 hw2
        rw [i1 (k:=q) (by omega)]
        refine hrec _ ⟨q+1,rfl,by omega,by omega,?_,?_⟩ (by dsimp only; omega)
        · rw [hw1,hv]
          by_cases h7:v < 0
          · rw [if_pos h7]; omega
          · rw [if_neg h7]; omega
        · rw [hv]
          intro h7
          rw [if_neg (by omega)] at hw2
          have:=hw2 (by omega)
          omega
    · have hge:s.length<=q:=by have:(s.length:Int)<=(q:Int):=h3; omega
      rw [List.drop_eq_nil_of_le hge,zNM [42,47] (by decide)] at hw1
      rw [if_pos (hw1.2 (by omega))] at hB
      rw [hB]; rfl
 refine zF hin ?_
 with_reducible refine zc (fun h1=>?_) fun h1=>?_
 · exact one (by omega)
 refine zF hin ?_
 with_reducible refine zc (fun h2=>?_) fun h2=>?_
 · exact one (by omega)
 refine zF hin ?_
 with_reducible refine xE (fun h3=>?_) fun h3=>?_
 · refine zF hin ?_
   with_reducible refine xE (fun h4=>?_) fun h4=>?_
   · exact one (by omega)
   · exact rest (by omega)
 · exact rest (by omega)
theorem r37 (hp1:p < s.length):c37 fu (s,(p:Int),())=some ((yE (s.drop p)).1,(((yE (s.drop p)).2:Nat):Int),()):=by
 show sh37 fu (c66 fu) (c67 fu) (c68 fu) (c69 fu) (fun _=>false) s (p:Int)=(some ((yE (s.drop p)).1,(((yE (s.drop p)).2:Nat):Int),()):Option (Int×Int×Unit))
 unfold sh37
 have h1:=r66 hs hfu hp
 have h2:=r67 hs hfu hp hp1
 have h3:=r68 hs hfu hp 34 (by omega) hp1
 have h4:=r68 hs hfu hp 39 (by omega) hp1
 have h5:=r69 hs hfu hp hp1
 have b0:=yO s p hp1
 unfold yE
 generalize yw (s.drop p)=w at h1 ⊢
 generalize numL (s.drop p)=n at h2 ⊢
 generalize quoL 34 (s.drop p)=q at h3 ⊢
 generalize quoL 39 (s.drop p)=q' at h4 ⊢
 generalize x8 (s.drop p)=g at h5 ⊢
 generalize hd (s.drop p)=z at b0 ⊢
 rw [b0]
 refine zF (zY (by omega) (by omega)) ?_
 with_reducible refine zc (fun a=>?_) fun a=>?_
 · rw [if_pos a]; rfl
 rw [if_neg a]
 refine zK h1 ?_
 dsimp only
 with_reducible refine zh (fun a=>?_) fun a=>?_
 · rw [if_pos (by omega)]
 rw [if_neg (by omega)]
 refine zK h2 ?_
 dsimp only
 with_reducible refine zh (fun a=>?_) fun a=>?_
 · rw [if_pos (by omega)]
 rw [if_neg (by omega)]
 refine zK h3 ?_
 dsimp only
 with_reducible refine zh (fun a=>?_) fun a=>?_
 · rw [if_pos (by omega)]
 rw [if_neg (by omega)]
 refine zK h4 ?_
 dsimp only
 with_reducible refine zh (fun a=>?_) fun a=>?_
 · rw [if_pos (by omega)]
 rw [if_neg (by omega)]
 refine zK h5 ?_
 dsimp only
 with_reducible refine zh (fun a=>?_) fun a=>?_
 · rw [if_pos (by omega)]
 rw [if_neg (by omega)]
 rfl
end
theorem chG_eq (r:Str) (i:Nat) (hr:r≠[]):chG r i=if hd r=92/\hd (r.drop 1)=10 then chG (r.drop 2) (i+2) else ⟨hd r,(i:Int)⟩::chG (r.drop 1) (i+1):=by
 match r,hr with
 | [c],_=>
  have h:¬ (hd ([c]:Str)=92/\hd (([c]:Str).drop 1)=10):=fun h=>absurd (show (0:Int)=10 from h.2) (by omega)
  rw [if_neg h]
  rfl
 | c::d::r,_=>
  have e:(c == 92 && d == 10)=decide (hd (c::d::r)=92/\hd ((c::d::r).drop 1)=10):=by
   show (c == 92 && d == 10)=decide ((c.toNat:Int)=92/\(d.toNat:Int)=10)
   rw [Bool.eq_iff_iff,Bool.and_eq_true,beq_iff_eq,beq_iff_eq,decide_eq_true_iff]
   refine ⟨fun h=>by rw [h.1,h.2]; exact ⟨rfl,rfl⟩,fun h=>⟨UInt8.toNat_inj.1 ?_,UInt8.toNat_inj.1 ?_⟩⟩
   · show c.toNat=92; omega
   · show d.toNat=10; omega
  show cond (c == 92 && d == 10) _ _=_
  rw [e]
  by_cases h:hd (c::d::r)=92/\hd ((c::d::r).drop 1)=10
  · rw [if_pos h,decide_eq_true h]; rfl
  · rw [if_neg h,decide_eq_false h]; rfl
theorem r34 {fu:Nat} (t:Str) (ht:t.length<=1090000) (hfu:t.length+100 < fu):c34 fu (t,())=some (chG t 0,()):=by
 show sh34 fu (fun _=>false) t=(some (chG t 0,()):Option (List CharT×Unit))
 unfold sh34
 refine zn (fun st=>∃ (out:List CharT) (k:Nat),st=(((out,((k:Int),())),()):(List CharT×Int×PUnit)×PUnit)/\k<=t.length/\out.length<=k/\out++chG (t.drop k) k=chG t 0) (fun st=>t.length - st.1.2.1.toNat) ?_ fu _ ⟨[],0,rfl,Nat.zero_le _,Nat.le_refl _,rfl⟩ (by show t.length - (0:Int).toNat < fu; omega)
 rintro rec st ⟨out,k,rfl,hk,ho,hw⟩ hrec
 dsimp only
 rw [show lenI t=(t.length:Int) from rfl,i1 (k:=k) (by omega)]
 have e2:iadd .i64 (k:Int) 2=((k+2:Nat):Int):=by rw [zl _ _ (by omega) (by omega)]; omega
 rw [e2]
 with_reducible refine zh (fun h=>?_) fun h=>?_
 rotate_left
 · rw [List.drop_eq_nil_of_le (by omega)] at hw
   have:chG [] k=[]:=rfl
   rw [this,List.append_nil] at hw
   rw [hw]
 have hlt:k < t.length:=by omega
 have hne:t.drop k≠[]:=fun e=>by
  have:=congrArg List.length e
  rw [List.length_drop,List.length_nil] at this
  omega
 rw [chG_eq _ _ hne,List.drop_drop,List.drop_drop] at hw
 have hin:inB (k:Int) t.length=true:=zY (by omega) (by omega)
 rw [yO t k hlt]
 have b1:=yO t (k+1)
 have hend:t.length<=k+1->hd (t.drop (k+1))=0:=fun h=>by rw [List.drop_eq_nil_of_le h]; rfl
 generalize hd (t.drop k)=z at hw ⊢
 generalize hd (t.drop (k+1))=w at hw b1 hend
 have add:¬ (z=92/\w=10)->cond (inB (k:Int) (List.length t)) (cond (okN 16 ((List.length out)+(List.length [(CharT.mk z (k:Int))]))) (rec (((out++[(CharT.mk z (k:Int))]),((((k+1:Nat):Int)),())),())) none) none=some (chG t 0,()):=fun hn=>by
  rw [if_neg hn] at hw
  refine zF hin (zF (kT (by rw [List.length_singleton]; omega) (by rw [List.length_singleton]; simp only [maxLen]; omega)) ?_)
  refine hrec _ ⟨_,k+1,rfl,by omega,by rw [List.length_append,List.length_singleton]; omega,?_⟩ (by dsimp only; omega)
  rw [List.append_assoc,List.singleton_append]
  exact hw
 refine zF hin ?_
 with_reducible refine zc (fun h1=>?_) fun h1=>?_
 · with_reducible refine zh (fun h2=>?_) fun h2=>?_
   · refine zF (zY (by omega) (by omega)) ?_
     rw [b1 (by omega)]
     with_reducible refine zc (fun h3=>?_) fun h3=>?_
     · rw [if_pos ⟨h1,h3⟩] at hw
       exact hrec _ ⟨out,k+2,rfl,by omega,by omega,hw⟩ (by dsimp only; omega)
     · exact add (by omega)
   · have:=hend (by omega)
     exact add (by omega)
 · exact add (by omega)
theorem r35 {fu:Nat} (cs:List CharT) (ht:cs.length<=1090000) (hfu:cs.length+100 < fu):c35 fu (cs,())=some (txt cs,()):=by
 show sh35 fu (fun _=>false) cs=(some (txt cs,()):Option (Str×Unit))
 unfold sh35
 refine zn (fun st=>∃ (out:Str) (k:Nat),st=(((out,((k:Int),())),()):(Str×Int×PUnit)×PUnit)/\k<=cs.length/\out.length=k/\out++txt (cs.drop k)=txt cs) (fun st=>cs.length - st.1.2.1.toNat) ?_ fu _ ⟨[],0,rfl,Nat.zero_le _,rfl,rfl⟩ (by show cs.length - (0:Int).toNat < fu; omega)
 rintro rec st ⟨out,k,rfl,hk,ho,hw⟩ hrec
 dsimp only
 rw [show lenI cs=(cs.length:Int) from rfl,i1 (k:=k) (by omega)]
 with_reducible refine zh (fun h=>?_) fun h=>?_
 rotate_left
 · rw [List.drop_eq_nil_of_le (by omega)] at hw
   have:txt []=[]:=rfl
   rw [this,List.append_nil] at hw
   rw [hw]
 have hlt:k < cs.length:=by omega
 refine zF (zY (by omega) (by omega)) ?_
 rw [Int.toNat_natCast,List.getD_eq_getElem?_getD,List.getElem?_eq_getElem hlt,Option.getD_some]
 have e:zED (fun x=>x) [CharT.b cs[k]]=[UInt8.ofNat cs[k].b.toNat]:=rfl
 rw [e]
 refine zF (Nat.ble_eq_true_of_le (by rw [List.length_singleton]; omega)) ?_
 refine hrec _ ⟨_,k+1,rfl,by omega,by rw [List.length_append,List.length_singleton]; omega,?_⟩ (by dsimp only; omega)
 rw [List.drop_eq_getElem_cons hlt] at hw
 rw [List.append_assoc,List.singleton_append]
 exact hw
theorem c12_eq (fu:Nat) (file:Int) (t:Str) (ht:t.length<=1090000) (hfu:t.length+100 < fu):c12 fu (file,t,())=some (tokS file t,()):=by
 show sh12 fu (c34 fu) (c35 fu) (c36 fu) (c37 fu) (fun _=>false) file t=(some (tokS file t,()):Option (List TokT×Unit))
 unfold sh12
 have hcl:=zAH t 0
 have hl:(txt (chG t 0)).length=(chG t 0).length:=by unfold txt; rw [List.length_map]
 refine zK (r34 t ht hfu) ?_
 dsimp only
 refine zK (r35 (chG t 0) (by omega) (by omega)) ?_
 dsimp only
 have hfat:=zLC t
 unfold tokS
 generalize hcs:chG t 0=cs at hcl hl hfat ⊢
 generalize hs:txt cs=s at hl ⊢
 have hs9:s.length<=1090000:=by omega
 have hf9:s.length+100 < fu:=by omega
 refine zn (fun st=>∃ (out:List TokT) (p:Nat) (b:Bool),st=(((out,((p:Int),(b,()))),()):(List TokT×Int×Bool×PUnit)×PUnit)/\p<=s.length/\out.length<=p/\out++lexA file cs (s.drop p) p b=lexA file cs s 0 false) (fun st=>s.length+1 - st.1.2.1.toNat) ?_ fu _ ⟨[],0,false,rfl,Nat.zero_le _,Nat.le_refl _,rfl⟩ (by show s.length+1 - (0:Int).toNat < fu; omega)
 rintro rec st ⟨out,p,b,rfl,hp,hout,hw⟩ hrec
 dsimp only
 rw [zKj] at hw
 rw [show lenI s=(s.length:Int) from rfl]
 with_reducible refine zh (fun h=>?_) fun h=>?_
 rotate_left
 · rw [if_pos (List.drop_eq_nil_of_le (by omega)),List.append_nil] at hw
   rw [hw]
 have hlt:p < s.length:=by omega
 have hne:s.drop p≠[]:=fun e=>by
  have:=congrArg List.length e
  rw [List.length_drop,List.length_nil] at this
  omega
 have h36:=r36 hs9 hf9 hp hlt
 have h37:=r37 hs9 hf9 hp hlt
 have hbl:=zGx (s.drop p)
 rw [List.length_drop] at hbl
 have hnp:=kR (s.drop p)
 have hnl:=zEq (s.drop p) hne
 rw [List.length_drop] at hnl
 rw [if_neg hne] at hw
 generalize yE (s.drop p)=kn at hw h37 hnp hnl
 obtain ⟨kk,n⟩:=kn
 dsimp only at hw h37 hnp hnl
 generalize blaL (s.drop p)=B at hw h36 hbl
 refine zK h36 ?_
 dsimp only
 with_reducible refine zh (fun h1=>?_) fun h1=>?_
 · rw [if_pos (by omega),List.drop_drop] at hw
   exact hrec _ ⟨out,p+B,true,rfl,by omega,by omega,hw⟩ (by dsimp only; omega)
 rw [if_neg (by omega)] at hw
 refine zK h37 ?_
 dsimp only
 have e1:iadd .i64 (p:Int) (n:Int)=((p+n:Nat):Int):=by rw [zl _ _ (by omega) (by omega)]; omega
 have e2:isub .i64 ((p+n:Nat):Int) 1=((p+n - 1:Nat):Int):=by rw [zBx _ _ (by omega) (by omega)]; omega
 rw [e1,e2,Int.toNat_natCast,Int.toNat_natCast]
 have hf:=hfat (p+n - 1)
 rw [zl _ 1 (by omega) (by omega)]
 refine zF (ym (by omega) (by omega) (by omega)) ?_
 refine zF (zY (by omega) (by omega)) ?_
 refine zF (zY (by omega) (by omega)) ?_
 refine zF (kT (by rw [List.length_singleton]; omega) (by rw [List.length_singleton]; simp only [maxLen]; omega)) ?_
 have e3:cutL s (p:Int) ((p+n:Nat):Int)=(s.drop p).take n:=by
  unfold cutL
  rw [Int.toNat_natCast,Int.toNat_natCast,List.drop_take,Nat.add_sub_cancel_left]
 rw [e3]
 refine hrec _ ⟨_,p+n,false,rfl,by omega,by rw [List.length_append,List.length_singleton]; omega,?_⟩ (by dsimp only; omega)
 rw [List.append_assoc,List.singleton_append,<- List.drop_drop]
 exact hw
end
section
open Go.Al Go.Den
theorem zOB (s:Str):∃ k,sh3 3000 c8t (c9 3000 mm k) (c10 3000) (c11 3000 k) (c12 3000) (fun _=>false) s=some (true,()):=by
 by_cases hl:500 < s.length
 · refine ⟨0,?_⟩
   unfold sh3
   refine zK (v:=(true,())) rfl ?_
   exact zF (ya (by show (500:Int) < (s.length:Int); omega)) rfl
 have hf:=zMD 0 s
 have hmm:13000 < mm:=by decide
 obtain ⟨ka,ha⟩:=c9_eq 3000 mm (by omega) (tokS 0 s) (by omega) (fun x hx=>by have:=hf.2 x hx; omega) hmm
 obtain ⟨kb,hb⟩:=c11_eq 3000 mm (by omega) (tokS 0 s) (by omega) (fun x hx=>by have:=hf.2 x hx; omega) hmm
 refine ⟨max ka kb,?_⟩
 replace ha:=ha (max ka kb) (by omega)
 replace hb:=hb (max ka kb) (by omega)
 generalize evS mm (tokS 0 s)=v at ha hb
 generalize c9 3000 mm (max ka kb)=C9 at ha ⊢
 generalize c11 3000 (max ka kb)=C11 at hb ⊢
 unfold sh3
 refine zK (v:=(true,())) rfl ?_
 refine zE (z6 (by show (s.length:Int)<=500; omega)) ?_
 refine zK (c10_eq 3000 0 s (by omega) (by omega)) ?_
 refine zK ha ?_
 refine zK (c12_eq 3000 0 s (by omega) (by omega)) ?_
 refine zK hb ?_
 refine zF rfl (zF (yY rfl) ?_)
 show some (ieq v.2 v.2,())=_
 rw [yY rfl]
def u3 (_:Str×Unit):Option (Bool×Unit):=some (true,())
theorem ok3:ConOk CC Tryd.prog 3 ⟨as3,rs3,u3⟩:=fun x y hx=>by
 obtain ⟨z,u⟩:=x
 change Str at z
 replace hx:some (true,())=some y:=hx
 injection hx with hx
 subst hx
 obtain ⟨k,hk⟩:=zOB z
 exact con3 3000 c8t ok8t (c9 3000 mm k) (ok9 3000 mm k) (c10 3000) (ok10 3000) (c11 3000 k) (ok11 3000 k) (c12 3000) (ok12 3000) (z,u) (true,()) hk
end
end Go.Proofs.YtonnigoiklahdaaDoor
namespace Go.Proofs.YtonnigoiklahdaaDoor.ifexprPlays
section
open Go.Al Go.Den Go.ChangeShapes Go.WideShapes Go.ChangeAt Go.RowKit
open Go.ChangeMaps (open_string shut_string)
theorem own:ownKnob Tryd.prog.godebug=none:=by kernel_rfl
theorem laidOut:laidOutB Tryd.prog=true:=by kernel_rfl
theorem walk (z0:List UInt8) (W:World) (hgl:GlobOk W.heap.size (wmOf W) W) (v0:Value) (h0:RV1 ⟨wmOf W,fun _=>none,Fr.no⟩ W (.at (.string ⟨z0.toArray⟩)) v0):Calls Tryd.prog 3 #[v0] W fun e W'=>e = .returned (.bool true)/\Below W.heap.size W W':=by
 have hp:=ok3 (z0,()) (true,()) rfl _ ⟨_,_,rfl,rfl,rfl⟩
 refine (hp (wmOf W) W [v0] (zLO W) hgl (.cons h0 RVs.nil)).mono ?_
 rintro e W' ⟨v,wm',rfl,_,hst,hr⟩
 have hv:v = .bool true:=zW hr
 subst hv
 exact ⟨rfl,hst.below⟩
set_option maxRecDepth 100000 in
theorem lifted (os:Os) (started:os.Started) (H:Type) (enc:TypeId×Value->H) :
 ReturnsInHanded {} Tryd.checked os 3 .any (fun w args=>(Rows.ifexprPlaysSpec.pre enc Tryd.prog Tryd.f3 [] false w args/\laidMetH Tryd.prog zF6 w)/\sizedMet enc Tryd.prog Tryd.f3 (OpenSpec.ofChange Rows.ifexprPlaysSpec) false w args)
  (Rows.ifexprPlaysSpec.post enc Tryd.prog Tryd.f3 false true false false):=by
 refine zC1 (C:=Tryd.checked) (X:=fun w _=>laidMetH Tryd.prog zF6 w) (fun _ _ _ hh h=>laidMetH.of_heap hh h) own started (by kernel_rfl) Tryd.func3
  (ChangeSpec.witness_shaped (enc:=enc) (C:=Tryd.checked) (os:=os) (X:=fun w _=>laidMetH Tryd.prog zF6 w) false (World.doorLaid Tryd.prog 400 os) #[.string ByteArray.empty] 8 rfl (World.shaped_of_RefB (by kernel_rfl) (by kernel_rfl)) (by kernel_rfl) (by kernel_rfl) (by kernel_rfl) (zOX os _)) ?_
 intro W base args ds gs before hval0 hW hsh hL
 have hval:∀ (j:Nat) t v,Tryd.f3.params[j]? = some t->args[j]? = some v->Value.okWide Tryd.prog W .any base t v:=hval0
 have hW':=hW
 obtain ⟨p,q,hA0,hV,rfl,hfz,hnd⟩:=hW
 have hA:DataW.TrodAll enc Tryd.prog W 0 (fun _=>true) true Tryd.f3.params.toList args.toList ds p:=hA0
 rw [Tryd.params3] at hA hval
 obtain ⟨v0,vs0,d0,ds0,p0,q0,hargs,rfl,rfl,h0,r0⟩:=trodAll_cons hA
 obtain ⟨rfl,rfl,rfl⟩:=trodAll_nil r0
 obtain rfl:args = #[v0]:=by cases args; simp_all
 obtain ⟨rfl,rfl⟩:=trodVars_none hV
 have hgl:=zGr hsh hL
 have k0:=h0
 have lt0:∀ x ∈ p0,x.block < W.heap.size:=by obtain ⟨m,hm⟩:=k0; exact DataW.trod_lt m _ _ _ hm
 obtain ⟨s0,rfl,rfl,rfl,w0⟩:=open_string Tryd.underlying9 (hval 0 9 v0 rfl rfl) h0
 clear hA0 hval0
 refine (walk s0.data.toList W hgl _ (zPr s0)).mono fun e W' ⟨he,bel⟩=>?_
 subst he
 exact ⟨_,rfl,_,_,_,[],_,[],hW',trodAll_mk1 (shut_bool Tryd.underlying4 _),(trodAll_cons_mk (Below.trod laidOut (by kernel_rfl) (of_decide_eq_true (by kernel_rfl)) k0 bel lt0) trodAll_mk0),rfl,bel.frame _,fun h=>by cases h⟩
theorem over:Rows.IfexprPlaysSaid:=
 OpenClaim.holds_of_wide 3 Tryd.f3 rfl rfl rfl rfl rfl rfl rfl ⟨rfl,rfl,rfl,rfl,rfl⟩ rfl rfl rfl rfl rfl (by kernel_rfl) Tryd.func3 (by kernel_rfl)
  (of_decide_eq_true (by kernel_rfl)) (by unfold Func.isWrapper; first | (rw [if_pos (by decide +kernel)]; kernel_rfl) | (rw [if_neg (by decide +kernel)]; exact ⟨rfl,rfl⟩))
  (fun os started H enc _=>lifted os started H enc)
theorem ifexprPlays_holds:Rows.IfexprPlaysCardSaid:=
 Claim7.holds_tied_plain_at .later [] [.listed,.data,.data] true (true, "9147890bc36f5da7ddbf85365800fa2858e58f193b221afb2dd99ffeef9cecf5") false
  over (fun _ h=>by cases h) (by kernel_rfl) (fun _ h=>by cases h) ifexprPlays_row_tie rfl ⟨rfl,rfl⟩ (by kernel_rfl) rfl
  (fun f fn hf hfn=>by
   obtain rfl:f=3:=Option.some.inj ((show Tryd.prog.funcNamed "emend/emendlaw09.IfexprPlays" = some 3 by kernel_rfl).symm.trans hf) |>.symm
   obtain rfl:fn=Tryd.f3:=(Option.some.inj (Tryd.func3.symm.trans hfn)).symm
   exact ⟨by kernel_rfl,fun j t ht=>by
    rw [Tryd.params3] at ht
    have hm:t ∈ [9]:=by simpa using Array.mem_of_getElem? ht
    have hall:([9].all fun u=>!Tryd.prog.wantsStandIn u)=true:=by kernel_rfl
    exact (show Tryd.prog.wantsStandIn t=false by simpa using List.all_eq_true.1 hall t hm)⟩)
  (by kernel_rfl)
end
end Go.Proofs.YtonnigoiklahdaaDoor.ifexprPlays
