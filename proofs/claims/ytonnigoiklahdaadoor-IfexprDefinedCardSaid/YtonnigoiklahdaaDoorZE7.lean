/-
  What is told of what is defined is as the document says: for every text and all names the law IfexprDefined answers true, and leaves its arguments as they were. No condition, but that the listed package-level variables hold what the program's text lays (the card ties them).
-/
import Derived.Test.YtonnigoiklahdaaDoorZE6
import Derived.Test.YtonnigoiklahdaaDoorCards
set_option linter.unusedVariables false
set_option linter.unusedSimpArgs false
set_option linter.unusedSectionVars false
namespace Go.Proofs.YtonnigoiklahdaaDoor
section
open Go.Al Go.Den
noncomputable def c48 (fu:Nat) (x:List Str×Str×Unit):Option (Bool×Unit):=sh48 fu (fun _=>false) x.1 x.2.1
theorem ok48 (fu:Nat):ConOk CC Tryd.prog 48 ⟨as48,rs48,c48 fu⟩:=con48 fu
noncomputable def c20 (fu:Nat) (x:List TokT×List Str×Unit):Option (List TokT×Int×Unit):=sh20 fu (c48 fu) (fun _=>false) x.1 x.2.1
theorem ok20 (fu:Nat):ConOk CC Tryd.prog 20 ⟨as20,rs20,c20 fu⟩:=con20 fu (c48 fu) (ok48 fu)
noncomputable def c21 (fu:Nat) (x:List TokT×List Str×Unit):Option (List TokT×Int×Unit):=sh21 fu c49 (fun _=>false) x.1 x.2.1
theorem ok21 (fu:Nat):ConOk CC Tryd.prog 21 ⟨as21,rs21,c21 fu⟩:=con21 fu c49 ok49
noncomputable def c22 (fu:Nat) (x:List TokT×List TokT×Unit):Option (Bool×Unit):=sh22 fu (fun _=>false) x.1 x.2.1
theorem ok22 (fu:Nat):ConOk CC Tryd.prog 22 ⟨as22,rs22,c22 fu⟩:=con22 fu
theorem c48_eq (fu:Nat) (ns:List Str) (x:Str) (h:ns.length < fu) (h2:ns.length < 4000):c48 fu (ns,x,())=some (decide (x ∈ ns),()):=by
 show sh48 fu (fun _=>false) ns x=_
 unfold sh48
 refine zy (fun st=>∃ a:Nat,st=((((a:Int),()),()):(Int×PUnit)×PUnit)/\a<=ns.length/\decide (x ∈ ns.drop a)=decide (x ∈ ns)) (fun st=>ns.length - st.1.1.toNat) ?_ fu _ ⟨0,rfl,Nat.zero_le _,rfl⟩ (by dsimp only; omega)
 rintro rec st ⟨a,rfl,ha,hp⟩ hrec
 dsimp only at hrec ⊢
 by_cases hlt:a < ns.length
 · have hd:ns.drop a=ns.getD a []::ns.drop (a+1):=by rw [List.drop_eq_getElem_cons hlt,zFo _ a [] hlt]
   refine zG (xn (by show (a:Int) < (ns.length:Int); omega)) (zG (zb (by omega) (by omega)) ?_)
   rw [Int.toNat_natCast,i1n a (by omega)]
   rw [hd] at hp
   by_cases hq:x=ns.getD a []
   · refine zG (zBJ hq) ?_
     rw [<- hp,decide_eq_true (by rw [<- hq]; exact List.mem_cons_self ..),ile_t (by omega)]
   · refine zP (zCs hq) (hrec _ ⟨a+1,rfl,hlt,?_⟩ (by dsimp only; omega))
     rw [<- hp]
     have e:(x ∈ ns.getD a []::ns.drop (a+1))↔(x ∈ ns.drop (a+1)):=by rw [List.mem_cons]; exact ⟨fun h=>h.resolve_left hq,.inr⟩
     simp only [e]
 · obtain rfl:a=ns.length:=by omega
   rw [List.drop_length] at hp
   refine zP (qu (Int.le_refl _)) ?_
   rw [<- hp]
   rfl
theorem zMN {a b:Str} (h:a=b):(!seq a b)=false:=by rw [zBJ h]; rfl
theorem zME {a b:Str} (h:a≠b):(!seq a b)=true:=by rw [zCs h]; rfl
def defd:Str:=[100,101,102,105,110,101,100]
def mkD (ns:List Str) (t u:TokT):TokT:=⟨2,if u.text ∈ ns then [49] else [48],t.file,t.ffrom,t.fto,t.blank⟩
def defF (ns:List Str):Nat->List TokT->List TokT->List TokT×Int
 | 0,_,a=>(a,0)
 | _+1,[],a=>(a,0)
 | n+1,t::r,a=>
  if t.kind=1/\t.text=defd then
   (if sg r=[40] then
    (match r.drop 1 with
    | []=>([],90)
    | u::q=>if u.kind=1 then (if sg q=[41] then defF ns n (q.drop 1) (a++[mkD ns t u]) else ([],90)) else ([],90))
   else
    (match r with
    | []=>([],90)
    | u::q=>if u.kind=1 then defF ns n q (a++[mkD ns t u]) else ([],90)))
  else defF ns n r (a++[t])
theorem zH1 (ns:List Str) (n:Nat) (a:List TokT):defF ns n [] a=(a,0):=by cases n <;> rfl
theorem zC2 (ns:List Str) (n:Nat) (t:TokT) (r a:List TokT):defF ns (n+1) (t::r) a=(if t.kind=1/\t.text=defd then
 (if sg r=[40] then
  (match r.drop 1 with
  | []=>([],90)
  | u::q=>if u.kind=1 then (if sg q=[41] then defF ns n (q.drop 1) (a++[mkD ns t u]) else ([],90)) else ([],90))
 else
  (match r with
  | []=>([],90)
  | u::q=>if u.kind=1 then defF ns n q (a++[mkD ns t u]) else ([],90)))
 else defF ns n r (a++[t])):=rfl
theorem okA {a:List TokT} {x:TokT} (h:a.length < 1500):okN 56 (a.length+[x].length)=true:=zAX (by rw [List.length_singleton]; omega) (by rw [List.length_singleton]; simp only [maxLen]; omega)
theorem zDk {l:List TokT} {i:Nat} (h:i < l.length):sg (l.drop i)=if (l.getD i tokD).kind=5 then (l.getD i tokD).text else []:=by rw [xR h]; rfl
theorem c20_eq (fu:Nat) (l:List TokT) (ns:List Str) (hl:l.length < 1400) (hn:ns.length < 1000) (hfu:2000 < fu):c20 fu (l,ns,())=some ((defF ns l.length l []).1,(defF ns l.length l []).2,()):=by
 show sh20 fu (c48 fu) (fun _=>false) l ns=_
 have h48:=fun x=>c48_eq fu ns x (by omega) (by omega)
 generalize c48 fu=C48 at h48
 obtain ⟨res,hres⟩:∃ res,res=defF ns l.length l []:=⟨_,rfl⟩
 rw [<- hres]
 unfold sh20
 refine zy (fun st=>∃ (i n:Nat) (acc:List TokT),st=((((acc,((i:Int),())),((l,()),()))):(List TokT×(Int×PUnit))×((List TokT×PUnit)×PUnit))/\i<=l.length/\acc.length<=i/\l.length - i<=n/\defF ns n (l.drop i) acc=res) (fun st=>l.length - st.1.2.1.toNat) ?_ fu _ ⟨0,l.length,[],rfl,Nat.zero_le _,Nat.le_refl _,Nat.le_refl _,hres.symm⟩ (by dsimp only; omega)
 rintro rec st ⟨i,n,acc,rfl,hi,hacc,hn2,hp⟩ hrec
 dsimp only at hrec ⊢
 have e1:iadd .i64 (i:Int) 1=((i+1:Nat):Int):=xP i 1 (by omega)
 have e2:iadd .i64 (i:Int) 2=((i+2:Nat):Int):=xP i 2 (by omega)
 have e3:iadd .i64 (i:Int) 3=((i+3:Nat):Int):=xP i 3 (by omega)
 have e11:iadd .i64 ((i+1:Nat):Int) 1=((i+2:Nat):Int):=xP (i+1) 1 (by omega)
 have e31:iadd .i64 ((i+3:Nat):Int) 1=((i+4:Nat):Int):=xP (i+3) 1 (by omega)
 by_cases hlt:i < l.length
 · obtain ⟨n,rfl⟩:∃ n',n=n' + 1:=⟨n - 1,by omega⟩
   rw [xR hlt,zC2] at hp
   have hin:inB (i:Int) l.length=true:=zb (by omega) (by omega)
   refine zG (xn (by show (i:Int) < (l.length:Int); omega)) (zG hin ?_)
   simp only [Int.toNat_natCast,e1,e2,e3,e11,e31,zJY]
   have push:¬ ((l.getD i tokD).kind=1/\(l.getD i tokD).text=defd)->cond (okN 56 (acc.length+[l.getD i tokD].length)) (rec ((acc++[l.getD i tokD],(((i+1:Nat):Int),())),((l,()),()))) none=some (res.1,res.2,()):=fun hd=>by
    rw [if_neg hd] at hp
    refine zG (okA (by omega)) (hrec _ ⟨i+1,n,_,rfl,hlt,by rw [List.length_append,List.length_singleton]; omega,by omega,hp⟩ (by dsimp only; omega))
   refine jC (fun h1=>push fun h=>h1 h.1) fun h1=>?_
   by_cases h2:(l.getD i tokD).text=defd
   · refine zP (zMN h2) ?_
     rw [if_pos ⟨h1,h2⟩] at hp
     have hb:∀ k:Nat,k < l.length->inB (k:Int) l.length=true:=fun k hk=>zb (by omega) (by omega)
     have hlt2:∀ k:Nat,k < l.length->ilt (k:Int) (lenI l)=true:=fun k hk=>xn (by show (k:Int) < (l.length:Int); omega)
     have hge2:∀ k:Nat,l.length<=k->ilt (k:Int) (lenI l)=false:=fun k hk=>qu (by show (l.length:Int)<=(k:Int); omega)
     by_cases g1:i+1 < l.length
     · refine zG (hlt2 _ g1) (zG (hb _ g1) ?_)
       by_cases g5:(l.getD (i+1) tokD).kind=5
       · refine zG (qW g5) (zG (hb _ g1) ?_)
         by_cases g40:(l.getD (i+1) tokD).text=[40]
         · have hsg:sg (l.drop (i+1))=[40]:=by rw [zDk g1,if_pos g5]; exact g40
           rw [if_pos hsg,List.drop_drop] at hp
           refine zG (zBJ g40) ?_
           by_cases g2:i+2 < l.length
           · rw [show i+1+1=i+2 from rfl,xR g2] at hp
             dsimp only at hp
             refine zG (hlt2 _ g2) (zG (hb _ g2) ?_)
             by_cases k1:(l.getD (i+2) tokD).kind=1
             · rw [if_pos k1] at hp
               refine zP (by rw [qW k1]; rfl) (zG (zKD (by omega)) ?_)
               by_cases g3:i+3 < l.length
               · refine zG (hlt2 _ g3) (zG (hb _ g3) ?_)
                 have hs3:=zDk g3
                 by_cases k5:(l.getD (i+3) tokD).kind=5
                 · rw [if_pos k5] at hs3
                   refine zG (qW k5) (zG (hb _ g3) ?_)
                   by_cases k41:(l.getD (i+3) tokD).text=[41]
                   · rw [show i+2+1=i+3 from rfl,if_pos (hs3.trans k41),List.drop_drop] at hp
                     refine zP (by rw [zBJ k41]; rfl) (zG (hb _ g2) (zM (h48 _) ?_))
                     by_cases km:(l.getD (i+2) tokD).text ∈ ns
                     · unfold mkD at hp
                       rw [if_pos km] at hp
                       exact zG (decide_eq_true km) (zG (okA (by omega)) (hrec _ ⟨i+4,n,_,rfl,g3,by rw [List.length_append,List.length_singleton]; omega,by omega,hp⟩ (by dsimp only; omega)))
                     · unfold mkD at hp
                       rw [if_neg km] at hp
                       exact zP (decide_eq_false km) (zG (okA (by omega)) (hrec _ ⟨i+4,n,_,rfl,g3,by rw [List.length_append,List.length_singleton]; omega,by omega,hp⟩ (by dsimp only; omega)))
                   · rw [show i+2+1=i+3 from rfl,if_neg (fun e=>k41 (hs3.symm.trans e))] at hp
                     subst hp
                     exact zG (by rw [zCs k41]; rfl) rfl
                 · rw [if_neg k5] at hs3
                   rw [show i+2+1=i+3 from rfl,hs3,if_neg (by decide)] at hp
                   subst hp
                   exact zP (zBn k5) rfl
               · rw [show i+2+1=i+3 from rfl,List.drop_eq_nil_of_le (by omega),if_neg (by decide)] at hp
                 subst hp
                 exact zP (hge2 _ (by omega)) rfl
             · rw [if_neg k1] at hp
               subst hp
               exact zG (by rw [zBn k1]; rfl) rfl
           · rw [show i+1+1=i+2 from rfl,List.drop_eq_nil_of_le (by omega)] at hp
             dsimp only at hp
             subst hp
             exact zP (hge2 _ (by omega)) rfl
         · have hsg:sg (l.drop (i+1))≠[40]:=by rw [zDk g1,if_pos g5]; exact g40
           refine zP (zCs g40) ?_
           rw [if_neg hsg] at hp
           by_cases g2:i+1 < l.length
           · rw [xR g2] at hp
             dsimp only at hp
             refine zG (hlt2 _ g2) (zG (hb _ g2) ?_)
             by_cases k1:(l.getD (i+1) tokD).kind=1
             · rw [if_pos k1] at hp
               refine zP (by rw [qW k1]; rfl) (zP (zDe rfl) (zG (hb _ g2) (zM (h48 _) ?_)))
               by_cases km:(l.getD (i+1) tokD).text ∈ ns
               · unfold mkD at hp
                 rw [if_pos km] at hp
                 exact zG (decide_eq_true km) (zG (okA (by omega)) (hrec _ ⟨i+2,n,_,rfl,g2,by rw [List.length_append,List.length_singleton]; omega,by omega,hp⟩ (by dsimp only; omega)))
               · unfold mkD at hp
                 rw [if_neg km] at hp
                 exact zP (decide_eq_false km) (zG (okA (by omega)) (hrec _ ⟨i+2,n,_,rfl,g2,by rw [List.length_append,List.length_singleton]; omega,by omega,hp⟩ (by dsimp only; omega)))
             · rw [if_neg k1] at hp
               subst hp
               exact zG (by rw [zBn k1]; rfl) rfl
           · rw [List.drop_eq_nil_of_le (by omega)] at hp
             dsimp only at hp
             subst hp
             exact zP (hge2 _ (by omega)) rfl
       · have hsg:sg (l.drop (i+1))≠[40]:=by rw [zDk g1,if_neg g5]; decide
         refine zP (zBn g5) ?_
         rw [if_neg hsg] at hp
         by_cases g2:i+1 < l.length
         · rw [xR g2] at hp
           dsimp only at hp
           refine zG (hlt2 _ g2) (zG (hb _ g2) ?_)
           by_cases k1:(l.getD (i+1) tokD).kind=1
           · rw [if_pos k1] at hp
             refine zP (by rw [qW k1]; rfl) (zP (zDe rfl) (zG (hb _ g2) (zM (h48 _) ?_)))
             by_cases km:(l.getD (i+1) tokD).text ∈ ns
             · unfold mkD at hp
               rw [if_pos km] at hp
               exact zG (decide_eq_true km) (zG (okA (by omega)) (hrec _ ⟨i+2,n,_,rfl,g2,by rw [List.length_append,List.length_singleton]; omega,by omega,hp⟩ (by dsimp only; omega)))
             · unfold mkD at hp
               rw [if_neg km] at hp
               exact zP (decide_eq_false km) (zG (okA (by omega)) (hrec _ ⟨i+2,n,_,rfl,g2,by rw [List.length_append,List.length_singleton]; omega,by omega,hp⟩ (by dsimp only; omega)))
           · rw [if_neg k1] at hp
             subst hp
             exact zG (by rw [zBn k1]; rfl) rfl
         · rw [List.drop_eq_nil_of_le (by omega)] at hp
           dsimp only at hp
           subst hp
           exact zP (hge2 _ (by omega)) rfl
     · have hsg:sg (l.drop (i+1))≠[40]:=by rw [List.drop_eq_nil_of_le (by omega)]; decide
       refine zP (hge2 _ (by omega)) ?_
       rw [if_neg hsg] at hp
       by_cases g2:i+1 < l.length
       · rw [xR g2] at hp
         dsimp only at hp
         refine zG (hlt2 _ g2) (zG (hb _ g2) ?_)
         by_cases k1:(l.getD (i+1) tokD).kind=1
         · rw [if_pos k1] at hp
           refine zP (by rw [qW k1]; rfl) (zP (zDe rfl) (zG (hb _ g2) (zM (h48 _) ?_)))
           by_cases km:(l.getD (i+1) tokD).text ∈ ns
           · unfold mkD at hp
             rw [if_pos km] at hp
             exact zG (decide_eq_true km) (zG (okA (by omega)) (hrec _ ⟨i+2,n,_,rfl,g2,by rw [List.length_append,List.length_singleton]; omega,by omega,hp⟩ (by dsimp only; omega)))
           · unfold mkD at hp
             rw [if_neg km] at hp
             exact zP (decide_eq_false km) (zG (okA (by omega)) (hrec _ ⟨i+2,n,_,rfl,g2,by rw [List.length_append,List.length_singleton]; omega,by omega,hp⟩ (by dsimp only; omega)))
         · rw [if_neg k1] at hp
           subst hp
           exact zG (by rw [zBn k1]; rfl) rfl
       · rw [List.drop_eq_nil_of_le (by omega)] at hp
         dsimp only at hp
         subst hp
         exact zP (hge2 _ (by omega)) rfl
   · exact zG (zME h2) (push fun h=>h2 h.2)
 · obtain rfl:i=l.length:=by omega
   rw [List.drop_length,zH1] at hp
   subst hp
   exact zP (qu (Int.le_refl _)) rfl
end
section
open Go.Al Go.Den
abbrev TI6:Type:=Int×(Str×(Int×(Int×(Int×(Bool×PUnit)))))
abbrev LN:Type:=((List TokT)×(Int×PUnit))×(TI6×PUnit)
theorem zFQ {R:Type} (fu:Nat) (ns:List Str) (hn:ns.length < 1000) (hfu:2000 < fu) (x:Str) (acc:List TokT) (f a b:Int) (c:Bool) (bd:Bool) (hbd:bd=true) (G:LN->Option R) (r:R)
 (hG:G ((acc,((ns.length:Int),())),((2,((if x ∈ ns then [49] else [48]),(f,(a,(b,(c,())))))),()))=some r) :
 iter fu (fun (rec2:LN->Option R) (s2:LN)=>
  cond (ilt s2.1.2.1 (lenI ns))
   (cond (inB s2.1.2.1 (List.length ns))
    (cond bd
     (cond (seq (List.getD ns (Int.toNat s2.1.2.1) []) x)
      (rec2 ((s2.1.1,((iadd .i64 s2.1.2.1 1),())),((s2.2.1.1,([49],(s2.2.1.2.2.1,(s2.2.1.2.2.2.1,(s2.2.1.2.2.2.2.1,(s2.2.1.2.2.2.2.2.1,())))))),())))
      (rec2 ((s2.1.1,((iadd .i64 s2.1.2.1 1),())),((s2.2.1.1,(s2.2.1.2.1,(s2.2.1.2.2.1,(s2.2.1.2.2.2.1,(s2.2.1.2.2.2.2.1,(s2.2.1.2.2.2.2.2.1,())))))),()))))
     none)
    none)
   (G s2)) ((acc,(0,())),((2,([48],(f,(a,(b,(c,())))))),()))=some r:=by
 subst hbd
 refine zy (fun st=>∃ (j:Nat) (t:Str),st=(((acc,((j:Int),())),((2,(t,(f,(a,(b,(c,())))))),())):LN)/\j<=ns.length/\(if x ∈ ns.drop j then [49] else t)=(if x ∈ ns then ([49]:Str) else [48])) (fun st=>ns.length - st.1.2.1.toNat) ?_ fu _ ⟨0,[48],rfl,Nat.zero_le _,rfl⟩ (by dsimp only; omega)
 rintro rec st ⟨j,t,rfl,hj,hp⟩ hrec
 dsimp only at hrec ⊢
 by_cases hlt:j < ns.length
 · have hd:ns.drop j=ns.getD j []::ns.drop (j+1):=by rw [List.drop_eq_getElem_cons hlt,zFo _ j [] hlt]
   refine zG (xn (by show (j:Int) < (ns.length:Int); omega)) (zG (zb (by omega) (by omega)) (zG rfl ?_))
   rw [Int.toNat_natCast,i1n j (by omega)]
   rw [hd] at hp
   by_cases hq:ns.getD j []=x
   · refine zG (zBJ hq) (hrec _ ⟨j+1,[49],rfl,hlt,?_⟩ (by dsimp only; omega))
     rw [if_pos (by rw [hq]; exact List.mem_cons_self ..)] at hp
     rw [<- hp]
     by_cases h:x ∈ ns.drop (j+1)
     · rw [if_pos h]
     · rw [if_neg h]
   · refine zP (zCs hq) (hrec _ ⟨j+1,t,rfl,hlt,?_⟩ (by dsimp only; omega))
     rw [<- hp]
     have e:(x ∈ ns.getD j []::ns.drop (j+1))↔(x ∈ ns.drop (j+1)):=by rw [List.mem_cons]; exact ⟨fun h=>h.resolve_left (fun e=>hq e.symm),.inr⟩
     simp only [e]
 · obtain rfl:j=ns.length:=by omega
   rw [List.drop_length,if_neg (by simp)] at hp
   subst hp
   exact zP (qu (Int.le_refl _)) hG
theorem c21_eq (fu:Nat) (l:List TokT) (ns:List Str) (hl:l.length < 1400) (hn:ns.length < 1000) (hfu:2000 < fu):c21 fu (l,ns,())=some ((defF ns l.length l []).1,(defF ns l.length l []).2,()):=by
 show sh21 fu c49 (fun _=>false) l ns=_
 obtain ⟨res,hres⟩:∃ res,res=defF ns l.length l []:=⟨_,rfl⟩
 rw [<- hres]
 unfold sh21
 refine zy (fun st=>∃ (i n:Nat) (acc:List TokT),st=(((acc,((i:Int),())),()):(List TokT×(Int×PUnit))×PUnit)/\i<=l.length/\acc.length<=i/\l.length - i<=n/\defF ns n (l.drop i) acc=res) (fun st=>l.length - st.1.2.1.toNat) ?_ fu _ ⟨0,l.length,[],rfl,Nat.zero_le _,Nat.le_refl _,Nat.le_refl _,hres.symm⟩ (by dsimp only; omega)
 rintro rec st ⟨i,n,acc,rfl,hi,hacc,hn2,hp⟩ hrec
 dsimp only at hrec ⊢
 have e1:iadd .i64 (i:Int) 1=((i+1:Nat):Int):=xP i 1 (by omega)
 have e2:iadd .i64 ((i+1:Nat):Int) 1=((i+2:Nat):Int):=xP (i+1) 1 (by omega)
 have e3:iadd .i64 ((i+2:Nat):Int) 1=((i+3:Nat):Int):=xP (i+2) 1 (by omega)
 have e4:iadd .i64 ((i+3:Nat):Int) 1=((i+4:Nat):Int):=xP (i+3) 1 (by omega)
 by_cases hlt:i < l.length
 · obtain ⟨n,rfl⟩:∃ n',n=n' + 1:=⟨n - 1,by omega⟩
   rw [xR hlt,zC2] at hp
   have hin:inB (i:Int) l.length=true:=zb (by omega) (by omega)
   refine zG (xn (by show (i:Int) < (l.length:Int); omega)) (zG hin ?_)
   simp only [Int.toNat_natCast,e1,e2,e3,e4,zJY]
   have push:¬ ((l.getD i tokD).kind=1/\(l.getD i tokD).text=defd)->cond (okN 56 (acc.length+[l.getD i tokD].length)) (rec ((acc++[l.getD i tokD],(((i+1:Nat):Int),())),())) none=some (res.1,res.2,()):=fun hd=>by
    rw [if_neg hd] at hp
    refine zG (okA (by omega)) (hrec _ ⟨i+1,n,_,rfl,hlt,by rw [List.length_append,List.length_singleton]; omega,by omega,hp⟩ (by dsimp only; omega))
   refine jC (fun h1=>push fun h=>h1 h.1) fun h1=>?_
   by_cases h2:(l.getD i tokD).text=defd
   · refine zP (zMN h2) ?_
     rw [if_pos ⟨h1,h2⟩] at hp
     have hb:∀ k:Nat,k < l.length->inB (k:Int) l.length=true:=fun k hk=>zb (by omega) (by omega)
     have hle:∀ k:Nat,k < l.length->ile (lenI l) (k:Int)=false:=fun k hk=>ile_f (by show (k:Int) < (l.length:Int); omega)
     have hge:∀ k:Nat,l.length<=k->ile (lenI l) (k:Int)=true:=fun k hk=>ile_t (by show (l.length:Int)<=(k:Int); omega)
     refine zM (zLD l (i+1) [40] (by decide)) ?_
     dsimp only
     by_cases hsg:sg (l.drop (i+1))=[40]
     · rw [if_pos hsg,List.drop_drop,show i+1+1=i+2 from rfl] at hp
       refine zG (decide_eq_true hsg) ?_
       by_cases g2:i+2 < l.length
       · rw [xR g2] at hp
         dsimp only at hp
         refine zP (hle _ g2) (zG (hb _ g2) ?_)
         by_cases k1:(l.getD (i+2) tokD).kind=1
         · rw [if_pos k1,show i+2+1=i+3 from rfl] at hp
           refine zP (zDe k1) ?_
           refine zFQ fu ns hn hfu (l.getD (i+2) tokD).text acc (l.getD i tokD).file (l.getD i tokD).ffrom (l.getD i tokD).fto (l.getD i tokD).blank _ (hb _ g2) _ _ ?_
           dsimp only
           refine zG (decide_eq_true hsg) (zM (zLD l (i+3) [41] (by decide)) ?_)
           dsimp only
           by_cases h41:sg (l.drop (i+3))=[41]
           · have g3:=zOE (by decide) h41
             rw [if_pos h41,List.drop_drop] at hp
             refine zP (dnot_t h41) (zG (okA (by omega)) (hrec _ ⟨i+4,n,_,rfl,g3,by rw [List.length_append,List.length_singleton]; omega,by omega,hp⟩ (by dsimp only; omega)))
           · rw [if_neg h41] at hp
             subst hp
             exact zG (dnot_f h41) rfl
         · rw [if_neg k1] at hp
           subst hp
           exact zG (zKD k1) rfl
       · rw [List.drop_eq_nil_of_le (by omega)] at hp
         dsimp only at hp
         subst hp
         exact zG (hge _ (by omega)) rfl
     · rw [if_neg hsg] at hp
       refine zP (decide_eq_false hsg) ?_
       by_cases g1:i+1 < l.length
       · rw [xR g1] at hp
         dsimp only at hp
         refine zP (hle _ g1) (zG (hb _ g1) ?_)
         by_cases k1:(l.getD (i+1) tokD).kind=1
         · rw [if_pos k1,show i+1+1=i+2 from rfl] at hp
           refine zP (zDe k1) ?_
           refine zFQ fu ns hn hfu (l.getD (i+1) tokD).text acc (l.getD i tokD).file (l.getD i tokD).ffrom (l.getD i tokD).fto (l.getD i tokD).blank _ (hb _ g1) _ _ ?_
           dsimp only
           exact zP (decide_eq_false hsg) (zG (okA (by omega)) (hrec _ ⟨i+2,n,_,rfl,g1,by rw [List.length_append,List.length_singleton]; omega,by omega,hp⟩ (by dsimp only; omega)))
         · rw [if_neg k1] at hp
           subst hp
           exact zG (zKD k1) rfl
       · rw [List.drop_eq_nil_of_le (by omega)] at hp
         dsimp only at hp
         subst hp
         exact zG (hge _ (by omega)) rfl
   · exact zG (zME h2) (push fun h=>h2 h.2)
 · obtain rfl:i=l.length:=by omega
   rw [List.drop_length,zH1] at hp
   subst hp
   exact zP (qu (Int.le_refl _)) rfl
theorem zMS (fu:Nat) (l:List TokT) (hfu:l.length < fu) (hl:l.length < 4000):c22 fu (l,l,())=some (true,()):=by
 show sh22 fu (fun _=>false) l l=_
 unfold sh22
 refine zP (zDe rfl) ?_
 refine zy (fun st=>∃ a:Nat,st=((((a:Int),()),()):(Int×PUnit)×PUnit)/\a<=l.length) (fun st=>l.length - st.1.1.toNat) ?_ fu _ ⟨0,rfl,Nat.zero_le _⟩ (by dsimp only; omega)
 rintro rec st ⟨a,rfl,ha⟩ hrec
 dsimp only at hrec ⊢
 by_cases hlt:a < l.length
 · have hin:inB (a:Int) l.length=true:=zb (by omega) (by omega)
   refine zG (xn (by show (a:Int) < (l.length:Int); omega)) (zG hin (zG hin ?_))
   refine zG (qW rfl) (zG (zBJ rfl) (zG (qW rfl) (zG (qW rfl) (zG (qW rfl) (zG (by unfold beqB; simp) ?_)))))
   rw [i1n a (by omega)]
   exact hrec _ ⟨a+1,rfl,hlt⟩ (by dsimp only; omega)
 · exact zP (qu (by show (l.length:Int)<=(a:Int); omega)) rfl
theorem zIF (ns:List Str):∀ (n:Nat) (l a:List TokT),(defF ns n l a).1.length<=n+a.length
 | 0,l,a=>by show a.length<=_; omega
 | n+1,[],a=>by show a.length<=_; omega
 | n+1,t::r,a=>by
  rw [zC2]
  have ih:=fun l (x:TokT)=>zIF ns n l (a++[x])
  simp only [List.length_append,List.length_singleton] at ih
  have z:∀ e:Int,(([],e):List TokT×Int).1.length<=n+1+a.length:=fun e=>Nat.zero_le _
  split
  · split
    · split
      · exact z _
      · split
        · split
          · exact Nat.le_trans (ih _ _) (by omega)
          · exact z _
        · exact z _
    · split
      · exact z _
      · split
        · exact Nat.le_trans (ih _ _) (by omega)
        · exact z _
  · exact Nat.le_trans (ih _ _) (by omega)
theorem zNN (s:Str) (ns:List Str):sh7 3000 c8t (c10 3000) (c12 3000) (c20 3000) (c21 3000) (c22 3000) (fun _=>false) s ns=some (true,()):=by
 unfold sh7
 refine zM (v:=(true,())) rfl ?_
 by_cases hl:500 < s.length
 · exact zG (xn (by show (500:Int) < (s.length:Int); omega)) rfl
 refine zP (qu (by show (s.length:Int)<=500; omega)) ?_
 by_cases hn:50 < ns.length
 · exact zG (xn (by show (50:Int) < (ns.length:Int); omega)) rfl
 refine zP (qu (by show (ns.length:Int)<=50; omega)) ?_
 have hf:=zKQ 0 s
 refine zM (c10_eq 3000 0 s (by omega) (by omega)) ?_
 refine zM (c20_eq 3000 (tokS 0 s) ns (by omega) (by omega) (by omega)) ?_
 refine zM (c12_eq 3000 0 s (by omega) (by omega)) ?_
 refine zM (c21_eq 3000 (tokS 0 s) ns (by omega) (by omega) (by omega)) ?_
 have hd:=zIF ns (tokS 0 s).length (tokS 0 s) []
 have h0:([]:List TokT).length=0:=rfl
 generalize defF ns (tokS 0 s).length (tokS 0 s) []=r at hd ⊢
 refine zG rfl (zG (qW rfl) (zM (zMS 3000 r.1 (by omega) (by omega)) rfl))
def u7 (_:Str×List Str×Unit):Option (Bool×Unit):=some (true,())
theorem ok7:ConOk CC Tryd.prog 7 ⟨as7,rs7,u7⟩:=fun x y hx=>by
 obtain ⟨z,ns,u⟩:=x
 change Str at z
 change List Str at ns
 replace hx:some (true,())=some y:=hx
 injection hx with hx
 subst hx
 exact con7 3000 c8t ok8t (c10 3000) (ok10 3000) (c12 3000) (ok12 3000) (c20 3000) (ok20 3000) (c21 3000) (ok21 3000) (c22 3000) (ok22 3000) (z,ns,u) (true,()) (zNN z ns)
end
end Go.Proofs.YtonnigoiklahdaaDoor
namespace Go.Proofs.YtonnigoiklahdaaDoor.ifexprDefined
section
open Go.Al Go.Den Go.ChangeShapes Go.WideShapes Go.ChangeAt Go.RowKit
open Go.ChangeMaps (open_string shut_string)
theorem own:ownKnob Tryd.prog.godebug=none:=by kernel_rfl
theorem laidOut:laidOutB Tryd.prog=true:=by kernel_rfl
theorem walk (z0:List UInt8) (n1:Bool) (z1:List (List UInt8)) (W:World) (hgl:GlobOk W.heap.size (wmOf W) W) (v0 v1:Value) (h0:RV1 ⟨wmOf W,fun _=>none,Fr.no⟩ W (.at (.string ⟨z0.toArray⟩)) v0) (h1:RV1 ⟨wmOf W,fun _=>none,Fr.no⟩ W (.lst (if n1 then .nil else .no) (z1.map fun z=>V.at (.string ⟨z.toArray⟩))) v1):Calls Tryd.prog 7 #[v0,v1] W fun e W'=>e = .returned (.bool true)/\Below W.heap.size W W':=by
 have hp:=ok7 (z0,z1,()) (true,()) rfl _ ⟨_,_,rfl,rfl,⟨_,_,rfl,⟨n1,rfl⟩,rfl⟩⟩
 refine (hp (wmOf W) W [v0,v1] (zJy W) hgl (.cons h0 (.cons h1 RVs.nil))).mono ?_
 rintro e W' ⟨v,wm',rfl,_,hst,hr⟩
 have hv:v = .bool true:=zT hr
 subst hv
 exact ⟨rfl,hst.below⟩
set_option maxRecDepth 100000 in
theorem lifted (os:Os) (started:os.Started) (H:Type) (enc:TypeId×Value->H) :
 ReturnsInHanded {} Tryd.checked os 7 .any (fun w args=>(Rows.ifexprDefinedSpec.pre enc Tryd.prog Tryd.f7 [] false w args/\laidMetH Tryd.prog zFW w)/\sizedMet enc Tryd.prog Tryd.f7 (OpenSpec.ofChange Rows.ifexprDefinedSpec) false w args)
  (Rows.ifexprDefinedSpec.post enc Tryd.prog Tryd.f7 false true false false):=by
 refine zCS (C:=Tryd.checked) (X:=fun w _=>laidMetH Tryd.prog zFW w) (fun _ _ _ hh h=>laidMetH.of_heap hh h) own started (by kernel_rfl) Tryd.func7
  (ChangeSpec.witness_shaped (enc:=enc) (C:=Tryd.checked) (os:=os) (X:=fun w _=>laidMetH Tryd.prog zFW w) false (World.doorLaid Tryd.prog 400 os) #[.string ByteArray.empty,.slice none 0 0] 8 rfl (World.shaped_of_RefB (by kernel_rfl) (by kernel_rfl)) (by kernel_rfl) (by kernel_rfl) (by kernel_rfl) (zNF os _)) ?_
 intro W base args ds gs before hval0 hW hsh hL
 have hval:∀ (j:Nat) t v,Tryd.f7.params[j]? = some t->args[j]? = some v->Value.okWide Tryd.prog W .any base t v:=hval0
 have hW':=hW
 obtain ⟨p,q,hA0,hV,rfl,hfz,hnd⟩:=hW
 have hA:DataW.TrodAll enc Tryd.prog W 0 (fun _=>true) true Tryd.f7.params.toList args.toList ds p:=hA0
 rw [Tryd.params7] at hA hval
 obtain ⟨v0,vs0,d0,ds0,p0,q0,hargs,rfl,rfl,h0,r0⟩:=trodAll_cons hA
 obtain ⟨v1,vs1,d1,ds1,p1,q1,rfl,rfl,rfl,h1,r1⟩:=trodAll_cons r0
 obtain ⟨rfl,rfl,rfl⟩:=trodAll_nil r1
 obtain rfl:args = #[v0,v1]:=by cases args; simp_all
 obtain ⟨rfl,rfl⟩:=trodVars_none hV
 have hgl:=zFk hsh hL
 have k0:=h0
 have lt0:∀ x ∈ p0,x.block < W.heap.size:=by obtain ⟨m,hm⟩:=k0; exact DataW.trod_lt m _ _ _ hm
 obtain ⟨s0,rfl,rfl,rfl,w0⟩:=open_string Tryd.underlying9 (hval 0 9 v0 rfl rfl) h0
 have k1:=h1
 have lt1:∀ x ∈ p1,x.block < W.heap.size:=by obtain ⟨m,hm⟩:=k1; exact DataW.trod_lt m _ _ _ hm
 obtain ⟨n1,z1,w1⟩:=zLI Tryd.underlying30 Tryd.underlying9 (by kernel_rfl) (hval 1 30 v1 rfl rfl) h1
 clear hA0 hval0
 refine (walk s0.data.toList n1 z1 W hgl _ _ (zNy s0) w1).mono fun e W' ⟨he,bel⟩=>?_
 subst he
 exact ⟨_,rfl,_,_,_,[],_,[],hW',trodAll_mk1 (shut_bool Tryd.underlying4 _),(trodAll_cons_mk (Below.trod laidOut (by kernel_rfl) (of_decide_eq_true (by kernel_rfl)) k0 bel lt0) (trodAll_cons_mk (Below.trod laidOut (by kernel_rfl) (of_decide_eq_true (by kernel_rfl)) k1 bel lt1) trodAll_mk0)),rfl,bel.frame _,fun h=>by cases h⟩
theorem over:Rows.IfexprDefinedSaid:=
 OpenClaim.holds_of_wide 7 Tryd.f7 rfl rfl rfl rfl rfl rfl rfl ⟨rfl,rfl,rfl,rfl,rfl⟩ rfl rfl rfl rfl rfl (by kernel_rfl) Tryd.func7 (by kernel_rfl)
  (of_decide_eq_true (by kernel_rfl)) (by unfold Func.isWrapper; first | (rw [if_pos (by decide +kernel)]; kernel_rfl) | (rw [if_neg (by decide +kernel)]; exact ⟨rfl,rfl⟩))
  (fun os started H enc _=>lifted os started H enc)
theorem ifexprDefined_holds:Rows.IfexprDefinedCardSaid:=
 Claim7.holds_tied_plain_at .later [] [.listed,.data,.data] true (true, "9147890bc36f5da7ddbf85365800fa2858e58f193b221afb2dd99ffeef9cecf5") false
  over (fun _ h=>by cases h) (by kernel_rfl) (fun _ h=>by cases h) ifexprDefined_row_tie rfl ⟨rfl,rfl⟩ (by kernel_rfl) rfl
  (fun f fn hf hfn=>by
   obtain rfl:f=7:=Option.some.inj ((show Tryd.prog.funcNamed "emend/emendlaw09.IfexprDefined" = some 7 by kernel_rfl).symm.trans hf) |>.symm
   obtain rfl:fn=Tryd.f7:=(Option.some.inj (Tryd.func7.symm.trans hfn)).symm
   exact ⟨by kernel_rfl,fun j t ht=>by
    rw [Tryd.params7] at ht
    have hm:t ∈ [9,30]:=by simpa using Array.mem_of_getElem? ht
    have hall:([9,30].all fun u=>!Tryd.prog.wantsStandIn u)=true:=by kernel_rfl
    exact (show Tryd.prog.wantsStandIn t=false by simpa using List.all_eq_true.1 hall t hm)⟩)
  (by kernel_rfl)
end
end Go.Proofs.YtonnigoiklahdaaDoor.ifexprDefined
