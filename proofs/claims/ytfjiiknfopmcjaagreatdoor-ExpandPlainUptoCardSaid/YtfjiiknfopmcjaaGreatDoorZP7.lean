/-
  A name that stands for tokens without names gives these: for every three texts, where they and what the listed variables hold are of bulk at most 1048576, the law ExpandPlain answers true, and leaves its arguments as they were. No condition, but that the listed package-level variables hold what the program's text lays (the card ties them).
-/
import Derived.Test.YtfjiiknfopmcjaaGreatDoorZP6
import Derived.Test.YtfjiiknfopmcjaaGreatDoorProg
import Derived.Test.YtfjiiknfopmcjaaGreatDoorCards
set_option linter.unusedVariables false
set_option linter.unusedSimpArgs false
set_option linter.unusedSectionVars false
namespace Go.Cx
section
open Go.RowKit
inductive PV where
 |ptr
 |slc (n:Nat)
def PV.val(p:PV)(b:Nat):Value:=
 match p with
 |.ptr=>.pointer (some ⟨b,0,none⟩)
 |.slc n=>.slice (some ⟨b,0,none⟩) n n
def PV.T(p:PV)(l:Nat):T:=
 match p with
 |.ptr=>.ptr l 0
 |.slc n=>.slc l 0 n n
def pvB(p q:PV):Bool:=
 match p with
 |.ptr=>(match q with|.ptr=>true|_=>false)
 |.slc n=>(match q with|.slc m=>Nat.beq n m|_=>false)
theorem pvB_ok{p q:PV}(h:pvB p q=true):p=q:=by
 unfold pvB at h;split at h<;>split at h<;>first|cases h;done|rfl|rw[beq_iff.1 h]
theorem PV.tr_eq(p:PV)(N:NM)(l:Nat):tr N (p.T l)=p.val (N.bl l):=by cases p<;>rfl
theorem PV.bd(p:PV){l nl:Nat}(h:l<nl):Cx.bd nl (p.T l):=by cases p<;>exact h
structure PE where
 i:Nat
 o:Oper
 cs:List T
 pv:PV
 el:Nat
def PE.pr(N:NM)(p:PE):Nat×(Nat->Value)×Obj:=(p.i,p.pv.val,.cells (p.cs.map (tr N)).toArray p.el)
def prpB(o:Oper):Bool:=
 match o.op with
 |.alloc _=>true
 |.box _ _=>true
 |.buildSlice _ _ _=>true
 |_=>false
noncomputable def prpK(D:Dat)(e:Tr T)(o:Oper)(κ:List T->PV->Nat->Bool):Bool:=
 match o.op with
 |.alloc t=>(match D.tt.get t with
  |some d=>(match d.zs with
   |some a=>κ a .ptr t
   |none=>false)
  |none=>false)
 |.box t x=>evK D.ng e x λx=>zGV x λcs=>κ cs .ptr t
 |.buildSlice t n ps=>(match ps with|⟨l⟩=>evpK D.ng e l λps=>fN n λn=>(match D.tt.get t with
  |some d=>(match d.u with
   |.slice el=>(match D.tt.get el with
    |some e=>(match e.zs with
     |some a=>bif Nat.beq a.length e.sz&&Nat.blt 0 e.sz&&Nat.ble (n*e.sz) 16777216 then repK a n λcs=>filK (λi κ=>κ (i*e.sz) e.sz) ps cs λcs'=>κ cs' (.slc n) el else false
     |none=>false)
    |none=>false)
   |_=>false)
  |none=>false))
 |_=>false
noncomputable def eqsT(a:List T):List T->Bool:=
 List.rec (motive:=λ_=>List T->Bool) (λb=>List.casesOn (motive:=λ_=>Bool) b true λ_ _=>false)
  (λx _ c b=>List.casesOn (motive:=λ_=>Bool) b false λy r=>eqT x y&&c r) a
theorem zOd(N:NM):∀{a b:List T},eqsT a b=true->a.map (tr N)=b.map (tr N)
 |[],[],_=>rfl
 |[],_::_,h=>by cases h
 |_::_,[],h=>by cases h
 |x::a,y::b,h=>by
  have h:(eqT x y&&eqsT a b)=true:=h;rw[zV5]at h;simp only[zV6];rw[zLN h.1 N,zOd N h.2]
noncomputable def inP(l:List PE)(k:Nat):Bool:=
 List.rec (motive:=λ_=>Bool) false (λp _ a=>bif Nat.beq p.i k then true else a) l
theorem zIO{k:Nat}:∀{l:List PE},inP l k=false->∀p∈l,p.i≠k
 |[],_,p,a=>by cases a
 |q::l,h,p,a=>by
  have h:(bif Nat.beq q.i k then true else inP l k)=false:=h;cases b:Nat.beq q.i k with
  |true=>rw[b]at h;cases h
  |false=>
   rw[b,zWH]at h;rcases zWB.1 a with rfl|a
   .intro e;rw[beq_iff.2 e]at b;cases b
   .exact zIO h p a
theorem zMV{k:Nat}:∀{l:List PE},inP l k=true->∃p∈l,p.i=k
 |[],h=>by cases h
 |q::l,h=>by
  have h:(bif Nat.beq q.i k then true else inP l k)=true:=h;cases a:Nat.beq q.i k with
  |true=>exact⟨q,by simp,beq_iff.1 a⟩
  |false=>
   rw[a,zWH]at h;obtain⟨p,b,e⟩:=zMV h;exact⟨p,zWU _ b,e⟩
noncomputable def remK(i:Nat)(l:List PE):(List PE->Bool)->Bool:=
 List.rec (motive:=λ_=>(List PE->Bool)->Bool) (λκ=>κ []) (λp _ a κ=>bif Nat.beq p.i i then a κ else a λr=>κ (p::r)) l
theorem zJb{i:Nat}:∀{l:List PE}{κ:List PE->Bool},remK i l κ=κ (l.filter λp=>p.i != i)
 |[],κ=>rfl
 |p::l,κ=>by
  show(bif Nat.beq p.i i then remK i l κ else remK i l λr=>κ (p::r))=_;cases a:Nat.beq p.i i with
  |true=>rw[zWQ,zJb,zZA (by simpa using beq_iff.1 a)]
  |false=>
   rw[zWH,zJb,zZB (by
    simp only[bne_iff_ne,ne_eq];intro e;rw[beq_iff.2 e]at a;cases a)]
def nilB(l:List PE):Bool:=match l with|[]=>true|_::_=>false
noncomputable def pchk(D:Dat)(a:Nat)(dsts:List (Option Nat))(e:Tr T)(κ:Bool)(l:List PE):Bool:=
 List.rec (motive:=λ_=>Bool) κ (λp _ b=>bif (kX a dsts e p.o.guard λc=>bif c then prpK D e p.o (λcs pv el=>eqsT p.cs cs&&pvB p.pv pv&&Nat.beq p.el el)else false)then b else false) l
noncomputable def pasF(D:Dat)(a:Nat)(dsts:List (Option Nat))(mt:Tr Nat)(c:Nat)(np:Bool)(l:List Oper):Nat->Nat->List (Nat×Oper×T)->Tr T->XS->(Nat->List (Nat×Oper×T)->Tr T->Bool)->Bool:=
 List.rec (motive:=λ_=>Nat->Nat->List (Nat×Oper×T)->Tr T->XS->(Nat->List (Nat×Oper×T)->Tr T->Bool)->Bool) (λ_ M pend e _ κ=>κ M pend e)
  (λo _ b i M pend e S κ=>bif !bitB M i&&zIG o&&!bitB c i&&mB mt i λm=>subB m M then
   (kX a dsts e o.guard λd=>bif d then xst D e S o (λx=>bif np||xst D e S o (eqT x)then putE a o.dst x e λe=>fN (addB M i) λM=>fN (i+1) λj=>b j M ((i,o,x)::pend) e S κ else false)else putE a o.dst (.tup []) e λe=>fN (addB M i) λM=>fN (i+1) λj=>b j M ((i,o,.tup [])::pend) e S κ)
   else fN (i+1) λj=>b j M pend e S κ) l
noncomputable def domB(l:List Oper)(mt:Tr Nat)(M:Nat)(preps:List PE)(i:Nat):Bool:=
 zAk (λk _=>!(bitB M k||Nat.beq k i||inP preps k||mB mt k λm=>bitB m i)) l 0 (λ_ _=>false) true
noncomputable def cmtK(D:Dat)(a:Nat)(dsts:List (Option Nat))(l:List Oper)(mt:Tr Nat)(M:Nat)(pend:List (Nat×Oper×T))(preps:List PE)(e:Tr T)(S:XS)(b:Nat->List (Nat×Oper×T)->List PE->Tr T->XS->Bool)(c:Bool)(ps:List PE):Bool:=
 List.rec (motive:=λ_=>Bool) c (λp _ r=>bif domB l mt M preps p.i then
  (newK S (.row 0 p.cs 0 p.el) λn S=>putE a p.o.dst (p.pv.T n) e λe=>remK p.i preps λpreps=>rchF D a dsts 0 e S pend λpend=>pchk D a dsts e (fN (addB M p.i) λM=>b M pend preps e S) preps)else r) ps
noncomputable def xdrF(rc:XC)(D:Dat)(a:Nat)(dsts:List (Option Nat))(l:List Oper)(mt:Tr Nat)(g:Nat)(f:Nat):Nat->List (Nat×Oper×T)->List PE->Tr T->XS->(Tr T->XS->Bool)->Bool:=
 Nat.rec (motive:=λ_=>Nat->List (Nat×Oper×T)->List PE->Tr T->XS->(Tr T->XS->Bool)->Bool) (λ_ _ _ _ _ _=>false)
  (λ_ b M pend preps e S K=>pasF D a dsts mt g (nilB preps) l 0 M pend e S λM pend e=>
   zAk (λi _=>!(bitB M i||inP preps i)&&(mB mt i λm=>subB m M)&&domB l mt M preps i) l 0
    (λi o=>mB mt i λm=>
     (kX a dsts e o.guard λc=>bif c then xopF D e S o (λd S=>(match d with
      |.v x=>putE a o.dst x e λe=>rchF D a dsts m e S pend λpend=>pchk D a dsts e (fN (addB M i) λM=>b M pend preps e S K) preps
      |.sk=>putE a o.dst (.tup []) e λe=>rchF D a dsts m e S pend λpend=>pchk D a dsts e (fN (addB M i) λM=>b M pend preps e S K) preps
      |.ent f args=>xfn rc D f args S λr S=>(match r with
       |.ret x=>putE a o.dst x e λe=>rchF D a dsts m e S pend λpend=>pchk D a dsts e (fN (addB M i) λM=>b M pend preps e S K) preps
       |.pan _=>false)
      |_=>false))else putE a o.dst (.tup []) e λe=>rchF D a dsts m e S pend λpend=>pchk D a dsts e (fN (addB M i) λM=>b M pend preps e S K) preps))
    (zAk (λi o=>!(bitB M i||inP preps i)&&prpB o&&!bitB g i&&mB mt i λm=>subB m M) l 0
     (λi o=>kX a dsts e o.guard λc=>bif c then prpK D e o (λcs pv el=>rchF D a dsts 0 e S pend λpend=>pchk D a dsts e (b M pend (⟨i,o,cs,pv,el⟩::preps) e S K) (⟨i,o,cs,pv,el⟩::preps))
      else putE a o.dst (.tup []) e λe=>fN (addB M i) λM=>b M ((i,o,.tup [])::pend) preps e S K)
     (cmtK D a dsts l mt M pend preps e S (λM pend preps e S=>b M pend preps e S K)
      (bif nilB preps&&zAk (λi _=>!bitB M i) l 0 (λ_ _=>false) true then K e S else false) preps))) f
noncomputable def zNK(D:Dat):XC->Option Nat->Nat->List Oper->Tr T->XS->List DE->XK->Bool:=λrc _ a l e S ds K=>
 mskK l 0 .lf .lf λmt b=>dirK ⟨l⟩ mt b l 0 0 λc=>xdrF rc D a (l.map (·.dst)) l mt c (2*l.length+1) 0 [] [] e S (λe S=>K .n e S ds)
section
variable{P:Program}{B:Bs}{N:NM}{S:XS}{w:World}{D:Dat}{rc:XC}
theorem zOa(s:DOk P D)(u:D.ng=B.ng)(I:HSim B N S w){J:Nat}{e:Tr T}{a:Act}(r:ESim N S.nl J e a.tmps){o:Oper}{κ:List T->PV->Nat->Bool}(h:prpK D e o κ=true) :
 ∃cs pv el,κ cs pv el=true/\bds S.nl cs/\ones cs/\(execOp a.eval o).run P w=.ok (.value (pv.val w.heap.size)) (w.alloc (.cells (cs.map (tr N)).toArray el)):=by
 unfold prpK at h;rw[u]at h;unfold execOp;split at h<;>(try(rename_i v;rw[v]))<;>(try simp only)
 .rename_i t;split at h
  .rename_i d y;have A:=s.tt _ _ y;split at h
   .rename_i g C;obtain⟨z,b,f,j,K,L⟩:=A.run_zero C N w;refine⟨g,.ptr,t,h,yS (zWd _) _ K,L,?_⟩;have e:(g.map (tr N)).toArray=z.cells:=by rw[<-j]
    rw[e];refine xJ ?_;generalize(Option.map a.eval (o.dst.map Operand.tmp)).getD undef=old
    first
     |(cases old<;>simp[Instr.alloc,b,newVar,newRow,PV.val]<;>rfl)
     |simp[Instr.alloc,b,newVar,newRow,PV.val]
   .cases h
  .cases h
 .rename_i t x;obtain⟨W,b,f,j⟩:=zc I r h;obtain⟨cs,E,F,G,k⟩:=zEw b j N;refine⟨cs,.ptr,t,E,G,k,xJ ?_⟩;rw[f];simp[Instr.box,newVar,newRow,F,PV.val]
 .rename_i t n ps;split at h;rename_i l;obtain⟨ps,b,f,j⟩:=zD8 I r h;rw[zy]at b;have H:((l.toArray).map λ(i,x)=>(i,a.eval x))=(ps.map λp=>(p.1,tr N p.2)).toArray:=by
   rw[<-f];simp
  rw[show(Array.map (λx=>match x with|(i,x)=>(i,a.eval x)) (Array.mk l))=(ps.map λp=>(p.1,tr N p.2)).toArray from H];split at b
  .rename_i d y;have A:=s.tt _ _ y;split at b
   .rename_i el M;split at b
    .rename_i e r;have c:=s.tt _ _ r;split at b
     .rename_i g C;obtain⟨z,z1,z2,z3,z4⟩:=c.zs g C;obtain⟨b,f⟩:=zO b;simp only[zV5]at b;have O:=beq_iff.1 b.1.1;have Q:=blt_iff.1 b.1.2;have X:=zWF b.2;rw[zBv]at f;obtain⟨cs',E,F,G,k⟩:=zEj (place:=λi=>some (i*e.sz,e.sz)) (λi κ R=>⟨_,_,rfl,R⟩) N f j (yS (zWd _) _ (zAr z3 n)) (zAL z4 n);refine⟨cs',.slc n,el,E,F,G,xJ ?_⟩;have m:P.underlying t=some (.slice el):=by rw[A.und,M]
      by_cases q:n*e.sz=0
      .have U:n=0:=by
        rcases Nat.mul_eq_zero.1 q with h|h
        .exact h
        .omega
       subst U;have V:Instr.fill (λi=>some (i*e.sz,e.sz)) #[] (ps.map λp=>(p.1,tr N p.2))=some (cs'.map (tr N)).toArray:=by simpa using k
       simp[Instr.buildSlice,run_underlying m,c.run_sz,V,newRow,PV.val,show(Array.range 0:Array Nat)=#[]from rfl]
      .have H:(Array.range (n*e.sz)).map (z.cells[· % z.cells.size]!)=((List.replicate n g).flatten.map (tr N)).toArray:=by
        apply zXK;rw[zCU (N:=N) (z2 N) O Q]
       rw[<-H]at k;simp[Instr.buildSlice,run_underlying m,c.run_sz,q,show ¬(16777216<n*e.sz)by omega,zeroValue,typeInfo,c.info,z1,k,newRow,PV.val]
     .cases b
    .cases b
   .cases b
  .cases b
 .cases h
theorem zJa(m:DOk P D)(c:D.ng=B.ng)(n:HSim B N S w){f:Nat}{e:Tr T}{a:Act}(k:ESim N S.nl f e a.tmps){ops:Array Oper}{κ:Bool}:∀{l:List PE},pchk D f (ops.toList.map (·.dst)) e κ l=true->κ=true/\∀p∈l,ops[p.i]?=some p.o->Alc P ops p.i p.pv.val (.cells (p.cs.map (tr N)).toArray p.el) a w
 |[],h=>⟨h,λ_ d=>by cases d⟩
 |q::l,h=>by
  have h:(bif (kX f (ops.toList.map (·.dst)) e q.o.guard λs=>bif s then prpK D e q.o (λcs pv el=>eqsT q.cs cs&&pvB q.pv pv&&Nat.beq q.el el)else false)then pchk D f (ops.toList.map (·.dst)) e κ l else false)=true:=h;obtain⟨t,u⟩:=zO h;obtain⟨v,x⟩:=zJa m c n k u;refine⟨v,λp d r=>?_⟩;rcases zWB.1 d with rfl|d
  .have g:=zAs k t;cases b:Region.wanted p.o (yielded ops a.tmps)with
   |false=>rw[b,zWH]at g;cases g
   |true=>
    rw[b,zWQ]at g;obtain⟨cs,pv,el,j,_,_,y⟩:=zOa m c n k g;simp only[zV5]at j;have z:=zOd N j.1.1;have A:=pvB_ok j.1.2;have C:=beq_iff.1 j.2;refine⟨p.o,r,b,?_⟩;rw[z,A,C];exact y
  .exact x p d r
theorem HSim.named(i:HSim B N S w){cs:List T}{K:Nat->XS->Bool}{b el:Nat}(h:newK S (.row 0 cs 0 el) K=true)(f:bds S.nl cs)(k:ones cs)(m:B.B<=b)(e:∀l o,S.h.get l=some o->xL o=false->N.bl l≠b)(a:w.heap[b]?=some (.cells (cs.map (tr N)).toArray el)) :
 ∃d,K S.nl d=true/\HSim B (N.add S.nl b 0) d w/\d.nl=S.nl+1/\∀j,d.h.get j=if j=S.nl then some (.row 0 cs 0 el)else S.h.get j:=by
 unfold newK at h;rw[zy]at h;obtain⟨h',c,g⟩:=Tr.setK_ok _ _ _ _ _ h;rw[zy]at c;refine⟨_,c,i.name m (zV8.1 a).1 rfl e ?_ g,rfl,g⟩;rw[a];refine⟨_,0,rfl,zWd _,by simp,?_,⟨yS (zWh _) _ f,k⟩,by simp⟩;rw[zC7 (N.ext_add _ _ _) f];exact zXM (by simp)
def GF(np:Prop)(B:Bs)(c:Nat)(N0:NM)(S0:XS)(w0:World)(N:NM)(e:Tr T)(S:XS)(ds:List DE)(a1:Act)(w1:World):Fam:=λX a w=>
 Sm B c N e S ds a w/\Stp B N0 S0 w0 N S w/\(∀b,X b->w0.heap.size<=b/\b<w.heap.size/\∀l o,S.h.get l=some o->xL o=false->N.bl l≠b)/\(np->a=a1/\w=w1)
theorem GF.ok{np:Prop}(j:¬np){l:Nat}{N0:NM}{S0:XS}{w0:World}{e:Tr T}{ds:List DE}{a1:Act}{w1:World}:zBO (GF np B l N0 S0 w0 N e S ds a1 w1):=by
 rintro X a w ob ⟨g,i,m,_⟩;have c:∀b,b<w.heap.size->(w.alloc ob).heap[b]?=w.heap[b]?:=λb d=>Below.heap_alloc w ob b d;have n:(w.alloc ob).heap.size=w.heap.size+1:=by show(w.heap.push ob).size=_;simp
 have h:=g.sim.same c (by omega);have f:Stp B N S w N S (w.alloc ob):=.stay h c ⟨rfl,rfl,rfl,by omega,λk o=>c k (zWN o g.sim.base)⟩;refine⟨g.later f,i.trans f,λb d=>?_,λq=>absurd q j⟩;rcases d with d|rfl
 .obtain⟨p,s,r⟩:=m b d;exact⟨p,by omega,r⟩
 .exact⟨i.bel.size,by omega,g.sim.free⟩
theorem Sm.ren{f:Nat}{e:Tr T}{ds:List DE}{a:Act}(h:Sm B f N e S ds a w){b:NM}{c:XS}(g:Ext S.nl N b)(i:S.nl<=c.nl)(j:HSim B b c w):Sm B f b e c ds a w:=
 ⟨h.env.ext g i,j,by rw[zGs g h.lt];exact h.df,λd k=>zEp i (h.lt d k)⟩
theorem zG6{b:Nat}{e:Tr T}{d:Option Nat}{x:T}{κ:Tr T->Bool}(c:putE b d x e κ=true):∃e',κ e'=true/\∀{N:NM}{S:XS}{ds:List DE}{a:Act}{w:World},Sm B b N e S ds a w->bd S.nl x->Sm B b N e' S ds (a.put d (tr N x)) w:=by
 unfold putE at c;cases d with
 |none=>exact⟨e,c,λh _=>h⟩
 |some t=>
  obtain⟨i,j⟩:=zO c;have l:=blt_iff.1 i;obtain⟨e',m,g⟩:=Tr.setK_ok _ _ _ _ _ j;refine⟨e',m,λ{N S ds a w} h n=>⟨⟨by simp[Act.put,h.env.size],λk=>?_,λk=>?_⟩,h.sim,h.df,h.lt⟩⟩
  .rw[zBr g];simp only[Act.put];have o:t<a.tmps.size:=by rw[h.env.size];exact l
   split
   .rename_i f;subst f;simp[zWS,o]
   .rename_i f;have:=h.env.val k;rw[<-this];simp[zWS,zXY (zW8 f)]
  .rw[zBr g];split
   .exact n
   .exact h.env.bd k
theorem zOs{ops:Array Oper}{mt:Tr Nat}(g:MOk ops ops.size mt){M i:Nat}{preps:List PE}(h:domB ops.toList mt M preps i=true):∀k,k<ops.size->¬(M.testBit k=true)->(∀q∈preps.map (PE.pr N),q.1≠k)->k≠i->Bef ops i k:=λk f a j b=>by
 rcases zDE h with⟨_,_,_,_,q⟩|⟨q,_⟩
 .cases q
 .have:=q k ops[k] (by simp[f]);rw[zWP]at this;simp only[Bool.not_eq_false',zXF,zAw,beq_iff]at this;rcases this with((q|q)|q)|q
  .exact absurd q a
  .exact absurd q b
  .obtain⟨p,c,e⟩:=zMV q;exact absurd e (j _ (zWa.2 ⟨p,c,rfl⟩))
  .unfold mB at q;split at q
   .rename_i l d;exact g.bef k l f d i q
   .cases q
structure PendOk(ops:Array Oper)(nl:Nat)(pend:List (Nat×Oper×T))(preps:List PE):Prop where
 pn:∀p∈pend,ops[p.1]?=some p.2.1/\bd nl p.2.2
 pp:∀p∈preps,ops[p.i]?=some p.o/\bds nl p.cs/\ones p.cs
theorem PendOk.mono{ops:Array Oper}{nl b:Nat}{pend:List (Nat×Oper×T)}{preps:List PE}(h:PendOk ops nl pend preps)(c:nl<=b):PendOk ops b pend preps:=
 ⟨λp a=>⟨(h.pn p a).1,qi c _ (h.pn p a).2⟩,λp a=>⟨(h.pp p a).1,yS c _ (h.pp p a).2.1,(h.pp p a).2.2⟩⟩
def pnM(N:NM)(pend:List (Nat×Oper×T)):List (Nat×Value):=pend.map λp=>(p.1,tr N p.2.2)
theorem zJc{a:NM}{nl:Nat}{ops:Array Oper}{pend:List (Nat×Oper×T)}{preps:List PE}(b:Ext nl N a)(h:PendOk ops nl pend preps):pnM a pend=pnM N pend:=
 zWx λp c=>by rw[zEB b _ (h.pn p c).2]
theorem zGi{a:NM}{nl:Nat}{ops:Array Oper}{pend:List (Nat×Oper×T)}{preps:List PE}(b:Ext nl N a)(h:PendOk ops nl pend preps):preps.map (PE.pr a)=preps.map (PE.pr N):=
 zWx λp c=>by unfold PE.pr;rw[zC7 b (h.pp p c).2.1]
theorem zNx{l:List PE}:nilB l=true↔l=[]:=by cases l<;>simp[nilB]
theorem zMn(l:DOk P D)(c:D.ng=B.ng){f:Nat}{ops:Array Oper}{m:Nat}{e:Tr T}{κ:List (Nat×Oper×T)->Bool}{pend:List (Nat×Oper×T)}{preps:List PE}{N0:NM}{S0:XS}{w0:World}{ds:List DE}{a1:Act}{w1:World}{np:Prop}(n:PendOk ops S.nl pend preps)
 (h:(rchF D f (ops.toList.map (·.dst)) m e S pend λpend=>pchk D f (ops.toList.map (·.dst)) e (κ pend) preps)=true) {X:Nat->Prop} (o:GF np B f N0 S0 w0 N e S ds a1 w1 X a1 w1) :
 ∃b,κ b=true/\PendOk ops S.nl b preps/\(∀p∈pnM N pend,m.testBit p.1=true\/(p∈pnM N b/\∀X a w,GF np B f N0 S0 w0 N e S ds a1 w1 X a w->Yld P ops p.1 p.2 a w))/\(∀q∈preps.map (PE.pr N),∀X a w,GF np B f N0 S0 w0 N e S ds a1 w1 X a w->Alc P ops q.1 q.2.1 q.2.2 a w)/\(m=0->b=pend):=by
 obtain⟨r,_⟩:=zGq l c o.1.sim o.1.env h;obtain⟨s,_⟩:=zJa l c o.1.sim o.1.env r;refine⟨_,s,⟨λp d=>n.pn p (zXP.1 d).1,n.pp⟩,λp d=>?_,λq t X a w g=>?_,λe=>by subst e;simp⟩
 .obtain⟨p,i,rfl⟩:=zWa.1 d;cases u:m.testBit p.1 with
  |true=>exact .inl rfl
  |false=>
   have j:p∈pend.filter λp=>!m.testBit p.1:=zXP.2 ⟨i,by rw[u];rfl⟩;refine .inr ⟨zWa.2 ⟨p,j,rfl⟩,λX a w g=>?_⟩;exact(zGq l c g.1.sim g.1.env h).2 p j (n.pn p i).1
 .obtain⟨q,k,rfl⟩:=zWa.1 t;exact(zJa l c g.1.sim g.1.env r).2 q k (n.pp q k).1
theorem zJO(Z:DOk P D)(r:D.ng=B.ng){c:Nat}{ops:Array Oper}{fr:Option Nat}{mt:Tr Nat}(hm:MOk ops ops.size mt){z:Nat}(s:∀i,z.testBit i=false->zCl ops i){Q:Exit->Act->World->Prop}{ds:List DE}{N0:NM}{S0:XS}{w0:World}{F:Nat}{preps:List PE}:∀{l:List Oper}{i M:Nat}{pend:List (Nat×Oper×T)}{e:Tr T}{X:Nat->Prop}{a:Act}{κ:Nat->List (Nat×Oper×T)->Tr T->Bool},(∀k,l[k]?=ops[i+k]?) ->
 pasF D c (ops.toList.map (·.dst)) mt z (nilB preps) l i M pend e S κ=true->GF (preps=[]) B c N0 S0 w0 N e S ds a w X a w->PendOk ops S.nl pend preps->(∀q∈preps,prpB q.o=true)->(∀q∈preps,¬(M.testBit q.i=true)) ->
 (∀M' d e' a',κ M' d e'=true->GF (preps=[]) B c N0 S0 w0 N e' S ds a' w X a' w->PendOk ops S.nl d preps->(∀q∈preps,¬(M'.testBit q.i=true))->CanF P ops fr Q F (λk=>M'.testBit k=true) (pnM N d) (preps.map (PE.pr N)) (GF (preps=[]) B c N0 S0 w0 N e' S ds a' w)) ->
 CanF P ops fr Q (l.length+F) (λk=>M.testBit k=true) (pnM N pend) (preps.map (PE.pr N)) (GF (preps=[]) B c N0 S0 w0 N e S ds a w)
 |[],i,M,pend,e,X,a,κ,hl,h,f,H,u,v,hk=>by
  rw[zWI,zWP];exact hk M pend e a h f H v
 |o::l,i,M,pend,e,X,a,κ,hl,h,f,H,u,v,hk=>by
  have h:(bif !bitB M i&&zIG o&&!bitB z i&&mB mt i λm=>subB m M then
   (kX c (ops.toList.map (·.dst)) e o.guard λwn=>bif wn then xst D e S o (λx=>bif nilB preps||xst D e S o (eqT x)then putE c o.dst x e λe=>fN (addB M i) λM=>fN (i+1) λj=>pasF D c (ops.toList.map (·.dst)) mt z (nilB preps) l j M ((i,o,x)::pend) e S κ else false)else putE c o.dst (.tup []) e λe=>fN (addB M i) λM=>fN (i+1) λj=>pasF D c (ops.toList.map (·.dst)) mt z (nilB preps) l j M ((i,o,.tup [])::pend) e S κ)
   else fN (i+1) λj=>pasF D c (ops.toList.map (·.dst)) mt z (nilB preps) l j M pend e S κ)=true:=h
  have C:ops[i]?=some o:=by simpa using(hl 0).symm
  have hi:=(zV8.1 C).1;have aa:yD ops i=o.dst:=by simp[yD,C]
  have K:∀k,l[k]?=ops[i+1+k]?:=λk=>by have:=hl (k+1);simpa [zX7,zYZ 1 k]using this
  have L:(o::l).length+F=(l.length+F)+1:=by simp;omega
  rw[L];cases hc:(!bitB M i&&zIG o&&!bitB z i&&mB mt i λm=>subB m M)with
  |false=>
   rw[hc,zWH,zy]at h;exact .inl (zJO Z r hm s K h f H u v hk)
  |true=>
   rw[hc,zWQ]at h;simp only[zV5,zXE,zAw]at hc;obtain⟨⟨⟨h4,E⟩,O⟩,h5⟩:=hc;unfold mB at h5;split at h5
   case h_2=>cases h5
   rename_i m hg;have R:PreIn ops (λk=>M.testBit k=true) i:=λo' ab ed he g=>zNM h5 (hm.dir i m o' hi hg ab ed he g).2;have U:∀q∈preps.map (PE.pr N),q.1≠i:=λq hq e=>by
    obtain⟨q,V,rfl⟩:=zWa.1 hq;have h1:=(H.pp q V).1;have e:q.i=i:=e;rw[e,C]at h1;injection h1 with h1
    have h2:=u q V;rw[<-h1]at h2;unfold prpB at h2;unfold zIG at E;cases ac:o.op<;>rw[ac]at h2 E<;>simp at h2 E
   have next:∀{x:T},bd S.nl x->(putE c o.dst x e λe=>fN (addB M i) λM=>fN (i+1) λj=>pasF D c (ops.toList.map (·.dst)) mt z (nilB preps) l j M ((i,o,x)::pend) e S κ)=true->CanF P ops fr Q (l.length+F) (λk=>M.testBit k=true\/k=i) ((i,tr N x)::pnM N pend) (preps.map (PE.pr N)) (Fam.put (GF (preps=[]) B c N0 S0 w0 N e S ds a w) (yD ops i) (tr N x)):=λ{x} g q=>by
    obtain⟨e',t1,t2⟩:=zG6 (B:=B) q;rw[zy,zy]at t1;rw[<-zFQ,aa];refine CanF.mono (I:=GF (preps=[]) B c N0 S0 w0 N e' S ds (a.put o.dst (tr N x)) w) ?_ (zJO Z r hm s K t1 (X:=X) ⟨t2 f.1 g,f.2.1,f.2.2.1,λ_=>⟨rfl,rfl⟩⟩ ⟨λp G=>?_,H.pp⟩ u (λq hq g=>?_) hk)
    .rintro X' _ w' ⟨a0,rfl,q1,q2,q3,q4⟩;exact⟨t2 q1 g,q2,q3,λhn=>by obtain⟨W,Y⟩:=q4 hn;subst W;subst Y;exact⟨rfl,rfl⟩⟩
    .rcases zWB.1 G with rfl|G
     .exact⟨C,g⟩
     .exact H.pn p G
    .rw[kv]at g;simp only[zXF,zWV]at g;rcases g with g|g
     .exact v q hq g
     .exact U _ (zWa.2 ⟨q,hq,rfl⟩) g.symm
   refine .inr (.inr (.inl ⟨i,hi,λq=>absurd (show M.testBit i=true from q) (by rw[h4];simp),R,U,.inl ?_⟩));have hw:=zAs f.1.env h;cases n:Region.wanted o (yielded ops a.tmps)with
   |true=>
    rw[n,zWQ]at hw;obtain⟨x,k1,k2,k3⟩:=zLq Z r f.1.sim f.1.env hw;obtain⟨J,k5⟩:=zO k1;refine⟨tr N x,s i O,λX' a' w' b=>?_,next k3 k5⟩;rw[zXF,zNx]at J;rcases J with J|J
    .obtain⟨W,Y⟩:=b.2.2.2 J;subst W;subst Y;exact⟨o,C,.inl ⟨n,k2⟩⟩
    .have ad:=zAs b.1.env h;cases A:Region.wanted o (yielded ops a'.tmps)with
     |true=>
      obtain⟨y,W,Y,r3⟩:=zLq Z r b.1.sim b.1.env J;exact⟨o,C,.inl ⟨A,by rw[Y,zLN W N]⟩⟩
     |false=>
      exfalso;have hh:Region.wanted o (yielded ops a'.tmps)=Region.wanted o (yielded ops a.tmps):=by
       have ee:∀t,a'.tmps.getD t undef=a.tmps.getD t undef:=λt=>by rw[b.1.env.val t,f.1.env.val t]
       have es:a'.tmps.size=a.tmps.size:=by rw[b.1.env.size,f.1.env.size]
       exact zAb ⟨es,λt _=>ee t⟩
      rw[n,A]at hh;cases hh
   |false=>
    rw[n,zWH]at hw;refine⟨undef,s i O,λX' a' w' b=>⟨o,C,.inr ⟨?_,rfl⟩⟩,next (x:=.tup []) trivial hw⟩;have ee:∀t,a'.tmps.getD t undef=a.tmps.getD t undef:=λt=>by rw[b.1.env.val t,f.1.env.val t]
    have es:a'.tmps.size=a.tmps.size:=by rw[b.1.env.size,f.1.env.size]
    rw[zAb (a:=a) (a':=a') ⟨es,λt _=>ee t⟩];exact n
theorem GF.act{np:Prop}{b:Nat}{N0:NM}{S0:XS}{w0:World}{e:Tr T}{ds:List DE}{a1 a a':Act}{w1 w w':World}(h:Sm B b N e S ds a w)(h':Sm B b N e S ds a' w'):a'=a:=
 zOG (by rw[h.env.size,h'.env.size]) (by rw[h.df,h'.df]) λt=>by rw[h.env.val t,h'.env.val t]
theorem zD4(Z:CodeOk P B rc)(hD:DOk P D)(z:D.ng=B.ng){d:Nat}{ops:Array Oper}{fr:Option Nat}{mt:Tr Nat}(hm:MOk ops ops.size mt)(aa:Static ops){A:Nat}(J:∀i,A.testBit i=false->zCl ops i){N0:NM}{S0:XS}{w0:World}{ds:List DE}{K:Tr T->XS->Bool}(ab:B.B<=w0.heap.size):∀(f:Nat){M:Nat}{pend:List (Nat×Oper×T)}{preps:List PE}{e:Tr T}{N:NM}{S:XS}{X:Nat->Prop}{a:Act}{w:World},
 xdrF rc D d (ops.toList.map (·.dst)) ops.toList mt A f M pend preps e S K=true->GF (preps=[]) B d N0 S0 w0 N e S ds a w X a w->PendOk ops S.nl pend preps->(∀q∈preps,prpB q.o=true)->(∀q∈preps,¬(M.testBit q.i=true)) ->
 CanF P ops fr (DQ B d N0 S0 w0 ds K) (f*(ops.size+1)) (λk=>M.testBit k=true) (pnM N pend) (preps.map (PE.pr N)) (GF (preps=[]) B d N0 S0 w0 N e S ds a w)
 |0,M,pend,preps,e,N,S,X,a,w,h,L,C,V,E=>by cases h
 |f+1,M,pend,preps,e,N,S,X,a,w,h,L,C,V,E=>by
  have ar:(f+1)*(ops.size+1)=ops.toList.length+(f*(ops.size+1)+1):=by rw[Nat.succ_mul,zWi];omega
  rw[ar];refine zJO hD z hm J (l:=ops.toList) (i:=0) (by simp) h L C V E λM pend e a H L C E=>?_;have ag:∀{i m:Nat},i<ops.size->mt.get i=some m->subB m M=true->PreIn ops (λk=>M.testBit k=true) i:=λ{i m} hi hg au o O ed he g=>zNM au (hm.dir i m o hi hg O ed he g).2;have ah:∀{i},inP preps i=false->∀q∈preps.map (PE.pr N),q.1≠i:=λ{i} h q s=>by
   obtain⟨q,av,rfl⟩:=zWa.1 s;exact zIO h q av
  replace H:(zAk (λi _=>!(bitB M i||inP preps i)&&(mB mt i λm=>subB m M)&&domB ops.toList mt M preps i) ops.toList 0
   (λi o=>mB mt i λm=>
    (kX d (ops.toList.map (·.dst)) e o.guard λwn=>bif wn then xopF D e S o (λaj S=>(match aj with
     |.v x=>putE d o.dst x e λe=>rchF D d (ops.toList.map (·.dst)) m e S pend λpend=>pchk D d (ops.toList.map (·.dst)) e (fN (addB M i) λM=>xdrF rc D d (ops.toList.map (·.dst)) ops.toList mt A f M pend preps e S K) preps
     |.sk=>putE d o.dst (.tup []) e λe=>rchF D d (ops.toList.map (·.dst)) m e S pend λpend=>pchk D d (ops.toList.map (·.dst)) e (fN (addB M i) λM=>xdrF rc D d (ops.toList.map (·.dst)) ops.toList mt A f M pend preps e S K) preps
     |.ent fn args=>xfn rc D fn args S λr S=>(match r with
      |.ret x=>putE d o.dst x e λe=>rchF D d (ops.toList.map (·.dst)) m e S pend λpend=>pchk D d (ops.toList.map (·.dst)) e (fN (addB M i) λM=>xdrF rc D d (ops.toList.map (·.dst)) ops.toList mt A f M pend preps e S K) preps
      |.pan _=>false)
     |_=>false))else putE d o.dst (.tup []) e λe=>rchF D d (ops.toList.map (·.dst)) m e S pend λpend=>pchk D d (ops.toList.map (·.dst)) e (fN (addB M i) λM=>xdrF rc D d (ops.toList.map (·.dst)) ops.toList mt A f M pend preps e S K) preps))
   (zAk (λi o=>!(bitB M i||inP preps i)&&prpB o&&!bitB A i&&mB mt i λm=>subB m M) ops.toList 0
    (λi o=>kX d (ops.toList.map (·.dst)) e o.guard λwn=>bif wn then prpK D e o (λcs pv el=>rchF D d (ops.toList.map (·.dst)) 0 e S pend λpend=>pchk D d (ops.toList.map (·.dst)) e (xdrF rc D d (ops.toList.map (·.dst)) ops.toList mt A f M pend (⟨i,o,cs,pv,el⟩::preps) e S K) (⟨i,o,cs,pv,el⟩::preps))
     else putE d o.dst (.tup []) e λe=>fN (addB M i) λM=>xdrF rc D d (ops.toList.map (·.dst)) ops.toList mt A f M ((i,o,.tup [])::pend) preps e S K)
    (cmtK D d (ops.toList.map (·.dst)) ops.toList mt M pend preps e S (λM pend preps e S=>xdrF rc D d (ops.toList.map (·.dst)) ops.toList mt A f M pend preps e S K)
     (bif nilB preps&&zAk (λi _=>!bitB M i) ops.toList 0 (λ_ _=>false) true then K e S else false) preps)))=true:=H
  rcases zDE H with⟨i,o,h1,Y,H⟩|⟨_,H⟩
  . -- one that turns something
    rw[zWP]at Y H;have O:ops[i]?=some o:=by simpa using h1
    have hi:=(zV8.1 O).1;have ae:yD ops i=o.dst:=by simp[yD,O]
    simp only[zV5,zXE,Bool.or_eq_false_iff,zAw]at Y;obtain⟨⟨⟨Y,ac⟩,F⟩,aw⟩:=Y;unfold mB at H F;split at H
    case h_2=>cases H
    rename_i m hg;rw[hg]at F;have ad:=zOs (N:=N) hm aw;refine .inr (.inr (.inl ⟨i,hi,λq=>absurd (show M.testBit i=true from q) (by rw[Y];simp),ag hi hg F,ah ac,.inr (.inr ⟨ad,λXm am wm j=>?_⟩)⟩));obtain rfl:am=a:=GF.act (N0:=N0) (S0:=S0) (w0:=w0) (np:=False) (a1:=a) (w1:=w) L.1 j.1;have ax:=aa.nosel i o O;have next:∀{N1:NM}{S1:XS}{w1:World}{x:T},Stp B N S wm N1 S1 w1->bd S1.nl x->(putE d o.dst x e λe=>rchF D d (ops.toList.map (·.dst)) m e S1 pend λpend=>pchk D d (ops.toList.map (·.dst)) e (fN (addB M i) λM=>xdrF rc D d (ops.toList.map (·.dst)) ops.toList mt A f M pend preps e S1 K) preps)=true ->
     ∃(I1:Fam)(t:List (Nat×Value)),(preps.map (PE.pr N)≠[]->zBO I1)/\I1 Xm (am.put o.dst (tr N1 x)) w1/\(∀b,Xm b->w1.heap[b]?=wm.heap[b]?) /\
      (∀p∈pnM N pend,Bef ops p.1 i\/(p∈t/\∀X a w,I1 X a w->Yld P ops p.1 p.2 a w))/\(∀q∈preps.map (PE.pr N),∀X a w,I1 X a w->Alc P ops q.1 q.2.1 q.2.2 a w) /\
      CanF P ops fr (DQ B d N0 S0 w0 ds K) (f*(ops.size+1)) (λk=>M.testBit k=true\/k=i) t (preps.map (PE.pr N)) I1:=λ{N1 S1 w1 x} Q q2 q3=>by
     obtain⟨e',t1,t2⟩:=zG6 (B:=B) q3;have R:=C.mono Q.nl;have u:GF (preps=[]) B d N0 S0 w0 N1 e' S1 ds (am.put o.dst (tr N1 x)) w1 Xm (am.put o.dst (tr N1 x)) w1:=by
      refine⟨t2 (j.1.later Q) q2,j.2.1.trans Q,λb g=>?_,λ_=>⟨rfl,rfl⟩⟩;obtain⟨r1,r2,r3⟩:=j.2.2.1 b g;refine⟨r1,zWN r2 Q.bel.size,λl o hl hd eb=>?_⟩;rcases Q.prov l o hl hd with r|⟨l',o',s1,s2,s3⟩
      .omega
      .exact r3 l' o' s1 s2 (s3.trans eb)
     obtain⟨t,t3,tp,t4,t5,_⟩:=zMn (P:=P) (κ:=λpend=>fN (addB M i) λM=>xdrF rc D d (ops.toList.map (·.dst)) ops.toList mt A f M pend preps e' S1 K) hD z R t1 u;rw[zy]at t3;refine⟨_,pnM N1 t,λhn=>GF.ok (np:=preps=[]) λe=>hn (by rw[e];rfl),u,λb g=>?_,λp y=>?_,λq s=>?_,?_⟩
     .obtain⟨r1,r2,r3⟩:=j.2.2.1 b g;exact Q.frm b r2 r3
     .rw[<-zJc Q.ext C]at y;rcases t4 p y with q|q
      .exact .inl (hm.bef i m hi hg _ q)
      .exact .inr q
     .rw[<-zGi Q.ext C]at s;exact t5 q s
     .rw[<-zFQ,<-zGi Q.ext C];exact zD4 Z hD z hm aa J ab f t3 u tp V λq s g=>by
       rw[kv]at g;simp only[zXF,zWV]at g;rcases g with g|g
       .exact E q s g
       .exact zIO ac q s g.symm
    have hw:=zAs j.1.env H;unfold wpOpIn;simp only[O];cases W:Region.wanted o (yielded ops am.tmps)with
    |false=>
     rw[W,zWH]at hw;rw[if_neg (by simp)];obtain⟨I1,t,r1,r2,r3,r4⟩:=next (x:=.tup []) (.refl j.1.sim) trivial hw;exact⟨λ_ _=>trivial,I1,t,r1,r2,λ_ _=>trivial,r4⟩
    |true=>
     rw[W,zWQ,zOl]at hw;rw[if_pos rfl];refine⟨λ_ _=>trivial,?_⟩;rw[Oper.semAt_eq _ _ _ ax.2];obtain⟨aj,N1,S1,w1,k1,k2,k3⟩:=zRR hD z j.1.sim j.1.env hw;cases aj with
     |v x=>rw[k3.1,Oper.uponIn_value];exact next k2 k3.2 k1
     |sk=>
      have k3:(execOp am.eval o).run P wm=.ok .skip w1:=k3;rw[k3,Oper.uponIn_skip];exact next (x:=.tup []) k2 trivial k1
     |ent fn args=>
      obtain⟨k3,k4,k5⟩:=k3;rw[k3,Oper.uponIn_enter];refine⟨λe=>(by cases e),CallsIn.mono (zIu Z hD z k1 k2.sim k4 fr) ?_⟩;rintro en w2 ⟨r,N2,S2,t1,t2,t3⟩;cases r with
      |ret x=>obtain⟨rfl,t2⟩:=t2;exact next (k2.trans t3) t2 t1
      |pan x=>cases t1
     |rnd l' args=>cases k1
     |dfr fn args caps=>cases k1
     |rcv=>cases k1
     |pan x=>cases k1
  rcases zDE H with⟨i,o,h1,Y,H⟩|⟨_,H⟩
  . -- an allocation gets ready
    rw[zWP]at Y H;have O:ops[i]?=some o:=by simpa using h1
    have hi:=(zV8.1 O).1;have ae:yD ops i=o.dst:=by simp[yD,O]
    simp only[zV5,zXE,Bool.or_eq_false_iff,zAw]at Y;obtain⟨⟨⟨⟨Y,ac⟩,ay⟩,al⟩,F⟩:=Y;unfold mB at F;split at F
    case h_2=>cases F
    rename_i m hg;refine .inr (.inr (.inl ⟨i,hi,λq=>absurd (show M.testBit i=true from q) (by rw[Y];simp),ag hi hg F,ah ac,?_⟩));have hw:=zAs L.1.env H;cases W:Region.wanted o (yielded ops a.tmps)with
    |false=>
     rw[W,zWH]at hw;left;refine⟨undef,J i al,λX' a' w' G=>⟨o,O,.inr ⟨?_,rfl⟩⟩,?_⟩
     .obtain rfl:a'=a:=GF.act (N0:=N0) (S0:=S0) (w0:=w0) (np:=False) (a1:=a) (w1:=w) L.1 G.1;exact W
     .obtain⟨e',t1,t2⟩:=zG6 (B:=B) hw;rw[zy]at t1;rw[<-zFQ,ae];refine CanF.mono (I:=GF (preps=[]) B d N0 S0 w0 N e' S ds (a.put o.dst undef) w) ?_ (zD4 Z hD z hm aa J ab f (pend:=(i,o,.tup [])::pend) t1 (X:=X) ⟨t2 L.1 trivial,L.2.1,L.2.2.1,λ_=>⟨rfl,rfl⟩⟩ ⟨λp y=>?_,C.pp⟩ V λq s g=>?_)
      .rintro X' _ w' ⟨a0,rfl,Q,q2,q3,q4⟩;exact⟨t2 Q trivial,q2,q3,λhn=>by obtain⟨r1,r2⟩:=q4 hn;subst r1;subst r2;exact⟨rfl,rfl⟩⟩
      .rcases zWB.1 y with rfl|y
       .exact⟨O,trivial⟩
       .exact C.pn p y
      .rw[kv]at g;simp only[zXF,zWV]at g;rcases g with g|g
       .exact E q s g
       .exact zIO ac q s g.symm
    |true=>
     rw[W,zWQ]at hw;right;left;obtain⟨cs,pv,el,k1,k2,k3,_⟩:=zOa hD z L.1.sim L.1.env hw;have R:PendOk ops S.nl pend (⟨i,o,cs,pv,el⟩::preps):=⟨C.pn,λp y=>by
      rcases zWB.1 y with rfl|y
      .exact⟨O,k2,k3⟩
      .exact C.pp p y⟩
     have u:GF ((⟨i,o,cs,pv,el⟩::preps)=([]:List PE)) B d N0 S0 w0 N e S ds a w X a w:=⟨L.1,L.2.1,L.2.2.1,λq=>by cases q⟩;obtain⟨t,t3,_,t4,t5,t6⟩:=zMn (P:=P) (κ:=λpend=>xdrF rc D d (ops.toList.map (·.dst)) ops.toList mt A f M pend (⟨i,o,cs,pv,el⟩::preps) e S K) hD z R k1 u;obtain rfl:=t6 rfl;refine⟨pv.val,.cells (cs.map (tr N)).toArray el,_,J i al,GF.ok (np:=(⟨i,o,cs,pv,el⟩::preps)=([]:List PE)) (λq=>by cases q),λX' a' w' G=>⟨G.1,G.2.1,G.2.2.1,λq=>by cases q⟩,λp y=>((t4 p y).resolve_left (by simp)).2,t5,?_⟩;exact zD4 Z hD z hm aa J ab f t3 u R (λq s=>by
      rcases zWB.1 s with rfl|s
      .exact ay
      .exact V q s) (λq s g=>by
      rcases zWB.1 s with rfl|s
      .rw[Y]at g;cases g
      .exact E q s g)
  have az:∀ps:List PE,(∀p∈ps,p∈preps)->cmtK D d (ops.toList.map (·.dst)) ops.toList mt M pend preps e S (λM pend preps e S=>xdrF rc D d (ops.toList.map (·.dst)) ops.toList mt A f M pend preps e S K)
   (bif nilB preps&&zAk (λi _=>!bitB M i) ops.toList 0 (λ_ _=>false) true then K e S else false) ps=true ->
   (∃p∈preps,domB ops.toList mt M preps p.i=true/\(newK S (.row 0 p.cs 0 p.el) λn S=>putE d p.o.dst (p.pv.T n) e λe=>remK p.i preps λpreps=>rchF D d (ops.toList.map (·.dst)) 0 e S pend λpend=>pchk D d (ops.toList.map (·.dst)) e (fN (addB M p.i) λM=>xdrF rc D d (ops.toList.map (·.dst)) ops.toList mt A f M pend preps e S K) preps)=true) \/
   (bif nilB preps&&zAk (λi _=>!bitB M i) ops.toList 0 (λ_ _=>false) true then K e S else false)=true:=by
   intro ps
   induction ps with
   |nil=>intro _ h;exact .inr h
   |cons p ps ih=>
    intro ai h;have h:(bif domB ops.toList mt M preps p.i then
     (newK S (.row 0 p.cs 0 p.el) λn S=>putE d p.o.dst (p.pv.T n) e λe=>remK p.i preps λpreps=>rchF D d (ops.toList.map (·.dst)) 0 e S pend λpend=>pchk D d (ops.toList.map (·.dst)) e (fN (addB M p.i) λM=>xdrF rc D d (ops.toList.map (·.dst)) ops.toList mt A f M pend preps e S K) preps)else
     cmtK D d (ops.toList.map (·.dst)) ops.toList mt M pend preps e S (λM pend preps e S=>xdrF rc D d (ops.toList.map (·.dst)) ops.toList mt A f M pend preps e S K)
      (bif nilB preps&&zAk (λi _=>!bitB M i) ops.toList 0 (λ_ _=>false) true then K e S else false) ps)=true:=h
    cases g:domB ops.toList mt M preps p.i with
    |true=>
     rw[g,zWQ]at h;exact .inl ⟨p,ai p (by simp),g,h⟩
    |false=>
     rw[g,zWH]at h;exact ih (λq s=>ai q (zWU _ s)) h
  rcases az preps (λ_ h=>h) H with⟨p,U,ao,h4⟩|h4
  .obtain⟨O,aA,aB⟩:=C.pp p U;have hi:=(zV8.1 O).1;have ae:yD ops p.i=p.o.dst:=by simp[yD,O]
   have ad:=zOs (N:=N) hm ao;refine .inr (.inr (.inr ⟨p.i,p.pv.val,_,zWa.2 ⟨p,U,rfl⟩,λq=>E p U q,λk hk aC s=>ad k hk aC s λe=>s _ (zWa.2 ⟨p,U,rfl⟩) (by rw[e];rfl),λXm am wm b j aD aE=>?_⟩));obtain rfl:am=a:=GF.act (N0:=N0) (S0:=S0) (w0:=w0) (np:=False) (a1:=a) (w1:=w) L.1 j.1;obtain⟨r1,r2,r3⟩:=j.2.2.1 b aD;obtain⟨S',Q,q2,q3,q4⟩:=j.1.sim.named h4 aA aB (zWv ab r1) r3 aE;obtain⟨e',t1,t2⟩:=zG6 (B:=B) Q;rw[zJb]at t1;have hx:=N.ext_add S.nl b 0;have af:S.nl<=S'.nl:=by omega
   have ak:(preps.filter λq=>q.i != p.i).map (PE.pr N)=(preps.map (PE.pr N)).filter λq=>q.1 != p.i:=by
    rw[List.filter_map];rfl
   have R:PendOk ops S'.nl pend (preps.filter λq=>q.i != p.i):=⟨(C.mono af).pn,λq s=>(C.mono af).pp q (zXP.1 s).1⟩;have ap:PendOk ops S.nl pend (preps.filter λq=>q.i != p.i):=⟨C.pn,λq s=>C.pp q (zXP.1 s).1⟩;have aq:tr (N.add S.nl b 0) (p.pv.T S.nl)=p.pv.val b:=by rw[PV.tr_eq,NM.add_bl]
   have aF:Stp B N0 S0 w0 (N.add S.nl b 0) S' wm:=by
    have h0:=j.2.1;refine⟨h0.ext.trans hx h0.nl,zWv h0.nl af,q2,h0.bel,h0.frm,λl o hl hd=>?_⟩;rw[q4]at hl;split at hl
    .rename_i el;subst el;exact .inl (by rw[NM.add_bl];exact r1)
    .rw[hx.bl l (j.1.sim.lt l o hl)];exact h0.prov l o hl hd
   have u:GF ((preps.filter λq=>q.i != p.i)=[]) B d N0 S0 w0 (N.add S.nl b 0) e' S' ds (am.put p.o.dst (p.pv.val b)) wm (λc=>Xm c/\c≠b) (am.put p.o.dst (p.pv.val b)) wm:=by
    refine⟨?_,aF,λc hc=>?_,λ_=>⟨rfl,rfl⟩⟩
    .rw[<-aq];exact t2 (j.1.ren hx af q2) (PV.bd _ (by omega))
    .obtain⟨s1,s2,s3⟩:=j.2.2.1 c hc.1;refine⟨s1,s2,λl o hl hd=>?_⟩;rw[q4]at hl;split at hl
     .rename_i el;subst el;rw[NM.add_bl];exact zW8 hc.2
     .rw[hx.bl l (j.1.sim.lt l o hl)];exact s3 l o hl hd
   obtain⟨t,t3,_,t4,t5,t6⟩:=zMn (P:=P) (κ:=λpend=>fN (addB M p.i) λM=>xdrF rc D d (ops.toList.map (·.dst)) ops.toList mt A f M pend (preps.filter λq=>q.i != p.i) e' S' K) hD z R t1 u;obtain rfl:=t6 rfl;rw[zy]at t3;refine⟨_,λhn=>GF.ok (np:=(preps.filter λq=>q.i != p.i)=[]) λe=>hn (by rw[<-ak,e];rfl),by rw[ae];exact u,λq s=>?_,λq s aG=>?_,?_⟩
   .rw[<-zJc hx C]at s;exact((t4 q s).resolve_left (by simp)).2
   .refine t5 q ?_;rw[zGi hx ap,ak];exact zXP.2 ⟨s,by simpa using aG⟩
   .rw[<-zFQ,<-ak,<-zJc hx C,<-zGi hx ap];refine zD4 Z hD z hm aa J ab f t3 u R (λq s=>V q (zXP.1 s).1) λq s g=>?_;obtain⟨Q,q2⟩:=zXP.1 s;rw[kv]at g;simp only[zXF,zWV]at g;rcases g with g|g
    .exact E q Q g
    .simp[g]at q2
  .obtain⟨h5,h6⟩:=zO h4;rw[zV5,zNx]at h5;refine .inr (.inl ⟨λk hk=>?_,λX' a' w' G=>⟨rfl,N,e,S,h6,G.1,G.2.1⟩⟩);rcases zDE h5.2 with⟨_,_,_,_,q⟩|⟨q,_⟩
   .cases q
   .have:=q k ops[k] (by simp[hk]);rw[zWP]at this;simpa [zAw]using this
theorem zQ2(y:DOk P D)(g:D.ng=B.ng):zLv P B D (zNK D):=by
 intro rc r ro fr z id l e S ds K N a w h s hr;unfold zNK at h;have h:=h;obtain⟨mt,dt,G,u,H,A⟩:=zJe (ops:=⟨l⟩) (by simp) (zWd _) ⟨λj v=>(by omega),λj m v=>(by omega),λj m o v=>(by omega)⟩ (λj o v=>(by omega)) (λt p=>⟨λq=>(by rw[Tr.get_lf]at q;cases q),λq=>(by omega)⟩) h;obtain⟨I,J,_,L⟩:=zOD (ops:=⟨l⟩) (by simp) G;have d:=zR9 u H A;have x:∀i,I.testBit i=false->zCl (⟨l⟩:Array Oper) i:=λi hi k o t C O R=>by
  rcases L k o (by omega) C t O i ((A t i).2 R)with⟨m,T,U⟩|q
  .exact u.bef k m (zV8.1 C).1 T i U
  .rw[hi]at q;cases q
 have f:Stp B N S w N S { w with drawn:=w.drawn+1 }:=.stay (s.sim.same (λ_ _=>rfl) (zV7 _)) (λ_ _=>rfl) ⟨rfl,rfl,rfl,zV7 _,λ_ _=>rfl⟩;have E:GF (([]:List PE)=[]) B z N S w N e S ds a { w with drawn:=w.drawn+1 } (λ_=>False) a { w with drawn:=w.drawn+1 }:=⟨s.later f,f,λ_ V=>V.elim,λ_=>⟨rfl,rfl⟩⟩;have F:=zD4 (fr:=fr) r y g (ops:=⟨l⟩) u d x s.sim.base _ (M:=0) (pend:=[]) (preps:=[]) J E ⟨λ_ b=>(by cases b),λ_ b=>(by cases b)⟩ (λ_ b=>by cases b) (λ_ b=>by cases b);have e0:(λk=>Nat.testBit 0 k=true)=λ_=>False:=by funext k;simp
 rw[e0]at F;refine wpIn_mono (zIy (Q:=DQ B z N S w ds λe S=>K .n e S ds) y.mixed d (λc a w q=>by cases q.1) (λ⟨a,w,q⟩=>by cases q.1) E F) ?_;rintro ex a' w' ⟨rfl,N',e',W,X,Y,Z⟩;exact⟨.n,N',e',W,ds,X,rfl,Y,Z⟩
end
end
section
open Go.RowKit
section
variable{P:Program}
noncomputable def gloK(ng:Nat)(L:List (Nat×List Value)):Tr HO->(Tr HO->Bool)->Bool:=
 List.rec (motive:=λ_=>Tr HO->(Tr HO->Bool)->Bool) (λh κ=>κ h) (λp _ a h κ=>cvL p.2 λxs=>bif Nat.blt p.1 ng then Tr.setK (.ro xs) 40 h p.1 λh=>a h κ else false) L
def GloE(ng:Nat)(L:List (Nat×List Value))(l:Nat)(o:HO):Prop:=∃xs us,o=.ro xs/\(l,us)∈L/\(∀N,xs.map (tr N)=us)/\bds 0 xs/\ones xs/\l<ng
theorem zOF{ng:Nat}{c:List (Nat×List Value)}:∀{L:List (Nat×List Value)}{h:Tr HO}{κ:Tr HO->Bool},(∀p∈L,p∈c)->(∀l o,h.get l=some o->GloE ng c l o)->gloK ng L h κ=true->∃h',κ h'=true/\∀l o,h'.get l=some o->GloE ng c l o
 |[],h,κ,_,d,b=>⟨h,b,d⟩
 |p::L,h,κ,f,d,b=>by
  have b:(cvL p.2 λxs=>bif Nat.blt p.1 ng then Tr.setK (.ro xs) 40 h p.1 λh=>gloK ng L h κ else false)=true:=b;obtain⟨xs,g,i,j,k⟩:=zFs b;obtain⟨m,n⟩:=zO g;obtain⟨h',r,s⟩:=Tr.setK_ok _ _ _ _ _ n;refine zOF (λq t=>f q (by simp[t])) (λl o a=>?_) r;rw[s]at a;split at a
  .rename_i e;subst e;injection a with a;subst a
   exact⟨xs,p.2,rfl,f p (by simp),i,j,k,blt_iff.1 m⟩
  .exact d l o a
def zLE(L:List (Nat×List Value))(B:Nat)(w:World):Prop:=∀p∈L,p.1<B/\∃arr el m,w.heap[p.1]?=some (.cells arr el m)/\arr.toList.take p.2.length=p.2
noncomputable def runK(P:Program)(a b ng n:Nat)(L:List (Nat×List Value))(ex:Tr EX)(c:Tr SumF)(f:FuncId)(x:Tr HO->(Tr HO->List T->Nat->Bool)->Bool)(K:T->Bool):Bool:=
 ttK P a .lf λd=>ftK P b .lf λe=>gloK ng L .lf λh=>x h λh args nl=>xfn (xc ⟨d,e,ex,c,ng⟩ (zNK ⟨d,e,ex,c,ng⟩) n) ⟨d,e,ex,c,ng⟩ f args ⟨h,nl⟩ λr _=>(match r with
  |.ret x=>K x
  |.pan _=>false)
theorem zNu{e j ng n:Nat}{L:List (Nat×List Value)}{ex:Tr EX}{m:Tr SumF}{f:FuncId}{x:Tr HO->(Tr HO->List T->Nat->Bool)->Bool}{K:T->Bool}(v:P.follows .mixedOrders=true)(q:∀f k,ex.get f=some k->EOk P f k)(s:∀f g,m.get f=some g->zGx P ng f g)(h:runK P e j ng n L ex m f x K=true) :
 ∃c,(∀l o,c.get l=some o->GloE ng L l o)/\∃κ,x c κ=true/\∀h args nl,κ h args nl=true->∀(B:Bs)(N:NM)(w:World),B.ng=ng->HSim B N ⟨h,nl⟩ w->bds nl args->CallsIn (fen none) 0 P f (args.map (tr N)).toArray w (qW B N ⟨h,nl⟩ w λr _=>(match r with
  |.ret x=>K x
  |.pan _=>false)):=by
 unfold runK at h;obtain⟨y,z,A⟩:=zLQ _ _ _ (λi d b=>by rw[Tr.get_lf]at b;cases b) h;obtain⟨C,D,E⟩:=zMk _ _ _ (λi d b=>by rw[Tr.get_lf]at b;cases b) z;obtain⟨c,F,G⟩:=zOF (λp H=>H) (λl o u=>by rw[Tr.get_lf]at u;cases u) D;refine⟨c,G,_,F,λh args nl I B N w a J M=>?_⟩;have t:DOk P ⟨y,C,ex,m,ng⟩:=⟨A,E,q,s,v⟩;exact zIu (xc_ok t a.symm (zQ2 t a.symm) n).1 t a.symm I J M none
theorem zH4{ng B:Nat}{L:List (Nat×List Value)}{h:Tr HO}(d:∀l o,h.get l=some o->GloE ng L l o){w:World}(r:zLE L B w)(s:B<=w.heap.size)(j:NM)(a:∀g,g<ng->j.bl g=g):HSim ⟨B,ng⟩ j ⟨h,ng⟩ w:=by
 refine⟨s,zV7 _,a,λl o b=>?_,λl o b=>?_,λl o b F=>?_,λl t o o' b p _ _ e=>?_⟩
 .obtain⟨xs,us,rfl,f,i,k,n,c⟩:=d l o b;exact c
 .obtain⟨xs,us,rfl,f,i,k,n,c⟩:=d l o b;obtain⟨_,arr,el,m,v,u⟩:=r _ f;rw[a l c];have x:us.length=xs.length:=by rw[<-i j];simp
  refine⟨arr,el,m,v,?_,?_,⟨yS (zWd _) _ k,n⟩⟩
  .have:=zWp List.length u;rw[zWT]at this;change min us.length arr.toList.length=us.length at this;have G:arr.toList.length=arr.size:=zWi;omega
  .rw[<-x,u,i j]
 .obtain⟨xs,us,rfl,f,i,k,n,c⟩:=d l o b;have:=(r _ f).1;rw[a l c];exact⟨this,zWN this s⟩
 .obtain⟨xs,us,rfl,f,i,k,n,c⟩:=d l o b;obtain⟨y,z,rfl,A,C,D,E,q⟩:=d t o' p
  rwa [a l c,a t q]at e
noncomputable def trueK(P:Program)(a c ng n:Nat)(L:List (Nat×List Value))(ex:Tr EX)(d:Tr SumF)(f:FuncId):Bool:=runK P a c ng n L ex d f (λh κ=>κ h [] ng) λx=>(match x with
 |.bool b=>b
 |_=>false)
theorem zPF{j l ng n:Nat}{ex:Tr EX}{y:Tr SumF}{f:FuncId}(A:P.follows .mixedOrders=true)(q:∀f k,ex.get f=some k->EOk P f k)(s:∀f g,y.get f=some g->zGx P ng f g)(h:trueK P j l ng n Al.globA ex y f=true):Al.PureF P f [] (.at (.bool true)):=by
 intro C w vs a c D;cases D;obtain⟨E,F,κ,G,H⟩:=zNu A q s h;have I:zLE Al.globA w.heap.size w:=λp z=>⟨(c.all p z).1,let⟨arr,el,m,q1,q2⟩:=(c.all p z).2.1;⟨arr,el,m,q1,by rw[<-q2,zW6]⟩⟩;have J:=zH4 (B:=w.heap.size) F I (zV7 _) ⟨λg=>g,λ_=>0⟩ (λ_ _=>rfl);have K:=H E [] ng G ⟨w.heap.size,ng⟩ ⟨λg=>g,λ_=>0⟩ w rfl J trivial;have t:CallsIn Fence.wide 0 P f #[] w _:=K;refine Calls.mono (callsIn_wide.1 t) ?_;rintro N w' ⟨r,N',O,d,L,u⟩;cases r with
 |pan x=>cases d
 |ret x=>
  obtain⟨rfl,_⟩:=L;cases x with
  |bool b=>
   have d:b=true:=d;subst d;refine⟨.bool true,C,rfl,λb i=>a b (Nat.le_trans u.bel.size i),⟨⟨λ_=>Nat.le_refl _,λ_ _ e=>((by cases e)),λb o M=>?_⟩,u.bel,λb i=>(by cases i),λ_ _=>rfl,rfl⟩,Al.RV_at_mk rfl⟩;have i:b<w.heap.size:=Nat.lt_of_not_le λv=>by have:=a b v;dsimp only at M;omega
   exact u.bel.cell i
  |_=>cases d
structure Ent where
 ds:List (List Nat)
 s:List Nat
 r:List Nat
def kV(P:Program)(L:List (Nat×List Value))(f:FuncId)(e:Ent):Prop:=∀(w:World)(b:Nat)(arr:Array Value)(el:TypeId)(m:Nat×Nat),w.heap[b]?=some (.cells arr el m)->arr.toList.take e.ds.length=e.ds.map (λd=>.string (bts d))->(∀p∈L,p.1≠b)->zLE L w.heap.size w ->
 CallsIn (fen none) 0 P f #[.slice (some ⟨b,0,none⟩) e.ds.length e.ds.length,.string (bts e.s)] w λa w'=>a=.returned (.string (bts e.r))/\Below w.heap.size w w'
noncomputable def zPv(l:List (List Nat)):(List T->Bool)->Bool:=List.rec (motive:=λ_=>(List T->Bool)->Bool) (λκ=>κ []) (λs _ a κ=>a λr=>κ (.str s::r)) l
theorem zHt:∀(l:List (List Nat))(κ:List T->Bool),zPv l κ=κ (l.map .str)
 |[],_=>rfl
 |s::l,κ=>(zHt l λr=>κ (.str s::r))
noncomputable def entK(P:Program)(a b ng n:Nat)(L:List (Nat×List Value))(ex:Tr EX)(c:Tr SumF)(f:FuncId)(e:Ent):Bool:=
 runK P a b ng n L ex c f (λh κ=>zPv e.ds λcs=>fN (List.length e.ds) λk=>Tr.setK (.ro cs) 40 h ng λh=>κ h [.slc ng 0 k k,.str e.s] (ng+1)) λx=>(match x with
  |.str s=>seqB s e.r
  |_=>false)
theorem zVn{A C ng n:Nat}{L:List (Nat×List Value)}{ex:Tr EX}{K:Tr SumF}{f:FuncId}{e:Ent}(S:P.follows .mixedOrders=true)(D:∀f k,ex.get f=some k->EOk P f k)(E:∀f g,K.get f=some g->zGx P ng f g)(h:entK P A C ng n L ex K f e=true):kV P L f e:=by
 intro w b arr el m M p F N;obtain⟨U,O,κ,Q,V⟩:=zNu S D E h;rw[zHt,zy]at Q;obtain⟨h',W,y⟩:=Tr.setK_ok _ _ _ _ _ Q;have v:b<w.heap.size:=(zV8.1 M).1;have c:=zH4 (ng:=ng) (B:=w.heap.size) O N (zV7 _) ⟨λl=>if l=ng then b else l,λ_=>0⟩ (λg N=>if_neg (by omega));have i:(⟨λl=>if l=ng then b else l,λ_=>0⟩:NM).bl ng=b:=if_pos rfl;have G:∀l:List (List Nat),bds (ng+1) (l.map .str)/\ones (l.map .str):=λl=>by
  refine⟨(zAu _ _).2 λx H=>?_,zWL.2 λx H=>?_⟩
  .obtain⟨_,_,rfl⟩:=zWa.1 H;trivial
  .obtain⟨_,_,rfl⟩:=zWa.1 H;rfl
 have X:HSim ⟨w.heap.size,ng⟩ ⟨λl=>if l=ng then b else l,λ_=>0⟩ ⟨h',ng+1⟩ w:=by
  refine⟨zV7 _,zWh _,c.glo,λl o a=>?_,λl o a=>?_,λl o a I=>?_,λl Y o o' a j I J d=>?_⟩
  .rw[y]at a;split at a
   .rename_i d;show l<ng+1;omega
   .exact Nat.lt_succ_of_lt (c.lt l o a)
  .rw[y]at a;split at a
   .rename_i d;subst d;injection a with a;subst a
    rw[i];refine⟨arr,el,m,M,?_,?_,G _⟩
    .have:=zWp List.length p;rw[zWT,zWi,zWG]at this;rw[zWG];omega
    .rw[zWG,p,zXD];rfl
   .exact(c.ok l o a).ext (.refl _ _) (zWh _) (c.lt l o a)
  .rw[y]at a;split at a
   .rename_i d;subst d;injection a with a;subst a
    rw[i];exact⟨v,v⟩
   .exact c.low l o a I
  .rw[y]at a j;have q:∀{l o},U.get l=some o->(⟨λl=>if l=ng then b else l,λ_=>0⟩:NM).bl l≠b:=λ{l o} a t=>by
    obtain⟨xs,us,_,Z,_,_,_,q2⟩:=O l o a;rw[c.glo l q2]at t;exact F _ Z t
   split at a<;>split at j
   .rename_i t z;rw[t,z]
   .rename_i t z;subst t;rw[i]at d;exact absurd d.symm (q j)
   .rename_i t z;subst z;rw[i]at d;exact absurd d (q a)
   .exact c.inj l Y o o' a j I J d
 have R:=V h' _ _ W ⟨w.heap.size,ng⟩ ⟨λl=>if l=ng then b else l,λ_=>0⟩ w rfl X ⟨zXk ng,trivial,trivial⟩;have ea:(List.map (tr ⟨λl=>if l=ng then b else l,λ_=>0⟩) [T.slc ng 0 e.ds.length e.ds.length,T.str e.s]).toArray=#[.slice (some ⟨b,0,none⟩) e.ds.length e.ds.length,.string (bts e.s)]:=by simp[tr]
 rw[ea]at R;refine CallsIn.mono R ?_;rintro en w' ⟨r,N',S',u,k2,k3⟩;cases r with
 |pan x=>cases u
 |ret x=>
  obtain⟨rfl,_⟩:=k2;cases x with
  |str s=>
   have u:seqB s e.r=true:=u;rw[kU,zWV]at u;exact⟨by simp only[tr,bts,u],k3.bel⟩
  |_=>cases u
noncomputable def glB(ng:Nat)(L:List (Nat×List Value))(S:XS):Bool:=
 List.rec (motive:=λ_=>Bool) true (λp _ a=>(cvL p.2 λxs=>Nat.blt p.1 ng&&(match S.h.get p.1 with
  |some o=>(match o with
   |.ro cs=>eqs0 xs cs
   |_=>false)
  |none=>false))&&a) L
noncomputable def entB(e:Ent)(S:XS)(l n:Nat)(s:List Nat):Bool:=Nat.beq n e.ds.length&&(seqB s e.s&&rdK S l λcs=>zBI n cs λxs=>zPv e.ds λys=>eqs0 xs ys)
noncomputable def tabG(ng:Nat)(L:List (Nat×List Value))(a:List Ent)(args:List T)(S:XS):Option T:=
 match args with
 |[.slc l o n c,.str s]=>bif Nat.beq o 0&&Nat.beq c n&&Nat.ble ng l&&glB ng L S then List.rec (motive:=λ_=>Option T) none (λe _ b=>bif entB e S l n s then some (.str e.r)else b) a else none
 |_=>none
theorem zVL{S:XS}{l:Nat}{κ:List T->Bool}(h:rdK S l κ=true):∃o,S.h.get l=some o/\xL o=false:=by
 unfold rdK at h;split at h
 .rename_i o a;refine⟨o,a,?_⟩;split at h
  .rfl
  .rfl
  .cases h
 .cases h
theorem zQ3{B:Bs}{N:NM}{S:XS}{w:World}(e:HSim B N S w):∀{L:List (Nat×List Value)},glB B.ng L S=true->zLE L w.heap.size w/\∀p∈L,p.1<B.ng/\∃o,S.h.get p.1=some o/\xL o=false
 |[],_=>⟨λ_ f=>(by cases f),λ_ f=>(by cases f)⟩
 |p::L,h=>by
  have h:((cvL p.2 λxs=>Nat.blt p.1 B.ng&&(match S.h.get p.1 with
   |some o=>(match o with
    |.ro cs=>eqs0 xs cs
    |_=>false)
   |none=>false))&&glB B.ng L S)=true:=h
  rw[zV5]at h;obtain⟨l,n⟩:=h;obtain⟨xs,i,r,_,_⟩:=zFs l;rw[zV5]at i;obtain⟨s,b⟩:=i;have c:=blt_iff.1 s;obtain⟨t,u⟩:=zQ3 e n;have d:(p.1<w.heap.size/\∃arr el m,w.heap[p.1]?=some (.cells arr el m)/\arr.toList.take p.2.length=p.2)/\∃o,S.h.get p.1=some o/\xL o=false:=by
   split at b
   case h_2=>cases b
   rename_i o g;split at b
   case h_2=>cases b
   rename_i cs;obtain⟨arr,el,m,j,z,v,_⟩:=e.ok _ _ g;have k:=e.low _ _ g rfl;rw[e.glo _ c]at j k;refine⟨⟨k.2,arr,el,m,j,?_⟩,_,g,rfl⟩;have x:xs.map (tr N)=cs.map (tr N):=by rw[<-yQ,<-yQ];exact zBn N b
   have y:p.2=cs.map (tr N):=by rw[<-r N,x]
   rw[y,zWG];exact v
  exact⟨λq a=>by
   rcases zWB.1 a with rfl|a
   .exact d.1
   .exact t q a,λq a=>by
   rcases zWB.1 a with rfl|a
   .exact⟨c,d.2⟩
   .exact u q a⟩
theorem zVI{ng:Nat}{L:List (Nat×List Value)}{f:FuncId}{j:List Ent}(m:∀e∈j,kV P L f e):zGx P ng f (sum0 (tabG ng L j)):=by
 refine zT8 ?_;intro B N S w args r E i Z h;subst E;unfold tabG at h;split at h
 case h_2=>cases h
 rename_i l o n c s;cases a:(Nat.beq o 0&&Nat.beq c n&&Nat.ble B.ng l&&glB B.ng L S)with
 |false=>rw[a,zWH]at h;cases h
 |true=>
  rw[a,zWQ]at h;simp only[zV5]at a;have F:=beq_iff.1 a.1.1.1;have G:=beq_iff.1 a.1.1.2;have k3:=zWF a.1.2;obtain⟨H,I⟩:=zQ3 i a.2;subst F;subst G;clear a
  induction j with
  |nil=>cases h
  |cons e j t=>
   have h:(bif entB e S l c s then some (T.str e.r)else List.rec (motive:=λ_=>Option T) none (λe _ t=>bif entB e S l c s then some (.str e.r)else t) j)=some r:=h;cases b:entB e S l c s with
   |false=>rw[b,zWH]at h;exact t (λe' u=>m e' (by simp[u])) h
   |true=>
    rw[b,zWQ]at h;injection h with h
    subst h;refine⟨trivial,?_⟩;unfold entB at b;simp only[zV5]at b;have A:=beq_iff.1 b.1;have C:=b.2.1;rw[kU,zWV]at C;obtain⟨cs,arr,el,J,K,q2,M,q4,O,q6,q7⟩:=zF5 i b.2.2;obtain⟨q8,D⟩:=jC _ _ _ K;rw[zHt]at D;have Q:(cs.take c).map (tr N)=(e.ds.map T.str).map (tr N):=by rw[<-yQ,<-yQ];exact zBn N D
    have R:arr.toList.take e.ds.length=e.ds.map λd=>.string (bts d):=by
     have:arr.toList.take c=(cs.take c).map (tr N):=by rw[zXr,<-O,zX0];congr 1;omega
     rw[<-A,this,Q,zXD];rfl
    have v:∀p∈L,p.1≠N.bl l:=λp U V=>by
     obtain⟨x,o,W,X⟩:=I p U;obtain⟨o',y,z⟩:=zVL b.2.2;have:=i.inj _ _ _ _ W y X z (by rw[i.glo _ x];exact V);omega
    have a:=m e (by simp) w (N.bl l) arr el J M R v H;have Y:(List.map (tr N) [T.slc l 0 c c,T.str s]).toArray=#[.slice (some ⟨N.bl l,0,none⟩) e.ds.length e.ds.length,.string (bts e.s)]:=by
     simp only[zV6,zV9,tr,bts,A,C]
    rw[Y];refine CallsIn.mono a ?_;rintro en w' ⟨rfl,g⟩;exact⟨rfl,.stay (i.same (λk q=>g.block k q) g.size) (λk q=>g.block k q) ⟨g.os,g.tape,g.output,g.size,λk q=>g.block k (zWN q i.base)⟩⟩
end
end
section
open Go.Proofs
theorem hf68:Tryz.prog.funcs[68]?=some Tryz.f68:=by kernel_rfl
theorem hn68:(Tryz.f68.name== "runtime.NumGoroutine")=false:=by decide
theorem hx68:(Extern.findNext Tryz.f68).isNone=true:=by kernel_rfl
theorem he68:Extern.find Tryz.f68=some (Extern.BytealgIndexByte.indexByte):=by kernel_rfl
theorem ek68:EOk Tryz.prog 68 .idxB:=λargs w=>by
 rw[run_callFunc_extern hf68 hn68 (by rfl) (by simpa using hx68) he68];rw[Sem.run_bind];rfl
theorem hf119:Tryz.prog.funcs[119]?=some Tryz.f119:=by kernel_rfl
theorem hn119:(Tryz.f119.name== "runtime.NumGoroutine")=false:=by decide
theorem hx119:(Extern.findNext Tryz.f119).isNone=true:=by kernel_rfl
theorem he119:Extern.find Tryz.f119=some (Extern.AbiNoEscape.same):=by kernel_rfl
theorem ek119:EOk Tryz.prog 119 .same:=λargs w=>by
 rw[run_callFunc_extern hf119 hn119 (by rfl) (by simpa using hx119) he119];rw[Sem.run_bind];rfl
theorem hf125:Tryz.prog.funcs[125]?=some Tryz.f125:=by kernel_rfl
theorem hn125:(Tryz.f125.name== "runtime.NumGoroutine")=false:=by decide
theorem hx125:(Extern.findNext Tryz.f125).isNone=true:=by kernel_rfl
theorem he125:Extern.find Tryz.f125=some (Extern.BytealgCount.count):=by kernel_rfl
theorem ek125:EOk Tryz.prog 125 .cntB:=λargs w=>by
 rw[run_callFunc_extern hf125 hn125 (by rfl) (by simpa using hx125) he125];rw[Sem.run_bind];rfl
theorem hf128:Tryz.prog.funcs[128]?=some Tryz.f128:=by kernel_rfl
theorem hn128:(Tryz.f128.name== "runtime.NumGoroutine")=false:=by decide
theorem hx128:(Extern.findNext Tryz.f128).isNone=true:=by kernel_rfl
theorem he128:Extern.find Tryz.f128=some (Extern.BytealgMakeNoZero.makeNoZero #[] #[84]):=by kernel_rfl
theorem ek128:EOk Tryz.prog 128 (.mnz 84):=λargs w=>by
 rw[run_callFunc_extern hf128 hn128 (by rfl) (by simpa using hx128) he128];rw[Sem.run_bind];rfl
noncomputable def exL:List (Nat×EX):=[(68,.idxB),(119,.same),(125,.cntB),(128,(.mnz 84))]
noncomputable def exK(l:List (Nat×EX)):Tr EX->(Tr EX->Bool)->Bool:=List.rec (motive:=λ_=>Tr EX->(Tr EX->Bool)->Bool) (λt κ=>κ t) (λp _ a t κ=>Tr.setK p.2 40 t p.1 λt=>a t κ) l
theorem zMZ{P:Program}:∀{l:List (Nat×EX)}{t:Tr EX}{κ:Tr EX->Bool},(∀p∈l,EOk P p.1 p.2)->(∀f k,t.get f=some k->EOk P f k)->exK l t κ=true->∃b,κ b=true/\∀f k,b.get f=some k->EOk P f k
 |[],t,κ,_,c,h=>⟨t,h,c⟩
 |p::l,t,κ,d,c,h=>by
  obtain⟨b,g,i⟩:=Tr.setK_ok _ _ _ _ _ (show Tr.setK p.2 40 t p.1 (λt=>exK l t κ)=true from h);refine zMZ (λq j=>d q (by simp[j])) (λf k a=>?_) g;rw[i]at a;split at a
  .rename_i e;subst e;injection a with a;subst a;exact d p (by simp)
  .exact c f k a
theorem zRK:∀p∈exL,EOk Tryz.prog p.1 p.2:=λp a=>by
 simp only[exL,zWB,zWu,zXc]at a;rcases a with rfl|rfl|rfl|rfl
 .exact ek68
 .exact ek119
 .exact ek125
 .exact ek128
theorem mix8:Tryz.prog.follows .mixedOrders=true:=by kernel_rfl
theorem zAc{e:Ent}(h:(exK exL .lf λex=>entK Tryz.prog 200 153 4 100000 Al.globA ex .lf 14 e)=true):kV Tryz.prog Al.globA 14 e:=by
 obtain⟨ex,c,d⟩:=zMZ zRK (λf k a=>by rw[Tr.get_lf]at a;cases a) h;exact zVn mix8 d (λf g b=>by rw[Tr.get_lf]at b;cases b) c
end
section
open Go.Proofs
def en0:Ent:=⟨[[88,32,89],[89,32,88,32,43,32,49]],[88],[88,32,43,32,49]⟩
theorem ke0:(exK exL .lf λex=>entK Tryz.prog 200 153 4 100000 Al.globA ex .lf 14 en0)=true:=by kernel_rfl
theorem eo0:kV Tryz.prog Al.globA 14 en0:=zAc ke0
end
section
open Go.Proofs
def en1:Ent:=⟨[[70,40,97,41,32,97,32,42,32,97]],[70,40,49,32,43,32,50,41],[49,32,43,32,50,32,42,32,49,32,43,32,50]⟩
theorem ke1:(exK exL .lf λex=>entK Tryz.prog 200 153 4 100000 Al.globA ex .lf 14 en1)=true:=by kernel_rfl
theorem eo1:kV Tryz.prog Al.globA 14 en1:=zAc ke1
end
section
open Go.Proofs
def en2:Ent:=⟨[[70,40,97,41,32,97,32,42,32,97]],[70],[70]⟩
theorem ke2:(exK exL .lf λex=>entK Tryz.prog 200 153 4 100000 Al.globA ex .lf 14 en2)=true:=by kernel_rfl
theorem eo2:kV Tryz.prog Al.globA 14 en2:=zAc ke2
end
section
open Go.Proofs
def en3:Ent:=⟨[[70,40,97,41,32,97,32,42,32,97]],[70,32,40,41],[42]⟩
theorem ke3:(exK exL .lf λex=>entK Tryz.prog 200 153 4 100000 Al.globA ex .lf 14 en3)=true:=by kernel_rfl
theorem eo3:kV Tryz.prog Al.globA 14 en3:=zAc ke3
end
section
open Go.Proofs
def en4:Ent:=⟨[[67,40,97,44,32,98,41,32,97,35,35,98],[65,66,32,55]],[67,40,65,44,32,66,41],[55]⟩
theorem ke4:(exK exL .lf λex=>entK Tryz.prog 200 153 4 100000 Al.globA ex .lf 14 en4)=true:=by kernel_rfl
theorem eo4:kV Tryz.prog Al.globA 14 en4:=zAc ke4
end
section
open Go.Proofs
def en5:Ent:=⟨[[67,40,97,44,32,98,41,32,97,35,35,98],[65,66,32,55]],[67,40,65,44,41],[65]⟩
theorem ke5:(exK exL .lf λex=>entK Tryz.prog 200 153 4 100000 Al.globA ex .lf 14 en5)=true:=by kernel_rfl
theorem eo5:kV Tryz.prog Al.globA 14 en5:=zAc ke5
end
section
open Go.Proofs
def en6:Ent:=⟨[[83,40,46,46,46,41,32,35,95,95,86,65,95,65,82,71,83,95,95]],[83,40,49,44,32,32,34,120,34,41],[34,49,44,32,92,34,120,92,34,34]⟩
theorem ke6:(exK exL .lf λex=>entK Tryz.prog 200 153 4 100000 Al.globA ex .lf 14 en6)=true:=by kernel_rfl
theorem eo6:kV Tryz.prog Al.globA 14 en6:=zAc ke6
end
section
open Go.Proofs
def en7:Ent:=⟨[[70,40,97,41,32,97]],[70,40,49,44,32,50,41],[59]⟩
theorem ke7:(exK exL .lf λex=>entK Tryz.prog 200 153 4 100000 Al.globA ex .lf 14 en7)=true:=by kernel_rfl
theorem eo7:kV Tryz.prog Al.globA 14 en7:=zAc ke7
end
section
open Go.Proofs
def en8:Ent:=⟨[[70,40,97,41,32,97]],[70,40,49],[58]⟩
theorem ke8:(exK exL .lf λex=>entK Tryz.prog 200 153 4 100000 Al.globA ex .lf 14 en8)=true:=by kernel_rfl
theorem eo8:kV Tryz.prog Al.globA 14 en8:=zAc ke8
end
section
open Go.Proofs
def en9:Ent:=⟨[[71,32,70],[70,40,97,41,32,91,97,93]],[71,32,40,49,41],[91,49,93]⟩
theorem ke9:(exK exL .lf λex=>entK Tryz.prog 200 153 4 100000 Al.globA ex .lf 14 en9)=true:=by kernel_rfl
theorem eo9:kV Tryz.prog Al.globA 14 en9:=zAc ke9
end
section
open Go.Proofs
def tb8:List Ent:=[en0,en1,en2,en3,en4,en5,en6,en7,en8,en9]
theorem tb8_ok:∀e∈tb8,kV Tryz.prog Al.globA 14 e:=λe a=>by
 simp only[tb8,zWB,zWu,zXc]at a;rcases a with rfl|rfl|rfl|rfl|rfl|rfl|rfl|rfl|rfl|rfl
 .exact eo0
 .exact eo1
 .exact eo2
 .exact eo3
 .exact eo4
 .exact eo5
 .exact eo6
 .exact eo7
 .exact eo8
 .exact eo9
theorem kz:(exK exL .lf λex=>Tr.setK (sum0 (tabG 4 Al.globA tb8)) 40 .lf 14 λa=>trueK Tryz.prog 200 153 4 100000 Al.globA ex a 7)=true:=by kernel_rfl
theorem awake_pure:Al.PureF Tryz.prog 7 [] (.at (.bool true)):=by
 obtain⟨ex,c,d⟩:=zMZ zRK (λf k b=>by rw[Tr.get_lf]at b;cases b) kz;obtain⟨j,h,i⟩:=Tr.setK_ok _ _ _ _ _ c;refine zPF mix8 d (λf g a=>?_) h;rw[i]at a;split at a
 .rename_i e;subst e;injection a with a;subst a;exact zVI tb8_ok
 .rw[Tr.get_lf]at a;cases a
end
end Go.Cx
namespace Go.Proofs.YtfjiiknfopmcjaaGreatDoor
section
open Go.Al Go.Den
def c7(_:Unit):Option (Bool×Unit):=some (true,())
theorem ok7:ConOk CC Tryz.prog 7 ⟨as7,rs7,c7⟩:=by
 rintro⟨⟩ y h vs a;obtain rfl:=zXi h;obtain rfl:vs=[]:=a;exact Go.Cx.awake_pure
end
section
open Go.Al Go.Den
def sh21n(fu:Nat)(c44:(TkT×(Str×Unit))->(Option (Bool×Unit)))(x:(((List (Str×MacT))×(Int×Unit))×Unit))(a:((Bool×(List TkT))×Unit)):(Option (Option ((((List (Str×MacT))×(Int×Unit))×Unit)×((List TkT)×(Int×Unit))))):=iter fu (λ(c:(((Bool×(List TkT))×((List TkT)×Unit))×(((List (Str×MacT))×(Int×Unit))×Unit))->Option (Option ((((List (Str×MacT))×(Int×Unit))×Unit)×((List TkT)×(Int×Unit)))))(b:(((Bool×(List TkT))×((List TkT)×Unit))×(((List (Str×MacT))×(Int×Unit))×Unit)))=>cond (ilt 0 (lenI b.1.1.2)) (cond (inB 0 b.1.1.2.length) (cond (ine (List.getD b.1.1.2 0 tkD).kind 1) (cond (okN 88 (b.1.2.1.length+(List.length [(List.getD b.1.1.2 0 tkD)]))) (cond (ilt 4000 (lenI (b.1.2.1++[(List.getD b.1.1.2 0 tkD)]))) (some (some (b.2,([],(82,()))))) (cond (inS 1 (lenI b.1.1.2) b.1.1.2.length) (c (((b.1.1.1,(cutL b.1.1.2 1 (lenI b.1.1.2))),((b.1.2.1++[(List.getD b.1.1.2 0 tkD)]),())),b.2)) (none))) (none)) (Option.bind (c44 ((List.getD b.1.1.2 0 tkD),((List.getD b.1.1.2 0 tkD).text,()))) λd=>cond d.1 (cond (okN 88 (b.1.2.1.length+(List.length [(List.getD b.1.1.2 0 tkD)]))) (cond (ilt 4000 (lenI (b.1.2.1++[(List.getD b.1.1.2 0 tkD)]))) (some (some (b.2,([],(82,()))))) (cond (inS 1 (lenI b.1.1.2) b.1.1.2.length) (c (((b.1.1.1,(cutL b.1.1.2 1 (lenI b.1.1.2))),((b.1.2.1++[(List.getD b.1.1.2 0 tkD)]),())),b.2)) (none))) (none)) (cond (!(mcH b.2.1.1 (List.getD b.1.1.2 0 tkD).text)) (cond (okN 88 (b.1.2.1.length+(List.length [(List.getD b.1.1.2 0 tkD)]))) (cond (ilt 4000 (lenI (b.1.2.1++[(List.getD b.1.1.2 0 tkD)]))) (some (some (b.2,([],(82,()))))) (cond (inS 1 (lenI b.1.1.2) b.1.1.2.length) (c (((b.1.1.1,(cutL b.1.1.2 1 (lenI b.1.1.2))),((b.1.2.1++[(List.getD b.1.1.2 0 tkD)]),())),b.2)) (none))) (none)) (cond (MacT.func (mcV macD b.2.1.1 (List.getD b.1.1.2 0 tkD).text)) (cond (ilt (lenI b.1.1.2) 2) (cond (okN 88 (b.1.2.1.length+(List.length [(List.getD b.1.1.2 0 tkD)]))) (cond (ilt 4000 (lenI (b.1.2.1++[(List.getD b.1.1.2 0 tkD)]))) (some (some (b.2,([],(82,()))))) (cond (inS 1 (lenI b.1.1.2) b.1.1.2.length) (c (((b.1.1.1,(cutL b.1.1.2 1 (lenI b.1.1.2))),((b.1.2.1++[(List.getD b.1.1.2 0 tkD)]),())),b.2)) (none))) (none)) (cond (inB 1 b.1.1.2.length) (none) (none))) (none))))) (none)) (some (some (b.2,(b.1.2.1,(0,())))))) (((a.1.1,a.1.2),([],())),x)
end
section
open Go.Al Go.Den
noncomputable def c21n(fu:Nat):zA ([.bl TI.tk]:LK)->WW (zA ([.dl TI.tk,.int .i64]:LK)):=mW (sh21n fu (c44 fu))
structure S21n(F:(ST->Option RT)->ST->Option RT):Prop where
 stop:∀rec b out ms n,F rec (((b,[]),(out,())),((ms,(n,())),()))=some (some (((ms,(n,())),()),(out,((0:Int),()))))
 keep:∀rec b t r out ms n,Kp ms t->out.length<4000->F rec (((b,t::r),(out,())),((ms,(n,())),()))=rec (((b,r),(out++[t],())),((ms,(n,())),()))
noncomputable def c10N(fu:Nat):zS as10->Option (zS rs10):=c10 (c22 fu) (c23 fu) (c21n fu)
end
section
open Go.Al Go.Den
abbrev as8:List (AK UU):=[.ls TI.str]
abbrev rs8:List (AK UU):=[.dl TI.mac,.bool]
abbrev as15:List (AK UU):=[.dl TI.tok]
abbrev rs15:List (AK UU):=[.st TI.mac,.int .i64]
def kf8:Nat->List Nat
 |0=>[0]
 |1=>[0,4]
 |2=>[0,4,10]
 |3=>[2,3]
 |4=>[0,4,5]
 |5=>[0,4,5,14]
 |6=>[0,4,5]
 |7=>[0,4,5,6,7]
 |8=>[0,4,5,6,37]
 |9=>[2,3]
 |10=>[0,4,5]
 |11=>[2,3]
 |_=>[]
def hd8:List (Nat×Head UU):=[(5,⟨[0],[(4,.ow true TI.mac),(5,.int .i64)],[]⟩)]
noncomputable def fd8:FD UU:=⟨⟨λd=>hasN [] d,λd=>hasN [] d,kf8,zB hd8,zB [],yK [],yF []⟩,ze Tryz.f8,43,[.tmp 2,.tmp 3]⟩
noncomputable def run8(fu:Nat)(c9:Int×List UInt8×Unit->Option (List TokT×Unit))(c15:List TokT×Unit->Option (MacT×Int×Unit))(a:Nat->Bool)(b:List (List UInt8)):Option (zS rs8):=
 xr CC Tb fu 2 (zB []) (zB [(9,(⟨as9,rs9,c9⟩:Con UU)),(15,(⟨as15,rs15,c15⟩:Con UU))]) (zB []) (zB []) fd8 as8 rs8 a (b,())
theorem fdok8:FDOk Tryz.prog (hasN [9,15]) (hasN []) 8 fd8:=fdk Tryz.func8 Tryz.ntmps8 Tryz.results8
end
section
open Go.Al Go.Den
def sh8(fu:Nat)(c9:(Int×(Str×Unit))->(Option (LT×Unit)))(c15:(LT×Unit)->(Option (MacT×(Int×Unit))))(f:Nat->Bool)(b:(List Str)):(Option ((List MacT)×(Bool×Unit))):=cond (ilt 12 (lenI b)) (some ([],(false,()))) (iter fu (λ(c:(((List MacT)×(Int×Unit))×Unit)->Option ((List MacT)×(Bool×Unit)))(a:(((List MacT)×(Int×Unit))×Unit))=>cond (ilt a.1.2.1 (lenI b)) (cond (inB a.1.2.1 b.length) (Option.bind (c9 ((iadd .i64 a.1.2.1 1),((List.getD b a.1.2.1.toNat []),()))) λe=>Option.bind (c15 (e.1,())) λd=>cond (ine d.2.1 0) (some ([],(false,()))) (cond (inB a.1.2.1 b.length) (cond (ilt 200 (lenI (List.getD b a.1.2.1.toNat []))) (some ([],(false,()))) (cond (okN 80 (a.1.1.length+(List.length [d.1]))) (c (((a.1.1++[d.1]),((iadd .i64 a.1.2.1 1),())),())) (none))) (none))) (none)) (some (a.1.1,(true,())))) (([],(0,())),()))
theorem eq8:@run8=@sh8:=by kernel_rfl
def sh3(fu:Nat)(c7:Unit->(Option (Bool×Unit)))(c8:((List Str)×Unit)->(Option ((List MacT)×(Bool×Unit))))(c9:(Int×(Str×Unit))->(Option (LT×Unit)))(c10:((List MacT)×(LT×Unit))->(Option (LT×(Int×Unit))))(c11:(LT×(LT×Unit))->(Option (Bool×Unit)))(l:Nat->Bool)(j:(List Str))(h:Str):(Option (Bool×Unit)):=Option.bind (c7 ()) λg=>Option.bind (c8 (j,())) λf=>cond (!f.2.1) (some (g.1,())) (cond (ilt 500 (lenI h)) (some (g.1,())) (Option.bind (c9 (0,(h,()))) λb=>iter fu (λ(d:((LT×(Bool×(Int×Unit)))×Unit)->Option (Bool×Unit))(a:((LT×(Bool×(Int×Unit)))×Unit))=>cond (ilt a.1.2.2.1 (lenI b.1)) (iter fu (λ(e:((LT×(Int×Unit))×Unit)->Option (Bool×Unit))(c:((LT×(Int×Unit))×Unit))=>cond (ilt c.1.2.1 (lenI f.1)) (cond (inB a.1.2.2.1 b.1.length) (cond (ieq (List.getD b.1 a.1.2.2.1.toNat tokD).kind 1) (cond (inB a.1.2.2.1 b.1.length) (cond (inB c.1.2.1 f.1.length) (cond (seq (List.getD b.1 a.1.2.2.1.toNat tokD).text (List.getD f.1 c.1.2.1.toNat macD).name) (some (g.1,())) (e ((c.1.1,((iadd .i64 c.1.2.1 1),())),()))) (none)) (none)) (e ((c.1.1,((iadd .i64 c.1.2.1 1),())),()))) (none)) (cond (inB a.1.2.2.1 b.1.length) (cond (ieq (List.getD b.1 a.1.2.2.1.toNat tokD).kind 7) (d ((c.1.1,(true,((iadd .i64 a.1.2.2.1 1),()))),())) (cond (inB a.1.2.2.1 b.1.length) (cond (List.getD b.1 a.1.2.2.1.toNat tokD).blank (cond (okN 56 (c.1.1.length+(List.length [(toBl (List.getD b.1 a.1.2.2.1.toNat tokD) true)]))) (d (((c.1.1++[(toBl (List.getD b.1 a.1.2.2.1.toNat tokD) true)]),(false,((iadd .i64 a.1.2.2.1 1),()))),())) (none)) (cond (okN 56 (c.1.1.length+(List.length [(toBl (List.getD b.1 a.1.2.2.1.toNat tokD) a.1.2.1)]))) (d (((c.1.1++[(toBl (List.getD b.1 a.1.2.2.1.toNat tokD) a.1.2.1)]),(false,((iadd .i64 a.1.2.2.1 1),()))),())) (none))) (none))) (none))) ((a.1.1,(0,())),())) (Option.bind (c10 (f.1,(b.1,()))) λi=>cond g.1 (cond (ieq i.2.1 0) (Option.bind (c11 (i.1,(a.1.1,()))) λk=>some (k.1,())) (some (false,()))) (some (false,())))) (([],(false,(0,()))),())))
theorem con8(fu:Nat)(c9:zS as9->Option (zS rs9))(b:ConOk CC Tryz.prog 9 ⟨as9,rs9,c9⟩)(c15:zS as15->Option (zS rs15))(a:ConOk CC Tryz.prog 15 ⟨as15,rs15,c15⟩):ConOk CC Tryz.prog 8 ⟨as8,rs8,λx=>sh8 fu c9 c15 (λ_=>false) x.1⟩:=
 rfk zD (zK (OrcOk.of ⟨zPC,b⟩ rfl) (zK (OrcOk.of ⟨code15,a⟩ rfl) zD)) zD zD fdok8 rfl (ya rfl) (λc x=>by show run8 fu c9 c15 c x.1=_;rw[eq8];rfl)
end
section
open Go.Al Go.Den
noncomputable def c15(x:List TokT×Unit):Option (MacT×Int×Unit):=if x.1.length<=1100000 then some ((defS x.1).1,(defS x.1).2,())else none
theorem ok15:ConOk CC Tryz.prog 15 ⟨as15,rs15,c15⟩:=by
 rintro⟨l,u⟩ y h vs c;change List TokT at l;replace h:(if l.length<=1100000 then some ((defS l).1,(defS l).2,())else none)=some y:=h;split at h
 .rename_i d;obtain rfl:=zXi h;obtain⟨v,vs',rfl,a,b⟩:=c;obtain rfl:vs'=[]:=b;obtain rfl:v=.lst (yL (l.map (CC.encV TI.tok))) (l.map (CC.encV TI.tok)):=a;exact pure15 d
 .cases h
theorem zUE{l:List TokT}(h:(defS l).2=0)(o:l.length<=1100000):(defS l).1.body.1=false/\(defS l).1.body.2.length<=l.length:=by
 unfold defS at h ⊢;cases b:wrd l with
 |none=>rw[b]at h;cases h
 |some c=>
  rw[b]at h;dsimp only at h ⊢;split at h
  .cases h
  .rename_i k;rw[if_neg k];cases a:hdS l.tail with
   |error e=>
    exfalso;rw[a]at h;cases d:l.tail with
    |nil=>rw[d]at a;cases a
    |cons u r=>
     rw[d]at a;simp only[hdS]at a;split at a
     .split at a
      .injection a with a;subst a;cases h
      .cases a
     .split at a
      .cases a
      .injection a with a;subst a;cases h
   |ok y=>
    obtain⟨f,P,g,r⟩:=y;obtain⟨len1,i⟩:=zOB a;have m:l.tail.length<=l.length:=by simp
    rw[a]at h;dsimp only at h ⊢;unfold endS at h ⊢;have j:=zM3 ⟨c,f,P,g,(false,noB r)⟩ (by show(noB r).length<=_;rw[zEh];omega) (by show P.length<=_;omega);cases n:chk ⟨c,f,P,g,(false,noB r)⟩with
    |none=>exact⟨rfl,by show(noB r).length<=_;rw[zEh];omega⟩
    |some e=>
     exfalso;rw[n]at h j;exact j.1 h
noncomputable def c8(fu:Nat)(x:List Str×Unit):Option (List MacT×Bool×Unit):=sh8 fu (c9 fu) c15 (λ_=>false) x.1
theorem ok8(fu:Nat):ConOk CC Tryz.prog 8 ⟨as8,rs8,c8 fu⟩:=con8 fu (c9 fu) (ok9 fu) c15 ok15
theorem okN80{n:Nat}(h:n<=100000):okN 80 n=true:=zA5 (by omega) (by simp only[maxLen];omega)
def RdOk(x:List Str)(r:Option (List MacT×Bool×Unit)):Prop:=∃a b,r=some (a,b,())/\(b=true->a.length=x.length/\x.length<=12/\∀m∈a,m.body.1=false/\m.body.2.length<=200)
theorem c8_tot(fu:Nat)(x:List Str)(u:∀s∈x,s.length<=1090000)(v:2000000<fu):RdOk x (c8 fu (x,())):=by
 show RdOk x (sh8 fu (c9 fu) c15 (λ_=>false) x);unfold sh8;have i:RdOk x (some ([],false,())):=⟨[],false,rfl,λh=>by cases h⟩;cases j:ilt 12 (lenI x)with
 |true=>exact i
 |false=>
  have d:x.length<=12:=by
   have n:=zYY j;have w:¬((12:Int)<(x.length:Int)):=n;omega
  show RdOk x (iter fu _ _);refine zA2 (P:=RdOk x) (λst=>∃(k:Nat)(a:List MacT),st=((a,((k:Int),())),())/\k<=x.length/\a.length=k/\∀m∈a,m.body.1=false/\m.body.2.length<=200) (λst=>x.length-st.1.2.1.toNat) ?_ fu _ ⟨0,[],rfl,Nat.zero_le _,rfl,λm b=>by cases b⟩ (by show x.length-0<fu;omega);rintro rec st ⟨k,a,rfl,C,y,f⟩ g;dsimp only;by_cases c:k<x.length
  .have z:List.getD x (Int.toNat (k:Int)) []=x[k]:=qH c;have o:=u _ (zXZ c);obtain⟨l,A,B,_⟩:=kj (fu:=fu) (iadd .i64 (k:Int) 1) x[k] (by omega) o;rw[zAm (by show(k:Int)<(x.length:Int);omega),yJ (by omega) (by omega),z,A];have p:c15 (l,())=some ((defS l).1,(defS l).2,()):=if_pos (by show l.length<=_;omega);show RdOk x (Option.bind (c15 (l,())) _);rw[p];show RdOk x (cond (ine (defS l).2 0) _ _);cases t:ine (defS l).2 0 with
   |true=>exact i
   |false=>
    have q:(defS l).2=0:=by rw[zEV]at t;simpa using t
    show RdOk x (cond (ilt 200 (lenI x[k])) _ _);cases n:ilt 200 (lenI x[k])with
    |true=>exact i
    |false=>
     have w:¬((200:Int)<(x[k].length:Int)):=zYY n;have r:=zUE q (by omega);show RdOk x (cond (okN 80 (a.length+1)) _ _);rw[okN80 (by omega),i1 (by omega)];refine g _ ⟨k+1,a++[(defS l).1],rfl,c,by rw[app1];omega,λm b=>?_⟩ (by show x.length-(k+1)<x.length-k;omega);rcases zWe.1 b with b|b
     .exact f m b
     .obtain rfl:=zW1.1 b;exact⟨r.1,by omega⟩
  .have e:k=x.length:=by omega
   rw[zCn (by show(x.length:Int)<=(k:Int);omega)];exact⟨a,true,rfl,λ_=>⟨by omega,d,f⟩⟩
noncomputable def c3(fu:Nat)(x:List Str×Str×Unit):Option (Bool×Unit):=sh3 fu c7 (c8 fu) (c9 fu) (c10N fu) (c11 fu) (λ_=>false) x.1 x.2.1
end
section
open Go.Al Go.Den
abbrev as4:List (AK UU):=[.str,.str,.str]
abbrev rs4:List (AK UU):=[.bool]
def kf4:Nat->List Nat
 |0=>[0,1,2]
 |1=>[0,1,2,7]
 |2=>[1,2,7,8,9]
 |3=>[1,2,7,8,9,10]
 |4=>[1,2,7,8,9,10,11]
 |5=>[7,8,10,11,48]
 |6=>[6]
 |7=>[7,8,10,11,12]
 |8=>[7,8,10,11,12,56]
 |9=>[7,8,10,11,12]
 |10=>[7,8,10,11,12,78]
 |11=>[6]
 |12=>[7,8,10,11,13]
 |13=>[7,8,10,11,13]
 |14=>[7,8,10,11,13,14]
 |15=>[7,8,10,11,13,14,15]
 |16=>[7,8,10,11,13,14,15,96]
 |17=>[7,8,10,11,13,14,15]
 |18=>[7,8,10,11,13,14,15,118]
 |19=>[6]
 |20=>[7,8,10,11,13,14,15,123]
 |21=>[7,8,10,11,13,14,15]
 |22=>[7,8,10,11,13,14,15,16]
 |23=>[7,8,10,11,13,14,15,16,137]
 |24=>[7,8,10,11,13,14,15,16]
 |25=>[7,8,10,11,13,14,15,16,17]
 |26=>[7,8,10,11,13,14,15,16,17]
 |27=>[7,8,10,11,13,14,15,16]
 |28=>[7,8,10,13,14,168]
 |29=>[7,8,13,14]
 |30=>[7,14,18,19]
 |31=>[6]
 |_=>[]
def hd4:List (Nat×Head UU):=[(8,⟨[7,8,10,11],[(12,.int .i64)],[]⟩),(16,⟨[7,8,10,11],[(13,.ow false TI.tok),(14,.ow true TI.tok),(15,.int .i64)],[]⟩),(23,⟨[7,8,10,11,15],[(13,.ow false TI.tok),(14,.ow true TI.tok),(16,.int .i64)],[]⟩)]
def jn4:List (Nat×Head UU):=[(19,⟨[7,8,10,11],[(13,.ow false TI.tok),(14,.ow true TI.tok),(15,.int .i64),(118,.bool)],[]⟩)]
noncomputable def fd4:FD UU:=⟨⟨λd=>hasN [] d,λd=>hasN [80] d,kf4,zB hd4,zB jn4,yK [],yF []⟩,ze Tryz.f4,190,[.tmp 6]⟩
noncomputable def run4(fu:Nat)(c7:Unit->Option (Bool×Unit))(c8:List (List UInt8)×Unit->Option (List MacT×Bool×Unit))(c9:Int×List UInt8×Unit->Option (List TokT×Unit))(c10:List MacT×List TokT×Unit->Option (List TokT×Int×Unit))(c11:List TokT×List TokT×Unit->Option (Bool×Unit))(a:Nat->Bool)(b:List UInt8)(c:List UInt8)(d:List UInt8):Option (zS rs4):=
 xr CC Tb fu 2 (zB []) (zB [(7,(⟨as7,rs7,c7⟩:Con UU)),(8,(⟨as8,rs8,c8⟩:Con UU)),(9,(⟨as9,rs9,c9⟩:Con UU)),(10,(⟨as10,rs10,c10⟩:Con UU)),(11,(⟨as11,rs11,c11⟩:Con UU))]) (zB []) (zB []) fd4 as4 rs4 a (b,c,d,())
theorem fdok4:FDOk Tryz.prog (hasN [7,8,9,10,11]) (hasN []) 4 fd4:=fdk Tryz.func4 Tryz.ntmps4 Tryz.results4
end
section
open Go.Al Go.Den
def sh4(fu:Nat)(c7:Unit->(Option (Bool×Unit)))(c8:((List Str)×Unit)->(Option ((List MacT)×(Bool×Unit))))(c9:(Int×(Str×Unit))->(Option (LT×Unit)))(c10:((List MacT)×(LT×Unit))->(Option (LT×(Int×Unit))))(c11:(LT×(LT×Unit))->(Option (Bool×Unit)))(r:Nat->Bool)(q:Str)(o:Str)(p:Str):(Option (Bool×Unit)):=Option.bind (c7 ()) λf=>Option.bind (c8 ([q],())) λa=>Option.bind (c9 (0,(o,()))) λi=>Option.bind (c9 (0,(p,()))) λm=>cond (!a.2.1) (some (f.1,())) (cond (inB 0 a.1.length) (cond (List.getD a.1 0 macD).func (some (f.1,())) (cond (ilt 200 (lenI o)) (some (f.1,())) (cond (ilt 200 (lenI p)) (some (f.1,())) (iter fu (λ(k:((Int×Unit)×Unit)->Option (Bool×Unit))(j:((Int×Unit)×Unit))=>cond (inB 0 a.1.length) (cond (ilt j.1.1 (lenI (List.getD a.1 0 macD).body.2)) (cond (inB 0 a.1.length) (cond (inB j.1.1 (List.length (List.getD a.1 0 macD).body.2)) (cond (ieq (TokT.kind (List.getD (List.getD a.1 0 macD).body.2 j.1.1.toNat tokD)) 1) (some (f.1,())) (cond (inB 0 a.1.length) (cond (inB j.1.1 (List.length (List.getD a.1 0 macD).body.2)) (cond (seq (TokT.text (List.getD (List.getD a.1 0 macD).body.2 j.1.1.toNat tokD)) [35,35]) (some (f.1,())) (k (((iadd .i64 j.1.1 1),()),()))) (none)) (none))) (none)) (none)) (cond (okN 56 (0+i.1.length)) (cond (inB 0 a.1.length) (cond (okN 56 ((List.length ([]++i.1))+(List.length [(TokT.mk 1 (List.getD a.1 0 macD).name 0 0 0 true)]))) (cond (okN 56 ((List.length (([]++i.1)++[(TokT.mk 1 (List.getD a.1 0 macD).name 0 0 0 true)]))+m.1.length)) (iter fu (λ(g:((LT×(LT×(Int×Unit)))×Unit)->Option (Bool×Unit))(b:((LT×(LT×(Int×Unit)))×Unit))=>cond (ilt b.1.2.2.1 (lenI b.1.1)) (qU (λ(d:((LT×(LT×(Int×(Bool×Unit))))×Unit)->Option (Bool×Unit))=>cond (inB b.1.2.2.1 b.1.1.length) (cond (ieq (List.getD b.1.1 b.1.2.2.1.toNat tokD).kind 7) (d ((b.1.1,(b.1.2.1,(b.1.2.2.1,(true,())))),())) (cond (ine b.1.2.2.1 (lenI i.1)) (cond (inB b.1.2.2.1 b.1.1.length) (d ((b.1.1,(b.1.2.1,(b.1.2.2.1,((ieq (List.getD b.1.1 b.1.2.2.1.toNat tokD).kind 1),())))),())) (none)) (d ((b.1.1,(b.1.2.1,(b.1.2.2.1,(false,())))),())))) (none)) (λ(e:((LT×(LT×(Int×(Bool×Unit))))×Unit))=>cond e.1.2.2.2.1 (some (f.1,())) (cond (ine e.1.2.2.1 (lenI i.1)) (cond (inB e.1.2.2.1 e.1.1.length) (cond (okN 56 (e.1.2.1.length+(List.length [(List.getD e.1.1 e.1.2.2.1.toNat tokD)]))) (g ((e.1.1,((e.1.2.1++[(List.getD e.1.1 e.1.2.2.1.toNat tokD)]),((iadd .i64 e.1.2.2.1 1),()))),())) (none)) (none)) (iter fu (λ(h:((LT×(LT×(Int×Unit)))×Unit)->Option (Bool×Unit))(c:((LT×(LT×(Int×Unit)))×Unit))=>cond (inB 0 a.1.length) (cond (ilt c.1.2.2.1 (lenI (List.getD a.1 0 macD).body.2)) (cond (inB 0 a.1.length) (cond (inB c.1.2.2.1 (List.length (List.getD a.1 0 macD).body.2)) (cond (TokT.blank (List.getD (List.getD a.1 0 macD).body.2 c.1.2.2.1.toNat tokD)) (cond (okN 56 (c.1.2.1.length+(List.length [(toBl (List.getD (List.getD a.1 0 macD).body.2 c.1.2.2.1.toNat tokD) true)]))) (h ((c.1.1,((c.1.2.1++[(toBl (List.getD (List.getD a.1 0 macD).body.2 c.1.2.2.1.toNat tokD) true)]),((iadd .i64 c.1.2.2.1 1),()))),())) (none)) (cond (okN 56 (c.1.2.1.length+(List.length [(toBl (List.getD (List.getD a.1 0 macD).body.2 c.1.2.2.1.toNat tokD) (ieq c.1.2.2.1 0))]))) (h ((c.1.1,((c.1.2.1++[(toBl (List.getD (List.getD a.1 0 macD).body.2 c.1.2.2.1.toNat tokD) (ieq c.1.2.2.1 0))]),((iadd .i64 c.1.2.2.1 1),()))),())) (none))) (none)) (none)) (g ((c.1.1,(c.1.2.1,((iadd .i64 e.1.2.2.1 1),()))),()))) (none)) ((e.1.1,(e.1.2.1,(0,()))),()))))) (cond (inB 0 a.1.length) (cond (ieq (lenI (List.getD a.1 0 macD).body.2) 0) (cond (ilt 0 (lenI m.1)) (cond (inB (lenI i.1) b.1.2.1.length) (none) (none)) (cond (!(List.isEmpty b.1.1)) (Option.bind (c10 (a.1,(b.1.1,()))) λl=>cond f.1 (cond (ieq l.2.1 0) (Option.bind (c11 (l.1,(b.1.2.1,()))) λn=>some (n.1,())) (some (false,()))) (some (false,()))) (none))) (cond (!(List.isEmpty b.1.1)) (Option.bind (c10 (a.1,(b.1.1,()))) λl=>cond f.1 (cond (ieq l.2.1 0) (Option.bind (c11 (l.1,(b.1.2.1,()))) λn=>some (n.1,())) (some (false,()))) (some (false,()))) (none))) (none))) ((((([]++i.1)++[(TokT.mk 1 (List.getD a.1 0 macD).name 0 0 0 true)])++m.1),([],(0,()))),())) (none)) (none)) (none)) (none))) (none)) ((0,()),()))))) (none))
theorem eq4:@run4=@sh4:=by kernel_rfl
theorem con4(fu:Nat)(c7:zS as7->Option (zS rs7))(c:ConOk CC Tryz.prog 7 ⟨as7,rs7,c7⟩)(c8:zS as8->Option (zS rs8))(d:ConOk CC Tryz.prog 8 ⟨as8,rs8,c8⟩)(c9:zS as9->Option (zS rs9))(e:ConOk CC Tryz.prog 9 ⟨as9,rs9,c9⟩)(c10:zS as10->Option (zS rs10))(a:ConOk CC Tryz.prog 10 ⟨as10,rs10,c10⟩)(c11:zS as11->Option (zS rs11))(b:ConOk CC Tryz.prog 11 ⟨as11,rs11,c11⟩):ConOk CC Tryz.prog 4 ⟨as4,rs4,λx=>sh4 fu c7 c8 c9 c10 c11 (λ_=>false) x.1 x.2.1 x.2.2.1⟩:=
 rfk zD (zK (OrcOk.of ⟨code7,c⟩ rfl) (zK (OrcOk.of ⟨code8,d⟩ rfl) (zK (OrcOk.of ⟨zPC,e⟩ rfl) (zK (OrcOk.of ⟨zQ5,a⟩ rfl) (zK (OrcOk.of ⟨zR0,b⟩ rfl) zD))))) zD zD fdok4 rfl (ya rfl) (λf x=>by show run4 fu c7 c8 c9 c10 c11 f x.1 x.2.1 x.2.2.1=_;rw[eq4];rfl)
end
section
open Go.Al Go.Den
def kf4b:Nat->List Nat
 |0=>[0,1,2]
 |1=>[0,1,2,7]
 |2=>[1,2,7,8,9]
 |3=>[1,2,7,8,9,10]
 |4=>[1,2,7,8,9,10,11]
 |5=>[7,8,10,11,48]
 |6=>[6]
 |7=>[7,8,10,11,12]
 |8=>[7,8,10,11,12,56]
 |9=>[7,8,10,11,12]
 |10=>[]
 |11=>[6]
 |12=>[7,8,10,11,13]
 |13=>[7,8,10,11,13]
 |14=>[7,8,10,11,13,14]
 |15=>[7,8,10,11,13,14,15]
 |16=>[7,8,10,11,13,14,15,96]
 |17=>[7,8,10,11,13,14,15]
 |18=>[7,8,10,11,13,14,15,118]
 |19=>[6]
 |20=>[7,8,10,11,13,14,15,123]
 |21=>[7,8,10,11,13,14,15]
 |22=>[7,8,10,11,13,14,15,16]
 |23=>[7,8,10,11,13,14,15,16,137]
 |24=>[7,8,10,11,13,14,15,16]
 |25=>[]
 |26=>[7,8,10,11,13,14,15,16,17]
 |27=>[7,8,10,11,13,14,15,16]
 |28=>[7,8,10,13,14,168]
 |29=>[7,8,13,14]
 |30=>[7,14,18,19]
 |31=>[6]
 |_=>[]
def hd4b:List (Nat×Head UU):=[(8,⟨[7,8,10,11],[(12,.int .i64)],[]⟩),(16,⟨[7,8,10,11],[(13,.ow false TI.tok),(14,.arr TI.tok),(15,.int .i64)],[]⟩),(23,⟨[7,8,10,11,15],[(13,.ow false TI.tok),(14,.arr TI.tok),(16,.int .i64)],[]⟩)]
def jn4b:List (Nat×Head UU):=[(19,⟨[7,8,10,11],[(13,.ow false TI.tok),(14,.arr TI.tok),(15,.int .i64),(118,.bool)],[]⟩)]
noncomputable def fd4b:FD UU:=⟨⟨λd=>hasN [130] d,λd=>hasN [80] d,kf4b,zB hd4b,zB jn4b,yK [],yF [(30,[14])]⟩,ze Tryz.f4,190,[.tmp 6]⟩
noncomputable def run4b(fu:Nat)(c7:Unit->Option (Bool×Unit))(c8:List (List UInt8)×Unit->Option (List MacT×Bool×Unit))(c9:Int×List UInt8×Unit->Option (List TokT×Unit))(c10:List MacT×List TokT×Unit->Option (List TokT×Int×Unit))(c11:List TokT×List TokT×Unit->Option (Bool×Unit))(a:Nat->Bool)(b:List UInt8)(c:List UInt8)(d:List UInt8):Option (zS rs4):=
 xr CC Tb fu 2 (zB []) (zB [(7,(⟨as7,rs7,c7⟩:Con UU)),(8,(⟨as8,rs8,c8⟩:Con UU)),(9,(⟨as9,rs9,c9⟩:Con UU)),(10,(⟨as10,rs10,c10⟩:Con UU)),(11,(⟨as11,rs11,c11⟩:Con UU))]) (zB []) (zB []) fd4b as4 rs4 a (b,c,d,())
theorem fdok4b:FDOk Tryz.prog (hasN [7,8,9,10,11]) (hasN []) 4 fd4b:=fdk Tryz.func4 Tryz.ntmps4 Tryz.results4
end
section
open Go.Al Go.Den
def sh4b(fu:Nat)(c7:Unit->(Option (Bool×Unit)))(c8:((List Str)×Unit)->(Option ((List MacT)×(Bool×Unit))))(c9:(Int×(Str×Unit))->(Option (LT×Unit)))(c10:((List MacT)×(LT×Unit))->(Option (LT×(Int×Unit))))(c11:(LT×(LT×Unit))->(Option (Bool×Unit)))(s:Nat->Bool)(r:Str)(o:Str)(p:Str):(Option (Bool×Unit)):=Option.bind (c7 ()) λj=>Option.bind (c8 ([r],())) λc=>Option.bind (c9 (0,(o,()))) λi=>Option.bind (c9 (0,(p,()))) λm=>cond (!c.2.1) (some (j.1,())) (cond (inB 0 c.1.length) (cond (List.getD c.1 0 macD).func (some (j.1,())) (cond (ilt 200 (lenI o)) (some (j.1,())) (cond (ilt 200 (lenI p)) (some (j.1,())) (iter fu (λ(q:((Int×Unit)×Unit)->Option (Bool×Unit))(n:((Int×Unit)×Unit))=>cond (inB 0 c.1.length) (cond (ilt n.1.1 (lenI (List.getD c.1 0 macD).body.2)) (cond (inB 0 c.1.length) (cond (inB n.1.1 (List.length (List.getD c.1 0 macD).body.2)) (cond (ieq (TokT.kind (List.getD (List.getD c.1 0 macD).body.2 n.1.1.toNat tokD)) 1) (none) (cond (inB 0 c.1.length) (cond (inB n.1.1 (List.length (List.getD c.1 0 macD).body.2)) (none) (none)) (none))) (none)) (none)) (cond (okN 56 (0+i.1.length)) (cond (inB 0 c.1.length) (cond (okN 56 ((List.length ([]++i.1))+(List.length [(TokT.mk 1 (List.getD c.1 0 macD).name 0 0 0 true)]))) (cond (okN 56 ((List.length (([]++i.1)++[(TokT.mk 1 (List.getD c.1 0 macD).name 0 0 0 true)]))+m.1.length)) (iter fu (λ(f:((LT×((Option LT)×(Int×Unit)))×Unit)->Option (Bool×Unit))(d:((LT×((Option LT)×(Int×Unit)))×Unit))=>z8 d.1.2.1 (cond (ilt d.1.2.2.1 (lenI d.1.1)) (qU (λ(g:((LT×((Option LT)×(Int×(Bool×Unit))))×Unit)->Option (Bool×Unit))=>cond (inB d.1.2.2.1 d.1.1.length) (cond (ieq (List.getD d.1.1 d.1.2.2.1.toNat tokD).kind 7) (g ((d.1.1,(none,(d.1.2.2.1,(true,())))),())) (cond (ine d.1.2.2.1 (lenI i.1)) (cond (inB d.1.2.2.1 d.1.1.length) (g ((d.1.1,(none,(d.1.2.2.1,((ieq (List.getD d.1.1 d.1.2.2.1.toNat tokD).kind 1),())))),())) (none)) (g ((d.1.1,(none,(d.1.2.2.1,(false,())))),())))) (none)) (λ(a:((LT×((Option LT)×(Int×(Bool×Unit))))×Unit))=>z8 a.1.2.1 (cond a.1.2.2.2.1 (some (j.1,())) (cond (ine a.1.2.2.1 (lenI i.1)) (cond (inB a.1.2.2.1 a.1.1.length) (cond (okN 56 (List.length [(List.getD a.1.1 a.1.2.2.1.toNat tokD)])) (cond (eqN (List.length [(List.getD a.1.1 a.1.2.2.1.toNat tokD)]) (List.length (zL (List.length [(List.getD a.1.1 a.1.2.2.1.toNat tokD)]) [(List.getD a.1.1 a.1.2.2.1.toNat tokD)]))) (f ((a.1.1,((some (zL (List.length [(List.getD a.1.1 a.1.2.2.1.toNat tokD)]) [(List.getD a.1.1 a.1.2.2.1.toNat tokD)])),((iadd .i64 a.1.2.2.1 1),()))),())) (none)) (none)) (none)) (iter fu (λ(k:((LT×((Option LT)×(Int×Unit)))×Unit)->Option (Bool×Unit))(h:((LT×((Option LT)×(Int×Unit)))×Unit))=>z8 h.1.2.1 (cond (inB 0 c.1.length) (cond (ilt h.1.2.2.1 (lenI (List.getD c.1 0 macD).body.2)) (cond (inB 0 c.1.length) (cond (inB h.1.2.2.1 (List.length (List.getD c.1 0 macD).body.2)) (none) (none)) (none)) (f ((h.1.1,(none,((iadd .i64 a.1.2.2.1 1),()))),()))) (none)) λb=>cond (inB 0 c.1.length) (cond (ilt h.1.2.2.1 (lenI (List.getD c.1 0 macD).body.2)) (cond (inB 0 c.1.length) (cond (inB h.1.2.2.1 (List.length (List.getD c.1 0 macD).body.2)) (none) (none)) (none)) (cond (eqN b.length (List.length (zL b.length b))) (f ((h.1.1,((some (zL b.length b)),((iadd .i64 a.1.2.2.1 1),()))),())) (none))) (none)) ((a.1.1,(none,(0,()))),())))) λb=>cond a.1.2.2.2.1 (some (j.1,())) (cond (ine a.1.2.2.1 (lenI i.1)) (cond (inB a.1.2.2.1 a.1.1.length) (cond ((Nat.ble b.length b.length)&&(okN 56 (b.length+(List.length [(List.getD a.1.1 a.1.2.2.1.toNat tokD)])))) (cond (eqN (b.length+(List.length [(List.getD a.1.1 a.1.2.2.1.toNat tokD)])) (List.length (zL (b.length+(List.length [(List.getD a.1.1 a.1.2.2.1.toNat tokD)])) ((List.take b.length b)++[(List.getD a.1.1 a.1.2.2.1.toNat tokD)])))) (f ((a.1.1,((some (zL (b.length+(List.length [(List.getD a.1.1 a.1.2.2.1.toNat tokD)])) ((List.take b.length b)++[(List.getD a.1.1 a.1.2.2.1.toNat tokD)]))),((iadd .i64 a.1.2.2.1 1),()))),())) (none)) (none)) (none)) (cond (eqN b.length (List.length (zL b.length b))) (iter fu (λ(k:((LT×((Option LT)×(Int×Unit)))×Unit)->Option (Bool×Unit))(h:((LT×((Option LT)×(Int×Unit)))×Unit))=>z8 h.1.2.1 (cond (inB 0 c.1.length) (cond (ilt h.1.2.2.1 (lenI (List.getD c.1 0 macD).body.2)) (cond (inB 0 c.1.length) (cond (inB h.1.2.2.1 (List.length (List.getD c.1 0 macD).body.2)) (none) (none)) (none)) (f ((h.1.1,(none,((iadd .i64 a.1.2.2.1 1),()))),()))) (none)) λe=>cond (inB 0 c.1.length) (cond (ilt h.1.2.2.1 (lenI (List.getD c.1 0 macD).body.2)) (cond (inB 0 c.1.length) (cond (inB h.1.2.2.1 (List.length (List.getD c.1 0 macD).body.2)) (none) (none)) (none)) (cond (eqN e.length (List.length (zL e.length e))) (f ((h.1.1,((some (zL e.length e)),((iadd .i64 a.1.2.2.1 1),()))),())) (none))) (none)) ((a.1.1,((some (zL b.length b)),(0,()))),())) (none))))) (cond (inB 0 c.1.length) (cond (ieq (lenI (List.getD c.1 0 macD).body.2) 0) (cond (ilt 0 (lenI m.1)) (none) (cond (!(List.isEmpty d.1.1)) (Option.bind (c10 (c.1,(d.1.1,()))) λb=>cond j.1 (cond (ieq b.2.1 0) (Option.bind (c11 (b.1,([],()))) λe=>some (e.1,())) (some (false,()))) (some (false,()))) (none))) (cond (!(List.isEmpty d.1.1)) (Option.bind (c10 (c.1,(d.1.1,()))) λb=>cond j.1 (cond (ieq b.2.1 0) (Option.bind (c11 (b.1,([],()))) λe=>some (e.1,())) (some (false,()))) (some (false,()))) (none))) (none))) λb=>cond (ilt d.1.2.2.1 (lenI d.1.1)) (qU (λ(g:((LT×((Option LT)×(Int×(Bool×Unit))))×Unit)->Option (Bool×Unit))=>cond (inB d.1.2.2.1 d.1.1.length) (cond (ieq (List.getD d.1.1 d.1.2.2.1.toNat tokD).kind 7) (cond (eqN b.length (List.length (zL b.length b))) (g ((d.1.1,((some (zL b.length b)),(d.1.2.2.1,(true,())))),())) (none)) (cond (ine d.1.2.2.1 (lenI i.1)) (cond (inB d.1.2.2.1 d.1.1.length) (cond (eqN b.length (List.length (zL b.length b))) (g ((d.1.1,((some (zL b.length b)),(d.1.2.2.1,((ieq (List.getD d.1.1 d.1.2.2.1.toNat tokD).kind 1),())))),())) (none)) (none)) (cond (eqN b.length (List.length (zL b.length b))) (g ((d.1.1,((some (zL b.length b)),(d.1.2.2.1,(false,())))),())) (none)))) (none)) (λ(a:((LT×((Option LT)×(Int×(Bool×Unit))))×Unit))=>z8 a.1.2.1 (cond a.1.2.2.2.1 (some (j.1,())) (cond (ine a.1.2.2.1 (lenI i.1)) (cond (inB a.1.2.2.1 a.1.1.length) (cond (okN 56 (List.length [(List.getD a.1.1 a.1.2.2.1.toNat tokD)])) (cond (eqN (List.length [(List.getD a.1.1 a.1.2.2.1.toNat tokD)]) (List.length (zL (List.length [(List.getD a.1.1 a.1.2.2.1.toNat tokD)]) [(List.getD a.1.1 a.1.2.2.1.toNat tokD)]))) (f ((a.1.1,((some (zL (List.length [(List.getD a.1.1 a.1.2.2.1.toNat tokD)]) [(List.getD a.1.1 a.1.2.2.1.toNat tokD)])),((iadd .i64 a.1.2.2.1 1),()))),())) (none)) (none)) (none)) (iter fu (λ(k:((LT×((Option LT)×(Int×Unit)))×Unit)->Option (Bool×Unit))(h:((LT×((Option LT)×(Int×Unit)))×Unit))=>z8 h.1.2.1 (cond (inB 0 c.1.length) (cond (ilt h.1.2.2.1 (lenI (List.getD c.1 0 macD).body.2)) (cond (inB 0 c.1.length) (cond (inB h.1.2.2.1 (List.length (List.getD c.1 0 macD).body.2)) (none) (none)) (none)) (f ((h.1.1,(none,((iadd .i64 a.1.2.2.1 1),()))),()))) (none)) λe=>cond (inB 0 c.1.length) (cond (ilt h.1.2.2.1 (lenI (List.getD c.1 0 macD).body.2)) (cond (inB 0 c.1.length) (cond (inB h.1.2.2.1 (List.length (List.getD c.1 0 macD).body.2)) (none) (none)) (none)) (cond (eqN e.length (List.length (zL e.length e))) (f ((h.1.1,((some (zL e.length e)),((iadd .i64 a.1.2.2.1 1),()))),())) (none))) (none)) ((a.1.1,(none,(0,()))),())))) λe=>cond a.1.2.2.2.1 (some (j.1,())) (cond (ine a.1.2.2.1 (lenI i.1)) (cond (inB a.1.2.2.1 a.1.1.length) (cond ((Nat.ble e.length e.length)&&(okN 56 (e.length+(List.length [(List.getD a.1.1 a.1.2.2.1.toNat tokD)])))) (cond (eqN (e.length+(List.length [(List.getD a.1.1 a.1.2.2.1.toNat tokD)])) (List.length (zL (e.length+(List.length [(List.getD a.1.1 a.1.2.2.1.toNat tokD)])) ((List.take e.length e)++[(List.getD a.1.1 a.1.2.2.1.toNat tokD)])))) (f ((a.1.1,((some (zL (e.length+(List.length [(List.getD a.1.1 a.1.2.2.1.toNat tokD)])) ((List.take e.length e)++[(List.getD a.1.1 a.1.2.2.1.toNat tokD)]))),((iadd .i64 a.1.2.2.1 1),()))),())) (none)) (none)) (none)) (cond (eqN e.length (List.length (zL e.length e))) (iter fu (λ(k:((LT×((Option LT)×(Int×Unit)))×Unit)->Option (Bool×Unit))(h:((LT×((Option LT)×(Int×Unit)))×Unit))=>z8 h.1.2.1 (cond (inB 0 c.1.length) (cond (ilt h.1.2.2.1 (lenI (List.getD c.1 0 macD).body.2)) (cond (inB 0 c.1.length) (cond (inB h.1.2.2.1 (List.length (List.getD c.1 0 macD).body.2)) (none) (none)) (none)) (f ((h.1.1,(none,((iadd .i64 a.1.2.2.1 1),()))),()))) (none)) λl=>cond (inB 0 c.1.length) (cond (ilt h.1.2.2.1 (lenI (List.getD c.1 0 macD).body.2)) (cond (inB 0 c.1.length) (cond (inB h.1.2.2.1 (List.length (List.getD c.1 0 macD).body.2)) (none) (none)) (none)) (cond (eqN l.length (List.length (zL l.length l))) (f ((h.1.1,((some (zL l.length l)),((iadd .i64 a.1.2.2.1 1),()))),())) (none))) (none)) ((a.1.1,((some (zL e.length e)),(0,()))),())) (none))))) (cond (inB 0 c.1.length) (cond (ieq (lenI (List.getD c.1 0 macD).body.2) 0) (cond (ilt 0 (lenI m.1)) (cond (inB (lenI i.1) b.length) (cond (Nat.blt (Int.toNat (lenI i.1)) b.length) (cond (Nat.ble b.length (List.length (List.set b (Int.toNat (lenI i.1)) (toBl (List.getD b (Int.toNat (lenI i.1)) tokD) true)))) (cond (!(List.isEmpty d.1.1)) (Option.bind (c10 (c.1,(d.1.1,()))) λe=>cond j.1 (cond (ieq e.2.1 0) (cond (cond false (List.isEmpty (zL b.length (List.set b (Int.toNat (lenI i.1)) (toBl (List.getD b (Int.toNat (lenI i.1)) tokD) true)))) (!(List.isEmpty (zL b.length (List.set b (Int.toNat (lenI i.1)) (toBl (List.getD b (Int.toNat (lenI i.1)) tokD) true)))))) (Option.bind (c11 (e.1,((zL b.length (List.set b (Int.toNat (lenI i.1)) (toBl (List.getD b (Int.toNat (lenI i.1)) tokD) true))),()))) λl=>some (l.1,())) (none)) (some (false,()))) (some (false,()))) (none)) (none)) (none)) (none)) (cond (Nat.ble b.length b.length) (cond (!(List.isEmpty d.1.1)) (Option.bind (c10 (c.1,(d.1.1,()))) λe=>cond j.1 (cond (ieq e.2.1 0) (cond (cond false (List.isEmpty (zL b.length b)) (!(List.isEmpty (zL b.length b)))) (Option.bind (c11 (e.1,((zL b.length b),()))) λl=>some (l.1,())) (none)) (some (false,()))) (some (false,()))) (none)) (none))) (cond (Nat.ble b.length b.length) (cond (!(List.isEmpty d.1.1)) (Option.bind (c10 (c.1,(d.1.1,()))) λe=>cond j.1 (cond (ieq e.2.1 0) (cond (cond false (List.isEmpty (zL b.length b)) (!(List.isEmpty (zL b.length b)))) (Option.bind (c11 (e.1,((zL b.length b),()))) λl=>some (l.1,())) (none)) (some (false,()))) (some (false,()))) (none)) (none))) (none))) ((((([]++i.1)++[(TokT.mk 1 (List.getD c.1 0 macD).name 0 0 0 true)])++m.1),(none,(0,()))),())) (none)) (none)) (none)) (none))) (none)) ((0,()),()))))) (none))
theorem eq4b:@run4b=@sh4b:=by kernel_rfl
theorem con4b(fu:Nat)(c7:zS as7->Option (zS rs7))(c:ConOk CC Tryz.prog 7 ⟨as7,rs7,c7⟩)(c8:zS as8->Option (zS rs8))(d:ConOk CC Tryz.prog 8 ⟨as8,rs8,c8⟩)(c9:zS as9->Option (zS rs9))(e:ConOk CC Tryz.prog 9 ⟨as9,rs9,c9⟩)(c10:zS as10->Option (zS rs10))(a:ConOk CC Tryz.prog 10 ⟨as10,rs10,c10⟩)(c11:zS as11->Option (zS rs11))(b:ConOk CC Tryz.prog 11 ⟨as11,rs11,c11⟩):ConOk CC Tryz.prog 4 ⟨as4,rs4,λx=>sh4b fu c7 c8 c9 c10 c11 (λ_=>false) x.1 x.2.1 x.2.2.1⟩:=
 rfk zD (zK (OrcOk.of ⟨code7,c⟩ rfl) (zK (OrcOk.of ⟨code8,d⟩ rfl) (zK (OrcOk.of ⟨zPC,e⟩ rfl) (zK (OrcOk.of ⟨zQ5,a⟩ rfl) (zK (OrcOk.of ⟨zR0,b⟩ rfl) zD))))) zD zD fdok4b rfl (ya rfl) (λf x=>by show run4b fu c7 c8 c9 c10 c11 f x.1 x.2.1 x.2.2.1=_;rw[eq4b];rfl)
end
section
open Go.Al Go.Den
def Ru4(fu:Nat)(x:Str×Str×Str×Unit):Prop:=sh4 fu c7 (c8 fu) (c9 fu) (c10A fu) (c11 fu) (λ_=>false) x.1 x.2.1 x.2.2.1=some (true,())\/sh4b fu c7 (c8 fu) (c9 fu) (c10A fu) (c11 fu) (λ_=>false) x.1 x.2.1 x.2.2.1=some (true,())
open Classical in
noncomputable def c4(fu:Nat)(x:Str×Str×Str×Unit):Option (Bool×Unit):=if Ru4 fu x then some (true,())else none
open Classical in
theorem ok4A(fu:Nat):ConOk CC Tryz.prog 4 ⟨as4,rs4,c4 fu⟩:=by
 intro x y h;replace h:(if Ru4 fu x then some (true,())else none)=some y:=h;split at h
 .rename_i a;obtain rfl:=zXi h;rcases a with a|a
  .exact con4 fu c7 ok7 (c8 fu) (ok8 fu) (c9 fu) (ok9 fu) (c10A fu) (ok10A fu) (c11 fu) (ok11 fu) x _ a
  .exact con4b fu c7 ok7 (c8 fu) (ok8 fu) (c9 fu) (ok9 fu) (c10A fu) (ok10A fu) (c11 fu) (ok11 fu) x _ a
 .cases h
section
variable{α:Type}(e:List TokT->α)
abbrev S4T(α:Type):=(List TokT×(α×(Int×Unit)))×Unit
theorem zOo{l:List TokT}{k:Nat}(h:k<l.length)(b:Pl (l.take k))(c:l[k].kind≠1)(d:l[k].kind≠7):Pl (l.take (k+1)):=λx a=>by
 rw[xT h,zWe]at a;rcases a with a|a
 .exact b x a
 .obtain rfl:=zW1.1 a;exact⟨c,d⟩
theorem loop4(fu:Nat)(F:(S4T α->Option (Bool×Unit))->S4T α->Option (Bool×Unit))(A B C L:List TokT)(t:TokT)(n:L=A++t::C)(w:9000<fu)(z:A.length<=200)(D:B.length<=200)(E:C.length<=200)
 (b:∀rec W (i:Nat) (r:Option (Bool×Unit)) (hi:i<L.length),W.length<=1000->(L[i].kind=7\/L[i].kind=1->some (true,())=r) ->
  (i=A.length->rec ((L,(e (W++setT B),(((i+1:Nat):Int),()))),())=r)->(i≠A.length->L[i].kind≠1->L[i].kind≠7->rec ((L,(e (W++[L[i]]),(((i+1:Nat):Int),()))),())=r)->F rec ((L,(e W,((i:Int),()))),())=r)
 (f:∀rec,Pl A->Pl C->F rec ((L,(e (A++(setT B++C)),((L.length:Int),()))),())=some (true,())) :
 iter fu F ((L,(e [],((0:Int),()))),())=some (true,()):=by
 have o:L.length=A.length+(C.length+1):=by rw[n,zWD,zWC]
 refine xy (λst=>∃(i:Nat)(W:List TokT),st=((L,(e W,((i:Int),()))),())/\((i<=A.length/\W=A.take i/\Pl (A.take i))\/∃k,i=A.length+(k+1)/\k<=C.length/\W=A++(setT B++C.take k)/\Pl A/\Pl (C.take k))) (λst=>L.length-st.1.2.2.1.toNat) ?_ fu _ ⟨0,[],rfl,.inl ⟨zWd _,rfl,λx p=>by cases p⟩⟩ (by show L.length-0<fu;omega);rintro rec st ⟨i,W,rfl,y⟩ c;rcases y with⟨hi,rfl,q⟩|⟨k,rfl,G,rfl,h,g⟩
 .have d:i<L.length:=by omega
  have m:L.length-(i+1)<L.length-i:=by omega
  refine b _ _ i _ d (by rw[zWT];omega) (λ_=>rfl) (λv=>?_) λs j l=>?_
  .subst v;rw[zW6]at q ⊢;exact c _ ⟨A.length+1,_,rfl,.inr ⟨0,rfl,zWd _,by rw[zWo,zWc],q,λx p=>by cases p⟩⟩ m
  .have a:i<A.length:=by omega
   have u:L[i]=A[i]:=by
    have:L[i]?=A[i]?:=by rw[n,zYB a]
    rw[zWX d,zWX a]at this;exact zXi this
   rw[u]at j l ⊢;exact c _ ⟨i+1,_,rfl,.inl ⟨a,(xT a).symm,zOo a q j l⟩⟩ m
 .by_cases a:k<C.length
  .have d:A.length+(k+1)<L.length:=by omega
   have m:L.length-(A.length+(k+1)+1)<L.length-(A.length+(k+1)):=by omega
   refine b _ _ _ _ d (by rw[zWD,zWD,zAq,zWT];omega) (λ_=>rfl) (λv=>by omega) λs j l=>?_;have u:L[A.length+(k+1)]=C[k]:=by
    have:L[A.length+(k+1)]?=C[k]?:=by
     rw[n,zX5 (by omega),show A.length+(k+1)-A.length=k+1 by omega,zYa]
    rw[zWX d,zWX a]at this;exact zXi this
   rw[u]at j l ⊢;exact c _ ⟨_,_,rfl,.inr ⟨k+1,rfl,a,by rw[xT a,zXT,zXT],h,zOo a g j l⟩⟩ m
  .obtain rfl:k=C.length:=by omega
   rw[zW6]at g ⊢;have:=f rec h g;rw[o]at this;exact this
end
def Bd(l:List TokT):Prop:=∀t∈l,t.kind≠1/\t.text≠[35,35]
theorem apL4(a b:List TokT)(t:TokT):(([]++a)++[t])++b=a++t::b:=by simp
theorem len1(t:TokT):[t].length=1:=rfl
theorem zVr{l:List TokT}{k:Nat}(h:k<l.length)(b:Bool)(a:b=(l[k].blank||decide (k=0))):(setT l).take k++[toBl l[k] b]=(setT l).take (k+1):=by
 have c:k<(setT l).length:=by rw[zAq];exact h
 rw[xT c];congr 2;subst a;cases l with
 |nil=>cases h
 |cons x r=>
  cases k with
  |zero=>simp[setT]
  |succ k=>simp[setT]
set_option maxHeartbeats 1000000 in
theorem zLZ(fu:Nat)(m:MacT)(x0 z w:Str)(ad:2000000<fu)(h8:c8 fu ([x0],())=some ([m],true,()))(d:m.body.2.length<=200)(O:z.length<=1090000)(y:w.length<=1090000)
 (g:m.body.2≠[]\/∀l,c9 fu (0,w,())=some (l,())->l=[]):sh4 fu c7 (c8 fu) (c9 fu) (c10A fu) (c11 fu) (λ_=>false) x0 z w=some (true,()):=by
 obtain⟨f,Q,ae,_⟩:=kj (fu:=fu) 0 z (by omega) O;obtain⟨lb,A,C,_⟩:=kj (fu:=fu) 0 w (by omega) y;replace g:m.body.2≠[]\/lb=[]:=g.imp id λh=>h lb A;have g0:List.getD [m] 0 macD=m:=rfl;have q:inB 0 [m].length=true:=rfl;unfold sh4;refine yA (v:=(true,())) rfl (yA h8 (yA Q (yA A ?_)));dsimp only;rw[g0,q];refine zl rfl (zH rfl ?_);refine zD9 (λ_=>rfl) λhf=>?_;refine jS (λ_=>rfl) λha=>?_;refine jS (λ_=>rfl) λD=>?_;replace ha:z.length<=200:=by have y:(z.length:Int)<=200:=ha;omega
 replace D:w.length<=200:=by have y:(w.length:Int)<=200:=D;omega
 obtain⟨B,n⟩:∃B,B=m.body.2:=⟨_,rfl⟩;rw[<-n]at d g ⊢;obtain⟨L,M⟩:∃L,L=f++(⟨1,m.name,0,0,0,true⟩:TokT)::lb:=⟨_,rfl⟩;have R:L.length=f.length+1+lb.length:=by rw[M,zWD,zWC];omega
 refine xy (λst=>∃(k:Nat),st=((((k:Int),()),()))/\k<=B.length/\Bd (B.take k)) (λst=>B.length-st.1.1.toNat) ?_ fu _ ⟨0,rfl,Nat.zero_le _,λt p=>by cases p⟩ (by show B.length-0<fu;omega);rintro rec st ⟨k,rfl,hk,j⟩ E;dsimp only;refine zH rfl ?_;refine jS (λa=>?_) λs=>?_
 .replace a:k<B.length:=zEP a;have S:List.getD B (Int.toNat (k:Int)) tokD=B[k]:=qH a;have hB:inB (k:Int) B.length=true:=yJ (by omega) (by omega);rw[S,i1 (by omega),hB];refine zH rfl (zH rfl ?_);refine zB3 (λ_=>rfl) λT=>?_;refine zH rfl (zH rfl ?_);refine zD9 (λ_=>rfl) λc=>?_;refine E _ ⟨k+1,rfl,a,λt p=>?_⟩ (by show B.length-(k+1)<B.length-k;omega);rw[xT a,zWe]at p;rcases p with p|p
  .exact j t p
  .obtain rfl:=zW1.1 p;refine⟨T,λe=>?_⟩;rw[zBg,e,zWm rfl]at c;cases c
 replace j:Bd B:=by
  have e:k=B.length:=by have y:(B.length:Int)<=(k:Int):=s;omega
  rw[e,zW6]at j;exact j
 rw[apL4,<-M,len1];refine zH (zAl (by omega)) (zH rfl (zH (zAl (by rw[zWR];omega)) (zH (zAl (by rw[zWD,zWR,len1];omega)) ?_)));refine loop4 (λW=>W) fu _ f B lb L _ M (by omega) (by omega) d (by omega) ?_ ?_
 .intro rec W i r hi hW F hj hs;have S:List.getD L (Int.toNat (i:Int)) tokD=L[i]:=qH hi;have U:inB (i:Int) L.length=true:=yJ (by omega) (by omega);have V:iadd .i64 (i:Int) 1=((i+1:Nat):Int):=i1 (by omega);dsimp only[qU];rw[S,U,V,len1];have X:okN 56 (W.length+1)=true:=zAl (by omega);refine zH (zAm (by show(i:Int)<(L.length:Int);omega)) (zH rfl ?_);refine zB3 (λh=>zH rfl (F (.inl h))) λh7=>?_;by_cases G:i=f.length
  .have c:ine (i:Int) (lenI f)=false:=zCZ (by show(i:Int)=(f.length:Int);omega);rw[c];refine zl rfl (zl rfl (zl rfl ?_));refine zA2 (P:=λo=>o=r) (λst=>∃(k:Nat),st=((L,(W++(setT B).take k,((k:Int),()))),())/\k<=B.length) (λst=>B.length-st.1.2.2.1.toNat) ?_ fu _ ⟨0,by rw[List.take_zero,List.append_nil];rfl,Nat.zero_le _⟩ (by show B.length-0<fu;omega);rintro H st ⟨k,rfl,hk⟩ u;dsimp only;refine zH rfl ?_;have ac:(W++(setT B).take k).length<=2000:=by rw[List.length_append,List.length_take,zAq];omega
   refine jS (λa=>?_) λs=>?_
   .replace a:k<B.length:=zEP a;have Y:List.getD B (Int.toNat (k:Int)) tokD=B[k]:=qH a;have Z:inB (k:Int) B.length=true:=yJ (by omega) (by omega);rw[Y,Z,i1 (by omega)];have I:∀b,b=(B[k].blank||decide (k=0))->H ((L,((W++(setT B).take k)++[toBl B[k] b],(((k+1:Nat):Int),()))),())=r:=λb g=>by
     rw[zXT,zVr a b g];exact u _ ⟨k+1,rfl,a⟩ (by show B.length-(k+1)<B.length-k;omega)
    refine zH rfl (zH rfl ?_);refine zD9 (λd=>zH (zAl (by rw[len1];omega)) (I _ (by rw[d];rfl))) λd=>zH (zAl (by rw[len1];omega)) (I _ ?_);rw[d,zBl,zYg];by_cases N:k=0
    .subst N;rfl
    .rw[zWz N,zWz (by omega)]
   .have e:k=B.length:=by have y:(B.length:Int)<=(k:Int):=s;omega
    subst e;rw[<-zAq B,zW6];exact hj G
  .have c:ine (i:Int) (lenI f)=true:=zP3 (by show(i:Int)≠(f.length:Int);omega);rw[c];refine zH rfl (zH rfl ?_);refine zB3 (λh=>F (.inr h)) λO=>?_;exact zH rfl (zH rfl (zH X (hs G O h7)))
 .intro rec aa ab;dsimp only;have J:=zKG fu (by omega) m f lb hf (by rw[<-n];exact j) (by rw[<-n];exact d) aa ab (by omega) (by omega);rw[<-M,<-n]at J;have hw:f++(setT B++lb)=wP f B lb:=by
   unfold wP;rcases g with g|g
   .cases B with
    |nil=>exact absurd rfl g
    |cons x r=>rfl
   .rw[g,zWc,zWc]
  have af:(wP f B lb).length<=1000:=by rw[<-hw,zWD,zWD,zAq];omega
  have K:(Option.bind (c10A fu ([m],(L,()))) λy4=>cond true (cond (ieq y4.2.1 0) (Option.bind (c11 fu (y4.1,(wP f B lb,()))) λy5=>some (y5.1,())) (some (false,()))) (some (false,())))=some (true,()):=
   yA J (zH rfl (zH rfl (yA (zL3 fu (wP f B lb) (by omega) (by omega)) rfl)))
  rw[hw];refine zl (zCn (zYf _)) (zH rfl ?_);have c:(!L.isEmpty)=true:=by cases L with
   |nil=>simp only[zWI]at R;omega
   |cons x r=>rfl
  rw[c];refine zB3 (λN=>?_) λ_=>zH rfl K;have q:B=[]:=by
   have y:(B.length:Int)=0:=N;exact zYc.1 (by omega)
  have C:lb=[]:=g.resolve_left λh=>h q;exact zl (zCn (by rw[C];exact zYf _)) (zH rfl K)
theorem zHW{σ R:Type}{F:(σ->Option R)->σ->Option R}{s:σ}{r:Option R}{fu:Nat}(a:0<fu)(h:∀rec,F rec s=r):iter fu F s=r:=by
 obtain⟨n,rfl⟩:∃n,fu=n+1:=⟨fu-1,by omega⟩;exact h _
theorem setAt(a b:List TokT)(c:b≠[]):zL (a++b).length (List.set (a++b) a.length (toBl (List.getD (a++b) a.length tokD) true))=a++setT b:=by
 rw[zAF (zYI ..),zZJ _ _ (zV7 _),zY7,zWk,zX5 (zV7 _),zY7];cases b with
 |nil=>exact absurd rfl c
 |cons x r=>rfl
set_option maxHeartbeats 1000000 in
theorem zRE(fu:Nat)(m:MacT)(P j g:Str)(U:2000000<fu)(V:c8 fu ([P],())=some ([m],true,()))(C:m.body.2=[])(k:j.length<=1090000)(E:g.length<=1090000)
 (n:∀l,c9 fu (0,g,())=some (l,())->l≠[]):sh4b fu c7 (c8 fu) (c9 fu) (c10A fu) (c11 fu) (λ_=>false) P j g=some (true,()):=by
 obtain⟨a,F,X,_⟩:=kj (fu:=fu) 0 j (by omega) k;obtain⟨lb,o,Y,_⟩:=kj (fu:=fu) 0 g (by omega) E;replace n:lb≠[]:=n lb o;have g0:List.getD [m] 0 macD=m:=rfl;have G:inB 0 [m].length=true:=rfl;unfold sh4b;refine yA (v:=(true,())) rfl (yA V (yA F (yA o ?_)));dsimp only;rw[g0,G,C];refine zl rfl (zH rfl ?_);refine zD9 (λ_=>rfl) λZ=>?_;refine jS (λ_=>rfl) λQ=>?_;refine jS (λ_=>rfl) λp=>?_;replace Q:j.length<=200:=by have E:(j.length:Int)<=200:=Q;omega
 replace p:g.length<=200:=by have E:(g.length:Int)<=200:=p;omega
 obtain⟨L,D⟩:∃L,L=a++(⟨1,m.name,0,0,0,true⟩:TokT)::lb:=⟨_,rfl⟩;have H:L.length=a.length+1+lb.length:=by rw[D,zWD,zWC];omega
 refine zHW (by omega) λrec=>?_;dsimp only;refine zH rfl (zl rfl ?_);rw[apL4,<-D,len1];refine zH (zAl (by omega)) (zH rfl (zH (zAl (by rw[List.nil_append];omega)) (zH (zAl (by rw[List.length_append,List.nil_append,len1];omega)) ?_)));refine loop4 oR fu _ a [] lb L _ D (by omega) (by omega) (by show 0<=200;omega) (by omega) ?_ ?_
 .intro rec W i r hi R d q I;have S:List.getD L (Int.toNat (i:Int)) tokD=L[i]:=qH hi;have s:inB (i:Int) L.length=true:=yJ (by omega) (by omega);have u:iadd .i64 (i:Int) 1=((i+1:Nat):Int):=i1 (by omega);have w:ilt (i:Int) (lenI L)=true:=zAm (by show(i:Int)<(L.length:Int);omega);replace q:i=a.length->rec ((L,(oR W,(((i+1:Nat):Int),()))),())=r:=λh=>by
   have:=q h;rw[show setT []=[]from rfl,zWc]at this;exact this
  by_cases f:W=[]
  .subst f;refine zEb ?_;dsimp only[qU];rw[S,s,u,len1];refine zH w (zH rfl ?_);refine zB3 (λh=>zEb (zH rfl (d (.inl h)))) λJ=>?_;by_cases c:i=a.length
   .have b:ine (i:Int) (lenI a)=false:=zCZ (by show(i:Int)=(a.length:Int);omega);rw[b];refine zl rfl (zEb (zl rfl (zl rfl (zHW (by omega) λy=>?_))));exact zEb (zH rfl (zl rfl (q c)))
   .have b:ine (i:Int) (lenI a)=true:=zP3 (by show(i:Int)≠(a.length:Int);omega);rw[b];refine zH rfl (zH rfl (zEb ?_));refine zB3 (λh=>d (.inr h)) λk=>?_;exact zH rfl (zH rfl (zH (zAl (by omega)) (zH rfl (I c k J))))
  .rw[zBi f]at q ⊢;have hS:oR (W++[L[i]])=some (W++[L[i]]):=zBi (List.append_ne_nil_of_left_ne_nil f _);rw[hS]at I;refine zAC ?_;dsimp only[qU];have K:zL W.length W=W:=zCM W;have M:zL (W.length+1) (List.take W.length W++[L[i]])=W++[L[i]]:=by rw[List.take_length];exact zAF (by rw[List.length_append];rfl)
   rw[S,s,u,len1,K];refine zH w (zH rfl ?_);refine zB3 (λh=>zH (qJ rfl) (zAC (zH rfl (d (.inl h))))) λJ=>?_;by_cases c:i=a.length
   .have b:ine (i:Int) (lenI a)=false:=zCZ (by show(i:Int)=(a.length:Int);omega);rw[b];refine zl rfl (zH (qJ rfl) (zAC (zl rfl (zl rfl ?_))));rw[K];refine zH (qJ rfl) (zHW (by omega) λy=>?_);refine zAC (zH rfl (zl rfl ?_));rw[K];exact zH (qJ rfl) (q c)
   .have b:ine (i:Int) (lenI a)=true:=zP3 (by show(i:Int)≠(a.length:Int);omega);rw[b];refine zH rfl (zH rfl (zH (qJ rfl) (zAC ?_)));refine zB3 (λh=>d (.inr h)) λk=>?_;rw[M];refine zH rfl (zH rfl (zH (by rw[zE8 (zV7 _),zAl (by omega)];rfl) (zH (qJ (by rw[zWD];rfl)) (I c k J))))
 .intro rec N O;have z:=zKG fu (by omega) m a lb Z (by rw[C];exact λt ht=>by cases ht) (by rw[C];exact zWd _) N O (by omega) (by omega);rw[<-D,C]at z;have aa:(wP a [] lb).length<=1000:=by unfold wP;rw[zWD,zAq,zWR];omega
  have b:(!L.isEmpty)=true:=by cases L with
   |nil=>simp only[zWI]at H;omega
   |cons x r=>rfl
  have T:0<lb.length:=List.length_pos_iff.2 n;have R:a++(setT []++lb)=a++lb:=rfl;rw[R,zBi (List.append_ne_nil_of_right_ne_nil _ n)];refine zAC ?_;dsimp only;have et:Int.toNat (lenI a)=a.length:=rfl;rw[et,setAt a lb n,b];have A:a++setT lb=wP a [] lb:=rfl;rw[A];have B:(wP a [] lb).isEmpty=false:=by
   have h:0<(wP a [] lb).length:=by unfold wP;rw[zWD,zAq,zWR];omega
   cases hw:wP a [] lb with
   |nil=>rw[hw]at h;cases h
   |cons x r=>rfl
  rw[B];refine zl (zCn (zYf _)) (zH rfl (zH rfl (zH (zAm (by show(0:Int)<(lb.length:Int);omega)) ?_)));refine zH (yJ (by show(0:Int)<=(a.length:Int);omega) (by show(a.length:Int)<_;rw[zWD];omega)) ?_;refine zH (zEx (by rw[zWD];omega)) (zH (zE8 (by rw[zYI];exact zV7 _)) (zH rfl ?_));exact yA z (zH rfl (zH rfl (zH rfl (yA (zL3 fu (wP a [] lb) (by omega) (by omega)) rfl))))
theorem sh4_no(fu:Nat)(g:List MacT)(f a b:Str)(h:2000000<fu)(i:c8 fu ([f],())=some (g,false,()))(j:a.length<=1090000)(k:b.length<=1090000):sh4 fu c7 (c8 fu) (c9 fu) (c10A fu) (c11 fu) (λ_=>false) f a b=some (true,()):=by
 obtain⟨l,c,_,_⟩:=kj (fu:=fu) 0 a (by omega) j;obtain⟨lb,d,_,_⟩:=kj (fu:=fu) 0 b (by omega) k;unfold sh4;exact yA (v:=(true,())) rfl (yA i (yA c (yA d (zH rfl rfl))))
theorem zV0(fu:Nat)(c g d:Str)(a:2000000<fu)(t:c.length<=1090000)(n:g.length<=1090000)(h:d.length<=1090000):c4 fu (c,g,d,())=some (true,()):=by
 refine if_pos ?_;obtain⟨p,b,o,u⟩:=c8_tot fu [c] (λs v=>by obtain rfl:=zW1.1 v;exact t) a;cases b with
 |false=>exact .inl (sh4_no fu p c g d a o n h)
 |true=>
  obtain⟨f,_,q⟩:=u rfl;obtain⟨m,rfl⟩:∃m,p=[m]:=by
   match p,f with
   |[m],_=>exact⟨m,rfl⟩
  obtain⟨_,i⟩:=q m zWr;obtain⟨lb,j,_,_⟩:=kj (fu:=fu) 0 d (by omega) h;by_cases r:m.body.2=[]
  .by_cases k:lb=[]
   .exact .inl (zLZ fu m c g d a o i n h (.inr λl f=>by rw[j]at f;cases f;exact k))
   .exact .inr (zRE fu m c g d a o r n h λl f=>by rw[j]at f;cases f;exact k)
  .exact .inl (zLZ fu m c g d a o i n h (.inl r))
end
section
open Go.Al Go.Den
def u4(x:Str×Str×Str×Unit):Option (Bool×Unit):=if x.1.length+x.2.1.length+x.2.2.1.length<=1048576 then some (true,())else none
theorem ok4:ConOk CC Tryz.prog 4 ⟨as4,rs4,u4⟩:=λx y a=>by
 obtain⟨b,c,d,u⟩:=x;change Str at b c d;by_cases h:b.length+c.length+d.length<=1048576
 .have e:u4 (b,c,d,u)=some (true,()):=if_pos h;replace a:u4 (b,c,d,u)=some y:=a;rw[e]at a;injection a with a
  subst a;exact ok4A 2000001 (b,c,d,u) _ (zV0 2000001 b c d (by omega) (by omega) (by omega) (by omega))
 .have e:u4 (b,c,d,u)=none:=if_neg h;replace a:u4 (b,c,d,u)=some y:=a;rw[e]at a;cases a
end
end Go.Proofs.YtfjiiknfopmcjaaGreatDoor
namespace Go.Proofs.YtfjiiknfopmcjaaGreatDoor.expandPlain
section
open Go.Al Go.Den Go.ChangeShapes Go.WideShapes Go.ChangeAt Go.RowKit
open Go.ChangeMaps (open_string shut_string)
theorem own:ownKnob Tryz.prog.godebug=none:=by kernel_rfl
theorem laidOut:laidOutB Tryz.prog=true:=by kernel_rfl
theorem walk(z0:List UInt8)(z1:List UInt8)(z2:List UInt8)(h:z0.length+z1.length+z2.length<=1048576)(W:World)(a:GlobOk W.heap.size (wmOf W) W)(b c d:Value)(i:RV1 ⟨wmOf W,λ_=>none,Fr.no⟩ W (.at (.string ⟨z0.toArray⟩)) b)(j:RV1 ⟨wmOf W,λ_=>none,Fr.no⟩ W (.at (.string ⟨z1.toArray⟩)) c)(k:RV1 ⟨wmOf W,λ_=>none,Fr.no⟩ W (.at (.string ⟨z2.toArray⟩)) d):Calls Tryz.prog 4 #[b,c,d] W λe g=>e=.returned (.bool true)/\Below W.heap.size W g:=by
 have l:=ok4 (z0,z1,z2,()) (true,()) (if_pos h) _ ⟨_,_,rfl,rfl,⟨_,_,rfl,rfl,⟨_,_,rfl,rfl,rfl⟩⟩⟩;refine(l (wmOf W) W [b,c,d] (zPN W) a (.cons i (.cons j (.cons k RVs.nil)))).mono ?_;rintro e g ⟨v,m,rfl,_,f,n⟩;have o:v=.bool true:=zr n;subst o;exact⟨rfl,f.below⟩
theorem reads(b:Os){H:Type}(enc:TypeId×Value->H):∃a,DataW.whole enc Tryz.prog ((World.laidAll Tryz.prog b zHx).forCall (λ_ _=>0) ⟨#[],#[.string ByteArray.empty,.string ByteArray.empty,.string ByteArray.empty],[]⟩).memory Tryz.f4.params.toList Rows.expandPlainSpec.vars false (#[.string ByteArray.empty,.string ByteArray.empty,.string ByteArray.empty]:Array Value).toList 8=some ([DataW.lit (.string []),DataW.lit (.string []),DataW.lit (.string [])],[],a):=
 ⟨[],by kernel_rfl⟩
set_option maxRecDepth 100000 in
theorem lifted(g:Os)(b:g.Started)(H:Type)(enc:TypeId×Value->H)(F:Stop.Interp) :
 ReturnsInHanded {} Tryz.checked g 4 .any ((Rows.OpenSpec.upto Rows.expandPlainSpec).preRow enc Tryz.prog Tryz.f4 Rows.expandPlainUptoRow.domain false Rows.expandPlainUptoRow.laid) (((Rows.OpenSpec.upto Rows.expandPlainSpec).at F).post enc Tryz.prog Tryz.f4 false true false false):=by
 obtain⟨n,S⟩:=reads g enc;refine returnsInHanded_of_row (C:=Tryz.checked) (s:=Rows.OpenSpec.upto Rows.expandPlainSpec) own b (by kernel_rfl) Tryz.func4
  (zJW (enc:=enc) (C:=Tryz.checked) false (World.laidAll Tryz.prog g zHx) #[.string ByteArray.empty,.string ByteArray.empty,.string ByteArray.empty] (World.laidAll_os _ _ _) (World.shaped_of_ZipB (by kernel_rfl) (by kernel_rfl)) (by kernel_rfl)
   (OpenSpec.preRow_of_cond 8 S (by kernel_rfl) (λk T=>by cases T;kernel_rfl) (by kernel_rfl) (zVa g _))) ?_
 intro W base args ds gs o c D _ d _ U r _;have a:∀(j:Nat) t v,Tryz.f4.params[j]?=some t->args[j]?=some v->Value.okWide Tryz.prog W .any base t v:=c;have u:=D;obtain⟨p,q,i,V,rfl,X,Y⟩:=D;have E:DataW.TrodAll enc Tryz.prog W 0 (λ_=>true) true Tryz.f4.params.toList args.toList ds p:=i;rw[Tryz.params4]at E a;obtain⟨G,Z,d0,aa,p0,q0,w,rfl,rfl,I,r0⟩:=trodAll_cons E;obtain⟨J,ab,d1,ac,p1,q1,rfl,rfl,rfl,K,r1⟩:=trodAll_cons r0;obtain⟨L,ad,d2,ae,p2,q2,rfl,rfl,rfl,M,r2⟩:=trodAll_cons r1;obtain⟨rfl,rfl,rfl⟩:=trodAll_nil r2;obtain rfl:args=#[G,J,L]:=by cases args;simp_all
 obtain⟨rfl,rfl⟩:=trodVars_none V;have y:=zJv r U;have k0:=I;have z:∀x∈p0,x.block<W.heap.size:=by obtain⟨m,l⟩:=k0;exact DataW.trod_lt m _ _ _ l
 obtain⟨N,rfl,rfl,rfl,w0⟩:=open_string Tryz.underlying9 (a 0 9 G rfl rfl) I;have O:=K;have A:∀x∈p1,x.block<W.heap.size:=by obtain⟨m,l⟩:=O;exact DataW.trod_lt m _ _ _ l
 obtain⟨P,rfl,rfl,rfl,w1⟩:=open_string Tryz.underlying9 (a 1 9 J rfl rfl) K;have Q:=M;have B:∀x∈p2,x.block<W.heap.size:=by obtain⟨m,l⟩:=Q;exact DataW.trod_lt m _ _ _ l
 obtain⟨R,rfl,rfl,rfl,w2⟩:=open_string Tryz.underlying9 (a 2 9 L rfl rfl) M;have hb:=zXA (d _ rfl);simp only[zWc,zWR,Rows.uptoBulkAll,Rows.uptoBulk,zWY]at hb;clear i c d;refine(walk N.data.toList P.data.toList R.data.toList (by omega) W y _ _ _ (zJV N) (zJV P) (zJV R)).mono λe W' ⟨he,f⟩=>?_;subst he;exact⟨_,rfl,_,_,_,[],_,[],u,trodAll_mk1 (shut_bool Tryz.underlying4 _),(trodAll_cons_mk (Below.trod laidOut (by kernel_rfl) (zXA (by kernel_rfl)) k0 f z) (trodAll_cons_mk (Below.trod laidOut (by kernel_rfl) (zXA (by kernel_rfl)) O f A) (trodAll_cons_mk (Below.trod laidOut (by kernel_rfl) (zXA (by kernel_rfl)) Q f B) trodAll_mk0))),rfl,f.frame _,λh=>by cases h⟩
theorem over:Rows.ExpandPlainUptoSaid:=
 OpenClaim.holds_of_cond 4 Tryz.f4 rfl rfl rfl rfl rfl rfl rfl ⟨rfl,rfl,rfl,rfl,rfl⟩ rfl rfl rfl rfl rfl (by kernel_rfl) Tryz.func4 (by kernel_rfl)
  (zXA (by kernel_rfl)) (by unfold Func.isWrapper;first|(rw[if_pos (by decide +kernel)];kernel_rfl)|(rw[if_neg (by decide +kernel)];exact⟨rfl,rfl⟩))
  (λb a H enc _ F=>by rw[OpenClaim.pre_eq_preRow];exact lifted b a H enc F)
theorem expandPlain_holds:Rows.ExpandPlainUptoCardSaid:=
 Claim7.holds_tied_plain_at .later [] [.data,.data,.pinned] true (true, "4970534abb448be6b6b0e3a2e0ecd71069b33ec47d661ce25528f19454097e4d") true
  over (λ_ h=>by cases h) (by kernel_rfl) (λ_ h=>by cases h) expandPlainUpto_row_tie rfl ⟨rfl,rfl⟩ (by kernel_rfl) rfl
  (λf d e b=>by
   obtain rfl:f=4:=zXi ((show Tryz.prog.funcNamed "emend/emendlaw08.ExpandPlain"=some 4 by kernel_rfl).symm.trans e) |>.symm;obtain rfl:d=Tryz.f4:=(zXi (Tryz.func4.symm.trans b)).symm;exact⟨by kernel_rfl,λj t c=>by
    rw[Tryz.params4]at c;have g:t∈[9,9,9]:=by simpa using zYP c
    have a:([9,9,9].all λu=>!Tryz.prog.wantsStandIn u)=true:=by kernel_rfl
    exact(show Tryz.prog.wantsStandIn t=false by simpa using zWL.1 a t g)⟩)
  (by kernel_rfl)
end
end Go.Proofs.YtfjiiknfopmcjaaGreatDoor.expandPlain
