/-
  Part 7 of what the last text needs: library, runs, contracts, plain laws. No condition of its own.
-/
import Derived.Test.YtnamdpbcpnnhaaaGreatDoorZS6
import Derived.WalkKit
import Derived.Defers
import Derived.Recover
import Derived.TacticsInMore
import Derived.RecoverIn
import Derived.LoopNIn
import Derived.Laws.OwnMore
import Derived.Laws.BytesArg
import Derived.Shelf.Bits.Mul64
import Derived.Laws.CopyOwn
import Derived.Laws.MakeOwn
import Derived.OwnWalk
set_option linter.unusedVariables false
set_option linter.unusedSimpArgs false
set_option linter.unusedSectionVars false
namespace Go.Proofs.YtnamdpbcpnnhaaaGreatDoor
section
open Go.Al Go.Den
def sh53 (fu:Nat) (c33:((List Str)×(Str×Unit))->(Option (Bool×Unit))) (c72:(Int×Unit)->MM (Str×Unit)) (c73:Unit->MM (Nd×Unit)) (c74:Unit->MM (Nd×Unit)) (c75:Unit->MM (Nd×Unit)) (c76:(Int×Unit)->MM (Bool×Unit)) (x:(ParT×Unit)) (a:Unit):(Option (Option ((ParT×Unit)×(Nd×(Bool×Unit))))):=iter fu (fun (rec1:((Bool×(Bool×(Bool×Unit)))×(ParT×(JT×(NdsT×Unit))))->Option (Option ((ParT×Unit)×(Nd×(Bool×Unit))))) (s1:((Bool×(Bool×(Bool×Unit)))×(ParT×(JT×(NdsT×Unit)))))=>let u7:=(s1.1.2.2.1,()); let u5:=(s1.2.2.2.1.1,()); let u6:=(s1.2.2.1,(u5,())); let u2:=(s1.1.1,(s1.1.2.1,(true,()))); let u1:=List.length s1.2.2.2.1.1; bo (c72 (0,()) s1.2.1.1 (s1.2.1.2.1,s1.2.1.2.2.1)) fun y1=>let u4:=(s1.2.1.1,(y1.2.1,(y1.2.2,((),())))); let u3:=(y1.2.1,y1.2.2); xH (fun (join0:((Bool×Unit)×(ParT×(JT×(NdsT×Unit))))->Option (Option ((ParT×Unit)×(Nd×(Bool×Unit)))))=>let u0:=cond s1.1.2.1 (join0 ((s1.1.1,()),(u4,u6))) (cond s1.1.2.2.1 (join0 ((s1.1.1,()),(u4,u6))) (cond (seq y1.1.1 [115,116,114,117,99,116]) (bo (c74 () s1.2.1.1 u3) fun y5=>ck (u1+(List.length [(ndE y5.1.1)])) (rec1 (u2,((s1.2.1.1,(y5.2.1,(y5.2.2,((),())))),(s1.2.2.1,(((s1.2.2.2.1.1++[(ndE y5.1.1)]),()),())))))) (cond (seq y1.1.1 [117,110,105,111,110]) (bo (c74 () s1.2.1.1 u3) fun y5=>ck (u1+(List.length [(ndE y5.1.1)])) (rec1 (u2,((s1.2.1.1,(y5.2.1,(y5.2.2,((),())))),(s1.2.2.1,(((s1.2.2.2.1.1++[(ndE y5.1.1)]),()),())))))) (cond (seq y1.1.1 [101,110,117,109]) (bo (c75 () s1.2.1.1 u3) fun y5=>ck (u1+(List.length [(ndE y5.1.1)])) (rec1 (u2,((s1.2.1.1,(y5.2.1,(y5.2.2,((),())))),(s1.2.2.1,(((s1.2.2.2.1.1++[(ndE y5.1.1)]),()),())))))) (bo (c76 (0,()) s1.2.1.1 u3) fun y5=>cond y5.1.1 (bo (c73 () s1.2.1.1 (y5.2.1,y5.2.2)) fun y7=>ck (u1+(List.length [(ndE y7.1.1)])) (rec1 (u2,((s1.2.1.1,(y7.2.1,(y7.2.2,((),())))),(s1.2.2.1,(((s1.2.2.2.1.1++[(ndE y7.1.1)]),()),())))))) (join0 ((s1.1.1,()),((s1.2.1.1,(y5.2.1,(y5.2.2,((),())))),u6)))))))); Option.bind (c33 ([[99,111,110,115,116],[101,120,116,101,114,110],[105,110,108,105,110,101],[114,101,103,105,115,116,101,114],[115,116,97,116,105,99],[97,117,116,111],[116,121,112,101,100,101,102],[118,111,108,97,116,105,108,101]],(y1.1.1,()))) fun y2=>cond y2.1 (cond s1.1.1 (bo (c73 () s1.2.1.1 u3) fun y4=>ck (u1+(List.length [(ndE y4.1.1)])) (rec1 ((true,(s1.1.2.1,u7)),((s1.2.1.1,(y4.2.1,(y4.2.2,((),())))),(s1.2.2.1,(((s1.2.2.2.1.1++[(ndE y4.1.1)]),()),())))))) (bo (c73 () s1.2.1.1 u3) fun y4=>ck (u1+(List.length [(ndE y4.1.1)])) (rec1 (((seq y1.1.1 [116,121,112,101,100,101,102]),(s1.1.2.1,u7)),((s1.2.1.1,(y4.2.1,(y4.2.2,((),())))),(s1.2.2.1,(((s1.2.2.2.1.1++[(ndE y4.1.1)]),()),()))))))) (Option.bind (c33 ([[99,104,97,114],[100,111,117,98,108,101],[102,108,111,97,116],[105,110,116],[108,111,110,103],[115,104,111,114,116],[115,105,103,110,101,100],[117,110,115,105,103,110,101,100],[118,111,105,100]],(y1.1.1,()))) fun y3=>cond y3.1 (cond (!s1.1.2.2.1) (bo (c73 () s1.2.1.1 u3) fun y5=>ck (u1+(List.length [(ndE y5.1.1)])) (rec1 ((s1.1.1,(true,u7)),((s1.2.1.1,(y5.2.1,(y5.2.2,((),())))),(s1.2.2.1,(((s1.2.2.2.1.1++[(ndE y5.1.1)]),()),())))))) u0) u0)) (fun (t0:((Bool×Unit)×(ParT×(JT×(NdsT×Unit)))))=>cond (ilt 0 (lenI t0.2.2.2.1.1)) (some (some (((t0.2.1.1,(t0.2.1.2.1,(t0.2.1.2.2.1,((),())))),()),((ndE (Nd.mk 4 0 t0.2.2.2.1.1)),(t0.1.1,()))))) (some none))) ((false,(false,(false,()))),((x.1.1,(x.1.2.1,(x.1.2.2.1,((),())))),((0,(0,([],()))),(([],()),()))))
theorem eq53 (fu:Nat) (p:PS) (r:RS) x a:rnA fu p r false false fd53 [parK] [parK] ([]:LK) ([.st TI.node,.bool]:LK) x a=sh53 fu p.c33 p.c72 p.c73 r.c74 r.c75 p.c76 x a:=by kernel_rfl
def sh74 (fu:Nat) (c54:((List Str)×Unit)->MM (Bool×Unit)) (c73:Unit->MM (Nd×Unit)) (c85:(Int×Unit)->MM (Bool×Unit)) (c107:Unit->MM (Nd×Unit)) (x:(ParT×Unit)) (a:Unit):(Option (Option ((ParT×Unit)×(Nd×Unit)))):=bo (c73 () x.1.1 (x.1.2.1,x.1.2.2.1)) fun y1=>let u0:=List.length [(ndE y1.1.1)]; ck u0 (bo (c85 (0,()) x.1.1 (y1.2.1,y1.2.2)) fun y3=>cond y3.1.1 (xH (fun (join0:(Unit×(ParT×(JT×(NdsT×Unit))))->Option (Option ((ParT×Unit)×(Nd×Unit))))=>bo (c85 (0,()) x.1.1 (y3.2.1,y3.2.2)) fun y5=>cond y5.1.1 (bo (c73 () x.1.1 (y5.2.1,y5.2.2)) fun y7=>ck (u0+(List.length [(ndE y7.1.1)])) (join0 ((),((x.1.1,(y7.2.1,(y7.2.2,((),())))),((0,(0,([],()))),((([(ndE y1.1.1)]++[(ndE y7.1.1)]),()),())))))) (join0 ((),((x.1.1,(y5.2.1,(y5.2.2,((),())))),((0,(0,([],()))),(([(ndE y1.1.1)],()),())))))) (fun (t0:(Unit×(ParT×(JT×(NdsT×Unit)))))=>bo (c54 ([[123]],()) t0.2.1.1 (t0.2.1.2.1,t0.2.1.2.2.1)) fun y5=>cond (!y5.1.1) (some (some (((t0.2.1.1,(y5.2.1,(y5.2.2,((),())))),()),((ndE (Nd.mk 5 0 t0.2.2.2.1.1)),())))) (bo (c73 () t0.2.1.1 (y5.2.1,y5.2.2)) fun y7=>ck ((List.length t0.2.2.2.1.1)+(List.length [(ndE y7.1.1)])) (iter fu (fun (rec1:(Unit×(ParT×(JT×(NdsT×Unit))))->Option (Option ((ParT×Unit)×(Nd×Unit)))) (s1:(Unit×(ParT×(JT×(NdsT×Unit)))))=>let u1:=List.length s1.2.2.2.1.1; bo (c54 ([[125]],()) s1.2.1.1 (s1.2.1.2.1,s1.2.1.2.2.1)) fun y9=>cond (!y9.1.1) (bo (c107 () s1.2.1.1 (y9.2.1,y9.2.2)) fun y11=>ck (u1+(List.length [(ndE y11.1.1)])) (rec1 ((),((s1.2.1.1,(y11.2.1,(y11.2.2,((),())))),(s1.2.2.1,(((s1.2.2.2.1.1++[(ndE y11.1.1)]),()),())))))) (bo (c73 () s1.2.1.1 (y9.2.1,y9.2.2)) fun y11=>ck (u1+(List.length [(ndE y11.1.1)])) (some (some (((s1.2.1.1,(y11.2.1,(y11.2.2,((),())))),()),((ndE (Nd.mk 5 0 (s1.2.2.2.1.1++[(ndE y11.1.1)]))),())))))) ((),((t0.2.1.1,(y7.2.1,(y7.2.2,((),())))),(t0.2.2.1,(((t0.2.2.2.1.1++[(ndE y7.1.1)]),()),())))))))) (bo (c54 ([[123]],()) x.1.1 (y3.2.1,y3.2.2)) fun y5=>cond y5.1.1 (xH (fun (join0:(Unit×(ParT×(JT×(NdsT×Unit))))->Option (Option ((ParT×Unit)×(Nd×Unit))))=>bo (c85 (0,()) x.1.1 (y5.2.1,y5.2.2)) fun y7=>cond y7.1.1 (bo (c73 () x.1.1 (y7.2.1,y7.2.2)) fun y9=>ck (u0+(List.length [(ndE y9.1.1)])) (join0 ((),((x.1.1,(y9.2.1,(y9.2.2,((),())))),((0,(0,([],()))),((([(ndE y1.1.1)]++[(ndE y9.1.1)]),()),())))))) (join0 ((),((x.1.1,(y7.2.1,(y7.2.2,((),())))),((0,(0,([],()))),(([(ndE y1.1.1)],()),())))))) (fun (t0:(Unit×(ParT×(JT×(NdsT×Unit)))))=>bo (c54 ([[123]],()) t0.2.1.1 (t0.2.1.2.1,t0.2.1.2.2.1)) fun y7=>cond (!y7.1.1) (some (some (((t0.2.1.1,(y7.2.1,(y7.2.2,((),())))),()),((ndE (Nd.mk 5 0 t0.2.2.2.1.1)),())))) (bo (c73 () t0.2.1.1 (y7.2.1,y7.2.2)) fun y9=>ck ((List.length t0.2.2.2.1.1)+(List.length [(ndE y9.1.1)])) (iter fu (fun (rec1:(Unit×(ParT×(JT×(NdsT×Unit))))->Option (Option ((ParT×Unit)×(Nd×Unit)))) (s1:(Unit×(ParT×(JT×(NdsT×Unit)))))=>let u2:=List.length s1.2.2.2.1.1; bo (c54 ([[125]],()) s1.2.1.1 (s1.2.1.2.1,s1.2.1.2.2.1)) fun y11=>cond (!y11.1.1) (bo (c107 () s1.2.1.1 (y11.2.1,y11.2.2)) fun y13=>ck (u2+(List.length [(ndE y13.1.1)])) (rec1 ((),((s1.2.1.1,(y13.2.1,(y13.2.2,((),())))),(s1.2.2.1,(((s1.2.2.2.1.1++[(ndE y13.1.1)]),()),())))))) (bo (c73 () s1.2.1.1 (y11.2.1,y11.2.2)) fun y13=>ck (u2+(List.length [(ndE y13.1.1)])) (some (some (((s1.2.1.1,(y13.2.1,(y13.2.2,((),())))),()),((ndE (Nd.mk 5 0 (s1.2.2.2.1.1++[(ndE y13.1.1)]))),())))))) ((),((t0.2.1.1,(y9.2.1,(y9.2.2,((),())))),(t0.2.2.1,(((t0.2.2.2.1.1++[(ndE y9.1.1)]),()),())))))))) (some none)))
theorem eq74 (fu:Nat) (p:PS) (r:RS) x a:rnA fu p r false false fd74 [parK] [parK] ([]:LK) ([.st TI.node]:LK) x a=sh74 fu p.c54 p.c73 p.c85 r.c107 x a:=by kernel_rfl
def sh107 (fu:Nat) (c53:Unit->MM (Nd×(Bool×Unit))) (c54:((List Str)×Unit)->MM (Bool×Unit)) (c56:Unit->MM ((Nd×(Str×(Bool×Unit)))×(Option (Option MT)))) (c73:Unit->MM (Nd×Unit)) (c78:(Str×Unit)->MM (Nd×Unit)) (x:(ParT×Unit)) (a:Unit):(Option (Option ((ParT×Unit)×(Nd×Unit)))):=bo (c53 () x.1.1 (x.1.2.1,x.1.2.2.1)) fun y1=>ck (List.length [(ndE y1.1.1)]) (bo (c54 ([[59]],()) x.1.1 (y1.2.1,y1.2.2)) fun y3=>iter fu (fun (rec1:((Bool×Unit)×(ParT×(JT×(NdsT×Unit))))->Option (Option ((ParT×Unit)×(Nd×Unit)))) (s1:((Bool×Unit)×(ParT×(JT×(NdsT×Unit)))))=>let u1:=List.length s1.2.2.2.1.1; let u0:=(s1.2.1.2.1,s1.2.1.2.2.1); cond s1.1.1 (xH (fun (join0:(Unit×(ParT×(JT×(NdsT×Unit))))->Option (Option ((ParT×Unit)×(Nd×Unit))))=>cond (ilt 1 (lenI s1.2.2.2.1.1)) (bo (c73 () s1.2.1.1 u0) fun y5=>ck (u1+(List.length [(ndE y5.1.1)])) (join0 ((),((s1.2.1.1,(y5.2.1,(y5.2.2,((),())))),(s1.2.2.1,(((s1.2.2.2.1.1++[(ndE y5.1.1)]),()),())))))) (join0 ((),((s1.2.1.1,(s1.2.1.2.1,(s1.2.1.2.2.1,((),())))),(s1.2.2.1,((s1.2.2.2.1.1,()),())))))) (fun (t0:(Unit×(ParT×(JT×(NdsT×Unit)))))=>bo (c56 () t0.2.1.1 (t0.2.1.2.1,t0.2.1.2.2.1)) fun y5=>ck ((List.length t0.2.2.2.1.1)+(List.length [(ndE y5.1.1.1)])) (bo (c54 ([[44]],()) t0.2.1.1 (y5.2.1,y5.2.2)) fun y7=>rec1 ((y7.1.1,()),((t0.2.1.1,(y7.2.1,(y7.2.2,((),())))),(t0.2.2.1,(((t0.2.2.2.1.1++[(ndE y5.1.1.1)]),()),()))))))) (bo (c78 ([59],()) s1.2.1.1 u0) fun y5=>ck (u1+(List.length [(ndE y5.1.1)])) (some (some (((s1.2.1.1,(y5.2.1,(y5.2.2,((),())))),()),((ndE (Nd.mk 7 0 (s1.2.2.2.1.1++[(ndE y5.1.1)]))),())))))) (((!y3.1.1),()),((x.1.1,(y3.2.1,(y3.2.2,((),())))),((0,(0,([],()))),(([(ndE y1.1.1)],()),())))))
theorem eq107 (fu:Nat) (p:PS) (r:RS) x a:rnA fu p r true false fd107 [parK] [parK] ([]:LK) ([.st TI.node]:LK) x a=sh107 fu r.c53 p.c54 r.c56 p.c73 p.c78 x a:=by kernel_rfl
def sh75 (fu:Nat) (c54:((List Str)×Unit)->MM (Bool×Unit)) (c73:Unit->MM (Nd×Unit)) (c78:(Str×Unit)->MM (Nd×Unit)) (c85:(Int×Unit)->MM (Bool×Unit)) (c108:Unit->MM (Nd×Unit)) (x:(ParT×Unit)) (a:Unit):(Option (Option ((ParT×Unit)×(Nd×Unit)))):=bo (c73 () x.1.1 (x.1.2.1,x.1.2.2.1)) fun y1=>let u0:=List.length [(ndE y1.1.1)]; ck u0 (bo (c85 (0,()) x.1.1 (y1.2.1,y1.2.2)) fun y3=>cond y3.1.1 (xH (fun (join0:(Unit×(ParT×(JT×(NdsT×Unit))))->Option (Option ((ParT×Unit)×(Nd×Unit))))=>bo (c85 (0,()) x.1.1 (y3.2.1,y3.2.2)) fun y5=>cond y5.1.1 (bo (c73 () x.1.1 (y5.2.1,y5.2.2)) fun y7=>ck (u0+(List.length [(ndE y7.1.1)])) (join0 ((),((x.1.1,(y7.2.1,(y7.2.2,((),())))),((0,(0,([],()))),((([(ndE y1.1.1)]++[(ndE y7.1.1)]),()),())))))) (join0 ((),((x.1.1,(y5.2.1,(y5.2.2,((),())))),((0,(0,([],()))),(([(ndE y1.1.1)],()),())))))) (fun (t0:(Unit×(ParT×(JT×(NdsT×Unit)))))=>bo (c54 ([[123]],()) t0.2.1.1 (t0.2.1.2.1,t0.2.1.2.2.1)) fun y5=>cond (!y5.1.1) (some (some (((t0.2.1.1,(y5.2.1,(y5.2.2,((),())))),()),((ndE (Nd.mk 6 0 t0.2.2.2.1.1)),())))) (bo (c73 () t0.2.1.1 (y5.2.1,y5.2.2)) fun y7=>ck ((List.length t0.2.2.2.1.1)+(List.length [(ndE y7.1.1)])) (iter fu (fun (rec1:(Unit×(ParT×(JT×(NdsT×Unit))))->Option (Option ((ParT×Unit)×(Nd×Unit)))) (s1:(Unit×(ParT×(JT×(NdsT×Unit)))))=>bo (c108 () s1.2.1.1 (s1.2.1.2.1,s1.2.1.2.2.1)) fun y9=>ck ((List.length s1.2.2.2.1.1)+(List.length [(ndE y9.1.1)])) (xH (fun (join0:(Unit×(ParT×(JT×(NdsT×Unit))))->Option (Option ((ParT×Unit)×(Nd×Unit))))=>bo (c54 ([[44]],()) s1.2.1.1 (y9.2.1,y9.2.2)) fun y11=>cond y11.1.1 (bo (c73 () s1.2.1.1 (y11.2.1,y11.2.2)) fun y13=>ck ((List.length (s1.2.2.2.1.1++[(ndE y9.1.1)]))+(List.length [(ndE y13.1.1)])) (bo (c54 ([[125]],()) s1.2.1.1 (y13.2.1,y13.2.2)) fun y15=>let u1:=(s1.2.1.1,(y15.2.1,(y15.2.2,((),())))); cond (!y15.1.1) (rec1 ((),(u1,(s1.2.2.1,((((s1.2.2.2.1.1++[(ndE y9.1.1)])++[(ndE y13.1.1)]),()),()))))) (join0 ((),(u1,(s1.2.2.1,((((s1.2.2.2.1.1++[(ndE y9.1.1)])++[(ndE y13.1.1)]),()),()))))))) (join0 ((),((s1.2.1.1,(y11.2.1,(y11.2.2,((),())))),(s1.2.2.1,(((s1.2.2.2.1.1++[(ndE y9.1.1)]),()),())))))) (fun (t1:(Unit×(ParT×(JT×(NdsT×Unit)))))=>bo (c78 ([125],()) t1.2.1.1 (t1.2.1.2.1,t1.2.1.2.2.1)) fun y11=>ck ((List.length t1.2.2.2.1.1)+(List.length [(ndE y11.1.1)])) (some (some (((t1.2.1.1,(y11.2.1,(y11.2.2,((),())))),()),((ndE (Nd.mk 6 0 (t1.2.2.2.1.1++[(ndE y11.1.1)]))),()))))))) ((),((t0.2.1.1,(y7.2.1,(y7.2.2,((),())))),(t0.2.2.1,(((t0.2.2.2.1.1++[(ndE y7.1.1)]),()),())))))))) (bo (c54 ([[123]],()) x.1.1 (y3.2.1,y3.2.2)) fun y5=>cond y5.1.1 (xH (fun (join0:(Unit×(ParT×(JT×(NdsT×Unit))))->Option (Option ((ParT×Unit)×(Nd×Unit))))=>bo (c85 (0,()) x.1.1 (y5.2.1,y5.2.2)) fun y7=>cond y7.1.1 (bo (c73 () x.1.1 (y7.2.1,y7.2.2)) fun y9=>ck (u0+(List.length [(ndE y9.1.1)])) (join0 ((),((x.1.1,(y9.2.1,(y9.2.2,((),())))),((0,(0,([],()))),((([(ndE y1.1.1)]++[(ndE y9.1.1)]),()),())))))) (join0 ((),((x.1.1,(y7.2.1,(y7.2.2,((),())))),((0,(0,([],()))),(([(ndE y1.1.1)],()),())))))) (fun (t0:(Unit×(ParT×(JT×(NdsT×Unit)))))=>bo (c54 ([[123]],()) t0.2.1.1 (t0.2.1.2.1,t0.2.1.2.2.1)) fun y7=>cond (!y7.1.1) (some (some (((t0.2.1.1,(y7.2.1,(y7.2.2,((),())))),()),((ndE (Nd.mk 6 0 t0.2.2.2.1.1)),())))) (bo (c73 () t0.2.1.1 (y7.2.1,y7.2.2)) fun y9=>ck ((List.length t0.2.2.2.1.1)+(List.length [(ndE y9.1.1)])) (iter fu (fun (rec1:(Unit×(ParT×(JT×(NdsT×Unit))))->Option (Option ((ParT×Unit)×(Nd×Unit)))) (s1:(Unit×(ParT×(JT×(NdsT×Unit)))))=>bo (c108 () s1.2.1.1 (s1.2.1.2.1,s1.2.1.2.2.1)) fun y11=>ck ((List.length s1.2.2.2.1.1)+(List.length [(ndE y11.1.1)])) (xH (fun (join0:(Unit×(ParT×(JT×(NdsT×Unit))))->Option (Option ((ParT×Unit)×(Nd×Unit))))=>bo (c54 ([[44]],()) s1.2.1.1 (y11.2.1,y11.2.2)) fun y13=>cond y13.1.1 (bo (c73 () s1.2.1.1 (y13.2.1,y13.2.2)) fun y15=>ck ((List.length (s1.2.2.2.1.1++[(ndE y11.1.1)]))+(List.length [(ndE y15.1.1)])) (bo (c54 ([[125]],()) s1.2.1.1 (y15.2.1,y15.2.2)) fun y17=>let u2:=(s1.2.1.1,(y17.2.1,(y17.2.2,((),())))); cond (!y17.1.1) (rec1 ((),(u2,(s1.2.2.1,((((s1.2.2.2.1.1++[(ndE y11.1.1)])++[(ndE y15.1.1)]),()),()))))) (join0 ((),(u2,(s1.2.2.1,((((s1.2.2.2.1.1++[(ndE y11.1.1)])++[(ndE y15.1.1)]),()),()))))))) (join0 ((),((s1.2.1.1,(y13.2.1,(y13.2.2,((),())))),(s1.2.2.1,(((s1.2.2.2.1.1++[(ndE y11.1.1)]),()),())))))) (fun (t1:(Unit×(ParT×(JT×(NdsT×Unit)))))=>bo (c78 ([125],()) t1.2.1.1 (t1.2.1.2.1,t1.2.1.2.2.1)) fun y13=>ck ((List.length t1.2.2.2.1.1)+(List.length [(ndE y13.1.1)])) (some (some (((t1.2.1.1,(y13.2.1,(y13.2.2,((),())))),()),((ndE (Nd.mk 6 0 (t1.2.2.2.1.1++[(ndE y13.1.1)]))),()))))))) ((),((t0.2.1.1,(y9.2.1,(y9.2.2,((),())))),(t0.2.2.1,(((t0.2.2.2.1.1++[(ndE y9.1.1)]),()),())))))))) (some none)))
theorem eq75 (fu:Nat) (p:PS) (r:RS) x a:rnA fu p r false false fd75 [parK] [parK] ([]:LK) ([.st TI.node]:LK) x a=sh75 fu p.c54 p.c73 p.c78 p.c85 r.c108 x a:=by kernel_rfl
def sh108 (fu:Nat) (c54:((List Str)×Unit)->MM (Bool×Unit)) (c58:(Str×(Bool×Unit))->MM Unit) (c72:(Int×Unit)->MM (Str×Unit)) (c73:Unit->MM (Nd×Unit)) (c80:Unit->MM (Nd×Unit)) (c114:Unit->MM (Nd×Unit)) (x:(ParT×Unit)) (a:Unit):(Option (Option ((ParT×Unit)×(Nd×Unit)))):=bo (c72 (0,()) x.1.1 (x.1.2.1,x.1.2.2.1)) fun y1=>bo (c80 () x.1.1 (y1.2.1,y1.2.2)) fun y3=>let u0:=List.length [(ndE y3.1.1)]; ck u0 (bo (c54 ([[61]],()) x.1.1 (y3.2.1,y3.2.2)) fun y5=>cond y5.1.1 (bo (c73 () x.1.1 (y5.2.1,y5.2.2)) fun y7=>bo (c114 () x.1.1 (y7.2.1,y7.2.2)) fun y9=>ck (u0+(List.length [(ndE y7.1.1),(ndE y9.1.1)])) (bo (c58 (y1.1.1,(false,())) x.1.1 (y9.2.1,y9.2.2)) fun y11=>some (some (((x.1.1,(y11.2.1,(y11.2.2,((),())))),()),((ndE (Nd.mk 8 0 ([(ndE y3.1.1)]++[(ndE y7.1.1),(ndE y9.1.1)]))),()))))) (bo (c58 (y1.1.1,(false,())) x.1.1 (y5.2.1,y5.2.2)) fun y7=>some (some (((x.1.1,(y7.2.1,(y7.2.2,((),())))),()),((ndE (Nd.mk 8 0 [(ndE y3.1.1)])),())))))
theorem eq108 (fu:Nat) (p:PS) (r:RS) x a:rnA fu p r false false fd108 [parK] [parK] ([]:LK) ([.st TI.node]:LK) x a=sh108 fu p.c54 p.c58 p.c72 p.c73 p.c80 r.c114 x a:=by kernel_rfl
def sh79 (fu:Nat) (c54:((List Str)×Unit)->MM (Bool×Unit)) (c73:Unit->MM (Nd×Unit)) (x:(ParT×(NdsT×Unit))) (a:Unit):(Option (Option ((ParT×(NdsT×Unit))×Unit))):=iter fu (fun (rec1:(Unit×(ParT×(NdsT×Unit)))->Option (Option ((ParT×(NdsT×Unit))×Unit))) (s1:(Unit×(ParT×(NdsT×Unit))))=>bo (c54 ([[42]],()) s1.2.1.1 (s1.2.1.2.1,s1.2.1.2.2.1)) fun y1=>cond y1.1.1 (bo (c73 () s1.2.1.1 (y1.2.1,y1.2.2)) fun y3=>ck ((List.length s1.2.2.1.1)+(List.length [(ndE y3.1.1)])) (iter fu (fun (rec2:(Unit×(ParT×(NdsT×Unit)))->Option (Option ((ParT×(NdsT×Unit))×Unit))) (s2:(Unit×(ParT×(NdsT×Unit))))=>bo (c54 ([[99,111,110,115,116],[118,111,108,97,116,105,108,101]],()) s2.2.1.1 (s2.2.1.2.1,s2.2.1.2.2.1)) fun y5=>cond y5.1.1 (bo (c73 () s2.2.1.1 (y5.2.1,y5.2.2)) fun y7=>ck ((List.length s2.2.2.1.1)+(List.length [(ndE y7.1.1)])) (rec2 ((),((s2.2.1.1,(y7.2.1,(y7.2.2,((),())))),(((s2.2.2.1.1++[(ndE y7.1.1)]),()),()))))) (rec1 ((),((s2.2.1.1,(y5.2.1,(y5.2.2,((),())))),((s2.2.2.1.1,()),()))))) ((),((s1.2.1.1,(y3.2.1,(y3.2.2,((),())))),(((s1.2.2.1.1++[(ndE y3.1.1)]),()),()))))) (some (some (((s1.2.1.1,(y1.2.1,(y1.2.2,((),())))),((s1.2.2.1.1,()),())),())))) ((),((x.1.1,(x.1.2.1,(x.1.2.2.1,((),())))),((x.2.1.1,()),())))
theorem eq79 (fu:Nat) (p:PS) (r:RS) x a:rnA fu p r false false fd79 [parK,ptsK] [parK,ptsK] ([]:LK) ([]:LK) x a=sh79 fu p.c54 p.c73 x a:=by kernel_rfl
def sh82 (fu:Nat) (c54:((List Str)×Unit)->MM (Bool×Unit)) (c73:Unit->MM (Nd×Unit)) (c78:(Str×Unit)->MM (Nd×Unit)) (c81:Unit->MM ((Nd×Unit)×(Option MT))) (c111:Unit->MM (Nd×Unit)) (x:(ParT×(NdsT×Unit))) (a:Unit):(Option (Option ((ParT×(NdsT×Unit))×Unit))):=iter fu (fun (rec1:(Unit×(ParT×(NdsT×Unit)))->Option (Option ((ParT×(NdsT×Unit))×Unit))) (s1:(Unit×(ParT×(NdsT×Unit))))=>let u1:=List.length s1.2.2.1.1; bo (c54 ([[40],[91]],()) s1.2.1.1 (s1.2.1.2.1,s1.2.1.2.2.1)) fun y1=>cond y1.1.1 (bo (c54 ([[40]],()) s1.2.1.1 (y1.2.1,y1.2.2)) fun y3=>cond y3.1.1 (bo (c81 () s1.2.1.1 (y3.2.1,y3.2.2)) fun y5=>ck (u1+(List.length [(ndE y5.1.1.1)])) (rec1 ((),((s1.2.1.1,(y5.2.1,(y5.2.2,((),())))),(((s1.2.2.1.1++[(ndE y5.1.1.1)]),()),()))))) (bo (c73 () s1.2.1.1 (y3.2.1,y3.2.2)) fun y5=>let u0:=List.length (s1.2.2.1.1++[(ndE y5.1.1)]); ck (u1+(List.length [(ndE y5.1.1)])) (bo (c54 ([[93]],()) s1.2.1.1 (y5.2.1,y5.2.2)) fun y7=>cond (!y7.1.1) (bo (c111 () s1.2.1.1 (y7.2.1,y7.2.2)) fun y9=>ck (u0+(List.length [(ndE y9.1.1)])) (bo (c78 ([93],()) s1.2.1.1 (y9.2.1,y9.2.2)) fun y11=>ck ((List.length ((s1.2.2.1.1++[(ndE y5.1.1)])++[(ndE y9.1.1)]))+(List.length [(ndE y11.1.1)])) (rec1 ((),((s1.2.1.1,(y11.2.1,(y11.2.2,((),())))),(((((s1.2.2.1.1++[(ndE y5.1.1)])++[(ndE y9.1.1)])++[(ndE y11.1.1)]),()),())))))) (bo (c78 ([93],()) s1.2.1.1 (y7.2.1,y7.2.2)) fun y9=>ck (u0+(List.length [(ndE y9.1.1)])) (rec1 ((),((s1.2.1.1,(y9.2.1,(y9.2.2,((),())))),((((s1.2.2.1.1++[(ndE y5.1.1)])++[(ndE y9.1.1)]),()),())))))))) (some (some (((s1.2.1.1,(y1.2.1,(y1.2.2,((),())))),((s1.2.2.1.1,()),())),())))) ((),((x.1.1,(x.1.2.1,(x.1.2.2.1,((),())))),((x.2.1.1,()),())))
theorem eq82 (fu:Nat) (p:PS) (r:RS) x a:rnA fu p r false true fd82 [parK,ptsK] [parK,ptsK] ([]:LK) ([]:LK) x a=sh82 fu p.c54 p.c73 p.c78 r.c81 r.c111 x a:=by kernel_rfl
def sh56 (fu:Nat) (c54:((List Str)×Unit)->MM (Bool×Unit)) (c56:Unit->MM ((Nd×(Str×(Bool×Unit)))×(Option (Option MT)))) (c72:(Int×Unit)->MM (Str×Unit)) (c73:Unit->MM (Nd×Unit)) (c78:(Str×Unit)->MM (Nd×Unit)) (c79:Unit->(List Nd)->MM (Unit×(List Nd))) (c80:Unit->MM (Nd×Unit)) (c81:Unit->MM ((Nd×Unit)×(Option MT))) (c82:Unit->(List Nd)->MM (Unit×(List Nd))) (x:(ParT×Unit)) (a:Unit):(Option (Option (((LT×(Int×((List MT)×((Option (Option MT))×Unit))))×Unit)×(Nd×(Str×(Bool×Unit)))))):=bo (c79 () [] x.1.1 (x.1.2.1,x.1.2.2.1)) fun y1=>bo (c54 ([[40]],()) x.1.1 (y1.2.1,y1.2.2)) fun y3=>cond (!y3.1.1) (bo (c72 (0,()) x.1.1 (y3.2.1,y3.2.2)) fun y5=>bo (c80 () x.1.1 (y5.2.1,y5.2.2)) fun y7=>let u0:=List.length (y1.1.2++[(ndE y7.1.1)]); ck ((List.length y1.1.2)+(List.length [(ndE y7.1.1)])) (xH (fun (join0:((Bool×((Option MT)×Unit))×(ParT×(JT×(NdsT×Unit))))->Option (Option (((LT×(Int×((List MT)×((Option (Option MT))×Unit))))×Unit)×(Nd×(Str×(Bool×Unit))))))=>bo (c54 ([[40]],()) x.1.1 (y7.2.1,y7.2.2)) fun y9=>cond y9.1.1 (bo (c81 () x.1.1 (y9.2.1,y9.2.2)) fun y11=>let u2:=(x.1.1,(y11.2.1,(y11.2.2,((),())))); let u1:=ndE y11.1.1.1; zr y11.1.2 (ck (u0+(List.length [u1])) (join0 ((true,(none,())),(u2,((0,(0,([],()))),((((y1.1.2++[(ndE y7.1.1)])++[u1]),()),())))))) fun y12=>ck (u0+(List.length [u1])) (join0 ((true,((some y12),())),(u2,((0,(0,([],()))),((((y1.1.2++[(ndE y7.1.1)])++[u1]),()),())))))) (join0 ((false,(none,())),((x.1.1,(y9.2.1,(y9.2.2,((),())))),((0,(0,([],()))),(((y1.1.2++[(ndE y7.1.1)]),()),())))))) (fun (t0:((Bool×((Option MT)×Unit))×(ParT×(JT×(NdsT×Unit)))))=>let u3:=(t0.2.1.2.1,t0.2.1.2.2.1); zr t0.1.2.1 (bo (c82 () t0.2.2.2.1.1 t0.2.1.1 u3) fun y9=>some (some (((t0.2.1.1,(y9.2.1,(y9.2.2,((some none),())))),()),((ndE (Nd.mk 10 0 y9.1.2)),(y5.1.1,(t0.1.1,())))))) fun y8=>bo (c82 () t0.2.2.2.1.1 t0.2.1.1 u3) fun y10=>some (some (((t0.2.1.1,(y10.2.1,(y10.2.2,((some (some y8)),())))),()),((ndE (Nd.mk 10 0 y10.1.2)),(y5.1.1,(t0.1.1,())))))))) (bo (c73 () x.1.1 (y3.2.1,y3.2.2)) fun y5=>ck ((List.length y1.1.2)+(List.length [(ndE y5.1.1)])) (bo (c56 () x.1.1 (y5.2.1,y5.2.2)) fun y7=>bo (c78 ([41],()) x.1.1 (y7.2.1,y7.2.2)) fun y9=>ck ((List.length (y1.1.2++[(ndE y5.1.1)]))+(List.length [(ndE y7.1.1.1),(ndE y9.1.1)])) (bo (c82 () ((y1.1.2++[(ndE y5.1.1)])++[(ndE y7.1.1.1),(ndE y9.1.1)]) x.1.1 (y9.2.1,y9.2.2)) fun y11=>some (some (((x.1.1,(y11.2.1,(y11.2.2,(none,())))),()),((ndE (Nd.mk 10 0 y11.1.2)),(y7.1.1.2.1,(false,()))))))))
theorem eq56 (fu:Nat) (p:PS) (r:RS) x a:rnA fu p r true false fd56 [parK] [parJ] ([]:LK) ([.st TI.node,.str,.bool]:LK) x a=sh56 fu p.c54 r.c56 p.c72 p.c73 p.c78 r.c79 p.c80 r.c81 r.c82 x a:=by kernel_rfl
def sh130 (fu:Nat) (c54:((List Str)×Unit)->MM (Bool×Unit)) (c72:(Int×Unit)->MM (Str×Unit)) (c73:Unit->MM (Nd×Unit)) (c76:(Int×Unit)->MM (Bool×Unit)) (c78:(Str×Unit)->MM (Nd×Unit)) (c79:Unit->(List Nd)->MM (Unit×(List Nd))) (c82:Unit->(List Nd)->MM (Unit×(List Nd))) (c85:(Int×Unit)->MM (Bool×Unit)) (c130:(Bool×Unit)->MM (Nd×(Str×(Bool×Unit)))) (x:(ParT×Unit)) (a:(Bool×Unit)):(Option (Option ((ParT×Unit)×(Nd×(Str×(Bool×Unit)))))):=bo (c79 () [] x.1.1 (x.1.2.1,x.1.2.2.1)) fun y1=>let u0:=List.length y1.1.2; bo (c72 (1,()) x.1.1 (y1.2.1,y1.2.2)) fun y3=>xH (fun (join0:((Str×Unit)×(ParT×(JT×(NdsT×Unit))))->Option (Option ((ParT×Unit)×(Nd×(Str×(Bool×Unit))))))=>cond a.1 (bo (c85 (0,()) x.1.1 (y3.2.1,y3.2.2)) fun y5=>cond y5.1.1 (bo (c72 (0,()) x.1.1 (y5.2.1,y5.2.2)) fun y7=>bo (c73 () x.1.1 (y7.2.1,y7.2.2)) fun y9=>ck (u0+(List.length [(ndE y9.1.1)])) (join0 ((y7.1.1,()),((x.1.1,(y9.2.1,(y9.2.2,((),())))),((0,(0,([],()))),(((y1.1.2++[(ndE y9.1.1)]),()),())))))) (bo (c54 ([[40]],()) x.1.1 (y5.2.1,y5.2.2)) fun y7=>let u8:=(x.1.1,(y7.2.1,(y7.2.2,((),())))); let u1:=(y7.2.1,y7.2.2); cond y7.1.1 (cond (seq y3.1.1 [42]) (bo (c73 () x.1.1 u1) fun y9=>ck (u0+(List.length [(ndE y9.1.1)])) (bo (c130 (a.1,()) x.1.1 (y9.2.1,y9.2.2)) fun y11=>let u3:=(x.1.1,(y11.2.1,(y11.2.2,((),())))); xH (fun (join1:(Unit×(ParT×(JT×(NdsT×Unit))))->Option (Option ((ParT×Unit)×(Nd×(Str×(Bool×Unit))))))=>cond y11.1.2.2.1 (ck ((List.length (y1.1.2++[(ndE y9.1.1)]))+(List.length [(ndE y11.1.1)])) (join1 ((),(u3,((0,(0,([],()))),((((y1.1.2++[(ndE y9.1.1)])++[(ndE y11.1.1)]),()),())))))) (join1 ((),(u3,((0,(0,([],()))),(((y1.1.2++[(ndE y9.1.1)]),()),())))))) (fun (t0:(Unit×(ParT×(JT×(NdsT×Unit)))))=>bo (c78 ([41],()) t0.2.1.1 (t0.2.1.2.1,t0.2.1.2.2.1)) fun y13=>ck ((List.length t0.2.2.2.1.1)+(List.length [(ndE y13.1.1)])) (join0 ((y11.1.2.1,()),((t0.2.1.1,(y13.2.1,(y13.2.2,((),())))),(t0.2.2.1,(((t0.2.2.2.1.1++[(ndE y13.1.1)]),()),())))))))) (cond (seq y3.1.1 [40]) (bo (c73 () x.1.1 u1) fun y9=>ck (u0+(List.length [(ndE y9.1.1)])) (bo (c130 (a.1,()) x.1.1 (y9.2.1,y9.2.2)) fun y11=>let u4:=(x.1.1,(y11.2.1,(y11.2.2,((),())))); xH (fun (join1:(Unit×(ParT×(JT×(NdsT×Unit))))->Option (Option ((ParT×Unit)×(Nd×(Str×(Bool×Unit))))))=>cond y11.1.2.2.1 (ck ((List.length (y1.1.2++[(ndE y9.1.1)]))+(List.length [(ndE y11.1.1)])) (join1 ((),(u4,((0,(0,([],()))),((((y1.1.2++[(ndE y9.1.1)])++[(ndE y11.1.1)]),()),())))))) (join1 ((),(u4,((0,(0,([],()))),(((y1.1.2++[(ndE y9.1.1)]),()),())))))) (fun (t0:(Unit×(ParT×(JT×(NdsT×Unit)))))=>bo (c78 ([41],()) t0.2.1.1 (t0.2.1.2.1,t0.2.1.2.2.1)) fun y13=>ck ((List.length t0.2.2.2.1.1)+(List.length [(ndE y13.1.1)])) (join0 ((y11.1.2.1,()),((t0.2.1.1,(y13.2.1,(y13.2.2,((),())))),(t0.2.2.1,(((t0.2.2.2.1.1++[(ndE y13.1.1)]),()),())))))))) (cond (seq y3.1.1 [91]) (bo (c73 () x.1.1 u1) fun y9=>ck (u0+(List.length [(ndE y9.1.1)])) (bo (c130 (a.1,()) x.1.1 (y9.2.1,y9.2.2)) fun y11=>let u5:=(x.1.1,(y11.2.1,(y11.2.2,((),())))); xH (fun (join1:(Unit×(ParT×(JT×(NdsT×Unit))))->Option (Option ((ParT×Unit)×(Nd×(Str×(Bool×Unit))))))=>cond y11.1.2.2.1 (ck ((List.length (y1.1.2++[(ndE y9.1.1)]))+(List.length [(ndE y11.1.1)])) (join1 ((),(u5,((0,(0,([],()))),((((y1.1.2++[(ndE y9.1.1)])++[(ndE y11.1.1)]),()),())))))) (join1 ((),(u5,((0,(0,([],()))),(((y1.1.2++[(ndE y9.1.1)]),()),())))))) (fun (t0:(Unit×(ParT×(JT×(NdsT×Unit)))))=>bo (c78 ([41],()) t0.2.1.1 (t0.2.1.2.1,t0.2.1.2.2.1)) fun y13=>ck ((List.length t0.2.2.2.1.1)+(List.length [(ndE y13.1.1)])) (join0 ((y11.1.2.1,()),((t0.2.1.1,(y13.2.1,(y13.2.2,((),())))),(t0.2.2.1,(((t0.2.2.2.1.1++[(ndE y13.1.1)]),()),())))))))) (cond a.1 (bo (c85 (1,()) x.1.1 u1) fun y9=>cond y9.1.1 (bo (c76 (1,()) x.1.1 (y9.2.1,y9.2.2)) fun y11=>cond (!y11.1.1) (bo (c73 () x.1.1 (y11.2.1,y11.2.2)) fun y13=>ck (u0+(List.length [(ndE y13.1.1)])) (bo (c130 (a.1,()) x.1.1 (y13.2.1,y13.2.2)) fun y15=>let u6:=(x.1.1,(y15.2.1,(y15.2.2,((),())))); xH (fun (join1:(Unit×(ParT×(JT×(NdsT×Unit))))->Option (Option ((ParT×Unit)×(Nd×(Str×(Bool×Unit))))))=>cond y15.1.2.2.1 (ck ((List.length (y1.1.2++[(ndE y13.1.1)]))+(List.length [(ndE y15.1.1)])) (join1 ((),(u6,((0,(0,([],()))),((((y1.1.2++[(ndE y13.1.1)])++[(ndE y15.1.1)]),()),())))))) (join1 ((),(u6,((0,(0,([],()))),(((y1.1.2++[(ndE y13.1.1)]),()),())))))) (fun (t0:(Unit×(ParT×(JT×(NdsT×Unit)))))=>bo (c78 ([41],()) t0.2.1.1 (t0.2.1.2.1,t0.2.1.2.2.1)) fun y17=>ck ((List.length t0.2.2.2.1.1)+(List.length [(ndE y17.1.1)])) (join0 ((y15.1.2.1,()),((t0.2.1.1,(y17.2.1,(y17.2.2,((),())))),(t0.2.2.1,(((t0.2.2.2.1.1++[(ndE y17.1.1)]),()),())))))))) (join0 (([],()),((x.1.1,(y11.2.1,(y11.2.2,((),())))),((0,(0,([],()))),((y1.1.2,()),())))))) (join0 (([],()),((x.1.1,(y9.2.1,(y9.2.2,((),())))),((0,(0,([],()))),((y1.1.2,()),())))))) (join0 (([],()),(u8,((0,(0,([],()))),((y1.1.2,()),()))))))))) (join0 (([],()),(u8,((0,(0,([],()))),((y1.1.2,()),()))))))) (bo (c54 ([[40]],()) x.1.1 (y3.2.1,y3.2.2)) fun y5=>let u12:=(x.1.1,(y5.2.1,(y5.2.2,((),())))); let u2:=(y5.2.1,y5.2.2); cond y5.1.1 (cond (seq y3.1.1 [42]) (bo (c73 () x.1.1 u2) fun y7=>ck (u0+(List.length [(ndE y7.1.1)])) (bo (c130 (a.1,()) x.1.1 (y7.2.1,y7.2.2)) fun y9=>let u9:=(x.1.1,(y9.2.1,(y9.2.2,((),())))); xH (fun (join1:(Unit×(ParT×(JT×(NdsT×Unit))))->Option (Option ((ParT×Unit)×(Nd×(Str×(Bool×Unit))))))=>cond y9.1.2.2.1 (ck ((List.length (y1.1.2++[(ndE y7.1.1)]))+(List.length [(ndE y9.1.1)])) (join1 ((),(u9,((0,(0,([],()))),((((y1.1.2++[(ndE y7.1.1)])++[(ndE y9.1.1)]),()),())))))) (join1 ((),(u9,((0,(0,([],()))),(((y1.1.2++[(ndE y7.1.1)]),()),())))))) (fun (t0:(Unit×(ParT×(JT×(NdsT×Unit)))))=>bo (c78 ([41],()) t0.2.1.1 (t0.2.1.2.1,t0.2.1.2.2.1)) fun y11=>ck ((List.length t0.2.2.2.1.1)+(List.length [(ndE y11.1.1)])) (join0 ((y9.1.2.1,()),((t0.2.1.1,(y11.2.1,(y11.2.2,((),())))),(t0.2.2.1,(((t0.2.2.2.1.1++[(ndE y11.1.1)]),()),())))))))) (cond (seq y3.1.1 [40]) (bo (c73 () x.1.1 u2) fun y7=>ck (u0+(List.length [(ndE y7.1.1)])) (bo (c130 (a.1,()) x.1.1 (y7.2.1,y7.2.2)) fun y9=>let u10:=(x.1.1,(y9.2.1,(y9.2.2,((),())))); xH (fun (join1:(Unit×(ParT×(JT×(NdsT×Unit))))->Option (Option ((ParT×Unit)×(Nd×(Str×(Bool×Unit))))))=>cond y9.1.2.2.1 (ck ((List.length (y1.1.2++[(ndE y7.1.1)]))+(List.length [(ndE y9.1.1)])) (join1 ((),(u10,((0,(0,([],()))),((((y1.1.2++[(ndE y7.1.1)])++[(ndE y9.1.1)]),()),())))))) (join1 ((),(u10,((0,(0,([],()))),(((y1.1.2++[(ndE y7.1.1)]),()),())))))) (fun (t0:(Unit×(ParT×(JT×(NdsT×Unit)))))=>bo (c78 ([41],()) t0.2.1.1 (t0.2.1.2.1,t0.2.1.2.2.1)) fun y11=>ck ((List.length t0.2.2.2.1.1)+(List.length [(ndE y11.1.1)])) (join0 ((y9.1.2.1,()),((t0.2.1.1,(y11.2.1,(y11.2.2,((),())))),(t0.2.2.1,(((t0.2.2.2.1.1++[(ndE y11.1.1)]),()),())))))))) (cond (seq y3.1.1 [91]) (bo (c73 () x.1.1 u2) fun y7=>ck (u0+(List.length [(ndE y7.1.1)])) (bo (c130 (a.1,()) x.1.1 (y7.2.1,y7.2.2)) fun y9=>let u11:=(x.1.1,(y9.2.1,(y9.2.2,((),())))); xH (fun (join1:(Unit×(ParT×(JT×(NdsT×Unit))))->Option (Option ((ParT×Unit)×(Nd×(Str×(Bool×Unit))))))=>cond y9.1.2.2.1 (ck ((List.length (y1.1.2++[(ndE y7.1.1)]))+(List.length [(ndE y9.1.1)])) (join1 ((),(u11,((0,(0,([],()))),((((y1.1.2++[(ndE y7.1.1)])++[(ndE y9.1.1)]),()),())))))) (join1 ((),(u11,((0,(0,([],()))),(((y1.1.2++[(ndE y7.1.1)]),()),())))))) (fun (t0:(Unit×(ParT×(JT×(NdsT×Unit)))))=>bo (c78 ([41],()) t0.2.1.1 (t0.2.1.2.1,t0.2.1.2.2.1)) fun y11=>ck ((List.length t0.2.2.2.1.1)+(List.length [(ndE y11.1.1)])) (join0 ((y9.1.2.1,()),((t0.2.1.1,(y11.2.1,(y11.2.2,((),())))),(t0.2.2.1,(((t0.2.2.2.1.1++[(ndE y11.1.1)]),()),())))))))) (cond a.1 (bo (c85 (1,()) x.1.1 u2) fun y7=>cond y7.1.1 (bo (c76 (1,()) x.1.1 (y7.2.1,y7.2.2)) fun y9=>cond (!y9.1.1) (bo (c73 () x.1.1 (y9.2.1,y9.2.2)) fun y11=>ck (u0+(List.length [(ndE y11.1.1)])) (bo (c130 (a.1,()) x.1.1 (y11.2.1,y11.2.2)) fun y13=>let u7:=(x.1.1,(y13.2.1,(y13.2.2,((),())))); xH (fun (join1:(Unit×(ParT×(JT×(NdsT×Unit))))->Option (Option ((ParT×Unit)×(Nd×(Str×(Bool×Unit))))))=>cond y13.1.2.2.1 (ck ((List.length (y1.1.2++[(ndE y11.1.1)]))+(List.length [(ndE y13.1.1)])) (join1 ((),(u7,((0,(0,([],()))),((((y1.1.2++[(ndE y11.1.1)])++[(ndE y13.1.1)]),()),())))))) (join1 ((),(u7,((0,(0,([],()))),(((y1.1.2++[(ndE y11.1.1)]),()),())))))) (fun (t0:(Unit×(ParT×(JT×(NdsT×Unit)))))=>bo (c78 ([41],()) t0.2.1.1 (t0.2.1.2.1,t0.2.1.2.2.1)) fun y15=>ck ((List.length t0.2.2.2.1.1)+(List.length [(ndE y15.1.1)])) (join0 ((y13.1.2.1,()),((t0.2.1.1,(y15.2.1,(y15.2.2,((),())))),(t0.2.2.1,(((t0.2.2.2.1.1++[(ndE y15.1.1)]),()),())))))))) (join0 (([],()),((x.1.1,(y9.2.1,(y9.2.2,((),())))),((0,(0,([],()))),((y1.1.2,()),())))))) (join0 (([],()),((x.1.1,(y7.2.1,(y7.2.2,((),())))),((0,(0,([],()))),((y1.1.2,()),())))))) (join0 (([],()),(u12,((0,(0,([],()))),((y1.1.2,()),()))))))))) (join0 (([],()),(u12,((0,(0,([],()))),((y1.1.2,()),()))))))) (fun (t0:((Str×Unit)×(ParT×(JT×(NdsT×Unit)))))=>bo (c82 () t0.2.2.2.1.1 t0.2.1.1 (t0.2.1.2.1,t0.2.1.2.2.1)) fun y5=>some (some (((t0.2.1.1,(y5.2.1,(y5.2.2,((),())))),()),((ndE (Nd.mk 10 0 y5.1.2)),(t0.1.1,((ilt 0 (lenI y5.1.2)),()))))))
theorem eq130 (fu:Nat) (p:PS) (r:RS) x a:rnA fu p r false false fd130 [parK] [parK] ([.bool]:LK) ([.st TI.node,.str,.bool]:LK) x a=sh130 fu p.c54 p.c72 p.c73 p.c76 p.c78 r.c79 r.c82 p.c85 r.c130 x a:=by kernel_rfl
def sh81 (fu:Nat) (c54:((List Str)×Unit)->MM (Bool×Unit)) (c59:((Option MT)×Unit)->MM Unit) (c61:Unit->MM ((Option MT)×Unit)) (c73:Unit->MM (Nd×Unit)) (c78:(Str×Unit)->MM (Nd×Unit)) (c110:Unit->MM (Nd×Unit)) (x:(ParT×Unit)) (a:Unit):(Option (Option ((zFE×Unit)×(Nd×Unit)))):=bo (c78 ([40],()) x.1.1 (x.1.2.1,x.1.2.2.1)) fun y1=>ck (List.length [(ndE y1.1.1)]) (bo (c59 ((some []),()) x.1.1 (y1.2.1,y1.2.2)) fun y3=>bo (c54 ([[41]],()) x.1.1 (y3.2.1,y3.2.2)) fun y5=>iter fu (fun (rec1:((Bool×Unit)×(ParT×(JT×(NdsT×Unit))))->Option (Option ((zFE×Unit)×(Nd×Unit)))) (s1:((Bool×Unit)×(ParT×(JT×(NdsT×Unit)))))=>let u3:=List.length s1.2.2.2.1.1; let u2:=(s1.2.1.2.1,s1.2.1.2.2.1); cond s1.1.1 (cond (ilt 1 (lenI s1.2.2.2.1.1)) (bo (c73 () s1.2.1.1 u2) fun y7=>let u4:=List.length (s1.2.2.2.1.1++[(ndE y7.1.1)]); ck (u3+(List.length [(ndE y7.1.1)])) (bo (c54 ([[46,46,46]],()) s1.2.1.1 (y7.2.1,y7.2.2)) fun y9=>cond y9.1.1 (bo (c73 () s1.2.1.1 (y9.2.1,y9.2.2)) fun y11=>ck (u4+(List.length [(ndE y11.1.1)])) (bo (c78 ([41],()) s1.2.1.1 (y11.2.1,y11.2.2)) fun y13=>let u0:=ndE (Nd.mk 11 0 (((s1.2.2.2.1.1++[(ndE y7.1.1)])++[(ndE y11.1.1)])++[(ndE y13.1.1)])); ck ((List.length ((s1.2.2.2.1.1++[(ndE y7.1.1)])++[(ndE y11.1.1)]))+(List.length [(ndE y13.1.1)])) (bo (c61 () s1.2.1.1 (y13.2.1,y13.2.2)) fun y15=>zr y15.1.1 (some (some (((s1.2.1.1,(y15.2.1,(y15.2.2,(none,())))),()),(u0,())))) fun y16=>some (some (((s1.2.1.1,(y15.2.1,(y15.2.2,((some y16),())))),()),(u0,())))))) (bo (c110 () s1.2.1.1 (y9.2.1,y9.2.2)) fun y11=>ck (u4+(List.length [(ndE y11.1.1)])) (bo (c54 ([[44]],()) s1.2.1.1 (y11.2.1,y11.2.2)) fun y13=>rec1 ((y13.1.1,()),((s1.2.1.1,(y13.2.1,(y13.2.2,((),())))),(s1.2.2.1,((((s1.2.2.2.1.1++[(ndE y7.1.1)])++[(ndE y11.1.1)]),()),())))))))) (bo (c110 () s1.2.1.1 u2) fun y7=>ck (u3+(List.length [(ndE y7.1.1)])) (bo (c54 ([[44]],()) s1.2.1.1 (y7.2.1,y7.2.2)) fun y9=>rec1 ((y9.1.1,()),((s1.2.1.1,(y9.2.1,(y9.2.2,((),())))),(s1.2.2.1,(((s1.2.2.2.1.1++[(ndE y7.1.1)]),()),()))))))) (bo (c78 ([41],()) s1.2.1.1 u2) fun y7=>let u1:=ndE (Nd.mk 11 0 (s1.2.2.2.1.1++[(ndE y7.1.1)])); ck (u3+(List.length [(ndE y7.1.1)])) (bo (c61 () s1.2.1.1 (y7.2.1,y7.2.2)) fun y9=>zr y9.1.1 (some (some (((s1.2.1.1,(y9.2.1,(y9.2.2,(none,())))),()),(u1,())))) fun y10=>some (some (((s1.2.1.1,(y9.2.1,(y9.2.2,((some y10),())))),()),(u1,())))))) (((!y5.1.1),()),((x.1.1,(y5.2.1,(y5.2.2,((),())))),((0,(0,([],()))),(([(ndE y1.1.1)],()),())))))
theorem eq81 (fu:Nat) (p:PS) (r:RS) x a:rnA fu p r false false fd81 [parK] [parL] ([]:LK) ([.st TI.node]:LK) x a=sh81 fu p.c54 p.c59 p.c61 p.c73 p.c78 r.c110 x a:=by kernel_rfl
def sh110 (fu:Nat) (c53:Unit->MM (Nd×(Bool×Unit))) (c58:(Str×(Bool×Unit))->MM Unit) (c130:(Bool×Unit)->MM (Nd×(Str×(Bool×Unit)))) (x:(ParT×Unit)) (a:Unit):(Option (Option ((ParT×Unit)×(Nd×Unit)))):=bo (c53 () x.1.1 (x.1.2.1,x.1.2.2.1)) fun y1=>let u1:=List.length [(ndE y1.1.1)]; ck u1 (bo (c130 (true,()) x.1.1 (y1.2.1,y1.2.2)) fun y3=>let u0:=(x.1.1,(y3.2.1,(y3.2.2,((),())))); xH (fun (join0:(Unit×(ParT×(JT×(NdsT×Unit))))->Option (Option ((ParT×Unit)×(Nd×Unit))))=>cond y3.1.2.2.1 (ck (u1+(List.length [(ndE y3.1.1)])) (join0 ((),(u0,((0,(0,([],()))),((([(ndE y1.1.1)]++[(ndE y3.1.1)]),()),())))))) (join0 ((),(u0,((0,(0,([],()))),(([(ndE y1.1.1)],()),())))))) (fun (t0:(Unit×(ParT×(JT×(NdsT×Unit)))))=>bo (c58 (y3.1.2.1,(y1.1.2.1,())) t0.2.1.1 (t0.2.1.2.1,t0.2.1.2.2.1)) fun y5=>some (some (((t0.2.1.1,(y5.2.1,(y5.2.2,((),())))),()),((ndE (Nd.mk 12 0 t0.2.2.2.1.1)),())))))
theorem eq110 (fu:Nat) (p:PS) (r:RS) x a:rnA fu p r false false fd110 [parK] [parK] ([]:LK) ([.st TI.node]:LK) x a=sh110 fu r.c53 p.c58 r.c130 x a:=by kernel_rfl
def sh151 (fu:Nat) (c53:Unit->MM (Nd×(Bool×Unit))) (c130:(Bool×Unit)->MM (Nd×(Str×(Bool×Unit)))) (x:(ParT×Unit)) (a:Unit):(Option (Option ((ParT×Unit)×(Nd×Unit)))):=bo (c53 () x.1.1 (x.1.2.1,x.1.2.2.1)) fun y1=>let u1:=List.length [(ndE y1.1.1)]; ck u1 (bo (c130 (false,()) x.1.1 (y1.2.1,y1.2.2)) fun y3=>let u0:=(x.1.1,(y3.2.1,(y3.2.2,((),())))); cond y3.1.2.2.1 (ck (u1+(List.length [(ndE y3.1.1)])) (some (some ((u0,()),((ndE (Nd.mk 14 0 ([(ndE y1.1.1)]++[(ndE y3.1.1)]))),()))))) (some (some ((u0,()),((ndE (Nd.mk 14 0 [(ndE y1.1.1)])),())))))
theorem eq151 (fu:Nat) (p:PS) (r:RS) x a:rnA fu p r false false fd151 [parK] [parK] ([]:LK) ([.st TI.node]:LK) x a=sh151 fu r.c53 r.c130 x a:=by kernel_rfl
def sh83 (fu:Nat) (c54:((List Str)×Unit)->MM (Bool×Unit)) (c73:Unit->MM (Nd×Unit)) (c78:(Str×Unit)->MM (Nd×Unit)) (c83:Unit->MM (Nd×Unit)) (c111:Unit->MM (Nd×Unit)) (x:(ParT×Unit)) (a:Unit):(Option (Option ((ParT×Unit)×(Nd×Unit)))):=bo (c54 ([[123]],()) x.1.1 (x.1.2.1,x.1.2.2.1)) fun y1=>cond (!y1.1.1) (bo (c111 () x.1.1 (y1.2.1,y1.2.2)) fun y3=>some (some (((x.1.1,(y3.2.1,(y3.2.2,((),())))),()),((ndE y3.1.1),())))) (bo (c73 () x.1.1 (y1.2.1,y1.2.2)) fun y3=>ck (List.length [(ndE y3.1.1)]) (iter fu (fun (rec1:(Unit×(ParT×(JT×(NdsT×Unit))))->Option (Option ((ParT×Unit)×(Nd×Unit)))) (s1:(Unit×(ParT×(JT×(NdsT×Unit)))))=>let u1:=List.length s1.2.2.2.1.1; bo (c54 ([[125]],()) s1.2.1.1 (s1.2.1.2.1,s1.2.1.2.2.1)) fun y5=>cond (!y5.1.1) (bo (c83 () s1.2.1.1 (y5.2.1,y5.2.2)) fun y7=>let u0:=List.length (s1.2.2.2.1.1++[(ndE y7.1.1)]); ck (u1+(List.length [(ndE y7.1.1)])) (bo (c54 ([[44]],()) s1.2.1.1 (y7.2.1,y7.2.2)) fun y9=>cond (!y9.1.1) (bo (c78 ([125],()) s1.2.1.1 (y9.2.1,y9.2.2)) fun y11=>ck (u0+(List.length [(ndE y11.1.1)])) (some (some (((s1.2.1.1,(y11.2.1,(y11.2.2,((),())))),()),((ndE (Nd.mk 13 0 ((s1.2.2.2.1.1++[(ndE y7.1.1)])++[(ndE y11.1.1)]))),()))))) (bo (c73 () s1.2.1.1 (y9.2.1,y9.2.2)) fun y11=>ck (u0+(List.length [(ndE y11.1.1)])) (rec1 ((),((s1.2.1.1,(y11.2.1,(y11.2.2,((),())))),(s1.2.2.1,((((s1.2.2.2.1.1++[(ndE y7.1.1)])++[(ndE y11.1.1)]),()),())))))))) (bo (c78 ([125],()) s1.2.1.1 (y5.2.1,y5.2.2)) fun y7=>ck (u1+(List.length [(ndE y7.1.1)])) (some (some (((s1.2.1.1,(y7.2.1,(y7.2.2,((),())))),()),((ndE (Nd.mk 13 0 (s1.2.2.2.1.1++[(ndE y7.1.1)]))),())))))) ((),((x.1.1,(y3.2.1,(y3.2.2,((),())))),((0,(0,([],()))),(([(ndE y3.1.1)],()),()))))))
theorem eq83 (fu:Nat) (p:PS) (r:RS) x a:rnA fu p r false false fd83 [parK] [parK] ([]:LK) ([.st TI.node]:LK) x a=sh83 fu p.c54 p.c73 p.c78 r.c83 r.c111 x a:=by kernel_rfl
def sh57 (fu:Nat) (c54:((List Str)×Unit)->MM (Bool×Unit)) (c58:(Str×(Bool×Unit))->MM Unit) (c73:Unit->MM (Nd×Unit)) (c83:Unit->MM (Nd×Unit)) (x:(ParT×Unit)) (a:(Nd×(Str×(Bool×Unit)))):(Option (Option ((ParT×Unit)×(Nd×Unit)))) :=  let u0:=List.length [(ndE a.1)]; ck u0 (bo (c58 (a.2.1,(a.2.2.1,())) x.1.1 (x.1.2.1,x.1.2.2.1)) fun y1=>bo (c54 ([[61]],()) x.1.1 (y1.2.1,y1.2.2)) fun y3=>cond y3.1.1 (bo (c73 () x.1.1 (y3.2.1,y3.2.2)) fun y5=>bo (c83 () x.1.1 (y5.2.1,y5.2.2)) fun y7=>ck (u0+(List.length [(ndE y5.1.1),(ndE y7.1.1)])) (some (some (((x.1.1,(y7.2.1,(y7.2.2,((),())))),()),((ndE (Nd.mk 9 0 ([(ndE a.1)]++[(ndE y5.1.1),(ndE y7.1.1)]))),()))))) (some (some (((x.1.1,(y3.2.1,(y3.2.2,((),())))),()),((ndE (Nd.mk 9 0 [(ndE a.1)])),())))))
theorem eq57 (fu:Nat) (p:PS) (r:RS) x a:rnA fu p r false false fd57 [parK] [parK] ([.st TI.node,.str,.bool]:LK) ([.st TI.node]:LK) x a=sh57 fu p.c54 p.c58 p.c73 r.c83 x a:=by kernel_rfl
def sh55 (fu:Nat) (c54:((List Str)×Unit)->MM (Bool×Unit)) (c56:Unit->MM ((Nd×(Str×(Bool×Unit)))×(Option (Option MT)))) (c57:(Nd×(Str×(Bool×Unit)))->MM (Nd×Unit)) (c73:Unit->MM (Nd×Unit)) (c78:(Str×Unit)->MM (Nd×Unit)) (x:(ParT×Unit)) (a:(NdsT×(Bool×Unit))):(Option (Option ((ParT×Unit)×(Nd×Unit)))):=iter fu (fun (rec1:(Unit×(ParT×(NdsT×(JT×Unit))))->Option (Option ((ParT×Unit)×(Nd×Unit)))) (s1:(Unit×(ParT×(NdsT×(JT×Unit)))))=>let u0:=List.length s1.2.2.1.1; bo (c54 ([[44]],()) s1.2.1.1 (s1.2.1.2.1,s1.2.1.2.2.1)) fun y1=>cond y1.1.1 (bo (c73 () s1.2.1.1 (y1.2.1,y1.2.2)) fun y3=>ck (u0+(List.length [(ndE y3.1.1)])) (bo (c56 () s1.2.1.1 (y3.2.1,y3.2.2)) fun y5=>bo (c57 ((ndE y5.1.1.1),(y5.1.1.2.1,(a.2.1,()))) s1.2.1.1 (y5.2.1,y5.2.2)) fun y7=>ck ((List.length (s1.2.2.1.1++[(ndE y3.1.1)]))+(List.length [(ndE y7.1.1)])) (rec1 ((),((s1.2.1.1,(y7.2.1,(y7.2.2,((),())))),((((s1.2.2.1.1++[(ndE y3.1.1)])++[(ndE y7.1.1)]),()),(s1.2.2.2.1,()))))))) (bo (c78 ([59],()) s1.2.1.1 (y1.2.1,y1.2.2)) fun y3=>ck (u0+(List.length [(ndE y3.1.1)])) (some (some (((s1.2.1.1,(y3.2.1,(y3.2.2,((),())))),()),((ndE (Nd.mk 3 0 (s1.2.2.1.1++[(ndE y3.1.1)]))),())))))) ((),((x.1.1,(x.1.2.1,(x.1.2.2.1,((),())))),((a.1.1,()),((0,(0,([],()))),()))))
theorem eq55 (fu:Nat) (p:PS) (r:RS) x a:rnA fu p r true false fd55 [parK] [parK] ([.ag [.ow true TI.node],.bool]:LK) ([.st TI.node]:LK) x a=sh55 fu p.c54 r.c56 r.c57 p.c73 p.c78 x a:=by kernel_rfl
def sh37 (fu:Nat) (c53:Unit->MM (Nd×(Bool×Unit))) (c54:((List Str)×Unit)->MM (Bool×Unit)) (c55:(NdsT×(Bool×Unit))->MM (Nd×Unit)) (c56:Unit->MM ((Nd×(Str×(Bool×Unit)))×(Option (Option MT)))) (c57:(Nd×(Str×(Bool×Unit)))->MM (Nd×Unit)) (c58:(Str×(Bool×Unit))->MM Unit) (c59:((Option MT)×Unit)->MM Unit) (c60:Unit->MM (Nd×Unit)) (c61:Unit->MM ((Option MT)×Unit)) (x:(ParT×Unit)) (a:(Bool×Unit)):(Option (Option ((ParT×Unit)×(Nd×Unit)))):=bo (c53 () x.1.1 (x.1.2.1,x.1.2.2.1)) fun y1=>let u3:=(y1.1.2.1,()); let u0:=List.length [(ndE y1.1.1)]; ck u0 (bo (c54 ([[59]],()) x.1.1 (y1.2.1,y1.2.2)) fun y3=>cond y3.1.1 (bo (c55 (([(ndE y1.1.1)],()),u3) x.1.1 (y3.2.1,y3.2.2)) fun y5=>some (some (((x.1.1,(y5.2.1,(y5.2.2,((),())))),()),((ndE y5.1.1),())))) (bo (c56 () x.1.1 (y3.2.1,y3.2.2)) fun y5=>let u7:=(y5.1.1.2.1,(false,())); let u4:=(y5.2.1,y5.2.2); let u2:=ndE y5.1.1.1; let u1:=(y5.1.1.2.1,u3); zr y5.1.2 (cond (!a.1) (bo (c57 (u2,u1) x.1.1 u4) fun y7=>ck (u0+(List.length [(ndE y7.1.1)])) (bo (c55 ((([(ndE y1.1.1)]++[(ndE y7.1.1)]),()),u3) x.1.1 (y7.2.1,y7.2.2)) fun y9=>some (some (((x.1.1,(y9.2.1,(y9.2.2,((),())))),()),((ndE y9.1.1),()))))) (cond (!y5.1.1.2.2.1) (bo (c57 (u2,u1) x.1.1 u4) fun y7=>ck (u0+(List.length [(ndE y7.1.1)])) (bo (c55 ((([(ndE y1.1.1)]++[(ndE y7.1.1)]),()),u3) x.1.1 (y7.2.1,y7.2.2)) fun y9=>some (some (((x.1.1,(y9.2.1,(y9.2.2,((),())))),()),((ndE y9.1.1),()))))) (cond y1.1.2.1 (bo (c57 (u2,u1) x.1.1 u4) fun y7=>ck (u0+(List.length [(ndE y7.1.1)])) (bo (c55 ((([(ndE y1.1.1)]++[(ndE y7.1.1)]),()),u3) x.1.1 (y7.2.1,y7.2.2)) fun y9=>some (some (((x.1.1,(y9.2.1,(y9.2.2,((),())))),()),((ndE y9.1.1),()))))) (bo (c54 ([[123]],()) x.1.1 u4) fun y7=>cond (!y7.1.1) (bo (c57 (u2,u1) x.1.1 (y7.2.1,y7.2.2)) fun y9=>ck (u0+(List.length [(ndE y9.1.1)])) (bo (c55 ((([(ndE y1.1.1)]++[(ndE y9.1.1)]),()),u3) x.1.1 (y9.2.1,y9.2.2)) fun y11=>some (some (((x.1.1,(y11.2.1,(y11.2.2,((),())))),()),((ndE y11.1.1),()))))) (bo (c58 u7 x.1.1 (y7.2.1,y7.2.2)) fun y9=>none))))) fun y6=>zr y6 (cond (!a.1) (bo (c57 (u2,u1) x.1.1 u4) fun y8=>ck (u0+(List.length [(ndE y8.1.1)])) (bo (c55 ((([(ndE y1.1.1)]++[(ndE y8.1.1)]),()),u3) x.1.1 (y8.2.1,y8.2.2)) fun y10=>some (some (((x.1.1,(y10.2.1,(y10.2.2,((),())))),()),((ndE y10.1.1),()))))) (cond (!y5.1.1.2.2.1) (bo (c57 (u2,u1) x.1.1 u4) fun y8=>ck (u0+(List.length [(ndE y8.1.1)])) (bo (c55 ((([(ndE y1.1.1)]++[(ndE y8.1.1)]),()),u3) x.1.1 (y8.2.1,y8.2.2)) fun y10=>some (some (((x.1.1,(y10.2.1,(y10.2.2,((),())))),()),((ndE y10.1.1),()))))) (cond y1.1.2.1 (bo (c57 (u2,u1) x.1.1 u4) fun y8=>ck (u0+(List.length [(ndE y8.1.1)])) (bo (c55 ((([(ndE y1.1.1)]++[(ndE y8.1.1)]),()),u3) x.1.1 (y8.2.1,y8.2.2)) fun y10=>some (some (((x.1.1,(y10.2.1,(y10.2.2,((),())))),()),((ndE y10.1.1),()))))) (bo (c54 ([[123]],()) x.1.1 u4) fun y8=>cond (!y8.1.1) (bo (c57 (u2,u1) x.1.1 (y8.2.1,y8.2.2)) fun y10=>ck (u0+(List.length [(ndE y10.1.1)])) (bo (c55 ((([(ndE y1.1.1)]++[(ndE y10.1.1)]),()),u3) x.1.1 (y10.2.1,y10.2.2)) fun y12=>some (some (((x.1.1,(y12.2.1,(y12.2.2,((),())))),()),((ndE y12.1.1),()))))) (bo (c58 u7 x.1.1 (y8.2.1,y8.2.2)) fun y10=>bo (c59 (none,()) x.1.1 (y10.2.1,y10.2.2)) fun y12=>bo (c60 () x.1.1 (y12.2.1,y12.2.2)) fun y14=>let u5:=ndE (Nd.mk 2 0 ([(ndE y1.1.1)]++[u2,(ndE y14.1.1)])); ck (u0+(List.length [u2,(ndE y14.1.1)])) (bo (c61 () x.1.1 (y14.2.1,y14.2.2)) fun y16=>let u8:=(x.1.1,(y16.2.1,(y16.2.2,((),())))); zr y16.1.1 (some (some ((u8,()),(u5,())))) fun y17=>some (some ((u8,()),(u5,()))))))))) fun y7=>cond (!a.1) (bo (c57 (u2,u1) x.1.1 u4) fun y9=>ck (u0+(List.length [(ndE y9.1.1)])) (bo (c55 ((([(ndE y1.1.1)]++[(ndE y9.1.1)]),()),u3) x.1.1 (y9.2.1,y9.2.2)) fun y11=>some (some (((x.1.1,(y11.2.1,(y11.2.2,((),())))),()),((ndE y11.1.1),()))))) (cond (!y5.1.1.2.2.1) (bo (c57 (u2,u1) x.1.1 u4) fun y9=>ck (u0+(List.length [(ndE y9.1.1)])) (bo (c55 ((([(ndE y1.1.1)]++[(ndE y9.1.1)]),()),u3) x.1.1 (y9.2.1,y9.2.2)) fun y11=>some (some (((x.1.1,(y11.2.1,(y11.2.2,((),())))),()),((ndE y11.1.1),()))))) (cond y1.1.2.1 (bo (c57 (u2,u1) x.1.1 u4) fun y9=>ck (u0+(List.length [(ndE y9.1.1)])) (bo (c55 ((([(ndE y1.1.1)]++[(ndE y9.1.1)]),()),u3) x.1.1 (y9.2.1,y9.2.2)) fun y11=>some (some (((x.1.1,(y11.2.1,(y11.2.2,((),())))),()),((ndE y11.1.1),()))))) (bo (c54 ([[123]],()) x.1.1 u4) fun y9=>cond (!y9.1.1) (bo (c57 (u2,u1) x.1.1 (y9.2.1,y9.2.2)) fun y11=>ck (u0+(List.length [(ndE y11.1.1)])) (bo (c55 ((([(ndE y1.1.1)]++[(ndE y11.1.1)]),()),u3) x.1.1 (y11.2.1,y11.2.2)) fun y13=>some (some (((x.1.1,(y13.2.1,(y13.2.2,((),())))),()),((ndE y13.1.1),()))))) (bo (c58 u7 x.1.1 (y9.2.1,y9.2.2)) fun y11=>bo (c59 ((some y7),()) x.1.1 (y11.2.1,y11.2.2)) fun y13=>bo (c60 () x.1.1 (y13.2.1,y13.2.2)) fun y15=>let u6:=ndE (Nd.mk 2 0 ([(ndE y1.1.1)]++[u2,(ndE y15.1.1)])); ck (u0+(List.length [u2,(ndE y15.1.1)])) (bo (c61 () x.1.1 (y15.2.1,y15.2.2)) fun y17=>let u9:=(x.1.1,(y17.2.1,(y17.2.2,((),())))); zr y17.1.1 (some (some ((u9,()),(u6,())))) fun y18=>some (some ((u9,()),(u6,()))))))))))
theorem eq37 (fu:Nat) (p:PS) (r:RS) x a:rnA fu p r false false fd37 [parK] [parK] ([.bool]:LK) ([.st TI.node]:LK) x a=sh37 fu r.c53 p.c54 r.c55 r.c56 r.c57 p.c58 p.c59 r.c60 p.c61 x a:=by kernel_rfl
def sh60 (fu:Nat) (c37:(Bool×Unit)->MM (Nd×Unit)) (c54:((List Str)×Unit)->MM (Bool×Unit)) (c72:(Int×Unit)->MM (Str×Unit)) (c73:Unit->MM (Nd×Unit)) (c78:(Str×Unit)->MM (Nd×Unit)) (c84:(Int×Unit)->MM (Bool×Unit)) (c85:(Int×Unit)->MM (Bool×Unit)) (c86:Unit->MM (Nd×Unit)) (x:(ParT×Unit)) (a:Unit):(Option (Option ((ParT×Unit)×(Nd×Unit)))):=bo (c78 ([123],()) x.1.1 (x.1.2.1,x.1.2.2.1)) fun y1=>ck (List.length [(ndE y1.1.1)]) (iter fu (fun (rec1:(Unit×(ParT×(JT×(NdsT×Unit))))->Option (Option ((ParT×Unit)×(Nd×Unit)))) (s1:(Unit×(ParT×(JT×(NdsT×Unit)))))=>let u0:=List.length s1.2.2.2.1.1; bo (c54 ([[125]],()) s1.2.1.1 (s1.2.1.2.1,s1.2.1.2.2.1)) fun y3=>cond (!y3.1.1) (bo (c84 (0,()) s1.2.1.1 (y3.2.1,y3.2.2)) fun y5=>cond y5.1.1 (bo (c85 (0,()) s1.2.1.1 (y5.2.1,y5.2.2)) fun y7=>cond y7.1.1 (bo (c72 (1,()) s1.2.1.1 (y7.2.1,y7.2.2)) fun y9=>cond (!(seq y9.1.1 [58])) (bo (c37 (false,()) s1.2.1.1 (y9.2.1,y9.2.2)) fun y11=>ck (u0+(List.length [(ndE y11.1.1)])) (rec1 ((),((s1.2.1.1,(y11.2.1,(y11.2.2,((),())))),(s1.2.2.1,(((s1.2.2.2.1.1++[(ndE y11.1.1)]),()),())))))) (bo (c86 () s1.2.1.1 (y9.2.1,y9.2.2)) fun y11=>ck (u0+(List.length [(ndE y11.1.1)])) (rec1 ((),((s1.2.1.1,(y11.2.1,(y11.2.2,((),())))),(s1.2.2.1,(((s1.2.2.2.1.1++[(ndE y11.1.1)]),()),()))))))) (bo (c37 (false,()) s1.2.1.1 (y7.2.1,y7.2.2)) fun y9=>ck (u0+(List.length [(ndE y9.1.1)])) (rec1 ((),((s1.2.1.1,(y9.2.1,(y9.2.2,((),())))),(s1.2.2.1,(((s1.2.2.2.1.1++[(ndE y9.1.1)]),()),()))))))) (bo (c86 () s1.2.1.1 (y5.2.1,y5.2.2)) fun y7=>ck (u0+(List.length [(ndE y7.1.1)])) (rec1 ((),((s1.2.1.1,(y7.2.1,(y7.2.2,((),())))),(s1.2.2.1,(((s1.2.2.2.1.1++[(ndE y7.1.1)]),()),()))))))) (bo (c73 () s1.2.1.1 (y3.2.1,y3.2.2)) fun y5=>ck (u0+(List.length [(ndE y5.1.1)])) (some (some (((s1.2.1.1,(y5.2.1,(y5.2.2,((),())))),()),((ndE (Nd.mk 20 0 (s1.2.2.2.1.1++[(ndE y5.1.1)]))),())))))) ((),((x.1.1,(y1.2.1,(y1.2.2,((),())))),((0,(0,([],()))),(([(ndE y1.1.1)],()),())))))
theorem eq60 (fu:Nat) (p:PS) (r:RS) x a:rnA fu p r false false fd60 [parK] [parK] ([]:LK) ([.st TI.node]:LK) x a=sh60 fu r.c37 p.c54 p.c72 p.c73 p.c78 p.c84 p.c85 r.c86 x a:=by kernel_rfl
def sh116 (fu:Nat) (c37:(Bool×Unit)->MM (Nd×Unit)) (c59:((Option MT)×Unit)->MM Unit) (c61:Unit->MM ((Option MT)×Unit)) (c78:(Str×Unit)->MM (Nd×Unit)) (c84:(Int×Unit)->MM (Bool×Unit)) (c86:Unit->MM (Nd×Unit)) (c117:(Str×Unit)->(List Nd)->MM (Unit×(List Nd))) (x:(ParT×Unit)) (a:(NdsT×Unit)):(Option (Option ((ParT×Unit)×(Nd×Unit)))):=bo (c59 ((some []),()) x.1.1 (x.1.2.1,x.1.2.2.1)) fun y1=>bo (c78 ([40],()) x.1.1 (y1.2.1,y1.2.2)) fun y3=>ck ((List.length a.1.1)+(List.length [(ndE y3.1.1)])) (xH (fun (join0:(Unit×(ParT×(NdsT×(JT×Unit))))->Option (Option ((ParT×Unit)×(Nd×Unit))))=>bo (c84 (0,()) x.1.1 (y3.2.1,y3.2.2)) fun y5=>cond y5.1.1 (bo (c37 (false,()) x.1.1 (y5.2.1,y5.2.2)) fun y7=>ck ((List.length (a.1.1++[(ndE y3.1.1)]))+(List.length [(ndE y7.1.1)])) (join0 ((),((x.1.1,(y7.2.1,(y7.2.2,((),())))),((((a.1.1++[(ndE y3.1.1)])++[(ndE y7.1.1)]),()),((0,(0,([],()))),())))))) (bo (c117 ([59],()) (a.1.1++[(ndE y3.1.1)]) x.1.1 (y5.2.1,y5.2.2)) fun y7=>join0 ((),((x.1.1,(y7.2.1,(y7.2.2,((),())))),((y7.1.2,()),((0,(0,([],()))),())))))) (fun (t0:(Unit×(ParT×(NdsT×(JT×Unit)))))=>bo (c117 ([59],()) t0.2.2.1.1 t0.2.1.1 (t0.2.1.2.1,t0.2.1.2.2.1)) fun y5=>bo (c117 ([41],()) y5.1.2 t0.2.1.1 (y5.2.1,y5.2.2)) fun y7=>bo (c86 () t0.2.1.1 (y7.2.1,y7.2.2)) fun y9=>let u0:=ndE (Nd.mk 25 0 (y7.1.2++[(ndE y9.1.1)])); ck ((List.length y7.1.2)+(List.length [(ndE y9.1.1)])) (bo (c61 () t0.2.1.1 (y9.2.1,y9.2.2)) fun y11=>let u1:=(t0.2.1.1,(y11.2.1,(y11.2.2,((),())))); zr y11.1.1 (some (some ((u1,()),(u0,())))) fun y12=>some (some ((u1,()),(u0,()))))))
theorem eq116 (fu:Nat) (p:PS) (r:RS) x a:rnA fu p r false false fd116 [parK] [parK] ([.ag [.ow true TI.node]]:LK) ([.st TI.node]:LK) x a=sh116 fu r.c37 p.c59 p.c61 p.c78 p.c84 r.c86 r.c117 x a:=by kernel_rfl
def sh115 (fu:Nat) (c78:(Str×Unit)->MM (Nd×Unit)) (c113:Unit->MM (Nd×Unit)) (x:(ParT×(NdsT×Unit))) (a:Unit):(Option (Option ((ParT×(NdsT×Unit))×Unit))):=bo (c78 ([40],()) x.1.1 (x.1.2.1,x.1.2.2.1)) fun y1=>bo (c113 () x.1.1 (y1.2.1,y1.2.2)) fun y3=>bo (c78 ([41],()) x.1.1 (y3.2.1,y3.2.2)) fun y5=>ck ((List.length x.2.1.1)+(List.length [(ndE y1.1.1),(ndE y3.1.1),(ndE y5.1.1)])) (some (some (((x.1.1,(y5.2.1,(y5.2.2,((),())))),(((x.2.1.1++[(ndE y1.1.1),(ndE y3.1.1),(ndE y5.1.1)]),()),())),())))
theorem eq115 (fu:Nat) (p:PS) (r:RS) x a:rnA fu p r false false fd115 [parK,ptsK] [parK,ptsK] ([]:LK) ([]:LK) x a=sh115 fu p.c78 r.c113 x a:=by kernel_rfl
def sh86 (fu:Nat) (c54:((List Str)×Unit)->MM (Bool×Unit)) (c59:((Option MT)×Unit)->MM Unit) (c60:Unit->MM (Nd×Unit)) (c61:Unit->MM ((Option MT)×Unit)) (c72:(Int×Unit)->MM (Str×Unit)) (c73:Unit->MM (Nd×Unit)) (c78:(Str×Unit)->MM (Nd×Unit)) (c80:Unit->MM (Nd×Unit)) (c85:(Int×Unit)->MM (Bool×Unit)) (c86:Unit->MM (Nd×Unit)) (c112:(Int×Unit)->MM (Bool×Unit)) (c113:Unit->MM (Nd×Unit)) (c114:Unit->MM (Nd×Unit)) (c115:Unit->(List Nd)->MM (Unit×(List Nd))) (c116:(NdsT×Unit)->MM (Nd×Unit)) (c117:(Str×Unit)->(List Nd)->MM (Unit×(List Nd))) (x:(ParT×Unit)) (a:Unit):(Option (Option ((ParT×Unit)×(Nd×Unit)))):=bo (c72 (0,()) x.1.1 (x.1.2.1,x.1.2.2.1)) fun y1=>let u14:=(y1.2.1,y1.2.2); cond (seq y1.1.1 [123]) (bo (c59 ((some []),()) x.1.1 u14) fun y3=>bo (c60 () x.1.1 (y3.2.1,y3.2.2)) fun y5=>bo (c61 () x.1.1 (y5.2.1,y5.2.2)) fun y7=>let u9:=(x.1.1,(y7.2.1,(y7.2.2,((),())))); zr y7.1.1 (some (some ((u9,()),((ndE y5.1.1),())))) fun y8=>some (some ((u9,()),((ndE y5.1.1),())))) (cond (seq y1.1.1 [59]) (bo (c73 () x.1.1 u14) fun y3=>ck (List.length [(ndE y3.1.1)]) (some (some (((x.1.1,(y3.2.1,(y3.2.2,((),())))),()),((ndE (Nd.mk 33 0 [(ndE y3.1.1)])),()))))) (bo (c85 (0,()) x.1.1 u14) fun y3=>cond y3.1.1 (bo (c72 (1,()) x.1.1 (y3.2.1,y3.2.2)) fun y5=>cond (seq y5.1.1 [58]) (bo (c73 () x.1.1 (y5.2.1,y5.2.2)) fun y7=>bo (c73 () x.1.1 (y7.2.1,y7.2.2)) fun y9=>bo (c86 () x.1.1 (y9.2.1,y9.2.2)) fun y11=>ck (List.length [(ndE y7.1.1),(ndE y9.1.1),(ndE y11.1.1)]) (some (some (((x.1.1,(y11.2.1,(y11.2.2,((),())))),()),((ndE (Nd.mk 29 0 [(ndE y7.1.1),(ndE y9.1.1),(ndE y11.1.1)])),()))))) (bo (c85 (0,()) x.1.1 (y5.2.1,y5.2.2)) fun y7=>cond y7.1.1 (bo (c113 () x.1.1 (y7.2.1,y7.2.2)) fun y9=>bo (c78 ([59],()) x.1.1 (y9.2.1,y9.2.2)) fun y11=>ck (List.length [(ndE y9.1.1),(ndE y11.1.1)]) (some (some (((x.1.1,(y11.2.1,(y11.2.2,((),())))),()),((ndE (Nd.mk 21 0 [(ndE y9.1.1),(ndE y11.1.1)])),()))))) (bo (c112 (1,()) x.1.1 (y7.2.1,y7.2.2)) fun y9=>let u15:=(y9.2.1,y9.2.2); cond (!y9.1.1) (bo (c113 () x.1.1 u15) fun y11=>bo (c78 ([59],()) x.1.1 (y11.2.1,y11.2.2)) fun y13=>ck (List.length [(ndE y11.1.1),(ndE y13.1.1)]) (some (some (((x.1.1,(y13.2.1,(y13.2.2,((),())))),()),((ndE (Nd.mk 21 0 [(ndE y11.1.1),(ndE y13.1.1)])),()))))) (cond (seq y1.1.1 [115,105,122,101,111,102]) (bo (c113 () x.1.1 u15) fun y11=>bo (c78 ([59],()) x.1.1 (y11.2.1,y11.2.2)) fun y13=>ck (List.length [(ndE y11.1.1),(ndE y13.1.1)]) (some (some (((x.1.1,(y13.2.1,(y13.2.2,((),())))),()),((ndE (Nd.mk 21 0 [(ndE y11.1.1),(ndE y13.1.1)])),()))))) (bo (c73 () x.1.1 u15) fun y11=>let u11:=(y11.2.1,y11.2.2); let u8:=(x.1.1,(y11.2.1,(y11.2.2,((),())))); let u2:=List.length [(ndE y11.1.1)]; ck u2 (xH (fun (join0:(Unit×(ParT×(JT×(NdsT×Unit))))->Option (Option ((ParT×Unit)×(Nd×Unit))))=>cond (seq y1.1.1 [99,97,115,101]) (bo (c114 () x.1.1 u11) fun y13=>bo (c78 ([58],()) x.1.1 (y13.2.1,y13.2.2)) fun y15=>bo (c86 () x.1.1 (y15.2.1,y15.2.2)) fun y17=>ck (u2+(List.length [(ndE y13.1.1),(ndE y15.1.1),(ndE y17.1.1)])) (some (some (((x.1.1,(y17.2.1,(y17.2.2,((),())))),()),((ndE (Nd.mk 31 0 ([(ndE y11.1.1)]++[(ndE y13.1.1),(ndE y15.1.1),(ndE y17.1.1)]))),()))))) (cond (seq y1.1.1 [100,101,102,97,117,108,116]) (bo (c78 ([58],()) x.1.1 u11) fun y13=>bo (c86 () x.1.1 (y13.2.1,y13.2.2)) fun y15=>ck (u2+(List.length [(ndE y13.1.1),(ndE y15.1.1)])) (some (some (((x.1.1,(y15.2.1,(y15.2.2,((),())))),()),((ndE (Nd.mk 32 0 ([(ndE y11.1.1)]++[(ndE y13.1.1),(ndE y15.1.1)]))),()))))) (cond (seq y1.1.1 [105,102]) (bo (c115 () [(ndE y11.1.1)] x.1.1 u11) fun y13=>bo (c86 () x.1.1 (y13.2.1,y13.2.2)) fun y15=>ck ((List.length y13.1.2)+(List.length [(ndE y15.1.1)])) (bo (c54 ([[101,108,115,101]],()) x.1.1 (y15.2.1,y15.2.2)) fun y17=>cond y17.1.1 (bo (c73 () x.1.1 (y17.2.1,y17.2.2)) fun y19=>bo (c86 () x.1.1 (y19.2.1,y19.2.2)) fun y21=>ck ((List.length (y13.1.2++[(ndE y15.1.1)]))+(List.length [(ndE y19.1.1),(ndE y21.1.1)])) (some (some (((x.1.1,(y21.2.1,(y21.2.2,((),())))),()),((ndE (Nd.mk 22 0 ((y13.1.2++[(ndE y15.1.1)])++[(ndE y19.1.1),(ndE y21.1.1)]))),()))))) (some (some (((x.1.1,(y17.2.1,(y17.2.2,((),())))),()),((ndE (Nd.mk 22 0 (y13.1.2++[(ndE y15.1.1)]))),())))))) (xH (fun (join1:((Bool×Unit)×(ParT×(JT×(NdsT×Unit))))->Option (Option ((ParT×Unit)×(Nd×Unit))))=>cond (seq y1.1.1 [119,104,105,108,101]) (join1 ((true,()),(u8,((0,(0,([],()))),(([(ndE y11.1.1)],()),()))))) (join1 (((seq y1.1.1 [115,119,105,116,99,104]),()),(u8,((0,(0,([],()))),(([(ndE y11.1.1)],()),())))))) (fun (t0:((Bool×Unit)×(ParT×(JT×(NdsT×Unit)))))=>let u12:=(t0.2.2.2.1.1,()); let u4:=(t0.2.1.1,(t0.2.1.2.1,(t0.2.1.2.2.1,((),())))); let u18:=(u4,(t0.2.2.1,(u12,()))); let u0:=(t0.2.1.2.1,t0.2.1.2.2.1); cond t0.1.1 (bo (c115 () t0.2.2.2.1.1 t0.2.1.1 u0) fun y13=>bo (c86 () t0.2.1.1 (y13.2.1,y13.2.2)) fun y15=>let u6:=(t0.2.1.1,(y15.2.1,(y15.2.2,((),())))); ck ((List.length y13.1.2)+(List.length [(ndE y15.1.1)])) (cond (seq y1.1.1 [119,104,105,108,101]) (some (some ((u6,()),((ndE (Nd.mk 23 0 (y13.1.2++[(ndE y15.1.1)]))),())))) (some (some ((u6,()),((ndE (Nd.mk 30 0 (y13.1.2++[(ndE y15.1.1)]))),())))))) (cond (seq y1.1.1 [100,111]) (bo (c86 () t0.2.1.1 u0) fun y13=>bo (c78 ([119,104,105,108,101],()) t0.2.1.1 (y13.2.1,y13.2.2)) fun y15=>ck ((List.length t0.2.2.2.1.1)+(List.length [(ndE y13.1.1),(ndE y15.1.1)])) (bo (c115 () (t0.2.2.2.1.1++[(ndE y13.1.1),(ndE y15.1.1)]) t0.2.1.1 (y15.2.1,y15.2.2)) fun y17=>bo (c78 ([59],()) t0.2.1.1 (y17.2.1,y17.2.2)) fun y19=>ck ((List.length y17.1.2)+(List.length [(ndE y19.1.1)])) (some (some (((t0.2.1.1,(y19.2.1,(y19.2.2,((),())))),()),((ndE (Nd.mk 24 0 (y17.1.2++[(ndE y19.1.1)]))),())))))) (cond (seq y1.1.1 [102,111,114]) (bo (c116 (u12,()) t0.2.1.1 u0) fun y13=>some (some (((t0.2.1.1,(y13.2.1,(y13.2.2,((),())))),()),((ndE y13.1.1),())))) (cond (seq y1.1.1 [114,101,116,117,114,110]) (bo (c117 ([59],()) t0.2.2.2.1.1 t0.2.1.1 u0) fun y13=>some (some (((t0.2.1.1,(y13.2.1,(y13.2.2,((),())))),()),((ndE (Nd.mk 26 0 y13.1.2)),())))) (xH (fun (join1:((Bool×Unit)×(ParT×(JT×(NdsT×Unit))))->Option (Option ((ParT×Unit)×(Nd×Unit))))=>cond (seq y1.1.1 [98,114,101,97,107]) (join1 ((true,()),u18)) (join1 (((seq y1.1.1 [99,111,110,116,105,110,117,101]),()),u18))) (fun (t1:((Bool×Unit)×(ParT×(JT×(NdsT×Unit)))))=>cond t1.1.1 (bo (c78 ([59],()) t1.2.1.1 (t1.2.1.2.1,t1.2.1.2.2.1)) fun y13=>ck ((List.length t1.2.2.2.1.1)+(List.length [(ndE y13.1.1)])) (some (some (((t1.2.1.1,(y13.2.1,(y13.2.2,((),())))),()),((ndE (Nd.mk 27 0 (t1.2.2.2.1.1++[(ndE y13.1.1)]))),()))))) (join0 ((),((t1.2.1.1,(t1.2.1.2.1,(t1.2.1.2.2.1,((),())))),(t1.2.2.1,((t1.2.2.2.1.1,()),()))))))))))))))) (fun (t0:(Unit×(ParT×(JT×(NdsT×Unit)))))=>cond (seq y1.1.1 [103,111,116,111]) (bo (c80 () t0.2.1.1 (t0.2.1.2.1,t0.2.1.2.2.1)) fun y13=>bo (c78 ([59],()) t0.2.1.1 (y13.2.1,y13.2.2)) fun y15=>ck ((List.length t0.2.2.2.1.1)+(List.length [(ndE y13.1.1),(ndE y15.1.1)])) (some (some (((t0.2.1.1,(y15.2.1,(y15.2.2,((),())))),()),((ndE (Nd.mk 28 0 (t0.2.2.2.1.1++[(ndE y13.1.1),(ndE y15.1.1)]))),()))))) (some none)))))))) (bo (c85 (0,()) x.1.1 (y3.2.1,y3.2.2)) fun y5=>cond y5.1.1 (bo (c113 () x.1.1 (y5.2.1,y5.2.2)) fun y7=>bo (c78 ([59],()) x.1.1 (y7.2.1,y7.2.2)) fun y9=>ck (List.length [(ndE y7.1.1),(ndE y9.1.1)]) (some (some (((x.1.1,(y9.2.1,(y9.2.2,((),())))),()),((ndE (Nd.mk 21 0 [(ndE y7.1.1),(ndE y9.1.1)])),()))))) (bo (c112 (1,()) x.1.1 (y5.2.1,y5.2.2)) fun y7=>let u16:=(y7.2.1,y7.2.2); cond (!y7.1.1) (bo (c113 () x.1.1 u16) fun y9=>bo (c78 ([59],()) x.1.1 (y9.2.1,y9.2.2)) fun y11=>ck (List.length [(ndE y9.1.1),(ndE y11.1.1)]) (some (some (((x.1.1,(y11.2.1,(y11.2.2,((),())))),()),((ndE (Nd.mk 21 0 [(ndE y9.1.1),(ndE y11.1.1)])),()))))) (cond (seq y1.1.1 [115,105,122,101,111,102]) (bo (c113 () x.1.1 u16) fun y9=>bo (c78 ([59],()) x.1.1 (y9.2.1,y9.2.2)) fun y11=>ck (List.length [(ndE y9.1.1),(ndE y11.1.1)]) (some (some (((x.1.1,(y11.2.1,(y11.2.2,((),())))),()),((ndE (Nd.mk 21 0 [(ndE y9.1.1),(ndE y11.1.1)])),()))))) (bo (c73 () x.1.1 u16) fun y9=>let u17:=(y9.2.1,y9.2.2); let u10:=(x.1.1,(y9.2.1,(y9.2.2,((),())))); let u3:=List.length [(ndE y9.1.1)]; ck u3 (xH (fun (join0:(Unit×(ParT×(JT×(NdsT×Unit))))->Option (Option ((ParT×Unit)×(Nd×Unit))))=>cond (seq y1.1.1 [99,97,115,101]) (bo (c114 () x.1.1 u17) fun y11=>bo (c78 ([58],()) x.1.1 (y11.2.1,y11.2.2)) fun y13=>bo (c86 () x.1.1 (y13.2.1,y13.2.2)) fun y15=>ck (u3+(List.length [(ndE y11.1.1),(ndE y13.1.1),(ndE y15.1.1)])) (some (some (((x.1.1,(y15.2.1,(y15.2.2,((),())))),()),((ndE (Nd.mk 31 0 ([(ndE y9.1.1)]++[(ndE y11.1.1),(ndE y13.1.1),(ndE y15.1.1)]))),()))))) (cond (seq y1.1.1 [100,101,102,97,117,108,116]) (bo (c78 ([58],()) x.1.1 u17) fun y11=>bo (c86 () x.1.1 (y11.2.1,y11.2.2)) fun y13=>ck (u3+(List.length [(ndE y11.1.1),(ndE y13.1.1)])) (some (some (((x.1.1,(y13.2.1,(y13.2.2,((),())))),()),((ndE (Nd.mk 32 0 ([(ndE y9.1.1)]++[(ndE y11.1.1),(ndE y13.1.1)]))),()))))) (cond (seq y1.1.1 [105,102]) (bo (c115 () [(ndE y9.1.1)] x.1.1 u17) fun y11=>bo (c86 () x.1.1 (y11.2.1,y11.2.2)) fun y13=>ck ((List.length y11.1.2)+(List.length [(ndE y13.1.1)])) (bo (c54 ([[101,108,115,101]],()) x.1.1 (y13.2.1,y13.2.2)) fun y15=>cond y15.1.1 (bo (c73 () x.1.1 (y15.2.1,y15.2.2)) fun y17=>bo (c86 () x.1.1 (y17.2.1,y17.2.2)) fun y19=>ck ((List.length (y11.1.2++[(ndE y13.1.1)]))+(List.length [(ndE y17.1.1),(ndE y19.1.1)])) (some (some (((x.1.1,(y19.2.1,(y19.2.2,((),())))),()),((ndE (Nd.mk 22 0 ((y11.1.2++[(ndE y13.1.1)])++[(ndE y17.1.1),(ndE y19.1.1)]))),()))))) (some (some (((x.1.1,(y15.2.1,(y15.2.2,((),())))),()),((ndE (Nd.mk 22 0 (y11.1.2++[(ndE y13.1.1)]))),())))))) (xH (fun (join1:((Bool×Unit)×(ParT×(JT×(NdsT×Unit))))->Option (Option ((ParT×Unit)×(Nd×Unit))))=>cond (seq y1.1.1 [119,104,105,108,101]) (join1 ((true,()),(u10,((0,(0,([],()))),(([(ndE y9.1.1)],()),()))))) (join1 (((seq y1.1.1 [115,119,105,116,99,104]),()),(u10,((0,(0,([],()))),(([(ndE y9.1.1)],()),())))))) (fun (t0:((Bool×Unit)×(ParT×(JT×(NdsT×Unit)))))=>let u13:=(t0.2.2.2.1.1,()); let u5:=(t0.2.1.1,(t0.2.1.2.1,(t0.2.1.2.2.1,((),())))); let u19:=(u5,(t0.2.2.1,(u13,()))); let u1:=(t0.2.1.2.1,t0.2.1.2.2.1); cond t0.1.1 (bo (c115 () t0.2.2.2.1.1 t0.2.1.1 u1) fun y11=>bo (c86 () t0.2.1.1 (y11.2.1,y11.2.2)) fun y13=>let u7:=(t0.2.1.1,(y13.2.1,(y13.2.2,((),())))); ck ((List.length y11.1.2)+(List.length [(ndE y13.1.1)])) (cond (seq y1.1.1 [119,104,105,108,101]) (some (some ((u7,()),((ndE (Nd.mk 23 0 (y11.1.2++[(ndE y13.1.1)]))),())))) (some (some ((u7,()),((ndE (Nd.mk 30 0 (y11.1.2++[(ndE y13.1.1)]))),())))))) (cond (seq y1.1.1 [100,111]) (bo (c86 () t0.2.1.1 u1) fun y11=>bo (c78 ([119,104,105,108,101],()) t0.2.1.1 (y11.2.1,y11.2.2)) fun y13=>ck ((List.length t0.2.2.2.1.1)+(List.length [(ndE y11.1.1),(ndE y13.1.1)])) (bo (c115 () (t0.2.2.2.1.1++[(ndE y11.1.1),(ndE y13.1.1)]) t0.2.1.1 (y13.2.1,y13.2.2)) fun y15=>bo (c78 ([59],()) t0.2.1.1 (y15.2.1,y15.2.2)) fun y17=>ck ((List.length y15.1.2)+(List.length [(ndE y17.1.1)])) (some (some (((t0.2.1.1,(y17.2.1,(y17.2.2,((),())))),()),((ndE (Nd.mk 24 0 (y15.1.2++[(ndE y17.1.1)]))),())))))) (cond (seq y1.1.1 [102,111,114]) (bo (c116 (u13,()) t0.2.1.1 u1) fun y11=>some (some (((t0.2.1.1,(y11.2.1,(y11.2.2,((),())))),()),((ndE y11.1.1),())))) (cond (seq y1.1.1 [114,101,116,117,114,110]) (bo (c117 ([59],()) t0.2.2.2.1.1 t0.2.1.1 u1) fun y11=>some (some (((t0.2.1.1,(y11.2.1,(y11.2.2,((),())))),()),((ndE (Nd.mk 26 0 y11.1.2)),())))) (xH (fun (join1:((Bool×Unit)×(ParT×(JT×(NdsT×Unit))))->Option (Option ((ParT×Unit)×(Nd×Unit))))=>cond (seq y1.1.1 [98,114,101,97,107]) (join1 ((true,()),u19)) (join1 (((seq y1.1.1 [99,111,110,116,105,110,117,101]),()),u19))) (fun (t1:((Bool×Unit)×(ParT×(JT×(NdsT×Unit)))))=>cond t1.1.1 (bo (c78 ([59],()) t1.2.1.1 (t1.2.1.2.1,t1.2.1.2.2.1)) fun y11=>ck ((List.length t1.2.2.2.1.1)+(List.length [(ndE y11.1.1)])) (some (some (((t1.2.1.1,(y11.2.1,(y11.2.2,((),())))),()),((ndE (Nd.mk 27 0 (t1.2.2.2.1.1++[(ndE y11.1.1)]))),()))))) (join0 ((),((t1.2.1.1,(t1.2.1.2.1,(t1.2.1.2.2.1,((),())))),(t1.2.2.1,((t1.2.2.2.1.1,()),()))))))))))))))) (fun (t0:(Unit×(ParT×(JT×(NdsT×Unit)))))=>cond (seq y1.1.1 [103,111,116,111]) (bo (c80 () t0.2.1.1 (t0.2.1.2.1,t0.2.1.2.2.1)) fun y11=>bo (c78 ([59],()) t0.2.1.1 (y11.2.1,y11.2.2)) fun y13=>ck ((List.length t0.2.2.2.1.1)+(List.length [(ndE y11.1.1),(ndE y13.1.1)])) (some (some (((t0.2.1.1,(y13.2.1,(y13.2.2,((),())))),()),((ndE (Nd.mk 28 0 (t0.2.2.2.1.1++[(ndE y11.1.1),(ndE y13.1.1)]))),()))))) (some none)))))))))
theorem eq86 (fu:Nat) (p:PS) (r:RS) x a:rnA fu p r false false fd86 [parK] [parK] ([]:LK) ([.st TI.node]:LK) x a=sh86 fu p.c54 p.c59 r.c60 p.c61 p.c72 p.c73 p.c78 p.c80 p.c85 r.c86 p.c112 r.c113 r.c114 r.c115 r.c116 r.c117 x a:=by kernel_rfl
def sh117 (fu:Nat) (c54:((List Str)×Unit)->MM (Bool×Unit)) (c78:(Str×Unit)->MM (Nd×Unit)) (c113:Unit->MM (Nd×Unit)) (x:(ParT×(NdsT×Unit))) (a:(Str×Unit)):(Option (Option ((ParT×(NdsT×Unit))×Unit))):=xH (fun (join0:(Unit×(ParT×(NdsT×Unit)))->Option (Option ((ParT×(NdsT×Unit))×Unit)))=>bo (c54 ([a.1],()) x.1.1 (x.1.2.1,x.1.2.2.1)) fun y1=>cond (!y1.1.1) (bo (c113 () x.1.1 (y1.2.1,y1.2.2)) fun y3=>ck ((List.length x.2.1.1)+(List.length [(ndE y3.1.1)])) (join0 ((),((x.1.1,(y3.2.1,(y3.2.2,((),())))),(((x.2.1.1++[(ndE y3.1.1)]),()),()))))) (join0 ((),((x.1.1,(y1.2.1,(y1.2.2,((),())))),((x.2.1.1,()),()))))) (fun (t0:(Unit×(ParT×(NdsT×Unit))))=>bo (c78 (a.1,()) t0.2.1.1 (t0.2.1.2.1,t0.2.1.2.2.1)) fun y1=>ck ((List.length t0.2.2.1.1)+(List.length [(ndE y1.1.1)])) (some (some (((t0.2.1.1,(y1.2.1,(y1.2.2,((),())))),(((t0.2.2.1.1++[(ndE y1.1.1)]),()),())),()))))
theorem eq117 (fu:Nat) (p:PS) (r:RS) x a:rnA fu p r false false fd117 [parK,ptsK] [parK,ptsK] ([.str]:LK) ([]:LK) x a=sh117 fu p.c54 p.c78 r.c113 x a:=by kernel_rfl
def sh113 (fu:Nat) (c54:((List Str)×Unit)->MM (Bool×Unit)) (c73:Unit->MM (Nd×Unit)) (c111:Unit->MM (Nd×Unit)) (c113:Unit->MM (Nd×Unit)) (x:(ParT×Unit)) (a:Unit):(Option (Option ((ParT×Unit)×(Nd×Unit)))):=bo (c111 () x.1.1 (x.1.2.1,x.1.2.2.1)) fun y1=>bo (c54 ([[44]],()) x.1.1 (y1.2.1,y1.2.2)) fun y3=>cond (!y3.1.1) (some (some (((x.1.1,(y3.2.1,(y3.2.2,((),())))),()),((ndE y1.1.1),())))) (bo (c73 () x.1.1 (y3.2.1,y3.2.2)) fun y5=>bo (c113 () x.1.1 (y5.2.1,y5.2.2)) fun y7=>some (some (((x.1.1,(y7.2.1,(y7.2.2,((),())))),()),((Nd.mk 54 0 [(ndE y1.1.1),(ndE y5.1.1),(ndE y7.1.1)]),()))))
theorem eq113 (fu:Nat) (p:PS) (r:RS) x a:rnA fu p r false false fd113 [parK] [parK] ([]:LK) ([.st TI.node]:LK) x a=sh113 fu p.c54 p.c73 r.c111 r.c113 x a:=by kernel_rfl
def sh111 (fu:Nat) (c54:((List Str)×Unit)->MM (Bool×Unit)) (c73:Unit->MM (Nd×Unit)) (c111:Unit->MM (Nd×Unit)) (c114:Unit->MM (Nd×Unit)) (x:(ParT×Unit)) (a:Unit):(Option (Option ((ParT×Unit)×(Nd×Unit)))):=bo (c114 () x.1.1 (x.1.2.1,x.1.2.2.1)) fun y1=>bo (c54 ([[61],[42,61],[47,61],[37,61],[43,61],[45,61],[60,60,61],[62,62,61],[38,61],[94,61],[124,61]],()) x.1.1 (y1.2.1,y1.2.2)) fun y3=>cond (!y3.1.1) (some (some (((x.1.1,(y3.2.1,(y3.2.2,((),())))),()),((ndE y1.1.1),())))) (bo (c73 () x.1.1 (y3.2.1,y3.2.2)) fun y5=>bo (c111 () x.1.1 (y5.2.1,y5.2.2)) fun y7=>some (some (((x.1.1,(y7.2.1,(y7.2.2,((),())))),()),((Nd.mk 53 0 [(ndE y1.1.1),(ndE y5.1.1),(ndE y7.1.1)]),()))))
theorem eq111 (fu:Nat) (p:PS) (r:RS) x a:rnA fu p r false false fd111 [parK] [parK] ([]:LK) ([.st TI.node]:LK) x a=sh111 fu p.c54 p.c73 r.c111 r.c114 x a:=by kernel_rfl
def sh114 (fu:Nat) (c54:((List Str)×Unit)->MM (Bool×Unit)) (c73:Unit->MM (Nd×Unit)) (c78:(Str×Unit)->MM (Nd×Unit)) (c113:Unit->MM (Nd×Unit)) (c114:Unit->MM (Nd×Unit)) (c131:(Int×Unit)->MM (Nd×Unit)) (x:(ParT×Unit)) (a:Unit):(Option (Option ((ParT×Unit)×(Nd×Unit)))):=bo (c131 (1,()) x.1.1 (x.1.2.1,x.1.2.2.1)) fun y1=>bo (c54 ([[63]],()) x.1.1 (y1.2.1,y1.2.2)) fun y3=>cond (!y3.1.1) (some (some (((x.1.1,(y3.2.1,(y3.2.2,((),())))),()),((ndE y1.1.1),())))) (bo (c73 () x.1.1 (y3.2.1,y3.2.2)) fun y5=>bo (c113 () x.1.1 (y5.2.1,y5.2.2)) fun y7=>bo (c78 ([58],()) x.1.1 (y7.2.1,y7.2.2)) fun y9=>bo (c114 () x.1.1 (y9.2.1,y9.2.2)) fun y11=>ck (List.length [(ndE y1.1.1),(ndE y5.1.1),(ndE y7.1.1),(ndE y9.1.1),(ndE y11.1.1)]) (some (some (((x.1.1,(y11.2.1,(y11.2.2,((),())))),()),((ndE (Nd.mk 52 0 [(ndE y1.1.1),(ndE y5.1.1),(ndE y7.1.1),(ndE y9.1.1),(ndE y11.1.1)])),())))))
theorem eq114 (fu:Nat) (p:PS) (r:RS) x a:rnA fu p r false false fd114 [parK] [parK] ([]:LK) ([.st TI.node]:LK) x a=sh114 fu p.c54 p.c73 p.c78 r.c113 r.c114 r.c131 x a:=by kernel_rfl
def sh131 (fu:Nat) (c143:(Str×Unit)->(Option (Int×Unit))) (c72:(Int×Unit)->MM (Str×Unit)) (c73:Unit->MM (Nd×Unit)) (c131:(Int×Unit)->MM (Nd×Unit)) (c142:Unit->MM (Nd×Unit)) (x:(ParT×Unit)) (a:(Int×Unit)):(Option (Option ((ParT×Unit)×(Nd×Unit)))):=bo (c142 () x.1.1 (x.1.2.1,x.1.2.2.1)) fun y1=>iter fu (fun (rec1:(Unit×(ParT×(JT×(JT×Unit))))->Option (Option ((ParT×Unit)×(Nd×Unit)))) (s1:(Unit×(ParT×(JT×(JT×Unit)))))=>let u0:=Nd.mk s1.2.2.2.1.1 s1.2.2.2.1.2.1 s1.2.2.2.1.2.2.1; bo (c72 (0,()) s1.2.1.1 (s1.2.1.2.1,s1.2.1.2.2.1)) fun y3=>let u1:=(s1.2.1.1,(y3.2.1,(y3.2.2,((),())))); Option.bind (c143 (y3.1.1,())) fun y4=>cond (ilt y4.1 a.1) (some (some ((u1,()),(u0,())))) (cond (ieq y4.1 0) (some (some ((u1,()),(u0,())))) (bo (c73 () s1.2.1.1 (y3.2.1,y3.2.2)) fun y6=>bo (c131 ((iadd .i64 y4.1 1),()) s1.2.1.1 (y6.2.1,y6.2.2)) fun y8=>rec1 ((),((s1.2.1.1,(y8.2.1,(y8.2.2,((),())))),(s1.2.2.1,((51,(0,([u0,(ndE y6.1.1),(ndE y8.1.1)],()))),()))))))) ((),((x.1.1,(y1.2.1,(y1.2.2,((),())))),((0,(0,([],()))),(((Nd.kind y1.1.1),((Nd.tok y1.1.1),((Nd.kids y1.1.1),()))),()))))
theorem eq131 (fu:Nat) (p:PS) (r:RS) x a:rnA fu p r false false fd131 [parK] [parK] ([.int .i64]:LK) ([.st TI.node]:LK) x a=sh131 fu p.c143 p.c72 p.c73 r.c131 r.c142 x a:=by kernel_rfl
def sh142 (fu:Nat) (c54:((List Str)×Unit)->MM (Bool×Unit)) (c73:Unit->MM (Nd×Unit)) (c78:(Str×Unit)->MM (Nd×Unit)) (c84:(Int×Unit)->MM (Bool×Unit)) (c142:Unit->MM (Nd×Unit)) (c150:Unit->MM (Nd×Unit)) (c151:Unit->MM (Nd×Unit)) (x:(ParT×Unit)) (a:Unit):(Option (Option ((ParT×Unit)×(Nd×Unit)))):=bo (c54 ([[40]],()) x.1.1 (x.1.2.1,x.1.2.2.1)) fun y1=>cond (!y1.1.1) (bo (c150 () x.1.1 (y1.2.1,y1.2.2)) fun y3=>some (some (((x.1.1,(y3.2.1,(y3.2.2,((),())))),()),((ndE y3.1.1),())))) (bo (c84 (1,()) x.1.1 (y1.2.1,y1.2.2)) fun y3=>cond (!y3.1.1) (bo (c150 () x.1.1 (y3.2.1,y3.2.2)) fun y5=>some (some (((x.1.1,(y5.2.1,(y5.2.2,((),())))),()),((ndE y5.1.1),())))) (bo (c73 () x.1.1 (y3.2.1,y3.2.2)) fun y5=>bo (c151 () x.1.1 (y5.2.1,y5.2.2)) fun y7=>bo (c78 ([41],()) x.1.1 (y7.2.1,y7.2.2)) fun y9=>bo (c142 () x.1.1 (y9.2.1,y9.2.2)) fun y11=>ck (List.length [(ndE y5.1.1),(ndE y7.1.1),(ndE y9.1.1),(ndE y11.1.1)]) (some (some (((x.1.1,(y11.2.1,(y11.2.2,((),())))),()),((ndE (Nd.mk 50 0 [(ndE y5.1.1),(ndE y7.1.1),(ndE y9.1.1),(ndE y11.1.1)])),()))))))
theorem eq142 (fu:Nat) (p:PS) (r:RS) x a:rnA fu p r false false fd142 [parK] [parK] ([]:LK) ([.st TI.node]:LK) x a=sh142 fu p.c54 p.c73 p.c78 p.c84 r.c142 r.c150 r.c151 x a:=by kernel_rfl
def sh150 (fu:Nat) (c54:((List Str)×Unit)->MM (Bool×Unit)) (c73:Unit->MM (Nd×Unit)) (c78:(Str×Unit)->MM (Nd×Unit)) (c84:(Int×Unit)->MM (Bool×Unit)) (c142:Unit->MM (Nd×Unit)) (c150:Unit->MM (Nd×Unit)) (c151:Unit->MM (Nd×Unit)) (c154:(Nd×Unit)->MM (Nd×Unit)) (c155:Unit->MM (Nd×Unit)) (x:(ParT×Unit)) (a:Unit):(Option (Option ((ParT×Unit)×(Nd×Unit)))):=bo (c54 ([[43,43],[45,45]],()) x.1.1 (x.1.2.1,x.1.2.2.1)) fun y1=>cond y1.1.1 (bo (c73 () x.1.1 (y1.2.1,y1.2.2)) fun y3=>bo (c150 () x.1.1 (y3.2.1,y3.2.2)) fun y5=>ck (List.length [(ndE y3.1.1),(ndE y5.1.1)]) (some (some (((x.1.1,(y5.2.1,(y5.2.2,((),())))),()),((ndE (Nd.mk 48 0 [(ndE y3.1.1),(ndE y5.1.1)])),()))))) (bo (c54 ([[38],[42],[43],[45],[126],[33]],()) x.1.1 (y1.2.1,y1.2.2)) fun y3=>cond y3.1.1 (bo (c73 () x.1.1 (y3.2.1,y3.2.2)) fun y5=>bo (c142 () x.1.1 (y5.2.1,y5.2.2)) fun y7=>ck (List.length [(ndE y5.1.1),(ndE y7.1.1)]) (some (some (((x.1.1,(y7.2.1,(y7.2.2,((),())))),()),((ndE (Nd.mk 48 0 [(ndE y5.1.1),(ndE y7.1.1)])),()))))) (bo (c54 ([[115,105,122,101,111,102]],()) x.1.1 (y3.2.1,y3.2.2)) fun y5=>cond y5.1.1 (bo (c73 () x.1.1 (y5.2.1,y5.2.2)) fun y7=>let u0:=List.length [(ndE y7.1.1)]; ck u0 (bo (c54 ([[40]],()) x.1.1 (y7.2.1,y7.2.2)) fun y9=>cond y9.1.1 (bo (c84 (1,()) x.1.1 (y9.2.1,y9.2.2)) fun y11=>cond y11.1.1 (bo (c73 () x.1.1 (y11.2.1,y11.2.2)) fun y13=>bo (c151 () x.1.1 (y13.2.1,y13.2.2)) fun y15=>bo (c78 ([41],()) x.1.1 (y15.2.1,y15.2.2)) fun y17=>ck (u0+(List.length [(ndE y13.1.1),(ndE y15.1.1),(ndE y17.1.1)])) (some (some (((x.1.1,(y17.2.1,(y17.2.2,((),())))),()),((ndE (Nd.mk 49 0 ([(ndE y7.1.1)]++[(ndE y13.1.1),(ndE y15.1.1),(ndE y17.1.1)]))),()))))) (bo (c150 () x.1.1 (y11.2.1,y11.2.2)) fun y13=>ck (u0+(List.length [(ndE y13.1.1)])) (some (some (((x.1.1,(y13.2.1,(y13.2.2,((),())))),()),((ndE (Nd.mk 49 0 ([(ndE y7.1.1)]++[(ndE y13.1.1)]))),())))))) (bo (c150 () x.1.1 (y9.2.1,y9.2.2)) fun y11=>ck (u0+(List.length [(ndE y11.1.1)])) (some (some (((x.1.1,(y11.2.1,(y11.2.2,((),())))),()),((ndE (Nd.mk 49 0 ([(ndE y7.1.1)]++[(ndE y11.1.1)]))),()))))))) (bo (c155 () x.1.1 (y5.2.1,y5.2.2)) fun y7=>bo (c154 ((ndE y7.1.1),()) x.1.1 (y7.2.1,y7.2.2)) fun y9=>some (some (((x.1.1,(y9.2.1,(y9.2.2,((),())))),()),((ndE y9.1.1),()))))))
theorem eq150 (fu:Nat) (p:PS) (r:RS) x a:rnA fu p r false false fd150 [parK] [parK] ([]:LK) ([.st TI.node]:LK) x a=sh150 fu p.c54 p.c73 p.c78 p.c84 r.c142 r.c150 r.c151 r.c154 r.c155 x a:=by kernel_rfl
def sh154 (fu:Nat) (c54:((List Str)×Unit)->MM (Bool×Unit)) (c73:Unit->MM (Nd×Unit)) (c78:(Str×Unit)->MM (Nd×Unit)) (c80:Unit->MM (Nd×Unit)) (c111:Unit->MM (Nd×Unit)) (c113:Unit->MM (Nd×Unit)) (x:(ParT×Unit)) (a:(Nd×Unit)):(Option (Option ((ParT×Unit)×(Nd×Unit)))):=iter fu (fun (rec1:(Unit×(ParT×(JT×(JT×Unit))))->Option (Option ((ParT×Unit)×(Nd×Unit)))) (s1:(Unit×(ParT×(JT×(JT×Unit)))))=>let u8:=(s1.2.2.2.1,()); let u0:=Nd.mk s1.2.2.1.1 s1.2.2.1.2.1 s1.2.2.1.2.2.1; let u5:=List.length [u0]; ck u5 (bo (c54 ([[91]],()) s1.2.1.1 (s1.2.1.2.1,s1.2.1.2.2.1)) fun y1=>cond y1.1.1 (bo (c73 () s1.2.1.1 (y1.2.1,y1.2.2)) fun y3=>bo (c113 () s1.2.1.1 (y3.2.1,y3.2.2)) fun y5=>bo (c78 ([93],()) s1.2.1.1 (y5.2.1,y5.2.2)) fun y7=>let u1:=Nd.mk 45 0 ([u0]++[(ndE y3.1.1),(ndE y5.1.1),(ndE y7.1.1)]); ck (u5+(List.length [(ndE y3.1.1),(ndE y5.1.1),(ndE y7.1.1)])) (rec1 ((),((s1.2.1.1,(y7.2.1,(y7.2.2,((),())))),(((Nd.kind u1),((Nd.tok u1),((Nd.kids u1),()))),u8))))) (bo (c54 ([[40]],()) s1.2.1.1 (y1.2.1,y1.2.2)) fun y3=>cond y3.1.1 (bo (c73 () s1.2.1.1 (y3.2.1,y3.2.2)) fun y5=>ck (u5+(List.length [(ndE y5.1.1)])) (bo (c54 ([[41]],()) s1.2.1.1 (y5.2.1,y5.2.2)) fun y7=>iter fu (fun (rec2:((Bool×Unit)×(ParT×(JT×(JT×(NdsT×Unit)))))->Option (Option ((ParT×Unit)×(Nd×Unit)))) (s2:((Bool×Unit)×(ParT×(JT×(JT×(NdsT×Unit))))))=>let u7:=(s2.2.1.2.1,s2.2.1.2.2.1); let u6:=List.length s2.2.2.2.2.1.1; cond s2.1.1 (cond (ilt 2 (lenI s2.2.2.2.2.1.1)) (bo (c73 () s2.2.1.1 u7) fun y9=>ck (u6+(List.length [(ndE y9.1.1)])) (bo (c111 () s2.2.1.1 (y9.2.1,y9.2.2)) fun y11=>ck ((List.length (s2.2.2.2.2.1.1++[(ndE y9.1.1)]))+(List.length [(ndE y11.1.1)])) (bo (c54 ([[44]],()) s2.2.1.1 (y11.2.1,y11.2.2)) fun y13=>rec2 ((y13.1.1,()),((s2.2.1.1,(y13.2.1,(y13.2.2,((),())))),(s2.2.2.1,(s2.2.2.2.1,((((s2.2.2.2.2.1.1++[(ndE y9.1.1)])++[(ndE y11.1.1)]),()),())))))))) (bo (c111 () s2.2.1.1 u7) fun y9=>ck (u6+(List.length [(ndE y9.1.1)])) (bo (c54 ([[44]],()) s2.2.1.1 (y9.2.1,y9.2.2)) fun y11=>rec2 ((y11.1.1,()),((s2.2.1.1,(y11.2.1,(y11.2.2,((),())))),(s2.2.2.1,(s2.2.2.2.1,(((s2.2.2.2.2.1.1++[(ndE y9.1.1)]),()),())))))))) (bo (c78 ([41],()) s2.2.1.1 u7) fun y9=>let u3:=Nd.mk 44 0 (s2.2.2.2.2.1.1++[(ndE y9.1.1)]); ck (u6+(List.length [(ndE y9.1.1)])) (rec1 ((),((s2.2.1.1,(y9.2.1,(y9.2.2,((),())))),(((Nd.kind u3),((Nd.tok u3),((Nd.kids u3),()))),(s2.2.2.2.1,()))))))) (((!y7.1.1),()),((s1.2.1.1,(y7.2.1,(y7.2.2,((),())))),(s1.2.2.1,(s1.2.2.2.1,((([u0]++[(ndE y5.1.1)]),()),()))))))) (bo (c54 ([[46],[45,62]],()) s1.2.1.1 (y3.2.1,y3.2.2)) fun y5=>cond y5.1.1 (bo (c73 () s1.2.1.1 (y5.2.1,y5.2.2)) fun y7=>bo (c80 () s1.2.1.1 (y7.2.1,y7.2.2)) fun y9=>let u2:=Nd.mk 46 0 ([u0]++[(ndE y7.1.1),(ndE y9.1.1)]); ck (u5+(List.length [(ndE y7.1.1),(ndE y9.1.1)])) (rec1 ((),((s1.2.1.1,(y9.2.1,(y9.2.2,((),())))),(((Nd.kind u2),((Nd.tok u2),((Nd.kids u2),()))),u8))))) (bo (c54 ([[43,43],[45,45]],()) s1.2.1.1 (y5.2.1,y5.2.2)) fun y7=>cond y7.1.1 (bo (c73 () s1.2.1.1 (y7.2.1,y7.2.2)) fun y9=>let u4:=Nd.mk 47 0 ([u0]++[(ndE y9.1.1)]); ck (u5+(List.length [(ndE y9.1.1)])) (rec1 ((),((s1.2.1.1,(y9.2.1,(y9.2.2,((),())))),(((Nd.kind u4),((Nd.tok u4),((Nd.kids u4),()))),u8))))) (some (some (((s1.2.1.1,(y7.2.1,(y7.2.2,((),())))),()),(u0,()))))))))) ((),((x.1.1,(x.1.2.1,(x.1.2.2.1,((),())))),(((Nd.kind a.1),((Nd.tok a.1),((Nd.kids a.1),()))),((0,(0,([],()))),()))))
theorem eq154 (fu:Nat) (p:PS) (r:RS) x a:rnA fu p r false false fd154 [parK] [parK] ([.st TI.node]:LK) ([.st TI.node]:LK) x a=sh154 fu p.c54 p.c73 p.c78 p.c80 r.c111 r.c113 x a:=by kernel_rfl
def sh155 (fu:Nat) (c73:Unit->MM (Nd×Unit)) (c85:(Int×Unit)->MM (Bool×Unit)) (c112:(Int×Unit)->MM (Bool×Unit)) (c115:Unit->(List Nd)->MM (Unit×(List Nd))) (x:(ParT×Unit)) (a:Unit):(Option (Option ((ParT×Unit)×(Nd×Unit)))):=bo (c85 (0,()) x.1.1 (x.1.2.1,x.1.2.2.1)) fun y1=>cond y1.1.1 (bo (c73 () x.1.1 (y1.2.1,y1.2.2)) fun y3=>ck (List.length [(ndE y3.1.1)]) (some (some (((x.1.1,(y3.2.1,(y3.2.2,((),())))),()),((ndE (Nd.mk 40 0 [(ndE y3.1.1)])),()))))) (bo (c112 (2,()) x.1.1 (y1.2.1,y1.2.2)) fun y3=>cond y3.1.1 (bo (c73 () x.1.1 (y3.2.1,y3.2.2)) fun y5=>ck (List.length [(ndE y5.1.1)]) (some (some (((x.1.1,(y5.2.1,(y5.2.2,((),())))),()),((ndE (Nd.mk 41 0 [(ndE y5.1.1)])),()))))) (bo (c112 (3,()) x.1.1 (y3.2.1,y3.2.2)) fun y5=>cond y5.1.1 (bo (c73 () x.1.1 (y5.2.1,y5.2.2)) fun y7=>ck (List.length [(ndE y7.1.1)]) (some (some (((x.1.1,(y7.2.1,(y7.2.2,((),())))),()),((ndE (Nd.mk 41 0 [(ndE y7.1.1)])),()))))) (bo (c112 (4,()) x.1.1 (y5.2.1,y5.2.2)) fun y7=>cond y7.1.1 (iter fu (fun (rec1:(Unit×(ParT×(JT×(NdsT×Unit))))->Option (Option ((ParT×Unit)×(Nd×Unit)))) (s1:(Unit×(ParT×(JT×(NdsT×Unit)))))=>bo (c112 (4,()) s1.2.1.1 (s1.2.1.2.1,s1.2.1.2.2.1)) fun y9=>cond y9.1.1 (bo (c73 () s1.2.1.1 (y9.2.1,y9.2.2)) fun y11=>ck ((List.length s1.2.2.2.1.1)+(List.length [(ndE y11.1.1)])) (rec1 ((),((s1.2.1.1,(y11.2.1,(y11.2.2,((),())))),(s1.2.2.1,(((s1.2.2.2.1.1++[(ndE y11.1.1)]),()),())))))) (some (some (((s1.2.1.1,(y9.2.1,(y9.2.2,((),())))),()),((ndE (Nd.mk 42 0 s1.2.2.2.1.1)),()))))) ((),((x.1.1,(y7.2.1,(y7.2.2,((),())))),((0,(0,([],()))),(([],()),()))))) (bo (c115 () [] x.1.1 (y7.2.1,y7.2.2)) fun y9=>some (some (((x.1.1,(y9.2.1,(y9.2.2,((),())))),()),((ndE (Nd.mk 43 0 y9.1.2)),())))))))
theorem eq155 (fu:Nat) (p:PS) (r:RS) x a:rnA fu p r false false fd155 [parK] [parK] ([]:LK) ([.st TI.node]:LK) x a=sh155 fu p.c73 p.c85 p.c112 r.c115 x a:=by kernel_rfl
def sh143 (fu:Nat) (nf:Nat->Bool) (x0:Str):(Option (Int×Unit)):=cond (seq x0 [124,124]) (some (1,())) (cond (seq x0 [38,38]) (some (2,())) (cond (seq x0 [124]) (some (3,())) (cond (seq x0 [94]) (some (4,())) (cond (seq x0 [38]) (some (5,())) (cond (seq x0 [61,61]) (some (6,())) (cond (seq x0 [33,61]) (some (6,())) (cond (seq x0 [60]) (some (7,())) (cond (seq x0 [62]) (some (7,())) (cond (seq x0 [60,61]) (some (7,())) (cond (seq x0 [62,61]) (some (7,())) (cond (seq x0 [60,60]) (some (8,())) (cond (seq x0 [62,62]) (some (8,())) (cond (seq x0 [43]) (some (9,())) (cond (seq x0 [45]) (some (9,())) (cond (seq x0 [42]) (some (10,())) (cond (seq x0 [47]) (some (10,())) (cond (seq x0 [37]) (some (10,())) (some (0,())))))))))))))))))))
theorem eq143:@run143 = @sh143:=by kernel_rfl
theorem con53 (fu:Nat) {p:PS} (hp:POk p) {r:RS} (hr:ROk r):CQ 53 (cM k0 ([.st TI.node,.bool]:LK) (mM (sh53 fu p.c33 p.c72 p.c73 r.c74 r.c75 p.c76))):=
 xi (xh fu hp hr fdok53 (by decide) (eq53 fu p r))
theorem con74 (fu:Nat) {p:PS} (hp:POk p) {r:RS} (hr:ROk r):CQ 74 (cM k0 kN (mM (sh74 fu p.c54 p.c73 p.c85 r.c107))):=
 xi (xh fu hp hr fdok74 (by decide) (eq74 fu p r))
theorem con107 (fu:Nat) {p:PS} (hp:POk p) {r:RS} (hr:ROk r):CQ 107 (cM k0 kN (mM (sh107 fu r.c53 p.c54 r.c56 p.c73 p.c78))):=
 xi (xh fu hp hr zQN (by decide) (eq107 fu p r))
theorem con75 (fu:Nat) {p:PS} (hp:POk p) {r:RS} (hr:ROk r):CQ 75 (cM k0 kN (mM (sh75 fu p.c54 p.c73 p.c78 p.c85 r.c108))):=
 xi (xh fu hp hr fdok75 (by decide) (eq75 fu p r))
theorem con108 (fu:Nat) {p:PS} (hp:POk p) {r:RS} (hr:ROk r):CQ 108 (cM k0 kN (mM (sh108 fu p.c54 p.c58 p.c72 p.c73 p.c80 r.c114))):=
 xi (xh fu hp hr zRW (by decide) (eq108 fu p r))
theorem con79 (fu:Nat) {p:PS} (hp:POk p) {r:RS} (hr:ROk r):CQ 79 (cX k0 k0 (mX (sh79 fu p.c54 p.c73))):=
 zIP (xh fu hp hr fdok79 (by decide) (eq79 fu p r))
theorem con82 (fu:Nat) {p:PS} (hp:POk p) {r:RS} (hr:ROk r):CQ 82 (cX k0 k0 (mX (sh82 fu p.c54 p.c73 p.c78 r.c81 r.c111))):=
 zIP (xh fu hp hr fdok82 (by decide) (eq82 fu p r))
theorem con56 (fu:Nat) {p:PS} (hp:POk p) {r:RS} (hr:ROk r):CQ 56 (cN k0 ([.st TI.node,.str,.bool]:LK) (mN (sh56 fu p.c54 r.c56 p.c72 p.c73 p.c78 r.c79 p.c80 r.c81 r.c82))):=
 cN_of (xh fu hp hr fdok56 (by decide) (eq56 fu p r))
theorem con130 (fu:Nat) {p:PS} (hp:POk p) {r:RS} (hr:ROk r):CQ 130 (cM kB ([.st TI.node,.str,.bool]:LK) (mM (sh130 fu p.c54 p.c72 p.c73 p.c76 p.c78 r.c79 r.c82 p.c85 r.c130))):=
 xi (xh fu hp hr zQG (by decide) (eq130 fu p r))
theorem con81 (fu:Nat) {p:PS} (hp:POk p) {r:RS} (hr:ROk r):CQ 81 (cL k0 kN (mL (sh81 fu p.c54 p.c59 p.c61 p.c73 p.c78 r.c110))):=
 cL_of (xh fu hp hr fdok81 (by decide) (eq81 fu p r))
theorem con110 (fu:Nat) {p:PS} (hp:POk p) {r:RS} (hr:ROk r):CQ 110 (cM k0 kN (mM (sh110 fu r.c53 p.c58 r.c130))):=
 xi (xh fu hp hr zPb (by decide) (eq110 fu p r))
theorem con151 (fu:Nat) {p:PS} (hp:POk p) {r:RS} (hr:ROk r):CQ 151 (cM k0 kN (mM (sh151 fu r.c53 r.c130))):=
 xi (xh fu hp hr zQr (by decide) (eq151 fu p r))
theorem con83 (fu:Nat) {p:PS} (hp:POk p) {r:RS} (hr:ROk r):CQ 83 (cM k0 kN (mM (sh83 fu p.c54 p.c73 p.c78 r.c83 r.c111))):=
 xi (xh fu hp hr fdok83 (by decide) (eq83 fu p r))
theorem con57 (fu:Nat) {p:PS} (hp:POk p) {r:RS} (hr:ROk r):CQ 57 (cM ([.st TI.node,.str,.bool]:LK) kN (mM (sh57 fu p.c54 p.c58 p.c73 r.c83))):=
 xi (xh fu hp hr fdok57 (by decide) (eq57 fu p r))
theorem con55 (fu:Nat) {p:PS} (hp:POk p) {r:RS} (hr:ROk r):CQ 55 (cM ([.ag [.ow true TI.node],.bool]:LK) kN (mM (sh55 fu p.c54 r.c56 r.c57 p.c73 p.c78))):=
 xi (xh fu hp hr fdok55 (by decide) (eq55 fu p r))
theorem con37 (fu:Nat) {p:PS} (hp:POk p) {r:RS} (hr:ROk r):CQ 37 (cM kB kN (mM (sh37 fu r.c53 p.c54 r.c55 r.c56 r.c57 p.c58 p.c59 r.c60 p.c61))):=
 xi (xh fu hp hr fdok37 (by decide) (eq37 fu p r))
theorem con60 (fu:Nat) {p:PS} (hp:POk p) {r:RS} (hr:ROk r):CQ 60 (cM k0 kN (mM (sh60 fu r.c37 p.c54 p.c72 p.c73 p.c78 p.c84 p.c85 r.c86))):=
 xi (xh fu hp hr fdok60 (by decide) (eq60 fu p r))
theorem con86 (fu:Nat) {p:PS} (hp:POk p) {r:RS} (hr:ROk r):CQ 86 (cM k0 kN (mM (sh86 fu p.c54 p.c59 r.c60 p.c61 p.c72 p.c73 p.c78 p.c80 p.c85 r.c86 p.c112 r.c113 r.c114 r.c115 r.c116 r.c117))):=
 xi (xh fu hp hr fdok86 (by decide) (eq86 fu p r))
theorem con116 (fu:Nat) {p:PS} (hp:POk p) {r:RS} (hr:ROk r):CQ 116 (cM ([.ag [.ow true TI.node]]:LK) kN (mM (sh116 fu r.c37 p.c59 p.c61 p.c78 p.c84 r.c86 r.c117))):=
 xi (xh fu hp hr zPd (by decide) (eq116 fu p r))
theorem con115 (fu:Nat) {p:PS} (hp:POk p) {r:RS} (hr:ROk r):CQ 115 (cX k0 k0 (mX (sh115 fu p.c78 r.c113))):=
 zIP (xh fu hp hr zRA (by decide) (eq115 fu p r))
theorem con117 (fu:Nat) {p:PS} (hp:POk p) {r:RS} (hr:ROk r):CQ 117 (cX kS k0 (mX (sh117 fu p.c54 p.c78 r.c113))):=
 zIP (xh fu hp hr zP9 (by decide) (eq117 fu p r))
theorem con113 (fu:Nat) {p:PS} (hp:POk p) {r:RS} (hr:ROk r):CQ 113 (cM k0 kN (mM (sh113 fu p.c54 p.c73 r.c111 r.c113))):=
 xi (xh fu hp hr zQI (by decide) (eq113 fu p r))
theorem con111 (fu:Nat) {p:PS} (hp:POk p) {r:RS} (hr:ROk r):CQ 111 (cM k0 kN (mM (sh111 fu p.c54 p.c73 r.c111 r.c114))):=
 xi (xh fu hp hr zRT (by decide) (eq111 fu p r))
theorem con114 (fu:Nat) {p:PS} (hp:POk p) {r:RS} (hr:ROk r):CQ 114 (cM k0 kN (mM (sh114 fu p.c54 p.c73 p.c78 r.c113 r.c114 r.c131))):=
 xi (xh fu hp hr zQg (by decide) (eq114 fu p r))
theorem con131 (fu:Nat) {p:PS} (hp:POk p) {r:RS} (hr:ROk r):CQ 131 (cM kI kN (mM (sh131 fu p.c143 p.c72 p.c73 r.c131 r.c142))):=
 xi (xh fu hp hr zQx (by decide) (eq131 fu p r))
theorem con142 (fu:Nat) {p:PS} (hp:POk p) {r:RS} (hr:ROk r):CQ 142 (cM k0 kN (mM (sh142 fu p.c54 p.c73 p.c78 p.c84 r.c142 r.c150 r.c151))):=
 xi (xh fu hp hr zQ4 (by decide) (eq142 fu p r))
theorem con150 (fu:Nat) {p:PS} (hp:POk p) {r:RS} (hr:ROk r):CQ 150 (cM k0 kN (mM (sh150 fu p.c54 p.c73 p.c78 p.c84 r.c142 r.c150 r.c151 r.c154 r.c155))):=
 xi (xh fu hp hr zQ1 (by decide) (eq150 fu p r))
theorem con154 (fu:Nat) {p:PS} (hp:POk p) {r:RS} (hr:ROk r):CQ 154 (cM kN kN (mM (sh154 fu p.c54 p.c73 p.c78 p.c80 r.c111 r.c113))):=
 xi (xh fu hp hr zP1 (by decide) (eq154 fu p r))
theorem con155 (fu:Nat) {p:PS} (hp:POk p) {r:RS} (hr:ROk r):CQ 155 (cM k0 kN (mM (sh155 fu p.c73 p.c85 p.c112 r.c115))):=
 xi (xh fu hp hr zQi (by decide) (eq155 fu p r))
theorem con143 (fu:Nat) :ConOk CC Tryz.prog 143 ⟨zFB,zDb,fun x=>sh143 fu (fun _=>false) x.1⟩:=
 rfk zE zE zE zE zQL rfl (xd rfl) (fun nf x=>by show run143 fu nf x.1=_; rw [eq143]; rfl)
end
section
open Go.Al Go.Den
def c33 (x:List Str×Str×Unit):Option (Bool×Unit):=if x.1.length < 1000 then some (x.1.contains x.2.1,()) else none
theorem zPx (fu:Nat) (hfu:1000 < fu) (nf:Nat->Bool) (x0:List Str) (x1:Str) (h:x0.length < 1000):sh33 fu nf x0 x1=some (x0.contains x1,()):=by
 unfold sh33;refine zCG (fun s=>∃ k:Nat,s=((((k:Int),()),()):(Int×PUnit)×PUnit)/\k<=x0.length/\(x0.take k).contains x1=false) (fun s=>x0.length - s.1.1.toNat) ?_ fu _ ⟨0,rfl,Nat.zero_le _,by simp⟩ (by simp; omega);rintro rec s ⟨k,rfl,hk,hc⟩ hrec;simp only [ilt,lenI,inB,ile];by_cases hlt:k < x0.length
 . have h1:((k:Int) < (x0.length:Int)):=by omega
   have h2:(0:Int)<=(k:Int):=by omega
   simp only [h1,h2,decide_true,Bool.and_self,cond_true,Int.toNat_natCast];have hg:x0.getD k []=x0[k]:=by simp [List.getD_eq_getElem?_getD,hlt]
   rw [hg];by_cases e:x1=x0[k]
   . have:seq x1 x0[k]=true:=by simp [seq,e]
     rw [this,cond_true];have hm:x1 ∈ x0:=by rw [e]; exact List.getElem_mem _
     simp [hm]
   . have:seq x1 x0[k]=false:=by simp [seq,e]
     rw [this,cond_false];have hw:iadd .i64 (k:Int) 1=((k+1:Nat):Int):=by unfold iadd; rw [IntWalk.i64_in _ (by omega)]; omega
     refine hrec _ ⟨k+1,by rw [hw],hlt,?_⟩ (by simp only [hw]; simp; omega);rw [List.take_succ_eq_append_getElem hlt];simp only [List.contains_eq_mem,List.mem_append,List.mem_singleton,decide_eq_false_iff_not,not_or] at hc ⊢;exact ⟨hc,e⟩
 . obtain rfl:k=x0.length:=by omega
   have h1:¬ ((x0.length:Int) < (x0.length:Int)):=by omega
   simp only [h1,decide_false,cond_false];rw [List.take_length] at hc;rw [hc]; rfl
theorem ok33:ConOk CC Tryz.prog 33 ⟨as33,rs33,c33⟩:=by
 refine (con33 1001).sub ?_;rintro ⟨x0,x1,u⟩ y hy;unfold c33 at hy;split at hy
 . rename_i h;injection hy with hy
   subst hy;exact zPx 1001 (by omega) _ _ _ h
 . cases hy
def c15 (x:Str×Unit):Option (Bool×Unit):=some (kwL.contains x.1,())
theorem ok15:ConOk CC Tryz.prog 15 ⟨as15,rs15,c15⟩:=by
 refine (con15 0 c33 ok33).sub ?_;rintro ⟨x0,u⟩ y hy;injection hy with hy
 subst hy;rfl
def c143 (x:Str×Unit):Option (Int×Unit):=sh143 0 (fun _=>false) x.1
theorem ok143:ConOk CC Tryz.prog 143 ⟨zFB,zDb,c143⟩:=con143 0
noncomputable def b72 (fu:Nat):zA kI->MM (zA kS):=mJ (sh72 fu )
theorem ok72 (fu:Nat):CQ 72 (cJ (kI) (kS) (b72 fu)):=con72 fu
noncomputable def b54 (fu:Nat):zA kL->MM (zA kB):=mJ (sh54 fu c33 (b72 fu))
theorem ok54 (fu:Nat):CQ 54 (cJ (kL) (kB) (b54 fu)):=con54 fu c33 ok33 (b72 fu) (ok72 fu)
noncomputable def b85 (fu:Nat):zA kI->MM (zA kB):=mM (sh85 fu c15)
theorem ok85 (fu:Nat):CQ 85 (cM (kI) (kB) (b85 fu)):=con85 fu c15 ok15
noncomputable def b112 (fu:Nat):zA kI->MM (zA kB):=mM (sh112 fu )
theorem ok112 (fu:Nat):CQ 112 (cM (kI) (kB) (b112 fu)):=con112 fu
noncomputable def b73 (fu:Nat):zA k0->MM (zA kN):=mM (sh73 fu )
theorem ok73 (fu:Nat):CQ 73 (cM (k0) (kN) (b73 fu)):=con73 fu (ok77)
noncomputable def b78 (fu:Nat):zA kS->MM (zA kN):=mM (sh78 fu (b54 fu) (b73 fu))
theorem ok78 (fu:Nat):CQ 78 (cM (kS) (kN) (b78 fu)):=con78 fu (b54 fu) (ok54 fu) (b73 fu) (ok73 fu) (ok77)
noncomputable def b80 (fu:Nat):zA k0->MM (zA kN):=mM (sh80 fu (b73 fu) (b85 fu))
theorem ok80 (fu:Nat):CQ 80 (cM (k0) (kN) (b80 fu)):=con80 fu (b73 fu) (ok73 fu) (ok77) (b85 fu) (ok85 fu)
noncomputable def b76 (fu:Nat):Int×Unit->MM (Bool×Unit):=c76 (b85 fu)
theorem ok76' (fu:Nat):CQ 76 (cM kI kB (b76 fu)):=ok76 _ (ok85 fu)
noncomputable def b84 (fu:Nat):zA kI->MM (zA kB):=mM (sh84 fu c33 (b72 fu) (b76 fu))
theorem ok84 (fu:Nat):CQ 84 (cM (kI) (kB) (b84 fu)):=con84 fu c33 ok33 (b72 fu) (ok72 fu) (b76 fu) (ok76' fu)
noncomputable def RS.next (fu:Nat) (r:RS):RS where
 c53:=mM (sh53 fu c33 (b72 fu) (b73 fu) r.c74 r.c75 (b76 fu))
 c74:=mM (sh74 fu (b54 fu) (b73 fu) (b85 fu) r.c107)
 c107:=mM (sh107 fu r.c53 (b54 fu) r.c56 (b73 fu) (b78 fu))
 c75:=mM (sh75 fu (b54 fu) (b73 fu) (b78 fu) (b85 fu) r.c108)
 c108:=mM (sh108 fu (b54 fu) (c58) (b72 fu) (b73 fu) (b80 fu) r.c114)
 c79:=mX (sh79 fu (b54 fu) (b73 fu))
 c82:=mX (sh82 fu (b54 fu) (b73 fu) (b78 fu) r.c81 r.c111)
 c56:=mN (sh56 fu (b54 fu) r.c56 (b72 fu) (b73 fu) (b78 fu) r.c79 (b80 fu) r.c81 r.c82)
 c130:=mM (sh130 fu (b54 fu) (b72 fu) (b73 fu) (b76 fu) (b78 fu) r.c79 r.c82 (b85 fu) r.c130)
 c81:=mL (sh81 fu (b54 fu) (c59) (c61) (b73 fu) (b78 fu) r.c110)
 c110:=mM (sh110 fu r.c53 (c58) r.c130)
 c151:=mM (sh151 fu r.c53 r.c130)
 c83:=mM (sh83 fu (b54 fu) (b73 fu) (b78 fu) r.c83 r.c111)
 c57:=mM (sh57 fu (b54 fu) (c58) (b73 fu) r.c83)
 c55:=mM (sh55 fu (b54 fu) r.c56 r.c57 (b73 fu) (b78 fu))
 c37:=mM (sh37 fu r.c53 (b54 fu) r.c55 r.c56 r.c57 (c58) (c59) r.c60 (c61))
 c60:=mM (sh60 fu r.c37 (b54 fu) (b72 fu) (b73 fu) (b78 fu) (b84 fu) (b85 fu) r.c86)
 c86:=mM (sh86 fu (b54 fu) (c59) r.c60 (c61) (b72 fu) (b73 fu) (b78 fu) (b80 fu) (b85 fu) r.c86 (b112 fu) r.c113 r.c114 r.c115 r.c116 r.c117)
 c116:=mM (sh116 fu r.c37 (c59) (c61) (b78 fu) (b84 fu) r.c86 r.c117)
 c115:=mX (sh115 fu (b78 fu) r.c113)
 c117:=mX (sh117 fu (b54 fu) (b78 fu) r.c113)
 c113:=mM (sh113 fu (b54 fu) (b73 fu) r.c111 r.c113)
 c111:=mM (sh111 fu (b54 fu) (b73 fu) r.c111 r.c114)
 c114:=mM (sh114 fu (b54 fu) (b73 fu) (b78 fu) r.c113 r.c114 r.c131)
 c131:=mM (sh131 fu c143 (b72 fu) (b73 fu) r.c131 r.c142)
 c142:=mM (sh142 fu (b54 fu) (b73 fu) (b78 fu) (b84 fu) r.c142 r.c150 r.c151)
 c150:=mM (sh150 fu (b54 fu) (b73 fu) (b78 fu) (b84 fu) r.c142 r.c150 r.c151 r.c154 r.c155)
 c154:=mM (sh154 fu (b54 fu) (b73 fu) (b78 fu) (b80 fu) r.c111 r.c113)
 c155:=mM (sh155 fu (b73 fu) (b85 fu) (b112 fu) r.c115)
noncomputable def rs (fu:Nat):Nat->RS
 | 0=>RS.zero
 | n+1=>(rs fu n).next fu
noncomputable def prS (fu:Nat):PS:=⟨c33,c143,b54 fu,b72 fu,b73 fu,b76 fu,b78 fu,b80 fu,b84 fu,b85 fu,b112 fu,c58,c59,c61⟩
theorem xE (fu:Nat):POk (prS fu):=⟨ok33,ok143,ok38,ok77,ok54 fu,ok72 fu,ok73 fu,ok76' fu,ok78 fu,ok80 fu,ok84 fu,ok85 fu,ok112 fu,ok58,ok59,ok61⟩
theorem ROk.next (fu:Nat) {r:RS} (h:ROk r):ROk (r.next fu) where
 h53:=con53 fu (xE fu) h
 h74:=con74 fu (xE fu) h
 h107:=con107 fu (xE fu) h
 h75:=con75 fu (xE fu) h
 h108:=con108 fu (xE fu) h
 h79:=con79 fu (xE fu) h
 h82:=con82 fu (xE fu) h
 h56:=con56 fu (xE fu) h
 h130:=con130 fu (xE fu) h
 h81:=con81 fu (xE fu) h
 h110:=con110 fu (xE fu) h
 h151:=con151 fu (xE fu) h
 h83:=con83 fu (xE fu) h
 h57:=con57 fu (xE fu) h
 h55:=con55 fu (xE fu) h
 h37:=con37 fu (xE fu) h
 h60:=con60 fu (xE fu) h
 h86:=con86 fu (xE fu) h
 h116:=con116 fu (xE fu) h
 h115:=con115 fu (xE fu) h
 h117:=con117 fu (xE fu) h
 h113:=con113 fu (xE fu) h
 h111:=con111 fu (xE fu) h
 h114:=con114 fu (xE fu) h
 h131:=con131 fu (xE fu) h
 h142:=con142 fu (xE fu) h
 h150:=con150 fu (xE fu) h
 h154:=con154 fu (xE fu) h
 h155:=con155 fu (xE fu) h
theorem rok (fu:Nat):∀ n,ROk (rs fu n)
 | 0=>ROk.zero
 | n+1=>(rok fu n).next fu
end
section
open Go.Al Go.Den
noncomputable def zGU (fu:Nat):zA ([.int .i64,.int .i64,.int .i64]:LK)->WW (zA ([]:LK)):=mW (sh127 fu)
theorem zNR (fu:Nat):CPOk CC Tryz.prog syn 127 (cW ([.int .i64,.int .i64,.int .i64]:LK) ([]:LK) (zGU fu)):=con127 fu
noncomputable def c67w (fu:Nat):zA ([.int .i64]:LK)->WW (zA ([.bool]:LK)):=mW (sh67 fu c15)
theorem zIO (fu:Nat):CPOk CC Tryz.prog syn 67 (cW ([.int .i64]:LK) ([.bool]:LK) (c67w fu)):=con67 fu c15 ok15
def lbAt (x:Nd):Int:=match Nd.kids x with | k::_=>Nd.tok k | []=>-1
def jy (l:List TokT) (xs:List Nd):MT:=xs.reverse.foldl (fun c x=>qO c (l.getD (lbAt x).toNat tokD).text (lbAt x+1)) []
def c98S (c48:zA ([.st TI.node]:LK)->WW (zA ([]:LK))) (c68:zA ([.st TI.node]:LK)->WW (zA ([]:LK)×Option (Option LT1))) (c103:zA ([.st TI.node]:LK)->WW (zA ([.int .i64]:LK)×Option (Option LT1))) (a:Nd×Unit):WW Unit:=fun q=>
 match Nd.kids a.1 with
 | k0::k1::k2::_=>
  Option.bind (c68 (k0,()) q) fun y0=>Option.bind (c103 (k1,()) y0.2) fun y1=>
   match y1.1.2 with
   | some (some pp)=>Option.bind (c102 ((show Int×Unit from y1.1.1).1,()) y1.2) fun y2=>
    if y2.2.1.length < 1000000/\(∀ x ∈ fdT k2 29,0<=lbAt x/\lbAt x < y2.2.1.length)/\(allT k2).length < 1000000 then
     Option.bind (c48 (k2,()) (y2.2.1,y2.2.2.1,pp::y2.2.2.2.1,y2.2.2.2.2.1,jy y2.2.1 (fdT k2 29))) fun y3=>
      Option.bind (c104 () y3.2) fun y4=>some ((),y4.2)
    else none
   | _=>none
 | _=>none
structure WC where
 c45:zA ([.st TI.node]:LK)->WW (zA ([.int .i64]:LK))
 c48:zA ([.st TI.node]:LK)->WW (zA ([]:LK))
 c68:zA ([.st TI.node]:LK)->WW (zA ([]:LK)×Option (Option LT1))
 c98:zA ([.st TI.node]:LK)->WW (zA ([]:LK))
 c99:zA ([.st TI.node]:LK)->WW (zA ([]:LK))
 c100:zA ([.st TI.node]:LK)->WW (zA ([]:LK))
 c101:zA ([.st TI.node]:LK)->WW (zA ([]:LK))
 c103:zA ([.st TI.node]:LK)->WW (zA ([.int .i64]:LK)×Option (Option LT1))
 c105:zA ([.st TI.node]:LK)->WW (zA ([]:LK))
noncomputable def wcS (fu:Nat) (p:WC):WC where
 c45:=mW (sh45 fu p.c45 (c67w fu))
 c48:=mW (sh48 fu p.c68)
 c68:=mWt (sh68 fu c47 p.c48 p.c68 p.c98 p.c99 p.c100 p.c101 c102 p.c103 c104 p.c105)
 c98:=c98S p.c48 p.c68 p.c103
 c99:=mW (sh99 fu (c67w fu) p.c68 c125)
 c100:=mW (sh100 fu p.c48 (c67w fu) c126)
 c101:=mW (sh101 fu c46 p.c68 p.c103 (zGU fu))
 c103:=mWt (sh103 fu (c67w fu) p.c68 p.c103)
 c105:=mW (sh105 fu c46 p.c48 p.c68 c125 (zGU fu))
noncomputable def wcs (fu:Nat):Nat->WC
 | 0=>⟨fun _ _=>none,fun _ _=>none,fun _ _=>none,fun _ _=>none,fun _ _=>none,fun _ _=>none,fun _ _=>none,fun _ _=>none,fun _ _=>none⟩
 | n+1=>wcS fu (wcs fu n)
structure WOk (p:WC):Prop where
 h45:CPOk CC Tryz.prog syn 45 (cW ([.st TI.node]:LK) ([.int .i64]:LK) p.c45)
 h48:CPOk CC Tryz.prog syn 48 (cW ([.st TI.node]:LK) ([]:LK) p.c48)
 h68:CPOk CC Tryz.prog syn 68 (cWt ([.st TI.node]:LK) ([]:LK) p.c68)
 h98:CPOk CC Tryz.prog syn 98 (cW ([.st TI.node]:LK) ([]:LK) p.c98)
 h99:CPOk CC Tryz.prog syn 99 (cW ([.st TI.node]:LK) ([]:LK) p.c99)
 h100:CPOk CC Tryz.prog syn 100 (cW ([.st TI.node]:LK) ([]:LK) p.c100)
 h101:CPOk CC Tryz.prog syn 101 (cW ([.st TI.node]:LK) ([]:LK) p.c101)
 h103:CPOk CC Tryz.prog syn 103 (cWt ([.st TI.node]:LK) ([.int .i64]:LK) p.c103)
 h105:CPOk CC Tryz.prog syn 105 (cW ([.st TI.node]:LK) ([]:LK) p.c105)
theorem wok (H98:∀ p,WOk p->CPOk CC Tryz.prog syn 98 (cW ([.st TI.node]:LK) ([]:LK) (c98S p.c48 p.c68 p.c103))) (fu:Nat):∀ n,WOk (wcs fu n)
 | 0=>⟨(by intro x a R pan K r h; cases h),(by intro x a R pan K r h; cases h),(by intro x a R pan K r h; cases h),(by intro x a R pan K r h; cases h),(by intro x a R pan K r h; cases h),(by intro x a R pan K r h; cases h),(by intro x a R pan K r h; cases h),(by intro x a R pan K r h; cases h),(by intro x a R pan K r h; cases h)⟩
 | n+1=>by
  have h:=wok H98 fu n;show WOk (wcS fu (wcs fu n));generalize wcs fu n=p at h ⊢;exact ⟨con45 fu p.c45 h.h45 (c67w fu) (zIO fu),
   con48 fu p.c68 (zAU h.h68),
   con68 fu c47 ok47 p.c48 h.h48 p.c68 (zAU h.h68) p.c98 h.h98 p.c99 h.h99 p.c100 h.h100 p.c101 h.h101 c102 ok102 p.c103 (zAU h.h103) c104 ok104 p.c105 h.h105,
   H98 p h,
   con99 fu (c67w fu) (zIO fu) p.c68 (zAU h.h68) c125 ok125,
   con100 fu p.c48 h.h48 (c67w fu) (zIO fu) c126 ok126,
   con101 fu c46 ok46 p.c68 (zAU h.h68) p.c103 (zAU h.h103) (zGU fu) (zNR fu),
   con103 fu (c67w fu) (zIO fu) p.c68 h.h68 p.c103 (zAU h.h103),
   con105 fu c46 ok46 p.c48 h.h48 p.c68 (zAU h.h68) c125 ok125 (zGU fu) (zNR fu)⟩
end
section
open Go.Al Go.Den
def kf1045:Nat->List Nat
 | 0=>[0,3]
 | 1=>[0,8,9,10]
 | 2=>[0,8,9,10,11]
 | 3=>[0,6,8,9,10]
 | 4=>[0,6,8,9,10,16]
 | 5=>[0,4]
 | 6=>[0,6,8,9,10,28]
 | 7=>[0,4]
 | 8=>[0,8,9,10]
 | 9=>[0,4]
 | _=>[]
def hd1045:List (Nat×Head UU):=[(2,⟨[0,8,9],[(10,.int .i64)],[(0,wk0)]⟩)]
noncomputable def zNa:FD UU:=⟨⟨fun d=>hasN [] d,fun d=>hasN [] d,kf1045,zD hd1045,zD [],zn []⟩,zZ Tryz.f45,32,[.tmp 4]⟩
def kf1067:Nat->List Nat
 | 0=>[0,1]
 | 1=>[0,4]
 | _=>[]
noncomputable def zMm:FD UU:=⟨⟨fun d=>hasN [] d,fun d=>hasN [] d,kf1067,zD [],zD [],zn []⟩,zZ Tryz.f67,26,[.tmp 4]⟩
noncomputable def run1067 (fu:Nat) (c15:List UInt8×Unit->Option (Bool×Unit)) (x:zA [wk0]) (a:zA kI):Option (Option (zA [wk0]×zA kB)):=
 runP CC Tb fu 2 (zD []) (zD [(15,(⟨as15,rs15,c15⟩:Con UU))]) (zD []) (zD []) zMm [wk0] [wk0] kI kB x a
theorem zO6:FDOk Tryz.prog (hasN [15]) (hasN []) 67 zMm:=fdk Tryz.func67 Tryz.ntmps67 Tryz.results67
noncomputable def run1045 (fu:Nat) (c45:zA kN->WW (zA kI)) (c67:zA kI->WW (zA kB)) (x:zA [wk0]) (a:zA kN):Option (Option (zA [wk0]×zA kI)):=
 runP CC Tb fu 2 (zD []) (zD []) (zD []) (zD [(45,cW0 kN kI c45),(67,cW0 kI kB c67)]) zNa [wk0] [wk0] kN kI x a
theorem zOh:FDOk Tryz.prog (hasN []) (hasN []) 45 zNa:=fdk Tryz.func45 Tryz.ntmps45 Tryz.results45
end
section
open Go.Al Go.Den
def sh1067 (fu:Nat) (c15:(Str×Unit)->(Option (Bool×Unit))) (x:(Wk0T×Unit)) (a:(Int×Unit)):(Option (Option ((Wk0T×Unit)×(Bool×Unit)))) :=  let u2:=inB a.1 (List.length x.1.1); let u1:=List.getD x.1.1 (Int.toNat a.1) tokD; let u0:=(x.1.1,(x.1.2.1,((),(x.1.2.2.2.1,(x.1.2.2.2.2.1,((),())))))); cond u2 (cond (ieq (TokT.kind u1) 1) (cond u2 (Option.bind (c15 ((TokT.text u1),())) fun y0=>cE x.1.2.1 (some (some ((u0,()),((!y0.1),()))))) (none)) (cE x.1.2.1 (some (some ((u0,()),(false,())))))) (none)
theorem eq1067:@run1067 = @sh1067:=by kernel_rfl
def sh1045 (fu:Nat) (c45:(Nd×Unit)->WW (Int×Unit)) (c67:(Int×Unit)->WW (Bool×Unit)) (x:(Wk0T×Unit)) (a:(Nd×Unit)):(Option (Option ((Wk0T×Unit)×(Int×Unit)))):=cE x.1.2.1 (iter fu (fun (rec1:((Int×Unit)×(Wk0T×Unit))->Option (Option ((Wk0T×Unit)×(Int×Unit)))) (s1:((Int×Unit)×(Wk0T×Unit)))=>let u3:=(s1.2.1.2.2.2.1,s1.2.1.2.2.2.2.1); let u1:=(s1.2.1.1,(s1.2.1.2.1,((),(s1.2.1.2.2.2.1,(s1.2.1.2.2.2.2.1,((),())))))); let u0:=List.getD (Nd.kids a.1) (Int.toNat s1.1.1) qh; cond (ilt s1.1.1 (lenI (Nd.kids a.1))) (cond (inB s1.1.1 (List.length (Nd.kids a.1))) (cond (ieq (Nd.kind u0) 10) (cE s1.2.1.2.1 (Option.bind (c45 ((ndE u0),()) (s1.2.1.1,(s1.2.1.2.1,([],u3)))) fun y0=>cE y0.2.2.1 (some (some (((y0.2.1,(y0.2.2.1,((),(y0.2.2.2.2.1,(y0.2.2.2.2.2,((),())))))),()),(y0.1.1,())))))) (cond (ieq (Nd.kind u0) 0) (cE s1.2.1.2.1 (Option.bind (c67 ((Nd.tok u0),()) (s1.2.1.1,(s1.2.1.2.1,([],u3)))) fun y0=>let u2:=(y0.2.1,(y0.2.2.1,((),(y0.2.2.2.2.1,(y0.2.2.2.2.2,((),())))))); cond y0.1.1 (cE y0.2.2.1 (some (some ((u2,()),((Nd.tok u0),()))))) (cE y0.2.2.1 (rec1 (((iadd .i64 s1.1.1 1),()),(u2,())))))) (cE s1.2.1.2.1 (rec1 (((iadd .i64 s1.1.1 1),()),(u1,())))))) (none)) (cE s1.2.1.2.1 (some (some ((u1,()),((Neg.neg 1),())))))) ((0,()),((x.1.1,(x.1.2.1,((),(x.1.2.2.2.1,(x.1.2.2.2.2.1,((),())))))),())))
theorem eq1045:@run1045 = @sh1045:=by kernel_rfl
theorem con1067 (fu:Nat) (c15:zh as15->Option (zh rs15)) (h15:ConOk CC Tryz.prog 15 ⟨as15,rs15,c15⟩):CQ 67 (cW0 kI kB (mW0 (sh1067 fu c15))):=
 zNQ (rpk zE (zF (OrcOk.of ⟨zI1,h15⟩ rfl) zE) zE zE zO6 rfl (fun x a=>by rw [<- eq1067]; rfl))
theorem con1045 (fu:Nat) (c45:zA kN->WW (zA kI)) (h45:CQ 45 (cW0 kN kI c45)) (c67:zA kI->WW (zA kB)) (h67:CQ 67 (cW0 kI kB c67)):CQ 45 (cW0 kN kI (mW0 (sh1045 fu c45 c67))):=
 zNQ (rpk zE zE zE (zF ⟨zJI,h45⟩ (zF ⟨zEt,h67⟩ zE)) zOh rfl (fun x a=>by rw [<- eq1045]; rfl))
end
section
open Go.Al Go.Den
def sh89 (fu:Nat) (x:((Str×(Int×Unit))×Unit)) (a:(Str×Unit)):(Option (Option (((Str×(Int×Unit))×Unit)×(Bool×Unit)))):=cond (inS x.1.2.1 (lenI x.1.1) (List.length x.1.1)) (cond (ile (lenI a.1) (lenI (cutL x.1.1 x.1.2.1 (lenI x.1.1)))) (cond (inS 0 (lenI a.1) (List.length (cutL x.1.1 x.1.2.1 (lenI x.1.1)))) (some (some (((x.1.1,(x.1.2.1,())),()),((seq (cutL (cutL x.1.1 x.1.2.1 (lenI x.1.1)) 0 (lenI a.1)) a.1),())))) (none)) (some (some (((x.1.1,(x.1.2.1,())),()),(false,()))))) (none)
theorem eq89:@run89 = @sh89:=by kernel_rfl
def sh92 (fu:Nat) (c88:(Int×Unit)->Str->Int->(Option (Int×Unit))) (x:((Str×(Int×Unit))×Unit)) (a:Unit):(Option (Option (((Str×(Int×Unit))×Unit)×(Int×Unit)))):=iter fu (fun (rec1:((Int×Unit)×((Str×(Int×Unit))×Unit))->Option (Option (((Str×(Int×Unit))×Unit)×(Int×Unit)))) (s1:((Int×Unit)×((Str×(Int×Unit))×Unit)))=>let u2:=(s1.2.1.1,(s1.2.1.2.1,())); let u1:=rec1 (((iadd .i64 s1.1.1 1),()),(u2,())); let u0:=cond (ilt 0 s1.1.1) (Option.bind (c88 (s1.1.1,()) s1.2.1.1 s1.2.1.2.1) fun y1=>cond (ile 48 y1.1) (cond (ile y1.1 57) u1 (some (some ((u2,()),(s1.1.1,()))))) (some (some ((u2,()),(s1.1.1,()))))) (some (some ((u2,()),(s1.1.1,())))); Option.bind (c88 (s1.1.1,()) s1.2.1.1 s1.2.1.2.1) fun y0=>let u3:=cond (ile 65 y0.1) (cond (ile y0.1 90) u1 u0) u0; cond (ieq y0.1 95) u1 (cond (ile 97 y0.1) (cond (ile y0.1 122) u1 u3) u3)) ((0,()),((x.1.1,(x.1.2.1,())),()))
theorem eq92:@run92 = @sh92:=by kernel_rfl
def sh93 (fu:Nat) (c90:(Str×(Int×Unit))->(Option (Int×Unit))) (c88:(Int×Unit)->Str->Int->(Option (Int×Unit))) (x:((Str×(Int×Unit))×Unit)) (a:Unit):(Option (Option (((Str×(Int×Unit))×Unit)×(Int×Unit)))) :=  let u9:=(x.1.1,(x.1.2.1,())); Option.bind (c88 (0,()) x.1.1 x.1.2.1) fun y0=>cond (ile 48 y0.1) (cond (!(ile y0.1 57)) (Option.bind (c88 (0,()) x.1.1 x.1.2.1) fun y1=>cond (ine y1.1 46) (some (some ((u9,()),(0,())))) (Option.bind (c88 (1,()) x.1.1 x.1.2.1) fun y2=>cond (ile 48 y2.1) (cond (!(ile y2.1 57)) (some (some ((u9,()),(0,())))) (iter fu (fun (rec1:((Int×Unit)×((Str×(Int×Unit))×Unit))->Option (Option (((Str×(Int×Unit))×Unit)×(Int×Unit)))) (s1:((Int×Unit)×((Str×(Int×Unit))×Unit)))=>let u10:=(s1.2.1.1,(s1.2.1.2.1,())); let u19:=rec1 (((iadd .i64 s1.1.1 2),()),(u10,())); let u3:=rec1 (((iadd .i64 s1.1.1 1),()),(u10,())); Option.bind (c88 (s1.1.1,()) s1.2.1.1 s1.2.1.2.1) fun y3=>let u13:=cond (ieq y3.1 46) u3 (some (some ((u10,()),(s1.1.1,())))); let u0:=cond (ile 48 y3.1) (cond (ile y3.1 57) u3 u13) u13; let u16:=cond (ile 65 y3.1) (cond (ile y3.1 90) u3 u0) u0; let u6:=cond (ieq y3.1 95) u3 (cond (ile 97 y3.1) (cond (ile y3.1 122) u3 u16) u16); Option.bind (c88 ((iadd .i64 s1.1.1 1),()) s1.2.1.1 s1.2.1.2.1) fun y4=>Option.bind (c90 ([101,69,112,80],(y3.1,()))) fun y5=>cond (ile 0 y5.1) (cond (ieq y4.1 43) u19 (cond (ieq y4.1 45) u19 u6)) u6) ((1,()),(u9,())))) (some (some ((u9,()),(0,())))))) (iter fu (fun (rec1:((Int×Unit)×((Str×(Int×Unit))×Unit))->Option (Option (((Str×(Int×Unit))×Unit)×(Int×Unit)))) (s1:((Int×Unit)×((Str×(Int×Unit))×Unit)))=>let u11:=(s1.2.1.1,(s1.2.1.2.1,())); let u20:=rec1 (((iadd .i64 s1.1.1 2),()),(u11,())); let u4:=rec1 (((iadd .i64 s1.1.1 1),()),(u11,())); Option.bind (c88 (s1.1.1,()) s1.2.1.1 s1.2.1.2.1) fun y1=>let u14:=cond (ieq y1.1 46) u4 (some (some ((u11,()),(s1.1.1,())))); let u1:=cond (ile 48 y1.1) (cond (ile y1.1 57) u4 u14) u14; let u17:=cond (ile 65 y1.1) (cond (ile y1.1 90) u4 u1) u1; let u7:=cond (ieq y1.1 95) u4 (cond (ile 97 y1.1) (cond (ile y1.1 122) u4 u17) u17); Option.bind (c88 ((iadd .i64 s1.1.1 1),()) s1.2.1.1 s1.2.1.2.1) fun y2=>Option.bind (c90 ([101,69,112,80],(y1.1,()))) fun y3=>cond (ile 0 y3.1) (cond (ieq y2.1 43) u20 (cond (ieq y2.1 45) u20 u7)) u7) ((1,()),(u9,())))) (Option.bind (c88 (0,()) x.1.1 x.1.2.1) fun y1=>cond (ine y1.1 46) (some (some ((u9,()),(0,())))) (Option.bind (c88 (1,()) x.1.1 x.1.2.1) fun y2=>cond (ile 48 y2.1) (cond (!(ile y2.1 57)) (some (some ((u9,()),(0,())))) (iter fu (fun (rec1:((Int×Unit)×((Str×(Int×Unit))×Unit))->Option (Option (((Str×(Int×Unit))×Unit)×(Int×Unit)))) (s1:((Int×Unit)×((Str×(Int×Unit))×Unit)))=>let u12:=(s1.2.1.1,(s1.2.1.2.1,())); let u21:=rec1 (((iadd .i64 s1.1.1 2),()),(u12,())); let u5:=rec1 (((iadd .i64 s1.1.1 1),()),(u12,())); Option.bind (c88 (s1.1.1,()) s1.2.1.1 s1.2.1.2.1) fun y3=>let u15:=cond (ieq y3.1 46) u5 (some (some ((u12,()),(s1.1.1,())))); let u2:=cond (ile 48 y3.1) (cond (ile y3.1 57) u5 u15) u15; let u18:=cond (ile 65 y3.1) (cond (ile y3.1 90) u5 u2) u2; let u8:=cond (ieq y3.1 95) u5 (cond (ile 97 y3.1) (cond (ile y3.1 122) u5 u18) u18); Option.bind (c88 ((iadd .i64 s1.1.1 1),()) s1.2.1.1 s1.2.1.2.1) fun y4=>Option.bind (c90 ([101,69,112,80],(y3.1,()))) fun y5=>cond (ile 0 y5.1) (cond (ieq y4.1 43) u21 (cond (ieq y4.1 45) u21 u8)) u8) ((1,()),(u9,())))) (some (some ((u9,()),(0,()))))))
theorem eq93:@run93 = @sh93:=by kernel_rfl
def sh94 (fu:Nat) (c88:(Int×Unit)->Str->Int->(Option (Int×Unit))) (x:((Str×(Int×Unit))×Unit)) (a:(Int×Unit)):(Option (Option (((Str×(Int×Unit))×Unit)×(Int×Unit)))) :=  let u2:=(x.1.1,(x.1.2.1,())); cond (ieq x.1.2.1 (lenI x.1.1)) (some (some ((u2,()),(0,())))) (Option.bind (c88 (0,()) x.1.1 x.1.2.1) fun y0=>cond (ine y0.1 a.1) (some (some ((u2,()),(0,())))) (iter fu (fun (rec1:((Int×Unit)×((Str×(Int×Unit))×Unit))->Option (Option (((Str×(Int×Unit))×Unit)×(Int×Unit)))) (s1:((Int×Unit)×((Str×(Int×Unit))×Unit)))=>let u1:=iadd .i64 s1.1.1 1; let u0:=(s1.2.1.1,(s1.2.1.2.1,())); let u3:=rec1 (((iadd .i64 u1 1),()),(u0,())); cond (ilt (iadd .i64 s1.2.1.2.1 s1.1.1) (lenI s1.2.1.1)) (Option.bind (c88 (s1.1.1,()) s1.2.1.1 s1.2.1.2.1) fun y1=>cond (ieq y1.1 a.1) (cond (ieq a.1 39) (cond (ieq s1.1.1 1) (some (some ((u0,()),(0,())))) (some (some ((u0,()),(u1,()))))) (some (some ((u0,()),(u1,()))))) (cond (ieq y1.1 10) (some (some ((u0,()),(0,())))) (cond (ieq y1.1 92) (Option.bind (c88 (u1,()) s1.2.1.1 s1.2.1.2.1) fun y2=>cond (ieq y2.1 10) (cond (ilt (iadd .i64 s1.2.1.2.1 u1) (lenI s1.2.1.1)) (some (some ((u0,()),(0,())))) u3) u3) (rec1 ((u1,()),(u0,())))))) (some (some ((u0,()),(0,()))))) ((1,()),(u2,()))))
theorem eq94:@run94 = @sh94:=by kernel_rfl
def sh95 (fu:Nat) (c89:(Str×Unit)->Str->Int->(Option ((Bool×Unit)×Int))) (x:((Str×(Int×Unit))×Unit)) (a:Unit):(Option (Option (((Str×(Int×Unit))×Unit)×(Int×Unit)))):=iter fu (fun (rec1:((Int×(Int×Unit))×((Str×(Int×Unit))×Unit))->Option (Option (((Str×(Int×Unit))×Unit)×(Int×Unit)))) (s1:((Int×(Int×Unit))×((Str×(Int×Unit))×Unit)))=>let u2:=(s1.2.1.1,(s1.2.1.2.1,())); let u1:=iadd .i64 s1.1.2.1 1; let u0:=List.getD [[46,46,46],[60,60,61],[62,62,61],[45,62],[43,43],[45,45],[60,60],[62,62],[60,61],[62,61],[61,61],[33,61],[38,38],[124,124],[42,61],[47,61],[37,61],[43,61],[45,61],[38,61],[94,61],[124,61],[35,35],[91],[93],[40],[41],[123],[125],[46],[38],[42],[43],[45],[126],[33],[47],[37],[60],[62],[94],[124],[63],[58],[59],[61],[44],[35]] (Int.toNat s1.1.2.1) []; cond (ilt s1.1.2.1 48) (cond (inB s1.1.2.1 48) (cond (ile (lenI (α:=UInt8) u0) s1.1.1) (rec1 ((s1.1.1,(u1,())),(u2,()))) (Option.bind (c89 (u0,()) s1.2.1.1 s1.2.1.2.1) fun y0=>cond (!y0.1.1) (rec1 ((s1.1.1,(u1,())),((s1.2.1.1,(y0.2,())),()))) (rec1 (((lenI (α:=UInt8) u0),(u1,())),((s1.2.1.1,(y0.2,())),()))))) (none)) (some (some ((u2,()),(s1.1.1,()))))) ((0,(0,())),((x.1.1,(x.1.2.1,())),()))
theorem eq95:@run95 = @sh95:=by kernel_rfl
def sh65 (fu:Nat) (c89:(Str×Unit)->Str->Int->(Option ((Bool×Unit)×Int))) (c92:Unit->Str->Int->(Option ((Int×Unit)×Int))) (c93:Unit->Str->Int->(Option ((Int×Unit)×Int))) (c94:(Int×Unit)->Str->Int->(Option ((Int×Unit)×Int))) (c95:Unit->Str->Int->(Option ((Int×Unit)×Int))) (x:((Str×(Int×Unit))×Unit)) (a:Unit):(Option (Option (((Str×(Int×Unit))×Unit)×(Int×(Int×Unit))))):=Option.bind (c89 ([10],()) x.1.1 x.1.2.1) fun y0=>cond y0.1.1 (some (some (((x.1.1,(y0.2,())),()),(7,(1,()))))) (Option.bind (c92 () x.1.1 y0.2) fun y1=>cond (ilt 0 y1.1.1) (some (some (((x.1.1,(y1.2,())),()),(1,(y1.1.1,()))))) (Option.bind (c93 () x.1.1 y1.2) fun y2=>cond (ilt 0 y2.1.1) (some (some (((x.1.1,(y2.2,())),()),(2,(y2.1.1,()))))) (Option.bind (c94 (34,()) x.1.1 y2.2) fun y3=>cond (ilt 0 y3.1.1) (some (some (((x.1.1,(y3.2,())),()),(4,(y3.1.1,()))))) (Option.bind (c94 (39,()) x.1.1 y3.2) fun y4=>cond (ilt 0 y4.1.1) (some (some (((x.1.1,(y4.2,())),()),(3,(y4.1.1,()))))) (Option.bind (c95 () x.1.1 y4.2) fun y5=>cond (ilt 0 y5.1.1) (some (some (((x.1.1,(y5.2,())),()),(5,(y5.1.1,()))))) (some (some (((x.1.1,(y5.2,())),()),(6,(1,()))))))))))
theorem eq65:@run65 = @sh65:=by kernel_rfl
def sh64 (fu:Nat) (c90:(Str×(Int×Unit))->(Option (Int×Unit))) (c91:(Str×(Str×Unit))->(Option (Int×Unit))) (c88:(Int×Unit)->Str->Int->(Option (Int×Unit))) (c89:(Str×Unit)->Str->Int->(Option ((Bool×Unit)×Int))) (x:((Str×(Int×Unit))×Unit)) (a:Unit):(Option (Option (((Str×(Int×Unit))×Unit)×(Bool×Unit)))) :=  let u0:=(x.1.1,(x.1.2.1,())); xH (fun (join0:(Unit×((Str×(Int×Unit))×Unit))->Option (Option (((Str×(Int×Unit))×Unit)×(Bool×Unit))))=>Option.bind (c88 (0,()) x.1.1 x.1.2.1) fun y0=>xH (fun (join1:((Bool×Unit)×((Str×(Int×Unit))×Unit))->Option (Option (((Str×(Int×Unit))×Unit)×(Bool×Unit))))=>cond (ieq y0.1 32) (join1 ((true,()),(u0,()))) (cond (ieq y0.1 9) (join1 ((true,()),(u0,()))) (cond (ieq y0.1 11) (join1 ((true,()),(u0,()))) (cond (ieq y0.1 12) (join1 ((true,()),(u0,()))) (join1 (((ieq y0.1 13),()),(u0,()))))))) (fun (t0:((Bool×Unit)×((Str×(Int×Unit))×Unit)))=>cond t0.1.1 (some (some (((t0.2.1.1,((iadd .i64 t0.2.1.2.1 1),())),()),(true,())))) (join0 ((),((t0.2.1.1,(t0.2.1.2.1,())),()))))) (fun (t0:(Unit×((Str×(Int×Unit))×Unit)))=>let u1:=lenI t0.2.1.1; Option.bind (c89 ([47,47],()) t0.2.1.1 t0.2.1.2.1) fun y0=>cond y0.1.1 (cond (inS y0.2 u1 (List.length t0.2.1.1)) (Option.bind (c90 ((cutL t0.2.1.1 y0.2 u1),(10,()))) fun y1=>xH (fun (join0:((Int×Unit)×((Str×(Int×Unit))×Unit))->Option (Option (((Str×(Int×Unit))×Unit)×(Bool×Unit))))=>cond (ilt y1.1 0) (join0 (((isub .i64 u1 y0.2),()),((t0.2.1.1,(y0.2,())),()))) (join0 ((y1.1,()),((t0.2.1.1,(y0.2,())),())))) (fun (t1:((Int×Unit)×((Str×(Int×Unit))×Unit)))=>some (some (((t1.2.1.1,((iadd .i64 t1.2.1.2.1 t1.1.1),())),()),(true,()))))) (none)) (Option.bind (c89 ([47,42],()) t0.2.1.1 y0.2) fun y1=>cond (!y1.1.1) (some (some (((t0.2.1.1,(y1.2,())),()),(false,())))) (cond (inS (iadd .i64 y1.2 2) u1 (List.length t0.2.1.1)) (Option.bind (c91 ((cutL t0.2.1.1 (iadd .i64 y1.2 2) u1),([42,47],()))) fun y2=>cond (ilt y2.1 0) (some (some (((t0.2.1.1,(y1.2,())),()),(false,())))) (some (some (((t0.2.1.1,((iadd .i64 y1.2 (iadd .i64 y2.1 4)),())),()),(true,()))))) (none))))
theorem eq64:@run64 = @sh64:=by kernel_rfl
theorem con89 (fu:Nat) :CQ 89 (cD kS kB (mD (sh89 fu))):=
 zDe (rpk (lo:=[]) (lr:=[]) (zF zLq (zF zMC zE)) zE zE zE fdok89 rfl (fun x a=>by rw [<- eq89]; rfl))
theorem con92 (fu:Nat) (c88:zA kI->Str->Int->Option (zA ([.int .u8]:LK))) (h88:CROk CC Tryz.prog 88 (cRD kI ([.int .u8]:LK) c88)):CQ 92 (cD k0 kI (mD (sh92 fu c88))):=
 zDe (rpk (lo:=[]) (lr:=[(88,cRD kI ([.int .u8]:LK) c88)]) (zF zLg (zF zML zE)) zE (zF ⟨zGh,h88⟩ zE) zE fdok92 rfl (fun x a=>by rw [<- eq92]; rfl))
theorem con93 (fu:Nat) (c90:zh as90->Option (zh rs90)) (h90:ConOk CC Tryz.prog 90 ⟨as90,rs90,c90⟩) (c88:zA kI->Str->Int->Option (zA ([.int .u8]:LK))) (h88:CROk CC Tryz.prog 88 (cRD kI ([.int .u8]:LK) c88)):CQ 93 (cD k0 kI (mD (sh93 fu c90 c88))):=
 zDe (rpk (lo:=[(90,(⟨as90,rs90,c90⟩:Con UU))]) (lr:=[(88,cRD kI ([.int .u8]:LK) c88)]) (zF zMQ (zF zLc zE)) (zF (OrcOk.of ⟨zNF,h90⟩ rfl) zE) (zF ⟨zGh,h88⟩ zE) zE fdok93 rfl (fun x a=>by rw [<- eq93]; rfl))
theorem con94 (fu:Nat) (c88:zA kI->Str->Int->Option (zA ([.int .u8]:LK))) (h88:CROk CC Tryz.prog 88 (cRD kI ([.int .u8]:LK) c88)):CQ 94 (cD ([.int .u8]:LK) kI (mD (sh94 fu c88))):=
 zDe (rpk zE zE (zF ⟨zGh,h88⟩ zE) zE fdok94 rfl (fun x a=>by rw [<- eq94]; rfl))
theorem con95 (fu:Nat) (c89:zA kS->DD (zA kB)) (h89:CQ 89 (cD kS kB c89)):CQ 95 (cD k0 kI (mD (sh95 fu c89))):=
 zDe (rpk zE zE zE (zF ⟨zJE,h89⟩ zE) fdok95 rfl (fun x a=>by rw [<- eq95]; rfl))
theorem con65 (fu:Nat) (c89:zA kS->DD (zA kB)) (h89:CQ 89 (cD kS kB c89)) (c92:zA k0->DD (zA kI)) (h92:CQ 92 (cD k0 kI c92)) (c93:zA k0->DD (zA kI)) (h93:CQ 93 (cD k0 kI c93)) (c94:zA ([.int .u8]:LK)->DD (zA kI)) (h94:CQ 94 (cD ([.int .u8]:LK) kI c94)) (c95:zA k0->DD (zA kI)) (h95:CQ 95 (cD k0 kI c95)):CQ 65 (cD k0 ([.int .i64,.int .i64]:LK) (mD (sh65 fu c89 c92 c93 c94 c95))):=
 zDe (rpk zE zE zE (zF ⟨zJE,h89⟩ (zF ⟨code92,h92⟩ (zF ⟨code93,h93⟩ (zF ⟨code94,h94⟩ (zF ⟨code95,h95⟩ zE))))) fdok65 rfl (fun x a=>by rw [<- eq65]; rfl))
theorem con64 (fu:Nat) (c90:zh as90->Option (zh rs90)) (h90:ConOk CC Tryz.prog 90 ⟨as90,rs90,c90⟩) (c91:zh as91->Option (zh rs91)) (h91:ConOk CC Tryz.prog 91 ⟨as91,rs91,c91⟩) (c88:zA kI->Str->Int->Option (zA ([.int .u8]:LK))) (h88:CROk CC Tryz.prog 88 (cRD kI ([.int .u8]:LK) c88)) (c89:zA kS->DD (zA kB)) (h89:CQ 89 (cD kS kB c89)):CQ 64 (cD k0 kB (mD (sh64 fu c90 c91 c88 c89))):=
 zDe (rpk zE (zF (OrcOk.of ⟨zNF,h90⟩ rfl) (zF (OrcOk.of ⟨code91,h91⟩ rfl) zE)) (zF ⟨zGh,h88⟩ zE) (zF ⟨zJE,h89⟩ zE) fdok64 rfl (fun x a=>by rw [<- eq64]; rfl))
end
section
open Go.Al Go.Den
def sh39 (fu:Nat) (c62:(Str×Unit)->(Option ((List CharT)×Unit))) (c63:((List CharT)×Unit)->(Option (Str×Unit))) (c64:Unit->Str->Int->(Option ((Bool×Unit)×Int))) (c65:Unit->Str->Int->(Option ((Int×(Int×Unit))×Int))) (nf:Nat->Bool) (x0:Int) (x1:Str):(Option (LT×Unit)):=Option.bind (c62 (x1,())) fun y0=>let u4:=List.length y0.1; Option.bind (c63 (y0.1,())) fun y1=>iter fu (fun (rec1:((LT×Unit)×((Str×(Int×Unit))×Unit))->Option (LT×Unit)) (s1:((LT×Unit)×((Str×(Int×Unit))×Unit)))=>iter fu (fun (rec2:((LT×Unit)×((Str×(Int×Unit))×((Int×(Str×(Int×(Int×(Int×(Bool×Unit))))))×Unit)))->Option (LT×Unit)) (s2:((LT×Unit)×((Str×(Int×Unit))×((Int×(Str×(Int×(Int×(Int×(Bool×Unit))))))×Unit))))=>let u7:=lenI s2.2.1.1; cond (ilt s2.2.1.2.1 u7) (Option.bind (c64 () s2.2.1.1 s2.2.1.2.1) fun y2=>cond y2.1.1 (rec2 ((s2.1.1,()),((s2.2.1.1,(y2.2,())),((s2.2.2.1.1,(s2.2.2.1.2.1,(s2.2.2.1.2.2.1,(s2.2.2.1.2.2.2.1,(s2.2.2.1.2.2.2.2.1,(true,())))))),())))) (cond (ile u7 y2.2) (some (s2.1.1,())) (Option.bind (c65 () s2.2.1.1 y2.2) fun y3=>let u5:=List.getD y0.1 (Int.toNat y3.2) zGg; let u0:=iadd .i64 y3.2 y3.1.2.1; let u2:=iadd .i64 (CharT.fat (List.getD y0.1 (Int.toNat (isub .i64 u0 1)) zGg)) 1; cond (inS y3.2 u0 (List.length s2.2.1.1)) (cond (inB y3.2 u4) (cond (inB (isub .i64 u0 1) u4) (cond (okN 56 ((List.length s2.1.1)+(List.length [(TokT.mk y3.1.1 (cutL s2.2.1.1 y3.2 u0) s2.2.2.1.2.2.1 (CharT.fat u5) u2 s2.2.2.1.2.2.2.2.2.1)]))) (rec1 (((s2.1.1++[(TokT.mk y3.1.1 (cutL s2.2.1.1 y3.2 u0) s2.2.2.1.2.2.1 (CharT.fat u5) u2 s2.2.2.1.2.2.2.2.2.1)]),()),((s2.2.1.1,(u0,())),()))) (none)) (none)) (none)) (none)))) (cond (ile u7 s2.2.1.2.1) (some (s2.1.1,())) (Option.bind (c65 () s2.2.1.1 s2.2.1.2.1) fun y2=>let u6:=List.getD y0.1 (Int.toNat y2.2) zGg; let u1:=iadd .i64 y2.2 y2.1.2.1; let u3:=iadd .i64 (CharT.fat (List.getD y0.1 (Int.toNat (isub .i64 u1 1)) zGg)) 1; cond (inS y2.2 u1 (List.length s2.2.1.1)) (cond (inB y2.2 u4) (cond (inB (isub .i64 u1 1) u4) (cond (okN 56 ((List.length s2.1.1)+(List.length [(TokT.mk y2.1.1 (cutL s2.2.1.1 y2.2 u1) s2.2.2.1.2.2.1 (CharT.fat u6) u3 s2.2.2.1.2.2.2.2.2.1)]))) (rec1 (((s2.1.1++[(TokT.mk y2.1.1 (cutL s2.2.1.1 y2.2 u1) s2.2.2.1.2.2.1 (CharT.fat u6) u3 s2.2.2.1.2.2.2.2.2.1)]),()),((s2.2.1.1,(u1,())),()))) (none)) (none)) (none)) (none)))) ((s1.1.1,()),((s1.2.1.1,(s1.2.1.2.1,())),((0,([],(x0,(0,(0,(false,())))))),())))) (([],()),((y1.1,(0,())),()))
theorem eq39:@run39 = @sh39:=by kernel_rfl
theorem con39 (fu:Nat) (c62:zh as62->Option (zh rs62)) (h62:ConOk CC Tryz.prog 62 ⟨as62,rs62,c62⟩) (c63:zh as63->Option (zh rs63)) (h63:ConOk CC Tryz.prog 63 ⟨as63,rs63,c63⟩) (c64:zA k0->DD (zA kB)) (h64:CQ 64 (cD k0 kB c64)) (c65:zA k0->DD (zA ([.int .i64,.int .i64]:LK))) (h65:CQ 65 (cD k0 ([.int .i64,.int .i64]:LK) c65)):ConOk CC Tryz.prog 39 ⟨as39,rs39,fun x=>sh39 fu c62 c63 c64 c65 (fun _=>false) x.1 x.2.1⟩:=
 rfk zE (zF (OrcOk.of ⟨code62,h62⟩ rfl) (zF (OrcOk.of ⟨code63,h63⟩ rfl) zE)) zE (zF ⟨code64,h64⟩ (zF ⟨code65,h65⟩ zE)) fdok39 rfl (xd rfl) (fun nf x=>by show run39 fu c62 c63 c64 c65 nf x.1 x.2.1=_; rw [eq39]; rfl)
end
section
open Go.Al Go.Den
def zEw (s:Str) (n:Int):Int:=if n < s.length then zGC s n else 0
def c88 (a:Int×Unit) (s:Str) (i:Int):Option (Int×Unit):=if 0<=i+a.1/\i+a.1 < 9223372036854775808/\s.length < 9223372036854775808 then some (zEw s (i+a.1),()) else none
set_option maxRecDepth 100000 in
theorem ok88:CROk CC Tryz.prog 88 (cRD [.int .i64] [.int .u8] c88):=by
 intro x R K r hr;obtain ⟨⟨s0,i,u⟩,k,u'⟩:=x;change Str at s0;change Int at i;change Int at k;replace hr:Option.bind (c88 (k,()) s0 i) (fun y=>K y)=some r:=hr;unfold c88 at hr;split at hr
 rotate_left
 . cases hr
 rename_i h;replace hr:K (zEw s0 (i+k),())=some r:=hr;replace h:0<=i+k/\i+k < 9223372036854775808/\s0.length < 9223372036854775808:=h;refine ⟨_,hr,fun s va q hv hn=>?_⟩;simp only [VKs,VK] at hv;obtain ⟨v,w,q1,q2,rfl,rfl,⟨b0,cs,q3,rfl,e1,⟨v2,w2,q4,q5,rfl,rfl,⟨rfl,rfl⟩,v4,w4,q8,q9,rfl,rfl,⟨rfl,rfl⟩,rfl,rfl⟩,rfl⟩,v3,w3,q6,q7,rfl,rfl,⟨rfl,rfl⟩,rfl,rfl⟩:=hv;refine ⟨[.at (.int .u8 (zEw s0 (i+k)))],fun s'=>⟨_,[],[],[],rfl,rfl,⟨rfl,rfl⟩,rfl,rfl⟩,?_⟩;simp only [List.nil_append,List.append_nil,List.cons_append];have e2:=(yI s [.inr b0] b0).1 (by simp);rw [e1] at e2;show FnC Tryz.prog 88 _ (subS s [.inr b0]) fun oc s'=>oc = .ret (finV [.at (.int .u8 (zEw s0 (i+k)))])/\s' = subS s [.inr b0];generalize subS s [.inr b0]=s1 at e2 ⊢;refine yz Tryz.func88 rfl Tryz.ntmps88 Tryz.results88 (by show 2<=28; decide) fun B=>?_;simp only [List.cons_append,List.nil_append,List.append_nil,xg,Nat.reduceAdd];replace e2:Al.look s1.box b0=some ([.at (.string ⟨List.toArray s0⟩),.at (.int .i64 i)],2):=e2;have hw:IntKind.i64.wrap (i+k)=i+k:=IntWalk.i64_in _ (by omega);have hsz:(⟨List.toArray s0⟩:ByteArray).size=s0.length:=by simp [ByteArray.size]
 (repeat (first | (refine zg ?_) | (refine zW ?_; simp -failIfUnchanged only [zB,zC]) | (refine zf ?_; simp -failIfUnchanged only [zV,zS,zd,zU]) | (refine zY ?_; simp -failIfUnchanged only [zR,zM,zB,zC,reduceIte]) | (refine zT ?_) | ((first | (refine ze polN ks88 _ rfl rfl ?_) | (refine za polN mixed ks88 _ rfl rfl (by kernel_rfl) (by kernel_rfl) ?_)); simp only [↓zk,↓zt,↓yP,↓xe,↓zl,↓yD,↓z6,↓zBw,zB,zH,zI,zK,zP,zm,yC,zb,zX,yW,zAz,zOk,zOG,zv,zx,zq,zj,zp,implies_true,and_self,zy,zz,List.length_cons,List.length_nil,List.drop_zero,List.drop_succ_cons,List.take_succ_cons,List.take_zero,List.take_nil,List.getD_cons_zero,List.getD_cons_succ,Bool.true_and,Bool.and_self,if_true,if_false,true_and,Nat.reduceAdd,Nat.reduceEqDiff,Nat.reduceLeDiff,reduceCtorEq,Bool.false_eq_true,Nat.zero_add,Nat.add_zero,Nat.le_refl,Nat.lt_add_one,zDP,zDa,zB1,zGO,zGi,zEZ,strT9,zIc,zKH,ks88,e2,yL,hw,hsz])))
 refine xX rfl (fun h1=>?_) (fun h1=>?_)
 . have h2:i+k >= s0.length:=of_decide_eq_true h1;have h3:zEw s0 (i+k)=0:=if_neg (by omega)
   (repeat (first | (refine zg ?_) | (refine zW ?_; simp -failIfUnchanged only [zB,zC]) | (refine zf ?_; simp -failIfUnchanged only [zV,zS,zd,zU]) | (refine zY ?_; simp -failIfUnchanged only [zR,zM,zB,zC,reduceIte]) | (refine zT ?_) | ((first | (refine ze polN ks88 _ rfl rfl ?_) | (refine za polN mixed ks88 _ rfl rfl (by kernel_rfl) (by kernel_rfl) ?_)); simp only [↓zk,↓yP,zB,zH,zI,zK,zm,yC,zb,zX,if_true,if_false,Nat.reduceEqDiff,reduceCtorEq,ks88])))
   simp only [ya];rw [h3];exact ⟨rfl,rfl,trivial⟩
 . have h2:¬ i+k >= s0.length:=of_decide_eq_false h1;have h3:zEw s0 (i+k)=zGC s0 (i+k):=if_pos (by omega);refine zW ?_;simp -failIfUnchanged only [zB,zC];have hin:0<=i+k/\i+k < (s0.length:Int):=by omega
   (repeat (first | (refine zg ?_) | (refine zW ?_; simp -failIfUnchanged only [zB,zC]) | (refine zf ?_; simp -failIfUnchanged only [zV,zS,zd,zU]) | (refine zY ?_; simp -failIfUnchanged only [zR,zM,zB,zC,reduceIte]) | (refine zT ?_) | ((first | (refine ze polN ks88 _ rfl rfl ?_) | (refine za polN mixed ks88 _ rfl rfl (by kernel_rfl) (by kernel_rfl) ?_)); simp only [↓zk,↓zt,↓yP,↓xe,↓zl,↓zN5,↓yD,↓z6,zB,zH,zI,zK,zP,zb,zX,yW,zAz,zv,zx,zq,zj,zp,zMJ,implies_true,and_self,zy,zz,List.length_cons,List.length_nil,List.drop_zero,List.drop_succ_cons,List.take_succ_cons,List.take_zero,List.take_nil,List.getD_cons_zero,List.getD_cons_succ,Bool.true_and,Bool.and_self,if_true,if_false,true_and,Nat.reduceAdd,Nat.reduceEqDiff,Nat.reduceLeDiff,reduceCtorEq,Bool.false_eq_true,Nat.zero_add,Nat.add_zero,Nat.le_refl,Nat.lt_add_one,zDP,zDa,zB1,zGO,zGi,zEZ,strT9,zIc,zKH,ks88,e2,yL,hw,hsz,hin])))
   have hg:(List.toArray s0).getD (i+k).toNat 0=s0.getD (i+k).toNat 0:=by simp [Array.getD_eq_getD_getElem?,List.getD_eq_getElem?_getD]
   simp only [ya];rw [h3,hg];exact ⟨rfl,rfl,trivial⟩
end
end Go.Proofs.YtnamdpbcpnnhaaaGreatDoor
namespace Go.Den
section
open Go.Al
def zipE:List Nat->List V->Env
 | k::ks,v::vs=>(k,v)::zipE ks vs
 | _,_=>[]
def zipT {U:TyU}:List Nat->List (T U)->En U
 | k::ks,v::vs=>(k,v)::zipT ks vs
 | _,_=>[]
def conE:List (Nat×Value)->Env->Env
 | [],e=>e
 | p::r,e=>(p.1,.at p.2)::conE r e
def conT {U:TyU}:List (Nat×Value)->En U->En U
 | [],e=>e
 | p::r,e=>(p.1,.con p.2)::conT r e
def chkC {U:TyU} {R:Type}:List (Nat×Value)->En U->Option R->Option R
 | [],_,K=>K
 | p::r,e,K=>match eget e p.1 with
  | .con _=>chkC r e K
  | _=>none
section
variable {U:TyU} (C:Cod U) (Tb:TypeId->TD U)
def runQ (fu d:Nat) (inl:Nat->Option (FD U)) (orc:Nat->Option (Con U)) (orr:Nat->Option (CR U)) (orp:Nat->Option (CP U)) (fi:FI U) (c:Code) (cs:List (Nat×Value)) (rt:Bool) (slots oslots:List Nat) (ks ko:List (SK U)) (x:zA ks):Option (Option (zA ko)):=
 kZ C ks x ⟨[],[],0,0,[]⟩ fun vs st=>feS st fun st=>feA vs fun ts=>
 drun C Tb fu (zCk C Tb fu inl orc orr orp (some none) d) fi c (conT cs (zipT slots ts)) st fun ex e' st'=>match ex with
  | .normal=>chkC cs e' (qG C ko (oslots.map fun k=>eget e' k) st' fun y _=>some (some y))
  | .ret=>bif rt then chkC cs e' (qG C ko (oslots.map fun k=>eget e' k) st' fun y _=>some (some y)) else none
  | .exit id=>bif Nat.beq id 0 && !rt then chkC cs e' (qG C ko (oslots.map fun k=>eget e' k) st' fun y _=>some (some y)) else none
  | _=>none
variable {C Tb} {P:Program}
theorem zLD {st:St U} {N:NM}:∀ (slots:List Nat) (args:List (T U)),bdds st.nl st.nx args=true->ESim C N st (zipT slots args) (zipE slots (args.map (trT C N)))
 | [],_,_,k=>⟨.inl rfl,rfl⟩
 | _::_,[],_,k=>⟨.inl rfl,rfl⟩
 | n::slots,x::xs,h,k=>by
  simp only [bdds,Bool.and_eq_true] at h;simp only [zipT,eget,List.map_cons,zipE,Env.get];by_cases e:n=k
  . subst e;have:Nat.beq n n=true:=by simp
    simp only [this,cond_true,if_true];exact ⟨.inr rfl,h.1⟩
  . simp only [xo e,cond_false,if_neg e];exact zLD slots xs h.2 k
theorem zLS {st:St U} {N:NM} {e:En U} {E:Env} (h:ESim C N st e E):∀ cs:List (Nat×Value),ESim C N st (conT cs e) (conE cs E)
 | [],k=>h k
 | p::r,k=>by
  simp only [conT,eget,conE,Env.get];by_cases e1:p.1=k
  . have:Nat.beq p.1 k=true:=by simpa using e1
    simp only [this,cond_true,if_pos e1];exact ⟨.inr rfl,rfl⟩
  . simp only [xo e1,cond_false,if_neg e1];exact zLS h r k
theorem zK5 {R:Type} {e:En U} {K:Option R} {r:R}:∀ {cs:List (Nat×Value)},chkC cs e K=some r->K=some r/\∀ p ∈ cs,∃ v,eget e p.1 = .con v
 | [],h=>⟨h,fun p hp=>(by cases hp)⟩
 | p::cs,h=>by
  simp only [chkC] at h;split at h
  . rename_i v hv;obtain ⟨h1,h2⟩:=zK5 h;refine ⟨h1,fun q hq=>?_⟩;rcases List.mem_cons.1 hq with rfl | hq
    . exact ⟨v,hv⟩
    . exact h2 q hq
  . cases h
def QEnd (C:Cod U) (ko:List (SK U)) (cs:List (Nat×Value)) (oslots:List Nat) (oc:Option (zA ko)) (e':Env) (s':S):Prop:=(∀ p ∈ cs,e'.get p.1=(conE cs []).get p.1)/\∃ y,oc=some y/\∃ q,VKs C s' ko y (oslots.map e'.get) q/\q.Nodup
def zLw (C:Cod U) (syn:List PanicEntry) (ko:List (SK U)) (rt:Bool) (cs:List (Nat×Value)) (oslots:List Nat) (oc:Option (zA ko)):Exit->Env->S->Prop
 | .normal,e',s'=>QEnd C ko cs oslots oc e' s'
 | .ret,e',s'=>rt=true/\QEnd C ko cs oslots oc e' s'
 | .exit id,e',s'=>(id=0/\rt=false)/\QEnd C ko cs oslots oc e' s'
 | .panic e,_,_=>e=syn/\oc=none
 | _,_,_=>False
theorem zLP (hT:TbOk C P Tb) (hC:CodOk C) (hm:P.follows .mixedOrders=true) {syn:List PanicEntry} {pf rf:FuncId->Bool} {fu d:Nat} {inl:Nat->Option (FD U)} {orc:Nat->Option (Con U)} {orr:Nat->Option (CR U)} {orp:Nat->Option (CP U)}
 (hpf:∀ f,pf f=(orc f).isSome) (hrf:∀ f,rf f=(orr f).isSome) (hin:∀ f fd,inl f=some fd->FDOk P pf rf f fd) (hor:∀ f c,orc f=some c->OrcOk C P f c)
 (hrr:∀ f c,orr f=some c->zQ P f=true/\CROk C P f c) (hpp:∀ f c,orp f=some c->zQ P f=true/\CPOk C P syn f c) {fi:FI U} {c:Code} {cs:List (Nat×Value)} {rt:Bool} {slots oslots:List Nat} {ks ko:List (SK U)} {X:Cx} (hok:qd pf rf fi X.N c=true) (hhd:qj fi c=true)
 {x:zA ks} {oc:Option (zA ko)} (h:runQ C Tb fu d inl orc orr orp fi c cs rt slots oslots ks ko x=some oc) (hcs:∀ p ∈ cs,p.1 ∉ dsts fi c) {s0:S} {vx:List V} {rs:List Res} (hv:VKs C s0 ks x vx rs) (hn:rs.Nodup):awp P X c (zLw C syn ko rt cs oslots oc) (conE cs (zipE slots vx)) s0:=by
 unfold runQ at h;have hno:∀ y,¬ Has ⟨id,id,id,id⟩ (⟨[],[],0,0,[]⟩:St U) y:=fun y hy=>by
  cases y with
  | inl n=>obtain ⟨t,ht,_⟩:=hy; cases ht
  | inr b=>obtain ⟨l,b,hl,_⟩:=hy; simp [lk] at hl
  | ob b=>obtain ⟨l,b,hl,_⟩:=hy; simp [lko] at hl
 obtain ⟨N1,vs1,st1,k1,k2,k3,k4,k5,k6⟩:=jk hC ks x (SSim.empty ⟨id,id,id,id⟩ 0 0 s0) hv hn (fun y hy hh=>hno y hh) h;rw [qR,zB5] at k1;subst k4;refine jJ (PP:=fun e=>e=syn/\(some none:Option (Option (zA ko)))=some oc) hT hC hm (zCH hT hC hm hpf hrf hin hor hrr hpp d fi.wr fi.own) c k3 (zLS (zLD slots vs1 k5) cs) k1 hok hhd (fun e s' hq=>?_) ?_
 . obtain ⟨h1,h2⟩:=hq;injection h2 with h2
   exact ⟨h1,h2.symm⟩
 . intro ex N' e' st' E' s' u1 u2 u3 u4 u5;have fin:(qG C ko (oslots.map fun k=>eget e' k) st' fun y _=>some (some y))=some oc->∃ y,oc=some y/\∃ q,VKs C s' ko y (oslots.map E'.get) q/\q.Nodup:=fun hh=>by
    obtain ⟨y,st3,q,h3,_,_,_,h4,h5,_,_⟩:=jS hC ko (vs:=oslots.map fun k=>eget e' k) (vs':=oslots.map E'.get) u3 (by simp) (fun j x v a b=>by
     rw [List.getElem?_map] at a b;cases hk:oslots[j]? with
     | none=>rw [hk] at a; cases a
     | some k=>
      rw [hk] at a b;injection a with a
      injection b with b
      subst a; subst b;exact (u4 k).1) hh
    injection h3 with h3
    exact ⟨y,h3.symm,q,h4,h5⟩
   have all:chkC cs e' (qG C ko (oslots.map fun k=>eget e' k) st' fun y _=>some (some y))=some oc->QEnd C ko cs oslots oc E' s':=fun u1=>by
    obtain ⟨v1,v2⟩:=zK5 u1;refine ⟨fun p hp=>?_,fin v1⟩;obtain ⟨v,hv⟩:=v2 p hp;have h1:eget e' p.1=eget (conT cs (zipT slots vs1)) p.1:=by
     rcases u5 p.1 (hcs p hp) with q | q
     . exact q
     . rw [hv] at q; cases q
    have h2:=(u4 p.1).1;have key:∀ (cs:List (Nat×Value)) (e:En U) (E:Env),p ∈ cs->eget (conT cs e) p.1 = .con ((cs.find? fun q=>Nat.beq q.1 p.1).getD p).2/\(conE cs E).get p.1 = .at ((cs.find? fun q=>Nat.beq q.1 p.1).getD p).2:=by
     intro cs
     induction cs with
     | nil=>intro _ _ h; cases h
     | cons a cs ih=>
      intro e E h;by_cases e1:a.1=p.1
      . have e2:Nat.beq a.1 p.1=true:=by simpa using e1
        simp only [conT,eget,conE,Env.get,e2,cond_true,if_pos e1,List.find?_cons_of_pos,Option.getD_some];exact ⟨trivial,trivial⟩
      . have e2:¬ (Nat.beq a.1 p.1=true):=by simpa using e1
        have hp':p ∈ cs:=by
         rcases List.mem_cons.1 h with rfl | h
         . exact absurd rfl e1
         . exact h
        simp only [conT,eget,conE,Env.get,xo e1,cond_false,if_neg e1];have:=ih e E hp';rw [List.find?_cons_of_neg (by simpa using e2)];exact this
    rcases h2 with h2 | h2
    . rw [hv] at h2; cases h2
    . rw [h2,h1,(key cs _ [] hp).1,(key cs (zipT slots vs1) [] hp).2]; rfl
   cases ex with
   | normal=>exact all u1
   | ret=>
    obtain ⟨w1,w2⟩:=zO u1;exact ⟨w1,all w2⟩
   | exit id=>
    obtain ⟨w1,w2⟩:=zO u1;exact ⟨by simpa using w1,all w2⟩
   | goto l=>cases u1
   | panic c=>cases u1
   | outgrown=>cases u1
end
end
end Go.Den
namespace Go.Proofs.YtnamdpbcpnnhaaaGreatDoor
section
open Go.Al Go.Den
def kf17:Nat->List Nat
 | 0=>[0,2,3,4]
 | 1=>[0,2,3,4,8]
 | 2=>[0,2,3,4]
 | 3=>[0,2,3]
 | 4=>[0,2,3,4]
 | 5=>[0,2,3,4,5]
 | 6=>[0,2,3,4,5,22]
 | 7=>[0,2,3,4,5]
 | 8=>[0,2,3,4]
 | _=>[]
def hd17:List (Nat×Head UU):=[(6,⟨[0,2,3,4,5],[],[(4,parK),(5,ptsK)]⟩)]
noncomputable def fd17:FD UU:=⟨⟨fun d=>hasN [] d,fun d=>hasN [] d,kf17,zD hd17,zD [],zn []⟩,zZ Tryz.f17,28,[.cell 2 29,.cell 3 30]⟩
noncomputable def zJh:Code:=match zZ Tryz.f17 with
 | .seq _ (.seq _ (.seq _ (.seq _ (.seq _ (.seq (.block _ c) _)))))=>c
 | _=>.skip
abbrev k17:LK:=[.dl TI.tok,parK,ptsK]
noncomputable def run17 (fu:Nat) (v2 v3:Value) (c37:zA kB->MM (zA kN)) (x:zA k17):Option (Option (zA ([parK,ptsK]:LK))):=
 runQ CC Tb fu 3 (zD [(36,fd36)]) (zD []) (zD [(38,ky)]) (zD [(37,cM kB kN c37)]) fd17.fi zJh [(2,v2),(3,v3)] false [0,4,5] [4,5] k17 ([parK,ptsK]:LK) x
noncomputable def rest17b:Code:=match zZ Tryz.f17 with
 | .seq _ (.seq _ (.seq _ (.seq _ (.seq _ (.seq _ c)))))=>c
 | _=>.skip
abbrev k17b:LK:=[.box [.int .i64,.int .i64,.dl TI.node],.box [.int .i64],ptsK]
abbrev k17c:LK:=[.box [.int .i64,.int .i64,.dl TI.node],.box [.int .i64]]
noncomputable def zMx (x:zA k17b):Option (Option (zA k17c)):=
 runQ CC Tb 0 2 (zD []) (zD []) (zD [(38,ky)]) (zD []) fd17.fi rest17b [] true [2,3,5] [2,3] k17b k17c x
theorem zMT:FDOk Tryz.prog (hasN []) (hasN [38]) 36 fd36:=fdk Tryz.func36 Tryz.ntmps36 Tryz.results36
end
section
open Go.Al Go.Den
def sh17 (fu:Nat) (v2:Go.Value) (v3:Go.Value) (c37:(Bool×Unit)->MM (Nd×Unit)) (x:(LT×(ParT×(NdsT×Unit)))):(Option (Option (ParT×(NdsT×Unit)))):=iter fu (fun (rec1:(Unit×(ParT×(NdsT×Unit)))->Option (Option (ParT×(NdsT×Unit)))) (s1:(Unit×(ParT×(NdsT×Unit))))=>cond (ilt s1.2.1.2.1 (lenI x.1)) (bo (c37 (true,()) s1.2.1.1 (s1.2.1.2.1,s1.2.1.2.2.1)) fun y1=>cond (okN 40 ((List.length s1.2.2.1.1)+(List.length [(ndE y1.1.1)]))) (rec1 ((),((s1.2.1.1,(y1.2.1,(y1.2.2,((),())))),(((s1.2.2.1.1++[(ndE y1.1.1)]),()),())))) (none)) (some (some ((s1.2.1.1,(s1.2.1.2.1,(s1.2.1.2.2.1,((),())))),((s1.2.2.1.1,()),()))))) ((),((x.2.1.1,(x.2.1.2.1,(x.2.1.2.2.1,((),())))),((x.2.2.1.1,()),())))
theorem eq17:@run17 = @sh17:=by kernel_rfl
def sh17r (x:(JT×((Int×Unit)×(NdsT×Unit)))):(Option (Option (JT×((Int×Unit)×Unit)))) :=  let u0:=Nd.mk 1 0 x.2.2.1.1; some (some (((Nd.kind u0),((Nd.tok u0),((Nd.kids u0),()))),((0,()),())))
theorem eq17r:@zMx = @sh17r:=by kernel_rfl
end
section
open Go.RowKit Go.Al
theorem idle35 (p q:Addr) (w:World) :
 CallsD Tryz.prog 35 #[.pointer (some p),.pointer (some q)] .returning w fun e u' w'=>e = .returned (.tuple #[])/\u' = .returning/\w' = w:=by
 refine callsD_of_wpS Tryz.func35 rfl fun c₀ cs hu=>?_;apply wpS_seq;apply wpS_region;simp [wpOpsS,go_sem,recoverD,hu,Tryz.ntmps35,Exit.thenS];refine wpS_of_wp ?_;have hnil:∀ w:World,(binOp BinOp.eql 20 .nilIface .nilIface).run Tryz.prog w = .ok (.bool true) w:=fun _=>by kernel_rfl
 go_wp2;cases c₀
 simp_all [bodyPostS,results,Tryz.results35]
set_option maxRecDepth 100000 in
theorem syn35 (p q:Nat) (x0 x1 x2 y0:Value) (tp tq:TypeId) (older:List PanicEntry) (w:World) (hp:w.heap[p]? = some (.cells #[x0,x1,x2] tp (0,0))) (hq:w.heap[q]? = some (.cells #[y0] tq (0,0))) (hpq:p≠q) :
 CallsD Tryz.prog 35 #[.pointer (some ⟨p,0,none⟩),.pointer (some ⟨q,0,none⟩)] (.panicking ({ v:=.iface 61 (.agg #[]),recovered:=false }::older)) w fun e u' w'=>e = .returned (.tuple #[])/\u' = .panicking ({ v:=.iface 61 (.agg #[]),recovered:=true }::older) /\
  w.heap.size<=w'.heap.size/\w'.heap[p]? = some (.cells #[.int .i64 0,.int .i64 0,.slice none 0 0] tp (0,0))/\w'.heap[q]? = some (.cells #[.int .i64 160] tq (0,0))/\(∀ j,j < w.heap.size->j≠p->j≠q->w'.heap[j]? = w.heap[j]?)/\w'.os=w.os/\w'.tape=w.tape/\w'.output=w.output:=by
 refine callsD_of_wpS Tryz.func35 rfl fun c₀ cs hu=>?_;apply wpS_seq;apply wpS_region;simp [wpOpsS,go_sem,recoverD,hu,Tryz.ntmps35,Exit.thenS];refine wpS_of_wp ?_;have hcp0:w.cell? ⟨p,0,none⟩=some x0:=by simp [World.cell?,hp]
 have hcp1:w.cell? ⟨p,1,none⟩=some x1:=by simp [World.cell?,hp]
 have hcp2:w.cell? ⟨p,2,none⟩=some x2:=by simp [World.cell?,hp]
 have hcq:w.cell? ⟨q,0,none⟩=some y0:=by simp [World.cell?,hq]
 have hfp:∀ o,w.frozen? ⟨p,o,none⟩=false:=fun o=>by simp [World.frozen?,hp]
 have hfq:w.frozen? ⟨q,0,none⟩=false:=by simp [World.frozen?,hq]
 have hta:∀ w:World,(Instr.typeAssert (.iface 61 (.agg #[])) 20 61 true).run Tryz.prog w = .ok (.tuple #[.agg #[],.bool true]) w:=fun _=>by kernel_rfl
 have lp:=(Array.getElem?_eq_some_iff.1 hp).1;have lq:=(Array.getElem?_eq_some_iff.1 hq).1;have hp1:(w.alloc (.cells #[] 61)).heap[p]? = some (.cells #[x0,x1,x2] tp (0,0)):=(Below.heap_alloc _ _ _ lp).trans hp;have hq1:(w.alloc (.cells #[] 61)).heap[q]? = some (.cells #[y0] tq (0,0)):=(Below.heap_alloc _ _ _ lq).trans hq;obtain ⟨W1,hW1⟩:∃ W1,w.alloc (.cells #[] 61)=W1:=⟨_,rfl⟩;rw [hW1] at hp1 hq1;have sc:∀ (W:World) (k i:Nat) (v:Value) (c:Array Value) (t:TypeId) (m:Nat×Nat),W.heap[k]? = some (.cells c t m)->(W.setCell ⟨k,i,none⟩ v).heap[k]? = some (.cells (c.setIfInBounds i v) t m):=by
  intro W k i v c t m h;show (W.heap.modify k _)[k]? = _;obtain ⟨hlt,hk⟩:=Array.getElem?_eq_some_iff.1 h;rw [Array.getElem?_eq_getElem (by rw [Array.size_modify]; exact hlt),Array.getElem_modify_self,hk];rfl
 have so:∀ (W:World) (k i:Nat) (v:Value) (j:Nat),j≠k->(W.setCell ⟨k,i,none⟩ v).heap[j]? = W.heap[j]?:=fun W k i v j hj=>Below.heap_setCell _ _ _ j hj;have sz:∀ (W:World) (k i:Nat) (v:Value),(W.setCell ⟨k,i,none⟩ v).heap.size=W.heap.size:=fun W k i v=>by show (W.heap.modify k _).size=_; simp
 have a1:(W1.setCell ⟨p,0,none⟩ (.int .i64 0)).heap[p]? = some (.cells #[.int .i64 0,x1,x2] tp (0,0)):=sc W1 p 0 _ _ _ _ hp1;have a2:((W1.setCell ⟨p,0,none⟩ (.int .i64 0)).setCell ⟨p,1,none⟩ (.int .i64 0)).heap[p]? = some (.cells #[.int .i64 0,.int .i64 0,x2] tp (0,0)):=sc _ p 1 _ _ _ _ a1;have a3:(((W1.setCell ⟨p,0,none⟩ (.int .i64 0)).setCell ⟨p,1,none⟩ (.int .i64 0)).setCell ⟨p,2,none⟩ (.slice none 0 0)).heap[p]? = some (.cells #[.int .i64 0,.int .i64 0,.slice none 0 0] tp (0,0)):=sc _ p 2 _ _ _ _ a2;have q3:(((W1.setCell ⟨p,0,none⟩ (.int .i64 0)).setCell ⟨p,1,none⟩ (.int .i64 0)).setCell ⟨p,2,none⟩ (.slice none 0 0)).heap[q]? = some (.cells #[y0] tq (0,0)):=by
  rw [so _ _ _ _ _ (Ne.symm hpq),so _ _ _ _ _ (Ne.symm hpq),so _ _ _ _ _ (Ne.symm hpq)]; exact hq1
 have b0:W1.cell? ⟨p,0,none⟩=some x0:=by simp [World.cell?,hp1]
 have f0:W1.frozen? ⟨p,0,none⟩=false:=by simp [World.frozen?,hp1]
 have b1:(W1.setCell ⟨p,0,none⟩ (.int .i64 0)).cell? ⟨p,1,none⟩=some x1:=by simp [World.cell?,a1]
 have f1:(W1.setCell ⟨p,0,none⟩ (.int .i64 0)).frozen? ⟨p,1,none⟩=false:=by simp [World.frozen?,a1]
 have b2:((W1.setCell ⟨p,0,none⟩ (.int .i64 0)).setCell ⟨p,1,none⟩ (.int .i64 0)).cell? ⟨p,2,none⟩=some x2:=by simp [World.cell?,a2]
 have f2:((W1.setCell ⟨p,0,none⟩ (.int .i64 0)).setCell ⟨p,1,none⟩ (.int .i64 0)).frozen? ⟨p,2,none⟩=false:=by simp [World.frozen?,a2]
 have b3:(((W1.setCell ⟨p,0,none⟩ (.int .i64 0)).setCell ⟨p,1,none⟩ (.int .i64 0)).setCell ⟨p,2,none⟩ (.slice none 0 0)).cell? ⟨q,0,none⟩=some y0:=by simp [World.cell?,q3]
 have f3:(((W1.setCell ⟨p,0,none⟩ (.int .i64 0)).setCell ⟨p,1,none⟩ (.int .i64 0)).setCell ⟨p,2,none⟩ (.slice none 0 0)).frozen? ⟨q,0,none⟩=false:=by simp [World.frozen?,q3]
 have ho1:∀ j,j < w.heap.size->W1.heap[j]? = w.heap[j]?:=fun j hj=>by rw [<- hW1]; exact Below.heap_alloc _ _ _ hj
 have hs1:W1.heap.size=w.heap.size+1:=by rw [<- hW1]; simp
 have hos:W1.os=w.os/\W1.tape=w.tape/\W1.output=w.output:=by rw [<- hW1]; exact ⟨rfl,rfl,rfl⟩
 go_wp2;refine ⟨rfl,.panicking ({ v:=.iface 61 (.agg #[]),recovered:=true }::older),by simp [hu],_,results_none rfl _ _ _,rfl,rfl,?_⟩;refine ⟨by rw [sz,sz,sz,sz,hs1]; omega,?_,sc _ q 0 _ _ _ _ q3,fun j h1 h2 h3=>?_,hos⟩
 . rw [so _ _ _ _ _ hpq]; exact a3
 . rw [so _ _ _ _ _ h3,so _ _ _ _ _ h2,so _ _ _ _ _ h2,so _ _ _ _ _ h2]; exact ho1 j h1
end
section
open Go.Al Go.Den Go.RowKit
attribute [local congr] ym xO xT xn yO yq yF yE yn xM yo xW yw yk yB yK yg xZ xU yS xL yj yU yR yr yu yV yl yh yY xm xY xV xK xP xN yi yX yT
theorem zNd (fu:Nat) (v2 v3:Value) (c37:Bool×Unit->MM (Nd×Unit)) (h37:CPOk CC Tryz.prog syn 37 (cM ([.bool]:LK) ([.st TI.node]:LK) c37)) {X:Cx} (hX:X.N=⟨28,[(2,v2),(3,v3)]⟩) {x:zA k17} {oc:Option (zA ([parK,ptsK]:LK))} (h:sh17 fu v2 v3 c37 x=some oc)
 {s0:S} {vx:List V} {rs:List Res} (hv:VKs CC s0 k17 x vx rs) (hn:rs.Nodup):awp Tryz.prog X zJh (zLw CC syn ([parK,ptsK]:LK) false [(2,v2),(3,v3)] [4,5] oc) (conE [(2,v2),(3,v3)] (zipE [0,4,5] vx)) s0:=by
 have e:run17 fu v2 v3 c37 x=some oc:=by rw [eq17]; exact h
 exact zLP (fu:=fu) (d:=3) (inl:=zD [(36,fd36)]) (orc:=zD []) (orr:=zD [(38,ky)]) (orp:=zD [(37,cM ([.bool]:LK) ([.st TI.node]:LK) c37)]) (pf:=hasN []) (rf:=hasN [38]) zGA CCok mixed (fun g=>(qI (α:=Con UU) (l:=[]) g).symm) (fun g=>(qI (α:=CR UU) (l:=[(38,ky)]) g).symm)
  (zF zMT zE) zE (zF ⟨zJS,ok38⟩ zE) (zF ⟨zNI,h37⟩ zE) (fi:=fd17.fi) (cs:=[(2,v2),(3,v3)]) (slots:=[0,4,5]) (oslots:=[4,5]) (by rw [hX]; kernel_rfl) (by kernel_rfl) e (by
   intro p hp;have hd:dsts fd17.fi zJh=[16,17,18,19,20,21,22,23,24,25,26]:=by kernel_rfl
   rw [hd];simp only [List.mem_cons,List.not_mem_nil,or_false] at hp;rcases hp with rfl | rfl
   . show (2:Nat) ∉ _; decide
   . show (3:Nat) ∉ _; decide) hv hn
set_option maxRecDepth 100000 in
set_option maxHeartbeats 1000000 in
theorem long17 (a:Option Addr) (n cap:Nat) (h:4000 < n) (w:World) :
 Calls Tryz.prog 17 #[.slice a n cap] w fun e w'=>e = .returned (.tuple #[.agg #[.int .i64 0,.int .i64 0,.slice none 0 0],.int .i64 2])/\Below w.heap.size w w':=by
 have h4:(4000:Int) < (n:Int):=by omega
 go_enter_defers Tryz.func17,Tryz.ntmps17
 go_wp2;simp [bodyPostD,Leaves,results,Tryz.results17,go_sem];exact ((Below.refl _ w).alloc (Nat.le_refl _) _).alloc (by simp) _
def z18 (l:List Nd):zA k17c:=(show (Int×Int×List Nd×Unit)×(Int×Unit)×Unit from ((1,0,l,()),(0,()),()))
theorem zNu {X:Cx} (hX:X.N=⟨28,[]⟩) {x:zA k17b} {s0:S} {vx:List V} {rs:List Res} (hv:VKs CC s0 k17b x vx rs) (hn:rs.Nodup):awp Tryz.prog X rest17b (zLw CC syn k17c true [] [2,3] (some (z18 x.2.2.1.1))) (conE [] (zipE [2,3,5] vx)) s0:=by
 have e:zMx x=some (some (z18 x.2.2.1.1)):=by rw [eq17r]; rfl
 exact zLP (fu:=0) (d:=2) (inl:=zD []) (orc:=zD []) (orr:=zD [(38,ky)]) (orp:=zD []) (pf:=hasN []) (rf:=hasN [38]) zGA CCok mixed (fun g=>(qI (α:=Con UU) (l:=[]) g).symm) (fun g=>(qI (α:=CR UU) (l:=[(38,ky)]) g).symm)
  zE zE (zF ⟨zJS,ok38⟩ zE) zE (fi:=fd17.fi) (cs:=[]) (slots:=[2,3,5]) (oslots:=[2,3]) (by rw [hX]; kernel_rfl) (by kernel_rfl) e (by simp) hv hn
theorem inv17 {wm:Nat->Nat} {w W6:World} {toks:V} {u0:Value} {tm tn tp:TypeId} (hwm:∀ b,w.heap.size<=b->wm b=0) (hsz:W6.heap.size=w.heap.size+6)
 (h2:W6.heap[w.heap.size+2]? = some (.map #[] 0)) (h3:W6.heap[w.heap.size+3]? = some (.cells #[.map (some (w.heap.size+2))] tm (0,0)))
 (h4:W6.heap[w.heap.size+4]? = some (.cells #[u0,.int .i64 0,.slice (some ⟨w.heap.size+3,0,none⟩) 1 1,.map none] tn (0,0))) (h5:W6.heap[w.heap.size+5]? = some (.cells #[.slice none 0 0] tp (0,0)))
 (h1:toks.isOne=true) (hu:RC ⟨wm,fun t=>if t=0 then some none else none,Fr.no⟩ W6 toks [u0]) :
 Al.Inv (w.heap.size+2) ⟨wm,fun t=>if t=0 then some none else none,Fr.no⟩ ⟨[(w.heap.size+4,[toks,.at (.int .i64 0),.at (.slice (some ⟨w.heap.size+3,0,none⟩) 1 1),.at (.map none)],4),(w.heap.size+5,[.lst (.own 0 true 3) []],1)],[0],1,[(w.heap.size+3,.sc [[]] 1,[w.heap.size+3,w.heap.size+2])]⟩ W6:=by
 have hno:∀ (t:Nat) (d:Nat×Nat×Nat×Nat),(if t=0 then some (none:Option (Nat×Nat×Nat×Nat)) else none)=some (some d)->False:=fun t d h=>by
  by_cases e:t=0 <;> simp [e] at h
 have hlk:∀ b c,Al.look [(w.heap.size+4,[toks,.at (.int .i64 0),.at (.slice (some ⟨w.heap.size+3,0,none⟩) 1 1),.at (.map none)],4),(w.heap.size+5,[.lst (.own 0 true 3) []],1)] b=some c->(b=w.heap.size+4/\c=([toks,.at (.int .i64 0),.at (.slice (some ⟨w.heap.size+3,0,none⟩) 1 1),.at (.map none)],4))\/(b=w.heap.size+5/\c=([.lst (.own 0 true 3) []],1)):=fun b c h=>by
  by_cases e:w.heap.size+4=b
  . subst e; simp [Al.look] at h; exact .inl ⟨rfl,h.symm⟩
  . by_cases e2:w.heap.size+5=b
    . subst e2; simp [Al.look] at h; exact .inr ⟨rfl,h.symm⟩
    . simp [Al.look,e,e2] at h
 have hlo:∀ b o fp,zG [(w.heap.size+3,OV.sc [[]] 1,[w.heap.size+3,w.heap.size+2])] b=some (o,fp)->b=w.heap.size+3/\o = .sc [[]] 1/\fp=[w.heap.size+3,w.heap.size+2]:=fun b o fp h=>by
  rw [zJ] at h;by_cases e:w.heap.size+3=b
  . rw [if_pos e] at h; injection h with h; obtain ⟨h1,h2⟩:=Prod.mk.inj h; exact ⟨e.symm,h1.symm,h2.symm⟩
  . rw [if_neg e] at h; cases h
 refine ⟨by omega,fun b cs k h=>?_,fun t ht=>?_,fun t ht b cap n sz h=>(hno t _ h).elim,fun t ht t' ht' b x y h=>(hno t _ h).elim,by simp,fun b hb=>hwm b (by omega),fun t ht=>?_,fun b hb=>(by cases hb),fun b o fp h=>?_,fun b o fp b' o' fp' j h h' _ _=>(hlo b _ _ h).1.trans (hlo b' _ _ h').1.symm,fun t ht=>(by cases ht)⟩
 . rcases hlk b _ h with ⟨rfl,e⟩ | ⟨rfl,e⟩
   . obtain ⟨rfl,rfl⟩:=Prod.mk.inj e;refine ⟨by omega,hwm _ (by omega),Nat.le_refl _,fun c hc=>(by simp at hc; rcases hc with rfl | rfl | rfl | rfl <;> first | exact h1 | rfl),_,_,_,h4,rfl,?_,rfl⟩;simp only [RCs];exact ⟨[u0],_,rfl,hu,[_],_,rfl,by simp [RC,one],[_],_,rfl,by simp [RC,one],[_],_,rfl,by simp [RC,one],rfl⟩
   . obtain ⟨rfl,rfl⟩:=Prod.mk.inj e;refine ⟨by omega,hwm _ (by omega),Nat.le_refl _,by simp [V.isOne],_,_,[.slice none 0 0],h5,rfl,?_,rfl⟩;simp only [RCs,RC];exact ⟨_,[],rfl,.inl ⟨trivial,rfl,rfl,rfl⟩,rfl⟩
 . simp only [List.mem_singleton] at ht; subst ht; exact ⟨none,rfl⟩
 . show (if t=0 then _ else _)=_;rw [if_neg (by show t≠0; have:1<=t:=ht; omega)]
 . obtain ⟨rfl,rfl,rfl⟩:=hlo b o fp h;refine ⟨⟨[w.heap.size+2],_,_,rfl,by simp,h3,rfl,Nat.le_refl _,rfl,⟨[],[],rfl,⟨_,_,h2,rfl⟩,rfl⟩⟩,by simp,fun j hj=>?_⟩;simp only [List.mem_cons,List.not_mem_nil,or_false] at hj;refine ⟨by rcases hj with rfl | rfl <;> omega,by rcases hj with rfl | rfl <;> omega,hwm j (by rcases hj with rfl | rfl <;> omega),?_,fun t ht d hd=>hno t _ hd,rfl⟩;cases e:Al.look [(w.heap.size+4,[toks,.at (.int .i64 0),.at (.slice (some ⟨w.heap.size+3,0,none⟩) 1 1),.at (.map none)],4),(w.heap.size+5,[.lst (.own 0 true 3) []],1)] j with
   | none=>rfl
   | some c=>rcases hlk j c e with ⟨e1,_⟩ | ⟨e1,_⟩ <;> rcases hj with rfl | rfl <;> omega
end
section
open Go.Al Go.Den Go.RowKit
attribute [local congr] ym xO xT xn yO yq yF yE yn xM yo xW yw yk yB yK yg xZ xU yS xL yj yU yR yr yu yV yl yh yY xm xY xV xK xP xN yi yX yT
theorem Inv.lower {B B':Nat} {g:Gh} {st:S} {w:World} (h:Al.Inv B g st w) (hB:B'<=B):Al.Inv B' g st w:=
 ⟨Nat.le_trans hB h.base,fun b cs k hb=>let ⟨q1,q⟩:=h.box b cs k hb; ⟨Nat.le_trans hB q1,q⟩,h.tag,fun t ht b cap n sz hb=>let ⟨q1,q⟩:=h.own t ht b cap n sz hb; ⟨Nat.le_trans hB q1,q⟩,h.dist,h.nodup,h.fresh,h.names,
  h.ex.frz,fun b o fp hl=>let ⟨q1,q2,q3⟩:=h.ex.ob b o fp hl; ⟨q1,q2,fun j hj=>let ⟨r1,r⟩:=q3 j hj; ⟨Nat.le_trans hB r1,r⟩⟩,h.ex.obd,h.ex.ft⟩
abbrev pv (n:Nat):Value:=.pointer (some ⟨n,0,none⟩)
abbrev zGL (n:Nat):List Deferred:=[{ target:=.fn (.func 35) #[pv n,pv (n+1)],args:=#[] }]
theorem inv35 (n:Nat) (W:World):(invoke (.fn (.func 35) #[pv n,pv (n+1)]) #[]).run Tryz.prog W = .ok (.enter 35 #[pv n,pv (n+1)]) W:=by kernel_rfl
set_option maxHeartbeats 1000000 in
theorem fin17g {k0:SK UU} {n:Nat} {g:Gh} {a:Act} {W:World} {e:Env} {s:S} (h2:Rel ⟨n+2,⟨28,[(2,pv n),(3,pv (n+1))]⟩,none,zGL n⟩ g e s a W) {y:zA ([k0,ptsK]:LK)}
 (hq:QEnd CC ([k0,ptsK]:LK) [(2,pv n),(3,pv (n+1))] [4,5] (some y) e s) (hn:W.heap[n]? = some (.cells #[.int .i64 0,.int .i64 0,.slice none 0 0] 29 (0,0))) (hn1:W.heap[n+1]? = some (.cells #[.int .i64 0] 30 (0,0)))
 (hw0:g.wm n=0) (hw1:g.wm (n+1)=0) (hgl:GlobOk n g.wm W) (hfr:g.fr=Fr.no) {R:Ending->World->Prop}
 (hR:∀ g' W' v,Step n g W g' W'->(∀ b,W'.heap.size<=b->g'.wm b=0)->RV g'.bare W' (.tup [zc (Nd.mk 1 0 y.2.1.1),.at (.int .i64 0)]) v->R (.returned v) W') :
 rest17b.wp Tryz.prog (bodyPostD Tryz.prog Tryz.f17 R) a W:=by
 obtain ⟨hc,y',hy,q,hv,hnd⟩:=hq;injection hy with hy
 subst hy;simp only [List.map_cons,List.map_nil] at hv;obtain ⟨v4,vs4,r4,r4',e4,rfl,k4,hv⟩:=hv;obtain ⟨v5,vs5,r5,r5',e5,rfl,k5,hv⟩:=hv;obtain ⟨rfl,rfl⟩:=hv;subst e5;injection e4 with e4 e4'
 injection e4' with e5 _
 obtain ⟨b,vs,rs',rfl,hl5,hv5,rfl⟩:=k5;obtain ⟨vo,_,_,_,rfl,rfl,⟨m,rfl,hm1,hm2,rfl⟩,rfl,rfl⟩:=hv5;have i0:=Inv.lower h2.inv (Nat.le_add_right n 2);have hlk:∀ b c,Al.look s.box b=some c->n+2<=b:=fun b c h=>(h2.inv.box b c.1 c.2 h).1;have hno:∀ j,j < n+2->∀ t ∈ s.tg,∀ d,g.tb t=some (some (j,d))->False:=fun j hj t ht d hd=>by
  obtain ⟨cap,n',sz⟩:=d;have:=(h2.inv.own t ht j cap n' sz hd).1;simp only at this;omega
 have hob:∀ j,j < n+2->∀ b' o fp,zG s.ob b' = some (o,fp)->j ∉ fp:=fun j hj b' o fp h hm=>by
  have:=((h2.inv.ex.ob b' o fp h).2.2 j hm).1;simp only at this;omega
 have i1:=i0.addBox (b:=n) (cs:=[.at (.int .i64 0),.at (.int .i64 0),.lst .nil []]) (us:=[.int .i64 0,.int .i64 0,.slice none 0 0]) (Nat.le_refl _) hw0 hn (by simp) (by simp [V.isOne])
  (by simp only [RCs,RC]; exact ⟨[_],_,rfl,⟨rfl,rfl⟩,[_],_,rfl,⟨rfl,rfl⟩,[_],[],rfl,.inl ⟨trivial,rfl,trivial⟩,rfl⟩) rfl (hno n (by omega)) (by rw [hfr]; rfl) (hob n (by omega))
 have i2:=i1.addBox (b:=n+1) (cs:=[.at (.int .i64 0)]) (us:=[.int .i64 0]) (Nat.le_succ _) hw1 hn1 (by simp) (by simp [V.isOne])
  (by simp only [RCs,RC]; exact ⟨[_],[],rfl,⟨rfl,rfl⟩,rfl⟩) rfl (hno (n+1) (by omega)) (by rw [hfr]; rfl) (hob (n+1) (by omega))
 have r2:Rel ⟨n,⟨28,[]⟩,none,zGL n⟩ g (conE [] (zipE [2,3,5] [.at (pv n),.at (pv (n+1)),.at (pv b)])) _ a W:=⟨i2,fun k=>by
  rcases (Env.sub_of e [(2,.at (pv n)),(3,.at (pv (n+1))),(5,.at (pv b))] (fun p hp=>by
   simp only [List.mem_cons,List.not_mem_nil,or_false] at hp;rcases hp with rfl | rfl | rfl
   . exact hc (2,pv n) (by simp)
   . exact hc (3,pv (n+1)) (by simp)
   . exact e5)) k with hk | hk
  . show RV g W (Env.get [(2,.at (pv n)),(3,.at (pv (n+1))),(5,.at (pv b))] k) _;rw [hk];exact h2.env k
  . show RV g W (Env.get [(2,.at (pv n)),(3,.at (pv (n+1))),(5,.at (pv b))] k) _;rw [hk];trivial,⟨h2.size.1,by simp⟩,h2.df,hgl⟩
 have hb5:=hlk _ _ hl5;have hV:VKs CC ⟨lay (lay s.box n ([.at (.int .i64 0),.at (.int .i64 0),.lst .nil []],3)) (n+1) ([.at (.int .i64 0)],1),s.tg,s.nx,s.ob⟩ k17b (show (Int×Int×List Nd×Unit)×(Int×Unit)×(List Nd×Unit)×Unit from ((0,0,[],()),(0,()),(y.2.1.1,()),())) [.at (pv n),.at (pv (n+1)),.at (pv b)] [.inr n,.inr (n+1),.inr b,.inl m]:=
  ⟨_,_,[.inr n],[.inr (n+1),.inr b,.inl m],rfl,rfl,⟨n,_,[],rfl,by simp only [zN,if_neg (show ¬ n+1=n by omega),if_true]; rfl,⟨_,_,[],[],rfl,rfl,⟨rfl,rfl⟩,_,_,[],[],rfl,rfl,⟨rfl,rfl⟩,_,_,[],[],rfl,rfl,⟨rfl,rfl⟩,rfl,rfl⟩,rfl⟩,
   _,_,[.inr (n+1)],[.inr b,.inl m],rfl,rfl,⟨n+1,_,[],rfl,by simp only [zN,if_true]; rfl,⟨_,_,[],[],rfl,rfl,⟨rfl,rfl⟩,rfl,rfl⟩,rfl⟩,
   _,_,[.inr b,.inl m],[],rfl,rfl,⟨b,_,[.inl m],rfl,by simp only [zN,if_neg (show ¬ n+1=b by omega),if_neg (show ¬ n=b by omega)]; exact hl5,⟨_,_,[.inl m],[],rfl,rfl,⟨m,rfl,hm1,hm2,rfl⟩,rfl,rfl⟩,rfl⟩,rfl,rfl⟩
 have H:=zNu (X:=⟨n,⟨28,[]⟩,none,zGL n⟩) rfl hV (by simp; omega) g a W r2;refine wpIn_wide.1 (wpIn_mono H ?_);rintro ex a3 W3 ⟨g3,e3,s3,k1,k2,k3⟩;have fin:QEnd CC k17c [] [2,3] (some (z18 y.2.1.1)) e3 s3->Leaves Tryz.prog Tryz.f17 a3.tmps R a3.defers .returning W3:=by
  rintro ⟨_,y',hy,q,hv,hnd⟩;injection hy with hy
  subst hy;obtain ⟨v2,vs2,_,_,e2,rfl,⟨b2,cs2,_,rfl,hl2,hv2,rfl⟩,hv⟩:=hv;obtain ⟨v3,vs3,_,_,e3',rfl,⟨b3,cs3,_,rfl,hl3,hv3,rfl⟩,rfl,rfl⟩:=hv;subst e3';obtain ⟨_,_,_,_,rfl,rfl,⟨rfl,rfl⟩,_,_,_,_,rfl,rfl,⟨rfl,rfl⟩,_,_,_,_,rfl,rfl,⟨rfl,rfl⟩,rfl,rfl⟩:=hv2;obtain ⟨_,_,_,_,rfl,rfl,⟨rfl,rfl⟩,rfl,rfl⟩:=hv3;injection e2 with e2 e2'
  injection e2' with e3' _
  rw [k2.df];refine leaves_cons (f:=35) (args:=#[pv n,pv (n+1)]) (by simp) (inv35 n W3) (CallsD.mono (idle35 ⟨n,0,none⟩ ⟨n+1,0,none⟩ W3) ?_);rintro en u' w' ⟨rfl,rfl,rfl⟩;have hres:ya Tryz.prog [.cell 2 29,.cell 3 30] e3 s3 fun xs=>xs=[zc (Nd.mk 1 0 y.2.1.1),.at (.int .i64 0)]:=by
   simp only [ya,xw,e2,e3',hl2,hl3,zy,zz,jd,hasT30,qy,zPz,zAc,aggT30];refine ⟨⟨trivial,by simp,by simp⟩,by simp [V.flat,zo,zL,V.isOne],⟨trivial,by simp,by simp⟩,by simp [V.flat,zL,V.isOne],?_⟩;have e1:zc (Nd.mk 1 0 y.2.1.1) = .agg [.at (.int .i64 1),.at (.int .i64 0),.lst (zw (y.2.1.1.map (CC.encV TI.node))) (y.2.1.1.map (CC.encV TI.node))]:=qH 1 0 (show List Nd from y.2.1.1);have e2:=CCok.untag TI.node (Nd.mk 1 0 y.2.1.1);change (zc (Nd.mk 1 0 y.2.1.1)).untag=zc (Nd.mk 1 0 y.2.1.1) at e2;simp only [if_true,Bool.false_eq_true,if_false];show [Al.V.untag (.agg [.at (.int .i64 1),.at (.int .i64 0),.lst (zw (y.2.1.1.map (CC.encV TI.node))) (y.2.1.1.map (CC.encV TI.node))]),Al.V.untag (.at (.int .i64 0))]=_;rw [<- e1,e2];rfl
  obtain ⟨xs,us,rfl,j2,j3⟩:=jo hres k2;have hrs:Tryz.f17.results.toList=[.cell 2 29,.cell 3 30]:=by rw [Tryz.results17]
  refine ⟨_,js (by rw [hrs]; exact j3),hR g3 _ _ k1 k2.inv.fresh (zC8 j2)⟩
 cases ex with
 | normal=>exact fin k3
 | ret=>exact fin k3.2
 | exit id=>cases k3.1.2
 | panic c=>cases k3.2
 | goto l=>exact k3.elim
 | outgrown=>exact k3.elim
end
section
open Go.Al Go.Den Go.RowKit
attribute [local congr] ym xO xT xn yO yq yF yE yn xM yo xW yw yk yB yK yg xZ xU yS xL yj yU yR yr yu yV yl yh yY xm xY xV xK xP xN yi yX yT
set_option maxHeartbeats 1000000 in
theorem bad17 {n:Nat} {a:Act} {W:World} (ht2:a.tmps.getD 2 undef=pv n) (ht3:a.tmps.getD 3 undef=pv (n+1)) (hdf:a.defers=zGL n)
 (hn:W.heap[n]? = some (.cells #[.int .i64 0,.int .i64 0,.slice none 0 0] 29 (0,0))) (hn1:W.heap[n+1]? = some (.cells #[.int .i64 0] 30 (0,0))) {R:Ending->World->Prop}
 (hR:∀ W',W.heap.size<=W'.heap.size->(∀ j,j < W.heap.size->j≠n->j≠n+1->W'.heap[j]? = W.heap[j]?)->W'.os=W.os->W'.tape=W.tape->W'.output=W.output->R (.returned (.tuple #[.agg #[.int .i64 0,.int .i64 0,.slice none 0 0],.int .i64 160])) W') :
 Leaves Tryz.prog Tryz.f17 a.tmps R a.defers (.panicking syn) W:=by
 rw [hdf];refine leaves_cons (f:=35) (args:=#[pv n,pv (n+1)]) (by simp) (inv35 n W) (CallsD.mono (syn35 n (n+1) _ _ _ _ _ _ [] W hn hn1 (by omega)) ?_);rintro en u' w' ⟨rfl,rfl,q1,q2,q3,q4,q5,q6,q7⟩;have hrs:Tryz.f17.results.toList=[.cell 2 29,.cell 3 30]:=by rw [Tryz.results17]
 refine ⟨_,js (us:=[.agg #[.int .i64 0,.int .i64 0,.slice none 0 0],.int .i64 160]) ?_,hR w' q1 q4 q5 q6 q7⟩;rw [hrs];have c0:w'.cell? ⟨n,0,none⟩=some (.int .i64 0):=by simp [World.cell?,q2]
 have c1:w'.cell? ⟨n,1,none⟩=some (.int .i64 0):=by simp [World.cell?,q2]
 have c2:w'.cell? ⟨n,2,none⟩=some (.slice none 0 0):=by simp [World.cell?,q2]
 have c3:w'.cell? ⟨n+1,0,none⟩=some (.int .i64 160):=by simp [World.cell?,q3]
 simp [zAD,ht2,ht3,go_sem,c0,c1,c2,c3]
theorem six (w:World) (o0 o1 o2 o3 o4 o5:Obj) {W6:World} (h:((((((w.alloc o0).alloc o1).alloc o2).alloc o3).alloc o4).alloc o5)=W6) :
 W6.heap.size=w.heap.size+6/\W6.heap[w.heap.size]? = some o0/\W6.heap[w.heap.size+1]? = some o1/\W6.heap[w.heap.size+2]? = some o2/\W6.heap[w.heap.size+3]? = some o3/\W6.heap[w.heap.size+4]? = some o4/\W6.heap[w.heap.size+5]? = some o5:=by
 have e:W6.heap=(((((w.heap.push o0).push o1).push o2).push o3).push o4).push o5:=by rw [<- h]; rfl
 rw [e];generalize w.heap=H;have L:∀ (A:Array Obj) (x:Obj) (i:Nat),i < A.size->(A.push x)[i]? = A[i]?:=fun A x i h=>by simp [Array.getElem?_push,Nat.ne_of_lt h]
 have N:∀ (A:Array Obj) (x:Obj) (i:Nat),i=A.size->(A.push x)[i]? = some x:=fun A x i h=>by subst h; simp
 refine ⟨by simp,?_,?_,?_,?_,?_,?_⟩ <;> (repeat rw [L _ _ _ (by simp only [Array.size_push]; omega)]) <;> exact N _ _ _ (by simp [Array.size_push])
abbrev x17 (l:List TokT):zA k17:=(show List TokT×ParT×NdsT×Unit from (l,(l,0,[[]],(),()),([],()),()))
def ans17:Option (ParT×NdsT×Unit)->V
 | none=>.tup [zc (Nd.mk 0 0 []),.at (.int .i64 160)]
 | some y=>.tup [zc (Nd.mk 1 0 y.2.1.1),.at (.int .i64 0)]
set_option maxRecDepth 100000 in
set_option maxHeartbeats 2000000 in
theorem zRN (fu:Nat) (c37:Bool×Unit->MM (Nd×Unit)) (h37:CPOk CC Tryz.prog syn 37 (cM ([.bool]:LK) ([.st TI.node]:LK) c37)) {l:List TokT} {oc:Option (ParT×NdsT×Unit)} (hlen:l.length<=4000)
 (hoc:sh17 fu (.int .i64 0) (.int .i64 0) c37 (x17 l)=some oc) (a:Option Addr) (cap:Nat) (wm:Nat->Nat) (w:World) (hwm:∀ b,w.heap.size<=b->wm b=0) (hgl:GlobOk w.heap.size wm w)
 (hu:RC ⟨wm,fun _=>none,Fr.no⟩ w (.lst (zw (l.map (CC.encV TI.tok))) (l.map (CC.encV TI.tok))) [.slice a l.length cap]) :
 Calls Tryz.prog 17 #[.slice a l.length cap] w fun e w'=>∃ v wm',e = .returned v/\(∀ b,w'.heap.size<=b->wm' b=0)/\Step w.heap.size ⟨wm,fun _=>none,Fr.no⟩ w ⟨wm',fun _=>none,Fr.no⟩ w'/\RV ⟨wm',fun _=>none,Fr.no⟩ w' (ans17 oc) v:=by
 have h4:¬ ((4000:Int) < (l.length:Int)):=by omega
 have hmf:∀ fn first cap w,(Instr.makeFunc fn first cap).run Tryz.prog w = .ok (.func fn first cap) w:=fun _ _ _ _=>rfl;have hmk:∀ w,(Instr.makeMap 63 none).run Tryz.prog w = .ok (.map (some w.heap.size)) (w.alloc (.map #[] 0)):=fun _=>by kernel_rfl
 go_enter_defers Tryz.func17,Tryz.ntmps17
 go_wp2;rename_i hle K hK;have B0:Below w.heap.size w ((((((w.alloc (.cells #[.int .i64 0,.int .i64 0,.slice none 0 0] 29)).alloc (.cells #[.int .i64 0] 30)).alloc (.map #[] 0)).alloc (.cells #[.map (some (w.heap.size+1+1))] 63)).alloc
  (.cells #[.slice a l.length cap,.int .i64 0,.slice (some ⟨w.heap.size+1+1+1,0,none⟩) 1 1,.map none] 66)).alloc (.cells #[.slice none 0 0] 68)):=
  ((((((Below.refl _ w).alloc (Nat.le_refl _) _).alloc (by simp) _).alloc (by simp; omega) _).alloc (by simp; omega) _).alloc (by simp; omega) _).alloc (by simp; omega) _
 obtain ⟨W6,hW6⟩:∃ W6,((((((w.alloc (.cells #[.int .i64 0,.int .i64 0,.slice none 0 0] 29)).alloc (.cells #[.int .i64 0] 30)).alloc (.map #[] 0)).alloc (.cells #[.map (some (w.heap.size+1+1))] 63)).alloc
  (.cells #[.slice a l.length cap,.int .i64 0,.slice (some ⟨w.heap.size+1+1+1,0,none⟩) 1 1,.map none] 66)).alloc (.cells #[.slice none 0 0] 68))=W6:=⟨_,rfl⟩
 obtain ⟨hsz,q0,q1,q2,q3,q4,q5⟩:=six w _ _ _ _ _ _ hW6;rw [hW6] at B0 ⊢;have hL:Later ⟨wm,fun _=>none,Fr.no⟩ w ⟨wm,fun t=>if t=0 then some none else none,Fr.no⟩ W6:=⟨fun _=>Nat.le_refl _,(fun _ _ e=>(by cases e)),fun b o ho=>World.cell?_of_block (B0.block b (by
  rcases Nat.lt_or_ge b w.heap.size with hh | hh
  . exact hh
  . replace ho:o < wm b:=ho; rw [hwm b hh] at ho; omega))⟩
 have hu':=zAy hL _ _ hu;have i0:=inv17 (toks:=.lst (zw (l.map (CC.encV TI.tok))) (l.map (CC.encV TI.tok))) hwm hsz q2 q3 q4 q5 rfl hu';have hV:VKs CC ⟨[(w.heap.size+4,[.lst (zw (l.map (CC.encV TI.tok))) (l.map (CC.encV TI.tok)),.at (.int .i64 0),.at (.slice (some ⟨w.heap.size+3,0,none⟩) 1 1),.at (.map none)],4),(w.heap.size+5,[.lst (.own 0 true 3) []],1)],[0],1,[(w.heap.size+3,.sc [[]] 1,[w.heap.size+3,w.heap.size+2])]⟩
  k17 (x17 l) [.lst (zw (l.map (CC.encV TI.tok))) (l.map (CC.encV TI.tok)),.at (pv (w.heap.size+4)),.at (pv (w.heap.size+5))] [.inr (w.heap.size+4),.ob (w.heap.size+3),.inr (w.heap.size+5),.inl 0]:=
  ⟨_,_,[],_,rfl,rfl,⟨rfl,rfl⟩,_,_,[.inr (w.heap.size+4),.ob (w.heap.size+3)],[.inr (w.heap.size+5),.inl 0],rfl,rfl,⟨_,_,[.ob (w.heap.size+3)],rfl,by simp [Al.look],
   ⟨_,_,[],[.ob (w.heap.size+3)],rfl,rfl,⟨rfl,rfl⟩,_,_,[],[.ob (w.heap.size+3)],rfl,rfl,⟨rfl,rfl⟩,_,_,[.ob (w.heap.size+3)],[],rfl,rfl,⟨w.heap.size+3,1,_,rfl,by rw [zJ,if_pos rfl]; rfl,rfl⟩,_,_,[],[],rfl,rfl,⟨⟨none,rfl⟩,rfl⟩,rfl,rfl⟩,rfl⟩,
   _,_,[.inr (w.heap.size+5),.inl 0],[],rfl,rfl,⟨_,[.lst (.own 0 true 3) []],[.inl 0],rfl,by simp [Al.look],⟨_,_,[.inl 0],[],rfl,rfl,⟨0,rfl,by simp,by simp,rfl⟩,rfl,rfl⟩,rfl⟩,rfl,rfl⟩
 have H:=zNd fu (pv w.heap.size) (pv (w.heap.size+1)) c37 h37 (X:=⟨w.heap.size+2,⟨28,[(2,pv w.heap.size),(3,pv (w.heap.size+1))]⟩,none,zGL w.heap.size⟩) rfl (x:=x17 l) (oc:=oc) hoc hV (by simp);refine wpIn_wide.1 (wpIn_mono (H ⟨wm,fun t=>if t=0 then some none else none,Fr.no⟩ _ W6 ⟨i0,fun k=>?_,⟨rfl,fun p hp=>?_⟩,rfl,(hgl.below B0 fun _=>Nat.le_refl _).mono (Nat.le_add_right _ 2)⟩) ?_)
 . have hat:∀ v:Value,one v=true->RV ⟨wm,fun t=>if t=0 then some none else none,Fr.no⟩ W6 (.at v) v:=fun v hv=>RV.of_RV1 ⟨[v],by simp [RC,hv],rfl⟩;show RV _ _ (Env.get [(2,.at (pv w.heap.size)),(3,.at (pv (w.heap.size+1))),(0,.lst (zw (l.map (CC.encV TI.tok))) (l.map (CC.encV TI.tok))),(4,.at (pv (w.heap.size+4))),(5,.at (pv (w.heap.size+5)))] k) _;simp only [Env.get];split
   . rename_i e; subst e; exact hat _ rfl
   split
   . rename_i e; subst e; exact hat _ rfl
   split
   . rename_i e; subst e; exact RV.of_RV1 ⟨_,hu',rfl⟩
   split
   . rename_i e; subst e; exact hat _ rfl
   split
   . rename_i e; subst e; exact hat _ rfl
   trivial
 . simp only [List.mem_cons,List.not_mem_nil,or_false] at hp;rcases hp with rfl | rfl <;> rfl
 . rintro ex a' w' ⟨g',e',s',k1,k2,k3⟩;have S1:Step w.heap.size ⟨wm,fun t=>if t=0 then some none else none,Fr.no⟩ W6 g' w':=⟨k1.later,k1.below.mono (Nat.le_add_right _ 2),k1.fz,fun b hb=>k1.wmB b (Nat.lt_of_lt_of_le hb (Nat.le_add_right _ 2)),k1.fr⟩;have p0:w'.heap[w.heap.size]? = _:=(k1.below.block _ (by show w.heap.size < w.heap.size+2; omega)).trans q0;have p1:w'.heap[w.heap.size+1]? = _:=(k1.below.block _ (by show w.heap.size+1 < w.heap.size+2; omega)).trans q1;have hw0:g'.wm w.heap.size=0:=(k1.wmB _ (by show w.heap.size < w.heap.size+2; omega)).trans (hwm _ (Nat.le_refl _));have hw1:g'.wm (w.heap.size+1)=0:=(k1.wmB _ (by show w.heap.size+1 < w.heap.size+2; omega)).trans (hwm _ (Nat.le_succ _));have hg':GlobOk w.heap.size g'.wm w':=hgl.below (B0.trans S1.below) fun b=>k1.later.wm b;have all:∀ g2 W2,Step w.heap.size ⟨wm,fun t=>if t=0 then some none else none,Fr.no⟩ W6 g2 W2->Step w.heap.size ⟨wm,fun _=>none,Fr.no⟩ w ⟨g2.wm,fun _=>none,Fr.no⟩ W2:=fun g2 W2 S2=>
    ⟨⟨S2.later.wm,(fun _ _ e=>(by cases e)),fun b o ho=>(S2.later.cell b o ho).trans (hL.cell b o ho)⟩,B0.trans S2.below,(fun b hb=>by cases hb),S2.wmB,rfl⟩
   have good:QEnd CC ([parK,ptsK]:LK) [(2,pv w.heap.size),(3,pv (w.heap.size+1))] [4,5] oc e' s'->K a' w':=by
    rintro ⟨m1,y,rfl,m2⟩;refine hK a' w' (fin17g k2 ⟨m1,y,rfl,m2⟩ p0 p1 hw0 hw1 hg' k1.fr fun g2 W2 v r1 r2 r3=>?_);exact ⟨v,g2.wm,rfl,r2,all g2 W2 (S1.trans r1),RV.fr _ _ r3⟩
   cases ex with
   | normal=>exact good k3
   | ret=>cases k3.1
   | exit id=>
    obtain ⟨⟨rfl,_⟩,k3⟩:=k3;exact good k3
   | panic c=>
    obtain ⟨rfl,rfl⟩:=k3;refine bad17 (k2.size.2 (2,pv w.heap.size) (by simp)) (k2.size.2 (3,pv (w.heap.size+1)) (by simp)) k2.df p0 p1 fun W2 r1 r2 r3 r4 r5=>?_;have hL2:Later g' w' g' W2:=⟨fun _=>Nat.le_refl _,fun _ _ e=>e,fun b o ho=>World.cell?_of_block (r2 b (by
     rcases Nat.lt_or_ge b w'.heap.size with hh | hh
     . exact hh
     . rw [k2.inv.fresh b hh] at ho; omega) (fun e=>by subst e; rw [hw0] at ho; omega) (fun e=>by subst e; rw [hw1] at ho; omega))⟩
    have hb:Below w.heap.size w' W2:=⟨r3,r4,r5,r1,fun k hk=>r2 k (by have:=(B0.trans S1.below).size; omega) (by omega) (by omega)⟩;refine ⟨_,g'.wm,rfl,fun b hb=>k2.inv.fresh b (Nat.le_trans r1 hb),all g' W2 (S1.trans ⟨hL2,hb,fun b hb=>(by rw [k1.fr] at hb; cases hb),fun _ _=>rfl,rfl⟩),?_⟩;refine zC8 (xs:=[zc (Nd.mk 0 0 []),.at (.int .i64 160)]) (us:=[.agg #[.int .i64 0,.int .i64 0,.slice none 0 0],.int .i64 160]) (.cons ⟨[.int .i64 0,.int .i64 0,.slice none 0 0],?_,rfl⟩ (.cons ⟨[.int .i64 160],?_,rfl⟩ .nil))
    . rw [qH];simp only [RC,RCs,vi,sl];exact ⟨[_],_,rfl,⟨rfl,rfl⟩,[_],_,rfl,⟨rfl,rfl⟩,[_],[],rfl,.inl ⟨rfl,rfl,trivial⟩,rfl⟩
    . simp only [RC];exact ⟨trivial,rfl⟩
   | goto l=>exact k3.elim
   | outgrown=>exact k3.elim
theorem zKR {l:List TokT} (hl:4000 < l.length):qX Tryz.prog 17 [.lst (zw (l.map (CC.encV TI.tok))) (l.map (CC.encV TI.tok))] (.tup [zc (Nd.mk 0 0 []),.at (.int .i64 2)]):=by
 intro wm w vs hwm hgl hv;obtain ⟨v,rfl⟩:∃ v,vs=[v]:=by cases hv with | cons _ hv=>cases hv; exact ⟨_,rfl⟩
 cases hv with
 | cons h _=>
  obtain ⟨us,h1,h2⟩:=h;have hml:(l.map (CC.encV TI.tok)).length=l.length:=List.length_map _;obtain ⟨a,cap,rfl⟩:∃ a cap,v = .slice a l.length cap:=by
   simp only [RC] at h1;rcases h1 with ⟨e,rfl,_⟩ | ⟨b,o,cap,ds,rfl,_⟩
   . have:l=[]:=List.map_eq_nil_iff.1 e;subst this;simp at hl
   . exact ⟨some ⟨b,o,none⟩,cap,h2.trans (congrArg (fun n=>Value.slice (some ⟨b,o,none⟩) n cap) hml)⟩
  refine Calls.mono (long17 a l.length cap hl w) ?_;rintro e w' ⟨rfl,hb⟩;have hL:Later ⟨wm,fun _=>none,Fr.no⟩ w ⟨wm,fun _=>none,Fr.no⟩ w':=⟨fun _=>Nat.le_refl _,fun _ _ e=>e,fun b o ho=>World.cell?_of_block (hb.block b (by
   rcases Nat.lt_or_ge b w.heap.size with hh | hh
   . exact hh
   . replace ho:o < wm b:=ho; rw [hwm b hh] at ho; omega))⟩
  refine ⟨_,wm,rfl,fun b hh=>hwm b (Nat.le_trans hb.size hh),⟨hL,hb,(fun b hb=>by cases hb),fun _ _=>rfl,rfl⟩,?_⟩;refine zC8 (xs:=[zc (Nd.mk 0 0 []),.at (.int .i64 2)]) (us:=[.agg #[.int .i64 0,.int .i64 0,.slice none 0 0],.int .i64 2]) (.cons ⟨[.int .i64 0,.int .i64 0,.slice none 0 0],?_,rfl⟩ (.cons ⟨[.int .i64 2],?_,rfl⟩ .nil))
  . rw [qH];simp only [RC,RCs,vi,sl];exact ⟨[_],_,rfl,⟨rfl,rfl⟩,[_],_,rfl,⟨rfl,rfl⟩,[_],[],rfl,.inl ⟨rfl,rfl,trivial⟩,rfl⟩
  . simp only [RC];exact ⟨trivial,rfl⟩
theorem pure17 (fu:Nat) (c37:Bool×Unit->MM (Nd×Unit)) (h37:CPOk CC Tryz.prog syn 37 (cM ([.bool]:LK) ([.st TI.node]:LK) c37)) {l:List TokT} {oc:Option (ParT×NdsT×Unit)} (hlen:l.length<=4000)
 (hoc:sh17 fu (.int .i64 0) (.int .i64 0) c37 (x17 l)=some oc):qX Tryz.prog 17 [.lst (zw (l.map (CC.encV TI.tok))) (l.map (CC.encV TI.tok))] (ans17 oc):=by
 intro wm w vs hwm hgl hv;obtain ⟨v,rfl⟩:∃ v,vs=[v]:=by cases hv with | cons _ hv=>cases hv; exact ⟨_,rfl⟩
 cases hv with
 | cons h _=>
  obtain ⟨us,h1,h2⟩:=h;have hml:(l.map (CC.encV TI.tok)).length=l.length:=List.length_map _;obtain ⟨a,cap,rfl,rfl⟩:∃ a cap,v = .slice a l.length cap/\us=[.slice a l.length cap]:=by
   have h1':=h1;simp only [RC] at h1;rcases h1 with ⟨e,rfl,_⟩ | ⟨b,o,cap,ds,rfl,_⟩
   . have:l=[]:=List.map_eq_nil_iff.1 e;subst this;exact ⟨none,0,by rw [h2]; simp [pack],rfl⟩
   . exact ⟨some ⟨b,o,none⟩,cap,h2.trans (congrArg (fun n=>Value.slice (some ⟨b,o,none⟩) n cap) hml),congrArg (fun n=>[Value.slice (some ⟨b,o,none⟩) n cap]) hml⟩
  exact zRN fu c37 h37 hlen hoc a cap wm w hwm hgl h1
end
section
open Go.Al Go.Den
def cv17:Option (ParT×NdsT×Unit)->Nd×Int×Unit
 | none=>(Nd.mk 0 0 [],160,())
 | some y=>(Nd.mk 1 0 y.2.1.1,0,())
noncomputable def c17 (fu n:Nat) (x:List TokT×Unit):Option (Nd×Int×Unit):=
 if x.1.length<=4000 then (sh17 fu (.int .i64 0) (.int .i64 0) (rs fu n).c37 (x17 x.1)).map cv17 else some (Nd.mk 0 0 [],2,())
theorem fin17r (nd:Nd) (e:Int):finV ((xz CC rs17 (fun _=>false) 0 (nd,e,())).map (trT CC ⟨id,id,id,id⟩)) = .tup [zc nd,.at (.int .i64 e)]:=by
 have h:=CCok.enc ⟨id,id,id,id⟩ TI.node nd;show V.tup [trT CC ⟨id,id,id,id⟩ (CC.enc TI.node nd),.at (.int .i64 e)]=_;rw [h]; rfl
theorem ok17' (fu n:Nat) (l:List TokT) (u:Unit) (y:Nd×Int×Unit) (hx:c17 fu n (l,u)=some y) (vs:List V) (hvs:zBD CC as17 ((l,u):zh as17) vs):qX Tryz.prog 17 vs (.tup [zc y.1,.at (.int .i64 y.2.1)]):=by
 obtain ⟨v,vs',rfl,hv,hvs⟩:=hvs;replace hvs:vs' = []:=hvs;subst hvs;replace hv:v = .lst (zw (l.map (CC.encV TI.tok))) (l.map (CC.encV TI.tok)):=hv;subst hv;by_cases h:l.length<=4000
 . have h2:c17 fu n (l,u)=(sh17 fu (.int .i64 0) (.int .i64 0) (rs fu n).c37 (x17 l)).map cv17:=if_pos h;rw [h2] at hx;cases hoc:sh17 fu (.int .i64 0) (.int .i64 0) (rs fu n).c37 (x17 l) with
   | none=>rw [hoc] at hx; cases hx
   | some oc=>
    rw [hoc] at hx;injection hx with hx
    subst hx;have hp:=pure17 fu (rs fu n).c37 (rok fu n).h37 h hoc;cases oc with
    | none=>exact hp
    | some z=>exact hp
 . have h2:c17 fu n (l,u)=some (Nd.mk 0 0 [],2,()):=if_neg h;rw [h2] at hx;injection hx with hx
   subst hx;exact zKR (Nat.lt_of_not_le h)
theorem ok17 (fu n:Nat):ConOk CC Tryz.prog 17 ⟨as17,rs17,c17 fu n⟩:=fun x y hx vs hvs=>by
 have h:=ok17' fu n x.1 x.2 y hx vs hvs;have e:finV ((xz CC rs17 (fun _=>false) 0 y).map (trT CC ⟨id,id,id,id⟩))=_:=fin17r y.1 y.2.1;show qX Tryz.prog 17 vs (finV ((xz CC rs17 (fun _=>false) 0 y).map (trT CC ⟨id,id,id,id⟩)));rw [e];exact h
end
section
open Go.Al Go.Den Go.RowKit Go.Shelf
attribute [local go_sem] Oper.semAt_some
def chG:List UInt8->Nat->List CharT
 | [],_=>[]
 | [c],i=>[⟨(c.toNat:Int),(i:Int)⟩]
 | c::d::r,i=>cond (c == 92 && d == 10) (chG r (i+2)) (⟨(c.toNat:Int),(i:Int)⟩::chG (d::r) (i+1))
theorem zHE:∀ (s:List UInt8) (i:Nat),(chG s i).length<=s.length
 | [],_=>Nat.le_refl _
 | [c],i=>Nat.le_refl _
 | c::d::r,i=>by
  have h1:=zHE r (i+2);have h2:=zHE (d::r) (i+1);simp only [chG];cases (c == 92 && d == 10)
  . simp only [cond_false,List.length_cons] at *; omega
  . simp only [cond_true,List.length_cons] at *; omega
theorem zOg (s:List UInt8) (k:Nat) (h:k < s.length) :
 (Lib.hasPrefix (List.take (s.length - k) (s.drop k)) [92,10]=true->k+2<=s.length/\chG (s.drop k) k=chG (s.drop (k+2)) (k+2)) /\
 (Lib.hasPrefix (List.take (s.length - k) (s.drop k)) [92,10]=false->chG (s.drop k) k=⟨(s[k].toNat:Int),(k:Int)⟩::chG (s.drop (k+1)) (k+1)):=by
 have ht:List.take (s.length - k) (s.drop k)=s.drop k:=List.take_of_length_le (by simp);rw [ht,List.drop_eq_getElem_cons h];unfold Lib.hasPrefix;by_cases h2:k+1 < s.length
 . rw [List.drop_eq_getElem_cons h2];have e:[92,10].isPrefixOf (s[k]::s[k+1]::s.drop (k+1+1))=(s[k] == 92 && s[k+1] == 10):=by
    simp only [List.isPrefixOf,Bool.and_true,Bool.beq_comm]
   rw [e];refine ⟨fun hh=>⟨by omega,?_⟩,fun hh=>?_⟩
   . simp only [chG,hh,cond_true]
   . simp only [chG,hh,cond_false]
 . have e0:s.drop (k+1)=[]:=List.drop_eq_nil_of_le (by omega);rw [e0];refine ⟨fun hh=>by simp [List.isPrefixOf] at hh,fun _=>by simp [chG]⟩
def chV (x:CharT):Value:=.agg #[.int .u8 x.b,.int .i64 x.fat]
def chC (x:CharT):List Value:=[.int .u8 x.b,.int .i64 x.fat]
set_option maxRecDepth 100000 in
set_option maxHeartbeats 2000000 in
theorem zNL (n n0 bx:Nat) (l Bs:Nat) (s:Str) (hreach:s.length < 1100000) (J Jx:List CharT->World->Prop)
 (hY:∀ pre x W,J pre W->pre.length < s.length->YieldAt Fence.wide (n - 1) Tryz.prog l #[chV x] W fun e W'=>
  (e = .returned (.bool true)/\J (pre++[x]) W'/\jY n0 bx W W')\/(e = .returned (.bool false)/\Jx (pre++[x]) W'))
 (W:World) (hB:BoxOk n0 bx W) (hxs:¬ exb bx W Bs) (hBs:W.cell? ⟨Bs,0,none⟩=some (.string ⟨s.toArray⟩)) (h0:J [] W) :
 CallsIn Fence.wide n Tryz.prog 118 #[.func (.yield l) #[] #[],.pointer (some ⟨Bs,0,none⟩)] W fun e W'=>(∃ v,e = .returned v) /\
  ((∃ ys,ys=chG s 0/\J ys W')\/(∃ pre,True/\Jx pre W')):=by
 refine callsIn_of_wp Tryz.func118 rfl trivial ?_ rfl;simp only [Tryz.ntmps118,List.size_toArray,List.length_cons,List.length_nil,Nat.reduceAdd,Nat.reduceSub,Array.replicate_succ,Array.replicate_zero,List.push_toArray,List.append_toArray,List.nil_append,List.cons_append];have hsz:(⟨s.toArray⟩:ByteArray).size=s.length:=by simp [ByteArray.size]
 gi_wp2
 gi_loopw [3] (fun i wr=>∃ (k:Nat) (pre:List CharT),k<=s.length/\i = .int .i64 (k:Int)/\pre++chG (s.drop k) k=chG s 0/\J pre wr/\Kept n0 bx W wr)
  (fun i _=>match i with | .int _ z=>s.length - z.toNat | _=>0)
 case atStart=>exact ⟨0,[],Nat.zero_le _,rfl,by simp,h0,Kept.refl hB⟩
 case round=>
  obtain ⟨k,pre,hk,rfl,hpre,hJs,hnx⟩:=hrel;have hBs':=hnx.same _ _ _ hBs hxs;by_cases hlt:k < s.length
  . have hF:∀ f,Fence.wide.fn f:=fun _=>trivial;have hdd:∀ k:Nat,(Fence.wide.depth.isSome=true->1<=k):=fun k h=>by cases h
    have hlt2:(k:Int) < (s.length:Int):=by omega
    have hge2:¬ ((k:Int) < 0):=by omega
    obtain ⟨hs1,hs2⟩:=zOg s k hlt;have hbk:∀ h:k < (⟨s.toArray⟩:ByteArray).size,(⟨s.toArray⟩:ByteArray)[k]'h=s[k]:=fun _=>rfl;cases hp:Lib.hasPrefix (List.take (s.length - k) (s.drop k)) [92,10] with
    | true=>
     obtain ⟨hk2,hc2⟩:=hs1 hp
     gi_wp2_with ((try refine ⟨hdd _,?_⟩); gi_at_call 119; refine (callsIn_wide.2 (Tryz.strings_HasPrefix _ _ _)).mono ?_; rintro e w' ⟨rfl,rfl⟩)
     refine ⟨⟨k+2,pre,hk2,rfl,by rw [<- hc2]; exact hpre,hJs,hnx⟩,?_⟩;show s.length - Int.toNat ((k:Int)+1+1) < s.length - Int.toNat (k:Int);omega
    | false=>
     have hc2:=hs2 hp;have hpl:pre.length < s.length:=by
      have e1:=congrArg List.length hpre;have e2:=zHE s 0;rw [hc2] at e1;simp only [List.length_append,List.length_cons] at e1;omega
     obtain ⟨fn,tmps,assign,body,hy,hR⟩:=hY pre ⟨(s[k].toNat:Int),(k:Int)⟩ wr hJs hpl;dsimp only [chV] at hy
     gi_wp2_with (first
      | ((try refine ⟨hdd _,?_⟩); gi_at_call 119; refine (callsIn_wide.2 (Tryz.strings_HasPrefix _ _ _)).mono ?_; rintro e w' ⟨rfl,rfl⟩)
      | ((try refine ⟨hdd _,?_⟩); refine hR.mono ?_; clear hR; rintro e W3 (⟨rfl,hJ3,hk3⟩ | ⟨rfl,hJx3⟩)))
     . refine ⟨⟨k+1,pre++[⟨(s[k].toNat:Int),(k:Int)⟩],hlt,rfl,by rw [List.append_assoc,List.singleton_append,<- hc2]; exact hpre,hJ3,hnx.trans (hk3 hnx.ok)⟩,?_⟩;show s.length - Int.toNat ((k:Int)+1) < s.length - Int.toNat (k:Int);omega
     . refine bodyPost_ret (results_none rfl _ _ _) rfl ?_;exact ⟨⟨_,rfl⟩,.inr ⟨_,trivial,hJx3⟩⟩
  . obtain rfl:k=s.length:=by omega
    gi_wp2;go_end0;have e:s.drop s.length=[]:=List.drop_eq_nil_of_le (Nat.le_refl _);rw [e] at hpre;exact ⟨⟨_,rfl⟩,.inl ⟨pre,by simpa [chG] using hpre,hJs⟩⟩
theorem zKW (n n0 bx Bs:Nat) (s:Str) (hreach:s.length < 1100000) (w:World) (hB:BoxOk n0 bx w) (hxs:¬ exb bx w Bs) (hbs:w.heap[Bs]? = some (.cells #[.string ⟨s.toArray⟩] 9 (0,0))) :
 SeqStopsK Fence.wide n Tryz.prog 118 #[.pointer (some ⟨Bs,0,none⟩)] (fun x:CharT=>#[chV x]) (jY n0 bx) (fun ys=>ys=chG s 0) (fun _=>True) s.length w:=fun l J Jx W hW _ _ hY h0=>by
 have hbx:W.heap[bx]? = w.heap[bx]?:=hW.block _ hB.lt;have h1:W.heap[Bs]? = some (.cells #[.string ⟨s.toArray⟩] 9 (0,0)):=(hW.block _ (Array.getElem?_eq_some_iff.1 hbs).1).trans hbs;exact zNL n n0 bx l Bs s hreach J Jx hY W (hB.grown hW.size hbx) (fun h=>hxs ((kR hbx Bs).1 h)) (by simp [World.cell?,h1]) h0
set_option maxRecDepth 100000 in
set_option maxHeartbeats 1000000 in
theorem zOB (m:Nat) (s:ByteArray) (w:World) :
 CallsIn Fence.wide m Tryz.prog 87 #[.string s] w fun e w'=>e = .returned (.func (.func 118) #[] #[.pointer (some ⟨w.heap.size,0,none⟩)])/\w' = w.alloc (.cells #[.string s] 9):=by
 refine callsIn_of_wp Tryz.func87 rfl trivial ?_ rfl;simp only [Tryz.ntmps87,List.size_toArray,List.length_cons,List.length_nil,Nat.reduceAdd,Nat.reduceSub,Array.replicate_succ,Array.replicate_zero,List.push_toArray,List.append_toArray,List.nil_append,List.cons_append];gi_wp2;go_ret;exact ⟨rfl,rfl⟩
end
section
open Go.Al Go.Den Go.RowKit Go.Shelf
attribute [local go_sem] Oper.semAt_some
theorem zRF:(Tryz.prog.info? 108).map (fun i=>(i.zero,i.size,i.bytes))=some (some (.agg #[.int .u8 0,.int .i64 0]),2,16):=by kernel_rfl
def chCs (l:List CharT):List Value:=l.flatMap chC
theorem zOb (l:List CharT) (x:CharT):chCs (l++[x])=chCs l++chC x:=by simp [chCs]
theorem zJd (w:World) (u v:Value) (t:TypeId) (m:Nat×Nat):∀ j x,[u,v][j]? = some x->(w.alloc (.cells #[u,v] t m)).cell? ((⟨w.heap.size,0,none⟩:Addr).add j)=some x:=by
 intro j x hx;have hn:=World.alloc_heap_new w (.cells #[u,v] t m)
 match j,hx with
 | 0,hx=>
  have:u=x:=by simpa using hx
  subst this;show (w.alloc (.cells #[u,v] t m)).cell? ⟨w.heap.size,0,none⟩=some u;unfold World.cell?;simp only [hn]; rfl
 | 1,hx=>
  have:v=x:=by simpa using hx
  subst this;show (w.alloc (.cells #[u,v] t m)).cell? ⟨w.heap.size,1,none⟩=some v;unfold World.cell?;simp only [hn]; rfl
 | j+2,hx=>simp at hx
set_option maxRecDepth 100000 in
set_option maxHeartbeats 1000000 in
theorem zQM (m:Nat) (hm:3<=m) (s:Str) (hlen:s.length < 1100000) (w:World) :
 CallsIn Fence.wide m Tryz.prog 62 #[.string ⟨s.toArray⟩] w fun e W'=>∃ v',e = .returned v'/\W'.ownsRow w.heap.size 108 2 v' (chG s 0).length (chCs (chG s 0))/\((chG s 0).length=0->v' = .slice none 0 0)/\Below w.heap.size w W':=by
 have hF:∀ f,Fence.wide.fn f:=fun _=>trivial;have hdd:∀ k:Nat,(Fence.wide.depth.isSome=true->1<=k):=fun k h=>by cases h
 refine callsIn_of_wp_marks Tryz.func62 rfl (hF _) ?_ rfl;simp only [Tryz.ntmps62,List.size_toArray,List.length_cons,List.length_nil,Nat.reduceAdd,Nat.reduceSub,Array.replicate_succ,Array.replicate_zero,List.push_toArray,List.append_toArray,List.nil_append,List.cons_append]
 gi_wp2_with ((try refine ⟨hdd _,?_⟩); gi_at_call 87; refine (zOB _ _ _).mono ?_; rintro e w' ⟨rfl,rfl⟩)
 obtain ⟨W2,hW2⟩:∃ W2,(w.alloc (.cells #[.slice none 0 0] 99)).alloc (.cells #[.string ⟨s.toArray⟩] 9)=W2:=⟨_,rfl⟩;have hsz2:W2.heap.size=w.heap.size+2:=by rw [<- hW2]; simp
 have hb2:Below w.heap.size w W2:=by rw [<- hW2]; exact ((Below.refl _ w).alloc (Nat.le_refl _) _).alloc (by simp) _
 have hbx2:W2.heap[w.heap.size]? = some (.cells #[.slice none 0 0] 99 (0,0)):=by
  rw [<- hW2,Below.heap_alloc _ _ _ (by simp)];exact World.alloc_heap_new w _
 have hbt2:W2.heap[w.heap.size+1]? = some (.cells #[.string ⟨s.toArray⟩] 9 (0,0)):=by
  rw [<- hW2];have:=World.alloc_heap_new (w.alloc (.cells #[.slice none 0 0] 99)) (.cells #[.string ⟨s.toArray⟩] 9 (0,0));simpa using this
 have hG0:Grow w.heap.size w.heap.size 99 108 2 w [] 0 W2:=⟨_,hbx2,World.ownsRow_nil W2 _ _ _,fun _=>rfl,hb2⟩;have hB2:=hG0.box (Nat.le_refl _);have hx2:¬ exb w.heap.size W2 (w.heap.size+1):=fun h=>by
  rcases h with h | ⟨o,l,c,h⟩
  . omega
  . simp [World.cell?,hbx2] at h
 rw [hW2];refine wpIn_rangeFunc_ownH rfl (by omega) (gf:=118) (lb:=#[.pointer (some ⟨w.heap.size+1,0,none⟩)]) (by simp [Act.eval]) (hF 118) (enters_of Tryz.func118 (by kernel_rfl) rfl)
  (zKW (m - 1) w.heap.size w.heap.size (w.heap.size+1) s hlen W2 hB2 hx2 hbt2) zId (fun W l o o' hl h1 h2 _=>zIh W l o o' (by omega) h1 h2) (Below.refl _ _) (fun _=>rfl)
  (fun pre W=>Grow w.heap.size w.heap.size 99 108 2 w (chCs pre) pre.length W)
  (fun _ _ _=>False) ?hI (fun _ _ _ _ _ hs _ _=>hs) hG0
  (fun x a' W=>∃ B4,a' = { tmps:=#[.string ⟨s.toArray⟩,undef,.slice none 0 0,.pointer (some ⟨w.heap.size,0,none⟩),.pointer (some ⟨B4,0,none⟩),.string ⟨s.toArray⟩,.func (.func 118) #[] #[.pointer (some ⟨w.heap.size+1,0,none⟩)],chV x,undef,undef,undef,undef,undef],defers:=[] }/\W.heap[B4]? = some (.cells #[.int .u8 x.b,.int .i64 x.fat] 108 (0,0)))
  ?hAx ?assign ?body ?done ?stop
 case hI=>exact fun pre A B row h hg hr=>h.own (Nat.le_refl _) hg (fun r e=>by obtain ⟨h1,h2⟩:=hr r e; exact ⟨by omega,h2⟩)
 case hAx=>
  rintro x a' _ A B row ⟨B4,e3,e4⟩ hg hr;refine ⟨B4,e3,(hg.block B4 (Array.getElem?_eq_some_iff.1 e4).1 fun e=>?_).trans e4⟩;obtain ⟨_,o,ho,hc⟩:=hr B4 e.symm;rw [e4] at ho; injection ho with ho; subst ho; cases hc
 case assign=>
  rintro l pre ⟨xb,xa⟩ W K hI hK;have hfin:∀ a2,a2=({ tmps:=#[.string ⟨s.toArray⟩,undef,.slice none 0 0,.pointer (some ⟨w.heap.size,0,none⟩),.pointer (some ⟨W.heap.size,0,none⟩),.string ⟨s.toArray⟩,.func (.func 118) #[] #[.pointer (some ⟨w.heap.size+1,0,none⟩)],chV ⟨xb,xa⟩,undef,undef,undef,undef,undef],defers:=[] }:Act)->K a2 (W.alloc (.cells #[.int .u8 xb,.int .i64 xa] 108)):=fun a2 e=>hK a2 _ ((KeepsOthers.alloc W _).from _) (fun hB=>Kept.grown hB (World.grownBy_alloc W _ none))
   (hI.own (Nat.le_refl _) (World.grownBy_alloc W _ none) (fun r e=>by cases e)) ⟨W.heap.size,e,World.alloc_heap_new W _⟩
  unfold chV at *;gi_wp2;rfl
 case body=>
  rintro l pre ⟨xb,xa⟩ a' W hl hL ⟨bv,hbv,hrow,hz,hbel⟩ ⟨B4,rfl,hB4⟩ hlen2;replace hB4:W.heap[B4]? = some (.cells #[.int .u8 xb,.int .i64 xa] 108 (0,0)):=hB4;have c0:W.cell? ⟨B4,0,none⟩=some (.int .u8 xb):=by simp [World.cell?,hB4]
  have c1:W.cell? ⟨B4,1,none⟩=some (.int .i64 xa):=by simp [World.cell?,hB4]
  have cb:W.cell? ⟨w.heap.size,0,none⟩=some bv:=by simp [World.cell?,hbv]
  obtain ⟨i0,hi,hz0,hz1,hz2⟩:=info_parts zRF;have hb1:pre.length+1<=1100000:=by omega
  have hsz:w.heap.size<=W.heap.size:=hbel.size;have hlt:w.heap.size < W.heap.size:=(Array.getElem?_eq_some_iff.1 hbv).1;have hnb:some w.heap.size≠bv.ownBlock:=by
   rcases zJu hrow hbv (fun cur e=>by cases e) with e | e
   . rw [e]; simp
   . exact fun e'=>e e'.symm
  gi_wp2_with (
   gi_at_builtin
   refine zEv _ rfl _ _ 99 rfl w.heap.size 108 i0 (.agg #[.int .u8 0,.int .i64 0]) 2 16 Tryz.underlying99 hi hz0 hz1 hz2 rfl (by decide) _ _ _ rfl (hrow.alloc _) ⟨W.heap.size,0,none⟩ 1 1 [.int .u8 xb,.int .i64 xa] rfl rfl (zJd _ _ _ _ _) (by simp [Value.oneCell']) (Nat.le_trans hb1 (by decide)) (Nat.le_trans (Nat.mul_le_mul_right 16 hb1) (by decide)) (by simp; omega) ?_;intro v' w3 hown' hg3 hnil3 hat;have hv3:w3.heap[w.heap.size]? = some (.cells #[bv] 99 (0,0)):=(hg3.block _ (by simp; omega) hnb).trans ((Below.heap_alloc _ _ _ hlt).trans hbv);obtain ⟨hc3,hf3⟩:w3.cell? ⟨w.heap.size,0,none⟩=some bv/\w3.frozen? ⟨w.heap.size,0,none⟩=false:=by constructor <;> simp [World.cell?,World.frozen?,hv3]
   obtain ⟨g',cap',cur',rfl,hbase',hgb',hr1,hr2,hr3,hr4⟩:∃ g' cap' cur',v' = .slice (some ⟨g',0,none⟩) (pre.length+1) cap'/\w.heap.size<=g'/\w3.heap[g']? = some (.cells cur' 108 (0,0))/\pre.length+1<=cap'/\cap'<=maxLen/\cur'.size=cap' * 2/\cur'.toList.take ((pre.length+1) * 2)=chCs pre++[.int .u8 xb,.int .i64 xa]:=by
    rcases hown'.2 with ⟨_,h0⟩ | h'
    . exact absurd h0 (by omega)
    . exact h')
  have hg4:=grownBy_setCell' w3 w.heap.size (.slice (some ⟨g',0,none⟩) (pre.length+1) cap');have hg3':(W.alloc (.cells #[.int .u8 xb,.int .i64 xa] 108)).grownBy w3 bv.ownBlock:=hg3;have hs3:W.heap.size+1<=w3.heap.size:=by have:=hg3'.size; simpa using this
  refine (?_:KeepsFrom _ _ _/\jY _ _ _ _/\Grow _ _ _ _ _ _ (chCs (pre++[_])) (pre++[_]).length _);rw [zOb,List.length_append,List.length_cons,List.length_nil];have hbel3:Below w.heap.size w w3:=(hbel.alloc hsz _).grown hg3' (by simp; omega) (fun k e=>zQH hrow e);refine Grow.round (Nat.le_refl _) hbv hrow (zJm _ hv3) (hown'.kept hg4 (zJu hown' hv3 (fun cur e=>by cases e))) (fun e=>absurd e (by omega)) (hbel3.grown hg4 hbel3.size (fun k e=>by injection e with e; omega)) (by simp; omega) ?_ (fun b hb h1 h2=>?_)
  . rcases hat with e | e
    . exact .inl e
    . exact .inr ⟨_,e,by simp⟩
  . exact ((hg4.block b (by omega) (fun e=>h1 (by injection e))).trans (hg3'.block b (by simp; omega) (fun e=>h2 e.symm))).trans (Below.heap_alloc _ _ _ hb)
 case stop=>
  rintro D c pre W _ _ h _;exact h.elim
 case done=>
  rintro D ys W hD hys ⟨bv,hbv,hrow,hz,hbel⟩ hK;have cb:W.cell? ⟨w.heap.size,0,none⟩=some bv:=by simp [World.cell?,hbv]
  gi_wp2;refine ⟨by simp,.inl ⟨_,_,rfl,run_takeDeferred hK,?_⟩⟩;have hgD:=grownBy_putObj' W D (.deferred none);subst hys;refine ⟨_,results_tmp rfl _ _ _,_,rfl,?_⟩;refine ⟨hrow.kept hgD (zJu hrow hK (fun cur e=>by cases e)),hz,hbel.grown hgD hbel.size (fun k e=>by injection e with e; omega)⟩
theorem zHa {g:Gh} {w:World}:∀ l:List CharT,RCs g w (l.map xc) (chCs l)
 | []=>by simp [RCs,chCs]
 | x::r=>by
  have ih:=zHa (g:=g) (w:=w) r;simp only [List.map_cons,RCs];refine ⟨chC x,chCs r,by simp [chCs],?_,ih⟩;show RC g w (.agg [.at (.int .u8 (CharT.b x)),.at (.int .i64 (CharT.fat x))]) _;simp only [RC,RCs,chC];exact ⟨[.int .u8 x.b],[.int .i64 x.fat],rfl,⟨rfl,rfl⟩,[.int .i64 x.fat],[],rfl,⟨rfl,rfl⟩,rfl⟩
theorem pure62 (s:Str) (hlen:s.length < 1100000):qX Tryz.prog 62 [.at (.string ⟨s.toArray⟩)] (.lst (zw ((chG s 0).map xc)) ((chG s 0).map xc)):=by
 intro wm w us hwm hgl hu;cases hu with
 | cons hu1 hu2=>
  cases hu2;have e:=yA hu1;subst e;refine callsIn_wide.1 ((zQM 3 (Nat.le_refl _) s hlen w).mono ?_);rintro e w' ⟨v',rfl,hrow,hz,hbel⟩;obtain ⟨wm',h1,h2,h3⟩:=zO9 hwm hbel hrow hz ((chG s 0).map xc) (by simp) (fun x hx=>by obtain ⟨y,_,rfl⟩:=List.mem_map.1 hx; exact zHF y) (zHa _);exact ⟨_,wm',rfl,h1,h2,h3⟩
def c62 (x:Str×Unit):Option (List CharT×Unit):=if x.1.length < 1100000 then some (chG x.1 0,()) else none
theorem ok62:ConOk CC Tryz.prog 62 ⟨as62,rs62,c62⟩:=fun x y hx vs hvs=>by
 obtain ⟨s,u⟩:=x;obtain ⟨v,vs',rfl,hv,hvs⟩:=hvs;replace hvs:vs' = []:=hvs;subst hvs;replace hv:v = .at (.string ⟨List.toArray s⟩):=hv;subst hv;by_cases h:List.length (show Str from s) < 1100000
 . have h2:c62 (s,u)=some (chG s 0,()):=if_pos h;replace hx:c62 (s,u)=some y:=hx;rw [h2] at hx;injection hx with hx
   subst hx;exact pure62 s h
 . have h2:c62 (s,u)=none:=if_neg h;replace hx:c62 (s,u)=some y:=hx;rw [h2] at hx;cases hx
end
section
open Go.Al Go.Den Go.RowKit Go.Shelf
attribute [local go_sem] Oper.semAt_some
theorem zEN {g:Gh} {w:World}:∀ {l:List CharT} {us:List Value} (i:Nat) (h:i < l.length),RCs g w (l.map xc) us->us[2 * i]? = some (.int .u8 l[i].b)/\us[2 * i+1]? = some (.int .i64 l[i].fat)
 | x::r,us,0,_,h=>by
  simp only [List.map_cons,RCs] at h;obtain ⟨u1,u2,rfl,h1,h2⟩:=h;have h1':RC g w (.agg [.at (.int .u8 (CharT.b x)),.at (.int .i64 (CharT.fat x))]) u1:=h1;simp only [RC,RCs] at h1';obtain ⟨v1,v2,rfl,⟨rfl,_⟩,v3,v4,rfl,⟨rfl,_⟩,rfl⟩:=h1';exact ⟨rfl,rfl⟩
 | x::r,us,i+1,hi,h=>by
  simp only [List.map_cons,RCs] at h;obtain ⟨u1,u2,rfl,h1,h2⟩:=h;have h3:=qD g w _ _ h1;have h4:u1.length=2:=by rw [h3]; exact zHF x
  obtain ⟨k0,k1⟩:=zEN i (by simpa using hi) h2;have ap:∀ j,(u1++u2)[2 * (i+1)+j]? = u2[2 * i+j]?:=fun j=>by
   rw [List.getElem?_append_right (by omega),h4]; congr 1; omega
  exact ⟨(ap 0).trans k0,(ap 1).trans k1⟩
theorem zOq {wm:Nat->Nat} {w:World} {l:List CharT} {sv:Value} (h:RC ⟨wm,fun _=>none,Fr.no⟩ w (.lst (zw (l.map xc)) (l.map xc)) [sv]) :
 ∃ ad cap,sv = .slice ad l.length cap/\∀ i (hi:i < l.length),∃ b o,ad=some ⟨b,o,none⟩/\(w.cell? ⟨b,o+2 * i,none⟩=some (.int .u8 l[i].b)/\o+2 * i < wm b)/\(w.cell? ⟨b,o+(2 * i+1),none⟩=some (.int .i64 l[i].fat)/\o+(2 * i+1) < wm b):=by
 have hl:(l.map xc).length=l.length:=by simp
 simp only [RC] at h;rcases h with ⟨he,hu,_⟩ | ⟨b,o,cap,ds,hu,hc,_,hr,_,ha⟩
 . have h0:l=[]:=by simpa using he
   subst h0;injection hu with hu
   exact ⟨none,0,hu,fun i hi=>absurd hi (by simp)⟩
 . injection hu with hu
   refine ⟨_,cap,by rw [hu,hl],fun i hi=>?_⟩;obtain ⟨k1,k2⟩:=zEN i hi hr;exact ⟨b,o,rfl,ha _ _ k1,ha _ _ k2⟩
theorem info5:(Tryz.prog.info? 5).map (fun i=>(i.zero,i.size,i.bytes))=some (some (.int .u8 0),1,1):=by kernel_rfl
theorem zFK (W:World) (b i:Nat) (v:Value):W.grownBy (W.setCell ⟨b,i,none⟩ v) (some b):=
 ⟨rfl,rfl,rfl,(KeepsWalks.setCell W _ v).size,fun k _ hk=>Below.heap_setCell _ _ _ k (fun e=>hk (by rw [e]))⟩
theorem zKM {W:World} {B i:Nat} {c:Array Value} {t:TypeId} (v':Value) (h:W.heap[B]? = some (.cells c t (0,0))):(W.setCell ⟨B,i,none⟩ v').heap[B]? = some (.cells (c.setIfInBounds i v') t (0,0)):=by
 obtain ⟨hlt,hk⟩:=Array.getElem?_eq_some_iff.1 h;show (W.heap.modify B _)[B]? = _;rw [Array.getElem?_eq_getElem (by rw [Array.size_modify]; exact hlt),Array.getElem_modify_self,hk];rfl
def TRow (n0 g:Nat) (w:World) (xs:List Int) (n k:Nat) (W:World):Prop:=
 Below n0 w W/\∃ cur,W.heap[g]? = some (.cells cur 5 (0,0))/\cur.size=n/\(∀ i,i < k->cur[i]? = some (.int .u8 (xs.getD i 0)))/\∀ i,i < n->∃ z,cur[i]? = some (.int .u8 z)
set_option maxRecDepth 100000 in
set_option maxHeartbeats 1000000 in
theorem zQ6 (m:Nat) (l:List CharT) (hlen:l.length < 1100000) (wm:Nat->Nat) (w:World) (hwm:∀ b,w.heap.size<=b->wm b=0) (ad:Option Addr) (cap:Nat)
 (hch:∀ i (hi:i < l.length),∃ b o,ad=some ⟨b,o,none⟩/\(w.cell? ⟨b,o+2 * i,none⟩=some (.int .u8 l[i].b)/\o+2 * i < wm b)/\(w.cell? ⟨b,o+(2 * i+1),none⟩=some (.int .i64 l[i].fat)/\o+(2 * i+1) < wm b)) :
 CallsIn Fence.wide m Tryz.prog 63 #[.slice ad l.length cap] w fun e W'=>e = .returned (.string (strOfNums (l.map CharT.b)))/\Below w.heap.size w W':=by
 have hF:∀ f,Fence.wide.fn f:=fun _=>trivial;refine callsIn_of_wp Tryz.func63 rfl trivial ?_ rfl;simp only [Tryz.ntmps63,List.size_toArray,List.length_cons,List.length_nil,Nat.reduceAdd,Nat.reduceSub,Array.replicate_succ,Array.replicate_zero,List.push_toArray,List.append_toArray,List.nil_append,List.cons_append];obtain ⟨i0,hi,hz0,hz1,hz2⟩:=info_parts info5;obtain ⟨W1,hmk,hown,hg1⟩:=run_make_full (P:=Tryz.prog) w w.heap.size 125 5 i0 (.int .u8 0) 1 Tryz.underlying125 hi hz0 hz1 .i64 .i64 l.length (by rw [hz2]; omega) (by simp only [maxLen]; omega) (Nat.le_refl _);have h0:TRow w.heap.size w.heap.size w (l.map CharT.b) l.length 0 W1:=by
  refine ⟨(Below.refl _ w).grown hg1 (Nat.le_refl _) (fun k e=>by cases e),?_⟩;rcases hown.2 with ⟨h,_⟩ | ⟨g,cap',cur,h,_,hgb,_,_,hcs,htk⟩
  . cases h
  . injection h with e1 _ e3
    injection e1 with e1
    injection e1 with e1
    subst e1 e3;refine ⟨cur,hgb,by omega,fun i h=>by omega,fun i hi=>⟨0,?_⟩⟩;have hh:(List.take (l.length * 1) cur.toList)[i]? = (madeCells (Value.int .u8 0).cells (l.length * 1)).toList[i]?:=by rw [htk]
    rw [List.getElem?_take,if_pos (by omega),Array.getElem?_toList,Array.getElem?_toList] at hh;rw [hh];have hz:(Value.int IntKind.u8 0).cells = #[.int .u8 0]:=rfl;rw [hz];simp [madeCells,hi,Nat.mod_one]
 have hgl:w.heap.size≠W1.heap.size:=by
  obtain ⟨_,cur,h,_⟩:=h0;have:=(Array.getElem?_eq_some_iff.1 h).1;omega
 gi_wp2_with (rw [hmk])
 gi_loopw [11] (fun u wr=>∃ k:Nat,k<=l.length/\u = .int .i64 (k:Int)/\TRow w.heap.size w.heap.size w (l.map CharT.b) l.length k wr)
  (fun u _=>match u with | .int _ z=>l.length - z.toNat | _=>0)
 case atStart=>exact ⟨0,Nat.zero_le _,rfl,h0⟩
 case round=>
  obtain ⟨k,hk,rfl,hbel,cur,hgb,hcs,hc1,hc2⟩:=hrel;by_cases hlt:k < l.length
  . obtain ⟨b,o,rfl,⟨a0,b0⟩,⟨a1,b1⟩⟩:=hch k hlt;have hbl:b < w.heap.size:=by
     rcases Nat.lt_or_ge b w.heap.size with h | h
     . exact h
     . rw [hwm b h] at b0; omega
    have f0:wr.cell? ⟨b,o+k * 2,none⟩=some (.int .u8 l[k].b):=by rw [Nat.mul_comm k 2]; exact (x8 (hbel.block b hbl) _).trans a0
    have f1:wr.cell? ⟨b,o+k * 2+1,none⟩=some (.int .i64 l[k].fat):=by rw [Nat.mul_comm k 2]; exact (x8 (hbel.block b hbl) _).trans a1
    have hgs:=(Array.getElem?_eq_some_iff.1 hgb).1;obtain ⟨W3,hW3⟩:∃ W3,wr.alloc (.cells #[.int .u8 l[k].b,.int .i64 l[k].fat] 108)=W3:=⟨_,rfl⟩;have hg3:W3.heap[w.heap.size]? = some (.cells cur 5 (0,0)):=by rw [<- hW3,Below.heap_alloc _ _ _ hgs]; exact hgb
    have hn3:W3.heap[wr.heap.size]? = some (.cells #[.int .u8 l[k].b,.int .i64 l[k].fat] 108 (0,0)):=by rw [<- hW3]; exact World.alloc_heap_new wr _
    have g0:W3.cell? ⟨wr.heap.size,0,none⟩=some (.int .u8 l[k].b):=by simp [World.cell?,hn3]
    obtain ⟨z,hz⟩:=hc2 k hlt;have hck:W3.cell? ⟨w.heap.size,k,none⟩=some (.int .u8 z):=by simp [World.cell?,hg3,hz]
    have hfk:W3.frozen? ⟨w.heap.size,k,none⟩=false:=by simp [World.frozen?,hg3]
    gi_wp2_with (rw [hW3])
    refine ⟨⟨k+1,hlt,rfl,?_⟩,?_⟩
    . have hbel3:Below w.heap.size w W3:=by rw [<- hW3]; exact hbel.alloc hbel.size _
      refine ⟨hbel3.grown (zFK W3 w.heap.size k (.int .u8 l[k].b)) hbel3.size (fun j e=>by injection e with e; omega),cur.setIfInBounds k (.int .u8 l[k].b),zKM _ hg3,by simpa using hcs,fun i hi=>?_,fun i hi=>?_⟩
      . rw [Array.getElem?_setIfInBounds];by_cases e:k=i
        . subst e;rw [if_pos rfl,if_pos (by omega)];simp [hlt]
        . rw [if_neg e]; exact hc1 i (by omega)
      . rw [Array.getElem?_setIfInBounds];by_cases e:k=i
        . subst e;rw [if_pos rfl,if_pos (by omega)];exact ⟨_,rfl⟩
        . rw [if_neg e]; exact hc2 i hi
    . show l.length - Int.toNat ((k:Int)+1) < l.length - Int.toNat (k:Int);omega
  . obtain rfl:k=l.length:=by omega
    have hcv:=run_convert_bytes_arg (P:=Tryz.prog) wr 125 5 Tryz.underlying125 Tryz.underlying5 w.heap.size 0 l.length l.length (l.map CharT.b) (by simp) (fun i hi=>by
     have:=hc1 i hi;simp [World.cell?,hgb,this]) 9 Tryz.underlying9
    gi_wp2_with (rw [hcv])
    go_ret;exact ⟨rfl,hbel⟩
def c63 (x:List CharT×Unit):Option (Str×Unit):=if x.1.length < 1100000 then some (x.1.map (fun c=>UInt8.ofNat c.b.toNat),()) else none
theorem pure63 (l:List CharT) (hlen:l.length < 1100000):qX Tryz.prog 63 [.lst (zw (l.map xc)) (l.map xc)] (.at (.string ⟨(l.map (fun c=>UInt8.ofNat c.b.toNat)).toArray⟩)):=by
 intro wm w us hwm hgl hu;obtain ⟨v,rfl⟩:∃ v,us=[v]:=by cases hu with | cons _ hv=>cases hv; exact ⟨_,rfl⟩
 cases hu with
 | cons h _=>
  obtain ⟨us,h1,h2⟩:=h;have hle:=qD _ _ _ _ h1;obtain ⟨sv,rfl⟩:=List.length_eq_one_iff.1 (show us.length=1 from hle);obtain ⟨ad,cap,rfl,hch⟩:=zOq h1;have:v = .slice ad l.length cap:=h2;subst this;refine callsIn_wide.1 ((zQ6 3 l hlen wm w hwm ad cap hch).mono ?_);rintro e w' ⟨rfl,hbel⟩;obtain ⟨q1,q2⟩:=jl hwm hbel;refine ⟨_,wm,rfl,q1,q2,?_⟩;have e2:strOfNums (l.map CharT.b)=⟨(l.map (fun c=>UInt8.ofNat c.b.toNat)).toArray⟩:=by simp [strOfNums,List.map_map,Function.comp_def]
  rw [e2];exact yN rfl
theorem ok63:ConOk CC Tryz.prog 63 ⟨as63,rs63,c63⟩:=fun x y hx vs hvs=>by
 obtain ⟨s,u⟩:=x;obtain ⟨v,vs',rfl,hv,hvs⟩:=hvs;replace hvs:vs' = []:=hvs;subst hvs;change List CharT at s;replace hv:v = .lst (zw (s.map xc)) (s.map xc):=hv;subst hv;by_cases h:s.length < 1100000
 . have h2:c63 (s,u)=some (s.map (fun c=>UInt8.ofNat c.b.toNat),()):=if_pos h;replace hx:c63 (s,u)=some y:=hx;rw [h2] at hx;injection hx with hx
   subst hx;exact pure63 s h
 . have h2:c63 (s,u)=none:=if_neg h;replace hx:c63 (s,u)=some y:=hx;rw [h2] at hx;cases hx
end
section
open Go.Al Go.Den
noncomputable def c89:zA ([.str]:LK)->DD (zA ([.bool]:LK)):=mD (sh89 0)
theorem ok89:CPOk CC Tryz.prog syn 89 (cD ([.str]:LK) ([.bool]:LK) c89):=con89 0
noncomputable def c92 (fu:Nat):zA ([]:LK)->DD (zA ([.int .i64]:LK)):=mD (sh92 fu c88)
theorem ok92 (fu:Nat):CPOk CC Tryz.prog syn 92 (cD ([]:LK) ([.int .i64]:LK) (c92 fu)):=con92 fu c88 ok88
noncomputable def c93 (fu:Nat):zA ([]:LK)->DD (zA ([.int .i64]:LK)):=mD (sh93 fu c90 c88)
theorem ok93 (fu:Nat):CPOk CC Tryz.prog syn 93 (cD ([]:LK) ([.int .i64]:LK) (c93 fu)):=con93 fu c90 ok90 c88 ok88
noncomputable def c94 (fu:Nat):zA ([.int .u8]:LK)->DD (zA ([.int .i64]:LK)):=mD (sh94 fu c88)
theorem ok94 (fu:Nat):CPOk CC Tryz.prog syn 94 (cD ([.int .u8]:LK) ([.int .i64]:LK) (c94 fu)):=con94 fu c88 ok88
noncomputable def c95 (fu:Nat):zA ([]:LK)->DD (zA ([.int .i64]:LK)):=mD (sh95 fu c89)
theorem ok95 (fu:Nat):CPOk CC Tryz.prog syn 95 (cD ([]:LK) ([.int .i64]:LK) (c95 fu)):=con95 fu c89 ok89
noncomputable def c65 (fu:Nat):zA ([]:LK)->DD (zA ([.int .i64,.int .i64]:LK)):=mD (sh65 fu c89 (c92 fu) (c93 fu) (c94 fu) (c95 fu))
theorem ok65 (fu:Nat):CPOk CC Tryz.prog syn 65 (cD ([]:LK) ([.int .i64,.int .i64]:LK) (c65 fu)):=con65 fu c89 ok89 (c92 fu) (ok92 fu) (c93 fu) (ok93 fu) (c94 fu) (ok94 fu) (c95 fu) (ok95 fu)
noncomputable def c64 (fu:Nat):zA ([]:LK)->DD (zA ([.bool]:LK)):=mD (sh64 fu c90 c91 c88 c89)
theorem ok64 (fu:Nat):CPOk CC Tryz.prog syn 64 (cD ([]:LK) ([.bool]:LK) (c64 fu)):=con64 fu c90 ok90 c91 ok91 c88 ok88 c89 ok89
noncomputable def c39 (fu:Nat) (x:Int×Str×Unit):Option (List TokT×Unit):=sh39 fu c62 c63 (c64 fu) (c65 fu) (fun _=>false) x.1 x.2.1
theorem ok39 (fu:Nat):ConOk CC Tryz.prog 39 ⟨as39,rs39,c39 fu⟩:=con39 fu c62 ok62 c63 ok63 (c64 fu) (ok64 fu) (c65 fu) (ok65 fu)
end
end Go.Proofs.YtnamdpbcpnnhaaaGreatDoor
section
namespace Go.Proofs
open Go.Shelf
def Tryz.lays212_ren:Go.Shelf.Ren:=⟨fun | 212=>66 | 263=>96 | 264=>97 | n=>n,fun | 46=>109 | 51=>131 | 53=>134 | 146=>132 | 148=>135 | n=>n,fun | n=>n⟩
theorem Tryz.lays212:Go.Proofs.Lays.n212 Tryz.prog Tryz.lays212_ren:={
 mixed:=by kernel_rfl
 f212:=Tryz.func66.trans (congrArg some (by kernel_rfl))
 f263:=Tryz.func96.trans (congrArg some (by kernel_rfl))
 f264:=Tryz.func97.trans (congrArg some (by kernel_rfl))
 t46:=Tryz.underlying109
 a46:=Tryz.isAgg109
 z46:=Tryz.sizeOf109
 v46:=Tryz.zeroValue109
 t51:=Tryz.underlying131
 a51:=Tryz.isAgg131
 z51:=Tryz.sizeOf131
 v51:=Tryz.zeroValue131
 t53:=Tryz.underlying134
 a53:=Tryz.isAgg134
 z53:=Tryz.sizeOf134
 v53:=Tryz.zeroValue134
 t146:=Tryz.underlying132
 a146:=Tryz.isAgg132
 z146:=Tryz.sizeOf132
 v146:=Tryz.zeroValue132
 t148:=Tryz.underlying135
 a148:=Tryz.isAgg135
 z148:=Tryz.sizeOf135
 v148:=Tryz.zeroValue135 }
open Go.RowKit in
theorem Tryz.bits_Mul (x y:Nat) (hx:x < 18446744073709551616) (hy:y < 18446744073709551616) (w:World) :
 Calls Tryz.prog 66 #[.int .u64 x,.int .u64 y] w fun e w'=>e = .returned (.tuple #[.int .u64 ((x * y / 18446744073709551616:Nat):Int),.int .u64 ((x * y % 18446744073709551616:Nat):Int)])/\w' = w:=Any.bits_Mul Tryz.lays212 x y hx hy w
end Go.Proofs
namespace Go.Proofs.YtnamdpbcpnnhaaaGreatDoor
open Go.Al Go.Den Go.RowKit Go.Shelf
attribute [local go_sem] Oper.semAt_some
theorem zHe {P:Program} (w:World) (dT sT ty elem:TypeId) (g o dLen dCap:Nat) (a:Addr) (sLen sCap:Nat) (cur:Array Value) (t:TypeId) (cs:List Value)
 (hu:P.underlying dT=some (.slice elem)) (hs:(P.info? elem).map (·.size)=some 2)
 (hg:w.heap[g]? = some (.cells cur t (0,0))) (hn:cs.length=Nat.min sLen dLen * 2)
 (hsrc:∀ j v,cs[j]? = some v->w.cell? (a.add j)=some v) (hfit:o+cs.length<=cur.size) (h1:∀ v ∈ cs,v.oneCell' = true) :
 (Builtin.copy_ #[dT,sT] ty #[.slice (some ⟨g,o,none⟩) dLen dCap,.slice (some a) sLen sCap]).run P w =
  .ok (goInt (Nat.min sLen dLen)) (w.setRow g (cur.toList.take o++cs++cur.toList.drop (o+cs.length)).toArray):=by
 have hl:=run_loadCells_list (P:=P) w a cs hsrc;have hst:=run_storeCells_at P g o t cs 0 cur w hg (by simpa using hfit) h1;cases hq:P.info? elem with
 | none=>simp [hq] at hs
 | some i=>
  have hi:i.size=2:=by simpa [hq] using hs
  simp [Builtin.copy_,run_underlying hu,Builtin.lenOf,Builtin.firstCells,sizeOf,typeInfo,hq,hi,<- hn,hl,hst]
theorem zIk {P:Program} {w:World} {ops:Array Oper} {rest:List Oper} {o:Oper} {a:Act} {Q:Exit->Act->World->Prop} (hgd:o.guard=none) (d s:Operand) (dT sT:TypeId)
 (ho:o.op = .call { callee:=.builtin .copy,args:=#[d,s],argTypes:=#[dT,sT] }) (elem:TypeId) (hu:P.underlying dT=some (.slice elem)) (hsz:(P.info? elem).map (·.size)=some 2)
 (g off dLen dCap:Nat) (ad:Addr) (sLen sCap:Nat) (hd:a.eval d = .slice (some ⟨g,off,none⟩) dLen dCap) (hs:a.eval s = .slice (some ad) sLen sCap)
 (cur:Array Value) (t:TypeId) (hg:w.heap[g]? = some (.cells cur t (0,0))) (cs:List Value) (hn:cs.length=Nat.min sLen dLen * 2)
 (hsrc:∀ j v,cs[j]? = some v->w.cell? (ad.add j)=some v) (hfit:off+cs.length<=cur.size) (h1:∀ v ∈ cs,v.oneCell' = true)
 (h:∀ w',Hid (w' = w.setRow g (splice cur.toList off cs).toArray)->wpList P ops Q rest (a.put o.dst (goInt (Nat.min sLen dLen))) w'):wpList P ops Q (o::rest) a w:=by
 refine wpList_plain hgd fun K hK=>?_;have hrun:=zHe (P:=P) w dT sT o.type elem g off dLen dCap ad sLen sCap cur t cs hu hsz hg hn hsrc hfit h1;unfold Oper.wp;simp [execOp,ho,resolve,invoke,builtin,hd,hs,hrun,Result.andThen];simp only [splice] at h;refine hK _ _ (h _ (show _=_ from ?_));simp
theorem zMH {P:Program} {ops:Array Oper} {o:Oper} {a:Act} {w:World} {K:Act->World->Prop} {Q:Exit->Act->World->Prop} {E:Prop} (hgd:o.guard=none) (d s:Operand) (dT sT:TypeId)
 (ho:o.op = .call { callee:=.builtin .copy,args:=#[d,s],argTypes:=#[dT,sT] }) (elem:TypeId) (hu:P.underlying dT=some (.slice elem)) (hsz:(P.info? elem).map (·.size)=some 2)
 (g off dLen dCap:Nat) (ad:Addr) (sLen sCap:Nat) (hd:a.eval d = .slice (some ⟨g,off,none⟩) dLen dCap) (hs:a.eval s = .slice (some ad) sLen sCap)
 (cur:Array Value) (t:TypeId) (hg:w.heap[g]? = some (.cells cur t (0,0))) (cs:List Value) (hn:cs.length=Nat.min sLen dLen * 2)
 (hsrc:∀ j v,cs[j]? = some v->w.cell? (ad.add j)=some v) (hfit:off+cs.length<=cur.size) (h1:∀ v ∈ cs,v.oneCell' = true)
 (h:∀ w',Hid (w' = w.setRow g (splice cur.toList off cs).toArray)->K (a.put o.dst (goInt (Nat.min sLen dLen))) w') :
 if Region.wanted o (yielded ops a.tmps)=true then Oper.wp P o a w K Q else E:=by
 have hw:Region.wanted o (yielded ops a.tmps)=true:=by simp [Region.wanted,hgd]
 rw [if_pos hw];have hrun:=zHe (P:=P) w dT sT o.type elem g off dLen dCap ad sLen sCap cur t cs hu hsz hg hn hsrc hfit h1;unfold Oper.wp;simp [execOp,ho,resolve,invoke,builtin,hd,hs,hrun,Result.andThen];simp only [splice] at h;refine h _ (show _=_ from ?_);simp
theorem made2 (v:Value) (m:Nat):madeCells #[v,v] m=Array.replicate m v:=by
 apply Array.ext';apply List.ext_getElem?;intro j;by_cases hj:j < m
 . have h2:j % 2=0\/j % 2=1:=by omega
   rcases h2 with h2 | h2 <;> simp [madeCells,hj,h2]
 . simp [madeCells,hj]
theorem zJZ {P:Program} (w:World) {ops:Array Oper} {rest:List Oper} {o:Oper} {a:Act} {Q:Exit->Act->World->Prop}
 (hg:o.guard=none) (l c:Operand) (t:TypeId) (hop:o.op=Op.makeSlice t l c) (e:TypeId) (ht:P.underlying t=some (.slice e)) (hs:(P.info? e).map (·.size)=some 2) (hb:∃ m,(P.info? e).map (·.bytes)=some m/\m<=1000) (hz:(P.info? e).map (·.zero)=some (some (.agg #[.int .i64 0,.int .i64 0])))
 (kl kc:IntKind) (n:Nat) (hl:a.eval l = .int kl (n:Int)) (hc:a.eval c = .int kc (n:Int)) (hn:n < 1000000)
 (hK:wpList P ops Q rest (a.put o.dst (.slice (some ⟨w.heap.size,0,none⟩) n n)) (w.alloc (.cells (Array.replicate (n * 2) (Value.int .i64 0)) e))):wpList P ops Q (o::rest) a w:=by
 refine wpList_plain hg fun K hK'=>?_;cases hq:P.info? e with
 | none=>rw [hq] at hs; cases hs
 | some i=>
  rw [hq] at hs hb hz;obtain ⟨m,hb,hm⟩:=hb;injection hs with hs
  injection hb with hb
  injection hz with hz
  replace hb:i.bytes=m:=hb;replace hs:i.size=2:=hs;replace hz:i.zero=some (.agg #[.int .i64 0,.int .i64 0]):=hz;have hmul:i.bytes * n<=1000 * 1000000:=Nat.mul_le_mul (by omega) (by omega);have hby:(i.bytes:Int) * (n:Int)<=281474976710656:=by
   have:((i.bytes * n:Nat):Int)<=281474976710656:=by omega
   rwa [Int.natCast_mul] at this
  have hrun:=run_make (P:=P) w t e i _ ht hq hz kl kc n n (by omega) (Int.le_refl _) hby (by omega);rw [Int.toNat_natCast,hs,show (Value.agg #[.int .i64 0,.int .i64 0]).cells = #[Value.int .i64 0,.int .i64 0] from rfl,made2] at hrun;unfold Oper.wp;simp [execOp,hop,hl,hc,hrun,Result.andThen];exact hK' _ _ hK
def bd2 (x y:Int):List Value:=[.int .i64 x,.int .i64 y]
def row2 (x y:Int) (k m:Nat):List Value:=(List.replicate k (bd2 x y)).flatten++List.replicate (m * 2) (.int .i64 0)
theorem zBB (x y:Int):∀ k,(List.replicate k (bd2 x y)).flatten.length=k * 2
 | 0=>rfl
 | k+1=>by rw [List.replicate_succ,List.flatten_cons,List.length_append,zBB x y k]; simp [bd2]; omega
theorem zBI (x y:Int) (k m:Nat):(row2 x y k m).length=(k+m) * 2:=by
 simp [row2,zBB x y k]; omega
theorem zHo (x y:Int) (k r m:Nat) (h:m<=k):(row2 x y k r).take (m * 2)=(List.replicate m (bd2 x y)).flatten:=by
 obtain ⟨d,rfl⟩:∃ d,k=m+d:=⟨k - m,by omega⟩;unfold row2;rw [<- List.replicate_append_replicate,List.flatten_append,List.append_assoc,List.take_append_of_le_length (by rw [zBB]; exact Nat.le_refl _),List.take_of_length_le (by rw [zBB]; exact Nat.le_refl _)]
theorem zMR (x y:Int) (k r m:Nat) (h1:m<=k) (h2:m<=r):splice (row2 x y k r) (k * 2) ((row2 x y k r).take (m * 2))=row2 x y (k+m) (r - m):=by
 rw [zHo x y k r m h1];unfold splice;rw [zHo x y k r k (Nat.le_refl _),zBB];have hd:(row2 x y k r).drop (k * 2+m * 2)=List.replicate ((r - m) * 2) (.int .i64 0):=by
  unfold row2;rw [List.drop_append,zBB,List.drop_of_length_le (by rw [zBB]; omega),List.nil_append,List.drop_replicate];congr 1;omega
 rw [hd,<- List.append_assoc,<- List.flatten_append,List.replicate_append_replicate];rfl
theorem zJ7 (x y:Int) (n:Nat) (hn:1<=n):splice (List.replicate (n * 2) (Value.int .i64 0)) 0 (bd2 x y)=row2 x y 1 (n - 1):=by
 unfold splice row2;rw [List.take_zero,List.nil_append,List.drop_replicate,show n * 2 - (0+(bd2 x y).length)=(n - 1) * 2 by simp [bd2]; omega];rfl
theorem zOX (x y:Int) (k m:Nat):∀ v ∈ row2 x y k m,v.oneCell' = true:=by
 intro v hv;rcases List.mem_append.1 hv with hv | hv
 . obtain ⟨l,hl,hv⟩:=List.mem_flatten.1 hv;rw [(List.mem_replicate.1 hl).2] at hv;simp only [bd2,List.mem_cons,List.not_mem_nil,or_false] at hv;rcases hv with rfl | rfl <;> rfl
 . rw [(List.mem_replicate.1 hv).2]; rfl
set_option maxRecDepth 100000 in
set_option maxHeartbeats 2000000 in
theorem zRK (x y:Int) (n:Nat) (hn:1<=n) (hn2:n < 1000000) (b o cap:Nat) (w:World) (c0:w.cell? ⟨b,o,none⟩=some (.int .i64 x)) (c1:w.cell? ⟨b,o+1,none⟩=some (.int .i64 y)) (hb:b < w.heap.size) :
 Calls Tryz.prog 44 #[.slice (some ⟨b,o,none⟩) 1 cap,.int .i64 (n:Int)] w fun e w'=>e = .returned (.slice (some ⟨w.heap.size,0,none⟩) n n)/\Below w.heap.size w w'/\w'.heap[w.heap.size]? = some (.cells (row2 x y n 0).toArray 47 (0,0)):=by
 have hw1:IntKind.u64.wrap (1:Int)=1:=by rw [IntKind.wrap_u64]; omega
 have hwn:IntKind.u64.wrap (n:Int)=n:=by rw [IntKind.wrap_u64]; omega
 have hin:IntKind.i64.wrap (n:Int)=n:=IntWalk.i64_in _ (by omega);have hlt:¬ ((n:Int) < 0):=by omega
 have hd:1 * n / 18446744073709551616=0:=by omega
 have hm:1 * n % 18446744073709551616=n:=by omega
 have hmul:=fun w=>Tryz.bits_Mul 1 n (by omega) (by omega) w;simp only [hd,hm] at hmul;have hG0:(w.alloc (.cells (Array.replicate (n * 2) (Value.int .i64 0)) 47)).heap[w.heap.size]? = some (.cells (Array.replicate (n * 2) (Value.int .i64 0)) 47 (0,0)):=World.alloc_heap_new w _;have hsrc:∀ j v,(bd2 x y)[j]? = some v->(w.alloc (.cells (Array.replicate (n * 2) (Value.int .i64 0)) 47)).cell? ((⟨b,o,none⟩:Addr).add j)=some v:=fun j v hj=>by
  have hadd:(⟨b,o,none⟩:Addr).add j=⟨b,o+j,none⟩:=by unfold Addr.add; split <;> simp_all
  rw [hadd];refine (World.cell?_of_block (Below.heap_alloc _ _ _ hb)).trans ?_
  match j,hj with
  | 0,hj=>simp [bd2] at hj; rw [<- hj]; exact c0
  | 1,hj=>simp [bd2] at hj; rw [<- hj]; exact c1
 have hmin:Nat.min 1 n=1:=Nat.min_eq_left hn;have hcs:(bd2 x y).length=Nat.min 1 n * 2:=by rw [hmin]; rfl
 have hfit:0+(bd2 x y).length<=(Array.replicate (n * 2) (Value.int .i64 0)).size:=by simp [bd2]; omega
 have hone:∀ v ∈ bd2 x y,v.oneCell' = true:=by simp [bd2,Value.oneCell']
 go_enter Tryz.func44,Tryz.ntmps44
 go_wp2_with (first | (go_at_call 66; refine (hmul _).mono ?_; rintro e w' ⟨rfl,hw'⟩; rw [hw']) | (at_make; refine zJZ _ rfl _ _ 44 rfl 47 Tryz.underlying44 (by kernel_rfl) ⟨16,by kernel_rfl,by decide⟩ (by kernel_rfl) .i64 .i64 n rfl rfl hn2 ?_) | (refine zIk rfl (.tmp 31) (.tmp 32) 44 44 rfl 47 Tryz.underlying44 (by kernel_rfl) w.heap.size 0 n n ⟨b,o,none⟩ 1 cap rfl rfl (Array.replicate (n * 2) (Value.int .i64 0)) 47 hG0 (bd2 x y) hcs hsrc hfit hone ?_; rw [hmin]; intro W1 hW1) | go_in)
 have hB1:Below w.heap.size w W1:=by
  rw [hW1.out];exact below_setRow ((Below.refl _ w).alloc (Nat.le_refl _) _) (Nat.le_refl _) _
 have hH1:W1.heap[w.heap.size]? = some (.cells (row2 x y 1 (n - 1)).toArray 47 (0,0)):=by
  rw [hW1.out,setRow_heap _ _ _ _ _ _ hG0,show (Array.replicate (n * 2) (Value.int .i64 0)).toList=List.replicate (n * 2) (Value.int .i64 0) from by simp,zJ7 x y n hn]
 go_loopw [8] (fun i wr=>∃ k:Nat,1<=k/\k<=n/\i = .int .i64 (k:Int)/\Below w.heap.size w wr/\wr.heap[w.heap.size]? = some (.cells (row2 x y k (n - k)).toArray 47 (0,0))) (fun i _=>n - (intOf i).toNat)
 case atStart=>exact ⟨1,Nat.le_refl _,hn,rfl,hB1,hH1⟩
 case round=>
  obtain ⟨k,hk1,hkn,rfl,hB,hH⟩:=hrel;by_cases hlt:k < n
  . have hlt':(k:Int) < (n:Int):=by omega
    obtain ⟨cs,hcs0⟩:∃ cs,cs=(row2 x y k (n - k)).take (Nat.min k (n - k) * 2):=⟨_,rfl⟩;have hcs2:cs.length=Nat.min k (n - k) * 2:=by
     rw [hcs0,List.length_take,zBI];have:Nat.min k (n - k)<=k:=Nat.min_le_left _ _;omega
    have hmk:Nat.min k (n - k)<=n - k:=Nat.min_le_right _ _;have hsrc2:∀ j v,cs[j]? = some v->wr.cell? ((⟨w.heap.size,0,none⟩:Addr).add j)=some v:=fun j v hj=>by
     have hadd:(⟨w.heap.size,0,none⟩:Addr).add j=⟨w.heap.size,j,none⟩:=by unfold Addr.add; split <;> simp_all
     rw [hadd];rw [hcs0,List.getElem?_take] at hj;split at hj
     . simp only [World.cell?,hH,List.getElem?_toArray];exact hj
     . cases hj
    have hfit2:k * 2+cs.length<=(row2 x y k (n - k)).toArray.size:=by
     rw [hcs2,List.size_toArray,zBI]; omega
    have hone2:∀ v ∈ cs,v.oneCell' = true:=fun v hv=>zOX x y k (n - k) v (by rw [hcs0] at hv; exact List.mem_of_mem_take hv);have hspl:splice (row2 x y k (n - k)) (k * 2) cs=row2 x y (k+Nat.min k (n - k)) (n - k - Nat.min k (n - k)):=by
     rw [hcs0]; exact zMR x y k (n - k) _ (Nat.min_le_left _ _) hmk
    have hadd:IntKind.i64.wrap ((k:Int)+((Nat.min k (n - k):Nat):Int))=((k+Nat.min k (n - k):Nat):Int):=by
     rw [IntWalk.i64_in _ (by omega)]; omega
    have hmp:1<=Nat.min k (n - k):=Nat.le_min.2 ⟨hk1,by omega⟩;clear hcs0;have hnk:¬ n=k:=by omega
    go_wp2
    go_region_law (refine zMH rfl (.tmp 41) (.tmp 44) 44 44 rfl 47 Tryz.underlying44 (by kernel_rfl) w.heap.size (k * 2) (n - k) (n - k) ⟨w.heap.size,0,none⟩ k n (by simp [Act.eval,Act.put,hnk]) (by simp [Act.eval,Act.put]) (row2 x y k (n - k)).toArray 47 hH cs hcs2 hsrc2 hfit2 hone2 ?_; intro w4 hw4)
    have hB4:Below w.heap.size w w4:=by
     have hBd:Below w.heap.size w wr.drew:=hB.trans ⟨rfl,rfl,rfl,Nat.le_refl _,fun _ _=>rfl⟩;rw [hw4.out];exact below_setRow hBd (Nat.le_refl _) _
    have hH4:w4.heap[w.heap.size]? = some (.cells (row2 x y (k+Nat.min k (n - k)) (n - k - Nat.min k (n - k))).toArray 47 (0,0)):=by
     rw [hw4.out,setRow_heap _ _ _ _ _ _ (show wr.drew.heap[w.heap.size]? = _ from hH),show (row2 x y k (n - k)).toArray.toList=row2 x y k (n - k) from rfl,hspl]
    clear hw4 hspl hsrc2;simp only [List.getElem_toArray,List.getElem_cons_succ,List.getElem_cons_zero,Act.put,List.setIfInBounds_toArray,List.set_cons_succ,List.set_cons_zero];go_wp2;go_roundw
    case rel=>exact ⟨k+Nat.min k (n - k),by omega,by omega,by congr 1,hB4,by rw [show n - (k+Nat.min k (n - k))=n - k - Nat.min k (n - k) by omega]; exact hH4⟩
    case measure=>simp [intOf]; omega
  . obtain rfl:k=n:=by omega
    go_wp2;rw [Nat.sub_self] at hH;go_ret;exact ⟨rfl,hB,hH⟩
def c44 (a:List BindT×Int×Unit):Option (List BindT×Unit):=match a.1 with
 | [x]=>if 1<=a.2.1/\a.2.1 < 1000000 then some (List.replicate a.2.1.toNat x,()) else none
 | _=>none
theorem zLA (x:BindT) {g:Gh} {w:World}:∀ n,RCs g w (bdC (List.replicate n x)) (List.replicate n (bd2 x.space x.fto)).flatten
 | 0=>rfl
 | n+1=>by
  show RCs g w (V.at (.int .i64 x.space)::V.at (.int .i64 x.fto)::bdC (List.replicate n x)) (.int .i64 x.space :: .int .i64 x.fto::(List.replicate n (bd2 x.space x.fto)).flatten);simp only [RCs,RC];exact ⟨[_],_,rfl,⟨rfl,rfl⟩,[_],_,rfl,⟨rfl,rfl⟩,zLA x n⟩
theorem zNG (l:List BindT):∀ c ∈ bdC l,c.isOne=true:=by
 induction l with
 | nil=>intro c hc; cases hc
 | cons x r ih=>
  intro c hc;replace hc:c ∈ V.at (.int .i64 x.space)::V.at (.int .i64 x.fto)::bdC r:=hc;simp only [List.mem_cons] at hc;rcases hc with rfl | rfl | hc
  . rfl
  . rfl
  . exact ih c hc
set_option maxHeartbeats 1000000 in
theorem ok44:CPOk CC Tryz.prog syn 44 (cFB c44):=by
 intro x a R pan K r hr;obtain ⟨l,m,u⟩:=a;change List BindT at l;change Int at m;replace hr:Option.bind (c44 (l,m,())) (fun y=>K () y)=some r:=hr;unfold c44 at hr;split at hr
 rotate_left
 . cases hr
 rename_i z hz;replace hz:l=[z]:=hz;subst hz;split at hr
 rotate_left
 . cases hr
 rename_i hm;replace hm:1<=m/\m < 1000000:=hm;obtain ⟨n,rfl⟩:∃ n:Nat,m=n:=⟨m.toNat,by omega⟩;simp only [Int.toNat_natCast] at hr;refine ⟨some ((),(List.replicate n z,())),hr,fun s vx va r1 r2 h1 h2 hn=>?_⟩;obtain ⟨rfl,rfl⟩:=h1;obtain ⟨v1,w1,q1,q2,rfl,rfl,⟨rfl,rfl⟩,v2,w2,q3,q4,rfl,rfl,⟨rfl,rfl⟩,rfl,rfl⟩:=h2;generalize subS s ([]++([]++([]++[])))=s0;intro B g w vs hi hgl hv;obtain ⟨u1,u2,rfl⟩:∃ u1 u2,vs=[u1,u2]:=by
  cases hv with
  | cons _ hv=>cases hv with
   | cons _ hv=>cases hv; exact ⟨_,_,rfl⟩
 have hu1:RC g w (.lst (zw ([z].map (CC.encV TI.bind))) ([z].map (CC.encV TI.bind))) [u1]:=by cases hv with | cons h _=>exact zAW h
 have hu2:u2 = .int .i64 (n:Int):=by cases hv with | cons _ h=>cases h with | cons h _=>exact yA h
 subst hu2;simp only [RC] at hu1;rcases hu1 with ⟨h,_⟩ | ⟨b,o,cap,ds,e1,e2,_,e3,_,e4⟩
 . cases h
 injection e1 with e1
 subst e1;have e3':RCs g.bare w [.agg [.at (.int .i64 z.space),.at (.int .i64 z.fto)]] ds:=e3;simp only [RCs,RC] at e3';obtain ⟨_,_,rfl,⟨_,_,rfl,⟨rfl,_⟩,_,_,rfl,⟨rfl,_⟩,rfl⟩,rfl⟩:=e3';obtain ⟨c0,l0⟩:=e4 0 _ rfl;obtain ⟨c1,_⟩:=e4 1 _ rfl;have hb:b < w.heap.size:=by
  rcases Nat.lt_or_ge b w.heap.size with h | h
  . exact h
  . rw [hi.fresh b h] at l0; omega
 refine (zRK z.space z.fto n (by omega) (by omega) b o cap w c0 c1 hb).mono ?_;rintro e w' ⟨rfl,hbel,hG⟩;have hl:Later g w g w':=⟨fun _=>Nat.le_refl _,fun _ _ e=>e,fun b o ho=>by
  refine World.cell?_of_block (hbel.block b ?_);rcases Nat.lt_or_ge b w.heap.size with hh | hh
  . exact hh
  . rw [hi.fresh b hh] at ho; omega⟩
 have hi3:Al.Inv B g s0 w':=hi.grow hl hbel.size (fun b h=>hbel.block b h) (fun _ _=>rfl) (fun b h=>hi.fresh b (Nat.le_trans hbel.size h)) rfl rfl;have hB:=hi.base;have lt:∀ {b:Nat} {o:Obj},w.heap[b]? = some o->b < w.heap.size:=fun hh=>(Array.getElem?_eq_some_iff.1 hh).1;have hsz:(row2 z.space z.fto n 0).toArray.size=n * 2:=by rw [List.size_toArray,zBI,Nat.add_zero]
 have hrow:row2 z.space z.fto n 0=(List.replicate n (bd2 z.space z.fto)).flatten:=by simp [row2]
 have hcl:(bdC (List.replicate n z)).length=n * 2:=by rw [zD8,List.length_replicate]
 have hi4:=hi3.addBox (b:=w.heap.size) (arr:=(row2 z.space z.fto n 0).toArray) (el:=47) (cs:=bdC (List.replicate n z)) (us:=(List.replicate n (bd2 z.space z.fto)).flatten) hB (hi.fresh _ (Nat.le_refl _)) hG (by rw [hsz,hcl]; exact Nat.le_refl _) (zNG _) (zLA z n)
  (by rw [hcl,<- hrow]; exact List.take_of_length_le (by show (row2 z.space z.fto n 0).length<=_; rw [zBI]; exact Nat.le_refl _)) (fun t ht d hd=>by
   obtain ⟨d1,d2,d3⟩:=d;obtain ⟨_,_,_,_,_,arr,el,h5,_⟩:=hi.own t ht _ d1 d2 d3 hd;have:=lt h5; omega) (by
   cases e:g.fr w.heap.size with
   | false=>rfl
   | true=>have:=(hi.ex.frz _ e).1; omega) (fun b' o' fp h hm=>by
   have:=((hi.ex.ob b' o' fp h).2.2 _ hm).2.1; omega)
 rw [hsz] at hi4;refine ⟨g,_,⟨hl,Below.mono hbel hB,fun b h=>⟨hbel.block b (hi.ex.frz b h).1,rfl⟩,fun _ _=>rfl,rfl⟩,hi4,.at (.slice (some ⟨w.heap.size,0,none⟩) n n),yN rfl,[.at (.slice (some ⟨w.heap.size,0,none⟩) n n)],[],[.inr w.heap.size],⟨rfl,rfl⟩,⟨_,[],[.inr w.heap.size],[],rfl,rfl,⟨w.heap.size,n,by show V.at (.slice (some ⟨w.heap.size,0,none⟩) n n) = .at (.slice (some ⟨w.heap.size,0,none⟩) (List.replicate n z).length n); rw [List.length_replicate],by show (List.replicate n z).length<=n; rw [List.length_replicate]; exact Nat.le_refl _,?_,rfl⟩,rfl,rfl⟩,by simp,rfl⟩;show Al.look (lay s0.box w.heap.size _) w.heap.size=_;rw [zN,if_pos rfl];rfl
end Go.Proofs.YtnamdpbcpnnhaaaGreatDoor
end
namespace Go.Proofs.YtnamdpbcpnnhaaaGreatDoor
section
open Go.Al Go.Den
noncomputable def c67n (fu:Nat):zA ([.int .i64]:LK)->WW (zA ([.bool]:LK)):=mW0 (sh1067 fu c15)
theorem ok67n (fu:Nat):CPOk CC Tryz.prog syn 67 (cW0 ([.int .i64]:LK) ([.bool]:LK) (c67n fu)):=con1067 fu c15 ok15
noncomputable def c45n (fu:Nat):Nat->zA ([.st TI.node]:LK)->WW (zA ([.int .i64]:LK))
 | 0=>fun _ _=>none
 | n+1=>mW0 (sh1045 fu (c45n fu n) (c67n fu))
theorem ok45n (fu:Nat):∀ n,CPOk CC Tryz.prog syn 45 (cW0 ([.st TI.node]:LK) ([.int .i64]:LK) (c45n fu n))
 | 0=>by intro x a R pan K r h; cases h
 | n+1=>con1045 fu (c45n fu n) (ok45n fu n) (c67n fu) (ok67n fu)
noncomputable def c26 (fu n:Nat) (x:List TokT×Nd×Unit):Option (List BindT×Unit):=sh26 fu c32 c46 c44 (c45n fu n) c47 (wcs fu n).c48 (fun _=>false) x.1 x.2.1
noncomputable def c25 (fu:Nat) (x:Str×Unit):Option (List TokT×Unit):=sh25 fu (c39 fu) (fun _=>false) x.1
theorem ok25 (fu:Nat):ConOk CC Tryz.prog 25 ⟨as25,rs25,c25 fu⟩:=con25 fu (c39 fu) (ok39 fu)
noncomputable def c43 (fu n m:Nat) (x:Str×Str×Unit):Option (List Int×Unit):=sh43 fu (c17 fu m) (c25 fu) (c26 fu n) (fun _=>false) x.1 x.2.1
noncomputable def c24 (fu n m:Nat) (_:Unit):Option (Bool×Unit):=sh24 fu c29 (c43 fu n m) (fun _=>false)
end
section
open Go.Al Go.Den Go.RowKit Go.Shelf
attribute [local congr] ym xO xT xn yO yq yF yE yn xM yo xW yw yk yB yK yg xZ xU yS xL yj yU yR yr yu yV yl yh yY xm xY xV xK xP xN yi yX yT
attribute [local go_sem] Oper.semAt_some
theorem zJt {P:Program} {L:Pol} {ds:List (Option Nat)} {KP:List PanicEntry->S->Prop} {os:List Oper} {K:Env->S->Prop} {e:Env} {st:S} {d:Option Nat} {ty:TypeId} {pos:String} {af:Array Edge} (fn:Fn) (xs:List Operand) :
 AL P L ds KP (⟨d,.makeFunc fn #[] xs.toArray,ty,pos,af,none⟩::os) K e st=zGo fn [] (xs.map e.ev) fun v=>AL P L ds KP os K (e.putO d v) st:=propext Iff.rfl
set_option maxRecDepth 100000 in
theorem ok124x {es:List V} {tg:Tag} {s:S} (htg:yd (.lst tg es) = .lst tg es):FnC Tryz.prog 124 [.lst tg es] s fun oc s'=>∃ b,Al.look s.box b=none/\oc = .ret (.clo (.func 137) [ptV b])/\s' = ⟨lay s.box b ([.lst tg es],1),s.tg,s.nx,s.ob⟩:=by
 refine yz Tryz.func124 rfl Tryz.ntmps124 Tryz.results124 (by show 1<=4; decide) fun B=>?_;simp only [List.cons_append,List.nil_append,List.append_nil,xg,Nat.reduceAdd]
 (repeat (first | (refine zg ?_) | (refine zW ?_; simp -failIfUnchanged only [zB,zC]) | (refine zf ?_; simp -failIfUnchanged only [zV,zS,zd,zU]) | (refine zY ?_; simp -failIfUnchanged only [zR,zM,zB,zC,reduceIte]) | (refine zT ?_) | ((first | (refine ze polN zCo _ rfl rfl ?_) | (refine za polN mixed zCo _ rfl rfl (by kernel_rfl) (by kernel_rfl) ?_)); simp only [↓zk,↓yP,↓zJ2,zB,zH,zI,zK,zP,zm,zb,zX,V.flat,if_true,if_false,Nat.reduceEqDiff,reduceCtorEq,zCo])))
 refine ⟨rfl,fun b hb=>?_⟩
 (repeat (first | (refine zg ?_) | (refine zW ?_; simp -failIfUnchanged only [zB,zC]) | (refine zf ?_; simp -failIfUnchanged only [zV,zS,zd,zU]) | (refine zY ?_; simp -failIfUnchanged only [zR,zM,zB,zC,reduceIte]) | (refine zT ?_) | ((first | (refine ze polN zCo _ rfl rfl ?_) | (refine za polN mixed zCo _ rfl rfl (by kernel_rfl) (by kernel_rfl) ?_)); simp only [↓zk,↓yP,zB,yb,zH,zI,zK,zP,zb,zX,List.map_cons,List.map_nil,List.length_cons,List.length_nil,if_true,if_false,Nat.reduceEqDiff,Nat.zero_add,zCo,zJt])))
 refine ⟨rfl,?_⟩
 (repeat (first | (refine zg ?_) | (refine zW ?_; simp -failIfUnchanged only [zB,zC]) | (refine zf ?_; simp -failIfUnchanged only [zV,zS,zd,zU]) | (refine zY ?_; simp -failIfUnchanged only [zR,zM,zB,zC,reduceIte]) | (refine zT ?_) | ((first | (refine ze polN zCo _ rfl rfl ?_) | (refine za polN mixed zCo _ rfl rfl (by kernel_rfl) (by kernel_rfl) ?_)); simp only [])))
 simp only [ya];refine ⟨rfl,b,hb,rfl,rfl⟩
def KpN (Bs:Nat) (a:Option Addr) (n:Nat) (A B:World):Prop:=(∀ v,A.cell? ⟨Bs,0,none⟩=some v->B.cell? ⟨Bs,0,none⟩=some v)/\∀ b o,a=some ⟨b,o,none⟩->∀ j v,j < n * 3->A.cell? ⟨b,o+j,none⟩=some v->B.cell? ⟨b,o+j,none⟩=some v
theorem KpN.refl (Bs:Nat) (a:Option Addr) (n:Nat) (A:World):KpN Bs a n A A:=⟨fun _ h=>h,fun _ _ _ _ _ _ h=>h⟩
theorem KpN.trans {Bs n:Nat} {a:Option Addr} {A B C:World} (h:KpN Bs a n A B) (k:KpN Bs a n B C):KpN Bs a n A C:=⟨fun v e=>k.1 v (h.1 v e),fun b o q j v hj e=>k.2 b o q j v hj (h.2 b o q j v hj e)⟩
theorem KpN.put {Bs n:Nat} {a:Option Addr} (W:World) (l:Nat) (o o':Obj) (hl:W.heap[l]? = some o) (ho:o.isCells=false):KpN Bs a n W (W.putObj l o'):=by
 have key:∀ b j v,W.cell? ⟨b,j,none⟩=some v->(W.putObj l o').cell? ⟨b,j,none⟩=some v:=fun b j v e=>by
  refine (World.cell?_of_block (World.putObj_heap_other ?_)).trans e;intro e2;have e2:b=l:=e2;subst e2;unfold World.cell? at e;simp only [hl] at e;cases o <;> first | (cases ho; done) | (cases e; done) | (simp at e; done)
 exact ⟨fun v e=>key _ _ _ e,fun b o _ j v _ e=>key _ _ _ e⟩
structure NdC where
 k:Value
 t:Value
 l:Value
def NdC.enc (x:NdC):Value:=.agg #[x.k,x.t,x.l]
set_option maxRecDepth 100000 in
set_option maxHeartbeats 2000000 in
theorem zLf (F:Fence) (n:Nat) (h8:F.fn 137) (hro:F.round=none) (hn:1<=n) (l Bs cap b o:Nat) (a:Option Addr) (xs:List NdC) (hab:xs≠[]->a=some ⟨b,o,none⟩) (hreach:xs.length < 1000000) (J Jx:List (Fin xs.length)->World->Prop)
 (hY:∀ pre x W,J pre W->pre.length < xs.length->YieldAt F (n - 1) Tryz.prog l #[.int .i64 (x.1:Int),(xs[x.1]'x.2).enc] W fun e W'=>
  (e = .returned (.bool true)/\J (pre++[x]) W'/\KpN Bs a xs.length W W')\/(e = .returned (.bool false)/\Jx (pre++[x]) W'))
 (W:World) (hBs:W.cell? ⟨Bs,0,none⟩=some (.slice a xs.length cap)) (hc:∀ j (hj:j < xs.length),W.cell? ⟨b,o+j * 3,none⟩=some (xs[j]'hj).k/\W.cell? ⟨b,o+(j * 3+1),none⟩=some (xs[j]'hj).t/\W.cell? ⟨b,o+(j * 3+2),none⟩=some (xs[j]'hj).l) (h0:J [] W) :
 CallsIn F n Tryz.prog 137 #[.func (.yield l) #[] #[],.pointer (some ⟨Bs,0,none⟩)] W fun e W'=>(∃ v,e = .returned v) /\
  ((∃ ys,ys=qt xs.length xs.length/\J ys W')\/(∃ pre,(∃ k,k<=xs.length/\pre=qt xs.length k)/\Jx pre W')):=by
 refine callsIn_of_wp Tryz.func137 rfl h8 ?_ hro;simp only [Tryz.ntmps137,List.size_toArray,List.length_cons,List.length_nil,Nat.reduceAdd,Nat.reduceSub,Array.replicate_succ,Array.replicate_zero,List.push_toArray,List.append_toArray,List.nil_append,List.cons_append];have hsub:IntKind.i64.wrap ((xs.length:Int) - 1)=(xs.length:Int) - 1:=IntWalk.i64_in _ (by omega);gi_wp2
 gi_loopw [3] (fun i wr=>∃ k:Nat,k<=xs.length/\i = .int .i64 ((xs.length:Int) - 1 - k)/\J (qt xs.length k) wr/\KpN Bs a xs.length W wr)
  (fun i _=>(intOf i+1).toNat)
 case atStart=>exact ⟨0,Nat.zero_le _,by simp,h0,KpN.refl _ _ _ _⟩
 case round=>
  obtain ⟨k,hk,rfl,hJs,hnx⟩:=hrel;have hBs':=hnx.1 _ hBs;by_cases hlt:k < xs.length
  . obtain rfl:=hab (by rintro rfl; simp at hlt);obtain ⟨m,hm⟩:∃ m:Nat,m+k+1=xs.length:=⟨xs.length - 1 - k,by omega⟩;have hml:m < xs.length:=by omega
    obtain ⟨c1,c2,c3⟩:=hc m hml;have hcx1:=hnx.2 b o rfl (m * 3) _ (by omega) c1;have hcx2:wr.cell? ⟨b,o+m * 3+1,none⟩=some (xs[m]'hml).t:=hnx.2 b o rfl (m * 3+1) _ (by omega) c2;have hcx3:wr.cell? ⟨b,o+m * 3+2,none⟩=some (xs[m]'hml).l:=hnx.2 b o rfl (m * 3+2) _ (by omega) c3;have ei:(xs.length:Int) - 1 - (k:Int)=(m:Int):=by omega
    rw [ei];obtain ⟨fn,tmps,assign,body,hy,hR⟩:=hY _ ⟨m,hml⟩ wr hJs (by rw [zEI _ _ hk]; exact hlt);dsimp only [NdC.enc] at hy;clear c1 c2 c3 hc;generalize (xs[m]'hml).k=xk at hcx1 hy;generalize (xs[m]'hml).t=xt at hcx2 hy;generalize (xs[m]'hml).l=xl at hcx3 hy;have hlt2:(m:Int) < (xs.length:Int):=by omega
    have hge2:¬ ((m:Int) < 0):=by omega
    gi_wp2;refine hR.mono ?_;have hm':m=xs.length - 1 - k:=by omega
    rintro e W3 (⟨rfl,hJ3,hk3⟩ | ⟨rfl,hJx3⟩)
    . have hsub3:IntKind.i64.wrap ((m:Int) - 1)=(m:Int) - 1:=IntWalk.i64_in _ (by omega);gi_wp2;go_roundw
      case rel=>exact ⟨k+1,by omega,by congr 1; omega,by rw [zBa _ _ _ hm]; exact hJ3,hnx.trans hk3⟩
      case measure=>simp [intOf]; omega
    . gi_wp2;refine bodyPost_ret (results_none rfl _ _ _) rfl ?_;exact ⟨⟨_,rfl⟩,.inr ⟨_,⟨k+1,by omega,(zBa _ _ _ hm).symm⟩,hJx3⟩⟩
  . obtain rfl:k=xs.length:=by omega
    gi_wp2;go_end0;exact ⟨⟨_,rfl⟩,.inl ⟨_,rfl,hJs⟩⟩
theorem zH6 (F:Fence) (n:Nat) (h8:F.fn 137) (hro:F.round=none) (hn:1<=n) (Bs cap b o:Nat) (a:Option Addr) (xs:List NdC) (hab:xs≠[]->a=some ⟨b,o,none⟩) (hreach:xs.length < 1000000) (w:World) (hB:Bs < w.heap.size) (hb:xs≠[]->b < w.heap.size)
 (hBs:w.cell? ⟨Bs,0,none⟩=some (.slice a xs.length cap)) (hc:∀ j (hj:j < xs.length),w.cell? ⟨b,o+j * 3,none⟩=some (xs[j]'hj).k/\w.cell? ⟨b,o+(j * 3+1),none⟩=some (xs[j]'hj).t/\w.cell? ⟨b,o+(j * 3+2),none⟩=some (xs[j]'hj).l) :
 SeqStopsK F n Tryz.prog 137 #[.pointer (some ⟨Bs,0,none⟩)] (fun x:Fin xs.length=>#[Value.int .i64 (x.1:Int),(xs[x.1]'x.2).enc]) (KpN Bs a xs.length) (fun ys=>ys=qt xs.length xs.length)
  (fun pre=>∃ k,k<=xs.length/\pre=qt xs.length k) xs.length w:=fun l J Jx W hW _ _ hY h0=>
 zLf F n h8 hro hn l Bs cap b o a xs hab hreach J Jx hY W ((hW.cell (p:=⟨Bs,0,none⟩) hB).trans hBs) (fun j hj=>by
  have hb':=hb (by rintro rfl; simp at hj);obtain ⟨q1,q2,q3⟩:=hc j hj;exact ⟨(hW.cell (p:=⟨b,o+j * 3,none⟩) hb').trans q1,(hW.cell (p:=⟨b,o+(j * 3+1),none⟩) hb').trans q2,(hW.cell (p:=⟨b,o+(j * 3+2),none⟩) hb').trans q3⟩) h0
end
end Go.Proofs.YtnamdpbcpnnhaaaGreatDoor
section
namespace Go.Al
open Go.RowKit
def awpG (P:Program) (X:Cx) (n:Nat) (c:Code) (Q:Exit->Act->World->Prop) (g0:Gh) (w0:World) (e:Env) (st:S):Prop:=
 ∀ g a w,Step X.B g0 w0 g w->Rel X g e st a w->c.wpIn Fence.wide n P Q a w
theorem zHs {P:Program} {B n:Nat} {N:NF} {df:List Deferred} {c:Code} {Q:Exit->Env->S->Prop} {e:Env} {st:S} (h:awp P ⟨B,N,none,df⟩ c Q e st) {g:Gh} {a:Act} {w:World} (hr:Rel ⟨B,N,none,df⟩ g e st a w) :
 c.wpIn Fence.wide n P (fun ex a' w'=>∃ g' e' st',Step B g w g' w'/\Rel ⟨B,N,none,df⟩ g' e' st' a' w'/\Q ex e' st') a w:=wpIn_wide.2 (wpIn_wide.1 (h g a w hr))
theorem jP {P:Program} {B n:Nat} {N:NF} {df:List Deferred} {x y:Code} {Q:Exit->Act->World->Prop} {g0:Gh} {w0:World} {e:Env} {st:S}
 (h:awp P ⟨B,N,none,df⟩ x (zBj (fun e st=>awpG P ⟨B,N,none,df⟩ n y Q g0 w0 e st) (fun _ _ _=>False)) e st):awpG P ⟨B,N,none,df⟩ n (.seq x y) Q g0 w0 e st:=fun g a w hs hr=>by
 refine wpIn_seq (wpIn_mono (zHs h hr) ?_);rintro ex a' w' ⟨g',e',st',k1,k2,k3⟩;cases ex with
 | normal=>exact k3 g' a' w' (hs.trans k1) k2
 | ret=>exact k3.elim
 | exit _=>exact k3.elim
 | panic _=>exact k3.elim
 | goto _=>exact k3.elim
 | outgrown=>exact k3.elim
theorem zNN {P:Program} {X:Cx} {n:Nat} {x y:Code} {Q:Exit->Act->World->Prop} {g0:Gh} {w0:World} {e:Env} {st:S}
 (h:awpG P X n x (Exit.then (y.wpIn Fence.wide n P Q) Q) g0 w0 e st):awpG P X n (.seq x y) Q g0 w0 e st:=fun g a w hs hr=>wpIn_seq (h g a w hs hr)
theorem zPA {P:Program} {B n:Nat} {N:NF} {df:List Deferred} {x:Code} {Q:Exit->Act->World->Prop} {g0:Gh} {w0:World} {e:Env} {st:S} {K:Env->S->Prop}
 (h:awp P ⟨B,N,none,df⟩ x (zBj K (fun _ _ _=>False)) e st) (hq:∀ g e' s a w,Step B g0 w0 g w->Rel ⟨B,N,none,df⟩ g e' s a w->K e' s->Q .normal a w):awpG P ⟨B,N,none,df⟩ n x Q g0 w0 e st:=fun g a w hs hr=>by
 refine wpIn_mono (zHs h hr) ?_;rintro ex a' w' ⟨g',e',st',k1,k2,k3⟩;cases ex with
 | normal=>exact hq g' e' st' a' w' (hs.trans k1) k2 k3
 | ret=>exact k3.elim
 | exit _=>exact k3.elim
 | panic _=>exact k3.elim
 | goto _=>exact k3.elim
 | outgrown=>exact k3.elim
theorem zHQ {P:Program} {X:Cx} {n:Nat} {c:Code} {Q:Exit->Act->World->Prop} {g0:Gh} {w0:World} {e:Env} {st:S}
 (h:∀ g w,Inv X.B g st w->∃ st',Inv X.B g st' w/\awpG P X n c Q g0 w0 e st'):awpG P X n c Q g0 w0 e st:=fun g a w hs hr=>by
 obtain ⟨st',h1,h2⟩:=h g w hr.inv;exact h2 g a w hs ⟨h1,hr.env,hr.size,hr.df,hr.gl⟩
theorem zFe {P:Program} {X:Cx} {n:Nat} {c:Code} {Q:Exit->Act->World->Prop} {g0:Gh} {w0:World} {e:Env} {st:S} (φ:S->Prop) (hφ:φ st) (h:∀ st,φ st->awpG P X n c Q g0 w0 e st):awpG P X n c Q g0 w0 e st:=h st hφ
end Go.Al
namespace Go.Den
open Go.Al
structure RestOk (s s':S) (rs rs':List Res):Prop where
 box:∀ b c,.inr b ∉ rs->Al.look s.box b=some c->Al.look s'.box b=some c/\.inr b ∉ rs'
 ob:∀ b c,.ob b ∉ rs->zG s.ob b=some c->zG s'.ob b=some c/\.ob b ∉ rs'
theorem zNx {P:Program} {f:FuncId} {ar:List V} {Q Q':Outc->S->Prop} {s:S} (h:FnC P f ar s Q) (hq:∀ oc s',Q oc s'->Q' oc s'):FnC P f ar s Q':=fun B g w vs hi hgl hv=>
 (h B g w vs hi hgl hv).mono fun e w' ⟨g',s',k1,k2,k3⟩=>by
  refine ⟨g',s',k1,k2,?_⟩;cases e with
  | outgrown=>exact k3.elim
  | panicked c=>exact hq _ _ k3
  | returned v=>obtain ⟨r,k4,k5⟩:=k3; exact ⟨r,k4,hq _ _ k5⟩
section
variable {U:TyU} {C:Cod U}
theorem zGu {P:Program} {syn:List PanicEntry} {f:Nat} {c:CP U} (h:CPOk C P syn f c) {x:zA c.io} {a:zA c.as} {y:zA c.oo×zA c.rs} (hy:c.fn x a (none:Option (zA c.oo×zA c.rs)) (fun u v=>some (u,v))=some y)
 {s:S} {vx va:List V} {r1 r2:List Res} (h1:VKs C s c.io x vx r1) (h2:VKs C s c.as a va r2) (hn:(r1++r2).Nodup) :
 FnC P f (vx++va) s fun oc s'=>∃ ws q1 q2,oc = .ret (finV ws)/\VKs C s' c.oo y.1 vx q1/\VKs C s' c.rs y.2 ws q2/\(q1++q2).Nodup/\RestOk s s' (r1++r2) (q1++q2):=by
 obtain ⟨oc,k1,k2⟩:=h x a none (fun u v=>some (u,v)) y hy;cases oc with
 | none=>cases k1
 | some y'=>
  injection k1 with k1
  subst k1;have hin:∀ z ∈ r1++r2,InS s z:=fun z hz=>by
   rcases List.mem_append.1 hz with hz | hz
   . exact jq c.io x h1 z hz
   . exact jq c.as a h2 z hz
  refine zNx (zEF (k2 s vx va r1 r2 h1 h2 hn) (zCq hn hin)) ?_;rintro oc s' ⟨s1,hp,rfl,hap⟩;cases oc with
  | pan e=>exact hp.elim
  | ret w=>
   obtain ⟨ws,q1,q2,p1,p2,p3,rfl⟩:=hp;have q1in:=jq c.oo y'.1 p1;have q2in:=jq c.rs y'.2 p2;have hin1:∀ z ∈ q1++q2,InS s1 z:=fun z hz=>by
    rcases List.mem_append.1 hz with hz | hz
    . exact q1in z hz
    . exact q2in z hz
   refine ⟨ws,q1,q2,rfl,qg c.oo y'.1 p1 (zBe _ _ _ _),qg c.rs y'.2 p2 (zBe _ _ _ _),p3,fun b c hb hl=>?_,fun b c hb hl=>?_⟩
   . obtain ⟨e1,e2⟩:=zCZ hap hb hl;refine ⟨e1,fun hm=>?_⟩;obtain ⟨d,hd⟩:=hin1 _ hm;rw [e2] at hd; cases hd
   . obtain ⟨e1,e2⟩:=zDX hap hb hl;refine ⟨e1,fun hm=>?_⟩;obtain ⟨d,hd⟩:=hin1 _ hm;rw [e2] at hd; cases hd
end
end Go.Den
end
namespace Go.Proofs.YtnamdpbcpnnhaaaGreatDoor
section
open Go.Al Go.Den Go.RowKit Go.Shelf
attribute [local congr] ym xO xT xn yO yq yF yE yn xM yo xW yw yk yB yK yg xZ xU yS xL yj yU yR yr yu yV yl yh yY xm xY xV xK xP xN yi yX yT
def spRF:Code->Code×Code
 | .seq (.seq _ (.block i (.rangeFunc s p a b))) r=>(.block i (.rangeFunc s p a b),r)
 | .seq _ b=>spRF b
 | _=>(.skip,.skip)
abbrev wkLV (y:WS) (o:Option (Option LT1)):WkLT×Unit:=((y.1,y.2.1,y.2.2.1,y.2.2.2.1,y.2.2.2.2,o,()),())
structure WkAt (s:S) (q:WS) (b0 bo cap b bf bm:Nat) (o6:Option Nat) (fp ff fm:List Nat):Prop where
 w:Al.look s.box b0=some ([tkV q.1,.at (.slice (some ⟨bo,0,none⟩) q.2.1.length cap),ptV b,.at (.map (some bf)),.at (.map (some bm)),.at (pO o6)],6)
 cp:q.2.1.length<=cap
 o:Al.look s.box bo=some (bdC q.2.1,cap * 2)
 l:zG s.ob b=some (.lv (q.2.2.1.map trL),fp)
 f:zG s.ob bf=some (.mp (trMC q.2.2.2.1),ff)
 m:zG s.ob bm=some (.mp (trMC q.2.2.2.2),fm)
 n:[Res.inr b0,.inr bo,.ob b,.ob bf,.ob bm].Nodup
theorem zFG {s:S} {q:WS} {b0:Nat} {r:List Res} (h:VKs CC s [wkK] (wkV q) [ptV b0] r) (hn:r.Nodup):∃ bo cap b bf bm o6 fp ff fm,WkAt s q b0 bo cap b bf bm o6 fp ff fm/\r=[.inr b0,.inr bo,.ob b,.ob bf,.ob bm]:=by
 obtain ⟨b0',bo,cap,b,fp,bf,ff,bm,fm,o6,e,k1,k2,k3,k4,k5,k6,rfl⟩:=zAu h;injection e with e _
 injection e with e
 injection e with e
 injection e with e
 injection e with e _ _
 subst e;exact ⟨bo,cap,b,bf,bm,o6,fp,ff,fm,⟨k1,k2,k3,k4,k5,k6,hn⟩,rfl⟩
theorem WkAt.shut {s:S} {q:WS} {b0 bo cap b bf bm:Nat} {o6:Option Nat} {fp ff fm:List Nat} (h:WkAt s q b0 bo cap b bf bm o6 fp ff fm):VKs CC s [wkK] (wkV q) [ptV b0] [.inr b0,.inr bo,.ob b,.ob bf,.ob bm]:=
 zDw rfl h.w h.cp h.o h.l h.f h.m
theorem zOt {s:S} {q:WS} {pp:LT1} {b0:Nat} {r:List Res} (h:VKs CC s [wkL] (wkLV q (some (some pp))) [ptV b0] r) (hn:r.Nodup):∃ bo cap b bf bm b6 fp ff fm f6,WkAt s q b0 bo cap b bf bm (some b6) fp ff fm/\zG s.ob b6=some (.l1 (trL pp),f6)/\b6≠b/\b6≠bf/\b6≠bm/\r=[.inr b0,.inr bo,.ob b,.ob bf,.ob bm,.ob b6]:=by
 obtain ⟨y1,y2,y3,y4,y5⟩:=q;simp only [VKs,VK] at h;obtain ⟨v0,vs0,t1,t2,e0,rfl,⟨b0',cs,t3,rfl,e1,e2,rfl⟩,rfl,rfl⟩:=h;obtain ⟨v1,w1,a1,a2,rfl,rfl,⟨rfl,rfl⟩,v2,w2,a3,a4,rfl,rfl,⟨b2,cap,rfl,c2,d2,rfl⟩,v3,w3,a5,a6,rfl,rfl,⟨b3,fp3,rfl,c3,rfl⟩,v4,w4,a7,a8,rfl,rfl,⟨b4,fp4,rfl,c4,rfl⟩,v5,w5,a9,a10,rfl,rfl,⟨b5,fp5,rfl,c5,rfl⟩,v6,w6,a11,a12,rfl,rfl,⟨b6,f6,rfl,c6,rfl⟩,rfl,rfl⟩:=e2;injection e0 with e _
 injection e with e
 injection e with e
 injection e with e
 injection e with e _ _
 subst e;have hn':[Res.inr b0,.inr b2,.ob b3,.ob b4,.ob b5,.ob b6].Nodup:=hn;refine ⟨b2,cap,b3,b4,b5,b6,fp3,fp4,fp5,f6,⟨e1,c2,d2,c3,c4,c5,(List.nodup_append.1 (show ([Res.inr b0,.inr b2,.ob b3,.ob b4,.ob b5]++[Res.ob b6]).Nodup from hn')).1⟩,c6,?_,?_,?_,rfl⟩ <;> (rintro rfl; simp at hn')
theorem zG1 {P:Program} {f:Nat} {aa rs:LK} {m:zA aa->WW (zA rs)} (h:CPOk CC P syn f (cW aa rs m)) {a:zA aa} {q:WS} {y:zA rs×WS} (hy:m a q=some y) {s:S} {b0 bo cap b bf bm:Nat} {o6:Option Nat} {fp ff fm:List Nat} (hw:WkAt s q b0 bo cap b bf bm o6 fp ff fm)
 {va:List V} (h2:VKs CC s aa a va []):FnC P f ([ptV b0]++va) s fun oc s'=>∃ ws q1 q2,oc = .ret (finV ws)/\VKs CC s' [wkK] (wkV y.2) [ptV b0] q1/\VKs CC s' rs y.1 ws q2/\(q1++q2).Nodup/\RestOk s s' [.inr b0,.inr bo,.ob b,.ob bf,.ob bm] (q1++q2):=by
 have:=zGu (y:=(wkV y.2,y.1)) h (x:=wkV q) (a:=a) (by show Option.bind (m a q) _=_; rw [hy]; rfl) hw.shut h2 (by simpa using hw.n);simpa using this
theorem zO0 {P:Program} {f:Nat} {aa rs:LK} {m:zA aa->WW (zA rs×Option (Option LT1))} (h:CPOk CC P syn f (cWt aa rs m)) {a:zA aa} {q:WS} {y:(zA rs×Option (Option LT1))×WS} (hy:m a q=some y) {s:S} {b0 bo cap b bf bm:Nat} {o6:Option Nat} {fp ff fm:List Nat} (hw:WkAt s q b0 bo cap b bf bm o6 fp ff fm)
 {va:List V} (h2:VKs CC s aa a va []):FnC P f ([ptV b0]++va) s fun oc s'=>∃ ws q1 q2,oc = .ret (finV ws)/\VKs CC s' [wkL] (wkLV y.2 y.1.2) [ptV b0] q1/\VKs CC s' rs y.1.1 ws q2/\(q1++q2).Nodup/\RestOk s s' [.inr b0,.inr bo,.ob b,.ob bf,.ob bm] (q1++q2):=by
 have:=zGu (y:=(wkLV y.2 y.1.2,y.1.1)) h (x:=wkV q) (a:=a) (by show Option.bind (m a q) _=_; rw [hy]; rfl) hw.shut h2 (by simpa using hw.n);simpa using this
theorem zN4 {P:Program} {f:Nat} {aa rs:LK} {m:zA aa->WW (zA rs×Option (Option LT1))} (h:CPOk CC P syn f (cWt aa rs m)) {a:zA aa} {q:WS} {y:(zA rs×Option (Option LT1))×WS} (hy:m a q=some y) {s:S} {b0 bo cap b bf bm:Nat} {o6:Option Nat} {fp ff fm:List Nat} (hw:WkAt s q b0 bo cap b bf bm o6 fp ff fm)
 {va:List V} (h2:VKs CC s aa a va []):FnC P f ([ptV b0]++va) s fun oc s'=>∃ ws q1 q2,oc = .ret (finV ws)/\VKs CC s' [wkK] (wkV y.2) [ptV b0] q1/\VKs CC s' rs y.1.1 ws q2/\(q1++q2).Nodup/\RestOk s s' [.inr b0,.inr bo,.ob b,.ob bf,.ob bm] (q1++q2):=by
 have:=zGu (y:=(wkV y.2,y.1.1)) (zAU h) (x:=wkV q) (a:=a) (by show Option.bind (m a q) _=_; rw [hy]; rfl) hw.shut h2 (by simpa using hw.n);simpa using this
theorem zBF (x:Nd):(match zc x with | V.agg _=>true | _=>false)=true:=by
 cases x; rw [qH]
theorem zCr (x:Nd):(zc x).flat.all V.isOne=true:=by
 cases x; rw [qH]; rfl
theorem zKT (x:Nd):(zc x).untag=zc x:=CCok.untag TI.node x
theorem nd2 (x y z:V) (l:List V):(x::y::z::l).getD (Int.toNat 2) .any=z:=rfl
abbrev polQ:Pol:=⟨fun f=>f == 32,fun _=>false,fun _=>false,fun _=>false,[],fun _=>[]⟩
def zLh:Nat->List Nat:=fun _=>[2,3,5,36]
theorem zJT (s:S) (x:Nd):VKs CC s ([.st TI.node]:LK) (x,()) [zc x] []:=⟨_,[],[],[],rfl,rfl,⟨rfl,rfl⟩,rfl,rfl⟩
theorem WkAt.lay {s:S} {q:WS} {b0 bo cap b bf bm:Nat} {o6:Option Nat} {fp ff fm:List Nat} (h:WkAt s q b0 bo cap b bf bm o6 fp ff fm) {k:Nat} (c:List V×Nat) (hk:Al.look s.box k=none):WkAt ⟨Al.lay s.box k c,s.tg,s.nx,s.ob⟩ q b0 bo cap b bf bm o6 fp ff fm/\k≠b0/\k≠bo:=by
 have n0:k≠b0:=fun e=>by rw [e,h.w] at hk; cases hk
 have no:k≠bo:=fun e=>by rw [e,h.o] at hk; cases hk
 exact ⟨⟨by show Al.look (Al.lay s.box k c) b0=_; rw [zN,if_neg n0]; exact h.w,h.cp,by show Al.look (Al.lay s.box k c) bo=_; rw [zN,if_neg no]; exact h.o,h.l,h.f,h.m,h.n⟩,n0,no⟩
theorem WkAt.marks {s:S} {q:WS} {b0 bo cap b bf bm:Nat} {o6:Option Nat} {fp ff fm:List Nat} (h:WkAt s q b0 bo cap b bf bm o6 fp ff fm) {k:Nat} (hk:zG s.ob k=none):WkAt ⟨Al.lay s.box b0 ([tkV q.1,.at (.slice (some ⟨bo,0,none⟩) q.2.1.length cap),ptV b,.at (.map (some bf)),.at (.map (some k)),.at (pO o6)],6),s.tg,s.nx,(k,.mp [],[k])::s.ob⟩ (q.1,q.2.1,q.2.2.1,q.2.2.2.1,[]) b0 bo cap b bf k o6 fp ff [k]:=by
 have nb:k≠b:=fun e=>by rw [e,h.l] at hk; cases hk
 have nf:k≠bf:=fun e=>by rw [e,h.f] at hk; cases hk
 have nbo:b0≠bo:=fun e=>by have:=h.n; subst e; simp at this
 have hn:=h.n;refine ⟨by show Al.look (Al.lay s.box b0 _) b0=_; rw [zN,if_pos rfl],h.cp,by show Al.look (Al.lay s.box b0 _) bo=_; rw [zN,if_neg nbo]; exact h.o,?_,?_,?_,?_⟩
 . show zG (_::s.ob) b=_;rw [zJ,if_neg nb]; exact h.l
 . show zG (_::s.ob) bf=_;rw [zJ,if_neg nf]; exact h.f
 . show zG (_::s.ob) k=_;rw [zJ,if_pos rfl]; rfl
 . simp only [List.nodup_cons,List.mem_cons,List.not_mem_nil,or_false,not_or,not_false_eq_true,and_true,List.nodup_nil] at hn ⊢;exact ⟨⟨hn.1.1,by simp,by simp,by simp⟩,⟨by simp,by simp,by simp⟩,⟨hn.2.2.1.1,fun e=>by injection e with e; exact nb e.symm⟩,fun e=>by injection e with e; exact nf e.symm⟩
set_option maxRecDepth 100000 in
set_option maxHeartbeats 1000000 in
theorem pre98 {p:WC} (hp:WOk p) {B n:Nat} {q:WS} {kd tk:Int} {k0 k1 k2:Nd} {ks:List Nd} {y0:(zA ([]:LK)×Option (Option LT1))×WS} {y1:(zA ([.int .i64]:LK)×Option (Option LT1))×WS} {y2:zA ([]:LK)×WS} {pp:LT1}
 (e0:p.c68 (k0,()) q=some y0) (e1:p.c103 (k1,()) y0.2=some y1) (epp:y1.1.2=some (some pp)) (e2:c102 ((show Int×Unit from y1.1.1).1,()) y1.2=some y2) (hall:(allT k2).length<=1000000)
 {Q:Exit->Act->World->Prop} {g0:Gh} {w0:World} {s0:S} {b0 bo cap b bf bm:Nat} {o6:Option Nat} {fp ff fm:List Nat} (hw:WkAt s0 q b0 bo cap b bf bm o6 fp ff fm)
 (HK:∀ (s:S) (k2' k3' bs bo cap b bf bm b6:Nat) (o6:Option Nat) (fp ff f6:List Nat),WkAt s (y2.2.1,y2.2.2.1,y2.2.2.2.1,y2.2.2.2.2.1,[]) b0 bo cap b bf bm o6 fp ff [bm]->zG s.ob b6=some (.l1 (trL pp),f6)->b6≠b->b6≠bf->b6≠bm ->
  Al.look s.box k2' = some ([ptV b0],1)->Al.look s.box k3' = some ([vi kd,vi tk,sl ((k0::k1::k2::ks).map zc)],3)->Al.look s.box bs=some ([.lst (zw ((fdT k2 29).map zc)) ((fdT k2 29).map zc)],1) ->
  k2'≠b0->k2'≠bo->k3'≠b0->k3'≠bo->k2'≠k3' ->
  awpG Tryz.prog ⟨B,⟨75,[]⟩,none,[]⟩ n (spRF (zZ Tryz.f98)).1 (Exit.then ((spRF (zZ Tryz.f98)).2.wpIn Fence.wide n Tryz.prog Q) Q) g0 w0 [(2,ptV k2'),(3,ptV k3'),(5,ptV b6),(36,.clo (.func 137) [ptV bs])] s) :
 awpG Tryz.prog ⟨B,⟨75,[]⟩,none,[]⟩ n (zZ Tryz.f98) Q g0 w0 (xg 0 [ptV b0,zc (.mk kd tk (k0::k1::k2::ks))]) s0:=by
 simp only [zZ,Tryz.f98,Option.getD_some,spRF] at HK ⊢;rw [qH];simp only [xg,Nat.reduceAdd];refine jP ?_
 (repeat (first | (refine zg ?_) | (refine zW ?_; simp -failIfUnchanged only [zB,zC]) | (refine zf ?_; simp -failIfUnchanged only [zV,zS,zd,zU]) | (refine zY ?_; simp -failIfUnchanged only [zR,zM,zB,zC,reduceIte]) | (refine zT ?_) | ((first | (refine ze polN ks98 _ rfl rfl ?_) | (refine za polN mixed ks98 _ rfl rfl (by kernel_rfl) (by kernel_rfl) ?_)); simp only [↓zk,↓zJ2,zB,zH,zI,zK,zP,zb,zX,List.map_cons,V.flat,if_true,if_false,Nat.reduceEqDiff,reduceCtorEq,ks98,sl])))
 refine ⟨rfl,fun k2' hk2=>⟨rfl,fun k3' hk3=>?_⟩⟩;obtain ⟨hw1,n20,n2o⟩:=hw.lay ([ptV b0],1) hk2;obtain ⟨hw2,n30,n3o⟩:=hw1.lay ([vi kd,vi tk,sl ((k0::k1::k2::ks).map zc)],3) hk3;have n23:k2'≠k3':=fun e=>by
  replace hk3:Al.look (Al.lay s0.box k2' ([ptV b0],1)) k3' = none:=hk3;rw [zN,if_pos e] at hk3; cases hk3
 have z2:Al.look (Al.lay (Al.lay s0.box k2' ([ptV b0],1)) k3' ([vi kd,vi tk,sl ((k0::k1::k2::ks).map zc)],3)) k2' = some ([ptV b0],1):=by rw [zN,if_neg (fun e=>n23 e.symm),zN,if_pos rfl]
 have z3:Al.look (Al.lay (Al.lay s0.box k2' ([ptV b0],1)) k3' ([vi kd,vi tk,sl ((k0::k1::k2::ks).map zc)],3)) k3' = some ([vi kd,vi tk,sl ((k0::k1::k2::ks).map zc)],3):=by rw [zN,if_pos rfl]
 replace hw2:WkAt ⟨Al.lay (Al.lay s0.box k2' ([ptV b0],1)) k3' ([vi kd,vi tk,sl ((k0::k1::k2::ks).map zc)],3),s0.tg,s0.nx,s0.ob⟩ q b0 bo cap b bf bm o6 fp ff fm:=hw2;simp only [sl,List.map_cons] at hw2 z2 z3;generalize hs1:(⟨Al.lay (Al.lay s0.box k2' ([ptV b0],1)) k3' ([vi kd,vi tk,V.lst (zw (zc k0::zc k1::zc k2::List.map zc ks)) (zc k0::zc k1::zc k2::List.map zc ks)],3),s0.tg,s0.nx,s0.ob⟩:S)=s1 at hw2;have x2:Al.look s1.box k2' = some ([ptV b0],1):=by rw [<- hs1]; exact z2
 have x3:Al.look s1.box k3' = some ([vi kd,vi tk,V.lst (zw (zc k0::zc k1::zc k2::List.map zc ks)) (zc k0::zc k1::zc k2::List.map zc ks)],3):=by rw [<- hs1]; exact z3
 clear z2 z3 hs1;clear hk2 hk3 hw1 hw;refine jP ?_
 (repeat (first | (refine zg ?_) | (refine zW ?_; simp -failIfUnchanged only [zB,zC]) | (refine zf ?_; simp -failIfUnchanged only [zV,zS,zd,zU]) | (refine zY ?_; simp -failIfUnchanged only [zR,zM,zB,zC,reduceIte]) | (refine zT ?_) | ((first | (refine ze polN ks98 _ rfl rfl ?_) | (refine za polN mixed ks98 _ rfl rfl (by kernel_rfl) (by kernel_rfl) ?_)); simp only [↓zl,↓xG,↓yD,zB,yb,zH,zI,zK,zP,zm,yC,zb,zX,qp,zx,zq,zj,zp,xx,qY,implies_true,List.map_cons,List.map_nil,and_self,fits,zy,zz,V.isAgg,List.length_cons,List.length_nil,List.drop_zero,List.drop_succ_cons,List.take_succ_cons,List.take_nil,List.getD_cons_zero,List.getD_cons_succ,List.length_map,Bool.true_and,Bool.and_self,if_true,if_false,true_and,Nat.reduceAdd,Nat.reduceEqDiff,Bool.false_eq_true,Nat.zero_add,Nat.le_refl,Nat.lt_add_one,kO,zAY,ja,zCc,jd,zAc,qy,zBv,kw,kz,ju,ks98,x2,x3])))
 refine ⟨⟨by omega,by omega⟩,qc _,⟨qc _,zBF _⟩,?_⟩;refine qi [ptV b0,zc k0] rfl rfl rfl zCQ (by simp only [List.map_cons,List.map_nil,List.all_cons,List.all_nil,zP,zH,zI,zK,if_true,if_false,Nat.reduceEqDiff,yM,Bool.and_self,Int.toNat_zero,List.getD_cons_zero,zCr]) (by simp only [List.map_cons,List.map_nil,zP,zH,zI,zK,if_true,if_false,Nat.reduceEqDiff,Int.toNat_zero,List.getD_cons_zero]; exact .keep (.keep .nil)) ((zN4 hp.h68 e0 hw2 (zJT _ k0))) (fun r s hq=>?_) (fun c s hq=>(by first | (obtain ⟨_,_,_,hq,_⟩:=hq; cases hq; done) | (obtain ⟨_,_,hq,_⟩:=hq; cases hq; done)));obtain ⟨ws,r1,r2,hq1,hq2,hq3,hq4,hq5⟩:=hq;have x2':=hq5.box k2' _ (by simp [n20,n2o]) x2;have x3':=hq5.box k3' _ (by simp [n30,n3o]) x3;obtain ⟨bo',cap',b',bf',bm',o6',fp',ff',fm',hw3,rfl⟩:=zFG hq2 (List.nodup_append.1 hq4).1;have n2o':k2'≠bo':=fun e=>x2'.2 (by simp [e]);have n3o':k3'≠bo':=fun e=>x3'.2 (by simp [e]);replace x2':=x2'.1;replace x3':=x3'.1;clear hq1 hq2 hq3 hq4 hq5 hw2 x2 x3 n2o n3o;simp only [↓zk,zH,zI,zK,if_true,if_false,Nat.reduceEqDiff];refine jP ?_
 (repeat (first | (refine zg ?_) | (refine zW ?_; simp -failIfUnchanged only [zB,zC]) | (refine zf ?_; simp -failIfUnchanged only [zV,zS,zd,zU]) | (refine zY ?_; simp -failIfUnchanged only [zR,zM,zB,zC,reduceIte]) | (refine zT ?_) | ((first | (refine ze polN ks98 _ rfl rfl ?_) | (refine za polN mixed ks98 _ rfl rfl (by kernel_rfl) (by kernel_rfl) ?_)); simp only [↓zl,↓xG,↓yD,zB,yb,zH,zI,zK,zP,zm,yC,zb,zX,qp,zx,zq,zj,zp,xx,qY,implies_true,List.map_cons,List.map_nil,and_self,fits,zy,zz,V.isAgg,List.length_cons,List.length_nil,List.drop_zero,List.drop_succ_cons,List.take_succ_cons,List.take_nil,List.getD_cons_zero,List.getD_cons_succ,List.length_map,Bool.true_and,Bool.and_self,if_true,if_false,true_and,Nat.reduceAdd,Nat.reduceEqDiff,Bool.false_eq_true,Nat.zero_add,Nat.le_refl,Nat.lt_add_one,kO,zAY,ja,zCc,jd,zAc,qy,zBv,kw,kz,ju,ks98,x2',x3'])))
 refine ⟨⟨by omega,by omega⟩,qc _,⟨qc _,zBF _⟩,?_⟩;refine qi [ptV b0,zc k1] rfl rfl rfl zEx (by simp only [List.map_cons,List.map_nil,List.all_cons,List.all_nil,zP,zH,zI,zK,if_true,if_false,Nat.reduceEqDiff,yM,Bool.and_self,Int.toNat_one,List.getD_cons_zero,List.getD_cons_succ,zCr]) (by simp only [List.map_cons,List.map_nil,zP,zH,zI,zK,if_true,if_false,Nat.reduceEqDiff,Int.toNat_one,List.getD_cons_zero,List.getD_cons_succ]; exact .keep (.keep .nil)) ((zO0 hp.h103 e1 hw3 (zJT _ k1))) (fun r s hq=>?_) (fun c s hq=>(by first | (obtain ⟨_,_,_,hq,_⟩:=hq; cases hq; done) | (obtain ⟨_,_,hq,_⟩:=hq; cases hq; done)));obtain ⟨ws,r1,r2,hq1,hq2,hq3,hq4,hq5⟩:=hq;have y2x:=hq5.box k2' _ (by simp [n20,n2o']) x2';have y3x:=hq5.box k3' _ (by simp [n30,n3o']) x3';obtain ⟨ws1,ws2,rs1,rs2,rfl,rfl,⟨rfl,rfl⟩,rfl,rfl⟩:=hq3;injection hq1 with hq1
 subst hq1;rw [epp] at hq2;obtain ⟨bo2,cap2,b2,bf2,bm2,b6,fp2,ff2,fm2,f6,hw4,hob6,n6b,n6f,n6m,rfl⟩:=zOt hq2 (List.nodup_append.1 hq4).1;have n2o2:k2'≠bo2:=fun e=>y2x.2 (by simp [e]);have n3o2:k3'≠bo2:=fun e=>y3x.2 (by simp [e]);replace y2x:=y2x.1;replace y3x:=y3x.1;clear hq2 hq4 hq5 hw3 x2' x3' n2o' n3o';simp only [finV];simp only [↓zk,↓yP,zH,zI,zK,zP,if_true,if_false,Nat.reduceEqDiff];refine jP ?_
 (repeat (first | (refine zg ?_) | (refine zW ?_; simp -failIfUnchanged only [zB,zC]) | (refine zf ?_; simp -failIfUnchanged only [zV,zS,zd,zU]) | (refine zY ?_; simp -failIfUnchanged only [zR,zM,zB,zC,reduceIte]) | (refine zT ?_) | ((first | (refine ze polN ks98 _ rfl rfl ?_) | (refine za polN mixed ks98 _ rfl rfl (by kernel_rfl) (by kernel_rfl) ?_)); simp only [↓zk,↓yP,↓zl,↓yD,↓z6,zB,zH,zI,zK,zP,zb,zX,zv,zx,zq,zj,zp,implies_true,and_self,zy,zz,List.length_cons,List.length_nil,List.drop_zero,List.drop_succ_cons,List.take_succ_cons,List.take_nil,List.getD_cons_zero,List.getD_cons_succ,Bool.true_and,Bool.and_self,if_true,if_false,true_and,Nat.reduceAdd,Nat.reduceEqDiff,Bool.false_eq_true,Nat.zero_add,Nat.le_refl,Nat.lt_add_one,kw,kz,ju,jf,kJ,qx,zQh,ks98,y2x,hw4.w])))
 refine jP ?_
 (repeat (first | (refine zg ?_) | (refine zW ?_; simp -failIfUnchanged only [zB,zC]) | (refine zf ?_; simp -failIfUnchanged only [zV,zS,zd,zU]) | (refine zY ?_; simp -failIfUnchanged only [zR,zM,zB,zC,reduceIte]) | (refine zT ?_) | ((first | (refine ze polN ks98 _ rfl rfl ?_) | (refine za polN mixed ks98 _ rfl rfl (by kernel_rfl) (by kernel_rfl) ?_)); simp only [↓zt,↓yD,zB,yb,zH,zI,zK,zP,zb,zX,zx,zq,implies_true,List.map_cons,List.map_nil,and_self,zy,zz,List.length_cons,List.length_nil,List.drop_zero,List.take_succ_cons,List.take_nil,List.getD_cons_zero,Bool.true_and,Bool.and_self,if_true,if_false,true_and,Nat.reduceEqDiff,Bool.false_eq_true,Nat.zero_add,Nat.le_refl,kw,kz,ju,ks98,y2x])))
 refine qi [ptV b0,.at (.int .i64 (show Int×Unit from y1.1.1).1)] rfl rfl rfl zLL (by simp only [List.map_cons,List.map_nil,List.all_cons,List.all_nil,zP,zH,zI,zK,if_true,if_false,Nat.reduceEqDiff,yM,Bool.and_self]) (by simp only [List.map_cons,List.map_nil,zP,zH,zI,zK,if_true,if_false,Nat.reduceEqDiff]; exact .keep (.keep .nil)) ((zG1 ok102 e2 hw4 (va:=[.at (.int .i64 (show Int×Unit from y1.1.1).1)]) ⟨_,[],[],[],rfl,rfl,⟨rfl,rfl⟩,rfl,rfl⟩)) (fun r s hq=>?_) (fun c s hq=>(by first | (obtain ⟨_,_,_,hq,_⟩:=hq; cases hq; done) | (obtain ⟨_,_,hq,_⟩:=hq; cases hq; done)));obtain ⟨ws,r1,r2,hq1,hq2,hq3,hq4,hq5⟩:=hq;have x2:=hq5.box k2' _ (by simp [n20,n2o2]) y2x;have x3:=hq5.box k3' _ (by simp [n30,n3o2]) y3x;have x6:=hq5.ob b6 _ (by simp [n6b,n6f,n6m]) hob6;obtain ⟨bo3,cap3,b3,bf3,bm3,o63,fp3,ff3,fm3,hw5,rfl⟩:=zFG hq2 (List.nodup_append.1 hq4).1;have n2o3:k2'≠bo3:=fun e=>x2.2 (by simp [e]);have n3o3:k3'≠bo3:=fun e=>x3.2 (by simp [e]);have n6b3:b6≠b3:=fun e=>x6.2 (by simp [e]);have n6f3:b6≠bf3:=fun e=>x6.2 (by simp [e]);replace x2:=x2.1;replace x3:=x3.1;replace x6:=x6.1;clear hq1 hq2 hq3 hq4 hq5 hw4 y2x y3x n2o2 n3o2 n6b n6f n6m hob6;simp only [↓zk,zH,zI,zK,if_true,if_false,Nat.reduceEqDiff];refine jP ?_;refine ze polN ks98 _ rfl rfl ?_;simp only [↓zk,↓zl,↓yD,↓qV,↓z6,zB,yb,zH,xp,zI,zK,zP,zb,zX,zv,zx,zq,xy,zj,zp,implies_true,List.map_cons,List.map_nil,and_self,zy,zz,List.length_cons,List.length_nil,List.drop_zero,List.take_succ_cons,List.take_nil,List.getD_cons_zero,Bool.true_and,Bool.and_self,if_true,if_false,true_and,Nat.reduceEqDiff,Bool.false_eq_true,Nat.zero_add,Nat.le_refl,Nat.lt_add_one,ql,qC,kw,kz,ju,zKh,ks98,x2,zFV];refine fun bm4 hbm4=>?_;simp only [xJ,spl,List.cons_append,List.nil_append,and_self,zL,V.isOne,V.flat,List.all_cons,List.all_nil,List.length_cons,List.length_nil,List.drop_zero,List.drop_succ_cons,List.take_succ_cons,List.take_zero,Bool.true_and,Bool.and_self,true_and,Nat.reduceAdd,Nat.reduceLeDiff,Nat.zero_add,ql,qC,hw5.w];refine zFe (fun s=>WkAt s (y2.2.1,y2.2.2.1,y2.2.2.2.1,y2.2.2.2.2.1,[]) b0 bo3 cap3 b3 bf3 bm4 o63 fp3 ff3 [bm4]/\Al.look s.box k2' = some ([ptV b0],1)/\Al.look s.box k3' = some ([vi kd,vi tk,V.lst (zw (zc k0::zc k1::zc k2::List.map zc ks)) (zc k0::zc k1::zc k2::List.map zc ks)],3)/\zG s.ob b6=some (.l1 (trL pp),f6))
  ⟨hw5.marks hbm4,by show Al.look (Al.lay s.box b0 _) k2' = _; rw [zN,if_neg (fun e=>n20 e.symm)]; exact x2,by show Al.look (Al.lay s.box b0 _) k3' = _; rw [zN,if_neg (fun e=>n30 e.symm)]; exact x3,by show zG (_::s.ob) b6=_; rw [zJ,if_neg (fun e=>by rw [e,x6] at hbm4; cases hbm4)]; exact x6⟩ ?_
 have nm6:b6≠bm4:=fun e=>by rw [<- e,x6] at hbm4; cases hbm4
 clear hw5 x2 x3 x6 hbm4;rintro s6 ⟨hw6,x2,x3,x6⟩;refine zNN (jP ?_)
 (repeat (first | (refine zg ?_) | (refine zW ?_; simp -failIfUnchanged only [zB,zC]) | (refine zf ?_; simp -failIfUnchanged only [zV,zS,zd,zU]) | (refine zY ?_; simp -failIfUnchanged only [zR,zM,zB,zC,reduceIte]) | (refine zT ?_) | ((first | (refine ze polQ zLh _ rfl rfl ?_) | (refine za polQ mixed zLh _ rfl rfl (by kernel_rfl) (by kernel_rfl) ?_)); simp only [↓zl,↓xG,↓yD,zB,yb,zH,zI,zK,zP,zm,yC,zb,zX,qp,zx,zq,zj,zp,xx,qY,implies_true,List.map_cons,List.map_nil,and_self,fits,zy,zz,V.isAgg,List.length_cons,List.length_nil,List.drop_zero,List.drop_succ_cons,List.take_succ_cons,List.take_nil,List.getD_cons_zero,List.getD_cons_succ,List.length_map,Bool.true_and,Bool.and_self,if_true,if_false,true_and,Nat.reduceAdd,Nat.reduceEqDiff,Bool.false_eq_true,Nat.zero_add,Nat.le_refl,Nat.lt_add_one,kO,zAY,ja,zCc,jd,zAc,qy,zBv,zLh,x3])))
 refine ⟨⟨by omega,by omega⟩,qc _,⟨qc _,zBF _⟩,?_⟩
 (refine zIp (zND k2 29 hall) rfl zM3 (by simp only [List.map_cons,List.map_nil,zP,zm,yC,zH,zI,zK,if_true,if_false,Nat.reduceEqDiff,Go.Al.untag_at,nd2,zKT]) (by simp only [List.map_cons,List.map_nil,List.all_cons,List.all_nil,zP,zm,yC,zH,zI,zK,if_true,if_false,Nat.reduceEqDiff,yM,Bool.and_self,nd2,zCr]) ?_; simp only [nd2])
 refine qi [.lst (zw ((fdT k2 29).map zc)) ((fdT k2 29).map zc)] rfl rfl rfl zRG (by simp only [List.map_cons,List.map_nil,List.all_cons,List.all_nil,zP,zH,zI,zK,if_true,if_false,Nat.reduceEqDiff,zEW,Bool.and_self]) (by simp only [List.map_cons,List.map_nil,zP,zH,zI,zK,if_true,if_false,Nat.reduceEqDiff]; exact .keep .nil) ((ok124x (by simp only [zCC]))) (fun r s hq=>?_) (fun c s hq=>(by first | (obtain ⟨_,_,_,hq,_⟩:=hq; cases hq; done) | (obtain ⟨_,_,hq,_⟩:=hq; cases hq; done)));obtain ⟨bs,hbs,hq1,rfl⟩:=hq;injection hq1 with hq1
 subst hq1;simp only [↓zk,zH,zI,zK,if_true,if_false,Nat.reduceEqDiff];obtain ⟨hw7,ns0,nso⟩:=hw6.lay ([.lst (zw ((fdT k2 29).map zc)) ((fdT k2 29).map zc)],1) hbs;refine HK _ k2' k3' bs bo3 cap3 b3 bf3 bm4 b6 o63 fp3 ff3 f6 hw7 x6 n6b3 n6f3 nm6 ?_ ?_ ?_ n20 n2o3 n30 n3o3 n23
 . show Al.look (Al.lay s6.box bs _) k2' = _;rw [zN,if_neg (fun e=>by rw [e,x2] at hbs; cases hbs)]; exact x2
 . show Al.look (Al.lay s6.box bs _) k3' = _;rw [zN,if_neg (fun e=>by rw [e,x3] at hbs; cases hbs)]; exact x3
 . show Al.look (Al.lay s6.box bs _) bs=_;rw [zN,if_pos rfl]
end
section
open Go.Al Go.Den Go.RowKit Go.Shelf
attribute [local go_sem] Oper.semAt_some
attribute [local congr] ym xO xT xn yO yq yF yE yn xM yo xW yw yk yB yK yg xZ xU yS xL yj yU yR yr yu yV yl yh yY xm xY xV xK xP xN yi yX yT
def frzG (g:Gh) (W:World) (bm:Nat):Gh:=⟨fun b=>if b=bm then 0 else if b < W.heap.size then max (g.wm b) (match W.heap[b]? with | some (.cells arr _ _)=>arr.size | _=>0) else 0,g.tb,⟨fun b=>decide (b < W.heap.size) && decide (b≠bm),fun _=>false⟩⟩
structure Keep1 (bm:Nat) (w W:World):Prop where
 below:Below 0 w W
 blk:∀ b,b < w.heap.size->b≠bm->W.heap[b]? = w.heap[b]?
theorem Keep1.refl (bm:Nat) (w:World):Keep1 bm w w:=⟨Below.refl _ _,fun _ _ _=>rfl⟩
theorem Keep1.trans {bm:Nat} {A B C:World} (h:Keep1 bm A B) (k:Keep1 bm B C):Keep1 bm A C:=⟨h.below.trans k.below,fun b h1 h2=>(k.blk b (Nat.lt_of_lt_of_le h1 h.below.size) h2).trans (h.blk b h1 h2)⟩
structure IsM (bm:Nat) (c:MT) (w W:World):Prop where
 keep:Keep1 bm w W
 mp:∃ (arr:Array MapEntry) (clock:Nat),W.heap[bm]? = some (Obj.map arr clock)/\∀ g w,MapR g w (trMC c) arr.toList
theorem IsM.grown {bm:Nat} {c:MT} {w A C:World} (h:IsM bm c w A) (hm:bm < w.heap.size) {row:Option Nat} (hg:A.grownBy C row) (hr:∀ k,row=some k->w.heap.size<=k/\∃ o:Obj,A.heap[k]? = some o/\o.isCells=false):IsM bm c w C:=by
 have hsz:=h.keep.below.size;have key:∀ b,b < w.heap.size->C.heap[b]? = A.heap[b]?:=fun b hb=>hg.block b (by omega) (fun e=>by have:=(hr b e.symm).1; omega);refine ⟨⟨h.keep.below.trans (Below.grown (Below.refl 0 A) hg (Nat.zero_le _) (fun k e=>Nat.zero_le _)),fun b hb q1=>(key b hb).trans (h.keep.blk b hb q1)⟩,?_⟩;obtain ⟨arr,ck,h1,h2⟩:=h.mp;exact ⟨arr,ck,(key bm hm).trans h1,h2⟩
theorem zJx {W:World} {b o:Nat} {v:Value} (h:W.cell? ⟨b,o,none⟩=some v):∃ arr el m,W.heap[b]? = some (.cells arr el m)/\o < arr.size:=by
 unfold World.cell? at h;simp only at h;cases e:W.heap[b]? with
 | none=>rw [e] at h; cases h
 | some x=>
  rw [e] at h;cases x with
  | cells arr el m=>
   simp only at h;refine ⟨arr,el,m,rfl,?_⟩;rcases Nat.lt_or_ge o arr.size with hl | hl
   . exact hl
   . rw [Array.getElem?_eq_none hl] at h; cases h
  | _=>simp at h
section
variable {B:Nat} {g:Gh} {s:S} {w W:World} {bm:Nat} {c:MT}
theorem zHm (hi:Al.Inv B g s w) (h0:g.wm bm=0) (hk:Keep1 bm w W):Later g w (frzG g W bm) W:=by
 refine ⟨fun b=>?_,fun _ _ e=>e,fun b o ho=>?_⟩
 . show g.wm b<=(if b=bm then 0 else if b < W.heap.size then max (g.wm b) _ else 0);split
   . rename_i e; rw [e,h0]; exact Nat.le_refl _
   . split
     . exact Nat.le_max_left _ _
     . rename_i h; rw [hi.fresh b (by have:=hk.below.size; omega)]; exact Nat.le_refl _
 . have hb:b < w.heap.size:=by
    rcases Nat.lt_or_ge b w.heap.size with h | h
    . exact h
    . rw [hi.fresh b h] at ho; omega
   exact World.cell?_of_block (hk.blk b hb (fun e=>by rw [e,h0] at ho; omega))
theorem frz_at {b o:Nat} {ds:List Value} (hne:b≠bm) (h:∀ (k:Nat) u,ds[k]? = some u->W.cell? ⟨b,o+k,none⟩=some u):Al.At (frzG g W bm) W b o ds:=fun k u hk=>by
 have hc:=h k u hk;refine ⟨hc,?_⟩;obtain ⟨arr,el,m,h1,h2⟩:=zJx hc;have hlt:=(Array.getElem?_eq_some_iff.1 h1).1;show _ < (if b=bm then 0 else if b < W.heap.size then max (g.wm b) _ else 0);rw [if_neg hne,if_pos hlt,h1];exact Nat.lt_of_lt_of_le h2 (Nat.le_max_right _ _)
theorem zHC {b:Nat} {arr:Array Value} {el:TypeId} {m:Nat×Nat} (hne:b≠bm) (h:W.heap[b]? = some (.cells arr el m)):Al.At (frzG g W bm) W b 0 arr.toList:=frz_at hne fun k u hk=>by
 rw [Array.getElem?_toList] at hk;simp [World.cell?,h,hk]
theorem zKp (hi:Al.Inv B g s w) (hB:B<=bm) (hm:bm < w.heap.size) (hk:IsM bm c w W):Al.Inv B (frzG g W bm) ⟨[],[],s.nx,[(bm,.mp (trMC c),[bm])]⟩ W:=by
 have hb:=hi.base;have hs:=hk.keep.below.size;have hob:∀ b o fp,zG [(bm,OV.mp (trMC c),[bm])] b=some (o,fp)->b=bm/\o = .mp (trMC c)/\fp=[bm]:=fun b o fp h=>by
  rw [zJ] at h;split at h
  . rename_i e; injection h with h; obtain ⟨rfl,rfl⟩:=Prod.mk.inj h; exact ⟨e.symm,rfl,rfl⟩
  . cases h
 refine ⟨by omega,fun b cs k h=>(by cases h),fun t ht=>(by cases ht),fun t ht=>(by cases ht),fun t ht=>(by cases ht),List.nodup_nil,fun b hb=>?_,fun t ht=>hi.names t ht,fun b hb=>?_,fun b o fp h=>?_,fun b o fp b2 o2 fp2 j h1 h2 _ _=>(hob _ _ _ h1).1.trans (hob _ _ _ h2).1.symm,fun t ht=>(by cases ht)⟩
 . show (if b=bm then 0 else if b < W.heap.size then max (g.wm b) _ else 0)=0;split
   . rfl
   . rw [if_neg (by omega)]
 . have:b < W.heap.size/\b≠bm:=by simpa [frzG] using hb
   exact ⟨this.1,rfl,fun t ht=>(by cases ht)⟩
 . obtain ⟨rfl,rfl,rfl⟩:=hob b o fp h;obtain ⟨arr,ck,h1,h2⟩:=hk.mp;refine ⟨⟨rfl,arr,ck,h1,h2 _ _⟩,by simp,fun j hj=>?_⟩;simp only [List.mem_singleton] at hj;subst hj;exact ⟨hB,by omega,if_pos rfl,rfl,fun t ht=>(by cases ht),by simp [frzG]⟩
theorem zIx (hi:Al.Inv B g s w) (hgl:GlobOk B g.wm w) (h0:g.wm bm=0) (hB:B<=bm) (hk:Keep1 bm w W):GlobOk B (frzG g W bm).wm W:=by
 have hb:=hi.base;refine hgl.below ⟨hk.below.os,hk.below.tape,hk.below.output,hk.below.size,fun k hk'=>hk.blk k (by omega) (by omega)⟩ (zHm hi h0 hk).wm
theorem zJa {g':Gh} {s':S} {W':World} {c':MT} (hk:IsM bm c w W) (hm:bm < w.heap.size) (h1:Step B (frzG g W bm) W g' W') (h2:Al.Inv B g' s' W') (h3:zG s'.ob bm=some (.mp (trMC c'),[bm])) :
 IsM bm c' w W'/\(∀ b,b < W.heap.size->b≠bm->W'.heap[b]? = W.heap[b]?)/\KeepsFrom w.heap.size W W':=by
 have hsame:∀ b,b < W.heap.size->b≠bm->W'.heap[b]? = W.heap[b]?:=fun b h4 h5=>(h1.fz b (by simp [frzG,h4,h5])).1;have hs:=hk.keep.below.size;obtain ⟨⟨_,arr,ck,q1,q2⟩,_⟩:=h2.ex.ob _ _ _ h3;refine ⟨⟨⟨hk.keep.below.trans (h1.below.mono (Nat.zero_le _)),fun b h4 h5=>(hsame b (by omega) h5).trans (hk.keep.blk b h4 h5)⟩,arr,ck,q1,zAx q2⟩,hsame,h1.below.size,fun k o h4 h5 _=>?_⟩;exact (hsame k (Array.getElem?_eq_some_iff.1 h5).1 (by omega)).trans h5
end
theorem Inv.butMp {B:Nat} {g:Gh} {s:S} {w W:World} {bm:Nat} {c:MT} {o:OV} (hi:Al.Inv B g s w) (hm:zG s.ob bm=some (o,[bm])) (hk:IsM bm c w W):Al.Inv B g ⟨s.box,s.tg,s.nx,(bm,.mp (trMC c),[bm])::s.ob⟩ W/\Later g w g W:=by
 obtain ⟨_,_,h3⟩:=hi.ex.ob bm _ _ hm;obtain ⟨q1,q2,q3,q4,q5,q6⟩:=h3 bm (by simp);have hs:=hk.keep.below.size;have lt:∀ {b:Nat} {o:Obj},w.heap[b]? = some o->b < w.heap.size:=fun hh=>(Array.getElem?_eq_some_iff.1 hh).1;have hl:Later g w g W:=⟨fun _=>Nat.le_refl _,fun _ _ e=>e,fun b o ho=>by
  refine World.cell?_of_block (hk.keep.blk b ?_ ?_)
  . rcases Nat.lt_or_ge b w.heap.size with hh | hh
    . exact hh
    . rw [hi.fresh b hh] at ho; omega
  . intro e; rw [e,q3] at ho; omega⟩
 have hcase:∀ {b o' fp},zG ((bm,OV.mp (trMC c),[bm])::s.ob) b=some (o',fp)->(b=bm/\o' = .mp (trMC c)/\fp=[bm])\/(b≠bm/\zG s.ob b=some (o',fp)):=fun {b o' fp} h=>by
  rw [zJ] at h;split at h
  . rename_i e; injection h with h; obtain ⟨rfl,rfl⟩:=Prod.mk.inj h; exact .inl ⟨e.symm,rfl,rfl⟩
  . rename_i e; exact .inr ⟨fun e2=>e e2.symm,h⟩
 refine ⟨⟨Nat.le_trans hi.base hs,fun b cs k hb=>?_,hi.tag,fun t ht b cap n sz hb=>?_,hi.dist,hi.nodup,fun b hb=>hi.fresh b (Nat.le_trans hs hb),hi.names,fun b hb=>?_,fun b o' fp hb=>?_,fun b1 o1 f1 b2 o2 f2 j (e1:zG ((bm,OV.mp (trMC c),[bm])::s.ob) b1=some (o1,f1)) (e2:zG ((bm,OV.mp (trMC c),[bm])::s.ob) b2=some (o2,f2)) m1 m2=>?_,hi.ex.ft⟩,hl⟩
 . obtain ⟨t1,t2,t3,t4,arr,el,us,t5,t6,t7,t8⟩:=hi.box b cs k hb;have hne:b≠bm:=fun e=>by rw [e] at hb; rw [q4] at hb; cases hb
   exact ⟨t1,t2,t3,t4,arr,el,us,(hk.keep.blk b (lt t5) hne).trans t5,t6,z8 hl _ _ t7,t8⟩
 . obtain ⟨t1,t2,t3,t4,t5,arr,el,t6,t7⟩:=hi.own t ht b cap n sz hb;have hne:b≠bm:=fun e=>by rw [e] at hb; exact q5 t ht _ hb
   exact ⟨t1,t2,t3,t4,t5,arr,el,(hk.keep.blk b (lt t6) hne).trans t6,t7⟩
 . obtain ⟨t1,t2,t3⟩:=hi.ex.frz b hb;exact ⟨by omega,t2,t3⟩
 . rcases hcase hb with ⟨rfl,rfl,rfl⟩ | ⟨hne,hb⟩
   . obtain ⟨arr,ck,h1,h2⟩:=hk.mp;refine ⟨⟨rfl,arr,ck,h1,h2 _ _⟩,by simp,fun j hj=>?_⟩;simp only [List.mem_singleton] at hj;subst hj;exact ⟨q1,by omega,q3,q4,q5,q6⟩
   . obtain ⟨t1,t2,t3⟩:=hi.ex.ob b o' fp hb;refine ⟨t1.local hl (fun j hj=>hk.keep.blk j (t3 j hj).2.1 (fun e=>hne (hi.ex.obd b _ _ bm _ _ bm hb hm (by rw [<- e]; exact hj) (by simp)))),t2,fun j hj=>?_⟩;obtain ⟨r1,r2,r3⟩:=t3 j hj;exact ⟨r1,by omega,r3⟩
 . rcases hcase e1 with ⟨a1,_,rfl⟩ | ⟨n1,e1⟩ <;> rcases hcase e2 with ⟨a2,_,rfl⟩ | ⟨n2,e2⟩
   . rw [a1,a2]
   . exact (n2 (hi.ex.obd b2 _ _ bm _ _ j e2 hm m2 m1)).elim
   . exact (n1 (hi.ex.obd b1 _ _ bm _ _ j e1 hm m1 m2)).elim
   . exact hi.ex.obd b1 o1 f1 b2 o2 f2 j e1 e2 m1 m2
abbrev wkA (l:List TokT) (bo n cap b bf bm:Nat) (o6:Option Nat):V:=.agg [tkV l,.at (.slice (some ⟨bo,0,none⟩) n cap),ptV b,.at (.map (some bf)),.at (.map (some bm)),.at (pO o6)]
set_option maxRecDepth 100000 in
theorem ok46r {l:List TokT} {bo n cap b bf bm:Nat} {o6:Option Nat} {i:Int} {s:S} (h0:0<=i) (h1:i < l.length) :
 FnC Tryz.prog 46 [.rptr (wkA l bo n cap b bf bm o6),.at (.int .i64 i)] s fun oc s'=>oc = .ret (.at (.string ⟨(l.getD i.toNat tokD).text.toArray⟩))/\s' = s:=by
 have hidx:=tk_at h0 h1;have hln:(l.map (CC.encV TI.tok)).length=l.length:=List.length_map _;generalize l.getD i.toNat tokD=tk at hidx ⊢;refine yz Tryz.func46 rfl Tryz.ntmps46 Tryz.results46 (by show 2<=13; decide) fun B=>?_;simp only [List.cons_append,List.nil_append,List.append_nil,xg,Nat.reduceAdd]
 (repeat (first | (refine zg ?_) | (refine zW ?_; simp -failIfUnchanged only [zB,zC]) | (refine zf ?_; simp -failIfUnchanged only [zV,zS,zd,zU]) | (refine zY ?_; simp -failIfUnchanged only [zR,zM,zB,zC,reduceIte]) | (refine zT ?_) | ((first | (refine ze polN ks46 _ rfl rfl ?_) | (refine za polN mixed ks46 _ rfl rfl (by kernel_rfl) (by kernel_rfl) ?_)); simp only [↓zk,↓zt,↓yP,↓zl,↓xG,↓yD,↓z6,zB,zH,zI,zK,zP,zm,zCf,zb,zX,zBA,qp,jO,kD,xx,qY,implies_true,and_self,fits,zy,zz,zL,V.isOne,V.isAgg,V.size,qr,List.all_cons,List.all_nil,List.length_cons,List.length_nil,List.drop_zero,List.drop_succ_cons,List.take_succ_cons,List.take_zero,List.getD_cons_zero,List.getD_cons_succ,Bool.true_and,Bool.and_self,if_true,if_false,true_and,Nat.reduceAdd,Nat.reduceEqDiff,Nat.reduceLeDiff,reduceCtorEq,Bool.false_eq_true,Nat.zero_add,Nat.add_zero,Nat.lt_add_one,zGO,zGi,zEZ,zJW,zJz,zG4,zLW,zJQ,zG2,zHG,zK4,ks46,hidx])))
 refine ⟨⟨h0,by rw [hln]; exact h1⟩,?_⟩
 (repeat (first | (refine zg ?_) | (refine zW ?_; simp -failIfUnchanged only [zB,zC]) | (refine zf ?_; simp -failIfUnchanged only [zV,zS,zd,zU]) | (refine zY ?_; simp -failIfUnchanged only [zR,zM,zB,zC,reduceIte]) | (refine zT ?_) | ((first | (refine ze polN ks46 _ rfl rfl ?_) | (refine za polN mixed ks46 _ rfl rfl (by kernel_rfl) (by kernel_rfl) ?_)); simp only [])))
 simp only [ya];exact ⟨rfl,rfl,trivial⟩
def rfA:Code->Code
 | .block _ (.rangeFunc _ _ a _)=>a
 | _=>.skip
def rfB:Code->Code
 | .block _ (.rangeFunc _ _ _ b)=>b
 | _=>.skip
def zL7:Nat->List Nat:=fun _=>[2,7]
set_option maxRecDepth 100000 in
theorem zOj {B l' k2 bm:Nat} {nk nt:Int} {aa:Option Addr} {nn cc:Nat} {st:S} :
 awp Tryz.prog ⟨B,⟨75,[]⟩,some l',[]⟩ (rfA (spRF (zZ Tryz.f98)).1) (fun ex e' s'=>ex = .normal/\∃ k,Al.look st.box k=none/\e' = [(2,ptV k2),(7,ptV k)]/\Al.look s'.box k=some ([vi nk,vi nt,.at (.slice aa nn cc)],3)/\s'.ob=st.ob)
  [(2,ptV k2),(38,.agg [vi nk,vi nt,.at (.slice aa nn cc)])] st:=by
 simp only [zZ,Tryz.f98,Option.getD_some,spRF,rfA];unfold vi
 (repeat (first | (refine zg ?_) | (refine zW ?_; simp -failIfUnchanged only [zB,zC]) | (refine zf ?_; simp -failIfUnchanged only [zV,zS,zd,zU]) | (refine zY ?_; simp -failIfUnchanged only [zR,zM,zB,zC,reduceIte]) | (refine zT ?_) | ((first | (refine ze polN zL7 _ rfl rfl ?_) | (refine za polN mixed zL7 _ rfl rfl (by kernel_rfl) (by kernel_rfl) ?_)); simp only [↓zk,↓qV,↓zI0,zH,xp,zI,zK,zP,zb,zX,zHT,zFW,Bool.true_and,if_true,if_false,true_and,Nat.reduceEqDiff,zGZ,zL7])))
 refine ⟨rfl,fun k hk=>?_⟩;simp only [xy,xJ,spl,List.nil_append,List.append_nil,and_self,zL,V.isOne,V.flat,List.all_cons,List.all_nil,List.length_cons,List.length_nil,List.drop_zero,List.drop_succ_cons,List.take_zero,Bool.and_true,Bool.true_and,Bool.and_self,if_true,and_true,true_and,Nat.reduceAdd,Nat.zero_add,Nat.le_refl,zN,jd,qy,jd];exact ⟨k,hk,rfl,if_pos rfl⟩
abbrev polR:Pol:=⟨fun _=>false,fun _=>false,fun _=>false,fun f=>f == 46,[(49,2),(49,41)],fun _=>[]⟩
theorem nd0 (x:V) (l:List V):(x::l).getD (Int.toNat 0) .any=x:=rfl
theorem zIY (L:Pol) (x:Operand) (y:V):ldK L x (.rptr y)=True:=eq_true (by cases x <;> first | trivial | (unfold ldK; intro p _ _ b o h; cases h))
set_option maxRecDepth 100000 in
theorem zQK {B l':Nat} {l:List TokT} {bo n cap b bf bm nx:Nat} {o6:Option Nat} {nk nt:Int} {kk kt:Int} {kl:List Nd} {kids:List Nd} {c:MT} (h0:0<=kt) (h1:kt < l.length) (hll:l.length < 1000000) :
 awp Tryz.prog ⟨B,⟨75,[]⟩,some l',[]⟩ (rfB (spRF (zZ Tryz.f98)).1) (fun ex e' s'=>ex = .normal/\zG s'.ob bm=some (.mp (trMC (qO c (l.getD kt.toNat tokD).text (kt+1))),[bm]))
  [(2,.rptr (.rptr (wkA l bo n cap b bf bm o6))),(7,.rptr (.agg [vi nk,vi nt,sl ((Nd.mk kk kt kl::kids).map zc)]))] ⟨[],[],nx,[(bm,.mp (trMC c),[bm])]⟩:=by
 simp only [zZ,Tryz.f98,Option.getD_some,spRF,rfB,List.map_cons,qH];unfold vi sl;have hadd:IntKind.i64.wrap (kt+1)=kt+1:=IntWalk.i64_in _ (by omega)
 (repeat (first | (refine zg ?_) | (refine zW ?_; simp -failIfUnchanged only [zB,zC]) | (refine zf ?_; simp -failIfUnchanged only [zV,zS,zd,zU]) | (refine zY ?_; simp -failIfUnchanged only [zR,zM,zB,zC,reduceIte]) | (refine zT ?_) | ((first | (refine ze polR ks98 _ rfl rfl ?_) | (refine za polR mixed ks98 _ rfl rfl (by kernel_rfl) (by kernel_rfl) ?_)); simp only [↓zl,↓xG,↓z6,zC,zAX,zH,zI,zK,zP,zm,yC,zX,zBA,qp,jO,kD,xx,qY,implies_true,List.map_cons,List.map_nil,and_self,fits,zy,zz,zL,V.isOne,V.isAgg,V.size,qr,List.all_cons,List.all_nil,List.length_cons,List.length_nil,List.drop_zero,List.drop_succ_cons,List.take_succ_cons,List.take_zero,List.take_nil,List.getD_cons_zero,List.getD_cons_succ,List.length_map,Bool.true_and,Bool.and_self,if_true,if_false,true_and,Nat.reduceAdd,Nat.reduceEqDiff,Nat.reduceLeDiff,reduceCtorEq,Bool.false_eq_true,Nat.zero_add,Nat.add_zero,Nat.le_refl,Nat.lt_add_one,zDP,zDa,zB1,kO,zAY,ja,zCc,jd,qy,zLB,zBv,ql,zAf,qC,kw,kz,ju,zKh,ks98,zFn,zIY,nd0])))
 refine ⟨⟨by omega,by omega⟩,?_⟩;refine zAG [.rptr (wkA l bo n cap b bf bm o6),.at (.int .i64 kt)] (.at (.string ⟨(l.getD kt.toNat tokD).text.toArray⟩)) rfl rfl ku (by simp only [List.map_cons,List.map_nil,List.all_cons,List.all_nil,zP,zH,zI,zK,if_true,if_false,Nat.reduceEqDiff,yM,zH7,Bool.and_self]) (by simp only [List.map_cons,List.map_nil,zP,zH,zI,zK,if_true,if_false,Nat.reduceEqDiff]; exact .keep (.keep .nil)) (ok46r h0 h1) ?_;simp only [↓xe,↓zl,↓xG,zH,zI,zK,zP,zm,yC,qp,jO,kD,xx,qY,implies_true,and_self,fits,zy,zz,zL,V.isOne,V.isAgg,V.size,qr,List.all_cons,List.all_nil,List.length_cons,List.length_nil,List.drop_zero,List.drop_succ_cons,List.take_succ_cons,List.take_zero,List.take_nil,List.getD_cons_zero,List.getD_cons_succ,List.length_map,Bool.true_and,Bool.and_self,if_true,if_false,true_and,Nat.reduceAdd,Nat.reduceEqDiff,Nat.reduceLeDiff,Bool.false_eq_true,Nat.zero_add,Nat.add_zero,Nat.le_refl,Nat.lt_add_one,zDP,zDa,zB1,kO,zAY,ja,zCc,jd,qy,zLB,zBv,zFn,zIY,nd0];refine ⟨⟨by omega,by omega⟩,?_⟩;simp only [↓zk,zH,zI,zK,zP,yW,zAz,if_true,if_false,Nat.reduceEqDiff,zBX,yL,hadd];refine zIt (fp:=[bm]) (c:=c) (by rw [zJ,if_pos rfl]) ?_;show zG (_::_) bm=_;rw [zJ,if_pos rfl]
abbrev ndZ:Nd:=.mk 0 0 []
theorem zI8 {g:Gh} {w:World} {x:Nd} {a b c:Value} (h:RC g w (zc x) [a,b,c]):a = .int .i64 (Nd.kind x)/\b = .int .i64 (Nd.tok x)/\∃ aa nn cc,c = .slice aa nn cc:=by
 obtain ⟨k,t,ks⟩:=x;rw [qH] at h;simp only [RC,RCs,vi,sl] at h;obtain ⟨u1,u2,e1,⟨rfl,_⟩,u3,u4,rfl,⟨rfl,_⟩,u5,u6,rfl,h5,rfl⟩:=h;simp only [List.cons_append,List.nil_append,List.append_nil,List.cons.injEq] at e1;obtain ⟨rfl,rfl,rfl⟩:=e1;refine ⟨rfl,rfl,?_⟩;rcases h5 with ⟨_,h5,_⟩ | ⟨_,_,_,_,h5,_⟩
 . injection h5 with h5; exact ⟨_,_,_,h5⟩
 . injection h5 with h5; exact ⟨_,_,_,h5⟩
theorem zEK {g:Gh} {w:World}:∀ (ms:List Nd) (ds:List Value),RCs g w (ms.map zc) ds->ds.length=ms.length * 3/\∀ j,j < ms.length->RC g w (zc (ms.getD j ndZ)) [ds.getD (j * 3) undef,ds.getD (j * 3+1) undef,ds.getD (j * 3+2) undef]
 | [],ds,h=>by
  simp only [List.map_nil,RCs] at h;subst h;exact ⟨rfl,fun j hj=>by simp at hj⟩
 | x::ms,ds,h=>by
  simp only [List.map_cons,RCs] at h;obtain ⟨u1,u2,rfl,h1,h2⟩:=h;have hl:=qD _ _ _ _ h1;rw [qc] at hl;obtain ⟨a,b,c,rfl⟩:∃ a b c,u1=[a,b,c]:=by
   match u1,hl with
   | [a,b,c],_=>exact ⟨a,b,c,rfl⟩
  obtain ⟨q1,q2⟩:=zEK ms u2 h2;refine ⟨by simp [q1]; omega,fun j hj=>?_⟩;cases j with
  | zero=>simpa using h1
  | succ j=>
   have:=q2 j (by simpa using hj);have e1:(j+1) * 3=j * 3+1+1+1:=by omega
   rw [show (j+1) * 3+1=(j * 3+1)+1+1+1 by omega,show (j+1) * 3+2=(j * 3+2)+1+1+1 by omega,e1];simpa using this
theorem zRY (ms:List Nd) (n:Nat) (h:n=ms.length):ms.reverse=(qt n n).map fun x=>ms.getD x.1 ndZ:=by
 subst h;rw [qt,List.take_of_length_le (by simp),List.map_reverse];congr 1;apply List.ext_getElem
 . simp
 . intro i h1 h2;simp
abbrev mkF (l:List TokT):MT->Nd->MT:=fun c x=>qO c (l.getD (lbAt x).toNat tokD).text (lbAt x+1)
theorem zOA:∀ args w,(callFunc 137 args).run Tryz.prog w = .ok (.enter 137 args) w:=enters_of Tryz.func137 (by kernel_rfl) rfl
theorem tmps2 (t:Array Value) (u v:Value) (k:Nat) (h:t.size=75) (h1:k≠37) (h2:k≠38):((t.setIfInBounds 37 u).setIfInBounds 38 v).getD k undef=t.getD k undef:=by
 simp only [Array.getD_eq_getD_getElem?,Array.getElem?_setIfInBounds,h1,h2,Ne.symm h1,Ne.symm h2,if_false]
theorem tmps38 (t:Array Value) (u v:Value) (h:t.size=75):((t.setIfInBounds 37 u).setIfInBounds 38 v).getD 38 undef=v:=by
 simp [Array.getD_eq_getD_getElem?,Array.getElem?_setIfInBounds,h]
end
end Go.Proofs.YtnamdpbcpnnhaaaGreatDoor
