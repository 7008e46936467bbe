
import Derived.Test.YtfmoipelhfkdkaaGreatDoorReEvA
set_option linter.unusedVariables false
set_option linter.unusedSimpArgs false
open Go.Dw.WC renaming block->Fq, loop->Fs, pe->Ft, region->Fu, tn->Fw, tu->Fv
open Option.some renaming inj->Ew

set_option maxRecDepth 100000
set_option maxHeartbeats 4000000
namespace Go.Dw.Re
open Go.Proofs Go.Proofs.Tryz Go.Dw
theorem mh{a1:Int}{d0:(List aa)}{r:(List aa)}(h:dV a1 d0=some r):EvP prog bo ext 127 [.ref 0 0,rI a1,.d (.raw (.func (.func 88) #[] #[]))] [.arr 0 70 (d0.map aa.pd)] (.tup [],[.arr 0 70 (r.map aa.pd)]):=by
 refine Ev.body Z Tryz.func127 Z Zk<|gU Z<|sV (rI 20)<|sN<|gU Z<|sM Z<|sV (r0)<|sA Z<|sN<|qS<|bE h fun L q h=>Fq (Fs (WL.rU q (fun s=>gI 1 127 2 [(0,.ref 0 0),(1,rI a1),(2,.d (.raw (.func (.func 88) #[] #[]))),(6,rI 20),(7,rI s.1),(8,rI s.2.1)] [(0,.arr 0 70 (s.2.2.map aa.pd))]) (fun o=>gX 0 1 127 6 [(0,.ref 0 0),(1,rI a1),(2,.d (.raw (.func (.func 88) #[] #[]))),(6,rI 20),(7,rI o.1)] [(0,.arr 0 70 (o.2.map aa.pd))]) Z ?_ ?_))
 ·rintro⟨s1,s2,W⟩ F E U f h
  refine qS<|gS Z f<|mM Z<|sF h ?_ ?_<;>intro h
  ·refine sN<|cT<|qK<|qB<|gU Z<|mM Z<|mM Z<|bE h fun T J h=>cR (.tup []) [(0,.arr 0 70 (T.map aa.pd))] (fg J)<|sN<|gU Z<|sM Z<|sA Z ?_
   refine sN<|Fu Z Z<|mM Z<|sV (rI (rW (s2+(20:Int))))<|sA Z<|sN ?_
   cases oI h
   exact⟨rfl,rfl⟩
  refine sN<|cF<|qX ?_
  cases oI h
  exact⟨nofun,rfl,rfl⟩
 intro e F E he H
 obtain⟨rfl,f⟩:=H
 refine qE<|gS Z f<|mM Z<|mM Z<|bE h fun j G h=>cR (.tup []) [(0,.arr 0 70 (j.map aa.pd))] (fg G)<|sN<|bE h fun N C h=>?_
 cases oI h
 refine Fq (Fs (WL.uQ C (fun s=>gI 1 127 7 [(0,.ref 0 0),(1,rI a1),(2,.d (.raw (.func (.func 88) #[] #[]))),(6,rI s)] [(0,.arr 0 70 (j.map aa.pd))]) Z ?_))
 rintro g F E O f h
 refine qS<|gS Z f<|mM Z<|sF h ?_ ?_<;>intro h
 ·refine sN<|cT<|qK<|qB<|gU Z<|sM Z<|sV (rI (rW ((2:Int)*g)))<|sV (r0)<|sA Z<|sN<|qS<|bE h fun D u h=>Fq (Fs (WL.rU u (fun s=>gI 1 127 9 [(0,.ref 0 0),(1,rI a1),(2,.d (.raw (.func (.func 88) #[] #[]))),(6,rI g),(7,r0),(8,rI (rW ((2:Int)*g)))] [(0,.arr 0 70 (j.map aa.pd))]) (fun o=>gX 4 1 127 13 [(0,.ref 0 0),(1,rI a1),(2,.d (.raw (.func (.func 88) #[] #[]))),(6,rI o),(7,r0)] [(0,.arr 0 70 (j.map aa.pd))]) Z ?_ ?_))
  ·rintro⟨⟩ F E Q f h
   refine qS<|gS Z f<|mM Z<|sF h ?_ ?_<;>intro h
   ·refine sN<|cT<|qK<|qB<|gU Z<|mM Z<|mM Z<|sV (rI (rW ((0:Int)+g)))<|sM Z<|sM Z ?_
    cases h
   refine sN<|cF<|qX ?_
   cases oI h
   exact⟨nofun,rfl,rfl⟩
  intro e F E he H
  obtain⟨rfl,f⟩:=H
  refine qE<|qS<|gS Z f<|mM Z<|sV (rI (rW ((0:Int)+D)))<|sA Z<|sN<|gU Z<|mM Z<|sF h ?_ ?_<;>intro h
  ·refine sN<|cT<|Fu Z Z<|mM Z<|mM Z<|sM Z ?_
   cases h
  refine sN<|cF<|qK<|Fu Z Z<|sM Z<|sV (rI (rW (D*(2:Int))))<|sA Z<|sN ?_
  cases oI h
  exact⟨rfl,rfl⟩
 refine sN<|cF<|qX<|oh h (fun z21 k K=>?_)
 obtain rfl:=Ew K
 refine⟨(fun he=>by cases he),fun I=>?_⟩
 subst I
 have h:=k
 refine qE ?_
 exact oI h▸qD
instance {a1:Int}{d0:(List aa)}:CE prog bo ext (dV a1 d0) 127 [.ref 0 0,rI a1,.d (.raw (.func (.func 88) #[] #[]))] [.arr 0 70 (d0.map aa.pd)] fun r=>(.tup [],[.arr 0 70 (r.map aa.pd)]):=⟨fun h=>mh h⟩
section
attribute [local irreducible] HM HU HF HB WO WC QS QB tZ
instance {d0:(List aa)}:CE prog bo ext (dG d0) 87 [.ref 0 0,.d (.raw (.func (.func 88) #[] #[]))] [.arr 0 70 (d0.map aa.pd)] fun r=>(.tup [],[.arr 0 70 (r.map aa.pd)]):=⟨fun h=>Ev.au h Tryz.func87⟩
end
theorem kb{a0:Int}{a1:(List aa)}{r:(List (List aa))}(h:bZ a0 a1=some r):EvP prog bo ext 46 [rI a0,rM aa.pd a1] [] (.d (.lst (r.map (fun l=>PD.lst (l.map aa.pd)))),[]):=by
 refine Ev.body Z Tryz.func46 Z Zk<|gU Z<|sV .rm<|sN<|gU Z<|sM Z<|bE h fun x1 h1 h=>cR (.ref 192 0) [(192,.arr 0 70 (x1.map aa.pd))] (ce h1)<|sA Z<|sN<|gU Z<|sM Z<|bE h fun k h2 h=>cR (.tup []) [(192,.arr 0 70 (k.map aa.pd))] (ce h2)<|sN ?_
 refine gU Z<|sV .rm<|sN<|qS<|gU Z<|sM Z<|WO.lenR Z Z Z Z Z Z Z Z Z<|sV (r0)<|sN<|bE h fun c5 q h=>Fq (Fs (WL.rU q (fun s=>gI 0 46 5 [(0,rI a0),(5,.ref 192 0),(6,.ref 624 0),(15,.ref 192 0),(16,rI (k.length:Int)),(17,rI s.1)] [(192,.arr 0 70 (k.map aa.pd)),(624,.nest 0 42 70 (s.2.map (List.map aa.pd)) none)]) (fun o=>gX 0 0 46 11 [(6,.ref 624 0)] [(624,.nest 0 42 70 (o.map (List.map aa.pd)) none)]) Z ?_ ?_))
 ·rintro⟨j,F⟩ H G q6 g h
  refine gS Z g<|sF h ?_ ?_<;>intro h
  ·refine sN<|qS<|cT<|qK<|qS<|qB<|gU Z<|sM Z<|bE h fun x9 h9 h=>WO.tF h9 Z Z Z Z Z Z Z Z<|bE h fun f I h=>WO.tg I Z Z Z Z Z Z<|sB (.ptr 128 0) 128 (.var [rS [],rS [],rS [],rS [],r0,r0,r0,r0,r0])<|sA Z<|sH 128 (.var (aa.rc f)) ?_
   refine sN<|qS<|Ft Z Z<|sM Z<|sF h ?_ ?_<;>intro h
   ·refine sM Z<|k3<|k3<|k3<|sK<|sK<|sT ?_
    refine sN<|sO<|cT<|Fu (R0:=[(0,rI a0),(5,.ref 192 0),(6,.ref 624 0),(8,.ptr 128 0),(15,.ref 192 0),(16,rI (k.length:Int)),(17,rI j)]) (B0:=[(128,.var (aa.rc f)),(192,.arr 0 70 (k.map aa.pd)),(624,.nest 0 42 70 (F.map (List.map aa.pd)) none)]) Z Z<|sM Z<|sV (.d (.lst [nil0]))<|bE h fun C J h=>WO.appNN J Z Z Z Z Z Z Z Z Z Z Z Z Z Z<|sA Z<|sN<|bE h fun d2 K h=>Fw (wH K Z Z Z) Z<|mM Z<|WO.lenN Z Z Z Z Z Z Z Z Z<|sV (rI (rW ((C.length:Int)-(1:Int)))) ?_
    refine mM Z<|WO.lenN Z Z Z Z Z Z Z Z Z<|sV (rI (rW ((C.length:Int)-(1:Int))))<|bE h fun d3 L h=>WO.eltN L Z Z Z Z Z Z Z Z<|bE h fun d4 N h=>WO.loadN N Z Z Z Z Z Z<|sV (.d (aa.pd f))<|sG (.d (.lst ([f].map aa.pd)))<|bE h fun d5 O h=>aR O (fun _=>Z) Z<|bE h fun d6 Q h=>WO.eltN Q Z Z Z Z Z Z Z Z<|bE h fun d7 T h=>?_
    refine WO.C3 T Z Z Z Z Z Z Z ?_
    refine sN<|sO<|Fu Z Z<|sV (rI (rW (j+(1:Int))))<|sM Z<|sN ?_
    cases oI h
    exact⟨rfl,(vP rfl rfl (by decide) rfl)⟩
   refine sM Z<|sV (.ptr 128 5)<|sL Z<|mM Z<|sV (rI (rW (j-(1:Int))))<|bE h fun d8 U h=>WO.tF U Z Z Z Z Z Z Z Z<|sV (.elt 192 0 ((rW (j-(1:Int)))).toNat 5)<|bE h fun D W h=>WO.tg W Z Z Z Z Z Z<|sV (rI (rW (f.bu-D.bu)))<|sM Z<|sV (rB (decide ((rW (f.bu-D.bu))>a0)))<|sF h ?_ ?_<;>intro h
   ·refine sN<|sO<|cT<|Fu (R0:=[(0,rI a0),(5,.ref 192 0),(6,.ref 624 0),(8,.ptr 128 0),(15,.ref 192 0),(16,rI (k.length:Int)),(17,rI j)]) (B0:=[(128,.var (aa.rc f)),(192,.arr 0 70 (k.map aa.pd)),(624,.nest 0 42 70 (F.map (List.map aa.pd)) none)]) Z Z<|sM Z<|sV (.d (.lst [nil0]))<|bE h fun E X h=>WO.appNN X Z Z Z Z Z Z Z Z Z Z Z Z Z Z<|sA Z<|sN<|bE h fun e0 Y h=>Fw (wH Y Z Z Z) Z<|mM Z<|WO.lenN Z Z Z Z Z Z Z Z Z<|sV (rI (rW ((E.length:Int)-(1:Int)))) ?_
    refine mM Z<|WO.lenN Z Z Z Z Z Z Z Z Z<|sV (rI (rW ((E.length:Int)-(1:Int))))<|bE h fun e1 a5 h=>WO.eltN a5 Z Z Z Z Z Z Z Z<|bE h fun e2 a6 h=>WO.loadN a6 Z Z Z Z Z Z<|sV (.d (aa.pd f))<|sG (.d (.lst ([f].map aa.pd)))<|bE h fun e3 a9 h=>aR a9 (fun _=>Z) Z<|bE h fun e4 b0 h=>WO.eltN b0 Z Z Z Z Z Z Z Z<|bE h fun e5 b1 h=>?_
    refine WO.C3 b1 Z Z Z Z Z Z Z ?_
    refine sN<|sO<|Fu Z Z<|sV (rI (rW (j+(1:Int))))<|sM Z<|sN ?_
    cases oI h
    exact⟨rfl,(vP rfl rfl (by decide) rfl)⟩
   refine sN<|sO<|cF<|qK<|bE h fun e6 b2 h=>Fw (wH b2 Z Z Z) Z<|mM Z<|WO.lenN Z Z Z Z Z Z Z Z Z<|sV (rI (rW ((F.length:Int)-(1:Int))))<|mM Z<|WO.lenN Z Z Z Z Z Z Z Z Z<|sV (rI (rW ((F.length:Int)-(1:Int))))<|bE h fun e7 b3 h=>WO.eltN b3 Z Z Z Z Z Z Z Z ?_
   refine bE h fun e8 b4 h=>WO.loadN b4 Z Z Z Z Z Z<|sV (.d (aa.pd f))<|sG (.d (.lst ([f].map aa.pd)))<|bE h fun e9 b5 h=>aR b5 (fun _=>Z) Z<|bE h fun f0 b6 h=>WO.eltN b6 Z Z Z Z Z Z Z Z<|bE h fun f1 c0 h=>WO.C3 c0 Z Z Z Z Z Z Z ?_
   refine sN<|sO<|Fu Z Z<|sV (rI (rW (j+(1:Int))))<|sM Z<|sN ?_
   cases oI h
   exact⟨rfl,(vP rfl rfl (by decide) rfl)⟩
  refine sN<|qS<|cF<|qX ?_
  cases oI h
  exact⟨nofun,rfl,rfl⟩
 intro e H G he hq
 obtain⟨rfl,g⟩:=hq
 refine qE<|qS<|gS Z g<|sM Z<|WO.lenN Z Z Z Z Z Z Z Z Z<|sV (r0)<|sN<|bE h fun c8 u h=>Fq (Fs (WL.rU u (fun s=>gI 0 46 12 [(6,.ref 624 0),(55,.ref 624 0),(56,rI (c5.length:Int)),(57,rI s.1)] [(624,.nest 0 42 70 (s.2.map (List.map aa.pd)) none)]) (fun o=>gX 2 0 46 16 [(6,.d (.lst (o.map (fun l=>PD.lst (l.map aa.pd)))))] []) Z ?_ ?_))
 ·rintro⟨c6,d1⟩ H G d0 g h
  refine gS Z g<|sF h ?_ ?_<;>intro h
  ·refine sN<|qS<|cT<|qK<|qS<|qB<|bE h fun f2 c1 h=>Fv (Br c1 Z Z Z Z) Z<|bE h fun f3 c2 h=>WO.eltN c2 Z Z Z Z Z Z Z Z<|bE h fun f4 c3 h=>WO.loadN c3 Z Z Z Z Z Z<|sA Z<|sN<|Fu Z Z ?_
   refine sM Z<|bE h fun c7 c4 h=>cR (.tup []) [(960,.arr 0 70 (c7.map aa.pd))] (sort_90_91 c4)<|sN<|Fu Z Z<|sV (rI (rW (c6+(1:Int))))<|sM Z<|sN ?_
   cases oI h
   exact⟨rfl,(vP rfl rfl (by decide) rfl)⟩
  refine sN<|qS<|cF<|qX ?_
  cases oI h
  exact⟨nofun,rfl,(tS rfl (Cb rfl rfl rfl))⟩
 intro e H G he hq
 obtain⟨rfl,g⟩:=hq
 refine qE<|gS Z g<|sM Z<|sA Z<|sN<|qR ?_
 exact oI h▸qD
instance {a0:Int}{a1:(List aa)}:CE prog bo ext (bZ a0 a1) 46 [rI a0,rM aa.pd a1] [] fun r=>(.d (.lst (r.map (fun l=>PD.lst (l.map aa.pd)))),[]):=⟨fun h=>kb h⟩
section
attribute [local irreducible] HM HU HF HB WO WC QS QB tZ
instance {a0:Int}{a1:(List aa)}:CE prog bo ext (gA a0 a1) 69 [rI a0,rM aa.pd a1] [] fun r=>(.tup [.d (.lst (r.1.map (fun l=>PD.lst (l.map aa.pd)))),rI r.2],[]):=⟨fun h=>Ev.au h Tryz.func69⟩
instance {a0:ah}{a1:ae}{a2:(List aa)}:CE prog bo ext (gW a0 a1 a2) 38 [.d (ah.pd a0),.d (ae.pd a1),rM aa.pd a2] [] fun r=>(.tup [.d (.lst (r.1.map (fun l=>PD.lst (l.map aa.pd)))),rI r.2],[]):=⟨fun h=>Ev.au h Tryz.func38⟩
end
theorem mU{a0:ah}{a1:ae}{r:av}(h:fk a0 a1=some r):EvP prog bo ext 39 [.d (ah.pd a0),.d (ae.pd a1)] [] (.agg (ah.rc r.ba++[rM aj.pd r.cm.a8,.rm]),[]):=by
 refine Ev.body Z Tryz.func39 Z Zk<|gU Z<|sB (.ptr 32 0) 32 (.var (ah.rc a0))<|sB (.ptr 48 0) 48 (.var [rM aj.pd a1.a8])<|sB (.ptr 64 0) 64 (.var zZ0)<|sN<|qS<|gU Z<|sV (.ptr 32 0)<|sV (.ptr 32 6)<|sV (.ptr 32 14)<|sV (.ptr 32 14)<|sV (.plit [.ptr 32 6,.ptr 32 14])<|sV (rI 2)<|sV (r0) ?_
 refine sN<|Fq (Fs ?_)
 refine WL.round<|Fv (R0:=[(2,.ptr 32 0),(3,.ptr 48 0),(4,.ptr 64 0),(17,.plit [.ptr 32 6,.ptr 32 14]),(18,rI 2),(19,r0)]) (B0:=[(32,.var (ah.rc a0)),(48,.var [rM aj.pd a1.a8]),(64,.var zZ0)]) Z Z<|sT<|sN<|qS<|cT<|qK<|qS<|qB<|gU Z<|sV (.pcp (.ptr 32 6))<|sV (.ptr 32 6)<|sA Z<|sN<|Fw Z Z ?_
 refine mM Z<|sM Z<|sV (.ptr 32 6)<|sV (.ptr 32 7)<|sL Z<|bE h fun j h1 h=>cR (.ref 464 0) [(464,.arr 0 3 (j.map (PD.int .i64)))] (oR h1)<|sM Z<|sV (.ptr 32 6)<|sV (.ptr 32 8)<|sL Z<|bE h fun k h2 h=>cR (.ref 544 0) [(544,.arr 0 3 (k.map (PD.int .i64)))] (oR h2)<|sV (.ptr 32 6) ?_
 refine sV (.ptr 32 7)<|sS 32 (.var (al.rc a0.ac.bj++rI a0.ac.bG.bQ:: .ref 464 0::rL a0.ac.bG.bd::rI a0.ac.dv::rI a0.ac.bA::rI a0.ac.ch::rI a0.ac.dJ::rI a0.ac.cn::bS.rc a0.bK++[rI a0.bA]))<|sV (.ptr 32 6)<|sV (.ptr 32 8)<|sS 32 (.var (al.rc a0.ac.bj++rI a0.ac.bG.bQ:: .ref 464 0:: .ref 544 0::rI a0.ac.dv::rI a0.ac.bA::rI a0.ac.ch::rI a0.ac.dJ::rI a0.ac.cn::bS.rc a0.bK++[rI a0.bA])) ?_
 refine sN<|sO<|Fu Z Z<|sV (rI 1)<|sM Z<|sN<|WL.round<|Fv (R0:=[(2,.ptr 32 0),(3,.ptr 48 0),(4,.ptr 64 0),(17,.plit [.ptr 32 6,.ptr 32 14]),(18,rI 2),(19,rI 1)]) (B0:=[(32,.var (al.rc a0.ac.bj++rI a0.ac.bG.bQ::rL j::rL k::rI a0.ac.dv::rI a0.ac.bA::rI a0.ac.ch::rI a0.ac.dJ::rI a0.ac.cn::bS.rc a0.bK++[rI a0.bA])),(48,.var [rM aj.pd a1.a8]),(64,.var zZ0)]) Z Z<|sT<|sN<|qS<|cT<|qK<|qS<|qB<|gU Z ?_
 refine sV (.pcp (.ptr 32 14))<|sV (.ptr 32 14)<|sA Z<|sN<|Fw Z Z<|mM Z<|sM Z<|sV (.ptr 32 14)<|sV (.ptr 32 15)<|sL Z<|bE h fun u h3 h=>cR (.ref 464 0) [(464,.arr 0 3 (u.map (PD.int .i64)))] (oR h3)<|sM Z<|sV (.ptr 32 14) ?_
 refine sV (.ptr 32 16)<|sL Z<|bE h fun C h4 h=>cR (.ref 544 0) [(544,.arr 0 3 (C.map (PD.int .i64)))] (oR h4)<|sV (.ptr 32 14)<|sV (.ptr 32 15)<|sS 32 (.var (al.rc a0.ac.bj++[rI a0.ac.bG.bQ,rL j,rL k,rI a0.ac.dv,rI a0.ac.bA,rI a0.ac.ch,rI a0.ac.dJ,rI a0.ac.cn,rI a0.bK.bB.bQ,.ref 464 0,rL a0.bK.bB.bd,rI a0.bK.cg,rI a0.bK.b9,rI a0.bA]))<|sV (.ptr 32 14)<|sV (.ptr 32 16)<|sS 32 (.var (al.rc a0.ac.bj++[rI a0.ac.bG.bQ,rL j,rL k,rI a0.ac.dv,rI a0.ac.bA,rI a0.ac.ch,rI a0.ac.dJ,rI a0.ac.cn,rI a0.bK.bB.bQ,.ref 464 0,.ref 544 0,rI a0.bK.cg,rI a0.bK.b9,rI a0.bA])) ?_
 refine sN<|sO<|Fu Z Z<|sV (rI 2)<|sM Z<|sN<|WL.round<|Fv (R0:=[(2,.ptr 32 0),(3,.ptr 48 0),(4,.ptr 64 0),(17,.plit [.ptr 32 6,.ptr 32 14]),(18,rI 2),(19,rI 2)]) (B0:=[(32,.var (al.rc a0.ac.bj++[rI a0.ac.bG.bQ,rL j,rL k,rI a0.ac.dv,rI a0.ac.bA,rI a0.ac.ch,rI a0.ac.dJ,rI a0.ac.cn,rI a0.bK.bB.bQ,rL u,rL C,rI a0.bK.cg,rI a0.bK.b9,rI a0.bA])),(48,.var [rM aj.pd a1.a8]),(64,.var zZ0)]) Z Z<|sU<|sN<|qS<|cF<|qX<|qE<|gU Z<|sB (.ptr 112 0) 112 (.var [.rm]) ?_
 refine sN<|qS<|gU Z<|sV (.ptr 48 0)<|sL Z<|sE (rI (a1.a8.length:Int)) (sx _ _)<|sV (r0)<|sN<|bE h fun E J h=>Fq (Fs (WL.rU J (fun s=>gI 0 39 8 [(2,.ptr 32 0),(4,.ptr 64 0),(7,.ptr 112 0),(41,rM aj.pd a1.a8),(42,rI (a1.a8.length:Int)),(43,rI s.1)] [(32,.var (al.rc a0.ac.bj++[rI a0.ac.bG.bQ,rL j,rL k,rI a0.ac.dv,rI a0.ac.bA,rI a0.ac.ch,rI a0.ac.dJ,rI a0.ac.cn,rI a0.bK.bB.bQ,rL u,rL C,rI a0.bK.cg,rI a0.bK.b9,rI a0.bA])),(64,.var zZ0),(112,.var [.ref 1648 0]),(1648,.arr 0 93 (s.2.map aj.pd))]) (fun o=>gX 2 0 39 23 [(2,.ptr 32 0),(4,.ptr 64 0),(7,.ptr 112 0)] [(32,.var (al.rc a0.ac.bj++[rI a0.ac.bG.bQ,rL j,rL k,rI a0.ac.dv,rI a0.ac.bA,rI a0.ac.ch,rI a0.ac.dJ,rI a0.ac.cn,rI a0.bK.bB.bQ,rL u,rL C,rI a0.bK.cg,rI a0.bK.b9,rI a0.bA])),(64,.var zZ0),(112,.var [rM aj.pd o])]) Z ?_ ?_))
 ·rintro⟨s5,s6⟩ G F q8 q h
  refine gS Z q<|sF h ?_ ?_<;>intro h
  ·refine sN<|qS<|cT<|qK<|qS<|qB<|gU Z<|bE h fun g T h=>eG T Z<|sV (.d (aj.pd g))<|sB (.ptr 144 0) 144 (.var [rS [],rS [],rS [],rS [],.rm])<|sS 144 (.var (aj.rc g))<|sN<|gU Z<|sV (.ptr 144 4) ?_
   refine sL Z<|bE h fun D U h=>cR (.ref 784 0) [(784,.arr 0 90 (D.map az.pd))] (clone_71 U)<|sV (.ptr 144 4)<|sS 144 (.var (bn.rc g.a7++[.ref 784 0]))<|sN<|qS<|gU Z<|sV (.ptr 144 4)<|sL Z<|WO.lenR Z Z Z Z Z Z Z Z Z<|sV (r0)<|sN<|bE h fun L I h=>Fq (Fs (WL.rU I (fun s=>gI 0 39 12 [(2,.ptr 32 0),(4,.ptr 64 0),(7,.ptr 112 0),(9,.ptr 144 0),(41,rM aj.pd a1.a8),(42,rI (a1.a8.length:Int)),(43,rI s.1),(53,rI (D.length:Int)),(54,rI s.2.1)] [(32,.var (al.rc a0.ac.bj++[rI a0.ac.bG.bQ,rL j,rL k,rI a0.ac.dv,rI a0.ac.bA,rI a0.ac.ch,rI a0.ac.dJ,rI a0.ac.cn,rI a0.bK.bB.bQ,rL u,rL C,rI a0.bK.cg,rI a0.bK.b9,rI a0.bA])),(64,.var zZ0),(112,.var [.ref 1648 0]),(144,.var (bn.rc g.a7++[.ref 784 0])),(784,.arr 0 90 (s.2.2.2.map az.pd)),(1648,.arr 0 93 (s.2.2.1.map aj.pd))]) (fun o=>gX 4 0 39 21 [(2,.ptr 32 0),(4,.ptr 64 0),(7,.ptr 112 0),(9,.ptr 144 0),(41,rM aj.pd a1.a8),(42,rI (a1.a8.length:Int)),(43,rI o.1)] [(32,.var (al.rc a0.ac.bj++[rI a0.ac.bG.bQ,rL j,rL k,rI a0.ac.dv,rI a0.ac.bA,rI a0.ac.ch,rI a0.ac.dJ,rI a0.ac.cn,rI a0.bK.bB.bQ,rL u,rL C,rI a0.bK.cg,rI a0.bK.b9,rI a0.bA])),(64,.var zZ0),(112,.var [.ref 1648 0]),(144,.var (bn.rc g.a7++[.ref 784 0])),(784,.arr 0 90 (o.2.2.map az.pd)),(1648,.arr 0 93 (o.2.1.map aj.pd))]) Z ?_ ?_))
   ·rintro⟨c5,f,c6,N⟩ G F d0 q h
    refine gS Z q<|sF h ?_ ?_<;>intro h
    ·refine sN<|qS<|cT<|qK<|qS<|qB<|gU Z<|sM Z<|sA Z<|sN<|bE h fun d3 W h=>Ft (Aw W Z Z Z Z) Z<|sV (.ptr 144 4)<|sL Z<|sM Z ?_
     refine sV (.ptr 144 4)<|sL Z<|sM Z<|bE h fun d4 X h=>WO.eltH X Z Z Z Z Z Z Z Z<|sV (.elt 784 0 (f).toNat 7)<|sV (.elt 784 0 (f).toNat 7)<|bE h fun d5 Y h=>WO.loadH Y Z Z Z Z Z Z<|bE h fun Q a5 h=>cR (.ref 1072 0) [(1072,.arr 0 149 (Q.map bh.pd))] (clone_72 a5)<|bE h fun d6 a6 h=>WO.eltH a6 Z Z Z Z Z Z Z Z<|sV (.elt 784 0 (f).toNat 7)<|sV (.elt 784 0 (f).toNat 7) ?_
     refine bE h fun d7 a9 h=>WO.storeH a9 Z Z Z Z Z Z Z Z ?_
     refine sN<|sO<|gU Z<|sV (.ptr 144 4)<|sL Z<|sM Z<|bE h fun d8 b0 h=>WO.eltH b0 Z Z Z Z Z Z Z Z<|sV (.elt 784 0 (f).toNat 7)<|sV (.elt 784 0 (f).toNat 7)<|bE h fun e0 b1 h=>WO.loadH b1 Z Z Z Z Z Z<|WO.lenR Z Z Z Z Z Z Z Z Z<|sV (r0)<|sN<|bE h fun c4 H h=>?_
     refine Fq (Fs (WL.rU H (fun s=>gI 0 39 16 [(2,.ptr 32 0),(4,.ptr 64 0),(7,.ptr 112 0),(9,.ptr 144 0),(10,rI f),(41,rM aj.pd a1.a8),(42,rI (a1.a8.length:Int)),(43,rI c5),(53,rI (D.length:Int)),(54,rI f),(77,.ref 1072 0),(78,rI (Q.length:Int)),(79,rI s.1)] [(32,.var (al.rc a0.ac.bj++[rI a0.ac.bG.bQ,rL j,rL k,rI a0.ac.dv,rI a0.ac.bA,rI a0.ac.ch,rI a0.ac.dJ,rI a0.ac.cn,rI a0.bK.bB.bQ,rL u,rL C,rI a0.bK.cg,rI a0.bK.b9,rI a0.bA])),(64,.var zZ0),(112,.var [.ref 1648 0]),(144,.var (bn.rc g.a7++[.ref 784 0])),(784,.hole 0 90 (N.map az.pd) (Int.toNat f) 7 (.ref 1072 0)),(1072,.arr 0 149 (s.2.map bh.pd)),(1648,.arr 0 93 (c6.map aj.pd))]) (fun o=>gX 6 0 39 20 [(2,.ptr 32 0),(4,.ptr 64 0),(7,.ptr 112 0),(9,.ptr 144 0),(41,rM aj.pd a1.a8),(42,rI (a1.a8.length:Int)),(43,rI o.1),(53,rI (D.length:Int)),(54,rI o.2.1)] [(32,.var (al.rc a0.ac.bj++[rI a0.ac.bG.bQ,rL j,rL k,rI a0.ac.dv,rI a0.ac.bA,rI a0.ac.ch,rI a0.ac.dJ,rI a0.ac.cn,rI a0.bK.bB.bQ,rL u,rL C,rI a0.bK.cg,rI a0.bK.b9,rI a0.bA])),(64,.var zZ0),(112,.var [.ref 1648 0]),(144,.var (bn.rc g.a7++[.ref 784 0])),(784,.hole 0 90 (N.map az.pd) (Int.toNat f) 7 (.ref 1072 0)),(1072,.arr 0 149 (o.2.2.2.map bh.pd)),(1648,.arr 0 93 (o.2.2.1.map aj.pd))]) Z ?_ ?_))
     ·rintro⟨O,d2⟩ G F d1 q h
      refine gS Z q<|sF h ?_ ?_<;>intro h
      ·refine sN<|qS<|cT<|qK<|qS<|qB<|gU Z<|sM Z<|bE h fun e1 b2 h=>WO.tF b2 Z Z Z Z Z Z Z Z<|bE h fun c7 b3 h=>WO.tg b3 Z Z Z Z Z Z<|sB (.ptr 192 0) 192 (.var [r0,r0,r0,r0,r0,r0,r0,.rm,r0,r0])<|sA Z<|sH 192 (.var (bh.rc c7)) ?_
       refine sN<|bE h fun e2 b4 h=>Fw (Aw b4 Z Z Z Z) Z<|sV (.ptr 144 4)<|sL Z<|sM Z<|bE h fun e3 b5 h=>WO.eltH b5 Z Z Z Z Z Z Z Z<|sV (.elt 784 0 (f).toNat 7)<|sV (.elt 784 0 (f).toNat 7)<|bE h fun e4 b6 h=>WO.loadH b6 Z Z Z Z Z Z<|sM Z<|sV (.ptr 192 7)<|sL Z ?_
       refine bE h fun c8 c0 h=>cR (.ref 1504 0) [(1504,.arr 0 3 (c8.map (PD.int .i64)))] (oR c0)<|bE h fun e5 c1 h=>WO.eltH c1 Z Z Z Z Z Z Z Z<|sV (.elt 1072 0 (O).toNat 7)<|bE h fun e6 c2 h=>WO.storeH c2 Z Z Z Z Z Z Z Z ?_
       refine sN<|sO<|Fu Z Z<|sV (rI (rW (O+(1:Int))))<|sM Z<|sN ?_
       cases oI h
       exact⟨rfl,(Av rfl rfl (by decide) (by intro _;kernel_rfl) rfl)⟩
      refine sN<|qS<|cF<|qX ?_
      cases oI h
      exact⟨nofun,rfl,rfl⟩
     intro e G F he K
     obtain⟨rfl,q⟩:=K
     refine qE<|Fu q Z<|sV (rI (rW (c4.2.1+(1:Int))))<|sM Z<|sN ?_
     cases oI h
     exact⟨rfl,(Av rfl rfl (by decide) (by intro _;kernel_rfl) rfl)⟩
    refine sN<|qS<|cF<|qX ?_
    cases oI h
    exact⟨nofun,rfl,rfl⟩
   intro e G F he K
   obtain⟨rfl,q⟩:=K
   refine qE<|Fu q Z<|sV (.ptr 112 0)<|sL Z<|sV (.agg (bn.rc g.a7++[.ref 784 0]))<|sB (.d (.lst [aj.pd (aj.mk g.a7 L.2.2)])) 784 .dead<|bE h fun e7 c3 h=>aR c3 (fun _=>Z) Z<|sV (.ptr 112 0)<|sS 112 (.var [.ref 1648 1])<|sN<|Fu Z Z<|sV (rI (rW (L.1+(1:Int))))<|sM Z<|sN ?_
   cases oI h
   exact⟨rfl,rfl⟩
  refine sN<|qS<|cF<|qX ?_
  cases oI h
  exact⟨nofun,rfl,rfl⟩
 intro e G F he K
 obtain⟨rfl,q⟩:=K
 refine qE<|gS Z q<|sV (.d (ah.pd (ah.mk (bi.mk a0.ac.bj (bg.mk a0.ac.bG.bQ j k) a0.ac.dv a0.ac.bA a0.ac.ch a0.ac.dJ a0.ac.cn) (bS.mk (bg.mk a0.bK.bB.bQ u C) a0.bK.cg a0.bK.b9) a0.bA)))<|sV (.d (ae.pd (ae.mk E)))<|sG (.agg (al.rc a0.ac.bj++[rI a0.ac.bG.bQ,rL j,rL k,rI a0.ac.dv,rI a0.ac.bA,rI a0.ac.ch,rI a0.ac.dJ,rI a0.ac.cn,rI a0.bK.bB.bQ,rL u,rL C,rI a0.bK.cg,rI a0.bK.b9,rI a0.bA,rM aj.pd E,.rm]))<|sH 64 (.var (al.rc a0.ac.bj++[rI a0.ac.bG.bQ,rL j,rL k,rI a0.ac.dv,rI a0.ac.bA,rI a0.ac.ch,rI a0.ac.dJ,rI a0.ac.cn,rI a0.bK.bB.bQ,rL u,rL C,rI a0.bK.cg,rI a0.bK.b9,rI a0.bA,rM aj.pd E,.rm]))<|sN<|qR ?_
 cases oI h
 exact qG
section
attribute [local irreducible] HM HU HF HB WO WC QS QB tZ
instance {f:(List bh)}:LI (fS f) 3 (fun s=>[(14,rI s.1)]) (fun s=>[(112,.arr 0 149 (s.2.map bh.pd))]) (jX 7 (fun o=>[]) fun o=>[(112,.arr 0 149 (o.map bh.pd))]):=⟨⟩
instance {a0:az}:CE prog bo ext (iE a0) 238 [.d (az.pd a0)] [] fun r=>(.d (az.pd r),[]):=⟨fun h=>Ev.au h Tryz.func238⟩
instance {f:(List az)}:LI (ig f) 3 (fun s=>[(12,rI s.1)]) (fun s=>[(112,.arr 0 90 (s.2.map az.pd))]) (jX 7 (fun o=>[]) fun o=>[(112,.arr 0 90 (o.map az.pd))]):=⟨⟩
instance {a0:aj}:CE prog bo ext (lc a0) 185 [.d (aj.pd a0)] [] fun r=>(.agg (bn.rc r.a7++[.ref 0 0]),[.arr 0 90 (r.ct.map az.pd)]):=⟨fun h=>Ev.au h Tryz.func185⟩
instance {a0:ae}{a1:bn}:LI (ko a0 a1) 2 (fun s=>[(11,rI s)]) (fun s=>[]) (jY 7 (fun y=>[]) (fun y=>[]) Tryz.f130 fun r=>(.tup [.d (aj.pd r.1),rB r.2],[])):=⟨⟩
instance {a0:ae}{a1:bn}:CE prog bo ext (mC a0 a1) 130 [.d (ae.pd a0),.d (bn.pd a1)] [] fun r=>(.tup [.d (aj.pd r.1),rB r.2],[]):=⟨fun h=>Ev.au h Tryz.func130⟩
instance {a0:aj}{a1:Int}:LI (lO a0 a1) 2 (fun s=>[(11,rI s)]) (fun s=>[]) (jY 7 (fun y=>[]) (fun y=>[]) Tryz.f131 fun r=>(.tup [.d (az.pd r.1),rB r.2],[])):=⟨⟩
instance {a0:aj}{a1:Int}:CE prog bo ext (nR a0 a1) 131 [.d (aj.pd a0),rI a1] [] fun r=>(.tup [.d (az.pd r.1),rB r.2],[]):=⟨fun h=>Ev.au h Tryz.func131⟩
instance {a0:ae}{a1:bn}{a2:Int}:CE prog bo ext (la a0 a1 a2) 92 [.d (ae.pd a0),.d (bn.pd a1),rI a2] [] fun r=>(.tup [.d (az.pd r.1),rI r.2],[]):=⟨fun h=>Ev.au h Tryz.func92⟩
instance {a0:ah}{a1:ae}{a2:aa}:CE prog bo ext (eH a0 a1 a2) 135 [.d (ah.pd a0),.d (ae.pd a1),.d (aa.pd a2)] [] fun r=>(.tup [.d (aw.pd r.1),.d (az.pd r.2.1),rB r.2.2],[]):=⟨fun h=>Ev.au h Tryz.func135⟩
instance {a0:ah}{a1:ae}{a2:aa}:CE prog bo ext (lV a0 a1 a2) 95 [.d (ah.pd a0),.d (ae.pd a1),.d (aa.pd a2)] [] fun r=>(.tup [.d (aw.pd r.1),rB r.2],[]):=⟨fun h=>Ev.au h Tryz.func95⟩
instance {f:(List aa)}{a0:ah}{a1:ae}:LI (k9 f a0 a1) 8 (fun s=>[(26,rI s.1)]) (fun s=>[(656,.arr 0 70 (s.2.1.map aa.pd)),(720,.arr 0 180 (s.2.2.map aw.pd))]) (jX 14 (fun o=>[]) fun o=>[(656,.arr 0 70 (o.1.map aa.pd)),(720,.arr 0 180 (o.2.map aw.pd))]):=⟨⟩
instance {a0:ah}{a1:ae}{a2:(List aa)}:CE prog bo ext (nP a0 a1 a2) 51 [.d (ah.pd a0),.d (ae.pd a1),rM aa.pd a2] [] fun r=>(.tup [rM aa.pd r.1,rM aw.pd r.2.1,rI r.2.2],[]):=⟨fun h=>Ev.au h Tryz.func51⟩
instance {a0:ag}{a1:ag}:CE prog bo ext (fi a0 a1) 191 [.d (ag.pd a0),.d (ag.pd a1)] [] fun r=>(rI r,[]):=⟨fun h=>Ev.au h Tryz.func191⟩
instance {a0:aw}{a1:aw}:CE prog bo ext (kg a0 a1) 142 [.d (aw.pd a0),.d (aw.pd a1)] [] fun r=>(rI r,[]):=⟨fun h=>Ev.au h Tryz.func142⟩
instance {a0:Int}{a1:Int}{d0:(List aw)}:CE prog bo ext (hJ a0 a1 d0) 141 [rI a0,rI a1,.ptr 0 0] [.var [rM aw.pd d0]] fun r=>(rI r,[.var [rM aw.pd d0]]):=⟨fun h=>Ev.au h Tryz.func141⟩
end
theorem fo{a0:Int}{a1:Int}{d0:(List Int)}{d1:(List aw)}{r:(List Int)}(h:df a0 a1 d0 d1=some r):EvP prog bo ext 240 [.ref 0 0,rI a0,rI a1,.clo 141 [.ptr 1 0]] [.arr 0 3 (d0.map (PD.int .i64)),.var [rM aw.pd d1]] (.tup [],[.arr 0 3 (r.map (PD.int .i64)),.var [rM aw.pd d1]]):=by
 refine Ev.body Z Tryz.func240 Z Zk<|gU Z<|sM Z<|sV (rI (rW (a0+(1:Int))))<|sA Z<|sN<|bE h fun a5 q h=>?_
 cases oI h
 refine Fq (Fs (WL.uQ q (fun s=>gI 2 240 1 [(0,.ref 0 0),(1,rI a0),(2,rI a1),(3,.clo 141 [.ptr 1 0]),(8,rI s.1)] [(0,.arr 0 3 (s.2.map (PD.int .i64))),(1,.var [rM aw.pd d1])]) Z ?_))
 rintro⟨s1,s2⟩ R' B' q3 j h
 refine qS<|gS Z j<|mM Z<|sF h ?_ ?_<;>intro h
 ·refine sN<|cT<|qK<|qS<|qB<|gU Z<|sM Z<|sA Z<|sN<|bE h fun W k h=>Fq (Fs (WL.rU k (fun s=>gI 2 240 4 [(0,.ref 0 0),(1,rI a0),(2,rI a1),(3,.clo 141 [.ptr 1 0]),(8,rI s1),(9,rI s.1)] [(0,.arr 0 3 (s.2.map (PD.int .i64))),(1,.var [rM aw.pd d1])]) (fun o=>gX 2 2 240 2 [(0,.ref 0 0),(1,rI a0),(2,rI a1),(3,.clo 141 [.ptr 1 0]),(8,rI o.1)] [(0,.arr 0 3 (o.2.map (PD.int .i64))),(1,.var [rM aw.pd d1])]) Z ?_ ?_))
  ·rintro⟨C,s6⟩ R' B' q9 j h
   refine qS<|Ft j Z<|mM Z<|sF h ?_ ?_<;>intro h
   ·refine mM Z<|mM Z<|bE h fun a6 D h=>WO.tF D Z Z Z Z Z Z Z Z<|bE h fun a9 E h=>WO.tg E Z Z Z Z Z Z<|mM Z<|sV (rI (rW (C-(1:Int))))<|bE h fun b0 F h=>WO.tF F Z Z Z Z Z Z Z Z<|bE h fun b1 G h=>WO.tg G Z Z Z Z Z Z ?_
    refine bE h fun u H h=>cR (rI u) [(1,.var [rM aw.pd d1])] (ce H)<|sV (rB (decide (u<(0:Int))))<|sF h ?_ ?_<;>intro h
    ·refine sN<|sO<|cT<|qK<|qS<|qB<|Fw Z Z<|mM Z<|mM Z<|sV (rI (rW (C-(1:Int))))<|mM Z<|sV (rI (rW (C-(1:Int))))<|bE h fun b2 I h=>?_
     refine WO.tF I Z Z Z Z Z Z Z Z<|bE h fun X J h=>WO.tg J Z Z Z Z Z Z<|mM Z<|bE h fun b3 K h=>WO.tF K Z Z Z Z Z Z Z Z<|bE h fun Y L h=>WO.tg L Z Z Z Z Z Z<|bE h fun b4 N h=>WO.tF N Z Z Z Z Z Z Z Z<|bE h fun b5 O h=>WO.vj (g:=(PD.int .i64)) (sz:=1) (p:= .int .i64 X) O (fun _=>Z) (fun _=>Z) Z Z Z Z Z Z Z Z Z<|bE h fun b6 Q h=>WO.tF Q Z Z Z Z Z Z Z Z ?_
     refine bE h fun c0 T h=>WO.vj (g:=(PD.int .i64)) (sz:=1) (p:= .int .i64 Y) T (fun _=>Z) (fun _=>Z) Z Z Z Z Z Z Z Z Z ?_
     refine sN<|sO<|Fu Z Z<|sM Z<|sV (rI (rW (C-(1:Int))))<|sA Z<|sN ?_
     cases oI h
     exact⟨rfl,rfl⟩
    refine sN<|sO<|cF<|qX ?_
    cases oI h
    exact⟨nofun,rfl,rfl⟩
   refine sM Z<|k3<|k3<|k3<|k3<|sU ?_
   refine sN<|sO<|cF<|qX ?_
   cases oI h
   exact⟨nofun,rfl,rfl⟩
  intro e R' B' he hq
  obtain⟨rfl,j⟩:=hq
  refine qE<|Fu j Z<|sM Z<|sV (rI (rW (W.1+(1:Int))))<|sA Z<|sN ?_
  cases oI h
  exact⟨rfl,rfl⟩
 refine sN<|cF<|qX<|oh h (fun z33 f hz=>?_)
 obtain rfl:=Ew hz
 refine⟨(fun he=>by cases he),fun U=>?_⟩
 subst U
 have h:=f
 refine qE ?_
 exact oI h▸qD
theorem mP{a0:Int}{d0:(List Int)}{d1:(List aw)}{r:(List Int)}(h:eh a0 d0 d1=some r):EvP prog bo ext 190 [.ref 0 0,rI a0,.clo 141 [.ptr 1 0]] [.arr 0 3 (d0.map (PD.int .i64)),.var [rM aw.pd d1]] (.tup [],[.arr 0 3 (r.map (PD.int .i64)),.var [rM aw.pd d1]]):=by
 refine Ev.body Z Tryz.func190 Z Zk<|gU Z<|sV (rI 20)<|sN<|gU Z<|sM Z<|sV (r0)<|sA Z<|sN<|qS<|bE h fun L q h=>Fq (Fs (WL.rU q (fun s=>gI 2 190 2 [(0,.ref 0 0),(1,rI a0),(2,.clo 141 [.ptr 1 0]),(6,rI 20),(7,rI s.1),(8,rI s.2.1)] [(0,.arr 0 3 (s.2.2.map (PD.int .i64))),(1,.var [rM aw.pd d1])]) (fun o=>gX 0 2 190 6 [(0,.ref 0 0),(1,rI a0),(2,.clo 141 [.ptr 1 0]),(6,rI 20),(7,rI o.1)] [(0,.arr 0 3 (o.2.map (PD.int .i64))),(1,.var [rM aw.pd d1])]) Z ?_ ?_))
 ·rintro⟨s1,s2,W⟩ F E U f h
  refine qS<|gS Z f<|mM Z<|sF h ?_ ?_<;>intro h
  ·refine sN<|cT<|qK<|qB<|gU Z<|mM Z<|mM Z<|bE h fun T J h=>cR (.tup []) [(0,.arr 0 3 (T.map (PD.int .i64))),(1,.var [rM aw.pd d1])] (fo J)<|sN<|gU Z<|sM Z<|sA Z ?_
   refine sN<|Fu Z Z<|mM Z<|sV (rI (rW (s2+(20:Int))))<|sA Z<|sN ?_
   cases oI h
   exact⟨rfl,rfl⟩
  refine sN<|cF<|qX ?_
  cases oI h
  exact⟨nofun,rfl,rfl⟩
 intro e F E he H
 obtain⟨rfl,f⟩:=H
 refine qE<|gS Z f<|mM Z<|mM Z<|bE h fun j G h=>cR (.tup []) [(0,.arr 0 3 (j.map (PD.int .i64))),(1,.var [rM aw.pd d1])] (fo G)<|sN<|bE h fun N C h=>?_
 cases oI h
 refine Fq (Fs (WL.uQ C (fun s=>gI 2 190 7 [(0,.ref 0 0),(1,rI a0),(2,.clo 141 [.ptr 1 0]),(6,rI s)] [(0,.arr 0 3 (j.map (PD.int .i64))),(1,.var [rM aw.pd d1])]) Z ?_))
 rintro g F E O f h
 refine qS<|gS Z f<|mM Z<|sF h ?_ ?_<;>intro h
 ·refine sN<|cT<|qK<|qB<|gU Z<|sM Z<|sV (rI (rW ((2:Int)*g)))<|sV (r0)<|sA Z<|sN<|qS<|bE h fun D u h=>Fq (Fs (WL.rU u (fun s=>gI 2 190 9 [(0,.ref 0 0),(1,rI a0),(2,.clo 141 [.ptr 1 0]),(6,rI g),(7,r0),(8,rI (rW ((2:Int)*g)))] [(0,.arr 0 3 (j.map (PD.int .i64))),(1,.var [rM aw.pd d1])]) (fun o=>gX 4 2 190 13 [(0,.ref 0 0),(1,rI a0),(2,.clo 141 [.ptr 1 0]),(6,rI o),(7,r0)] [(0,.arr 0 3 (j.map (PD.int .i64))),(1,.var [rM aw.pd d1])]) Z ?_ ?_))
  ·rintro⟨⟩ F E Q f h
   refine qS<|gS Z f<|mM Z<|sF h ?_ ?_<;>intro h
   ·refine sN<|cT<|qK<|qB<|gU Z<|mM Z<|mM Z<|sV (rI (rW ((0:Int)+g)))<|sM Z<|sM Z ?_
    cases h
   refine sN<|cF<|qX ?_
   cases oI h
   exact⟨nofun,rfl,rfl⟩
  intro e F E he H
  obtain⟨rfl,f⟩:=H
  refine qE<|qS<|gS Z f<|mM Z<|sV (rI (rW ((0:Int)+D)))<|sA Z<|sN<|gU Z<|mM Z<|sF h ?_ ?_<;>intro h
  ·refine sN<|cT<|Fu Z Z<|mM Z<|mM Z<|sM Z ?_
   cases h
  refine sN<|cF<|qK<|Fu Z Z<|sM Z<|sV (rI (rW (D*(2:Int))))<|sA Z<|sN ?_
  cases oI h
  exact⟨rfl,rfl⟩
 refine sN<|cF<|qX<|oh h (fun z21 k K=>?_)
 obtain rfl:=Ew K
 refine⟨(fun he=>by cases he),fun I=>?_⟩
 subst I
 have h:=k
 refine qE ?_
 exact oI h▸qD
instance {a0:Int}{d0:(List Int)}{d1:(List aw)}:CE prog bo ext (eh a0 d0 d1) 190 [.ref 0 0,rI a0,.clo 141 [.ptr 1 0]] [.arr 0 3 (d0.map (PD.int .i64)),.var [rM aw.pd d1]] fun r=>(.tup [],[.arr 0 3 (r.map (PD.int .i64)),.var [rM aw.pd d1]]):=⟨fun h=>mP h⟩
section
attribute [local irreducible] HM HU HF HB WO WC QS QB tZ
instance {d0:(List Int)}{d1:(List aw)}:CE prog bo ext (dU d0 d1) 140 [.ref 0 0,.clo 141 [.ptr 1 0]] [.arr 0 3 (d0.map (PD.int .i64)),.var [rM aw.pd d1]] fun r=>(.tup [],[.arr 0 3 (r.map (PD.int .i64)),.var [rM aw.pd d1]]):=⟨fun h=>Ev.au h Tryz.func140⟩
instance {f:(List Int)}:LI (lr f) 3 (fun s=>[(10,rI s.1)]) (fun s=>[(112,.arr 0 3 (s.2.map (PD.int .i64)))]) (jX 7 (fun o=>[]) fun o=>[(112,.arr 0 3 (o.map (PD.int .i64)))]):=⟨⟩
instance {a0:(List aw)}:CE prog bo ext (lK a0) 97 [rM aw.pd a0] [] fun r=>(rL r,[]):=⟨fun h=>Ev.au h Tryz.func97⟩
instance {a0:Int}:LI (jm a0) 3 (fun s=>[(14,rI s.1)]) (fun s=>[(112,.arr 0 3 (s.2.1.map (PD.int .i64))),(160,.arr 0 3 (s.2.2.map (PD.int .i64)))]) (jX 7 (fun o=>[]) fun o=>[(112,.arr 0 3 (o.1.map (PD.int .i64))),(160,.arr 0 3 (o.2.map (PD.int .i64)))]):=⟨⟩
instance {a0:Int}:CE prog bo ext (jl a0) 98 [rI a0] [] fun r=>(.agg [.ref 0 0,.ref 1 0],[.arr 0 3 (r.fnext.map (PD.int .i64)),.arr 0 3 (r.fback.map (PD.int .i64))]):=⟨fun h=>Ev.au h Tryz.func98⟩
instance {a0:cz}:CE prog bo ext (mY a0) 99 [.d (cz.pd a0)] [] fun r=>(rI r,[]):=⟨fun h=>Ev.au h Tryz.func99⟩
end
theorem chain_window_ev{a1:bi}{a2:(List aw)}{a3:(List Int)}{d0:(List Int)}{d1:(List Int)}{r:(List Int)×(List Int)×(List Int)}(h:nO a1 a2 a3 d0 d1=some r):EvP prog bo ext 100 [.agg [.ref 0 0,.ref 1 0],.d (bi.pd a1),rM aw.pd a2,rL a3] [.arr 0 3 (d0.map (PD.int .i64)),.arr 0 3 (d1.map (PD.int .i64))] (rL r.1,[.arr 0 3 (r.2.1.map (PD.int .i64)),.arr 0 3 (r.2.2.map (PD.int .i64))]):=by
 refine Ev.body Z Tryz.func100 Z Zk<|gU Z<|sB (.ptr 64 0) 64 (.var [.ref 0 0,.ref 1 0])<|sB (.ptr 80 0) 80 (.var (bi.rc a1))<|sV .rm<|sN<|gU Z<|sV .rm<|sN<|Ft Z Z<|sV (.ptr 64 0)<|sL Z<|sV (.agg [.ref 0 0,.ref 1 0])<|bE h fun U h1 h=>cR (rI U) [ ] (ce h1) ?_
 refine bE h fun x3 J h=>WO.tF J Z Z Z Z Z Z Z Z<|bE h fun x4 K h=>WO.tg K Z Z Z Z Z Z<|sA Z ?_
 refine sN<|sO<|qS<|gU Z<|sM Z<|sA Z<|sN<|bE h fun O j h=>Fq (Fs (WL.rU j (fun s=>gI 2 100 4 [(2,rM aw.pd a2),(3,rL a3),(4,.ptr 64 0),(5,.ptr 80 0),(9,.ref 928 0),(10,rI x4),(11,rI s.1)] [(0,.arr 0 3 (d0.map (PD.int .i64))),(1,.arr 0 3 (d1.map (PD.int .i64))),(64,.var [.ref 0 0,.ref 1 0]),(80,.var (bi.rc a1)),(928,.arr 0 3 (s.2.map (PD.int .i64)))]) (fun o=>gX 0 2 100 7 [(9,.ref 928 0)] [(0,.arr 0 3 (d0.map (PD.int .i64))),(1,.arr 0 3 (d1.map (PD.int .i64))),(928,.arr 0 3 (o.map (PD.int .i64)))]) Z ?_ ?_))
 ·rintro⟨Q,T⟩ I H q8 G h
  unfold dC at h
  refine qS<|Ft G Z<|sM Z<|sV (.agg [.ref 0 0,.ref 1 0])<|bE h fun x9 L h=>cR (rI x9) [ ] (ce L)<|sF h ?_ ?_<;>intro h
  ·refine mM Z<|WO.lenR Z Z Z Z Z Z Z Z Z<|sV (rB (decide ((T.length:Int)<(16:Int))))<|sF h ?_ ?_<;>intro h
   ·refine mM Z<|mM Z<|bE h fun W k h=>eG k Z<|sC Z<|bE h fun f q h=>eG q Z<|sV (.cptr [.int .i64 f.bu,.int .i64 f.co,.int .i64 f.cC])<|sC Z<|mM Z<|sM Z<|bE h fun X u h=>?_
    refine eG u Z<|sC Z<|bE h fun g C h=>eG C Z<|sV (.cptr [.int .i64 g.bu,.int .i64 g.co,.int .i64 g.cC])<|sC Z<|sV (rI (rW (f.bu-g.bu)))<|sV (.ptr 80 11)<|sL Z<|sV (rB (decide ((rW (f.bu-g.bu))<=a1.ch)))<|sF h ?_ ?_<;>intro h
    ·refine sN<|sO<|cT<|qK<|qS<|qB<|Fu Z Z<|mM Z<|sV (.d (.lst ([Q].map (PD.int .i64))))<|bE h fun Y D h=>aR D (fun _=>Z) Z<|sA Z<|sN<|Fu Z Z<|sV (.ptr 64 0) ?_
     refine sL Z<|sM Z<|bE h fun a5 E h=>WO.tF E Z Z Z Z Z Z Z Z<|bE h fun a6 F h=>WO.tg F Z Z Z Z Z Z<|sA Z<|sN ?_
     cases oI h
     exact⟨rfl,rfl⟩
    refine sN<|sO<|cF<|qX ?_
    cases oI h
    exact⟨nofun,rfl,rfl⟩
   refine sM Z<|k3<|k3<|k3<|k3<|sK<|sK ?_
   refine k3<|k3<|sU ?_
   refine sN<|sO<|cF<|qX ?_
   cases oI h
   exact⟨nofun,rfl,rfl⟩
  refine sM Z<|k3<|sU<|sM Z<|k3<|k3<|sK<|sK<|sK ?_
  refine k3<|k3<|k3<|sK<|sK<|sU ?_
  refine sN<|sO<|cF<|qX ?_
  cases oI h
  exact⟨nofun,rfl,rfl⟩
 intro e I H he N
 obtain⟨rfl,G⟩:=N
 refine qE<|gS Z G<|sM Z<|sA Z<|sN<|qR ?_
 exact oI h▸qD
section
attribute [local irreducible] HM HU HF HB WO WC QS QB tZ
instance {a0:bi}{a1:(List aw)}:CE prog bo ext (fO a0 a1) 102 [.d (bi.pd a0),rM aw.pd a1] [] fun r=>(.d (ak.pd r),[]):=⟨fun h=>Ev.au h Tryz.func102⟩
instance {a0:ak}:LI (lu a0) 14 (fun s=>[(40,rI s)]) (fun s=>[]) (jY 20 (fun y=>[]) (fun y=>[]) Tryz.f192 fun r=>(rI r,[])):=⟨⟩
instance {a0:ak}:CE prog bo ext (jJ a0) 192 [.d (ak.pd a0)] [] fun r=>(rI r,[]):=⟨fun h=>Ev.au h Tryz.func192⟩
instance {a0:al}{a1:ag}:CE prog bo ext (ic a0 a1) 247 [.d (al.pd a0),.d (ag.pd a1)] [] fun r=>(rB r,[]):=⟨fun h=>Ev.au h Tryz.func247⟩
instance {a0:al}{a1:al}:CE prog bo ext (lN a0 a1) 197 [.d (al.pd a0),.d (al.pd a1)] [] fun r=>(rB r,[]):=⟨fun h=>Ev.au h Tryz.func197⟩
instance {a0:ak}{a1:al}:LI (lj a0 a1) 3 (fun s=>[(18,rI s.1)]) (fun s=>[(224,.arr 0 236 (s.2.map bz.pd))]) (jY 10 (fun y=>[]) (fun y=>[(224,.arr 0 236 (y.map bz.pd))]) Tryz.f198 fun r=>(.tup [rM bz.pd r.1,rI r.2],[])):=⟨⟩
instance {a0:ak}{a1:al}:CE prog bo ext (nS a0 a1) 198 [.d (ak.pd a0),.d (al.pd a1)] [] fun r=>(.tup [rM bz.pd r.1,rI r.2],[]):=⟨fun h=>Ev.au h Tryz.func198⟩
instance {a0:ak}{a1:al}:CE prog bo ext (ip a0 a1) 145 [.d (ak.pd a0),.d (al.pd a1)] [] fun r=>(.tup [rM bz.pd r.1,rI r.2],[]):=⟨fun h=>Ev.au h Tryz.func145⟩
instance {a0:bz}{a1:Int}:CE prog bo ext (gT a0 a1) 146 [.d (bz.pd a0),rI a1] [] fun r=>(rI r,[]):=⟨fun h=>Ev.au h Tryz.func146⟩
instance {a0:ak}{a1:(List bz)}{a2:Int}:LI (lQ a0 a1 a2) 3 (fun s=>[(7,rI s.1),(13,rI s.2)]) (fun s=>[]) (jX 8 (fun o=>[(7,rI o)]) fun o=>[]):=⟨⟩
instance {a0:ak}{a1:(List bz)}{a2:Int}:CE prog bo ext (kJ a0 a1 a2) 289 [.d (ak.pd a0),rM bz.pd a1,rI a2] [] fun r=>(rI r,[]):=⟨fun h=>Ev.au h Tryz.func289⟩
instance {a1:(List bz)}:LI (mG a1) 3 (fun s=>[(20,rI s.1)]) (fun s=>[(272,.arr 0 3 (s.2.map (PD.int .i64)))]) (jX 7 (fun o=>[]) fun o=>[(272,.arr 0 3 (o.map (PD.int .i64)))]):=⟨⟩
instance {g:Int}{f:(List Int)}{a0:ak}{a1:(List bz)}:LI (lP g f a0 a1) 11 (fun s=>[(9,rI s.1),(10,rI s.2.1),(47,rI s.2.2)]) (fun s=>[]) (jX 17 (fun o=>[(9,rI o.1),(10,rI o.2)]) fun o=>[]):=⟨⟩
instance {a0:ak}{a1:(List bz)}:CE prog bo ext (kH a0 a1) 272 [.d (ak.pd a0),rM bz.pd a1] [] fun r=>(.tup [rI r.1,rI r.2],[]):=⟨fun h=>Ev.au h Tryz.func272⟩
instance {a0:ak}{a1:al}:CE prog bo ext (f9 a0 a1) 242 [.d (ak.pd a0),.d (al.pd a1)] [] fun r=>(.tup [rI r.1,rI r.2],[]):=⟨fun h=>Ev.au h Tryz.func242⟩
instance {a0:ar}{f:ak}{e2:Int}{g:Int}{j:Bool}{k:ap}:CE prog bo ext (pB a0 f e2 g j k) 328 [.ptr 0 11,.ifc 249 (.d (ar.pd a0))] [.var (ak.rc f++ .rm::rI e2::rI g::rB j::ap.rc k)] fun r=>(.tup [],[.var (ak.rc f++ .ref 1 0::rI e2::rI g::rB j::ap.rc k),.arr 0 249 (r.map ar.pd)]):=⟨fun h=>Ev.au h Tryz.func328⟩
instance {a0:(List ar)}:CE prog bo ext (jV a0) 324 [rM ar.pd a0] [] fun r=>(rI r,[]):=⟨fun h=>Ev.au h Tryz.func324⟩
instance {a0:(List ar)}{a1:Int}{a2:Int}:CE prog bo ext (kL a0 a1 a2) 325 [rM ar.pd a0,rI a1,rI a2] [] fun r=>(rB r,[]):=⟨fun h=>Ev.au h Tryz.func325⟩
instance {a1:Int}{a2:Int}{d0:(List ar)}:CE prog bo ext (kM a1 a2 d0) 326 [.ref 0 0,rI a1,rI a2] [.arr 0 249 (d0.map ar.pd)] fun r=>(.tup [],[.arr 0 249 (r.map ar.pd)]):=⟨fun h=>Ev.au h Tryz.func326⟩
end
theorem heap_up_ev{a0:Int}{C:ak}{e2:Int}{D:Int}{E:Bool}{F:ap}{d1:(List ar)}{r:(List ar)}(h:pu a0 C e2 D E F d1=some r):EvP prog bo ext 273 [.ifc 336 (.ptr 0 11),rI a0] [.var (ak.rc C++ .ref 1 0::rI e2::rI D::rB E::ap.rc F),.arr 0 249 (d1.map ar.pd)] (.tup [],[.var (ak.rc C++ .ref 1 0::rI e2::rI D::rB E::ap.rc F),.arr 0 249 (r.map ar.pd)]):=by
 refine Ev.body Z Tryz.func273 Z Zk<|bE h fun Q q h=>?_
 cases oI h
 refine Fq (Fs (WL.uQ q (fun s=>gI 2 273 0 [(0,.ifc 336 (.ptr 0 11)),(1,rI s.1)] [(0,.var (ak.rc C++ .ref 1 0::rI e2::rI D::rB E::ap.rc F)),(1,.arr 0 249 (s.2.map ar.pd))]) Z ?_))
 rintro⟨s1,s2⟩ U T W O h
 unfold oD at h
 refine qB<|gS Z O<|sM Z<|sV (rI (rW (s1-(1:Int))))<|bE h fun J L h=>WO.quoG L Z Z Z Z Z Z<|sA Z<|sN<|qS<|gU Z<|mM Z<|sF h ?_ ?_<;>intro h
 ·refine sM Z<|k3<|sK<|sK<|sT<|sN<|cT<|qX<|⟨fun he=>(by cases he),fun _=>?_⟩
  refine oh h (fun X j H=>?_)
  obtain rfl:=Ew H
  refine⟨(fun he=>by cases he),fun f=>?_⟩
  subst f
  have h:=j
  refine qE ?_
  cases oI h
  exact qG
 refine mM Z<|mM Z<|bE h fun K N h=>WO.yq (e:=245) (c:= .ptr 0 11) (vl:= .ref 1 0) (g:=325) (args:=[rI s1,rI J]) (v:=rB K) (u:=[ ]) Z Z (by intro _;kernel_rfl) Z Z Z Z Z Z (ce N) Z Z Z Z<|sV (rB (!K))<|sF h ?_ ?_<;>intro h
 ·refine sN<|cT<|qX<|⟨fun he=>(by cases he),fun _=>?_⟩
  refine oh h (fun z9 k H=>?_)
  obtain rfl:=Ew H
  refine⟨(fun he=>by cases he),fun f=>?_⟩
  subst f
  have h:=k
  refine qE ?_
  cases oI h
  exact qG
 refine sN<|cF<|qK<|gU Z<|mM Z<|sM Z<|bE h fun I G h=>WO.yq (e:=245) (c:= .ptr 0 11) (vl:= .ref 1 0) (g:=326) (args:=[rI J,rI s1]) (v:= .tup []) (u:=[(1,.arr 0 249 (I.map ar.pd))]) Z Z (by intro _;kernel_rfl) Z Z Z Z Z Z (ce G) Z Z Z Z<|sN<|Fu Z Z<|sM Z<|sA Z<|sN ?_
 cases oI h
 exact⟨rfl,rfl⟩
theorem heap_Push_ev{a0:ar}{f:ak}{e2:Int}{j:Int}{k:Bool}{q:ap}{r:(List ar)}(h:mZ a0 f e2 j k q=some r):EvP prog bo ext 243 [.ifc 336 (.ptr 0 11),.ifc 249 (.d (ar.pd a0))] [.var (ak.rc f++ .rm::rI e2::rI j::rB k::ap.rc q)] (.tup [],[.var (ak.rc f++ .ref 1 0::rI e2::rI j::rB k::ap.rc q),.arr 0 249 (r.map ar.pd)]):=by
 refine Ev.body Z Tryz.func243 Z Zk<|gU Z<|mM Z<|bE h fun F h1 h=>WO.BS (g:=328) (args:=[.ptr 0 11,.ifc 249 (.d (ar.pd a0))]) (v:= .tup []) (u:=[(0,.var (ak.rc f++ .ref 96 0::rI e2::rI j::rB k::ap.rc q)),(96,.arr 0 249 (F.map ar.pd))]) Z Z (by intro _;kernel_rfl) Z Z Z Z Z (ce h1) Z Z Z Z<|sN<|Fu Z Z<|mM Z<|bE h fun C D h=>WO.yq (e:=245) (c:= .ptr 0 11) (vl:= .ref 96 0) (g:=324) (args:=[]) (v:=rI C) (u:=[ ]) Z Z (by intro _;kernel_rfl) Z Z Z Z Z Z (ce D) Z Z Z Z<|sV (rI (rW (C-(1:Int))))<|bE h fun G E h=>cR (.tup []) [(0,.var (ak.rc f++ .ref 96 0::rI e2::rI j::rB k::ap.rc q)),(96,.arr 0 249 (G.map ar.pd))] (heap_up_ev E) ?_
 refine sN ?_
 cases oI h
 exact qG
instance {a0:ar}{f:ak}{e2:Int}{g:Int}{j:Bool}{k:ap}:CE prog bo ext (mZ a0 f e2 g j k) 243 [.ifc 336 (.ptr 0 11),.ifc 249 (.d (ar.pd a0))] [.var (ak.rc f++ .rm::rI e2::rI g::rB j::ap.rc k)] fun r=>(.tup [],[.var (ak.rc f++ .ref 1 0::rI e2::rI g::rB j::ap.rc k),.arr 0 249 (r.map ar.pd)]):=⟨fun h=>heap_Push_ev h⟩
section
attribute [local irreducible] HM HU HF HB WO WC QS QB tZ
instance {a0:al}{f:ak}{e2:Int}{g:Int}{j:Bool}{k:ap}:CE prog bo ext (nf a0 f e2 g j k) 193 [.ptr 0 0,.d (al.pd a0)] [.var (ak.rc f++ .rm::rI e2::rI g::rB j::ap.rc k)] fun r=>(rI r.1,[.var (ak.rc f++ .ref 1 0::rI r.2.2::rI g::rB j::ap.rc k),.arr 0 249 (r.2.1.map ar.pd)]):=⟨fun h=>Ev.au h Tryz.func193⟩
instance {a0:Int}{f:ak}{e2:Int}{g:Int}{j:Bool}{k:ap}{d1:(List ar)}:CE prog bo ext (lp a0 f e2 g j k d1) 194 [.ptr 0 0,rI a0] [.var (ak.rc f++ .ref 1 0::rI e2::rI g::rB j::ap.rc k),.arr 0 249 (d1.map ar.pd)] fun r=>(rB r,[.var (ak.rc f++ .ref 1 0::rI e2::rI g::rB j::ap.rc k),.arr 0 249 (d1.map ar.pd)]):=⟨fun h=>Ev.au h Tryz.func194⟩
end
theorem heap_down_ev{a0:Int}{a1:Int}{e2:ak}{f:Int}{j:Int}{k:Bool}{q:ap}{d1:(List ar)}{r:Bool×(List ar)}(h:nY a0 a1 e2 f j k q d1=some r):EvP prog bo ext 274 [.ifc 336 (.ptr 0 11),rI a0,rI a1] [.var (ak.rc e2++ .ref 1 0::rI f::rI j::rB k::ap.rc q),.arr 0 249 (d1.map ar.pd)] (rB r.1,[.var (ak.rc e2++ .ref 1 0::rI f::rI j::rB k::ap.rc q),.arr 0 249 (r.2.map ar.pd)]):=by
 refine Ev.body Z Tryz.func274 Z Zk<|gU Z<|sU<|sN<|gU Z<|sM Z<|sA Z<|sN<|qS<|bE h fun I D h=>Fq (Fs (WL.rU D (fun s=>gI 2 274 2 [(0,.ifc 336 (.ptr 0 11)),(1,rI a0),(2,rI a1),(7,rI s.1)] [(0,.var (ak.rc e2++ .ref 1 0::rI f::rI j::rB k::ap.rc q)),(1,.arr 0 249 (s.2.map ar.pd))]) (fun o=>gX 0 2 274 11 [(1,rI a0),(7,rI o.1)] [(0,.var (ak.rc e2++ .ref 1 0::rI f::rI j::rB k::ap.rc q)),(1,.arr 0 249 (o.2.map ar.pd))]) Z ?_ ?_))
 ·rintro⟨s1,s2⟩ F E Q C h
  refine qB<|gS Z C<|sM Z<|sV (rI (rW ((2:Int)*s1)))<|sV (rI (rW ((rW ((2:Int)*s1))+(1:Int))))<|sA Z<|sN<|qS<|gU Z<|mM Z<|sF h ?_ ?_<;>intro h
  ·refine sM Z<|sK<|sK<|sT<|sN<|cT<|qX<|⟨fun he=>(by cases he),fun _=>?_⟩
   cases oI h
   exact⟨nofun,rfl,rfl⟩
  refine mM Z<|sV (rB (decide ((rW ((rW ((2:Int)*s1))+(1:Int)))<(0:Int))))<|sF h ?_ ?_<;>intro h
  ·refine sN<|cT<|qX<|⟨fun he=>(by cases he),fun _=>?_⟩
   cases oI h
   exact⟨nofun,rfl,rfl⟩
  refine sN<|cF<|qK<|gU Z<|sM Z<|sA Z<|sN<|WC.join (α:=Int) (fun x F E=>rJ prog 2 (A F E) (bo.at_ 274 2 8)=some (A [(0,.ifc 336 (.ptr 0 11)),(1,rI a0),(2,rI a1),(7,rI s1),(9,rI x)] [(0,.var (ak.rc e2++ .ref 1 0::rI f::rI j::rB k::ap.rc q)),(1,.arr 0 249 (s2.map ar.pd))])) (fun x=>gi s2 s1 x=some Q) ?_ ?_
  ·refine gU Z<|sM Z<|sV (rI (rW ((rW ((rW ((2:Int)*s1))+(1:Int)))+(1:Int))))<|sA Z<|sN<|gU Z<|mM Z<|sF h ?_ ?_<;>intro h
   ·refine mM Z<|mM Z<|bE h fun K H h=>WO.yq (e:=245) (c:= .ptr 0 11) (vl:= .ref 1 0) (g:=325) (args:=[rI (rW ((rW ((rW ((2:Int)*s1))+(1:Int)))+(1:Int))),rI (rW ((rW ((2:Int)*s1))+(1:Int)))]) (v:=rB K) (u:=[ ]) Z Z (by intro _;kernel_rfl) Z Z Z Z Z Z (ce H) Z Z Z Z<|sF h ?_ ?_<;>intro h
    ·exact sN<|cT<|Fu rfl rfl<|sM rfl<|sA rfl<|sN<|⟨(rW ((rW ((rW ((2:Int)*s1))+(1:Int)))+(1:Int))),rfl,h⟩
    exact sN<|cF<|qK<|⟨(rW ((rW ((2:Int)*s1))+(1:Int))),rfl,h⟩
   exact sM rfl<|k3<|sK<|sU<|sN<|cF<|qK<|⟨(rW ((rW ((2:Int)*s1))+(1:Int))),rfl,h⟩
  rintro L F E C h
  refine qS<|gS Z C<|mM Z<|sM Z<|bE h fun T N h=>WO.yq (e:=245) (c:= .ptr 0 11) (vl:= .ref 1 0) (g:=325) (args:=[rI L,rI s1]) (v:=rB T) (u:=[ ]) Z Z (by intro _;kernel_rfl) Z Z Z Z Z Z (ce N) Z Z Z Z<|sF h ?_ ?_<;>intro h
  ·refine sN<|cT<|qX<|⟨fun he=>(by cases he),fun _=>?_⟩
   cases oI h
   exact⟨nofun,rfl,rfl⟩
  refine sN<|cF<|qK<|gU Z<|mM Z<|sM Z<|bE h fun J G h=>WO.yq (e:=245) (c:= .ptr 0 11) (vl:= .ref 1 0) (g:=326) (args:=[rI s1,rI L]) (v:= .tup []) (u:=[(1,.arr 0 249 (J.map ar.pd))]) Z Z (by intro _;kernel_rfl) Z Z Z Z Z Z (ce G) Z Z Z Z<|sN<|Fu Z Z<|sM Z<|sA Z<|sN ?_
  cases oI h
  exact⟨rfl,rfl⟩
 intro e F E he O
 obtain⟨rfl,C⟩:=O
 refine qE<|gS Z C<|mM Z<|sV (rB (decide (I.1>a0)))<|sA Z<|sN<|qR ?_
 cases oI h
 exact qG
section
attribute [local irreducible] HM HU HF HB WO WC QS QB tZ
instance {f:ak}{g:Int}{e2:Int}{j:Bool}{k:ap}{d1:(List ar)}:CE prog bo ext (qx f g e2 j k d1) 327 [.ptr 0 11] [.var (ak.rc f++ .ref 1 0::rI g::rI e2::rB j::ap.rc k),.arr 0 249 (d1.map ar.pd)] fun r=>(.ifc 249 (.d (ar.pd r.1)),[.var (ak.rc f++ .ref 1 1::rI g::rI e2::rB j::ap.rc k),.arr 1 249 (r.2.map ar.pd)]):=⟨fun h=>Ev.au h Tryz.func327⟩
end
theorem heap_Pop_ev{f:ak}{j:Int}{e2:Int}{k:Bool}{q:ap}{d1:(List ar)}{r:ar×(List ar)}(h:n9 f j e2 k q d1=some r):EvP prog bo ext 244 [.ifc 336 (.ptr 0 11)] [.var (ak.rc f++ .ref 1 0::rI j::rI e2::rB k::ap.rc q),.arr 0 249 (d1.map ar.pd)] (.ifc 249 (.d (ar.pd r.1)),[.var (ak.rc f++ .ref 1 1::rI j::rI e2::rB k::ap.rc q),.arr 1 249 (r.2.map ar.pd)]):=by
 refine Ev.body Z Tryz.func244 Z Zk<|gU Z<|sV (.d (.raw .nilIface))<|sN<|gU Z<|sM Z<|bE h fun C h1 h=>WO.yq (e:=245) (c:= .ptr 0 11) (vl:= .ref 1 0) (g:=324) (args:=[]) (v:=rI C) (u:=[ ]) Z Z (by intro _;kernel_rfl) Z Z Z Z Z Z (ce h1) Z Z Z Z<|sV (rI (rW (C-(1:Int))))<|sA Z<|sN<|gU Z<|mM Z<|bE h fun I F h=>?_
 refine WO.yq (e:=245) (c:= .ptr 0 11) (vl:= .ref 1 0) (g:=326) (args:=[r0,rI (rW (C-(1:Int)))]) (v:= .tup []) (u:=[(1,.arr 0 249 (I.map ar.pd))]) Z Z (by intro _;kernel_rfl) Z Z Z Z Z Z (ce F) Z Z Z Z<|sN<|gU Z<|mM Z<|bE h fun D G h=>cR (rB D.1) [(0,.var (ak.rc f++ .ref 1 0::rI j::rI e2::rB k::ap.rc q)),(1,.arr 0 249 (D.2.map ar.pd))] (heap_down_ev G)<|sN<|gU Z<|sM Z<|bE h fun E H h=>WO.BS (g:=327) (args:=[.ptr 0 11]) (v:= .ifc 249 (.d (ar.pd E.1))) (u:=[(0,.var (ak.rc f++ .ref 1 1::rI j::rI e2::rB k::ap.rc q)),(1,.arr 1 249 (E.2.map ar.pd))]) Z Z (by intro _;kernel_rfl) Z Z Z Z Z (ce H) Z Z Z Z<|sA Z<|sN<|qR ?_
 cases oI h
 exact qG
instance {f:ak}{g:Int}{e2:Int}{j:Bool}{k:ap}{d1:(List ar)}:CE prog bo ext (n9 f g e2 j k d1) 244 [.ifc 336 (.ptr 0 11)] [.var (ak.rc f++ .ref 1 0::rI g::rI e2::rB j::ap.rc k),.arr 0 249 (d1.map ar.pd)] fun r=>(.ifc 249 (.d (ar.pd r.1)),[.var (ak.rc f++ .ref 1 1::rI g::rI e2::rB j::ap.rc k),.arr 1 249 (r.2.map ar.pd)]):=⟨fun h=>heap_Pop_ev h⟩
section
attribute [local irreducible] HM HU HF HB WO WC QS QB tZ
instance {a0:Int}{a1:Int}:CE prog bo ext (cw a0 a1) 278 [rI a0,rI a1] [] fun r=>(rI r,[]):=⟨fun h=>Ev.au h Tryz.func278⟩
instance {a0:bR}:CE prog bo ext (cf a0) 196 [.d (bR.pd a0)] [] fun r=>(.d (ag.pd r),[]):=⟨fun h=>Ev.au h Tryz.func196⟩
instance {a0:al}:CE prog bo ext (gQ a0) 275 [.d (al.pd a0)] [] fun r=>(.d (ag.pd r),[]):=⟨fun h=>Ev.au h Tryz.func275⟩
instance {a0:ak}{a1:ag}:CE prog bo ext (jU a0 a1) 276 [.d (ak.pd a0),.d (ag.pd a1)] [] fun r=>(.tup [rI r.1,rI r.2.1,rI r.2.2],[]):=⟨fun h=>Ev.au h Tryz.func276⟩
instance {a0:al}{f:ak}{e2:Int}{g:Int}{j:Bool}{k:ap}{d1:(List ar)}:CE prog bo ext (me a0 f e2 g j k d1) 245 [.ptr 0 0,.d (al.pd a0)] [.var (ak.rc f++ .ref 1 0::rI e2::rI g::rB j::ap.rc k),.arr 0 249 (d1.map ar.pd)] fun r=>(rI r.1,[.var (ak.rc f++ .ref 1 0::rI e2::rI g::rB r.2.1::ap.rc r.2.2),.arr 0 249 (d1.map ar.pd)]):=⟨fun h=>Ev.au h Tryz.func245⟩
instance {a0:al}:CE prog bo ext (lM a0) 277 [.d (al.pd a0)] [] fun r=>(rI r,[]):=⟨fun h=>Ev.au h Tryz.func277⟩
end
theorem rq{a0:al}{r:al×al×Bool}(h:fA a0=some r):EvP prog bo ext 246 [.d (al.pd a0)] [] (.tup [.d (al.pd r.1),.d (al.pd r.2.1),rB r.2.2],[]):=by
 refine Ev.body Z Tryz.func246 Z Zk<|gU Z<|sB (.ptr 16 0) 16 (.var (al.rc a0))<|sB (.ptr 32 0) 32 (.var [r0,r0,r0,r0,r0,r0])<|sB (.ptr 48 0) 48 (.var [r0,r0,r0,r0,r0,r0])<|sU<|sN<|qS<|gU Z<|sV (.d (al.pd a0))<|bE h fun x1 h1 h=>cD (ce h1)<|sF h ?_ ?_<;>intro h
 ·refine sN<|cT<|gU Z<|sG (.d (al.pd (al.mk (ag.mk 0 0 0) (ag.mk 0 0 0))))<|sG (.d (al.pd (al.mk (ag.mk 0 0 0) (ag.mk 0 0 0))))<|sH 32 (.var [r0,r0,r0,r0,r0,r0])<|sH 48 (.var [r0,r0,r0,r0,r0,r0])<|sU<|sN<|qR ?_
  cases oI h
  exact qG
 refine sN<|cF<|qK<|Ft Z Z<|sV (.ptr 16 0)<|sV (.d (ag.pd a0.bt))<|bE h fun f Y h=>cD (ce Y)<|sV (.ptr 16 3)<|sV (.d (ag.pd a0.bd))<|bE h fun g h4 h=>cD (ce h4)<|sB (.ptr 80 0) 80 (.var [r0,r0,r0])<|sB (.ptr 96 0) 96 (.var [r0,r0,r0])<|sS 80 (.var [rI f.a0,rI f.a1,rI f.a2]) ?_
 refine sS 96 (.var [rI g.a0,rI g.a1,rI g.a2]) ?_
 refine sN<|sO<|gU Z<|sV (r0)<|sN<|qS<|gU Z<|sV (r0)<|sN<|Fq (Fs ?_)
 refine WL.round<|gU Z<|sT<|sN<|qS<|cT<|qK<|qS<|qB<|gU Z<|sM Z<|sA Z<|sN<|Ft Z Z<|sM Z ?_
 refine sV (.ptr 96 0)<|sL Z<|sM Z<|sV (.ptr 80 0)<|sL Z<|sV (rI (rW (g.a0-f.a0)))<|sM Z<|sV (.ptr 96 0)<|sL Z<|sM Z<|sV (.ptr 80 0)<|sL Z<|sV (rI (rW (g.a0-f.a0)))<|WO.s0 (v':=rB false) Z Z (fun _=>Z) (congrArg (fun b=>RV.d (.bool b)) (decide_eq_false (Int.lt_irrefl _))) ?_
 refine sN<|sO<|cF<|qK<|Fu Z Z<|sV (rI 1)<|sM Z<|sN<|WL.round<|gU Z<|sT<|sN<|qS<|cT<|qK<|qS ?_
 refine qB<|gU Z<|sM Z<|sA Z<|sN<|Ft Z Z<|sM Z<|sV (.ptr 96 1)<|sL Z<|sM Z<|sV (.ptr 80 1)<|sL Z<|sV (rI (rW (g.a1-f.a1)))<|sM Z<|sV (.ptr 96 0) ?_
 refine sL Z<|sM Z<|sV (.ptr 80 0)<|sL Z<|sV (rI (rW (g.a0-f.a0)))<|sF h ?_ ?_<;>intro h
 ·refine sN<|sO<|cT<|Fu Z Z<|sM Z<|sA Z<|sN<|Fu Z Z<|sV (rI 2)<|sM Z<|sN<|WL.round<|gU Z<|sT<|sN<|qS ?_
  refine cT<|qK<|qS<|qB<|gU Z<|sM Z<|sA Z<|sN<|Ft Z Z<|sM Z<|sV (.ptr 96 2)<|sL Z<|sM Z<|sV (.ptr 80 2)<|sL Z ?_
  refine sV (rI (rW (g.a2-f.a2)))<|sM Z<|sV (.ptr 96 1)<|sL Z<|sM Z<|sV (.ptr 80 1)<|sL Z<|sV (rI (rW (g.a1-f.a1)))<|sF h ?_ ?_<;>intro h
  ·refine sN<|sO<|cT<|Fu Z Z<|sM Z<|sA Z<|sN<|Fu Z Z<|sV (rI 3)<|sM Z<|sN<|WL.round<|gU Z<|sU<|sN<|qS ?_
   refine cF<|qX<|qE<|Ft Z Z<|sV (.d (bR.pd g))<|sV (.d (bR.pd f))<|sB (.ptr 144 0) 144 (.var [r0,r0,r0])<|sB (.ptr 160 0) 160 (.var [r0,r0,r0])<|sS 144 (.var [rI g.a0,rI g.a1,rI g.a2])<|sS 160 (.var [rI f.a0,rI f.a1,rI f.a2]) ?_
   refine sN<|sO<|Ft Z Z<|mM Z<|sV (.ptr 80 2)<|sL Z<|sM Z<|sV (.ptr 96 2)<|sL Z<|bE h fun H h7 h=>cD (ce h7)<|sV (.ptr 144 2)<|sS 144 (.var [rI g.a0,rI g.a1,rI H]) ?_
   refine sN<|sO<|gU Z<|mM Z<|sV (.ptr 144 2)<|sL Z<|sV (rI (rW (H+(1:Int))))<|sV (.ptr 160 2)<|sS 160 (.var [rI f.a0,rI f.a1,rI (rW (H+(1:Int)))])<|sN<|Ft Z Z<|sV (.ptr 16 0)<|sV (.d (ag.pd a0.bt))<|sV (.d (bR.pd (bR.mk g.a0 g.a1 H)))<|bE h fun W h8 h=>?_
   refine cD (ce h8)<|sG (.d (al.pd (al.mk a0.bt W)))<|sV (.d (bR.pd (bR.mk f.a0 f.a1 (rW (H+(1:Int))))))<|bE h fun X h9 h=>cD (ce h9)<|sV (.ptr 16 3)<|sV (.d (ag.pd a0.bd))<|sG (.d (al.pd (al.mk X a0.bd)))<|sH 32 (.var (ag.rc a0.bt++ag.rc W))<|sH 48 (.var (ag.rc X++ag.rc a0.bd))<|sT ?_
   refine sN<|sO<|qR ?_
   cases oI h
   exact qG
  refine sN<|sO<|cF<|qK<|Fu Z Z<|sV (rI 3)<|sM Z<|sN<|WL.round<|gU Z<|sU<|sN<|qS<|cF<|qX<|qE ?_
  refine Ft Z Z<|sV (.d (bR.pd g))<|sV (.d (bR.pd f))<|sB (.ptr 144 0) 144 (.var [r0,r0,r0])<|sB (.ptr 160 0) 160 (.var [r0,r0,r0])<|sS 144 (.var [rI g.a0,rI g.a1,rI g.a2])<|sS 160 (.var [rI f.a0,rI f.a1,rI f.a2]) ?_
  refine sN<|sO<|Ft Z Z<|mM Z<|sV (.ptr 80 1)<|sL Z<|sM Z<|sV (.ptr 96 1)<|sL Z<|bE h fun j I h=>cD (ce I)<|sV (.ptr 144 1)<|sS 144 (.var [rI g.a0,rI j,rI g.a2]) ?_
  refine sN<|sO<|gU Z<|mM Z<|sV (.ptr 144 1)<|sL Z<|sV (rI (rW (j+(1:Int))))<|sV (.ptr 160 1)<|sS 160 (.var [rI f.a0,rI (rW (j+(1:Int))),rI f.a2])<|sN<|Ft Z Z<|sV (.ptr 16 0)<|sV (.d (ag.pd a0.bt))<|sV (.d (bR.pd (bR.mk g.a0 j g.a2)))<|bE h fun u J h=>?_
  refine cD (ce J)<|sG (.d (al.pd (al.mk a0.bt u)))<|sV (.d (bR.pd (bR.mk f.a0 (rW (j+(1:Int))) f.a2)))<|bE h fun C K h=>cD (ce K)<|sV (.ptr 16 3)<|sV (.d (ag.pd a0.bd))<|sG (.d (al.pd (al.mk C a0.bd)))<|sH 32 (.var (ag.rc a0.bt++ag.rc u))<|sH 48 (.var (ag.rc C++ag.rc a0.bd))<|sT ?_
  refine sN<|sO<|qR ?_
  cases oI h
  exact qG
 refine sN<|sO<|cF<|qK<|Fu Z Z<|sV (rI 2)<|sM Z<|sN<|WL.round<|gU Z<|sT<|sN<|qS<|cT<|qK<|qS ?_
 refine qB<|gU Z<|sM Z<|sA Z<|sN<|Ft Z Z<|sM Z<|sV (.ptr 96 2)<|sL Z<|sM Z<|sV (.ptr 80 2)<|sL Z<|sV (rI (rW (g.a2-f.a2)))<|sM Z<|sV (.ptr 96 0) ?_
 refine sL Z<|sM Z<|sV (.ptr 80 0)<|sL Z<|sV (rI (rW (g.a0-f.a0)))<|sF h ?_ ?_<;>intro h
 ·refine sN<|sO<|cT<|Fu Z Z<|sM Z<|sA Z<|sN<|Fu Z Z<|sV (rI 3)<|sM Z<|sN<|WL.round<|gU Z<|sU<|sN<|qS ?_
  refine cF<|qX<|qE<|Ft Z Z<|sV (.d (bR.pd g))<|sV (.d (bR.pd f))<|sB (.ptr 144 0) 144 (.var [r0,r0,r0])<|sB (.ptr 160 0) 160 (.var [r0,r0,r0])<|sS 144 (.var [rI g.a0,rI g.a1,rI g.a2])<|sS 160 (.var [rI f.a0,rI f.a1,rI f.a2]) ?_
  refine sN<|sO<|Ft Z Z<|mM Z<|sV (.ptr 80 2)<|sL Z<|sM Z<|sV (.ptr 96 2)<|sL Z<|bE h fun k L h=>cD (ce L)<|sV (.ptr 144 2)<|sS 144 (.var [rI g.a0,rI g.a1,rI k]) ?_
  refine sN<|sO<|gU Z<|mM Z<|sV (.ptr 144 2)<|sL Z<|sV (rI (rW (k+(1:Int))))<|sV (.ptr 160 2)<|sS 160 (.var [rI f.a0,rI f.a1,rI (rW (k+(1:Int)))])<|sN<|Ft Z Z<|sV (.ptr 16 0)<|sV (.d (ag.pd a0.bt))<|sV (.d (bR.pd (bR.mk g.a0 g.a1 k)))<|bE h fun D N h=>?_
  refine cD (ce N)<|sG (.d (al.pd (al.mk a0.bt D)))<|sV (.d (bR.pd (bR.mk f.a0 f.a1 (rW (k+(1:Int))))))<|bE h fun E O h=>cD (ce O)<|sV (.ptr 16 3)<|sV (.d (ag.pd a0.bd))<|sG (.d (al.pd (al.mk E a0.bd)))<|sH 32 (.var (ag.rc a0.bt++ag.rc D))<|sH 48 (.var (ag.rc E++ag.rc a0.bd))<|sT ?_
  refine sN<|sO<|qR ?_
  cases oI h
  exact qG
 refine sN<|sO<|cF<|qK<|Fu Z Z<|sV (rI 3)<|sM Z<|sN<|WL.round<|gU Z<|sU<|sN<|qS<|cF<|qX<|qE ?_
 refine Ft Z Z<|sV (.d (bR.pd g))<|sV (.d (bR.pd f))<|sB (.ptr 144 0) 144 (.var [r0,r0,r0])<|sB (.ptr 160 0) 160 (.var [r0,r0,r0])<|sS 144 (.var [rI g.a0,rI g.a1,rI g.a2])<|sS 160 (.var [rI f.a0,rI f.a1,rI f.a2]) ?_
 refine sN<|sO<|Ft Z Z<|mM Z<|sV (.ptr 80 0)<|sL Z<|sM Z<|sV (.ptr 96 0)<|sL Z<|bE h fun q Q h=>cD (ce Q)<|sV (.ptr 144 0)<|sS 144 (.var [rI q,rI g.a1,rI g.a2]) ?_
 refine sN<|sO<|gU Z<|mM Z<|sV (.ptr 144 0)<|sL Z<|sV (rI (rW (q+(1:Int))))<|sV (.ptr 160 0)<|sS 160 (.var [rI (rW (q+(1:Int))),rI f.a1,rI f.a2])<|sN<|Ft Z Z<|sV (.ptr 16 0)<|sV (.d (ag.pd a0.bt))<|sV (.d (bR.pd (bR.mk q g.a1 g.a2)))<|bE h fun F T h=>?_
 refine cD (ce T)<|sG (.d (al.pd (al.mk a0.bt F)))<|sV (.d (bR.pd (bR.mk (rW (q+(1:Int))) f.a1 f.a2)))<|bE h fun G U h=>cD (ce U)<|sV (.ptr 16 3)<|sV (.d (ag.pd a0.bd))<|sG (.d (al.pd (al.mk G a0.bd)))<|sH 32 (.var (ag.rc a0.bt++ag.rc F))<|sH 48 (.var (ag.rc G++ag.rc a0.bd))<|sT ?_
 refine sN<|sO<|qR ?_
 cases oI h
 exact qG
instance {a0:al}:CE prog bo ext (fA a0) 246 [.d (al.pd a0)] [] fun r=>(.tup [.d (al.pd r.1),.d (al.pd r.2.1),rB r.2.2],[]):=⟨fun h=>rq h⟩
section
attribute [local irreducible] HM HU HF HB WO WC QS QB tZ
instance {a0:ar}{f:ak}{e2:Int}{g:Int}{j:Bool}{k:ap}{d1:(List ar)}:CE prog bo ext (oE a0 f e2 g j k d1) 328 [.ptr 0 11,.ifc 249 (.d (ar.pd a0))] [.var (ak.rc f++ .ref 1 0::rI e2::rI g::rB j::ap.rc k),.arr 0 249 (d1.map ar.pd)] fun r=>(.tup [],[.var (ak.rc f++ .ref 1 1::rI e2::rI g::rB j::ap.rc k),.arr 1 249 (r.map ar.pd)]):=⟨fun h=>Ev.au h Tryz.func328⟩
end
theorem heap_Pushq_ev{a0:ar}{f:ak}{e2:Int}{j:Int}{k:Bool}{q:ap}{d1:(List ar)}{r:(List ar)}(h:lY a0 f e2 j k q d1=some r):EvP prog bo ext 243 [.ifc 336 (.ptr 0 11),.ifc 249 (.d (ar.pd a0))] [.var (ak.rc f++ .ref 1 0::rI e2::rI j::rB k::ap.rc q),.arr 0 249 (d1.map ar.pd)] (.tup [],[.var (ak.rc f++ .ref 1 1::rI e2::rI j::rB k::ap.rc q),.arr 1 249 (r.map ar.pd)]):=by
 refine Ev.body Z Tryz.func243 Z Zk<|gU Z<|mM Z<|bE h fun F h1 h=>WO.BS (g:=328) (args:=[.ptr 0 11,.ifc 249 (.d (ar.pd a0))]) (v:= .tup []) (u:=[(0,.var (ak.rc f++ .ref 1 1::rI e2::rI j::rB k::ap.rc q)),(1,.arr 1 249 (F.map ar.pd))]) Z Z (by intro _;kernel_rfl) Z Z Z Z Z (ce h1) Z Z Z Z<|sN<|Fu Z Z<|mM Z<|bE h fun C D h=>WO.yq (e:=245) (c:= .ptr 0 11) (vl:= .ref 1 1) (g:=324) (args:=[]) (v:=rI C) (u:=[ ]) Z Z (by intro _;kernel_rfl) Z Z Z Z Z Z (ce D) Z Z Z Z<|sV (rI (rW (C-(1:Int))))<|bE h fun G E h=>cR (.tup []) [(0,.var (ak.rc f++ .ref 1 1::rI e2::rI j::rB k::ap.rc q)),(1,.arr 1 249 (G.map ar.pd))] (heap_up_ev E) ?_
 refine sN ?_
 cases oI h
 exact qG
instance {a0:ar}{f:ak}{e2:Int}{g:Int}{j:Bool}{k:ap}{d1:(List ar)}:CE prog bo ext (lY a0 f e2 g j k d1) 243 [.ifc 336 (.ptr 0 11),.ifc 249 (.d (ar.pd a0))] [.var (ak.rc f++ .ref 1 0::rI e2::rI g::rB j::ap.rc k),.arr 0 249 (d1.map ar.pd)] fun r=>(.tup [],[.var (ak.rc f++ .ref 1 1::rI e2::rI g::rB j::ap.rc k),.arr 1 249 (r.map ar.pd)]):=⟨fun h=>heap_Pushq_ev h⟩
section
attribute [local irreducible] HM HU HF HB WO WC QS QB tZ
instance {a0:al}{f:ak}{e2:Int}{g:Int}{j:Bool}{k:ap}{d1:(List ar)}:CE prog bo ext (kV a0 f e2 g j k d1) 193 [.ptr 0 0,.d (al.pd a0)] [.var (ak.rc f++ .ref 1 0::rI e2::rI g::rB j::ap.rc k),.arr 0 249 (d1.map ar.pd)] fun r=>(rI r.1,[.var (ak.rc f++ .ref 1 1::rI r.2.1::rI g::rB j::ap.rc k),.arr 1 249 (r.2.2.map ar.pd)]):=⟨fun h=>Ev.au h Tryz.func193⟩
instance {f:ak}{g:Int}{e2:Int}{j:Bool}{k:ap}{d1:(List ar)}:CE prog bo ext (mf f g e2 j k d1) 195 [.ptr 0 0] [.var (ak.rc f++ .ref 1 0::rI g::rI e2::rB j::ap.rc k),.arr 0 249 (d1.map ar.pd)] fun r=>(rI r.1,[.var (ak.rc f++ .ref 1 1::rI r.2.1::rI r.2.2.1::rB r.2.2.2.1::ap.rc r.2.2.2.2.1),.arr 1 249 (r.2.2.2.2.2.map ar.pd)]):=⟨fun h=>Ev.au h Tryz.func195⟩
end
end Go.Dw.Re
