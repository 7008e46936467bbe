
import Derived.Test.YtfmoipelhfkdkaaGreatDoorReEvA
set_option linter.unusedVariables false
set_option linter.unusedSimpArgs false
open Go.Dw.WC renaming block->F1, loop->F2, py->F3, region->F4, sI->F6, tc->F5
open Option.some renaming inj->E9

set_option maxRecDepth 100000
set_option maxHeartbeats 4000000
namespace Go.Dw.Re
open Go.Proofs Go.Proofs.Tryz Go.Dw
theorem l7{a1:Int}{d0:(List aa)}{r:(List aa)}(h:dR a1 d0=some r):EvP prog bj ext 127 [.ref 0 0,rI a1,.d (.raw (.func (.func 88) #[] #[]))] [.arr 0 70 (d0.map aa.pd)] (.tup [],[.arr 0 70 (r.map aa.pd)]):=by
 refine Ev.body Z Tryz.func127 Z Zk<|gU Z<|sV (rI 20)<|sN<|gU Z<|sM Z<|sV (r0)<|sA Z<|sN<|qS<|bE h fun K q h=>F1 (F2 (WL.rG q (fun s=>gI 1 127 2 [(0,.ref 0 0),(1,rI a1),(2,.d (.raw (.func (.func 88) #[] #[]))),(6,rI 20),(7,rI s.1),(8,rI s.2.1)] [(0,.arr 0 70 (s.2.2.map aa.pd))]) (fun o=>gX 0 1 127 6 [(0,.ref 0 0),(1,rI a1),(2,.d (.raw (.func (.func 88) #[] #[]))),(6,rI 20),(7,rI o.1)] [(0,.arr 0 70 (o.2.map aa.pd))]) Z ?_ ?_))
 ·rintro⟨s1,s2,U⟩ E D T f h
  refine qS<|gS Z f<|mM Z<|sF h ?_ ?_<;>intro h
  ·refine sN<|cT<|qK<|qB<|gU Z<|mM Z<|mM Z<|bE h fun Q I h=>cR (.tup []) [(0,.arr 0 70 (Q.map aa.pd))] (fb I)<|sN<|gU Z<|sM Z<|sA Z ?_
   refine sN<|F4 Z Z<|mM Z<|sV (rI (rW (s2+(20:Int))))<|sA Z<|sN ?_
   cases oI h
   exact⟨rfl,rfl⟩
  refine sN<|cF<|qX ?_
  cases oI h
  exact⟨nofun,rfl,rfl⟩
 intro e E D he G
 obtain⟨rfl,f⟩:=G
 refine qE<|gS Z f<|mM Z<|mM Z<|bE h fun j F h=>cR (.tup []) [(0,.arr 0 70 (j.map aa.pd))] (fb F)<|sN<|bE h fun L B h=>?_
 cases oI h
 refine F1 (F2 (WL.uG B (fun s=>gI 1 127 7 [(0,.ref 0 0),(1,rI a1),(2,.d (.raw (.func (.func 88) #[] #[]))),(6,rI s)] [(0,.arr 0 70 (j.map aa.pd))]) Z ?_))
 rintro g E D N f h
 refine qS<|gS Z f<|mM Z<|sF h ?_ ?_<;>intro h
 ·refine sN<|cT<|qK<|qB<|gU Z<|sM Z<|sV (rI (rW ((2:Int)*g)))<|sV (r0)<|sA Z<|sN<|qS<|bE h fun C u h=>F1 (F2 (WL.rG u (fun s=>gI 1 127 9 [(0,.ref 0 0),(1,rI a1),(2,.d (.raw (.func (.func 88) #[] #[]))),(6,rI g),(7,r0),(8,rI (rW ((2:Int)*g)))] [(0,.arr 0 70 (j.map aa.pd))]) (fun o=>gX 4 1 127 13 [(0,.ref 0 0),(1,rI a1),(2,.d (.raw (.func (.func 88) #[] #[]))),(6,rI o),(7,r0)] [(0,.arr 0 70 (j.map aa.pd))]) Z ?_ ?_))
  ·rintro⟨⟩ E D O f h
   refine qS<|gS Z f<|mM Z<|sF h ?_ ?_<;>intro h
   ·refine sN<|cT<|qK<|qB<|gU Z<|mM Z<|mM Z<|sV (rI (rW ((0:Int)+g)))<|sM Z<|sM Z ?_
    cases h
   refine sN<|cF<|qX ?_
   cases oI h
   exact⟨nofun,rfl,rfl⟩
  intro e E D he G
  obtain⟨rfl,f⟩:=G
  refine qE<|qS<|gS Z f<|mM Z<|sV (rI (rW ((0:Int)+C)))<|sA Z<|sN<|gU Z<|mM Z<|sF h ?_ ?_<;>intro h
  ·refine sN<|cT<|F4 Z Z<|mM Z<|mM Z<|sM Z ?_
   cases h
  refine sN<|cF<|qK<|F4 Z Z<|sM Z<|sV (rI (rW (C*(2:Int))))<|sA Z<|sN ?_
  cases oI h
  exact⟨rfl,rfl⟩
 refine sN<|cF<|qX<|pe h (fun z21 k J=>?_)
 obtain rfl:=E9 J
 refine⟨(fun he=>by cases he),fun H=>?_⟩
 subst H
 have h:=k
 refine qE ?_
 exact oI h▸qD
instance {a1:Int}{d0:(List aa)}:CE prog bj ext (dR a1 d0) 127 [.ref 0 0,rI a1,.d (.raw (.func (.func 88) #[] #[]))] [.arr 0 70 (d0.map aa.pd)] fun r=>(.tup [],[.arr 0 70 (r.map aa.pd)]):=⟨fun h=>l7 h⟩
section
attribute [local irreducible] HM HU HF HB WO WC QS QB tO
instance {d0:(List aa)}:CE prog bj ext (dy d0) 87 [.ref 0 0,.d (.raw (.func (.func 88) #[] #[]))] [.arr 0 70 (d0.map aa.pd)] fun r=>(.tup [],[.arr 0 70 (r.map aa.pd)]):=⟨fun h=>Ev.au h Tryz.func87⟩
end
theorem jO{a0:Int}{a1:(List aa)}{r:(List (List aa))}(h:bZ a0 a1=some r):EvP prog bj ext 46 [rI a0,rM aa.pd a1] [] (.d (.lst (r.map (fun l=>PD.lst (l.map aa.pd)))),[]):=by
 refine Ev.body Z Tryz.func46 Z Zk<|gU Z<|sV .pY<|sN<|gU Z<|sM Z<|bE h fun x1 h1 h=>cR (.ref 192 0) [(192,.arr 0 70 (x1.map aa.pd))] (ce h1)<|sA Z<|sN<|gU Z<|sM Z<|bE h fun k h2 h=>cR (.tup []) [(192,.arr 0 70 (k.map aa.pd))] (ce h2)<|sN ?_
 refine gU Z<|sV .pY<|sN<|qS<|gU Z<|sM Z<|WO.lenR Z Z Z Z Z Z Z Z Z<|sV (r0)<|sN<|bE h fun c4 q h=>F1 (F2 (WL.rG q (fun s=>gI 0 46 5 [(0,rI a0),(5,.ref 192 0),(6,.ref 624 0),(15,.ref 192 0),(16,rI (k.length:Int)),(17,rI s.1)] [(192,.arr 0 70 (k.map aa.pd)),(624,.nest 0 42 70 (s.2.map (List.map aa.pd)) none)]) (fun o=>gX 0 0 46 11 [(6,.ref 624 0)] [(624,.nest 0 42 70 (o.map (List.map aa.pd)) none)]) Z ?_ ?_))
 ·rintro⟨j,E⟩ G F q6 g h
  refine gS Z g<|sF h ?_ ?_<;>intro h
  ·refine sN<|qS<|cT<|qK<|qS<|qB<|gU Z<|sM Z<|bE h fun x9 h9 h=>WO.tD h9 Z Z Z Z Z Z Z Z<|bE h fun f H h=>WO.sY H Z Z Z Z Z Z<|sB (.ptr 128 0) 128 (.var [rS [],rS [],rS [],rS [],r0,r0,r0,r0,r0])<|sA Z<|sH 128 (.var (aa.rc f)) ?_
   refine sN<|qS<|F3 Z Z<|sM Z<|sF h ?_ ?_<;>intro h
   ·refine sM Z<|k3<|k3<|k3<|sK<|sK<|sT ?_
    refine sN<|sO<|cT<|F4 (R0:=[(0,rI a0),(5,.ref 192 0),(6,.ref 624 0),(8,.ptr 128 0),(15,.ref 192 0),(16,rI (k.length:Int)),(17,rI j)]) (B0:=[(128,.var (aa.rc f)),(192,.arr 0 70 (k.map aa.pd)),(624,.nest 0 42 70 (E.map (List.map aa.pd)) none)]) Z Z<|sM Z<|sV (.d (.lst [nil0]))<|bE h fun B I h=>WO.appNN I Z Z Z Z Z Z Z Z Z Z Z Z Z Z<|sA Z<|sN<|bE h fun d1 J h=>F6 (wv J Z Z Z) Z<|mM Z<|WO.lenN Z Z Z Z Z Z Z Z Z<|sV (rI (rW ((B.length:Int)-(1:Int)))) ?_
    refine mM Z<|WO.lenN Z Z Z Z Z Z Z Z Z<|sV (rI (rW ((B.length:Int)-(1:Int))))<|bE h fun d2 K h=>WO.eltN K Z Z Z Z Z Z Z Z<|bE h fun d3 L h=>WO.loadN L Z Z Z Z Z Z<|sV (.d (aa.pd f))<|sG (.d (.lst ([f].map aa.pd)))<|bE h fun d4 N h=>aR N (fun _=>Z) Z<|bE h fun d5 O h=>WO.eltN O Z Z Z Z Z Z Z Z<|bE h fun d6 Q h=>?_
    refine WO.CK Q Z Z Z Z Z Z Z ?_
    refine sN<|sO<|F4 Z Z<|sV (rI (rW (j+(1:Int))))<|sM Z<|sN ?_
    cases oI h
    exact⟨rfl,(vD rfl rfl (by decide) rfl)⟩
   refine sM Z<|sV (.ptr 128 5)<|sL Z<|mM Z<|sV (rI (rW (j-(1:Int))))<|bE h fun d7 T h=>WO.tD T Z Z Z Z Z Z Z Z<|sV (.elt 192 0 ((rW (j-(1:Int)))).toNat 5)<|bE h fun C U h=>WO.sY U Z Z Z Z Z Z<|sV (rI (rW (f.bv-C.bv)))<|sM Z<|sV (rB (decide ((rW (f.bv-C.bv))>a0)))<|sF h ?_ ?_<;>intro h
   ·refine sN<|sO<|cT<|F4 (R0:=[(0,rI a0),(5,.ref 192 0),(6,.ref 624 0),(8,.ptr 128 0),(15,.ref 192 0),(16,rI (k.length:Int)),(17,rI j)]) (B0:=[(128,.var (aa.rc f)),(192,.arr 0 70 (k.map aa.pd)),(624,.nest 0 42 70 (E.map (List.map aa.pd)) none)]) Z Z<|sM Z<|sV (.d (.lst [nil0]))<|bE h fun D W h=>WO.appNN W Z Z Z Z Z Z Z Z Z Z Z Z Z Z<|sA Z<|sN<|bE h fun d8 X h=>F6 (wv X Z Z Z) Z<|mM Z<|WO.lenN Z Z Z Z Z Z Z Z Z<|sV (rI (rW ((D.length:Int)-(1:Int)))) ?_
    refine mM Z<|WO.lenN Z Z Z Z Z Z Z Z Z<|sV (rI (rW ((D.length:Int)-(1:Int))))<|bE h fun e0 Y h=>WO.eltN Y Z Z Z Z Z Z Z Z<|bE h fun e1 a5 h=>WO.loadN a5 Z Z Z Z Z Z<|sV (.d (aa.pd f))<|sG (.d (.lst ([f].map aa.pd)))<|bE h fun e2 a6 h=>aR a6 (fun _=>Z) Z<|bE h fun e3 a9 h=>WO.eltN a9 Z Z Z Z Z Z Z Z<|bE h fun e4 b0 h=>?_
    refine WO.CK b0 Z Z Z Z Z Z Z ?_
    refine sN<|sO<|F4 Z Z<|sV (rI (rW (j+(1:Int))))<|sM Z<|sN ?_
    cases oI h
    exact⟨rfl,(vD rfl rfl (by decide) rfl)⟩
   refine sN<|sO<|cF<|qK<|bE h fun e5 b1 h=>F6 (wv b1 Z Z Z) Z<|mM Z<|WO.lenN Z Z Z Z Z Z Z Z Z<|sV (rI (rW ((E.length:Int)-(1:Int))))<|mM Z<|WO.lenN Z Z Z Z Z Z Z Z Z<|sV (rI (rW ((E.length:Int)-(1:Int))))<|bE h fun e6 b2 h=>WO.eltN b2 Z Z Z Z Z Z Z Z ?_
   refine bE h fun e7 b3 h=>WO.loadN b3 Z Z Z Z Z Z<|sV (.d (aa.pd f))<|sG (.d (.lst ([f].map aa.pd)))<|bE h fun e8 b4 h=>aR b4 (fun _=>Z) Z<|bE h fun e9 b5 h=>WO.eltN b5 Z Z Z Z Z Z Z Z<|bE h fun f0 b6 h=>WO.CK b6 Z Z Z Z Z Z Z ?_
   refine sN<|sO<|F4 Z Z<|sV (rI (rW (j+(1:Int))))<|sM Z<|sN ?_
   cases oI h
   exact⟨rfl,(vD rfl rfl (by decide) rfl)⟩
  refine sN<|qS<|cF<|qX ?_
  cases oI h
  exact⟨nofun,rfl,rfl⟩
 intro e G F he hq
 obtain⟨rfl,g⟩:=hq
 refine qE<|qS<|gS Z g<|sM Z<|WO.lenN Z Z Z Z Z Z Z Z Z<|sV (r0)<|sN<|bE h fun c7 u h=>F1 (F2 (WL.rG u (fun s=>gI 0 46 12 [(6,.ref 624 0),(55,.ref 624 0),(56,rI (c4.length:Int)),(57,rI s.1)] [(624,.nest 0 42 70 (s.2.map (List.map aa.pd)) none)]) (fun o=>gX 2 0 46 16 [(6,.d (.lst (o.map (fun l=>PD.lst (l.map aa.pd)))))] []) Z ?_ ?_))
 ·rintro⟨c5,d0⟩ G F c8 g h
  refine gS Z g<|sF h ?_ ?_<;>intro h
  ·refine sN<|qS<|cT<|qK<|qS<|qB<|bE h fun f1 c0 h=>F5 (Bc c0 Z Z Z Z) Z<|bE h fun f2 c1 h=>WO.eltN c1 Z Z Z Z Z Z Z Z<|bE h fun f3 c2 h=>WO.loadN c2 Z Z Z Z Z Z<|sA Z<|sN<|F4 Z Z ?_
   refine sM Z<|bE h fun c6 c3 h=>cR (.tup []) [(960,.arr 0 70 (c6.map aa.pd))] (sort_90_91 c3)<|sN<|F4 Z Z<|sV (rI (rW (c5+(1:Int))))<|sM Z<|sN ?_
   cases oI h
   exact⟨rfl,(vD rfl rfl (by decide) rfl)⟩
  refine sN<|qS<|cF<|qX ?_
  cases oI h
  exact⟨nofun,rfl,(tH rfl (BP rfl rfl rfl))⟩
 intro e G F he hq
 obtain⟨rfl,g⟩:=hq
 refine qE<|gS Z g<|sM Z<|sA Z<|sN<|qR ?_
 exact oI h▸qD
instance {a0:Int}{a1:(List aa)}:CE prog bj ext (bZ a0 a1) 46 [rI a0,rM aa.pd a1] [] fun r=>(.d (.lst (r.map (fun l=>PD.lst (l.map aa.pd)))),[]):=⟨fun h=>jO h⟩
section
attribute [local irreducible] HM HU HF HB WO WC QS QB tO
instance {a0:Int}{a1:(List aa)}:CE prog bj ext (gm a0 a1) 69 [rI a0,rM aa.pd a1] [] fun r=>(.tup [.d (.lst (r.1.map (fun l=>PD.lst (l.map aa.pd)))),rI r.2],[]):=⟨fun h=>Ev.au h Tryz.func69⟩
instance {a0:ah}{a1:ae}{a2:(List aa)}:CE prog bj ext (gL a0 a1 a2) 38 [.d (ah.pd a0),.d (ae.pd a1),rM aa.pd a2] [] fun r=>(.tup [.d (.lst (r.1.map (fun l=>PD.lst (l.map aa.pd)))),rI r.2],[]):=⟨fun h=>Ev.au h Tryz.func38⟩
end
theorem mJ{a0:ah}{a1:ae}{r:av}(h:ff a0 a1=some r):EvP prog bj ext 39 [.d (ah.pd a0),.d (ae.pd a1)] [] (.agg (ah.rc r.bp++[rM aj.pd r.co.a8,.pY]),[]):=by
 refine Ev.body Z Tryz.func39 Z Zk<|gU Z<|sB (.ptr 32 0) 32 (.var (ah.rc a0))<|sB (.ptr 48 0) 48 (.var [rM aj.pd a1.a8])<|sB (.ptr 64 0) 64 (.var zZ0)<|sN<|qS<|gU Z<|sV (.ptr 32 0)<|sV (.ptr 32 6)<|sV (.ptr 32 14)<|sV (.ptr 32 14)<|sV (.plit [.ptr 32 6,.ptr 32 14])<|sV (rI 2)<|sV (r0) ?_
 refine sN<|F1 (F2 ?_)
 refine WL.round<|F5 (R0:=[(2,.ptr 32 0),(3,.ptr 48 0),(4,.ptr 64 0),(17,.plit [.ptr 32 6,.ptr 32 14]),(18,rI 2),(19,r0)]) (B0:=[(32,.var (ah.rc a0)),(48,.var [rM aj.pd a1.a8]),(64,.var zZ0)]) Z Z<|sT<|sN<|qS<|cT<|qK<|qS<|qB<|gU Z<|sV (.pcp (.ptr 32 6))<|sV (.ptr 32 6)<|sA Z<|sN<|F6 Z Z ?_
 refine mM Z<|sM Z<|sV (.ptr 32 6)<|sV (.ptr 32 7)<|sL Z<|bE h fun j h1 h=>cR (.ref 464 0) [(464,.arr 0 3 (j.map (PD.int .i64)))] (oz h1)<|sM Z<|sV (.ptr 32 6)<|sV (.ptr 32 8)<|sL Z<|bE h fun k h2 h=>cR (.ref 544 0) [(544,.arr 0 3 (k.map (PD.int .i64)))] (oz h2)<|sV (.ptr 32 6) ?_
 refine sV (.ptr 32 7)<|sS 32 (.var (al.rc a0.ac.bn++rI a0.ac.bJ.bR:: .ref 464 0::rL a0.ac.bJ.bd::rI a0.ac.dw::rI a0.ac.bA::rI a0.ac.cw::rI a0.ac.dT::rI a0.ac.cq::bO.rc a0.bQ++[rI a0.bA]))<|sV (.ptr 32 6)<|sV (.ptr 32 8)<|sS 32 (.var (al.rc a0.ac.bn++rI a0.ac.bJ.bR:: .ref 464 0:: .ref 544 0::rI a0.ac.dw::rI a0.ac.bA::rI a0.ac.cw::rI a0.ac.dT::rI a0.ac.cq::bO.rc a0.bQ++[rI a0.bA])) ?_
 refine sN<|sO<|F4 Z Z<|sV (rI 1)<|sM Z<|sN<|WL.round<|F5 (R0:=[(2,.ptr 32 0),(3,.ptr 48 0),(4,.ptr 64 0),(17,.plit [.ptr 32 6,.ptr 32 14]),(18,rI 2),(19,rI 1)]) (B0:=[(32,.var (al.rc a0.ac.bn++rI a0.ac.bJ.bR::rL j::rL k::rI a0.ac.dw::rI a0.ac.bA::rI a0.ac.cw::rI a0.ac.dT::rI a0.ac.cq::bO.rc a0.bQ++[rI a0.bA])),(48,.var [rM aj.pd a1.a8]),(64,.var zZ0)]) Z Z<|sT<|sN<|qS<|cT<|qK<|qS<|qB<|gU Z ?_
 refine sV (.pcp (.ptr 32 14))<|sV (.ptr 32 14)<|sA Z<|sN<|F6 Z Z<|mM Z<|sM Z<|sV (.ptr 32 14)<|sV (.ptr 32 15)<|sL Z<|bE h fun u h3 h=>cR (.ref 464 0) [(464,.arr 0 3 (u.map (PD.int .i64)))] (oz h3)<|sM Z<|sV (.ptr 32 14) ?_
 refine sV (.ptr 32 16)<|sL Z<|bE h fun B h4 h=>cR (.ref 544 0) [(544,.arr 0 3 (B.map (PD.int .i64)))] (oz h4)<|sV (.ptr 32 14)<|sV (.ptr 32 15)<|sS 32 (.var (al.rc a0.ac.bn++[rI a0.ac.bJ.bR,rL j,rL k,rI a0.ac.dw,rI a0.ac.bA,rI a0.ac.cw,rI a0.ac.dT,rI a0.ac.cq,rI a0.bQ.bF.bR,.ref 464 0,rL a0.bQ.bF.bd,rI a0.bQ.cf,rI a0.bQ.bY,rI a0.bA]))<|sV (.ptr 32 14)<|sV (.ptr 32 16)<|sS 32 (.var (al.rc a0.ac.bn++[rI a0.ac.bJ.bR,rL j,rL k,rI a0.ac.dw,rI a0.ac.bA,rI a0.ac.cw,rI a0.ac.dT,rI a0.ac.cq,rI a0.bQ.bF.bR,.ref 464 0,.ref 544 0,rI a0.bQ.cf,rI a0.bQ.bY,rI a0.bA])) ?_
 refine sN<|sO<|F4 Z Z<|sV (rI 2)<|sM Z<|sN<|WL.round<|F5 (R0:=[(2,.ptr 32 0),(3,.ptr 48 0),(4,.ptr 64 0),(17,.plit [.ptr 32 6,.ptr 32 14]),(18,rI 2),(19,rI 2)]) (B0:=[(32,.var (al.rc a0.ac.bn++[rI a0.ac.bJ.bR,rL j,rL k,rI a0.ac.dw,rI a0.ac.bA,rI a0.ac.cw,rI a0.ac.dT,rI a0.ac.cq,rI a0.bQ.bF.bR,rL u,rL B,rI a0.bQ.cf,rI a0.bQ.bY,rI a0.bA])),(48,.var [rM aj.pd a1.a8]),(64,.var zZ0)]) Z Z<|sU<|sN<|qS<|cF<|qX<|qE<|gU Z<|sB (.ptr 112 0) 112 (.var [.pY]) ?_
 refine sN<|qS<|gU Z<|sV (.ptr 48 0)<|sL Z<|sE (rI (a1.a8.length:Int)) (sb _ _)<|sV (r0)<|sN<|bE h fun D I h=>F1 (F2 (WL.rG I (fun s=>gI 0 39 8 [(2,.ptr 32 0),(4,.ptr 64 0),(7,.ptr 112 0),(41,rM aj.pd a1.a8),(42,rI (a1.a8.length:Int)),(43,rI s.1)] [(32,.var (al.rc a0.ac.bn++[rI a0.ac.bJ.bR,rL j,rL k,rI a0.ac.dw,rI a0.ac.bA,rI a0.ac.cw,rI a0.ac.dT,rI a0.ac.cq,rI a0.bQ.bF.bR,rL u,rL B,rI a0.bQ.cf,rI a0.bQ.bY,rI a0.bA])),(64,.var zZ0),(112,.var [.ref 1648 0]),(1648,.arr 0 93 (s.2.map aj.pd))]) (fun o=>gX 2 0 39 23 [(2,.ptr 32 0),(4,.ptr 64 0),(7,.ptr 112 0)] [(32,.var (al.rc a0.ac.bn++[rI a0.ac.bJ.bR,rL j,rL k,rI a0.ac.dw,rI a0.ac.bA,rI a0.ac.cw,rI a0.ac.dT,rI a0.ac.cq,rI a0.bQ.bF.bR,rL u,rL B,rI a0.bQ.cf,rI a0.bQ.bY,rI a0.bA])),(64,.var zZ0),(112,.var [rM aj.pd o])]) Z ?_ ?_))
 ·rintro⟨s5,s6⟩ F E q8 q h
  refine gS Z q<|sF h ?_ ?_<;>intro h
  ·refine sN<|qS<|cT<|qK<|qS<|qB<|gU Z<|bE h fun g Q h=>eG Q Z<|sV (.d (aj.pd g))<|sB (.ptr 144 0) 144 (.var [rS [],rS [],rS [],rS [],.pY])<|sS 144 (.var (aj.rc g))<|sN<|gU Z<|sV (.ptr 144 4) ?_
   refine sL Z<|bE h fun C T h=>cR (.ref 784 0) [(784,.arr 0 90 (C.map az.pd))] (clone_71 T)<|sV (.ptr 144 4)<|sS 144 (.var (bi.rc g.a7++[.ref 784 0]))<|sN<|qS<|gU Z<|sV (.ptr 144 4)<|sL Z<|WO.lenR Z Z Z Z Z Z Z Z Z<|sV (r0)<|sN<|bE h fun K H h=>F1 (F2 (WL.rG H (fun s=>gI 0 39 12 [(2,.ptr 32 0),(4,.ptr 64 0),(7,.ptr 112 0),(9,.ptr 144 0),(41,rM aj.pd a1.a8),(42,rI (a1.a8.length:Int)),(43,rI s.1),(53,rI (C.length:Int)),(54,rI s.2.1)] [(32,.var (al.rc a0.ac.bn++[rI a0.ac.bJ.bR,rL j,rL k,rI a0.ac.dw,rI a0.ac.bA,rI a0.ac.cw,rI a0.ac.dT,rI a0.ac.cq,rI a0.bQ.bF.bR,rL u,rL B,rI a0.bQ.cf,rI a0.bQ.bY,rI a0.bA])),(64,.var zZ0),(112,.var [.ref 1648 0]),(144,.var (bi.rc g.a7++[.ref 784 0])),(784,.arr 0 90 (s.2.2.2.map az.pd)),(1648,.arr 0 93 (s.2.2.1.map aj.pd))]) (fun o=>gX 4 0 39 21 [(2,.ptr 32 0),(4,.ptr 64 0),(7,.ptr 112 0),(9,.ptr 144 0),(41,rM aj.pd a1.a8),(42,rI (a1.a8.length:Int)),(43,rI o.1)] [(32,.var (al.rc a0.ac.bn++[rI a0.ac.bJ.bR,rL j,rL k,rI a0.ac.dw,rI a0.ac.bA,rI a0.ac.cw,rI a0.ac.dT,rI a0.ac.cq,rI a0.bQ.bF.bR,rL u,rL B,rI a0.bQ.cf,rI a0.bQ.bY,rI a0.bA])),(64,.var zZ0),(112,.var [.ref 1648 0]),(144,.var (bi.rc g.a7++[.ref 784 0])),(784,.arr 0 90 (o.2.2.map az.pd)),(1648,.arr 0 93 (o.2.1.map aj.pd))]) Z ?_ ?_))
   ·rintro⟨c4,f,c5,L⟩ F E c8 q h
    refine gS Z q<|sF h ?_ ?_<;>intro h
    ·refine sN<|qS<|cT<|qK<|qS<|qB<|gU Z<|sM Z<|sA Z<|sN<|bE h fun d2 U h=>F3 (Ad U Z Z Z Z) Z<|sV (.ptr 144 4)<|sL Z<|sM Z ?_
     refine sV (.ptr 144 4)<|sL Z<|sM Z<|bE h fun d3 W h=>WO.eltH W Z Z Z Z Z Z Z Z<|sV (.elt 784 0 (f).toNat 7)<|sV (.elt 784 0 (f).toNat 7)<|bE h fun d4 X h=>WO.loadH X Z Z Z Z Z Z<|bE h fun O Y h=>cR (.ref 1072 0) [(1072,.arr 0 149 (O.map bg.pd))] (clone_72 Y)<|bE h fun d5 a5 h=>WO.eltH a5 Z Z Z Z Z Z Z Z<|sV (.elt 784 0 (f).toNat 7)<|sV (.elt 784 0 (f).toNat 7) ?_
     refine bE h fun d6 a6 h=>WO.storeH a6 Z Z Z Z Z Z Z Z ?_
     refine sN<|sO<|gU Z<|sV (.ptr 144 4)<|sL Z<|sM Z<|bE h fun d7 a9 h=>WO.eltH a9 Z Z Z Z Z Z Z Z<|sV (.elt 784 0 (f).toNat 7)<|sV (.elt 784 0 (f).toNat 7)<|bE h fun d8 b0 h=>WO.loadH b0 Z Z Z Z Z Z<|WO.lenR Z Z Z Z Z Z Z Z Z<|sV (r0)<|sN<|bE h fun c3 G h=>?_
     refine F1 (F2 (WL.rG G (fun s=>gI 0 39 16 [(2,.ptr 32 0),(4,.ptr 64 0),(7,.ptr 112 0),(9,.ptr 144 0),(10,rI f),(41,rM aj.pd a1.a8),(42,rI (a1.a8.length:Int)),(43,rI c4),(53,rI (C.length:Int)),(54,rI f),(77,.ref 1072 0),(78,rI (O.length:Int)),(79,rI s.1)] [(32,.var (al.rc a0.ac.bn++[rI a0.ac.bJ.bR,rL j,rL k,rI a0.ac.dw,rI a0.ac.bA,rI a0.ac.cw,rI a0.ac.dT,rI a0.ac.cq,rI a0.bQ.bF.bR,rL u,rL B,rI a0.bQ.cf,rI a0.bQ.bY,rI a0.bA])),(64,.var zZ0),(112,.var [.ref 1648 0]),(144,.var (bi.rc g.a7++[.ref 784 0])),(784,.hole 0 90 (L.map az.pd) (Int.toNat f) 7 (.ref 1072 0)),(1072,.arr 0 149 (s.2.map bg.pd)),(1648,.arr 0 93 (c5.map aj.pd))]) (fun o=>gX 6 0 39 20 [(2,.ptr 32 0),(4,.ptr 64 0),(7,.ptr 112 0),(9,.ptr 144 0),(41,rM aj.pd a1.a8),(42,rI (a1.a8.length:Int)),(43,rI o.1),(53,rI (C.length:Int)),(54,rI o.2.1)] [(32,.var (al.rc a0.ac.bn++[rI a0.ac.bJ.bR,rL j,rL k,rI a0.ac.dw,rI a0.ac.bA,rI a0.ac.cw,rI a0.ac.dT,rI a0.ac.cq,rI a0.bQ.bF.bR,rL u,rL B,rI a0.bQ.cf,rI a0.bQ.bY,rI a0.bA])),(64,.var zZ0),(112,.var [.ref 1648 0]),(144,.var (bi.rc g.a7++[.ref 784 0])),(784,.hole 0 90 (L.map az.pd) (Int.toNat f) 7 (.ref 1072 0)),(1072,.arr 0 149 (o.2.2.2.map bg.pd)),(1648,.arr 0 93 (o.2.2.1.map aj.pd))]) Z ?_ ?_))
     ·rintro⟨N,d1⟩ F E d0 q h
      refine gS Z q<|sF h ?_ ?_<;>intro h
      ·refine sN<|qS<|cT<|qK<|qS<|qB<|gU Z<|sM Z<|bE h fun e0 b1 h=>WO.tD b1 Z Z Z Z Z Z Z Z<|bE h fun c6 b2 h=>WO.sY b2 Z Z Z Z Z Z<|sB (.ptr 192 0) 192 (.var [r0,r0,r0,r0,r0,r0,r0,.pY,r0,r0])<|sA Z<|sH 192 (.var (bg.rc c6)) ?_
       refine sN<|bE h fun e1 b3 h=>F6 (Ad b3 Z Z Z Z) Z<|sV (.ptr 144 4)<|sL Z<|sM Z<|bE h fun e2 b4 h=>WO.eltH b4 Z Z Z Z Z Z Z Z<|sV (.elt 784 0 (f).toNat 7)<|sV (.elt 784 0 (f).toNat 7)<|bE h fun e3 b5 h=>WO.loadH b5 Z Z Z Z Z Z<|sM Z<|sV (.ptr 192 7)<|sL Z ?_
       refine bE h fun c7 b6 h=>cR (.ref 1504 0) [(1504,.arr 0 3 (c7.map (PD.int .i64)))] (oz b6)<|bE h fun e4 c0 h=>WO.eltH c0 Z Z Z Z Z Z Z Z<|sV (.elt 1072 0 (N).toNat 7)<|bE h fun e5 c1 h=>WO.storeH c1 Z Z Z Z Z Z Z Z ?_
       refine sN<|sO<|F4 Z Z<|sV (rI (rW (N+(1:Int))))<|sM Z<|sN ?_
       cases oI h
       exact⟨rfl,(Ac rfl rfl (by decide) (by intro _;kernel_rfl) rfl)⟩
      refine sN<|qS<|cF<|qX ?_
      cases oI h
      exact⟨nofun,rfl,rfl⟩
     intro e F E he J
     obtain⟨rfl,q⟩:=J
     refine qE<|F4 q Z<|sV (rI (rW (c3.2.1+(1:Int))))<|sM Z<|sN ?_
     cases oI h
     exact⟨rfl,(Ac rfl rfl (by decide) (by intro _;kernel_rfl) rfl)⟩
    refine sN<|qS<|cF<|qX ?_
    cases oI h
    exact⟨nofun,rfl,rfl⟩
   intro e F E he J
   obtain⟨rfl,q⟩:=J
   refine qE<|F4 q Z<|sV (.ptr 112 0)<|sL Z<|sV (.agg (bi.rc g.a7++[.ref 784 0]))<|sB (.d (.lst [aj.pd (aj.mk g.a7 K.2.2)])) 784 .dead<|bE h fun e6 c2 h=>aR c2 (fun _=>Z) Z<|sV (.ptr 112 0)<|sS 112 (.var [.ref 1648 1])<|sN<|F4 Z Z<|sV (rI (rW (K.1+(1:Int))))<|sM Z<|sN ?_
   cases oI h
   exact⟨rfl,rfl⟩
  refine sN<|qS<|cF<|qX ?_
  cases oI h
  exact⟨nofun,rfl,rfl⟩
 intro e F E he J
 obtain⟨rfl,q⟩:=J
 refine qE<|gS Z q<|sV (.d (ah.pd (ah.mk (bh.mk a0.ac.bn (bc.mk a0.ac.bJ.bR j k) a0.ac.dw a0.ac.bA a0.ac.cw a0.ac.dT a0.ac.cq) (bO.mk (bc.mk a0.bQ.bF.bR u B) a0.bQ.cf a0.bQ.bY) a0.bA)))<|sV (.d (ae.pd (ae.mk D)))<|sG (.agg (al.rc a0.ac.bn++[rI a0.ac.bJ.bR,rL j,rL k,rI a0.ac.dw,rI a0.ac.bA,rI a0.ac.cw,rI a0.ac.dT,rI a0.ac.cq,rI a0.bQ.bF.bR,rL u,rL B,rI a0.bQ.cf,rI a0.bQ.bY,rI a0.bA,rM aj.pd D,.pY]))<|sH 64 (.var (al.rc a0.ac.bn++[rI a0.ac.bJ.bR,rL j,rL k,rI a0.ac.dw,rI a0.ac.bA,rI a0.ac.cw,rI a0.ac.dT,rI a0.ac.cq,rI a0.bQ.bF.bR,rL u,rL B,rI a0.bQ.cf,rI a0.bQ.bY,rI a0.bA,rM aj.pd D,.pY]))<|sN<|qR ?_
 cases oI h
 exact qG
section
attribute [local irreducible] HM HU HF HB WO WC QS QB tO
instance {f:(List bg)}:LI (fI f) 3 (fun s=>[(14,rI s.1)]) (fun s=>[(112,.arr 0 149 (s.2.map bg.pd))]) (jX 7 (fun o=>[]) fun o=>[(112,.arr 0 149 (o.map bg.pd))]):=⟨⟩
instance {a0:az}:CE prog bj ext (iw a0) 238 [.d (az.pd a0)] [] fun r=>(.d (az.pd r),[]):=⟨fun h=>Ev.au h Tryz.func238⟩
instance {f:(List az)}:LI (gV f) 3 (fun s=>[(12,rI s.1)]) (fun s=>[(112,.arr 0 90 (s.2.map az.pd))]) (jX 7 (fun o=>[]) fun o=>[(112,.arr 0 90 (o.map az.pd))]):=⟨⟩
instance {a0:aj}:CE prog bj ext (kT a0) 185 [.d (aj.pd a0)] [] fun r=>(.agg (bi.rc r.a7++[.ref 0 0]),[.arr 0 90 (r.cn.map az.pd)]):=⟨fun h=>Ev.au h Tryz.func185⟩
instance {a0:ae}{a1:bi}:LI (kc a0 a1) 2 (fun s=>[(11,rI s)]) (fun s=>[]) (jY 7 (fun y=>[]) (fun y=>[]) Tryz.f130 fun r=>(.tup [.d (aj.pd r.1),rB r.2],[])):=⟨⟩
instance {a0:ae}{a1:bi}:CE prog bj ext (mq a0 a1) 130 [.d (ae.pd a0),.d (bi.pd a1)] [] fun r=>(.tup [.d (aj.pd r.1),rB r.2],[]):=⟨fun h=>Ev.au h Tryz.func130⟩
instance {a0:aj}{a1:Int}:LI (lG a0 a1) 2 (fun s=>[(11,rI s)]) (fun s=>[]) (jY 7 (fun y=>[]) (fun y=>[]) Tryz.f131 fun r=>(.tup [.d (az.pd r.1),rB r.2],[])):=⟨⟩
instance {a0:aj}{a1:Int}:CE prog bj ext (nF a0 a1) 131 [.d (aj.pd a0),rI a1] [] fun r=>(.tup [.d (az.pd r.1),rB r.2],[]):=⟨fun h=>Ev.au h Tryz.func131⟩
instance {a0:ae}{a1:bi}{a2:Int}:CE prog bj ext (kR a0 a1 a2) 92 [.d (ae.pd a0),.d (bi.pd a1),rI a2] [] fun r=>(.tup [.d (az.pd r.1),rI r.2],[]):=⟨fun h=>Ev.au h Tryz.func92⟩
instance {a0:ah}{a1:ae}{a2:aa}:CE prog bj ext (eC a0 a1 a2) 135 [.d (ah.pd a0),.d (ae.pd a1),.d (aa.pd a2)] [] fun r=>(.tup [.d (aw.pd r.1),.d (az.pd r.2.1),rB r.2.2],[]):=⟨fun h=>Ev.au h Tryz.func135⟩
instance {a0:ah}{a1:ae}{a2:aa}:CE prog bj ext (lM a0 a1 a2) 95 [.d (ah.pd a0),.d (ae.pd a1),.d (aa.pd a2)] [] fun r=>(.tup [.d (aw.pd r.1),rB r.2],[]):=⟨fun h=>Ev.au h Tryz.func95⟩
instance {f:(List aa)}{a0:ah}{a1:ae}:LI (kN f a0 a1) 8 (fun s=>[(26,rI s.1)]) (fun s=>[(656,.arr 0 70 (s.2.1.map aa.pd)),(720,.arr 0 180 (s.2.2.map aw.pd))]) (jX 14 (fun o=>[]) fun o=>[(656,.arr 0 70 (o.1.map aa.pd)),(720,.arr 0 180 (o.2.map aw.pd))]):=⟨⟩
instance {a0:ah}{a1:ae}{a2:(List aa)}:CE prog bj ext (nD a0 a1 a2) 51 [.d (ah.pd a0),.d (ae.pd a1),rM aa.pd a2] [] fun r=>(.tup [rM aa.pd r.1,rM aw.pd r.2.1,rI r.2.2],[]):=⟨fun h=>Ev.au h Tryz.func51⟩
instance {a0:ag}{a1:ag}:CE prog bj ext (fd a0 a1) 191 [.d (ag.pd a0),.d (ag.pd a1)] [] fun r=>(rI r,[]):=⟨fun h=>Ev.au h Tryz.func191⟩
instance {a0:aw}{a1:aw}:CE prog bj ext (jV a0 a1) 142 [.d (aw.pd a0),.d (aw.pd a1)] [] fun r=>(rI r,[]):=⟨fun h=>Ev.au h Tryz.func142⟩
instance {a0:Int}{a1:Int}{d0:(List aw)}:CE prog bj ext (gO a0 a1 d0) 141 [rI a0,rI a1,.ptr 0 0] [.var [rM aw.pd d0]] fun r=>(rI r,[.var [rM aw.pd d0]]):=⟨fun h=>Ev.au h Tryz.func141⟩
end
theorem fh{a0:Int}{a1:Int}{d0:(List Int)}{d1:(List aw)}{r:(List Int)}(h:db a0 a1 d0 d1=some r):EvP prog bj ext 240 [.ref 0 0,rI a0,rI a1,.clo 141 [.ptr 1 0]] [.arr 0 3 (d0.map (PD.int .i64)),.var [rM aw.pd d1]] (.tup [],[.arr 0 3 (r.map (PD.int .i64)),.var [rM aw.pd d1]]):=by
 refine Ev.body Z Tryz.func240 Z Zk<|gU Z<|sM Z<|sV (rI (rW (a0+(1:Int))))<|sA Z<|sN<|bE h fun a5 q h=>?_
 cases oI h
 refine F1 (F2 (WL.uG q (fun s=>gI 2 240 1 [(0,.ref 0 0),(1,rI a0),(2,rI a1),(3,.clo 141 [.ptr 1 0]),(8,rI s.1)] [(0,.arr 0 3 (s.2.map (PD.int .i64))),(1,.var [rM aw.pd d1])]) Z ?_))
 rintro⟨s1,s2⟩ R' Y q3 j h
 refine qS<|gS Z j<|mM Z<|sF h ?_ ?_<;>intro h
 ·refine sN<|cT<|qK<|qS<|qB<|gU Z<|sM Z<|sA Z<|sN<|bE h fun U k h=>F1 (F2 (WL.rG k (fun s=>gI 2 240 4 [(0,.ref 0 0),(1,rI a0),(2,rI a1),(3,.clo 141 [.ptr 1 0]),(8,rI s1),(9,rI s.1)] [(0,.arr 0 3 (s.2.map (PD.int .i64))),(1,.var [rM aw.pd d1])]) (fun o=>gX 2 2 240 2 [(0,.ref 0 0),(1,rI a0),(2,rI a1),(3,.clo 141 [.ptr 1 0]),(8,rI o.1)] [(0,.arr 0 3 (o.2.map (PD.int .i64))),(1,.var [rM aw.pd d1])]) Z ?_ ?_))
  ·rintro⟨B,s6⟩ R' Y q9 j h
   refine qS<|F3 j Z<|mM Z<|sF h ?_ ?_<;>intro h
   ·refine mM Z<|mM Z<|bE h fun a6 C h=>WO.tD C Z Z Z Z Z Z Z Z<|bE h fun a9 D h=>WO.sY D Z Z Z Z Z Z<|mM Z<|sV (rI (rW (B-(1:Int))))<|bE h fun b0 E h=>WO.tD E Z Z Z Z Z Z Z Z<|bE h fun b1 F h=>WO.sY F Z Z Z Z Z Z ?_
    refine bE h fun u G h=>cR (rI u) [(1,.var [rM aw.pd d1])] (ce G)<|sV (rB (decide (u<(0:Int))))<|sF h ?_ ?_<;>intro h
    ·refine sN<|sO<|cT<|qK<|qS<|qB<|F6 Z Z<|mM Z<|mM Z<|sV (rI (rW (B-(1:Int))))<|mM Z<|sV (rI (rW (B-(1:Int))))<|bE h fun b2 H h=>?_
     refine WO.tD H Z Z Z Z Z Z Z Z<|bE h fun W I h=>WO.sY I Z Z Z Z Z Z<|mM Z<|bE h fun b3 J h=>WO.tD J Z Z Z Z Z Z Z Z<|bE h fun X K h=>WO.sY K Z Z Z Z Z Z<|bE h fun b4 L h=>WO.tD L Z Z Z Z Z Z Z Z<|bE h fun b5 N h=>WO.vw (g:=(PD.int .i64)) (sz:=1) (p:= .int .i64 W) N (fun _=>Z) (fun _=>Z) Z Z Z Z Z Z Z Z Z<|bE h fun b6 O h=>WO.tD O Z Z Z Z Z Z Z Z ?_
     refine bE h fun c0 Q h=>WO.vw (g:=(PD.int .i64)) (sz:=1) (p:= .int .i64 X) Q (fun _=>Z) (fun _=>Z) Z Z Z Z Z Z Z Z Z ?_
     refine sN<|sO<|F4 Z Z<|sM Z<|sV (rI (rW (B-(1:Int))))<|sA Z<|sN ?_
     cases oI h
     exact⟨rfl,rfl⟩
    refine sN<|sO<|cF<|qX ?_
    cases oI h
    exact⟨nofun,rfl,rfl⟩
   refine sM Z<|k3<|k3<|k3<|k3<|sU ?_
   refine sN<|sO<|cF<|qX ?_
   cases oI h
   exact⟨nofun,rfl,rfl⟩
  intro e R' Y he hq
  obtain⟨rfl,j⟩:=hq
  refine qE<|F4 j Z<|sM Z<|sV (rI (rW (U.1+(1:Int))))<|sA Z<|sN ?_
  cases oI h
  exact⟨rfl,rfl⟩
 refine sN<|cF<|qX<|pe h (fun z33 f hz=>?_)
 obtain rfl:=E9 hz
 refine⟨(fun he=>by cases he),fun T=>?_⟩
 subst T
 have h:=f
 refine qE ?_
 exact oI h▸qD
theorem mG{a0:Int}{d0:(List Int)}{d1:(List aw)}{r:(List Int)}(h:dX a0 d0 d1=some r):EvP prog bj ext 190 [.ref 0 0,rI a0,.clo 141 [.ptr 1 0]] [.arr 0 3 (d0.map (PD.int .i64)),.var [rM aw.pd d1]] (.tup [],[.arr 0 3 (r.map (PD.int .i64)),.var [rM aw.pd d1]]):=by
 refine Ev.body Z Tryz.func190 Z Zk<|gU Z<|sV (rI 20)<|sN<|gU Z<|sM Z<|sV (r0)<|sA Z<|sN<|qS<|bE h fun K q h=>F1 (F2 (WL.rG q (fun s=>gI 2 190 2 [(0,.ref 0 0),(1,rI a0),(2,.clo 141 [.ptr 1 0]),(6,rI 20),(7,rI s.1),(8,rI s.2.1)] [(0,.arr 0 3 (s.2.2.map (PD.int .i64))),(1,.var [rM aw.pd d1])]) (fun o=>gX 0 2 190 6 [(0,.ref 0 0),(1,rI a0),(2,.clo 141 [.ptr 1 0]),(6,rI 20),(7,rI o.1)] [(0,.arr 0 3 (o.2.map (PD.int .i64))),(1,.var [rM aw.pd d1])]) Z ?_ ?_))
 ·rintro⟨s1,s2,U⟩ E D T f h
  refine qS<|gS Z f<|mM Z<|sF h ?_ ?_<;>intro h
  ·refine sN<|cT<|qK<|qB<|gU Z<|mM Z<|mM Z<|bE h fun Q I h=>cR (.tup []) [(0,.arr 0 3 (Q.map (PD.int .i64))),(1,.var [rM aw.pd d1])] (fh I)<|sN<|gU Z<|sM Z<|sA Z ?_
   refine sN<|F4 Z Z<|mM Z<|sV (rI (rW (s2+(20:Int))))<|sA Z<|sN ?_
   cases oI h
   exact⟨rfl,rfl⟩
  refine sN<|cF<|qX ?_
  cases oI h
  exact⟨nofun,rfl,rfl⟩
 intro e E D he G
 obtain⟨rfl,f⟩:=G
 refine qE<|gS Z f<|mM Z<|mM Z<|bE h fun j F h=>cR (.tup []) [(0,.arr 0 3 (j.map (PD.int .i64))),(1,.var [rM aw.pd d1])] (fh F)<|sN<|bE h fun L B h=>?_
 cases oI h
 refine F1 (F2 (WL.uG B (fun s=>gI 2 190 7 [(0,.ref 0 0),(1,rI a0),(2,.clo 141 [.ptr 1 0]),(6,rI s)] [(0,.arr 0 3 (j.map (PD.int .i64))),(1,.var [rM aw.pd d1])]) Z ?_))
 rintro g E D N f h
 refine qS<|gS Z f<|mM Z<|sF h ?_ ?_<;>intro h
 ·refine sN<|cT<|qK<|qB<|gU Z<|sM Z<|sV (rI (rW ((2:Int)*g)))<|sV (r0)<|sA Z<|sN<|qS<|bE h fun C u h=>F1 (F2 (WL.rG u (fun s=>gI 2 190 9 [(0,.ref 0 0),(1,rI a0),(2,.clo 141 [.ptr 1 0]),(6,rI g),(7,r0),(8,rI (rW ((2:Int)*g)))] [(0,.arr 0 3 (j.map (PD.int .i64))),(1,.var [rM aw.pd d1])]) (fun o=>gX 4 2 190 13 [(0,.ref 0 0),(1,rI a0),(2,.clo 141 [.ptr 1 0]),(6,rI o),(7,r0)] [(0,.arr 0 3 (j.map (PD.int .i64))),(1,.var [rM aw.pd d1])]) Z ?_ ?_))
  ·rintro⟨⟩ E D O f h
   refine qS<|gS Z f<|mM Z<|sF h ?_ ?_<;>intro h
   ·refine sN<|cT<|qK<|qB<|gU Z<|mM Z<|mM Z<|sV (rI (rW ((0:Int)+g)))<|sM Z<|sM Z ?_
    cases h
   refine sN<|cF<|qX ?_
   cases oI h
   exact⟨nofun,rfl,rfl⟩
  intro e E D he G
  obtain⟨rfl,f⟩:=G
  refine qE<|qS<|gS Z f<|mM Z<|sV (rI (rW ((0:Int)+C)))<|sA Z<|sN<|gU Z<|mM Z<|sF h ?_ ?_<;>intro h
  ·refine sN<|cT<|F4 Z Z<|mM Z<|mM Z<|sM Z ?_
   cases h
  refine sN<|cF<|qK<|F4 Z Z<|sM Z<|sV (rI (rW (C*(2:Int))))<|sA Z<|sN ?_
  cases oI h
  exact⟨rfl,rfl⟩
 refine sN<|cF<|qX<|pe h (fun z21 k J=>?_)
 obtain rfl:=E9 J
 refine⟨(fun he=>by cases he),fun H=>?_⟩
 subst H
 have h:=k
 refine qE ?_
 exact oI h▸qD
instance {a0:Int}{d0:(List Int)}{d1:(List aw)}:CE prog bj ext (dX a0 d0 d1) 190 [.ref 0 0,rI a0,.clo 141 [.ptr 1 0]] [.arr 0 3 (d0.map (PD.int .i64)),.var [rM aw.pd d1]] fun r=>(.tup [],[.arr 0 3 (r.map (PD.int .i64)),.var [rM aw.pd d1]]):=⟨fun h=>mG h⟩
section
attribute [local irreducible] HM HU HF HB WO WC QS QB tO
instance {d0:(List Int)}{d1:(List aw)}:CE prog bj ext (dQ d0 d1) 140 [.ref 0 0,.clo 141 [.ptr 1 0]] [.arr 0 3 (d0.map (PD.int .i64)),.var [rM aw.pd d1]] fun r=>(.tup [],[.arr 0 3 (r.map (PD.int .i64)),.var [rM aw.pd d1]]):=⟨fun h=>Ev.au h Tryz.func140⟩
instance {f:(List Int)}:LI (la f) 3 (fun s=>[(10,rI s.1)]) (fun s=>[(112,.arr 0 3 (s.2.map (PD.int .i64)))]) (jX 7 (fun o=>[]) fun o=>[(112,.arr 0 3 (o.map (PD.int .i64)))]):=⟨⟩
instance {a0:(List aw)}:CE prog bj ext (lC a0) 97 [rM aw.pd a0] [] fun r=>(rL r,[]):=⟨fun h=>Ev.au h Tryz.func97⟩
instance {a0:Int}:LI (je a0) 3 (fun s=>[(14,rI s.1)]) (fun s=>[(112,.arr 0 3 (s.2.1.map (PD.int .i64))),(160,.arr 0 3 (s.2.2.map (PD.int .i64)))]) (jX 7 (fun o=>[]) fun o=>[(112,.arr 0 3 (o.1.map (PD.int .i64))),(160,.arr 0 3 (o.2.map (PD.int .i64)))]):=⟨⟩
instance {a0:Int}:CE prog bj ext (jd a0) 98 [rI a0] [] fun r=>(.agg [.ref 0 0,.ref 1 0],[.arr 0 3 (r.fnext.map (PD.int .i64)),.arr 0 3 (r.fback.map (PD.int .i64))]):=⟨fun h=>Ev.au h Tryz.func98⟩
instance {a0:cx}:CE prog bj ext (mP a0) 99 [.d (cx.pd a0)] [] fun r=>(rI r,[]):=⟨fun h=>Ev.au h Tryz.func99⟩
end
theorem chain_window_ev{a1:bh}{a2:(List aw)}{a3:(List Int)}{d0:(List Int)}{d1:(List Int)}{r:(List Int)×(List Int)×(List Int)}(h:nC a1 a2 a3 d0 d1=some r):EvP prog bj ext 100 [.agg [.ref 0 0,.ref 1 0],.d (bh.pd a1),rM aw.pd a2,rL a3] [.arr 0 3 (d0.map (PD.int .i64)),.arr 0 3 (d1.map (PD.int .i64))] (rL r.1,[.arr 0 3 (r.2.1.map (PD.int .i64)),.arr 0 3 (r.2.2.map (PD.int .i64))]):=by
 refine Ev.body Z Tryz.func100 Z Zk<|gU Z<|sB (.ptr 64 0) 64 (.var [.ref 0 0,.ref 1 0])<|sB (.ptr 80 0) 80 (.var (bh.rc a1))<|sV .pY<|sN<|gU Z<|sV .pY<|sN<|F3 Z Z<|sV (.ptr 64 0)<|sL Z<|sV (.agg [.ref 0 0,.ref 1 0])<|bE h fun T h1 h=>cR (rI T) [ ] (ce h1) ?_
 refine bE h fun x3 I h=>WO.tD I Z Z Z Z Z Z Z Z<|bE h fun x4 J h=>WO.sY J Z Z Z Z Z Z<|sA Z ?_
 refine sN<|sO<|qS<|gU Z<|sM Z<|sA Z<|sN<|bE h fun N j h=>F1 (F2 (WL.rG j (fun s=>gI 2 100 4 [(2,rM aw.pd a2),(3,rL a3),(4,.ptr 64 0),(5,.ptr 80 0),(9,.ref 928 0),(10,rI x4),(11,rI s.1)] [(0,.arr 0 3 (d0.map (PD.int .i64))),(1,.arr 0 3 (d1.map (PD.int .i64))),(64,.var [.ref 0 0,.ref 1 0]),(80,.var (bh.rc a1)),(928,.arr 0 3 (s.2.map (PD.int .i64)))]) (fun o=>gX 0 2 100 7 [(9,.ref 928 0)] [(0,.arr 0 3 (d0.map (PD.int .i64))),(1,.arr 0 3 (d1.map (PD.int .i64))),(928,.arr 0 3 (o.map (PD.int .i64)))]) Z ?_ ?_))
 ·rintro⟨O,Q⟩ H G q8 F h
  unfold dv at h
  refine qS<|F3 F Z<|sM Z<|sV (.agg [.ref 0 0,.ref 1 0])<|bE h fun x9 K h=>cR (rI x9) [ ] (ce K)<|sF h ?_ ?_<;>intro h
  ·refine mM Z<|WO.lenR Z Z Z Z Z Z Z Z Z<|sV (rB (decide ((Q.length:Int)<(16:Int))))<|sF h ?_ ?_<;>intro h
   ·refine mM Z<|mM Z<|bE h fun U k h=>eG k Z<|sC Z<|bE h fun f q h=>eG q Z<|sV (.cptr [.int .i64 f.bv,.int .i64 f.cg,.int .i64 f.cz])<|sC Z<|mM Z<|sM Z<|bE h fun W u h=>?_
    refine eG u Z<|sC Z<|bE h fun g B h=>eG B Z<|sV (.cptr [.int .i64 g.bv,.int .i64 g.cg,.int .i64 g.cz])<|sC Z<|sV (rI (rW (f.bv-g.bv)))<|sV (.ptr 80 11)<|sL Z<|sV (rB (decide ((rW (f.bv-g.bv))<=a1.cw)))<|sF h ?_ ?_<;>intro h
    ·refine sN<|sO<|cT<|qK<|qS<|qB<|F4 Z Z<|mM Z<|sV (.d (.lst ([O].map (PD.int .i64))))<|bE h fun X C h=>aR C (fun _=>Z) Z<|sA Z<|sN<|F4 Z Z<|sV (.ptr 64 0) ?_
     refine sL Z<|sM Z<|bE h fun Y D h=>WO.tD D Z Z Z Z Z Z Z Z<|bE h fun a5 E h=>WO.sY E Z Z Z Z Z Z<|sA Z<|sN ?_
     cases oI h
     exact⟨rfl,rfl⟩
    refine sN<|sO<|cF<|qX ?_
    cases oI h
    exact⟨nofun,rfl,rfl⟩
   refine sM Z<|k3<|k3<|k3<|k3<|sK<|sK ?_
   refine k3<|k3<|sU ?_
   refine sN<|sO<|cF<|qX ?_
   cases oI h
   exact⟨nofun,rfl,rfl⟩
  refine sM Z<|k3<|sU<|sM Z<|k3<|k3<|sK<|sK<|sK ?_
  refine k3<|k3<|k3<|sK<|sK<|sU ?_
  refine sN<|sO<|cF<|qX ?_
  cases oI h
  exact⟨nofun,rfl,rfl⟩
 intro e H G he L
 obtain⟨rfl,F⟩:=L
 refine qE<|gS Z F<|sM Z<|sA Z<|sN<|qR ?_
 exact oI h▸qD
section
attribute [local irreducible] HM HU HF HB WO WC QS QB tO
instance {a0:bh}{a1:(List aw)}:CE prog bj ext (fF a0 a1) 102 [.d (bh.pd a0),rM aw.pd a1] [] fun r=>(.d (ak.pd r),[]):=⟨fun h=>Ev.au h Tryz.func102⟩
instance {a0:ak}:LI (lc a0) 14 (fun s=>[(40,rI s)]) (fun s=>[]) (jY 20 (fun y=>[]) (fun y=>[]) Tryz.f192 fun r=>(rI r,[])):=⟨⟩
instance {a0:ak}:CE prog bj ext (jz a0) 192 [.d (ak.pd a0)] [] fun r=>(rI r,[]):=⟨fun h=>Ev.au h Tryz.func192⟩
instance {a0:al}{a1:ag}:CE prog bj ext (gR a0 a1) 247 [.d (al.pd a0),.d (ag.pd a1)] [] fun r=>(rB r,[]):=⟨fun h=>Ev.au h Tryz.func247⟩
instance {a0:al}{a1:al}:CE prog bj ext (lF a0 a1) 197 [.d (al.pd a0),.d (al.pd a1)] [] fun r=>(rB r,[]):=⟨fun h=>Ev.au h Tryz.func197⟩
instance {a0:ak}{a1:al}:LI (kY a0 a1) 3 (fun s=>[(18,rI s.1)]) (fun s=>[(224,.arr 0 236 (s.2.map bz.pd))]) (jY 10 (fun y=>[]) (fun y=>[(224,.arr 0 236 (y.map bz.pd))]) Tryz.f198 fun r=>(.tup [rM bz.pd r.1,rI r.2],[])):=⟨⟩
instance {a0:ak}{a1:al}:CE prog bj ext (nH a0 a1) 198 [.d (ak.pd a0),.d (al.pd a1)] [] fun r=>(.tup [rM bz.pd r.1,rI r.2],[]):=⟨fun h=>Ev.au h Tryz.func198⟩
instance {a0:ak}{a1:al}:CE prog bj ext (ia a0 a1) 145 [.d (ak.pd a0),.d (al.pd a1)] [] fun r=>(.tup [rM bz.pd r.1,rI r.2],[]):=⟨fun h=>Ev.au h Tryz.func145⟩
instance {a0:bz}{a1:Int}:CE prog bj ext (gK a0 a1) 146 [.d (bz.pd a0),rI a1] [] fun r=>(rI r,[]):=⟨fun h=>Ev.au h Tryz.func146⟩
instance {a0:ak}{a1:(List bz)}{a2:Int}:LI (lI a0 a1 a2) 3 (fun s=>[(7,rI s.1),(13,rI s.2)]) (fun s=>[]) (jX 8 (fun o=>[(7,rI o)]) fun o=>[]):=⟨⟩
instance {a0:ak}{a1:(List bz)}{a2:Int}:CE prog bj ext (kw a0 a1 a2) 289 [.d (ak.pd a0),rM bz.pd a1,rI a2] [] fun r=>(rI r,[]):=⟨fun h=>Ev.au h Tryz.func289⟩
instance {a1:(List bz)}:LI (my a1) 3 (fun s=>[(20,rI s.1)]) (fun s=>[(272,.arr 0 3 (s.2.map (PD.int .i64)))]) (jX 7 (fun o=>[]) fun o=>[(272,.arr 0 3 (o.map (PD.int .i64)))]):=⟨⟩
instance {g:Int}{f:(List Int)}{a0:ak}{a1:(List bz)}:LI (lH g f a0 a1) 11 (fun s=>[(9,rI s.1),(10,rI s.2.1),(47,rI s.2.2)]) (fun s=>[]) (jX 17 (fun o=>[(9,rI o.1),(10,rI o.2)]) fun o=>[]):=⟨⟩
instance {a0:ak}{a1:(List bz)}:CE prog bj ext (ku a0 a1) 272 [.d (ak.pd a0),rM bz.pd a1] [] fun r=>(.tup [rI r.1,rI r.2],[]):=⟨fun h=>Ev.au h Tryz.func272⟩
instance {a0:ak}{a1:al}:CE prog bj ext (fT a0 a1) 242 [.d (ak.pd a0),.d (al.pd a1)] [] fun r=>(.tup [rI r.1,rI r.2],[]):=⟨fun h=>Ev.au h Tryz.func242⟩
instance {a0:aq}{f:ak}{e2:Int}{g:Int}{j:Bool}{k:ap}:CE prog bj ext (oX a0 f e2 g j k) 328 [.ptr 0 11,.ifc 249 (.d (aq.pd a0))] [.var (ak.rc f++ .pY::rI e2::rI g::rB j::ap.rc k)] fun r=>(.tup [],[.var (ak.rc f++ .ref 1 0::rI e2::rI g::rB j::ap.rc k),.arr 0 249 (r.map aq.pd)]):=⟨fun h=>Ev.au h Tryz.func328⟩
instance {a0:(List aq)}:CE prog bj ext (jL a0) 324 [rM aq.pd a0] [] fun r=>(rI r,[]):=⟨fun h=>Ev.au h Tryz.func324⟩
instance {a0:(List aq)}{a1:Int}{a2:Int}:CE prog bj ext (ky a0 a1 a2) 325 [rM aq.pd a0,rI a1,rI a2] [] fun r=>(rB r,[]):=⟨fun h=>Ev.au h Tryz.func325⟩
instance {a1:Int}{a2:Int}{d0:(List aq)}:CE prog bj ext (kz a1 a2 d0) 326 [.ref 0 0,rI a1,rI a2] [.arr 0 249 (d0.map aq.pd)] fun r=>(.tup [],[.arr 0 249 (r.map aq.pd)]):=⟨fun h=>Ev.au h Tryz.func326⟩
end
theorem heap_up_ev{a0:Int}{B:ak}{e2:Int}{C:Int}{D:Bool}{E:ap}{d1:(List aq)}{r:(List aq)}(h:oT a0 B e2 C D E d1=some r):EvP prog bj ext 273 [.ifc 336 (.ptr 0 11),rI a0] [.var (ak.rc B++ .ref 1 0::rI e2::rI C::rB D::ap.rc E),.arr 0 249 (d1.map aq.pd)] (.tup [],[.var (ak.rc B++ .ref 1 0::rI e2::rI C::rB D::ap.rc E),.arr 0 249 (r.map aq.pd)]):=by
 refine Ev.body Z Tryz.func273 Z Zk<|bE h fun O q h=>?_
 cases oI h
 refine F1 (F2 (WL.uG q (fun s=>gI 2 273 0 [(0,.ifc 336 (.ptr 0 11)),(1,rI s.1)] [(0,.var (ak.rc B++ .ref 1 0::rI e2::rI C::rB D::ap.rc E)),(1,.arr 0 249 (s.2.map aq.pd))]) Z ?_))
 rintro⟨s1,s2⟩ T Q U N h
 unfold og at h
 refine qB<|gS Z N<|sM Z<|sV (rI (rW (s1-(1:Int))))<|bE h fun I K h=>WO.quoG K Z Z Z Z Z Z<|sA Z<|sN<|qS<|gU Z<|mM Z<|sF h ?_ ?_<;>intro h
 ·refine sM Z<|k3<|sK<|sK<|sT<|sN<|cT<|qX<|⟨fun he=>(by cases he),fun _=>?_⟩
  refine pe h (fun W j G=>?_)
  obtain rfl:=E9 G
  refine⟨(fun he=>by cases he),fun f=>?_⟩
  subst f
  have h:=j
  refine qE ?_
  cases oI h
  exact qG
 refine mM Z<|mM Z<|bE h fun J L h=>WO.yc (e:=245) (c:= .ptr 0 11) (vl:= .ref 1 0) (g:=325) (args:=[rI s1,rI I]) (v:=rB J) (u:=[ ]) Z Z (by intro _;kernel_rfl) Z Z Z Z Z Z (ce L) Z Z Z Z<|sV (rB (!J))<|sF h ?_ ?_<;>intro h
 ·refine sN<|cT<|qX<|⟨fun he=>(by cases he),fun _=>?_⟩
  refine pe h (fun z9 k G=>?_)
  obtain rfl:=E9 G
  refine⟨(fun he=>by cases he),fun f=>?_⟩
  subst f
  have h:=k
  refine qE ?_
  cases oI h
  exact qG
 refine sN<|cF<|qK<|gU Z<|mM Z<|sM Z<|bE h fun H F h=>WO.yc (e:=245) (c:= .ptr 0 11) (vl:= .ref 1 0) (g:=326) (args:=[rI I,rI s1]) (v:= .tup []) (u:=[(1,.arr 0 249 (H.map aq.pd))]) Z Z (by intro _;kernel_rfl) Z Z Z Z Z Z (ce F) Z Z Z Z<|sN<|F4 Z Z<|sM Z<|sA Z<|sN ?_
 cases oI h
 exact⟨rfl,rfl⟩
theorem heap_Push_ev{a0:aq}{f:ak}{e2:Int}{j:Int}{k:Bool}{q:ap}{r:(List aq)}(h:mR a0 f e2 j k q=some r):EvP prog bj ext 243 [.ifc 336 (.ptr 0 11),.ifc 249 (.d (aq.pd a0))] [.var (ak.rc f++ .pY::rI e2::rI j::rB k::ap.rc q)] (.tup [],[.var (ak.rc f++ .ref 1 0::rI e2::rI j::rB k::ap.rc q),.arr 0 249 (r.map aq.pd)]):=by
 refine Ev.body Z Tryz.func243 Z Zk<|gU Z<|mM Z<|bE h fun E h1 h=>WO.yd (g:=328) (args:=[.ptr 0 11,.ifc 249 (.d (aq.pd a0))]) (v:= .tup []) (u:=[(0,.var (ak.rc f++ .ref 96 0::rI e2::rI j::rB k::ap.rc q)),(96,.arr 0 249 (E.map aq.pd))]) Z Z (by intro _;kernel_rfl) Z Z Z Z Z (ce h1) Z Z Z Z<|sN<|F4 Z Z<|mM Z<|bE h fun B C h=>WO.yc (e:=245) (c:= .ptr 0 11) (vl:= .ref 96 0) (g:=324) (args:=[]) (v:=rI B) (u:=[ ]) Z Z (by intro _;kernel_rfl) Z Z Z Z Z Z (ce C) Z Z Z Z<|sV (rI (rW (B-(1:Int))))<|bE h fun F D h=>cR (.tup []) [(0,.var (ak.rc f++ .ref 96 0::rI e2::rI j::rB k::ap.rc q)),(96,.arr 0 249 (F.map aq.pd))] (heap_up_ev D) ?_
 refine sN ?_
 cases oI h
 exact qG
instance {a0:aq}{f:ak}{e2:Int}{g:Int}{j:Bool}{k:ap}:CE prog bj ext (mR a0 f e2 g j k) 243 [.ifc 336 (.ptr 0 11),.ifc 249 (.d (aq.pd a0))] [.var (ak.rc f++ .pY::rI e2::rI g::rB j::ap.rc k)] fun r=>(.tup [],[.var (ak.rc f++ .ref 1 0::rI e2::rI g::rB j::ap.rc k),.arr 0 249 (r.map aq.pd)]):=⟨fun h=>heap_Push_ev h⟩
section
attribute [local irreducible] HM HU HF HB WO WC QS QB tO
instance {a0:al}{f:ak}{e2:Int}{g:Int}{j:Bool}{k:ap}:CE prog bj ext (mY a0 f e2 g j k) 193 [.ptr 0 0,.d (al.pd a0)] [.var (ak.rc f++ .pY::rI e2::rI g::rB j::ap.rc k)] fun r=>(rI r.1,[.var (ak.rc f++ .ref 1 0::rI r.2.2::rI g::rB j::ap.rc k),.arr 0 249 (r.2.1.map aq.pd)]):=⟨fun h=>Ev.au h Tryz.func193⟩
instance {a0:Int}{f:ak}{e2:Int}{g:Int}{j:Bool}{k:ap}{d1:(List aq)}:CE prog bj ext (k7 a0 f e2 g j k d1) 194 [.ptr 0 0,rI a0] [.var (ak.rc f++ .ref 1 0::rI e2::rI g::rB j::ap.rc k),.arr 0 249 (d1.map aq.pd)] fun r=>(rB r,[.var (ak.rc f++ .ref 1 0::rI e2::rI g::rB j::ap.rc k),.arr 0 249 (d1.map aq.pd)]):=⟨fun h=>Ev.au h Tryz.func194⟩
end
theorem heap_down_ev{a0:Int}{a1:Int}{e2:ak}{f:Int}{j:Int}{k:Bool}{q:ap}{d1:(List aq)}{r:Bool×(List aq)}(h:nM a0 a1 e2 f j k q d1=some r):EvP prog bj ext 274 [.ifc 336 (.ptr 0 11),rI a0,rI a1] [.var (ak.rc e2++ .ref 1 0::rI f::rI j::rB k::ap.rc q),.arr 0 249 (d1.map aq.pd)] (rB r.1,[.var (ak.rc e2++ .ref 1 0::rI f::rI j::rB k::ap.rc q),.arr 0 249 (r.2.map aq.pd)]):=by
 refine Ev.body Z Tryz.func274 Z Zk<|gU Z<|sU<|sN<|gU Z<|sM Z<|sA Z<|sN<|qS<|bE h fun H C h=>F1 (F2 (WL.rG C (fun s=>gI 2 274 2 [(0,.ifc 336 (.ptr 0 11)),(1,rI a0),(2,rI a1),(7,rI s.1)] [(0,.var (ak.rc e2++ .ref 1 0::rI f::rI j::rB k::ap.rc q)),(1,.arr 0 249 (s.2.map aq.pd))]) (fun o=>gX 0 2 274 11 [(1,rI a0),(7,rI o.1)] [(0,.var (ak.rc e2++ .ref 1 0::rI f::rI j::rB k::ap.rc q)),(1,.arr 0 249 (o.2.map aq.pd))]) Z ?_ ?_))
 ·rintro⟨s1,s2⟩ E D O B h
  refine qB<|gS Z B<|sM Z<|sV (rI (rW ((2:Int)*s1)))<|sV (rI (rW ((rW ((2:Int)*s1))+(1:Int))))<|sA Z<|sN<|qS<|gU Z<|mM Z<|sF h ?_ ?_<;>intro h
  ·refine sM Z<|sK<|sK<|sT<|sN<|cT<|qX<|⟨fun he=>(by cases he),fun _=>?_⟩
   cases oI h
   exact⟨nofun,rfl,rfl⟩
  refine mM Z<|sV (rB (decide ((rW ((rW ((2:Int)*s1))+(1:Int)))<(0:Int))))<|sF h ?_ ?_<;>intro h
  ·refine sN<|cT<|qX<|⟨fun he=>(by cases he),fun _=>?_⟩
   cases oI h
   exact⟨nofun,rfl,rfl⟩
  refine sN<|cF<|qK<|gU Z<|sM Z<|sA Z<|sN<|WC.join (α:=Int) (fun x E D=>ry prog 2 (A E D) (bj.at_ 274 2 8)=some (A [(0,.ifc 336 (.ptr 0 11)),(1,rI a0),(2,rI a1),(7,rI s1),(9,rI x)] [(0,.var (ak.rc e2++ .ref 1 0::rI f::rI j::rB k::ap.rc q)),(1,.arr 0 249 (s2.map aq.pd))])) (fun x=>f9 s2 s1 x=some O) ?_ ?_
  ·refine gU Z<|sM Z<|sV (rI (rW ((rW ((rW ((2:Int)*s1))+(1:Int)))+(1:Int))))<|sA Z<|sN<|gU Z<|mM Z<|sF h ?_ ?_<;>intro h
   ·refine mM Z<|mM Z<|bE h fun J G h=>WO.yc (e:=245) (c:= .ptr 0 11) (vl:= .ref 1 0) (g:=325) (args:=[rI (rW ((rW ((rW ((2:Int)*s1))+(1:Int)))+(1:Int))),rI (rW ((rW ((2:Int)*s1))+(1:Int)))]) (v:=rB J) (u:=[ ]) Z Z (by intro _;kernel_rfl) Z Z Z Z Z Z (ce G) Z Z Z Z<|sF h ?_ ?_<;>intro h
    ·exact sN<|cT<|F4 rfl rfl<|sM rfl<|sA rfl<|sN<|⟨(rW ((rW ((rW ((2:Int)*s1))+(1:Int)))+(1:Int))),rfl,h⟩
    exact sN<|cF<|qK<|⟨(rW ((rW ((2:Int)*s1))+(1:Int))),rfl,h⟩
   exact sM rfl<|k3<|sK<|sU<|sN<|cF<|qK<|⟨(rW ((rW ((2:Int)*s1))+(1:Int))),rfl,h⟩
  rintro K E D B h
  refine qS<|gS Z B<|mM Z<|sM Z<|bE h fun Q L h=>WO.yc (e:=245) (c:= .ptr 0 11) (vl:= .ref 1 0) (g:=325) (args:=[rI K,rI s1]) (v:=rB Q) (u:=[ ]) Z Z (by intro _;kernel_rfl) Z Z Z Z Z Z (ce L) Z Z Z Z<|sF h ?_ ?_<;>intro h
  ·refine sN<|cT<|qX<|⟨fun he=>(by cases he),fun _=>?_⟩
   cases oI h
   exact⟨nofun,rfl,rfl⟩
  refine sN<|cF<|qK<|gU Z<|mM Z<|sM Z<|bE h fun I F h=>WO.yc (e:=245) (c:= .ptr 0 11) (vl:= .ref 1 0) (g:=326) (args:=[rI s1,rI K]) (v:= .tup []) (u:=[(1,.arr 0 249 (I.map aq.pd))]) Z Z (by intro _;kernel_rfl) Z Z Z Z Z Z (ce F) Z Z Z Z<|sN<|F4 Z Z<|sM Z<|sA Z<|sN ?_
  cases oI h
  exact⟨rfl,rfl⟩
 intro e E D he N
 obtain⟨rfl,B⟩:=N
 refine qE<|gS Z B<|mM Z<|sV (rB (decide (H.1>a0)))<|sA Z<|sN<|qR ?_
 cases oI h
 exact qG
section
attribute [local irreducible] HM HU HF HB WO WC QS QB tO
instance {f:ak}{g:Int}{e2:Int}{j:Bool}{k:ap}{d1:(List aq)}:CE prog bj ext (ql f g e2 j k d1) 327 [.ptr 0 11] [.var (ak.rc f++ .ref 1 0::rI g::rI e2::rB j::ap.rc k),.arr 0 249 (d1.map aq.pd)] fun r=>(.ifc 249 (.d (aq.pd r.1)),[.var (ak.rc f++ .ref 1 1::rI g::rI e2::rB j::ap.rc k),.arr 1 249 (r.2.map aq.pd)]):=⟨fun h=>Ev.au h Tryz.func327⟩
end
theorem heap_Pop_ev{f:ak}{j:Int}{e2:Int}{k:Bool}{q:ap}{d1:(List aq)}{r:aq×(List aq)}(h:nR f j e2 k q d1=some r):EvP prog bj ext 244 [.ifc 336 (.ptr 0 11)] [.var (ak.rc f++ .ref 1 0::rI j::rI e2::rB k::ap.rc q),.arr 0 249 (d1.map aq.pd)] (.ifc 249 (.d (aq.pd r.1)),[.var (ak.rc f++ .ref 1 1::rI j::rI e2::rB k::ap.rc q),.arr 1 249 (r.2.map aq.pd)]):=by
 refine Ev.body Z Tryz.func244 Z Zk<|gU Z<|sV (.d (.raw .nilIface))<|sN<|gU Z<|sM Z<|bE h fun B h1 h=>WO.yc (e:=245) (c:= .ptr 0 11) (vl:= .ref 1 0) (g:=324) (args:=[]) (v:=rI B) (u:=[ ]) Z Z (by intro _;kernel_rfl) Z Z Z Z Z Z (ce h1) Z Z Z Z<|sV (rI (rW (B-(1:Int))))<|sA Z<|sN<|gU Z<|mM Z<|bE h fun H E h=>?_
 refine WO.yc (e:=245) (c:= .ptr 0 11) (vl:= .ref 1 0) (g:=326) (args:=[r0,rI (rW (B-(1:Int)))]) (v:= .tup []) (u:=[(1,.arr 0 249 (H.map aq.pd))]) Z Z (by intro _;kernel_rfl) Z Z Z Z Z Z (ce E) Z Z Z Z<|sN<|gU Z<|mM Z<|bE h fun C F h=>cR (rB C.1) [(0,.var (ak.rc f++ .ref 1 0::rI j::rI e2::rB k::ap.rc q)),(1,.arr 0 249 (C.2.map aq.pd))] (heap_down_ev F)<|sN<|gU Z<|sM Z<|bE h fun D G h=>WO.yd (g:=327) (args:=[.ptr 0 11]) (v:= .ifc 249 (.d (aq.pd D.1))) (u:=[(0,.var (ak.rc f++ .ref 1 1::rI j::rI e2::rB k::ap.rc q)),(1,.arr 1 249 (D.2.map aq.pd))]) Z Z (by intro _;kernel_rfl) Z Z Z Z Z (ce G) Z Z Z Z<|sA Z<|sN<|qR ?_
 cases oI h
 exact qG
instance {f:ak}{g:Int}{e2:Int}{j:Bool}{k:ap}{d1:(List aq)}:CE prog bj ext (nR f g e2 j k d1) 244 [.ifc 336 (.ptr 0 11)] [.var (ak.rc f++ .ref 1 0::rI g::rI e2::rB j::ap.rc k),.arr 0 249 (d1.map aq.pd)] fun r=>(.ifc 249 (.d (aq.pd r.1)),[.var (ak.rc f++ .ref 1 1::rI g::rI e2::rB j::ap.rc k),.arr 1 249 (r.2.map aq.pd)]):=⟨fun h=>heap_Pop_ev h⟩
section
attribute [local irreducible] HM HU HF HB WO WC QS QB tO
instance {a0:Int}{a1:Int}:CE prog bj ext (ct a0 a1) 278 [rI a0,rI a1] [] fun r=>(rI r,[]):=⟨fun h=>Ev.au h Tryz.func278⟩
instance {a0:bN}:CE prog bj ext (b9 a0) 196 [.d (bN.pd a0)] [] fun r=>(.d (ag.pd r),[]):=⟨fun h=>Ev.au h Tryz.func196⟩
instance {a0:al}:CE prog bj ext (gJ a0) 275 [.d (al.pd a0)] [] fun r=>(.d (ag.pd r),[]):=⟨fun h=>Ev.au h Tryz.func275⟩
instance {a0:ak}{a1:ag}:CE prog bj ext (jK a0 a1) 276 [.d (ak.pd a0),.d (ag.pd a1)] [] fun r=>(.tup [rI r.1,rI r.2.1,rI r.2.2],[]):=⟨fun h=>Ev.au h Tryz.func276⟩
instance {a0:al}{f:ak}{e2:Int}{g:Int}{j:Bool}{k:ap}{d1:(List aq)}:CE prog bj ext (lY a0 f e2 g j k d1) 245 [.ptr 0 0,.d (al.pd a0)] [.var (ak.rc f++ .ref 1 0::rI e2::rI g::rB j::ap.rc k),.arr 0 249 (d1.map aq.pd)] fun r=>(rI r.1,[.var (ak.rc f++ .ref 1 0::rI e2::rI g::rB r.2.1::ap.rc r.2.2),.arr 0 249 (d1.map aq.pd)]):=⟨fun h=>Ev.au h Tryz.func245⟩
instance {a0:al}:CE prog bj ext (lE a0) 277 [.d (al.pd a0)] [] fun r=>(rI r,[]):=⟨fun h=>Ev.au h Tryz.func277⟩
end
theorem qZ{a0:al}{r:al×al×Bool}(h:fo a0=some r):EvP prog bj ext 246 [.d (al.pd a0)] [] (.tup [.d (al.pd r.1),.d (al.pd r.2.1),rB r.2.2],[]):=by
 refine Ev.body Z Tryz.func246 Z Zk<|gU Z<|sB (.ptr 16 0) 16 (.var (al.rc a0))<|sB (.ptr 32 0) 32 (.var [r0,r0,r0,r0,r0,r0])<|sB (.ptr 48 0) 48 (.var [r0,r0,r0,r0,r0,r0])<|sU<|sN<|qS<|gU Z<|sV (.d (al.pd a0))<|bE h fun x1 h1 h=>cD (ce h1)<|sF h ?_ ?_<;>intro h
 ·refine sN<|cT<|gU Z<|sG (.d (al.pd (al.mk (ag.mk 0 0 0) (ag.mk 0 0 0))))<|sG (.d (al.pd (al.mk (ag.mk 0 0 0) (ag.mk 0 0 0))))<|sH 32 (.var [r0,r0,r0,r0,r0,r0])<|sH 48 (.var [r0,r0,r0,r0,r0,r0])<|sU<|sN<|qR ?_
  cases oI h
  exact qG
 refine sN<|cF<|qK<|F3 Z Z<|sV (.ptr 16 0)<|sV (.d (ag.pd a0.bt))<|bE h fun f X h=>cD (ce X)<|sV (.ptr 16 3)<|sV (.d (ag.pd a0.bd))<|bE h fun g Y h=>cD (ce Y)<|sB (.ptr 80 0) 80 (.var [r0,r0,r0])<|sB (.ptr 96 0) 96 (.var [r0,r0,r0])<|sS 80 (.var [rI f.a0,rI f.a1,rI f.a2]) ?_
 refine sS 96 (.var [rI g.a0,rI g.a1,rI g.a2]) ?_
 refine sN<|sO<|gU Z<|sV (r0)<|sN<|qS<|gU Z<|sV (r0)<|sN<|F1 (F2 ?_)
 refine WL.round<|gU Z<|sT<|sN<|qS<|cT<|qK<|qS<|qB<|gU Z<|sM Z<|sA Z<|sN<|F3 Z Z<|sM Z ?_
 refine sV (.ptr 96 0)<|sL Z<|sM Z<|sV (.ptr 80 0)<|sL Z<|sV (rI (rW (g.a0-f.a0)))<|sM Z<|sV (.ptr 96 0)<|sL Z<|sM Z<|sV (.ptr 80 0)<|sL Z<|sV (rI (rW (g.a0-f.a0)))<|WO.s0 (v':=rB false) Z Z (fun _=>Z) (congrArg (fun b=>RV.d (.bool b)) (decide_eq_false (Int.lt_irrefl _))) ?_
 refine sN<|sO<|cF<|qK<|F4 Z Z<|sV (rI 1)<|sM Z<|sN<|WL.round<|gU Z<|sT<|sN<|qS<|cT<|qK<|qS ?_
 refine qB<|gU Z<|sM Z<|sA Z<|sN<|F3 Z Z<|sM Z<|sV (.ptr 96 1)<|sL Z<|sM Z<|sV (.ptr 80 1)<|sL Z<|sV (rI (rW (g.a1-f.a1)))<|sM Z<|sV (.ptr 96 0) ?_
 refine sL Z<|sM Z<|sV (.ptr 80 0)<|sL Z<|sV (rI (rW (g.a0-f.a0)))<|sF h ?_ ?_<;>intro h
 ·refine sN<|sO<|cT<|F4 Z Z<|sM Z<|sA Z<|sN<|F4 Z Z<|sV (rI 2)<|sM Z<|sN<|WL.round<|gU Z<|sT<|sN<|qS ?_
  refine cT<|qK<|qS<|qB<|gU Z<|sM Z<|sA Z<|sN<|F3 Z Z<|sM Z<|sV (.ptr 96 2)<|sL Z<|sM Z<|sV (.ptr 80 2)<|sL Z ?_
  refine sV (rI (rW (g.a2-f.a2)))<|sM Z<|sV (.ptr 96 1)<|sL Z<|sM Z<|sV (.ptr 80 1)<|sL Z<|sV (rI (rW (g.a1-f.a1)))<|sF h ?_ ?_<;>intro h
  ·refine sN<|sO<|cT<|F4 Z Z<|sM Z<|sA Z<|sN<|F4 Z Z<|sV (rI 3)<|sM Z<|sN<|WL.round<|gU Z<|sU<|sN<|qS ?_
   refine cF<|qX<|qE<|F3 Z Z<|sV (.d (bN.pd g))<|sV (.d (bN.pd f))<|sB (.ptr 144 0) 144 (.var [r0,r0,r0])<|sB (.ptr 160 0) 160 (.var [r0,r0,r0])<|sS 144 (.var [rI g.a0,rI g.a1,rI g.a2])<|sS 160 (.var [rI f.a0,rI f.a1,rI f.a2]) ?_
   refine sN<|sO<|F3 Z Z<|mM Z<|sV (.ptr 80 2)<|sL Z<|sM Z<|sV (.ptr 96 2)<|sL Z<|bE h fun G h7 h=>cD (ce h7)<|sV (.ptr 144 2)<|sS 144 (.var [rI g.a0,rI g.a1,rI G]) ?_
   refine sN<|sO<|gU Z<|mM Z<|sV (.ptr 144 2)<|sL Z<|sV (rI (rW (G+(1:Int))))<|sV (.ptr 160 2)<|sS 160 (.var [rI f.a0,rI f.a1,rI (rW (G+(1:Int)))])<|sN<|F3 Z Z<|sV (.ptr 16 0)<|sV (.d (ag.pd a0.bt))<|sV (.d (bN.pd (bN.mk g.a0 g.a1 G)))<|bE h fun U h8 h=>?_
   refine cD (ce h8)<|sG (.d (al.pd (al.mk a0.bt U)))<|sV (.d (bN.pd (bN.mk f.a0 f.a1 (rW (G+(1:Int))))))<|bE h fun W h9 h=>cD (ce h9)<|sV (.ptr 16 3)<|sV (.d (ag.pd a0.bd))<|sG (.d (al.pd (al.mk W a0.bd)))<|sH 32 (.var (ag.rc a0.bt++ag.rc U))<|sH 48 (.var (ag.rc W++ag.rc a0.bd))<|sT ?_
   refine sN<|sO<|qR ?_
   cases oI h
   exact qG
  refine sN<|sO<|cF<|qK<|F4 Z Z<|sV (rI 3)<|sM Z<|sN<|WL.round<|gU Z<|sU<|sN<|qS<|cF<|qX<|qE ?_
  refine F3 Z Z<|sV (.d (bN.pd g))<|sV (.d (bN.pd f))<|sB (.ptr 144 0) 144 (.var [r0,r0,r0])<|sB (.ptr 160 0) 160 (.var [r0,r0,r0])<|sS 144 (.var [rI g.a0,rI g.a1,rI g.a2])<|sS 160 (.var [rI f.a0,rI f.a1,rI f.a2]) ?_
  refine sN<|sO<|F3 Z Z<|mM Z<|sV (.ptr 80 1)<|sL Z<|sM Z<|sV (.ptr 96 1)<|sL Z<|bE h fun j H h=>cD (ce H)<|sV (.ptr 144 1)<|sS 144 (.var [rI g.a0,rI j,rI g.a2]) ?_
  refine sN<|sO<|gU Z<|mM Z<|sV (.ptr 144 1)<|sL Z<|sV (rI (rW (j+(1:Int))))<|sV (.ptr 160 1)<|sS 160 (.var [rI f.a0,rI (rW (j+(1:Int))),rI f.a2])<|sN<|F3 Z Z<|sV (.ptr 16 0)<|sV (.d (ag.pd a0.bt))<|sV (.d (bN.pd (bN.mk g.a0 j g.a2)))<|bE h fun u I h=>?_
  refine cD (ce I)<|sG (.d (al.pd (al.mk a0.bt u)))<|sV (.d (bN.pd (bN.mk f.a0 (rW (j+(1:Int))) f.a2)))<|bE h fun B J h=>cD (ce J)<|sV (.ptr 16 3)<|sV (.d (ag.pd a0.bd))<|sG (.d (al.pd (al.mk B a0.bd)))<|sH 32 (.var (ag.rc a0.bt++ag.rc u))<|sH 48 (.var (ag.rc B++ag.rc a0.bd))<|sT ?_
  refine sN<|sO<|qR ?_
  cases oI h
  exact qG
 refine sN<|sO<|cF<|qK<|F4 Z Z<|sV (rI 2)<|sM Z<|sN<|WL.round<|gU Z<|sT<|sN<|qS<|cT<|qK<|qS ?_
 refine qB<|gU Z<|sM Z<|sA Z<|sN<|F3 Z Z<|sM Z<|sV (.ptr 96 2)<|sL Z<|sM Z<|sV (.ptr 80 2)<|sL Z<|sV (rI (rW (g.a2-f.a2)))<|sM Z<|sV (.ptr 96 0) ?_
 refine sL Z<|sM Z<|sV (.ptr 80 0)<|sL Z<|sV (rI (rW (g.a0-f.a0)))<|sF h ?_ ?_<;>intro h
 ·refine sN<|sO<|cT<|F4 Z Z<|sM Z<|sA Z<|sN<|F4 Z Z<|sV (rI 3)<|sM Z<|sN<|WL.round<|gU Z<|sU<|sN<|qS ?_
  refine cF<|qX<|qE<|F3 Z Z<|sV (.d (bN.pd g))<|sV (.d (bN.pd f))<|sB (.ptr 144 0) 144 (.var [r0,r0,r0])<|sB (.ptr 160 0) 160 (.var [r0,r0,r0])<|sS 144 (.var [rI g.a0,rI g.a1,rI g.a2])<|sS 160 (.var [rI f.a0,rI f.a1,rI f.a2]) ?_
  refine sN<|sO<|F3 Z Z<|mM Z<|sV (.ptr 80 2)<|sL Z<|sM Z<|sV (.ptr 96 2)<|sL Z<|bE h fun k K h=>cD (ce K)<|sV (.ptr 144 2)<|sS 144 (.var [rI g.a0,rI g.a1,rI k]) ?_
  refine sN<|sO<|gU Z<|mM Z<|sV (.ptr 144 2)<|sL Z<|sV (rI (rW (k+(1:Int))))<|sV (.ptr 160 2)<|sS 160 (.var [rI f.a0,rI f.a1,rI (rW (k+(1:Int)))])<|sN<|F3 Z Z<|sV (.ptr 16 0)<|sV (.d (ag.pd a0.bt))<|sV (.d (bN.pd (bN.mk g.a0 g.a1 k)))<|bE h fun C L h=>?_
  refine cD (ce L)<|sG (.d (al.pd (al.mk a0.bt C)))<|sV (.d (bN.pd (bN.mk f.a0 f.a1 (rW (k+(1:Int))))))<|bE h fun D N h=>cD (ce N)<|sV (.ptr 16 3)<|sV (.d (ag.pd a0.bd))<|sG (.d (al.pd (al.mk D a0.bd)))<|sH 32 (.var (ag.rc a0.bt++ag.rc C))<|sH 48 (.var (ag.rc D++ag.rc a0.bd))<|sT ?_
  refine sN<|sO<|qR ?_
  cases oI h
  exact qG
 refine sN<|sO<|cF<|qK<|F4 Z Z<|sV (rI 3)<|sM Z<|sN<|WL.round<|gU Z<|sU<|sN<|qS<|cF<|qX<|qE ?_
 refine F3 Z Z<|sV (.d (bN.pd g))<|sV (.d (bN.pd f))<|sB (.ptr 144 0) 144 (.var [r0,r0,r0])<|sB (.ptr 160 0) 160 (.var [r0,r0,r0])<|sS 144 (.var [rI g.a0,rI g.a1,rI g.a2])<|sS 160 (.var [rI f.a0,rI f.a1,rI f.a2]) ?_
 refine sN<|sO<|F3 Z Z<|mM Z<|sV (.ptr 80 0)<|sL Z<|sM Z<|sV (.ptr 96 0)<|sL Z<|bE h fun q O h=>cD (ce O)<|sV (.ptr 144 0)<|sS 144 (.var [rI q,rI g.a1,rI g.a2]) ?_
 refine sN<|sO<|gU Z<|mM Z<|sV (.ptr 144 0)<|sL Z<|sV (rI (rW (q+(1:Int))))<|sV (.ptr 160 0)<|sS 160 (.var [rI (rW (q+(1:Int))),rI f.a1,rI f.a2])<|sN<|F3 Z Z<|sV (.ptr 16 0)<|sV (.d (ag.pd a0.bt))<|sV (.d (bN.pd (bN.mk q g.a1 g.a2)))<|bE h fun E Q h=>?_
 refine cD (ce Q)<|sG (.d (al.pd (al.mk a0.bt E)))<|sV (.d (bN.pd (bN.mk (rW (q+(1:Int))) f.a1 f.a2)))<|bE h fun F T h=>cD (ce T)<|sV (.ptr 16 3)<|sV (.d (ag.pd a0.bd))<|sG (.d (al.pd (al.mk F a0.bd)))<|sH 32 (.var (ag.rc a0.bt++ag.rc E))<|sH 48 (.var (ag.rc F++ag.rc a0.bd))<|sT ?_
 refine sN<|sO<|qR ?_
 cases oI h
 exact qG
instance {a0:al}:CE prog bj ext (fo a0) 246 [.d (al.pd a0)] [] fun r=>(.tup [.d (al.pd r.1),.d (al.pd r.2.1),rB r.2.2],[]):=⟨fun h=>qZ h⟩
section
attribute [local irreducible] HM HU HF HB WO WC QS QB tO
instance {a0:aq}{f:ak}{e2:Int}{g:Int}{j:Bool}{k:ap}{d1:(List aq)}:CE prog bj ext (oh a0 f e2 g j k d1) 328 [.ptr 0 11,.ifc 249 (.d (aq.pd a0))] [.var (ak.rc f++ .ref 1 0::rI e2::rI g::rB j::ap.rc k),.arr 0 249 (d1.map aq.pd)] fun r=>(.tup [],[.var (ak.rc f++ .ref 1 1::rI e2::rI g::rB j::ap.rc k),.arr 1 249 (r.map aq.pd)]):=⟨fun h=>Ev.au h Tryz.func328⟩
end
theorem heap_Pushq_ev{a0:aq}{f:ak}{e2:Int}{j:Int}{k:Bool}{q:ap}{d1:(List aq)}{r:(List aq)}(h:lP a0 f e2 j k q d1=some r):EvP prog bj ext 243 [.ifc 336 (.ptr 0 11),.ifc 249 (.d (aq.pd a0))] [.var (ak.rc f++ .ref 1 0::rI e2::rI j::rB k::ap.rc q),.arr 0 249 (d1.map aq.pd)] (.tup [],[.var (ak.rc f++ .ref 1 1::rI e2::rI j::rB k::ap.rc q),.arr 1 249 (r.map aq.pd)]):=by
 refine Ev.body Z Tryz.func243 Z Zk<|gU Z<|mM Z<|bE h fun E h1 h=>WO.yd (g:=328) (args:=[.ptr 0 11,.ifc 249 (.d (aq.pd a0))]) (v:= .tup []) (u:=[(0,.var (ak.rc f++ .ref 1 1::rI e2::rI j::rB k::ap.rc q)),(1,.arr 1 249 (E.map aq.pd))]) Z Z (by intro _;kernel_rfl) Z Z Z Z Z (ce h1) Z Z Z Z<|sN<|F4 Z Z<|mM Z<|bE h fun B C h=>WO.yc (e:=245) (c:= .ptr 0 11) (vl:= .ref 1 1) (g:=324) (args:=[]) (v:=rI B) (u:=[ ]) Z Z (by intro _;kernel_rfl) Z Z Z Z Z Z (ce C) Z Z Z Z<|sV (rI (rW (B-(1:Int))))<|bE h fun F D h=>cR (.tup []) [(0,.var (ak.rc f++ .ref 1 1::rI e2::rI j::rB k::ap.rc q)),(1,.arr 1 249 (F.map aq.pd))] (heap_up_ev D) ?_
 refine sN ?_
 cases oI h
 exact qG
instance {a0:aq}{f:ak}{e2:Int}{g:Int}{j:Bool}{k:ap}{d1:(List aq)}:CE prog bj ext (lP a0 f e2 g j k d1) 243 [.ifc 336 (.ptr 0 11),.ifc 249 (.d (aq.pd a0))] [.var (ak.rc f++ .ref 1 0::rI e2::rI g::rB j::ap.rc k),.arr 0 249 (d1.map aq.pd)] fun r=>(.tup [],[.var (ak.rc f++ .ref 1 1::rI e2::rI g::rB j::ap.rc k),.arr 1 249 (r.map aq.pd)]):=⟨fun h=>heap_Pushq_ev h⟩
section
attribute [local irreducible] HM HU HF HB WO WC QS QB tO
instance {a0:al}{f:ak}{e2:Int}{g:Int}{j:Bool}{k:ap}{d1:(List aq)}:CE prog bj ext (kF a0 f e2 g j k d1) 193 [.ptr 0 0,.d (al.pd a0)] [.var (ak.rc f++ .ref 1 0::rI e2::rI g::rB j::ap.rc k),.arr 0 249 (d1.map aq.pd)] fun r=>(rI r.1,[.var (ak.rc f++ .ref 1 1::rI r.2.1::rI g::rB j::ap.rc k),.arr 1 249 (r.2.2.map aq.pd)]):=⟨fun h=>Ev.au h Tryz.func193⟩
instance {f:ak}{g:Int}{e2:Int}{j:Bool}{k:ap}{d1:(List aq)}:CE prog bj ext (lZ f g e2 j k d1) 195 [.ptr 0 0] [.var (ak.rc f++ .ref 1 0::rI g::rI e2::rB j::ap.rc k),.arr 0 249 (d1.map aq.pd)] fun r=>(rI r.1,[.var (ak.rc f++ .ref 1 1::rI r.2.1::rI r.2.2.1::rB r.2.2.2.1::ap.rc r.2.2.2.2.1),.arr 1 249 (r.2.2.2.2.2.map aq.pd)]):=⟨fun h=>Ev.au h Tryz.func195⟩
end
end Go.Dw.Re
