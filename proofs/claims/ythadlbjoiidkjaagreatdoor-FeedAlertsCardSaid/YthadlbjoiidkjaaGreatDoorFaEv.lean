
import Derived.Test.YthadlbjoiidkjaaGreatDoorFaEvA

set_option maxRecDepth 100000
set_option maxHeartbeats 4000000
namespace Go.Dw.Fa
open Go.Proofs Go.Proofs.Tryz Go.Dw
theorem fI{a0:ae}{r:Bool}(h:bV a0=some r):EvP prog aU ext 83 [.d (ae.pd a0)] [] (rB r,[]):=by
 refine Ev.body Z Tryz.func83 Z Zk<|gU Z<|sB (.ptr 16 0) 16 (.var (ae.rc a0))<|sU<|sN<|gU Z<|sV (.ptr 16 0)<|sV (.d (ap.pd a0.ar))<|bE h fun x1 h1 h=>jJ h (fun hb2 h=>?_) (fun hb2 h=>?_)
 ·refine WO.j3 (v:=rB true) (u:=[]) Z Z (fun _=>Z) Z Z Z Z Z (dO h1) Z Z (congrArg (fun b=>RV.d (.bool b)) hb2) Z<|sM Z<|sV (.ptr 16 5)<|sL Z<|sV (rB (decide (a0.aY>=(0:Int))))<|sF h ?_ ?_<;>intro h
  ·refine sM Z<|sV (.ptr 16 5)<|sL Z<|sV (.ptr 16 4)<|sL Z<|sV (rB (decide (a0.aY<=a0.aL)))<|sF h ?_ ?_<;>intro h
   ·refine sM Z<|sV (.ptr 16 4)<|sL Z<|sV (.ptr 16 6)<|sL Z<|sV (rB (decide (a0.aL<=a0.bh)))<|sF h ?_ ?_<;>intro h
    ·refine sM Z<|sV (.ptr 16 6)<|sL Z<|sV (rB (decide (a0.bh<=(18014398509481984:Int))))<|sF h ?_ ?_<;>intro h
     ·refine sM Z<|sV (.ptr 16 7)<|sL Z<|bE h fun x7 h7 h=>cD (iO h7)<|sF h ?_ ?_<;>intro h
      ·refine sM Z<|sV (.ptr 16 8)<|sL Z<|bE h fun x9 h9 h=>cD (iO h9)<|sV (rB x9)<|sA Z<|sN<|qR ?_
       cases oI h
       exact qG
      refine sM Z<|k3<|sU<|sA Z<|sN<|qR ?_
      cases oI h
      exact qG
     refine sM Z<|k3<|sU<|sM Z<|k3<|sU<|sA Z<|sN<|qR ?_
     cases oI h
     exact qG
    refine sM Z<|k3<|sU<|sM Z<|k3<|sU<|sM Z<|k3<|sU ?_
    refine sA Z<|sN<|qR ?_
    cases oI h
    exact qG
   refine sM Z<|k3<|sK<|sK<|sU<|sM Z<|k3<|sU<|sM Z<|sK<|sK ?_
   refine sK<|sU<|sM Z<|k3<|sU<|sA Z<|sN<|qR ?_
   cases oI h
   exact qG
  refine sM Z<|k3<|sK<|sK<|sU<|sM Z<|k3<|sK<|sK<|sU<|sM Z ?_
  refine k3<|sU<|sM Z<|k3<|sU<|sM Z<|k3<|sU<|sA Z ?_
  refine sN<|qR ?_
  cases oI h
  exact qG
 refine WO.j3 (v:=rB false) (u:=[]) Z Z (fun _=>Z) Z Z Z Z Z (dO h1) Z Z (congrArg (fun b=>RV.d (.bool b)) hb2) Z<|sM Z<|k3<|sU<|sM Z<|k3<|sK<|sK<|sU<|sM Z<|sK ?_
 refine k3<|sK<|sU<|sM Z<|k3<|sU<|sM Z<|k3<|sU ?_
 refine sM Z<|k3<|sU<|sA Z<|sN<|qR ?_
 cases oI h
 exact qG
theorem f5{a0:ae}{r:Bool}(h:de a0=some r):EvP prog aU ext 85 [.d (ae.pd a0)] [] (rB r,[]):=by
 refine Ev.body Z Tryz.func85 Z Zk<|gU Z<|sB (.ptr 16 0) 16 (.var (ae.rc a0))<|sU<|sN<|gU Z<|sV (.d (ae.pd a0))<|bE h fun x1 h1 h=>cD (fI h1)<|sV (rB (!x1))<|sA Z<|sN<|qR ?_
 cases oI h
 exact qG
theorem eW{a0:(List ae)}{r:Int}(h:bz a0=some r):EvP prog aU ext 150 [rM ae.pd a0,.d (.raw (.func (.func 85) #[] #[]))] [] (rI r,[]):=by
 refine Ev.body Z Tryz.func150 Z Zk<|gU Z<|sV (r0)<|sN<|qS<|gU Z<|sM Z<|sE (rI (a0.length:Int)) (hF _ _)<|sV (r0)<|sN<|bE h fun o8 ho8 h=>WC.block (WC.loop (WL.jg ho8 (fun s=>gI 0 150 2 [(0,rM ae.pd a0),(1,.d (.raw (.func (.func 85) #[] #[]))),(7,rI (a0.length:Int)),(8,rI s)] []) (fun o=>match o with| .inl y=>gX 0 0 150 7 [] []| .inr r=>gF 150 Tryz.f150 0 (rI r,[])) Z ?_ ?_))
 ·rintro s1 R' B' q2 hI h
  refine gS Z hI<|sF h ?_ ?_<;>intro h
  ·refine sN<|qS<|cT<|qK<|qS<|qB<|gU Z<|sM Z<|sA Z<|sN<|gU Z<|mM Z<|sM Z<|bE h fun x4 h4 h=>?_
   refine eG h4 Z<|sV (.d (ae.pd x4))<|bE h fun x5 h5 h=>jJ h (fun hb6 h=>?_) (fun hb6 h=>?_)
   ·refine WO.j3 (v:=rB true) (u:=[]) Z Z (fun _=>Z) Z Z Z Z Z (f5 h5) Z Z (congrArg (fun b=>RV.d (.bool b)) hb6) Z<|sN<|cT<|gU Z<|sM Z<|sA Z<|sN<|qR ?_
    cases oI h
    exact⟨nofun,rfl,rfl⟩
   refine WO.j3 (v:=rB false) (u:=[]) Z Z (fun _=>Z) Z Z Z Z Z (f5 h5) Z Z (congrArg (fun b=>RV.d (.bool b)) hb6) Z<|sN<|cF<|qK<|WC.region Z Z<|sV (rI (rW (s1+(1:Int))))<|sM Z<|sN ?_
   cases oI h
   exact⟨rfl,rfl⟩
  refine sN<|qS<|cF<|qX ?_
  cases oI h
  exact⟨nofun,rfl,rfl⟩
 intro e R' B' he hq
 rcases o8 with y9|r10
 ·obtain⟨rfl,hI⟩:=hq
  refine qE<|gS Z hI<|sV (rI (-1))<|sN<|qR ?_
  exact oI h▸qD
 obtain⟨rfl,hf⟩:=hq
 cases oI h
 exact hf
theorem ea{a0:(List ae)}{r:Bool}(h:bj a0=some r):EvP prog aU ext 84 [rM ae.pd a0,.d (.raw (.func (.func 85) #[] #[]))] [] (rB r,[]):=by
 refine Ev.body Z Tryz.func84 Z Zk<|gU Z<|sU<|sN<|gU Z<|mM Z<|bE h fun x1 h1 h=>cD (eW h1)<|sV (rB (decide (x1>=(0:Int))))<|sA Z<|sN<|qR ?_
 exact oI h▸qD
theorem fG{a0:Int}{r:Bool}(h:eQ a0=some r):EvP prog aU ext 152 [rI a0] [] (rB r,[]):=by
 refine Ev.body Z Tryz.func152 Z Zk<|gU Z<|sU<|sN<|gU Z<|sM Z<|sF h ?_ ?_<;>intro h
 ·refine sM Z<|sK<|sK<|sT<|sA Z<|sN<|qR ?_
  exact oI h▸qD
 refine mM Z<|sV (rB (decide (a0>(1152921504606846976:Int))))<|sV (rB (decide (a0>(1152921504606846976:Int))))<|sA Z<|sN<|qR ?_
 exact oI h▸qD
theorem fD{a0:(List Int)}{r:Int}(h:bB a0=some r):EvP prog aU ext 206 [rL a0,.d (.raw (.func (.func 152) #[] #[]))] [] (rI r,[]):=by
 refine Ev.body Z Tryz.func206 Z Zk<|gU Z<|sV (r0)<|sN<|qS<|gU Z<|sM Z<|sE (rI (a0.length:Int)) (hF _ _)<|sV (r0)<|sN<|bE h fun o8 ho8 h=>WC.block (WC.loop (WL.jg ho8 (fun s=>gI 0 206 2 [(0,rL a0),(1,.d (.raw (.func (.func 152) #[] #[]))),(7,rI (a0.length:Int)),(8,rI s)] []) (fun o=>match o with| .inl y=>gX 0 0 206 7 [] []| .inr r=>gF 206 Tryz.f206 0 (rI r,[])) Z ?_ ?_))
 ·rintro s1 R' B' q2 hI h
  refine gS Z hI<|sF h ?_ ?_<;>intro h
  ·refine sN<|qS<|cT<|qK<|qS<|qB<|gU Z<|sM Z<|sA Z<|sN<|gU Z<|mM Z<|sM Z<|bE h fun x4 h4 h=>?_
   refine eG h4 Z<|sC Z<|bE h fun x5 h5 h=>jJ h (fun hb6 h=>?_) (fun hb6 h=>?_)
   ·refine WO.j3 (v:=rB true) (u:=[]) Z Z (fun _=>Z) Z Z Z Z Z (fG h5) Z Z (congrArg (fun b=>RV.d (.bool b)) hb6) Z<|sN<|cT<|gU Z<|sM Z<|sA Z<|sN<|qR ?_
    cases oI h
    exact⟨nofun,rfl,rfl⟩
   refine WO.j3 (v:=rB false) (u:=[]) Z Z (fun _=>Z) Z Z Z Z Z (fG h5) Z Z (congrArg (fun b=>RV.d (.bool b)) hb6) Z<|sN<|cF<|qK<|WC.region Z Z<|sV (rI (rW (s1+(1:Int))))<|sM Z<|sN ?_
   cases oI h
   exact⟨rfl,rfl⟩
  refine sN<|qS<|cF<|qX ?_
  cases oI h
  exact⟨nofun,rfl,rfl⟩
 intro e R' B' he hq
 rcases o8 with y9|r10
 ·obtain⟨rfl,hI⟩:=hq
  refine qE<|gS Z hI<|sV (rI (-1))<|sN<|qR ?_
  exact oI h▸qD
 obtain⟨rfl,hf⟩:=hq
 cases oI h
 exact hf
theorem eD{a0:(List Int)}{r:Bool}(h:bv a0=some r):EvP prog aU ext 151 [rL a0,.d (.raw (.func (.func 152) #[] #[]))] [] (rB r,[]):=by
 refine Ev.body Z Tryz.func151 Z Zk<|gU Z<|sU<|sN<|gU Z<|mM Z<|bE h fun x1 h1 h=>cD (fD h1)<|sV (rB (decide (x1>=(0:Int))))<|sA Z<|sN<|qR ?_
 exact oI h▸qD
theorem f7{a0:(List Int)}{r:Bool}(h:dm a0=some r):EvP prog aU ext 86 [rL a0] [] (rB r,[]):=by
 refine Ev.body Z Tryz.func86 Z Zk<|gU Z<|sU<|sN<|gU Z<|sM Z<|bE h fun x1 h1 h=>cD (eD h1)<|sV (rB (!x1))<|sA Z<|sN<|qR ?_
 exact oI h▸qD
theorem gA{a0:ah}{r:(List Int)}(h:dl a0=some r):EvP prog aU ext 106 [.d (ah.pd a0)] [] (rL r,[]):=by
 refine Ev.body Z Tryz.func106 Z Zk<|gU Z<|sB (.ptr 16 0) 16 (.var (ah.rc a0))<|sV .iZ<|sN<|gU Z<|sV (.ptr 16 0)<|sL Z<|sV (.ptr 16 1)<|sL Z<|sV (.ptr 16 2)<|sL Z<|sV (.d (.lst ([a0.fX,a0.fY,a0.fZ].map (PD.int .i64))))<|sA Z<|sN ?_
 refine qR ?_
 exact oI h▸qD
theorem iG{a0:Int}{r:(List Int)}(h:dg a0=some r):EvP prog aU ext 177 [.iZ,rI a0] [] (.ref 0 0,[.arr 0 3 (r.map (PD.int .i64))]):=by
 refine Ev.body Z Tryz.func177 Z Zk<|gU Z<|sV .iZ<|sN<|qS<|gU Z<|sM Z<|sF h ?_ ?_<;>intro h
 ·refine sN<|cT<|WC.region Z Z<|sG (.ifc 9 (rS [99,97,110,110,111,116,32,98,101,32,110,101,103,97,116,105,118,101])) ?_
  cases h
 refine sN<|cF<|qK<|WC.join (α:=(List Int)) (fun x R' B'=>jY prog 0 (A R' B') (aU.at_ 177 0 6)=some (A [(0,.ref 90097 0)] [(90097,.arr 0 3 (x.map (PD.int .i64)))])) (fun x=>cY x=some r) ?_ ?_
 ·refine gU Z<|mM Z<|sV (r0)<|sM Z<|sV (r0)<|sV (r0)<|sV (rI (rW (a0-(0:Int))))<|sA Z<|sN<|gU Z<|sM Z<|sF h ?_ ?_<;>intro h
  ·refine sN<|cT<|WC.region Z Z<|mM Z<|sV (r0)<|sV .iZ<|sM Z<|bE h fun x5 h5 h=>WO.appZ (g:=(PD.int .i64)) h5 Z Z Z Z Z Z Z Z Z Z Z Z Z Z Z Z<|sM Z<|sV (r0)<|bE h fun x6 h6 h=>WO.resl h6 Z Z Z Z Z Z Z Z Z Z Z Z<|sA Z ?_
   exact sN<|⟨(x5.take (0:Int).toNat),rfl,h⟩
  exact sN<|cF<|qK<|⟨([]:List Int),rfl,h⟩
 rintro j2 R' B' hI h
 refine gS Z hI<|sM Z<|sA Z<|sN<|qR ?_
 exact oI h▸qD
theorem im{a0:(List (List Int))}{r:(List Int)}(h:ch a0=some r):EvP prog aU ext 105 [.d (.lst (a0.map (fun l=>PD.lst (l.map (PD.int .i64)))))] [] (rL r,[]):=by
 refine Ev.body Z Tryz.func105 Z Zk<|gU Z<|sV .iZ<|sN<|gU Z<|sV (r0)<|sN<|qS<|gU Z<|sM Z<|sE (rI (a0.length:Int)) (hF _ _)<|sV (r0)<|sN<|bE h fun o9 ho9 h=>WC.block (WC.loop (WL.jg ho9 (fun s=>gI 0 105 3 [(0,.d (.lst (a0.map (fun l=>PD.lst (l.map (PD.int .i64)))))),(3,rI s.1),(9,.d (.lst (a0.map (fun l=>PD.lst (l.map (PD.int .i64)))))),(10,rI (a0.length:Int)),(11,rI s.2)] []) (fun o=>gX 0 0 105 9 [(0,.d (.lst (a0.map (fun l=>PD.lst (l.map (PD.int .i64)))))),(3,rI o)] []) Z ?_ ?_))
 ·rintro⟨s1,s2⟩ R' B' q4 hI h
  refine gS Z hI<|sF h ?_ ?_<;>intro h
  ·refine sN<|qS<|cT<|qK<|qS<|qB<|gU Z<|bE h fun x6 h6 h=>eG h6 Z<|sC Z<|sA Z<|sN<|gU Z<|sM Z<|sM Z ?_
   refine sE (rI (x6.length:Int)) (hF _ _)<|sV (rI (rW (s1+(x6.length:Int))))<|sA Z<|sN<|gU Z<|sM Z<|sF h ?_ ?_<;>intro h
   ·refine sN<|cT<|WC.region Z Z<|sG (.ifc 9 (rS [108,101,110,32,111,117,116,32,111,102,32,114,97,110,103,101])) ?_
    cases h
   refine sN<|cF<|qK<|WC.region Z Z<|sV (rI (rW (s2+(1:Int))))<|sM Z<|sN ?_
   cases oI h
   exact⟨rfl,rfl⟩
  refine sN<|qS<|cF<|qX ?_
  cases oI h
  exact⟨nofun,rfl,rfl⟩
 intro e R' B' he hq
 obtain⟨rfl,hI⟩:=hq
 refine qE<|gS Z hI<|sM Z<|bE h fun x10 h10 h=>cR (.ref 384 0) [(384,.arr 0 3 (x10.map (PD.int .i64)))] (iG h10)<|sA Z<|sN<|qS<|gU Z<|sM Z<|sE (rI (a0.length:Int)) (hF _ _)<|sV (r0)<|sN<|bE h fun o19 ho19 h=>WC.block (WC.loop (WL.jg ho19 (fun s=>gI 0 105 11 [(6,.ref 384 0),(25,.d (.lst (a0.map (fun l=>PD.lst (l.map (PD.int .i64)))))),(26,rI (a0.length:Int)),(27,rI s.1)] [(384,.arr 0 3 (s.2.map (PD.int .i64)))]) (fun o=>gX 2 0 105 15 [(6,.ref 384 0)] [(384,.arr 0 3 (o.map (PD.int .i64)))]) Z ?_ ?_))
 ·rintro⟨s11,s12⟩ R' B' q14 hI h
  refine gS Z hI<|sF h ?_ ?_<;>intro h
  ·refine sN<|qS<|cT<|qK<|qS<|qB<|gU Z<|bE h fun x16 h16 h=>eG h16 Z<|sC Z<|sA Z<|sN<|WC.region Z Z<|sM Z<|sM Z ?_
   refine bE h fun x17 h17 h=>aR h17 (fun _=>Z) Z<|sA Z<|sN<|WC.region Z Z<|sV (rI (rW (s11+(1:Int))))<|sM Z<|sN ?_
   cases oI h
   exact⟨rfl,rfl⟩
  refine sN<|qS<|cF<|qX ?_
  cases oI h
  exact⟨nofun,rfl,rfl⟩
 intro e R' B' he hq
 obtain⟨rfl,hI⟩:=hq
 refine qE<|gS Z hI<|sM Z<|sA Z<|sN<|qR ?_
 exact oI h▸qD
theorem hT{a0:au}{r:(List Int)}(h:cU a0=some r):EvP prog aU ext 53 [.d (au.pd a0)] [] (rL r,[]):=by
 refine Ev.body Z Tryz.func53 Z Zk<|gU Z<|sB (.ptr 16 0) 16 (.var (au.rc a0))<|sV .iZ<|sN<|gU Z<|sV (.ptr 16 1)<|sV (.d (aA.pd a0.ac))<|sB (.ptr 48 0) 48 (.var [r0,r0,r0,r0,r0,r0,r0,r0,r0,r0,r0,r0])<|sH 48 (.var (aA.rc a0.ac))<|sN<|WC.iu Z Z<|sV (.ptr 48 0)<|sV (.d (ah.pd a0.ac.aP))<|bE h fun x1 h1 h=>?_
 refine cD (gA h1)<|sV (.ptr 48 3)<|sL Z<|sV (.ptr 48 4)<|sL Z<|sV (.ptr 48 5)<|sL Z<|sV (.d (.lst ([a0.ac.aL,a0.ac.aQ,a0.ac.bq].map (PD.int .i64))))<|sV (.ptr 48 6)<|sV (.ptr 48 6)<|sV (.d (ah.pd a0.ac.aD.aX))<|bE h fun x2 h2 h=>cD (gA h2)<|sV (.ptr 48 6)<|sV (.ptr 48 9) ?_
 refine sV (.d (ah.pd a0.ac.aD.aJ))<|bE h fun x3 h3 h=>cD (gA h3)<|sV (.ptr 16 13)<|sV (.ptr 16 13)<|sL Z<|sV (.ptr 16 13)<|sV (.ptr 16 14)<|sL Z<|sV (.ptr 16 15)<|sL Z<|sV (.d (.lst ([a0.av.aX,a0.av.aJ,a0.bd].map (PD.int .i64))))<|sV (.d (.lst ([x1,[a0.ac.aL,a0.ac.aQ,a0.ac.bq],x2,x3,[a0.av.aX,a0.av.aJ,a0.bd]].map (fun l=>PD.lst (l.map (PD.int .i64))))))<|bE h fun x4 h4 h=>cD (im h4) ?_
 refine sA Z ?_
 refine sN<|sO<|qR ?_
 cases oI h
 exact qG
theorem iC{a0:ag}{r:Bool}(h:dS a0=some r):EvP prog aU ext 35 [.d (ag.pd a0)] [] (rB r,[]):=by
 refine Ev.body Z Tryz.func35 Z Zk<|gU Z<|sB (.ptr 16 0) 16 (.var (ag.rc a0))<|sU<|sN<|gU Z<|sV (.ptr 16 5)<|sV (.ptr 16 14)<|sV (.d (au.pd a0.aj.aa))<|sB (.ptr 48 0) 48 (.var zZ3)<|sH 48 (.var (au.rc a0.aj.aa))<|sN<|qS<|qB<|gU Z ?_
 refine sV (.ptr 16 0)<|sL Z<|sF h ?_ ?_<;>intro h
 ·refine sM Z<|k3<|sT<|sM Z<|k3<|sT<|sM Z<|k3<|sT ?_
  refine sA Z<|sN<|cT<|gU Z<|sU<|sN<|qR ?_
  cases oI h
  exact qG
 refine sM Z<|sV (.ptr 16 0)<|sL Z<|sV (rB (decide (a0.bg>=(1000:Int))))<|sF h ?_ ?_<;>intro h
 ·refine sM Z<|k3<|sT<|sM Z<|k3<|sT<|sA Z<|sN<|cT<|gU Z<|sU ?_
  refine sN<|qR ?_
  cases oI h
  exact qG
 refine sM Z<|sV (.ptr 16 1)<|sL Z<|sV (rB (decide (a0.bk<(1:Int))))<|sF h ?_ ?_<;>intro h
 ·refine sM Z<|k3<|sT<|sA Z<|sN<|cT<|gU Z<|sU<|sN<|qR ?_
  cases oI h
  exact qG
 refine sM Z<|sV (.ptr 16 1)<|sL Z<|sV (rB (decide (a0.bk>(3:Int))))<|sF h ?_ ?_<;>intro h
 ·refine sA Z<|sN<|cT<|gU Z<|sU<|sN<|qR ?_
  cases oI h
  exact qG
 refine sA Z<|sN<|cF<|gU Z<|sV (.ptr 16 2)<|sL Z<|sF h ?_ ?_<;>intro h
 ·refine sM Z<|k3<|sK<|sK<|sT<|sM Z<|k3<|k3<|sK ?_
  refine sK<|sK<|sT<|sA Z<|sN<|cT<|gU Z<|sU<|sN<|qR ?_
  cases oI h
  exact qG
 refine sM Z<|sV (.ptr 16 2)<|sL Z<|sV (.ptr 16 0)<|sL Z<|sV (rB (decide (a0.fID>a0.bg)))<|sF h ?_ ?_<;>intro h
 ·refine sM Z<|k3<|k3<|k3<|sT<|sA Z<|sN<|cT<|gU Z ?_
  refine sU<|sN<|qR ?_
  cases oI h
  exact qG
 refine sM Z<|sV (.ptr 16 2)<|sL Z<|sV (.ptr 16 0)<|sL Z<|sV (rB (a0.fID==a0.bg))<|sV (.ptr 16 1)<|sL Z<|sV (rB (a0.bk==(1:Int)))<|sV (rB (!((a0.fID==a0.bg)==(a0.bk==(1:Int)))))<|sF h ?_ ?_<;>intro h
 ·refine sA Z<|sN<|cT<|gU Z<|sU<|sN<|qR ?_
  cases oI h
  exact qG
 refine sA Z<|sN<|cF<|gU Z<|sV (.ptr 16 4)<|sL Z<|sF h ?_ ?_<;>intro h
 ·refine sM Z<|k3<|sT<|sM Z<|k3<|sK<|sT<|sA Z<|sN<|cT<|gU Z ?_
  refine sU<|sN<|qR ?_
  cases oI h
  exact qG
 refine sM Z<|sV (.ptr 16 4)<|sL Z<|sV (rB (decide (a0.aW>(8:Int))))<|sF h ?_ ?_<;>intro h
 ·refine sM Z<|k3<|sK<|sT<|sA Z<|sN<|cT<|gU Z<|sU<|sN<|qR ?_
  cases oI h
  exact qG
 refine sM Z<|sV (.ptr 48 0)<|sL Z<|sE (rI (a0.aj.aa.aB.length:Int)) (hF _ _)<|sV (rB (decide ((a0.aj.aa.aB.length:Int)>(64:Int))))<|sF h ?_ ?_<;>intro h
 ·refine sA Z<|sN<|cT<|gU Z<|sU<|sN<|qR ?_
  cases oI h
  exact qG
 refine sA Z<|sN<|cF<|gU Z<|sV (.ptr 16 5)<|sV (.ptr 16 5)<|sV (.d (ae.pd a0.aj.aq))<|bE h fun x11 h11 h=>cD (fI h11)<|sF h ?_ ?_<;>intro h
 ·refine sM Z<|k3<|sT<|sA Z<|sN<|cT<|gU Z<|sU<|sN<|qR ?_
  cases oI h
  exact qG
 refine sM Z<|sV (.ptr 48 0)<|sL Z<|bE h fun x13 h13 h=>cD (ea h13)<|sF h ?_ ?_<;>intro h
 ·refine sA Z<|sN<|cT<|gU Z<|sU<|sN<|qR ?_
  cases oI h
  exact qG
 refine sA Z<|sN<|cF<|qK<|gU Z<|sV (.ptr 16 3)<|sL Z<|sV (.d (.lst ([a0.fAt].map (PD.int .i64))))<|bE h fun x15 h15 h=>jJ h (fun hb16 h=>?_) (fun hb16 h=>?_)
 ·refine WO.j3 (v:=rB true) (u:=[]) Z Z (fun _=>Z) Z Z Z Z Z (f7 h15) Z Z (congrArg (fun b=>RV.d (.bool b)) hb16) Z<|sM Z<|sV (.d (au.pd a0.aj.aa))<|bE h fun x17 h17 h=>cD (hT h17)<|bE h fun x18 h18 h=>cD (f7 h18)<|sV (rB x18)<|sA Z<|sN<|qR ?_
  cases oI h
  exact qG
 refine WO.j3 (v:=rB false) (u:=[]) Z Z (fun _=>Z) Z Z Z Z Z (f7 h15) Z Z (congrArg (fun b=>RV.d (.bool b)) hb16) Z<|sM Z<|k3<|sU<|sA Z<|sN<|qR ?_
 cases oI h
 exact qG
theorem fB{a0:(List ag)}{r:Bool}(h:cC a0=some r):EvP prog aU ext 10 [rM ag.pd a0] [] (rB r,[]):=by
 refine Ev.body Z Tryz.func10 Z Zk<|gU Z<|sU<|sN<|gU Z<|sB (.ptr 96 0) 96 (.map 3 4 (([]:List (Int×Bool)).map fun e=>((PD.int .i64) e.1,PD.bool e.2)))<|sA Z<|sN<|qS<|gU Z<|sM Z<|sE (rI (a0.length:Int)) (hF _ _)<|sV (r0)<|sN<|bE h fun o16 ho16 h=>?_
 refine WC.block (WC.loop (WL.jg ho16 (fun s=>gI 0 10 3 [(0,rM ag.pd a0),(3,.ptr 96 0),(7,rM ag.pd a0),(8,rI (a0.length:Int)),(9,rI s.1)] [(96,.map 3 4 (s.2.map fun e=>((PD.int .i64) e.1,PD.bool e.2)))]) (fun o=>match o with| .inl y=>gX 0 0 10 11 [] []| .inr r=>gF 10 Tryz.f10 0 (rB r,[])) Z ?_ ?_))
 ·rintro⟨s1,s2⟩ R' B' q3 hI h
  refine gS Z hI<|sF h ?_ ?_<;>intro h
  ·refine sN<|qS<|cT<|qK<|qS<|qB<|gU Z<|sM Z<|bE h fun x5 h5 h=>eG h5 Z<|sV (.d (ag.pd x5))<|sB (.ptr 80 0) 80 (.var zZ1)<|sA Z<|sH 80 (.var (ag.rc x5))<|sN ?_
   refine WC.join (α:=Unit) (fun x R' B'=>jY prog 0 (A R' B') (aU.at_ 10 0 7)=some (A [(0,rM ag.pd a0),(3,.ptr 96 0),(5,.ptr 80 0),(7,rM ag.pd a0),(8,rI (a0.length:Int)),(9,rI s1)] [(80,.var (ag.rc x5)),(96,.map 3 4 (s2.map fun e=>((PD.int .i64) e.1,PD.bool e.2)))])) (fun x=>cj x5 s2 s1=some q3) ?_ ?_
   ·refine WC.iu Z Z<|sV (.d (ag.pd x5))<|bE h fun x9 h9 h=>cD (iC h9)<|sF h ?_ ?_<;>intro h
    ·refine sM Z<|k3<|sK<|sT<|sM Z<|k3<|k3<|sK<|sK ?_
     refine k3<|sK<|sK<|sT ?_
     refine sN<|sO<|cT<|gU Z<|sU<|sN<|qR ?_
     cases oI h
     exact⟨nofun,rfl,rfl⟩
    refine sM Z<|sV (.ptr 80 0)<|sL Z<|sM Z<|sV (rB (x5.bg != s1))<|sF h ?_ ?_<;>intro h
    ·refine sM Z<|k3<|k3<|k3<|k3<|sK<|sT ?_
     refine sN<|sO<|cT<|gU Z<|sU<|sN<|qR ?_
     cases oI h
     exact⟨nofun,rfl,rfl⟩
    refine mM Z<|sF h ?_ ?_<;>intro h
    ·refine sM Z<|sV (.ptr 80 3)<|sL Z<|mM Z<|sV (rI (rW (s1-(1:Int))))<|bE h fun x13 h13 h=>eG h13 Z<|sV (.cptr [.int .i64 x13.fAt,.int .i64 x13.aW,.str x13.aj.aq.ar.aM,.str x13.aj.aq.ar.aN,.str x13.aj.aq.ar.ac,.str x13.aj.aq.ar.aO,.int .i64 x13.aj.aq.aL,.int .i64 x13.aj.aq.aY,.int .i64 x13.aj.aq.bh,.int .i64 x13.aj.aq.aF,.int .i64 x13.aj.aq.aH,.lst (x13.aj.aa.aB.map ae.pd),.int .i64 x13.aj.aa.ac.aP.fX,.int .i64 x13.aj.aa.ac.aP.fY,.int .i64 x13.aj.aa.ac.aP.fZ,.int .i64 x13.aj.aa.ac.aL,.int .i64 x13.aj.aa.ac.aQ,.int .i64 x13.aj.aa.ac.bq,.int .i64 x13.aj.aa.ac.aD.aX.fX,.int .i64 x13.aj.aa.ac.aD.aX.fY,.int .i64 x13.aj.aa.ac.aD.aX.fZ,.int .i64 x13.aj.aa.ac.aD.aJ.fX,.int .i64 x13.aj.aa.ac.aD.aJ.fY,.int .i64 x13.aj.aa.ac.aD.aJ.fZ,.int .i64 x13.aj.aa.av.aX,.int .i64 x13.aj.aa.av.aJ,.int .i64 x13.aj.aa.bd])<|sC Z<|sV (rB (decide (x5.fAt<x13.fAt)))<|sV (rB (decide (x5.fAt<x13.fAt)))<|sF h ?_ ?_<;>intro h
     ·refine sN<|sO<|cT<|gU Z<|sU<|sN<|qR ?_
      cases oI h
      exact⟨nofun,rfl,rfl⟩
     exact sN<|sO<|cF<|qK<|⟨(),rfl,h⟩
    refine sM Z<|k3<|k3<|k3<|sU<|sU ?_
    exact sN<|sO<|cF<|qK<|⟨(),rfl,h⟩
   rintro⟨⟩ R' B' hI h
   refine qS<|gS Z hI<|sV (.ptr 80 1)<|sL Z<|sF h ?_ ?_<;>intro h
   ·refine mM Z<|sV (.ptr 80 2)<|sL Z<|WO.look (gv:=PD.bool) (z:=false) (nu.int Z) Z Z Z Z Z Z Z Z<|sV (rB (!(bo (fun a b=>a==b) x5.fID false s2)))<|sF h ?_ ?_<;>intro h
    ·refine sN<|cT<|gU Z<|sU<|sN<|qR ?_
     cases oI h
     exact⟨nofun,rfl,rfl⟩
    refine sN<|cF<|qK<|WC.region Z Z<|sM Z<|sV (.ptr 80 2)<|sL Z<|sV (.ptr 80 1)<|sL Z<|sV (rB (x5.bk != (3:Int)))<|WO.mput (gv:=PD.bool) (y:=(x5.bk != (3:Int))) (nu.int Z) Z Z Z Z Z Z Z Z Z Z<|sN<|WC.region Z Z<|sV (rI (rW (s1+(1:Int))))<|sM Z ?_
    refine sN ?_
    cases oI h
    exact⟨rfl,rfl⟩
   refine sM Z<|k3<|sK<|sK<|sU<|sN<|cF<|qK<|WC.region Z Z<|sM Z<|sV (.ptr 80 2)<|sL Z<|sV (.ptr 80 1) ?_
   refine sL Z<|sV (rB (x5.bk != (3:Int)))<|WO.mput (gv:=PD.bool) (y:=(x5.bk != (3:Int))) (nu.int Z) Z Z Z Z Z Z Z Z Z Z<|sN<|WC.region Z Z<|sV (rI (rW (s1+(1:Int))))<|sM Z<|sN ?_
   cases oI h
   exact⟨rfl,rfl⟩
  refine sN<|qS<|cF<|qX ?_
  cases oI h
  exact⟨nofun,rfl,rfl⟩
 intro e R' B' he hq
 rcases o16 with y17|r18
 ·obtain⟨rfl,hI⟩:=hq
  refine qE<|gS Z hI<|sT<|sN<|qR ?_
  exact oI h▸qD
 obtain⟨rfl,hf⟩:=hq
 cases oI h
 exact hf
theorem dP{a0:am}{r:Bool}(h:c6 a0=some r):EvP prog aU ext 37 [.d (am.pd a0)] [] (rB r,[]):=by
 refine Ev.body Z Tryz.func37 Z Zk<|gU Z<|sB (.ptr 16 0) 16 (.var (am.rc a0))<|sU<|sN<|gU Z<|sV (.ptr 16 1)<|sL Z<|sA Z<|sN<|qR ?_
 cases oI h
 exact qG
theorem eF{a0:(List am)}{r:Int}(h:cn a0=some r):EvP prog aU ext 87 [rM am.pd a0,.d (.raw (.func (.func 37) #[] #[]))] [] (rI r,[]):=by
 refine Ev.body Z Tryz.func87 Z Zk<|gU Z<|sV (r0)<|sN<|qS<|gU Z<|sM Z<|sE (rI (a0.length:Int)) (hF _ _)<|sV (r0)<|sN<|bE h fun o8 ho8 h=>WC.block (WC.loop (WL.jg ho8 (fun s=>gI 0 87 2 [(0,rM am.pd a0),(1,.d (.raw (.func (.func 37) #[] #[]))),(7,rI (a0.length:Int)),(8,rI s)] []) (fun o=>match o with| .inl y=>gX 0 0 87 7 [] []| .inr r=>gF 87 Tryz.f87 0 (rI r,[])) Z ?_ ?_))
 ·rintro s1 R' B' q2 hI h
  refine gS Z hI<|sF h ?_ ?_<;>intro h
  ·refine sN<|qS<|cT<|qK<|qS<|qB<|gU Z<|sM Z<|sA Z<|sN<|gU Z<|mM Z<|sM Z<|bE h fun x4 h4 h=>?_
   refine eG h4 Z<|sV (.d (am.pd x4))<|bE h fun x5 h5 h=>jJ h (fun hb6 h=>?_) (fun hb6 h=>?_)
   ·refine WO.j3 (v:=rB true) (u:=[]) Z Z (fun _=>Z) Z Z Z Z Z (dP h5) Z Z (congrArg (fun b=>RV.d (.bool b)) hb6) Z<|sN<|cT<|gU Z<|sM Z<|sA Z<|sN<|qR ?_
    cases oI h
    exact⟨nofun,rfl,rfl⟩
   refine WO.j3 (v:=rB false) (u:=[]) Z Z (fun _=>Z) Z Z Z Z Z (dP h5) Z Z (congrArg (fun b=>RV.d (.bool b)) hb6) Z<|sN<|cF<|qK<|WC.region Z Z<|sV (rI (rW (s1+(1:Int))))<|sM Z<|sN ?_
   cases oI h
   exact⟨rfl,rfl⟩
  refine sN<|qS<|cF<|qX ?_
  cases oI h
  exact⟨nofun,rfl,rfl⟩
 intro e R' B' he hq
 rcases o8 with y9|r10
 ·obtain⟨rfl,hI⟩:=hq
  refine qE<|gS Z hI<|sV (rI (-1))<|sN<|qR ?_
  exact oI h▸qD
 obtain⟨rfl,hf⟩:=hq
 cases oI h
 exact hf
theorem eE{d0:(List am)}{r:(List am)}(h:cm d0=some r):EvP prog aU ext 36 [.ref 0 0,.d (.raw (.func (.func 37) #[] #[]))] [.arr 0 61 (d0.map am.pd)] (rM am.pd r,[.dead]):=by
 refine Ev.body Z Tryz.func36 Z Zk<|gU Z<|sV .iZ<|sN<|gU Z<|mM Z<|bE h fun x1 h1 h=>cR (rI x1) [ ] (eF h1)<|sA Z<|sN<|qS<|gU Z<|sM Z<|sF h ?_ ?_<;>intro h
 ·refine sN<|cT<|gU Z<|sM Z<|sA Z<|sN<|qR ?_
  exact oI h▸qD
 refine sN<|cF<|qK<|qS<|gU Z<|sM Z<|sV (rI (rW (x1+(1:Int))))<|sA Z<|sN<|bE h fun o19 ho19 h=>WC.block (WC.loop (WL.jg ho19 (fun s=>gI 1 36 5 [(0,.ref 0 0),(1,.d (.raw (.func (.func 37) #[] #[]))),(5,rI s.1),(6,rI s.2.1)] [(0,.arr 0 61 (s.2.2.map am.pd))]) (fun o=>gX 0 1 36 11 [(0,.ref 0 0),(5,rI o.1)] [(0,.arr 0 61 (o.2.map am.pd))]) Z ?_ ?_))
 ·rintro⟨s3,s4,s5⟩ R' B' q8 hI h
  refine qS<|gS Z hI<|mM Z<|WO.lenR Z Z Z Z Z Z Z Z Z<|sF h ?_ ?_<;>intro h
  ·refine sN<|cT<|qK<|qS<|qB<|gU Z<|mM Z<|bE h fun x11 h11 h=>WO.mU h11 Z Z Z Z Z Z Z Z<|bE h fun x12 h12 h=>WO.mY h12 Z Z Z Z Z Z<|sB (.ptr 112 0) 112 (.var zZ0)<|sH 112 (.var (am.rc x12))<|sN ?_
   refine gU Z<|sM Z<|sV (.d (am.pd x12))<|bE h fun x13 h13 h=>cD (dP h13)<|sF h ?_ ?_<;>intro h
   ·refine sN<|cT<|gU Z<|mM Z<|sV (.d (am.pd x12))<|bE h fun x16 h16 h=>WO.mU h16 Z Z Z Z Z Z Z Z<|bE h fun x17 h17 h=>WO.ng (g:=am.pd) (sz:=38) (p:=am.pd x12) h17 (by intro _;kernel_rfl) (by intro _;kernel_rfl) Z Z Z Z Z Z Z Z Z<|sN<|WC.region Z Z<|sM Z<|sV (rI (rW (s3+(1:Int))))<|sA Z ?_
    refine sN<|WC.region Z Z<|sM Z<|sV (rI (rW (s4+(1:Int))))<|sA Z<|sN ?_
    cases oI h
    exact⟨rfl,rfl⟩
   refine sN<|cF<|qK<|WC.region Z Z<|sM Z<|sV (rI (rW (s4+(1:Int))))<|sA Z<|sN ?_
   cases oI h
   exact⟨rfl,rfl⟩
  refine sN<|cF<|qX ?_
  cases oI h
  exact⟨nofun,rfl,rfl⟩
 intro e R' B' he hq
 obtain⟨rfl,hI⟩:=hq
 refine qE<|gS Z hI<|mM Z<|bE h fun x20 h20 h=>WO.subR h20 Z Z Z Z Z Z Z Z Z Z Z Z<|bE h fun x21 h21 h=>WO.clearN (z:=(am.mk 0 false (ae.mk (ap.mk [] [] [] []) 0 0 0 0 0) 0 (ai.mk (ae.mk (ap.mk [] [] [] []) 0 0 0 0 0) (au.mk [] (aA.mk (ah.mk 0 0 0) 0 0 0 (aS.mk (ah.mk 0 0 0) (ah.mk 0 0 0))) (aw.mk 0 0) 0)) 0)) (g:=am.pd) Z Z Z Z Z Z Z (dst_view h21 Z) Z Z Z Z<|sN<|gU Z<|mM Z<|bE h fun x23 h23 h=>WO.subR h23 Z Z Z Z Z Z Z Z Z Z Z Z<|sA Z ?_
 refine sN<|qR<|bE h fun x24 h24 h=>?_
 cases oI h
 exact WC.done rfl (sj h24 rfl rfl rfl rfl rfl) rfl
theorem alert_Open_ev{a0:(List am)}{r:(List am)}(h:gQ a0=some r):EvP prog aU ext 12 [rM am.pd a0] [] (rM am.pd r,[]):=by
 refine Ev.body Z Tryz.func12 Z Zk<|gU Z<|sV .iZ<|sN<|gU Z<|sM Z<|bE h fun x1 h1 h=>cR (.ref 64 0) [(64,.arr 0 61 (x1.map am.pd))] (iI h1)<|bE h fun x2 h2 h=>cR (rM am.pd x2) [(64,.dead)] (eE h2)<|sA Z<|sN<|qR ?_
 exact oI h▸qD
theorem feed_copied_ev{a0:ag}{r:ag}(h:fp a0=some r):EvP prog aU ext 38 [.d (ag.pd a0)] [] (.d (ag.pd r),[]):=by
 refine Ev.body Z Tryz.func38 Z Zk<|gU Z<|sB (.ptr 16 0) 16 (.var (ag.rc a0))<|sB (.ptr 32 0) 32 (.var zZ1)<|sN<|gU Z<|sV (.ptr 16 5)<|sV (.ptr 16 14)<|sV (.ptr 16 14)<|sL Z<|bE h fun x1 h1 h=>cR (.ref 112 0) [(112,.arr 0 44 (x1.map ae.pd))] (clone_73 h1)<|sV (.ptr 16 5)<|sV (.ptr 16 14)<|sV (.ptr 16 14) ?_
 refine sS 16 (.var (rI a0.bg::rI a0.bk::rI a0.fID::rI a0.fAt::rI a0.aW::ae.rc a0.aj.aq++ .ref 112 0::aA.rc a0.aj.aa.ac++aw.rc a0.aj.aa.av++[rI a0.aj.aa.bd]))<|sN<|gU Z<|sV (.agg (rI a0.bg::rI a0.bk::rI a0.fID::rI a0.fAt::rI a0.aW::ae.rc a0.aj.aq++ .ref 112 0::aA.rc a0.aj.aa.ac++aw.rc a0.aj.aa.av++[rI a0.aj.aa.bd]))<|sH 32 (.var (rI a0.bg::rI a0.bk::rI a0.fID::rI a0.fAt::rI a0.aW::ae.rc a0.aj.aq++ .ref 112 0::aA.rc a0.aj.aa.ac++aw.rc a0.aj.aa.av++[rI a0.aj.aa.bd]))<|sN<|qR ?_
 cases oI h
 exact qG
theorem feed_Current_ev{a0:(List ag)}{r:(List ag)}(h:eh a0=some r):EvP prog aU ext 13 [rM ag.pd a0] [] (rM ag.pd r,[]):=by
 refine Ev.body Z Tryz.func13 Z Zk<|gU Z<|sV .iZ<|sN<|gU Z<|sB (.ptr 144 0) 144 (.map 3 3 (([]:List (Int×Int)).map fun e=>((PD.int .i64) e.1,(PD.int .i64) e.2)))<|sA Z<|sN<|qS<|gU Z<|sM Z<|sE (rI (a0.length:Int)) (hF _ _)<|sV (r0)<|sN<|bE h fun o8 ho8 h=>?_
 refine WC.block (WC.loop (WL.jg ho8 (fun s=>gI 0 13 3 [(0,rM ag.pd a0),(3,.ptr 144 0),(10,rM ag.pd a0),(11,rI (a0.length:Int)),(12,rI s.1)] [(144,.map 3 3 (s.2.map fun e=>((PD.int .i64) e.1,(PD.int .i64) e.2)))]) (fun o=>gX 0 0 13 7 [(0,rM ag.pd a0),(3,.ptr 144 0)] [(144,.map 3 3 (o.map fun e=>((PD.int .i64) e.1,(PD.int .i64) e.2)))]) Z ?_ ?_))
 ·rintro⟨s1,s2⟩ R' B' q4 hI h
  refine gS Z hI<|sF h ?_ ?_<;>intro h
  ·refine sN<|qS<|cT<|qK<|qS<|qB<|gU Z<|sM Z<|bE h fun x6 h6 h=>eG h6 Z<|sV (.d (ag.pd x6))<|sB (.ptr 80 0) 80 (.var zZ1)<|sA Z<|sH 80 (.var (ag.rc x6))<|sN ?_
   refine WC.region Z Z<|sM Z<|sV (.ptr 80 2)<|sL Z<|sM Z<|WO.mput (gv:=(PD.int .i64)) (y:=s1) (nu.int Z) Z Z Z Z Z Z Z Z Z Z<|sN<|WC.region Z Z<|sV (rI (rW (s1+(1:Int))))<|sM Z<|sN ?_
   cases oI h
   exact⟨rfl,rfl⟩
  refine sN<|qS<|cF<|qX ?_
  cases oI h
  exact⟨nofun,rfl,rfl⟩
 intro e R' B' he hq
 obtain⟨rfl,hI⟩:=hq
 refine qE<|gS Z hI<|sV .iZ<|sN<|qS<|gU Z<|sM Z<|sE (rI (a0.length:Int)) (hF _ _)<|sV (r0)<|sN<|bE h fun o20 ho20 h=>WC.block (WC.loop (WL.jg ho20 (fun s=>gI 0 13 9 [(3,.ptr 144 0),(6,.ref 704 0),(22,rM ag.pd a0),(23,rI (a0.length:Int)),(24,rI s.1)] [(144,.map 3 3 (o8.map fun e=>((PD.int .i64) e.1,(PD.int .i64) e.2))),(704,.arr 0 59 (s.2.map ag.pd))]) (fun o=>gX 2 0 13 14 [(6,.ref 704 0)] [(704,.arr 0 59 (o.map ag.pd))]) Z ?_ ?_))
 ·rintro⟨s9,s10⟩ R' B' q12 hI h
  refine gS Z hI<|sF h ?_ ?_<;>intro h
  ·refine sN<|qS<|cT<|qK<|qS<|qB<|gU Z<|sM Z<|bE h fun x14 h14 h=>eG h14 Z<|sV (.d (ag.pd x14))<|sB (.ptr 128 0) 128 (.var zZ1)<|sA Z<|sH 128 (.var (ag.rc x14))<|sN ?_
   refine gU Z<|sM Z<|sV (.ptr 128 2)<|sL Z<|WO.look (gv:=(PD.int .i64)) (z:=(0:Int)) (nu.int Z) Z Z Z Z Z Z Z Z<|sM Z<|sF h ?_ ?_<;>intro h
   ·refine sM Z<|sV (.ptr 128 1)<|sL Z<|sV (rB (x14.bk != (3:Int)))<|sF h ?_ ?_<;>intro h
    ·refine sN<|cT<|WC.region Z Z<|sM Z<|sV (.d (ag.pd x14))<|bE h fun x17 h17 h=>cD (feed_copied_ev h17)<|sG (.d (.lst ([x17].map ag.pd)))<|bE h fun x18 h18 h=>aR h18 (fun _=>Z) Z<|sA Z<|sN<|WC.region Z Z<|sV (rI (rW (s9+(1:Int))))<|sM Z ?_
     refine sN ?_
     cases oI h
     exact⟨rfl,rfl⟩
    refine sN<|cF<|qK<|WC.region Z Z<|sV (rI (rW (s9+(1:Int))))<|sM Z<|sN ?_
    cases oI h
    exact⟨rfl,rfl⟩
   refine sM Z<|k3<|sU<|sN<|cF<|qK<|WC.region Z Z<|sV (rI (rW (s9+(1:Int))))<|sM Z<|sN ?_
   cases oI h
   exact⟨rfl,rfl⟩
  refine sN<|qS<|cF<|qX ?_
  cases oI h
  exact⟨nofun,rfl,rfl⟩
 intro e R' B' he hq
 obtain⟨rfl,hI⟩:=hq
 refine qE<|gS Z hI<|sM Z<|bE h fun x21 h21 h=>cR (.tup []) [(704,.arr 0 59 (x21.map ag.pd))] (sort_39_40 h21)<|sN<|gU Z<|sM Z<|sA Z<|sN<|qR ?_
 exact oI h▸qD
theorem gc{a0:(List ae)}{a1:(List ae)}{r:Bool}(h:cB a0 a1=some r):EvP prog aU ext 91 [rM ae.pd a0,rM ae.pd a1] [] (rB r,[]):=by
 refine Ev.body Z Tryz.func91 Z Zk<|gU Z<|sU<|sN<|qS<|gU Z<|sM Z<|sE (rI (a0.length:Int)) (hF _ _)<|sM Z<|sE (rI (a1.length:Int)) (hF _ _)<|sF h ?_ ?_<;>intro h
 ·refine sN<|cT<|gU Z<|sU<|sN<|qR ?_
  exact oI h▸qD
 refine sN<|cF<|qK<|qS<|gU Z<|sV (r0)<|sN<|bE h fun o9 ho9 h=>WC.block (WC.loop (WL.jg ho9 (fun s=>gI 0 91 4 [(0,rM ae.pd a0),(1,rM ae.pd a1),(5,rI s)] []) (fun o=>match o with| .inl y=>gX 0 0 91 8 [] []| .inr r=>gF 91 Tryz.f91 0 (rB r,[])) Z ?_ ?_))
 ·rintro s2 R' B' q3 hI h
  refine qS<|gS Z hI<|mM Z<|sE (rI (a0.length:Int)) (hF _ _)<|sF h ?_ ?_<;>intro h
  ·refine sN<|cT<|qK<|qS<|qB<|WC.iu Z Z<|mM Z<|bE h fun x5 h5 h=>eG h5 Z<|sV (.d (ae.pd x5))<|mM Z<|bE h fun x6 h6 h=>eG h6 Z ?_
   refine sV (.d (ae.pd x6))<|jJ h (fun hb7 h=>?_) (fun hb7 h=>?_)
   ·refine WO.binS (eqN_44 x5 x6) hb7 Z Z Z Z Z ?_
    refine sN<|sO<|cT<|gU Z<|sU<|sN<|qR ?_
    cases oI h
    exact⟨nofun,rfl,rfl⟩
   refine WO.binS (eqN_44 x5 x6) hb7 Z Z Z Z Z ?_
   refine sN<|sO<|cF<|qK<|WC.region Z Z<|sM Z<|sV (rI (rW (s2+(1:Int))))<|sA Z<|sN ?_
   cases oI h
   exact⟨rfl,rfl⟩
  refine sN<|cF<|qX ?_
  cases oI h
  exact⟨nofun,rfl,rfl⟩
 intro e R' B' he hq
 rcases o9 with y10|r11
 ·obtain⟨rfl,hI⟩:=hq
  refine qE<|gS Z hI<|sT<|sN<|qR ?_
  exact oI h▸qD
 obtain⟨rfl,hf⟩:=hq
 cases oI h
 exact hf
theorem ref33_Same_ev{a0:au}{a1:au}{r:Bool}(h:eT a0 a1=some r):EvP prog aU ext 42 [.d (au.pd a0),.d (au.pd a1)] [] (rB r,[]):=by
 refine Ev.body Z Tryz.func42 Z Zk<|gU Z<|sB (.ptr 32 0) 32 (.var (au.rc a0))<|sB (.ptr 48 0) 48 (.var (au.rc a1))<|sU<|sN<|gU Z<|sV (.ptr 32 0)<|sL Z<|sV (.ptr 48 0)<|sL Z<|bE h fun x1 h1 h=>jJ h (fun hb2 h=>?_) (fun hb2 h=>?_)
 ·refine WO.j3 (v:=rB true) (u:=[]) Z Z (fun _=>Z) Z Z Z Z Z (gc h1) Z Z (congrArg (fun b=>RV.d (.bool b)) hb2) Z<|sM Z<|sV (.ptr 32 1)<|sV (.d (aA.pd a0.ac))<|sV (.ptr 48 1)<|sV (.d (aA.pd a1.ac))<|WO.bin (eqE_51 a0.ac a1.ac) Z Z Z Z Z<|sF h ?_ ?_<;>intro h
  ·refine sM Z<|sV (.ptr 32 13)<|sV (.d (aw.pd a0.av))<|sV (.ptr 48 13)<|sV (.d (aw.pd a1.av))<|WO.bin (eqE_53 a0.av a1.av) Z Z Z Z Z<|sF h ?_ ?_<;>intro h
   ·refine sM Z<|sV (.ptr 32 15)<|sL Z<|sV (.ptr 48 15)<|sL Z<|sV (rB (a0.bd==a1.bd))<|sV (rB (a0.bd==a1.bd))<|sA Z<|sN<|qR ?_
    cases oI h
    exact qG
   refine sM Z<|k3<|sK<|sK<|sU<|sA Z<|sN<|qR ?_
   cases oI h
   exact qG
  refine sM Z<|k3<|sK<|sK<|sU<|sM Z<|k3<|sK<|sK<|sU<|sA Z ?_
  refine sN<|qR ?_
  cases oI h
  exact qG
 refine WO.j3 (v:=rB false) (u:=[]) Z Z (fun _=>Z) Z Z Z Z Z (gc h1) Z Z (congrArg (fun b=>RV.d (.bool b)) hb2) Z<|sM Z<|k3<|sK<|sK<|sU<|sM Z<|k3<|sK<|sK<|sU ?_
 refine sM Z<|k3<|sK<|sK<|sU<|sA Z<|sN<|qR ?_
 cases oI h
 exact qG
theorem gd{a0:ai}{a1:ai}{r:Bool}(h:bO a0 a1=some r):EvP prog aU ext 14 [.d (ai.pd a0),.d (ai.pd a1)] [] (rB r,[]):=by
 refine Ev.body Z Tryz.func14 Z Zk<|gU Z<|sB (.ptr 32 0) 32 (.var (ai.rc a0))<|sB (.ptr 48 0) 48 (.var (ai.rc a1))<|sU<|sN<|gU Z<|sV (.ptr 32 0)<|sV (.d (ae.pd a0.aq))<|sV (.ptr 48 0)<|sV (.d (ae.pd a1.aq))<|jJ h (fun hb1 h=>?_) (fun hb1 h=>?_)
 ·refine WO.binS (eqE_44 a0.aq a1.aq) hb1 Z Z Z Z Z<|sM Z<|sV (.ptr 32 9)<|sV (.d (au.pd a0.aa))<|sV (.ptr 48 9)<|sV (.d (au.pd a1.aa))<|bE h fun x2 h2 h=>cD (ref33_Same_ev h2)<|sV (rB x2)<|sA Z<|sN<|qR ?_
  cases oI h
  exact qG
 refine WO.binS (eqE_44 a0.aq a1.aq) hb1 Z Z Z Z Z<|sM Z<|k3<|sK<|sK<|sU<|sA Z<|sN<|qR ?_
 cases oI h
 exact qG
theorem et{a0:Int}{r:ag}(h:cO a0=some r):EvP prog aU ext 43 [rI a0] [] (.d (ag.pd r),[]):=by
 refine Ev.body Z Tryz.func43 Z Zk<|gU Z<|sB (.ptr 32 0) 32 (.var zZ1)<|sN<|gU Z<|bE h fun x1 h1 h=>cD (ib h1)<|sG (.d (ae.pd (ae.mk x1 5 4 9 0 (-1))))<|sB (.ptr 48 0) 48 (.var [rS [],rS [],rS [],rS [],r0,r0,r0,r0,r0])<|sH 48 (.var (ap.rc x1++[rI 5,rI 4,rI 9,r0,rI (-1)]))<|sN<|gU Z<|mM Z<|sV (.d (ae.pd (ae.mk x1 5 4 9 0 (-1)))) ?_
 refine sV (.d (ae.pd (ae.mk x1 5 4 9 0 (-1))))<|sG (.d (.lst ([(ae.mk x1 5 4 9 0 (-1))].map ae.pd)))<|sG (.d (.agg [.lst ([(ae.mk x1 5 4 9 0 (-1))].map ae.pd),.int .i64 0,.int .i64 0,.int .i64 0,.int .i64 0,.int .i64 0,.int .i64 0,.int .i64 0,.int .i64 0,.int .i64 0,.int .i64 0,.int .i64 0,.int .i64 0,.int .i64 0,.int .i64 0,.int .i64 0]))<|sG (.d (.agg [.str x1.aM,.str x1.aN,.str x1.ac,.str x1.aO,.int .i64 5,.int .i64 4,.int .i64 9,.int .i64 0,.int .i64 (-1),.lst ([(ae.mk x1 5 4 9 0 (-1))].map ae.pd),.int .i64 0,.int .i64 0,.int .i64 0,.int .i64 0,.int .i64 0,.int .i64 0,.int .i64 0,.int .i64 0,.int .i64 0,.int .i64 0,.int .i64 0,.int .i64 0,.int .i64 0,.int .i64 0,.int .i64 0]))<|sG (.d (.agg [.int .i64 a0,.int .i64 1,.int .i64 a0,.int .i64 7,.int .i64 1,.str x1.aM,.str x1.aN,.str x1.ac,.str x1.aO,.int .i64 5,.int .i64 4,.int .i64 9,.int .i64 0,.int .i64 (-1),.lst ([(ae.mk x1 5 4 9 0 (-1))].map ae.pd),.int .i64 0,.int .i64 0,.int .i64 0,.int .i64 0,.int .i64 0,.int .i64 0,.int .i64 0,.int .i64 0,.int .i64 0,.int .i64 0,.int .i64 0,.int .i64 0,.int .i64 0,.int .i64 0,.int .i64 0]))<|sH 32 (.var (rI a0::rI 1::rI a0::rI 7::rI 1::ap.rc x1++[rI 5,rI 4,rI 9,r0,rI (-1),.d (.lst ([(ae.mk x1 5 4 9 0 (-1))].map ae.pd)),r0,r0,r0,r0,r0,r0,r0,r0,r0,r0,r0,r0,r0,r0,r0]))<|sN<|qR ?_
 cases oI h
 exact qG
theorem iT{a0:(List Int)}{r:(List (List UInt8))}(h:cP a0=some r):EvP prog aU ext 51 [.ptr 0 0,rL a0] [.var [.iZ]] (.tup [],[.var [.ref 1 0],.arr 0 9 (r.map PD.str)]):=by
 refine Ev.body Z Tryz.func51 Z Zk<|gU Z<|sM Z<|sE (rI (a0.length:Int)) (hF _ _)<|sV (r0)<|sN<|bE h fun o10 ho10 h=>?_
 cases oI h
 refine WC.block (WC.loop (WL.qL ho10 (fun s=>gI 1 51 1 [(0,.ptr 0 0),(6,rL a0),(7,rI (a0.length:Int)),(8,rI s.1)] [(0,.var [.ref 320 0]),(320,.arr 0 9 (s.2.map PD.str))]) Z ?_))
 rintro⟨s1,s2⟩ R' B' q3 hI h
 refine gS Z hI<|sF h ?_ ?_<;>intro h
 ·refine sN<|qS<|cT<|qK<|qS<|qB<|gU Z<|bE h fun x5 h5 h=>eG h5 Z<|sC Z<|sA Z<|sN<|WC.kK Z Z<|sM Z<|sM Z ?_
  refine sV (.ptr 0 0)<|sV (.ptr 0 0)<|sL Z<|sM Z<|bE h fun x6 h6 h=>cD ((rq Z) h6)<|sV (.d (.lst ([x6].map PD.str)))<|bE h fun x7 h7 h=>aR h7 (fun _=>Z) Z<|sV (.ptr 0 0)<|sV (.ptr 0 0)<|sS 0 (.var [.ref 320 1]) ?_
  refine sN<|sO<|WC.region Z Z<|sV (rI (rW (s1+(1:Int))))<|sM Z<|sN ?_
  cases oI h
  exact⟨rfl,rfl⟩
 refine sN<|qS<|cF<|qX<|oB h (fun z8 hkz8 hz=>?_)
 obtain rfl:=Option.some.inj hz
 refine⟨(fun he=>by cases he),fun hz2=>?_⟩
 subst hz2
 have h:=hkz8
 refine qE ?_
 exact oI h▸qD
theorem source_parts_ev{a0:ap}{r:bN}(h:fO a0=some r):EvP prog aU ext 176 [.d (ap.pd a0)] [] (.d (bN.pd r),[]):=by
 refine Ev.body Z Tryz.func176 Z Zk<|gU Z<|sB (.ptr 16 0) 16 (.var (ap.rc a0))<|sB (.ptr 32 0) 32 (.var [rS [],rS [],rS [],rS []])<|sN<|gU Z<|sV (.ptr 16 0)<|sL Z<|sV (.ptr 16 1)<|sL Z<|sV (.ptr 16 2)<|sL Z<|sV (.ptr 16 3)<|sL Z<|sV (.d (bN.pd (bN.mk a0.aM a0.aN a0.ac a0.aO))) ?_
 refine sS 32 (.var (ap.rc a0))<|sN<|qR ?_
 exact oI h▸qD
theorem source_Format_ev{a0:ap}{r:(List UInt8)×Int}(h:cJ a0=some r):EvP prog aU ext 104 [.d (ap.pd a0)] [] (.tup [rS r.1,rI r.2],[]):=by
 refine Ev.body Z Tryz.func104 Z Zk<|gU Z<|sB (.ptr 16 0) 16 (.var (ap.rc a0))<|sV (rS [])<|sV (r0)<|sN<|qS<|gU Z<|sV (.d (ap.pd a0))<|bE h fun x1 h1 h=>cD (dO h1)<|sF h ?_ ?_<;>intro h
 ·refine sN<|cT<|gU Z<|sV (rS [])<|sV (rI 1)<|sN<|qR ?_
  exact oI h▸qD
 refine sN<|cF<|qK<|gU Z<|sV (.d (ap.pd a0))<|bE h fun x3 h3 h=>cD (source_parts_ev h3)<|sB (.ptr 64 0) 64 (.var [rS [],rS [],rS [],rS []])<|sS 64 (.var [rS x3.a0,rS x3.a1,rS x3.a2,rS x3.a3])<|sN<|gU Z<|sB (.d (.lst ([x3.a0,x3.a1,x3.a2,x3.a3].map PD.str))) 64 .dead<|bE h fun x4 h4 h=>cD ((ud Z) h4)<|sA Z ?_
 refine sV (r0)<|sN<|qR ?_
 exact oI h▸qD
theorem dV{a0:(List Int)}{d1:(List (List UInt8))}{r:(List (List UInt8))}(h:bD a0 d1=some r):EvP prog aU ext 51 [.ptr 0 0,rL a0] [.var [.ref 1 0],.arr 0 9 (d1.map PD.str)] (.tup [],[.var [.ref 1 1],.arr 1 9 (r.map PD.str)]):=by
 refine Ev.body Z Tryz.func51 Z Zk<|gU Z<|sM Z<|sE (rI (a0.length:Int)) (hF _ _)<|sV (r0)<|sN<|bE h fun o11 ho11 h=>?_
 cases oI h
 refine WC.block (WC.loop (WL.qL ho11 (fun s=>gI 2 51 1 [(0,.ptr 0 0),(6,rL a0),(7,rI (a0.length:Int)),(8,rI s.1)] [(0,.var [.ref 1 1]),(1,.arr 1 9 (s.2.map PD.str))]) Z ?_))
 rintro⟨s2,s3⟩ R' B' q4 hI h
 refine gS Z hI<|sF h ?_ ?_<;>intro h
 ·refine sN<|qS<|cT<|qK<|qS<|qB<|gU Z<|bE h fun x6 h6 h=>eG h6 Z<|sC Z<|sA Z<|sN<|WC.kK Z Z<|sM Z<|sM Z ?_
  refine sV (.ptr 0 0)<|sV (.ptr 0 0)<|sL Z<|sM Z<|bE h fun x7 h7 h=>cD ((rq Z) h7)<|sV (.d (.lst ([x7].map PD.str)))<|bE h fun x8 h8 h=>aR h8 (fun _=>Z) Z<|sV (.ptr 0 0)<|sV (.ptr 0 0)<|sS 0 (.var [.ref 1 2]) ?_
  refine sN<|sO<|WC.region Z Z<|sV (rI (rW (s2+(1:Int))))<|sM Z<|sN ?_
  cases oI h
  exact⟨rfl,rfl⟩
 refine sN<|qS<|cF<|qX<|oB h (fun z9 hkz9 hz=>?_)
 obtain rfl:=Option.some.inj hz
 refine⟨(fun he=>by cases he),fun hz2=>?_⟩
 subst hz2
 have h:=hkz9
 refine qE ?_
 exact oI h▸qD
theorem iv{a0:ae}{d1:(List (List UInt8))}{r:(List (List UInt8))}(h:dB a0 d1=some r):EvP prog aU ext 52 [.ptr 0 0,.d (ae.pd a0)] [.var [.ref 1 0],.arr 0 9 (d1.map PD.str)] (.tup [],[.var [.ref 1 1],.arr 1 9 (r.map PD.str)]):=by
 refine Ev.body Z Tryz.func52 Z Zk<|gU Z<|sB (.ptr 48 0) 48 (.var (ae.rc a0))<|sN<|gU Z<|sV (.ptr 48 0)<|sV (.d (ap.pd a0.ar))<|bE h fun x1 h1 h=>cR (.tup [rS x1.1,rI x1.2]) [] (source_Format_ev h1)<|sM Z<|sV (rS x1.1)<|sV (rI x1.2)<|sA Z<|sA Z<|sN ?_
 refine gU Z<|mM Z<|sV (.ptr 0 0)<|sV (.ptr 0 0)<|sL Z<|sM Z<|sV (.d (.lst ([x1.1].map PD.str)))<|bE h fun x2 h2 h=>aR h2 (fun _=>Z) Z<|sV (.ptr 0 0)<|sV (.ptr 0 0)<|sS 0 (.var [.ref 1 1])<|sN<|WC.region Z Z ?_
 refine sM Z<|sV (.ptr 48 4)<|sL Z<|sV (.ptr 48 5)<|sL Z<|sV (.ptr 48 6)<|sL Z<|sV (.ptr 48 7)<|sL Z<|sV (.ptr 48 8)<|sL Z<|sV (.d (.lst ([a0.aL,a0.aY,a0.bh,a0.aF,a0.aH].map (PD.int .i64))))<|bE h fun x3 h3 h=>cR (.tup []) [(0,.var [.ref 1 2]),(1,.arr 2 9 (x3.map PD.str))] (dV h3)<|sN ?_
 cases oI h
 exact qG
theorem fW{a0:ag}{r:(List UInt8)×Int}(h:cQ a0=some r):EvP prog aU ext 18 [.d (ag.pd a0)] [] (.tup [rS r.1,rI r.2],[]):=by
 refine Ev.body Z Tryz.func18 Z Zk<|gU Z<|sB (.ptr 16 0) 16 (.var (ag.rc a0))<|sV (rS [])<|sV (r0)<|sN<|qS<|gU Z<|sV (.d (ag.pd a0))<|bE h fun x1 h1 h=>cD (iC h1)<|sF h ?_ ?_<;>intro h
 ·refine sN<|cT<|gU Z<|sV (rS [])<|sV (rI 1)<|sN<|qR ?_
  cases oI h
  exact qG
 refine sN<|cF<|qK<|gU Z<|sB (.ptr 64 0) 64 (.var [.iZ])<|sN<|gU Z<|sV (.ptr 16 0)<|sL Z<|sV (.ptr 16 1)<|sL Z<|sV (.ptr 16 2)<|sL Z<|sV (.ptr 16 3)<|sL Z ?_
 refine sV (.ptr 16 4)<|sL Z<|sV (.d (.lst ([a0.bg,a0.bk,a0.fID,a0.fAt,a0.aW].map (PD.int .i64))))<|bE h fun x3 h3 h=>cR (.tup []) [(64,.var [.ref 336 0]),(336,.arr 0 9 (x3.map PD.str))] (iT h3)<|sN<|gU Z<|sV (.ptr 16 5)<|sV (.ptr 16 5)<|sV (.d (ae.pd a0.aj.aq))<|bE h fun x4 h4 h=>cR (.tup []) [(64,.var [.ref 336 1]),(336,.arr 1 9 (x4.map PD.str))] (iv h4)<|sN<|gU Z<|sV (.ptr 16 5) ?_
 refine sV (.ptr 16 14)<|sV (.ptr 16 14)<|sL Z<|sE (rI (a0.aj.aa.aB.length:Int)) (hF _ _)<|sV (.d (.lst ([(a0.aj.aa.aB.length:Int)].map (PD.int .i64))))<|bE h fun x5 h5 h=>cR (.tup []) [(64,.var [.ref 336 2]),(336,.arr 2 9 (x5.map PD.str))] (dV h5)<|sN<|qS<|gU Z<|sV (.ptr 16 5)<|sV (.ptr 16 14)<|sV (.ptr 16 14)<|sL Z<|sE (rI (a0.aj.aa.aB.length:Int)) (hF _ _) ?_
 refine sV (r0)<|sN<|bE h fun o14 ho14 h=>WC.block (WC.loop (WL.jg ho14 (fun s=>gI 0 18 8 [(1,.ptr 16 0),(4,.ptr 64 0),(36,rM ae.pd a0.aj.aa.aB),(37,rI (a0.aj.aa.aB.length:Int)),(38,rI s.1)] [(16,.var (ag.rc a0)),(64,.var [.ref 336 0]),(336,.arr 0 9 (s.2.map PD.str))]) (fun o=>gX 0 0 18 12 [(1,.ptr 16 0),(4,.ptr 64 0)] [(16,.var (ag.rc a0)),(64,.var [.ref 336 0]),(336,.arr 0 9 (o.map PD.str))]) Z ?_ ?_))
 ·rintro⟨s6,s7⟩ R' B' q9 hI h
  refine gS Z hI<|sF h ?_ ?_<;>intro h
  ·refine sN<|qS<|cT<|qK<|qS<|qB<|gU Z<|bE h fun x11 h11 h=>eG h11 Z<|sV (.d (ae.pd x11))<|sB (.ptr 96 0) 96 (.var [rS [],rS [],rS [],rS [],r0,r0,r0,r0,r0])<|sH 96 (.var (ae.rc x11))<|sN<|WC.region Z Z<|sV (.d (ae.pd x11)) ?_
   refine bE h fun x12 h12 h=>cR (.tup []) [(64,.var [.ref 336 1]),(336,.arr 1 9 (x12.map PD.str))] (iv h12)<|sN<|WC.region Z Z<|sV (rI (rW (s6+(1:Int))))<|sM Z<|sN ?_
   cases oI h
   exact⟨rfl,rfl⟩
  refine sN<|qS<|cF<|qX ?_
  cases oI h
  exact⟨nofun,rfl,rfl⟩
 intro e R' B' he hq
 obtain⟨rfl,hI⟩:=hq
 refine qE<|gS Z hI<|sV (.ptr 16 5)<|sV (.ptr 16 14)<|sV (.d (au.pd a0.aj.aa))<|bE h fun x15 h15 h=>cD (hT h15)<|bE h fun x16 h16 h=>cR (.tup []) [(64,.var [.ref 336 1]),(336,.arr 1 9 (x16.map PD.str))] (dV h16)<|sN<|gU Z<|sV (.ptr 64 0)<|sL Z<|bE h fun x17 h17 h=>cR (rS x17) [ ] ((ud Z) h17) ?_
 refine sA Z<|sV (r0)<|sN<|qR ?_
 cases oI h
 exact qG
theorem ik{d0:az}{r:(List UInt8)×az}(h:d8 d0=some r):EvP prog aU ext 164 [.ptr 0 0] [.var (az.rc d0)] (rS r.1,[.var (az.rc r.2)]):=by
 refine Ev.body Z Tryz.func164 Z Zk<|gU Z<|sV (rS [])<|sN<|qS<|gU Z<|sM Z<|sV (.ptr 0 0)<|sV (.ptr 0 0)<|sL Z<|sE (rI (d0.bJ.length:Int)) (hF _ _)<|sF h ?_ ?_<;>intro h
 ·refine sN<|cT<|gU Z<|sM Z<|sV (.ptr 0 0)<|sV (.ptr 0 1)<|sS 0 (.var [.d (.lst (d0.bJ.map PD.str)),rB true])<|sN<|gU Z<|sV (rS [])<|sN<|qR ?_
  exact oI h▸qD
 refine sN<|cF<|qK<|gU Z<|sM Z<|sV (.ptr 0 0)<|sV (.ptr 0 0)<|sL Z<|bE h fun x2 h2 h=>eG h2 Z<|sC Z<|sA Z<|sN<|gU Z<|sM Z ?_
 refine sM Z<|sV (.ptr 0 0)<|sV (.ptr 0 0)<|sL Z<|bE h fun x3 h3 h=>WO.cutL (sz:=1) (g:=PD.str) h3 (fun _=>Z) Z Z Z Z Z Z Z Z Z Z Z<|sV (.ptr 0 0)<|sV (.ptr 0 0)<|sS 0 (.var [.d (.lst (x3.map PD.str)),rB d0.fbad])<|sN<|gU Z<|sM Z<|sA Z<|sN<|qR ?_
 exact oI h▸qD
theorem aT{d0:az}{r:Int×az}(h:aG d0=some r):EvP prog aU ext 93 [.ptr 0 0] [.var (az.rc d0)] (rI r.1,[.var (az.rc r.2)]):=by
 refine Ev.body Z Tryz.func93 Z Zk<|gU Z<|sV (r0)<|sN<|gU Z<|sM Z<|bE h fun x1 h1 h=>cR (rS x1.1) [(0,.var (az.rc x1.2))] (ik h1)<|sA Z<|sN<|gU Z<|sM Z<|bE h fun x2 h2 h=>cR (.tup [rI x2.1,.err x2.2]) [] ((atoi_ev Z) h2)<|sM Z ?_
 refine sV (rI x2.1)<|sV (.err x2.2)<|sA Z<|sA Z<|sN<|gU Z<|mM Z<|sV (.ptr 0 0)<|sV (.ptr 0 1)<|sF h ?_ ?_<;>intro h
 ·refine sM Z<|sK<|sK<|sT<|sM Z<|k3<|sK<|sT<|sV (.ptr 0 0)<|sV (.ptr 0 1)<|sS 0 (.var [.d (.lst (x1.2.bJ.map PD.str)),rB true])<|sN<|gU Z ?_
  refine sM Z<|sA Z<|sN<|qR ?_
  exact oI h▸qD
 refine mM Z<|sV (rB (!x2.2))<|sF h ?_ ?_<;>intro h
 ·refine sM Z<|k3<|sK<|sT<|sV (.ptr 0 0)<|sV (.ptr 0 1)<|sS 0 (.var [.d (.lst (x1.2.bJ.map PD.str)),rB true])<|sN<|gU Z<|sM Z<|sA Z<|sN<|qR ?_
  exact oI h▸qD
 refine mM Z<|bE h fun x5 h5 h=>cD ((rq Z) h5)<|sM Z<|sV (rB (!(x5==x1.1)))<|sV (rB (!(x5==x1.1)))<|sV (.ptr 0 0)<|sV (.ptr 0 1)<|sS 0 (.var [.d (.lst (x1.2.bJ.map PD.str)),rB (!(x5==x1.1))])<|sN<|gU Z<|sM Z<|sA Z<|sN ?_
 refine qR ?_
 exact oI h▸qD
theorem source_Parse_ev{a0:(List UInt8)}{r:ap×Int}(h:cZ a0=some r):EvP prog aU ext 166 [rS a0] [] (.tup [.d (ap.pd r.1),rI r.2],[]):=by
 refine Ev.body Z Tryz.func166 Z Zk<|gU Z<|sB (.ptr 32 0) 32 (.var [rS [],rS [],rS [],rS []])<|sV (r0)<|sN<|gU Z<|sM Z<|bE h fun x1 h1 h=>cD ((sX Z) h1)<|sA Z<|sN<|qS<|gU Z<|sM Z<|sE (rI (x1.length:Int)) (hF _ _) ?_
 refine sF h ?_ ?_<;>intro h
 ·refine sN<|cT<|gU Z<|sV (.d (ap.pd (ap.mk [] [] [] [])))<|sS 32 (.var [rS [],rS [],rS [],rS []])<|sV (rI 3)<|sN<|qR ?_
  exact oI h▸qD
 refine sN<|cF<|qK<|WC.iu Z Z<|sM Z<|bE h fun x3 h3 h=>eG h3 Z<|sC Z<|sM Z<|bE h fun x4 h4 h=>eG h4 Z<|sC Z<|sM Z<|bE h fun x5 h5 h=>eG h5 Z ?_
 refine sC Z<|sM Z<|bE h fun x6 h6 h=>eG h6 Z<|sC Z<|sV (.d (ap.pd (ap.mk x3 x4 x5 x6)))<|sB (.ptr 80 0) 80 (.var [rS [],rS [],rS [],rS []])<|sS 80 (.var [rS x3,rS x4,rS x5,rS x6]) ?_
 refine sN<|sO<|qS<|gU Z<|sV (.d (ap.pd (ap.mk x3 x4 x5 x6)))<|bE h fun x7 h7 h=>cD (dO h7)<|sF h ?_ ?_<;>intro h
 ·refine sN<|cT<|gU Z<|sV (.d (ap.pd (ap.mk [] [] [] [])))<|sS 32 (.var [rS [],rS [],rS [],rS []])<|sV (rI 3)<|sN<|qR ?_
  exact oI h▸qD
 refine sN<|cF<|qK<|gU Z<|sV (.d (ap.pd (ap.mk x3 x4 x5 x6)))<|sS 32 (.var [rS x3,rS x4,rS x5,rS x6])<|sV (r0)<|sN<|qR ?_
 exact oI h▸qD
theorem ij{d0:az}{r:ae×az}(h:du d0=some r):EvP prog aU ext 94 [.ptr 0 0] [.var (az.rc d0)] (.d (ae.pd r.1),[.var (az.rc r.2)]):=by
 refine Ev.body Z Tryz.func94 Z Zk<|gU Z<|sB (.ptr 32 0) 32 (.var [rS [],rS [],rS [],rS [],r0,r0,r0,r0,r0])<|sN<|gU Z<|sM Z<|bE h fun x1 h1 h=>cR (rS x1.1) [(0,.var (az.rc x1.2))] (ik h1)<|bE h fun x2 h2 h=>cR (.tup [.d (ap.pd x2.1),rI x2.2]) [] (source_Parse_ev h2)<|sM Z<|sV (.d (ap.pd x2.1))<|sV (rI x2.2)<|sB (.ptr 48 0) 48 (.var [rS [],rS [],rS [],rS []])<|sS 48 (.var (ap.rc x2.1)) ?_
 refine sA Z<|sN<|gU Z<|mM Z<|sV (.ptr 0 0)<|sV (.ptr 0 1)<|sF h ?_ ?_<;>intro h
 ·refine sM Z<|sK<|sK<|sT<|sV (.ptr 0 0)<|sV (.ptr 0 1)<|sS 0 (.var [.d (.lst (x1.2.bJ.map PD.str)),rB true])<|sN<|WC.iu Z Z<|sV (.d (ap.pd x2.1))<|sM Z<|bE h fun x4 h4 h=>cR (rI x4.1) [(0,.var (az.rc x4.2))] (aT h4)<|sM Z<|bE h fun x5 h5 h=>?_
  refine cR (rI x5.1) [(0,.var (az.rc x5.2))] (aT h5)<|sM Z<|bE h fun x6 h6 h=>cR (rI x6.1) [(0,.var (az.rc x6.2))] (aT h6)<|sM Z<|bE h fun x7 h7 h=>cR (rI x7.1) [(0,.var (az.rc x7.2))] (aT h7)<|sM Z<|bE h fun x8 h8 h=>cR (rI x8.1) [(0,.var (az.rc x8.2))] (aT h8)<|sG (.d (ae.pd (ae.mk x2.1 x4.1 x5.1 x6.1 x7.1 x8.1)))<|sH 32 (.var (ap.rc x2.1++[rI x4.1,rI x5.1,rI x6.1,rI x7.1,rI x8.1])) ?_
  refine sN<|sO<|qR ?_
  cases oI h
  exact qG
 refine mM Z<|sV (rB (x2.2 != (0:Int)))<|sV (rB (x2.2 != (0:Int)))<|sV (.ptr 0 0)<|sV (.ptr 0 1)<|sS 0 (.var [.d (.lst (x1.2.bJ.map PD.str)),rB (x2.2 != (0:Int))])<|sN<|WC.iu Z Z<|sV (.d (ap.pd x2.1))<|sM Z<|bE h fun x9 h9 h=>cR (rI x9.1) [(0,.var (az.rc x9.2))] (aT h9)<|sM Z<|bE h fun x10 h10 h=>?_
 refine cR (rI x10.1) [(0,.var (az.rc x10.2))] (aT h10)<|sM Z<|bE h fun x11 h11 h=>cR (rI x11.1) [(0,.var (az.rc x11.2))] (aT h11)<|sM Z<|bE h fun x12 h12 h=>cR (rI x12.1) [(0,.var (az.rc x12.2))] (aT h12)<|sM Z<|bE h fun x13 h13 h=>cR (rI x13.1) [(0,.var (az.rc x13.2))] (aT h13)<|sG (.d (ae.pd (ae.mk x2.1 x9.1 x10.1 x11.1 x12.1 x13.1)))<|sH 32 (.var (ap.rc x2.1++[rI x9.1,rI x10.1,rI x11.1,rI x12.1,rI x13.1])) ?_
 refine sN<|sO<|qR ?_
 cases oI h
 exact qG
theorem dT{d0:az}{r:ah×az}(h:ck d0=some r):EvP prog aU ext 95 [.ptr 0 0] [.var (az.rc d0)] (.d (ah.pd r.1),[.var (az.rc r.2)]):=by
 refine Ev.body Z Tryz.func95 Z Zk<|gU Z<|sB (.ptr 32 0) 32 (.var [r0,r0,r0])<|sN<|gU Z<|sM Z<|bE h fun x1 h1 h=>cR (rI x1.1) [(0,.var (az.rc x1.2))] (aT h1)<|sM Z<|bE h fun x2 h2 h=>cR (rI x2.1) [(0,.var (az.rc x2.2))] (aT h2)<|sM Z<|bE h fun x3 h3 h=>cR (rI x3.1) [(0,.var (az.rc x3.2))] (aT h3)<|sV (.d (ah.pd (ah.mk x1.1 x2.1 x3.1))) ?_
 refine sS 32 (.var [rI x1.1,rI x2.1,rI x3.1])<|sN<|qR ?_
 exact oI h▸qD
theorem fV{a0:(List UInt8)}{r:ag×Int}(h:dX a0=some r):EvP prog aU ext 44 [rS a0] [] (.tup [.d (ag.pd r.1),rI r.2],[]):=by
 refine Ev.body Z Tryz.func44 Z Zk<|gU Z<|sB (.ptr 32 0) 32 (.var zZ1)<|sV (r0)<|sN<|gU Z<|sM Z<|bE h fun x1 h1 h=>cD ((sX Z) h1)<|sV (.d (.agg [.lst (x1.map PD.str),.bool false]))<|sB (.ptr 208 0) 208 (.var [.d (.lst (x1.map PD.str)),rB false])<|sA Z<|sN<|gU Z<|sM Z ?_
 refine bE h fun x2 h2 h=>cR (rI x2.1) [(208,.var (az.rc x2.2))] (aT h2)<|sM Z<|bE h fun x3 h3 h=>cR (rI x3.1) [(208,.var (az.rc x3.2))] (aT h3)<|sM Z<|bE h fun x4 h4 h=>cR (rI x4.1) [(208,.var (az.rc x4.2))] (aT h4)<|sM Z<|bE h fun x5 h5 h=>cR (rI x5.1) [(208,.var (az.rc x5.2))] (aT h5)<|sM Z<|bE h fun x6 h6 h=>cR (rI x6.1) [(208,.var (az.rc x6.2))] (aT h6)<|sG (.agg [rI x2.1,rI x3.1,rI x4.1,rI x5.1,rI x6.1,rS [],rS [],rS [],rS [],r0,r0,r0,r0,r0,.iZ,r0,r0,r0,r0,r0,r0,r0,r0,r0,r0,r0,r0,r0,r0,r0]) ?_
 refine sB (.ptr 80 0) 80 (.var zZ1)<|sH 80 (.var [rI x2.1,rI x3.1,rI x4.1,rI x5.1,rI x6.1,rS [],rS [],rS [],rS [],r0,r0,r0,r0,r0,.iZ,r0,r0,r0,r0,r0,r0,r0,r0,r0,r0,r0,r0,r0,r0,r0])<|sN<|gU Z<|sM Z<|bE h fun x7 h7 h=>cR (.d (ae.pd x7.1)) [(208,.var (az.rc x7.2))] (ij h7)<|sV (.ptr 80 5)<|sV (.ptr 80 5)<|sH 80 (.var (rI x2.1::rI x3.1::rI x4.1::rI x5.1::rI x6.1::ae.rc x7.1++zZ3))<|sN<|gU Z<|sV (.ptr 80 5)<|sV (.ptr 80 14)<|sA Z ?_
 refine sN<|qS<|gU Z<|sM Z<|bE h fun x8 h8 h=>cR (rI x8.1) [(208,.var (az.rc x8.2))] (aT h8)<|sA Z<|sN<|bE h fun o22 ho22 h=>WC.block (WC.loop (WL.jg ho22 (fun s=>gI 0 44 6 [(0,rS a0),(2,.ptr 32 0),(4,.ptr 208 0),(5,.ptr 80 0),(6,.ptr 80 14),(7,rI s.1)] [(32,.var zZ1),(80,.var (rI x2.1::rI x3.1::rI x4.1::rI x5.1::rI x6.1::ae.rc x7.1++[.ref 832 0,r0,r0,r0,r0,r0,r0,r0,r0,r0,r0,r0,r0,r0,r0,r0])),(208,.var [.d (.lst (s.2.1.map PD.str)),rB s.2.2.1]),(832,.arr 0 44 (s.2.2.2.map ae.pd))]) (fun o=>gX 0 0 44 9 [(0,rS a0),(2,.ptr 32 0),(4,.ptr 208 0),(5,.ptr 80 0),(6,.ptr 80 14)] [(32,.var zZ1),(80,.var (rI x2.1::rI x3.1::rI x4.1::rI x5.1::rI x6.1::ae.rc x7.1++[.ref 832 0,r0,r0,r0,r0,r0,r0,r0,r0,r0,r0,r0,r0,r0,r0,r0])),(208,.var [.d (.lst (o.1.map PD.str)),rB o.2.1]),(832,.arr 0 44 (o.2.2.map ae.pd))]) Z ?_ ?_))
 ·rintro⟨s9,s10,s11,s12⟩ R' B' q16 hI h
  refine qS<|gS Z hI<|sM Z<|sF h ?_ ?_<;>intro h
  ·refine mM Z<|sV (.ptr 208 0)<|sV (.ptr 208 1)<|sL Z<|sV (rB (!s11))<|sF h ?_ ?_<;>intro h
   ·refine sN<|cT<|qK<|qS<|qB<|WC.kK Z Z<|mM Z<|sV (.ptr 80 14)<|sV (.ptr 80 14)<|sL Z<|sM Z<|bE h fun x19 h19 h=>cR (.d (ae.pd x19.1)) [(208,.var (az.rc x19.2))] (ij h19)<|sG (.d (.lst ([x19.1].map ae.pd))) ?_
    refine bE h fun x20 h20 h=>aR h20 (fun _=>Z) Z<|sV (.ptr 80 14)<|sV (.ptr 80 14)<|sS 80 (.var (rI x2.1::rI x3.1::rI x4.1::rI x5.1::rI x6.1::ae.rc x7.1++[.ref 832 1,r0,r0,r0,r0,r0,r0,r0,r0,r0,r0,r0,r0,r0,r0,r0])) ?_
    refine sN<|sO<|WC.region Z Z<|sM Z<|sV (rI (rW (s9-(1:Int))))<|sA Z<|sN ?_
    cases oI h
    exact⟨rfl,rfl⟩
   refine sN<|cF<|qX ?_
   cases oI h
   exact⟨nofun,rfl,rfl⟩
  refine sM Z<|k3<|sK<|sK<|sU<|sN<|cF<|qX ?_
  cases oI h
  exact⟨nofun,rfl,rfl⟩
 intro e R' B' he hq
 obtain⟨rfl,hI⟩:=hq
 refine qE<|gS Z hI<|mM Z<|bE h fun x23 h23 h=>cR (.d (ah.pd x23.1)) [(208,.var (az.rc x23.2))] (dT h23)<|sM Z<|bE h fun x24 h24 h=>cR (rI x24.1) [(208,.var (az.rc x24.2))] (aT h24)<|sM Z<|bE h fun x25 h25 h=>cR (rI x25.1) [(208,.var (az.rc x25.2))] (aT h25)<|sM Z<|bE h fun x26 h26 h=>cR (rI x26.1) [(208,.var (az.rc x26.2))] (aT h26) ?_
 refine sG (.d (aA.pd (aA.mk x23.1 x24.1 x25.1 x26.1 (aS.mk (ah.mk 0 0 0) (ah.mk 0 0 0)))))<|sV (.ptr 80 14)<|sV (.ptr 80 15)<|sH 80 (.var (rI x2.1::rI x3.1::rI x4.1::rI x5.1::rI x6.1::ae.rc x7.1++ .ref 832 0::ah.rc x23.1++[rI x24.1,rI x25.1,rI x26.1,r0,r0,r0,r0,r0,r0,r0,r0,r0]))<|sN<|gU Z<|mM Z<|bE h fun x27 h27 h=>cR (.d (ah.pd x27.1)) [(208,.var (az.rc x27.2))] (dT h27)<|sM Z<|bE h fun x28 h28 h=>cR (.d (ah.pd x28.1)) [(208,.var (az.rc x28.2))] (dT h28)<|sG (.d (aS.pd (aS.mk x27.1 x28.1)))<|sV (.ptr 80 14) ?_
 refine sV (.ptr 80 15)<|sV (.ptr 80 21)<|sH 80 (.var (rI x2.1::rI x3.1::rI x4.1::rI x5.1::rI x6.1::ae.rc x7.1++ .ref 832 0::ah.rc x23.1++rI x24.1::rI x25.1::rI x26.1::ah.rc x27.1++ah.rc x28.1++[r0,r0,r0]))<|sN<|gU Z<|mM Z<|bE h fun x29 h29 h=>cR (rI x29.1) [(208,.var (az.rc x29.2))] (aT h29)<|sM Z<|bE h fun x30 h30 h=>cR (rI x30.1) [(208,.var (az.rc x30.2))] (aT h30)<|sV (.d (aw.pd (aw.mk x29.1 x30.1)))<|sV (.ptr 80 14)<|sV (.ptr 80 27) ?_
 refine sS 80 (.var (rI x2.1::rI x3.1::rI x4.1::rI x5.1::rI x6.1::ae.rc x7.1++ .ref 832 0::ah.rc x23.1++rI x24.1::rI x25.1::rI x26.1::ah.rc x27.1++ah.rc x28.1++[rI x29.1,rI x30.1,r0]))<|sN<|gU Z<|mM Z<|bE h fun x31 h31 h=>cR (rI x31.1) [(208,.var (az.rc x31.2))] (aT h31)<|sV (.ptr 80 14)<|sV (.ptr 80 29)<|sS 80 (.var (rI x2.1::rI x3.1::rI x4.1::rI x5.1::rI x6.1::ae.rc x7.1++ .ref 832 0::ah.rc x23.1++rI x24.1::rI x25.1::rI x26.1::ah.rc x27.1++ah.rc x28.1++[rI x29.1,rI x30.1,rI x31.1]))<|sN<|qS<|gU Z<|sM Z<|sV (.ptr 208 0) ?_
 refine sV (.ptr 208 1)<|sF h ?_ ?_<;>intro h
 ·refine sM Z<|k3<|k3<|sT<|sN<|cT<|gU Z<|sG (.agg zZ1)<|sH 32 (.var zZ1)<|sV (rI 3)<|sN ?_
  refine qR ?_
  cases oI h
  exact qG
 refine mM Z<|sV (.ptr 208 0)<|sV (.ptr 208 0)<|sL Z<|sE (rI (x31.2.bJ.length:Int)) (hF _ _)<|sV (rB (decide ((x31.2.bJ.length:Int)>(0:Int))))<|sF h ?_ ?_<;>intro h
 ·refine sN<|cT<|gU Z<|sG (.agg zZ1)<|sH 32 (.var zZ1)<|sV (rI 3)<|sN<|qR ?_
  cases oI h
  exact qG
 refine sN<|cF<|qK<|qS<|gU Z<|sV (.agg (rI x2.1::rI x3.1::rI x4.1::rI x5.1::rI x6.1::ae.rc x7.1++ .ref 832 0::ah.rc x23.1++rI x24.1::rI x25.1::rI x26.1::ah.rc x27.1++ah.rc x28.1++[rI x29.1,rI x30.1,rI x31.1]))<|bE h fun x34 h34 h=>cR (.tup [rS x34.1,rI x34.2]) [ ] (fW h34)<|sM Z<|sV (rS x34.1)<|sV (rI x34.2)<|sA Z<|sA Z<|sN<|gU Z ?_
 refine sM Z<|sF h ?_ ?_<;>intro h
 ·refine sM Z<|k3<|sT<|sN<|cT<|gU Z<|sG (.agg zZ1)<|sH 32 (.var zZ1)<|sV (rI 3)<|sN<|qR ?_
  cases oI h
  exact qG
 refine mM Z<|sM Z<|sV (rB (!(x34.1==a0)))<|sF h ?_ ?_<;>intro h
 ·refine sN<|cT<|gU Z<|sG (.agg zZ1)<|sH 32 (.var zZ1)<|sV (rI 3)<|sN<|qR ?_
  cases oI h
  exact qG
 refine sN<|cF<|qK<|gU Z<|sV (.agg (rI x2.1::rI x3.1::rI x4.1::rI x5.1::rI x6.1::ae.rc x7.1++ .ref 832 0::ah.rc x23.1++rI x24.1::rI x25.1::rI x26.1::ah.rc x27.1++ah.rc x28.1++[rI x29.1,rI x30.1,rI x31.1]))<|sH 32 (.var (rI x2.1::rI x3.1::rI x4.1::rI x5.1::rI x6.1::ae.rc x7.1++ .ref 832 0::ah.rc x23.1++rI x24.1::rI x25.1::rI x26.1::ah.rc x27.1++ah.rc x28.1++[rI x29.1,rI x30.1,rI x31.1]))<|sV (r0)<|sN<|qR ?_
 cases oI h
 exact qG
theorem hZ{a0:ag}{a1:ag}{r:Bool}(h:bW a0 a1=some r):EvP prog aU ext 45 [.d (ag.pd a0),.d (ag.pd a1)] [] (rB r,[]):=by
 refine Ev.body Z Tryz.func45 Z Zk<|gU Z<|sB (.ptr 32 0) 32 (.var (ag.rc a0))<|sB (.ptr 48 0) 48 (.var (ag.rc a1))<|sU<|sN<|gU Z<|sV (.ptr 32 0)<|sL Z<|sV (.ptr 48 0)<|sL Z<|sF h ?_ ?_<;>intro h
 ·refine sM Z<|sV (.ptr 32 1)<|sL Z<|sV (.ptr 48 1)<|sL Z<|sV (rB (a0.bk==a1.bk))<|sF h ?_ ?_<;>intro h
  ·refine sM Z<|sV (.ptr 32 2)<|sL Z<|sV (.ptr 48 2)<|sL Z<|sV (rB (a0.fID==a1.fID))<|sF h ?_ ?_<;>intro h
   ·refine sM Z<|sV (.ptr 32 3)<|sL Z<|sV (.ptr 48 3)<|sL Z<|sV (rB (a0.fAt==a1.fAt))<|sF h ?_ ?_<;>intro h
    ·refine sM Z<|sV (.ptr 32 4)<|sL Z<|sV (.ptr 48 4)<|sL Z<|sV (rB (a0.aW==a1.aW))<|sF h ?_ ?_<;>intro h
     ·refine sM Z<|sV (.ptr 32 5)<|sV (.d (ai.pd a0.aj))<|sV (.ptr 48 5)<|sV (.d (ai.pd a1.aj))<|bE h fun x6 h6 h=>cD (gd h6)<|sV (rB x6)<|sA Z<|sN<|qR ?_
      cases oI h
      exact qG
     refine sM Z<|k3<|sK<|sK<|sU<|sA Z<|sN<|qR ?_
     cases oI h
     exact qG
    refine sM Z<|k3<|sK<|sK<|sU<|sM Z<|k3<|sK<|sK<|sU<|sA Z ?_
    refine sN<|qR ?_
    cases oI h
    exact qG
   refine sM Z<|k3<|sK<|sK<|sU<|sM Z<|k3<|sK<|sK<|sU<|sM Z ?_
   refine k3<|sK<|sK<|sU<|sA Z<|sN<|qR ?_
   cases oI h
   exact qG
  refine sM Z<|k3<|sK<|sK<|sU<|sM Z<|k3<|sK<|sK<|sU<|sM Z ?_
  refine k3<|sK<|sK<|sU<|sM Z<|k3<|sK<|sK<|sU<|sA Z<|sN ?_
  refine qR ?_
  cases oI h
  exact qG
 refine sM Z<|k3<|sK<|sK<|sU<|sM Z<|k3<|sK<|sK<|sU<|sM Z ?_
 refine k3<|sK<|sK<|sU<|sM Z<|k3<|sK<|sK<|sU<|sM Z<|sK ?_
 refine k3<|sK<|sU<|sA Z<|sN<|qR ?_
 cases oI h
 exact qG
theorem feed_Prefix_ev{a0:(List ba)}{r:(List ag)}(h:gm a0=some r):EvP prog aU ext 22 [rM ba.pd a0] [] (rM ag.pd r,[]):=by
 refine Ev.body Z Tryz.func22 Z Zk<|gU Z<|sV .iZ<|sN<|gU Z<|sB (.ptr 224 0) 224 (.map 3 59 (([]:List (Int×ag)).map fun e=>((PD.int .i64) e.1,ag.pd e.2)))<|sA Z<|sN<|qS<|gU Z<|sM Z<|sE (rI (a0.length:Int)) (hF _ _)<|sV (r0)<|sN<|bE h fun o12 ho12 h=>?_
 refine WC.block (WC.loop (WL.jg ho12 (fun s=>gI 0 22 3 [(3,.ptr 224 0),(15,rM ba.pd a0),(16,rI (a0.length:Int)),(17,rI s.1)] [(224,.map 3 59 (s.2.map fun e=>((PD.int .i64) e.1,ag.pd e.2)))]) (fun o=>gX 0 0 22 11 [(3,.ptr 224 0)] [(224,.map 3 59 (o.map fun e=>((PD.int .i64) e.1,ag.pd e.2)))]) Z ?_ ?_))
 ·rintro⟨s1,s2⟩ R' B' q4 hI h
  refine gS Z hI<|sF h ?_ ?_<;>intro h
  ·refine sN<|qS<|cT<|qK<|qS<|qB<|gU Z<|bE h fun x6 h6 h=>eG h6 Z<|sV (.d (ba.pd x6))<|sB (.ptr 80 0) 80 (.var [r0,r0,rS []])<|sS 80 (.var (ba.rc x6))<|sN<|qS<|gU Z ?_
   refine sM Z<|sV (.ptr 80 0)<|sL Z<|WO.oH (gv:=ag.pd) (z:=zZ4) (nu.int Z) Z Z Z Z Z Z Z Z<|sM Z<|sV (.d (ag.pd (bo (fun a b=>a==b) x6.cM zZ4 s2)))<|sV (rB (ky (fun a b=>a==b) x6.cM s2))<|sB (.ptr 96 0) 96 (.var zZ1)<|sH 96 (.var [rI ((bo (fun a b=>a==b) x6.cM zZ4 s2).bg),rI ((bo (fun a b=>a==b) x6.cM zZ4 s2).bk),rI ((bo (fun a b=>a==b) x6.cM zZ4 s2).fID),rI ((bo (fun a b=>a==b) x6.cM zZ4 s2).fAt),rI ((bo (fun a b=>a==b) x6.cM zZ4 s2).aW),rS (((((bo (fun a b=>a==b) x6.cM zZ4 s2).aj).aq).ar).aM),rS (((((bo (fun a b=>a==b) x6.cM zZ4 s2).aj).aq).ar).aN),rS (((((bo (fun a b=>a==b) x6.cM zZ4 s2).aj).aq).ar).ac),rS (((((bo (fun a b=>a==b) x6.cM zZ4 s2).aj).aq).ar).aO),rI ((((bo (fun a b=>a==b) x6.cM zZ4 s2).aj).aq).aL),rI ((((bo (fun a b=>a==b) x6.cM zZ4 s2).aj).aq).aY),rI ((((bo (fun a b=>a==b) x6.cM zZ4 s2).aj).aq).bh),rI ((((bo (fun a b=>a==b) x6.cM zZ4 s2).aj).aq).aF),rI ((((bo (fun a b=>a==b) x6.cM zZ4 s2).aj).aq).aH),.d (.lst (((((bo (fun a b=>a==b) x6.cM zZ4 s2).aj).aa).aB).map ae.pd)),rI ((((((bo (fun a b=>a==b) x6.cM zZ4 s2).aj).aa).ac).aP).fX),rI ((((((bo (fun a b=>a==b) x6.cM zZ4 s2).aj).aa).ac).aP).fY),rI ((((((bo (fun a b=>a==b) x6.cM zZ4 s2).aj).aa).ac).aP).fZ),rI (((((bo (fun a b=>a==b) x6.cM zZ4 s2).aj).aa).ac).aL),rI (((((bo (fun a b=>a==b) x6.cM zZ4 s2).aj).aa).ac).aQ),rI (((((bo (fun a b=>a==b) x6.cM zZ4 s2).aj).aa).ac).bq),rI (((((((bo (fun a b=>a==b) x6.cM zZ4 s2).aj).aa).ac).aD).aX).fX),rI (((((((bo (fun a b=>a==b) x6.cM zZ4 s2).aj).aa).ac).aD).aX).fY),rI (((((((bo (fun a b=>a==b) x6.cM zZ4 s2).aj).aa).ac).aD).aX).fZ),rI (((((((bo (fun a b=>a==b) x6.cM zZ4 s2).aj).aa).ac).aD).aJ).fX),rI (((((((bo (fun a b=>a==b) x6.cM zZ4 s2).aj).aa).ac).aD).aJ).fY),rI (((((((bo (fun a b=>a==b) x6.cM zZ4 s2).aj).aa).ac).aD).aJ).fZ),rI (((((bo (fun a b=>a==b) x6.cM zZ4 s2).aj).aa).av).aX),rI (((((bo (fun a b=>a==b) x6.cM zZ4 s2).aj).aa).av).aJ),rI ((((bo (fun a b=>a==b) x6.cM zZ4 s2).aj).aa).bd)])<|sA Z<|sN<|gU Z<|sF h ?_ ?_<;>intro h
   ·refine sN<|cT<|qX<|qE<|WC.region Z Z<|sV (rI (rW (s1+(1:Int))))<|sM Z<|sN ?_
    cases oI h
    exact⟨rfl,rfl⟩
   refine sN<|cF<|qK<|gU Z<|sV (.ptr 80 2)<|sL Z<|bE h fun x8 h8 h=>cR (.tup [.d (ag.pd x8.1),rI x8.2]) [] (fV h8)<|sM Z<|sV (.d (ag.pd x8.1))<|sV (rI x8.2)<|sB (.ptr 128 0) 128 (.var zZ1)<|sH 128 (.var (ag.rc x8.1))<|sA Z<|sN ?_
   refine gU Z<|sM Z<|sF h ?_ ?_<;>intro h
   ·refine sM Z<|sV (.ptr 128 0)<|sL Z<|sV (.ptr 80 0)<|sL Z<|sV (rB (x8.1.bg==x6.cM))<|sF h ?_ ?_<;>intro h
    ·refine sN<|cT<|WC.region Z Z<|sM Z<|sV (.ptr 80 0)<|sL Z<|sV (.d (ag.pd x8.1))<|WO.mput (gv:=ag.pd) (y:=x8.1) (nu.int Z) Z Z Z Z Z Z Z Z Z Z<|sN<|WC.region Z Z<|sV (rI (rW (s1+(1:Int))))<|sM Z<|sN ?_
     cases oI h
     exact⟨rfl,rfl⟩
    refine sN<|cF<|qK<|WC.region Z Z<|sV (rI (rW (s1+(1:Int))))<|sM Z<|sN ?_
    cases oI h
    exact⟨rfl,rfl⟩
   refine sM Z<|k3<|sK<|sK<|sU<|sN<|cF<|qK<|WC.region Z Z<|sV (rI (rW (s1+(1:Int))))<|sM Z<|sN ?_
   cases oI h
   exact⟨rfl,rfl⟩
  refine sN<|qS<|cF<|qX ?_
  cases oI h
  exact⟨nofun,rfl,rfl⟩
 intro e R' B' he hq
 obtain⟨rfl,hI⟩:=hq
 refine qE<|gS Z hI<|sV .iZ<|sN<|gU Z<|sV (r0)<|sN<|bE h fun o19 ho19 h=>WC.block (WC.loop (WL.jg ho19 (fun s=>gI 0 22 14 [(3,.ptr 224 0),(10,.ref 1008 0),(11,rI s.1)] [(224,.map 3 59 (o12.map fun e=>((PD.int .i64) e.1,ag.pd e.2))),(1008,.arr 0 59 (s.2.map ag.pd))]) (fun o=>gF 22 Tryz.f22 0 (rM ag.pd o,[])) Z ?_ ?_))
 ·rintro⟨s13,s14⟩ R' B' q15 hI h
  refine qS<|qB<|gS Z hI<|mM Z<|WO.oH (gv:=ag.pd) (z:=zZ4) (nu.int Z) Z Z Z Z Z Z Z Z<|sM Z<|sV (.d (ag.pd (bo (fun a b=>a==b) s13 zZ4 o12)))<|sV (rB (ky (fun a b=>a==b) s13 o12))<|sB (.ptr 192 0) 192 (.var zZ1)<|sH 192 (.var [rI ((bo (fun a b=>a==b) s13 zZ4 o12).bg),rI ((bo (fun a b=>a==b) s13 zZ4 o12).bk),rI ((bo (fun a b=>a==b) s13 zZ4 o12).fID),rI ((bo (fun a b=>a==b) s13 zZ4 o12).fAt),rI ((bo (fun a b=>a==b) s13 zZ4 o12).aW),rS (((((bo (fun a b=>a==b) s13 zZ4 o12).aj).aq).ar).aM),rS (((((bo (fun a b=>a==b) s13 zZ4 o12).aj).aq).ar).aN),rS (((((bo (fun a b=>a==b) s13 zZ4 o12).aj).aq).ar).ac),rS (((((bo (fun a b=>a==b) s13 zZ4 o12).aj).aq).ar).aO),rI ((((bo (fun a b=>a==b) s13 zZ4 o12).aj).aq).aL),rI ((((bo (fun a b=>a==b) s13 zZ4 o12).aj).aq).aY),rI ((((bo (fun a b=>a==b) s13 zZ4 o12).aj).aq).bh),rI ((((bo (fun a b=>a==b) s13 zZ4 o12).aj).aq).aF),rI ((((bo (fun a b=>a==b) s13 zZ4 o12).aj).aq).aH),.d (.lst (((((bo (fun a b=>a==b) s13 zZ4 o12).aj).aa).aB).map ae.pd)),rI ((((((bo (fun a b=>a==b) s13 zZ4 o12).aj).aa).ac).aP).fX),rI ((((((bo (fun a b=>a==b) s13 zZ4 o12).aj).aa).ac).aP).fY),rI ((((((bo (fun a b=>a==b) s13 zZ4 o12).aj).aa).ac).aP).fZ),rI (((((bo (fun a b=>a==b) s13 zZ4 o12).aj).aa).ac).aL),rI (((((bo (fun a b=>a==b) s13 zZ4 o12).aj).aa).ac).aQ),rI (((((bo (fun a b=>a==b) s13 zZ4 o12).aj).aa).ac).bq),rI (((((((bo (fun a b=>a==b) s13 zZ4 o12).aj).aa).ac).aD).aX).fX),rI (((((((bo (fun a b=>a==b) s13 zZ4 o12).aj).aa).ac).aD).aX).fY),rI (((((((bo (fun a b=>a==b) s13 zZ4 o12).aj).aa).ac).aD).aX).fZ),rI (((((((bo (fun a b=>a==b) s13 zZ4 o12).aj).aa).ac).aD).aJ).fX),rI (((((((bo (fun a b=>a==b) s13 zZ4 o12).aj).aa).ac).aD).aJ).fY),rI (((((((bo (fun a b=>a==b) s13 zZ4 o12).aj).aa).ac).aD).aJ).fZ),rI (((((bo (fun a b=>a==b) s13 zZ4 o12).aj).aa).av).aX),rI (((((bo (fun a b=>a==b) s13 zZ4 o12).aj).aa).av).aJ),rI ((((bo (fun a b=>a==b) s13 zZ4 o12).aj).aa).bd)])<|sA Z<|sN<|qS<|gU Z ?_
  refine sM Z<|sF h ?_ ?_<;>intro h
  ·refine sN<|cT<|gU Z<|sM Z<|sA Z<|sN<|qR ?_
   cases oI h
   exact⟨nofun,rfl,rfl⟩
  refine sN<|cF<|qK<|WC.region Z Z<|sM Z<|sV (.d (ag.pd (ag.mk ((bo (fun a b=>a==b) s13 zZ4 o12).bg) ((bo (fun a b=>a==b) s13 zZ4 o12).bk) ((bo (fun a b=>a==b) s13 zZ4 o12).fID) ((bo (fun a b=>a==b) s13 zZ4 o12).fAt) ((bo (fun a b=>a==b) s13 zZ4 o12).aW) (ai.mk (ae.mk ((((bo (fun a b=>a==b) s13 zZ4 o12).aj).aq).ar) ((((bo (fun a b=>a==b) s13 zZ4 o12).aj).aq).aL) ((((bo (fun a b=>a==b) s13 zZ4 o12).aj).aq).aY) ((((bo (fun a b=>a==b) s13 zZ4 o12).aj).aq).bh) ((((bo (fun a b=>a==b) s13 zZ4 o12).aj).aq).aF) ((((bo (fun a b=>a==b) s13 zZ4 o12).aj).aq).aH)) (au.mk ((((bo (fun a b=>a==b) s13 zZ4 o12).aj).aa).aB) (aA.mk (((((bo (fun a b=>a==b) s13 zZ4 o12).aj).aa).ac).aP) (((((bo (fun a b=>a==b) s13 zZ4 o12).aj).aa).ac).aL) (((((bo (fun a b=>a==b) s13 zZ4 o12).aj).aa).ac).aQ) (((((bo (fun a b=>a==b) s13 zZ4 o12).aj).aa).ac).bq) (aS.mk ((((((bo (fun a b=>a==b) s13 zZ4 o12).aj).aa).ac).aD).aX) ((((((bo (fun a b=>a==b) s13 zZ4 o12).aj).aa).ac).aD).aJ))) ((((bo (fun a b=>a==b) s13 zZ4 o12).aj).aa).av) ((((bo (fun a b=>a==b) s13 zZ4 o12).aj).aa).bd))))))<|sG (.d (.lst ([(ag.mk ((bo (fun a b=>a==b) s13 zZ4 o12).bg) ((bo (fun a b=>a==b) s13 zZ4 o12).bk) ((bo (fun a b=>a==b) s13 zZ4 o12).fID) ((bo (fun a b=>a==b) s13 zZ4 o12).fAt) ((bo (fun a b=>a==b) s13 zZ4 o12).aW) (ai.mk (ae.mk ((((bo (fun a b=>a==b) s13 zZ4 o12).aj).aq).ar) ((((bo (fun a b=>a==b) s13 zZ4 o12).aj).aq).aL) ((((bo (fun a b=>a==b) s13 zZ4 o12).aj).aq).aY) ((((bo (fun a b=>a==b) s13 zZ4 o12).aj).aq).bh) ((((bo (fun a b=>a==b) s13 zZ4 o12).aj).aq).aF) ((((bo (fun a b=>a==b) s13 zZ4 o12).aj).aq).aH)) (au.mk ((((bo (fun a b=>a==b) s13 zZ4 o12).aj).aa).aB) (aA.mk (((((bo (fun a b=>a==b) s13 zZ4 o12).aj).aa).ac).aP) (((((bo (fun a b=>a==b) s13 zZ4 o12).aj).aa).ac).aL) (((((bo (fun a b=>a==b) s13 zZ4 o12).aj).aa).ac).aQ) (((((bo (fun a b=>a==b) s13 zZ4 o12).aj).aa).ac).bq) (aS.mk ((((((bo (fun a b=>a==b) s13 zZ4 o12).aj).aa).ac).aD).aX) ((((((bo (fun a b=>a==b) s13 zZ4 o12).aj).aa).ac).aD).aJ))) ((((bo (fun a b=>a==b) s13 zZ4 o12).aj).aa).av) ((((bo (fun a b=>a==b) s13 zZ4 o12).aj).aa).bd))))].map ag.pd)))<|bE h fun x17 h17 h=>aR h17 (fun _=>Z) Z<|sA Z<|sN<|WC.region Z Z<|sM Z<|sV (rI (rW (s13+(1:Int))))<|sA Z ?_
  refine sN ?_
  cases oI h
  exact⟨rfl,rfl⟩
 intro e R' B' he hq
 obtain⟨rfl,hf⟩:=hq
 cases oI h
 exact hf
theorem law37_awake_ev{r:Bool}(h:d7=some r):EvP prog aU ext 15 [] [] (rB r,[]):=by
 refine Ev.body Z Tryz.func15 Z Zk<|gU Z<|sU<|sN<|gU Z<|bE h fun x1 h1 h=>cD (et h1)<|bE h fun x2 h2 h=>cR (.tup [rS x2.1,rI x2.2]) [] (fW h2)<|sM Z<|sV (rS x2.1)<|sV (rI x2.2)<|sA Z<|sA Z<|sN ?_
 refine gU Z<|bE h fun x3 h3 h=>cD (et h3)<|bE h fun x4 h4 h=>cR (.tup [rS x4.1,rI x4.2]) [] (fW h4)<|sM Z<|sV (rS x4.1)<|sV (rI x4.2)<|sA Z<|sA Z<|sN<|gU Z<|sM Z<|bE h fun x5 h5 h=>cR (.tup [.d (ag.pd x5.1),rI x5.2]) [] (fV h5) ?_
 refine sM Z<|sV (.d (ag.pd x5.1))<|sV (rI x5.2)<|sB (.ptr 80 0) 80 (.var zZ1)<|sH 80 (.var (ag.rc x5.1))<|sA Z<|sN<|gU Z<|sM Z<|bE h fun x6 h6 h=>WO.catG h6 Z Z Z Z Z<|bE h fun x7 h7 h=>cR (.tup [.d (ag.pd x7.1),rI x7.2]) [] (fV h7)<|sM Z<|sV (.d (ag.pd x7.1)) ?_
 refine sV (rI x7.2)<|sB (.ptr 112 0) 112 (.var zZ1)<|sH 112 (.var (ag.rc x7.1))<|sA Z<|sN<|WC.iu Z Z<|sM Z<|sF h ?_ ?_<;>intro h
 ·refine mM Z<|sV (rB (x4.2==(0:Int)))<|sF h ?_ ?_<;>intro h
  ·refine mM Z<|sV (rB (x5.2==(0:Int)))<|sF h ?_ ?_<;>intro h
   ·refine sM Z<|sV (.d (ag.pd x5.1))<|bE h fun x11 h11 h=>cD (et h11)<|bE h fun x12 h12 h=>cD (hZ h12)<|sF h ?_ ?_<;>intro h
    ·refine mM Z<|sV (rB (x7.2==(3:Int)))<|sF h ?_ ?_<;>intro h
     ·refine mM Z<|sV (.d (ba.pd (ba.mk 2 0 x4.1)))<|sM Z<|sV (.d (ba.pd (ba.mk 0 0 x2.1)))<|sV (.d (.lst ([(ba.mk 2 0 x4.1),(ba.mk 0 0 x2.1)].map ba.pd)))<|bE h fun x15 h15 h=>cD (feed_Prefix_ev h15)<|sE (rI (x15.length:Int)) (hF _ _)<|sV (rB ((x15.length:Int)==(1:Int)))<|sF h ?_ ?_<;>intro h
      ·refine sM Z<|bE h fun x17 h17 h=>cD (et h17)<|bE h fun x18 h18 h=>cD (et h18)<|sG (.d (.lst ([x17,x18].map ag.pd)))<|bE h fun x19 h19 h=>cD (fB h19)<|sV (rB x19)<|sA Z ?_
       refine sN<|sO<|qR ?_
       cases oI h
       exact qG
      refine sM Z<|k3<|sK<|sU<|sA Z ?_
      refine sN<|sO<|qR ?_
      cases oI h
      exact qG
     refine sM Z<|k3<|k3<|sK<|sK<|sU<|sM Z<|k3<|sK ?_
     refine sU<|sA Z ?_
     refine sN<|sO<|qR ?_
     cases oI h
     exact qG
    refine sM Z<|sK<|sK<|sU<|sM Z<|k3<|k3<|sK<|sK<|sU<|sM Z ?_
    refine k3<|sK<|sU<|sA Z ?_
    refine sN<|sO<|qR ?_
    cases oI h
    exact qG
   refine sM Z<|k3<|sU<|sM Z<|sK<|sK<|sU<|sM Z<|k3<|sK<|sK ?_
   refine k3<|sU<|sM Z<|k3<|sK<|sU<|sA Z ?_
   refine sN<|sO<|qR ?_
   cases oI h
   exact qG
  refine sM Z<|sK<|sK<|sU<|sM Z<|k3<|sU<|sM Z<|sK<|sK<|sU<|sM Z<|sK ?_
  refine k3<|k3<|sK<|sU<|sM Z<|k3<|sK<|sU<|sA Z ?_
  refine sN<|sO<|qR ?_
  cases oI h
  exact qG
 refine sM Z<|sK<|sK<|sU<|sM Z<|sK<|sK<|sU<|sM Z<|k3<|sU<|sM Z<|sK ?_
 refine sK<|sU<|sM Z<|k3<|k3<|sK<|sK<|sU<|sM Z<|sK<|sK ?_
 refine sK<|sK<|sU<|sA Z ?_
 refine sN<|sO<|qR ?_
 cases oI h
 exact qG
theorem iA{a0:(List Int)}{a1:Int}{r:Bool}(h:eS a0 a1=some r):EvP prog aU ext 3 [rL a0,rI a1] [] (rB r,[]):=by
 refine Ev.body Z Tryz.func3 Z Zk<|gU Z<|sU<|sN<|gU Z<|sM Z<|bE h fun x1 h1 h=>cR (.ptr 304 0) [(304,.var (ak.rc x1))] (keep_New_ev h1)<|sA Z<|sN<|gU Z<|sV .iZ<|sN<|gU Z<|sV .iZ ?_
 refine sN<|gU Z<|sM Z<|bE h fun x2 h2 h=>cR (.d (aC.pd x2.1)) [(304,.var (ak.rc x2.2))] (Src_Policy_ev h2)<|sB (.ptr 128 0) 128 (.var [.iZ,r0,r0])<|sS 128 (.var (aC.rc x2.1))<|sV (rI 1000)<|sN<|qS<|gU Z<|sV (r0)<|sN<|bE h fun o19 ho19 h=>WC.block (WC.loop (WL.jg ho19 (fun s=>gI 0 3 6 [(1,rI a1),(5,.ptr 304 0),(6,rM am.pd s.1),(7,.ref 752 0),(8,.ptr 128 0),(9,rI s.2.1),(10,rI s.2.2.1)] [(128,.var (aC.rc x2.1)),(304,.var [rL s.2.2.2.1,rI s.2.2.2.2.1]),(752,.arr 0 59 (s.2.2.2.2.2.map ag.pd))]) (fun o=>match o with| .inl y=>gX 0 0 3 13 [(1,rI a1),(6,rM am.pd y.1),(7,rM ag.pd y.2)] []| .inr r=>gF 3 Tryz.f3 0 (rB r,[])) Z ?_ ?_))
 ·rintro⟨s3,s4,s5,s6,s7,s8⟩ R' B' q11 hI h
  refine qS<|gS Z hI<|sM Z<|sF h ?_ ?_<;>intro h
  ·refine sN<|cT<|qK<|qS<|qB<|gU Z<|mM Z<|bE h fun x13 h13 h=>cR (rI x13.1) [(304,.var (ak.rc x13.2))] (cb h13)<|sV (rI (rW (s4+x13.1)))<|sA Z<|sN<|WC.iu Z Z<|sV (.d (aC.pd x2.1)) ?_
   refine mM Z<|WO.lenR Z Z Z Z Z Z Z Z Z<|sM Z<|bE h fun x14 h14 h=>cR (rM ai.pd x14.1) [(304,.var (ak.rc x14.2))] (Src_Events_ev h14)<|sM Z<|bE h fun x15 h15 h=>cR (.tup [rM am.pd x15.1,rM ag.pd x15.2.1,rI x15.2.2]) [] (alert_Step_ev h15)<|sM Z<|sV (rM am.pd x15.1)<|sV (rM ag.pd x15.2.1)<|sV (rI x15.2.2)<|sA Z<|sA Z ?_
   refine sA Z ?_
   refine sN<|sO<|qS<|gU Z<|sM Z<|sF h ?_ ?_<;>intro h
   ·refine sN<|cT<|gU Z<|sU<|sN<|qR ?_
    cases oI h
    exact⟨nofun,rfl,rfl⟩
   refine sN<|cF<|qK<|WC.region Z Z<|mM Z<|sM Z<|bE h fun x17 h17 h=>aR h17 (fun _=>Z) Z<|sA Z<|sA Z<|sN<|WC.region Z Z<|sM Z<|sV (rI (rW (s5+(1:Int)))) ?_
   refine sA Z<|sN ?_
   cases oI h
   exact⟨rfl,rfl⟩
  refine sN<|cF<|qX ?_
  cases oI h
  exact⟨nofun,rfl,rfl⟩
 intro e R' B' he hq
 rcases o19 with y20|r21
 ·obtain⟨rfl,hI⟩:=hq
  refine qE<|qS<|gS Z hI<|sM Z<|bE h fun x22 h22 h=>cD (fB h22)<|sF h ?_ ?_<;>intro h
  ·refine sM Z<|k3<|k3<|k3<|sT<|sN<|cT<|gU Z<|sU ?_
   refine sN<|qR ?_
   exact oI h▸qD
  refine mM Z<|mM Z<|sE (rI (y20.2.length:Int)) (hF _ _)<|sV (rI (rW ((y20.2.length:Int)+(1:Int))))<|bE h fun x24 h24 h=>cD (ia h24)<|bE h fun x25 h25 h=>WO.cutL (sz:=30) (g:=ag.pd) h25 (fun _=>Z) Z Z Z Z Z Z Z Z Z Z Z<|bE h fun x26 h26 h=>cD (fB h26)<|sV (rB (!x26))<|sF h ?_ ?_<;>intro h
  ·refine sN<|cT<|gU Z<|sU<|sN<|qR ?_
   exact oI h▸qD
  refine sN<|cF<|qK<|gU Z<|sM Z<|bE h fun x28 h28 h=>cD (alert_Open_ev h28)<|sM Z<|bE h fun x29 h29 h=>cD (feed_Current_ev h29)<|sA Z<|sA Z<|sN<|qS<|gU Z ?_
  refine sM Z<|sE (rI (x28.length:Int)) (hF _ _)<|sM Z<|sE (rI (x29.length:Int)) (hF _ _)<|sF h ?_ ?_<;>intro h
  ·refine sN<|cT<|gU Z<|sU<|sN<|qR ?_
   exact oI h▸qD
  refine sN<|cF<|qK<|qS<|gU Z<|sM Z<|sE (rI (x28.length:Int)) (hF _ _)<|sV (r0)<|sN<|bE h fun o45 ho45 h=>WC.block (WC.loop (WL.jg ho45 (fun s=>gI 0 3 19 [(14,rM am.pd x28),(15,rM ag.pd x29),(72,rI (x28.length:Int)),(73,rI s)] []) (fun o=>match o with| .inl y=>gX 2 0 3 25 [] []| .inr r=>gF 3 Tryz.f3 0 (rB r,[])) Z ?_ ?_))
  ·rintro s31 R' B' q32 hI h
   refine gS Z hI<|sF h ?_ ?_<;>intro h
   ·refine sN<|qS<|cT<|qK<|qS<|qB<|gU Z<|sM Z<|sA Z<|sN<|gU Z<|mM Z<|bE h fun x34 h34 h=>eG h34 Z ?_
    refine sV (.d (ag.pd x34))<|sB (.ptr 272 0) 272 (.var zZ1)<|sH 272 (.var (ag.rc x34))<|sN<|WC.iu Z Z<|sV (.ptr 272 2)<|sL Z<|mM Z<|bE h fun x35 h35 h=>eG h35 Z<|sV (.cptr [.int .i64 x35.fID,.bool x35.aI,.str x35.aq.ar.aM,.str x35.aq.ar.aN,.str x35.aq.ar.ac,.str x35.aq.ar.aO,.int .i64 x35.aq.aL,.int .i64 x35.aq.aY,.int .i64 x35.aq.bh,.int .i64 x35.aq.aF,.int .i64 x35.aq.aH,.int .i64 x35.aW,.str x35.aj.aq.ar.aM,.str x35.aj.aq.ar.aN,.str x35.aj.aq.ar.ac,.str x35.aj.aq.ar.aO,.int .i64 x35.aj.aq.aL,.int .i64 x35.aj.aq.aY,.int .i64 x35.aj.aq.bh,.int .i64 x35.aj.aq.aF,.int .i64 x35.aj.aq.aH,.lst (x35.aj.aa.aB.map ae.pd),.int .i64 x35.aj.aa.ac.aP.fX,.int .i64 x35.aj.aa.ac.aP.fY,.int .i64 x35.aj.aa.ac.aP.fZ,.int .i64 x35.aj.aa.ac.aL,.int .i64 x35.aj.aa.ac.aQ,.int .i64 x35.aj.aa.ac.bq,.int .i64 x35.aj.aa.ac.aD.aX.fX,.int .i64 x35.aj.aa.ac.aD.aX.fY,.int .i64 x35.aj.aa.ac.aD.aX.fZ,.int .i64 x35.aj.aa.ac.aD.aJ.fX,.int .i64 x35.aj.aa.ac.aD.aJ.fY,.int .i64 x35.aj.aa.ac.aD.aJ.fZ,.int .i64 x35.aj.aa.av.aX,.int .i64 x35.aj.aa.av.aJ,.int .i64 x35.aj.aa.bd,.int .i64 x35.fAt])<|sC Z<|sF h ?_ ?_<;>intro h
    ·refine sM Z<|k3<|k3<|sK<|sK<|sT<|sM Z<|k3<|sK ?_
     refine k3<|sK<|sT<|sM Z<|k3<|k3<|sK<|sK<|sK ?_
     refine sT ?_
     refine sN<|sO<|cT<|gU Z<|sU<|sN<|qR ?_
     cases oI h
     exact⟨nofun,rfl,rfl⟩
    refine sM Z<|sV (.ptr 272 4)<|sL Z<|mM Z<|bE h fun x37 h37 h=>eG h37 Z<|sV (.cptr [.int .i64 x37.aW,.str x37.aj.aq.ar.aM,.str x37.aj.aq.ar.aN,.str x37.aj.aq.ar.ac,.str x37.aj.aq.ar.aO,.int .i64 x37.aj.aq.aL,.int .i64 x37.aj.aq.aY,.int .i64 x37.aj.aq.bh,.int .i64 x37.aj.aq.aF,.int .i64 x37.aj.aq.aH,.lst (x37.aj.aa.aB.map ae.pd),.int .i64 x37.aj.aa.ac.aP.fX,.int .i64 x37.aj.aa.ac.aP.fY,.int .i64 x37.aj.aa.ac.aP.fZ,.int .i64 x37.aj.aa.ac.aL,.int .i64 x37.aj.aa.ac.aQ,.int .i64 x37.aj.aa.ac.bq,.int .i64 x37.aj.aa.ac.aD.aX.fX,.int .i64 x37.aj.aa.ac.aD.aX.fY,.int .i64 x37.aj.aa.ac.aD.aX.fZ,.int .i64 x37.aj.aa.ac.aD.aJ.fX,.int .i64 x37.aj.aa.ac.aD.aJ.fY,.int .i64 x37.aj.aa.ac.aD.aJ.fZ,.int .i64 x37.aj.aa.av.aX,.int .i64 x37.aj.aa.av.aJ,.int .i64 x37.aj.aa.bd,.int .i64 x37.fAt])<|sC Z<|sV (rB (x34.aW != x37.aW))<|sF h ?_ ?_<;>intro h
    ·refine sM Z<|k3<|k3<|sK<|sK<|sT<|sM Z<|k3<|sK ?_
     refine k3<|sK<|sK<|sT ?_
     refine sN<|sO<|cT<|gU Z<|sU<|sN<|qR ?_
     cases oI h
     exact⟨nofun,rfl,rfl⟩
    refine sM Z<|sV (.ptr 272 3)<|sL Z<|mM Z<|bE h fun x39 h39 h=>eG h39 Z<|sV (.cptr [.int .i64 x39.fAt])<|sC Z<|sV (rB (x34.fAt != x39.fAt))<|sF h ?_ ?_<;>intro h
    ·refine sM Z<|k3<|k3<|k3<|sT ?_
     refine sN<|sO<|cT<|gU Z<|sU<|sN<|qR ?_
     cases oI h
     exact⟨nofun,rfl,rfl⟩
    refine sM Z<|sV (.ptr 272 5)<|sV (.d (ai.pd x34.aj))<|mM Z<|bE h fun x41 h41 h=>eG h41 Z<|sV (.cptr [.str x41.aj.aq.ar.aM,.str x41.aj.aq.ar.aN,.str x41.aj.aq.ar.ac,.str x41.aj.aq.ar.aO,.int .i64 x41.aj.aq.aL,.int .i64 x41.aj.aq.aY,.int .i64 x41.aj.aq.bh,.int .i64 x41.aj.aq.aF,.int .i64 x41.aj.aq.aH,.lst (x41.aj.aa.aB.map ae.pd),.int .i64 x41.aj.aa.ac.aP.fX,.int .i64 x41.aj.aa.ac.aP.fY,.int .i64 x41.aj.aa.ac.aP.fZ,.int .i64 x41.aj.aa.ac.aL,.int .i64 x41.aj.aa.ac.aQ,.int .i64 x41.aj.aa.ac.bq,.int .i64 x41.aj.aa.ac.aD.aX.fX,.int .i64 x41.aj.aa.ac.aD.aX.fY,.int .i64 x41.aj.aa.ac.aD.aX.fZ,.int .i64 x41.aj.aa.ac.aD.aJ.fX,.int .i64 x41.aj.aa.ac.aD.aJ.fY,.int .i64 x41.aj.aa.ac.aD.aJ.fZ,.int .i64 x41.aj.aa.av.aX,.int .i64 x41.aj.aa.av.aJ,.int .i64 x41.aj.aa.bd,.int .i64 x41.fAt])<|sV (.d (ai.pd x41.aj))<|bE h fun x42 h42 h=>cD (gd h42)<|sV (rB (!x42))<|sF h ?_ ?_<;>intro h
    ·refine sN<|sO<|cT<|gU Z<|sU<|sN<|qR ?_
     cases oI h
     exact⟨nofun,rfl,rfl⟩
    refine sN<|sO<|cF<|qK<|WC.region Z Z<|sV (rI (rW (s31+(1:Int))))<|sM Z<|sN ?_
    cases oI h
    exact⟨rfl,rfl⟩
   refine sN<|qS<|cF<|qX ?_
   cases oI h
   exact⟨nofun,rfl,rfl⟩
  intro e R' B' he hq
  rcases o45 with y46|r47
  ·obtain⟨rfl,hI⟩:=hq
   refine qE<|gS Z hI<|bE h fun x48 h48 h=>cD (law37_awake_ev h48)<|sA Z<|sN<|qR ?_
   exact oI h▸qD
  obtain⟨rfl,hf⟩:=hq
  cases oI h
  exact hf
 obtain⟨rfl,hf⟩:=hq
 cases oI h
 exact hf
end Go.Dw.Fa
