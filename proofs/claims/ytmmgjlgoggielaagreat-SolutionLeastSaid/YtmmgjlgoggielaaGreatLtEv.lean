
import Derived.Test.YtmmgjlgoggielaaGreatLtEvB

set_option maxRecDepth 100000
set_option maxHeartbeats 4000000
namespace Go.Dw.Lt
open Go.Proofs Go.Proofs.Tryz Go.Dw
theorem md{a0:ba}{a1:aL}{a2:Int}{a3:Int}{a4:Int}{r:ak×Int}(h:ew a0 a1 a2 a3 a4=some r):EvP prog av ext 110 [.d (ba.pd a0),.d (aL.pd a1),rI a2,rI a3,rI a4] [] (.tup [.d (ak.pd r.1),rI r.2],[]):=by
 refine Ev.body rfl Tryz.func110 rfl (by kernel_rfl)<|gS rfl rfl<|sB (.ptr 80 0) 80 (.var (ba.rc a0))<|sB (.ptr 96 0) 96 (.var [rM aD.pd a1.bn])<|sB (.ptr 160 0) 160 (.var [r0,r0])<|sV (r0)<|sN<|qS<|gS rfl rfl<|sV (.d (ba.pd a0))<|bE h fun x1 hx1 h=>cD (hX hx1)<|sF h (fun h=>?_) fun h=>?_
 ·refine sN<|cT<|gS rfl rfl<|sV (.d (ak.pd (ak.mk 0 0)))<|sS 160 (.var [r0,r0])<|sV (rI 27)<|sN<|qR ?_
  exact oI h▸qD
 refine sN<|cF<|qK<|qS<|gS rfl rfl<|sM rfl<|sF h (fun h=>?_) fun h=>?_
 ·refine sM rfl<|sK<|sK<|sT<|sN<|cT<|gS rfl rfl<|sV (.d (ak.pd (ak.mk 0 0)))<|sS 160 (.var [r0,r0])<|sV (rI 2)<|sN<|qR ?_
  exact oI h▸qD
 refine sM rfl<|sM rfl<|sV (rB (decide (a2>(1073741823:Int))))<|sF h (fun h=>?_) fun h=>?_
 ·refine sN<|cT<|gS rfl rfl<|sV (.d (ak.pd (ak.mk 0 0)))<|sS 160 (.var [r0,r0])<|sV (rI 2)<|sN<|qR ?_
  exact oI h▸qD
 refine sN<|cF<|qK<|gS rfl rfl<|sV (.d (ba.pd a0))<|sV (.d (aL.pd a1))<|sM rfl<|bE h fun x5 hx5 h=>cR (.tup [rI x5.1,rI x5.2]) [] (mR hx5)<|sM rfl<|sV (rI x5.1)<|sV (rI x5.2)<|sA rfl<|sA rfl<|sN ?_
 refine qS<|gS rfl rfl<|sM rfl<|sF h (fun h=>?_) fun h=>?_
 ·refine sN<|cT<|gS rfl rfl<|sV (.d (ak.pd (ak.mk 0 0)))<|sM rfl<|sS 160 (.var [r0,r0])<|sA rfl<|sN<|qR ?_
  exact oI h▸qD
 refine sN<|cF<|qK<|gS rfl rfl<|sV (.ptr 80 0)<|sV (.d (aq.pd a0.bL))<|sM rfl<|sM rfl<|bE h fun x7 hx7 h=>cR (.tup [rI x7.1,rI x7.2.1,rI x7.2.2]) [] (kP hx7)<|sM rfl<|sV (rI x7.1)<|sV (rI x7.2.1)<|sV (rI x7.2.2)<|sA rfl ?_
 refine sA rfl<|sA rfl<|sN<|qS<|gS rfl rfl<|sM rfl<|sF h (fun h=>?_) fun h=>?_
 ·refine sN<|cT<|gS rfl rfl<|sV (.d (ak.pd (ak.mk 0 0)))<|sM rfl<|sS 160 (.var [r0,r0])<|sA rfl<|sN<|qR ?_
  exact oI h▸qD
 refine sN<|cF<|qK<|gS rfl rfl<|sM rfl<|sV (rI (rW (x5.1-(2:Int))))<|bE h fun x9 hx9 h=>cD (kD hx9)<|bE h fun x10 hx10 h=>cD (kb hx10)<|sM rfl<|sV (rI (rW (x10+x7.1)))<|sM rfl<|sV (rI (rW (0-x5.1)))<|sV (rI (rW ((rW (0-x5.1))-(6:Int)))) ?_
 refine bE h fun x11 hx11 h=>cD (kD hx11)<|sV (rI (rW (0-x11)))<|bE h fun x12 hx12 h=>cD (nG hx12)<|sM rfl<|sV (rI (rW (x12+x7.2.1)))<|sV (.d (ak.pd (ak.mk (rW (x10+x7.1)) (rW (x12+x7.2.1)))))<|sS 160 (.var [rI (rW (x10+x7.1)),rI (rW (x12+x7.2.1))])<|sV (r0)<|sN<|qR ?_
 exact oI h▸qD
theorem lZ{a0:aI}{a1:aw}{a2:ag}{r:(List ak)}(h:ci a0 a1 a2=some r):EvP prog av ext 58 [.d (aI.pd a0),.d (aw.pd a1),.d (ag.pd a2)] [] (rM ak.pd r,[]):=by
 refine Ev.body rfl Tryz.func58 rfl (by kernel_rfl)<|gS rfl rfl<|sB (.ptr 48 0) 48 (.var (aI.rc a0))<|sB (.ptr 64 0) 64 (.var (aw.rc a1))<|sB (.ptr 80 0) 80 (.var (ag.rc a2))<|sV .nR<|sN<|gS rfl rfl<|sV .nR<|sN<|qS<|gS rfl rfl<|sV (.ptr 48 1)<|sL rfl<|sE (rI (a0.cm.length:Int)) (nT _ _) ?_
 refine sV (r0)<|sN<|bE h fun o15 ho15 h=>WC.block (WC.loop (WL.n4 ho15 (fun s R' B'=>hY prog 0 (A R' B') (av.at_ 58 0 3)=some (A [(3,.ptr 48 0),(4,.ptr 64 0),(5,.ptr 80 0),(7,.ref 816 0),(13,rM aC.pd a0.cm),(14,rI (a0.cm.length:Int)),(15,rI s.1)] [(48,.var (aI.rc a0)),(64,.var (aw.rc a1)),(80,.var (ag.rc a2)),(816,.arr 0 47 (s.2.map ak.pd))])) (fun o e R' B'=>e= .exit 0∧hY prog 0 (A R' B') (av.at_ 58 0 9)=some (A [(7,.ref 816 0)] [(816,.arr 0 47 (o.map ak.pd))])) rfl ?_ ?_))
 ·rintro⟨s1,s2⟩ R' B' q4 hI h
  refine gS rfl hI<|sF h (fun h=>?_) fun h=>?_
  ·refine sN<|qS<|cT<|qK<|qS<|qB<|gS rfl rfl<|sM rfl<|bE h fun x6 hx6 h=>eG hx6 rfl<|sV (.d (aC.pd x6))<|sB (.ptr 144 0) 144 (.var zZ4)<|sA rfl<|sH 144 (.var (aC.rc x6))<|sN ?_
   refine WC.cI rfl rfl<|sV (.ptr 64 14)<|sV (.d (ba.pd a1.dY))<|sV (.ptr 48 2)<|sL rfl<|sM rfl<|bE h fun x7 hx7 h=>eG hx7 rfl<|sV (.cptr [.lst (x7.br.bn.map aD.pd)])<|sV (.d (aL.pd x7.br))<|sV (.ptr 48 0)<|sL rfl<|sM rfl<|bE h fun x8 hx8 h=>eG hx8 rfl ?_
   refine sV (.cptr [.int .i64 x8.bj,.int .i64 x8.bO])<|sC rfl<|sV (.d (ag.pd a2))<|sV (.ptr 144 0)<|sV (.d (aa.pd x6.aM))<|bE h fun x9 hx9 h=>cD (iJ hx9)<|sV (.d (ag.pd a2))<|sV (.ptr 144 0)<|sV (.d (aa.pd x6.aM))<|bE h fun x10 hx10 h=>cD (lT hx10)<|bE h fun x11 hx11 h=>cR (.tup [.d (ak.pd x11.1),rI x11.2]) [] (md hx11)<|sM rfl ?_
   refine sV (.d (ak.pd x11.1))<|sV (rI x11.2)<|sB (.ptr 160 0) 160 (.var [r0,r0])<|sS 160 (.var (ak.rc x11.1))<|sA rfl ?_
   refine sN<|sO<|gS rfl rfl<|sM rfl<|sF h (fun h=>?_) fun h=>?_
   ·refine sN<|cT<|WC.region rfl rfl<|sM rfl<|sV (.d (ak.pd x11.1))<|sV (.d (.lst ([x11.1].map ak.pd)))<|bE h fun x13 hx13 h=>aR hx13 (fun _=>rfl) rfl<|sA rfl<|sN<|WC.region rfl rfl<|sV (rI (rW (s1+(1:Int))))<|sM rfl<|sN ?_
    cases oI h
    exact⟨rfl,rfl⟩
   refine sN<|cF<|qK<|WC.region rfl rfl<|sV (rI (rW (s1+(1:Int))))<|sM rfl<|sN ?_
   cases oI h
   exact⟨rfl,rfl⟩
  refine sN<|qS<|cF<|qX ?_
  cases oI h
  exact⟨nofun,rfl,rfl⟩
 intro e R' B' he hq
 obtain⟨rfl,hI⟩:=hq
 refine qE<|gS rfl hI<|sM rfl<|sA rfl<|sN<|qR ?_
 exact oI h▸qD
theorem gw{a0:ak}{r:Bool}(h:fr a0=some r):EvP prog av ext 114 [.d (ak.pd a0)] [] (rB r,[]):=by
 refine Ev.body rfl Tryz.func114 rfl (by kernel_rfl)<|gS rfl rfl<|sB (.ptr 16 0) 16 (.var (ak.rc a0))<|sU<|sN<|gS rfl rfl<|sV (.ptr 16 0)<|sL rfl<|sV (.ptr 16 1)<|sL rfl<|sV (rB (decide (a0.aF>a0.az)))<|sA rfl<|sN<|qR ?_
 exact oI h▸qD
theorem ie{a0:(List ak)}{r:Int}(h:de a0=some r):EvP prog av ext 198 [rM ak.pd a0,.d (.raw (.func (.func 114) #[] #[]))] [] (rI r,[]):=by
 refine Ev.body rfl Tryz.func198 rfl (by kernel_rfl)<|gS rfl rfl<|sV (r0)<|sN<|qS<|gS rfl rfl<|sM rfl<|sE (rI (a0.length:Int)) (nT _ _)<|sV (r0)<|sN<|bE h fun o8 ho8 h=>WC.block (WC.loop (WL.n4 ho8 (fun s R' B'=>hY prog 0 (A R' B') (av.at_ 198 0 2)=some (A [(0,rM ak.pd a0),(1,.d (.raw (.func (.func 114) #[] #[]))),(7,rI (a0.length:Int)),(8,rI s)] [])) (fun o e R' B'=>match o with| .inl y=>e= .exit 0∧hY prog 0 (A R' B') (av.at_ 198 0 7)=some (A [] [])| .inr r=>e= .ret∧finish prog (av.own 198) Tryz.f198 0 (A R' B')=some (rI r,[])) rfl ?_ ?_))
 ·rintro s1 R' B' q2 hI h
  refine gS rfl hI<|sF h (fun h=>?_) fun h=>?_
  ·refine sN<|qS<|cT<|qK<|qS<|qB<|gS rfl rfl<|sM rfl<|sA rfl<|sN<|gS rfl rfl<|sM rfl<|sM rfl<|sM rfl<|bE h fun x4 hx4 h=>?_
   refine eG hx4 rfl<|sV (.d (ak.pd x4))<|bE h fun x5 hx5 h=>oz h (fun hb6 h=>?_) (fun hb6 h=>?_)
   ·refine WO.oM (v:=rB true) (u:=[]) rfl rfl (fun _=>rfl) rfl rfl rfl rfl rfl (gw hx5) rfl rfl (congrArg (fun b=>RV.d (.bool b)) hb6) rfl<|sN<|cT<|gS rfl rfl<|sM rfl<|sA rfl<|sN<|qR ?_
    cases oI h
    exact⟨nofun,rfl,rfl⟩
   refine WO.oM (v:=rB false) (u:=[]) rfl rfl (fun _=>rfl) rfl rfl rfl rfl rfl (gw hx5) rfl rfl (congrArg (fun b=>RV.d (.bool b)) hb6) rfl<|sN<|cF<|qK<|WC.region rfl rfl<|sV (rI (rW (s1+(1:Int))))<|sM rfl<|sN ?_
   cases oI h
   exact⟨rfl,rfl⟩
  refine sN<|qS<|cF<|qX ?_
  cases oI h
  exact⟨nofun,rfl,rfl⟩
 intro e R' B' he hq
 rcases o8 with y9|r10
 ·obtain⟨rfl,hI⟩:=hq
  refine qE<|gS rfl hI<|sV (rI (-1))<|sN<|qR ?_
  exact oI h▸qD
 obtain⟨rfl,hf⟩:=hq
 cases oI h
 exact hf
theorem dI{a0:(List ak)}{r:Bool}(h:bZ a0=some r):EvP prog av ext 113 [rM ak.pd a0,.d (.raw (.func (.func 114) #[] #[]))] [] (rB r,[]):=by
 refine Ev.body rfl Tryz.func113 rfl (by kernel_rfl)<|gS rfl rfl<|sU<|sN<|gS rfl rfl<|sM rfl<|sM rfl<|bE h fun x1 hx1 h=>cD (ie hx1)<|sV (rB (decide (x1>=(0:Int))))<|sA rfl<|sN<|qR ?_
 exact oI h▸qD
theorem ku{a0:ak}{r:Int}(h:fu a0=some r):EvP prog av ext 116 [.d (ak.pd a0)] [] (rI r,[]):=by
 refine Ev.body rfl Tryz.func116 rfl (by kernel_rfl)<|gS rfl rfl<|sB (.ptr 16 0) 16 (.var (ak.rc a0))<|sV (r0)<|sN<|gS rfl rfl<|sV (.ptr 16 0)<|sL rfl<|sA rfl<|sN<|qR ?_
 exact oI h▸qD
theorem cmp_Less_int_ev{a0:Int}{a1:Int}{r:Bool}(h:jH a0 a1=some r):EvP prog av ext 290 [rI a0,rI a1] [] (rB r,[]):=by
 refine Ev.body rfl Tryz.func290 rfl (by kernel_rfl)<|gS rfl rfl<|sU<|sN<|gS rfl rfl<|sM rfl<|bE h fun x1 hx1 h=>oz h (fun hb2 h=>?_) (fun hb2 h=>?_)
 ·refine WO.oM (v:=rB true) (u:=[]) rfl rfl (fun _=>rfl) rfl rfl rfl rfl rfl (eS hx1) rfl rfl (congrArg (fun b=>RV.d (.bool b)) hb2) rfl<|sM rfl<|sM rfl<|bE h fun x3 hx3 h=>cD (eS hx3)<|sV (rB (!x3))<|sF h (fun h=>?_) fun h=>?_
  ·refine sM rfl<|k3<|sT<|sA rfl<|sN<|qR ?_
   exact oI h▸qD
  refine sM rfl<|sM rfl<|sM rfl<|sV (rB (decide (a0<a1)))<|sV (rB (decide (a0<a1)))<|sA rfl<|sN<|qR ?_
  exact oI h▸qD
 refine WO.oM (v:=rB false) (u:=[]) rfl rfl (fun _=>rfl) rfl rfl rfl rfl rfl (eS hx1) rfl rfl (congrArg (fun b=>RV.d (.bool b)) hb2) rfl<|sM rfl<|k3<|sU<|sM rfl<|sM rfl<|sM rfl<|sV (rB (decide (a0<a1)))<|sV (rB (decide (a0<a1)))<|sA rfl<|sN<|qR ?_
 exact oI h▸qD
theorem gZ{a1:Int}{a2:Int}{d0:(List Int)}{r:(List Int)}(h:ca a1 a2 d0=some r):EvP prog av ext 284 [.ref 0 0,rI a1,rI a2] [.arr 0 3 (d0.map (PD.int .i64))] (.tup [],[.arr 0 3 (r.map (PD.int .i64))]):=by
 refine Ev.body rfl Tryz.func284 rfl (by kernel_rfl)<|gS rfl rfl<|sM rfl<|sV (rI (rW (a1+(1:Int))))<|sA rfl<|sN<|bE h fun o35 ho35 h=>?_
 cases oI h
 refine WC.block (WC.loop (WL.xL ho35 (fun s R' B'=>hY prog 1 (A R' B') (av.at_ 284 1 1)=some (A [(0,.ref 0 0),(1,rI a1),(2,rI a2),(6,rI s.1)] [(0,.arr 0 3 (s.2.map (PD.int .i64)))])) rfl ?_))
 rintro⟨s1,s2⟩ R' B' q3 hI h
 refine qS<|gS rfl hI<|sM rfl<|sM rfl<|sF h (fun h=>?_) fun h=>?_
 ·refine sN<|cT<|qK<|qS<|qB<|gS rfl rfl<|sM rfl<|sA rfl<|sN<|bE h fun o32 ho32 h=>WC.block (WC.loop (WL.n4 ho32 (fun s R' B'=>hY prog 1 (A R' B') (av.at_ 284 1 4)=some (A [(0,.ref 0 0),(1,rI a1),(2,rI a2),(6,rI s1),(7,rI s.1)] [(0,.arr 0 3 (s.2.map (PD.int .i64)))])) (fun o e R' B'=>e= .exit 2∧hY prog 1 (A R' B') (av.at_ 284 1 2)=some (A [(0,.ref 0 0),(1,rI a1),(2,rI a2),(6,rI o.1)] [(0,.arr 0 3 (o.2.map (PD.int .i64)))])) rfl ?_ ?_))
  ·rintro⟨s5,s6⟩ R' B' q9 hI h
   refine qS<|WC.cI hI rfl<|sM rfl<|sM rfl<|sF h (fun h=>?_) fun h=>?_
   ·refine sM rfl<|sM rfl<|sM rfl<|bE h fun x12 hx12 h=>WO.pL hx12 rfl rfl rfl rfl rfl rfl rfl rfl<|bE h fun x13 hx13 h=>WO.pn hx13 rfl rfl rfl rfl rfl rfl<|sM rfl<|sM rfl<|sV (rI (rW (s5-(1:Int))))<|bE h fun x15 hx15 h=>WO.pL hx15 rfl rfl rfl rfl rfl rfl rfl rfl<|bE h fun x16 hx16 h=>WO.pn hx16 rfl rfl rfl rfl rfl rfl<|bE h fun x17 hx17 h=>?_
    refine cD (cmp_Less_int_ev hx17)<|sF h (fun h=>?_) fun h=>?_
    ·refine sN<|sO<|cT<|qK<|qS<|qB<|WC.oW rfl rfl<|sM rfl<|sM rfl<|sM rfl<|sM rfl<|sV (rI (rW (s5-(1:Int))))<|sM rfl<|sM rfl<|sV (rI (rW (s5-(1:Int))))<|bE h fun x20 hx20 h=>?_
     refine WO.pL hx20 rfl rfl rfl rfl rfl rfl rfl rfl<|bE h fun x21 hx21 h=>WO.pn hx21 rfl rfl rfl rfl rfl rfl<|sM rfl<|sM rfl<|bE h fun x23 hx23 h=>WO.pL hx23 rfl rfl rfl rfl rfl rfl rfl rfl<|bE h fun x24 hx24 h=>WO.pn hx24 rfl rfl rfl rfl rfl rfl<|bE h fun x26 hx26 h=>WO.pL hx26 rfl rfl rfl rfl rfl rfl rfl rfl<|bE h fun x27 hx27 h=>WO.tg (g:=(PD.int .i64)) (sz:=1) (p:= .int .i64 x21) hx27 (fun _=>rfl) (fun _=>rfl) rfl rfl rfl rfl rfl rfl rfl rfl rfl<|bE h fun x29 hx29 h=>WO.pL hx29 rfl rfl rfl rfl rfl rfl rfl rfl ?_
     refine bE h fun x30 hx30 h=>WO.tg (g:=(PD.int .i64)) (sz:=1) (p:= .int .i64 x24) hx30 (fun _=>rfl) (fun _=>rfl) rfl rfl rfl rfl rfl rfl rfl rfl rfl ?_
     refine sN<|sO<|WC.region rfl rfl<|sM rfl<|sV (rI (rW (s5-(1:Int))))<|sA rfl<|sN ?_
     cases oI h
     exact⟨rfl,rfl⟩
    refine sN<|sO<|cF<|qX ?_
    cases oI h
    exact⟨nofun,rfl,rfl⟩
   refine sM rfl<|k3<|k3<|k3<|sK<|sU ?_
   refine sN<|sO<|cF<|qX ?_
   cases oI h
   exact⟨nofun,rfl,rfl⟩
  intro e R' B' he hq
  obtain⟨rfl,hI⟩:=hq
  refine qE<|WC.region hI rfl<|sM rfl<|sV (rI (rW (o32.1+(1:Int))))<|sA rfl<|sN ?_
  cases oI h
  exact⟨rfl,rfl⟩
 refine sN<|cF<|qX<|tN h (fun z33 hkz33 hz=>?_)
 obtain rfl:=Option.some.inj hz
 refine⟨(fun he=>by cases he),fun hz2=>?_⟩
 subst hz2
 have h:=hkz33
 refine qE ?_
 exact oI h▸qD
theorem jm:∀(nfu:Nat){a1:Int}{a2:Int}{a3:Int}{d0:(List Int)}{r:(List Int)}(_:gd nfu a1 a2 a3 d0=some r),EvP prog av ext 207 [.ref 0 0,rI a1,rI a2,rI a3] [.arr 0 3 (d0.map (PD.int .i64))] (.tup [],[.arr 0 3 (r.map (PD.int .i64))])
  |0,_,_,_,_,_,h=>by cases h
  |nfu+1,a1,a2,a3,d0,r,h=>by
   refine Ev.body rfl Tryz.func207 rfl (by kernel_rfl)<|gS rfl rfl<|sT<|sN<|gS rfl rfl<|sT<|sN<|bE h fun o6 ho6 h=>WC.block (WC.loop (WL.n4 ho6 (fun s R' B'=>hY prog 1 (A R' B') (av.at_ 207 1 2)=some (A [(0,.ref 0 0),(1,rI a1),(2,rI a2),(3,rI a3),(8,rB true),(9,rB true)] [(0,.arr 0 3 (d0.map (PD.int .i64)))])) (fun o e R' B'=>e= .ret∧finish prog (av.own 207) Tryz.f207 1 (A R' B')=some (.tup [],[.arr 0 3 (o.map (PD.int .i64))])) rfl ?_ ?_))
   ·rintro⟨⟩ R' B' q1 hI h
    refine qB<|gS rfl hI<|sM rfl<|sM rfl<|sV (rI (rW (a2-a1)))<|sA rfl<|sN<|qS<|gS rfl rfl<|sM rfl<|sF h (fun h=>?_) fun h=>?_
    ·refine sN<|cT<|gS rfl rfl<|sM rfl<|sM rfl<|sM rfl<|bE h fun x3 hx3 h=>cR (.tup []) [(0,.arr 0 3 (x3.map (PD.int .i64)))] (gZ hx3)<|sN<|qR ?_
     cases oI h
     exact⟨nofun,rfl,rfl⟩
    refine sN<|cF<|qK<|qS<|gS rfl rfl<|sM rfl<|sF h (fun h=>?_) fun h=>?_
    ·refine sN<|cT<|gS rfl rfl<|sM rfl<|sM rfl<|sM rfl ?_
     cases h
    refine sN<|cF<|qK<|qS<|gS rfl rfl<|sM rfl<|sU<|sN<|cF<|qK<|gS rfl rfl<|sM rfl<|sM rfl<|sM rfl ?_
    cases h
   intro e R' B' he hq
   obtain⟨rfl,hf⟩:=hq
   cases oI h
   exact hf
theorem jw{a1:Int}{a2:Int}{a3:Int}{d0:(List Int)}{r:(List Int)}(h:eh a1 a2 a3 d0=some r):EvP prog av ext 207 [.ref 0 0,rI a1,rI a2,rI a3] [.arr 0 3 (d0.map (PD.int .i64))] (.tup [],[.arr 0 3 (r.map (PD.int .i64))]):=
  let⟨n,hn⟩:=AN h;jm n hn
theorem kq{d0:(List Int)}{r:(List Int)}(h:fG d0=some r):EvP prog av ext 133 [.ref 0 0] [.arr 0 3 (d0.map (PD.int .i64))] (.tup [],[.arr 0 3 (r.map (PD.int .i64))]):=by
 refine Ev.body rfl Tryz.func133 rfl (by kernel_rfl)<|gS rfl rfl<|sM rfl<|WO.u9 rfl rfl rfl rfl rfl rfl rfl rfl rfl<|sA rfl<|sN<|WC.region rfl rfl<|sM rfl<|sM rfl<|sM rfl<|sV (.d (.int .u64 (IntKind.wrap .u64 (d0.length:Int))))<|bE h fun x1 hx1 h=>cD (l5 hx1)<|bE h fun x2 hx2 h=>cR (.tup []) [(0,.arr 0 3 (x2.map (PD.int .i64)))] (jw hx2) ?_
 refine sN ?_
 exact oI h▸qD
theorem kY{a0:(List ak)}{r:Int}(h:ed a0=some r):EvP prog av ext 115 [rM ak.pd a0,.d (.raw (.func (.func 116) #[] #[]))] [] (rI r,[]):=by
 refine Ev.body rfl Tryz.func115 rfl (by kernel_rfl)<|gS rfl rfl<|sV (r0)<|sN<|gS rfl rfl<|sV .nR<|sN<|qS<|gS rfl rfl<|sM rfl<|sE (rI (a0.length:Int)) (nT _ _)<|sV (r0)<|sN<|bE h fun o10 ho10 h=>WC.block (WC.loop (WL.n4 ho10 (fun s R' B'=>hY prog 0 (A R' B') (av.at_ 115 0 3)=some (A [(1,.d (.raw (.func (.func 116) #[] #[]))),(5,.ref 304 0),(8,rM ak.pd a0),(9,rI (a0.length:Int)),(10,rI s.1)] [(304,.arr 0 3 (s.2.map (PD.int .i64)))])) (fun o e R' B'=>e= .exit 0∧hY prog 0 (A R' B') (av.at_ 115 0 7)=some (A [(5,.ref 304 0)] [(304,.arr 0 3 (o.map (PD.int .i64)))])) rfl ?_ ?_))
 ·rintro⟨s1,s2⟩ R' B' q4 hI h
  refine gS rfl hI<|sF h (fun h=>?_) fun h=>?_
  ·refine sN<|qS<|cT<|qK<|qS<|qB<|gS rfl rfl<|bE h fun x6 hx6 h=>eG hx6 rfl<|sV (.d (ak.pd x6))<|sB (.ptr 112 0) 112 (.var [r0,r0])<|sS 112 (.var (ak.rc x6))<|sN<|WC.region rfl rfl<|sM rfl ?_
   refine sM rfl<|sV (.d (ak.pd x6))<|bE h fun x7 hx7 h=>cD (ku hx7)<|sV (.d (.lst ([x7].map (PD.int .i64))))<|bE h fun x8 hx8 h=>aR hx8 (fun _=>rfl) rfl<|sA rfl<|sN<|WC.region rfl rfl<|sV (rI (rW (s1+(1:Int))))<|sM rfl<|sN ?_
   cases oI h
   exact⟨rfl,rfl⟩
  refine sN<|qS<|cF<|qX ?_
  cases oI h
  exact⟨nofun,rfl,rfl⟩
 intro e R' B' he hq
 obtain⟨rfl,hI⟩:=hq
 refine qE<|gS rfl hI<|sM rfl<|bE h fun x11 hx11 h=>cR (.tup []) [(304,.arr 0 3 (x11.map (PD.int .i64)))] (kq hx11)<|sN<|gS rfl rfl<|sM rfl<|sM rfl<|WO.u9 rfl rfl rfl rfl rfl rfl rfl rfl rfl<|sV (rI (rW ((x11.length:Int)-(1:Int))))<|bE h fun x12 hx12 h=>WO.ru hx12 rfl rfl rfl rfl rfl rfl<|bE h fun x14 hx14 h=>WO.pL hx14 rfl rfl rfl rfl rfl rfl rfl rfl ?_
 refine bE h fun x15 hx15 h=>WO.pn hx15 rfl rfl rfl rfl rfl rfl<|sA rfl<|sN<|qR ?_
 exact oI h▸qD
theorem kw{a0:ak}{r:Int}(h:fw a0=some r):EvP prog av ext 117 [.d (ak.pd a0)] [] (rI r,[]):=by
 refine Ev.body rfl Tryz.func117 rfl (by kernel_rfl)<|gS rfl rfl<|sB (.ptr 16 0) 16 (.var (ak.rc a0))<|sV (r0)<|sN<|gS rfl rfl<|sV (.ptr 16 1)<|sL rfl<|sA rfl<|sN<|qR ?_
 exact oI h▸qD
theorem kZ{a0:(List ak)}{r:Int}(h:ef a0=some r):EvP prog av ext 115 [rM ak.pd a0,.d (.raw (.func (.func 117) #[] #[]))] [] (rI r,[]):=by
 refine Ev.body rfl Tryz.func115 rfl (by kernel_rfl)<|gS rfl rfl<|sV (r0)<|sN<|gS rfl rfl<|sV .nR<|sN<|qS<|gS rfl rfl<|sM rfl<|sE (rI (a0.length:Int)) (nT _ _)<|sV (r0)<|sN<|bE h fun o10 ho10 h=>WC.block (WC.loop (WL.n4 ho10 (fun s R' B'=>hY prog 0 (A R' B') (av.at_ 115 0 3)=some (A [(1,.d (.raw (.func (.func 117) #[] #[]))),(5,.ref 304 0),(8,rM ak.pd a0),(9,rI (a0.length:Int)),(10,rI s.1)] [(304,.arr 0 3 (s.2.map (PD.int .i64)))])) (fun o e R' B'=>e= .exit 0∧hY prog 0 (A R' B') (av.at_ 115 0 7)=some (A [(5,.ref 304 0)] [(304,.arr 0 3 (o.map (PD.int .i64)))])) rfl ?_ ?_))
 ·rintro⟨s1,s2⟩ R' B' q4 hI h
  refine gS rfl hI<|sF h (fun h=>?_) fun h=>?_
  ·refine sN<|qS<|cT<|qK<|qS<|qB<|gS rfl rfl<|bE h fun x6 hx6 h=>eG hx6 rfl<|sV (.d (ak.pd x6))<|sB (.ptr 112 0) 112 (.var [r0,r0])<|sS 112 (.var (ak.rc x6))<|sN<|WC.region rfl rfl<|sM rfl ?_
   refine sM rfl<|sV (.d (ak.pd x6))<|bE h fun x7 hx7 h=>cD (kw hx7)<|sV (.d (.lst ([x7].map (PD.int .i64))))<|bE h fun x8 hx8 h=>aR hx8 (fun _=>rfl) rfl<|sA rfl<|sN<|WC.region rfl rfl<|sV (rI (rW (s1+(1:Int))))<|sM rfl<|sN ?_
   cases oI h
   exact⟨rfl,rfl⟩
  refine sN<|qS<|cF<|qX ?_
  cases oI h
  exact⟨nofun,rfl,rfl⟩
 intro e R' B' he hq
 obtain⟨rfl,hI⟩:=hq
 refine qE<|gS rfl hI<|sM rfl<|bE h fun x11 hx11 h=>cR (.tup []) [(304,.arr 0 3 (x11.map (PD.int .i64)))] (kq hx11)<|sN<|gS rfl rfl<|sM rfl<|sM rfl<|WO.u9 rfl rfl rfl rfl rfl rfl rfl rfl rfl<|sV (rI (rW ((x11.length:Int)-(1:Int))))<|bE h fun x12 hx12 h=>WO.ru hx12 rfl rfl rfl rfl rfl rfl<|bE h fun x14 hx14 h=>WO.pL hx14 rfl rfl rfl rfl rfl rfl rfl rfl ?_
 refine bE h fun x15 hx15 h=>WO.pn hx15 rfl rfl rfl rfl rfl rfl<|sA rfl<|sN<|qR ?_
 exact oI h▸qD
theorem mc{a0:(List ak)}{r:ak×Int}(h:ev a0=some r):EvP prog av ext 59 [rM ak.pd a0] [] (.tup [.d (ak.pd r.1),rI r.2],[]):=by
 refine Ev.body rfl Tryz.func59 rfl (by kernel_rfl)<|gS rfl rfl<|sB (.ptr 32 0) 32 (.var [r0,r0])<|sV (r0)<|sN<|qS<|gS rfl rfl<|sM rfl<|sE (rI (a0.length:Int)) (nT _ _)<|sF h (fun h=>?_) fun h=>?_
 ·refine sN<|cT<|gS rfl rfl<|sV (.d (ak.pd (ak.mk 0 0)))<|sS 32 (.var [r0,r0])<|sV (rI 24)<|sN<|qR ?_
  exact oI h▸qD
 refine sN<|cF<|qK<|qS<|gS rfl rfl<|sM rfl<|bE h fun x2 hx2 h=>oz h (fun hb3 h=>?_) (fun hb3 h=>?_)
 ·refine WO.oM (v:=rB true) (u:=[]) rfl rfl (fun _=>rfl) rfl rfl rfl rfl rfl (dI hx2) rfl rfl (congrArg (fun b=>RV.d (.bool b)) hb3) rfl<|sN<|cT<|gS rfl rfl<|sV (.d (ak.pd (ak.mk 0 0)))<|sS 32 (.var [r0,r0])<|sV (rI 1)<|sN<|qR ?_
  exact oI h▸qD
 refine WO.oM (v:=rB false) (u:=[]) rfl rfl (fun _=>rfl) rfl rfl rfl rfl rfl (dI hx2) rfl rfl (congrArg (fun b=>RV.d (.bool b)) hb3) rfl<|sN<|cF<|qK<|gS rfl rfl<|sM rfl<|bE h fun x4 hx4 h=>cD (kY hx4)<|sM rfl<|bE h fun x5 hx5 h=>cD (kZ hx5)<|sV (.d (ak.pd (ak.mk x4 x5)))<|sS 32 (.var [rI x4,rI x5])<|sV (r0)<|sN ?_
 refine qR ?_
 exact oI h▸qD
theorem iC{a0:aw}{a1:aB}{a2:(List ar)}{r:aU×Int}(h:d9 a0 a1 a2=some r):EvP prog av ext 15 [.d (aw.pd a0),.d (aB.pd a1),rM ar.pd a2] [] (.tup [.d (aU.pd r.1),rI r.2],[]):=by
 refine Ev.body rfl Tryz.func15 rfl (by kernel_rfl)<|gS rfl rfl<|sB (.ptr 48 0) 48 (.var (aw.rc a0))<|sB (.ptr 64 0) 64 (.var [rM au.pd a1.aP])<|sB (.ptr 96 0) 96 (.var zZ0)<|sV (r0)<|sN<|gS rfl rfl<|sV (.d (aw.pd a0))<|sV (.d (aB.pd a1))<|sM rfl<|bE h fun x1 hx1 h=>cR (.tup [.d (aI.pd x1.1),rI x1.2]) [] (kr hx1)<|sM rfl<|sV (.d (aI.pd x1.1)) ?_
 refine sV (rI x1.2)<|sB (.ptr 128 0) 128 (.var [.nR,.nR,.nR])<|sS 128 (.var (aI.rc x1.1))<|sA rfl<|sN<|qS<|gS rfl rfl<|sM rfl<|sF h (fun h=>?_) fun h=>?_
 ·refine sN<|cT<|gS rfl rfl<|sG (.agg zZ0)<|sM rfl<|sH 96 (.var zZ0)<|sA rfl<|sN<|qR ?_
  cases oI h
  exact qG
 refine sN<|cF<|qK<|gS rfl rfl<|sV (.d (aI.pd x1.1))<|sV (.d (aw.pd a0))<|bE h fun x3 hx3 h=>cR (.tup [.d (ae.pd x3.1),rI x3.2]) [] (jC hx3)<|sM rfl<|sV (.d (ae.pd x3.1))<|sV (rI x3.2)<|sB (.ptr 160 0) 160 (.var zZ2)<|sH 160 (.var (ae.rc x3.1))<|sA rfl<|sN ?_
 refine qS<|gS rfl rfl<|sM rfl<|sF h (fun h=>?_) fun h=>?_
 ·refine sN<|cT<|gS rfl rfl<|sG (.agg zZ0)<|sM rfl<|sH 96 (.var zZ0)<|sA rfl<|sN<|qR ?_
  cases oI h
  exact qG
 refine sN<|cF<|qK<|gS rfl rfl<|sV (.d (ae.pd x3.1))<|sV (.ptr 48 19)<|sL rfl<|bE h fun x5 hx5 h=>cR (.tup [.d (ai.pd x5.1),rI x5.2]) [] (locate_Locate_ev hx5)<|sM rfl<|sV (.d (ai.pd x5.1))<|sV (rI x5.2)<|sB (.ptr 176 0) 176 (.var zZ1)<|sH 176 (.var (ai.rc x5.1))<|sA rfl ?_
 refine sN<|qS<|gS rfl rfl<|sM rfl<|sF h (fun h=>?_) fun h=>?_
 ·refine sN<|cT<|gS rfl rfl<|sG (.agg zZ0)<|sM rfl<|sH 96 (.var zZ0)<|sA rfl<|sN<|qR ?_
  cases oI h
  exact qG
 refine sN<|cF<|qK<|gS rfl rfl<|sV (.ptr 128 0)<|sL rfl<|sV (.d (ai.pd x5.1))<|sG (.d (.agg [.lst (x1.1.cn.map ar.pd),.int .i64 x5.1.bp.fX,.int .i64 x5.1.bp.fY,.int .i64 x5.1.bp.fZ,.int .i64 x5.1.bS,.int .i64 x5.1.aZ,.int .i64 x5.1.iH,.int .i64 x5.1.bK.aF.fX,.int .i64 x5.1.bK.aF.fY,.int .i64 x5.1.bK.aF.fZ,.int .i64 x5.1.bK.az.fX,.int .i64 x5.1.bK.az.fY,.int .i64 x5.1.bK.az.fZ,.int .i64 0,.int .i64 0,.int .i64 0]))<|sB (.ptr 192 0) 192 (.var zZ0)<|sH 192 (.var (rM ar.pd x1.1.cn::ai.rc x5.1++[r0,r0,r0]))<|sN<|qS<|gS rfl rfl<|sV (.d (aI.pd x1.1))<|sV (.d (aw.pd a0)) ?_
 refine sV (.ptr 176 6)<|sV (.d (ag.pd x5.1.bK))<|bE h fun x7 hx7 h=>cD (lZ hx7)<|sA rfl<|sN<|gS rfl rfl<|sM rfl<|sE (rI (x7.length:Int)) (nT _ _)<|sF h (fun h=>?_) fun h=>?_
 ·refine sN<|cT<|gS rfl rfl<|sM rfl<|sE (rI (x7.length:Int)) (nT _ _)<|sV (.ptr 192 15)<|sS 192 (.var (rM ar.pd x1.1.cn::ai.rc x5.1++[r0,r0,rI (x7.length:Int)]))<|sN<|gS rfl rfl<|sM rfl<|bE h fun x9 hx9 h=>cR (.tup [.d (ak.pd x9.1),rI x9.2]) [] (mc hx9)<|sM rfl<|sV (.d (ak.pd x9.1))<|sV (rI x9.2) ?_
  refine sV (.ptr 192 13)<|sS 192 (.var (rM ar.pd x1.1.cn::ai.rc x5.1++ak.rc x9.1++[rI (x7.length:Int)]))<|sA rfl<|sN<|gS rfl rfl<|sM rfl<|sF h (fun h=>?_) fun h=>?_
  ·refine sN<|cT<|gS rfl rfl<|sG (.agg zZ0)<|sM rfl<|sH 96 (.var zZ0)<|sA rfl<|sN<|qR ?_
   cases oI h
   exact qG
  refine sN<|cF<|qK<|gS rfl rfl<|sV (.d (.agg [.lst (x1.1.cn.map ar.pd),.int .i64 x5.1.bp.fX,.int .i64 x5.1.bp.fY,.int .i64 x5.1.bp.fZ,.int .i64 x5.1.bS,.int .i64 x5.1.aZ,.int .i64 x5.1.iH,.int .i64 x5.1.bK.aF.fX,.int .i64 x5.1.bK.aF.fY,.int .i64 x5.1.bK.aF.fZ,.int .i64 x5.1.bK.az.fX,.int .i64 x5.1.bK.az.fY,.int .i64 x5.1.bK.az.fZ,.int .i64 x9.1.aF,.int .i64 x9.1.az,.int .i64 (x7.length:Int)]))<|sH 96 (.var (rM ar.pd x1.1.cn::ai.rc x5.1++ak.rc x9.1++[rI (x7.length:Int)]))<|sV (r0)<|sN<|qR ?_
  cases oI h
  exact qG
 refine sN<|cF<|qK<|gS rfl rfl<|sV (.d (.agg [.lst (x1.1.cn.map ar.pd),.int .i64 x5.1.bp.fX,.int .i64 x5.1.bp.fY,.int .i64 x5.1.bp.fZ,.int .i64 x5.1.bS,.int .i64 x5.1.aZ,.int .i64 x5.1.iH,.int .i64 x5.1.bK.aF.fX,.int .i64 x5.1.bK.aF.fY,.int .i64 x5.1.bK.aF.fZ,.int .i64 x5.1.bK.az.fX,.int .i64 x5.1.bK.az.fY,.int .i64 x5.1.bK.az.fZ,.int .i64 0,.int .i64 0,.int .i64 0]))<|sH 96 (.var (rM ar.pd x1.1.cn::ai.rc x5.1++[r0,r0,r0]))<|sV (r0)<|sN<|qR ?_
 cases oI h
 exact qG
theorem jZ{r:Bool}(h:hP=some r):EvP prog av ext 16 [] [] (rB r,[]):=by
 refine Ev.body rfl Tryz.func16 rfl (by kernel_rfl)<|gS rfl rfl<|sU<|sN<|gS rfl rfl<|bE h fun x1 hx1 h=>cR (.ptr 144 0) [(144,.var (ac.rc x1))] (keep_New_ev hx1)<|sA rfl<|sN<|gS rfl rfl<|sM rfl<|bE h fun x2 hx2 h=>cR (.d (aw.pd x2.1)) [(144,.var (ac.rc x2.2))] (lS hx2)<|sM rfl<|bE h fun x3 hx3 h=>?_
 refine cR (.d (aB.pd x3.1)) [(144,.var (ac.rc x3.2))] (nw hx3)<|sB (.ptr 32 0) 32 (.var [r0,r0,r0,r0,r0,r0,r0,.nR,.nR,r0,r0,r0,r0,r0,r0,.nR,.nR,r0,r0,r0])<|sB (.ptr 48 0) 48 (.var [.nR])<|sH 32 (.var (aw.rc x2.1))<|sS 48 (.var [rM au.pd x3.1.aP])<|sN<|gS rfl rfl<|sV (.d (aw.pd x2.1))<|sV (.d (.agg [.lst (x3.1.aP.map au.pd)]))<|bE h fun x4 hx4 h=>cR (.tup [.d (aU.pd x4.1),rI x4.2]) [] (iC hx4)<|sM rfl<|sV (.d (aU.pd x4.1))<|sV (rI x4.2)<|sB (.ptr 64 0) 64 (.var zZ0) ?_
 refine sH 64 (.var (aU.rc x4.1))<|sA rfl<|sN<|gS rfl rfl<|bE h fun x5 hx5 h=>cD (jY hx5)<|sG (.d (ar.pd (ar.mk x5 2500 2500 2500 10 0)))<|sB (.ptr 96 0) 96 (.var [rS [],rS [],rS [],rS [],r0,r0,r0,r0,r0])<|sH 96 (.var (ap.rc x5++[rI 2500,rI 2500,rI 2500,rI 10,r0]))<|sN<|gS rfl rfl<|sV (.d (aw.pd x2.1))<|sV (.d (.agg [.lst (x3.1.aP.map au.pd)]))<|sV (.d (ar.pd (ar.mk x5 2500 2500 2500 10 0)))<|sG (.d (.lst ([(ar.mk x5 2500 2500 2500 10 0)].map ar.pd))) ?_
 refine bE h fun x6 hx6 h=>cR (.tup [.d (aU.pd x6.1),rI x6.2]) [] (iC hx6)<|sM rfl<|sV (.d (aU.pd x6.1))<|sV (rI x6.2)<|sB (.ptr 112 0) 112 (.var zZ0)<|sH 112 (.var (aU.rc x6.1))<|sA rfl<|sN<|WC.cI rfl rfl<|sM rfl<|sF h (fun h=>?_) fun h=>?_
 ·refine sM rfl<|sM rfl<|sV (rB (x6.2==(0:Int)))<|sF h (fun h=>?_) fun h=>?_
  ·refine sM rfl<|sV (.ptr 112 0)<|sL rfl<|sE (rI (x6.1.iI.length:Int)) (nT _ _)<|sV (rB ((x6.1.iI.length:Int)==(1:Int)))<|sF h (fun h=>?_) fun h=>?_
   ·refine sM rfl<|sV (.ptr 112 0)<|sL rfl<|bE h fun x10 hx10 h=>eG hx10 rfl<|sV (.d (ar.pd x10))<|sV (.d (ar.pd (ar.mk x5 2500 2500 2500 10 0)))<|WO.bin (eqE_66 x10 (ar.mk x5 2500 2500 2500 10 0)) rfl rfl rfl rfl rfl<|sF h (fun h=>?_) fun h=>?_
    ·refine sM rfl<|sV (.ptr 112 1)<|sV (.ptr 112 5)<|sL rfl<|sV (rB (x6.1.aK.aZ==(0:Int)))<|sF h (fun h=>?_) fun h=>?_
     ·refine sM rfl<|sV (.d (aw.pd x2.1))<|bE h fun x13 hx13 h=>cD (jn hx13)<|sV (rB (x13==(0:Int)))<|sV (rB (x13==(0:Int)))<|sA rfl ?_
      refine sN<|sO<|qR ?_
      cases oI h
      exact qG
     refine sM rfl<|k3<|sU<|sA rfl ?_
     refine sN<|sO<|qR ?_
     cases oI h
     exact qG
    refine sM rfl<|k3<|sK<|sU<|sM rfl<|k3<|sU<|sA rfl ?_
    refine sN<|sO<|qR ?_
    cases oI h
    exact qG
   refine sM rfl<|k3<|k3<|sU<|sM rfl<|k3<|sK<|sU<|sM rfl ?_
   refine k3<|sU<|sA rfl ?_
   refine sN<|sO<|qR ?_
   cases oI h
   exact qG
  refine sM rfl<|k3<|sK<|sU<|sM rfl<|k3<|k3<|sU<|sM rfl ?_
  refine k3<|sK<|sU<|sM rfl<|k3<|sU<|sA rfl ?_
  refine sN<|sO<|qR ?_
  cases oI h
  exact qG
 refine sM rfl<|sK<|sK<|sU<|sM rfl<|k3<|sK<|sU<|sM rfl<|k3<|sK ?_
 refine sK<|sK<|sU<|sM rfl<|k3<|sK<|sU<|sM rfl<|k3<|sU<|sA rfl ?_
 refine sN<|sO<|qR ?_
 cases oI h
 exact qG
theorem mT{a0:aw}{a1:aB}{a2:(List ar)}{r:ae×Int}(h:gu a0 a1 a2=some r):EvP prog av ext 17 [.d (aw.pd a0),.d (aB.pd a1),rM ar.pd a2] [] (.tup [.d (ae.pd r.1),rI r.2],[]):=by
 refine Ev.body rfl Tryz.func17 rfl (by kernel_rfl)<|gS rfl rfl<|sB (.ptr 48 0) 48 (.var (aw.rc a0))<|sB (.ptr 64 0) 64 (.var [rM au.pd a1.aP])<|sB (.ptr 96 0) 96 (.var zZ2)<|sV (r0)<|sN<|gS rfl rfl<|sV (.d (aw.pd a0))<|sV (.d (aB.pd a1))<|sM rfl<|bE h fun x1 hx1 h=>cR (.tup [.d (aI.pd x1.1),rI x1.2]) [] (kr hx1)<|sM rfl<|sV (.d (aI.pd x1.1)) ?_
 refine sV (rI x1.2)<|sB (.ptr 128 0) 128 (.var [.nR,.nR,.nR])<|sS 128 (.var (aI.rc x1.1))<|sA rfl<|sN<|qS<|gS rfl rfl<|sM rfl<|sF h (fun h=>?_) fun h=>?_
 ·refine sN<|cT<|gS rfl rfl<|sG (.agg zZ2)<|sM rfl<|sH 96 (.var zZ2)<|sA rfl<|sN<|qR ?_
  cases oI h
  exact qG
 refine sN<|cF<|qK<|gS rfl rfl<|sV (.d (aI.pd x1.1))<|sV (.d (aw.pd a0))<|bE h fun x3 hx3 h=>cR (.tup [.d (ae.pd x3.1),rI x3.2]) [] (jC hx3)<|sV (.d (ae.pd x3.1))<|sV (rI x3.2)<|sH 96 (.var (ae.rc x3.1))<|sA rfl<|sN<|qR ?_
 cases oI h
 exact qG
theorem ref24_All_ev{a0:ag}{r:(List aa)}(h:mJ a0=some r):EvP prog av ext 63 [.d (ag.pd a0)] [] (rM aa.pd r,[]):=by
 refine Ev.body rfl Tryz.func63 rfl (by kernel_rfl)<|gS rfl rfl<|sB (.ptr 16 0) 16 (.var (ag.rc a0))<|sV .nR<|sN<|gS rfl rfl<|sV .nR<|sN<|qS<|gS rfl rfl<|sV (.ptr 16 0)<|sV (.ptr 16 0)<|sL rfl<|sA rfl<|sN ?_
 refine bE h fun o26 ho26 h=>WC.block (WC.loop (WL.n4 ho26 (fun s R' B'=>hY prog 0 (A R' B') (av.at_ 63 0 3)=some (A [(1,.ptr 16 0),(3,.ref 688 0),(4,rI s.1)] [(16,.var (ag.rc a0)),(688,.arr 0 26 (s.2.map aa.pd))])) (fun o e R' B'=>e= .exit 0∧hY prog 0 (A R' B') (av.at_ 63 0 12)=some (A [(3,.ref 688 0)] [(688,.arr 0 26 (o.map aa.pd))])) rfl ?_ ?_))
 ·rintro⟨s1,s2⟩ R' B' q4 hI h
  refine qS<|gS rfl hI<|sM rfl<|sV (.ptr 16 3)<|sV (.ptr 16 3)<|sL rfl<|sF h (fun h=>?_) fun h=>?_
  ·refine sN<|cT<|qK<|qS<|qB<|gS rfl rfl<|sV (.ptr 16 0)<|sV (.ptr 16 1)<|sL rfl<|sA rfl<|sN<|bE h fun o24 ho24 h=>WC.block (WC.loop (WL.n4 ho24 (fun s R' B'=>hY prog 0 (A R' B') (av.at_ 63 0 6)=some (A [(1,.ptr 16 0),(3,.ref 688 0),(4,rI s.1),(5,rI s.2.1)] [(16,.var (ag.rc a0)),(688,.arr 0 26 (s.2.2.map aa.pd))])) (fun o e R' B'=>e= .exit 2∧hY prog 0 (A R' B') (av.at_ 63 0 4)=some (A [(1,.ptr 16 0),(3,.ref 688 0),(4,rI o.1)] [(16,.var (ag.rc a0)),(688,.arr 0 26 (o.2.map aa.pd))])) rfl ?_ ?_))
   ·rintro⟨s6,s7,s8⟩ R' B' q11 hI h
    refine qS<|gS rfl hI<|sM rfl<|sV (.ptr 16 3)<|sV (.ptr 16 4)<|sL rfl<|sF h (fun h=>?_) fun h=>?_
    ·refine sN<|cT<|qK<|qS<|qB<|gS rfl rfl<|sV (.ptr 16 0)<|sV (.ptr 16 2)<|sL rfl<|sA rfl<|sN<|bE h fun o22 ho22 h=>WC.block (WC.loop (WL.n4 ho22 (fun s R' B'=>hY prog 0 (A R' B') (av.at_ 63 0 9)=some (A [(1,.ptr 16 0),(3,.ref 688 0),(4,rI s6),(5,rI s7),(6,rI s.1)] [(16,.var (ag.rc a0)),(688,.arr 0 26 (s.2.map aa.pd))])) (fun o e R' B'=>e= .exit 4∧hY prog 0 (A R' B') (av.at_ 63 0 7)=some (A [(1,.ptr 16 0),(3,.ref 688 0),(4,rI o.1),(5,rI o.2.1)] [(16,.var (ag.rc a0)),(688,.arr 0 26 (o.2.2.map aa.pd))])) rfl ?_ ?_))
     ·rintro⟨s13,s14⟩ R' B' q18 hI h
      refine qS<|gS rfl hI<|sM rfl<|sV (.ptr 16 3)<|sV (.ptr 16 5)<|sL rfl<|sF h (fun h=>?_) fun h=>?_
      ·refine sN<|cT<|qK<|qS<|qB<|WC.region rfl rfl<|sM rfl<|sM rfl<|sM rfl<|sM rfl<|sV (.d (aa.pd (aa.mk s6 s7 s13)))<|sV (.d (.lst ([(aa.mk s6 s7 s13)].map aa.pd)))<|bE h fun x20 hx20 h=>aR hx20 (fun _=>rfl) rfl<|sA rfl ?_
       refine sN<|WC.region rfl rfl<|sM rfl<|sV (rI (rW (s13+(1:Int))))<|sA rfl<|sN ?_
       cases oI h
       exact⟨rfl,rfl⟩
      refine sN<|cF<|qX ?_
      cases oI h
      exact⟨nofun,rfl,rfl⟩
     intro e R' B' he hq
     obtain⟨rfl,hI⟩:=hq
     refine qE<|WC.region hI rfl<|sM rfl<|sV (rI (rW (o22.2.1+(1:Int))))<|sA rfl<|sN ?_
     cases oI h
     exact⟨rfl,rfl⟩
    refine sN<|cF<|qX ?_
    cases oI h
    exact⟨nofun,rfl,rfl⟩
   intro e R' B' he hq
   obtain⟨rfl,hI⟩:=hq
   refine qE<|WC.region hI rfl<|sM rfl<|sV (rI (rW (o24.1+(1:Int))))<|sA rfl<|sN ?_
   cases oI h
   exact⟨rfl,rfl⟩
  refine sN<|cF<|qX ?_
  cases oI h
  exact⟨nofun,rfl,rfl⟩
 intro e R' B' he hq
 obtain⟨rfl,hI⟩:=hq
 refine qE<|gS rfl hI<|sM rfl<|sA rfl<|sN<|qR ?_
 exact oI h▸qD
theorem ref26_One_ev{a0:aa}{r:ag}(h:ref26_One a0=some r):EvP prog av ext 125 [.d (aa.pd a0)] [] (.d (ag.pd r),[]):=by
 refine Ev.body rfl Tryz.func125 rfl (by kernel_rfl)<|gS rfl rfl<|sB (.ptr 16 0) 16 (.var (aa.rc a0))<|sB (.ptr 32 0) 32 (.var zZ4)<|sN<|gS rfl rfl<|sV (.d (aa.pd a0))<|sV (.d (aa.pd a0))<|sG (.d (ag.pd (ag.mk a0 a0)))<|sH 32 (.var (aa.rc a0++aa.rc a0))<|sN<|qR ?_
 cases oI h
 exact qG
theorem dy{a0:aa}{r:Bool}(h:eA a0=some r):EvP prog av ext 145 [.d (aa.pd a0)] [] (rB r,[]):=by
 refine Ev.body rfl Tryz.func145 rfl (by kernel_rfl)<|gS rfl rfl<|sB (.ptr 16 0) 16 (.var (aa.rc a0))<|sU<|sN<|gS rfl rfl<|sV (.ptr 16 0)<|sL rfl<|sF h (fun h=>?_) fun h=>?_
 ·refine sM rfl<|sV (.ptr 16 0)<|sL rfl<|sV (rB (decide (a0.fX<=(1048576:Int))))<|sF h (fun h=>?_) fun h=>?_
  ·refine sM rfl<|sV (.ptr 16 1)<|sL rfl<|sV (rB (decide (a0.fY>=(-1048576:Int))))<|sF h (fun h=>?_) fun h=>?_
   ·refine sM rfl<|sV (.ptr 16 1)<|sL rfl<|sV (rB (decide (a0.fY<=(1048576:Int))))<|sF h (fun h=>?_) fun h=>?_
    ·refine sM rfl<|sV (.ptr 16 2)<|sL rfl<|sV (rB (decide (a0.fZ>=(-16384:Int))))<|sF h (fun h=>?_) fun h=>?_
     ·refine sM rfl<|sV (.ptr 16 2)<|sL rfl<|sV (rB (decide (a0.fZ<=(1048576:Int))))<|sV (rB (decide (a0.fZ<=(1048576:Int))))<|sA rfl<|sN<|qR ?_
      exact oI h▸qD
     refine sM rfl<|k3<|sU<|sA rfl<|sN<|qR ?_
     exact oI h▸qD
    refine sM rfl<|k3<|sU<|sM rfl<|k3<|sU<|sA rfl<|sN<|qR ?_
    exact oI h▸qD
   refine sM rfl<|k3<|sU<|sM rfl<|k3<|sU<|sM rfl<|k3<|sU ?_
   refine sA rfl<|sN<|qR ?_
   exact oI h▸qD
  refine sM rfl<|k3<|sU<|sM rfl<|k3<|sU<|sM rfl<|k3<|sU ?_
  refine sM rfl<|k3<|sU<|sA rfl<|sN<|qR ?_
  exact oI h▸qD
 refine sM rfl<|k3<|sU<|sM rfl<|k3<|sU<|sM rfl<|k3<|sU ?_
 refine sM rfl<|k3<|sU<|sM rfl<|k3<|sU<|sA rfl<|sN<|qR ?_
 exact oI h▸qD
theorem b8{a0:ag}{r:Bool}(h:ct a0=some r):EvP prog av ext 144 [.d (ag.pd a0)] [] (rB r,[]):=by
 refine Ev.body rfl Tryz.func144 rfl (by kernel_rfl)<|gS rfl rfl<|sB (.ptr 16 0) 16 (.var (ag.rc a0))<|sU<|sN<|gS rfl rfl<|sV (.ptr 16 0)<|sV (.d (aa.pd a0.aF))<|bE h fun x1 hx1 h=>oz h (fun hb2 h=>?_) (fun hb2 h=>?_)
 ·refine WO.oM (v:=rB true) (u:=[]) rfl rfl (fun _=>rfl) rfl rfl rfl rfl rfl (dy hx1) rfl rfl (congrArg (fun b=>RV.d (.bool b)) hb2) rfl<|sM rfl<|sV (.ptr 16 3)<|sV (.d (aa.pd a0.az))<|bE h fun x3 hx3 h=>cD (dy hx3)<|sF h (fun h=>?_) fun h=>?_
  ·refine sM rfl<|sV (.ptr 16 0)<|sV (.ptr 16 0)<|sL rfl<|sV (.ptr 16 3)<|sV (.ptr 16 3)<|sL rfl<|sV (rB (decide (a0.aF.fX<=a0.az.fX)))<|sF h (fun h=>?_) fun h=>?_
   ·refine sM rfl<|sV (.ptr 16 0)<|sV (.ptr 16 1)<|sL rfl<|sV (.ptr 16 3)<|sV (.ptr 16 4)<|sL rfl<|sV (rB (decide (a0.aF.fY<=a0.az.fY)))<|sF h (fun h=>?_) fun h=>?_
    ·refine sM rfl<|sV (.ptr 16 0)<|sV (.ptr 16 2)<|sL rfl<|sV (.ptr 16 3)<|sV (.ptr 16 5)<|sL rfl<|sV (rB (decide (a0.aF.fZ<=a0.az.fZ)))<|sV (rB (decide (a0.aF.fZ<=a0.az.fZ)))<|sA rfl<|sN<|qR ?_
     exact oI h▸qD
    refine sM rfl<|k3<|k3<|sK<|sU<|sA rfl<|sN<|qR ?_
    exact oI h▸qD
   refine sM rfl<|k3<|k3<|sK<|sU<|sM rfl<|k3<|sK<|sK ?_
   refine sK<|sK<|sU<|sA rfl<|sN<|qR ?_
   exact oI h▸qD
  refine sM rfl<|k3<|k3<|sK<|sU<|sM rfl<|k3<|sK<|sK ?_
  refine sK<|sK<|sU<|sM rfl<|k3<|k3<|sK<|sU<|sA rfl<|sN<|qR ?_
  exact oI h▸qD
 refine WO.oM (v:=rB false) (u:=[]) rfl rfl (fun _=>rfl) rfl rfl rfl rfl rfl (dy hx1) rfl rfl (congrArg (fun b=>RV.d (.bool b)) hb2) rfl<|sM rfl<|k3<|sU<|sM rfl<|k3<|k3<|sK<|sU ?_
 refine sM rfl<|k3<|k3<|sK<|sU<|sM rfl<|k3<|sK<|sK ?_
 refine sK<|sK<|sU<|sA rfl<|sN<|qR ?_
 exact oI h▸qD
theorem eB{a0:aq}{r:Int}(h:dz a0=some r):EvP prog av ext 143 [.d (aq.pd a0)] [] (rI r,[]):=by
 refine Ev.body rfl Tryz.func143 rfl (by kernel_rfl)<|gS rfl rfl<|sB (.ptr 16 0) 16 (.var (aq.rc a0))<|sV (r0)<|sN<|qS<|gS rfl rfl<|sV (.ptr 16 0)<|sL rfl<|sF h (fun h=>?_) fun h=>?_
 ·refine sM rfl<|k3<|sT<|sM rfl<|k3<|k3<|sK<|sT<|sM rfl ?_
  refine k3<|sK<|sT<|sM rfl<|k3<|sK<|sT<|sN<|cT<|gS rfl rfl<|sV (rI 21) ?_
  refine sN<|qR ?_
  exact oI h▸qD
 refine sM rfl<|sV (.ptr 16 0)<|sL rfl<|sV (rB (decide (a0.aQ>(1048576:Int))))<|sF h (fun h=>?_) fun h=>?_
 ·refine sM rfl<|k3<|k3<|sK<|sT<|sM rfl<|k3<|sK<|sT ?_
  refine sM rfl<|k3<|sK<|sT<|sN<|cT<|gS rfl rfl<|sV (rI 21)<|sN<|qR ?_
  exact oI h▸qD
 refine sM rfl<|sV (.ptr 16 1)<|sL rfl<|sE (rI (a0.aF.length:Int)) (nT _ _)<|sV (.ptr 16 2)<|sL rfl<|sE (rI (a0.az.length:Int)) (nT _ _)<|sV (rB ((a0.aF.length:Int) != (a0.az.length:Int)))<|sF h (fun h=>?_) fun h=>?_
 ·refine sM rfl<|k3<|sK<|sT<|sM rfl<|k3<|sK<|sT<|sN<|cT<|gS rfl rfl ?_
  refine sV (rI 21)<|sN<|qR ?_
  exact oI h▸qD
 refine sM rfl<|sV (.ptr 16 1)<|sL rfl<|sE (rI (a0.aF.length:Int)) (nT _ _)<|sV (rB (decide ((a0.aF.length:Int)<(2:Int))))<|sF h (fun h=>?_) fun h=>?_
 ·refine sM rfl<|k3<|sK<|sT<|sN<|cT<|gS rfl rfl<|sV (rI 21)<|sN<|qR ?_
  exact oI h▸qD
 refine sM rfl<|sV (.ptr 16 1)<|sL rfl<|sE (rI (a0.aF.length:Int)) (nT _ _)<|sV (rB (decide ((a0.aF.length:Int)>(256:Int))))<|sF h (fun h=>?_) fun h=>?_
 ·refine sN<|cT<|gS rfl rfl<|sV (rI 21)<|sN<|qR ?_
  exact oI h▸qD
 refine sN<|cF<|qK<|qS<|gS rfl rfl<|sV (r0)<|sN<|bE h fun o24 ho24 h=>WC.block (WC.loop (WL.n4 ho24 (fun s R' B'=>hY prog 0 (A R' B') (av.at_ 143 0 4)=some (A [(1,.ptr 16 0),(3,rI s)] [(16,.var (aq.rc a0))])) (fun o e R' B'=>match o with| .inl y=>e= .exit 0∧hY prog 0 (A R' B') (av.at_ 143 0 10)=some (A [] [])| .inr r=>e= .ret∧finish prog (av.own 143) Tryz.f143 0 (A R' B')=some (rI r,[])) rfl ?_ ?_))
 ·rintro s6 R' B' q7 hI h
  refine qS<|gS rfl hI<|sM rfl<|sV (.ptr 16 1)<|sL rfl<|sE (rI (a0.aF.length:Int)) (nT _ _)<|sF h (fun h=>?_) fun h=>?_
  ·refine sN<|cT<|qK<|qS<|qB<|qS<|WC.cI rfl rfl<|sV (.ptr 16 1)<|sL rfl<|sM rfl<|bE h fun x9 hx9 h=>eG hx9 rfl<|sC rfl<|sF h (fun h=>?_) fun h=>?_
   ·refine sM rfl<|k3<|k3<|sT<|sM rfl<|k3<|sK<|sK<|sK ?_
    refine k3<|sK<|sK<|sT ?_
    refine sN<|sO<|cT<|gS rfl rfl<|sV (rI 21)<|sN<|qR ?_
    cases oI h
    exact⟨nofun,rfl,rfl⟩
   refine sM rfl<|sV (.ptr 16 2)<|sL rfl<|sM rfl<|bE h fun x11 hx11 h=>eG hx11 rfl<|sC rfl<|sV (rB (decide (x11>(1099511627776:Int))))<|sF h (fun h=>?_) fun h=>?_
   ·refine sM rfl<|k3<|k3<|k3<|sK<|sK<|sT ?_
    refine sN<|sO<|cT<|gS rfl rfl<|sV (rI 21)<|sN<|qR ?_
    cases oI h
    exact⟨nofun,rfl,rfl⟩
   refine sM rfl<|sV (.ptr 16 1)<|sL rfl<|sM rfl<|bE h fun x13 hx13 h=>eG hx13 rfl<|sC rfl<|sV (.ptr 16 2)<|sL rfl<|sM rfl<|bE h fun x14 hx14 h=>eG hx14 rfl<|sC rfl<|sV (rB (decide (x13>x14)))<|sF h (fun h=>?_) fun h=>?_
   ·refine sN<|sO<|cT<|gS rfl rfl<|sV (rI 21)<|sN<|qR ?_
    cases oI h
    exact⟨nofun,rfl,rfl⟩
   refine sN<|sO<|cF<|qK<|WC.cI rfl rfl<|sM rfl<|sF h (fun h=>?_) fun h=>?_
   ·refine sM rfl<|sV (.ptr 16 1)<|sL rfl<|sM rfl<|bE h fun x17 hx17 h=>eG hx17 rfl<|sC rfl<|sV (.ptr 16 1)<|sL rfl<|sM rfl<|sV (rI (rW (s6-(1:Int))))<|bE h fun x18 hx18 h=>eG hx18 rfl<|sC rfl<|sF h (fun h=>?_) fun h=>?_
    ·refine sM rfl<|k3<|k3<|k3<|k3<|sT<|sT ?_
     refine sN<|sO<|cT<|gS rfl rfl<|sV (rI 21)<|sN<|qR ?_
     cases oI h
     exact⟨nofun,rfl,rfl⟩
    refine sM rfl<|sV (.ptr 16 2)<|sL rfl<|sM rfl<|bE h fun x20 hx20 h=>eG hx20 rfl<|sC rfl<|sV (.ptr 16 2)<|sL rfl<|sM rfl<|sV (rI (rW (s6-(1:Int))))<|bE h fun x21 hx21 h=>eG hx21 rfl<|sC rfl<|sV (rB (decide (x20<x21))) ?_
    refine sV (rB (decide (x20<x21)))<|sF h (fun h=>?_) fun h=>?_
    ·refine sN<|sO<|cT<|gS rfl rfl<|sV (rI 21)<|sN<|qR ?_
     cases oI h
     exact⟨nofun,rfl,rfl⟩
    refine sN<|sO<|cF<|qK<|WC.region rfl rfl<|sM rfl<|sV (rI (rW (s6+(1:Int))))<|sA rfl<|sN ?_
    cases oI h
    exact⟨rfl,rfl⟩
   refine sM rfl<|k3<|k3<|k3<|k3<|sK<|sK ?_
   refine k3<|k3<|k3<|k3<|sU ?_
   refine sN<|sO<|cF<|qK<|WC.region rfl rfl<|sM rfl<|sV (rI (rW (s6+(1:Int))))<|sA rfl<|sN ?_
   cases oI h
   exact⟨rfl,rfl⟩
  refine sN<|cF<|qX ?_
  cases oI h
  exact⟨nofun,rfl,rfl⟩
 intro e R' B' he hq
 rcases o24 with y25|r26
 ·obtain⟨rfl,hI⟩:=hq
  refine qE<|gS rfl hI<|sV (r0)<|sN<|qR ?_
  exact oI h▸qD
 obtain⟨rfl,hf⟩:=hq
 cases oI h
 exact hf
theorem jE{a0:aC}{r:Bool}(h:e8 a0=some r):EvP prog av ext 247 [.d (aC.pd a0)] [] (rB r,[]):=by
 refine Ev.body rfl Tryz.func247 rfl (by kernel_rfl)<|gS rfl rfl<|sB (.ptr 16 0) 16 (.var (aC.rc a0))<|sU<|sN<|gS rfl rfl<|sV (.ptr 16 0)<|sV (.d (aa.pd a0.aM))<|bE h fun x1 hx1 h=>oz h (fun hb2 h=>?_) (fun hb2 h=>?_)
 ·refine WO.oM (v:=rB true) (u:=[]) rfl rfl (fun _=>rfl) rfl rfl rfl rfl rfl (dy hx1) rfl rfl (congrArg (fun b=>RV.d (.bool b)) hb2) rfl<|sM rfl<|sV (.ptr 16 3)<|sL rfl<|sV (rB (decide (a0.a8>=(0:Int))))<|sF h (fun h=>?_) fun h=>?_
  ·refine sM rfl<|sV (.ptr 16 3)<|sL rfl<|sV (.ptr 16 4)<|sL rfl<|sV (rB (decide (a0.a8<=a0.bF)))<|sF h (fun h=>?_) fun h=>?_
   ·refine sM rfl<|sV (.ptr 16 4)<|sL rfl<|sV (rB (decide (a0.bF<=(18014398509481984:Int))))<|sF h (fun h=>?_) fun h=>?_
    ·refine sM rfl<|sV (.ptr 16 5)<|sL rfl<|sV (rB (decide (a0.bt>=(1:Int))))<|sF h (fun h=>?_) fun h=>?_
     ·refine sM rfl<|sV (.ptr 16 5)<|sL rfl<|sV (rB (decide (a0.bt<=(100:Int))))<|sV (rB (decide (a0.bt<=(100:Int))))<|sA rfl<|sN<|qR ?_
      exact oI h▸qD
     refine sM rfl<|k3<|sU<|sA rfl<|sN<|qR ?_
     exact oI h▸qD
    refine sM rfl<|k3<|sU<|sM rfl<|k3<|sU<|sA rfl<|sN<|qR ?_
    exact oI h▸qD
   refine sM rfl<|k3<|sU<|sM rfl<|k3<|sU<|sM rfl<|k3<|sU ?_
   refine sA rfl<|sN<|qR ?_
   exact oI h▸qD
  refine sM rfl<|k3<|sK<|sK<|sU<|sM rfl<|k3<|sU<|sM rfl<|sK<|sK ?_
  refine sK<|sU<|sM rfl<|k3<|sU<|sA rfl<|sN<|qR ?_
  exact oI h▸qD
 refine WO.oM (v:=rB false) (u:=[]) rfl rfl (fun _=>rfl) rfl rfl rfl rfl rfl (dy hx1) rfl rfl (congrArg (fun b=>RV.d (.bool b)) hb2) rfl<|sM rfl<|k3<|sU<|sM rfl<|k3<|sK<|sK<|sU<|sM rfl<|sK ?_
 refine sK<|sK<|sU<|sM rfl<|k3<|sU<|sM rfl<|k3<|sU<|sA rfl<|sN ?_
 refine qR ?_
 exact oI h▸qD
theorem k9{a0:Int}{a1:Int}{a2:Int}{r:Int}(h:iS a0 a1 a2=some r):EvP prog av ext 227 [rI a0,rI a1,rI a2] [] (rI r,[]):=by
 refine Ev.body rfl Tryz.func227 rfl (by kernel_rfl)<|gS rfl rfl<|sV (r0)<|sN<|gS rfl rfl<|sM rfl<|sM rfl<|sV (rI (rW (a0-a2)))<|sM rfl<|sM rfl<|sV (rI (rW (a2-a1)))<|sV (rI (if(rW (a2-a1))>(if(rW (a0-a2))>(0:Int)then(rW (a0-a2))else(0:Int))then(rW (a2-a1))else(if(rW (a0-a2))>(0:Int)then(rW (a0-a2))else(0:Int))))<|sA rfl<|sN<|qR ?_
 exact oI h▸qD
theorem ej{a0:Int}{r:Int}(h:cO a0=some r):EvP prog av ext 226 [rI a0] [] (rI r,[]):=by
 refine Ev.body rfl Tryz.func226 rfl (by kernel_rfl)<|gS rfl rfl<|sV (r0)<|sN<|gS rfl rfl<|sM rfl<|sM rfl<|sV (rI (rW (a0*a0)))<|sA rfl<|sN<|qR ?_
 exact oI h▸qD
theorem ref24_Near_ev{a0:ag}{a1:aa}{r:Int}(h:lL a0 a1=some r):EvP prog av ext 147 [.d (ag.pd a0),.d (aa.pd a1)] [] (rI r,[]):=by
 refine Ev.body rfl Tryz.func147 rfl (by kernel_rfl)<|gS rfl rfl<|sB (.ptr 32 0) 32 (.var (ag.rc a0))<|sB (.ptr 48 0) 48 (.var (aa.rc a1))<|sV (r0)<|sN<|qS<|gS rfl rfl<|sV (.d (ag.pd a0))<|bE h fun x1 hx1 h=>cD (b8 hx1)<|sF h (fun h=>?_) fun h=>?_
 ·refine sM rfl<|k3<|sT<|sN<|cT<|gS rfl rfl<|sV (r0)<|sN<|qR ?_
  exact oI h▸qD
 refine sM rfl<|sV (.d (aa.pd a1))<|bE h fun x3 hx3 h=>cD (dy hx3)<|sV (rB (!x3))<|sF h (fun h=>?_) fun h=>?_
 ·refine sN<|cT<|gS rfl rfl<|sV (r0)<|sN<|qR ?_
  exact oI h▸qD
 refine sN<|cF<|qK<|WC.cI rfl rfl<|sV (.ptr 32 0)<|sV (.ptr 32 0)<|sL rfl<|sV (.ptr 32 3)<|sV (.ptr 32 3)<|sL rfl<|sV (.ptr 48 0)<|sL rfl<|bE h fun x5 hx5 h=>cD (k9 hx5)<|bE h fun x6 hx6 h=>?_
 refine cD (ej hx6)<|sV (.ptr 32 0)<|sV (.ptr 32 1)<|sL rfl<|sV (.ptr 32 3)<|sV (.ptr 32 4)<|sL rfl<|sV (.ptr 48 1)<|sL rfl<|bE h fun x7 hx7 h=>cD (k9 hx7)<|bE h fun x8 hx8 h=>cD (ej hx8)<|sV (rI (rW (x6+x8)))<|sV (.ptr 32 0) ?_
 refine sV (.ptr 32 2)<|sL rfl<|sV (.ptr 32 3)<|sV (.ptr 32 5)<|sL rfl<|sV (.ptr 48 2)<|sL rfl<|bE h fun x9 hx9 h=>cD (k9 hx9)<|bE h fun x10 hx10 h=>cD (ej hx10)<|sV (rI (rW ((rW (x6+x8))+x10)))<|sA rfl ?_
 refine sN<|sO<|qR ?_
 exact oI h▸qD
theorem lM{a0:Int}{a1:Int}{a2:Int}{r:Int}(h:jQ a0 a1 a2=some r):EvP prog av ext 228 [rI a0,rI a1,rI a2] [] (rI r,[]):=by
 refine Ev.body rfl Tryz.func228 rfl (by kernel_rfl)<|gS rfl rfl<|sV (r0)<|sN<|gS rfl rfl<|sM rfl<|sM rfl<|sV (rI (rW (a2-a0)))<|sM rfl<|sM rfl<|sV (rI (rW (a1-a2)))<|sV (rI (if(rW (a1-a2))>(rW (a2-a0))then(rW (a1-a2))else(rW (a2-a0))))<|sA rfl<|sN<|qR ?_
 exact oI h▸qD
theorem ref24_Far_ev{a0:ag}{a1:aa}{r:Int}(h:mK a0 a1=some r):EvP prog av ext 148 [.d (ag.pd a0),.d (aa.pd a1)] [] (rI r,[]):=by
 refine Ev.body rfl Tryz.func148 rfl (by kernel_rfl)<|gS rfl rfl<|sB (.ptr 32 0) 32 (.var (ag.rc a0))<|sB (.ptr 48 0) 48 (.var (aa.rc a1))<|sV (r0)<|sN<|qS<|gS rfl rfl<|sV (.d (ag.pd a0))<|bE h fun x1 hx1 h=>cD (b8 hx1)<|sF h (fun h=>?_) fun h=>?_
 ·refine sM rfl<|k3<|sT<|sN<|cT<|gS rfl rfl<|sV (r0)<|sN<|qR ?_
  exact oI h▸qD
 refine sM rfl<|sV (.d (aa.pd a1))<|bE h fun x3 hx3 h=>cD (dy hx3)<|sV (rB (!x3))<|sF h (fun h=>?_) fun h=>?_
 ·refine sN<|cT<|gS rfl rfl<|sV (r0)<|sN<|qR ?_
  exact oI h▸qD
 refine sN<|cF<|qK<|WC.cI rfl rfl<|sV (.ptr 32 0)<|sV (.ptr 32 0)<|sL rfl<|sV (.ptr 32 3)<|sV (.ptr 32 3)<|sL rfl<|sV (.ptr 48 0)<|sL rfl<|bE h fun x5 hx5 h=>cD (lM hx5)<|bE h fun x6 hx6 h=>?_
 refine cD (ej hx6)<|sV (.ptr 32 0)<|sV (.ptr 32 1)<|sL rfl<|sV (.ptr 32 3)<|sV (.ptr 32 4)<|sL rfl<|sV (.ptr 48 1)<|sL rfl<|bE h fun x7 hx7 h=>cD (lM hx7)<|bE h fun x8 hx8 h=>cD (ej hx8)<|sV (rI (rW (x6+x8)))<|sV (.ptr 32 0) ?_
 refine sV (.ptr 32 2)<|sL rfl<|sV (.ptr 32 3)<|sV (.ptr 32 5)<|sL rfl<|sV (.ptr 48 2)<|sL rfl<|bE h fun x9 hx9 h=>cD (lM hx9)<|bE h fun x10 hx10 h=>cD (ej hx10)<|sV (rI (rW ((rW (x6+x8))+x10)))<|sA rfl ?_
 refine sN<|sO<|qR ?_
 exact oI h▸qD
theorem mm{a0:Int}{r:Int}(h:jk a0=some r):EvP prog av ext 224 [rI a0] [] (rI r,[]):=by
 refine Ev.body rfl Tryz.func224 rfl (by kernel_rfl)<|gS rfl rfl<|sV (r0)<|sN<|gS rfl rfl<|sV (r0)<|sN<|qS<|gS rfl rfl<|sV (rI 2147483648)<|sN<|bE h fun o9 ho9 h=>WC.block (WC.loop (WL.n4 ho9 (fun s R' B'=>hY prog 0 (A R' B') (av.at_ 224 0 3)=some (A [(0,rI a0),(3,rI s.1),(4,rI s.2)] [])) (fun o e R' B'=>e= .exit 0∧hY prog 0 (A R' B') (av.at_ 224 0 8)=some (A [(3,rI o)] [])) rfl ?_ ?_))
 ·rintro⟨s1,s2⟩ R' B' q4 hI h
  refine qS<|gS rfl hI<|sM rfl<|sF h (fun h=>?_) fun h=>?_
  ·refine sN<|cT<|qK<|qS<|qB<|gS rfl rfl<|sM rfl<|sM rfl<|sV (rI (rW (s1+s2)))<|sA rfl<|sN<|gS rfl rfl<|sM rfl<|sF h (fun h=>?_) fun h=>?_
   ·refine sM rfl<|sM rfl<|sM rfl<|sV (rI (rW ((rW (s1+s2))*(rW (s1+s2)))))<|sM rfl<|sV (rB (decide ((rW ((rW (s1+s2))*(rW (s1+s2))))<=a0)))<|sF h (fun h=>?_) fun h=>?_
    ·refine sN<|cT<|WC.region rfl rfl<|sM rfl<|sA rfl<|sN<|WC.region rfl rfl<|sM rfl<|sV (rI (oj .i64 s2 (1:Int)))<|sA rfl<|sN ?_
     cases oI h
     exact⟨rfl,rfl⟩
    refine sN<|cF<|qK<|WC.region rfl rfl<|sM rfl<|sV (rI (oj .i64 s2 (1:Int)))<|sA rfl<|sN ?_
    cases oI h
    exact⟨rfl,rfl⟩
   refine sM rfl<|k3<|sK<|sK<|sU<|sN<|cF<|qK<|WC.region rfl rfl<|sM rfl<|sV (rI (oj .i64 s2 (1:Int)))<|sA rfl<|sN ?_
   cases oI h
   exact⟨rfl,rfl⟩
  refine sN<|cF<|qX ?_
  cases oI h
  exact⟨nofun,rfl,rfl⟩
 intro e R' B' he hq
 obtain⟨rfl,hI⟩:=hq
 refine qE<|gS rfl hI<|sM rfl<|sA rfl<|sN<|qR ?_
 exact oI h▸qD
theorem m6{a0:Int}{r:Int}(h:iR a0=some r):EvP prog av ext 221 [rI a0] [] (rI r,[]):=by
 refine Ev.body rfl Tryz.func221 rfl (by kernel_rfl)<|gS rfl rfl<|sV (r0)<|sN<|gS rfl rfl<|sM rfl<|bE h fun x1 hx1 h=>cD (mm hx1)<|sA rfl<|sN<|qS<|gS rfl rfl<|sM rfl<|sM rfl<|sM rfl ?_
 refine sV (rI (rW (x1*x1)))<|sF h (fun h=>?_) fun h=>?_
 ·refine sN<|cT<|gS rfl rfl<|sM rfl<|sV (rI (rW (x1+(1:Int))))<|sA rfl<|sN<|qR ?_
  exact oI h▸qD
 refine sN<|cF<|qK<|gS rfl rfl<|sM rfl<|sA rfl<|sN<|qR ?_
 exact oI h▸qD
theorem ref25_Reach_ev{a0:aq}{r:Int}(h:kI a0=some r):EvP prog av ext 222 [.d (aq.pd a0)] [] (rI r,[]):=by
 refine Ev.body rfl Tryz.func222 rfl (by kernel_rfl)<|gS rfl rfl<|sB (.ptr 16 0) 16 (.var (aq.rc a0))<|sV (r0)<|sN<|qS<|gS rfl rfl<|sV (.d (aq.pd a0))<|bE h fun x1 hx1 h=>cD (eB hx1)<|sF h (fun h=>?_) fun h=>?_
 ·refine sN<|cT<|gS rfl rfl<|sV (r0)<|sN<|qR ?_
  exact oI h▸qD
 refine sN<|cF<|qK<|gS rfl rfl<|sV (.ptr 16 0)<|sL rfl<|sV (.ptr 16 1)<|sL rfl<|sE (rI (a0.aF.length:Int)) (nT _ _)<|sV (rI (rW ((a0.aF.length:Int)-(1:Int))))<|sV (rI (rW (a0.aQ*(rW ((a0.aF.length:Int)-(1:Int))))))<|sA rfl<|sN<|qR ?_
 exact oI h▸qD
theorem ref25_Lower_ev{a0:aq}{a1:Int}{r:Int}(h:mo a0 a1=some r):EvP prog av ext 223 [.d (aq.pd a0),rI a1] [] (rI r,[]):=by
 refine Ev.body rfl Tryz.func223 rfl (by kernel_rfl)<|gS rfl rfl<|sB (.ptr 32 0) 32 (.var (aq.rc a0))<|sV (r0)<|sN<|WC.cI rfl rfl<|sV (.ptr 32 1)<|sL rfl<|sM rfl<|sV (.ptr 32 0)<|sL rfl<|bE h fun x1 hx1 h=>WO.ru hx1 rfl rfl rfl rfl rfl rfl<|bE h fun x2 hx2 h=>eG hx2 rfl ?_
 refine sC rfl<|sA rfl ?_
 refine sN<|sO<|qR ?_
 exact oI h▸qD
theorem ref25_Upper_ev{a0:aq}{a1:Int}{r:Int}(h:mp a0 a1=some r):EvP prog av ext 225 [.d (aq.pd a0),rI a1] [] (rI r,[]):=by
 refine Ev.body rfl Tryz.func225 rfl (by kernel_rfl)<|gS rfl rfl<|sB (.ptr 32 0) 32 (.var (aq.rc a0))<|sV (r0)<|sN<|WC.cI rfl rfl<|sV (.ptr 32 2)<|sL rfl<|sM rfl<|sV (.ptr 32 0)<|sL rfl<|sV (rI (rW (a1+a0.aQ)))<|sV (rI (rW ((rW (a1+a0.aQ))-(1:Int))))<|sV (.ptr 32 0)<|sL rfl ?_
 refine bE h fun x1 hx1 h=>WO.ru hx1 rfl rfl rfl rfl rfl rfl<|bE h fun x2 hx2 h=>eG hx2 rfl<|sC rfl<|sA rfl ?_
 refine sN<|sO<|qR ?_
 exact oI h▸qD
theorem ref25_Between_ev{a0:aq}{a1:Int}{a2:Int}{r:Int×Int×Int}(h:jd a0 a1 a2=some r):EvP prog av ext 146 [.d (aq.pd a0),rI a1,rI a2] [] (.tup [rI r.1,rI r.2.1,rI r.2.2],[]):=by
 refine Ev.body rfl Tryz.func146 rfl (by kernel_rfl)<|gS rfl rfl<|sB (.ptr 48 0) 48 (.var (aq.rc a0))<|sV (r0)<|sV (r0)<|sV (r0)<|sN<|qS<|gS rfl rfl<|sV (.d (aq.pd a0))<|bE h fun x1 hx1 h=>cD (eB hx1)<|sF h (fun h=>?_) fun h=>?_
 ·refine sN<|cT<|gS rfl rfl<|sV (r0)<|sV (r0)<|sV (rI 21)<|sN<|qR ?_
  exact oI h▸qD
 refine sN<|cF<|qK<|qS<|gS rfl rfl<|sM rfl<|sF h (fun h=>?_) fun h=>?_
 ·refine sM rfl<|k3<|sT<|sN<|cT<|gS rfl rfl<|sV (r0)<|sV (r0)<|sV (rI 2)<|sN<|qR ?_
  exact oI h▸qD
 refine sM rfl<|sM rfl<|sM rfl<|sV (rB (decide (a1>a2)))<|sF h (fun h=>?_) fun h=>?_
 ·refine sN<|cT<|gS rfl rfl<|sV (r0)<|sV (r0)<|sV (rI 2)<|sN<|qR ?_
  exact oI h▸qD
 refine sN<|cF<|qK<|qS<|WC.cI rfl rfl<|sM rfl<|bE h fun x5 hx5 h=>cD (m6 hx5)<|sV (.d (aq.pd a0))<|bE h fun x6 hx6 h=>cD (ref25_Reach_ev hx6)<|sF h (fun h=>?_) fun h=>?_
 ·refine sN<|sO<|cT<|gS rfl rfl<|sV (r0)<|sV (r0)<|sV (rI 22)<|sN<|qR ?_
  exact oI h▸qD
 refine sN<|sO<|cF<|qK<|WC.cI rfl rfl<|sV (.d (aq.pd a0))<|sM rfl<|bE h fun x8 hx8 h=>cD (mm hx8)<|bE h fun x9 hx9 h=>cD (ref25_Lower_ev hx9)<|sV (.d (aq.pd a0))<|sM rfl<|bE h fun x10 hx10 h=>cD (m6 hx10)<|bE h fun x11 hx11 h=>?_
 refine cD (ref25_Upper_ev hx11)<|sA rfl<|sA rfl<|sV (r0) ?_
 refine sN<|sO<|qR ?_
 exact oI h▸qD
theorem kJ{a0:aq}{a1:ag}{a2:aa}{r:Int×Int×Int}(h:e7 a0 a1 a2=some r):EvP prog av ext 77 [.d (aq.pd a0),.d (ag.pd a1),.d (aa.pd a2)] [] (.tup [rI r.1,rI r.2.1,rI r.2.2],[]):=by
 refine Ev.body rfl Tryz.func77 rfl (by kernel_rfl)<|gS rfl rfl<|sB (.ptr 48 0) 48 (.var (aq.rc a0))<|sB (.ptr 64 0) 64 (.var (ag.rc a1))<|sB (.ptr 80 0) 80 (.var (aa.rc a2))<|sV (r0)<|sV (r0)<|sV (r0)<|sN<|qS<|gS rfl rfl<|sV (.d (aq.pd a0))<|bE h fun x1 hx1 h=>cD (eB hx1)<|sF h (fun h=>?_) fun h=>?_
 ·refine sN<|cT<|gS rfl rfl<|sV (r0)<|sV (r0)<|sV (rI 21)<|sN<|qR ?_
  exact oI h▸qD
 refine sN<|cF<|qK<|qS<|gS rfl rfl<|sV (.d (ag.pd a1))<|bE h fun x3 hx3 h=>cD (b8 hx3)<|sF h (fun h=>?_) fun h=>?_
 ·refine sM rfl<|k3<|sT<|sN<|cT<|gS rfl rfl<|sV (r0)<|sV (r0)<|sV (rI 20)<|sN<|qR ?_
  exact oI h▸qD
 refine sM rfl<|sV (.d (aa.pd a2))<|bE h fun x5 hx5 h=>cD (dy hx5)<|sV (rB (!x5))<|sF h (fun h=>?_) fun h=>?_
 ·refine sN<|cT<|gS rfl rfl<|sV (r0)<|sV (r0)<|sV (rI 20)<|sN<|qR ?_
  exact oI h▸qD
 refine sN<|cF<|qK<|WC.cI rfl rfl<|sV (.d (aq.pd a0))<|sV (.d (ag.pd a1))<|sV (.d (aa.pd a2))<|bE h fun x7 hx7 h=>cD (ref24_Near_ev hx7)<|sV (.d (ag.pd a1))<|sV (.d (aa.pd a2))<|bE h fun x8 hx8 h=>cD (ref24_Far_ev hx8)<|bE h fun x9 hx9 h=>cR (.tup [rI x9.1,rI x9.2.1,rI x9.2.2]) [] (ref25_Between_ev hx9) ?_
 refine sV (rI x9.1)<|sV (rI x9.2.1)<|sV (rI x9.2.2)<|sA rfl<|sA rfl<|sA rfl ?_
 refine sN<|sO<|qR ?_
 exact oI h▸qD
theorem nO{a0:ae}{r:Int}(h:iy a0=some r):EvP prog av ext 203 [.d (ae.pd a0)] [] (rI r,[]):=by
 refine Ev.body rfl Tryz.func203 rfl (by kernel_rfl)<|gS rfl rfl<|sB (.ptr 16 0) 16 (.var (ae.rc a0))<|sV (r0)<|sN<|qS<|gS rfl rfl<|sV (.ptr 16 0)<|sV (.d (ag.pd a0.aG))<|bE h fun x1 hx1 h=>cD (b8 hx1)<|sF h (fun h=>?_) fun h=>?_
 ·refine sN<|cT<|gS rfl rfl<|sV (rI 20)<|sN<|qR ?_
  cases oI h
  exact qG
 refine sN<|cF<|qK<|qS<|gS rfl rfl<|sV (.ptr 16 6)<|sV (.d (aq.pd a0.aS))<|bE h fun x3 hx3 h=>cD (eB hx3)<|sF h (fun h=>?_) fun h=>?_
 ·refine sN<|cT<|gS rfl rfl<|sV (rI 21)<|sN<|qR ?_
  cases oI h
  exact qG
 refine sN<|cF<|qK<|qS<|gS rfl rfl<|sV (.ptr 16 9)<|sL rfl<|sE (rI (a0.aN.length:Int)) (nT _ _)<|sF h (fun h=>?_) fun h=>?_
 ·refine sN<|cT<|gS rfl rfl<|sV (rI 24)<|sN<|qR ?_
  cases oI h
  exact qG
 refine sN<|cF<|qK<|qS<|gS rfl rfl<|sV (.ptr 16 9)<|sL rfl<|sE (rI (a0.aN.length:Int)) (nT _ _)<|sF h (fun h=>?_) fun h=>?_
 ·refine sN<|cT<|gS rfl rfl<|sV (rI 8)<|sN<|qR ?_
  cases oI h
  exact qG
 refine sN<|cF<|qK<|qS<|gS rfl rfl<|sV (.ptr 16 10)<|sL rfl<|sF h (fun h=>?_) fun h=>?_
 ·refine sM rfl<|k3<|sT<|sN<|cT<|gS rfl rfl<|sV (rI 2)<|sN<|qR ?_
  cases oI h
  exact qG
 refine sM rfl<|sV (.ptr 16 10)<|sL rfl<|sV (rB (decide (a0.bN>(1099511627776:Int))))<|sF h (fun h=>?_) fun h=>?_
 ·refine sN<|cT<|gS rfl rfl<|sV (rI 2)<|sN<|qR ?_
  cases oI h
  exact qG
 refine sN<|cF<|qK<|qS<|gS rfl rfl<|sV (r0)<|sN<|bE h fun o19 ho19 h=>WC.block (WC.loop (WL.n4 ho19 (fun s R' B'=>hY prog 0 (A R' B') (av.at_ 203 0 12)=some (A [(1,.ptr 16 0),(3,rI s)] [(16,.var (ae.rc a0))])) (fun o e R' B'=>match o with| .inl y=>e= .exit 0∧hY prog 0 (A R' B') (av.at_ 203 0 19)=some (A [] [])| .inr r=>e= .ret∧finish prog (av.own 203) Tryz.f203 0 (A R' B')=some (rI r,[])) rfl ?_ ?_))
 ·rintro s9 R' B' q10 hI h
  refine qS<|gS rfl hI<|sM rfl<|sV (.ptr 16 9)<|sL rfl<|sE (rI (a0.aN.length:Int)) (nT _ _)<|sF h (fun h=>?_) fun h=>?_
  ·refine sN<|cT<|qK<|qS<|qB<|qS<|gS rfl rfl<|sV (.ptr 16 9)<|sL rfl<|sM rfl<|bE h fun x12 hx12 h=>eG hx12 rfl<|sV (.d (aC.pd x12))<|bE h fun x13 hx13 h=>cD (jE hx13) ?_
   refine sF h (fun h=>?_) fun h=>?_
   ·refine sN<|cT<|gS rfl rfl<|sV (rI 23)<|sN<|qR ?_
    cases oI h
    exact⟨nofun,rfl,rfl⟩
   refine sN<|cF<|qK<|WC.cI rfl rfl<|sV (.ptr 16 6)<|sV (.d (aq.pd a0.aS))<|sV (.ptr 16 0)<|sV (.d (ag.pd a0.aG))<|sV (.ptr 16 9)<|sL rfl<|sM rfl<|bE h fun x15 hx15 h=>eG hx15 rfl<|sV (.cptr [.int .i64 x15.aM.fX,.int .i64 x15.aM.fY,.int .i64 x15.aM.fZ,.int .i64 x15.a8,.int .i64 x15.bF,.int .i64 x15.bt])<|sV (.d (aa.pd x15.aM)) ?_
   refine bE h fun x16 hx16 h=>cR (.tup [rI x16.1,rI x16.2.1,rI x16.2.2]) [] (kJ hx16)<|sM rfl<|sV (rI x16.1)<|sV (rI x16.2.1)<|sV (rI x16.2.2)<|sA rfl<|sA rfl<|sA rfl ?_
   refine sN<|sO<|gS rfl rfl<|sM rfl<|sF h (fun h=>?_) fun h=>?_
   ·refine sN<|cT<|gS rfl rfl<|sM rfl<|sA rfl<|sN<|qR ?_
    cases oI h
    exact⟨nofun,rfl,rfl⟩
   refine sN<|cF<|qK<|WC.region rfl rfl<|sM rfl<|sV (rI (rW (s9+(1:Int))))<|sA rfl<|sN ?_
   cases oI h
   exact⟨rfl,rfl⟩
  refine sN<|cF<|qX ?_
  cases oI h
  exact⟨nofun,rfl,rfl⟩
 intro e R' B' he hq
 rcases o19 with y20|r21
 ·obtain⟨rfl,hI⟩:=hq
  refine qE<|gS rfl hI<|sV (r0)<|sN<|qR ?_
  exact oI h▸qD
 obtain⟨rfl,hf⟩:=hq
 cases oI h
 exact hf
theorem kH{a0:ag}{a1:aa}{r:Bool}(h:iw a0 a1=some r):EvP prog av ext 282 [.d (ag.pd a0),.d (aa.pd a1)] [] (rB r,[]):=by
 refine Ev.body rfl Tryz.func282 rfl (by kernel_rfl)<|gS rfl rfl<|sB (.ptr 32 0) 32 (.var (ag.rc a0))<|sB (.ptr 48 0) 48 (.var (aa.rc a1))<|sU<|sN<|gS rfl rfl<|sV (.d (ag.pd a0))<|bE h fun x1 hx1 h=>oz h (fun hb2 h=>?_) (fun hb2 h=>?_)
 ·refine WO.oM (v:=rB true) (u:=[]) rfl rfl (fun _=>rfl) rfl rfl rfl rfl rfl (b8 hx1) rfl rfl (congrArg (fun b=>RV.d (.bool b)) hb2) rfl<|sM rfl<|sV (.ptr 48 0)<|sL rfl<|sV (.ptr 32 0)<|sV (.ptr 32 0)<|sL rfl<|sV (rB (decide (a1.fX>=a0.aF.fX)))<|sF h (fun h=>?_) fun h=>?_
  ·refine sM rfl<|sV (.ptr 48 0)<|sL rfl<|sV (.ptr 32 3)<|sV (.ptr 32 3)<|sL rfl<|sV (rB (decide (a1.fX<=a0.az.fX)))<|sF h (fun h=>?_) fun h=>?_
   ·refine sM rfl<|sV (.ptr 48 1)<|sL rfl<|sV (.ptr 32 0)<|sV (.ptr 32 1)<|sL rfl<|sV (rB (decide (a1.fY>=a0.aF.fY)))<|sF h (fun h=>?_) fun h=>?_
    ·refine sM rfl<|sV (.ptr 48 1)<|sL rfl<|sV (.ptr 32 3)<|sV (.ptr 32 4)<|sL rfl<|sV (rB (decide (a1.fY<=a0.az.fY)))<|sF h (fun h=>?_) fun h=>?_
     ·refine sM rfl<|sV (.ptr 48 2)<|sL rfl<|sV (.ptr 32 0)<|sV (.ptr 32 2)<|sL rfl<|sV (rB (decide (a1.fZ>=a0.aF.fZ)))<|sF h (fun h=>?_) fun h=>?_
      ·refine sM rfl<|sV (.ptr 48 2)<|sL rfl<|sV (.ptr 32 3)<|sV (.ptr 32 5)<|sL rfl<|sV (rB (decide (a1.fZ<=a0.az.fZ)))<|sV (rB (decide (a1.fZ<=a0.az.fZ)))<|sA rfl<|sN<|qR ?_
       exact oI h▸qD
      refine sM rfl<|k3<|k3<|sU<|sA rfl<|sN<|qR ?_
      exact oI h▸qD
     refine sM rfl<|k3<|k3<|sU<|sM rfl<|k3<|sK<|sK<|sK ?_
     refine sU<|sA rfl<|sN<|qR ?_
     exact oI h▸qD
    refine sM rfl<|k3<|k3<|sU<|sM rfl<|k3<|sK<|sK<|sK ?_
    refine sU<|sM rfl<|k3<|k3<|sU<|sA rfl<|sN<|qR ?_
    exact oI h▸qD
   refine sM rfl<|k3<|k3<|sU<|sM rfl<|k3<|sK<|sK<|sK ?_
   refine sU<|sM rfl<|k3<|k3<|sU<|sM rfl<|k3<|sK<|sK ?_
   refine sK<|sU<|sA rfl<|sN<|qR ?_
   exact oI h▸qD
  refine sM rfl<|k3<|k3<|sU<|sM rfl<|k3<|sK<|sK<|sK ?_
  refine sU<|sM rfl<|k3<|k3<|sU<|sM rfl<|k3<|sK<|sK ?_
  refine sK<|sU<|sM rfl<|k3<|k3<|sU<|sA rfl<|sN<|qR ?_
  exact oI h▸qD
 refine WO.oM (v:=rB false) (u:=[]) rfl rfl (fun _=>rfl) rfl rfl rfl rfl rfl (b8 hx1) rfl rfl (congrArg (fun b=>RV.d (.bool b)) hb2) rfl<|sM rfl<|k3<|k3<|sU<|sM rfl<|k3<|sK<|sK ?_
 refine sK<|sU<|sM rfl<|k3<|k3<|sU<|sM rfl<|k3<|sK ?_
 refine sK<|sK<|sU<|sM rfl<|k3<|k3<|sU<|sM rfl<|sK<|sK<|sK ?_
 refine k3<|sU<|sA rfl<|sN<|qR ?_
 exact oI h▸qD
theorem ref24_Within_ev{a0:ag}{a1:ag}{r:Bool}(h:jJ a0 a1=some r):EvP prog av ext 204 [.d (ag.pd a0),.d (ag.pd a1)] [] (rB r,[]):=by
 refine Ev.body rfl Tryz.func204 rfl (by kernel_rfl)<|gS rfl rfl<|sB (.ptr 32 0) 32 (.var (ag.rc a0))<|sB (.ptr 48 0) 48 (.var (ag.rc a1))<|sU<|sN<|gS rfl rfl<|sV (.d (ag.pd a0))<|bE h fun x1 hx1 h=>oz h (fun hb2 h=>?_) (fun hb2 h=>?_)
 ·refine WO.oM (v:=rB true) (u:=[]) rfl rfl (fun _=>rfl) rfl rfl rfl rfl rfl (b8 hx1) rfl rfl (congrArg (fun b=>RV.d (.bool b)) hb2) rfl<|sM rfl<|sV (.d (ag.pd a1))<|sV (.ptr 32 0)<|sV (.d (aa.pd a0.aF))<|bE h fun x3 hx3 h=>cD (kH hx3)<|sF h (fun h=>?_) fun h=>?_
  ·refine sM rfl<|sV (.d (ag.pd a1))<|sV (.ptr 32 3)<|sV (.d (aa.pd a0.az))<|bE h fun x5 hx5 h=>cD (kH hx5)<|sV (rB x5)<|sA rfl<|sN<|qR ?_
   exact oI h▸qD
  refine sM rfl<|k3<|sK<|sU<|sA rfl<|sN<|qR ?_
  exact oI h▸qD
 refine WO.oM (v:=rB false) (u:=[]) rfl rfl (fun _=>rfl) rfl rfl rfl rfl rfl (b8 hx1) rfl rfl (congrArg (fun b=>RV.d (.bool b)) hb2) rfl<|sM rfl<|k3<|sK<|sU<|sM rfl<|k3<|sK<|sU<|sA rfl<|sN ?_
 refine qR ?_
 exact oI h▸qD
theorem ref26_Zone_ev{a0:aq}{a1:ag}{a2:aC}{r:al×Int}(h:kk a0 a1 a2=some r):EvP prog av ext 205 [.d (aq.pd a0),.d (ag.pd a1),.d (aC.pd a2)] [] (.tup [.d (al.pd r.1),rI r.2],[]):=by
 refine Ev.body rfl Tryz.func205 rfl (by kernel_rfl)<|gS rfl rfl<|sB (.ptr 48 0) 48 (.var (aq.rc a0))<|sB (.ptr 64 0) 64 (.var (ag.rc a1))<|sB (.ptr 80 0) 80 (.var (aC.rc a2))<|sB (.ptr 96 0) 96 (.var [r0,r0])<|sV (r0)<|sN<|qS<|gS rfl rfl<|sV (.d (aq.pd a0))<|bE h fun x1 hx1 h=>cD (eB hx1)<|sF h (fun h=>?_) fun h=>?_
 ·refine sN<|cT<|gS rfl rfl<|sV (.d (al.pd (al.mk 0 0)))<|sS 96 (.var [r0,r0])<|sV (rI 21)<|sN<|qR ?_
  exact oI h▸qD
 refine sN<|cF<|qK<|qS<|gS rfl rfl<|sV (.d (ag.pd a1))<|bE h fun x3 hx3 h=>cD (b8 hx3)<|sF h (fun h=>?_) fun h=>?_
 ·refine sN<|cT<|gS rfl rfl<|sV (.d (al.pd (al.mk 0 0)))<|sS 96 (.var [r0,r0])<|sV (rI 20)<|sN<|qR ?_
  exact oI h▸qD
 refine sN<|cF<|qK<|qS<|gS rfl rfl<|sV (.d (aC.pd a2))<|bE h fun x5 hx5 h=>cD (jE hx5)<|sF h (fun h=>?_) fun h=>?_
 ·refine sN<|cT<|gS rfl rfl<|sV (.d (al.pd (al.mk 0 0)))<|sS 96 (.var [r0,r0])<|sV (rI 23)<|sN<|qR ?_
  exact oI h▸qD
 refine sN<|cF<|qK<|gS rfl rfl<|sV (.d (aq.pd a0))<|sV (.d (ag.pd a1))<|sV (.ptr 80 0)<|sV (.d (aa.pd a2.aM))<|bE h fun x7 hx7 h=>cR (.tup [rI x7.1,rI x7.2.1,rI x7.2.2]) [] (kJ hx7)<|sM rfl<|sV (rI x7.1)<|sV (rI x7.2.1)<|sV (rI x7.2.2)<|sA rfl ?_
 refine sA rfl<|sA rfl<|sN<|qS<|gS rfl rfl<|sM rfl<|sF h (fun h=>?_) fun h=>?_
 ·refine sN<|cT<|gS rfl rfl<|sV (.d (al.pd (al.mk 0 0)))<|sM rfl<|sS 96 (.var [r0,r0])<|sA rfl<|sN<|qR ?_
  exact oI h▸qD
 refine sN<|cF<|qK<|gS rfl rfl<|sV (.ptr 80 3)<|sL rfl<|sM rfl<|sV (rI (rW (a2.a8-x7.2.1)))<|sV (.ptr 80 4)<|sL rfl<|sM rfl<|sV (rI (rW (a2.bF-x7.1)))<|sV (.d (al.pd (al.mk (rW (a2.a8-x7.2.1)) (rW (a2.bF-x7.1)))))<|sS 96 (.var [rI (rW (a2.a8-x7.2.1)),rI (rW (a2.bF-x7.1))])<|sV (r0) ?_
 refine sN<|qR ?_
 exact oI h▸qD
theorem ref27_Zones_ev{a0:ae}{a1:ag}{r:(List al)×Int}(h:kL a0 a1=some r):EvP prog av ext 124 [.d (ae.pd a0),.d (ag.pd a1)] [] (.tup [rM al.pd r.1,rI r.2],[]):=by
 refine Ev.body rfl Tryz.func124 rfl (by kernel_rfl)<|gS rfl rfl<|sB (.ptr 32 0) 32 (.var (ae.rc a0))<|sB (.ptr 48 0) 48 (.var (ag.rc a1))<|sV .nR<|sV (r0)<|sN<|qS<|gS rfl rfl<|sV (.d (ae.pd a0))<|bE h fun x1 hx1 h=>cD (nO hx1)<|sA rfl<|sN<|gS rfl rfl ?_
 refine sM rfl<|sF h (fun h=>?_) fun h=>?_
 ·refine sN<|cT<|gS rfl rfl<|sM rfl<|sV .nR<|sA rfl<|sN<|qR ?_
  cases oI h
  exact qG
 refine sN<|cF<|qK<|qS<|gS rfl rfl<|sV (.d (ag.pd a1))<|sV (.ptr 32 0)<|sV (.d (ag.pd a0.aG))<|bE h fun x3 hx3 h=>cD (ref24_Within_ev hx3)<|sF h (fun h=>?_) fun h=>?_
 ·refine sN<|cT<|gS rfl rfl<|sV .nR<|sV (rI 20)<|sN<|qR ?_
  cases oI h
  exact qG
 refine sN<|cF<|qK<|gS rfl rfl<|sV .nR<|sN<|qS<|gS rfl rfl<|sV (r0)<|sN<|bE h fun o14 ho14 h=>WC.block (WC.loop (WL.n4 ho14 (fun s R' B'=>hY prog 0 (A R' B') (av.at_ 124 0 8)=some (A [(2,.ptr 32 0),(3,.ptr 48 0),(7,.ref 688 0),(8,rI s.1)] [(32,.var (ae.rc a0)),(48,.var (ag.rc a1)),(688,.arr 0 206 (s.2.map al.pd))])) (fun o e R' B'=>e= .exit 0∧hY prog 0 (A R' B') (av.at_ 124 0 12)=some (A [(7,.ref 688 0)] [(688,.arr 0 206 (o.map al.pd))])) rfl ?_ ?_))
 ·rintro⟨s5,s6⟩ R' B' q8 hI h
  refine qS<|gS rfl hI<|sM rfl<|sV (.ptr 32 9)<|sL rfl<|sE (rI (a0.aN.length:Int)) (nT _ _)<|sF h (fun h=>?_) fun h=>?_
  ·refine sN<|cT<|qK<|qS<|qB<|WC.cI rfl rfl<|sV (.ptr 32 6)<|sV (.d (aq.pd a0.aS))<|sV (.d (ag.pd a1))<|sV (.ptr 32 9)<|sL rfl<|sM rfl<|bE h fun x10 hx10 h=>eG hx10 rfl<|sV (.d (aC.pd x10)) ?_
   refine bE h fun x11 hx11 h=>cR (.tup [.d (al.pd x11.1),rI x11.2]) [] (ref26_Zone_ev hx11)<|sM rfl<|sV (.d (al.pd x11.1))<|sV (rI x11.2)<|sB (.ptr 144 0) 144 (.var [r0,r0])<|sS 144 (.var [rI x11.1.aT,rI x11.1.fTo])<|sA rfl ?_
   refine sN<|sO<|WC.region rfl rfl<|sM rfl<|sV (.d (al.pd x11.1))<|sV (.d (.lst ([x11.1].map al.pd)))<|bE h fun x12 hx12 h=>aR hx12 (fun _=>rfl) rfl<|sA rfl<|sN<|WC.region rfl rfl<|sM rfl<|sV (rI (rW (s5+(1:Int))))<|sA rfl<|sN ?_
   cases oI h
   exact⟨rfl,rfl⟩
  refine sN<|cF<|qX ?_
  cases oI h
  exact⟨nofun,rfl,rfl⟩
 intro e R' B' he hq
 obtain⟨rfl,hI⟩:=hq
 refine qE<|gS rfl hI<|sM rfl<|sA rfl<|sV (r0)<|sN<|qR ?_
 exact oI h▸qD
theorem nN{a0:al}{a1:Int}{r:Int}(h:ix a0 a1=some r):EvP prog av ext 283 [.d (al.pd a0),rI a1] [] (rI r,[]):=by
 refine Ev.body rfl Tryz.func283 rfl (by kernel_rfl)<|gS rfl rfl<|sB (.ptr 32 0) 32 (.var [rI a0.aT,rI a0.fTo])<|sV (r0)<|sN<|gS rfl rfl<|sV (.ptr 32 0)<|sL rfl<|sM rfl<|sV (rI (rW (a0.aT-a1)))<|sM rfl<|sV (.ptr 32 1)<|sL rfl<|sV (rI (rW (a1-a0.fTo)))<|sV (rI (if(rW (a1-a0.fTo))>(if(rW (a0.aT-a1))>(0:Int)then(rW (a0.aT-a1))else(0:Int))then(rW (a1-a0.fTo))else(if(rW (a0.aT-a1))>(0:Int)then(rW (a0.aT-a1))else(0:Int)))) ?_
 refine sA rfl<|sN<|qR ?_
 exact oI h▸qD
theorem la{a0:ae}{a1:(List al)}{a2:Int}{r:Int}(h:iT a0 a1 a2=some r):EvP prog av ext 206 [.d (ae.pd a0),rM al.pd a1,rI a2] [] (rI r,[]):=by
 refine Ev.body rfl Tryz.func206 rfl (by kernel_rfl)<|gS rfl rfl<|sB (.ptr 48 0) 48 (.var (ae.rc a0))<|sV (r0)<|sN<|gS rfl rfl<|sV (r0)<|sN<|qS<|gS rfl rfl<|sV (r0)<|sN<|bE h fun o10 ho10 h=>WC.block (WC.loop (WL.n4 ho10 (fun s R' B'=>hY prog 0 (A R' B') (av.at_ 206 0 3)=some (A [(1,rM al.pd a1),(2,rI a2),(3,.ptr 48 0),(7,rI s.1),(8,rI s.2)] [(48,.var (ae.rc a0))])) (fun o e R' B'=>e= .exit 0∧hY prog 0 (A R' B') (av.at_ 206 0 6)=some (A [(7,rI o)] [])) rfl ?_ ?_))
 ·rintro⟨s1,s2⟩ R' B' q4 hI h
  refine qS<|gS rfl hI<|sM rfl<|sM rfl<|sE (rI (a1.length:Int)) (nT _ _)<|sF h (fun h=>?_) fun h=>?_
  ·refine sN<|cT<|qK<|qS<|qB<|WC.oW rfl rfl<|sM rfl<|sV (.ptr 48 9)<|sL rfl<|sM rfl<|bE h fun x6 hx6 h=>eG hx6 rfl<|sV (.cptr [.int .i64 x6.bt])<|sC rfl<|sV (.ptr 48 10) ?_
   refine sL rfl<|sM rfl<|sM rfl<|bE h fun x7 hx7 h=>eG hx7 rfl<|sV (.d (al.pd x7))<|sM rfl<|bE h fun x8 hx8 h=>cD (nN hx8)<|sV (rI (if x8<a0.bN then x8 else a0.bN))<|sV (rI (rW (x6.bt*(if x8<a0.bN then x8 else a0.bN))))<|sV (rI (rW (s1+(rW (x6.bt*(if x8<a0.bN then x8 else a0.bN))))))<|sA rfl ?_
   refine sN<|sO<|WC.region rfl rfl<|sM rfl<|sV (rI (rW (s2+(1:Int))))<|sA rfl<|sN ?_
   cases oI h
   exact⟨rfl,rfl⟩
  refine sN<|cF<|qX ?_
  cases oI h
  exact⟨nofun,rfl,rfl⟩
 intro e R' B' he hq
 obtain⟨rfl,hI⟩:=hq
 refine qE<|gS rfl hI<|sM rfl<|sA rfl<|sN<|qR ?_
 exact oI h▸qD
theorem ref27_Best_ev{a0:ae}{a1:(List al)}{r:Int×Int}(h:lN a0 a1=some r):EvP prog av ext 126 [.d (ae.pd a0),rM al.pd a1] [] (.tup [rI r.1,rI r.2],[]):=by
 refine Ev.body rfl Tryz.func126 rfl (by kernel_rfl)<|gS rfl rfl<|sB (.ptr 32 0) 32 (.var (ae.rc a0))<|sV (r0)<|sV (r0)<|sN<|WC.cI rfl rfl<|sM rfl<|bE h fun x1 hx1 h=>eG hx1 rfl<|sV (.cptr [.int .i64 x1.aT,.int .i64 x1.fTo])<|sC rfl<|sV (.d (ae.pd a0))<|sM rfl<|sM rfl ?_
 refine bE h fun x2 hx2 h=>eG hx2 rfl<|sV (.cptr [.int .i64 x2.aT,.int .i64 x2.fTo])<|sC rfl<|bE h fun x3 hx3 h=>cD (la hx3)<|sA rfl<|sA rfl ?_
 refine sN<|sO<|qS<|gS rfl rfl<|sV (r0)<|sN<|bE h fun o28 ho28 h=>WC.block (WC.loop (WL.n4 ho28 (fun s R' B'=>hY prog 0 (A R' B') (av.at_ 126 0 3)=some (A [(1,rM al.pd a1),(2,.ptr 32 0),(6,rI s.1),(7,rI s.2.1),(8,rI s.2.2)] [(32,.var (ae.rc a0))])) (fun o e R' B'=>e= .exit 0∧hY prog 0 (A R' B') (av.at_ 126 0 12)=some (A [(6,rI o.1),(7,rI o.2)] [])) rfl ?_ ?_))
 ·rintro⟨s4,s5,s6⟩ R' B' q9 hI h
  refine qS<|gS rfl hI<|sM rfl<|sM rfl<|sE (rI (a1.length:Int)) (nT _ _)<|sF h (fun h=>?_) fun h=>?_
  ·refine sN<|cT<|qK<|qS<|qB<|WC.cI rfl rfl<|sM rfl<|sM rfl<|bE h fun x11 hx11 h=>eG hx11 rfl<|sV (.cptr [.int .i64 x11.aT,.int .i64 x11.fTo])<|sC rfl<|sM rfl<|sM rfl<|bE h fun x12 hx12 h=>?_
   refine eG hx12 rfl<|sV (.cptr [.int .i64 x12.fTo])<|sC rfl<|sV (.d (.lst ([x11.aT,x12.fTo].map (PD.int .i64))))<|sV (rI 2)<|sV (r0) ?_
   refine sN<|sO<|WC.block (WC.loop ?_)
   refine WL.round<|WC.oq (R0:=[(1,rM al.pd a1),(2,.ptr 32 0),(6,rI s4),(7,rI s5),(8,rI s6),(39,.d (.lst ([x11.aT,x12.fTo].map (PD.int .i64)))),(40,rI 2),(41,r0)]) (B0:=[(32,.var (ae.rc a0))]) rfl rfl<|sT<|sN<|qS<|cT<|qK<|WC.join (α:=Int×Int) (fun x R' B'=>hY prog 0 (A R' B') (av.at_ 126 0 11)=some (A [(1,rM al.pd a1),(2,.ptr 32 0),(6,rI x.1),(7,rI x.2),(8,rI s6),(39,.d (.lst ([x11.aT,x12.fTo].map (PD.int .i64)))),(40,rI 2),(41,r0)] [(32,.var (ae.rc a0))])) (fun x=>d6 a0 a1 x12 s6 x.1 x.2=some q9) ?_ ?_
   ·refine qB<|gS rfl rfl<|sV (.cptr [.int .i64 x11.aT])<|sC rfl<|sA rfl<|sN<|gS rfl rfl<|sV (.d (ae.pd a0))<|sM rfl<|sM rfl<|bE h fun x23 hx23 h=>cD (la hx23)<|sA rfl<|sN<|gS rfl rfl ?_
    refine sM rfl<|sM rfl<|sF h (fun h=>?_) fun h=>?_
    ·refine sM rfl<|k3<|k3<|sK<|sK<|sT<|sN<|cT<|WC.region rfl rfl<|sM rfl<|sM rfl ?_
     exact sA rfl<|sA rfl<|sN<|⟨(x11.aT,x23),rfl,h⟩
    refine sM rfl<|sM rfl<|sM rfl<|sF h (fun h=>?_) fun h=>?_
    ·refine sM rfl<|sM rfl<|sM rfl<|sV (rB (decide (x11.aT<s4)))<|sV (rB (decide (x11.aT<s4)))<|sF h (fun h=>?_) fun h=>?_
     ·exact sN<|cT<|WC.region rfl rfl<|sM rfl<|sM rfl<|sA rfl<|sA rfl<|sN<|⟨(x11.aT,x23),rfl,h⟩
     exact sN<|cF<|qK<|⟨(s4,s5),rfl,h⟩
    exact sM rfl<|k3<|sU<|sU<|sN<|cF<|qK<|⟨(s4,s5),rfl,h⟩
   rintro⟨j13,j14⟩ R' B' hI h
   refine WC.region hI rfl<|sV (rI 1)<|sM rfl<|sN<|WL.round<|WC.oq (R0:=[(1,rM al.pd a1),(2,.ptr 32 0),(6,rI j13),(7,rI j14),(8,rI s6),(39,.d (.lst ([x11.aT,x12.fTo].map (PD.int .i64)))),(40,rI 2),(41,rI 1)]) (B0:=[(32,.var (ae.rc a0))]) rfl rfl<|sT<|sN<|qS<|cT<|qK<|WC.join (α:=Int×Int) (fun x R' B'=>hY prog 0 (A R' B') (av.at_ 126 0 11)=some (A [(1,rM al.pd a1),(2,.ptr 32 0),(6,rI x.1),(7,rI x.2),(8,rI s6),(39,.d (.lst ([x11.aT,x12.fTo].map (PD.int .i64)))),(40,rI 2),(41,rI 1)] [(32,.var (ae.rc a0))])) (fun x=>d5 s6 x.1 x.2=some q9) ?_ ?_
   ·refine qB<|gS rfl rfl<|sV (.cptr [.int .i64 x12.fTo])<|sC rfl<|sA rfl<|sN<|gS rfl rfl<|sV (.d (ae.pd a0))<|sM rfl<|sM rfl<|bE h fun x18 hx18 h=>cD (la hx18)<|sA rfl<|sN<|gS rfl rfl ?_
    refine sM rfl<|sM rfl<|sF h (fun h=>?_) fun h=>?_
    ·refine sM rfl<|k3<|k3<|sK<|sK<|sT<|sN<|cT<|WC.region rfl rfl<|sM rfl<|sM rfl ?_
     exact sA rfl<|sA rfl<|sN<|⟨(x12.fTo,x18),rfl,h⟩
    refine sM rfl<|sM rfl<|sM rfl<|sF h (fun h=>?_) fun h=>?_
    ·refine sM rfl<|sM rfl<|sM rfl<|sV (rB (decide (x12.fTo<j13)))<|sV (rB (decide (x12.fTo<j13)))<|sF h (fun h=>?_) fun h=>?_
     ·exact sN<|cT<|WC.region rfl rfl<|sM rfl<|sM rfl<|sA rfl<|sA rfl<|sN<|⟨(x12.fTo,x18),rfl,h⟩
     exact sN<|cF<|qK<|⟨(j13,j14),rfl,h⟩
    exact sM rfl<|k3<|sU<|sU<|sN<|cF<|qK<|⟨(j13,j14),rfl,h⟩
   rintro⟨j15,j16⟩ R' B' hI h
   refine WC.region hI rfl<|sV (rI 2)<|sM rfl<|sN<|WL.round<|WC.oq (R0:=[(1,rM al.pd a1),(2,.ptr 32 0),(6,rI j15),(7,rI j16),(8,rI s6),(39,.d (.lst ([x11.aT,x12.fTo].map (PD.int .i64)))),(40,rI 2),(41,rI 2)]) (B0:=[(32,.var (ae.rc a0))]) rfl rfl<|sU<|sN<|qS<|cF<|qX<|qE<|WC.region rfl rfl<|sM rfl<|sV (rI (rW (s6+(1:Int)))) ?_
   refine sA rfl<|sN ?_
   cases oI h
   exact⟨rfl,rfl⟩
  refine sN<|cF<|qX ?_
  cases oI h
  exact⟨nofun,rfl,rfl⟩
 intro e R' B' he hq
 obtain⟨rfl,hI⟩:=hq
 refine qE<|gS rfl hI<|sM rfl<|sM rfl<|sA rfl<|sA rfl<|sN<|qR ?_
 exact oI h▸qD
theorem ref27_At_ev{a0:ae}{a1:aa}{r:Int×Int×Int}(h:nM a0 a1=some r):EvP prog av ext 64 [.d (ae.pd a0),.d (aa.pd a1)] [] (.tup [rI r.1,rI r.2.1,rI r.2.2],[]):=by
 refine Ev.body rfl Tryz.func64 rfl (by kernel_rfl)<|gS rfl rfl<|sB (.ptr 32 0) 32 (.var (ae.rc a0))<|sB (.ptr 48 0) 48 (.var (aa.rc a1))<|sV (r0)<|sV (r0)<|sV (r0)<|sN<|WC.cI rfl rfl<|sV (.d (ae.pd a0))<|sV (.d (aa.pd a1))<|bE h fun x1 hx1 h=>cD (ref26_One_ev hx1)<|bE h fun x2 hx2 h=>cR (.tup [rM al.pd x2.1,rI x2.2]) [] (ref27_Zones_ev hx2) ?_
 refine sM rfl<|sV (rM al.pd x2.1)<|sV (rI x2.2)<|sA rfl<|sA rfl ?_
 refine sN<|sO<|qS<|gS rfl rfl<|sM rfl<|sF h (fun h=>?_) fun h=>?_
 ·refine sN<|cT<|gS rfl rfl<|sM rfl<|sV (r0)<|sV (r0)<|sA rfl<|sN<|qR ?_
  cases oI h
  exact qG
 refine sN<|cF<|qK<|gS rfl rfl<|sV (.d (ae.pd a0))<|sM rfl<|bE h fun x4 hx4 h=>cR (.tup [rI x4.1,rI x4.2]) [] (ref27_Best_ev hx4)<|sM rfl<|sV (rI x4.1)<|sV (rI x4.2)<|sA rfl<|sA rfl<|sN<|gS rfl rfl ?_
 refine sM rfl<|sM rfl<|sA rfl<|sA rfl<|sV (r0)<|sN<|qR ?_
 cases oI h
 exact qG
theorem ref27_Least_ev{a0:ae}{r:Int}(h:kK a0=some r):EvP prog av ext 19 [.d (ae.pd a0)] [] (rI r,[]):=by
 refine Ev.body rfl Tryz.func19 rfl (by kernel_rfl)<|gS rfl rfl<|sB (.ptr 16 0) 16 (.var (ae.rc a0))<|sV (r0)<|sN<|gS rfl rfl<|sV (rI (-1))<|sN<|qS<|gS rfl rfl<|sV (.ptr 16 0)<|sV (.d (ag.pd a0.aG))<|bE h fun x1 hx1 h=>cD (ref24_All_ev hx1)<|sE (rI (x1.length:Int)) (nT _ _) ?_
 refine sV (r0)<|sN<|bE h fun o12 ho12 h=>WC.block (WC.loop (WL.n4 ho12 (fun s R' B'=>hY prog 0 (A R' B') (av.at_ 19 0 3)=some (A [(1,.ptr 16 0),(3,rI s.1),(11,rM aa.pd x1),(12,rI (x1.length:Int)),(13,rI s.2)] [(16,.var (ae.rc a0))])) (fun o e R' B'=>e= .exit 0∧hY prog 0 (A R' B') (av.at_ 19 0 9)=some (A [(3,rI o)] [])) rfl ?_ ?_))
 ·rintro⟨s2,s3⟩ R' B' q5 hI h
  refine gS rfl hI<|sF h (fun h=>?_) fun h=>?_
  ·refine sN<|qS<|cT<|qK<|qS<|qB<|gS rfl rfl<|bE h fun x7 hx7 h=>eG hx7 rfl<|sV (.d (aa.pd x7))<|sB (.ptr 80 0) 80 (.var [r0,r0,r0])<|sS 80 (.var (aa.rc x7))<|sN<|gS rfl rfl<|sV (.d (ae.pd a0)) ?_
   refine sV (.d (aa.pd x7))<|bE h fun x8 hx8 h=>cR (.tup [rI x8.1,rI x8.2.1,rI x8.2.2]) [] (ref27_At_ev hx8)<|sM rfl<|sV (rI x8.1)<|sV (rI x8.2.1)<|sV (rI x8.2.2)<|sA rfl<|sA rfl<|sA rfl<|sN<|gS rfl rfl<|sM rfl<|sF h (fun h=>?_) fun h=>?_
   ·refine sM rfl<|k3<|sT<|sN<|cT<|WC.region rfl rfl<|sM rfl<|sA rfl<|sN<|WC.region rfl rfl<|sV (rI (rW (s3+(1:Int))))<|sM rfl<|sN ?_
    cases oI h
    exact⟨rfl,rfl⟩
   refine sM rfl<|sM rfl<|sM rfl<|sV (rB (decide (x8.2.1<s2)))<|sF h (fun h=>?_) fun h=>?_
   ·refine sN<|cT<|WC.region rfl rfl<|sM rfl<|sA rfl<|sN<|WC.region rfl rfl<|sV (rI (rW (s3+(1:Int))))<|sM rfl<|sN ?_
    cases oI h
    exact⟨rfl,rfl⟩
   refine sN<|cF<|qK<|WC.region rfl rfl<|sV (rI (rW (s3+(1:Int))))<|sM rfl<|sN ?_
   cases oI h
   exact⟨rfl,rfl⟩
  refine sN<|qS<|cF<|qX ?_
  cases oI h
  exact⟨nofun,rfl,rfl⟩
 intro e R' B' he hq
 obtain⟨rfl,hI⟩:=hq
 refine qE<|gS rfl hI<|sM rfl<|sA rfl<|sN<|qR ?_
 exact oI h▸qD
theorem lG{a0:(List Int)}{r:Bool}(h:gz a0=some r):EvP prog av ext 3 [rL a0] [] (rB r,[]):=by
 refine Ev.body rfl Tryz.func3 rfl (by kernel_rfl)<|gS rfl rfl<|sU<|sN<|gS rfl rfl<|sM rfl<|bE h fun x1 hx1 h=>cR (.ptr 256 0) [(256,.var (ac.rc x1))] (keep_New_ev hx1)<|sA rfl<|sN<|gS rfl rfl<|sM rfl<|bE h fun x2 hx2 h=>cR (.d (aw.pd x2.1)) [(256,.var (ac.rc x2.2))] (lS hx2)<|sM rfl ?_
 refine bE h fun x3 hx3 h=>cR (.d (aB.pd x3.1)) [(256,.var (ac.rc x3.2))] (nw hx3)<|sB (.ptr 64 0) 64 (.var [r0,r0,r0,r0,r0,r0,r0,.nR,.nR,r0,r0,r0,r0,r0,r0,.nR,.nR,r0,r0,r0])<|sB (.ptr 80 0) 80 (.var [.nR])<|sH 64 (.var (aw.rc x2.1))<|sS 80 (.var [rM au.pd x3.1.aP])<|sN<|gS rfl rfl<|sM rfl<|sV (.d (aw.pd x2.1))<|sV (.d (.agg [.lst (x3.1.aP.map au.pd)]))<|bE h fun x4 hx4 h=>cR (rM ar.pd x4.1) [(256,.var (ac.rc x4.2))] (Src_Picks_ev hx4)<|sA rfl<|sN ?_
 refine gS rfl rfl<|sV (.d (aw.pd x2.1))<|sV (.d (.agg [.lst (x3.1.aP.map au.pd)]))<|sM rfl<|bE h fun x5 hx5 h=>cR (.tup [.d (aU.pd x5.1),rI x5.2]) [] (iC hx5)<|sM rfl<|sV (.d (aU.pd x5.1))<|sV (rI x5.2)<|sB (.ptr 112 0) 112 (.var zZ0)<|sH 112 (.var (aU.rc x5.1))<|sA rfl<|sN<|qS<|gS rfl rfl ?_
 refine sM rfl<|sF h (fun h=>?_) fun h=>?_
 ·refine sN<|cT<|gS rfl rfl<|sM rfl<|sF h (fun h=>?_) fun h=>?_
  ·refine sM rfl<|bE h fun x8 hx8 h=>cD (jZ hx8)<|sV (rB x8)<|sA rfl<|sN<|qR ?_
   cases oI h
   exact qG
  refine sM rfl<|sK<|sU<|sA rfl<|sN<|qR ?_
  cases oI h
  exact qG
 refine sN<|cF<|qK<|gS rfl rfl<|sV (.d (aw.pd x2.1))<|sV (.d (.agg [.lst (x3.1.aP.map au.pd)]))<|sM rfl<|bE h fun x9 hx9 h=>cR (.tup [.d (ae.pd x9.1),rI x9.2]) [] (mT hx9)<|sM rfl<|sV (.d (ae.pd x9.1))<|sV (rI x9.2)<|sB (.ptr 144 0) 144 (.var zZ2)<|sH 144 (.var (ae.rc x9.1))<|sA rfl ?_
 refine sN<|gS rfl rfl<|sV (.d (ae.pd x9.1))<|sV (.ptr 112 1)<|sV (.ptr 112 1)<|sV (.d (aa.pd x5.1.aK.bp))<|bE h fun x10 hx10 h=>cR (.tup [rI x10.1,rI x10.2.1,rI x10.2.2]) [] (nH hx10)<|sM rfl<|sV (rI x10.1)<|sV (rI x10.2.1)<|sV (rI x10.2.2)<|sA rfl<|sA rfl<|sA rfl ?_
 refine sN<|gS rfl rfl<|sV (.d (ae.pd x9.1))<|bE h fun x11 hx11 h=>cD (ref27_Least_ev hx11)<|sA rfl<|sN<|gS rfl rfl<|sM rfl<|sF h (fun h=>?_) fun h=>?_
 ·refine sM rfl<|sM rfl<|sV (rB (x10.2.2==(0:Int)))<|sF h (fun h=>?_) fun h=>?_
  ·refine sM rfl<|sM rfl<|sV (.ptr 112 1)<|sV (.ptr 112 4)<|sL rfl<|sV (rB (x10.1==x5.1.aK.bS))<|sF h (fun h=>?_) fun h=>?_
   ·refine sM rfl<|sM rfl<|sV (.ptr 112 1)<|sV (.ptr 112 5)<|sL rfl<|sV (rB (x10.2.1==x5.1.aK.aZ))<|sF h (fun h=>?_) fun h=>?_
    ·refine sM rfl<|sM rfl<|sM rfl<|sV (rI (rW (x10.2.1-x11)))<|sV (.ptr 64 19)<|sL rfl<|sV (rB (decide ((rW (x10.2.1-x11))<=x2.1.bJ)))<|sF h (fun h=>?_) fun h=>?_
     ·refine sM rfl<|sV (.ptr 112 1)<|sV (.ptr 112 6)<|sL rfl<|sM rfl<|sV (rB (decide (x5.1.aK.iH<=x11)))<|sF h (fun h=>?_) fun h=>?_
      ·refine sM rfl<|sV (.ptr 112 15)<|sL rfl<|sV (rB (decide (x5.1.kU>=(0:Int))))<|sF h (fun h=>?_) fun h=>?_
       ·refine sM rfl<|sV (.ptr 112 15)<|sL rfl<|sV (.ptr 112 0)<|sL rfl<|sE (rI (x5.1.iI.length:Int)) (nT _ _)<|sV (rB (decide (x5.1.kU<=(x5.1.iI.length:Int))))<|sF h (fun h=>?_) fun h=>?_
        ·refine sM rfl<|sV (.ptr 112 15)<|sL rfl<|sF h (fun h=>?_) fun h=>?_
         ·refine sM rfl<|k3<|sK<|sT<|sT<|sM rfl<|bE h fun x21 hx21 h=>cD (jZ hx21)<|sV (rB x21)<|sA rfl<|sN<|qR ?_
          cases oI h
          exact qG
         refine sM rfl<|sV (.ptr 112 13)<|sV (.d (ak.pd x5.1.dX))<|sV (.d (ak.pd (ak.mk 0 0)))<|WO.bin (eqE_47 x5.1.dX (ak.mk 0 0)) rfl rfl rfl rfl rfl<|sV (rB ((x5.1.dX.aF==0)&&((x5.1.dX.az==0)&&true)))<|sF h (fun h=>?_) fun h=>?_
         ·refine sM rfl<|bE h fun x23 hx23 h=>cD (jZ hx23)<|sV (rB x23)<|sA rfl<|sN<|qR ?_
          cases oI h
          exact qG
         refine sM rfl<|sK<|sU<|sA rfl<|sN<|qR ?_
         cases oI h
         exact qG
        refine sM rfl<|k3<|k3<|k3<|sU<|sM rfl<|sK<|sU<|sA rfl ?_
        refine sN<|qR ?_
        cases oI h
        exact qG
       refine sM rfl<|k3<|k3<|sU<|sM rfl<|k3<|sK<|sK<|sK ?_
       refine k3<|sU<|sM rfl<|sK<|sU<|sA rfl<|sN<|qR ?_
       cases oI h
       exact qG
      refine sM rfl<|k3<|sU<|sM rfl<|k3<|k3<|sU<|sM rfl<|sK ?_
      refine k3<|k3<|sK<|sK<|sU<|sM rfl<|sK<|sU<|sA rfl<|sN<|qR ?_
      cases oI h
      exact qG
     refine sM rfl<|k3<|sK<|sK<|sU<|sM rfl<|k3<|sU<|sM rfl<|sK<|sK ?_
     refine k3<|sK<|sU<|sM rfl<|k3<|k3<|sK<|sK<|sK ?_
     refine sU<|sM rfl<|sK<|sU<|sA rfl<|sN<|qR ?_
     cases oI h
     exact qG
    refine sM rfl<|k3<|k3<|sU<|sM rfl<|k3<|sK<|sK<|sU ?_
    refine sM rfl<|k3<|sU<|sM rfl<|k3<|k3<|sU<|sM rfl<|sK ?_
    refine k3<|k3<|sK<|sK<|sU<|sM rfl<|sK<|sU<|sA rfl<|sN<|qR ?_
    cases oI h
    exact qG
   refine sM rfl<|k3<|sK<|sK<|sU<|sM rfl<|k3<|k3<|sU ?_
   refine sM rfl<|k3<|sK<|sK<|sU<|sM rfl<|k3<|sU<|sM rfl<|sK<|sK ?_
   refine k3<|sK<|sU<|sM rfl<|k3<|k3<|sK<|sK<|sK ?_
   refine sU<|sM rfl<|sK<|sU<|sA rfl<|sN<|qR ?_
   cases oI h
   exact qG
  refine sM rfl<|k3<|sK<|sK<|sU<|sM rfl<|k3<|sK<|sK<|sU<|sM rfl ?_
  refine k3<|k3<|sU<|sM rfl<|k3<|sK<|sK<|sU<|sM rfl ?_
  refine k3<|sU<|sM rfl<|k3<|k3<|sU<|sM rfl<|sK<|sK ?_
  refine k3<|k3<|sK<|sU<|sM rfl<|sK<|sU<|sA rfl<|sN<|qR ?_
  cases oI h
  exact qG
 refine sM rfl<|sK<|sK<|sU<|sM rfl<|k3<|sK<|sK<|sU<|sM rfl<|sK<|sK<|sK ?_
 refine sK<|sK<|sU<|sM rfl<|k3<|k3<|sU<|sM rfl<|sK<|sK<|sK ?_
 refine sK<|sK<|sU<|sM rfl<|k3<|sU<|sM rfl<|k3<|sK<|sK<|sK ?_
 refine sU<|sM rfl<|k3<|k3<|k3<|sU<|sM rfl<|sK<|sU ?_
 refine sA rfl<|sN<|qR ?_
 cases oI h
 exact qG
end Go.Dw.Lt
