
import Derived.Test.YtikangmionpjfaaGreatSsEvA
set_option linter.unusedVariables false
set_option linter.unusedSimpArgs false
open Go.Dw.WC renaming block->EI, loop->EJ, pg->EK, qT->EL, region->EH

set_option maxRecDepth 100000
set_option maxHeartbeats 4000000
namespace Go.Dw.Ss
open Go.Proofs Go.Proofs.Tryz Go.Dw
section
attribute [local irreducible] HM HU HF HB WO WC QS QB sR
instance {a0:(List UInt8)}:LI (iI a0) 2 (fun s=>[(10,rI s)]) (fun s=>[]) (jY 7 (fun y=>[]) (fun y=>[]) Tryz.f104 fun r=>(rB r,[])):=⟨⟩
instance {a0:(List UInt8)}{a1:Int}{a2:Int}:CE prog bi ext (iF a0 a1 a2) 104 [rS a0,rI a1,rI a2] [] fun r=>(rB r,[]):=⟨fun h=>Ev.au h Tryz.func104⟩
instance {a0:bj}:CE prog bi ext (iZ a0) 70 [.d (bj.pd a0)] [] fun r=>(rB r,[]):=⟨fun h=>Ev.au h Tryz.func70⟩
instance {a0:Int}{a1:Int}{a2:Int}:CE prog bi ext (oc a0 a1 a2) 199 [rI a0,rI a1,rI a2] [] fun r=>(rB r,[]):=⟨fun h=>Ev.au h Tryz.func199⟩
instance :LI (mr) 1 (fun s=>[(0,rI s.1),(1,rI s.2)]) (fun s=>[]) (jX 3 (fun o=>[(0,rI o)]) fun o=>[]):=⟨⟩
instance {a0:Int}{a1:Int}:CE prog bi ext (mR a0 a1) 200 [rI a0,rI a1] [] fun r=>(rI r,[]):=⟨fun h=>Ev.au h Tryz.func200⟩
instance {a0:bW}:CE prog bi ext (kH a0) 162 [.d (bW.pd a0)] [] fun r=>(rB r,[]):=⟨fun h=>Ev.au h Tryz.func162⟩
instance {a0:Int}{a1:Int}{a2:Int}:CE prog bi ext (cx a0 a1 a2) 230 [rI a0,rI a1,rI a2] [] fun r=>(rB r,[]):=⟨fun h=>Ev.au h Tryz.func230⟩
instance {a0:Int}:CE prog bi ext (fH a0) 280 [rI a0] [] fun r=>(rB r,[]):=⟨fun h=>Ev.au h Tryz.func280⟩
instance {a0:(List Int)}:LI (ck a0) 2 (fun s=>[(8,rI s)]) (fun s=>[]) (jY 7 (fun y=>[]) (fun y=>[]) Tryz.f292 fun r=>(rI r,[])):=⟨⟩
instance {a0:(List Int)}:CE prog bi ext (dT a0) 292 [rL a0,.d (.raw (.func (.func 280) #[] #[]))] [] fun r=>(rI r,[]):=⟨fun h=>Ev.au h Tryz.func292⟩
instance {a0:(List Int)}:CE prog bi ext (dA a0) 279 [rL a0,.d (.raw (.func (.func 280) #[] #[]))] [] fun r=>(rB r,[]):=⟨fun h=>Ev.au h Tryz.func279⟩
instance {a0:(List Int)}:CE prog bi ext (cG a0) 252 [rL a0] [] fun r=>(rB r,[]):=⟨fun h=>Ev.au h Tryz.func252⟩
instance {a0:(List Int)}:LI (gN a0) 3 (fun s=>[(3,rI s.1),(8,rI s.2)]) (fun s=>[]) (jX 7 (fun o=>[(3,rI o)]) fun o=>[]):=⟨⟩
instance {a0:(List Int)}:CE prog bi ext (da a0) 253 [rL a0] [] fun r=>(rI r,[]):=⟨fun h=>Ev.au h Tryz.func253⟩
end
theorem nn{a0:bq}{r:Bool}(h:cB a0=some r):EvP prog bi ext 203 [.d (bq.pd a0)] [] (rB r,[]):=by
 refine Ev.body Z Tryz.func203 Z Zk<|gU Z<|sB (.ptr 16 0) 16 (.var (bq.rc a0))<|sU<|sN<|gU Z<|sV (.ptr 16 7)<|sL Z<|sE (rI (a0.cf.length:Int)) (qy _ _)<|sF h ?_ ?_<;>intro h
 ·refine sM Z<|sV (.ptr 16 8)<|sL Z<|sV (rB (a0.bR==(0:Int)))<|sF h ?_ ?_<;>intro h
  ·refine sM Z<|sV (.ptr 16 9)<|sL Z<|sV (rB (a0.cn==(0:Int)))<|sV (rB (a0.cn==(0:Int)))<|sA Z<|sN<|qS<|gU Z<|sV (.ptr 16 0)<|sL Z<|sN<|qB<|gU Z<|sF h ?_ ?_<;>intro h
   ·refine sA Z<|sN<|cT<|gU Z<|sF h ?_ ?_<;>intro h
    ·refine sM Z<|sV (.ptr 16 1)<|sV (.d (bB.pd a0.bI))<|sV (.ptr 16 1)<|sV (.ptr 16 1)<|sL Z<|sV (.d (bB.pd (bB.mk a0.bI.a0 0 0)))<|WO.bin (em a0.bI (bB.mk a0.bI.a0 0 0)) Z Z Z Z Z<|sF h ?_ ?_<;>intro h
     ·refine sM Z<|sV (.ptr 16 4)<|sV (.d (bB.pd a0.bG))<|sV (.ptr 16 4)<|sV (.ptr 16 4)<|sL Z<|sV (.d (bB.pd (bB.mk a0.bG.a0 0 0)))<|WO.bin (em a0.bG (bB.mk a0.bG.a0 0 0)) Z Z Z Z Z<|sF h ?_ ?_<;>intro h
      ·refine sM Z<|sV (.ptr 16 1)<|sV (.ptr 16 1)<|sL Z<|bE h fun x7 O h=>cD (ce O)<|sF h ?_ ?_<;>intro h
       ·refine sM Z<|sV (.ptr 16 4)<|sV (.ptr 16 4)<|sL Z<|bE h fun x9 Q h=>cD (ce Q)<|sV (rB x9)<|sA Z<|sN<|qR ?_
        cases oI h
        exact qG
       refine sM Z<|k3<|sK<|sU<|sA Z<|sN<|qR ?_
       cases oI h
       exact qG
      refine sM Z<|k3<|sK<|sU<|sM Z<|k3<|sK<|sU<|sA Z<|sN<|qR ?_
      cases oI h
      exact qG
     refine sM Z<|k3<|k3<|sK<|sU<|sM Z<|k3<|sK<|sU ?_
     refine sM Z<|k3<|sK<|sU<|sA Z<|sN<|qR ?_
     cases oI h
     exact qG
    refine sM Z<|k3<|k3<|sK<|sU<|sM Z<|k3<|sK<|sK ?_
    refine sK<|sK<|sU<|sM Z<|k3<|sK<|sU<|sM Z<|k3<|sK<|sU ?_
    refine sA Z<|sN<|qR ?_
    cases oI h
    exact qG
   refine sA Z<|sN<|cF<|gU Z<|sF h ?_ ?_<;>intro h
   ·refine sA Z<|sN<|cT<|EL (R0:=[(1,.cptr [.int .i64 a0.ct,.int .i64 a0.bI.a0,.int .i64 a0.bI.a1,.int .i64 a0.bI.a2,.int .i64 a0.bG.a0,.int .i64 a0.bG.a1,.int .i64 a0.bG.a2,.lst (a0.cf.map (PD.int .i64)),.int .i64 a0.bR,.int .i64 a0.cn]),(3,rB (a0.cn==(0:Int)))]) (B0:=[]) Z Z<|sF h ?_ ?_<;>intro h
    ·refine sM Z<|sV (.cptr [.int .i64 a0.bI.a0,.int .i64 a0.bI.a1,.int .i64 a0.bI.a2,.int .i64 a0.bG.a0,.int .i64 a0.bG.a1,.int .i64 a0.bG.a2,.lst (a0.cf.map (PD.int .i64)),.int .i64 a0.bR,.int .i64 a0.cn])<|sV (.d (.lst ([a0.bI.a0,a0.bI.a1,a0.bI.a2].map (PD.int .i64))))<|bE h fun T g h=>cD (ce g)<|sF h ?_ ?_<;>intro h
     ·refine sM Z<|sV (.cptr [.int .i64 a0.bG.a0,.int .i64 a0.bG.a1,.int .i64 a0.bG.a2,.lst (a0.cf.map (PD.int .i64)),.int .i64 a0.bR,.int .i64 a0.cn])<|sV (.d (.lst ([a0.bG.a0,a0.bG.a1,a0.bG.a2].map (PD.int .i64))))<|bE h fun W j h=>cD (ce j)<|sF h ?_ ?_<;>intro h
      ·refine sM Z<|sV (.cptr [.int .i64 a0.bG.a0,.int .i64 a0.bG.a1,.int .i64 a0.bG.a2,.lst (a0.cf.map (PD.int .i64)),.int .i64 a0.bR,.int .i64 a0.cn])<|sV (.cptr [.int .i64 a0.bG.a0,.int .i64 a0.bG.a1,.int .i64 a0.bG.a2,.lst (a0.cf.map (PD.int .i64)),.int .i64 a0.bR,.int .i64 a0.cn])<|sC Z<|sV (rB (a0.bG.a0 != (0:Int)))<|sV (rB (a0.bG.a0 != (0:Int)))<|sA Z<|sN<|qR ?_
       exact oI h▸qD
      refine sM Z<|k3<|sK<|sU<|sA Z<|sN<|qR ?_
      exact oI h▸qD
     refine sM Z<|k3<|sU<|sM Z<|k3<|sK<|sU<|sA Z<|sN<|qR ?_
     exact oI h▸qD
    refine sM Z<|k3<|sU<|sM Z<|k3<|sU<|sM Z<|k3<|sK ?_
    refine sU<|sA Z<|sN<|qR ?_
    exact oI h▸qD
   refine sA Z<|sN<|cF<|gU Z<|sF h ?_ ?_<;>intro h
   ·refine sA Z<|sN<|cT<|gU Z<|sV (.ptr 16 1)<|sV (.d (bB.pd a0.bI))<|sV (.d (bB.pd (bB.mk 0 0 0)))<|qO h (fun a h=>?_) (fun a h=>?_)
    ·refine WO.ud (em a0.bI (bB.mk 0 0 0)) a Z Z Z Z Z<|sM Z<|sV (.ptr 16 4)<|sV (.d (bB.pd a0.bG))<|sV (.d (bB.pd (bB.mk 0 0 0)))<|WO.bin (em a0.bG (bB.mk 0 0 0)) Z Z Z Z Z<|sF h ?_ ?_<;>intro h
     ·refine sM Z<|sV (.ptr 16 7)<|sL Z<|sE (rI (a0.cf.length:Int)) (qy _ _)<|bE h fun X k h=>cD (ce k)<|sF h ?_ ?_<;>intro h
      ·refine sM Z<|sV (.ptr 16 7)<|sL Z<|bE h fun Y l h=>cD (ce l)<|sF h ?_ ?_<;>intro h
       ·refine sM Z<|sV (.ptr 16 7)<|sL Z<|bE h fun H p h=>cD (ce p)<|sV (rB (H != (0:Int)))<|sF h ?_ ?_<;>intro h
        ·refine sM Z<|sV (.ptr 16 8)<|sL Z<|bE h fun a5 q h=>cD (ce q)<|sF h ?_ ?_<;>intro h
         ·refine sM Z<|sV (.ptr 16 9)<|sL Z<|bE h fun I t h=>cD (ce t)<|sV (rB I)<|sA Z<|sN<|qR ?_
          cases oI h
          exact qG
         refine sM Z<|k3<|sU<|sA Z<|sN<|qR ?_
         cases oI h
         exact qG
        refine sM Z<|k3<|sU<|sM Z<|k3<|sU<|sA Z<|sN<|qR ?_
        cases oI h
        exact qG
       refine sM Z<|k3<|sK<|sU<|sM Z<|k3<|sU<|sM Z<|sK<|sK<|sK ?_
       refine sU<|sA Z<|sN<|qR ?_
       cases oI h
       exact qG
      refine sM Z<|k3<|sU<|sM Z<|k3<|sK<|sU<|sM Z<|sK<|sK<|sK ?_
      refine sU<|sM Z<|k3<|sU<|sA Z<|sN<|qR ?_
      cases oI h
      exact qG
     refine sM Z<|k3<|sK<|sU<|sM Z<|k3<|sU<|sM Z<|sK<|sK<|sK ?_
     refine sK<|sU<|sM Z<|k3<|sU<|sM Z<|k3<|sU<|sA Z<|sN<|qR ?_
     cases oI h
     exact qG
    refine WO.ud (em a0.bI (bB.mk 0 0 0)) a Z Z Z Z Z<|sM Z<|k3<|sK<|sU<|sM Z<|k3<|sK<|sU<|sM Z<|sK ?_
    refine sK<|sK<|sU<|sM Z<|k3<|sK<|sU<|sM Z<|k3<|sU<|sM Z ?_
    refine k3<|sU<|sA Z<|sN<|qR ?_
    cases oI h
    exact qG
   refine sA Z<|sN<|cF<|qK<|gU Z<|sU<|sN<|qR ?_
   cases oI h
   exact qG
  refine sM Z<|k3<|sU<|sA Z<|sN<|qS<|gU Z<|sV (.ptr 16 0)<|sL Z<|sN<|qB<|gU Z<|sF h ?_ ?_<;>intro h
  ·refine sA Z<|sN<|cT<|gU Z<|mM Z<|k3<|k3<|sK<|sU<|sM Z ?_
   refine k3<|k3<|sK<|sU<|sM Z<|k3<|sK<|sU<|sM Z ?_
   refine k3<|sK<|sU<|sA Z<|sN<|qR ?_
   cases oI h
   exact qG
  refine sA Z<|sN<|cF<|gU Z<|sF h ?_ ?_<;>intro h
  ·refine sA Z<|sN<|cT<|EL (R0:=[(1,.cptr [.int .i64 a0.ct,.int .i64 a0.bI.a0,.int .i64 a0.bI.a1,.int .i64 a0.bI.a2,.int .i64 a0.bG.a0,.int .i64 a0.bG.a1,.int .i64 a0.bG.a2,.lst (a0.cf.map (PD.int .i64)),.int .i64 a0.bR,.int .i64 a0.cn]),(3,rB false)]) (B0:=[]) Z Z<|mM Z<|k3<|sU<|sM Z<|k3<|sU ?_
   refine sM Z<|k3<|sK<|sU<|sA Z<|sN<|qR ?_
   exact oI h▸qD
  refine sA Z<|sN<|cF<|gU Z<|sF h ?_ ?_<;>intro h
  ·refine sA Z<|sN<|cT<|gU Z<|sV (.ptr 16 1)<|sV (.d (bB.pd a0.bI))<|sV (.d (bB.pd (bB.mk 0 0 0)))<|qO h (fun c h=>?_) (fun c h=>?_)
   ·refine WO.ud (em a0.bI (bB.mk 0 0 0)) c Z Z Z Z Z<|sM Z<|sV (.ptr 16 4)<|sV (.d (bB.pd a0.bG))<|sV (.d (bB.pd (bB.mk 0 0 0)))<|WO.bin (em a0.bG (bB.mk 0 0 0)) Z Z Z Z Z<|sF h ?_ ?_<;>intro h
    ·refine sM Z<|sV (.ptr 16 7)<|sL Z<|sE (rI (a0.cf.length:Int)) (qy _ _)<|bE h fun a6 u h=>cD (ce u)<|sF h ?_ ?_<;>intro h
     ·refine sM Z<|sV (.ptr 16 7)<|sL Z<|bE h fun a7 x h=>cD (ce x)<|sF h ?_ ?_<;>intro h
      ·refine sM Z<|sV (.ptr 16 7)<|sL Z<|bE h fun J y h=>cD (ce y)<|sV (rB (J != (0:Int)))<|sF h ?_ ?_<;>intro h
       ·refine sM Z<|sV (.ptr 16 8)<|sL Z<|bE h fun a8 z h=>cD (ce z)<|sF h ?_ ?_<;>intro h
        ·refine sM Z<|sV (.ptr 16 9)<|sL Z<|bE h fun K B h=>cD (ce B)<|sV (rB K)<|sA Z<|sN<|qR ?_
         cases oI h
         exact qG
        refine sM Z<|k3<|sU<|sA Z<|sN<|qR ?_
        cases oI h
        exact qG
       refine sM Z<|k3<|sU<|sM Z<|k3<|sU<|sA Z<|sN<|qR ?_
       cases oI h
       exact qG
      refine sM Z<|k3<|sK<|sU<|sM Z<|k3<|sU<|sM Z<|sK<|sK<|sK ?_
      refine sU<|sA Z<|sN<|qR ?_
      cases oI h
      exact qG
     refine sM Z<|k3<|sU<|sM Z<|k3<|sK<|sU<|sM Z<|sK<|sK<|sK ?_
     refine sU<|sM Z<|k3<|sU<|sA Z<|sN<|qR ?_
     cases oI h
     exact qG
    refine sM Z<|k3<|sK<|sU<|sM Z<|k3<|sU<|sM Z<|sK<|sK<|sK ?_
    refine sK<|sU<|sM Z<|k3<|sU<|sM Z<|k3<|sU<|sA Z<|sN<|qR ?_
    cases oI h
    exact qG
   refine WO.ud (em a0.bI (bB.mk 0 0 0)) c Z Z Z Z Z<|sM Z<|k3<|sK<|sU<|sM Z<|k3<|sK<|sU<|sM Z<|sK ?_
   refine sK<|sK<|sU<|sM Z<|k3<|sK<|sU<|sM Z<|k3<|sU<|sM Z ?_
   refine k3<|sU<|sA Z<|sN<|qR ?_
   cases oI h
   exact qG
  refine sA Z<|sN<|cF<|qK<|gU Z<|sU<|sN<|qR ?_
  cases oI h
  exact qG
 refine sM Z<|k3<|sU<|sM Z<|k3<|sU<|sA Z<|sN<|qS<|gU Z<|sV (.ptr 16 0) ?_
 refine sL Z<|sN<|qB<|gU Z<|sF h ?_ ?_<;>intro h
 ·refine sA Z<|sN<|cT<|gU Z<|mM Z<|k3<|k3<|sK<|sU<|sM Z ?_
  refine k3<|k3<|sK<|sU<|sM Z<|k3<|sK<|sU<|sM Z ?_
  refine k3<|sK<|sU<|sA Z<|sN<|qR ?_
  cases oI h
  exact qG
 refine sA Z<|sN<|cF<|gU Z<|sF h ?_ ?_<;>intro h
 ·refine sA Z<|sN<|cT<|EL (R0:=[(1,.cptr [.int .i64 a0.ct,.int .i64 a0.bI.a0,.int .i64 a0.bI.a1,.int .i64 a0.bI.a2,.int .i64 a0.bG.a0,.int .i64 a0.bG.a1,.int .i64 a0.bG.a2,.lst (a0.cf.map (PD.int .i64)),.int .i64 a0.bR,.int .i64 a0.cn]),(3,rB false)]) (B0:=[]) Z Z<|mM Z<|k3<|sU<|sM Z<|k3<|sU ?_
  refine sM Z<|k3<|sK<|sU<|sA Z<|sN<|qR ?_
  exact oI h▸qD
 refine sA Z<|sN<|cF<|gU Z<|sF h ?_ ?_<;>intro h
 ·refine sA Z<|sN<|cT<|gU Z<|sV (.ptr 16 1)<|sV (.d (bB.pd a0.bI))<|sV (.d (bB.pd (bB.mk 0 0 0)))<|qO h (fun f h=>?_) (fun f h=>?_)
  ·refine WO.ud (em a0.bI (bB.mk 0 0 0)) f Z Z Z Z Z<|sM Z<|sV (.ptr 16 4)<|sV (.d (bB.pd a0.bG))<|sV (.d (bB.pd (bB.mk 0 0 0)))<|WO.bin (em a0.bG (bB.mk 0 0 0)) Z Z Z Z Z<|sF h ?_ ?_<;>intro h
   ·refine sM Z<|sV (.ptr 16 7)<|sL Z<|sE (rI (a0.cf.length:Int)) (qy _ _)<|bE h fun a9 C h=>cD (ce C)<|sF h ?_ ?_<;>intro h
    ·refine sM Z<|sV (.ptr 16 7)<|sL Z<|bE h fun b0 D h=>cD (ce D)<|sF h ?_ ?_<;>intro h
     ·refine sM Z<|sV (.ptr 16 7)<|sL Z<|bE h fun L E h=>cD (ce E)<|sV (rB (L != (0:Int)))<|sF h ?_ ?_<;>intro h
      ·refine sM Z<|sV (.ptr 16 8)<|sL Z<|bE h fun b3 F h=>cD (ce F)<|sF h ?_ ?_<;>intro h
       ·refine sM Z<|sV (.ptr 16 9)<|sL Z<|bE h fun N G h=>cD (ce G)<|sV (rB N)<|sA Z<|sN<|qR ?_
        cases oI h
        exact qG
       refine sM Z<|k3<|sU<|sA Z<|sN<|qR ?_
       cases oI h
       exact qG
      refine sM Z<|k3<|sU<|sM Z<|k3<|sU<|sA Z<|sN<|qR ?_
      cases oI h
      exact qG
     refine sM Z<|k3<|sK<|sU<|sM Z<|k3<|sU<|sM Z<|sK<|sK<|sK ?_
     refine sU<|sA Z<|sN<|qR ?_
     cases oI h
     exact qG
    refine sM Z<|k3<|sU<|sM Z<|k3<|sK<|sU<|sM Z<|sK<|sK<|sK ?_
    refine sU<|sM Z<|k3<|sU<|sA Z<|sN<|qR ?_
    cases oI h
    exact qG
   refine sM Z<|k3<|sK<|sU<|sM Z<|k3<|sU<|sM Z<|sK<|sK<|sK ?_
   refine sK<|sU<|sM Z<|k3<|sU<|sM Z<|k3<|sU<|sA Z<|sN<|qR ?_
   cases oI h
   exact qG
  refine WO.ud (em a0.bI (bB.mk 0 0 0)) f Z Z Z Z Z<|sM Z<|k3<|sK<|sU<|sM Z<|k3<|sK<|sU<|sM Z<|sK ?_
  refine sK<|sK<|sU<|sM Z<|k3<|sK<|sU<|sM Z<|k3<|sU<|sM Z ?_
  refine k3<|sU<|sA Z<|sN<|qR ?_
  cases oI h
  exact qG
 refine sA Z<|sN<|cF<|qK<|gU Z<|sU<|sN<|qR ?_
 cases oI h
 exact qG
instance {a0:bq}:CE prog bi ext (cB a0) 203 [.d (bq.pd a0)] [] fun r=>(rB r,[]):=⟨fun h=>nn h⟩
section
attribute [local irreducible] HM HU HF HB WO WC QS QB sR
instance {a0:bq}:CE prog bi ext (fG a0) 202 [.d (bq.pd a0)] [] fun r=>(rB r,[]):=⟨fun h=>Ev.au h Tryz.func202⟩
instance {a0:(List bq)}:LI (cd a0) 2 (fun s=>[(8,rI s)]) (fun s=>[]) (jY 7 (fun y=>[]) (fun y=>[]) Tryz.f251 fun r=>(rI r,[])):=⟨⟩
instance {a0:(List bq)}:CE prog bi ext (dH a0) 251 [rM bq.pd a0,.d (.raw (.func (.func 202) #[] #[]))] [] fun r=>(rI r,[]):=⟨fun h=>Ev.au h Tryz.func251⟩
instance {a0:(List bq)}:CE prog bi ext (cp a0) 201 [rM bq.pd a0,.d (.raw (.func (.func 202) #[] #[]))] [] fun r=>(rB r,[]):=⟨fun h=>Ev.au h Tryz.func201⟩
instance {a0:(List bq)}:LI (dZ a0) 3 (fun s=>[(3,rI s.1),(8,rI s.2)]) (fun s=>[]) (jY 10 (fun y=>[(3,rI y)]) (fun y=>[]) Tryz.f204 fun r=>(rI r,[])):=⟨⟩
instance {a0:(List bq)}:CE prog bi ext (fg a0) 204 [rM bq.pd a0] [] fun r=>(rI r,[]):=⟨fun h=>Ev.au h Tryz.func204⟩
instance {a0:bp}:CE prog bi ext (eW a0) 163 [.d (bp.pd a0)] [] fun r=>(rB r,[]):=⟨fun h=>Ev.au h Tryz.func163⟩
instance {a0:Int}{a1:Int}{a2:Int}:CE prog bi ext (eE a0 a1 a2) 106 [rI a0,rI a1,rI a2] [] fun r=>(rB r,[]):=⟨fun h=>Ev.au h Tryz.func106⟩
instance {a0:ba}:CE prog bi ext (dD a0) 105 [.d (ba.pd a0)] [] fun r=>(rB r,[]):=⟨fun h=>Ev.au h Tryz.func105⟩
instance {a0:(List ba)}:LI (de a0) 2 (fun s=>[(7,rI s)]) (fun s=>[]) (jY 7 (fun y=>[]) (fun y=>[]) Tryz.f71 fun r=>(rB r,[])):=⟨⟩
instance {a0:(List ba)}:CE prog bi ext (eP a0) 71 [rM ba.pd a0] [] fun r=>(rB r,[]):=⟨fun h=>Ev.au h Tryz.func71⟩
instance {a0:(List UInt8)}:CE prog bi ext (fK a0) 164 [rS a0] [] fun r=>(rB r,[]):=⟨fun h=>Ev.au h Tryz.func164⟩
instance {a0:(List UInt8)}{a1:(List UInt8)}:CE prog bi ext (dc a0 a1) 108 [rS a0,rS a1] [] fun r=>(rI r,[]):=⟨fun h=>Ev.au h Tryz.func108⟩
instance {a0:(List Int)}:LI (dI a0) 3 (fun s=>[(8,rI s)]) (fun s=>[]) (jY 8 (fun y=>[]) (fun y=>[]) Tryz.f107 fun r=>(rI r,[])):=⟨⟩
instance {a0:(List Int)}:CE prog bi ext (dB a0) 107 [rL a0] [] fun r=>(rI r,[]):=⟨fun h=>Ev.au h Tryz.func107⟩
instance {a0:bj}{a1:bj}:CE prog bi ext (gh a0 a1) 72 [.d (bj.pd a0),.d (bj.pd a1)] [] fun r=>(rI r,[]):=⟨fun h=>Ev.au h Tryz.func72⟩
instance {a0:ac}:LI (du a0) 2 (fun s=>[(8,rI s)]) (fun s=>[]) (jY 7 (fun y=>[]) (fun y=>[]) Tryz.f42 fun r=>(rB r,[])):=⟨⟩
instance {a0:ac}:CE prog bi ext (di a0) 42 [.d (ac.pd a0)] [] fun r=>(rB r,[]):=⟨fun h=>Ev.au h Tryz.func42⟩
instance {a0:Int}{a1:Int}{a2:Int}:CE prog bi ext (gQ a0 a1 a2) 109 [rI a0,rI a1,rI a2] [] fun r=>(rB r,[]):=⟨fun h=>Ev.au h Tryz.func109⟩
instance {a0:ak}:CE prog bi ext (dW a0) 73 [.d (ak.pd a0)] [] fun r=>(rB r,[]):=⟨fun h=>Ev.au h Tryz.func73⟩
instance {a:(List bq)}:LI (et a) 3 (fun s=>[(14,rI s.1)]) (fun s=>[(112,.arr 0 134 (s.2.map bq.pd))]) (jX 7 (fun o=>[]) fun o=>[(112,.arr 0 134 (o.map bq.pd))]):=⟨⟩
instance {a0:ba}:CE prog bi ext (fD a0) 206 [.d (ba.pd a0)] [] fun r=>(.d (ba.pd r),[]):=⟨fun h=>Ev.au h Tryz.func206⟩
instance {a:(List ba)}:LI (fj a) 3 (fun s=>[(12,rI s.1)]) (fun s=>[(112,.arr 0 89 (s.2.map ba.pd))]) (jX 7 (fun o=>[]) fun o=>[(112,.arr 0 89 (o.map ba.pd))]):=⟨⟩
instance {a0:aq}:CE prog bi ext (iN a0) 165 [.d (aq.pd a0)] [] fun r=>(.agg (bj.rc r.bc++[.ref 0 0]),[.arr 0 89 (r.bA.map ba.pd)]):=⟨fun h=>Ev.au h Tryz.func165⟩
instance {a0:ac}{a1:bj}:LI (hX a0 a1) 2 (fun s=>[(11,rI s)]) (fun s=>[]) (jY 7 (fun y=>[]) (fun y=>[]) Tryz.f110 fun r=>(.tup [.d (aq.pd r.1),rB r.2],[])):=⟨⟩
instance {a0:ac}{a1:bj}:CE prog bi ext (kb a0 a1) 110 [.d (ac.pd a0),.d (bj.pd a1)] [] fun r=>(.tup [.d (aq.pd r.1),rB r.2],[]):=⟨fun h=>Ev.au h Tryz.func110⟩
instance {a0:aq}{a1:Int}:LI (jv a0 a1) 2 (fun s=>[(11,rI s)]) (fun s=>[]) (jY 7 (fun y=>[]) (fun y=>[]) Tryz.f111 fun r=>(.tup [.d (ba.pd r.1),rB r.2],[])):=⟨⟩
instance {a0:aq}{a1:Int}:CE prog bi ext (lD a0 a1) 111 [.d (aq.pd a0),rI a1] [] fun r=>(.tup [.d (ba.pd r.1),rB r.2],[]):=⟨fun h=>Ev.au h Tryz.func111⟩
instance {a0:ac}{a1:bj}{a2:Int}:CE prog bi ext (iM a0 a1 a2) 74 [.d (ac.pd a0),.d (bj.pd a1),rI a2] [] fun r=>(.tup [.d (ba.pd r.1),rI r.2],[]):=⟨fun h=>Ev.au h Tryz.func74⟩
instance {a0:aj}{a1:ac}{a2:ak}:CE prog bi ext (eN a0 a1 a2) 43 [.d (aj.pd a0),.d (ac.pd a1),.d (ak.pd a2)] [] fun r=>(.tup [.d (br.pd r.1),.d (ba.pd r.2.1),rB r.2.2],[]):=⟨fun h=>Ev.au h Tryz.func43⟩
instance {a0:aj}{a1:ac}{a2:ak}:CE prog bi ext (jG a0 a1 a2) 15 [.d (aj.pd a0),.d (ac.pd a1),.d (ak.pd a2)] [] fun r=>(.tup [.d (br.pd r.1),rB r.2],[]):=⟨fun h=>Ev.au h Tryz.func15⟩
instance {a0:(List UInt8)}:LI (iw a0) 2 (fun s=>[(7,rI s)]) (fun s=>[]) (jY 6 (fun y=>[]) (fun y=>[]) Tryz.f112 fun r=>(rB r,[])):=⟨⟩
instance {a0:(List UInt8)}{a1:Int}{a2:Int}:CE prog bi ext (iv a0 a1 a2) 112 [rS a0,rI a1,rI a2] [] fun r=>(rB r,[]):=⟨fun h=>Ev.au h Tryz.func112⟩
instance {a0:bj}:CE prog bi ext (jO a0) 75 [.d (bj.pd a0)] [] fun r=>(rB r,[]):=⟨fun h=>Ev.au h Tryz.func75⟩
instance {a0:Int}{a1:Int}{a2:Int}:CE prog bi ext (cA a0 a1 a2) 76 [rI a0,rI a1,rI a2] [] fun r=>(rB r,[]):=⟨fun h=>Ev.au h Tryz.func76⟩
instance {a0:ak}:CE prog bi ext (jA a0) 44 [.d (ak.pd a0)] [] fun r=>(rB r,[]):=⟨fun h=>Ev.au h Tryz.func44⟩
instance :LI (oV) 1 (fun s=>[(0,rI s.1),(1,rI s.2)]) (fun s=>[]) (jX 3 (fun o=>[(0,rI o)]) fun o=>[]):=⟨⟩
instance {a0:Int}{a1:Int}:CE prog bi ext (ref02_gcd a0 a1) 170 [rI a0,rI a1] [] fun r=>(rI r,[]):=⟨fun h=>Ev.au h Tryz.func170⟩
instance {a0:bW}:CE prog bi ext (nJ a0) 127 [.d (bW.pd a0)] [] fun r=>(rB r,[]):=⟨fun h=>Ev.au h Tryz.func127⟩
instance {a0:(List Int)}:LI (ix a0) 2 (fun s=>[(3,rI s)]) (fun s=>[]) (jY 6 (fun y=>[]) (fun y=>[]) Tryz.f219 fun r=>(rB r,[])):=⟨⟩
instance {a0:(List Int)}:CE prog bi ext (gj a0) 219 [rL a0] [] fun r=>(rB r,[]):=⟨fun h=>Ev.au h Tryz.func219⟩
instance {a0:(List Int)}:LI (nK a0) 3 (fun s=>[(3,rI s.1),(4,rI s.2)]) (fun s=>[]) (jX 6 (fun o=>[(3,rI o)]) fun o=>[]):=⟨⟩
instance {a0:(List Int)}:CE prog bi ext (iy a0) 220 [rL a0] [] fun r=>(rI r,[]):=⟨fun h=>Ev.au h Tryz.func220⟩
end
theorem oh{a0:bq}{r:Bool}(h:fU a0=some r):EvP prog bi ext 171 [.d (bq.pd a0)] [] (rB r,[]):=by
 refine Ev.body Z Tryz.func171 Z Zk<|gU Z<|sB (.ptr 16 0) 16 (.var (bq.rc a0))<|sU<|sN<|gU Z<|sV (.ptr 16 7)<|sL Z<|sE (rI (a0.cf.length:Int)) (qy _ _)<|sF h ?_ ?_<;>intro h
 ·refine sM Z<|sV (.ptr 16 8)<|sL Z<|sV (rB (a0.bR==(0:Int)))<|sF h ?_ ?_<;>intro h
  ·refine sM Z<|sV (.ptr 16 9)<|sL Z<|sV (rB (a0.cn==(0:Int)))<|sV (rB (a0.cn==(0:Int)))<|sA Z<|sN<|qS<|gU Z<|sV (.ptr 16 0)<|sL Z<|sN<|qB<|gU Z<|sF h ?_ ?_<;>intro h
   ·refine sA Z<|sN<|cT<|gU Z<|sF h ?_ ?_<;>intro h
    ·refine sM Z<|sV (.ptr 16 1)<|sV (.ptr 16 1)<|sL Z<|bE h fun x5 O h=>cD (ce O)<|sF h ?_ ?_<;>intro h
     ·refine sM Z<|sV (.ptr 16 4)<|sV (.ptr 16 4)<|sL Z<|bE h fun x7 Q h=>cD (ce Q)<|sF h ?_ ?_<;>intro h
      ·refine sM Z<|sV (.ptr 16 1)<|sV (.ptr 16 2)<|sL Z<|sV (rB (a0.bI.a1==(0:Int)))<|sF h ?_ ?_<;>intro h
       ·refine sM Z<|sV (.ptr 16 1)<|sV (.ptr 16 3)<|sL Z<|sV (rB (a0.bI.a2==(0:Int)))<|sF h ?_ ?_<;>intro h
        ·refine sM Z<|sV (.ptr 16 4)<|sV (.ptr 16 5)<|sL Z<|sV (rB (a0.bG.a1==(0:Int)))<|sF h ?_ ?_<;>intro h
         ·refine sM Z<|sV (.ptr 16 4)<|sV (.ptr 16 6)<|sL Z<|sV (rB (a0.bG.a2==(0:Int)))<|sV (rB (a0.bG.a2==(0:Int)))<|sA Z<|sN<|qR ?_
          cases oI h
          exact qG
         refine sM Z<|k3<|sK<|sU<|sA Z<|sN<|qR ?_
         cases oI h
         exact qG
        refine sM Z<|k3<|sK<|sU<|sM Z<|k3<|sK<|sU<|sA Z<|sN<|qR ?_
        cases oI h
        exact qG
       refine sM Z<|k3<|sK<|sU<|sM Z<|k3<|sK<|sU<|sM Z<|sK<|sK ?_
       refine sK<|sK<|sU<|sA Z<|sN<|qR ?_
       cases oI h
       exact qG
      refine sM Z<|k3<|sK<|sU<|sM Z<|k3<|sK<|sU<|sM Z<|sK<|sK ?_
      refine sK<|sK<|sU<|sM Z<|k3<|sK<|sU<|sA Z<|sN<|qR ?_
      cases oI h
      exact qG
     refine sM Z<|k3<|sK<|sU<|sM Z<|k3<|sK<|sU<|sM Z<|sK<|sK ?_
     refine sK<|sK<|sU<|sM Z<|k3<|sK<|sU<|sM Z<|k3<|sK<|sU ?_
     refine sA Z<|sN<|qR ?_
     cases oI h
     exact qG
    refine sM Z<|k3<|sK<|sU<|sM Z<|k3<|sK<|sU<|sM Z<|sK<|sK ?_
    refine sK<|sK<|sU<|sM Z<|k3<|sK<|sU<|sM Z<|k3<|sK<|sU ?_
    refine sM Z<|k3<|sK<|sU<|sA Z<|sN<|qR ?_
    cases oI h
    exact qG
   refine sA Z<|sN<|cF<|gU Z<|sF h ?_ ?_<;>intro h
   ·refine sA Z<|sN<|cT<|EL (R0:=[(1,.cptr [.int .i64 a0.ct,.int .i64 a0.bI.a0,.int .i64 a0.bI.a1,.int .i64 a0.bI.a2,.int .i64 a0.bG.a0,.int .i64 a0.bG.a1,.int .i64 a0.bG.a2,.lst (a0.cf.map (PD.int .i64)),.int .i64 a0.bR,.int .i64 a0.cn]),(3,rB (a0.cn==(0:Int)))]) (B0:=[]) Z Z<|sF h ?_ ?_<;>intro h
    ·refine sM Z<|sV (.cptr [.int .i64 a0.bI.a0,.int .i64 a0.bI.a1,.int .i64 a0.bI.a2,.int .i64 a0.bG.a0,.int .i64 a0.bG.a1,.int .i64 a0.bG.a2,.lst (a0.cf.map (PD.int .i64)),.int .i64 a0.bR,.int .i64 a0.cn])<|sV (.d (.lst ([a0.bI.a0,a0.bI.a1,a0.bI.a2].map (PD.int .i64))))<|bE h fun T g h=>cD (ce g)<|sF h ?_ ?_<;>intro h
     ·refine sM Z<|sV (.cptr [.int .i64 a0.bG.a0,.int .i64 a0.bG.a1,.int .i64 a0.bG.a2,.lst (a0.cf.map (PD.int .i64)),.int .i64 a0.bR,.int .i64 a0.cn])<|sV (.d (.lst ([a0.bG.a0,a0.bG.a1,a0.bG.a2].map (PD.int .i64))))<|bE h fun W j h=>cD (ce j)<|sF h ?_ ?_<;>intro h
      ·refine sM Z<|sV (.cptr [.int .i64 a0.bG.a0,.int .i64 a0.bG.a1,.int .i64 a0.bG.a2,.lst (a0.cf.map (PD.int .i64)),.int .i64 a0.bR,.int .i64 a0.cn])<|sV (.cptr [.int .i64 a0.bG.a0,.int .i64 a0.bG.a1,.int .i64 a0.bG.a2,.lst (a0.cf.map (PD.int .i64)),.int .i64 a0.bR,.int .i64 a0.cn])<|sC Z<|sV (rB (a0.bG.a0 != (0:Int)))<|sV (rB (a0.bG.a0 != (0:Int)))<|sA Z<|sN<|qR ?_
       exact oI h▸qD
      refine sM Z<|k3<|sK<|sU<|sA Z<|sN<|qR ?_
      exact oI h▸qD
     refine sM Z<|k3<|sU<|sM Z<|k3<|sK<|sU<|sA Z<|sN<|qR ?_
     exact oI h▸qD
    refine sM Z<|k3<|sU<|sM Z<|k3<|sU<|sM Z<|k3<|sK ?_
    refine sU<|sA Z<|sN<|qR ?_
    exact oI h▸qD
   refine sA Z<|sN<|cF<|gU Z<|sF h ?_ ?_<;>intro h
   ·refine sA Z<|sN<|cT<|gU Z<|sV (.ptr 16 1)<|sV (.d (bB.pd a0.bI))<|sV (.d (bB.pd (bB.mk 0 0 0)))<|qO h (fun a h=>?_) (fun a h=>?_)
    ·refine WO.ud (em a0.bI (bB.mk 0 0 0)) a Z Z Z Z Z<|sM Z<|sV (.ptr 16 4)<|sV (.d (bB.pd a0.bG))<|sV (.d (bB.pd (bB.mk 0 0 0)))<|WO.bin (em a0.bG (bB.mk 0 0 0)) Z Z Z Z Z<|sF h ?_ ?_<;>intro h
     ·refine sM Z<|sV (.ptr 16 7)<|sL Z<|sE (rI (a0.cf.length:Int)) (qy _ _)<|bE h fun X k h=>cD (ce k)<|sF h ?_ ?_<;>intro h
      ·refine sM Z<|sV (.ptr 16 7)<|sL Z<|bE h fun Y l h=>cD (ce l)<|sF h ?_ ?_<;>intro h
       ·refine sM Z<|sV (.ptr 16 7)<|sL Z<|bE h fun H p h=>cD (ce p)<|sV (rB (H != (0:Int)))<|sF h ?_ ?_<;>intro h
        ·refine sM Z<|sV (.ptr 16 8)<|sL Z<|bE h fun a5 q h=>cD (ce q)<|sF h ?_ ?_<;>intro h
         ·refine sM Z<|sV (.ptr 16 9)<|sL Z<|bE h fun I t h=>cD (ce t)<|sV (rB I)<|sA Z<|sN<|qR ?_
          cases oI h
          exact qG
         refine sM Z<|k3<|sU<|sA Z<|sN<|qR ?_
         cases oI h
         exact qG
        refine sM Z<|k3<|sU<|sM Z<|k3<|sU<|sA Z<|sN<|qR ?_
        cases oI h
        exact qG
       refine sM Z<|k3<|sK<|sU<|sM Z<|k3<|sU<|sM Z<|sK<|sK<|sK ?_
       refine sU<|sA Z<|sN<|qR ?_
       cases oI h
       exact qG
      refine sM Z<|k3<|sU<|sM Z<|k3<|sK<|sU<|sM Z<|sK<|sK<|sK ?_
      refine sU<|sM Z<|k3<|sU<|sA Z<|sN<|qR ?_
      cases oI h
      exact qG
     refine sM Z<|k3<|sK<|sU<|sM Z<|k3<|sU<|sM Z<|sK<|sK<|sK ?_
     refine sK<|sU<|sM Z<|k3<|sU<|sM Z<|k3<|sU<|sA Z<|sN<|qR ?_
     cases oI h
     exact qG
    refine WO.ud (em a0.bI (bB.mk 0 0 0)) a Z Z Z Z Z<|sM Z<|k3<|sK<|sU<|sM Z<|k3<|sK<|sU<|sM Z<|sK ?_
    refine sK<|sK<|sU<|sM Z<|k3<|sK<|sU<|sM Z<|k3<|sU<|sM Z ?_
    refine k3<|sU<|sA Z<|sN<|qR ?_
    cases oI h
    exact qG
   refine sA Z<|sN<|cF<|qK<|gU Z<|sU<|sN<|qR ?_
   cases oI h
   exact qG
  refine sM Z<|k3<|sU<|sA Z<|sN<|qS<|gU Z<|sV (.ptr 16 0)<|sL Z<|sN<|qB<|gU Z<|sF h ?_ ?_<;>intro h
  ·refine sA Z<|sN<|cT<|gU Z<|mM Z<|k3<|sK<|sU<|sM Z<|sK<|sK<|sK ?_
   refine sK<|sU<|sM Z<|k3<|sK<|sU<|sM Z<|k3<|sK<|sU<|sM Z ?_
   refine k3<|sK<|sU<|sM Z<|k3<|sK<|sU<|sA Z<|sN<|qR ?_
   cases oI h
   exact qG
  refine sA Z<|sN<|cF<|gU Z<|sF h ?_ ?_<;>intro h
  ·refine sA Z<|sN<|cT<|EL (R0:=[(1,.cptr [.int .i64 a0.ct,.int .i64 a0.bI.a0,.int .i64 a0.bI.a1,.int .i64 a0.bI.a2,.int .i64 a0.bG.a0,.int .i64 a0.bG.a1,.int .i64 a0.bG.a2,.lst (a0.cf.map (PD.int .i64)),.int .i64 a0.bR,.int .i64 a0.cn]),(3,rB false)]) (B0:=[]) Z Z<|mM Z<|k3<|sU<|sM Z<|k3<|sU ?_
   refine sM Z<|k3<|sK<|sU<|sA Z<|sN<|qR ?_
   exact oI h▸qD
  refine sA Z<|sN<|cF<|gU Z<|sF h ?_ ?_<;>intro h
  ·refine sA Z<|sN<|cT<|gU Z<|sV (.ptr 16 1)<|sV (.d (bB.pd a0.bI))<|sV (.d (bB.pd (bB.mk 0 0 0)))<|qO h (fun c h=>?_) (fun c h=>?_)
   ·refine WO.ud (em a0.bI (bB.mk 0 0 0)) c Z Z Z Z Z<|sM Z<|sV (.ptr 16 4)<|sV (.d (bB.pd a0.bG))<|sV (.d (bB.pd (bB.mk 0 0 0)))<|WO.bin (em a0.bG (bB.mk 0 0 0)) Z Z Z Z Z<|sF h ?_ ?_<;>intro h
    ·refine sM Z<|sV (.ptr 16 7)<|sL Z<|sE (rI (a0.cf.length:Int)) (qy _ _)<|bE h fun a6 u h=>cD (ce u)<|sF h ?_ ?_<;>intro h
     ·refine sM Z<|sV (.ptr 16 7)<|sL Z<|bE h fun a7 x h=>cD (ce x)<|sF h ?_ ?_<;>intro h
      ·refine sM Z<|sV (.ptr 16 7)<|sL Z<|bE h fun J y h=>cD (ce y)<|sV (rB (J != (0:Int)))<|sF h ?_ ?_<;>intro h
       ·refine sM Z<|sV (.ptr 16 8)<|sL Z<|bE h fun a8 z h=>cD (ce z)<|sF h ?_ ?_<;>intro h
        ·refine sM Z<|sV (.ptr 16 9)<|sL Z<|bE h fun K B h=>cD (ce B)<|sV (rB K)<|sA Z<|sN<|qR ?_
         cases oI h
         exact qG
        refine sM Z<|k3<|sU<|sA Z<|sN<|qR ?_
        cases oI h
        exact qG
       refine sM Z<|k3<|sU<|sM Z<|k3<|sU<|sA Z<|sN<|qR ?_
       cases oI h
       exact qG
      refine sM Z<|k3<|sK<|sU<|sM Z<|k3<|sU<|sM Z<|sK<|sK<|sK ?_
      refine sU<|sA Z<|sN<|qR ?_
      cases oI h
      exact qG
     refine sM Z<|k3<|sU<|sM Z<|k3<|sK<|sU<|sM Z<|sK<|sK<|sK ?_
     refine sU<|sM Z<|k3<|sU<|sA Z<|sN<|qR ?_
     cases oI h
     exact qG
    refine sM Z<|k3<|sK<|sU<|sM Z<|k3<|sU<|sM Z<|sK<|sK<|sK ?_
    refine sK<|sU<|sM Z<|k3<|sU<|sM Z<|k3<|sU<|sA Z<|sN<|qR ?_
    cases oI h
    exact qG
   refine WO.ud (em a0.bI (bB.mk 0 0 0)) c Z Z Z Z Z<|sM Z<|k3<|sK<|sU<|sM Z<|k3<|sK<|sU<|sM Z<|sK ?_
   refine sK<|sK<|sU<|sM Z<|k3<|sK<|sU<|sM Z<|k3<|sU<|sM Z ?_
   refine k3<|sU<|sA Z<|sN<|qR ?_
   cases oI h
   exact qG
  refine sA Z<|sN<|cF<|qK<|gU Z<|sU<|sN<|qR ?_
  cases oI h
  exact qG
 refine sM Z<|k3<|sU<|sM Z<|k3<|sU<|sA Z<|sN<|qS<|gU Z<|sV (.ptr 16 0) ?_
 refine sL Z<|sN<|qB<|gU Z<|sF h ?_ ?_<;>intro h
 ·refine sA Z<|sN<|cT<|gU Z<|mM Z<|k3<|sK<|sU<|sM Z<|sK<|sK<|sK ?_
  refine sK<|sU<|sM Z<|k3<|sK<|sU<|sM Z<|k3<|sK<|sU<|sM Z ?_
  refine k3<|sK<|sU<|sM Z<|k3<|sK<|sU<|sA Z<|sN<|qR ?_
  cases oI h
  exact qG
 refine sA Z<|sN<|cF<|gU Z<|sF h ?_ ?_<;>intro h
 ·refine sA Z<|sN<|cT<|EL (R0:=[(1,.cptr [.int .i64 a0.ct,.int .i64 a0.bI.a0,.int .i64 a0.bI.a1,.int .i64 a0.bI.a2,.int .i64 a0.bG.a0,.int .i64 a0.bG.a1,.int .i64 a0.bG.a2,.lst (a0.cf.map (PD.int .i64)),.int .i64 a0.bR,.int .i64 a0.cn]),(3,rB false)]) (B0:=[]) Z Z<|mM Z<|k3<|sU<|sM Z<|k3<|sU ?_
  refine sM Z<|k3<|sK<|sU<|sA Z<|sN<|qR ?_
  exact oI h▸qD
 refine sA Z<|sN<|cF<|gU Z<|sF h ?_ ?_<;>intro h
 ·refine sA Z<|sN<|cT<|gU Z<|sV (.ptr 16 1)<|sV (.d (bB.pd a0.bI))<|sV (.d (bB.pd (bB.mk 0 0 0)))<|qO h (fun f h=>?_) (fun f h=>?_)
  ·refine WO.ud (em a0.bI (bB.mk 0 0 0)) f Z Z Z Z Z<|sM Z<|sV (.ptr 16 4)<|sV (.d (bB.pd a0.bG))<|sV (.d (bB.pd (bB.mk 0 0 0)))<|WO.bin (em a0.bG (bB.mk 0 0 0)) Z Z Z Z Z<|sF h ?_ ?_<;>intro h
   ·refine sM Z<|sV (.ptr 16 7)<|sL Z<|sE (rI (a0.cf.length:Int)) (qy _ _)<|bE h fun a9 C h=>cD (ce C)<|sF h ?_ ?_<;>intro h
    ·refine sM Z<|sV (.ptr 16 7)<|sL Z<|bE h fun b0 D h=>cD (ce D)<|sF h ?_ ?_<;>intro h
     ·refine sM Z<|sV (.ptr 16 7)<|sL Z<|bE h fun L E h=>cD (ce E)<|sV (rB (L != (0:Int)))<|sF h ?_ ?_<;>intro h
      ·refine sM Z<|sV (.ptr 16 8)<|sL Z<|bE h fun b3 F h=>cD (ce F)<|sF h ?_ ?_<;>intro h
       ·refine sM Z<|sV (.ptr 16 9)<|sL Z<|bE h fun N G h=>cD (ce G)<|sV (rB N)<|sA Z<|sN<|qR ?_
        cases oI h
        exact qG
       refine sM Z<|k3<|sU<|sA Z<|sN<|qR ?_
       cases oI h
       exact qG
      refine sM Z<|k3<|sU<|sM Z<|k3<|sU<|sA Z<|sN<|qR ?_
      cases oI h
      exact qG
     refine sM Z<|k3<|sK<|sU<|sM Z<|k3<|sU<|sM Z<|sK<|sK<|sK ?_
     refine sU<|sA Z<|sN<|qR ?_
     cases oI h
     exact qG
    refine sM Z<|k3<|sU<|sM Z<|k3<|sK<|sU<|sM Z<|sK<|sK<|sK ?_
    refine sU<|sM Z<|k3<|sU<|sA Z<|sN<|qR ?_
    cases oI h
    exact qG
   refine sM Z<|k3<|sK<|sU<|sM Z<|k3<|sU<|sM Z<|sK<|sK<|sK ?_
   refine sK<|sU<|sM Z<|k3<|sU<|sM Z<|k3<|sU<|sA Z<|sN<|qR ?_
   cases oI h
   exact qG
  refine WO.ud (em a0.bI (bB.mk 0 0 0)) f Z Z Z Z Z<|sM Z<|k3<|sK<|sU<|sM Z<|k3<|sK<|sU<|sM Z<|sK ?_
  refine sK<|sK<|sU<|sM Z<|k3<|sK<|sU<|sM Z<|k3<|sU<|sM Z ?_
  refine k3<|sU<|sA Z<|sN<|qR ?_
  cases oI h
  exact qG
 refine sA Z<|sN<|cF<|qK<|gU Z<|sU<|sN<|qR ?_
 cases oI h
 exact qG
instance {a0:bq}:CE prog bi ext (fU a0) 171 [.d (bq.pd a0)] [] fun r=>(rB r,[]):=⟨fun h=>oh h⟩
section
attribute [local irreducible] HM HU HF HB WO WC QS QB sR
instance {a0:bp}:LI (jy a0) 3 (fun s=>[(3,rI s.1),(4,rI s.2)]) (fun s=>[]) (jY 11 (fun y=>[]) (fun y=>[]) Tryz.f128 fun r=>(rB r,[])):=⟨⟩
instance {a0:bp}:CE prog bi ext (lp a0) 128 [.d (bp.pd a0)] [] fun r=>(rB r,[]):=⟨fun h=>Ev.au h Tryz.func128⟩
instance {a0:ba}:CE prog bi ext (iT a0) 85 [.d (ba.pd a0)] [] fun r=>(rB r,[]):=⟨fun h=>Ev.au h Tryz.func85⟩
instance {a0:(List UInt8)}{a1:(List UInt8)}:CE prog bi ext (fy a0 a1) 126 [rS a0,rS a1] [] fun r=>(rI r,[]):=⟨fun h=>Ev.au h Tryz.func126⟩
instance {a0:bj}{a1:bj}:CE prog bi ext (jk a0 a1) 84 [.d (bj.pd a0),.d (bj.pd a1)] [] fun r=>(rI r,[]):=⟨fun h=>Ev.au h Tryz.func84⟩
instance {a0:ac}:LI (gM a0) 2 (fun s=>[(3,rI s)]) (fun s=>[]) (jY 12 (fun y=>[]) (fun y=>[]) Tryz.f49 fun r=>(rB r,[])):=⟨⟩
instance {a:aq}{s1:Int}:LI (gL a s1) 8 (fun s=>[(5,rI s)]) (fun s=>[]) (jY 3 (fun y=>[(3,rI y)]) (fun y=>[]) Tryz.f49 fun r=>(rB r,[])):=⟨⟩
instance {a0:ac}:CE prog bi ext (gl a0) 49 [.d (ac.pd a0)] [] fun r=>(rB r,[]):=⟨fun h=>Ev.au h Tryz.func49⟩
instance {a0:bp}:LI (gW a0) 3 (fun s=>[(4,rI s.1)]) (fun s=>[(416,.arr 0 134 (s.2.map bq.pd))]) (jX 8 (fun o=>[]) fun o=>[(416,.arr 0 134 (o.map bq.pd))]):=⟨⟩
instance {a0:bp}:CE prog bi ext (m9 a0) 207 [.d (bp.pd a0)] [] fun r=>(.d (bp.pd r),[]):=⟨fun h=>Ev.au h Tryz.func207⟩
instance {a0:ba}:CE prog bi ext (jz a0) 166 [.d (ba.pd a0)] [] fun r=>(.d (ba.pd r),[]):=⟨fun h=>Ev.au h Tryz.func166⟩
instance {a0:ac}:LI (fW a0) 3 (fun s=>[(4,rI s.1)]) (fun s=>[(816,.arr 0 81 (s.2.map aq.pd))]) (jX 11 (fun o=>[]) fun o=>[(816,.arr 0 81 (o.map aq.pd))]):=⟨⟩
instance {a0:ac}{s1:Int}{s2:(List aq)}:LI (fV a0 s1 s2) 7 (fun s=>[(6,rI s.1)]) (fun s=>[(720,.arr 0 89 (s.2.map ba.pd))]) (jX 10 (fun o=>[(4,rI o.1)]) fun o=>[(720,.arr 0 89 (o.2.2.map ba.pd)),(816,.arr 0 81 (o.2.1.map aq.pd))]):=⟨⟩
instance {a0:ac}:CE prog bi ext (l8 a0) 113 [.d (ac.pd a0)] [] fun r=>(.d (ac.pd r),[]):=⟨fun h=>Ev.au h Tryz.func113⟩
instance {a0:ac}{a1:bj}:LI (lb a0 a1) 2 (fun s=>[(6,rI s)]) (fun s=>[]) (jY 6 (fun y=>[]) (fun y=>[]) Tryz.f77 fun r=>(.tup [.d (aq.pd r.1),rB r.2],[])):=⟨⟩
instance {a0:ac}{a1:bj}:CE prog bi ext (ng a0 a1) 77 [.d (ac.pd a0),.d (bj.pd a1)] [] fun r=>(.tup [.d (aq.pd r.1),rB r.2],[]):=⟨fun h=>Ev.au h Tryz.func77⟩
instance {a:aq×Bool}{a2:Int}:LI (kg a a2) 5 (fun s=>[(10,rI s)]) (fun s=>[]) (jY 9 (fun y=>[]) (fun y=>[]) Tryz.f45 fun r=>(.tup [.d (ba.pd r.1),rI r.2],[])):=⟨⟩
instance {a0:ac}{a1:bj}{a2:Int}:CE prog bi ext (mT a0 a1 a2) 45 [.d (ac.pd a0),.d (bj.pd a1),rI a2] [] fun r=>(.tup [.d (ba.pd r.1),rI r.2],[]):=⟨fun h=>Ev.au h Tryz.func45⟩
instance {a0:Int}{a1:Int}{a2:Int}:CE prog bi ext (kM a0 a1 a2) 120 [rI a0,rI a1,rI a2] [] fun r=>(rI r,[]):=⟨fun h=>Ev.au h Tryz.func120⟩
instance {a0:Int}:CE prog bi ext (dP a0) 119 [rI a0] [] fun r=>(rI r,[]):=⟨fun h=>Ev.au h Tryz.func119⟩
instance {a0:ah}{a1:aa}:CE prog bi ext (iA a0 a1) 80 [.d (ah.pd a0),.d (aa.pd a1)] [] fun r=>(rI r,[]):=⟨fun h=>Ev.au h Tryz.func80⟩
instance {a0:Int}{a1:Int}{a2:Int}:CE prog bi ext (lQ a0 a1 a2) 121 [rI a0,rI a1,rI a2] [] fun r=>(rI r,[]):=⟨fun h=>Ev.au h Tryz.func121⟩
instance {a0:ah}{a1:aa}:CE prog bi ext (jP a0 a1) 81 [.d (ah.pd a0),.d (aa.pd a1)] [] fun r=>(rI r,[]):=⟨fun h=>Ev.au h Tryz.func81⟩
instance {a0:Int}:LI (mb a0) 3 (fun s=>[(3,rI s.1),(4,rI s.2)]) (fun s=>[]) (jX 8 (fun o=>[(3,rI o)]) fun o=>[]):=⟨⟩
instance {a0:Int}:CE prog bi ext (jQ a0) 117 [rI a0] [] fun r=>(rI r,[]):=⟨fun h=>Ev.au h Tryz.func117⟩
instance {a0:Int}:CE prog bi ext (ma a0) 114 [rI a0] [] fun r=>(rI r,[]):=⟨fun h=>Ev.au h Tryz.func114⟩
instance {a0:aw}:CE prog bi ext (nN a0) 115 [.d (aw.pd a0)] [] fun r=>(rI r,[]):=⟨fun h=>Ev.au h Tryz.func115⟩
instance {a0:aw}{a1:Int}:CE prog bi ext (nL a0 a1) 116 [.d (aw.pd a0),rI a1] [] fun r=>(rI r,[]):=⟨fun h=>Ev.au h Tryz.func116⟩
instance {a0:aw}{a1:Int}:CE prog bi ext (nO a0 a1) 118 [.d (aw.pd a0),rI a1] [] fun r=>(rI r,[]):=⟨fun h=>Ev.au h Tryz.func118⟩
instance {a0:aw}{a1:Int}{a2:Int}:CE prog bi ext (gY a0 a1 a2) 79 [.d (aw.pd a0),rI a1,rI a2] [] fun r=>(.tup [rI r.1,rI r.2.1,rI r.2.2],[]):=⟨fun h=>Ev.au h Tryz.func79⟩
instance {a0:aw}{a1:ah}{a2:aa}:CE prog bi ext (eV a0 a1 a2) 46 [.d (aw.pd a0),.d (ah.pd a1),.d (aa.pd a2)] [] fun r=>(.tup [rI r.1,rI r.2.1,rI r.2.2],[]):=⟨fun h=>Ev.au h Tryz.func46⟩
instance {a0:aj}{a1:ac}{a2:ak}:CE prog bi ext (eh a0 a1 a2) 16 [.d (aj.pd a0),.d (ac.pd a1),.d (ak.pd a2)] [] fun r=>(.tup [.d (br.pd r.1),rB r.2],[]):=⟨fun h=>Ev.au h Tryz.func16⟩
instance {a0:Int}:CE prog bi ext (ji a0) 218 [rI a0] [] fun r=>(rB r,[]):=⟨fun h=>Ev.au h Tryz.func218⟩
instance {a0:Int}{a1:Int}:CE prog bi ext (cr a0 a1) 169 [rI a0,rI a1] [] fun r=>(rI r,[]):=⟨fun h=>Ev.au h Tryz.func169⟩
instance {a0:ak}{a1:ak}:CE prog bi ext (cC a0 a1) 124 [.d (ak.pd a0),.d (ak.pd a1)] [] fun r=>(rI r,[]):=⟨fun h=>Ev.au h Tryz.func124⟩
end
theorem np{d0:(List ak)}{r:(List ak)}(h:dR d0=some r):EvP prog bi ext 125 [.ref 0 0] [.arr 0 67 (d0.map ak.pd)] (rM ak.pd r,[.dead]):=by
 refine Ev.body Z Tryz.func125 Z Zk<|gU Z<|sV .px<|sN<|qS<|gU Z<|sM Z<|WO.lenR Z Z Z Z Z Z Z Z Z<|sF h ?_ ?_<;>intro h
 ·refine sN<|cT<|gU Z<|sM Z<|sA Z<|sN<|qR ?_
  exact oI h▸qD
 refine sN<|cF<|qK<|qS<|gU Z<|sV (rI 1)<|sN<|bE h fun Y l h=>EI (EJ (WL.qz l (fun s=>gI 1 125 4 [(0,.ref 0 0),(3,rI s)] [(0,.arr 0 67 (d0.map ak.pd))]) (fun o=>match o with| .inl y=>gX 0 1 125 16 [(0,.ref 0 0)] [(0,.arr 0 67 (d0.map ak.pd))]| .inr r=>gF 125 Tryz.f125 1 (rM ak.pd r,[.dead])) Z ?_ ?_))
 ·rintro s2 C B q3 f h
  refine qS<|gS Z f<|mM Z<|WO.lenR Z Z Z Z Z Z Z Z Z<|sF h ?_ ?_<;>intro h
  ·refine sN<|cT<|qK<|qS<|qB<|EK Z Z<|mM Z<|bE h fun x6 h6 h=>WO.uf h6 Z Z Z Z Z Z Z Z<|bE h fun x7 h7 h=>WO.ry h7 Z Z Z Z Z Z<|mM Z<|sV (rI (rW (s2-(1:Int)))) ?_
   refine bE h fun x9 h9 h=>WO.uf h9 Z Z Z Z Z Z Z Z<|bE h fun q D h=>WO.ry D Z Z Z Z Z Z<|qO h (fun a h=>?_) (fun a h=>?_)
   ·refine WO.ud (eqE_67 x7 q) a Z Z Z Z Z ?_
    refine sN<|sO<|cT<|gU Z<|mM Z<|bE h fun b3 E h=>WO.subR E Z Z Z Z Z Z Z Z Z Z Z Z<|sA Z<|sN<|qS<|gU Z<|sV (rI 1)<|sN<|bE h fun a7 k h=>EI (EJ (WL.qz k (fun s=>gI 1 125 9 [(0,.ref 0 0),(3,rI s.1),(4,.view 0 0 (0+(s2:Int).toNat) (0+((d0.length:Int):Int).toNat)),(5,rI s.2.1)] [(0,.arr 0 67 (s.2.2.map ak.pd))]) (fun o=>gX 2 1 125 14 [(0,.ref 0 0),(3,rI o.1)] [(0,.arr 0 67 (o.2.map ak.pd))]) Z ?_ ?_))
    ·rintro⟨a5,j,b0⟩ C B a8 f h
     unfold gf at h
     refine qS<|gS Z f<|mM Z<|bE h fun b4 F h=>WO.lenVw F Z Z Z Z Z Z Z Z Z<|sF h ?_ ?_<;>intro h
     ·refine sN<|cT<|qK<|qS<|qB<|EK Z Z<|mM Z<|bE h fun b5 G h=>WO.eltV G Z Z Z Z Z Z Z Z<|bE h fun t H h=>WO.ry H Z Z Z Z Z Z<|mM Z<|sV (rI (rW (j-(1:Int)))) ?_
      refine bE h fun b6 I h=>WO.eltV I Z Z Z Z Z Z Z Z<|bE h fun u J h=>WO.ry J Z Z Z Z Z Z<|qO h (fun c h=>?_) (fun c h=>?_)
      ·refine WO.ud (eqN_67 t u) c Z Z Z Z Z ?_
       refine sN<|sO<|cT<|gU Z<|mM Z<|mM Z<|bE h fun c0 K h=>WO.eltV K Z Z Z Z Z Z Z Z<|bE h fun a6 L h=>WO.ry L Z Z Z Z Z Z<|bE h fun c1 N h=>WO.uf N Z Z Z Z Z Z Z Z<|bE h fun c2 O h=>WO.yH (g:=ak.pd) (sz:=9) (p:=ak.pd a6) O (by intro _;kernel_rfl) (by intro _;kernel_rfl) Z Z Z Z Z Z Z Z Z ?_
       refine sN<|EH Z Z<|sM Z<|sV (rI (rW (a5+(1:Int))))<|sA Z<|sN<|EH Z Z<|sM Z<|sV (rI (rW (j+(1:Int))))<|sA Z<|sN ?_
       cases oI h
       exact⟨rfl,rfl⟩
      refine WO.ud (eqN_67 t u) c Z Z Z Z Z ?_
      refine sN<|sO<|cF<|qK<|EH Z Z<|sM Z<|sV (rI (rW (j+(1:Int))))<|sA Z<|sN ?_
      cases oI h
      exact⟨rfl,rfl⟩
     refine sN<|cF<|qX ?_
     cases oI h
     exact⟨nofun,rfl,rfl⟩
    intro e C B he x
    obtain⟨rfl,f⟩:=x
    refine qE<|gS Z f<|mM Z<|bE h fun c3 Q h=>WO.subR Q Z Z Z Z Z Z Z Z Z Z Z Z<|bE h fun c4 T h=>WO.clearN (z:=(ak.mk (bj.mk [] [] [] []) 0 0 0 0 0)) (g:=ak.pd) Z Z Z Z Z Z Z (yf T Z) Z Z Z Z<|sN<|gU Z<|mM Z<|bE h fun c5 W h=>WO.subR W Z Z Z Z Z Z Z Z Z Z Z Z<|sA Z ?_
    refine sN<|qR<|bE h fun c6 X h=>?_
    cases oI h
    exact⟨nofun,rfl,(Av X rfl rfl rfl rfl rfl)⟩
   refine WO.ud (eqE_67 x7 q) a Z Z Z Z Z ?_
   refine sN<|sO<|cF<|qK<|EH Z Z<|sM Z<|sV (rI (rW (s2+(1:Int))))<|sA Z<|sN ?_
   cases oI h
   exact⟨rfl,rfl⟩
  refine sN<|cF<|qX ?_
  cases oI h
  exact⟨nofun,rfl,rfl⟩
 intro e C B he x
 rcases Y with c7|a9
 ·obtain⟨rfl,f⟩:=x
  refine qE<|gS Z f<|sM Z<|sA Z<|sN<|qR ?_
  exact oI h▸qD
 obtain⟨rfl,hf⟩:=x
 cases oI h
 exact hf
instance {d0:(List ak)}:CE prog bi ext (dR d0) 125 [.ref 0 0] [.arr 0 67 (d0.map ak.pd)] fun r=>(rM ak.pd r,[.dead]):=⟨fun h=>np h⟩
section
attribute [local irreducible] HM HU HF HB WO WC QS QB sR
instance {a0:(List ak)}:CE prog bi ext (ln a0) 82 [rM ak.pd a0] [] fun r=>(rM ak.pd r,[]):=⟨fun h=>Ev.au h Tryz.func82⟩
instance {a:(List ak)}{a0:aj}{a1:ac}:LI (fI a a0 a1) 7 (fun s=>[(27,rI s.1)]) (fun s=>[(704,.arr 0 67 (s.2.1.map ak.pd)),(784,.arr 0 61 (s.2.2.1.map br.pd)),(864,.arr 0 89 (s.2.2.2.map ba.pd))]) (jX 13 (fun o=>[]) fun o=>[(704,.arr 0 67 (o.1.map ak.pd)),(784,.arr 0 61 (o.2.1.map br.pd)),(864,.arr 0 89 (o.2.2.map ba.pd))]):=⟨⟩
instance {a0:aj}{a1:ac}{a2:(List ak)}:CE prog bi ext (ew a0 a1 a2) 47 [.d (aj.pd a0),.d (ac.pd a1),rM ak.pd a2] [] fun r=>(.tup [.d (bP.pd r.1),rI r.2],[]):=⟨fun h=>Ev.au h Tryz.func47⟩
instance {a0:bP}{a1:aj}:CE prog bi ext (eQ a0 a1) 48 [.d (bP.pd a0),.d (aj.pd a1)] [] fun r=>(.tup [.d (ai.pd r.1),rI r.2],[]):=⟨fun h=>Ev.au h Tryz.func48⟩
instance {a0:aj}{a1:ac}{a2:(List ak)}:CE prog bi ext (iX a0 a1 a2) 17 [.d (aj.pd a0),.d (ac.pd a1),rM ak.pd a2] [] fun r=>(.tup [.d (ai.pd r.1),rI r.2],[]):=⟨fun h=>Ev.au h Tryz.func17⟩
instance {a0:ak}{a1:ak}:CE prog bi ext (lc a0 a1) 129 [.d (ak.pd a0),.d (ak.pd a1)] [] fun r=>(rI r,[]):=⟨fun h=>Ev.au h Tryz.func129⟩
end
theorem ref23_Sort_ev{a0:(List ak)}{r:(List ak)}(h:kK a0=some r):EvP prog bi ext 86 [rM ak.pd a0] [] (rM ak.pd r,[]):=by
 refine Ev.body Z Tryz.func86 Z Zk<|gU Z<|sV .px<|sN<|gU Z<|sV .px<|sN<|qS<|gU Z<|sV (r0)<|sN<|bE h fun a5 l h=>EI (EJ (WL.qz l (fun s=>gI 0 86 3 [(0,rM ak.pd a0),(3,.ref 816 0),(4,rI s.1)] [(816,.arr 0 67 (s.2.map ak.pd))]) (fun o=>gX 0 0 86 12 [(3,.ref 816 0)] [(816,.arr 0 67 (o.map ak.pd))]) Z ?_ ?_))
 ·rintro⟨s1,s2⟩ j f q4 c h
  refine qS<|gS Z c<|mM Z<|sE (rI (a0.length:Int)) (qy _ _)<|sF h ?_ ?_<;>intro h
  ·refine sN<|cT<|qK<|qS<|qB<|gU Z<|sM Z<|WO.lenR Z Z Z Z Z Z Z Z Z<|sA Z<|sN<|qS<|bE h fun a k h=>EI (EJ (WL.qz k (fun s=>gI 0 86 6 [(0,rM ak.pd a0),(3,.ref 816 0),(4,rI s1),(5,rI s)] [(816,.arr 0 67 (s2.map ak.pd))]) (fun o=>gX 2 0 86 8 [(0,rM ak.pd a0),(3,.ref 816 0),(4,rI o.1),(5,rI o.2.1)] [(816,.arr 0 67 (o.2.2.map ak.pd))]) Z ?_ ?_))
   ·rintro s6 j f a6 c h
    refine qS<|EK c Z<|sM Z<|sF h ?_ ?_<;>intro h
    ·refine mM Z<|sM Z<|sV (rI (rW (s6-(1:Int))))<|bE h fun a7 y h=>WO.uf y Z Z Z Z Z Z Z Z<|bE h fun a8 z h=>WO.ry z Z Z Z Z Z Z<|mM Z<|bE h fun W B h=>eG B Z<|sV (.d (ak.pd W))<|bE h fun X C h=>cD (ce C) ?_
     refine sV (rB (decide (X>(0:Int))))<|sF h ?_ ?_<;>intro h
     ·refine sN<|sO<|cT<|qK<|qB<|EH Z Z<|sM Z<|sV (rI (rW (s6-(1:Int))))<|sA Z<|sN ?_
      cases oI h
      exact⟨rfl,rfl⟩
     refine sN<|sO<|cF<|qX ?_
     cases oI h
     exact⟨nofun,rfl,rfl⟩
    refine sM Z<|k3<|k3<|k3<|sK<|sK<|sU ?_
    refine sN<|sO<|cF<|qX ?_
    cases oI h
    exact⟨nofun,rfl,rfl⟩
   intro e j f he T
   obtain⟨rfl,c⟩:=T
   refine qE<|WC.join (α:=Unit) (fun x j f=>pK prog 0 (A j f) (bi.at_ 86 0 9)=some (A [(0,rM ak.pd a0),(3,.ref 816 0),(4,rI a.1),(5,rI a.2.1)] [(816,.arr 0 67 (a.2.2.map ak.pd))])) (fun x=>f7 a0 a=some q4) ?_ ?_
   ·refine EK c Z<|sM Z<|sF h ?_ ?_<;>intro h
    ·refine mM Z<|sM Z<|sV (rI (rW (a.2.1-(1:Int))))<|bE h fun c1 N h=>WO.uf N Z Z Z Z Z Z Z Z<|bE h fun Y O h=>WO.ry O Z Z Z Z Z Z<|mM Z<|bE h fun u Q h=>eG Q Z<|sV (.d (ak.pd u))<|WO.bin (eqE_67 Y u) Z Z Z Z Z<|sF h ?_ ?_<;>intro h
     ·refine sN<|sO<|cT<|qX<|qE<|EH Z Z<|sM Z<|sV (rI (rW (a.1+(1:Int))))<|sA Z<|sN ?_
      cases oI h
      exact⟨rfl,rfl⟩
     exact sN<|sO<|cF<|qK<|⟨(),rfl,h⟩
    refine sM Z<|k3<|k3<|k3<|sK<|sU ?_
    exact sN<|sO<|cF<|qK<|⟨(),rfl,h⟩
   rintro⟨⟩ j f c h
   refine gS Z c<|mM Z<|sM Z<|bE h fun q D h=>eG D Z<|sV (.d (ak.pd q))<|sG (.d (.lst ([q].map ak.pd)))<|bE h fun a9 E h=>aR E (fun _=>Z) Z<|sA Z<|sN<|EK Z Z<|sM Z<|sM Z ?_
   refine sV (rI (rW (a.2.1+(1:Int))))<|bE h fun b0 F h=>WO.subR F Z Z Z Z Z Z Z Z Z Z Z Z<|mM Z<|bE h fun b3 G h=>WO.subR G Z Z Z Z Z Z Z Z Z Z Z Z<|bE h fun b4 H h=>bE h fun b5 I h=>WO.copyG Z Z Z Z Z Z Z Z (yf H Z) (AM I Z) Z Z (fun _=>Z) ?_
   refine sN<|sO<|EH Z Z<|mM Z<|mM Z<|bE h fun t J h=>eG J Z<|sV (.d (ak.pd t))<|bE h fun b6 K h=>WO.uf K Z Z Z Z Z Z Z Z<|bE h fun c0 L h=>WO.yH (g:=ak.pd) (sz:=9) (p:=ak.pd t) L (by intro _;kernel_rfl) (by intro _;kernel_rfl) Z Z Z Z Z Z Z Z Z<|sN<|EH Z Z ?_
   refine sM Z<|sV (rI (rW (a.1+(1:Int))))<|sA Z<|sN ?_
   cases oI h
   exact⟨rfl,rfl⟩
  refine sN<|cF<|qX ?_
  cases oI h
  exact⟨nofun,rfl,rfl⟩
 intro e j f he T
 obtain⟨rfl,c⟩:=T
 refine qE<|gS Z c<|sM Z<|sA Z<|sN<|qR ?_
 exact oI h▸qD
instance {a0:(List ak)}:CE prog bi ext (kK a0) 86 [rM ak.pd a0] [] fun r=>(rM ak.pd r,[]):=⟨fun h=>ref23_Sort_ev h⟩
section
attribute [local irreducible] HM HU HF HB WO WC QS QB sR
instance {a:(List ak)}{a0:aj}{a1:ac}:LI (jD a a0 a1) 3 (fun s=>[(15,rI s.1)]) (fun s=>[(480,.arr 0 67 (s.2.map ak.pd))]) (jX 9 (fun o=>[]) fun o=>[(480,.arr 0 67 (o.map ak.pd))]):=⟨⟩
instance {a0:aj}{a1:ac}{a2:(List ak)}:CE prog bi ext (jT a0 a1 a2) 50 [.d (aj.pd a0),.d (ac.pd a1),rM ak.pd a2] [] fun r=>(rM ak.pd r,[]):=⟨fun h=>Ev.au h Tryz.func50⟩
instance {a:(List ak)}{a0:aj}{a1:ac}:LI (ie a a0 a1) 7 (fun s=>[(36,rI s.1)]) (fun s=>[(816,.arr 0 61 (s.2.map br.pd))]) (jX 12 (fun o=>[]) fun o=>[(816,.arr 0 61 (o.map br.pd))]):=⟨⟩
instance {a0:aj}{a1:ac}{a2:(List ak)}:CE prog bi ext (ef a0 a1 a2) 18 [.d (aj.pd a0),.d (ac.pd a1),rM ak.pd a2] [] fun r=>(.tup [.d (ai.pd r.1),rI r.2],[]):=⟨fun h=>Ev.au h Tryz.func18⟩
instance {a0:ai}:LI (fF a0) 14 (fun s=>[(40,rI s)]) (fun s=>[]) (jY 20 (fun y=>[]) (fun y=>[]) Tryz.f130 fun r=>(rI r,[])):=⟨⟩
instance {a0:ai}:CE prog bi ext (gH a0) 130 [.d (ai.pd a0)] [] fun r=>(rI r,[]):=⟨fun h=>Ev.au h Tryz.func130⟩
instance {a0:ah}{a1:aa}:CE prog bi ext (fi a0 a1) 282 [.d (ah.pd a0),.d (aa.pd a1)] [] fun r=>(rB r,[]):=⟨fun h=>Ev.au h Tryz.func282⟩
instance {a0:ah}{a1:ah}:CE prog bi ext (ju a0 a1) 260 [.d (ah.pd a0),.d (ah.pd a1)] [] fun r=>(rB r,[]):=⟨fun h=>Ev.au h Tryz.func260⟩
instance {a0:ai}{a1:ah}:LI (eS a0 a1) 3 (fun s=>[(18,rI s.1)]) (fun s=>[(224,.arr 0 144 (s.2.map bw.pd))]) (jY 10 (fun y=>[]) (fun y=>[(224,.arr 0 144 (y.map bw.pd))]) Tryz.f261 fun r=>(.tup [rM bw.pd r.1,rI r.2],[])):=⟨⟩
instance {a0:ai}{a1:ah}:CE prog bi ext (m5 a0 a1) 261 [.d (ai.pd a0),.d (ah.pd a1)] [] fun r=>(.tup [rM bw.pd r.1,rI r.2],[]):=⟨fun h=>Ev.au h Tryz.func261⟩
end
end Go.Dw.Ss
