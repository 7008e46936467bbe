
import Derived.Test.YthkfkgoddhehcaaGreatEfEvA
set_option linter.unusedVariables false
set_option linter.unusedSimpArgs false
open Go.Dw.WC renaming block->Gc, loop->Gd, region->Gb, tw->Ge, uI->Gf, uR->Gg

set_option maxRecDepth 100000
set_option maxHeartbeats 4000000
namespace Go.Dw.Ef
open Go.Proofs Go.Proofs.Tryz Go.Dw
theorem qA{a0:bw}{r:Bool}(h:dh a0=some r):EvP prog bj ext 292 [.d (bw.pd a0)] [] (rB r,[]):=by
 refine Ev.body Z func292 Z Zk<|gU Z<|sB (.ptr 16 0) 16 (.var (bw.rc a0))<|sU<|sN<|gU Z<|sV (.ptr 16 7)<|sL Z<|sE (rI (a0.cx.length:Int)) (uf _ _)<|sF h ?_ ?_<;>intro h
 ·refine sM Z<|sV (.ptr 16 8)<|sL Z<|sV (rB (a0.b8==(0:Int)))<|sF h ?_ ?_<;>intro h
  ·refine sM Z<|sV (.ptr 16 9)<|sL Z<|sV (rB (a0.cM==(0:Int)))<|sV (rB (a0.cM==(0:Int)))<|sA Z<|sN<|qS<|gU Z<|sV (.ptr 16 0)<|sL Z<|sN<|qB<|gU Z<|sF h ?_ ?_<;>intro h
   ·refine sA Z<|sN<|cT<|gU Z<|sF h ?_ ?_<;>intro h
    ·refine sM Z<|sV (.ptr 16 1)<|sV (.d (bH.pd a0.bR))<|sV (.ptr 16 1)<|sV (.ptr 16 1)<|sL Z<|sV (.d (bH.pd (bH.mk a0.bR.a0 0 0)))<|WO.bin (fw a0.bR (bH.mk a0.bR.a0 0 0)) Z Z Z Z Z<|sF h ?_ ?_<;>intro h
     ·refine sM Z<|sV (.ptr 16 4)<|sV (.d (bH.pd a0.bO))<|sV (.ptr 16 4)<|sV (.ptr 16 4)<|sL Z<|sV (.d (bH.pd (bH.mk a0.bO.a0 0 0)))<|WO.bin (fw a0.bO (bH.mk a0.bO.a0 0 0)) Z Z Z Z Z<|sF h ?_ ?_<;>intro h
      ·refine sM Z<|sV (.ptr 16 1)<|sV (.ptr 16 1)<|sL Z<|bE h λx7 O h=>cD (ce O)<|sF h ?_ ?_<;>intro h
       ·refine sM Z<|sV (.ptr 16 4)<|sV (.ptr 16 4)<|sL Z<|bE h λx9 Q h=>cD (ce Q)<|sV (rB x9)<|sA Z<|sN<|qR ?_
        cases oI h
        exact qG
       refine sM Z<|k3<|sK<|sU<|sA Z<|sN<|qR ?_
       cases oI h
       exact qG
      refine sM Z<|k3<|sK<|sU<|sM Z<|k3<|sK<|sU<|sA Z<|sN<|qR ?_
      cases oI h
      exact qG
     refine sM Z<|k3<|k3<|sK<|sU<|sM Z<|k3<|sK<|sU ?_
     refine sM Z<|k3<|sK<|sU<|sA Z<|sN<|qR ?_
     cases oI h
     exact qG
    refine sM Z<|k3<|k3<|sK<|sU<|sM Z<|k3<|sK<|sK ?_
    refine sK<|sK<|sU<|sM Z<|k3<|sK<|sU<|sM Z<|k3<|sK<|sU ?_
    refine sA Z<|sN<|qR ?_
    cases oI h
    exact qG
   refine sA Z<|sN<|cF<|gU Z<|sF h ?_ ?_<;>intro h
   ·refine sA Z<|sN<|cT<|Gg (R0:=[(1,.cptr [.int .i64 a0.cU,.int .i64 a0.bR.a0,.int .i64 a0.bR.a1,.int .i64 a0.bR.a2,.int .i64 a0.bO.a0,.int .i64 a0.bO.a1,.int .i64 a0.bO.a2,.lst (a0.cx.map (PD.int .i64)),.int .i64 a0.b8,.int .i64 a0.cM]),(3,rB (a0.cM==(0:Int)))]) (B0:=[]) Z Z<|sF h ?_ ?_<;>intro h
    ·refine sM Z<|sV (.cptr [.int .i64 a0.bR.a0,.int .i64 a0.bR.a1,.int .i64 a0.bR.a2,.int .i64 a0.bO.a0,.int .i64 a0.bO.a1,.int .i64 a0.bO.a2,.lst (a0.cx.map (PD.int .i64)),.int .i64 a0.b8,.int .i64 a0.cM])<|sV (.d (.lst ([a0.bR.a0,a0.bR.a1,a0.bR.a2].map (PD.int .i64))))<|bE h λT g h=>cD (ce g)<|sF h ?_ ?_<;>intro h
     ·refine sM Z<|sV (.cptr [.int .i64 a0.bO.a0,.int .i64 a0.bO.a1,.int .i64 a0.bO.a2,.lst (a0.cx.map (PD.int .i64)),.int .i64 a0.b8,.int .i64 a0.cM])<|sV (.d (.lst ([a0.bO.a0,a0.bO.a1,a0.bO.a2].map (PD.int .i64))))<|bE h λW j h=>cD (ce j)<|sF h ?_ ?_<;>intro h
      ·refine sM Z<|sV (.cptr [.int .i64 a0.bO.a0,.int .i64 a0.bO.a1,.int .i64 a0.bO.a2,.lst (a0.cx.map (PD.int .i64)),.int .i64 a0.b8,.int .i64 a0.cM])<|sV (.cptr [.int .i64 a0.bO.a0,.int .i64 a0.bO.a1,.int .i64 a0.bO.a2,.lst (a0.cx.map (PD.int .i64)),.int .i64 a0.b8,.int .i64 a0.cM])<|sC Z<|sV (rB (a0.bO.a0 != (0:Int)))<|sV (rB (a0.bO.a0 != (0:Int)))<|sA Z<|sN<|qR ?_
       exact oI h▸qD
      refine sM Z<|k3<|sK<|sU<|sA Z<|sN<|qR ?_
      exact oI h▸qD
     refine sM Z<|k3<|sU<|sM Z<|k3<|sK<|sU<|sA Z<|sN<|qR ?_
     exact oI h▸qD
    refine sM Z<|k3<|sU<|sM Z<|k3<|sU<|sM Z<|k3<|sK ?_
    refine sU<|sA Z<|sN<|qR ?_
    exact oI h▸qD
   refine sA Z<|sN<|cF<|gU Z<|sF h ?_ ?_<;>intro h
   ·refine sA Z<|sN<|cT<|gU Z<|sV (.ptr 16 1)<|sV (.d (bH.pd a0.bR))<|sV (.d (bH.pd (bH.mk 0 0 0)))<|vG h (λa h=>?_) (λa h=>?_)
    ·refine WO.yV (fw a0.bR (bH.mk 0 0 0)) a Z Z Z Z Z<|sM Z<|sV (.ptr 16 4)<|sV (.d (bH.pd a0.bO))<|sV (.d (bH.pd (bH.mk 0 0 0)))<|WO.bin (fw a0.bO (bH.mk 0 0 0)) Z Z Z Z Z<|sF h ?_ ?_<;>intro h
     ·refine sM Z<|sV (.ptr 16 7)<|sL Z<|sE (rI (a0.cx.length:Int)) (uf _ _)<|bE h λX k h=>cD (ce k)<|sF h ?_ ?_<;>intro h
      ·refine sM Z<|sV (.ptr 16 7)<|sL Z<|bE h λY l h=>cD (ce l)<|sF h ?_ ?_<;>intro h
       ·refine sM Z<|sV (.ptr 16 7)<|sL Z<|bE h λH p h=>cD (ce p)<|sV (rB (H != (0:Int)))<|sF h ?_ ?_<;>intro h
        ·refine sM Z<|sV (.ptr 16 8)<|sL Z<|bE h λa5 q h=>cD (ce q)<|sF h ?_ ?_<;>intro h
         ·refine sM Z<|sV (.ptr 16 9)<|sL Z<|bE h λI t h=>cD (ce t)<|sV (rB I)<|sA Z<|sN<|qR ?_
          cases oI h
          exact qG
         refine sM Z<|k3<|sU<|sA Z<|sN<|qR ?_
         cases oI h
         exact qG
        refine sM Z<|k3<|sU<|sM Z<|k3<|sU<|sA Z<|sN<|qR ?_
        cases oI h
        exact qG
       refine sM Z<|k3<|sK<|sU<|sM Z<|k3<|sU<|sM Z<|sK<|sK<|sK ?_
       refine sU<|sA Z<|sN<|qR ?_
       cases oI h
       exact qG
      refine sM Z<|k3<|sU<|sM Z<|k3<|sK<|sU<|sM Z<|sK<|sK<|sK ?_
      refine sU<|sM Z<|k3<|sU<|sA Z<|sN<|qR ?_
      cases oI h
      exact qG
     refine sM Z<|k3<|sK<|sU<|sM Z<|k3<|sU<|sM Z<|sK<|sK<|sK ?_
     refine sK<|sU<|sM Z<|k3<|sU<|sM Z<|k3<|sU<|sA Z<|sN<|qR ?_
     cases oI h
     exact qG
    refine WO.yV (fw a0.bR (bH.mk 0 0 0)) a Z Z Z Z Z<|sM Z<|k3<|sK<|sU<|sM Z<|k3<|sK<|sU<|sM Z<|sK ?_
    refine sK<|sK<|sU<|sM Z<|k3<|sK<|sU<|sM Z<|k3<|sU<|sM Z ?_
    refine k3<|sU<|sA Z<|sN<|qR ?_
    cases oI h
    exact qG
   refine sA Z<|sN<|cF<|qK<|gU Z<|sU<|sN<|qR ?_
   cases oI h
   exact qG
  refine sM Z<|k3<|sU<|sA Z<|sN<|qS<|gU Z<|sV (.ptr 16 0)<|sL Z<|sN<|qB<|gU Z<|sF h ?_ ?_<;>intro h
  ·refine sA Z<|sN<|cT<|gU Z<|mM Z<|k3<|k3<|sK<|sU<|sM Z ?_
   refine k3<|k3<|sK<|sU<|sM Z<|k3<|sK<|sU<|sM Z ?_
   refine k3<|sK<|sU<|sA Z<|sN<|qR ?_
   cases oI h
   exact qG
  refine sA Z<|sN<|cF<|gU Z<|sF h ?_ ?_<;>intro h
  ·refine sA Z<|sN<|cT<|Gg (R0:=[(1,.cptr [.int .i64 a0.cU,.int .i64 a0.bR.a0,.int .i64 a0.bR.a1,.int .i64 a0.bR.a2,.int .i64 a0.bO.a0,.int .i64 a0.bO.a1,.int .i64 a0.bO.a2,.lst (a0.cx.map (PD.int .i64)),.int .i64 a0.b8,.int .i64 a0.cM]),(3,rB false)]) (B0:=[]) Z Z<|mM Z<|k3<|sU<|sM Z<|k3<|sU ?_
   refine sM Z<|k3<|sK<|sU<|sA Z<|sN<|qR ?_
   exact oI h▸qD
  refine sA Z<|sN<|cF<|gU Z<|sF h ?_ ?_<;>intro h
  ·refine sA Z<|sN<|cT<|gU Z<|sV (.ptr 16 1)<|sV (.d (bH.pd a0.bR))<|sV (.d (bH.pd (bH.mk 0 0 0)))<|vG h (λc h=>?_) (λc h=>?_)
   ·refine WO.yV (fw a0.bR (bH.mk 0 0 0)) c Z Z Z Z Z<|sM Z<|sV (.ptr 16 4)<|sV (.d (bH.pd a0.bO))<|sV (.d (bH.pd (bH.mk 0 0 0)))<|WO.bin (fw a0.bO (bH.mk 0 0 0)) Z Z Z Z Z<|sF h ?_ ?_<;>intro h
    ·refine sM Z<|sV (.ptr 16 7)<|sL Z<|sE (rI (a0.cx.length:Int)) (uf _ _)<|bE h λa6 u h=>cD (ce u)<|sF h ?_ ?_<;>intro h
     ·refine sM Z<|sV (.ptr 16 7)<|sL Z<|bE h λa7 x h=>cD (ce x)<|sF h ?_ ?_<;>intro h
      ·refine sM Z<|sV (.ptr 16 7)<|sL Z<|bE h λJ y h=>cD (ce y)<|sV (rB (J != (0:Int)))<|sF h ?_ ?_<;>intro h
       ·refine sM Z<|sV (.ptr 16 8)<|sL Z<|bE h λa8 z h=>cD (ce z)<|sF h ?_ ?_<;>intro h
        ·refine sM Z<|sV (.ptr 16 9)<|sL Z<|bE h λK B h=>cD (ce B)<|sV (rB K)<|sA Z<|sN<|qR ?_
         cases oI h
         exact qG
        refine sM Z<|k3<|sU<|sA Z<|sN<|qR ?_
        cases oI h
        exact qG
       refine sM Z<|k3<|sU<|sM Z<|k3<|sU<|sA Z<|sN<|qR ?_
       cases oI h
       exact qG
      refine sM Z<|k3<|sK<|sU<|sM Z<|k3<|sU<|sM Z<|sK<|sK<|sK ?_
      refine sU<|sA Z<|sN<|qR ?_
      cases oI h
      exact qG
     refine sM Z<|k3<|sU<|sM Z<|k3<|sK<|sU<|sM Z<|sK<|sK<|sK ?_
     refine sU<|sM Z<|k3<|sU<|sA Z<|sN<|qR ?_
     cases oI h
     exact qG
    refine sM Z<|k3<|sK<|sU<|sM Z<|k3<|sU<|sM Z<|sK<|sK<|sK ?_
    refine sK<|sU<|sM Z<|k3<|sU<|sM Z<|k3<|sU<|sA Z<|sN<|qR ?_
    cases oI h
    exact qG
   refine WO.yV (fw a0.bR (bH.mk 0 0 0)) c Z Z Z Z Z<|sM Z<|k3<|sK<|sU<|sM Z<|k3<|sK<|sU<|sM Z<|sK ?_
   refine sK<|sK<|sU<|sM Z<|k3<|sK<|sU<|sM Z<|k3<|sU<|sM Z ?_
   refine k3<|sU<|sA Z<|sN<|qR ?_
   cases oI h
   exact qG
  refine sA Z<|sN<|cF<|qK<|gU Z<|sU<|sN<|qR ?_
  cases oI h
  exact qG
 refine sM Z<|k3<|sU<|sM Z<|k3<|sU<|sA Z<|sN<|qS<|gU Z<|sV (.ptr 16 0) ?_
 refine sL Z<|sN<|qB<|gU Z<|sF h ?_ ?_<;>intro h
 ·refine sA Z<|sN<|cT<|gU Z<|mM Z<|k3<|k3<|sK<|sU<|sM Z ?_
  refine k3<|k3<|sK<|sU<|sM Z<|k3<|sK<|sU<|sM Z ?_
  refine k3<|sK<|sU<|sA Z<|sN<|qR ?_
  cases oI h
  exact qG
 refine sA Z<|sN<|cF<|gU Z<|sF h ?_ ?_<;>intro h
 ·refine sA Z<|sN<|cT<|Gg (R0:=[(1,.cptr [.int .i64 a0.cU,.int .i64 a0.bR.a0,.int .i64 a0.bR.a1,.int .i64 a0.bR.a2,.int .i64 a0.bO.a0,.int .i64 a0.bO.a1,.int .i64 a0.bO.a2,.lst (a0.cx.map (PD.int .i64)),.int .i64 a0.b8,.int .i64 a0.cM]),(3,rB false)]) (B0:=[]) Z Z<|mM Z<|k3<|sU<|sM Z<|k3<|sU ?_
  refine sM Z<|k3<|sK<|sU<|sA Z<|sN<|qR ?_
  exact oI h▸qD
 refine sA Z<|sN<|cF<|gU Z<|sF h ?_ ?_<;>intro h
 ·refine sA Z<|sN<|cT<|gU Z<|sV (.ptr 16 1)<|sV (.d (bH.pd a0.bR))<|sV (.d (bH.pd (bH.mk 0 0 0)))<|vG h (λf h=>?_) (λf h=>?_)
  ·refine WO.yV (fw a0.bR (bH.mk 0 0 0)) f Z Z Z Z Z<|sM Z<|sV (.ptr 16 4)<|sV (.d (bH.pd a0.bO))<|sV (.d (bH.pd (bH.mk 0 0 0)))<|WO.bin (fw a0.bO (bH.mk 0 0 0)) Z Z Z Z Z<|sF h ?_ ?_<;>intro h
   ·refine sM Z<|sV (.ptr 16 7)<|sL Z<|sE (rI (a0.cx.length:Int)) (uf _ _)<|bE h λa9 C h=>cD (ce C)<|sF h ?_ ?_<;>intro h
    ·refine sM Z<|sV (.ptr 16 7)<|sL Z<|bE h λb0 D h=>cD (ce D)<|sF h ?_ ?_<;>intro h
     ·refine sM Z<|sV (.ptr 16 7)<|sL Z<|bE h λL E h=>cD (ce E)<|sV (rB (L != (0:Int)))<|sF h ?_ ?_<;>intro h
      ·refine sM Z<|sV (.ptr 16 8)<|sL Z<|bE h λb3 F h=>cD (ce F)<|sF h ?_ ?_<;>intro h
       ·refine sM Z<|sV (.ptr 16 9)<|sL Z<|bE h λN G h=>cD (ce G)<|sV (rB N)<|sA Z<|sN<|qR ?_
        cases oI h
        exact qG
       refine sM Z<|k3<|sU<|sA Z<|sN<|qR ?_
       cases oI h
       exact qG
      refine sM Z<|k3<|sU<|sM Z<|k3<|sU<|sA Z<|sN<|qR ?_
      cases oI h
      exact qG
     refine sM Z<|k3<|sK<|sU<|sM Z<|k3<|sU<|sM Z<|sK<|sK<|sK ?_
     refine sU<|sA Z<|sN<|qR ?_
     cases oI h
     exact qG
    refine sM Z<|k3<|sU<|sM Z<|k3<|sK<|sU<|sM Z<|sK<|sK<|sK ?_
    refine sU<|sM Z<|k3<|sU<|sA Z<|sN<|qR ?_
    cases oI h
    exact qG
   refine sM Z<|k3<|sK<|sU<|sM Z<|k3<|sU<|sM Z<|sK<|sK<|sK ?_
   refine sK<|sU<|sM Z<|k3<|sU<|sM Z<|k3<|sU<|sA Z<|sN<|qR ?_
   cases oI h
   exact qG
  refine WO.yV (fw a0.bR (bH.mk 0 0 0)) f Z Z Z Z Z<|sM Z<|k3<|sK<|sU<|sM Z<|k3<|sK<|sU<|sM Z<|sK ?_
  refine sK<|sK<|sU<|sM Z<|k3<|sK<|sU<|sM Z<|k3<|sU<|sM Z ?_
  refine k3<|sU<|sA Z<|sN<|qR ?_
  cases oI h
  exact qG
 refine sA Z<|sN<|cF<|qK<|gU Z<|sU<|sN<|qR ?_
 cases oI h
 exact qG
instance {a0}:CEf (dh a0) 292 [.d (bw.pd a0)] [] λr=>(rB r,[]):=⟨λh=>qA h⟩
section
attribute [local irreducible] HM HU HF HB WO WC QS QB vh
instance {a0}:CEf (ik a0) 291 [.d (bw.pd a0)] [] λr=>(rB r,[]):=⟨λh=>Ev.au h func291⟩
instance {a0}:LI (cw a0) 2 (λs=>[(8,rI s)]) (λs=>[]) (jY 7 (λy=>[]) (λy=>[]) f318 λr=>(rI r,[])):=⟨⟩
instance {a0}:CEf (eI a0) 318 [rM bw.pd a0,.d (.raw (.func (.func 291) #[] #[]))] [] λr=>(rI r,[]):=⟨λh=>Ev.au h func318⟩
instance {a0}:CEf (cS a0) 290 [rM bw.pd a0,.d (.raw (.func (.func 291) #[] #[]))] [] λr=>(rB r,[]):=⟨λh=>Ev.au h func290⟩
instance {a0}:LI (fd a0) 3 (λs=>[(3,rI s.1),(8,rI s.2)]) (λs=>[]) (jY 10 (λy=>[(3,rI y)]) (λy=>[]) f293 λr=>(rI r,[])):=⟨⟩
instance {a0}:CEf (gx a0) 293 [rM bw.pd a0] [] λr=>(rI r,[]):=⟨λh=>Ev.au h func293⟩
instance {a0}:CEf (gf a0) 244 [.d (bv.pd a0)] [] λr=>(rB r,[]):=⟨λh=>Ev.au h func244⟩
instance {a0 a1 a2}:CEf (fJ a0 a1 a2) 170 [rI a0,rI a1,rI a2] [] λr=>(rB r,[]):=⟨λh=>Ev.au h func170⟩
instance {a0}:CEf (eD a0) 169 [.d (bi.pd a0)] [] λr=>(rB r,[]):=⟨λh=>Ev.au h func169⟩
instance {a0}:LI (dX a0) 2 (λs=>[(7,rI s)]) (λs=>[]) (jY 7 (λy=>[]) (λy=>[]) f104 λr=>(rB r,[])):=⟨⟩
instance {a0}:CEf (fU a0) 104 [rM bi.pd a0] [] λr=>(rB r,[]):=⟨λh=>Ev.au h func104⟩
instance {a0}:CEf (iq a0) 180 [rS a0] [] λr=>(rB r,[]):=⟨λh=>Ev.au h func180⟩
instance {a0 a1}:CEf (dV a0 a1) 120 [rS a0,rS a1] [] λr=>(rI r,[]):=⟨λh=>Ev.au h func120⟩
instance {a0}:LI (eM a0) 3 (λs=>[(8,rI s)]) (λs=>[]) (jY 8 (λy=>[]) (λy=>[]) f68 λr=>(rI r,[])):=⟨⟩
instance {a0}:CEf (dW a0) 68 [rL a0] [] λr=>(rI r,[]):=⟨λh=>Ev.au h func68⟩
instance {a0 a1}:CEf (iR a0 a1) 69 [.d (bn.pd a0),.d (bn.pd a1)] [] λr=>(rI r,[]):=⟨λh=>Ev.au h func69⟩
instance {a0}:LI (ef a0) 2 (λs=>[(8,rI s)]) (λs=>[]) (jY 7 (λy=>[]) (λy=>[]) f60 λr=>(rB r,[])):=⟨⟩
instance {a0}:CEf (dJ a0) 60 [.d (ag.pd a0)] [] λr=>(rB r,[]):=⟨λh=>Ev.au h func60⟩
instance {a0}:CEf (lL a0) 121 [rI a0] [] λr=>(rB r,[]):=⟨λh=>Ev.au h func121⟩
instance {a0 a1}:CEf (cn a0 a1) 70 [rI a0,rI a1] [] λr=>(rI r,[]):=⟨λh=>Ev.au h func70⟩
instance {a0 a1}:CEf (cJ a0 a1) 38 [.d (ac.pd a0),.d (ac.pd a1)] [] λr=>(rI r,[]):=⟨λh=>Ev.au h func38⟩
end
theorem qC{d0:(List ac)}{r:(List ac)}(h:eU d0=some r):EvP prog bj ext 106 [.ref 0 0] [.arr 0 78 (d0.map ac.pd)] (rM ac.pd r,[.dead]):=by
 refine Ev.body Z func106 Z Zk<|gU Z<|sV .tC<|sN<|qS<|gU Z<|sM Z<|WO.Au Z Z Z Z Z Z Z Z Z<|sF h ?_ ?_<;>intro h
 ·refine sN<|cT<|gU Z<|sM Z<|sA Z<|sN<|qR ?_
  exact oI h▸qD
 refine sN<|cF<|qK<|qS<|gU Z<|sV (rI 1)<|sN<|bE h λY l h=>Gc (Gd (WL.tS l (λs=>gI 1 106 4 [(0,.ref 0 0),(3,rI s)] [(0,.arr 0 78 (d0.map ac.pd))]) (λo=>match o with| .inl y=>gX 0 1 106 16 [(0,.ref 0 0)] [(0,.arr 0 78 (d0.map ac.pd))]| .inr r=>gF 106 f106 1 (rM ac.pd r,[.dead])) Z ?_ ?_))
 ·rintro s2 C B q3 f h
  refine qS<|gS Z f<|mM Z<|WO.Au Z Z Z Z Z Z Z Z Z<|sF h ?_ ?_<;>intro h
  ·refine sN<|cT<|qK<|qS<|qB<|Ge Z Z<|mM Z<|bE h λx6 h6 h=>WO.uS h6 Z Z Z Z Z Z Z Z<|bE h λx7 h7 h=>WO.uw h7 Z Z Z Z Z Z<|mM Z<|sV (rI (rW (s2-(1:Int)))) ?_
   refine bE h λx9 h9 h=>WO.uS h9 Z Z Z Z Z Z Z Z<|bE h λq D h=>WO.uw D Z Z Z Z Z Z<|vG h (λa h=>?_) (λa h=>?_)
   ·refine WO.yV (eqE_78 x7 q) a Z Z Z Z Z ?_
    refine sN<|sO<|cT<|gU Z<|mM Z<|bE h λb3 E h=>WO.AY E Z Z Z Z Z Z Z Z Z Z Z Z<|sA Z<|sN<|qS<|gU Z<|sV (rI 1)<|sN<|bE h λa7 k h=>Gc (Gd (WL.tS k (λs=>gI 1 106 9 [(0,.ref 0 0),(3,rI s.1),(4,.view 0 0 (0+(s2:Int).toNat) (0+((d0.length:Int):Int).toNat)),(5,rI s.2.1)] [(0,.arr 0 78 (s.2.2.map ac.pd))]) (λo=>gX 2 1 106 14 [(0,.ref 0 0),(3,rI o.1)] [(0,.arr 0 78 (o.2.map ac.pd))]) Z ?_ ?_))
    ·rintro⟨a5,j,b0⟩ C B a8 f h
     unfold iM at h
     refine qS<|gS Z f<|mM Z<|bE h λb4 F h=>WO.lenVw F Z Z Z Z Z Z Z Z Z<|sF h ?_ ?_<;>intro h
     ·refine sN<|cT<|qK<|qS<|qB<|Ge Z Z<|mM Z<|bE h λb5 G h=>WO.eltV G Z Z Z Z Z Z Z Z<|bE h λt H h=>WO.uw H Z Z Z Z Z Z<|mM Z<|sV (rI (rW (j-(1:Int)))) ?_
      refine bE h λb6 I h=>WO.eltV I Z Z Z Z Z Z Z Z<|bE h λu J h=>WO.uw J Z Z Z Z Z Z<|vG h (λc h=>?_) (λc h=>?_)
      ·refine WO.yV (eqN_78 t u) c Z Z Z Z Z ?_
       refine sN<|sO<|cT<|gU Z<|mM Z<|mM Z<|bE h λc0 K h=>WO.eltV K Z Z Z Z Z Z Z Z<|bE h λa6 L h=>WO.uw L Z Z Z Z Z Z<|bE h λc1 N h=>WO.uS N Z Z Z Z Z Z Z Z<|bE h λc2 O h=>WO.xu (g:=ac.pd) (sz:=9) (p:=ac.pd a6) O (by intro _;kernel_rfl) (by intro _;kernel_rfl) Z Z Z Z Z Z Z Z Z ?_
       refine sN<|Gb Z Z<|sM Z<|sV (rI (rW (a5+(1:Int))))<|sA Z<|sN<|Gb Z Z<|sM Z<|sV (rI (rW (j+(1:Int))))<|sA Z<|sN ?_
       cases oI h
       exact⟨rfl,rfl⟩
      refine WO.yV (eqN_78 t u) c Z Z Z Z Z ?_
      refine sN<|sO<|cF<|qK<|Gb Z Z<|sM Z<|sV (rI (rW (j+(1:Int))))<|sA Z<|sN ?_
      cases oI h
      exact⟨rfl,rfl⟩
     refine sN<|cF<|qX ?_
     cases oI h
     exact⟨nofun,rfl,rfl⟩
    intro e C B he x
    obtain⟨rfl,f⟩:=x
    refine qE<|gS Z f<|mM Z<|bE h λc3 Q h=>WO.AY Q Z Z Z Z Z Z Z Z Z Z Z Z<|bE h λc4 T h=>WO.clearN (z:=(ac.mk (bn.mk [] [] [] []) 0 0 0 0 0)) (g:=ac.pd) Z Z Z Z Z Z Z (yr T Z) Z Z Z Z<|sN<|gU Z<|mM Z<|bE h λc5 W h=>WO.AY W Z Z Z Z Z Z Z Z Z Z Z Z<|sA Z ?_
    refine sN<|qR<|bE h λc6 X h=>?_
    cases oI h
    exact⟨nofun,rfl,(CS X rfl rfl rfl rfl rfl)⟩
   refine WO.yV (eqE_78 x7 q) a Z Z Z Z Z ?_
   refine sN<|sO<|cF<|qK<|Gb Z Z<|sM Z<|sV (rI (rW (s2+(1:Int))))<|sA Z<|sN ?_
   cases oI h
   exact⟨rfl,rfl⟩
  refine sN<|cF<|qX ?_
  cases oI h
  exact⟨nofun,rfl,rfl⟩
 intro e C B he x
 rcases Y with c7|a9
 ·obtain⟨rfl,f⟩:=x
  refine qE<|gS Z f<|sM Z<|sA Z<|sN<|qR ?_
  exact oI h▸qD
 obtain⟨rfl,hf⟩:=x
 cases oI h
 exact hf
instance {d0}:CEf (eU d0) 106 [.ref 0 0] [.arr 0 78 (d0.map ac.pd)] λr=>(rM ac.pd r,[.dead]):=⟨λh=>qC h⟩
section
attribute [local irreducible] HM HU HF HB WO WC QS QB vh
instance {a0}:CEf (mu a0) 61 [rM ac.pd a0] [] λr=>(rM ac.pd r,[]):=⟨λh=>Ev.au h func61⟩
instance {a0 a1 a2}:CEf (jA a0 a1 a2) 245 [rI a0,rI a1,rI a2] [] λr=>(rB r,[]):=⟨λh=>Ev.au h func245⟩
instance {a0}:CEf (fb a0) 171 [.d (ac.pd a0)] [] λr=>(rB r,[]):=⟨λh=>Ev.au h func171⟩
instance {a}:LI (fA a) 3 (λs=>[(14,rI s.1)]) (λs=>[(112,.arr 0 129 (s.2.map bw.pd))]) (jX 7 (λo=>[]) λo=>[(112,.arr 0 129 (o.map bw.pd))]):=⟨⟩
instance {a0}:CEf (ic a0) 322 [.d (bi.pd a0)] [] λr=>(.d (bi.pd r),[]):=⟨λh=>Ev.au h func322⟩
instance {a}:LI (gD a) 3 (λs=>[(12,rI s.1)]) (λs=>[(112,.arr 0 75 (s.2.map bi.pd))]) (jX 7 (λo=>[]) λo=>[(112,.arr 0 75 (o.map bi.pd))]):=⟨⟩
instance {a0}:CEf (lh a0) 294 [.d (av.pd a0)] [] λr=>(.agg (bn.rc r.az++[.ref 0 0]),[.arr 0 75 (r.bF.map bi.pd)]):=⟨λh=>Ev.au h func294⟩
instance {a0 a1}:LI (jQ a0 a1) 2 (λs=>[(11,rI s)]) (λs=>[]) (jY 7 (λy=>[]) (λy=>[]) f246 λr=>(.tup [.d (av.pd r.1),rB r.2],[])):=⟨⟩
instance {a0 a1}:CEf (mO a0 a1) 246 [.d (ag.pd a0),.d (bn.pd a1)] [] λr=>(.tup [.d (av.pd r.1),rB r.2],[]):=⟨λh=>Ev.au h func246⟩
instance {a0 a1}:LI (l8 a0 a1) 2 (λs=>[(11,rI s)]) (λs=>[]) (jY 7 (λy=>[]) (λy=>[]) f247 λr=>(.tup [.d (bi.pd r.1),rB r.2],[])):=⟨⟩
instance {a0 a1}:CEf (oe a0 a1) 247 [.d (av.pd a0),rI a1] [] λr=>(.tup [.d (bi.pd r.1),rB r.2],[]):=⟨λh=>Ev.au h func247⟩
instance {a0 a1 a2}:CEf (lg a0 a1 a2) 172 [.d (ag.pd a0),.d (bn.pd a1),rI a2] [] λr=>(.tup [.d (bi.pd r.1),rI r.2],[]):=⟨λh=>Ev.au h func172⟩
instance {a0 a1 a2}:CEf (eO a0 a1 a2) 107 [.d (ai.pd a0),.d (ag.pd a1),.d (ac.pd a2)] [] λr=>(.tup [.d (al.pd r.1),.d (bi.pd r.2.1),rB r.2.2],[]):=⟨λh=>Ev.au h func107⟩
instance {a0 a1 a2}:CEf (mg a0 a1 a2) 62 [.d (ai.pd a0),.d (ag.pd a1),.d (ac.pd a2)] [] λr=>(.tup [.d (al.pd r.1),rB r.2],[]):=⟨λh=>Ev.au h func62⟩
instance {a a0 a1}:LI (ld a a0 a1) 8 (λs=>[(26,rI s.1)]) (λs=>[(656,.arr 0 78 (s.2.1.map ac.pd)),(720,.arr 0 107 (s.2.2.map al.pd))]) (jX 14 (λo=>[]) λo=>[(656,.arr 0 78 (o.1.map ac.pd)),(720,.arr 0 107 (o.2.map al.pd))]):=⟨⟩
instance {a0 a1 a2}:CEf (gB a0 a1 a2) 35 [.d (ai.pd a0),.d (ag.pd a1),rM ac.pd a2] [] λr=>(.tup [rM ac.pd r.1,rM al.pd r.2.1,rI r.2.2],[]):=⟨λh=>Ev.au h func35⟩
instance {a0 a1}:CEf (eB a0 a1) 109 [.d (aa.pd a0),.d (aa.pd a1)] [] λr=>(rI r,[]):=⟨λh=>Ev.au h func109⟩
instance {a0 a1}:CEf (jP a0 a1) 65 [.d (al.pd a0),.d (al.pd a1)] [] λr=>(rI r,[]):=⟨λh=>Ev.au h func65⟩
instance {a0 a1 d0}:CEf (gz a0 a1 d0) 64 [rI a0,rI a1,.ptr 0 0] [.var [rM al.pd d0]] λr=>(rI r,[.var [rM al.pd d0]]):=⟨λh=>Ev.au h func64⟩
end
theorem ff{a0:Int}{a1:Int}{d0:(List Int)}{d1:(List al)}{r:(List Int)}(h:di a0 a1 d0 d1=some r):EvP prog bj ext 173 [.ref 0 0,rI a0,rI a1,.clo 64 [.ptr 1 0]] [.arr 0 3 (d0.map (PD.int .i64)),.var [rM al.pd d1]] (.tup [],[.arr 0 3 (r.map (PD.int .i64)),.var [rM al.pd d1]]):=by
 refine Ev.body Z func173 Z Zk<|gU Z<|sM Z<|sV (rI (rW (a0+(1:Int))))<|sA Z<|sN<|bE h λW j h=>?_
 cases oI h
 refine Gc (Gd (WL.yS j (λs=>gI 2 173 1 [(0,.ref 0 0),(1,rI a0),(2,rI a1),(3,.clo 64 [.ptr 1 0]),(8,rI s.1)] [(0,.arr 0 3 (s.2.map (PD.int .i64))),(1,.var [rM al.pd d1])]) Z ?_))
 rintro⟨s1,s2⟩ O N q3 c h
 refine qS<|gS Z c<|mM Z<|sF h ?_ ?_<;>intro h
 ·refine sN<|cT<|qK<|qS<|qB<|gU Z<|sM Z<|sA Z<|sN<|bE h λJ f h=>Gc (Gd (WL.tS f (λs=>gI 2 173 4 [(0,.ref 0 0),(1,rI a0),(2,rI a1),(3,.clo 64 [.ptr 1 0]),(8,rI s1),(9,rI s.1)] [(0,.arr 0 3 (s.2.map (PD.int .i64))),(1,.var [rM al.pd d1])]) (λo=>gX 2 2 173 2 [(0,.ref 0 0),(1,rI a0),(2,rI a1),(3,.clo 64 [.ptr 1 0]),(8,rI o.1)] [(0,.arr 0 3 (o.2.map (PD.int .i64))),(1,.var [rM al.pd d1])]) Z ?_ ?_))
  ·rintro⟨l,s6⟩ O N q9 c h
   refine qS<|Ge c Z<|mM Z<|sF h ?_ ?_<;>intro h
   ·refine mM Z<|mM Z<|bE h λX q h=>WO.uS q Z Z Z Z Z Z Z Z<|bE h λY t h=>WO.uw t Z Z Z Z Z Z<|mM Z<|sV (rI (rW (l-(1:Int))))<|bE h λa5 u h=>WO.uS u Z Z Z Z Z Z Z Z<|bE h λa6 x h=>WO.uw x Z Z Z Z Z Z ?_
    refine bE h λk y h=>cR (rI k) [(1,.var [rM al.pd d1])] (ce y)<|sV (rB (decide (k<(0:Int))))<|sF h ?_ ?_<;>intro h
    ·refine sN<|sO<|cT<|qK<|qS<|qB<|Gf Z Z<|mM Z<|mM Z<|sV (rI (rW (l-(1:Int))))<|mM Z<|sV (rI (rW (l-(1:Int))))<|bE h λa7 z h=>?_
     refine WO.uS z Z Z Z Z Z Z Z Z<|bE h λK B h=>WO.uw B Z Z Z Z Z Z<|mM Z<|bE h λa8 C h=>WO.uS C Z Z Z Z Z Z Z Z<|bE h λL D h=>WO.uw D Z Z Z Z Z Z<|bE h λa9 E h=>WO.uS E Z Z Z Z Z Z Z Z<|bE h λb0 F h=>WO.xu (g:=(PD.int .i64)) (sz:=1) (p:= .int .i64 K) F (λ_=>Z) (λ_=>Z) Z Z Z Z Z Z Z Z Z<|bE h λb3 G h=>WO.uS G Z Z Z Z Z Z Z Z ?_
     refine bE h λb4 H h=>WO.xu (g:=(PD.int .i64)) (sz:=1) (p:= .int .i64 L) H (λ_=>Z) (λ_=>Z) Z Z Z Z Z Z Z Z Z ?_
     refine sN<|sO<|Gb Z Z<|sM Z<|sV (rI (rW (l-(1:Int))))<|sA Z<|sN ?_
     cases oI h
     exact⟨rfl,rfl⟩
    refine sN<|sO<|cF<|qX ?_
    cases oI h
    exact⟨nofun,rfl,rfl⟩
   refine sM Z<|k3<|k3<|k3<|k3<|sU ?_
   refine sN<|sO<|cF<|qX ?_
   cases oI h
   exact⟨nofun,rfl,rfl⟩
  intro e O N he Q
  obtain⟨rfl,c⟩:=Q
  refine qE<|Gb c Z<|sM Z<|sV (rI (rW (J.1+(1:Int))))<|sA Z<|sN ?_
  cases oI h
  exact⟨rfl,rfl⟩
 refine sN<|cF<|qX<|tF h (λz33 a T=>?_)
 obtain rfl:=Option.some.inj T
 refine⟨(λhe=>by cases he),λI=>?_⟩
 subst I
 have h:=a
 refine qE ?_
 exact oI h▸qD
theorem m7{a0:Int}{d0:(List Int)}{d1:(List al)}{r:(List Int)}(h:ej a0 d0 d1=some r):EvP prog bj ext 108 [.ref 0 0,rI a0,.clo 64 [.ptr 1 0]] [.arr 0 3 (d0.map (PD.int .i64)),.var [rM al.pd d1]] (.tup [],[.arr 0 3 (r.map (PD.int .i64)),.var [rM al.pd d1]]):=by
 refine Ev.body Z func108 Z Zk<|gU Z<|sV (rI 20)<|sN<|gU Z<|sM Z<|sV (r0)<|sA Z<|sN<|qS<|bE h λC j h=>Gc (Gd (WL.tS j (λs=>gI 2 108 2 [(0,.ref 0 0),(1,rI a0),(2,.clo 64 [.ptr 1 0]),(6,rI 20),(7,rI s.1),(8,rI s.2.1)] [(0,.arr 0 3 (s.2.2.map (PD.int .i64))),(1,.var [rM al.pd d1])]) (λo=>gX 0 2 108 6 [(0,.ref 0 0),(1,rI a0),(2,.clo 64 [.ptr 1 0]),(6,rI 20),(7,rI o.1)] [(0,.arr 0 3 (o.2.map (PD.int .i64))),(1,.var [rM al.pd d1])]) Z ?_ ?_))
 ·rintro⟨s1,s2,s3⟩ t q H a h
  refine qS<|gS Z a<|mM Z<|sF h ?_ ?_<;>intro h
  ·refine sN<|cT<|qK<|qB<|gU Z<|mM Z<|mM Z<|bE h λG z h=>cR (.tup []) [(0,.arr 0 3 (G.map (PD.int .i64))),(1,.var [rM al.pd d1])] (ff z)<|sN<|gU Z<|sM Z<|sA Z ?_
   refine sN<|Gb Z Z<|mM Z<|sV (rI (rW (s2+(20:Int))))<|sA Z<|sN ?_
   cases oI h
   exact⟨rfl,rfl⟩
  refine sN<|cF<|qX ?_
  cases oI h
  exact⟨nofun,rfl,rfl⟩
 intro e t q he x
 obtain⟨rfl,a⟩:=x
 refine qE<|gS Z a<|mM Z<|mM Z<|bE h λf u h=>cR (.tup []) [(0,.arr 0 3 (f.map (PD.int .i64))),(1,.var [rM al.pd d1])] (ff u)<|sN<|bE h λD l h=>?_
 cases oI h
 refine Gc (Gd (WL.yS l (λs=>gI 2 108 7 [(0,.ref 0 0),(1,rI a0),(2,.clo 64 [.ptr 1 0]),(6,rI s)] [(0,.arr 0 3 (f.map (PD.int .i64))),(1,.var [rM al.pd d1])]) Z ?_))
 rintro c t q E a h
 refine qS<|gS Z a<|mM Z<|sF h ?_ ?_<;>intro h
 ·refine sN<|cT<|qK<|qB<|gU Z<|sM Z<|sV (rI (rW ((2:Int)*c)))<|sV (r0)<|sA Z<|sN<|qS<|bE h λp k h=>Gc (Gd (WL.tS k (λs=>gI 2 108 9 [(0,.ref 0 0),(1,rI a0),(2,.clo 64 [.ptr 1 0]),(6,rI c),(7,r0),(8,rI (rW ((2:Int)*c)))] [(0,.arr 0 3 (f.map (PD.int .i64))),(1,.var [rM al.pd d1])]) (λo=>gX 4 2 108 13 [(0,.ref 0 0),(1,rI a0),(2,.clo 64 [.ptr 1 0]),(6,rI o),(7,r0)] [(0,.arr 0 3 (f.map (PD.int .i64))),(1,.var [rM al.pd d1])]) Z ?_ ?_))
  ·rintro⟨⟩ t q F a h
   refine qS<|gS Z a<|mM Z<|sF h ?_ ?_<;>intro h
   ·refine sN<|cT<|qK<|qB<|gU Z<|mM Z<|mM Z<|sV (rI (rW ((0:Int)+c)))<|sM Z<|sM Z ?_
    cases h
   refine sN<|cF<|qX ?_
   cases oI h
   exact⟨nofun,rfl,rfl⟩
  intro e t q he x
  obtain⟨rfl,a⟩:=x
  refine qE<|qS<|gS Z a<|mM Z<|sV (rI (rW ((0:Int)+p)))<|sA Z<|sN<|gU Z<|mM Z<|sF h ?_ ?_<;>intro h
  ·refine sN<|cT<|Gb Z Z<|mM Z<|mM Z<|sM Z ?_
   cases h
  refine sN<|cF<|qK<|Gb Z Z<|sM Z<|sV (rI (rW (p*(2:Int))))<|sA Z<|sN ?_
  cases oI h
  exact⟨rfl,rfl⟩
 refine sN<|cF<|qX<|tF h (λz21 g B=>?_)
 obtain rfl:=Option.some.inj B
 refine⟨(λhe=>by cases he),λy=>?_⟩
 subst y
 have h:=g
 refine qE ?_
 exact oI h▸qD
instance {a0 d0 d1}:CEf (ej a0 d0 d1) 108 [.ref 0 0,rI a0,.clo 64 [.ptr 1 0]] [.arr 0 3 (d0.map (PD.int .i64)),.var [rM al.pd d1]] λr=>(.tup [],[.arr 0 3 (r.map (PD.int .i64)),.var [rM al.pd d1]]):=⟨λh=>m7 h⟩
section
attribute [local irreducible] HM HU HF HB WO WC QS QB vh
instance {d0 d1}:CEf (ec d0 d1) 63 [.ref 0 0,.clo 64 [.ptr 1 0]] [.arr 0 3 (d0.map (PD.int .i64)),.var [rM al.pd d1]] λr=>(.tup [],[.arr 0 3 (r.map (PD.int .i64)),.var [rM al.pd d1]]):=⟨λh=>Ev.au h func63⟩
instance {a}:LI (lE a) 3 (λs=>[(10,rI s.1)]) (λs=>[(112,.arr 0 3 (s.2.map (PD.int .i64)))]) (jX 7 (λo=>[]) λo=>[(112,.arr 0 3 (o.map (PD.int .i64)))]):=⟨⟩
instance {a0}:CEf (gp a0) 36 [rM al.pd a0] [] λr=>(rL r,[]):=⟨λh=>Ev.au h func36⟩
end
theorem sQ{a0:ai}{a1:ag}{a2:(List ac)}{r:(List (List ac))×Int}(h:mI a0 a1 a2=some r):EvP prog bj ext 13 [.d (ai.pd a0),.d (ag.pd a1),rM ac.pd a2] [] (.tup [.d (.lst (r.1.map (λl=>PD.lst (l.map ac.pd)))),rI r.2],[]):=by
 refine Ev.body Z func13 Z Zk<|gU Z<|sB (.ptr 48 0) 48 (.var (ai.rc a0))<|sB (.ptr 64 0) 64 (.var [rM av.pd a1.bp])<|sV .tC<|sV (r0)<|sN<|gU Z<|sV (.d (ai.pd a0))<|sV (.d (ag.pd a1))<|sM Z<|bE h λa h1 h=>cR (.tup [rM ac.pd a.1,rM al.pd a.2.1,rI a.2.2]) [] (ce h1)<|sM Z<|sV (rM ac.pd a.1) ?_
 refine sV (rM al.pd a.2.1)<|sV (rI a.2.2)<|sA Z<|sA Z<|sA Z<|sN<|qS<|gU Z<|sM Z<|sF h ?_ ?_<;>intro h
 ·refine sN<|cT<|gU Z<|sM Z<|sV .tC<|sA Z<|sN<|qR ?_
  cases oI h
  exact qG
 refine sN<|cF<|qK<|gU Z<|sV .tC<|sN<|gU Z<|sV (r0)<|sN<|qS<|gU Z<|sM Z<|bE h λk h3 h=>cD (ce h3)<|sE (rI (k.length:Int)) (uf _ _) ?_
 refine sV (r0)<|sN<|bE h λd0 q h=>Gc (Gd (WL.tS q (λs=>gI 0 13 7 [(3,.ptr 48 0),(8,rM ac.pd a.1),(9,rM al.pd a.2.1),(11,.ref 848 0),(12,rI s.1),(29,rL k),(30,rI (k.length:Int)),(31,rI s.2.1)] [(48,.var (ai.rc a0)),(848,.nest 0 38 78 (s.2.2.map (List.map ac.pd)) none)]) (λo=>gX 0 0 13 14 [(11,.ref 848 0)] [(848,.nest 0 38 78 (o.map (List.map ac.pd)) none)]) Z ?_ ?_))
 ·rintro⟨s4,u,E⟩ G F q8 f h
  refine gS Z f<|sF h ?_ ?_<;>intro h
  ·refine sN<|qS<|cT<|qK<|qS<|qB<|gU Z<|sM Z<|bE h λx H h=>eG H Z<|sC Z<|sA Z<|sA Z<|sN<|qS ?_
   refine Ge Z Z<|sM Z<|sF h ?_ ?_<;>intro h
   ·refine sM Z<|k3<|k3<|k3<|sK<|sK<|sT ?_
    refine sN<|sO<|cT<|Gb (R0:=[(3,.ptr 48 0),(8,rM ac.pd a.1),(9,rM al.pd a.2.1),(11,.ref 848 0),(14,rI x),(29,rL k),(30,rI (k.length:Int)),(31,rI u)]) (B0:=[(48,.var (ai.rc a0)),(848,.nest 0 38 78 (E.map (List.map ac.pd)) none)]) Z Z<|sM Z<|sV (.d (.lst [AW]))<|bE h λy I h=>WO.appNN I Z Z Z Z Z Z Z Z Z Z Z Z Z Z<|sA Z<|sN<|gU Z<|mM Z<|bE h λg J h=>eG J Z<|sV (.cptr [.int .i64 g.bA,.int .i64 g.bY,.int .i64 g.cC]) ?_
    refine sC Z<|sA Z<|sN<|bE h λe0 K h=>Gf (vv K Z Z Z) Z<|mM Z<|WO.zY Z Z Z Z Z Z Z Z Z<|sV (rI (rW ((y.length:Int)-(1:Int))))<|mM Z<|WO.zY Z Z Z Z Z Z Z Z Z<|sV (rI (rW ((y.length:Int)-(1:Int))))<|bE h λe1 L h=>WO.zj L Z Z Z Z Z Z Z Z ?_
    refine bE h λe2 N h=>WO.AO N Z Z Z Z Z Z<|mM Z<|bE h λz O h=>eG O Z<|sV (.d (ac.pd z))<|sG (.d (.lst ([z].map ac.pd)))<|bE h λe3 Q h=>aR Q (λ_=>Z) Z<|bE h λe4 T h=>WO.zj T Z Z Z Z Z Z Z Z<|bE h λe5 W h=>WO.zF W Z Z Z Z Z Z Z ?_
    refine sN<|sO<|Gb Z Z<|sV (rI (rW (u+(1:Int))))<|sM Z<|sN ?_
    cases oI h
    exact⟨rfl,(uT rfl rfl (by decide) rfl)⟩
   refine mM Z<|sM Z<|bE h λc X h=>eG X Z<|sV (.cptr [.int .i64 c.bA,.int .i64 c.bY,.int .i64 c.cC])<|sC Z<|sM Z<|sV (rI (rW (c.bA-s4)))<|sV (.ptr 48 0)<|sV (.ptr 48 11)<|sL Z<|sV (rB (decide ((rW (c.bA-s4))>a0.ae.df)))<|sF h ?_ ?_<;>intro h
   ·refine sN<|sO<|cT<|Gb (R0:=[(3,.ptr 48 0),(8,rM ac.pd a.1),(9,rM al.pd a.2.1),(11,.ref 848 0),(14,rI x),(29,rL k),(30,rI (k.length:Int)),(31,rI u)]) (B0:=[(48,.var (ai.rc a0)),(848,.nest 0 38 78 (E.map (List.map ac.pd)) none)]) Z Z<|sM Z<|sV (.d (.lst [AW]))<|bE h λB Y h=>WO.appNN Y Z Z Z Z Z Z Z Z Z Z Z Z Z Z<|sA Z<|sN<|gU Z<|mM Z<|bE h λj a5 h=>eG a5 Z<|sV (.cptr [.int .i64 j.bA,.int .i64 j.bY,.int .i64 j.cC]) ?_
    refine sC Z<|sA Z<|sN<|bE h λe6 a6 h=>Gf (vv a6 Z Z Z) Z<|mM Z<|WO.zY Z Z Z Z Z Z Z Z Z<|sV (rI (rW ((B.length:Int)-(1:Int))))<|mM Z<|WO.zY Z Z Z Z Z Z Z Z Z<|sV (rI (rW ((B.length:Int)-(1:Int))))<|bE h λe7 a7 h=>WO.zj a7 Z Z Z Z Z Z Z Z ?_
    refine bE h λe9 a8 h=>WO.AO a8 Z Z Z Z Z Z<|mM Z<|bE h λC a9 h=>eG a9 Z<|sV (.d (ac.pd C))<|sG (.d (.lst ([C].map ac.pd)))<|bE h λf0 b0 h=>aR b0 (λ_=>Z) Z<|bE h λf1 b3 h=>WO.zj b3 Z Z Z Z Z Z Z Z<|bE h λf2 b4 h=>WO.zF b4 Z Z Z Z Z Z Z ?_
    refine sN<|sO<|Gb Z Z<|sV (rI (rW (u+(1:Int))))<|sM Z<|sN ?_
    cases oI h
    exact⟨rfl,(uT rfl rfl (by decide) rfl)⟩
   refine sN<|sO<|cF<|qK<|gU Z<|mM Z<|bE h λp b5 h=>eG b5 Z<|sV (.cptr [.int .i64 p.bA,.int .i64 p.bY,.int .i64 p.cC])<|sC Z<|sA Z<|sN<|bE h λf3 b6 h=>Gf (vv b6 Z Z Z) Z<|sM Z ?_
   refine sM Z<|WO.zY Z Z Z Z Z Z Z Z Z<|sV (rI (rW ((E.length:Int)-(1:Int))))<|mM Z<|WO.zY Z Z Z Z Z Z Z Z Z<|sV (rI (rW ((E.length:Int)-(1:Int))))<|bE h λf4 c0 h=>WO.zj c0 Z Z Z Z Z Z Z Z<|bE h λf5 c1 h=>WO.AO c1 Z Z Z Z Z Z<|mM Z<|bE h λD c2 h=>eG c2 Z ?_
   refine sV (.d (ac.pd D))<|sG (.d (.lst ([D].map ac.pd)))<|bE h λf6 c3 h=>aR c3 (λ_=>Z) Z<|bE h λg0 c4 h=>WO.zj c4 Z Z Z Z Z Z Z Z<|bE h λg1 c5 h=>WO.zF c5 Z Z Z Z Z Z Z ?_
   refine sN<|sO<|Gb Z Z<|sV (rI (rW (u+(1:Int))))<|sM Z<|sN ?_
   cases oI h
   exact⟨rfl,(uT rfl rfl (by decide) rfl)⟩
  refine sN<|qS<|cF<|qX ?_
  cases oI h
  exact⟨nofun,rfl,rfl⟩
 intro e G F he hq
 obtain⟨rfl,f⟩:=hq
 refine qE<|qS<|gS Z f<|sM Z<|WO.zY Z Z Z Z Z Z Z Z Z<|sV (r0)<|sN<|bE h λd3 t h=>Gc (Gd (WL.tS t (λs=>gI 0 13 15 [(11,.ref 848 0),(77,.ref 848 0),(78,rI (d0.length:Int)),(79,rI s.1)] [(848,.nest 0 38 78 (s.2.map (List.map ac.pd)) none)]) (λo=>gX 2 0 13 19 [(11,.d (.lst (o.map (λl=>PD.lst (l.map ac.pd)))))] []) Z ?_ ?_))
 ·rintro⟨d1,d5⟩ G F d4 f h
  refine gS Z f<|sF h ?_ ?_<;>intro h
  ·refine sN<|qS<|cT<|qK<|qS<|qB<|bE h λg2 c6 h=>Gg (zV c6 Z Z Z Z) Z<|bE h λg3 c7 h=>WO.zj c7 Z Z Z Z Z Z Z Z<|bE h λg4 c8 h=>WO.AO c8 Z Z Z Z Z Z<|sA Z<|sN<|Gb Z Z ?_
   refine sM Z<|bE h λd2 c9 h=>cR (.tup []) [(1312,.arr 0 78 (d2.map ac.pd))] (sort_37_38 c9)<|sN<|Gb Z Z<|sV (rI (rW (d1+(1:Int))))<|sM Z<|sN ?_
   cases oI h
   exact⟨rfl,(uT rfl rfl (by decide) rfl)⟩
  refine sN<|qS<|cF<|qX ?_
  cases oI h
  exact⟨nofun,rfl,(vZ rfl (AN rfl rfl rfl))⟩
 intro e G F he hq
 obtain⟨rfl,f⟩:=hq
 refine qE<|gS Z f<|sM Z<|sA Z<|sV (r0)<|sN<|qR ?_
 exact oI h▸qD
section
attribute [local irreducible] HM HU HF HB WO WC QS QB vh
instance {a0}:CEf (gM a0) 187 [.d (aa.pd a0)] [] λr=>(rB r,[]):=⟨λh=>Ev.au h func187⟩
instance {a0}:CEf (cK a0) 163 [.d (ak.pd a0)] [] λr=>(rB r,[]):=⟨λh=>Ev.au h func163⟩
instance {a0}:LI (mp a0) 4 (λs=>[(3,rI s)]) (λs=>[]) (jY 10 (λy=>[]) (λy=>[]) f181 λr=>(rI r,[])):=⟨⟩
instance {a0}:CEf (dK a0) 181 [.d (bc.pd a0)] [] λr=>(rI r,[]):=⟨λh=>Ev.au h func181⟩
instance {a0}:CEf (f9 a0) 122 [.d (aw.pd a0)] [] λr=>(rB r,[]):=⟨λh=>Ev.au h func122⟩
instance {a0}:CEf (iI a0) 123 [.d (bK.pd a0)] [] λr=>(rB r,[]):=⟨λh=>Ev.au h func123⟩
instance {a0}:CEf (cr a0) 71 [.d (ai.pd a0)] [] λr=>(rI r,[]):=⟨λh=>Ev.au h func71⟩
instance {a0}:LI (kw a0) 2 (λs=>[(7,rI s)]) (λs=>[]) (jY 6 (λy=>[]) (λy=>[]) f182 λr=>(rB r,[])):=⟨⟩
instance {a0 a1 a2}:CEf (ku a0 a1 a2) 182 [rS a0,rI a1,rI a2] [] λr=>(rB r,[]):=⟨λh=>Ev.au h func182⟩
instance {a0}:CEf (mw a0) 124 [.d (bn.pd a0)] [] λr=>(rB r,[]):=⟨λh=>Ev.au h func124⟩
instance {a0 a1 a2}:CEf (cZ a0 a1 a2) 126 [rI a0,rI a1,rI a2] [] λr=>(rB r,[]):=⟨λh=>Ev.au h func126⟩
instance :LI (tg) 1 (λs=>[(0,rI s.1),(1,rI s.2)]) (λs=>[]) (jX 3 (λo=>[(0,rI o)]) λo=>[]):=⟨⟩
instance {a0 a1}:CEf (ref02_gcd a0 a1) 250 [rI a0,rI a1] [] λr=>(rI r,[]):=⟨λh=>Ev.au h func250⟩
instance {a0}:CEf (rb a0) 184 [.d (cd.pd a0)] [] λr=>(rB r,[]):=⟨λh=>Ev.au h func184⟩
instance {a0}:LI (kx a0) 2 (λs=>[(3,rI s)]) (λs=>[]) (jY 6 (λy=>[]) (λy=>[]) f296 λr=>(rB r,[])):=⟨⟩
instance {a0}:CEf (iU a0) 296 [rL a0] [] λr=>(rB r,[]):=⟨λh=>Ev.au h func296⟩
instance {a0}:LI (re a0) 3 (λs=>[(3,rI s.1),(4,rI s.2)]) (λs=>[]) (jX 6 (λo=>[(3,rI o)]) λo=>[]):=⟨⟩
instance {a0}:CEf (ky a0) 297 [rL a0] [] λr=>(rI r,[]):=⟨λh=>Ev.au h func297⟩
end
theorem rQ{a0:bw}{r:Bool}(h:iA a0=some r):EvP prog bj ext 251 [.d (bw.pd a0)] [] (rB r,[]):=by
 refine Ev.body Z func251 Z Zk<|gU Z<|sB (.ptr 16 0) 16 (.var (bw.rc a0))<|sU<|sN<|gU Z<|sV (.ptr 16 7)<|sL Z<|sE (rI (a0.cx.length:Int)) (uf _ _)<|sF h ?_ ?_<;>intro h
 ·refine sM Z<|sV (.ptr 16 8)<|sL Z<|sV (rB (a0.b8==(0:Int)))<|sF h ?_ ?_<;>intro h
  ·refine sM Z<|sV (.ptr 16 9)<|sL Z<|sV (rB (a0.cM==(0:Int)))<|sV (rB (a0.cM==(0:Int)))<|sA Z<|sN<|qS<|gU Z<|sV (.ptr 16 0)<|sL Z<|sN<|qB<|gU Z<|sF h ?_ ?_<;>intro h
   ·refine sA Z<|sN<|cT<|gU Z<|sF h ?_ ?_<;>intro h
    ·refine sM Z<|sV (.ptr 16 1)<|sV (.ptr 16 1)<|sL Z<|bE h λx5 O h=>cD (ce O)<|sF h ?_ ?_<;>intro h
     ·refine sM Z<|sV (.ptr 16 4)<|sV (.ptr 16 4)<|sL Z<|bE h λx7 Q h=>cD (ce Q)<|sF h ?_ ?_<;>intro h
      ·refine sM Z<|sV (.ptr 16 1)<|sV (.ptr 16 2)<|sL Z<|sV (rB (a0.bR.a1==(0:Int)))<|sF h ?_ ?_<;>intro h
       ·refine sM Z<|sV (.ptr 16 1)<|sV (.ptr 16 3)<|sL Z<|sV (rB (a0.bR.a2==(0:Int)))<|sF h ?_ ?_<;>intro h
        ·refine sM Z<|sV (.ptr 16 4)<|sV (.ptr 16 5)<|sL Z<|sV (rB (a0.bO.a1==(0:Int)))<|sF h ?_ ?_<;>intro h
         ·refine sM Z<|sV (.ptr 16 4)<|sV (.ptr 16 6)<|sL Z<|sV (rB (a0.bO.a2==(0:Int)))<|sV (rB (a0.bO.a2==(0:Int)))<|sA Z<|sN<|qR ?_
          cases oI h
          exact qG
         refine sM Z<|k3<|sK<|sU<|sA Z<|sN<|qR ?_
         cases oI h
         exact qG
        refine sM Z<|k3<|sK<|sU<|sM Z<|k3<|sK<|sU<|sA Z<|sN<|qR ?_
        cases oI h
        exact qG
       refine sM Z<|k3<|sK<|sU<|sM Z<|k3<|sK<|sU<|sM Z<|sK<|sK ?_
       refine sK<|sK<|sU<|sA Z<|sN<|qR ?_
       cases oI h
       exact qG
      refine sM Z<|k3<|sK<|sU<|sM Z<|k3<|sK<|sU<|sM Z<|sK<|sK ?_
      refine sK<|sK<|sU<|sM Z<|k3<|sK<|sU<|sA Z<|sN<|qR ?_
      cases oI h
      exact qG
     refine sM Z<|k3<|sK<|sU<|sM Z<|k3<|sK<|sU<|sM Z<|sK<|sK ?_
     refine sK<|sK<|sU<|sM Z<|k3<|sK<|sU<|sM Z<|k3<|sK<|sU ?_
     refine sA Z<|sN<|qR ?_
     cases oI h
     exact qG
    refine sM Z<|k3<|sK<|sU<|sM Z<|k3<|sK<|sU<|sM Z<|sK<|sK ?_
    refine sK<|sK<|sU<|sM Z<|k3<|sK<|sU<|sM Z<|k3<|sK<|sU ?_
    refine sM Z<|k3<|sK<|sU<|sA Z<|sN<|qR ?_
    cases oI h
    exact qG
   refine sA Z<|sN<|cF<|gU Z<|sF h ?_ ?_<;>intro h
   ·refine sA Z<|sN<|cT<|Gg (R0:=[(1,.cptr [.int .i64 a0.cU,.int .i64 a0.bR.a0,.int .i64 a0.bR.a1,.int .i64 a0.bR.a2,.int .i64 a0.bO.a0,.int .i64 a0.bO.a1,.int .i64 a0.bO.a2,.lst (a0.cx.map (PD.int .i64)),.int .i64 a0.b8,.int .i64 a0.cM]),(3,rB (a0.cM==(0:Int)))]) (B0:=[]) Z Z<|sF h ?_ ?_<;>intro h
    ·refine sM Z<|sV (.cptr [.int .i64 a0.bR.a0,.int .i64 a0.bR.a1,.int .i64 a0.bR.a2,.int .i64 a0.bO.a0,.int .i64 a0.bO.a1,.int .i64 a0.bO.a2,.lst (a0.cx.map (PD.int .i64)),.int .i64 a0.b8,.int .i64 a0.cM])<|sV (.d (.lst ([a0.bR.a0,a0.bR.a1,a0.bR.a2].map (PD.int .i64))))<|bE h λT g h=>cD (ce g)<|sF h ?_ ?_<;>intro h
     ·refine sM Z<|sV (.cptr [.int .i64 a0.bO.a0,.int .i64 a0.bO.a1,.int .i64 a0.bO.a2,.lst (a0.cx.map (PD.int .i64)),.int .i64 a0.b8,.int .i64 a0.cM])<|sV (.d (.lst ([a0.bO.a0,a0.bO.a1,a0.bO.a2].map (PD.int .i64))))<|bE h λW j h=>cD (ce j)<|sF h ?_ ?_<;>intro h
      ·refine sM Z<|sV (.cptr [.int .i64 a0.bO.a0,.int .i64 a0.bO.a1,.int .i64 a0.bO.a2,.lst (a0.cx.map (PD.int .i64)),.int .i64 a0.b8,.int .i64 a0.cM])<|sV (.cptr [.int .i64 a0.bO.a0,.int .i64 a0.bO.a1,.int .i64 a0.bO.a2,.lst (a0.cx.map (PD.int .i64)),.int .i64 a0.b8,.int .i64 a0.cM])<|sC Z<|sV (rB (a0.bO.a0 != (0:Int)))<|sV (rB (a0.bO.a0 != (0:Int)))<|sA Z<|sN<|qR ?_
       exact oI h▸qD
      refine sM Z<|k3<|sK<|sU<|sA Z<|sN<|qR ?_
      exact oI h▸qD
     refine sM Z<|k3<|sU<|sM Z<|k3<|sK<|sU<|sA Z<|sN<|qR ?_
     exact oI h▸qD
    refine sM Z<|k3<|sU<|sM Z<|k3<|sU<|sM Z<|k3<|sK ?_
    refine sU<|sA Z<|sN<|qR ?_
    exact oI h▸qD
   refine sA Z<|sN<|cF<|gU Z<|sF h ?_ ?_<;>intro h
   ·refine sA Z<|sN<|cT<|gU Z<|sV (.ptr 16 1)<|sV (.d (bH.pd a0.bR))<|sV (.d (bH.pd (bH.mk 0 0 0)))<|vG h (λa h=>?_) (λa h=>?_)
    ·refine WO.yV (fw a0.bR (bH.mk 0 0 0)) a Z Z Z Z Z<|sM Z<|sV (.ptr 16 4)<|sV (.d (bH.pd a0.bO))<|sV (.d (bH.pd (bH.mk 0 0 0)))<|WO.bin (fw a0.bO (bH.mk 0 0 0)) Z Z Z Z Z<|sF h ?_ ?_<;>intro h
     ·refine sM Z<|sV (.ptr 16 7)<|sL Z<|sE (rI (a0.cx.length:Int)) (uf _ _)<|bE h λX k h=>cD (ce k)<|sF h ?_ ?_<;>intro h
      ·refine sM Z<|sV (.ptr 16 7)<|sL Z<|bE h λY l h=>cD (ce l)<|sF h ?_ ?_<;>intro h
       ·refine sM Z<|sV (.ptr 16 7)<|sL Z<|bE h λH p h=>cD (ce p)<|sV (rB (H != (0:Int)))<|sF h ?_ ?_<;>intro h
        ·refine sM Z<|sV (.ptr 16 8)<|sL Z<|bE h λa5 q h=>cD (ce q)<|sF h ?_ ?_<;>intro h
         ·refine sM Z<|sV (.ptr 16 9)<|sL Z<|bE h λI t h=>cD (ce t)<|sV (rB I)<|sA Z<|sN<|qR ?_
          cases oI h
          exact qG
         refine sM Z<|k3<|sU<|sA Z<|sN<|qR ?_
         cases oI h
         exact qG
        refine sM Z<|k3<|sU<|sM Z<|k3<|sU<|sA Z<|sN<|qR ?_
        cases oI h
        exact qG
       refine sM Z<|k3<|sK<|sU<|sM Z<|k3<|sU<|sM Z<|sK<|sK<|sK ?_
       refine sU<|sA Z<|sN<|qR ?_
       cases oI h
       exact qG
      refine sM Z<|k3<|sU<|sM Z<|k3<|sK<|sU<|sM Z<|sK<|sK<|sK ?_
      refine sU<|sM Z<|k3<|sU<|sA Z<|sN<|qR ?_
      cases oI h
      exact qG
     refine sM Z<|k3<|sK<|sU<|sM Z<|k3<|sU<|sM Z<|sK<|sK<|sK ?_
     refine sK<|sU<|sM Z<|k3<|sU<|sM Z<|k3<|sU<|sA Z<|sN<|qR ?_
     cases oI h
     exact qG
    refine WO.yV (fw a0.bR (bH.mk 0 0 0)) a Z Z Z Z Z<|sM Z<|k3<|sK<|sU<|sM Z<|k3<|sK<|sU<|sM Z<|sK ?_
    refine sK<|sK<|sU<|sM Z<|k3<|sK<|sU<|sM Z<|k3<|sU<|sM Z ?_
    refine k3<|sU<|sA Z<|sN<|qR ?_
    cases oI h
    exact qG
   refine sA Z<|sN<|cF<|qK<|gU Z<|sU<|sN<|qR ?_
   cases oI h
   exact qG
  refine sM Z<|k3<|sU<|sA Z<|sN<|qS<|gU Z<|sV (.ptr 16 0)<|sL Z<|sN<|qB<|gU Z<|sF h ?_ ?_<;>intro h
  ·refine sA Z<|sN<|cT<|gU Z<|mM Z<|k3<|sK<|sU<|sM Z<|sK<|sK<|sK ?_
   refine sK<|sU<|sM Z<|k3<|sK<|sU<|sM Z<|k3<|sK<|sU<|sM Z ?_
   refine k3<|sK<|sU<|sM Z<|k3<|sK<|sU<|sA Z<|sN<|qR ?_
   cases oI h
   exact qG
  refine sA Z<|sN<|cF<|gU Z<|sF h ?_ ?_<;>intro h
  ·refine sA Z<|sN<|cT<|Gg (R0:=[(1,.cptr [.int .i64 a0.cU,.int .i64 a0.bR.a0,.int .i64 a0.bR.a1,.int .i64 a0.bR.a2,.int .i64 a0.bO.a0,.int .i64 a0.bO.a1,.int .i64 a0.bO.a2,.lst (a0.cx.map (PD.int .i64)),.int .i64 a0.b8,.int .i64 a0.cM]),(3,rB false)]) (B0:=[]) Z Z<|mM Z<|k3<|sU<|sM Z<|k3<|sU ?_
   refine sM Z<|k3<|sK<|sU<|sA Z<|sN<|qR ?_
   exact oI h▸qD
  refine sA Z<|sN<|cF<|gU Z<|sF h ?_ ?_<;>intro h
  ·refine sA Z<|sN<|cT<|gU Z<|sV (.ptr 16 1)<|sV (.d (bH.pd a0.bR))<|sV (.d (bH.pd (bH.mk 0 0 0)))<|vG h (λc h=>?_) (λc h=>?_)
   ·refine WO.yV (fw a0.bR (bH.mk 0 0 0)) c Z Z Z Z Z<|sM Z<|sV (.ptr 16 4)<|sV (.d (bH.pd a0.bO))<|sV (.d (bH.pd (bH.mk 0 0 0)))<|WO.bin (fw a0.bO (bH.mk 0 0 0)) Z Z Z Z Z<|sF h ?_ ?_<;>intro h
    ·refine sM Z<|sV (.ptr 16 7)<|sL Z<|sE (rI (a0.cx.length:Int)) (uf _ _)<|bE h λa6 u h=>cD (ce u)<|sF h ?_ ?_<;>intro h
     ·refine sM Z<|sV (.ptr 16 7)<|sL Z<|bE h λa7 x h=>cD (ce x)<|sF h ?_ ?_<;>intro h
      ·refine sM Z<|sV (.ptr 16 7)<|sL Z<|bE h λJ y h=>cD (ce y)<|sV (rB (J != (0:Int)))<|sF h ?_ ?_<;>intro h
       ·refine sM Z<|sV (.ptr 16 8)<|sL Z<|bE h λa8 z h=>cD (ce z)<|sF h ?_ ?_<;>intro h
        ·refine sM Z<|sV (.ptr 16 9)<|sL Z<|bE h λK B h=>cD (ce B)<|sV (rB K)<|sA Z<|sN<|qR ?_
         cases oI h
         exact qG
        refine sM Z<|k3<|sU<|sA Z<|sN<|qR ?_
        cases oI h
        exact qG
       refine sM Z<|k3<|sU<|sM Z<|k3<|sU<|sA Z<|sN<|qR ?_
       cases oI h
       exact qG
      refine sM Z<|k3<|sK<|sU<|sM Z<|k3<|sU<|sM Z<|sK<|sK<|sK ?_
      refine sU<|sA Z<|sN<|qR ?_
      cases oI h
      exact qG
     refine sM Z<|k3<|sU<|sM Z<|k3<|sK<|sU<|sM Z<|sK<|sK<|sK ?_
     refine sU<|sM Z<|k3<|sU<|sA Z<|sN<|qR ?_
     cases oI h
     exact qG
    refine sM Z<|k3<|sK<|sU<|sM Z<|k3<|sU<|sM Z<|sK<|sK<|sK ?_
    refine sK<|sU<|sM Z<|k3<|sU<|sM Z<|k3<|sU<|sA Z<|sN<|qR ?_
    cases oI h
    exact qG
   refine WO.yV (fw a0.bR (bH.mk 0 0 0)) c Z Z Z Z Z<|sM Z<|k3<|sK<|sU<|sM Z<|k3<|sK<|sU<|sM Z<|sK ?_
   refine sK<|sK<|sU<|sM Z<|k3<|sK<|sU<|sM Z<|k3<|sU<|sM Z ?_
   refine k3<|sU<|sA Z<|sN<|qR ?_
   cases oI h
   exact qG
  refine sA Z<|sN<|cF<|qK<|gU Z<|sU<|sN<|qR ?_
  cases oI h
  exact qG
 refine sM Z<|k3<|sU<|sM Z<|k3<|sU<|sA Z<|sN<|qS<|gU Z<|sV (.ptr 16 0) ?_
 refine sL Z<|sN<|qB<|gU Z<|sF h ?_ ?_<;>intro h
 ·refine sA Z<|sN<|cT<|gU Z<|mM Z<|k3<|sK<|sU<|sM Z<|sK<|sK<|sK ?_
  refine sK<|sU<|sM Z<|k3<|sK<|sU<|sM Z<|k3<|sK<|sU<|sM Z ?_
  refine k3<|sK<|sU<|sM Z<|k3<|sK<|sU<|sA Z<|sN<|qR ?_
  cases oI h
  exact qG
 refine sA Z<|sN<|cF<|gU Z<|sF h ?_ ?_<;>intro h
 ·refine sA Z<|sN<|cT<|Gg (R0:=[(1,.cptr [.int .i64 a0.cU,.int .i64 a0.bR.a0,.int .i64 a0.bR.a1,.int .i64 a0.bR.a2,.int .i64 a0.bO.a0,.int .i64 a0.bO.a1,.int .i64 a0.bO.a2,.lst (a0.cx.map (PD.int .i64)),.int .i64 a0.b8,.int .i64 a0.cM]),(3,rB false)]) (B0:=[]) Z Z<|mM Z<|k3<|sU<|sM Z<|k3<|sU ?_
  refine sM Z<|k3<|sK<|sU<|sA Z<|sN<|qR ?_
  exact oI h▸qD
 refine sA Z<|sN<|cF<|gU Z<|sF h ?_ ?_<;>intro h
 ·refine sA Z<|sN<|cT<|gU Z<|sV (.ptr 16 1)<|sV (.d (bH.pd a0.bR))<|sV (.d (bH.pd (bH.mk 0 0 0)))<|vG h (λf h=>?_) (λf h=>?_)
  ·refine WO.yV (fw a0.bR (bH.mk 0 0 0)) f Z Z Z Z Z<|sM Z<|sV (.ptr 16 4)<|sV (.d (bH.pd a0.bO))<|sV (.d (bH.pd (bH.mk 0 0 0)))<|WO.bin (fw a0.bO (bH.mk 0 0 0)) Z Z Z Z Z<|sF h ?_ ?_<;>intro h
   ·refine sM Z<|sV (.ptr 16 7)<|sL Z<|sE (rI (a0.cx.length:Int)) (uf _ _)<|bE h λa9 C h=>cD (ce C)<|sF h ?_ ?_<;>intro h
    ·refine sM Z<|sV (.ptr 16 7)<|sL Z<|bE h λb0 D h=>cD (ce D)<|sF h ?_ ?_<;>intro h
     ·refine sM Z<|sV (.ptr 16 7)<|sL Z<|bE h λL E h=>cD (ce E)<|sV (rB (L != (0:Int)))<|sF h ?_ ?_<;>intro h
      ·refine sM Z<|sV (.ptr 16 8)<|sL Z<|bE h λb3 F h=>cD (ce F)<|sF h ?_ ?_<;>intro h
       ·refine sM Z<|sV (.ptr 16 9)<|sL Z<|bE h λN G h=>cD (ce G)<|sV (rB N)<|sA Z<|sN<|qR ?_
        cases oI h
        exact qG
       refine sM Z<|k3<|sU<|sA Z<|sN<|qR ?_
       cases oI h
       exact qG
      refine sM Z<|k3<|sU<|sM Z<|k3<|sU<|sA Z<|sN<|qR ?_
      cases oI h
      exact qG
     refine sM Z<|k3<|sK<|sU<|sM Z<|k3<|sU<|sM Z<|sK<|sK<|sK ?_
     refine sU<|sA Z<|sN<|qR ?_
     cases oI h
     exact qG
    refine sM Z<|k3<|sU<|sM Z<|k3<|sK<|sU<|sM Z<|sK<|sK<|sK ?_
    refine sU<|sM Z<|k3<|sU<|sA Z<|sN<|qR ?_
    cases oI h
    exact qG
   refine sM Z<|k3<|sK<|sU<|sM Z<|k3<|sU<|sM Z<|sK<|sK<|sK ?_
   refine sK<|sU<|sM Z<|k3<|sU<|sM Z<|k3<|sU<|sA Z<|sN<|qR ?_
   cases oI h
   exact qG
  refine WO.yV (fw a0.bR (bH.mk 0 0 0)) f Z Z Z Z Z<|sM Z<|k3<|sK<|sU<|sM Z<|k3<|sK<|sU<|sM Z<|sK ?_
  refine sK<|sK<|sU<|sM Z<|k3<|sK<|sU<|sM Z<|k3<|sU<|sM Z ?_
  refine k3<|sU<|sA Z<|sN<|qR ?_
  cases oI h
  exact qG
 refine sA Z<|sN<|cF<|qK<|gU Z<|sU<|sN<|qR ?_
 cases oI h
 exact qG
instance {a0}:CEf (iA a0) 251 [.d (bw.pd a0)] [] λr=>(rB r,[]):=⟨λh=>rQ h⟩
section
attribute [local irreducible] HM HU HF HB WO WC QS QB vh
instance {a0}:LI (ma a0) 3 (λs=>[(3,rI s.1),(4,rI s.2)]) (λs=>[]) (jY 11 (λy=>[]) (λy=>[]) f185 λr=>(rB r,[])):=⟨⟩
instance {a0}:CEf (nT a0) 185 [.d (bv.pd a0)] [] λr=>(rB r,[]):=⟨λh=>Ev.au h func185⟩
instance {a0}:CEf (lp a0) 127 [.d (bi.pd a0)] [] λr=>(rB r,[]):=⟨λh=>Ev.au h func127⟩
instance {a0 a1}:CEf (gT a0 a1) 183 [rS a0,rS a1] [] λr=>(rI r,[]):=⟨λh=>Ev.au h func183⟩
instance {a0 a1}:CEf (lP a0 a1) 125 [.d (bn.pd a0),.d (bn.pd a1)] [] λr=>(rI r,[]):=⟨λh=>Ev.au h func125⟩
instance {a0}:LI (jw a0) 2 (λs=>[(3,rI s)]) (λs=>[]) (jY 12 (λy=>[]) (λy=>[]) f72 λr=>(rB r,[])):=⟨⟩
instance {a s1}:LI (jv a s1) 8 (λs=>[(5,rI s)]) (λs=>[]) (jY 3 (λy=>[(3,rI y)]) (λy=>[]) f72 λr=>(rB r,[])):=⟨⟩
instance {a0}:CEf (gL a0) 72 [.d (ag.pd a0)] [] λr=>(rB r,[]):=⟨λh=>Ev.au h func72⟩
instance {a0 a1}:CEf (lT a0 a1) 76 [.d (ac.pd a0),.d (ac.pd a1)] [] λr=>(rI r,[]):=⟨λh=>Ev.au h func76⟩
end
theorem rX{a0:(List ac)}{r:(List ac)}(h:kz a0=some r):EvP prog bj ext 41 [rM ac.pd a0] [] (.ref 0 0,[.arr 0 78 (r.map ac.pd)]):=by
 refine Ev.body Z func41 Z Zk<|gU Z<|sV .tC<|sN<|gU Z<|sV .tC<|sN<|qS<|gU Z<|sV (r0)<|sN<|bE h λa5 l h=>Gc (Gd (WL.tS l (λs=>gI 0 41 3 [(0,rM ac.pd a0),(3,.ref 816 0),(4,rI s.1)] [(816,.arr 0 78 (s.2.map ac.pd))]) (λo=>gX 0 0 41 12 [(3,.ref 816 0)] [(816,.arr 0 78 (o.map ac.pd))]) Z ?_ ?_))
 ·rintro⟨s1,s2⟩ j f q4 c h
  refine qS<|gS Z c<|mM Z<|sE (rI (a0.length:Int)) (uf _ _)<|sF h ?_ ?_<;>intro h
  ·refine sN<|cT<|qK<|qS<|qB<|gU Z<|sM Z<|WO.Au Z Z Z Z Z Z Z Z Z<|sA Z<|sN<|qS<|bE h λa k h=>Gc (Gd (WL.tS k (λs=>gI 0 41 6 [(0,rM ac.pd a0),(3,.ref 816 0),(4,rI s1),(5,rI s)] [(816,.arr 0 78 (s2.map ac.pd))]) (λo=>gX 2 0 41 8 [(0,rM ac.pd a0),(3,.ref 816 0),(4,rI o.1),(5,rI o.2.1)] [(816,.arr 0 78 (o.2.2.map ac.pd))]) Z ?_ ?_))
   ·rintro s6 j f a6 c h
    refine qS<|Ge c Z<|sM Z<|sF h ?_ ?_<;>intro h
    ·refine mM Z<|sM Z<|sV (rI (rW (s6-(1:Int))))<|bE h λa7 y h=>WO.uS y Z Z Z Z Z Z Z Z<|bE h λa8 z h=>WO.uw z Z Z Z Z Z Z<|mM Z<|bE h λW B h=>eG B Z<|sV (.d (ac.pd W))<|bE h λX C h=>cD (ce C) ?_
     refine sV (rB (decide (X>(0:Int))))<|sF h ?_ ?_<;>intro h
     ·refine sN<|sO<|cT<|qK<|qB<|Gb Z Z<|sM Z<|sV (rI (rW (s6-(1:Int))))<|sA Z<|sN ?_
      cases oI h
      exact⟨rfl,rfl⟩
     refine sN<|sO<|cF<|qX ?_
     cases oI h
     exact⟨nofun,rfl,rfl⟩
    refine sM Z<|k3<|k3<|k3<|sK<|sK<|sU ?_
    refine sN<|sO<|cF<|qX ?_
    cases oI h
    exact⟨nofun,rfl,rfl⟩
   intro e j f he T
   obtain⟨rfl,c⟩:=T
   refine qE<|WC.join (α:=Unit) (λx j f=>tH prog 0 (A j f) (bj.at_ 41 0 9)=some (A [(0,rM ac.pd a0),(3,.ref 816 0),(4,rI a.1),(5,rI a.2.1)] [(816,.arr 0 78 (a.2.2.map ac.pd))])) (λx=>iD a0 a=some q4) ?_ ?_
   ·refine Ge c Z<|sM Z<|sF h ?_ ?_<;>intro h
    ·refine mM Z<|sM Z<|sV (rI (rW (a.2.1-(1:Int))))<|bE h λc1 N h=>WO.uS N Z Z Z Z Z Z Z Z<|bE h λY O h=>WO.uw O Z Z Z Z Z Z<|mM Z<|bE h λu Q h=>eG Q Z<|sV (.d (ac.pd u))<|WO.bin (eqE_78 Y u) Z Z Z Z Z<|sF h ?_ ?_<;>intro h
     ·refine sN<|sO<|cT<|qX<|qE<|Gb Z Z<|sM Z<|sV (rI (rW (a.1+(1:Int))))<|sA Z<|sN ?_
      cases oI h
      exact⟨rfl,rfl⟩
     exact sN<|sO<|cF<|qK<|⟨(),rfl,h⟩
    refine sM Z<|k3<|k3<|k3<|sK<|sU ?_
    exact sN<|sO<|cF<|qK<|⟨(),rfl,h⟩
   rintro⟨⟩ j f c h
   refine gS Z c<|mM Z<|sM Z<|bE h λq D h=>eG D Z<|sV (.d (ac.pd q))<|sG (.d (.lst ([q].map ac.pd)))<|bE h λa9 E h=>aR E (λ_=>Z) Z<|sA Z<|sN<|Ge Z Z<|sM Z<|sM Z ?_
   refine sV (rI (rW (a.2.1+(1:Int))))<|bE h λb0 F h=>WO.AY F Z Z Z Z Z Z Z Z Z Z Z Z<|mM Z<|bE h λb3 G h=>WO.AY G Z Z Z Z Z Z Z Z Z Z Z Z<|bE h λb4 H h=>bE h λb5 I h=>WO.copyG Z Z Z Z Z Z Z Z (yr H Z) (Ab I Z) Z Z (λ_=>Z) ?_
   refine sN<|sO<|Gb Z Z<|mM Z<|mM Z<|bE h λt J h=>eG J Z<|sV (.d (ac.pd t))<|bE h λb6 K h=>WO.uS K Z Z Z Z Z Z Z Z<|bE h λc0 L h=>WO.xu (g:=ac.pd) (sz:=9) (p:=ac.pd t) L (by intro _;kernel_rfl) (by intro _;kernel_rfl) Z Z Z Z Z Z Z Z Z<|sN<|Gb Z Z ?_
   refine sM Z<|sV (rI (rW (a.1+(1:Int))))<|sA Z<|sN ?_
   cases oI h
   exact⟨rfl,rfl⟩
  refine sN<|cF<|qX ?_
  cases oI h
  exact⟨nofun,rfl,rfl⟩
 intro e j f he T
 obtain⟨rfl,c⟩:=T
 refine qE<|gS Z c<|sM Z<|sA Z<|sN<|qR ?_
 exact oI h▸qD
instance {a0}:CEf (kz a0) 41 [rM ac.pd a0] [] λr=>(.ref 0 0,[.arr 0 78 (r.map ac.pd)]):=⟨λh=>rX h⟩
section
attribute [local irreducible] HM HU HF HB WO WC QS QB vh
instance {a0}:CEf (mc a0) 128 [.d (ac.pd a0)] [] λr=>(rB r,[]):=⟨λh=>Ev.au h func128⟩
instance {a0}:LI (jG a0) 3 (λs=>[(4,rI s.1)]) (λs=>[(416,.arr 0 129 (s.2.map bw.pd))]) (jX 8 (λo=>[]) λo=>[(416,.arr 0 129 (o.map bw.pd))]):=⟨⟩
instance {a0}:CEf (qk a0) 323 [.d (bv.pd a0)] [] λr=>(.d (bv.pd r),[]):=⟨λh=>Ev.au h func323⟩
instance {a0}:CEf (mb a0) 298 [.d (bi.pd a0)] [] λr=>(.d (bi.pd r),[]):=⟨λh=>Ev.au h func298⟩
instance {a0}:LI (iC a0) 3 (λs=>[(4,rI s.1)]) (λs=>[(816,.arr 0 67 (s.2.map av.pd))]) (jX 11 (λo=>[]) λo=>[(816,.arr 0 67 (o.map av.pd))]):=⟨⟩
instance {a0 s1 s2}:LI (iB a0 s1 s2) 7 (λs=>[(6,rI s.1)]) (λs=>[(720,.arr 0 75 (s.2.map bi.pd))]) (jX 10 (λo=>[(4,rI o.1)]) λo=>[(720,.arr 0 75 (o.2.2.map bi.pd)),(816,.arr 0 67 (o.2.1.map av.pd))]):=⟨⟩
instance {a0}:CEf (oM a0) 252 [.d (ag.pd a0)] [] λr=>(.d (ag.pd r),[]):=⟨λh=>Ev.au h func252⟩
instance {a0 a1}:LI (nE a0 a1) 2 (λs=>[(6,rI s)]) (λs=>[]) (jY 6 (λy=>[]) (λy=>[]) f186 λr=>(.tup [.d (av.pd r.1),rB r.2],[])):=⟨⟩
instance {a0 a1}:CEf (qo a0 a1) 186 [.d (ag.pd a0),.d (bn.pd a1)] [] λr=>(.tup [.d (av.pd r.1),rB r.2],[]):=⟨λh=>Ev.au h func186⟩
instance {a a2}:LI (mT a a2) 5 (λs=>[(10,rI s)]) (λs=>[]) (jY 9 (λy=>[]) (λy=>[]) f129 λr=>(.tup [.d (bi.pd r.1),rI r.2],[])):=⟨⟩
instance {a0 a1 a2}:CEf (pR a0 a1 a2) 129 [.d (ag.pd a0),.d (bn.pd a1),rI a2] [] λr=>(.tup [.d (bi.pd r.1),rI r.2],[]):=⟨λh=>Ev.au h func129⟩
instance {a0 a1 a2}:CEf (nk a0 a1 a2) 239 [rI a0,rI a1,rI a2] [] λr=>(rI r,[]):=⟨λh=>Ev.au h func239⟩
instance {a0}:CEf (eS a0) 238 [rI a0] [] λr=>(rI r,[]):=⟨λh=>Ev.au h func238⟩
instance {a0 a1}:CEf (kB a0 a1) 165 [.d (ak.pd a0),.d (aa.pd a1)] [] λr=>(rI r,[]):=⟨λh=>Ev.au h func165⟩
instance {a0 a1 a2}:CEf (ow a0 a1 a2) 240 [rI a0,rI a1,rI a2] [] λr=>(rI r,[]):=⟨λh=>Ev.au h func240⟩
instance {a0 a1}:CEf (my a0 a1) 166 [.d (ak.pd a0),.d (aa.pd a1)] [] λr=>(rI r,[]):=⟨λh=>Ev.au h func166⟩
instance {a0}:LI (oP a0) 3 (λs=>[(3,rI s.1),(4,rI s.2)]) (λs=>[]) (jX 8 (λo=>[(3,rI o)]) λo=>[]):=⟨⟩
instance {a0}:CEf (mz a0) 256 [rI a0] [] λr=>(rI r,[]):=⟨λh=>Ev.au h func256⟩
instance {a0}:CEf (oO a0) 253 [rI a0] [] λr=>(rI r,[]):=⟨λh=>Ev.au h func253⟩
instance {a0}:CEf (rj a0) 254 [.d (bc.pd a0)] [] λr=>(rI r,[]):=⟨λh=>Ev.au h func254⟩
instance {a0 a1}:CEf (rf a0 a1) 255 [.d (bc.pd a0),rI a1] [] λr=>(rI r,[]):=⟨λh=>Ev.au h func255⟩
instance {a0 a1}:CEf (rk a0 a1) 257 [.d (bc.pd a0),rI a1] [] λr=>(rI r,[]):=⟨λh=>Ev.au h func257⟩
instance {a0 a1 a2}:CEf (jH a0 a1 a2) 188 [.d (bc.pd a0),rI a1,rI a2] [] λr=>(.tup [rI r.1,rI r.2.1,rI r.2.2],[]):=⟨λh=>Ev.au h func188⟩
instance {a0 a1 a2}:CEf (fk a0 a1 a2) 130 [.d (bc.pd a0),.d (ak.pd a1),.d (aa.pd a2)] [] λr=>(.tup [rI r.1,rI r.2.1,rI r.2.2],[]):=⟨λh=>Ev.au h func130⟩
instance {a0 a1 a2}:CEf (gN a0 a1 a2) 74 [.d (ai.pd a0),.d (ag.pd a1),.d (ac.pd a2)] [] λr=>(.tup [.d (al.pd r.1),rB r.2],[]):=⟨λh=>Ev.au h func74⟩
instance {a a0 a1}:LI (mf a a0 a1) 3 (λs=>[(15,rI s.1)]) (λs=>[(480,.arr 0 78 (s.2.map ac.pd))]) (jX 9 (λo=>[]) λo=>[(480,.arr 0 78 (o.map ac.pd))]):=⟨⟩
instance {a0 a1 a2}:CEf (iX a0 a1 a2) 73 [.d (ai.pd a0),.d (ag.pd a1),rM ac.pd a2] [] λr=>(rM ac.pd r,[]):=⟨λh=>Ev.au h func73⟩
end
end Go.Dw.Ef
