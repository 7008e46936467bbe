
import Derived.Test.YthkfkgoddhehcaaGreatEfEvC
set_option linter.unusedVariables false
set_option linter.unusedSimpArgs false
open Go.Dw.WC renaming block->Gc, join->Gh, loop->Gd, region->Gb, tw->Ge

set_option maxRecDepth 100000
set_option maxHeartbeats 4000000
namespace Go.Dw.Ef
open Go.Proofs Go.Proofs.Tryz Go.Dw
section
attribute [local irreducible] HM HU HF HB WO WC QS QB vh
instance {a0 a1}:CEf (ix a0 a1) 87 [.d (bZ.pd a0),.d (ai.pd a1)] [] λr=>(.tup [.d (aj.pd r.1),rI r.2],[]):=⟨λh=>Ev.au h func87⟩
instance :LI (fQ) 4 (λs=>[(0,rI s.1)]) (λs=>[(240,.arr 0 3 (s.2.map (PD.int .i64)))]) (jX 7 (λo=>[]) λo=>[(240,.arr 0 3 (o.map (PD.int .i64)))]):=⟨⟩
instance {a0}:CEf (tc a0) 339 [rI a0] [] λr=>(.tup [rL r.1,rI r.2],[]):=⟨λh=>Ev.au h func339⟩
instance {a0}:CEf (oJ a0) 331 [rI a0] [] λr=>(rB r,[]):=⟨λh=>Ev.au h func331⟩
instance {a0}:LI (fo a0) 2 (λs=>[(8,rI s)]) (λs=>[]) (jY 7 (λy=>[]) (λy=>[]) f344 λr=>(rI r,[])):=⟨⟩
instance {a0}:CEf (gg a0) 344 [rL a0,.d (.raw (.func (.func 331) #[] #[]))] [] λr=>(rI r,[]):=⟨λh=>Ev.au h func344⟩
instance {a0}:CEf (dD a0) 330 [rL a0,.d (.raw (.func (.func 331) #[] #[]))] [] λr=>(rB r,[]):=⟨λh=>Ev.au h func330⟩
instance {a0}:CEf (mr a0) 310 [rL a0] [] λr=>(rB r,[]):=⟨λh=>Ev.au h func310⟩
instance {a0 a1}:CEf (qW a0 a1) 347 [rL a0,rL a1] [] λr=>(rB r,[]):=⟨λh=>Ev.au h func347⟩
instance {a0 a1}:CEf (lm a0 a1) 343 [rL a0,rI a1] [] λr=>(rI r,[]):=⟨λh=>Ev.au h func343⟩
instance :LI (nS) 1 (λs=>[(0,rL s)]) (λs=>[]) (jX 3 (λo=>[(0,rL o)]) λo=>[]):=⟨⟩
instance {a0}:CEf (js a0) 342 [rL a0] [] λr=>(rL r,[]):=⟨λh=>Ev.au h func342⟩
instance {a0 a1}:LI (eF a0 a1) 3 (λs=>[(18,rI s.1)]) (λs=>[(240,.arr 0 3 (s.2.map (PD.int .i64)))]) (jX 15 (λo=>[]) λo=>[(240,.arr 0 3 (o.map (PD.int .i64)))]):=⟨⟩
instance {a1 s2 a}:LI (d9 a1 s2 a) 7 (λs=>[(8,rI s.1),(26,rI s.2.1)]) (λs=>[(240,.arr 0 3 (s.2.2.map (PD.int .i64)))]) (jX 14 (λo=>[(18,rI o.1)]) λo=>[(240,.arr 0 3 (o.2.map (PD.int .i64)))]):=⟨⟩
instance {a0 a1}:CEf (jj a0 a1) 329 [rL a0,rL a1] [] λr=>(rL r,[]):=⟨λh=>Ev.au h func329⟩
instance {a0}:CEf (gK a0) 328 [rL a0] [] λr=>(.tup [rL r.1,rI r.2],[]):=⟨λh=>Ev.au h func328⟩
instance {a0 a1}:CEf (nat_Mul a0 a1) 340 [rL a0,rL a1] [] λr=>(.tup [rL r.1,rI r.2],[]):=⟨λh=>Ev.au h func340⟩
instance {a0}:CEf (eu a0) 325 [rI a0] [] λr=>(rL r,[]):=⟨λh=>Ev.au h func325⟩
instance {a1 a0}:LI (gH a1 a0) 6 (λs=>[(7,rI s.1),(19,rI s.2.1)]) (λs=>[(560,.arr 0 3 (s.2.2.map (PD.int .i64)))]) (jX 12 (λo=>[]) λo=>[(560,.arr 0 3 (o.map (PD.int .i64)))]):=⟨⟩
instance {a0 a1}:CEf (nat_Add a0 a1) 341 [rL a0,rL a1] [] λr=>(.tup [rL r.1,rI r.2],[]):=⟨λh=>Ev.au h func341⟩
instance {a0 a1 a2}:CEf (iL a0 a1 a2) 326 [.d (bH.pd a0),rI a1,rI a2] [] λr=>(rL r,[]):=⟨λh=>Ev.au h func326⟩
instance {a0 a1 a2}:CEf (nI a0 a1 a2) 308 [.d (bw.pd a0),rI a1,rI a2] [] λr=>(.tup [.d (bu.pd r.1),rB r.2],[]):=⟨λh=>Ev.au h func308⟩
instance {a0}:CEf (gJ a0) 327 [.d (bu.pd a0)] [] λr=>(rB r,[]):=⟨λh=>Ev.au h func327⟩
instance {a0 a1}:CEf (rG a0 a1) 309 [.d (bu.pd a0),.d (bu.pd a1)] [] λr=>(.tup [.d (bu.pd r.1),rI r.2],[]):=⟨λh=>Ev.au h func309⟩
instance {a0 a1 a2}:LI (eh a0 a1 a2) 7 (λs=>[(33,rI s.1)]) (λs=>[(128,.var [rL s.2.1,rL s.2.2])]) (jY 17 (λy=>[]) (λy=>[(128,.var [rL y.1,rL y.2])]) f268 λr=>(.tup [.d (bu.pd r.1),rI r.2],[])):=⟨⟩
instance {a0 a1 a2}:CEf (nH a0 a1 a2) 268 [.d (bv.pd a0),rI a1,rI a2] [] λr=>(.tup [.d (bu.pd r.1),rI r.2],[]):=⟨λh=>Ev.au h func268⟩
end
theorem rP{a0:Int}{a1:Int}{r:Int}(h:d7 a0 a1=some r):EvP prog bj ext 311 [rI a0,rI a1] [] (rI r,[]):=by
 refine Ev.body Z func311 Z Zk<|gU Z<|sV (r0)<|sN<|gU Z<|sV (r0)<|sN<|qS<|gU Z<|sV (r0)<|sN<|Gc (Gd ?_)
 refine WL.round<|gU Z<|sT<|sN<|qS<|cT<|qK<|Gh (α:=Int×Int) (λx c a=>tH prog 0 (A c a) (bj.at_ 311 0 9)=some (A [(0,rI a0),(1,rI x.1),(5,rI x.2),(6,r0)] [])) (λx=>dz a0 x.1 x.2=some r) ?_ ?_
 ·refine qB<|gU Z<|mM Z<|sV (rI (rW (a1*a1)))<|sV (rI (tU .i64 (rW (a1*a1)) (30:Int)))<|sA Z<|sN<|gU Z<|sM Z<|sV (r0)<|sA Z<|sN<|gU Z<|sM Z ?_
  refine sF h ?_ ?_<;>intro h
  ·exact sN<|cT<|gS rfl rfl<|sM rfl<|bE h λa7 N h=>WO.quoG N rfl rfl rfl rfl rfl rfl<|sA rfl<|sN<|Gb rfl rfl<|sM rfl<|sV (rI 1)<|sA rfl<|sN<|⟨(a7,1),rfl,h⟩
  exact sN<|cF<|qK<|⟨((tU .i64 (rW (a1*a1)) (30:Int)),0),rfl,h⟩
 rintro⟨q,B⟩ c a f h
 refine Gb f Z<|sV (rI 1)<|sM Z<|sN<|WL.round<|gU Z<|sT<|sN<|qS<|cT<|qK<|Gh (α:=Int×Int) (λx c a=>tH prog 0 (A c a) (bj.at_ 311 0 9)=some (A [(0,rI a0),(1,rI x.1),(5,rI x.2),(6,rI 1)] [])) (λx=>dy a0 x.1 x.2=some r) ?_ ?_
 ·refine qB<|gU Z<|mM Z<|sV (rI (rW (q*q)))<|sV (rI (tU .i64 (rW (q*q)) (30:Int)))<|sA Z<|sN<|gU Z<|sM Z<|sV (rI (rW (B*(2:Int))))<|sA Z<|sN<|gU Z<|sM Z ?_
  refine sF h ?_ ?_<;>intro h
  ·exact sN<|cT<|gS rfl rfl<|sM rfl<|bE h λa6 L h=>WO.quoG L rfl rfl rfl rfl rfl rfl<|sA rfl<|sN<|Gb rfl rfl<|sM rfl<|sV (rI (rW ((rW (B*(2:Int)))+(1:Int))))<|sA rfl<|sN<|⟨(a6,(rW ((rW (B*(2:Int)))+(1:Int)))),rfl,h⟩
  exact sN<|cF<|qK<|⟨((tU .i64 (rW (q*q)) (30:Int)),(rW (B*(2:Int)))),rfl,h⟩
 rintro⟨t,C⟩ c a f h
 refine Gb f Z<|sV (rI 2)<|sM Z<|sN<|WL.round<|gU Z<|sT<|sN<|qS<|cT<|qK<|Gh (α:=Int×Int) (λx c a=>tH prog 0 (A c a) (bj.at_ 311 0 9)=some (A [(0,rI a0),(1,rI x.1),(5,rI x.2),(6,rI 2)] [])) (λx=>dx a0 x.1 x.2=some r) ?_ ?_
 ·refine qB<|gU Z<|mM Z<|sV (rI (rW (t*t)))<|sV (rI (tU .i64 (rW (t*t)) (30:Int)))<|sA Z<|sN<|gU Z<|sM Z<|sV (rI (rW (C*(2:Int))))<|sA Z<|sN<|gU Z<|sM Z ?_
  refine sF h ?_ ?_<;>intro h
  ·exact sN<|cT<|gS rfl rfl<|sM rfl<|bE h λa5 K h=>WO.quoG K rfl rfl rfl rfl rfl rfl<|sA rfl<|sN<|Gb rfl rfl<|sM rfl<|sV (rI (rW ((rW (C*(2:Int)))+(1:Int))))<|sA rfl<|sN<|⟨(a5,(rW ((rW (C*(2:Int)))+(1:Int)))),rfl,h⟩
  exact sN<|cF<|qK<|⟨((tU .i64 (rW (t*t)) (30:Int)),(rW (C*(2:Int)))),rfl,h⟩
 rintro⟨u,D⟩ c a f h
 refine Gb f Z<|sV (rI 3)<|sM Z<|sN<|WL.round<|gU Z<|sT<|sN<|qS<|cT<|qK<|Gh (α:=Int×Int) (λx c a=>tH prog 0 (A c a) (bj.at_ 311 0 9)=some (A [(0,rI a0),(1,rI x.1),(5,rI x.2),(6,rI 3)] [])) (λx=>dw a0 x.1 x.2=some r) ?_ ?_
 ·refine qB<|gU Z<|mM Z<|sV (rI (rW (u*u)))<|sV (rI (tU .i64 (rW (u*u)) (30:Int)))<|sA Z<|sN<|gU Z<|sM Z<|sV (rI (rW (D*(2:Int))))<|sA Z<|sN<|gU Z<|sM Z ?_
  refine sF h ?_ ?_<;>intro h
  ·exact sN<|cT<|gS rfl rfl<|sM rfl<|bE h λY J h=>WO.quoG J rfl rfl rfl rfl rfl rfl<|sA rfl<|sN<|Gb rfl rfl<|sM rfl<|sV (rI (rW ((rW (D*(2:Int)))+(1:Int))))<|sA rfl<|sN<|⟨(Y,(rW ((rW (D*(2:Int)))+(1:Int)))),rfl,h⟩
  exact sN<|cF<|qK<|⟨((tU .i64 (rW (u*u)) (30:Int)),(rW (D*(2:Int)))),rfl,h⟩
 rintro⟨y,E⟩ c a f h
 refine Gb f Z<|sV (rI 4)<|sM Z<|sN<|WL.round<|gU Z<|sT<|sN<|qS<|cT<|qK<|Gh (α:=Int×Int) (λx c a=>tH prog 0 (A c a) (bj.at_ 311 0 9)=some (A [(0,rI a0),(1,rI x.1),(5,rI x.2),(6,rI 4)] [])) (λx=>dv a0 x.1 x.2=some r) ?_ ?_
 ·refine qB<|gU Z<|mM Z<|sV (rI (rW (y*y)))<|sV (rI (tU .i64 (rW (y*y)) (30:Int)))<|sA Z<|sN<|gU Z<|sM Z<|sV (rI (rW (E*(2:Int))))<|sA Z<|sN<|gU Z<|sM Z ?_
  refine sF h ?_ ?_<;>intro h
  ·exact sN<|cT<|gS rfl rfl<|sM rfl<|bE h λX I h=>WO.quoG I rfl rfl rfl rfl rfl rfl<|sA rfl<|sN<|Gb rfl rfl<|sM rfl<|sV (rI (rW ((rW (E*(2:Int)))+(1:Int))))<|sA rfl<|sN<|⟨(X,(rW ((rW (E*(2:Int)))+(1:Int)))),rfl,h⟩
  exact sN<|cF<|qK<|⟨((tU .i64 (rW (y*y)) (30:Int)),(rW (E*(2:Int)))),rfl,h⟩
 rintro⟨z,k⟩ c a f h
 refine Gb f Z<|sV (rI 5)<|sM Z<|sN<|WL.round<|gU Z<|sT<|sN<|qS<|cT<|qK<|Gh (α:=Int×Int) (λx c a=>tH prog 0 (A c a) (bj.at_ 311 0 9)=some (A [(0,rI a0),(1,rI x.1),(5,rI x.2),(6,rI 5)] [])) (λx=>du a0 x.1 x.2=some r) ?_ ?_
 ·refine qB<|gU Z<|mM Z<|sV (rI (rW (z*z)))<|sV (rI (tU .i64 (rW (z*z)) (30:Int)))<|sA Z<|sN<|gU Z<|sM Z<|sV (rI (rW (k*(2:Int))))<|sA Z<|sN<|gU Z<|sM Z ?_
  refine sF h ?_ ?_<;>intro h
  ·exact sN<|cT<|gS rfl rfl<|sM rfl<|bE h λW H h=>WO.quoG H rfl rfl rfl rfl rfl rfl<|sA rfl<|sN<|Gb rfl rfl<|sM rfl<|sV (rI (rW ((rW (k*(2:Int)))+(1:Int))))<|sA rfl<|sN<|⟨(W,(rW ((rW (k*(2:Int)))+(1:Int)))),rfl,h⟩
  exact sN<|cF<|qK<|⟨((tU .i64 (rW (z*z)) (30:Int)),(rW (k*(2:Int)))),rfl,h⟩
 rintro⟨g,l⟩ c a f h
 refine Gb f Z<|sV (rI 6)<|sM Z<|sN<|WL.round<|gU Z<|sT<|sN<|qS<|cT<|qK<|Gh (α:=Int×Int) (λx c a=>tH prog 0 (A c a) (bj.at_ 311 0 9)=some (A [(0,rI a0),(1,rI x.1),(5,rI x.2),(6,rI 6)] [])) (λx=>dq a0 x.1 x.2=some r) ?_ ?_
 ·refine qB<|gU Z<|mM Z<|sV (rI (rW (g*g)))<|sV (rI (tU .i64 (rW (g*g)) (30:Int)))<|sA Z<|sN<|gU Z<|sM Z<|sV (rI (rW (l*(2:Int))))<|sA Z<|sN<|gU Z<|sM Z ?_
  refine sF h ?_ ?_<;>intro h
  ·exact sN<|cT<|gS rfl rfl<|sM rfl<|bE h λT G h=>WO.quoG G rfl rfl rfl rfl rfl rfl<|sA rfl<|sN<|Gb rfl rfl<|sM rfl<|sV (rI (rW ((rW (l*(2:Int)))+(1:Int))))<|sA rfl<|sN<|⟨(T,(rW ((rW (l*(2:Int)))+(1:Int)))),rfl,h⟩
  exact sN<|cF<|qK<|⟨((tU .i64 (rW (g*g)) (30:Int)),(rW (l*(2:Int)))),rfl,h⟩
 rintro⟨j,p⟩ c a f h
 refine Gb f Z<|sV (rI 7)<|sM Z<|sN<|WL.round<|gU Z<|sT<|sN<|qS<|cT<|qK<|Gh (α:=Int×Int) (λx c a=>tH prog 0 (A c a) (bj.at_ 311 0 9)=some (A [(0,rI a0),(1,rI x.1),(5,rI x.2),(6,rI 7)] [])) (λx=>dY a0 x.1 x.2=some r) ?_ ?_
 ·refine qB<|gU Z<|mM Z<|sV (rI (rW (j*j)))<|sV (rI (tU .i64 (rW (j*j)) (30:Int)))<|sA Z<|sN<|gU Z<|sM Z<|sV (rI (rW (p*(2:Int))))<|sA Z<|sN<|gU Z<|sM Z ?_
  refine sF h ?_ ?_<;>intro h
  ·exact sN<|cT<|gS rfl rfl<|sM rfl<|bE h λQ F h=>WO.quoG F rfl rfl rfl rfl rfl rfl<|sA rfl<|sN<|Gb rfl rfl<|sM rfl<|sV (rI (rW ((rW (p*(2:Int)))+(1:Int))))<|sA rfl<|sN<|⟨(Q,(rW ((rW (p*(2:Int)))+(1:Int)))),rfl,h⟩
  exact sN<|cF<|qK<|⟨((tU .i64 (rW (j*j)) (30:Int)),(rW (p*(2:Int)))),rfl,h⟩
 rintro⟨a8,O⟩ c a f h
 refine Gb f Z<|sV (rI 8)<|sM Z<|sN<|WL.round<|gU Z<|sU<|sN<|qS<|cF<|qX<|qE<|gU Z<|sM Z<|sV (rI (rW ((256:Int)*a0))) ?_
 refine sM Z<|sV (rI (rW ((rW ((256:Int)*a0))+O)))<|sA Z<|sN<|qR ?_
 exact oI h▸qD
instance {a0 a1}:CEf (d7 a0 a1) 311 [rI a0,rI a1] [] λr=>(rI r,[]):=⟨λh=>rP h⟩
section
attribute [local irreducible] HM HU HF HB WO WC QS QB vh
instance {a0}:CEf (fP a0) 270 [rI a0] [] λr=>(.tup [rI r.1,rI r.2],[]):=⟨λh=>Ev.au h func270⟩
instance {a0}:CEf (e8 a0) 269 [rL a0] [] λr=>(.tup [rI r.1,rI r.2],[]):=⟨λh=>Ev.au h func269⟩
instance {a0 a1 a2}:CEf (ng a0 a1 a2) 210 [.d (bK.pd a0),.d (bv.pd a1),rI a2] [] λr=>(.tup [rI r.1,rI r.2],[]):=⟨λh=>Ev.au h func210⟩
instance {a0}:CEf (km a0) 213 [rI a0] [] λr=>(rI r,[]):=⟨λh=>Ev.au h func213⟩
instance {a0}:CEf (nf a0) 276 [rI a0] [] λr=>(.tup [rI r.1,rB r.2],[]):=⟨λh=>Ev.au h func276⟩
instance {a0}:CEf (jq a0) 212 [rI a0] [] λr=>(rI r,[]):=⟨λh=>Ev.au h func212⟩
instance {a0}:CEf (mP a0) 214 [rI a0] [] λr=>(rI r,[]):=⟨λh=>Ev.au h func214⟩
instance {a0 a1 a2 a3 a4}:CEf (jU a0 a1 a2 a3 a4) 142 [.d (bK.pd a0),.d (bv.pd a1),rI a2,rI a3,rI a4] [] λr=>(.tup [.d (bh.pd r.1),rI r.2],[]):=⟨λh=>Ev.au h func142⟩
instance {a0 a2 a1}:LI (d8 a0 a2 a1) 3 (λs=>[(15,rI s.1)]) (λs=>[(816,.arr 0 82 (s.2.map bh.pd))]) (jX 9 (λo=>[]) λo=>[(816,.arr 0 82 (o.map bh.pd))]):=⟨⟩
instance {a0 a1 a2}:CEf (ji a0 a1 a2) 88 [.d (bZ.pd a0),.d (ai.pd a1),.d (ak.pd a2)] [] λr=>(rM bh.pd r,[]):=⟨λh=>Ev.au h func88⟩
instance {a0}:CEf (jh a0) 146 [.d (bh.pd a0)] [] λr=>(rB r,[]):=⟨λh=>Ev.au h func146⟩
instance {a0}:LI (dQ a0) 2 (λs=>[(8,rI s)]) (λs=>[]) (jY 7 (λy=>[]) (λy=>[]) f218 λr=>(rI r,[])):=⟨⟩
instance {a0}:CEf (fe a0) 218 [rM bh.pd a0,.d (.raw (.func (.func 146) #[] #[]))] [] λr=>(rI r,[]):=⟨λh=>Ev.au h func218⟩
instance {a0}:CEf (dP a0) 145 [rM bh.pd a0,.d (.raw (.func (.func 146) #[] #[]))] [] λr=>(rB r,[]):=⟨λh=>Ev.au h func145⟩
instance {a0}:CEf (mQ a0) 148 [.d (bh.pd a0)] [] λr=>(rI r,[]):=⟨λh=>Ev.au h func148⟩
instance {a0}:LI (fg a0) 3 (λs=>[(10,rI s.1)]) (λs=>[(304,.arr 0 3 (s.2.map (PD.int .i64)))]) (jX 7 (λo=>[]) λo=>[(304,.arr 0 3 (o.map (PD.int .i64)))]):=⟨⟩
instance {a0}:CEf (jL a0) 147 [rM bh.pd a0,.d (.raw (.func (.func 148) #[] #[]))] [] λr=>(rI r,[]):=⟨λh=>Ev.au h func147⟩
instance {a0}:CEf (mR a0) 149 [.d (bh.pd a0)] [] λr=>(rI r,[]):=⟨λh=>Ev.au h func149⟩
instance {a0}:LI (fh a0) 3 (λs=>[(10,rI s.1)]) (λs=>[(304,.arr 0 3 (s.2.map (PD.int .i64)))]) (jX 7 (λo=>[]) λo=>[(304,.arr 0 3 (o.map (PD.int .i64)))]):=⟨⟩
instance {a0}:CEf (jM a0) 147 [rM bh.pd a0,.d (.raw (.func (.func 149) #[] #[]))] [] λr=>(rI r,[]):=⟨λh=>Ev.au h func147⟩
instance {a0}:CEf (jT a0) 89 [rM bh.pd a0] [] λr=>(.tup [.d (bh.pd r.1),rI r.2],[]):=⟨λh=>Ev.au h func89⟩
instance {a0 a1 a2}:CEf (m8 a0 a1 a2) 43 [.d (ai.pd a0),.d (ag.pd a1),rM ac.pd a2] [] λr=>(.tup [.d (bQ.pd r.1),rI r.2],[]):=⟨λh=>Ev.au h func43⟩
instance {a0 a1}:CEf (lN a0 a1) 91 [.d (ac.pd a0),.d (ac.pd a1)] [] λr=>(rI r,[]):=⟨λh=>Ev.au h func91⟩
end
theorem nq{a0:(List ac)}{r:ac}(h:eJ a0=some r):EvP prog bj ext 90 [rM ac.pd a0,.d (.raw (.func (.func 91) #[] #[]))] [] (.d (ac.pd r),[]):=by
 refine Ev.body Z func90 Z Zk<|gU Z<|sB (.ptr 64 0) 64 (.var [rS [],rS [],rS [],rS [],r0,r0,r0,r0,r0])<|sN<|qS<|gU Z<|sM Z<|sE (rI (a0.length:Int)) (uf _ _)<|sF h ?_ ?_<;>intro h
 ·refine sN<|cT<|Gb Z Z<|sG (.ifc 9 (rS [115,108,105,99,101,115,46,77,105,110,70,117,110,99,58,32,101,109,112,116,121,32,108,105,115,116])) ?_
  cases h
 refine sN<|cF<|qK<|gU Z<|sM Z<|bE h λx B h=>eG B Z<|sV (.d (ac.pd x))<|sB (.ptr 80 0) 80 (.var [rS [],rS [],rS [],rS [],r0,r0,r0,r0,r0])<|sH 80 (.var (ac.rc x))<|sN<|qS<|gU Z<|sV (rI 1)<|sN ?_
 refine bE h λa c h=>Gc (Gd (WL.tS c (λs=>gI 0 90 5 [(0,rM ac.pd a0),(1,.d (.raw (.func (.func 91) #[] #[]))),(4,.ptr 64 0),(5,.ptr 80 0),(6,rI s.1)] [(64,.var [rS [],rS [],rS [],rS [],r0,r0,r0,r0,r0]),(80,.var [rS s.2.1,rS s.2.2.1,rS s.2.2.2.1,rS s.2.2.2.2.1,rI s.2.2.2.2.2.1,rI s.2.2.2.2.2.2.1,rI s.2.2.2.2.2.2.2.1,rI s.2.2.2.2.2.2.2.2.1,rI s.2.2.2.2.2.2.2.2.2])]) (λo=>gX 0 0 90 9 [(4,.ptr 64 0),(5,.ptr 80 0)] [(64,.var [rS [],rS [],rS [],rS [],r0,r0,r0,r0,r0]),(80,.var [rS o.1,rS o.2.1,rS o.2.2.1,rS o.2.2.2.1,rI o.2.2.2.2.1,rI o.2.2.2.2.2.1,rI o.2.2.2.2.2.2.1,rI o.2.2.2.2.2.2.2.1,rI o.2.2.2.2.2.2.2.2])]) Z ?_ ?_))
 ·rintro⟨s3,E,F,G,H,I,J,p,q,t⟩ z y D l h
  refine qS<|gS Z l<|mM Z<|sE (rI (a0.length:Int)) (uf _ _)<|sF h ?_ ?_<;>intro h
  ·refine sN<|cT<|qK<|qS<|qB<|Ge Z Z<|mM Z<|sM Z<|bE h λu g h=>eG g Z<|sV (.d (ac.pd u))<|sV (.d (ac.pd (ac.mk (bn.mk E F G H) I J p q t)))<|bE h λK j h=>cD (ce j) ?_
   refine sF h ?_ ?_<;>intro h
   ·refine sN<|sO<|cT<|Gb Z Z<|mM Z<|bE h λf k h=>eG k Z<|sV (.d (ac.pd f))<|sH 80 (.var (ac.rc f))<|sN<|Gb Z Z<|sM Z<|sV (rI (rW (s3+(1:Int))))<|sA Z<|sN ?_
    cases oI h
    exact⟨rfl,rfl⟩
   refine sN<|sO<|cF<|qK<|Gb Z Z<|sM Z<|sV (rI (rW (s3+(1:Int))))<|sA Z<|sN ?_
   cases oI h
   exact⟨rfl,rfl⟩
  refine sN<|cF<|qX ?_
  cases oI h
  exact⟨nofun,rfl,rfl⟩
 intro e z y he C
 obtain⟨rfl,l⟩:=C
 refine qE<|gS Z l<|sV (.d (ac.pd (ac.mk (bn.mk a.1 a.2.1 a.2.2.1 a.2.2.2.1) a.2.2.2.2.1 a.2.2.2.2.2.1 a.2.2.2.2.2.2.1 a.2.2.2.2.2.2.2.1 a.2.2.2.2.2.2.2.2)))<|sH 64 (.var [rS a.1,rS a.2.1,rS a.2.2.1,rS a.2.2.2.1,rI a.2.2.2.2.1,rI a.2.2.2.2.2.1,rI a.2.2.2.2.2.2.1,rI a.2.2.2.2.2.2.2.1,rI a.2.2.2.2.2.2.2.2])<|sN<|qR ?_
 cases oI h
 exact qG
instance {a0}:CEf (eJ a0) 90 [rM ac.pd a0,.d (.raw (.func (.func 91) #[] #[]))] [] λr=>(.d (ac.pd r),[]):=⟨λh=>nq h⟩
section
attribute [local irreducible] HM HU HF HB WO WC QS QB vh
instance {a0}:CEf (qc a0) 44 [rM ac.pd a0] [] λr=>(.d (ac.pd r),[]):=⟨λh=>Ev.au h func44⟩
instance {a0 a1 a2}:CEf (lO a0 a1 a2) 46 [.d (eL.pd a0),.d (bd.pd a1),.d (bd.pd a2)] [] λr=>(rI r,[]):=⟨λh=>Ev.au h func46⟩
end
theorem iP{a1:Int}{a2:Int}{d0:(List bd)}{r:(List bd)}(h:dN a1 a2 d0=some r):EvP prog bj ext 150 [.ref 0 0,rI a1,rI a2,.d (.raw (.func (.func 46) #[.agg #[]] #[]))] [.arr 0 86 (d0.map bd.pd)] (.tup [],[.arr 0 86 (r.map bd.pd)]):=by
 refine Ev.body Z func150 Z Zk<|gU Z<|sM Z<|sV (rI (rW (a1+(1:Int))))<|sA Z<|sN<|bE h λW j h=>?_
 cases oI h
 refine Gc (Gd (WL.yS j (λs=>gI 1 150 1 [(0,.ref 0 0),(1,rI a1),(2,rI a2),(3,.d (.raw (.func (.func 46) #[.agg #[]] #[]))),(8,rI s.1)] [(0,.arr 0 86 (s.2.map bd.pd))]) Z ?_))
 rintro⟨s1,s2⟩ O N q3 c h
 refine qS<|gS Z c<|mM Z<|sF h ?_ ?_<;>intro h
 ·refine sN<|cT<|qK<|qS<|qB<|gU Z<|sM Z<|sA Z<|sN<|bE h λI f h=>Gc (Gd (WL.tS f (λs=>gI 1 150 4 [(0,.ref 0 0),(1,rI a1),(2,rI a2),(3,.d (.raw (.func (.func 46) #[.agg #[]] #[]))),(8,rI s1),(9,rI s.1)] [(0,.arr 0 86 (s.2.map bd.pd))]) (λo=>gX 2 1 150 2 [(0,.ref 0 0),(1,rI a1),(2,rI a2),(3,.d (.raw (.func (.func 46) #[.agg #[]] #[]))),(8,rI o.1)] [(0,.arr 0 86 (o.2.map bd.pd))]) Z ?_ ?_))
  ·rintro⟨k,s6⟩ O N q9 c h
   refine qS<|Ge c Z<|mM Z<|sF h ?_ ?_<;>intro h
   ·refine mM Z<|mM Z<|bE h λX l h=>WO.uS l Z Z Z Z Z Z Z Z<|bE h λY q h=>WO.uw q Z Z Z Z Z Z<|mM Z<|sV (rI (rW (k-(1:Int))))<|bE h λa5 t h=>WO.uS t Z Z Z Z Z Z Z Z<|bE h λa6 u h=>WO.uw u Z Z Z Z Z Z ?_
    refine bE h λJ x h=>cD (ce x)<|sV (rB (decide (J<(0:Int))))<|sF h ?_ ?_<;>intro h
    ·refine sN<|sO<|cT<|qK<|qS<|qB<|WC.uI Z Z<|mM Z<|mM Z<|sV (rI (rW (k-(1:Int))))<|mM Z<|sV (rI (rW (k-(1:Int))))<|bE h λa7 y h=>?_
     refine WO.uS y Z Z Z Z Z Z Z Z<|bE h λK z h=>WO.uw z Z Z Z Z Z Z<|mM Z<|bE h λa8 B h=>WO.uS B Z Z Z Z Z Z Z Z<|bE h λL C h=>WO.uw C Z Z Z Z Z Z<|bE h λa9 D h=>WO.uS D Z Z Z Z Z Z Z Z<|bE h λb0 E h=>WO.xu (g:=bd.pd) (sz:=25) (p:=bd.pd K) E (by intro _;kernel_rfl) (by intro _;kernel_rfl) Z Z Z Z Z Z Z Z Z<|bE h λb3 F h=>WO.uS F Z Z Z Z Z Z Z Z ?_
     refine bE h λb4 G h=>WO.xu (g:=bd.pd) (sz:=25) (p:=bd.pd L) G (by intro _;kernel_rfl) (by intro _;kernel_rfl) Z Z Z Z Z Z Z Z Z ?_
     refine sN<|sO<|Gb Z Z<|sM Z<|sV (rI (rW (k-(1:Int))))<|sA Z<|sN ?_
     cases oI h
     exact⟨rfl,rfl⟩
    refine sN<|sO<|cF<|qX ?_
    cases oI h
    exact⟨nofun,rfl,rfl⟩
   refine sM Z<|k3<|k3<|k3<|k3<|sU ?_
   refine sN<|sO<|cF<|qX ?_
   cases oI h
   exact⟨nofun,rfl,rfl⟩
  intro e O N he Q
  obtain⟨rfl,c⟩:=Q
  refine qE<|Gb c Z<|sM Z<|sV (rI (rW (I.1+(1:Int))))<|sA Z<|sN ?_
  cases oI h
  exact⟨rfl,rfl⟩
 refine sN<|cF<|qX<|tF h (λz33 a T=>?_)
 obtain rfl:=Option.some.inj T
 refine⟨(λhe=>by cases he),λH=>?_⟩
 subst H
 have h:=a
 refine qE ?_
 exact oI h▸qD
theorem kb:∀(a:Nat){a1:Int}{a2:Int}{a3:Int}{d0:(List bd)}{r:(List bd)}(_:fG a a1 a2 a3 d0=some r),EvP prog bj ext 92 [.ref 0 0,rI a1,rI a2,rI a3,.d (.raw (.func (.func 46) #[.agg #[]] #[]))] [.arr 0 86 (d0.map bd.pd)] (.tup [],[.arr 0 86 (r.map bd.pd)])
  |0,_,_,_,_,_,h=>by cases h
  |a+1,a1,a2,a3,d0,r,h=>by
   refine Ev.body Z func92 Z Zk<|gU Z<|sT<|sN<|gU Z<|sT<|sN<|bE h λq c h=>Gc (Gd (WL.tS c (λs=>gI 1 92 2 [(0,.ref 0 0),(1,rI a1),(2,rI a2),(3,rI a3),(4,.d (.raw (.func (.func 46) #[.agg #[]] #[]))),(10,rB true),(11,rB true)] [(0,.arr 0 86 (d0.map bd.pd))]) (λo=>gF 92 f92 1 (.tup [],[.arr 0 86 (o.map bd.pd)])) Z ?_ ?_))
   ·rintro⟨⟩ g f t k h
    refine qB<|gS Z k<|mM Z<|sV (rI (rW (a2-a1)))<|sA Z<|sN<|qS<|gU Z<|sM Z<|sF h ?_ ?_<;>intro h
    ·refine sN<|cT<|gU Z<|mM Z<|mM Z<|bE h λp j h=>cR (.tup []) [(0,.arr 0 86 (p.map bd.pd))] (iP j)<|sN<|qR ?_
     cases oI h
     exact⟨nofun,rfl,rfl⟩
    refine sN<|cF<|qK<|qS<|gU Z<|sM Z<|sF h ?_ ?_<;>intro h
    ·refine sN<|cT<|gU Z<|mM Z<|sM Z<|sM Z ?_
     cases h
    refine sN<|cF<|qK<|qS<|gU Z<|sM Z<|sU<|sN<|cF<|qK<|gU Z<|mM Z<|sM Z<|sM Z ?_
    cases h
   intro e g f he l
   obtain⟨rfl,hf⟩:=l
   cases oI h
   exact hf
theorem kX{a1:Int}{a2:Int}{a3:Int}{d0:(List bd)}{r:(List bd)}(h:cP a1 a2 a3 d0=some r):EvP prog bj ext 92 [.ref 0 0,rI a1,rI a2,rI a3,.d (.raw (.func (.func 46) #[.agg #[]] #[]))] [.arr 0 86 (d0.map bd.pd)] (.tup [],[.arr 0 86 (r.map bd.pd)]):=
  let⟨n,a⟩:=Ep h;kb n a
instance {a1 a2 a3 d0}:CEf (cP a1 a2 a3 d0) 92 [.ref 0 0,rI a1,rI a2,rI a3,.d (.raw (.func (.func 46) #[.agg #[]] #[]))] [.arr 0 86 (d0.map bd.pd)] λr=>(.tup [],[.arr 0 86 (r.map bd.pd)]):=⟨λh=>kX h⟩
section
attribute [local irreducible] HM HU HF HB WO WC QS QB vh
instance {d0}:CEf (dF d0) 45 [.ref 0 0,.d (.raw (.func (.func 46) #[.agg #[]] #[]))] [.arr 0 86 (d0.map bd.pd)] λr=>(.tup [],[.arr 0 86 (r.map bd.pd)]):=⟨λh=>Ev.au h func45⟩
end
theorem event_Find_ev{a0:ai}{a1:ag}{a2:(List ac)}{r:(List bd)×(List ac)×Int}(h:qa a0 a1 a2=some r):EvP prog bj ext 15 [.d (ai.pd a0),.d (ag.pd a1),rM ac.pd a2] [] (.tup [rM bd.pd r.1,rM ac.pd r.2.1,rI r.2.2],[]):=by
 refine Ev.body Z func15 Z Zk<|gU Z<|sB (.ptr 48 0) 48 (.var (ai.rc a0))<|sB (.ptr 64 0) 64 (.var [rM av.pd a1.bp])<|sV .tC<|sV .tC<|sV (r0)<|sN<|gU Z<|sV (.d (ai.pd a0))<|sV (.d (ag.pd a1))<|sM Z<|bE h λj h1 h=>cR (.tup [rM ac.pd j.1,rM al.pd j.2.1,rI j.2.2]) [] (ce h1)<|sM Z ?_
 refine sV (rM ac.pd j.1)<|sV (rM al.pd j.2.1)<|sV (rI j.2.2)<|sA Z<|sA Z<|sA Z<|sN<|qS<|gU Z<|sM Z<|sF h ?_ ?_<;>intro h
 ·refine sN<|cT<|gU Z<|sM Z<|sV .tC<|sV .tC<|sA Z<|sN<|qR ?_
  cases oI h
  exact qG
 refine sN<|cF<|qK<|gU Z<|sV (.ptr 48 0)<|sV (.d (aw.pd a0.ae))<|sM Z<|bE h λf Y h=>cR (.tup [rM bz.pd f.1,rL f.2.1,rI f.2.2]) [] (pZ Y)<|sM Z<|sV (rM bz.pd f.1)<|sV (rL f.2.1)<|sV (rI f.2.2)<|sA Z<|sA Z ?_
 refine sA Z<|sN<|qS<|gU Z<|sM Z<|sF h ?_ ?_<;>intro h
 ·refine sN<|cT<|gU Z<|sM Z<|sV .tC<|sV .tC<|sA Z<|sN<|qR ?_
  cases oI h
  exact qG
 refine sN<|cF<|qK<|gU Z<|sV .tC<|sN<|qS<|gU Z<|sM Z<|sE (rI (f.1.length:Int)) (uf _ _)<|sV (r0)<|sN<|bE h λT x h=>Gc (Gd (WL.tS x (λs=>gI 0 15 9 [(3,.ptr 48 0),(4,.ptr 64 0),(9,rM ac.pd j.1),(13,rL f.2.1),(14,.ref 1360 0),(47,rM bz.pd f.1),(48,rI (f.1.length:Int)),(49,rI s.1)] [(48,.var (ai.rc a0)),(64,.var [rM av.pd a1.bp]),(1360,.arr 0 86 (s.2.map bd.pd))]) (λo=>match o with| .inl y=>gX 0 0 15 22 [(9,rM ac.pd j.1),(13,rL f.2.1),(14,.ref 1360 0)] [(1360,.arr 0 86 (y.map bd.pd))]| .inr r=>gF 15 f15 0 (.tup [rM bd.pd r.1,rM ac.pd r.2.1,rI r.2.2],[])) Z ?_ ?_))
 ·rintro⟨s5,s6⟩ t q q8 g h
  refine gS Z g<|sF h ?_ ?_<;>intro h
  ·refine sN<|qS<|cT<|qK<|qS<|qB<|gU Z<|bE h λk D h=>eG D Z<|sV (.d (bz.pd k))<|sB (.ptr 256 0) 256 (.var [.tC,r0,r0,r0,r0])<|sS 256 (.var (bz.rc k))<|sN<|gU Z<|sV .tC ?_
   refine sN<|qS<|gU Z<|sV (.ptr 256 0)<|sL Z<|sE (rI (k.cf.length:Int)) (uf _ _)<|sV (r0)<|sN<|bE h λQ u h=>Gc (Gd (WL.tS u (λs=>gI 0 15 13 [(3,.ptr 48 0),(4,.ptr 64 0),(9,rM ac.pd j.1),(13,rL f.2.1),(14,.ref 1360 0),(17,.ref 1056 0),(47,rM bz.pd f.1),(48,rI (f.1.length:Int)),(49,rI s5),(54,rL k.cf),(55,rI (k.cf.length:Int)),(56,rI s.1)] [(48,.var (ai.rc a0)),(64,.var [rM av.pd a1.bp]),(1056,.arr 0 78 (s.2.map ac.pd)),(1360,.arr 0 86 (s6.map bd.pd))]) (λo=>gX 2 0 15 17 [(3,.ptr 48 0),(4,.ptr 64 0),(9,rM ac.pd j.1),(13,rL f.2.1),(14,.ref 1360 0),(17,.ref 1056 0),(47,rM bz.pd f.1),(48,rI (f.1.length:Int)),(49,rI o.1)] [(48,.var (ai.rc a0)),(64,.var [rM av.pd a1.bp]),(1056,.arr 0 78 (o.2.2.map ac.pd)),(1360,.arr 0 86 (o.2.1.map bd.pd))]) Z ?_ ?_))
   ·rintro⟨W,a9⟩ t q a6 g h
    refine gS Z g<|sF h ?_ ?_<;>intro h
    ·refine sN<|qS<|cT<|qK<|qS<|qB<|gU Z<|bE h λb3 E h=>eG E Z<|sC Z<|sA Z<|sN<|Gb Z Z<|sM Z<|sM Z ?_
     refine sM Z<|bE h λB F h=>eG F Z<|sV (.d (ac.pd B))<|sG (.d (.lst ([B].map ac.pd)))<|bE h λb4 G h=>aR G (λ_=>Z) Z<|sA Z<|sN<|Gb Z Z<|sV (rI (rW (W+(1:Int))))<|sM Z<|sN ?_
     cases oI h
     exact⟨rfl,rfl⟩
    refine sN<|qS<|cF<|qX ?_
    cases oI h
    exact⟨nofun,rfl,rfl⟩
   intro e t q he p
   obtain⟨rfl,g⟩:=p
   refine qE<|gS Z g<|sV (.d (ai.pd a0))<|sV (.d (ag.pd a1))<|sM Z<|bE h λa H h=>cR (.tup [.d (bQ.pd a.1),rI a.2]) [(1056,.dead)] (ce H)<|sM Z<|sV (.d (bQ.pd a.1))<|sV (rI a.2)<|sB (.ptr 320 0) 320 (.var [.tC,r0,r0,r0,r0,r0,r0,r0,r0,r0,r0,r0,r0,r0,r0,r0])<|sH 320 (.var (bQ.rc a.1))<|sA Z<|sN<|qS ?_
   refine gU Z<|sM Z<|sF h ?_ ?_<;>intro h
   ·refine sN<|cT<|gU Z<|sM Z<|sV .tC<|sV .tC<|sA Z<|sN<|qR ?_
    cases oI h
    exact⟨nofun,rfl,rfl⟩
   refine sN<|cF<|qK<|WC.uI Z Z<|sM Z<|sV (.ptr 320 0)<|sL Z<|bE h λc I h=>cD (ce I)<|sV (.d (bQ.pd a.1))<|sG (.d (.agg [.str c.az.bI,.str c.az.bB,.str c.az.bg,.str c.az.bL,.int .i64 c.bS,.int .i64 c.bA,.int .i64 c.bY,.int .i64 c.bG,.int .i64 c.bM,.lst (a.1.gm.map ac.pd),.int .i64 a.1.bg.bU.fX,.int .i64 a.1.bg.bU.fY,.int .i64 a.1.bg.bU.fZ,.int .i64 a.1.bg.bS,.int .i64 a.1.bg.cA,.int .i64 a.1.bg.ml,.int .i64 a.1.bg.ca.bo.fX,.int .i64 a.1.bg.ca.bo.fY,.int .i64 a.1.bg.ca.bo.fZ,.int .i64 a.1.bg.ca.ba.fX,.int .i64 a.1.bg.ca.ba.fY,.int .i64 a.1.bg.ca.ba.fZ,.int .i64 a.1.ed.bo,.int .i64 a.1.ed.ba,.int .i64 a.1.qU]))<|sG (.d (.lst ([(bd.mk c a.1)].map bd.pd)))<|bE h λb5 J h=>aR J (λ_=>Z) Z<|sA Z ?_
   refine sN<|sO<|Gb Z Z<|sV (rI (rW (Q.1+(1:Int))))<|sM Z<|sN ?_
   cases oI h
   exact⟨rfl,rfl⟩
  refine sN<|qS<|cF<|qX ?_
  cases oI h
  exact⟨nofun,rfl,rfl⟩
 intro e t q he p
 rcases T with c1|a8
 ·obtain⟨rfl,g⟩:=p
  refine qE<|gS Z g<|sM Z<|sV (.d (eL.pd (eL.mk )))<|sV (.d (.raw (.func (.func 46) #[.agg #[]] #[])))<|bE h λl K h=>cR (.tup []) [(1360,.arr 0 86 (l.map bd.pd))] (ce K)<|sN<|gU Z<|sV .tC<|sN<|qS<|gU Z<|sM Z<|sE (rI (f.2.1.length:Int)) (uf _ _) ?_
  refine sV (r0)<|sN<|bE h λa5 z h=>Gc (Gd (WL.tS z (λs=>gI 0 15 25 [(9,rM ac.pd j.1),(14,.ref 1360 0),(22,.ref 1648 0),(91,rL f.2.1),(92,rI (f.2.1.length:Int)),(93,rI s.1)] [(1360,.arr 0 86 (l.map bd.pd)),(1648,.arr 0 78 (s.2.map ac.pd))]) (λo=>gX 4 0 15 29 [(14,.ref 1360 0),(22,.ref 1648 0)] [(1360,.arr 0 86 (l.map bd.pd)),(1648,.arr 0 78 (o.map ac.pd))]) Z ?_ ?_))
  ·rintro⟨X,b0⟩ t q a7 g h
   refine gS Z g<|sF h ?_ ?_<;>intro h
   ·refine sN<|qS<|cT<|qK<|qS<|qB<|gU Z<|bE h λb6 L h=>eG L Z<|sC Z<|sA Z<|sN<|Gb Z Z<|sM Z<|sM Z ?_
    refine sM Z<|bE h λC N h=>eG N Z<|sV (.d (ac.pd C))<|sG (.d (.lst ([C].map ac.pd)))<|bE h λc0 O h=>aR O (λ_=>Z) Z<|sA Z<|sN<|Gb Z Z<|sV (rI (rW (X+(1:Int))))<|sM Z<|sN ?_
    cases oI h
    exact⟨rfl,rfl⟩
   refine sN<|qS<|cF<|qX ?_
   cases oI h
   exact⟨nofun,rfl,rfl⟩
  intro e t q he p
  obtain⟨rfl,g⟩:=p
  refine qE<|gS Z g<|mM Z<|sA Z<|sA Z<|sV (r0)<|sN<|qR ?_
  exact oI h▸qD
 obtain⟨rfl,hf⟩:=p
 cases oI h
 exact hf
section
attribute [local irreducible] HM HU HF HB WO WC QS QB vh
instance {a0}:CEf (dR a0) 158 [.d (al.pd a0)] [] λr=>(rB r,[]):=⟨λh=>Ev.au h func158⟩
instance {a1 a0}:LI (gd a1 a0) 6 (λs=>[(5,rI s)]) (λs=>[]) (jY 13 (λy=>[]) (λy=>[]) f93 λr=>(rI r,[])):=⟨⟩
instance {a0 a1}:CEf (mW a0 a1) 93 [.d (aw.pd a0),rM al.pd a1] [] λr=>(rI r,[]):=⟨λh=>Ev.au h func93⟩
instance {a2 a1}:LI (lv a2 a1) 3 (λs=>[(8,rI s.1)]) (λs=>[(512,.arr 0 107 (s.2.map al.pd))]) (jX 6 (λo=>[]) λo=>[(512,.arr 0 107 (o.map al.pd))]):=⟨⟩
instance {a0 a1 a2}:CEf (nF a0 a1 a2) 159 [.d (aw.pd a0),rM al.pd a1,rL a2] [] λr=>(.d (aj.pd r),[]):=⟨λh=>Ev.au h func159⟩
instance {a0}:LI (jl a0) 12 (λs=>[(3,rI s)]) (λs=>[]) (jY 19 (λy=>[]) (λy=>[]) f225 λr=>(rI r,[])):=⟨⟩
instance {a0}:CEf (kH a0) 225 [.d (aj.pd a0)] [] λr=>(rI r,[]):=⟨λh=>Ev.au h func225⟩
instance {a0 a1}:CEf (kA a0 a1) 312 [.d (ak.pd a0),.d (aa.pd a1)] [] λr=>(rB r,[]):=⟨λh=>Ev.au h func312⟩
instance {a0 a1}:CEf (oh a0 a1) 278 [.d (ak.pd a0),.d (ak.pd a1)] [] λr=>(rB r,[]):=⟨λh=>Ev.au h func278⟩
instance {a0 a1 a2}:CEf (qq a0 a1 a2) 279 [.d (bc.pd a0),.d (ak.pd a1),.d (al.pd a2)] [] λr=>(.tup [.d (bC.pd r.1),rI r.2],[]):=⟨λh=>Ev.au h func279⟩
instance {a0 a1}:LI (gt a0 a1) 8 (λs=>[(8,rI s.1)]) (λs=>[(688,.arr 0 215 (s.2.map bC.pd))]) (jX 12 (λo=>[]) λo=>[(688,.arr 0 215 (o.map bC.pd))]):=⟨⟩
instance {a0 a1}:CEf (mA a0 a1) 222 [.d (aj.pd a0),.d (ak.pd a1)] [] λr=>(.tup [rM bC.pd r.1,rI r.2],[]):=⟨λh=>Ev.au h func222⟩
instance {a0 a1}:CEf (kG a0 a1) 224 [.d (bC.pd a0),rI a1] [] λr=>(rI r,[]):=⟨λh=>Ev.au h func224⟩
instance {a1 a0 a2}:LI (jI a1 a0 a2) 3 (λs=>[(7,rI s.1),(8,rI s.2)]) (λs=>[]) (jX 6 (λo=>[(7,rI o)]) λo=>[]):=⟨⟩
instance {a0 a1 a2}:CEf (kF a0 a1 a2) 313 [.d (aj.pd a0),rM bC.pd a1,rI a2] [] λr=>(rI r,[]):=⟨λh=>Ev.au h func313⟩
instance {a1 a0}:LI (iF a1 a0) 3 (λs=>[(6,rI s.1),(7,rI s.2.1),(8,rI s.2.2)]) (λs=>[]) (jX 12 (λo=>[(6,rI o.1),(7,rI o.2)]) λo=>[]):=⟨⟩
instance {a0 a1}:CEf (oQ a0 a1) 280 [.d (aj.pd a0),rM bC.pd a1] [] λr=>(.tup [rI r.1,rI r.2],[]):=⟨λh=>Ev.au h func280⟩
instance {a0 a1}:CEf (iV a0 a1) 226 [.d (aj.pd a0),.d (ak.pd a1)] [] λr=>(.tup [rI r.1,rI r.2],[]):=⟨λh=>Ev.au h func226⟩
instance {a0}:LI (oR a0) 3 (λs=>[(3,rI s.1),(4,rI s.2)]) (λs=>[]) (jX 7 (λo=>[(3,rI o)]) λo=>[]):=⟨⟩
instance {a0}:CEf (qr a0) 227 [rM bq.pd a0] [] λr=>(rI r,[]):=⟨λh=>Ev.au h func227⟩
instance {a0 a1}:CEf (lu a0 a1) 281 [rI a0,rI a1] [] λr=>(rI r,[]):=⟨λh=>Ev.au h func281⟩
instance {a0}:CEf (lq a0) 228 [.d (ak.pd a0)] [] λr=>(.d (aa.pd r),[]):=⟨λh=>Ev.au h func228⟩
instance {a0}:CEf (pS a0) 223 [.d (aa.pd a0)] [] λr=>(.d (ak.pd r),[]):=⟨λh=>Ev.au h func223⟩
instance {a0 a1}:CEf (th a0 a1) 229 [.d (aj.pd a0),.d (aa.pd a1)] [] λr=>(.tup [rI r.1,rI r.2.1,rI r.2.2],[]):=⟨λh=>Ev.au h func229⟩
instance {a0}:CEf (og a0) 282 [.d (ak.pd a0)] [] λr=>(rI r,[]):=⟨λh=>Ev.au h func282⟩
instance {a0}:CEf (nU a0) 230 [.d (ak.pd a0)] [] λr=>(.tup [.d (ak.pd r.1),.d (ak.pd r.2.1),rB r.2.2],[]):=⟨λh=>Ev.au h func230⟩
instance {a0 a1}:CEf (qp a0 a1) 231 [.d (ak.pd a0),.d (ak.pd a1)] [] λr=>(.d (ak.pd r),[]):=⟨λh=>Ev.au h func231⟩
end
theorem ref28_search_ev{a0:aj}{a1:Int}{r:ap×Int×Int}(h:oi a0 a1=some r):EvP prog bj ext 162 [.d (aj.pd a0),rI a1] [] (.tup [.d (ap.pd r.1),rI r.2.1,rI r.2.2],[]):=by
 refine Ev.body Z func162 Z Zk<|gU Z<|sB (.ptr 32 0) 32 (.var (aj.rc a0))<|sB (.ptr 64 0) 64 (.var zZ0)<|sV (r0)<|sV (r0)<|sN<|qS<|gU Z<|sV (.d (aj.pd a0))<|bE h λx1 h1 h=>cD (ce h1)<|sA Z<|sN<|gU Z ?_
 refine sM Z<|sF h ?_ ?_<;>intro h
 ·refine sN<|cT<|gU Z<|sG (.d (ap.pd (ap.mk (aa.mk 0 0 0) 0 0 0 (ak.mk (aa.mk 0 0 0) (aa.mk 0 0 0)))))<|sM Z<|sH 64 (.var zZ0)<|sV (r0)<|sA Z<|sN<|qR ?_
  cases oI h
  exact qG
 refine sN<|cF<|qK<|qS<|gU Z<|sM Z<|sF h ?_ ?_<;>intro h
 ·refine sN<|cT<|gU Z<|sG (.d (ap.pd (ap.mk (aa.mk 0 0 0) 0 0 0 (ak.mk (aa.mk 0 0 0) (aa.mk 0 0 0)))))<|sH 64 (.var zZ0)<|sV (r0)<|sV (rI 2)<|sN<|qR ?_
  cases oI h
  exact qG
 refine sN<|cF<|qK<|gU Z<|sV (.d (aj.pd a0))<|sV (.ptr 32 0)<|sV (.d (ak.pd a0.bt))<|bE h λI h4 h=>cR (.tup [rI I.1,rI I.2]) [] (ce h4)<|sM Z<|sV (rI I.1)<|sV (rI I.2)<|sA Z<|sA Z<|sN ?_
 refine gU Z<|sV (.ptr 32 0)<|sV (.d (ak.pd a0.bt))<|sM Z<|sG (.d (bq.pd (bq.mk a0.bt I.1 false)))<|sB (.ref 736 0) 736 (.arr 0 288 ([(bq.mk a0.bt I.1 false)].map bq.pd))<|sA Z<|sN<|gU Z<|sB (.ptr 176 0) 176 (.var zZ0)<|sN<|gU Z<|sV (r0)<|sN<|qS ?_
 refine bE h λe1 J h=>Gc (Gd (WL.tS J (λs=>gI 0 162 10 [(1,rI a1),(2,.ptr 32 0),(4,.ptr 64 0),(10,.ref 736 0),(11,.ptr 176 0),(12,rI s.1)] [(32,.var (aj.rc a0)),(64,.var zZ0),(176,.var [rI s.2.2.1,rI s.2.2.2.1,rI s.2.2.2.2.1,rI s.2.2.2.2.2.1,rI s.2.2.2.2.2.2,r0,r0,r0,r0,r0,r0,r0]),(736,.arr 0 288 (s.2.1.map bq.pd))]) (λo=>match o with| .inl y=>gX 0 0 162 25 [(4,.ptr 64 0),(10,.ref 736 0),(11,.ptr 176 0),(12,rI y.1)] [(64,.var zZ0),(176,.var [rI y.2.2.1,rI y.2.2.2.1,rI y.2.2.2.2.1,rI y.2.2.2.2.2.1,rI y.2.2.2.2.2.2,r0,r0,r0,r0,r0,r0,r0]),(736,.arr 0 288 (y.2.1.map bq.pd))]| .inr r=>gF 162 f162 0 (.tup [.d (ap.pd r.1),rI r.2.1,rI r.2.2],[])) Z ?_ ?_))
 ·rintro⟨N,s6,s7,s8,s9,q,l⟩ G F L E h
  unfold cQ at h
  refine qB<|gS Z E<|sM Z<|bE h λp a7 h=>cR (rI p) [ ] (ce a7)<|sA Z<|sN<|Gh (α:=Unit) (λx G F=>tH prog 0 (A G F) (bj.at_ 162 0 12)=some (A [(1,rI a1),(2,.ptr 32 0),(4,.ptr 64 0),(10,.ref 736 0),(11,.ptr 176 0),(12,rI N),(13,rI p)] [(32,.var (aj.rc a0)),(64,.var zZ0),(176,.var [rI s7,rI s8,rI s9,rI q,rI l,r0,r0,r0,r0,r0,r0,r0]),(736,.arr 0 288 (s6.map bq.pd))])) (λx=>dl N s6 p a0 l s7 s8 s9 q=some L) ?_ ?_
  ·refine Ge Z Z<|sM Z<|sF h ?_ ?_<;>intro h
   ·refine sM Z<|k3<|k3<|k3<|k3<|sK<|sK ?_
    refine sT ?_
    refine sN<|sO<|cT<|qX<|⟨λhe=>(by cases he),λ_=>?_⟩
    cases oI h
    exact⟨nofun,rfl,rfl⟩
   refine mM Z<|sF h ?_ ?_<;>intro h
   ·refine sM Z<|sV (.ptr 176 4)<|sL Z<|mM Z<|bE h λg1 c6 h=>WO.uS c6 Z Z Z Z Z Z Z Z<|sV (.elt 736 0 (p).toNat 6)<|bE h λH c7 h=>WO.uw c7 Z Z Z Z Z Z<|sV (rI (rW (l-H.cg)))<|sM Z<|sV (rB (decide ((rW (l-H.cg))<=a1)))<|sV (rB (decide ((rW (l-H.cg))<=a1)))<|sF h ?_ ?_<;>intro h
    ·refine sN<|sO<|cT<|qX<|⟨λhe=>(by cases he),λ_=>?_⟩
     cases oI h
     exact⟨nofun,rfl,rfl⟩
    exact sN<|sO<|cF<|qK<|⟨(),rfl,h⟩
   refine sM Z<|k3<|k3<|k3<|sK<|sU<|sU ?_
   exact sN<|sO<|cF<|qK<|⟨(),rfl,h⟩
  rintro⟨⟩ G F E h
  refine qS<|gS Z E<|sM Z<|sF h ?_ ?_<;>intro h
  ·refine sN<|cT<|gU Z<|sG (.d (ap.pd (ap.mk (aa.mk 0 0 0) 0 0 0 (ak.mk (aa.mk 0 0 0) (aa.mk 0 0 0)))))<|sH 64 (.var zZ0)<|sV (r0)<|sV (rI 25)<|sN<|qR ?_
   cases oI h
   exact⟨nofun,rfl,rfl⟩
  refine sN<|cF<|qK<|gU Z<|mM Z<|bE h λf2 a8 h=>WO.uS a8 Z Z Z Z Z Z Z Z<|sV (.elt 736 0 (p).toNat 7)<|bE h λa5 a9 h=>WO.BD (g:=bq.pd) (u:=[]) (sz:=1) a9 (λ_=>Z) (λ_=>Nat.le_of_ble_eq_true Z) Z Z Z Z Z Z Z Z Z Z Z<|sN<|gU Z<|sM Z<|sM Z ?_
  refine bE h λf3 b0 h=>WO.uS b0 Z Z Z Z Z Z Z Z<|sV (.elt 736 0 (p).toNat 0)<|bE h λf4 b3 h=>WO.uw b3 Z Z Z Z Z Z<|bE h λc b4 h=>cD (ce b4)<|sB (.ptr 224 0) 224 (.var [r0,r0,r0])<|sS 224 (.var (aa.rc c))<|sN<|gU Z<|sV (.d (aj.pd a0))<|sV (.d (aa.pd c))<|bE h λf b5 h=>cR (.tup [rI f.1,rI f.2.1,rI f.2.2]) [] (ce b5) ?_
  refine sM Z<|sV (rI f.1)<|sV (rI f.2.1)<|sV (rI f.2.2)<|sA Z<|sA Z<|sA Z<|sN<|Gh (α:=Int×Int×Int×Int×Int) (λx G F=>tH prog 0 (A G F) (bj.at_ 162 0 19)=some (A [(1,rI a1),(2,.ptr 32 0),(4,.ptr 64 0),(10,.ref 736 0),(11,.ptr 176 0),(12,rI N),(13,rI p)] [(32,.var (aj.rc a0)),(64,.var zZ0),(176,.var [rI x.1,rI x.2.1,rI x.2.2.1,rI x.2.2.2.1,rI x.2.2.2.2,r0,r0,r0,r0,r0,r0,r0]),(736,.arr 0 288 (a5.map bq.pd))])) (λx=>cG a5 p a0 N x.1 x.2.1 x.2.2.1 x.2.2.2.1 x.2.2.2.2=some L) ?_ ?_
  ·refine gU Z<|sM Z<|sF h ?_ ?_<;>intro h
   ·refine sM Z<|k3<|sK<|sT<|sM Z<|k3<|k3<|sK<|sK ?_
    refine k3<|sT<|sN<|cT<|Gb Z Z<|sV (.d (aa.pd c))<|mM Z<|sV (.ptr 176 0)<|sS 176 (.var (aa.rc c++[rI q,rI l,r0,r0,r0,r0,r0,r0,r0]))<|sV (.ptr 176 3)<|sS 176 (.var (aa.rc c++[rI f.1,rI l,r0,r0,r0,r0,r0,r0,r0]))<|sV (.ptr 176 4) ?_
    exact sS 176 (.var (aa.rc c++[rI f.1,rI f.2.1,r0,r0,r0,r0,r0,r0,r0]))<|sN<|⟨(c.fX,c.fY,c.fZ,f.1,f.2.1),rfl,h⟩
   refine mM Z<|sV (.ptr 176 4)<|sL Z<|sV (rB (decide (f.2.1<l)))<|sF h ?_ ?_<;>intro h
   ·refine sM Z<|k3<|k3<|k3<|sK<|sK<|sT<|sN<|cT ?_
    exact Gb rfl rfl<|sV (.d (aa.pd c))<|sM rfl<|sM rfl<|sV (.ptr 176 0)<|sS 176 (.var (aa.rc c++[rI q,rI l,r0,r0,r0,r0,r0,r0,r0]))<|sV (.ptr 176 3)<|sS 176 (.var (aa.rc c++[rI f.1,rI l,r0,r0,r0,r0,r0,r0,r0]))<|sV (.ptr 176 4)<|sS 176 (.var (aa.rc c++[rI f.1,rI f.2.1,r0,r0,r0,r0,r0,r0,r0]))<|sN<|⟨(c.fX,c.fY,c.fZ,f.1,f.2.1),rfl,h⟩
   refine mM Z<|sV (.ptr 176 4)<|sL Z<|sF h ?_ ?_<;>intro h
   ·refine sM Z<|sV (.d (aa.pd c))<|sV (.ptr 176 0)<|sV (.d (aa.pd (aa.mk s7 s8 s9)))<|bE h λa6 c5 h=>cD (ce c5)<|sV (rB (decide (a6<(0:Int))))<|sV (rB (decide (a6<(0:Int))))<|sF h ?_ ?_<;>intro h
    ·exact sN<|cT<|Gb rfl rfl<|sV (.d (aa.pd c))<|sM rfl<|sM rfl<|sV (.ptr 176 0)<|sS 176 (.var (aa.rc c++[rI q,rI l,r0,r0,r0,r0,r0,r0,r0]))<|sV (.ptr 176 3)<|sS 176 (.var (aa.rc c++[rI f.1,rI l,r0,r0,r0,r0,r0,r0,r0]))<|sV (.ptr 176 4)<|sS 176 (.var (aa.rc c++[rI f.1,rI f.2.1,r0,r0,r0,r0,r0,r0,r0]))<|sN<|⟨(c.fX,c.fY,c.fZ,f.1,f.2.1),rfl,h⟩
    exact sN<|cF<|qK<|⟨(s7,s8,s9,q,l),rfl,h⟩
   exact sM rfl<|k3<|sK<|sK<|sU<|sU<|sN<|cF<|qK<|⟨(s7,s8,s9,q,l),rfl,h⟩
  rintro⟨e4,e5,e6,e7,e9⟩ G F E h
  refine gS Z E<|sM Z<|sV (rI (rW (N+(1:Int))))<|sA Z<|sN<|gU Z<|mM Z<|bE h λf5 b6 h=>WO.uS b6 Z Z Z Z Z Z Z Z<|sV (.elt 736 0 (p).toNat 0)<|bE h λf6 c0 h=>WO.uw c0 Z Z Z Z Z Z<|bE h λj c1 h=>cR (.tup [.d (ak.pd j.1),.d (ak.pd j.2.1),rB j.2.2]) [] (ce c1) ?_
  refine sM Z<|sV (.d (ak.pd j.1))<|sV (.d (ak.pd j.2.1))<|sV (rB j.2.2)<|sB (.ptr 288 0) 288 (.var [r0,r0,r0,r0,r0,r0])<|sB (.ptr 304 0) 304 (.var [r0,r0,r0,r0,r0,r0])<|sH 288 (.var (ak.rc j.1))<|sH 304 (.var (ak.rc j.2.1))<|sA Z<|sN<|gU Z<|sF h ?_ ?_<;>intro h
  ·refine sN<|cT<|gU Z<|sV (.d (aj.pd a0))<|sV (.d (ak.pd j.1))<|bE h λB c2 h=>cR (.tup [rI B.1,rI B.2]) [] (ce c2)<|sM Z<|sV (rI B.1)<|sV (rI B.2)<|sA Z<|sA Z<|sN<|gU Z<|sV (.d (aj.pd a0)) ?_
   refine sV (.d (ak.pd j.2.1))<|bE h λC c3 h=>cR (.tup [rI C.1,rI C.2]) [] (ce c3)<|sM Z<|sV (rI C.1)<|sV (rI C.2)<|sA Z<|sA Z<|sN<|Gb Z Z<|sM Z<|sV (.d (ak.pd j.1))<|sM Z<|sG (.d (bq.pd (bq.mk j.1 B.1 false)))<|sV (.d (ak.pd j.2.1)) ?_
   refine sM Z<|sG (.d (bq.pd (bq.mk j.2.1 C.1 false)))<|sG (.d (.lst ([(bq.mk j.1 B.1 false),(bq.mk j.2.1 C.1 false)].map bq.pd)))<|bE h λg0 c4 h=>aR c4 (λ_=>Z) Z<|sA Z<|sN ?_
   cases oI h
   exact⟨rfl,rfl⟩
  refine sN<|cF<|qK ?_
  cases oI h
  exact⟨rfl,rfl⟩
 intro e G F he hq
 rcases e1 with a|f1
 ·obtain⟨rfl,E⟩:=hq
  refine qE<|gS Z E<|sV (.ptr 176 4)<|sL Z<|sV (.ptr 176 0)<|sV (.d (aa.pd (aa.mk a.2.2.1 a.2.2.2.1 a.2.2.2.2.1)))<|sV (.ptr 176 0)<|sV (.d (aa.pd (aa.mk a.2.2.1 a.2.2.2.1 a.2.2.2.2.1)))<|sG (.d (ak.pd (ak.mk (aa.mk a.2.2.1 a.2.2.2.1 a.2.2.2.2.1) (aa.mk a.2.2.1 a.2.2.2.1 a.2.2.2.2.1))))<|sV (.ptr 176 5)<|sS 176 (.var [rI a.2.2.1,rI a.2.2.2.1,rI a.2.2.2.2.1,rI a.2.2.2.2.2.1,rI a.2.2.2.2.2.2,rI a.2.2.2.2.2.2,r0,r0,r0,r0,r0,r0])<|sV (.ptr 176 6)<|sH 176 (.var [rI a.2.2.1,rI a.2.2.2.1,rI a.2.2.2.2.1,rI a.2.2.2.2.2.1,rI a.2.2.2.2.2.2,rI a.2.2.2.2.2.2,rI a.2.2.1,rI a.2.2.2.1,rI a.2.2.2.2.1,rI a.2.2.1,rI a.2.2.2.1,rI a.2.2.2.2.1])<|sN<|qS ?_
  refine gU Z<|sV (r0)<|sN<|bE h λk K h=>Gc (Gd (WL.tS K (λs=>gI 0 162 27 [(4,.ptr 64 0),(10,.ref 736 0),(11,.ptr 176 0),(12,rI a.1),(25,rI s.1)] [(64,.var zZ0),(176,.var [rI a.2.2.1,rI a.2.2.2.1,rI a.2.2.2.2.1,rI a.2.2.2.2.2.1,rI a.2.2.2.2.2.2,rI s.2.1,rI s.2.2.1,rI s.2.2.2.1,rI s.2.2.2.2.1,rI s.2.2.2.2.2.1,rI s.2.2.2.2.2.2.1,rI s.2.2.2.2.2.2.2]),(736,.arr 0 288 (a.2.1.map bq.pd))]) (λo=>gX 2 0 162 31 [(4,.ptr 64 0),(11,.ptr 176 0),(12,rI a.1)] [(64,.var zZ0),(176,.var [rI a.2.2.1,rI a.2.2.2.1,rI a.2.2.2.2.1,rI a.2.2.2.2.2.1,rI a.2.2.2.2.2.2,rI o.1,rI o.2.1,rI o.2.2.1,rI o.2.2.2.1,rI o.2.2.2.2.1,rI o.2.2.2.2.2.1,rI o.2.2.2.2.2.2])]) Z ?_ ?_))
  ·rintro⟨t,z,O,Q,T,W,X,Y⟩ G F f0 E h
   refine qS<|gS Z E<|mM Z<|WO.Au Z Z Z Z Z Z Z Z Z<|sF h ?_ ?_<;>intro h
   ·refine sN<|cT<|qK<|qS<|qB<|Ge Z Z<|mM Z<|bE h λg2 c8 h=>WO.uS c8 Z Z Z Z Z Z Z Z<|sV (.elt 736 0 (t).toNat 7)<|bE h λg3 c9 h=>WO.uw c9 Z Z Z Z Z Z<|sF h ?_ ?_<;>intro h
    ·refine mM Z<|sM Z<|bE h λg4 d0 h=>WO.uS d0 Z Z Z Z Z Z Z Z<|sV (.elt 736 0 (t).toNat 6)<|bE h λe2 d1 h=>WO.uw d1 Z Z Z Z Z Z<|sV (.ptr 176 4)<|sL Z<|sV (rB (decide (e2.cg<a.2.2.2.2.2.2)))<|sF h ?_ ?_<;>intro h
     ·refine sN<|sO<|cT<|WC.uI Z Z<|sV (.ptr 176 5)<|sL Z<|mM Z<|bE h λg5 d2 h=>WO.uS d2 Z Z Z Z Z Z Z Z<|sV (.elt 736 0 (t).toNat 6)<|bE h λD d3 h=>WO.uw d3 Z Z Z Z Z Z<|sV (rI (if D.cg<z then D.cg else z))<|sV (.ptr 176 6)<|sV (.d (ak.pd (ak.mk (aa.mk O Q T) (aa.mk W X Y)))) ?_
      refine mM Z<|bE h λg6 d4 h=>WO.uS d4 Z Z Z Z Z Z Z Z<|sV (.elt 736 0 (t).toNat 0)<|bE h λg7 d5 h=>WO.uw d5 Z Z Z Z Z Z<|bE h λe3 e0 h=>cD (ce e0)<|sV (.ptr 176 5)<|sS 176 (.var [rI a.2.2.1,rI a.2.2.2.1,rI a.2.2.2.2.1,rI a.2.2.2.2.2.1,rI a.2.2.2.2.2.2,rI (if D.cg<z then D.cg else z),rI O,rI Q,rI T,rI W,rI X,rI Y])<|sV (.ptr 176 6)<|sH 176 (.var (rI a.2.2.1::rI a.2.2.2.1::rI a.2.2.2.2.1::rI a.2.2.2.2.2.1::rI a.2.2.2.2.2.2::rI (if D.cg<z then D.cg else z)::ak.rc e3)) ?_
      refine sN<|sO<|Gb Z Z<|sM Z<|sV (rI (rW (t+(1:Int))))<|sA Z<|sN ?_
      cases oI h
      exact⟨rfl,rfl⟩
     refine sN<|sO<|cF<|qK<|Gb Z Z<|sM Z<|sV (rI (rW (t+(1:Int))))<|sA Z<|sN ?_
     cases oI h
     exact⟨rfl,rfl⟩
    refine sM Z<|k3<|k3<|sK<|sK<|sU ?_
    refine sN<|sO<|cF<|qK<|Gb Z Z<|sM Z<|sV (rI (rW (t+(1:Int))))<|sA Z<|sN ?_
    cases oI h
    exact⟨rfl,rfl⟩
   refine sN<|cF<|qX ?_
   cases oI h
   exact⟨nofun,rfl,rfl⟩
  intro e G F he hq
  obtain⟨rfl,E⟩:=hq
  refine qE<|gS Z E<|sV (.d (ap.pd (ap.mk (aa.mk a.2.2.1 a.2.2.2.1 a.2.2.2.2.1) a.2.2.2.2.2.1 a.2.2.2.2.2.2 k.1 (ak.mk (aa.mk k.2.1 k.2.2.1 k.2.2.2.1) (aa.mk k.2.2.2.2.1 k.2.2.2.2.2.1 k.2.2.2.2.2.2)))))<|sM Z<|sH 64 (.var [rI a.2.2.1,rI a.2.2.2.1,rI a.2.2.2.2.1,rI a.2.2.2.2.2.1,rI a.2.2.2.2.2.2,rI k.1,rI k.2.1,rI k.2.2.1,rI k.2.2.2.1,rI k.2.2.2.2.1,rI k.2.2.2.2.2.1,rI k.2.2.2.2.2.2])<|sA Z<|sV (r0)<|sN<|qR ?_
  cases oI h
  exact qG
 obtain⟨rfl,hf⟩:=hq
 cases oI h
 exact hf
instance {a0 a1}:CEf (oi a0 a1) 162 [.d (aj.pd a0),rI a1] [] λr=>(.tup [.d (ap.pd r.1),rI r.2.1,rI r.2.2],[]):=⟨λh=>ref28_search_ev h⟩
section
attribute [local irreducible] HM HU HF HB WO WC QS QB vh
instance {a0 a1}:CEf (mV a0 a1) 98 [.d (aj.pd a0),rI a1] [] λr=>(.tup [.d (ap.pd r.1),rI r.2],[]):=⟨λh=>Ev.au h func98⟩
instance {a a2}:LI (ij a a2) 8 (λs=>[(11,rI s.1)]) (λs=>[(672,.arr 0 3 (s.2.map (PD.int .i64)))]) (jX 11 (λo=>[]) λo=>[(672,.arr 0 3 (o.map (PD.int .i64)))]):=⟨⟩
instance {a0 a1 a2}:CEf (jx a0 a1 a2) 160 [.d (aj.pd a0),.d (aa.pd a1),rI a2] [] λr=>(.tup [rL r.1,rI r.2],[]):=⟨λh=>Ev.au h func160⟩
end
theorem ref30_sorted_ev{a0:(List Int)}{r:(List Int)}(h:jm a0=some r):EvP prog bj ext 96 [rL a0] [] (rL r,[]):=by
 refine Ev.body Z func96 Z Zk<|gU Z<|sV .tC<|sN<|gU Z<|sV .tC<|sN<|qS<|gU Z<|sV (r0)<|sN<|bE h λK f h=>Gc (Gd (WL.tS f (λs=>gI 0 96 3 [(0,rL a0),(3,.ref 496 0),(4,rI s.1)] [(496,.arr 0 3 (s.2.map (PD.int .i64)))]) (λo=>gX 0 0 96 11 [(3,.ref 496 0)] [(496,.arr 0 3 (o.map (PD.int .i64)))]) Z ?_ ?_))
 ·rintro⟨s1,s2⟩ l k q4 a h
  refine qS<|gS Z a<|mM Z<|sE (rI (a0.length:Int)) (uf _ _)<|sF h ?_ ?_<;>intro h
  ·refine sN<|cT<|qK<|qS<|qB<|gU Z<|sV (r0)<|sN<|qS<|bE h λj c h=>Gc (Gd (WL.tS c (λs=>gI 0 96 6 [(0,rL a0),(3,.ref 496 0),(4,rI s1),(5,rI s)] [(496,.arr 0 3 (s2.map (PD.int .i64)))]) (λo=>gX 2 0 96 8 [(0,rL a0),(3,.ref 496 0),(4,rI o.1),(5,rI o.2.1)] [(496,.arr 0 3 (o.2.2.map (PD.int .i64)))]) Z ?_ ?_))
   ·rintro N l k L a h
    refine qS<|Ge a Z<|mM Z<|WO.Au Z Z Z Z Z Z Z Z Z<|sF h ?_ ?_<;>intro h
    ·refine mM Z<|sM Z<|bE h λO q h=>WO.uS q Z Z Z Z Z Z Z Z<|bE h λH t h=>WO.uw t Z Z Z Z Z Z<|mM Z<|bE h λI u h=>eG u Z<|sC Z<|sV (rB (decide (H<I)))<|sF h ?_ ?_<;>intro h
     ·refine sN<|sO<|cT<|qK<|qB<|Gb Z Z<|sM Z<|sV (rI (rW (N+(1:Int))))<|sA Z<|sN ?_
      cases oI h
      exact⟨rfl,rfl⟩
     refine sN<|sO<|cF<|qX ?_
     cases oI h
     exact⟨nofun,rfl,rfl⟩
    refine sM Z<|k3<|k3<|k3<|sU ?_
    refine sN<|sO<|cF<|qX ?_
    cases oI h
    exact⟨nofun,rfl,rfl⟩
   intro e l k he G
   obtain⟨rfl,a⟩:=G
   refine qE<|gS Z a<|sM Z<|sV (.d (.lst ([0].map (PD.int .i64))))<|bE h λQ x h=>aR x (λ_=>Z) Z<|sA Z<|sN<|Ge Z Z<|mM Z<|sV (rI (rW (j.2.1+(1:Int))))<|bE h λT y h=>WO.AY y Z Z Z Z Z Z Z Z Z Z Z Z<|sM Z ?_
   refine sM Z<|bE h λW z h=>WO.AY z Z Z Z Z Z Z Z Z Z Z Z Z<|bE h λX B h=>bE h λY C h=>WO.copyG Z Z Z Z Z Z Z Z (yr B Z) (Ab C Z) Z Z (λ_=>Z) ?_
   refine sN<|sO<|Gb Z Z<|mM Z<|mM Z<|bE h λJ D h=>eG D Z<|sC Z<|bE h λa5 E h=>WO.uS E Z Z Z Z Z Z Z Z<|bE h λa6 F h=>WO.xu (g:=(PD.int .i64)) (sz:=1) (p:= .int .i64 J) F (λ_=>Z) (λ_=>Z) Z Z Z Z Z Z Z Z Z<|sN<|Gb Z Z ?_
   refine sM Z<|sV (rI (rW (j.1+(1:Int))))<|sA Z<|sN ?_
   cases oI h
   exact⟨rfl,rfl⟩
  refine sN<|cF<|qX ?_
  cases oI h
  exact⟨nofun,rfl,rfl⟩
 intro e l k he G
 obtain⟨rfl,a⟩:=G
 refine qE<|gS Z a<|sM Z<|sA Z<|sN<|qR ?_
 exact oI h▸qD
instance {a0}:CEf (jm a0) 96 [rL a0] [] λr=>(rL r,[]):=⟨λh=>ref30_sorted_ev h⟩
section
attribute [local irreducible] HM HU HF HB WO WC QS QB vh
instance {a2 a1 a0}:LI (dL a2 a1 a0) 3 (λs=>[(11,rI s.1)]) (λs=>[(864,.arr 0 3 (s.2.map (PD.int .i64)))]) (jX 7 (λo=>[]) λo=>[(864,.arr 0 3 (o.map (PD.int .i64)))]):=⟨⟩
instance {a c a0}:LI (gu a c a0) 15 (λs=>[(17,rI s.1)]) (λs=>[(1664,.arr 0 3 (s.2.map (PD.int .i64)))]) (jX 19 (λo=>[(10,rL o)]) λo=>[]):=⟨⟩
instance {a0 a1 a2}:CEf (mB a0 a1 a2) 94 [.d (aw.pd a0),rM al.pd a1,rL a2] [] λr=>(.tup [.d (bz.pd r.1),rB r.2.1,rI r.2.2],[]):=⟨λh=>Ev.au h func94⟩
end
end Go.Dw.Ef
