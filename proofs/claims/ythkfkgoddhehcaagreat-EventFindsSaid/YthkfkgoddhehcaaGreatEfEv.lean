
import Derived.Test.YthkfkgoddhehcaaGreatEfEvD
set_option linter.unusedVariables false
set_option linter.unusedSimpArgs false
open Go.Dw.WC renaming block->Gc, loop->Gd, region->Gb, tw->Ge

set_option maxRecDepth 100000
set_option maxHeartbeats 4000000
namespace Go.Dw.Ef
open Go.Proofs Go.Proofs.Tryz Go.Dw
section
attribute [local irreducible] HM HU HF HB WO WC QS QB vh
instance {a0 a1}:LI (kK a0 a1) 2 (λs=>[(5,rI s)]) (λs=>[]) (jY 6 (λy=>[]) (λy=>[]) f161 λr=>(rB r,[])):=⟨⟩
instance {a0 a1}:CEf (ti a0 a1) 161 [rL a0,rI a1] [] λr=>(rB r,[]):=⟨λh=>Ev.au h func161⟩
instance {a0 a1}:LI (jV a0 a1) 3 (λs=>[(6,rI s.1)]) (λs=>[(416,.arr 0 3 (s.2.map (PD.int .i64)))]) (jX 7 (λo=>[]) λo=>[(416,.arr 0 3 (o.map (PD.int .i64)))]):=⟨⟩
instance {a0 a1}:CEf (nG a0 a1) 95 [rL a0,rL a1] [] λr=>(rL r,[]):=⟨λh=>Ev.au h func95⟩
instance {a0 a1}:LI (ct a0 a1) 7 (λs=>[(10,rL s.1)]) (λs=>[(640,.arr 0 115 (s.2.1.map bz.pd)),(800,.arr 0 3 (s.2.2.map (PD.int .i64)))]) (jY 16 (λy=>[]) (λy=>[(640,.arr 0 115 (y.1.map bz.pd)),(800,.arr 0 3 (y.2.map (PD.int .i64)))]) f47 λr=>(.tup [rM bz.pd r.1,rL r.2.1,rI r.2.2],[])):=⟨⟩
instance {a0 a1}:CEf (md a0 a1) 47 [.d (aw.pd a0),rM al.pd a1] [] λr=>(.tup [rM bz.pd r.1,rL r.2.1,rI r.2.2],[]):=⟨λh=>Ev.au h func47⟩
instance {a a0 a1}:LI (jZ a a0 a1) 7 (λs=>[(36,rI s.1)]) (λs=>[(816,.arr 0 107 (s.2.map al.pd))]) (jX 12 (λo=>[]) λo=>[(816,.arr 0 107 (o.map al.pd))]):=⟨⟩
instance {a0 a1 a2}:CEf (gW a0 a1 a2) 97 [.d (ai.pd a0),.d (ag.pd a1),rM ac.pd a2] [] λr=>(.tup [.d (aj.pd r.1),rI r.2],[]):=⟨λh=>Ev.au h func97⟩
instance :LI (eQ) 4 (λs=>[(0,rI s.1)]) (λs=>[(208,.arr 0 3 (s.2.map (PD.int .i64)))]) (jX 7 (λo=>[]) λo=>[(208,.arr 0 3 (o.map (PD.int .i64)))]):=⟨⟩
instance {a0}:CEf (qj a0) 332 [rI a0] [] λr=>(.tup [rL r.1,rI r.2],[]):=⟨λh=>Ev.au h func332⟩
instance {a0}:LI (oL a0) 2 (λs=>[(3,rI s)]) (λs=>[]) (jY 6 (λy=>[]) (λy=>[]) f287 λr=>(rB r,[])):=⟨⟩
instance {a0}:CEf (fS a0) 287 [rL a0] [] λr=>(rB r,[]):=⟨λh=>Ev.au h func287⟩
instance :LI (rV) 1 (λs=>[(0,rL s)]) (λs=>[]) (jX 3 (λo=>[(0,rL o)]) λo=>[]):=⟨⟩
instance {a0}:CEf (ref17_trim a0) 345 [rL a0] [] λr=>(rL r,[]):=⟨λh=>Ev.au h func345⟩
instance {a0 a1}:LI (jF a0 a1) 3 (λs=>[(6,rI s.1)]) (λs=>[(224,.arr 0 3 (s.2.map (PD.int .i64)))]) (jX 14 (λo=>[]) λo=>[(224,.arr 0 3 (o.map (PD.int .i64)))]):=⟨⟩
instance {a1 s2 a0}:LI (eN a1 s2 a0) 7 (λs=>[(7,rI s.1),(8,rI s.2.1)]) (λs=>[(224,.arr 0 3 (s.2.2.map (PD.int .i64)))]) (jX 4 (λo=>[(6,rI o.1)]) λo=>[(224,.arr 0 3 (o.2.map (PD.int .i64)))]):=⟨⟩
instance {a0 a1}:CEf (pQ a0 a1) 335 [rL a0,rL a1] [] λr=>(rL r,[]):=⟨λh=>Ev.au h func335⟩
instance {a0}:CEf (fj a0) 334 [rL a0] [] λr=>(.tup [rL r.1,rI r.2],[]):=⟨λh=>Ev.au h func334⟩
instance {a0 a1}:CEf (nj a0 a1) 317 [rL a0,rL a1] [] λr=>(.tup [rL r.1,rI r.2],[]):=⟨λh=>Ev.au h func317⟩
instance {a0}:CEf (fK a0) 314 [rI a0] [] λr=>(rL r,[]):=⟨λh=>Ev.au h func314⟩
instance {a0 a1}:LI (fi a0 a1) 6 (λs=>[(7,rI s.1),(8,rI s.2.1)]) (λs=>[(912,.arr 0 3 (s.2.2.map (PD.int .i64)))]) (jX 14 (λo=>[]) λo=>[(912,.arr 0 3 (o.map (PD.int .i64)))]):=⟨⟩
instance {a0 a1}:CEf (rK a0 a1) 333 [rL a0,rL a1] [] λr=>(.tup [rL r.1,rI r.2],[]):=⟨λh=>Ev.au h func333⟩
instance {a0 a1 a2}:CEf (ju a0 a1 a2) 315 [.d (bH.pd a0),rI a1,rI a2] [] λr=>(rL r,[]):=⟨λh=>Ev.au h func315⟩
instance {a0 a1 a2}:CEf (qm a0 a1 a2) 283 [.d (bw.pd a0),rI a1,rI a2] [] λr=>(.d (bu.pd r),[]):=⟨λh=>Ev.au h func283⟩
instance {a0}:CEf (fF a0) 316 [.d (bu.pd a0)] [] λr=>(rB r,[]):=⟨λh=>Ev.au h func316⟩
instance {a0 a1}:CEf (pg a0 a1) 284 [.d (bu.pd a0),.d (bu.pd a1)] [] λr=>(.tup [.d (bu.pd r.1),rI r.2],[]):=⟨λh=>Ev.au h func284⟩
instance {a0 a1 a2}:LI (dZ a0 a1 a2) 7 (λs=>[(9,rI s.1)]) (λs=>[(128,.var [rL s.2.1,rL s.2.2])]) (jY 13 (λy=>[]) (λy=>[(128,.var [rL y.1,rL y.2])]) f232 λr=>(.tup [.d (bu.pd r.1),rI r.2],[])):=⟨⟩
instance {a0 a1 a2}:CEf (ql a0 a1 a2) 232 [.d (bv.pd a0),rI a1,rI a2] [] λr=>(.tup [.d (bu.pd r.1),rI r.2],[]):=⟨λh=>Ev.au h func232⟩
instance :LI (n9) 2 (λs=>[(0,rI s.1),(3,rI s.2)]) (λs=>[]) (jX 5 (λo=>[(3,rI o)]) λo=>[]):=⟨⟩
instance {a0}:CEf (lw a0) 285 [rI a0] [] λr=>(rI r,[]):=⟨λh=>Ev.au h func285⟩
instance :LI (dM) 3 (λs=>[(1,rI s.1),(5,rI s.2.1),(6,rI s.2.2)]) (λs=>[]) (jX 10 (λo=>[(5,rI o)]) λo=>[]):=⟨⟩
instance {a0 a1}:CEf (iW a0 a1) 286 [rI a0,rI a1] [] λr=>(rI r,[]):=⟨λh=>Ev.au h func286⟩
instance {a0}:CEf (oz a0) 233 [rI a0] [] λr=>(.tup [rI r.1,rI r.2],[]):=⟨λh=>Ev.au h func233⟩
instance {a0}:LI (cY a0) 8 (λs=>[(4,rI s.1),(5,rI s.2)]) (λs=>[]) (jX 11 (λo=>[(4,rI o)]) λo=>[]):=⟨⟩
instance {a0}:CEf (mX a0) 234 [rL a0] [] λr=>(.tup [rI r.1,rI r.2],[]):=⟨λh=>Ev.au h func234⟩
instance {a0}:CEf (oS a0) 236 [rI a0] [] λr=>(rI r,[]):=⟨λh=>Ev.au h func236⟩
instance {a0}:CEf (nV a0) 235 [rI a0] [] λr=>(rI r,[]):=⟨λh=>Ev.au h func235⟩
instance {a0}:CEf (qu a0) 237 [rI a0] [] λr=>(rI r,[]):=⟨λh=>Ev.au h func237⟩
instance {a0 a1 a2 a3 a4}:CEf (lW a0 a1 a2 a3 a4) 164 [.d (bK.pd a0),.d (bv.pd a1),rI a2,rI a3,rI a4] [] λr=>(.tup [.d (bh.pd r.1),rI r.2],[]):=⟨λh=>Ev.au h func164⟩
instance {a a1 a3 a0}:LI (eT a a1 a3 a0) 9 (λs=>[(31,rI s.1)]) (λs=>[(1072,.arr 0 82 (s.2.map bh.pd))]) (jX 16 (λo=>[]) λo=>[(1072,.arr 0 82 (o.map bh.pd))]):=⟨⟩
instance {a0 a1 a2 a3}:CEf (me a0 a1 a2 a3) 99 [.d (ai.pd a0),.d (ag.pd a1),rM ac.pd a2,.d (ak.pd a3)] [] λr=>(.tup [rM bh.pd r.1,rI r.2],[]):=⟨λh=>Ev.au h func99⟩
end
theorem ref32_sorted_ev{a0:(List Int)}{r:(List Int)}(h:lx a0=some r):EvP prog bj ext 241 [rL a0] [] (rL r,[]):=by
 refine Ev.body Z func241 Z Zk<|gU Z<|sV .tC<|sN<|gU Z<|sV .tC<|sN<|qS<|gU Z<|sV (r0)<|sN<|bE h λK f h=>Gc (Gd (WL.tS f (λs=>gI 0 241 3 [(0,rL a0),(3,.ref 496 0),(4,rI s.1)] [(496,.arr 0 3 (s.2.map (PD.int .i64)))]) (λo=>gX 0 0 241 11 [(3,.ref 496 0)] [(496,.arr 0 3 (o.map (PD.int .i64)))]) Z ?_ ?_))
 ·rintro⟨s1,s2⟩ l k q4 a h
  refine qS<|gS Z a<|mM Z<|sE (rI (a0.length:Int)) (uf _ _)<|sF h ?_ ?_<;>intro h
  ·refine sN<|cT<|qK<|qS<|qB<|gU Z<|sV (r0)<|sN<|qS<|bE h λj c h=>Gc (Gd (WL.tS c (λs=>gI 0 241 6 [(0,rL a0),(3,.ref 496 0),(4,rI s1),(5,rI s)] [(496,.arr 0 3 (s2.map (PD.int .i64)))]) (λo=>gX 2 0 241 8 [(0,rL a0),(3,.ref 496 0),(4,rI o.1),(5,rI o.2.1)] [(496,.arr 0 3 (o.2.2.map (PD.int .i64)))]) Z ?_ ?_))
   ·rintro N l k L a h
    refine qS<|Ge a Z<|mM Z<|WO.Au Z Z Z Z Z Z Z Z Z<|sF h ?_ ?_<;>intro h
    ·refine mM Z<|sM Z<|bE h λO q h=>WO.uS q Z Z Z Z Z Z Z Z<|bE h λH t h=>WO.uw t Z Z Z Z Z Z<|mM Z<|bE h λI u h=>eG u Z<|sC Z<|sV (rB (decide (H<I)))<|sF h ?_ ?_<;>intro h
     ·refine sN<|sO<|cT<|qK<|qB<|Gb Z Z<|sM Z<|sV (rI (rW (N+(1:Int))))<|sA Z<|sN ?_
      cases oI h
      exact⟨rfl,rfl⟩
     refine sN<|sO<|cF<|qX ?_
     cases oI h
     exact⟨nofun,rfl,rfl⟩
    refine sM Z<|k3<|k3<|k3<|sU ?_
    refine sN<|sO<|cF<|qX ?_
    cases oI h
    exact⟨nofun,rfl,rfl⟩
   intro e l k he G
   obtain⟨rfl,a⟩:=G
   refine qE<|gS Z a<|sM Z<|sV (.d (.lst ([0].map (PD.int .i64))))<|bE h λQ x h=>aR x (λ_=>Z) Z<|sA Z<|sN<|Ge Z Z<|mM Z<|sV (rI (rW (j.2.1+(1:Int))))<|bE h λT y h=>WO.AY y Z Z Z Z Z Z Z Z Z Z Z Z<|sM Z ?_
   refine sM Z<|bE h λW z h=>WO.AY z Z Z Z Z Z Z Z Z Z Z Z Z<|bE h λX B h=>bE h λY C h=>WO.copyG Z Z Z Z Z Z Z Z (yr B Z) (Ab C Z) Z Z (λ_=>Z) ?_
   refine sN<|sO<|Gb Z Z<|mM Z<|mM Z<|bE h λJ D h=>eG D Z<|sC Z<|bE h λa5 E h=>WO.uS E Z Z Z Z Z Z Z Z<|bE h λa6 F h=>WO.xu (g:=(PD.int .i64)) (sz:=1) (p:= .int .i64 J) F (λ_=>Z) (λ_=>Z) Z Z Z Z Z Z Z Z Z<|sN<|Gb Z Z ?_
   refine sM Z<|sV (rI (rW (j.1+(1:Int))))<|sA Z<|sN ?_
   cases oI h
   exact⟨rfl,rfl⟩
  refine sN<|cF<|qX ?_
  cases oI h
  exact⟨nofun,rfl,rfl⟩
 intro e l k he G
 obtain⟨rfl,a⟩:=G
 refine qE<|gS Z a<|sM Z<|sA Z<|sN<|qR ?_
 exact oI h▸qD
instance {a0}:CEf (lx a0) 241 [rL a0] [] λr=>(rL r,[]):=⟨λh=>ref32_sorted_ev h⟩
section
attribute [local irreducible] HM HU HF HB WO WC QS QB vh
instance {a0}:CEf (mY a0) 167 [rL a0] [] λr=>(rI r,[]):=⟨λh=>Ev.au h func167⟩
instance {a0}:LI (jW a0) 5 (λs=>[(6,rI s.1)]) (λs=>[(576,.arr 0 3 (s.2.1.map (PD.int .i64))),(704,.arr 0 3 (s.2.2.map (PD.int .i64)))]) (jY 10 (λy=>[]) (λy=>[(576,.arr 0 3 (y.1.map (PD.int .i64))),(704,.arr 0 3 (y.2.map (PD.int .i64)))]) f100 λr=>(.tup [.d (bh.pd r.1),rI r.2],[])):=⟨⟩
instance {a0}:CEf (lV a0) 100 [rM bh.pd a0] [] λr=>(.tup [.d (bh.pd r.1),rI r.2],[]):=⟨λh=>Ev.au h func100⟩
instance {a0 a1 a2}:CEf (pj a0 a1 a2) 48 [.d (ai.pd a0),.d (ag.pd a1),rM ac.pd a2] [] λr=>(.tup [.d (bQ.pd r.1),rI r.2],[]):=⟨λh=>Ev.au h func48⟩
instance {a0 a1}:CEf (lX a0 a1) 101 [.d (ac.pd a0),.d (ac.pd a1)] [] λr=>(rI r,[]):=⟨λh=>Ev.au h func101⟩
instance {a0}:LI (iJ a0) 3 (λs=>[(4,rI s.1)]) (λs=>[(48,.var [rS s.2.1,rS s.2.2.1,rS s.2.2.2.1,rS s.2.2.2.2.1,rI s.2.2.2.2.2.1,rI s.2.2.2.2.2.2.1,rI s.2.2.2.2.2.2.2.1,rI s.2.2.2.2.2.2.2.2.1,rI s.2.2.2.2.2.2.2.2.2])]) (jX 7 (λo=>[]) λo=>[(48,.var [rS o.1,rS o.2.1,rS o.2.2.1,rS o.2.2.2.1,rI o.2.2.2.2.1,rI o.2.2.2.2.2.1,rI o.2.2.2.2.2.2.1,rI o.2.2.2.2.2.2.2.1,rI o.2.2.2.2.2.2.2.2])]):=⟨⟩
instance {a0}:CEf (qx a0) 50 [rM ac.pd a0] [] λr=>(.d (ac.pd r),[]):=⟨λh=>Ev.au h func50⟩
end
theorem ref34_insert_ev{a0:(List bd)}{a1:bd}{r:(List bd)}(h:m5 a0 a1=some r):EvP prog bj ext 49 [rM bd.pd a0,.d (bd.pd a1)] [] (rM bd.pd r,[]):=by
 refine Ev.body Z func49 Z Zk<|gU Z<|sB (.ptr 48 0) 48 (.var (bd.rc a1))<|sV .tC<|sN<|gU Z<|sV (r0)<|sN<|qS<|bE h λH q h=>Gc (Gd (WL.tS q (λs=>gI 0 49 2 [(0,rM bd.pd a0),(3,.ptr 48 0),(5,rI s)] [(48,.var (bd.rc a1))]) (λo=>gX 0 0 49 4 [(0,rM bd.pd a0),(3,.ptr 48 0),(5,rI o)] [(48,.var (bd.rc a1))]) Z ?_ ?_))
 ·rintro s1 u t I p h
  refine qS<|Ge p Z<|mM Z<|sE (rI (a0.length:Int)) (uf _ _)<|sF h ?_ ?_<;>intro h
  ·refine mM Z<|sM Z<|bE h λa x h=>eG x Z<|sV (.cptr [.str a.cL.az.bI,.str a.cL.az.bB,.str a.cL.az.bg,.str a.cL.az.bL,.int .i64 a.cL.bS,.int .i64 a.cL.bA,.int .i64 a.cL.bY,.int .i64 a.cL.bG,.int .i64 a.cL.bM,.lst (a.bT.gm.map ac.pd),.int .i64 a.bT.bg.bU.fX,.int .i64 a.bT.bg.bU.fY,.int .i64 a.bT.bg.bU.fZ,.int .i64 a.bT.bg.bS,.int .i64 a.bT.bg.cA,.int .i64 a.bT.bg.ml,.int .i64 a.bT.bg.ca.bo.fX,.int .i64 a.bT.bg.ca.bo.fY,.int .i64 a.bT.bg.ca.bo.fZ,.int .i64 a.bT.bg.ca.ba.fX,.int .i64 a.bT.bg.ca.ba.fY,.int .i64 a.bT.bg.ca.ba.fZ,.int .i64 a.bT.ed.bo,.int .i64 a.bT.ed.ba,.int .i64 a.bT.qU])<|sV (.d (ac.pd a.cL))<|sV (.ptr 48 0)<|sV (.d (ac.pd a1.cL))<|bE h λG y h=>cD (ce y)<|sV (rB (decide (G<(0:Int))))<|sF h ?_ ?_<;>intro h
   ·refine sN<|sO<|cT<|qK<|qB<|Gb Z Z<|sM Z<|sV (rI (rW (s1+(1:Int))))<|sA Z<|sN ?_
    cases oI h
    exact⟨rfl,rfl⟩
   refine sN<|sO<|cF<|qX ?_
   cases oI h
   exact⟨nofun,rfl,rfl⟩
  refine sM Z<|k3<|k3<|k3<|sU ?_
  refine sN<|sO<|cF<|qX ?_
  cases oI h
  exact⟨nofun,rfl,rfl⟩
 intro e u t he z
 obtain⟨rfl,p⟩:=z
 refine qE<|gS Z p<|sB (.ref 384 0) 384 (.arr 0 86 (([]:List bd).map bd.pd))<|mM Z<|bE h λB c h=>WO.cutL (sz:=25) (g:=bd.pd) c (λ_=>Z) Z Z Z Z Z Z Z Z Z Z Z<|bE h λC f h=>aR f (λ_=>Z) Z<|sA Z<|sN<|Ge Z Z<|sM Z<|sV (.d (bd.pd a1))<|sG (.d (.lst ([a1].map bd.pd))) ?_
 refine bE h λD j h=>aR j (λ_=>Z) Z<|mM Z<|bE h λE k h=>WO.cutL (sz:=25) (g:=bd.pd) k (λ_=>Z) Z Z Z Z Z Z Z Z Z Z Z<|bE h λF l h=>aR l (λ_=>Z) Z<|sA Z ?_
 refine sN<|sO<|qR ?_
 cases oI h
 exact qG
instance {a0 a1}:CEf (m5 a0 a1) 49 [rM bd.pd a0,.d (bd.pd a1)] [] λr=>(rM bd.pd r,[]):=⟨λh=>ref34_insert_ev h⟩
section
attribute [local irreducible] HM HU HF HB WO WC QS QB vh
instance {c a a0 a1}:LI (fm c a a0 a1) 9 (λs=>[(14,rM bd.pd s.1),(15,rI s.2)]) (λs=>[]) (jY 21 (λy=>[(14,rM bd.pd y)]) (λy=>[]) f16 λr=>(.tup [rM bd.pd r.1,rM ac.pd r.2.1,rI r.2.2],[])):=⟨⟩
instance {a g c f}:LI (kM a g c f) 13 (λs=>[(58,rI s.1)]) (λs=>[(1088,.arr 0 78 (s.2.map ac.pd))]) (jX 17 (λo=>[(14,rM bd.pd o.1),(15,rI o.2.1)]) λo=>[(1088,.arr 0 78 (o.2.2.map ac.pd))]):=⟨⟩
instance {c a}:LI (kN c a) 23 (λs=>[(89,rI s.1)]) (λs=>[(1584,.arr 0 78 (s.2.map ac.pd))]) (jX 27 (λo=>[]) λo=>[(1584,.arr 0 78 (o.map ac.pd))]):=⟨⟩
instance {a0 a1 a2}:CEf (qw a0 a1 a2) 16 [.d (ai.pd a0),.d (ag.pd a1),rM ac.pd a2] [] λr=>(.tup [rM bd.pd r.1,rM ac.pd r.2.1,rI r.2.2],[]):=⟨λh=>Ev.au h func16⟩
instance {a0 a1}:LI (jn a0 a1) 4 (λs=>[(5,rI s)]) (λs=>[]) (jY 8 (λy=>[]) (λy=>[]) f18 λr=>(rB r,[])):=⟨⟩
instance {a0 a1}:CEf (gw a0 a1) 18 [rM ac.pd a0,rM ac.pd a1] [] λr=>(rB r,[]):=⟨λh=>Ev.au h func18⟩
instance {a0 a1}:CEf (qv a0 a1) 51 [.d (bQ.pd a0),.d (bQ.pd a1)] [] λr=>(rB r,[]):=⟨λh=>Ev.au h func51⟩
instance {a0 a1}:LI (m0 a0 a1) 4 (λs=>[(5,rI s)]) (λs=>[]) (jY 8 (λy=>[]) (λy=>[]) f17 λr=>(rB r,[])):=⟨⟩
instance {a0 a1}:CEf (qy a0 a1) 17 [rM bd.pd a0,rM bd.pd a1] [] λr=>(rB r,[]):=⟨λh=>Ev.au h func17⟩
end
theorem rO{a0:ai}{a1:ag}{a2:(List ac)}{a3:(List Int)}{r:Bool}(h:lj a0 a1 a2 a3=some r):EvP prog bj ext 3 [.d (ai.pd a0),.d (ag.pd a1),rM ac.pd a2,rL a3] [] (rB r,[]):=by
 refine Ev.body Z func3 Z Zk<|gU Z<|sB (.ptr 64 0) 64 (.var (ai.rc a0))<|sB (.ptr 80 0) 80 (.var [rM av.pd a1.bp])<|sU<|sN<|qS<|gU Z<|sV (.d (ai.pd a0))<|bE h λx1 h1 h=>cD (ce h1)<|sF h ?_ ?_<;>intro h
 ·refine sM Z<|k3<|sT<|sM Z<|k3<|sT<|sN<|cT<|gU Z<|bE h λx3 h3 h=>cD (sJ h3) ?_
  refine sA Z<|sN<|qR ?_
  cases oI h
  exact qG
 refine sM Z<|sV (.d (ag.pd a1))<|bE h λx4 h4 h=>cD (ce h4)<|sV (rB (!x4))<|sF h ?_ ?_<;>intro h
 ·refine sM Z<|k3<|sT<|sN<|cT<|gU Z<|bE h λx6 h6 h=>cD (sJ h6)<|sA Z<|sN<|qR ?_
  cases oI h
  exact qG
 refine mM Z<|sE (rI (a2.length:Int)) (uf _ _)<|sV (rB (decide ((a2.length:Int)>(10:Int))))<|sF h ?_ ?_<;>intro h
 ·refine sN<|cT<|gU Z<|bE h λx8 h8 h=>cD (sJ h8)<|sA Z<|sN<|qR ?_
  cases oI h
  exact qG
 refine sN<|cF<|qK<|gU Z<|sM Z<|bE h λx9 h9 h=>cR (.ptr 736 0) [(736,.var (ah.rc x9))] (ce h9)<|sA Z<|sN<|gU Z<|sM Z<|bE h λa b4 h=>cR (.d (ai.pd a.1)) [(736,.var (ah.rc a.2))] (ce b4)<|sM Z<|bE h λf b5 h=>?_
 refine cR (.d (ag.pd f.1)) [(736,.var (ah.rc f.2))] (ce b5)<|sB (.ptr 160 0) 160 (.var [r0,r0,r0,r0,r0,r0,r0,.tC,.tC,r0,r0,r0,r0,r0,r0,.tC,.tC,r0,r0,r0])<|sB (.ptr 176 0) 176 (.var [.tC])<|sH 160 (.var (ai.rc a.1))<|sS 176 (.var [rM av.pd f.1.bp])<|sN<|gU Z<|sM Z<|sV (.d (ai.pd a.1))<|sV (.d (.agg [.lst (f.1.bp.map av.pd)]))<|bE h λg b6 h=>cR (rM ac.pd g.1) [(736,.var (ah.rc g.2))] (ce b6)<|sA Z<|sN<|gU Z ?_
 refine sM Z<|sV (.d (ai.pd a.1))<|bE h λc c0 h=>cR (.d (ai.pd c.1)) [(736,.var (ah.rc c.2))] (rN c0)<|sB (.ptr 208 0) 208 (.var [r0,r0,r0,r0,r0,r0,r0,.tC,.tC,r0,r0,r0,r0,r0,r0,.tC,.tC,r0,r0,r0])<|sH 208 (.var (ai.rc c.1))<|sN<|WC.join (α:=Int×Int×Int×Int×Int×Int×Int×(List Int)×(List Int)×Int×Int×Int×Int×Int×Int×(List Int)×(List Int)×Int×Int×Int) (λx R' B'=>tH prog 0 (A R' B') (bj.at_ 3 0 9)=some (A [(2,rM ac.pd a2),(4,.ptr 64 0),(5,.ptr 80 0),(9,.ptr 736 0),(10,.ptr 160 0),(11,.ptr 176 0),(12,rM ac.pd g.1),(13,.ptr 208 0)] [(64,.var (ai.rc a0)),(80,.var [rM av.pd a1.bp]),(160,.var (ai.rc a.1)),(176,.var [rM av.pd f.1.bp]),(208,.var [rI x.1,rI x.2.1,rI x.2.2.1,rI x.2.2.2.1,rI x.2.2.2.2.1,rI x.2.2.2.2.2.1,rI x.2.2.2.2.2.2.1,rL x.2.2.2.2.2.2.2.1,rL x.2.2.2.2.2.2.2.2.1,rI x.2.2.2.2.2.2.2.2.2.1,rI x.2.2.2.2.2.2.2.2.2.2.1,rI x.2.2.2.2.2.2.2.2.2.2.2.1,rI x.2.2.2.2.2.2.2.2.2.2.2.2.1,rI x.2.2.2.2.2.2.2.2.2.2.2.2.2.1,rI x.2.2.2.2.2.2.2.2.2.2.2.2.2.2.1,rL x.2.2.2.2.2.2.2.2.2.2.2.2.2.2.2.1,rL x.2.2.2.2.2.2.2.2.2.2.2.2.2.2.2.2.1,rI x.2.2.2.2.2.2.2.2.2.2.2.2.2.2.2.2.2.1,rI x.2.2.2.2.2.2.2.2.2.2.2.2.2.2.2.2.2.2.1,rI x.2.2.2.2.2.2.2.2.2.2.2.2.2.2.2.2.2.2.2]),(736,.var (ah.rc c.2))])) (λx=>gE a a0 f a1 g a2 c x.1 x.2.1 x.2.2.1 x.2.2.2.1 x.2.2.2.2.1 x.2.2.2.2.2.1 x.2.2.2.2.2.2.1 x.2.2.2.2.2.2.2.1 x.2.2.2.2.2.2.2.2.1 x.2.2.2.2.2.2.2.2.2.1 x.2.2.2.2.2.2.2.2.2.2.1 x.2.2.2.2.2.2.2.2.2.2.2.1 x.2.2.2.2.2.2.2.2.2.2.2.2.1 x.2.2.2.2.2.2.2.2.2.2.2.2.2.1 x.2.2.2.2.2.2.2.2.2.2.2.2.2.2.1 x.2.2.2.2.2.2.2.2.2.2.2.2.2.2.2.1 x.2.2.2.2.2.2.2.2.2.2.2.2.2.2.2.2.1 x.2.2.2.2.2.2.2.2.2.2.2.2.2.2.2.2.2.1 x.2.2.2.2.2.2.2.2.2.2.2.2.2.2.2.2.2.2.1 x.2.2.2.2.2.2.2.2.2.2.2.2.2.2.2.2.2.2.2=some r) ?_ ?_
 ·refine gU Z<|sV (.d (ai.pd c.1))<|bE h λi2 d5 h=>cD (ce d5)<|sF h ?_ ?_<;>intro h
  ·exact sN<|cT<|Gb rfl rfl<|sV (.d (ai.pd a.1))<|sH 208 (.var (ai.rc a.1))<|sN<|⟨(a.1.ae.bt.bo.fX,a.1.ae.bt.bo.fY,a.1.ae.bt.bo.fZ,a.1.ae.bt.ba.fX,a.1.ae.bt.ba.fY,a.1.ae.bt.ba.fZ,a.1.ae.bP.b9,a.1.ae.bP.bo,a.1.ae.bP.ba,a.1.ae.eV,a.1.ae.bD,a.1.ae.df,a.1.ae.dH,a.1.ae.de,a.1.bX.bN.b9,a.1.bX.bN.bo,a.1.bX.bN.ba,a.1.bX.bR,a.1.bX.bO,a.1.bD),rfl,h⟩
  exact sN<|cF<|qK<|⟨(c.1.ae.bt.bo.fX,c.1.ae.bt.bo.fY,c.1.ae.bt.bo.fZ,c.1.ae.bt.ba.fX,c.1.ae.bt.ba.fY,c.1.ae.bt.ba.fZ,c.1.ae.bP.b9,c.1.ae.bP.bo,c.1.ae.bP.ba,c.1.ae.eV,c.1.ae.bD,c.1.ae.df,c.1.ae.dH,c.1.ae.de,c.1.bX.bN.b9,c.1.bX.bN.bo,c.1.bX.bN.ba,c.1.bX.bR,c.1.bX.bO,c.1.bD),rfl,h⟩
 rintro⟨p,q,t,u,z,B,C,D,E,F,G,H,I,J,K,L,N,O,Q,T⟩ R' B' Y h
 refine qS<|gS Z Y<|sV (.d (ai.pd a.1))<|sV (.d (ai.pd a0))<|sV (.d (ai.pd (ai.mk (aw.mk (ak.mk (aa.mk p q t) (aa.mk u z B)) (bc.mk C D E) F G H I J) (bK.mk (bc.mk K L N) O Q) T)))<|sG (.d (.lst ([a.1,a0,(ai.mk (aw.mk (ak.mk (aa.mk p q t) (aa.mk u z B)) (bc.mk C D E) F G H I J) (bK.mk (bc.mk K L N) O Q) T)].map ai.pd)))<|sV (rI 3)<|sV (r0)<|sN<|bE h λe3 b3 h=>Gc (Gd (WL.tS b3 (λs=>gI 0 3 10 [(2,rM ac.pd a2),(5,.ptr 80 0),(9,.ptr 736 0),(11,.ptr 176 0),(12,rM ac.pd g.1),(65,.d (.lst ([a.1,a0,(ai.mk (aw.mk (ak.mk (aa.mk p q t) (aa.mk u z B)) (bc.mk C D E) F G H I J) (bK.mk (bc.mk K L N) O Q) T)].map ai.pd))),(66,rI 3),(67,rI s.1)] [(80,.var [rM av.pd a1.bp]),(176,.var [rM av.pd f.1.bp]),(736,.var [rL s.2.1,rI s.2.2])]) (λo=>match o with| .inl y=>gX 0 0 3 33 [] []| .inr r=>gF 3 f3 0 (rB r,[])) Z ?_ ?_))
 ·rintro⟨g6,g7,g8⟩ R' B' f5 Y h
  refine gS Z Y<|sF h ?_ ?_<;>intro h
  ·refine sN<|qS<|cT<|qK<|qS<|qB<|gU Z<|bE h λk c1 h=>eG c1 Z<|sV (.d (ai.pd k))<|sB (.ptr 240 0) 240 (.var [r0,r0,r0,r0,r0,r0,r0,.tC,.tC,r0,r0,r0,r0,r0,r0,.tC,.tC,r0,r0,r0])<|sH 240 (.var (ai.rc k))<|sN<|Ge Z Z<|sV (.d (.agg [.lst (f.1.bp.map av.pd)])) ?_
   refine sV (.d (ag.pd a1))<|sM Z<|sV (.d (.agg [.lst (f.1.bp.map av.pd)]))<|bE h λj c2 h=>cR (.d (ag.pd j.1)) [(736,.var (ah.rc j.2))] (qN c2)<|sV (.d (.lst ([f.1,a1,j.1].map ag.pd)))<|sV (rI 3)<|sV (r0) ?_
   refine sN<|sO<|bE h λe2 b0 h=>Gc (Gd (WL.tS b0 (λs=>gI 0 3 13 [(2,rM ac.pd a2),(5,.ptr 80 0),(9,.ptr 736 0),(11,.ptr 176 0),(12,rM ac.pd g.1),(15,.ptr 240 0),(65,.d (.lst ([a.1,a0,(ai.mk (aw.mk (ak.mk (aa.mk p q t) (aa.mk u z B)) (bc.mk C D E) F G H I J) (bK.mk (bc.mk K L N) O Q) T)].map ai.pd))),(66,rI 3),(67,rI s.1),(76,.d (.lst ([f.1,a1,j.1].map ag.pd))),(77,rI 3),(78,rI s.2)] [(80,.var [rM av.pd a1.bp]),(176,.var [rM av.pd f.1.bp]),(240,.var (ai.rc k)),(736,.var (ah.rc j.2))]) (λo=>match o with| .inl y=>gX 2 0 3 32 [(2,rM ac.pd a2),(5,.ptr 80 0),(9,.ptr 736 0),(11,.ptr 176 0),(12,rM ac.pd g.1),(65,.d (.lst ([a.1,a0,(ai.mk (aw.mk (ak.mk (aa.mk p q t) (aa.mk u z B)) (bc.mk C D E) F G H I J) (bK.mk (bc.mk K L N) O Q) T)].map ai.pd))),(66,rI 3),(67,rI y)] [(80,.var [rM av.pd a1.bp]),(176,.var [rM av.pd f.1.bp]),(736,.var (ah.rc j.2))]| .inr r=>gF 3 f3 0 (rB r,[])) Z ?_ ?_))
   ·rintro⟨g9,h0⟩ R' B' f6 Y h
    refine gS Z Y<|sF h ?_ ?_<;>intro h
    ·refine sN<|qS<|cT<|qK<|qS<|qB<|gU Z<|bE h λW c3 h=>eG c3 Z<|sV (.d (ag.pd W))<|sB (.ptr 272 0) 272 (.var [.tC])<|sS 272 (.var [rM av.pd W.bp])<|sN<|gU Z<|sM Z ?_
     refine sM Z<|sV (.d (.lst ([g.1,a2].map (λl=>PD.lst (l.map ac.pd)))))<|sV (rI 2)<|sV (r0)<|sN<|bE h λe1 a9 h=>Gc (Gd (WL.tS a9 (λs=>gI 0 3 16 [(2,rM ac.pd a2),(5,.ptr 80 0),(9,.ptr 736 0),(11,.ptr 176 0),(12,rM ac.pd g.1),(15,.ptr 240 0),(17,.ptr 272 0),(65,.d (.lst ([a.1,a0,(ai.mk (aw.mk (ak.mk (aa.mk p q t) (aa.mk u z B)) (bc.mk C D E) F G H I J) (bK.mk (bc.mk K L N) O Q) T)].map ai.pd))),(66,rI 3),(67,rI s.1),(76,.d (.lst ([f.1,a1,j.1].map ag.pd))),(77,rI 3),(78,rI s.2.1),(84,.d (.lst ([g.1,a2].map (λl=>PD.lst (l.map ac.pd))))),(85,rI 2),(86,rI s.2.2)] [(80,.var [rM av.pd a1.bp]),(176,.var [rM av.pd f.1.bp]),(240,.var (ai.rc k)),(272,.var [rM av.pd W.bp]),(736,.var (ah.rc j.2))]) (λo=>match o with| .inl y=>gX 4 0 3 31 [(2,rM ac.pd a2),(5,.ptr 80 0),(9,.ptr 736 0),(11,.ptr 176 0),(12,rM ac.pd g.1),(15,.ptr 240 0),(65,.d (.lst ([a.1,a0,(ai.mk (aw.mk (ak.mk (aa.mk p q t) (aa.mk u z B)) (bc.mk C D E) F G H I J) (bK.mk (bc.mk K L N) O Q) T)].map ai.pd))),(66,rI 3),(67,rI y.1),(76,.d (.lst ([f.1,a1,j.1].map ag.pd))),(77,rI 3),(78,rI y.2)] [(80,.var [rM av.pd a1.bp]),(176,.var [rM av.pd f.1.bp]),(240,.var (ai.rc k)),(736,.var (ah.rc j.2))]| .inr r=>gF 3 f3 0 (rB r,[])) Z ?_ ?_))
     ·rintro⟨e4,e5,e6⟩ R' B' g0 Y h
      refine gS Z Y<|sF h ?_ ?_<;>intro h
      ·refine sN<|qS<|cT<|qK<|qS<|qB<|gU Z<|bE h λh2 c4 h=>eG c4 Z<|sC Z<|sA Z<|sN<|gU Z<|sV (.d (ai.pd k))<|sV (.d (ag.pd W)) ?_
       refine sM Z<|bE h λX c5 h=>cR (.tup [.d (.lst (X.1.map (λl=>PD.lst (l.map ac.pd)))),rI X.2]) [] (sQ c5)<|sM Z<|sV (.d (.lst (X.1.map (λl=>PD.lst (l.map ac.pd)))))<|sV (rI X.2)<|sA Z<|sA Z<|sN<|gU Z<|sV (.d (ai.pd k))<|sV (.d (ag.pd W))<|sM Z<|bE h λa5 c6 h=>cR (.tup [.d (.lst (a5.1.map (λl=>PD.lst (l.map ac.pd)))),rI a5.2]) [] (tj c6) ?_
       refine sM Z<|sV (.d (.lst (a5.1.map (λl=>PD.lst (l.map ac.pd)))))<|sV (rI a5.2)<|sA Z<|sA Z<|sN<|gU Z<|sV (.d (ai.pd k))<|sV (.d (ag.pd W))<|sM Z<|bE h λa6 c7 h=>cR (.tup [rM bd.pd a6.1,rM ac.pd a6.2.1,rI a6.2.2]) [] (event_Find_ev c7)<|sM Z<|sV (rM bd.pd a6.1)<|sV (rM ac.pd a6.2.1) ?_
       refine sV (rI a6.2.2)<|sA Z<|sA Z<|sA Z<|sN<|gU Z<|sV (.d (ai.pd k))<|sV (.d (ag.pd W))<|sM Z<|bE h λa7 c8 h=>cR (.tup [rM bd.pd a7.1,rM ac.pd a7.2.1,rI a7.2.2]) [] (ce c8)<|sM Z<|sV (rM bd.pd a7.1)<|sV (rM ac.pd a7.2.1)<|sV (rI a7.2.2) ?_
       refine sA Z<|sA Z<|sA Z<|sN<|qS<|gU Z<|mM Z<|sF h ?_ ?_<;>intro h
       ·refine sM Z<|k3<|sK<|sK<|sT<|sM Z<|k3<|sT<|sM Z<|sK<|sK ?_
        refine sK<|sK<|sT<|sM Z<|k3<|sK<|sT<|sN<|cT<|gU Z<|sU<|sN<|qR ?_
        cases oI h
        exact⟨nofun,rfl,rfl⟩
       refine mM Z<|sE (rI (X.1.length:Int)) (uf _ _)<|sM Z<|sE (rI (a5.1.length:Int)) (uf _ _)<|sV (rB ((X.1.length:Int) != (a5.1.length:Int)))<|sF h ?_ ?_<;>intro h
       ·refine sM Z<|k3<|sT<|sM Z<|k3<|sK<|sT<|sM Z<|sK<|sK<|sK ?_
        refine sK<|sT<|sN<|cT<|gU Z<|sU<|sN<|qR ?_
        cases oI h
        exact⟨nofun,rfl,rfl⟩
       refine mM Z<|sM Z<|sV (rB (a6.2.2 != a7.2.2))<|sF h ?_ ?_<;>intro h
       ·refine sM Z<|k3<|sK<|sT<|sM Z<|k3<|sK<|sT<|sN<|cT<|gU Z ?_
        refine sU<|sN<|qR ?_
        cases oI h
        exact⟨nofun,rfl,rfl⟩
       refine mM Z<|sM Z<|bE h λe9 c9 h=>cD (ce c9)<|sV (rB (!e9))<|sF h ?_ ?_<;>intro h
       ·refine sM Z<|k3<|sK<|sT<|sN<|cT<|gU Z<|sU<|sN<|qR ?_
        cases oI h
        exact⟨nofun,rfl,rfl⟩
       refine mM Z<|sM Z<|bE h λf0 d0 h=>cD (ce d0)<|sV (rB (!f0))<|sF h ?_ ?_<;>intro h
       ·refine sN<|cT<|gU Z<|sU<|sN<|qR ?_
        cases oI h
        exact⟨nofun,rfl,rfl⟩
       refine sN<|cF<|qK<|gU Z<|sM Z<|sE (rI (X.1.length:Int)) (uf _ _)<|sV (r0)<|sN<|bE h λe0 a8 h=>Gc (Gd (WL.tS a8 (λs=>gI 0 3 25 [(2,rM ac.pd a2),(5,.ptr 80 0),(9,.ptr 736 0),(11,.ptr 176 0),(12,rM ac.pd g.1),(15,.ptr 240 0),(17,.ptr 272 0),(20,.d (.lst (X.1.map (λl=>PD.lst (l.map ac.pd))))),(22,.d (.lst (a5.1.map (λl=>PD.lst (l.map ac.pd))))),(65,.d (.lst ([a.1,a0,(ai.mk (aw.mk (ak.mk (aa.mk p q t) (aa.mk u z B)) (bc.mk C D E) F G H I J) (bK.mk (bc.mk K L N) O Q) T)].map ai.pd))),(66,rI 3),(67,rI e4),(76,.d (.lst ([f.1,a1,j.1].map ag.pd))),(77,rI 3),(78,rI e5),(84,.d (.lst ([g.1,a2].map (λl=>PD.lst (l.map ac.pd))))),(85,rI 2),(86,rI e6),(148,rI (X.1.length:Int)),(149,rI s)] [(80,.var [rM av.pd a1.bp]),(176,.var [rM av.pd f.1.bp]),(240,.var (ai.rc k)),(272,.var [rM av.pd W.bp]),(736,.var (ah.rc j.2))]) (λo=>match o with| .inl y=>gX 6 0 3 30 [(2,rM ac.pd a2),(5,.ptr 80 0),(9,.ptr 736 0),(11,.ptr 176 0),(12,rM ac.pd g.1),(15,.ptr 240 0),(17,.ptr 272 0),(65,.d (.lst ([a.1,a0,(ai.mk (aw.mk (ak.mk (aa.mk p q t) (aa.mk u z B)) (bc.mk C D E) F G H I J) (bK.mk (bc.mk K L N) O Q) T)].map ai.pd))),(66,rI 3),(67,rI y.1),(76,.d (.lst ([f.1,a1,j.1].map ag.pd))),(77,rI 3),(78,rI y.2.1),(84,.d (.lst ([g.1,a2].map (λl=>PD.lst (l.map ac.pd))))),(85,rI 2),(86,rI y.2.2)] [(80,.var [rM av.pd a1.bp]),(176,.var [rM av.pd f.1.bp]),(240,.var (ai.rc k)),(272,.var [rM av.pd W.bp]),(736,.var (ah.rc j.2))]| .inr r=>gF 3 f3 0 (rB r,[])) Z ?_ ?_))
       ·rintro e7 R' B' g1 Y h
        refine gS Z Y<|sF h ?_ ?_<;>intro h
        ·refine sN<|qS<|cT<|qK<|qS<|qB<|gU Z<|sM Z<|sA Z<|sN<|Ge Z Z<|mM Z<|bE h λh5 d1 h=>eG d1 Z ?_
         refine sC Z<|mM Z<|bE h λh7 d2 h=>eG d2 Z<|sC Z<|bE h λi0 d3 h=>cD (ce d3)<|sF h ?_ ?_<;>intro h
         ·refine sN<|sO<|cT<|gU Z<|sU<|sN<|qR ?_
          cases oI h
          exact⟨nofun,rfl,rfl⟩
         refine sN<|sO<|cF<|qK<|Gb Z Z<|sV (rI (rW (e7+(1:Int))))<|sM Z<|sN ?_
         cases oI h
         exact⟨rfl,rfl⟩
        refine sN<|qS<|cF<|qX ?_
        cases oI h
        exact⟨nofun,rfl,rfl⟩
       intro e R' B' he hq
       rcases e0 with f1|g2
       ·obtain⟨rfl,Y⟩:=hq
        refine qE<|Gb Y Z<|sV (rI (rW (f1.2.2+(1:Int))))<|sM Z<|sN ?_
        cases oI h
        exact⟨rfl,rfl⟩
       obtain⟨rfl,hf⟩:=hq
       cases oI h
       exact⟨nofun,rfl,hf⟩
      refine sN<|qS<|cF<|qX ?_
      cases oI h
      exact⟨nofun,rfl,rfl⟩
     intro e R' B' he hq
     rcases e1 with f2|g3
     ·obtain⟨rfl,Y⟩:=hq
      refine qE<|Gb Y Z<|sV (rI (rW (f2.2+(1:Int))))<|sM Z<|sN ?_
      cases oI h
      exact⟨rfl,rfl⟩
     obtain⟨rfl,hf⟩:=hq
     cases oI h
     exact⟨nofun,rfl,hf⟩
    refine sN<|qS<|cF<|qX ?_
    cases oI h
    exact⟨nofun,rfl,rfl⟩
   intro e R' B' he hq
   rcases e2 with f4|g4
   ·obtain⟨rfl,Y⟩:=hq
    refine qE<|Gb Y Z<|sV (rI (rW (f4+(1:Int))))<|sM Z<|sN ?_
    cases oI h
    exact⟨rfl,rfl⟩
   obtain⟨rfl,hf⟩:=hq
   cases oI h
   exact⟨nofun,rfl,hf⟩
  refine sN<|qS<|cF<|qX ?_
  cases oI h
  exact⟨nofun,rfl,rfl⟩
 intro e R' B' he hq
 rcases e3 with i3|g5
 ·obtain⟨rfl,Y⟩:=hq
  refine qE<|gS Z Y<|bE h λi1 d4 h=>cD (sJ d4)<|sA Z<|sN<|qR ?_
  exact oI h▸qD
 obtain⟨rfl,hf⟩:=hq
 cases oI h
 exact hf
end Go.Dw.Ef
