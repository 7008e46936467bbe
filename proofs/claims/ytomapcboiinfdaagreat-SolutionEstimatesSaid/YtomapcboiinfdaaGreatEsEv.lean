
import Derived.Test.YtomapcboiinfdaaGreatEsEvB
set_option linter.unusedVariables false
set_option linter.unusedSimpArgs false
open Go.Dw.WC renaming block->CI, jF->CJ, join->CK, loop->CL, region->CO
open Go.IntKind renaming wrap->Bw

set_option maxRecDepth 100000
set_option maxHeartbeats 4000000
namespace Go.Dw.Es
open Go.Proofs Go.Proofs.Tryz Go.Dw
theorem jN{a0:ap}{a1:Int}{a2:Int}{r:Int×Int×Int}(h:fH a0 a1 a2=some r):EvP prog aF ext 71 [.d (ap.pd a0),rI a1,rI a2] [] (.tup [rI r.1,rI r.2.1,rI r.2.2],[]):=by
 refine Ev.body Z Tryz.func71 Z Zk<|gU Z<|sB (.ptr 48 0) 48 (.var (ap.rc a0))<|sV (r0)<|sV (r0)<|sV (r0)<|sN<|qS<|gU Z<|sV (.d (ap.pd a0))<|bE h fun k h1 h=>cD (dJ h1)<|sF h ?_ ?_<;>intro h
 ·refine sN<|cT<|gU Z<|sV (r0)<|sV (r0)<|sV (rI 21)<|sN<|qR ?_
  exact oI h▸qD
 refine sN<|cF<|qK<|qS<|gU Z<|sM Z<|sF h ?_ ?_<;>intro h
 ·refine sM Z<|k3<|sT<|sN<|cT<|gU Z<|sV (r0)<|sV (r0)<|sV (rI 2)<|sN<|qR ?_
  exact oI h▸qD
 refine mM Z<|sM Z<|sV (rB (decide (a1>a2)))<|sF h ?_ ?_<;>intro h
 ·refine sN<|cT<|gU Z<|sV (r0)<|sV (r0)<|sV (rI 2)<|sN<|qR ?_
  exact oI h▸qD
 refine sN<|cF<|qK<|qS<|CJ Z Z<|sM Z<|bE h fun l c h=>cD (lP c)<|sV (.d (ap.pd a0))<|bE h fun m e h=>cD (ref25_Reach_ev e)<|sF h ?_ ?_<;>intro h
 ·refine sN<|sO<|cT<|gU Z<|sV (r0)<|sV (r0)<|sV (rI 22)<|sN<|qR ?_
  exact oI h▸qD
 refine sN<|sO<|cF<|qK<|CJ Z Z<|sV (.d (ap.pd a0))<|sM Z<|bE h fun n f h=>cD (kY f)<|bE h fun o g h=>cD (ref25_Lower_ev g)<|sV (.d (ap.pd a0))<|sM Z<|bE h fun i a h=>cD (lP a)<|bE h fun j b h=>?_
 refine cD (ref25_Upper_ev b)<|sA Z<|sA Z<|sV (r0) ?_
 refine sN<|sO<|qR ?_
 exact oI h▸qD
theorem my{a0:ap}{a1:aq}{a2:ac}{r:Int×Int×Int}(h:gA a0 a1 a2=some r):EvP prog aF ext 115 [.d (ap.pd a0),.d (aq.pd a1),.d (ac.pd a2)] [] (.tup [rI r.1,rI r.2.1,rI r.2.2],[]):=by
 refine Ev.body Z Tryz.func115 Z Zk<|gU Z<|sB (.ptr 48 0) 48 (.var (ap.rc a0))<|sB (.ptr 64 0) 64 (.var (aq.rc a1))<|sB (.ptr 80 0) 80 (.var (ac.rc a2))<|sV (r0)<|sV (r0)<|sV (r0)<|sN<|qS<|gU Z<|sV (.d (ap.pd a0))<|bE h fun j h1 h=>cD (dJ h1)<|sF h ?_ ?_<;>intro h
 ·refine sN<|cT<|gU Z<|sV (r0)<|sV (r0)<|sV (rI 21)<|sN<|qR ?_
  exact oI h▸qD
 refine sN<|cF<|qK<|qS<|gU Z<|sV (.d (aq.pd a1))<|bE h fun k b h=>cD (cW b)<|sF h ?_ ?_<;>intro h
 ·refine sM Z<|k3<|sT<|sN<|cT<|gU Z<|sV (r0)<|sV (r0)<|sV (rI 20)<|sN<|qR ?_
  exact oI h▸qD
 refine sM Z<|sV (.d (ac.pd a2))<|bE h fun i c h=>cD (d8 c)<|sV (rB (!i))<|sF h ?_ ?_<;>intro h
 ·refine sN<|cT<|gU Z<|sV (r0)<|sV (r0)<|sV (rI 20)<|sN<|qR ?_
  exact oI h▸qD
 refine sN<|cF<|qK<|CJ Z Z<|sV (.d (ap.pd a0))<|sV (.d (aq.pd a1))<|sV (.d (ac.pd a2))<|bE h fun l e h=>cD (lQ e)<|sV (.d (aq.pd a1))<|sV (.d (ac.pd a2))<|bE h fun m f h=>cD (mw f)<|bE h fun a g h=>cR (.tup [rI a.1,rI a.2.1,rI a.2.2]) [] (jN g) ?_
 refine sV (rI a.1)<|sV (rI a.2.1)<|sV (rI a.2.2)<|sA Z<|sA Z<|sA Z ?_
 refine sN<|sO<|qR ?_
 exact oI h▸qD
theorem ref33_Usable_ev{a0:ag}{a1:ah}{a2:ai}{r:aC×Bool}(h:gD a0 a1 a2=some r):EvP prog aF ext 68 [.d (ag.pd a0),.d (ah.pd a1),.d (ai.pd a2)] [] (.tup [.d (aC.pd r.1),rB r.2],[]):=by
 refine Ev.body Z Tryz.func68 Z Zk<|gU Z<|sB (.ptr 48 0) 48 (.var (ag.rc a0))<|sB (.ptr 64 0) 64 (.var [rM aj.pd a1.aw])<|sB (.ptr 80 0) 80 (.var (ai.rc a2))<|sB (.ptr 96 0) 96 (.var zZ1)<|sU<|sN<|qS<|gU Z<|sV (.d (ag.pd a0))<|bE h fun i h1 h=>cD (jo h1)<|sF h ?_ ?_<;>intro h
 ·refine sM Z<|k3<|sT<|sN<|cT<|gU Z<|sG (.d (aC.pd (aC.mk (ac.mk 0 0 0) 0 0 0)))<|sH 96 (.var zZ1)<|sU<|sN<|qR ?_
  cases oI h
  exact qG
 refine sM Z<|sV (.d (ai.pd a2))<|bE h fun g c h=>cD (l6 c)<|sV (rB (!g))<|sF h ?_ ?_<;>intro h
 ·refine sN<|cT<|gU Z<|sG (.d (aC.pd (aC.mk (ac.mk 0 0 0) 0 0 0)))<|sH 96 (.var zZ1)<|sU<|sN<|qR ?_
  cases oI h
  exact qG
 refine sN<|cF<|qK<|gU Z<|sV (.d (ah.pd a1))<|sV (.ptr 80 0)<|sV (.d (ak.pd a2.az))<|sV (.ptr 80 4)<|sL Z<|bE h fun a e h=>cR (.tup [.d (al.pd a.1),rI a.2]) [] (ref19_At_ev e)<|sM Z<|sV (.d (al.pd a.1))<|sV (rI a.2)<|sB (.ptr 128 0) 128 (.var zZ0) ?_
 refine sH 128 (.var (al.rc a.1))<|sA Z<|sN<|qS<|gU Z<|sM Z<|sF h ?_ ?_<;>intro h
 ·refine sN<|cT<|gU Z<|sG (.d (aC.pd (aC.mk (ac.mk 0 0 0) 0 0 0)))<|sH 96 (.var zZ1)<|sU<|sN<|qR ?_
  cases oI h
  exact qG
 refine sN<|cF<|qK<|qS<|gU Z<|sV (.ptr 48 0)<|sV (.ptr 48 6)<|sV (.d (ap.pd a0.ae.bj))<|sV (.ptr 48 0)<|sV (.ptr 48 0)<|sV (.d (aq.pd a0.ae.aU))<|sV (.ptr 128 4)<|sV (.d (ac.pd a.1.aI))<|bE h fun b f h=>cR (.tup [rI b.1,rI b.2.1,rI b.2.2]) [] (my f) ?_
 refine sM Z<|sV (rI b.1)<|sV (rI b.2.1)<|sV (rI b.2.2)<|sA Z<|sA Z<|sA Z<|sN<|gU Z<|sM Z<|sF h ?_ ?_<;>intro h
 ·refine sN<|cT<|gU Z<|sG (.d (aC.pd (aC.mk (ac.mk 0 0 0) 0 0 0)))<|sH 96 (.var zZ1)<|sU<|sN<|qR ?_
  cases oI h
  exact qG
 refine sN<|cF<|qK<|gU Z<|sV (.ptr 128 4)<|sV (.d (ac.pd a.1.aI))<|sV (.ptr 80 5)<|sL Z<|sV (.ptr 80 6)<|sL Z<|sG (.d (aC.pd (aC.mk a.1.aI a2.bd a2.bk 1)))<|sH 96 (.var (ac.rc a.1.aI++[rI a2.bd,rI a2.bk,rI 1]))<|sT<|sN<|qR ?_
 cases oI h
 exact qG
theorem ref33_Picks_ev{a0:ag}{a1:ah}{a2:(List ai)}{r:(List ai)}(h:ld a0 a1 a2=some r):EvP prog aF ext 37 [.d (ag.pd a0),.d (ah.pd a1),rM ai.pd a2] [] (rM ai.pd r,[]):=by
 refine Ev.body Z Tryz.func37 Z Zk<|gU Z<|sB (.ptr 48 0) 48 (.var (ag.rc a0))<|sB (.ptr 64 0) 64 (.var [rM aj.pd a1.aw])<|sV .cI<|sN<|gU Z<|sV .cI<|sN<|qS<|gU Z<|sM Z<|bE h fun i h1 h=>cD (ref23_Sort_ev h1)<|sE (rI (i.length:Int)) (mE _ _) ?_
 refine sV (r0)<|sN<|bE h fun p a h=>CI (CL (WL.mL a (fun s=>gI 0 37 3 [(3,.ptr 48 0),(4,.ptr 64 0),(7,.ref 480 0),(13,rM ai.pd i),(14,rI (i.length:Int)),(15,rI s.1)] [(48,.var (ag.rc a0)),(64,.var [rM aj.pd a1.aw]),(480,.arr 0 83 (s.2.map ai.pd))]) (fun o=>gX 0 0 37 9 [(7,.ref 480 0)] [(480,.arr 0 83 (o.map ai.pd))]) Z ?_ ?_))
 ·rintro⟨s2,u⟩ k j t g h
  refine gS Z g<|sF h ?_ ?_<;>intro h
  ·refine sN<|qS<|cT<|qK<|qS<|qB<|gU Z<|bE h fun b l h=>eG l Z<|sV (.d (ai.pd b))<|sB (.ptr 144 0) 144 (.var [rS [],rS [],rS [],rS [],r0,r0,r0,r0,r0])<|sH 144 (.var (ai.rc b))<|sN<|gU Z<|sV (.d (ag.pd a0)) ?_
   refine sV (.d (ah.pd a1))<|sV (.d (ai.pd b))<|bE h fun c m h=>cR (.tup [.d (aC.pd c.1),rB c.2]) [] (ref33_Usable_ev m)<|sM Z<|sV (.d (aC.pd c.1))<|sV (rB c.2)<|sB (.ptr 160 0) 160 (.var zZ1)<|sH 160 (.var (aC.rc c.1))<|sA Z<|sN<|gU Z<|sF h ?_ ?_<;>intro h
   ·refine sN<|cT<|CO Z Z<|sM Z<|sV (.d (ai.pd b))<|sG (.d (.lst ([b].map ai.pd)))<|bE h fun q f h=>aR f (fun _=>Z) Z<|sA Z<|sN<|CO Z Z<|sV (rI (rW (s2+(1:Int))))<|sM Z<|sN ?_
    cases oI h
    exact⟨rfl,rfl⟩
   refine sN<|cF<|qK<|CO Z Z<|sV (rI (rW (s2+(1:Int))))<|sM Z<|sN ?_
   cases oI h
   exact⟨rfl,rfl⟩
  refine sN<|qS<|cF<|qX ?_
  cases oI h
  exact⟨nofun,rfl,rfl⟩
 intro e k j he n
 obtain⟨rfl,g⟩:=n
 refine qE<|gS Z g<|sM Z<|sA Z<|sN<|qR ?_
 exact oI h▸qD
theorem ref17_From_ev{a0:Int}{r:(List Int)×Int}(h:jZ a0=some r):EvP prog aF ext 194 [rI a0] [] (.tup [rL r.1,rI r.2],[]):=by
 refine Ev.body Z Tryz.func194 Z Zk<|gU Z<|sV .cI<|sV (r0)<|sN<|qS<|gU Z<|sM Z<|sF h ?_ ?_<;>intro h
 ·refine sN<|cT<|gU Z<|sV .cI<|sV (rI 2)<|sN<|qR ?_
  exact oI h▸qD
 refine sN<|cF<|qK<|gU Z<|sV .cI<|sN<|qS<|bE h fun l a h=>CI (CL (WL.mL a (fun s=>gI 0 194 4 [(0,rI s.1),(4,.ref 208 0)] [(208,.arr 0 3 (s.2.map (PD.int .i64)))]) (fun o=>gX 0 0 194 7 [(4,.ref 208 0)] [(208,.arr 0 3 (o.map (PD.int .i64)))]) Z ?_ ?_))
 ·rintro⟨s2,p⟩ f c n b h
  refine qS<|gS Z b<|sM Z<|sF h ?_ ?_<;>intro h
  ·refine sN<|cT<|qK<|qB<|gU Z<|mM Z<|bE h fun m g h=>WO.remG g Z Z Z Z Z Z<|sV (.d (.lst ([m].map (PD.int .i64))))<|bE h fun q i h=>aR i (fun _=>Z) Z<|sA Z<|sN<|CO Z Z ?_
   refine sM Z<|bE h fun t j h=>WO.pU j Z Z Z Z Z Z<|sA Z<|sN ?_
   cases oI h
   exact⟨rfl,rfl⟩
  refine sN<|cF<|qX ?_
  cases oI h
  exact⟨nofun,rfl,rfl⟩
 intro e f c he k
 obtain⟨rfl,b⟩:=k
 refine qE<|gS Z b<|sM Z<|sA Z<|sV (r0)<|sN<|qR ?_
 exact oI h▸qD
theorem cO{a0:(List Int)}{r:Bool}(h:dt a0=some r):EvP prog aF ext 126 [rL a0] [] (rB r,[]):=by
 refine Ev.body Z Tryz.func126 Z Zk<|gU Z<|sU<|sN<|qS<|gU Z<|sV (r0)<|sN<|bE h fun m f h=>CI (CL (WL.mL f (fun s=>gI 0 126 2 [(0,rL a0),(3,rI s)] []) (fun o=>match o with| .inl y=>gX 0 0 126 6 [(0,rL a0)] []| .inr r=>gF 126 Tryz.f126 0 (rB r,[])) Z ?_ ?_))
 ·rintro s1 j i p c h
  refine qS<|gS Z c<|mM Z<|sE (rI (a0.length:Int)) (mE _ _)<|sF h ?_ ?_<;>intro h
  ·refine sN<|cT<|qK<|qS<|qB<|gU Z<|mM Z<|bE h fun q k h=>eG k Z<|sC Z<|bE h fun t l h=>cD (bo l)<|sF h ?_ ?_<;>intro h
   ·refine sN<|cT<|gU Z<|sU<|sN<|qR ?_
    cases oI h
    exact⟨nofun,rfl,rfl⟩
   refine sN<|cF<|qK<|CO Z Z<|sM Z<|sV (rI (rW (s1+(1:Int))))<|sA Z<|sN ?_
   cases oI h
   exact⟨rfl,rfl⟩
  refine sN<|cF<|qX ?_
  cases oI h
  exact⟨nofun,rfl,rfl⟩
 intro e j i he g
 rcases m with u|n
 ·obtain⟨rfl,c⟩:=g
  refine qE<|gS Z c<|sM Z<|sE (rI (a0.length:Int)) (mE _ _)<|sF h ?_ ?_<;>intro h
  ·refine mM Z<|sE (rI (a0.length:Int)) (mE _ _)<|sF h ?_ ?_<;>intro h
   ·refine sM Z<|k3<|k3<|sK<|sT<|sT<|sA Z<|sN<|qR ?_
    exact oI h▸qD
   refine mM Z<|sM Z<|sE (rI (a0.length:Int)) (mE _ _)<|sV (rI (rW ((a0.length:Int)-(1:Int))))<|bE h fun a b h=>eG b Z<|sC Z<|sV (rB (a != (0:Int)))<|sV (rB (a != (0:Int)))<|sV (rB (a != (0:Int)))<|sA Z<|sN<|qR ?_
   exact oI h▸qD
  refine sM Z<|k3<|k3<|k3<|k3<|sU<|sA Z ?_
  refine sN<|qR ?_
  exact oI h▸qD
 obtain⟨rfl,hf⟩:=g
 cases oI h
 exact hf
theorem ref17_trim_ev{a0:(List Int)}{r:(List Int)}(h:ref17_trim a0=some r):EvP prog aF ext 237 [rL a0] [] (rL r,[]):=by
 refine Ev.body Z Tryz.func237 Z Zk<|gU Z<|sV .cI<|sN<|qS<|bE h fun m b h=>CI (CL (WL.mL b (fun s=>gI 0 237 1 [(0,rL s)] []) (fun o=>gX 0 0 237 3 [(0,rL o)] []) Z ?_ ?_))
 ·rintro s1 f c n a h
  refine qS<|gS Z a<|sM Z<|sE (rI (s1.length:Int)) (mE _ _)<|sF h ?_ ?_<;>intro h
  ·refine mM Z<|sM Z<|sE (rI (s1.length:Int)) (mE _ _)<|sV (rI (rW ((s1.length:Int)-(1:Int))))<|bE h fun l i h=>eG i Z<|sC Z<|sV (rB (l==(0:Int)))<|sF h ?_ ?_<;>intro h
   ·refine sN<|cT<|qK<|qB<|CO Z Z<|mM Z<|sE (rI (s1.length:Int)) (mE _ _)<|sV (rI (rW ((s1.length:Int)-(1:Int))))<|bE h fun p j h=>WO.cutL (sz:=1) (g:=(PD.int .i64)) j (fun _=>Z) Z Z Z Z Z Z Z Z Z Z Z<|sA Z<|sN ?_
    cases oI h
    exact⟨rfl,rfl⟩
   refine sN<|cF<|qX ?_
   cases oI h
   exact⟨nofun,rfl,rfl⟩
  refine sM Z<|k3<|k3<|sK<|sU<|sN<|cF<|qX ?_
  cases oI h
  exact⟨nofun,rfl,rfl⟩
 intro e f c he k
 obtain⟨rfl,a⟩:=k
 refine qE<|gS Z a<|sM Z<|sA Z<|sN<|qR ?_
 exact oI h▸qD
theorem ref17_mul_ev{a0:(List Int)}{a1:(List Int)}{r:(List Int)}(h:jL a0 a1=some r):EvP prog aF ext 197 [rL a0,rL a1] [] (rL r,[]):=by
 refine Ev.body Z Tryz.func197 Z Zk<|gU Z<|sV .cI<|sN<|gU Z<|sM Z<|sE (rI (a0.length:Int)) (mE _ _)<|sM Z<|sE (rI (a1.length:Int)) (mE _ _)<|sV (rI (rW ((a0.length:Int)+(a1.length:Int))))<|bE h fun Y h1 h=>WO.mkS (g:=(PD.int .i64)) h1 Z Z Z Z Z Z Z Z Z Z Z<|sA Z<|sN<|qS ?_
 refine gU Z<|sV (r0)<|sN<|bE h fun L n h=>CI (CL (WL.mL n (fun s=>gI 0 197 3 [(0,rL a0),(1,rL a1),(5,.ref 224 0),(6,rI s.1)] [(224,.arr 0 3 (s.2.map (PD.int .i64)))]) (fun o=>gX 0 0 197 14 [(5,.ref 224 0)] [(224,.arr 0 3 (o.map (PD.int .i64)))]) Z ?_ ?_))
 ·rintro⟨s2,X⟩ c b W a h
  refine qS<|gS Z a<|mM Z<|sE (rI (a0.length:Int)) (mE _ _)<|sF h ?_ ?_<;>intro h
  ·refine sN<|cT<|qK<|qS<|qB<|gU Z<|sV (r0)<|sN<|gU Z<|sV (r0)<|sN<|bE h fun H m h=>CI (CL (WL.mL m (fun s=>gI 0 197 7 [(0,rL a0),(1,rL a1),(5,.ref 224 0),(6,rI s2),(7,rI s.1),(8,rI s.2.1)] [(224,.arr 0 3 (s.2.2.map (PD.int .i64)))]) (fun o=>gX 2 0 197 4 [(0,rL a0),(1,rL a1),(5,.ref 224 0),(6,rI o.1)] [(224,.arr 0 3 (o.2.map (PD.int .i64)))]) Z ?_ ?_))
   ·rintro⟨i,j,t⟩ c b q a h
    refine CK (α:=Unit) (fun x c b=>nA prog 0 (A c b) (aF.at_ 197 0 9)=some (A [(0,rL a0),(1,rL a1),(5,.ref 224 0),(6,rI s2),(7,rI i),(8,rI j)] [(224,.arr 0 3 (t.map (PD.int .i64)))])) (fun x=>fE t s2 j a1 a0 i=some q) ?_ ?_
    ·refine gS Z a<|mM Z<|sE (rI (a1.length:Int)) (mE _ _)<|sF h ?_ ?_<;>intro h
     ·exact sM rfl<|sK<|sK<|sT<|sN<|cT<|qK<|⟨(),rfl,h⟩
     refine mM Z<|sV (rB (decide (i>(0:Int))))<|sF h ?_ ?_<;>intro h
     ·exact sN<|cT<|qK<|⟨(),rfl,h⟩
     refine sN<|cF<|qX ?_
     cases oI h
     exact⟨nofun,rfl,rfl⟩
    rintro⟨⟩ c b a h
    refine qS<|qB<|gS Z a<|mM Z<|mM Z<|sV (rI (rW (s2+j)))<|bE h fun N u h=>WO.qi u Z Z Z Z Z Z Z Z<|bE h fun f v h=>WO.qJ v Z Z Z Z Z Z<|sV (rI (rW (i+f)))<|sA Z<|sN ?_
    refine CK (α:=Int) (fun x c b=>nA prog 0 (A c b) (aF.at_ 197 0 12)=some (A [(0,rL a0),(1,rL a1),(5,.ref 224 0),(6,rI s2),(7,rI x),(8,rI j)] [(224,.arr 0 3 (t.map (PD.int .i64)))])) (fun x=>fD t s2 j x=some q) ?_ ?_
    ·refine gU Z<|mM Z<|sE (rI (a1.length:Int)) (mE _ _)<|sF h ?_ ?_<;>intro h
     ·refine sN<|cT<|WC.n9 Z Z<|mM Z<|sM Z<|bE h fun k D h=>eG D Z<|sC Z<|mM Z<|bE h fun l E h=>eG E Z<|sC Z<|sV (rI (rW (k*l))) ?_
      refine sV (rI (rW ((rW (i+f))+(rW (k*l)))))<|sA Z ?_
      exact sN<|sO<|⟨(rW ((rW (i+f))+(rW (k*l)))),rfl,h⟩
     exact sN<|cF<|qK<|⟨(rW (i+f)),rfl,h⟩
    rintro K c b a h
    refine gS Z a<|mM Z<|sM Z<|sV (rI (rW (s2+j)))<|sM Z<|bE h fun I y h=>WO.remG y Z Z Z Z Z Z<|bE h fun O z h=>WO.qi z Z Z Z Z Z Z Z Z<|bE h fun Q B h=>WO.rA (g:=(PD.int .i64)) (sz:=1) (p:= .int .i64 I) B (fun _=>Z) (fun _=>Z) Z Z Z Z Z Z Z Z Z<|sN<|CO Z Z<|sM Z ?_
    refine bE h fun T C h=>WO.pU C Z Z Z Z Z Z<|sA Z<|sN<|CO Z Z<|sM Z<|sV (rI (rW (j+(1:Int))))<|sA Z<|sN ?_
    cases oI h
    exact⟨rfl,rfl⟩
   intro e c b he G
   obtain⟨rfl,a⟩:=G
   refine qE<|CO a Z<|sM Z<|sV (rI (rW (H.1+(1:Int))))<|sA Z<|sN ?_
   cases oI h
   exact⟨rfl,rfl⟩
  refine sN<|cF<|qX ?_
  cases oI h
  exact⟨nofun,rfl,rfl⟩
 intro e c b he G
 obtain⟨rfl,a⟩:=G
 refine qE<|gS Z a<|sM Z<|bE h fun J F h=>cR (rL J) [(224,.dead)] (ref17_trim_ev F)<|sA Z<|sN<|qR ?_
 exact oI h▸qD
theorem jK{a0:(List Int)}{r:(List Int)×Int}(h:cL a0=some r):EvP prog aF ext 196 [rL a0] [] (.tup [rL r.1,rI r.2],[]):=by
 refine Ev.body Z Tryz.func196 Z Zk<|gU Z<|sV .cI<|sV (r0)<|sN<|qS<|gU Z<|sM Z<|sE (rI (a0.length:Int)) (mE _ _)<|sF h ?_ ?_<;>intro h
 ·refine sN<|cT<|gU Z<|sV .cI<|sV (rI 8)<|sN<|qR ?_
  exact oI h▸qD
 refine sN<|cF<|qK<|gU Z<|sM Z<|sA Z<|sV (r0)<|sN<|qR ?_
 exact oI h▸qD
theorem j0{a0:(List Int)}{a1:(List Int)}{r:(List Int)×Int}(h:gY a0 a1=some r):EvP prog aF ext 163 [rL a0,rL a1] [] (.tup [rL r.1,rI r.2],[]):=by
 refine Ev.body Z Tryz.func163 Z Zk<|gU Z<|sV .cI<|sV (r0)<|sN<|qS<|gU Z<|sM Z<|bE h fun g h1 h=>cD (cO h1)<|sF h ?_ ?_<;>intro h
 ·refine sM Z<|k3<|sT<|sN<|cT<|gU Z<|sV .cI<|sV (rI 1)<|sN<|qR ?_
  exact oI h▸qD
 refine mM Z<|bE h fun f b h=>cD (cO b)<|sV (rB (!f))<|sF h ?_ ?_<;>intro h
 ·refine sN<|cT<|gU Z<|sV .cI<|sV (rI 1)<|sN<|qR ?_
  exact oI h▸qD
 refine sN<|cF<|qK<|gU Z<|mM Z<|bE h fun i c h=>cD (ref17_mul_ev c)<|bE h fun a e h=>cR (.tup [rL a.1,rI a.2]) [] (jK e)<|sV (rL a.1)<|sV (rI a.2)<|sA Z<|sA Z<|sN ?_
 refine qR ?_
 exact oI h▸qD
theorem dC{a0:Int}{r:(List Int)}(h:dl a0=some r):EvP prog aF ext 159 [rI a0] [] (rL r,[]):=by
 refine Ev.body Z Tryz.func159 Z Zk<|gU Z<|sV .cI<|sN<|gU Z<|mM Z<|sV (rI (rW (0-a0)))<|sV (rI (if(rW (0-a0))>a0 then(rW (0-a0))else a0))<|bE h fun a h1 h=>cR (.tup [rL a.1,rI a.2]) [] (ref17_From_ev h1)<|sM Z<|sV (rL a.1)<|sV (rI a.2)<|sA Z ?_
 refine sA Z<|sN<|gU Z<|mM Z<|bE h fun b c h=>cR (.tup [rL b.1,rI b.2]) [] (j0 c)<|sM Z<|sV (rL b.1)<|sV (rI b.2)<|sA Z<|sA Z<|sN<|gU Z<|sM Z ?_
 refine sA Z<|sN<|qR ?_
 exact oI h▸qD
theorem ref17_Add_ev{a0:(List Int)}{a1:(List Int)}{r:(List Int)×Int}(h:ly a0 a1=some r):EvP prog aF ext 195 [rL a0,rL a1] [] (.tup [rL r.1,rI r.2],[]):=by
 refine Ev.body Z Tryz.func195 Z Zk<|gU Z<|sV .cI<|sV (r0)<|sN<|qS<|gU Z<|sM Z<|bE h fun J h1 h=>cD (cO h1)<|sF h ?_ ?_<;>intro h
 ·refine sM Z<|k3<|sT<|sN<|cT<|gU Z<|sV .cI<|sV (rI 1)<|sN<|qR ?_
  exact oI h▸qD
 refine mM Z<|bE h fun I C h=>cD (cO C)<|sV (rB (!I))<|sF h ?_ ?_<;>intro h
 ·refine sN<|cT<|gU Z<|sV .cI<|sV (rI 1)<|sN<|qR ?_
  exact oI h▸qD
 refine sN<|cF<|qK<|gU Z<|sV .cI<|sN<|gU Z<|sV (r0)<|sN<|qS<|gU Z<|sV (r0)<|sN<|bE h fun F l h=>CI (CL (WL.mL l (fun s=>gI 0 195 6 [(0,rL a0),(1,rL a1),(6,.ref 912 0),(7,rI s.1),(8,rI s.2.1)] [(912,.arr 0 3 (s.2.2.map (PD.int .i64)))]) (fun o=>gX 0 0 195 14 [(6,.ref 912 0)] [(912,.arr 0 3 (o.map (PD.int .i64)))]) Z ?_ ?_))
 ·rintro⟨j,g,k⟩ b a z c h
  refine CK (α:=Unit) (fun x b a=>nA prog 0 (A b a) (aF.at_ 195 0 8)=some (A [(0,rL a0),(1,rL a1),(6,.ref 912 0),(7,rI j),(8,rI g)] [(912,.arr 0 3 (k.map (PD.int .i64)))])) (fun x=>dO g a0 a1 k j=some z) ?_ ?_
  ·refine gS Z c<|mM Z<|sE (rI (a0.length:Int)) (mE _ _)<|sF h ?_ ?_<;>intro h
   ·exact sM rfl<|k3<|sK<|sT<|sM rfl<|sK<|sK<|sT<|sN<|cT<|qK<|⟨(),rfl,h⟩
   refine mM Z<|sM Z<|sE (rI (a1.length:Int)) (mE _ _)<|sV (rB (decide (g<(a1.length:Int))))<|sF h ?_ ?_<;>intro h
   ·exact sM rfl<|sK<|sK<|sT<|sN<|cT<|qK<|⟨(),rfl,h⟩
   refine mM Z<|sV (rB (decide (j>(0:Int))))<|sF h ?_ ?_<;>intro h
   ·exact sN<|cT<|qK<|⟨(),rfl,h⟩
   refine sN<|cF<|qX ?_
   cases oI h
   exact⟨nofun,rfl,rfl⟩
  rintro⟨⟩ b a c h
  refine qS<|qB<|CK (α:=Int) (fun x b a=>nA prog 0 (A b a) (aF.at_ 195 0 10)=some (A [(0,rL a0),(1,rL a1),(6,.ref 912 0),(7,rI x),(8,rI g)] [(912,.arr 0 3 (k.map (PD.int .i64)))])) (fun x=>eN g a1 k x=some z) ?_ ?_
  ·refine gS Z c<|mM Z<|sE (rI (a0.length:Int)) (mE _ _)<|sF h ?_ ?_<;>intro h
   ·exact sN<|cT<|CO rfl rfl<|sM rfl<|sM rfl<|sM rfl<|bE h fun n v h=>eG v rfl<|sC rfl<|sV (rI (rW (j+n)))<|sA rfl<|sN<|⟨(rW (j+n)),rfl,h⟩
   exact sN<|cF<|qK<|⟨j,rfl,h⟩
  rintro i b a c h
  refine CK (α:=Int) (fun x b a=>nA prog 0 (A b a) (aF.at_ 195 0 12)=some (A [(0,rL a0),(1,rL a1),(6,.ref 912 0),(7,rI x),(8,rI g)] [(912,.arr 0 3 (k.map (PD.int .i64)))])) (fun x=>eM k g x=some z) ?_ ?_
  ·refine gS Z c<|mM Z<|sE (rI (a1.length:Int)) (mE _ _)<|sF h ?_ ?_<;>intro h
   ·exact sN<|cT<|CO rfl rfl<|sM rfl<|sM rfl<|sM rfl<|bE h fun m u h=>eG u rfl<|sC rfl<|sV (rI (rW (i+m)))<|sA rfl<|sN<|⟨(rW (i+m)),rfl,h⟩
   exact sN<|cF<|qK<|⟨i,rfl,h⟩
  rintro E b a c h
  refine gS Z c<|mM Z<|bE h fun B p h=>WO.remG p Z Z Z Z Z Z<|sV (.d (.lst ([B].map (PD.int .i64))))<|bE h fun G q h=>aR q (fun _=>Z) Z<|sA Z<|sN<|CO Z Z<|sM Z<|bE h fun H t h=>WO.pU t Z Z Z Z Z Z<|sA Z ?_
  refine sN<|CO Z Z<|sM Z<|sV (rI (rW (g+(1:Int))))<|sA Z<|sN ?_
  cases oI h
  exact⟨rfl,rfl⟩
 intro e b a he D
 obtain⟨rfl,c⟩:=D
 refine qE<|gS Z c<|sM Z<|bE h fun f y h=>cR (.tup [rL f.1,rI f.2]) [(912,.dead)] (jK y)<|sV (rL f.1)<|sV (rI f.2)<|sA Z<|sA Z<|sN<|qR ?_
 exact oI h▸qD
theorem iX{a0:aP}{a1:Int}{a2:Int}{r:(List Int)}(h:eI a0 a1 a2=some r):EvP prog aF ext 160 [.d (aP.pd a0),rI a1,rI a2] [] (rL r,[]):=by
 refine Ev.body Z Tryz.func160 Z Zk<|gU Z<|sB (.ptr 48 0) 48 (.var [rI a0.a0,rI a0.a1,rI a0.a2])<|sV .cI<|sN<|CJ Z Z<|sV (.ptr 48 0)<|sL Z<|sM Z<|sV (rI (rW (a0.a0*a2)))<|sM Z<|sV (rI (rW ((rW (a0.a0*a2))*a2)))<|sV (.ptr 48 2)<|sL Z<|sM Z ?_
 refine sV (rI (rW (a0.a2*a1)))<|sM Z<|sV (rI (rW ((rW (a0.a2*a1))*a1)))<|sV (rI (rW ((rW ((rW (a0.a0*a2))*a2))-(rW ((rW (a0.a2*a1))*a1)))))<|bE h fun e h1 h=>cD (dC h1)<|sV (.ptr 48 1)<|sL Z<|sM Z<|sV (rI (rW (a0.a1*a1)))<|sM Z<|sV (rI (rW ((rW (a0.a1*a1))*a2)))<|bE h fun f b h=>cD (dC b)<|bE h fun a c h=>?_
 refine cR (.tup [rL a.1,rI a.2]) [] (ref17_Add_ev c)<|sM Z<|sV (rL a.1)<|sV (rI a.2)<|sA Z<|sA Z ?_
 refine sN<|sO<|gU Z<|sM Z<|sA Z<|sN<|qR ?_
 exact oI h▸qD
theorem ref18_gain_ev{a0:au}{a1:Int}{a2:Int}{r:ar}(h:kd a0 a1 a2=some r):EvP prog aF ext 117 [.d (au.pd a0),rI a1,rI a2] [] (.d (ar.pd r),[]):=by
 refine Ev.body Z Tryz.func117 Z Zk<|gU Z<|sB (.ptr 48 0) 48 (.var (au.rc a0))<|sB (.ptr 96 0) 96 (.var [.cI,.cI])<|sN<|qS<|gU Z<|sV (.ptr 48 0)<|sL Z<|sN<|qB<|gU Z<|sF h ?_ ?_<;>intro h
 ·refine sA Z<|sN<|cT<|CJ Z Z<|sV (.ptr 48 1)<|sV (.ptr 48 1)<|sL Z<|bE h fun c j h=>cD (dC j)<|sV (.ptr 48 4)<|sV (.ptr 48 4)<|sL Z<|bE h fun e k h=>cD (dC k)<|sV (.d (.agg [.lst (c.map (PD.int .i64)),.lst (e.map (PD.int .i64))])) ?_
  refine sS 96 (.var [rL c,rL e]) ?_
  refine sN<|sO<|qR ?_
  cases oI h
  exact qG
 refine sA Z<|sN<|cF<|gU Z<|sF h ?_ ?_<;>intro h
 ·refine sA Z<|sN<|cT<|CJ Z Z<|sV (.ptr 48 1)<|sV (.d (aP.pd a0.aQ))<|mM Z<|bE h fun f l h=>cD (iX l)<|sV (.ptr 48 4)<|sV (.d (aP.pd a0.aL))<|mM Z<|bE h fun g m h=>?_
  refine cD (iX m)<|sV (.d (.agg [.lst (f.map (PD.int .i64)),.lst (g.map (PD.int .i64))]))<|sS 96 (.var [rL f,rL g]) ?_
  refine sN<|sO<|qR ?_
  cases oI h
  exact qG
 refine sA Z<|sN<|cF<|qK<|CJ Z Z<|sV (.ptr 48 7)<|sL Z<|bE h fun q n h=>cD (gy n)<|bE h fun i o h=>cD (dC o)<|sV (.ptr 48 9)<|sL Z<|sV (.d (.int .u64 (Bw .u64 a0.bq)))<|bE h fun s p h=>?_
 refine WO.shlG p Z Z Z Z Z<|bE h fun a b h=>cD (dC b)<|sV (.d (.agg [.lst (i.map (PD.int .i64)),.lst (a.map (PD.int .i64))]))<|sS 96 (.var [rL i,rL a]) ?_
 refine sN<|sO<|qR ?_
 cases oI h
 exact qG
theorem gw{a0:ar}{r:Bool}(h:cZ a0=some r):EvP prog aF ext 162 [.d (ar.pd a0)] [] (rB r,[]):=by
 refine Ev.body Z Tryz.func162 Z Zk<|gU Z<|sB (.ptr 16 0) 16 (.var (ar.rc a0))<|sU<|sN<|gU Z<|sV (.ptr 16 0)<|sL Z<|bE h fun e h1 h=>na h (fun a h=>?_) (fun a h=>?_)
 ·refine WO.nL (v:=rB true) (u:=[]) Z Z (fun _=>Z) Z Z Z Z Z (cO h1) Z Z (congrArg (fun b=>RV.d (.bool b)) a) Z<|sM Z<|sV (.ptr 16 1)<|sL Z<|bE h fun f c h=>cD (cO c)<|sF h ?_ ?_<;>intro h
  ·refine sM Z<|sV (.ptr 16 1)<|sL Z<|sE (rI (a0.aL.length:Int)) (mE _ _)<|sV (rB (decide ((a0.aL.length:Int)>(0:Int))))<|sV (rB (decide ((a0.aL.length:Int)>(0:Int))))<|sA Z<|sN<|qR ?_
   exact oI h▸qD
  refine sM Z<|k3<|sK<|sU<|sA Z<|sN<|qR ?_
  exact oI h▸qD
 refine WO.nL (v:=rB false) (u:=[]) Z Z (fun _=>Z) Z Z Z Z Z (cO h1) Z Z (congrArg (fun b=>RV.d (.bool b)) a) Z<|sM Z<|k3<|sU<|sM Z<|k3<|sK<|sU<|sA Z<|sN<|qR ?_
 exact oI h▸qD
theorem ref17_Times_ev{a0:ar}{a1:ar}{r:ar×Int}(h:jn a0 a1=some r):EvP prog aF ext 118 [.d (ar.pd a0),.d (ar.pd a1)] [] (.tup [.d (ar.pd r.1),rI r.2],[]):=by
 refine Ev.body Z Tryz.func118 Z Zk<|gU Z<|sB (.ptr 32 0) 32 (.var (ar.rc a0))<|sB (.ptr 48 0) 48 (.var (ar.rc a1))<|sB (.ptr 64 0) 64 (.var [.cI,.cI])<|sV (r0)<|sN<|qS<|gU Z<|sV (.d (ar.pd a0))<|bE h fun i h1 h=>cD (gw h1)<|sF h ?_ ?_<;>intro h
 ·refine sM Z<|k3<|sT<|sN<|cT<|gU Z<|sV (.agg [.cI,.cI])<|sS 64 (.var [.cI,.cI])<|sV (rI 1)<|sN<|qR ?_
  exact oI h▸qD
 refine sM Z<|sV (.d (ar.pd a1))<|bE h fun g c h=>cD (gw c)<|sV (rB (!g))<|sF h ?_ ?_<;>intro h
 ·refine sN<|cT<|gU Z<|sV (.agg [.cI,.cI])<|sS 64 (.var [.cI,.cI])<|sV (rI 1)<|sN<|qR ?_
  exact oI h▸qD
 refine sN<|cF<|qK<|gU Z<|sV (.ptr 32 0)<|sL Z<|sV (.ptr 48 0)<|sL Z<|bE h fun b e h=>cR (.tup [rL b.1,rI b.2]) [] (j0 e)<|sM Z<|sV (rL b.1)<|sV (rI b.2)<|sA Z<|sA Z ?_
 refine sN<|gU Z<|sV (.ptr 32 1)<|sL Z<|sV (.ptr 48 1)<|sL Z<|bE h fun a f h=>cR (.tup [rL a.1,rI a.2]) [] (j0 f)<|sM Z<|sV (rL a.1)<|sV (rI a.2)<|sA Z<|sA Z<|sN<|qS ?_
 refine gU Z<|sM Z<|sF h ?_ ?_<;>intro h
 ·refine sM Z<|sK<|sK<|sT<|sN<|cT<|gU Z<|sV (.agg [.cI,.cI])<|sS 64 (.var [.cI,.cI])<|sV (rI 8)<|sN<|qR ?_
  exact oI h▸qD
 refine mM Z<|sV (rB (a.2 != (0:Int)))<|sF h ?_ ?_<;>intro h
 ·refine sN<|cT<|gU Z<|sV (.agg [.cI,.cI])<|sS 64 (.var [.cI,.cI])<|sV (rI 8)<|sN<|qR ?_
  exact oI h▸qD
 refine sN<|cF<|qK<|gU Z<|mM Z<|sV (.d (.agg [.lst (b.1.map (PD.int .i64)),.lst (a.1.map (PD.int .i64))]))<|sS 64 (.var [rL b.1,rL a.1])<|sV (r0)<|sN<|qR ?_
 exact oI h▸qD
theorem ref18_Gain_ev{a0:aA}{a1:Int}{a2:Int}{r:ar×Int}(h:kc a0 a1 a2=some r):EvP prog aF ext 70 [.d (aA.pd a0),rI a1,rI a2] [] (.tup [.d (ar.pd r.1),rI r.2],[]):=by
 refine Ev.body Z Tryz.func70 Z Zk<|gU Z<|sB (.ptr 48 0) 48 (.var [rM au.pd a0.aD])<|sB (.ptr 96 0) 96 (.var [.cI,.cI])<|sV (r0)<|sN<|qS<|gU Z<|sV (.d (aA.pd a0))<|bE h fun E h1 h=>cD (kW h1)<|sF h ?_ ?_<;>intro h
 ·refine sN<|cT<|gU Z<|sV (.agg [.cI,.cI])<|sS 96 (.var [.cI,.cI])<|sV (rI 1)<|sN<|qR ?_
  exact oI h▸qD
 refine sN<|cF<|qK<|qS<|gU Z<|sM Z<|bE h fun F t h=>cD (bo t)<|sF h ?_ ?_<;>intro h
 ·refine sM Z<|k3<|sT<|sN<|cT<|gU Z<|sV (.agg [.cI,.cI])<|sS 96 (.var [.cI,.cI])<|sV (rI 2)<|sN<|qR ?_
  exact oI h▸qD
 refine mM Z<|bE h fun D u h=>cD (bo u)<|sV (rB (!D))<|sF h ?_ ?_<;>intro h
 ·refine sN<|cT<|gU Z<|sV (.agg [.cI,.cI])<|sS 96 (.var [.cI,.cI])<|sV (rI 2)<|sN<|qR ?_
  exact oI h▸qD
 refine sN<|cF<|qK<|gU Z<|sV (.d (.lst ([1].map (PD.int .i64))))<|sV (.d (.lst ([1].map (PD.int .i64))))<|sV (.d (.agg [.lst ([1].map (PD.int .i64)),.lst ([1].map (PD.int .i64))]))<|sB (.ptr 128 0) 128 (.var [.cI,.cI])<|sS 128 (.var [.d (.lst ([1].map (PD.int .i64))),.d (.lst ([1].map (PD.int .i64)))])<|sN<|qS<|gU Z<|sV (r0)<|sN<|bE h fun l f h=>?_
 refine CI (CL (WL.mL f (fun s=>gI 0 70 7 [(1,rI a1),(2,rI a2),(3,.ptr 48 0),(6,.ptr 96 0),(8,.ptr 128 0),(9,rI s.1)] [(48,.var [rM au.pd a0.aD]),(96,.var [.cI,.cI]),(128,.var [rL s.2.1,rL s.2.2])]) (fun o=>match o with| .inl y=>gX 0 0 70 13 [(6,.ptr 96 0),(8,.ptr 128 0)] [(96,.var [.cI,.cI]),(128,.var [rL y.1,rL y.2])]| .inr r=>gF 70 Tryz.f70 0 (.tup [.d (ar.pd r.1),rI r.2],[])) Z ?_ ?_))
 ·rintro⟨z,B,C⟩ q p v k h
  refine qS<|gS Z k<|sM Z<|sV (.ptr 48 0)<|sL Z<|sE (rI (a0.aD.length:Int)) (mE _ _)<|sF h ?_ ?_<;>intro h
  ·refine sN<|cT<|qK<|qS<|qB<|gU Z<|sV (.ptr 48 0)<|sL Z<|sM Z<|bE h fun m g h=>eG g Z<|sV (.d (au.pd m))<|mM Z<|bE h fun c i h=>?_
   refine cD (ref18_gain_ev i)<|sB (.ptr 160 0) 160 (.var [.cI,.cI])<|sS 160 (.var (ar.rc c))<|sN<|qS<|gU Z<|sV (.ptr 160 1)<|sL Z<|sE (rI (c.aL.length:Int)) (mE _ _)<|sF h ?_ ?_<;>intro h
   ·refine sN<|cT<|gU Z<|sV (.agg [.cI,.cI])<|sS 96 (.var [.cI,.cI])<|sV (rI 11)<|sN<|qR ?_
    cases oI h
    exact⟨nofun,rfl,rfl⟩
   refine sN<|cF<|qK<|CO Z Z<|sV (.d (ar.pd (ar.mk B C)))<|sV (.d (ar.pd c))<|bE h fun a j h=>cR (.tup [.d (ar.pd a.1),rI a.2]) [] (ref17_Times_ev j)<|sM Z<|sV (.d (ar.pd a.1))<|sV (rI a.2)<|sS 128 (.var (ar.rc a.1))<|sN<|CO Z Z<|sM Z ?_
   refine sV (rI (rW (z+(1:Int))))<|sA Z<|sN ?_
   cases oI h
   exact⟨rfl,rfl⟩
  refine sN<|cF<|qX ?_
  cases oI h
  exact⟨nofun,rfl,rfl⟩
 intro e q p he n
 rcases l with b|x
 ·obtain⟨rfl,k⟩:=n
  refine qE<|gS Z k<|sV (.d (ar.pd (ar.mk b.1 b.2)))<|sS 96 (.var [rL b.1,rL b.2])<|sV (r0)<|sN<|qR ?_
  exact oI h▸qD
 obtain⟨rfl,hf⟩:=n
 cases oI h
 exact hf
theorem kz{a0:Int}{r:Int}(h:fj a0=some r):EvP prog aF ext 124 [rI a0] [] (rI r,[]):=by
 refine Ev.body Z Tryz.func124 Z Zk<|gU Z<|sV (r0)<|sN<|gU Z<|sV (r0)<|sN<|qS<|bE h fun i b h=>CI (CL (WL.mL b (fun s=>gI 0 124 2 [(0,rI s.1),(3,rI s.2)] []) (fun o=>gX 0 0 124 5 [(3,rI o)] []) Z ?_ ?_))
 ·rintro⟨s1,s2⟩ f c j a h
  refine qS<|gS Z a<|sM Z<|sF h ?_ ?_<;>intro h
  ·refine sN<|cT<|qK<|qB<|gU Z<|sM Z<|sV (rI (mT .i64 s1 (1:Int)))<|sA Z<|sN<|CO Z Z<|sM Z<|sV (rI (rW (s2+(1:Int))))<|sA Z<|sN ?_
   cases oI h
   exact⟨rfl,rfl⟩
  refine sN<|cF<|qX ?_
  cases oI h
  exact⟨nofun,rfl,rfl⟩
 intro e f c he g
 obtain⟨rfl,a⟩:=g
 refine qE<|gS Z a<|sM Z<|sA Z<|sN<|qR ?_
 exact oI h▸qD
theorem jb{a0:Int}{a1:Int}{r:Int}(h:ek a0 a1=some r):EvP prog aF ext 125 [rI a0,rI a1] [] (rI r,[]):=by
 refine Ev.body Z Tryz.func125 Z Zk<|gU Z<|sV (r0)<|sN<|gU Z<|sV (r0)<|sN<|qS<|gU Z<|sV (r0)<|sN<|bE h fun j b h=>CI (CL (WL.mL b (fun s=>gI 0 125 3 [(0,rI a0),(1,rI s.1),(5,rI s.2.1),(6,rI s.2.2)] []) (fun o=>gX 0 0 125 10 [(0,rI a0),(5,rI o)] []) Z ?_ ?_))
 ·rintro⟨s1,s2,c⟩ g f k a h
  refine qS<|gS Z a<|sM Z<|sF h ?_ ?_<;>intro h
  ·refine sN<|cT<|qK<|qS<|qB<|gU Z<|mM Z<|sV (rI (rW (s1*s1)))<|sV (rI (mT .i64 (rW (s1*s1)) (30:Int)))<|sA Z<|sN<|gU Z<|sM Z<|sV (rI (rW (s2*(2:Int)))) ?_
   refine sA Z<|sN<|gU Z<|sM Z<|sF h ?_ ?_<;>intro h
   ·refine sN<|cT<|gU Z<|sM Z<|sV (rI (mT .i64 (mT .i64 (rW (s1*s1)) (30:Int)) (1:Int)))<|sA Z<|sN<|CO Z Z<|sM Z<|sV (rI (rW ((rW (s2*(2:Int)))+(1:Int))))<|sA Z<|sN<|CO Z Z<|sM Z<|sV (rI (rW (c+(1:Int)))) ?_
    refine sA Z<|sN ?_
    cases oI h
    exact⟨rfl,rfl⟩
   refine sN<|cF<|qK<|CO Z Z<|sM Z<|sV (rI (rW (c+(1:Int))))<|sA Z<|sN ?_
   cases oI h
   exact⟨rfl,rfl⟩
  refine sN<|cF<|qX ?_
  cases oI h
  exact⟨nofun,rfl,rfl⟩
 intro e g f he i
 obtain⟨rfl,a⟩:=i
 refine qE<|gS Z a<|sM Z<|sV (rI (rW ((256:Int)*a0)))<|sM Z<|sV (rI (rW ((rW ((256:Int)*a0))+j)))<|sA Z<|sN<|qR ?_
 exact oI h▸qD
theorem mA{a0:Int}{r:Int×Int}(h:iO a0=some r):EvP prog aF ext 72 [rI a0] [] (.tup [rI r.1,rI r.2],[]):=by
 refine Ev.body Z Tryz.func72 Z Zk<|gU Z<|sV (r0)<|sV (r0)<|sN<|qS<|gU Z<|sM Z<|sF h ?_ ?_<;>intro h
 ·refine sN<|cT<|gU Z<|sV (r0)<|sV (rI 2)<|sN<|qR ?_
  exact oI h▸qD
 refine sN<|cF<|qK<|gU Z<|sM Z<|bE h fun a b h=>cD (kz b)<|sV (rI (rW (a-(1:Int))))<|sA Z<|sN<|qS<|gU Z<|sM Z<|sF h ?_ ?_<;>intro h
 ·refine sN<|cT<|gU Z<|mM Z<|sM Z<|sV (rI (rW ((30:Int)-(rW (a-(1:Int))))))<|sV (.d (.int .u64 (Bw .u64 (rW ((30:Int)-(rW (a-(1:Int))))))))<|bE h fun i c h=>WO.shlG c Z Z Z Z Z<|bE h fun j e h=>cD (jb e)<|sA Z<|sV (r0)<|sN ?_
  refine qR ?_
  exact oI h▸qD
 refine sN<|cF<|qK<|gU Z<|mM Z<|sM Z<|sV (rI (rW ((rW (a-(1:Int)))-(30:Int))))<|sV (.d (.int .u64 (Bw .u64 (rW ((rW (a-(1:Int)))-(30:Int))))))<|bE h fun k f h=>WO.shrG f Z Z Z Z Z<|bE h fun l g h=>cD (jb g)<|sA Z<|sV (r0) ?_
 refine sN<|qR ?_
 exact oI h▸qD
theorem ky{a0:(List Int)}{r:Int×Int}(h:gC a0=some r):EvP prog aF ext 73 [rL a0] [] (.tup [rI r.1,rI r.2],[]):=by
 refine Ev.body Z Tryz.func73 Z Zk<|gU Z<|sV (r0)<|sV (r0)<|sN<|qS<|gU Z<|sM Z<|bE h fun F h1 h=>cD (cO h1)<|sF h ?_ ?_<;>intro h
 ·refine sN<|cT<|gU Z<|sV (r0)<|sV (rI 1)<|sN<|qR ?_
  exact oI h▸qD
 refine sN<|cF<|qK<|qS<|gU Z<|sM Z<|sE (rI (a0.length:Int)) (mE _ _)<|sF h ?_ ?_<;>intro h
 ·refine sN<|cT<|gU Z<|sV (r0)<|sV (rI 2)<|sN<|qR ?_
  exact oI h▸qD
 refine sN<|cF<|qK<|qS<|gU Z<|sM Z<|sE (rI (a0.length:Int)) (mE _ _)<|sF h ?_ ?_<;>intro h
 ·refine sN<|cT<|gU Z<|sV (r0)<|sN<|qS<|gU Z<|sM Z<|sE (rI (a0.length:Int)) (mE _ _)<|sV (rI (rW ((a0.length:Int)-(1:Int))))<|sA Z<|sN<|bE h fun z c h=>CI (CL (WL.mL c (fun s=>gI 0 73 8 [(0,rL a0),(4,rI s.1),(5,rI s.2)] []) (fun o=>gX 0 0 73 11 [(4,rI o)] []) Z ?_ ?_))
  ·rintro⟨u,B⟩ x v E p h
   refine qS<|gS Z p<|sM Z<|sF h ?_ ?_<;>intro h
   ·refine sN<|cT<|qK<|qS<|qB<|CO Z Z<|sM Z<|sV (rI (pI .i64 u (30:Int)))<|mM Z<|bE h fun q g h=>eG g Z<|sC Z<|sV (rI (orI .i64 (pI .i64 u (30:Int)) q))<|sA Z ?_
    refine sN<|CO Z Z<|sM Z<|sV (rI (rW (B-(1:Int))))<|sA Z<|sN ?_
    cases oI h
    exact⟨rfl,rfl⟩
   refine sN<|cF<|qX ?_
   cases oI h
   exact⟨nofun,rfl,rfl⟩
  intro e x v he y
  obtain⟨rfl,p⟩:=y
  refine qE<|gS Z p<|sM Z<|bE h fun a i h=>cR (.tup [rI a.1,rI a.2]) [] (mA i)<|sV (rI a.1)<|sV (rI a.2)<|sA Z<|sA Z<|sN<|qR ?_
  exact oI h▸qD
 refine sN<|cF<|qK<|CJ Z Z<|mM Z<|sE (rI (a0.length:Int)) (mE _ _)<|sV (rI (rW ((a0.length:Int)-(1:Int))))<|bE h fun f j h=>eG j Z<|sC Z<|sV (rI (pI .i64 f (30:Int)))<|mM Z<|sE (rI (a0.length:Int)) (mE _ _) ?_
 refine sV (rI (rW ((a0.length:Int)-(2:Int))))<|bE h fun t k h=>eG k Z<|sC Z<|sV (rI (orI .i64 (pI .i64 f (30:Int)) t))<|sA Z ?_
 refine sN<|sO<|gU Z<|sM Z<|bE h fun b l h=>cD (kz l)<|sA Z<|sN<|gU Z<|sM Z<|sE (rI (a0.length:Int)) (mE _ _)<|sV (rI (rW ((a0.length:Int)-(2:Int))))<|sV (rI (rW ((30:Int)*(rW ((a0.length:Int)-(2:Int))))))<|sM Z<|sV (rI (rW ((rW ((30:Int)*(rW ((a0.length:Int)-(2:Int)))))+b)))<|sV (rI (rW ((rW ((rW ((30:Int)*(rW ((a0.length:Int)-(2:Int)))))+b))-(1:Int)))) ?_
 refine mM Z<|sV (rI (rW (b-(31:Int))))<|sV (.d (.int .u64 (Bw .u64 (rW (b-(31:Int))))))<|bE h fun C m h=>WO.shrG m Z Z Z Z Z<|bE h fun D n h=>cD (jb n)<|sA Z<|sV (r0)<|sN<|qR ?_
 exact oI h▸qD
theorem lR{a0:Int}{r:Int}(h:jc a0=some r):EvP prog aF ext 75 [rI a0] [] (rI r,[]):=by
 refine Ev.body Z Tryz.func75 Z Zk<|gU Z<|sV (r0)<|sN<|gU Z<|mM Z<|sV (rI (andI .i64 a0 (1:Int)))<|sV (rI (rW (a0-(andI .i64 a0 (1:Int)))))<|bE h fun a h1 h=>WO.pU h1 Z Z Z Z Z Z<|sA Z<|sN<|qR ?_
 exact oI h▸qD
theorem lc{a0:Int}{r:Int}(h:ij a0=some r):EvP prog aF ext 74 [rI a0] [] (rI r,[]):=by
 refine Ev.body Z Tryz.func74 Z Zk<|gU Z<|sV (r0)<|sN<|qS<|gU Z<|sM Z<|sF h ?_ ?_<;>intro h
 ·refine sM Z<|sK<|sK<|sT<|sN<|cT<|gU Z<|sV (r0)<|sN<|qR ?_
  exact oI h▸qD
 refine mM Z<|sV (rB (decide (a0>(16777216:Int))))<|sF h ?_ ?_<;>intro h
 ·refine sN<|cT<|gU Z<|sV (r0)<|sN<|qR ?_
  exact oI h▸qD
 refine sN<|cF<|qK<|gU Z<|sM Z<|sV (rI (rW (a0*(30103:Int))))<|sA Z<|sN<|gU Z<|sM Z<|bE h fun a b h=>WO.pU b Z Z Z Z Z Z<|sA Z<|sN<|qS ?_
 refine gU Z<|sM Z<|sV (rI (rW (a*(256000:Int))))<|sM Z<|sF h ?_ ?_<;>intro h
 ·refine sN<|cT<|CO Z Z<|sM Z<|sV (rI (rW (a-(1:Int))))<|sA Z<|sN<|gU Z<|sM Z<|sA Z<|sN<|qR ?_
  exact oI h▸qD
 refine sN<|cF<|qK<|gU Z<|sM Z<|sA Z<|sN<|qR ?_
 exact oI h▸qD
theorem ref31_Ceil_ev{a0:Int}{r:Int}(h:kg a0=some r):EvP prog aF ext 76 [rI a0] [] (rI r,[]):=by
 refine Ev.body Z Tryz.func76 Z Zk<|gU Z<|sV (r0)<|sN<|gU Z<|sM Z<|sV (rI (rW (0-a0)))<|bE h fun a h1 h=>cD (lc h1)<|sV (rI (rW (0-a)))<|sA Z<|sN<|qR ?_
 exact oI h▸qD
theorem ref32_Station_ev{a0:aM}{a1:aA}{a2:Int}{a3:Int}{a4:Int}{r:av×Int}(h:fI a0 a1 a2 a3 a4=some r):EvP prog aF ext 39 [.d (aM.pd a0),.d (aA.pd a1),rI a2,rI a3,rI a4] [] (.tup [.d (av.pd r.1),rI r.2],[]):=by
 refine Ev.body Z Tryz.func39 Z Zk<|gU Z<|sB (.ptr 80 0) 80 (.var (aM.rc a0))<|sB (.ptr 96 0) 96 (.var [rM au.pd a1.aD])<|sB (.ptr 160 0) 160 (.var [r0,r0])<|sV (r0)<|sN<|qS<|gU Z<|sV (.d (aM.pd a0))<|bE h fun v h1 h=>cD (iB h1)<|sF h ?_ ?_<;>intro h
 ·refine sN<|cT<|gU Z<|sV (.d (av.pd (av.mk 0 0)))<|sS 160 (.var [r0,r0])<|sV (rI 27)<|sN<|qR ?_
  exact oI h▸qD
 refine sN<|cF<|qK<|qS<|gU Z<|sM Z<|sF h ?_ ?_<;>intro h
 ·refine sM Z<|sK<|sK<|sT<|sN<|cT<|gU Z<|sV (.d (av.pd (av.mk 0 0)))<|sS 160 (.var [r0,r0])<|sV (rI 2)<|sN<|qR ?_
  exact oI h▸qD
 refine mM Z<|sV (rB (decide (a2>(1073741823:Int))))<|sF h ?_ ?_<;>intro h
 ·refine sN<|cT<|gU Z<|sV (.d (av.pd (av.mk 0 0)))<|sS 160 (.var [r0,r0])<|sV (rI 2)<|sN<|qR ?_
  exact oI h▸qD
 refine sN<|cF<|qK<|gU Z<|sV (.d (aA.pd a1))<|sV (.ptr 80 3)<|sL Z<|sV (.ptr 80 4)<|sL Z<|bE h fun i s h=>cR (.tup [.d (ar.pd i.1),rI i.2]) [] (ref18_Gain_ev s)<|sM Z<|sV (.d (ar.pd i.1))<|sV (rI i.2)<|sB (.ptr 192 0) 192 (.var [.cI,.cI]) ?_
 refine sS 192 (.var (ar.rc i.1))<|sA Z<|sN<|qS<|gU Z<|sM Z<|sF h ?_ ?_<;>intro h
 ·refine sN<|cT<|gU Z<|sV (.d (av.pd (av.mk 0 0)))<|sM Z<|sS 160 (.var [r0,r0])<|sA Z<|sN<|qR ?_
  exact oI h▸qD
 refine sN<|cF<|qK<|qS<|gU Z<|sV (.ptr 192 0)<|sL Z<|sE (rI (i.1.aQ.length:Int)) (mE _ _)<|sF h ?_ ?_<;>intro h
 ·refine sN<|cT<|gU Z<|sV (.d (av.pd (av.mk 0 0)))<|sS 160 (.var [r0,r0])<|sV (rI 24)<|sN<|qR ?_
  exact oI h▸qD
 refine sN<|cF<|qK<|gU Z<|sV (.ptr 80 0)<|sV (.d (ap.pd a0.aV))<|mM Z<|bE h fun e t h=>cR (.tup [rI e.1,rI e.2.1,rI e.2.2]) [] (jN t)<|sM Z<|sV (rI e.1)<|sV (rI e.2.1)<|sV (rI e.2.2)<|sA Z ?_
 refine sA Z<|sA Z<|sN<|qS<|gU Z<|sM Z<|sF h ?_ ?_<;>intro h
 ·refine sN<|cT<|gU Z<|sV (.d (av.pd (av.mk 0 0)))<|sM Z<|sS 160 (.var [r0,r0])<|sA Z<|sN<|qR ?_
  exact oI h▸qD
 refine sN<|cF<|qK<|gU Z<|sM Z<|bE h fun a j h=>cR (.tup [rI a.1,rI a.2]) [] (mA j)<|sM Z<|sV (rI a.1)<|sV (rI a.2)<|sA Z<|sA Z<|sN<|gU Z<|sV (.ptr 192 0) ?_
 refine sL Z<|bE h fun c k h=>cR (.tup [rI c.1,rI c.2]) [] (ky k)<|sM Z<|sV (rI c.1)<|sV (rI c.2)<|sA Z<|sA Z<|sN<|gU Z<|sV (.ptr 192 1)<|sL Z<|bE h fun b l h=>cR (.tup [rI b.1,rI b.2]) [] (ky l)<|sM Z ?_
 refine sV (rI b.1)<|sV (rI b.2)<|sA Z<|sA Z<|sN<|gU Z<|sM Z<|sV (rI (rW ((2:Int)*a.1)))<|sM Z<|sV (rI (rW ((rW ((2:Int)*a.1))+b.1)))<|sM Z<|sV (rI (rW ((rW ((rW ((2:Int)*a.1))+b.1))-c.1)))<|sV (rI (rW ((rW ((rW ((rW ((2:Int)*a.1))+b.1))-c.1))-(2:Int))))<|bE h fun u m h=>cD (lR m) ?_
 refine bE h fun f n h=>cD (lc n)<|sM Z<|sV (rI (rW (f+e.1)))<|sM Z<|sV (rI (rW ((2:Int)*a.1)))<|sM Z<|sV (rI (rW ((rW ((2:Int)*a.1))+b.1)))<|sM Z<|sV (rI (rW ((rW ((rW ((2:Int)*a.1))+b.1))-c.1)))<|sV (rI (rW ((rW ((rW ((rW ((2:Int)*a.1))+b.1))-c.1))+(6:Int))))<|sV (rI (rW (0-(rW ((rW ((rW ((rW ((2:Int)*a.1))+b.1))-c.1))+(6:Int))))))<|bE h fun q o h=>cD (lR o)<|sV (rI (rW (0-q))) ?_
 refine bE h fun g p h=>cD (ref31_Ceil_ev p)<|sM Z<|sV (rI (rW (g+e.2.1)))<|sV (.d (av.pd (av.mk (rW (f+e.1)) (rW (g+e.2.1)))))<|sS 160 (.var [rI (rW (f+e.1)),rI (rW (g+e.2.1))])<|sV (r0)<|sN<|qR ?_
 exact oI h▸qD
theorem l7{a0:ag}{a1:ah}{a2:(List ai)}{a3:aq}{r:(List av)×Int}(h:fS a0 a1 a2 a3=some r):EvP prog aF ext 14 [.d (ag.pd a0),.d (ah.pd a1),rM ai.pd a2,.d (aq.pd a3)] [] (.tup [rM av.pd r.1,rI r.2],[]):=by
 refine Ev.body Z Tryz.func14 Z Zk<|gU Z<|sB (.ptr 64 0) 64 (.var (ag.rc a0))<|sB (.ptr 80 0) 80 (.var [rM aj.pd a1.aw])<|sB (.ptr 112 0) 112 (.var (aq.rc a3))<|sV .cI<|sV (r0)<|sN<|qS<|gU Z<|sV (.d (ag.pd a0))<|bE h fun H h1 h=>cD (jo h1)<|sF h ?_ ?_<;>intro h
 ·refine sN<|cT<|gU Z<|sV .cI<|sV (rI 27)<|sN<|qR ?_
  cases oI h
  exact qG
 refine sN<|cF<|qK<|qS<|gU Z<|sV (.d (ah.pd a1))<|bE h fun I v h=>cD (kX v)<|sF h ?_ ?_<;>intro h
 ·refine sN<|cT<|gU Z<|sV .cI<|sV (rI 1)<|sN<|qR ?_
  cases oI h
  exact qG
 refine sN<|cF<|qK<|qS<|gU Z<|sV (.d (aq.pd a3))<|bE h fun J x h=>cD (cW x)<|sF h ?_ ?_<;>intro h
 ·refine sN<|cT<|gU Z<|sV .cI<|sV (rI 20)<|sN<|qR ?_
  cases oI h
  exact qG
 refine sN<|cF<|qK<|gU Z<|sV .cI<|sN<|qS<|gU Z<|sV (.d (ag.pd a0))<|sV (.d (ah.pd a1))<|sM Z<|bE h fun p y h=>cD (ref33_Picks_ev y)<|sE (rI (p.length:Int)) (mE _ _)<|sV (r0) ?_
 refine sN<|bE h fun B f h=>CI (CL (WL.mL f (fun s=>gI 0 14 9 [(4,.ptr 64 0),(5,.ptr 80 0),(7,.ptr 112 0),(10,.ref 1072 0),(29,rM ai.pd p),(30,rI (p.length:Int)),(31,rI s.1)] [(64,.var (ag.rc a0)),(80,.var [rM aj.pd a1.aw]),(112,.var (aq.rc a3)),(1072,.arr 0 58 (s.2.map av.pd))]) (fun o=>gX 0 0 14 16 [(10,.ref 1072 0)] [(1072,.arr 0 58 (o.map av.pd))]) Z ?_ ?_))
 ·rintro⟨q,G⟩ u t C n h
  refine gS Z n<|sF h ?_ ?_<;>intro h
  ·refine sN<|qS<|cT<|qK<|qS<|qB<|gU Z<|bE h fun c g h=>eG g Z<|sV (.d (ai.pd c))<|sB (.ptr 192 0) 192 (.var [rS [],rS [],rS [],rS [],r0,r0,r0,r0,r0])<|sH 192 (.var (ai.rc c))<|sN<|gU Z<|sV (.d (ah.pd a1)) ?_
   refine sV (.ptr 192 0)<|sV (.d (ak.pd c.az))<|sV (.ptr 192 4)<|sL Z<|bE h fun a i h=>cR (.tup [.d (al.pd a.1),rI a.2]) [] (ref19_At_ev i)<|sM Z<|sV (.d (al.pd a.1))<|sV (rI a.2)<|sB (.ptr 208 0) 208 (.var zZ0)<|sH 208 (.var (al.rc a.1))<|sA Z<|sN<|CJ Z Z<|sV (.ptr 64 14) ?_
   refine sV (.d (aM.pd a0.bi))<|sV (.ptr 208 7)<|sV (.d (.agg [.lst (a.1.ba.aD.map au.pd)]))<|sV (.ptr 192 7)<|sL Z<|sV (.d (aq.pd a3))<|sV (.ptr 208 4)<|sV (.d (ac.pd a.1.aI))<|bE h fun D j h=>cD (lQ j)<|sV (.d (aq.pd a3))<|sV (.ptr 208 4)<|sV (.d (ac.pd a.1.aI))<|bE h fun E k h=>cD (mw k) ?_
   refine bE h fun b l h=>cR (.tup [.d (av.pd b.1),rI b.2]) [] (ref32_Station_ev l)<|sM Z<|sV (.d (av.pd b.1))<|sV (rI b.2)<|sB (.ptr 240 0) 240 (.var [r0,r0])<|sS 240 (.var (av.rc b.1))<|sA Z ?_
   refine sN<|sO<|gU Z<|sM Z<|sF h ?_ ?_<;>intro h
   ·refine sN<|cT<|CO Z Z<|sM Z<|sV (.d (av.pd b.1))<|sV (.d (.lst ([b.1].map av.pd)))<|bE h fun F m h=>aR m (fun _=>Z) Z<|sA Z<|sN<|CO Z Z<|sV (rI (rW (q+(1:Int))))<|sM Z<|sN ?_
    cases oI h
    exact⟨rfl,rfl⟩
   refine sN<|cF<|qK<|CO Z Z<|sV (rI (rW (q+(1:Int))))<|sM Z<|sN ?_
   cases oI h
   exact⟨rfl,rfl⟩
  refine sN<|qS<|cF<|qX ?_
  cases oI h
  exact⟨nofun,rfl,rfl⟩
 intro e u t he z
 obtain⟨rfl,n⟩:=z
 refine qE<|gS Z n<|sM Z<|sA Z<|sV (r0)<|sN<|qR ?_
 exact oI h▸qD
theorem iT{a0:ag}{a1:ah}{a2:(List ai)}{a3:aq}{a4:(List Int)}{r:Bool}(h:cU a0 a1 a2 a3 a4=some r):EvP prog aF ext 3 [.d (ag.pd a0),.d (ah.pd a1),rM ai.pd a2,.d (aq.pd a3),rL a4] [] (rB r,[]):=by
 refine Ev.body Z Tryz.func3 Z Zk<|gU Z<|sB (.ptr 80 0) 80 (.var (ag.rc a0))<|sB (.ptr 96 0) 96 (.var [rM aj.pd a1.aw])<|sB (.ptr 128 0) 128 (.var (aq.rc a3))<|sU<|sN<|qS<|gU Z<|sV (.d (ag.pd a0))<|bE h fun x1 h1 h=>cD (kE h1)<|sF h ?_ ?_<;>intro h
 ·refine sM Z<|k3<|sT<|sM Z<|k3<|sT<|sN<|cT<|gU Z<|bE h fun x3 h3 h=>cD (mh h3) ?_
  refine sA Z<|sN<|qR ?_
  cases oI h
  exact qG
 refine sM Z<|sV (.d (ah.pd a1))<|bE h fun x4 h4 h=>cD (jV h4)<|sV (rB (!x4))<|sF h ?_ ?_<;>intro h
 ·refine sM Z<|k3<|sT<|sN<|cT<|gU Z<|bE h fun x6 h6 h=>cD (mh h6)<|sA Z<|sN<|qR ?_
  cases oI h
  exact qG
 refine mM Z<|sE (rI (a2.length:Int)) (mE _ _)<|sV (rB (decide ((a2.length:Int)>(12:Int))))<|sF h ?_ ?_<;>intro h
 ·refine sN<|cT<|gU Z<|bE h fun x8 h8 h=>cD (mh h8)<|sA Z<|sN<|qR ?_
  cases oI h
  exact qG
 refine sN<|cF<|qK<|gU Z<|sM Z<|bE h fun x9 h9 h=>cR (.ptr 688 0) [(688,.var (aa.rc x9))] (keep_New_ev h9)<|sA Z<|sN<|gU Z<|sM Z<|bE h fun a H h=>cR (.d (ag.pd a.1)) [(688,.var (aa.rc a.2))] (Src_Settings_ev H)<|sM Z<|bE h fun b I h=>?_
 refine cR (.d (ah.pd b.1)) [(688,.var (aa.rc b.2))] (Src_Sites_ev I)<|sB (.ptr 192 0) 192 (.var [r0,r0,r0,r0,r0,r0,r0,.cI,.cI,r0,r0,r0,r0,r0,r0,.cI,.cI,r0,r0,r0])<|sB (.ptr 208 0) 208 (.var [.cI])<|sH 192 (.var (ag.rc a.1))<|sS 208 (.var [rM aj.pd b.1.aw])<|sN<|gU Z<|sM Z<|sV (.d (ag.pd a.1))<|sV (.d (.agg [.lst (b.1.aw.map aj.pd)]))<|bE h fun c J h=>cR (rM ai.pd c.1) [(688,.var (aa.rc c.2))] (Src_Picks_ev J)<|sA Z<|sN<|qS ?_
 refine CJ Z Z<|sV (.d (ag.pd a.1))<|sV (.d (ag.pd a0))<|sM Z<|sV (.d (ag.pd a.1))<|bE h fun f K h=>cR (.d (ag.pd f.1)) [(688,.var (aa.rc f.2))] (lz K)<|sG (.d (.lst ([a.1,a0,f.1].map ag.pd)))<|sV (rI 3)<|sV (r0) ?_
 refine sN<|sO<|bE h fun b1 G h=>CI (CL (WL.mL G (fun s=>gI 0 3 7 [(2,rM ai.pd a2),(6,.ptr 96 0),(8,.ptr 128 0),(11,.ptr 688 0),(12,.ptr 192 0),(13,.ptr 208 0),(14,rM ai.pd c.1),(57,.d (.lst ([a.1,a0,f.1].map ag.pd))),(58,rI 3),(59,rI s.1)] [(96,.var [rM aj.pd a1.aw]),(128,.var (aq.rc a3)),(192,.var (ag.rc a.1)),(208,.var [rM aj.pd b.1.aw]),(688,.var [rL s.2.1,rI s.2.2])]) (fun o=>match o with| .inl y=>gX 0 0 3 32 [] []| .inr r=>gF 3 Tryz.f3 0 (rB r,[])) Z ?_ ?_))
 ·rintro⟨d4,d5,e0⟩ u t c4 j h
  refine gS Z j<|sF h ?_ ?_<;>intro h
  ·refine sN<|qS<|cT<|qK<|qS<|qB<|gU Z<|bE h fun g L h=>eG L Z<|sV (.d (ag.pd g))<|sB (.ptr 256 0) 256 (.var [r0,r0,r0,r0,r0,r0,r0,.cI,.cI,r0,r0,r0,r0,r0,r0,.cI,.cI,r0,r0,r0])<|sH 256 (.var (ag.rc g))<|sN<|gU Z<|sV (.d (.agg [.lst (b.1.aw.map aj.pd)])) ?_
   refine sV (.d (ah.pd a1))<|sV (.d (.lst ([b.1,a1].map ah.pd)))<|sV (rI 2)<|sV (r0)<|sN<|bE h fun b0 F h=>CI (CL (WL.mL F (fun s=>gI 0 3 10 [(2,rM ai.pd a2),(6,.ptr 96 0),(8,.ptr 128 0),(11,.ptr 688 0),(12,.ptr 192 0),(13,.ptr 208 0),(14,rM ai.pd c.1),(16,.ptr 256 0),(57,.d (.lst ([a.1,a0,f.1].map ag.pd))),(58,rI 3),(59,rI s.1),(65,.d (.lst ([b.1,a1].map ah.pd))),(66,rI 2),(67,rI s.2.1)] [(96,.var [rM aj.pd a1.aw]),(128,.var (aq.rc a3)),(192,.var (ag.rc a.1)),(208,.var [rM aj.pd b.1.aw]),(256,.var (ag.rc g)),(688,.var [rL s.2.2.1,rI s.2.2.2])]) (fun o=>match o with| .inl y=>gX 2 0 3 31 [(2,rM ai.pd a2),(6,.ptr 96 0),(8,.ptr 128 0),(11,.ptr 688 0),(12,.ptr 192 0),(13,.ptr 208 0),(14,rM ai.pd c.1),(57,.d (.lst ([a.1,a0,f.1].map ag.pd))),(58,rI 3),(59,rI y.1)] [(96,.var [rM aj.pd a1.aw]),(128,.var (aq.rc a3)),(192,.var (ag.rc a.1)),(208,.var [rM aj.pd b.1.aw]),(688,.var [rL y.2.1,rI y.2.2])]| .inr r=>gF 3 Tryz.f3 0 (rB r,[])) Z ?_ ?_))
   ·rintro⟨e1,e2,e3,e4⟩ u t c5 j h
    refine gS Z j<|sF h ?_ ?_<;>intro h
    ·refine sN<|qS<|cT<|qK<|qS<|qB<|gU Z<|bE h fun k N h=>eG N Z<|sV (.d (ah.pd k))<|sB (.ptr 288 0) 288 (.var [.cI])<|sS 288 (.var [rM aj.pd k.aw])<|sN<|gU Z<|sM Z ?_
     refine sM Z<|sV (.d (.lst ([c.1,a2].map (fun l=>PD.lst (l.map ai.pd)))))<|sV (rI 2)<|sV (r0)<|sN<|bE h fun a9 E h=>CI (CL (WL.mL E (fun s=>gI 0 3 13 [(2,rM ai.pd a2),(6,.ptr 96 0),(8,.ptr 128 0),(11,.ptr 688 0),(12,.ptr 192 0),(13,.ptr 208 0),(14,rM ai.pd c.1),(16,.ptr 256 0),(18,.ptr 288 0),(57,.d (.lst ([a.1,a0,f.1].map ag.pd))),(58,rI 3),(59,rI s.1),(65,.d (.lst ([b.1,a1].map ah.pd))),(66,rI 2),(67,rI s.2.1),(73,.d (.lst ([c.1,a2].map (fun l=>PD.lst (l.map ai.pd))))),(74,rI 2),(75,rI s.2.2.1)] [(96,.var [rM aj.pd a1.aw]),(128,.var (aq.rc a3)),(192,.var (ag.rc a.1)),(208,.var [rM aj.pd b.1.aw]),(256,.var (ag.rc g)),(288,.var [rM aj.pd k.aw]),(688,.var [rL s.2.2.2.1,rI s.2.2.2.2])]) (fun o=>match o with| .inl y=>gX 4 0 3 30 [(2,rM ai.pd a2),(6,.ptr 96 0),(8,.ptr 128 0),(11,.ptr 688 0),(12,.ptr 192 0),(13,.ptr 208 0),(14,rM ai.pd c.1),(16,.ptr 256 0),(57,.d (.lst ([a.1,a0,f.1].map ag.pd))),(58,rI 3),(59,rI y.1),(65,.d (.lst ([b.1,a1].map ah.pd))),(66,rI 2),(67,rI y.2.1)] [(96,.var [rM aj.pd a1.aw]),(128,.var (aq.rc a3)),(192,.var (ag.rc a.1)),(208,.var [rM aj.pd b.1.aw]),(256,.var (ag.rc g)),(688,.var [rL y.2.2.1,rI y.2.2.2])]| .inr r=>gF 3 Tryz.f3 0 (rB r,[])) Z ?_ ?_))
     ·rintro⟨e5,e6,f0,f1,f2⟩ u t c6 j h
      refine gS Z j<|sF h ?_ ?_<;>intro h
      ·refine sN<|qS<|cT<|qK<|qS<|qB<|gU Z<|bE h fun x O h=>eG O Z<|sC Z<|sA Z<|sN<|CJ Z Z<|sV (.d (aq.pd a3))<|sV (.ptr 192 0) ?_
       refine sV (.ptr 192 0)<|sV (.d (aq.pd a.1.ae.aU))<|sM Z<|sV (.ptr 192 0)<|sV (.ptr 192 0)<|sV (.d (aq.pd a.1.ae.aU))<|bE h fun i Q h=>cR (.d (aq.pd i.1)) [(688,.var (aa.rc i.2))] (Src_Bent_ev Q)<|sG (.d (.lst ([a3,a.1.ae.aU,i.1].map aq.pd)))<|sV (rI 3)<|sV (r0) ?_
       refine sN<|sO<|bE h fun a8 D h=>CI (CL (WL.mL D (fun s=>gI 0 3 16 [(2,rM ai.pd a2),(6,.ptr 96 0),(8,.ptr 128 0),(11,.ptr 688 0),(12,.ptr 192 0),(13,.ptr 208 0),(14,rM ai.pd c.1),(16,.ptr 256 0),(18,.ptr 288 0),(20,rM ai.pd x),(57,.d (.lst ([a.1,a0,f.1].map ag.pd))),(58,rI 3),(59,rI s.1),(65,.d (.lst ([b.1,a1].map ah.pd))),(66,rI 2),(67,rI s.2.1),(73,.d (.lst ([c.1,a2].map (fun l=>PD.lst (l.map ai.pd))))),(74,rI 2),(75,rI s.2.2.1),(88,.d (.lst ([a3,a.1.ae.aU,i.1].map aq.pd))),(89,rI 3),(90,rI s.2.2.2)] [(96,.var [rM aj.pd a1.aw]),(128,.var (aq.rc a3)),(192,.var (ag.rc a.1)),(208,.var [rM aj.pd b.1.aw]),(256,.var (ag.rc g)),(288,.var [rM aj.pd k.aw]),(688,.var (aa.rc i.2))]) (fun o=>match o with| .inl y=>gX 6 0 3 29 [(2,rM ai.pd a2),(6,.ptr 96 0),(8,.ptr 128 0),(11,.ptr 688 0),(12,.ptr 192 0),(13,.ptr 208 0),(14,rM ai.pd c.1),(16,.ptr 256 0),(18,.ptr 288 0),(57,.d (.lst ([a.1,a0,f.1].map ag.pd))),(58,rI 3),(59,rI y.1),(65,.d (.lst ([b.1,a1].map ah.pd))),(66,rI 2),(67,rI y.2.1),(73,.d (.lst ([c.1,a2].map (fun l=>PD.lst (l.map ai.pd))))),(74,rI 2),(75,rI y.2.2)] [(96,.var [rM aj.pd a1.aw]),(128,.var (aq.rc a3)),(192,.var (ag.rc a.1)),(208,.var [rM aj.pd b.1.aw]),(256,.var (ag.rc g)),(288,.var [rM aj.pd k.aw]),(688,.var (aa.rc i.2))]| .inr r=>gF 3 Tryz.f3 0 (rB r,[])) Z ?_ ?_))
       ·rintro⟨b2,b3,b4,b5⟩ u t c7 j h
        refine gS Z j<|sF h ?_ ?_<;>intro h
        ·refine sN<|qS<|cT<|qK<|qS<|qB<|gU Z<|bE h fun v T h=>eG T Z<|sV (.d (aq.pd v))<|sB (.ptr 352 0) 352 (.var zZ1)<|sH 352 (.var (aq.rc v))<|sN<|gU Z<|sV (.d (ag.pd g)) ?_
         refine sV (.d (ah.pd k))<|sM Z<|sV (.d (aq.pd v))<|bE h fun m W h=>cR (.tup [rM av.pd m.1,rI m.2]) [] (kG W)<|sM Z<|sV (rM av.pd m.1)<|sV (rI m.2)<|sA Z<|sA Z<|sN<|gU Z<|sV (.d (ag.pd g))<|sV (.d (ah.pd k))<|sM Z ?_
         refine sV (.d (aq.pd v))<|bE h fun n X h=>cR (.tup [rM av.pd n.1,rI n.2]) [] (l7 X)<|sM Z<|sV (rM av.pd n.1)<|sV (rI n.2)<|sA Z<|sA Z<|sN<|qS<|gU Z<|mM Z<|sF h ?_ ?_<;>intro h
         ·refine sM Z<|k3<|sK<|sK<|sT<|sN<|cT<|gU Z<|sU<|sN<|qR ?_
          cases oI h
          exact⟨nofun,rfl,rfl⟩
         refine mM Z<|sE (rI (m.1.length:Int)) (mE _ _)<|sM Z<|sE (rI (n.1.length:Int)) (mE _ _)<|sV (rB ((m.1.length:Int) != (n.1.length:Int)))<|sF h ?_ ?_<;>intro h
         ·refine sN<|cT<|gU Z<|sU<|sN<|qR ?_
          cases oI h
          exact⟨nofun,rfl,rfl⟩
         refine sN<|cF<|qK<|gU Z<|sM Z<|sE (rI (m.1.length:Int)) (mE _ _)<|sV (r0)<|sN<|bE h fun a7 C h=>CI (CL (WL.mL C (fun s=>gI 0 3 23 [(2,rM ai.pd a2),(6,.ptr 96 0),(8,.ptr 128 0),(11,.ptr 688 0),(12,.ptr 192 0),(13,.ptr 208 0),(14,rM ai.pd c.1),(16,.ptr 256 0),(18,.ptr 288 0),(20,rM ai.pd x),(23,rM av.pd m.1),(25,rM av.pd n.1),(57,.d (.lst ([a.1,a0,f.1].map ag.pd))),(58,rI 3),(59,rI b2),(65,.d (.lst ([b.1,a1].map ah.pd))),(66,rI 2),(67,rI b3),(73,.d (.lst ([c.1,a2].map (fun l=>PD.lst (l.map ai.pd))))),(74,rI 2),(75,rI b4),(88,.d (.lst ([a3,a.1.ae.aU,i.1].map aq.pd))),(89,rI 3),(90,rI b5),(121,rI (m.1.length:Int)),(122,rI s)] [(96,.var [rM aj.pd a1.aw]),(128,.var (aq.rc a3)),(192,.var (ag.rc a.1)),(208,.var [rM aj.pd b.1.aw]),(256,.var (ag.rc g)),(288,.var [rM aj.pd k.aw]),(688,.var (aa.rc i.2))]) (fun o=>match o with| .inl y=>gX 8 0 3 28 [(2,rM ai.pd a2),(6,.ptr 96 0),(8,.ptr 128 0),(11,.ptr 688 0),(12,.ptr 192 0),(13,.ptr 208 0),(14,rM ai.pd c.1),(16,.ptr 256 0),(18,.ptr 288 0),(20,rM ai.pd x),(57,.d (.lst ([a.1,a0,f.1].map ag.pd))),(58,rI 3),(59,rI y.1),(65,.d (.lst ([b.1,a1].map ah.pd))),(66,rI 2),(67,rI y.2.1),(73,.d (.lst ([c.1,a2].map (fun l=>PD.lst (l.map ai.pd))))),(74,rI 2),(75,rI y.2.2.1),(88,.d (.lst ([a3,a.1.ae.aU,i.1].map aq.pd))),(89,rI 3),(90,rI y.2.2.2)] [(96,.var [rM aj.pd a1.aw]),(128,.var (aq.rc a3)),(192,.var (ag.rc a.1)),(208,.var [rM aj.pd b.1.aw]),(256,.var (ag.rc g)),(288,.var [rM aj.pd k.aw]),(688,.var (aa.rc i.2))]| .inr r=>gF 3 Tryz.f3 0 (rB r,[])) Z ?_ ?_))
         ·rintro b6 u t c8 j h
          refine gS Z j<|sF h ?_ ?_<;>intro h
          ·refine sN<|qS<|cT<|qK<|qS<|qB<|gU Z<|sM Z<|sA Z<|sN<|CJ Z Z<|mM Z<|bE h fun z Y h=>eG Y Z ?_
           refine sV (.d (av.pd z))<|mM Z<|bE h fun B a5 h=>eG a5 Z<|sV (.d (av.pd B))<|na h (fun q h=>?_) (fun q h=>?_)
           ·refine WO.pO (eqN_58 z B) q Z Z Z Z Z ?_
            refine sN<|sO<|cT<|gU Z<|sU<|sN<|qR ?_
            cases oI h
            exact⟨nofun,rfl,rfl⟩
           refine WO.pO (eqN_58 z B) q Z Z Z Z Z ?_
           refine sN<|sO<|cF<|qK<|CO Z Z<|sV (rI (rW (b6+(1:Int))))<|sM Z<|sN ?_
           cases oI h
           exact⟨rfl,rfl⟩
          refine sN<|qS<|cF<|qX ?_
          cases oI h
          exact⟨nofun,rfl,rfl⟩
         intro e u t he p
         rcases a7 with c0|c9
         ·obtain⟨rfl,j⟩:=p
          refine qE<|CO j Z<|sV (rI (rW (c0.2.2.2+(1:Int))))<|sM Z<|sN ?_
          cases oI h
          exact⟨rfl,rfl⟩
         obtain⟨rfl,hf⟩:=p
         cases oI h
         exact⟨nofun,rfl,hf⟩
        refine sN<|qS<|cF<|qX ?_
        cases oI h
        exact⟨nofun,rfl,rfl⟩
       intro e u t he p
       rcases a8 with c1|d0
       ·obtain⟨rfl,j⟩:=p
        refine qE<|CO j Z<|sV (rI (rW (c1.2.2+(1:Int))))<|sM Z<|sN ?_
        cases oI h
        exact⟨rfl,rfl⟩
       obtain⟨rfl,hf⟩:=p
       cases oI h
       exact⟨nofun,rfl,hf⟩
      refine sN<|qS<|cF<|qX ?_
      cases oI h
      exact⟨nofun,rfl,rfl⟩
     intro e u t he p
     rcases a9 with c2|d1
     ·obtain⟨rfl,j⟩:=p
      refine qE<|CO j Z<|sV (rI (rW (c2.2.1+(1:Int))))<|sM Z<|sN ?_
      cases oI h
      exact⟨rfl,rfl⟩
     obtain⟨rfl,hf⟩:=p
     cases oI h
     exact⟨nofun,rfl,hf⟩
    refine sN<|qS<|cF<|qX ?_
    cases oI h
    exact⟨nofun,rfl,rfl⟩
   intro e u t he p
   rcases b0 with c3|d2
   ·obtain⟨rfl,j⟩:=p
    refine qE<|CO j Z<|sV (rI (rW (c3.1+(1:Int))))<|sM Z<|sN ?_
    cases oI h
    exact⟨rfl,rfl⟩
   obtain⟨rfl,hf⟩:=p
   cases oI h
   exact⟨nofun,rfl,hf⟩
  refine sN<|qS<|cF<|qX ?_
  cases oI h
  exact⟨nofun,rfl,rfl⟩
 intro e u t he p
 rcases b1 with f5|d3
 ·obtain⟨rfl,j⟩:=p
  refine qE<|gS Z j<|bE h fun f4 a6 h=>cD (mh a6)<|sA Z<|sN<|qR ?_
  exact oI h▸qD
 obtain⟨rfl,hf⟩:=p
 cases oI h
 exact hf
end Go.Dw.Es
