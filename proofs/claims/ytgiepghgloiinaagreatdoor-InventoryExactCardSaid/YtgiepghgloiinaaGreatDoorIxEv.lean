
import Derived.Test.YtgiepghgloiinaaGreatDoorIxEvA
set_option linter.unusedVariables false
set_option linter.unusedSimpArgs false
open Go.Dw.WC renaming block->CM, cP->CN, join->CS, lf->CO, lj->CP, loop->CQ, region->CR
open Nat renaming le_of_ble_eq_true->CT

set_option maxRecDepth 100000
set_option maxHeartbeats 4000000
namespace Go.Dw.Ix
open Go.Proofs Go.Proofs.Tryz Go.Dw
theorem ref20_add_ev{a0:(List ah)}{a1:ah}{r:(List ah)}(h:jh a0 a1=some r):EvP prog aL ext 61 [rM ah.pd a0,.d (ah.pd a1)] [] (rM ah.pd r,[]):=by
 refine Ev.body Z Tryz.func61 Z Zk<|gU Z<|sB (.ptr 48 0) 48 (.var (ah.rc a1))<|sV .jt<|sN<|gU Z<|sV (r0)<|sN<|qS<|bE h fun B l h=>CM (CQ (WL.jZ l (fun s=>gI 0 61 2 [(0,rM ah.pd a0),(3,.ptr 48 0),(5,rI s)] [(48,.var (ah.rc a1))]) (fun o=>gX 0 0 61 4 [(0,rM ah.pd a0),(3,.ptr 48 0),(5,rI o)] [(48,.var (ah.rc a1))]) Z ?_ ?_))
 ·rintro s1 p n C k h
  refine qS<|CN k Z<|mM Z<|sE (rI (a0.length:Int)) (ik _ _)<|sF h ?_ ?_<;>intro h
  ·refine mM Z<|sM Z<|bE h fun a q h=>eG q Z<|sV (.cptr [.int .i64 a.az,.int .i64 a.fTo,.int .i64 a.aM.aI,.int .i64 a.aM.aH,.int .i64 a.aq.fX,.int .i64 a.aq.fY,.int .i64 a.aq.fZ,.lst (a.aB.aA.map ak.pd)])<|sC Z<|sV (.ptr 48 0)<|sL Z<|sV (rB (decide (a.az<a1.az)))<|sF h ?_ ?_<;>intro h
   ·refine sN<|sO<|cT<|qK<|qB<|CR Z Z<|sM Z<|sV (rI (rW (s1+(1:Int))))<|sA Z<|sN ?_
    cases oI h
    exact⟨rfl,rfl⟩
   refine sN<|sO<|cF<|qX ?_
   cases oI h
   exact⟨nofun,rfl,rfl⟩
  refine sM Z<|k3<|k3<|sK<|sK<|sU ?_
  refine sN<|sO<|cF<|qX ?_
  cases oI h
  exact⟨nofun,rfl,rfl⟩
 intro e p n he u
 obtain⟨rfl,k⟩:=u
 refine qE<|gS Z k<|mM Z<|bE h fun D t h=>WO.cutL (sz:=8) (g:=ah.pd) t (fun _=>Z) Z Z Z Z Z Z Z Z Z Z Z<|bE h fun v b h=>WO.appN b (fun _=>Z) Z Z Z Z Z Z Z Z Z Z Z Z Z Z<|sA Z<|sN<|CN Z Z<|sM Z<|sV (.d (ah.pd a1))<|bE h fun m c h=>cD (e9 c) ?_
 refine sG (.d (.lst ([m].map ah.pd)))<|bE h fun x f h=>aR f (fun _=>Z) Z<|mM Z<|bE h fun y i h=>WO.cutL (sz:=8) (g:=ah.pd) i (fun _=>Z) Z Z Z Z Z Z Z Z Z Z Z<|bE h fun z j h=>aR j (fun _=>Z) Z<|sA Z ?_
 refine sN<|sO<|qR ?_
 exact oI h▸qD
theorem ref20_Apply_ev{a0:ai}{a1:aG}{r:ai×Int}(h:ia a0 a1=some r):EvP prog aL ext 31 [.d (ai.pd a0),.d (aG.pd a1)] [] (.tup [.d (ai.pd r.1),rI r.2],[]):=by
 refine Ev.body Z Tryz.func31 Z Zk<|gU Z<|sB (.ptr 32 0) 32 (.var [rM aa.pd a0.am])<|sB (.ptr 48 0) 48 (.var (aG.rc a1))<|sB (.ptr 64 0) 64 (.var [.jt])<|sV (r0)<|sN<|qS<|gU Z<|sV (.d (ai.pd a0))<|sV (.d (aG.pd a1))<|bE h fun x1 h1 h=>cD (ref20_fits_ev h1)<|sF h ?_ ?_<;>intro h
 ·refine sN<|cT<|gU Z<|sV (.agg [.jt])<|sS 64 (.var [.jt])<|sV (rI 1)<|sN<|qR ?_
  cases oI h
  exact qG
 refine sN<|cF<|qK<|gU Z<|sV (.d (ai.pd a0))<|bE h fun x3 h3 h=>cR (.agg [.ref 256 0]) [(256,.arr 0 32 (x3.am.map aa.pd))] (jr h3)<|sB (.ptr 96 0) 96 (.var [.jt])<|sS 96 (.var [.ref 256 0])<|sN<|gU Z<|sV (.agg [.ref 256 0])<|sV (.d (aG.pd a1))<|bE h fun a h4 h=>cR (.tup [rI a.1,rI a.2]) [ ] (ref20_place_ev h4) ?_
 refine sM Z<|sV (rI a.1)<|sV (rI a.2)<|sA Z<|sA Z<|sN<|CS (α:=(List aa)) (fun x i f=>kx prog 0 (A i f) (aL.at_ 31 0 10)=some (A [(3,.ptr 48 0),(4,.ptr 64 0),(6,.ptr 96 0),(7,rI a.1)] [(48,.var (aG.rc a1)),(64,.var [.jt]),(96,.var [.ref 256 0]),(256,.arr 0 32 (x.map aa.pd))])) (fun x=>dO a1 a x=some r) ?_ ?_
 ·refine gU Z<|sV (.ptr 48 0)<|sL Z<|sF h ?_ ?_<;>intro h
  ·refine sN<|cT<|qS<|gU Z<|sM Z<|sF h ?_ ?_<;>intro h
   ·refine sN<|cT<|gU Z<|sV (.agg [.jt])<|sS 64 (.var [.jt])<|sV (rI 6)<|sN<|qR ?_
    cases oI h
    exact qG
   refine sN<|cF<|qK<|gU Z<|sV (.ptr 96 0)<|sL Z<|sM Z<|bE h fun f3 b2 h=>WO.ma b2 Z Z Z Z Z Z Z Z<|sV (.elt 256 0 (a.1).toNat 4)<|bE h fun f4 b3 h=>WO.lT b3 Z Z Z Z Z Z<|sA Z<|sN<|CO Z Z ?_
   refine sV (.ptr 96 0)<|sL Z<|mM Z<|sM Z<|bE h fun f5 b4 h=>WO.cutL (sz:=8) (g:=ah.pd) b4 (fun _=>Z) Z Z Z Z Z Z Z Z Z Z Z<|bE h fun f6 b5 h=>WO.appN b5 (fun _=>Z) Z Z Z Z Z Z Z Z Z Z Z Z Z Z<|mM Z<|sV (rI (rW (a.2+(1:Int))))<|bE h fun f9 c0 h=>WO.cutL (sz:=8) (g:=ah.pd) c0 (fun _=>Z) Z Z Z Z Z Z Z Z Z Z Z<|bE h fun g0 c1 h=>?_
   refine aR c1 (fun _=>Z) Z<|bE h fun g1 c2 h=>WO.ma c2 Z Z Z Z Z Z Z Z<|sV (.elt 256 0 (a.1).toNat 4)<|bE h fun c7 c3 h=>WO.rk (g:=aa.pd) (u:=[(656,.dead)]) (sz:=1) c3 (fun _=>Z) (fun _=>CT Z) Z Z Z Z Z Z Z Z Z Z Z ?_
   exact sN<|sO<|⟨c7,rfl,h⟩
  exact sN<|cF<|qK<|⟨x3.am,rfl,h⟩
 rintro z i f j h
 refine qS<|gS Z j<|sV (.ptr 48 0)<|sL Z<|sF h ?_ ?_<;>intro h
 ·refine sN<|cT<|CS (α:=(List aa)) (fun x i f=>kx prog 0 (A i f) (aL.at_ 31 0 13)=some (A [(4,.ptr 64 0),(6,.ptr 96 0)] [(64,.var [.jt]),(96,.var [rM aa.pd x])])) (fun x=>gW x=some r) ?_ ?_
  ·refine gU Z<|sV (.ptr 96 0)<|sL Z<|sM Z<|bE h fun d0 B h=>WO.ma B Z Z Z Z Z Z Z Z<|sV (.elt 256 0 (a.1).toNat 4)<|bE h fun c4 C h=>WO.lT C Z Z Z Z Z Z<|sE (rI (c4.al.length:Int)) (ik _ _)<|sF h ?_ ?_<;>intro h
   ·refine sN<|cT<|CO Z Z<|sV (.ptr 96 0)<|sL Z<|mM Z<|bE h fun d1 l h=>WO.sliceFG l Z Z Z Z Z Z Z Z Z Z Z Z Z Z<|sV (.ptr 96 0)<|sL Z<|sM Z<|sV (rI (rW (a.1+(1:Int))))<|bE h fun d2 D h=>WO.subR D Z Z Z Z Z Z Z Z Z Z Z Z ?_
    refine bE h fun d3 E h=>bE h fun t F h=>WO.appF F l (fun _=>Z) Z Z Z Z Z Z Z Z (tM E Z) Z Z Z Z Z Z<|sV (.ptr 96 0)<|sS 96 (.var [rM aa.pd t]) ?_
    exact sN<|sO<|⟨t,rfl,h⟩
   exact sN<|cF<|qK<|⟨z,rfl,h⟩
  rintro j7 i f j h
  refine gS Z j<|sV (.d (ai.pd (ai.mk j7)))<|sS 64 (.var [rM aa.pd j7])<|sV (r0)<|sN<|qR ?_
  exact oI h▸qD
 refine sN<|cF<|qK<|CS (α:=Int×(List aa)) (fun x i f=>kx prog 0 (A i f) (aL.at_ 31 0 21)=some (A [(3,.ptr 48 0),(4,.ptr 64 0),(6,.ptr 96 0),(7,rI x.1)] [(48,.var (aG.rc a1)),(64,.var [.jt]),(96,.var [.ref 256 0]),(256,.arr 0 32 (x.2.map aa.pd))])) (fun x=>dN a1 x.1 x.2=some r) ?_ ?_
 ·refine gU Z<|sM Z<|sF h ?_ ?_<;>intro h
  ·refine sN<|cT<|gU Z<|sV (r0)<|sN<|qS<|bE h fun p n h=>CM (CQ (WL.jZ n (fun s=>gI 0 31 16 [(3,.ptr 48 0),(4,.ptr 64 0),(6,.ptr 96 0),(7,rI s)] [(48,.var (aG.rc a1)),(64,.var [.jt]),(96,.var [.ref 256 0]),(256,.arr 0 32 (z.map aa.pd))]) (fun o=>gX 0 0 31 18 [(3,.ptr 48 0),(4,.ptr 64 0),(6,.ptr 96 0),(7,rI o)] [(48,.var (aG.rc a1)),(64,.var [.jt]),(96,.var [.ref 256 0]),(256,.arr 0 32 (z.map aa.pd))]) Z ?_ ?_))
   ·rintro q i f c9 j h
    refine qS<|CN j Z<|sM Z<|sV (.ptr 96 0)<|sL Z<|WO.te Z Z Z Z Z Z Z Z Z<|sF h ?_ ?_<;>intro h
    ·refine sM Z<|sV (.ptr 96 0)<|sL Z<|sM Z<|bE h fun e4 T h=>WO.ma T Z Z Z Z Z Z Z Z<|sV (.elt 256 0 (q).toNat 0)<|bE h fun e5 U h=>WO.lT U Z Z Z Z Z Z<|sV (.ptr 48 1)<|sV (.d (ac.pd a1.aj))<|bE h fun c5 W h=>cD (iq W)<|sV (rB (decide (c5<(0:Int))))<|sF h ?_ ?_<;>intro h
     ·refine sN<|sO<|cT<|qK<|qB<|CR Z Z<|sM Z<|sV (rI (rW (q+(1:Int))))<|sA Z<|sN ?_
      cases oI h
      exact⟨rfl,rfl⟩
     refine sN<|sO<|cF<|qX ?_
     cases oI h
     exact⟨nofun,rfl,rfl⟩
    refine sM Z<|k3<|k3<|k3<|sK<|sU ?_
    refine sN<|sO<|cF<|qX ?_
    cases oI h
    exact⟨nofun,rfl,rfl⟩
   intro e i f he hq
   obtain⟨rfl,j⟩:=hq
   refine qE<|gS Z j<|sV (.ptr 96 0)<|sL Z<|sV (.agg zZ2)<|sV (.d (.lst ([(aa.mk (ac.mk [] [] [] []) [])].map aa.pd)))<|bE h fun e6 X h=>aR X (fun _=>Z) Z<|sV (.ptr 96 0)<|sS 96 (.var [.ref 256 1])<|sN<|CN Z Z<|sV (.ptr 96 0)<|sL Z<|sM Z ?_
   refine sV (rI (rW (p+(1:Int))))<|bE h fun e7 Y h=>WO.subR Y Z Z Z Z Z Z Z Z Z Z Z Z<|sV (.ptr 96 0)<|sL Z<|sM Z<|bE h fun e8 a4 h=>WO.subR a4 Z Z Z Z Z Z Z Z Z Z Z Z<|bE h fun f0 a5 h=>bE h fun f1 a9 h=>WO.copyG Z Z Z Z Z Z Z Z (sP a5 Z) (wq a9 Z) Z Z (fun _=>Z) ?_
   exact sN<|sO<|CR rfl rfl<|sV (.ptr 96 0)<|sL rfl<|sM rfl<|sV (.ptr 48 1)<|sV (.d (ac.pd a1.aj))<|sV (.agg (ac.rc a1.aj++[.jt]))<|bE h fun f2 b0 h=>WO.ma b0 rfl rfl rfl rfl rfl rfl rfl rfl<|bE h fun c6 b1 h=>WO.rk (g:=aa.pd) (u:=[]) (sz:=5) b1 (fun _=>rfl) (fun _=>CT rfl) rfl rfl rfl rfl rfl rfl rfl rfl rfl rfl rfl<|sN<|⟨(p,c6),rfl,h⟩
  exact sN<|cF<|qK<|⟨(a.1,z),rfl,h⟩
 rintro⟨k,c8⟩ i f j h
 refine qS<|CN j Z<|sV (.ptr 96 0)<|sL Z<|sM Z<|bE h fun d4 G h=>WO.ma G Z Z Z Z Z Z Z Z<|sV (.elt 256 0 (k).toNat 4)<|bE h fun d5 H h=>WO.lT H Z Z Z Z Z Z<|sV (.ptr 48 6)<|sV (.d (ah.pd a1.bi))<|bE h fun d6 m h=>kq h (fun c h=>?_) (fun c h=>?_)
 ·refine WO.lg (v:=rB true) (u:=[]) Z Z (fun _=>Z) Z Z Z Z Z (ib m) Z Z (congrArg (fun b=>RV.d (.bool b)) c) Z ?_
  refine sN<|sO<|cT<|gU Z<|sV (.agg [.jt])<|sS 64 (.var [.jt])<|sV (rI 11)<|sN<|qR ?_
  cases oI h
  exact qG
 refine WO.lg (v:=rB false) (u:=[]) Z Z (fun _=>Z) Z Z Z Z Z (ib m) Z Z (congrArg (fun b=>RV.d (.bool b)) c) Z ?_
 refine sN<|sO<|cF<|qK<|CN Z Z<|sV (.ptr 96 0)<|sL Z<|sM Z<|sV (.ptr 96 0)<|sL Z<|sM Z<|bE h fun d7 I h=>WO.ma I Z Z Z Z Z Z Z Z<|sV (.elt 256 0 (k).toNat 4)<|bE h fun d8 J h=>WO.lT J Z Z Z Z Z Z ?_
 refine sV (.ptr 48 6)<|sV (.d (ah.pd a1.bi))<|bE h fun e0 K h=>cD (ref20_add_ev K)<|bE h fun e1 L h=>WO.ma L Z Z Z Z Z Z Z Z<|sV (.elt 256 0 (k).toNat 4)<|bE h fun e2 N h=>WO.rk (g:=aa.pd) (u:=[]) (sz:=1) N (fun _=>Z) (fun _=>CT Z) Z Z Z Z Z Z Z Z Z Z Z ?_
 refine sN<|sO<|qS<|gU Z<|sV (.ptr 96 0)<|sL Z<|WO.te Z Z Z Z Z Z Z Z Z<|sF h ?_ ?_<;>intro h
 ·refine sM Z<|k3<|k3<|sK<|sK<|sT<|sN<|cT<|gU Z<|sV (.agg [.jt])<|sS 64 (.var [.jt]) ?_
  refine sV (rI 8)<|sN<|qR ?_
  cases oI h
  exact qG
 refine sM Z<|sV (.ptr 96 0)<|sL Z<|sM Z<|bE h fun e3 O h=>WO.ma O Z Z Z Z Z Z Z Z<|sV (.elt 256 0 (k).toNat 4)<|bE h fun y Q h=>WO.lT Q Z Z Z Z Z Z<|sE (rI (y.al.length:Int)) (ik _ _)<|sV (rB (decide ((y.al.length:Int)>(32:Int))))<|sF h ?_ ?_<;>intro h
 ·refine sN<|cT<|gU Z<|sV (.agg [.jt])<|sS 64 (.var [.jt])<|sV (rI 8)<|sN<|qR ?_
  cases oI h
  exact qG
 refine sN<|cF<|qK<|gU Z<|sV (.agg [.ref 256 0])<|sS 64 (.var [.ref 256 0])<|sV (r0)<|sN<|qR ?_
 cases oI h
 exact qG
theorem jH{a1:Int}{d0:ae}{r:ai×ae}(h:ff a1 d0=some r):EvP prog aL ext 7 [.ptr 0 0,rI a1] [.var (ae.rc d0)] (.d (ai.pd r.1),[.var (ae.rc r.2)]):=by
 refine Ev.body Z Tryz.func7 Z Zk<|gU Z<|sB (.ptr 64 0) 64 (.var [.jt])<|sN<|gU Z<|sB (.ptr 80 0) 80 (.var [.jt])<|sN<|qS<|gU Z<|mM Z<|sV (rI (rW (a1+(1:Int))))<|bE h fun m h1 h=>cR (rI m.1) [(0,.var (ae.rc m.2))] (aP h1)<|sA Z ?_
 refine sN<|bE h fun c b h=>CM (CQ (WL.jZ b (fun s=>gI 1 7 3 [(0,.ptr 0 0),(4,.ptr 64 0),(5,.ptr 80 0),(6,rI s.1)] [(0,.var [rL s.2.1,rI s.2.2.1]),(64,.var [.jt]),(80,.var [rM aa.pd s.2.2.2])]) (fun o=>gX 0 1 7 8 [(4,.ptr 64 0),(5,.ptr 80 0)] [(0,.var [rL o.2.1,rI o.2.2]),(64,.var [.jt]),(80,.var [rM aa.pd o.1])]) Z ?_ ?_))
 ·rintro⟨k,u,v,l⟩ p n t j h
  refine qS<|gS Z j<|sM Z<|sF h ?_ ?_<;>intro h
  ·refine sN<|cT<|qK<|qS<|qB<|CN Z Z<|sV (.d (ai.pd (ai.mk l)))<|sM Z<|sV (.d (ai.pd (ai.mk l)))<|bE h fun f g h=>cR (.d (aG.pd f.1)) [(0,.var (ae.rc f.2))] (Dice_Change_ev g)<|bE h fun a i h=>cR (.tup [.d (ai.pd a.1),rI a.2]) [] (ref20_Apply_ev i)<|sM Z<|sV (.d (ai.pd a.1)) ?_
   refine sV (rI a.2)<|sB (.ptr 112 0) 112 (.var [.jt])<|sS 112 (.var [rM aa.pd a.1.am])<|sA Z ?_
   refine sN<|sO<|gU Z<|sM Z<|sF h ?_ ?_<;>intro h
   ·refine sN<|cT<|CR Z Z<|sV (.d (.agg [.lst (a.1.am.map aa.pd)]))<|sS 80 (.var [rM aa.pd a.1.am])<|sN<|CR Z Z<|sM Z<|sV (rI (rW (k-(1:Int))))<|sA Z<|sN ?_
    cases oI h
    exact⟨rfl,rfl⟩
   refine sN<|cF<|qK<|CR Z Z<|sM Z<|sV (rI (rW (k-(1:Int))))<|sA Z<|sN ?_
   cases oI h
   exact⟨rfl,rfl⟩
  refine sN<|cF<|qX ?_
  cases oI h
  exact⟨nofun,rfl,rfl⟩
 intro e p n he q
 obtain⟨rfl,j⟩:=q
 refine qE<|gS Z j<|sV (.d (ai.pd (ai.mk c.1)))<|sS 64 (.var [rM aa.pd c.1])<|sN<|qR ?_
 exact oI h▸qD
theorem law19_odd_ev{a1:ai}{d0:ae}{r:ai×ae}(h:fc a1 d0=some r):EvP prog aL ext 8 [.ptr 0 0,.d (ai.pd a1)] [.var (ae.rc d0)] (.d (ai.pd r.1),[.var (ae.rc r.2)]):=oddD_ev rfl h
theorem jp{a0:(List Int)}{a1:(List Int)}{r:Bool}(h:ez a0 a1=some r):EvP prog aL ext 82 [rL a0,rL a1] [] (rB r,[]):=by
 refine Ev.body Z Tryz.func82 Z Zk<|gU Z<|sU<|sN<|qS<|gU Z<|sM Z<|sE (rI (a0.length:Int)) (ik _ _)<|sM Z<|sE (rI (a1.length:Int)) (ik _ _)<|sF h ?_ ?_<;>intro h
 ·refine sN<|cT<|gU Z<|sU<|sN<|qR ?_
  exact oI h▸qD
 refine sN<|cF<|qK<|qS<|gU Z<|sM Z<|sE (rI (a0.length:Int)) (ik _ _)<|sV (r0)<|sN<|bE h fun k b h=>CM (CQ (WL.jZ b (fun s=>gI 0 82 4 [(0,rL a0),(1,rL a1),(12,rI (a0.length:Int)),(13,rI s)] []) (fun o=>match o with| .inl y=>gX 0 0 82 9 [] []| .inr r=>gF 82 Tryz.f82 0 (rB r,[])) Z ?_ ?_))
 ·rintro s2 g f n a h
  refine gS Z a<|sF h ?_ ?_<;>intro h
  ·refine sN<|qS<|cT<|qK<|qS<|qB<|gU Z<|sM Z<|sA Z<|sN<|CN Z Z<|mM Z<|bE h fun p i h=>eG i Z ?_
   refine sC Z<|mM Z<|bE h fun q j h=>eG j Z<|sC Z<|sF h ?_ ?_<;>intro h
   ·refine sN<|sO<|cT<|gU Z<|sU<|sN<|qR ?_
    cases oI h
    exact⟨nofun,rfl,rfl⟩
   refine sN<|sO<|cF<|qK<|CR Z Z<|sV (rI (rW (s2+(1:Int))))<|sM Z<|sN ?_
   cases oI h
   exact⟨rfl,rfl⟩
  refine sN<|qS<|cF<|qX ?_
  cases oI h
  exact⟨nofun,rfl,rfl⟩
 intro e g f he c
 rcases k with m|l
 ·obtain⟨rfl,a⟩:=c
  refine qE<|gS Z a<|sT<|sN<|qR ?_
  exact oI h▸qD
 obtain⟨rfl,hf⟩:=c
 cases oI h
 exact hf
theorem iQ{a0:ak}{a1:ak}{r:Bool}(h:dD a0 a1=some r):EvP prog aL ext 81 [.d (ak.pd a0),.d (ak.pd a1)] [] (rB r,[]):=by
 refine Ev.body Z Tryz.func81 Z Zk<|gU Z<|sB (.ptr 32 0) 32 (.var (ak.rc a0))<|sB (.ptr 48 0) 48 (.var (ak.rc a1))<|sU<|sN<|gU Z<|sV (.ptr 32 0)<|sL Z<|sV (.ptr 48 0)<|sL Z<|sF h ?_ ?_<;>intro h
 ·refine sM Z<|sV (.ptr 32 1)<|sV (.d (aK.pd a0.aI))<|sV (.ptr 48 1)<|sV (.d (aK.pd a1.aI))<|WO.bin (cS a0.aI a1.aI) Z Z Z Z Z<|sF h ?_ ?_<;>intro h
  ·refine sM Z<|sV (.ptr 32 4)<|sV (.d (aK.pd a0.aH))<|sV (.ptr 48 4)<|sV (.d (aK.pd a1.aH))<|WO.bin (cS a0.aH a1.aH) Z Z Z Z Z<|sF h ?_ ?_<;>intro h
   ·refine sM Z<|sV (.ptr 32 7)<|sL Z<|sV (.ptr 48 7)<|sL Z<|bE h fun b a h=>cD (jp a)<|sF h ?_ ?_<;>intro h
    ·refine sM Z<|sV (.ptr 32 8)<|sL Z<|sV (.ptr 48 8)<|sL Z<|sV (rB (a0.aJ==a1.aJ))<|sF h ?_ ?_<;>intro h
     ·refine sM Z<|sV (.ptr 32 9)<|sL Z<|sV (.ptr 48 9)<|sL Z<|sV (rB (a0.aS==a1.aS))<|sV (rB (a0.aS==a1.aS))<|sA Z<|sN<|qR ?_
      cases oI h
      exact qG
     refine sM Z<|k3<|sK<|sK<|sU<|sA Z<|sN<|qR ?_
     cases oI h
     exact qG
    refine sM Z<|k3<|sK<|sK<|sU<|sM Z<|k3<|sK<|sK<|sU<|sA Z ?_
    refine sN<|qR ?_
    cases oI h
    exact qG
   refine sM Z<|k3<|sK<|sK<|sU<|sM Z<|k3<|sK<|sK<|sU<|sM Z ?_
   refine k3<|sK<|sK<|sU<|sA Z<|sN<|qR ?_
   cases oI h
   exact qG
  refine sM Z<|k3<|sK<|sK<|sU<|sM Z<|k3<|sK<|sK<|sU<|sM Z ?_
  refine k3<|sK<|sK<|sU<|sM Z<|k3<|sK<|sK<|sU<|sA Z<|sN ?_
  refine qR ?_
  cases oI h
  exact qG
 refine sM Z<|k3<|sK<|sK<|sU<|sM Z<|k3<|sK<|sK<|sU<|sM Z ?_
 refine k3<|sK<|sK<|sU<|sM Z<|k3<|sK<|sK<|sU<|sM Z<|sK ?_
 refine k3<|sK<|sU<|sA Z<|sN<|qR ?_
 cases oI h
 exact qG
theorem fU{a0:(List ak)}{a1:(List ak)}{r:Bool}(h:bT a0 a1=some r):EvP prog aL ext 80 [rM ak.pd a0,rM ak.pd a1,.d (.raw (.func (.func 81) #[] #[]))] [] (rB r,[]):=by
 refine Ev.body Z Tryz.func80 Z Zk<|gU Z<|sU<|sN<|qS<|gU Z<|sM Z<|sE (rI (a0.length:Int)) (ik _ _)<|sM Z<|sE (rI (a1.length:Int)) (ik _ _)<|sF h ?_ ?_<;>intro h
 ·refine sN<|cT<|gU Z<|sU<|sN<|qR ?_
  exact oI h▸qD
 refine sN<|cF<|qK<|qS<|gU Z<|sM Z<|sE (rI (a0.length:Int)) (ik _ _)<|sV (r0)<|sN<|bE h fun c a h=>CM (CQ (WL.jZ a (fun s=>gI 0 80 4 [(1,rM ak.pd a1),(2,.d (.raw (.func (.func 81) #[] #[]))),(15,rM ak.pd a0),(16,rI (a0.length:Int)),(17,rI s)] []) (fun o=>match o with| .inl y=>gX 0 0 80 10 [] []| .inr r=>gF 80 Tryz.f80 0 (rB r,[])) Z ?_ ?_))
 ·rintro s2 k j t b h
  refine gS Z b<|sF h ?_ ?_<;>intro h
  ·refine sN<|qS<|cT<|qK<|qS<|qB<|gU Z<|sM Z<|bE h fun f l h=>eG l Z<|sV (.d (ak.pd f))<|sB (.ptr 128 0) 128 (.var zZ0)<|sA Z<|sH 128 (.var (ak.rc f))<|sN ?_
   refine gU Z<|mM Z<|bE h fun g m h=>eG m Z<|sV (.d (ak.pd g))<|sB (.ptr 144 0) 144 (.var zZ0)<|sH 144 (.var (ak.rc g))<|sN<|gU Z<|sM Z<|sV (.d (ak.pd f))<|sV (.d (ak.pd g))<|bE h fun u n h=>cD (iQ n) ?_
   refine sF h ?_ ?_<;>intro h
   ·refine sN<|cT<|gU Z<|sU<|sN<|qR ?_
    cases oI h
    exact⟨nofun,rfl,rfl⟩
   refine sN<|cF<|qK<|CR Z Z<|sV (rI (rW (s2+(1:Int))))<|sM Z<|sN ?_
   cases oI h
   exact⟨rfl,rfl⟩
  refine sN<|qS<|cF<|qX ?_
  cases oI h
  exact⟨nofun,rfl,rfl⟩
 intro e k j he i
 rcases c with q|p
 ·obtain⟨rfl,b⟩:=i
  refine qE<|gS Z b<|sT<|sN<|qR ?_
  exact oI h▸qD
 obtain⟨rfl,hf⟩:=i
 cases oI h
 exact hf
theorem response_Same_ev{a0:ar}{a1:ar}{r:Bool}(h:gc a0 a1=some r):EvP prog aL ext 49 [.d (ar.pd a0),.d (ar.pd a1)] [] (rB r,[]):=by
 refine Ev.body Z Tryz.func49 Z Zk<|gU Z<|sB (.ptr 32 0) 32 (.var [rM ak.pd a0.aA])<|sB (.ptr 48 0) 48 (.var [rM ak.pd a1.aA])<|sU<|sN<|gU Z<|sV (.ptr 32 0)<|sL Z<|sV (.ptr 48 0)<|sL Z<|bE h fun a h1 h=>cD (fU h1)<|sA Z<|sN ?_
 refine qR ?_
 exact oI h▸qD
theorem fm{a0:ah}{a1:ah}{r:Bool}(h:cy a0 a1=some r):EvP prog aL ext 23 [.d (ah.pd a0),.d (ah.pd a1)] [] (rB r,[]):=by
 refine Ev.body Z Tryz.func23 Z Zk<|gU Z<|sB (.ptr 32 0) 32 (.var (ah.rc a0))<|sB (.ptr 48 0) 48 (.var (ah.rc a1))<|sU<|sN<|gU Z<|sV (.ptr 32 0)<|sL Z<|sV (.ptr 48 0)<|sL Z<|sF h ?_ ?_<;>intro h
 ·refine sM Z<|sV (.ptr 32 1)<|sL Z<|sV (.ptr 48 1)<|sL Z<|sV (rB (a0.fTo==a1.fTo))<|sF h ?_ ?_<;>intro h
  ·refine sM Z<|sV (.ptr 32 2)<|sV (.d (av.pd a0.aM))<|sV (.ptr 48 2)<|sV (.d (av.pd a1.aM))<|WO.bin (eqE_34 a0.aM a1.aM) Z Z Z Z Z<|sF h ?_ ?_<;>intro h
   ·refine sM Z<|sV (.ptr 32 4)<|sV (.d (aw.pd a0.aq))<|sV (.ptr 48 4)<|sV (.d (aw.pd a1.aq))<|WO.bin (eqE_36 a0.aq a1.aq) Z Z Z Z Z<|sF h ?_ ?_<;>intro h
    ·refine sM Z<|sV (.ptr 32 7)<|sV (.d (ar.pd a0.aB))<|sV (.ptr 48 7)<|sV (.d (ar.pd a1.aB))<|bE h fun b a h=>cD (response_Same_ev a)<|sV (rB b)<|sA Z<|sN<|qR ?_
     exact oI h▸qD
    refine sM Z<|k3<|sK<|sK<|sU<|sA Z<|sN<|qR ?_
    exact oI h▸qD
   refine sM Z<|k3<|sK<|sK<|sU<|sM Z<|k3<|sK<|sK<|sU<|sA Z ?_
   refine sN<|qR ?_
   exact oI h▸qD
  refine sM Z<|k3<|sK<|sK<|sU<|sM Z<|k3<|sK<|sK<|sU<|sM Z ?_
  refine k3<|sK<|sK<|sU<|sA Z<|sN<|qR ?_
  exact oI h▸qD
 refine sM Z<|k3<|sK<|sK<|sU<|sM Z<|k3<|sK<|sK<|sU<|sM Z ?_
 refine k3<|sK<|sK<|sU<|sM Z<|k3<|sK<|sK<|sU<|sA Z<|sN ?_
 refine qR ?_
 exact oI h▸qD
theorem eM{a0:(List ah)}{a1:(List ah)}{r:Bool}(h:bB a0 a1=some r):EvP prog aL ext 43 [rM ah.pd a0,rM ah.pd a1,.d (.raw (.func (.func 23) #[] #[]))] [] (rB r,[]):=by
 refine Ev.body Z Tryz.func43 Z Zk<|gU Z<|sU<|sN<|qS<|gU Z<|sM Z<|sE (rI (a0.length:Int)) (ik _ _)<|sM Z<|sE (rI (a1.length:Int)) (ik _ _)<|sF h ?_ ?_<;>intro h
 ·refine sN<|cT<|gU Z<|sU<|sN<|qR ?_
  exact oI h▸qD
 refine sN<|cF<|qK<|qS<|gU Z<|sM Z<|sE (rI (a0.length:Int)) (ik _ _)<|sV (r0)<|sN<|bE h fun c a h=>CM (CQ (WL.jZ a (fun s=>gI 0 43 4 [(1,rM ah.pd a1),(2,.d (.raw (.func (.func 23) #[] #[]))),(15,rM ah.pd a0),(16,rI (a0.length:Int)),(17,rI s)] []) (fun o=>match o with| .inl y=>gX 0 0 43 10 [] []| .inr r=>gF 43 Tryz.f43 0 (rB r,[])) Z ?_ ?_))
 ·rintro s2 k j t b h
  refine gS Z b<|sF h ?_ ?_<;>intro h
  ·refine sN<|qS<|cT<|qK<|qS<|qB<|gU Z<|sM Z<|bE h fun f l h=>eG l Z<|sV (.d (ah.pd f))<|sB (.ptr 128 0) 128 (.var zZ1)<|sA Z<|sH 128 (.var (ah.rc f))<|sN ?_
   refine gU Z<|mM Z<|bE h fun g m h=>eG m Z<|sV (.d (ah.pd g))<|sB (.ptr 144 0) 144 (.var zZ1)<|sH 144 (.var (ah.rc g))<|sN<|gU Z<|sM Z<|sV (.d (ah.pd f))<|sV (.d (ah.pd g))<|bE h fun u n h=>cD (fm n) ?_
   refine sF h ?_ ?_<;>intro h
   ·refine sN<|cT<|gU Z<|sU<|sN<|qR ?_
    cases oI h
    exact⟨nofun,rfl,rfl⟩
   refine sN<|cF<|qK<|CR Z Z<|sV (rI (rW (s2+(1:Int))))<|sM Z<|sN ?_
   cases oI h
   exact⟨rfl,rfl⟩
  refine sN<|qS<|cF<|qX ?_
  cases oI h
  exact⟨nofun,rfl,rfl⟩
 intro e k j he i
 rcases c with q|p
 ·obtain⟨rfl,b⟩:=i
  refine qE<|gS Z b<|sT<|sN<|qR ?_
  exact oI h▸qD
 obtain⟨rfl,hf⟩:=i
 cases oI h
 exact hf
theorem iA{a0:aa}{a1:aa}{r:Bool}(h:dl a0 a1=some r):EvP prog aL ext 42 [.d (aa.pd a0),.d (aa.pd a1)] [] (rB r,[]):=by
 refine Ev.body Z Tryz.func42 Z Zk<|gU Z<|sB (.ptr 32 0) 32 (.var (aa.rc a0))<|sB (.ptr 48 0) 48 (.var (aa.rc a1))<|sU<|sN<|gU Z<|sV (.ptr 32 0)<|sV (.d (ac.pd a0.aj))<|sV (.ptr 48 0)<|sV (.d (ac.pd a1.aj))<|kq h (fun a h=>?_) (fun a h=>?_)
 ·refine WO.mX (eqE_27 a0.aj a1.aj) a Z Z Z Z Z<|sM Z<|sV (.ptr 32 4)<|sL Z<|sV (.ptr 48 4)<|sL Z<|bE h fun x2 b h=>cD (eM b)<|sV (rB x2)<|sA Z<|sN<|qR ?_
  exact oI h▸qD
 refine WO.mX (eqE_27 a0.aj a1.aj) a Z Z Z Z Z<|sM Z<|k3<|sK<|sK<|sU<|sA Z<|sN<|qR ?_
 exact oI h▸qD
theorem fD{a0:(List aa)}{a1:(List aa)}{r:Bool}(h:bJ a0 a1=some r):EvP prog aL ext 41 [rM aa.pd a0,rM aa.pd a1,.d (.raw (.func (.func 42) #[] #[]))] [] (rB r,[]):=by
 refine Ev.body Z Tryz.func41 Z Zk<|gU Z<|sU<|sN<|qS<|gU Z<|sM Z<|sE (rI (a0.length:Int)) (ik _ _)<|sM Z<|sE (rI (a1.length:Int)) (ik _ _)<|sF h ?_ ?_<;>intro h
 ·refine sN<|cT<|gU Z<|sU<|sN<|qR ?_
  exact oI h▸qD
 refine sN<|cF<|qK<|qS<|gU Z<|sM Z<|sE (rI (a0.length:Int)) (ik _ _)<|sV (r0)<|sN<|bE h fun c a h=>CM (CQ (WL.jZ a (fun s=>gI 0 41 4 [(1,rM aa.pd a1),(2,.d (.raw (.func (.func 42) #[] #[]))),(15,rM aa.pd a0),(16,rI (a0.length:Int)),(17,rI s)] []) (fun o=>match o with| .inl y=>gX 0 0 41 10 [] []| .inr r=>gF 41 Tryz.f41 0 (rB r,[])) Z ?_ ?_))
 ·rintro s2 k j t b h
  refine gS Z b<|sF h ?_ ?_<;>intro h
  ·refine sN<|qS<|cT<|qK<|qS<|qB<|gU Z<|sM Z<|bE h fun f l h=>eG l Z<|sV (.d (aa.pd f))<|sB (.ptr 128 0) 128 (.var zZ2)<|sA Z<|sS 128 (.var (aa.rc f))<|sN ?_
   refine gU Z<|mM Z<|bE h fun g m h=>eG m Z<|sV (.d (aa.pd g))<|sB (.ptr 144 0) 144 (.var zZ2)<|sS 144 (.var (aa.rc g))<|sN<|gU Z<|sM Z<|sV (.d (aa.pd f))<|sV (.d (aa.pd g))<|bE h fun u n h=>cD (iA n) ?_
   refine sF h ?_ ?_<;>intro h
   ·refine sN<|cT<|gU Z<|sU<|sN<|qR ?_
    cases oI h
    exact⟨nofun,rfl,rfl⟩
   refine sN<|cF<|qK<|CR Z Z<|sV (rI (rW (s2+(1:Int))))<|sM Z<|sN ?_
   cases oI h
   exact⟨rfl,rfl⟩
  refine sN<|qS<|cF<|qX ?_
  cases oI h
  exact⟨nofun,rfl,rfl⟩
 intro e k j he i
 rcases c with q|p
 ·obtain⟨rfl,b⟩:=i
  refine qE<|gS Z b<|sT<|sN<|qR ?_
  exact oI h▸qD
 obtain⟨rfl,hf⟩:=i
 cases oI h
 exact hf
theorem jK{a0:ai}{a1:ai}{r:Bool}(h:fk a0 a1=some r):EvP prog aL ext 11 [.d (ai.pd a0),.d (ai.pd a1)] [] (rB r,[]):=by
 refine Ev.body Z Tryz.func11 Z Zk<|gU Z<|sB (.ptr 32 0) 32 (.var [rM aa.pd a0.am])<|sB (.ptr 48 0) 48 (.var [rM aa.pd a1.am])<|sU<|sN<|gU Z<|sV (.ptr 32 0)<|sL Z<|sV (.ptr 48 0)<|sL Z<|bE h fun a h1 h=>cD (fD h1)<|sA Z<|sN ?_
 refine qR ?_
 exact oI h▸qD
theorem js{a0:ai}{a1:ai}{r:Bool}(h:gT a0 a1=some r):EvP prog aL ext 12 [.d (ai.pd a0),.d (ai.pd a1)] [] (rB r,[]):=by
 refine Ev.body Z Tryz.func12 Z Zk<|gU Z<|sB (.ptr 32 0) 32 (.var [rM aa.pd a0.am])<|sB (.ptr 48 0) 48 (.var [rM aa.pd a1.am])<|sU<|sN<|qS<|gU Z<|sV (.ptr 32 0)<|sL Z<|sE (rI (a0.am.length:Int)) (ik _ _)<|sV (.ptr 48 0)<|sL Z<|sE (rI (a1.am.length:Int)) (ik _ _)<|sF h ?_ ?_<;>intro h
 ·refine sN<|cT<|gU Z<|sU<|sN<|qR ?_
  exact oI h▸qD
 refine sN<|cF<|qK<|qS<|gU Z<|sV (r0)<|sN<|bE h fun t i h=>CM (CQ (WL.jZ i (fun s=>gI 0 12 4 [(2,.ptr 32 0),(3,.ptr 48 0),(5,rI s)] [(32,.var [rM aa.pd a0.am]),(48,.var [rM aa.pd a1.am])]) (fun o=>match o with| .inl y=>gX 0 0 12 14 [] []| .inr r=>gF 12 Tryz.f12 0 (rB r,[])) Z ?_ ?_))
 ·rintro s2 l k I c h
  refine qS<|gS Z c<|sM Z<|sV (.ptr 32 0)<|sL Z<|sE (rI (a0.am.length:Int)) (ik _ _)<|sF h ?_ ?_<;>intro h
  ·refine sN<|cT<|qK<|qS<|qB<|CN Z Z<|sV (.ptr 32 0)<|sL Z<|sM Z<|bE h fun a z h=>eG z Z<|sV (.d (aa.pd a))<|sV (.ptr 48 0)<|sL Z<|sM Z ?_
   refine bE h fun b B h=>eG B Z<|sV (.d (aa.pd b))<|sB (.ptr 96 0) 96 (.var zZ2)<|sB (.ptr 112 0) 112 (.var zZ2)<|sS 96 (.var (aa.rc a))<|sS 112 (.var (aa.rc b)) ?_
   refine sN<|sO<|qS<|gU Z<|sV (.ptr 96 0)<|sV (.d (ac.pd a.aj))<|sV (.ptr 112 0)<|sV (.d (ac.pd b.aj))<|kq h (fun f h=>?_) (fun f h=>?_)
   ·refine WO.mX (eqN_27 a.aj b.aj) f Z Z Z Z Z<|sM Z<|k3<|k3<|sK<|sT<|sN<|cT<|gU Z<|sU<|sN ?_
    refine qR ?_
    cases oI h
    exact⟨nofun,rfl,rfl⟩
   refine WO.mX (eqN_27 a.aj b.aj) f Z Z Z Z Z<|sM Z<|sV (.ptr 96 4)<|sL Z<|sE (rI (a.al.length:Int)) (ik _ _)<|sV (.ptr 112 4)<|sL Z<|sE (rI (b.al.length:Int)) (ik _ _)<|sV (rB ((a.al.length:Int) != (b.al.length:Int)))<|sF h ?_ ?_<;>intro h
   ·refine sN<|cT<|gU Z<|sU<|sN<|qR ?_
    cases oI h
    exact⟨nofun,rfl,rfl⟩
   refine sN<|cF<|qK<|gU Z<|sV (r0)<|sN<|bE h fun q g h=>CM (CQ (WL.jZ g (fun s=>gI 0 12 10 [(2,.ptr 32 0),(3,.ptr 48 0),(5,rI s2),(6,.ptr 96 0),(7,.ptr 112 0),(8,rI s)] [(32,.var [rM aa.pd a0.am]),(48,.var [rM aa.pd a1.am]),(96,.var (aa.rc a)),(112,.var (aa.rc b))]) (fun o=>match o with| .inl y=>gX 2 0 12 5 [(2,.ptr 32 0),(3,.ptr 48 0),(5,rI y)] [(32,.var [rM aa.pd a0.am]),(48,.var [rM aa.pd a1.am])]| .inr r=>gF 12 Tryz.f12 0 (rB r,[])) Z ?_ ?_))
   ·rintro F l k C c h
    refine qS<|gS Z c<|sM Z<|sV (.ptr 96 4)<|sL Z<|sE (rI (a.al.length:Int)) (ik _ _)<|sF h ?_ ?_<;>intro h
    ·refine sN<|cT<|qK<|qS<|qB<|CN Z Z<|sV (.ptr 96 4)<|sL Z<|sM Z<|bE h fun u m h=>eG m Z<|sV (.d (ah.pd u))<|sV (.ptr 112 4)<|sL Z<|sM Z ?_
     refine bE h fun v n h=>eG n Z<|sV (.d (ah.pd v))<|bE h fun G p h=>cD (dC p)<|sF h ?_ ?_<;>intro h
     ·refine sN<|sO<|cT<|gU Z<|sU<|sN<|qR ?_
      cases oI h
      exact⟨nofun,rfl,rfl⟩
     refine sN<|sO<|cF<|qK<|CR Z Z<|sM Z<|sV (rI (rW (F+(1:Int))))<|sA Z<|sN ?_
     cases oI h
     exact⟨rfl,rfl⟩
    refine sN<|cF<|qX ?_
    cases oI h
    exact⟨nofun,rfl,rfl⟩
   intro e l k he j
   rcases q with x|D
   ·obtain⟨rfl,c⟩:=j
    refine qE<|CR c Z<|sM Z<|sV (rI (rW (x+(1:Int))))<|sA Z<|sN ?_
    cases oI h
    exact⟨rfl,rfl⟩
   obtain⟨rfl,hf⟩:=j
   cases oI h
   exact⟨nofun,rfl,hf⟩
  refine sN<|cF<|qX ?_
  cases oI h
  exact⟨nofun,rfl,rfl⟩
 intro e l k he j
 rcases t with H|E
 ·obtain⟨rfl,c⟩:=j
  refine qE<|gS Z c<|sT<|sN<|qR ?_
  exact oI h▸qD
 obtain⟨rfl,hf⟩:=j
 cases oI h
 exact hf
theorem ie{a0:ai}{a1:ac}{r:aa×Bool}(h:fR a0 a1=some r):EvP prog aL ext 16 [.d (ai.pd a0),.d (ac.pd a1)] [] (.tup [.d (aa.pd r.1),rB r.2],[]):=by
 refine Ev.body Z Tryz.func16 Z Zk<|gU Z<|sB (.ptr 32 0) 32 (.var [rM aa.pd a0.am])<|sB (.ptr 48 0) 48 (.var (ac.rc a1))<|sB (.ptr 64 0) 64 (.var zZ2)<|sU<|sN<|qS<|gU Z<|sV (r0)<|sN<|bE h fun j c h=>CM (CQ (WL.jZ c (fun s=>gI 0 16 2 [(2,.ptr 32 0),(3,.ptr 48 0),(4,.ptr 64 0),(6,rI s)] [(32,.var [rM aa.pd a0.am]),(48,.var (ac.rc a1)),(64,.var zZ2)]) (fun o=>match o with| .inl y=>gX 0 0 16 6 [(4,.ptr 64 0)] [(64,.var zZ2)]| .inr r=>gF 16 Tryz.f16 0 (.tup [.d (aa.pd r.1),rB r.2],[])) Z ?_ ?_))
 ·rintro s1 n m C i h
  refine qS<|gS Z i<|sM Z<|sV (.ptr 32 0)<|sL Z<|sE (rI (a0.am.length:Int)) (ik _ _)<|sF h ?_ ?_<;>intro h
  ·refine sN<|cT<|qK<|qS<|qB<|CN Z Z<|sV (.ptr 32 0)<|sL Z<|sM Z<|bE h fun a p h=>eG p Z<|sV (.cptr [.str a.aj.aD,.str a.aj.aC,.str a.aj.au,.str a.aj.aF,.lst (a.al.map ah.pd)])<|sV (.d (ac.pd a.aj))<|sV (.d (ac.pd a1))<|kq h (fun b h=>?_) (fun b h=>?_)
   ·refine WO.mX (eqE_27 a.aj a1) b Z Z Z Z Z ?_
    refine sN<|sO<|cT<|gU Z<|sV (.ptr 32 0)<|sL Z<|mM Z<|sV (rI (rW (s1+(1:Int))))<|bE h fun x q h=>WO.cutL (sz:=5) (g:=aa.pd) q (fun _=>Z) Z Z Z Z Z Z Z Z Z Z Z<|sV (.d (ai.pd (ai.mk x)))<|bE h fun z t h=>cR (.agg [.ref 464 0]) [(464,.arr 0 32 (z.am.map aa.pd))] (jr t)<|sV (.ref 464 0)<|bE h fun D u h=>?_
    refine WO.ma u Z Z Z Z Z Z Z Z<|bE h fun k f h=>WO.lT f Z Z Z Z Z Z<|sS 64 (.var (aa.rc k))<|sT<|sN<|qR ?_
    cases oI h
    exact⟨nofun,rfl,rfl⟩
   refine WO.mX (eqE_27 a.aj a1) b Z Z Z Z Z ?_
   refine sN<|sO<|cF<|qK<|CR Z Z<|sM Z<|sV (rI (rW (s1+(1:Int))))<|sA Z<|sN ?_
   cases oI h
   exact⟨rfl,rfl⟩
  refine sN<|cF<|qX ?_
  cases oI h
  exact⟨nofun,rfl,rfl⟩
 intro e n m he l
 rcases j with B|v
 ·obtain⟨rfl,i⟩:=l
  refine qE<|gS Z i<|sV (.agg zZ2)<|sS 64 (.var zZ2)<|sU<|sN<|qR ?_
  exact oI h▸qD
 obtain⟨rfl,hf⟩:=l
 cases oI h
 exact hf
theorem ref08_Normal_ev{a0:(List ap)}{r:(List ap)}(h:gD a0=some r):EvP prog aL ext 46 [rM ap.pd a0] [] (rM ap.pd r,[]):=by
 refine Ev.body Z Tryz.func46 Z Zk<|gU Z<|sV .jt<|sN<|gU Z<|sV .jt<|sN<|qS<|gU Z<|sV (r0)<|sN<|bE h fun b5 l h=>CM (CQ (WL.jZ l (fun s=>gI 0 46 3 [(0,rM ap.pd a0),(3,.ref 832 0),(4,rI s.1)] [(832,.arr 0 70 (s.2.map ap.pd))]) (fun o=>gX 0 0 46 12 [(3,.ref 832 0)] [(832,.arr 0 70 (o.map ap.pd))]) Z ?_ ?_))
 ·rintro⟨s1,s2⟩ j i q4 b h
  refine qS<|gS Z b<|mM Z<|sE (rI (a0.length:Int)) (ik _ _)<|sF h ?_ ?_<;>intro h
  ·refine sN<|cT<|qK<|qS<|qB<|qS<|CN Z Z<|mM Z<|bE h fun x6 h6 h=>eG h6 Z<|sV (.cptr [.int .i64 x6.az,.int .i64 x6.fTo])<|sC Z<|sM Z<|sM Z ?_
   refine bE h fun x7 h7 h=>eG h7 Z<|sV (.cptr [.int .i64 x7.fTo])<|sC Z<|sF h ?_ ?_<;>intro h
   ·refine sN<|sO<|cT<|qX<|qE<|CR Z Z<|sM Z<|sV (rI (rW (s1+(1:Int))))<|sA Z<|sN ?_
    cases oI h
    exact⟨rfl,rfl⟩
   refine sN<|sO<|cF<|qK<|gU Z<|sM Z<|WO.te Z Z Z Z Z Z Z Z Z<|sA Z<|sN<|qS<|bE h fun q k h=>CM (CQ (WL.jZ k (fun s=>gI 0 46 7 [(0,rM ap.pd a0),(3,.ref 832 0),(4,rI s1),(5,rI s)] [(832,.arr 0 70 (s2.map ap.pd))]) (fun o=>gX 2 0 46 9 [(0,rM ap.pd a0),(3,.ref 832 0),(4,rI o.1),(5,rI o.2.1)] [(832,.arr 0 70 (o.2.2.map ap.pd))]) Z ?_ ?_))
   ·rintro s9 j i c6 b h
    refine qS<|CN b Z<|sM Z<|sF h ?_ ?_<;>intro h
    ·refine mM Z<|sM Z<|sV (rI (rW (s9-(1:Int))))<|bE h fun c8 z h=>WO.ma z Z Z Z Z Z Z Z Z<|sV (.elt 832 0 ((rW (s9-(1:Int)))).toNat 0)<|bE h fun c0 B h=>WO.lT B Z Z Z Z Z Z<|mM Z<|bE h fun f C h=>eG C Z<|sV (.cptr [.int .i64 f.az,.int .i64 f.fTo])<|sC Z ?_
     refine sV (rB (decide (c0.az>f.az)))<|sF h ?_ ?_<;>intro h
     ·refine sN<|sO<|cT<|qK<|qB<|CR Z Z<|sM Z<|sV (rI (rW (s9-(1:Int))))<|sA Z<|sN ?_
      cases oI h
      exact⟨rfl,rfl⟩
     refine sN<|sO<|cF<|qX ?_
     cases oI h
     exact⟨nofun,rfl,rfl⟩
    refine sM Z<|k3<|k3<|k3<|k3<|sU ?_
    refine sN<|sO<|cF<|qX ?_
    cases oI h
    exact⟨nofun,rfl,rfl⟩
   intro e j i he n
   obtain⟨rfl,b⟩:=n
   refine qE<|gS Z b<|mM Z<|sM Z<|bE h fun t D h=>eG D Z<|sV (.d (ap.pd t))<|sV (.d (.lst ([t].map ap.pd)))<|bE h fun c9 E h=>aR E (fun _=>Z) Z<|sA Z<|sN<|CN Z Z<|sM Z ?_
   refine sM Z<|sV (rI (rW (q.2.1+(1:Int))))<|bE h fun d0 F h=>WO.subR F Z Z Z Z Z Z Z Z Z Z Z Z<|mM Z<|bE h fun d1 G h=>WO.subR G Z Z Z Z Z Z Z Z Z Z Z Z<|bE h fun d2 H h=>bE h fun d3 I h=>WO.copyG Z Z Z Z Z Z Z Z (sP H Z) (wq I Z) Z Z (fun _=>Z) ?_
   refine sN<|sO<|CR Z Z<|mM Z<|mM Z<|bE h fun v J h=>eG J Z<|sV (.d (ap.pd v))<|bE h fun d4 K h=>WO.ma K Z Z Z Z Z Z Z Z<|bE h fun d5 L h=>WO.vd (g:=ap.pd) (sz:=2) (p:=ap.pd v) L (fun _=>Z) (fun _=>Z) Z Z Z Z Z Z Z Z Z<|sN<|CR Z Z ?_
   refine sM Z<|sV (rI (rW (q.1+(1:Int))))<|sA Z<|sN ?_
   cases oI h
   exact⟨rfl,rfl⟩
  refine sN<|cF<|qX ?_
  cases oI h
  exact⟨nofun,rfl,rfl⟩
 intro e j i he n
 obtain⟨rfl,b⟩:=n
 refine qE<|gS Z b<|sV .jt<|sN<|qS<|gU Z<|sV (r0)<|sN<|bE h fun c5 m h=>CM (CQ (WL.jZ m (fun s=>gI 0 46 14 [(3,.ref 832 0),(6,.ref 1840 0),(7,rI s.1)] [(832,.arr 0 70 (b5.map ap.pd)),(1840,.arr 0 70 (s.2.map ap.pd))]) (fun o=>gX 4 0 46 20 [(6,.ref 1840 0)] [(1840,.arr 0 70 (o.map ap.pd))]) Z ?_ ?_))
 ·rintro⟨c,a⟩ j i c7 b h
  refine qS<|gS Z b<|mM Z<|WO.te Z Z Z Z Z Z Z Z Z<|sF h ?_ ?_<;>intro h
  ·refine sN<|cT<|qK<|qS<|qB<|gU Z<|sM Z<|WO.te Z Z Z Z Z Z Z Z Z<|sA Z<|sN<|CN Z Z<|sM Z<|sF h ?_ ?_<;>intro h
   ·refine mM Z<|sM Z<|bE h fun d6 N h=>WO.ma N Z Z Z Z Z Z Z Z<|sV (.elt 832 0 (c).toNat 0)<|bE h fun c1 O h=>WO.lT O Z Z Z Z Z Z<|mM Z<|sV (rI (rW ((a.length:Int)-(1:Int))))<|bE h fun d7 Q h=>WO.ma Q Z Z Z Z Z Z Z Z<|sV (.elt 1840 0 ((rW ((a.length:Int)-(1:Int)))).toNat 1)<|bE h fun c2 T h=>?_
    refine WO.lT T Z Z Z Z Z Z<|sV (rB (decide (c1.az<=c2.fTo)))<|sF h ?_ ?_<;>intro h
    ·refine sN<|sO<|cT<|CO Z Z<|mM Z<|sV (rI (rW ((a.length:Int)-(1:Int))))<|mM Z<|sV (rI (rW ((a.length:Int)-(1:Int))))<|bE h fun d8 U h=>WO.ma U Z Z Z Z Z Z Z Z<|sV (.elt 1840 0 ((rW ((a.length:Int)-(1:Int)))).toNat 1)<|bE h fun x W h=>WO.lT W Z Z Z Z Z Z<|sM Z ?_
     refine sM Z<|bE h fun e0 X h=>WO.ma X Z Z Z Z Z Z Z Z<|sV (.elt 832 0 (c).toNat 1)<|bE h fun y Y h=>WO.lT Y Z Z Z Z Z Z<|sV (rI (if y.fTo>x.fTo then y.fTo else x.fTo))<|bE h fun e1 a4 h=>WO.ma a4 Z Z Z Z Z Z Z Z<|sV (.elt 1840 0 ((rW ((a.length:Int)-(1:Int)))).toNat 1)<|bE h fun e2 a5 h=>WO.rk (g:=ap.pd) (u:=[]) (sz:=1) a5 (fun _=>Z) (fun _=>CT Z) Z Z Z Z Z Z Z Z Z Z Z ?_
     refine sN<|sO<|CR Z Z<|sM Z<|sV (rI (rW (c+(1:Int))))<|sA Z<|sN ?_
     cases oI h
     exact⟨rfl,rfl⟩
    refine sN<|sO<|cF<|CR Z Z<|mM Z<|sM Z<|bE h fun e3 a9 h=>WO.ma a9 Z Z Z Z Z Z Z Z<|bE h fun c3 b0 h=>WO.lT b0 Z Z Z Z Z Z<|sV (.d (.lst ([c3].map ap.pd)))<|bE h fun e4 b1 h=>aR b1 (fun _=>Z) Z<|sA Z<|sN ?_
    refine CR Z Z<|sM Z<|sV (rI (rW (c+(1:Int))))<|sA Z<|sN ?_
    cases oI h
    exact⟨rfl,rfl⟩
   refine sM Z<|k3<|k3<|k3<|k3<|sU ?_
   refine sN<|sO<|cF<|CR Z Z<|mM Z<|sM Z<|bE h fun e5 b2 h=>WO.ma b2 Z Z Z Z Z Z Z Z<|bE h fun c4 b3 h=>WO.lT b3 Z Z Z Z Z Z<|sV (.d (.lst ([c4].map ap.pd)))<|bE h fun e6 b4 h=>aR b4 (fun _=>Z) Z<|sA Z<|sN ?_
   refine CR Z Z<|sM Z<|sV (rI (rW (c+(1:Int))))<|sA Z<|sN ?_
   cases oI h
   exact⟨rfl,rfl⟩
  refine sN<|cF<|qX ?_
  cases oI h
  exact⟨nofun,rfl,rfl⟩
 intro e j i he n
 obtain⟨rfl,b⟩:=n
 refine qE<|gS Z b<|sM Z<|sA Z<|sN<|qR ?_
 exact oI h▸qD
theorem iZ{a0:ai}{a1:ac}{r:(List ap)}(h:gg a0 a1=some r):EvP prog aL ext 19 [.d (ai.pd a0),.d (ac.pd a1)] [] (rM ap.pd r,[]):=by
 refine Ev.body Z Tryz.func19 Z Zk<|gU Z<|sB (.ptr 32 0) 32 (.var [rM aa.pd a0.am])<|sB (.ptr 48 0) 48 (.var (ac.rc a1))<|sV .jt<|sN<|qS<|gU Z<|sV (.d (ai.pd a0))<|bE h fun B h1 h=>cD (eh h1)<|sF h ?_ ?_<;>intro h
 ·refine sN<|cT<|gU Z<|sV .jt<|sN<|qR ?_
  exact oI h▸qD
 refine sN<|cF<|qK<|gU Z<|sV (.d (ai.pd a0))<|sV (.d (ac.pd a1))<|bE h fun c p h=>cR (.tup [.d (aa.pd c.1),rB c.2]) [] (ie p)<|sM Z<|sV (.d (aa.pd c.1))<|sV (rB c.2)<|sB (.ptr 80 0) 80 (.var zZ2)<|sS 80 (.var (aa.rc c.1))<|sA Z<|sN ?_
 refine gU Z<|sV .jt<|sN<|qS<|gU Z<|sV (r0)<|sN<|bE h fun u f h=>CM (CQ (WL.jZ f (fun s=>gI 0 19 6 [(5,.ptr 80 0),(7,.ref 640 0),(8,rI s.1)] [(80,.var (aa.rc c.1)),(640,.arr 0 70 (s.2.map ap.pd))]) (fun o=>gX 0 0 19 9 [(7,.ref 640 0)] [(640,.arr 0 70 (o.map ap.pd))]) Z ?_ ?_))
 ·rintro⟨v,z⟩ n m y k h
  refine qS<|gS Z k<|sM Z<|sV (.ptr 80 4)<|sL Z<|sE (rI (c.1.al.length:Int)) (ik _ _)<|sF h ?_ ?_<;>intro h
  ·refine sN<|cT<|qK<|qS<|qB<|CO Z Z<|sM Z<|sV (.ptr 80 4)<|sL Z<|sM Z<|bE h fun b q h=>eG q Z<|sV (.cptr [.int .i64 b.az,.int .i64 b.fTo,.int .i64 b.aM.aI,.int .i64 b.aM.aH,.int .i64 b.aq.fX,.int .i64 b.aq.fY,.int .i64 b.aq.fZ,.lst (b.aB.aA.map ak.pd)])<|sC Z<|sV (.ptr 80 4) ?_
   refine sL Z<|sM Z<|bE h fun a g h=>eG g Z<|sV (.cptr [.int .i64 a.fTo,.int .i64 a.aM.aI,.int .i64 a.aM.aH,.int .i64 a.aq.fX,.int .i64 a.aq.fY,.int .i64 a.aq.fZ,.lst (a.aB.aA.map ak.pd)])<|sC Z<|sV (.d (ap.pd (ap.mk b.az a.fTo)))<|sV (.d (.lst ([(ap.mk b.az a.fTo)].map ap.pd)))<|bE h fun x i h=>aR i (fun _=>Z) Z<|sA Z ?_
   refine sN<|sO<|CR Z Z<|sM Z<|sV (rI (rW (v+(1:Int))))<|sA Z<|sN ?_
   cases oI h
   exact⟨rfl,rfl⟩
  refine sN<|cF<|qX ?_
  cases oI h
  exact⟨nofun,rfl,rfl⟩
 intro e n m he t
 obtain⟨rfl,k⟩:=t
 refine qE<|gS Z k<|sM Z<|bE h fun l j h=>cR (rM ap.pd l) [(640,.dead)] (ref08_Normal_ev j)<|sA Z<|sN<|qR ?_
 exact oI h▸qD
theorem ref19_At_ev{a0:ai}{a1:ac}{a2:Int}{r:ah×Int}(h:jS a0 a1 a2=some r):EvP prog aL ext 21 [.d (ai.pd a0),.d (ac.pd a1),rI a2] [] (.tup [.d (ah.pd r.1),rI r.2],[]):=by
 refine Ev.body Z Tryz.func21 Z Zk<|gU Z<|sB (.ptr 48 0) 48 (.var [rM aa.pd a0.am])<|sB (.ptr 64 0) 64 (.var (ac.rc a1))<|sB (.ptr 96 0) 96 (.var zZ1)<|sV (r0)<|sN<|qS<|gU Z<|sV (.d (ai.pd a0))<|bE h fun B h1 h=>cD (eh h1)<|sF h ?_ ?_<;>intro h
 ·refine sN<|cT<|gU Z<|sG (.agg zZ1)<|sH 96 (.var zZ1)<|sV (rI 1)<|sN<|qR ?_
  cases oI h
  exact qG
 refine sN<|cF<|qK<|gU Z<|sV (.d (ai.pd a0))<|sV (.d (ac.pd a1))<|bE h fun c q h=>cR (.tup [.d (aa.pd c.1),rB c.2]) [] (ie q)<|sM Z<|sV (.d (aa.pd c.1))<|sV (rB c.2)<|sB (.ptr 128 0) 128 (.var zZ2)<|sS 128 (.var (aa.rc c.1))<|sA Z<|sN ?_
 refine qS<|gU Z<|sV (r0)<|sN<|bE h fun k f h=>CM (CQ (WL.jZ f (fun s=>gI 0 21 5 [(2,rI a2),(6,.ptr 96 0),(8,.ptr 128 0),(10,rI s)] [(96,.var zZ1),(128,.var (aa.rc c.1))]) (fun o=>match o with| .inl y=>gX 0 0 21 9 [(6,.ptr 96 0)] [(96,.var zZ1)]| .inr r=>gF 21 Tryz.f21 0 (.tup [.d (ah.pd r.1),rI r.2],[])) Z ?_ ?_))
 ·rintro m p n z j h
  refine qS<|gS Z j<|sM Z<|sV (.ptr 128 4)<|sL Z<|sE (rI (c.1.al.length:Int)) (ik _ _)<|sF h ?_ ?_<;>intro h
  ·refine sN<|cT<|qK<|qS<|qB<|gU Z<|sV (.ptr 128 4)<|sL Z<|sM Z<|bE h fun a t h=>eG t Z<|sV (.cptr [.int .i64 a.az,.int .i64 a.fTo,.int .i64 a.aM.aI,.int .i64 a.aM.aH,.int .i64 a.aq.fX,.int .i64 a.aq.fY,.int .i64 a.aq.fZ,.lst (a.aB.aA.map ak.pd)])<|sC Z<|sM Z<|sF h ?_ ?_<;>intro h
   ·refine mM Z<|sV (.ptr 128 4)<|sL Z<|sM Z<|bE h fun b u h=>eG u Z<|sV (.cptr [.int .i64 b.fTo,.int .i64 b.aM.aI,.int .i64 b.aM.aH,.int .i64 b.aq.fX,.int .i64 b.aq.fY,.int .i64 b.aq.fZ,.lst (b.aB.aA.map ak.pd)])<|sC Z<|sV (rB (decide (a2<b.fTo)))<|sF h ?_ ?_<;>intro h
    ·refine sN<|cT<|gU Z<|sV (.ptr 128 4)<|sL Z<|sM Z<|bE h fun g i h=>eG i Z<|sV (.d (ah.pd g))<|sH 96 (.var (ah.rc g))<|sV (r0)<|sN<|qR ?_
     cases oI h
     exact⟨nofun,rfl,rfl⟩
    refine sN<|cF<|qK<|CR Z Z<|sM Z<|sV (rI (rW (m+(1:Int))))<|sA Z<|sN ?_
    cases oI h
    exact⟨rfl,rfl⟩
   refine sM Z<|k3<|k3<|sK<|sK<|sU<|sN<|cF<|qK<|CR Z Z<|sM Z ?_
   refine sV (rI (rW (m+(1:Int))))<|sA Z<|sN ?_
   cases oI h
   exact⟨rfl,rfl⟩
  refine sN<|cF<|qX ?_
  cases oI h
  exact⟨nofun,rfl,rfl⟩
 intro e p n he l
 rcases k with x|v
 ·obtain⟨rfl,j⟩:=l
  refine qE<|gS Z j<|sG (.agg zZ1)<|sH 96 (.var zZ1)<|sV (rI 6)<|sN<|qR ?_
  cases oI h
  exact qG
 obtain⟨rfl,hf⟩:=l
 cases oI h
 exact hf
theorem law19_a0_ev{a0:aa}{r:ah}(h:iV a0=some r):EvP prog aL ext 24 [.d (aa.pd a0)] [] (.d (ah.pd r),[]):=by
 refine Ev.body Z Tryz.func24 Z Zk<|gU Z<|sB (.ptr 16 0) 16 (.var (aa.rc a0))<|sB (.ptr 32 0) 32 (.var zZ1)<|sN<|qS<|gU Z<|sV (.ptr 16 4)<|sL Z<|sE (rI (a0.al.length:Int)) (ik _ _)<|sF h ?_ ?_<;>intro h
 ·refine sN<|cT<|gU Z<|sG (.agg zZ1)<|sH 32 (.var zZ1)<|sN<|qR ?_
  cases oI h
  exact qG
 refine sN<|cF<|qK<|gU Z<|sV (.ptr 16 4)<|sL Z<|bE h fun x2 a h=>eG a Z<|sV (.d (ah.pd x2))<|sH 32 (.var (ah.rc x2))<|sN<|qR ?_
 cases oI h
 exact qG
theorem jV{a0:(List UInt8)}{r:(List (List UInt8))×Bool}(h:ek a0=some r):EvP prog aL ext 83 [rS a0] [] (.tup [.d (.lst (r.1.map PD.str)),rB r.2],[]):=by
 refine Ev.body Z Tryz.func83 Z Zk<|gU Z<|sV .jt<|sU<|sN<|gU Z<|sM Z<|bE h fun a h1 h=>cD ((split_ev Z) h1)<|sA Z<|sN<|qS<|gU Z<|sM Z<|sE (rI (a.length:Int)) (ik _ _) ?_
 refine sV (r0)<|sN<|bE h fun t f h=>CM (CQ (WL.jZ f (fun s=>gI 0 83 3 [(4,.d (.lst (a.map PD.str))),(10,.d (.lst (a.map PD.str))),(11,rI (a.length:Int)),(12,rI s)] []) (fun o=>match o with| .inl y=>gX 0 0 83 14 [(4,.d (.lst (a.map PD.str)))] []| .inr r=>gF 83 Tryz.f83 0 (.tup [.d (.lst (r.1.map PD.str)),rB r.2],[])) Z ?_ ?_))
 ·rintro s2 k j H b h
  refine gS Z b<|sF h ?_ ?_<;>intro h
  ·refine sN<|qS<|cT<|qK<|qS<|qB<|gU Z<|bE h fun i B h=>eG B Z<|sC Z<|sA Z<|sN<|qS<|gU Z<|sM Z ?_
   refine sV (rI (i.length:Int))<|sV (r0)<|sN<|bE h fun q c h=>CM (CQ (WL.jZ c (fun s=>gI 0 83 6 [(4,.d (.lst (a.map PD.str))),(6,rS i),(10,.d (.lst (a.map PD.str))),(11,rI (a.length:Int)),(12,rI s2),(17,rI (i.length:Int)),(18,rI s)] []) (fun o=>match o with| .inl y=>gX 2 0 83 11 [(4,.d (.lst (a.map PD.str))),(6,rS i),(10,.d (.lst (a.map PD.str))),(11,rI (a.length:Int)),(12,rI y)] []| .inr r=>gF 83 Tryz.f83 0 (.tup [.d (.lst (r.1.map PD.str)),rB r.2],[])) Z ?_ ?_))
   ·rintro u k j I b h
    refine gS Z b<|sF h ?_ ?_<;>intro h
    ·refine sN<|qS<|cT<|qK<|qS<|qB<|gU Z<|sM Z<|sA Z<|sN<|gU Z<|mM Z<|bE h fun E l h=>WO.l8 l Z Z Z Z Z Z ?_
     refine bE h fun F m h=>cD (iP m)<|sF h ?_ ?_<;>intro h
     ·refine mM Z<|sM Z<|bE h fun v n h=>WO.l8 n Z Z Z Z Z Z<|sV (rB (v != (63:Int)))<|sF h ?_ ?_<;>intro h
      ·refine mM Z<|sM Z<|bE h fun x p h=>WO.l8 p Z Z Z Z Z Z<|sV (rB (x != (42:Int)))<|sF h ?_ ?_<;>intro h
       ·refine sN<|cT<|gU Z<|sV .jt<|sU<|sN<|qR ?_
        cases oI h
        exact⟨nofun,rfl,rfl⟩
       refine sN<|cF<|qK<|CR Z Z<|sV (rI (rW (u+(1:Int))))<|sM Z<|sN ?_
       cases oI h
       exact⟨rfl,rfl⟩
      refine sM Z<|k3<|sK<|sU<|sN<|cF<|qK<|CR Z Z<|sV (rI (rW (u+(1:Int))))<|sM Z<|sN ?_
      cases oI h
      exact⟨rfl,rfl⟩
     refine sM Z<|k3<|sK<|sU<|sM Z<|k3<|sK<|sU<|sN<|cF<|qK ?_
     refine CR Z Z<|sV (rI (rW (u+(1:Int))))<|sM Z<|sN ?_
     cases oI h
     exact⟨rfl,rfl⟩
    refine sN<|qS<|cF<|qX ?_
    cases oI h
    exact⟨nofun,rfl,rfl⟩
   intro e k j he g
   rcases q with z|C
   ·obtain⟨rfl,b⟩:=g
    refine qE<|gS Z b<|sM Z<|sV (rI (i.length:Int))<|sF h ?_ ?_<;>intro h
    ·refine sN<|cT<|gU Z<|sV .jt<|sU<|sN<|qR ?_
     cases oI h
     exact⟨nofun,rfl,rfl⟩
    refine sN<|cF<|qK<|CR Z Z<|sV (rI (rW (z+(1:Int))))<|sM Z<|sN ?_
    cases oI h
    exact⟨rfl,rfl⟩
   obtain⟨rfl,hf⟩:=g
   cases oI h
   exact⟨nofun,rfl,hf⟩
  refine sN<|qS<|cF<|qX ?_
  cases oI h
  exact⟨nofun,rfl,rfl⟩
 intro e k j he g
 rcases t with G|D
 ·obtain⟨rfl,b⟩:=g
  refine qE<|gS Z b<|mM Z<|sE (rI (a.length:Int)) (ik _ _)<|sV (rB ((a.length:Int)==(4:Int)))<|sA Z<|sA Z<|sN<|qR ?_
  exact oI h▸qD
 obtain⟨rfl,hf⟩:=g
 cases oI h
 exact hf
theorem source_parts_ev{a0:ac}{r:bd}(h:gG a0=some r):EvP prog aL ext 108 [.d (ac.pd a0)] [] (.d (bd.pd r),[]):=by
 refine Ev.body Z Tryz.func108 Z Zk<|gU Z<|sB (.ptr 16 0) 16 (.var (ac.rc a0))<|sB (.ptr 32 0) 32 (.var [rS [],rS [],rS [],rS []])<|sN<|gU Z<|sV (.ptr 16 0)<|sL Z<|sV (.ptr 16 1)<|sL Z<|sV (.ptr 16 2)<|sL Z<|sV (.ptr 16 3)<|sL Z<|sV (.d (bd.pd (bd.mk a0.aD a0.aC a0.au a0.aF))) ?_
 refine sS 32 (.var (ac.rc a0))<|sN<|qR ?_
 exact oI h▸qD
theorem cY:∀(a:Nat){a0:(List UInt8)}{a1:(List UInt8)}{r:Bool}(_:bh a a0 a1=some r),EvP prog aL ext 109 [rS a0,rS a1] [] (rB r,[])
  |0,_,_,_,h=>by cases h
  |a+1,a0,a1,r,h=>by
   refine Ev.body Z Tryz.func109 Z Zk<|gU Z<|sU<|sN<|qS<|qB<|gU Z<|sM Z<|sF h ?_ ?_<;>intro h
   ·refine sA Z<|sN<|cT<|gU Z<|sM Z<|sV (rB (a1== []))<|sA Z<|sN<|qR ?_
    exact oI h▸qD
   refine sA Z<|sN<|cF<|gU Z<|sM Z<|bE h fun x2 y h=>WO.l8 y Z Z Z Z Z Z<|sF h ?_ ?_<;>intro h
   ·refine sA Z<|sN<|cT<|gU Z<|sM Z<|bE h fun I z h=>WO.qi z Z Z Z Z Z Z Z Z Z Z<|sM Z<|bE h fun J t h=>kq h (fun c h=>?_) (fun c h=>?_)
    ·refine WO.lg (v:=rB true) (u:=[]) Z Z (fun _=>Z) Z Z Z Z Z (cY a t) Z Z (congrArg (fun b=>RV.d (.bool b)) c) Z<|sM Z<|k3<|k3<|sK<|sK<|sT<|sA Z<|sN<|qR ?_
     exact oI h▸qD
    refine WO.lg (v:=rB false) (u:=[]) Z Z (fun _=>Z) Z Z Z Z Z (cY a t) Z Z (congrArg (fun b=>RV.d (.bool b)) c) Z<|mM Z<|sF h ?_ ?_<;>intro h
    ·refine mM Z<|sM Z<|bE h fun K B h=>WO.qi B Z Z Z Z Z Z Z Z Z Z<|bE h fun x C h=>cD (cY a C)<|sV (rB x)<|sV (rB x)<|sA Z<|sN<|qR ?_
     exact oI h▸qD
    refine sM Z<|k3<|sK<|sU<|sU<|sA Z<|sN<|qR ?_
    exact oI h▸qD
   refine sA Z<|sN<|cF<|qK<|CN Z Z<|sM Z<|sF h ?_ ?_<;>intro h
   ·refine mM Z<|bE h fun D g h=>WO.l8 g Z Z Z Z Z Z<|sF h ?_ ?_<;>intro h
    ·refine sM Z<|k3<|sK<|sK<|sT<|sT<|mM Z<|bE h fun E i h=>WO.qi i Z Z Z Z Z Z Z Z Z Z<|sM Z<|bE h fun F j h=>WO.qi j Z Z Z Z Z Z Z Z Z Z ?_
     refine bE h fun q k h=>cD (cY a k)<|sV (rB q)<|sA Z ?_
     refine sN<|sO<|qR ?_
     exact oI h▸qD
    refine mM Z<|bE h fun e l h=>WO.l8 l Z Z Z Z Z Z<|sM Z<|bE h fun f m h=>WO.l8 m Z Z Z Z Z Z<|sV (rB (e==f))<|sV (rB (e==f))<|sF h ?_ ?_<;>intro h
    ·refine mM Z<|bE h fun G n h=>WO.qi n Z Z Z Z Z Z Z Z Z Z<|sM Z<|bE h fun H o h=>WO.qi o Z Z Z Z Z Z Z Z Z Z<|bE h fun s p h=>cD (cY a p)<|sV (rB s)<|sA Z ?_
     refine sN<|sO<|qR ?_
     exact oI h▸qD
    refine sM Z<|k3<|sK<|sK<|sU<|sA Z ?_
    refine sN<|sO<|qR ?_
    exact oI h▸qD
   refine sM Z<|k3<|k3<|k3<|sK<|sU<|sM Z<|sK<|sK ?_
   refine k3<|sU<|sA Z ?_
   refine sN<|sO<|qR ?_
   exact oI h▸qD
theorem fF{a0:(List UInt8)}{a1:(List UInt8)}{r:Bool}(h:df a0 a1=some r):EvP prog aL ext 109 [rS a0,rS a1] [] (rB r,[]):=
  let⟨n,a⟩:=uj h;cY n a
theorem source_match_ev{a0:(List (List UInt8))}{a1:ac}{r:Bool}(h:eA a0 a1=some r):EvP prog aL ext 84 [.d (.lst (a0.map PD.str)),.d (ac.pd a1)] [] (rB r,[]):=by
 refine Ev.body Z Tryz.func84 Z Zk<|gU Z<|sB (.ptr 48 0) 48 (.var (ac.rc a1))<|sU<|sN<|qS<|gU Z<|sV (.d (ac.pd a1))<|bE h fun a h1 h=>cD (source_parts_ev h1)<|sV (r0)<|sN<|CM (CQ ?_)
 refine WL.round<|CP (R0:=[(0,.d (.lst (a0.map PD.str))),(8,.d (bd.pd a)),(9,r0)]) (B0:=[]) Z Z<|sT<|sN<|qS<|cT<|qK<|qS<|qB<|gU Z<|sM Z<|sV (rS a.a0)<|sA Z<|sA Z<|sN ?_
 refine gU Z<|mM Z<|bE h fun x2 e h=>eG e Z<|sC Z<|sM Z<|bE h fun n f h=>cD (fF f)<|sF h ?_ ?_<;>intro h
 ·refine sN<|cT<|gU Z<|sU<|sN<|qR ?_
  exact oI h▸qD
 refine sN<|cF<|qK<|CR Z Z<|sV (rI 1)<|sM Z<|sN<|WL.round<|CP (R0:=[(0,.d (.lst (a0.map PD.str))),(8,.d (bd.pd a)),(9,rI 1)]) (B0:=[]) Z Z<|sT<|sN<|qS<|cT<|qK<|qS ?_
 refine qB<|gU Z<|sM Z<|sV (rS a.a1)<|sA Z<|sA Z<|sN<|gU Z<|mM Z<|bE h fun o g h=>eG g Z<|sC Z<|sM Z<|bE h fun p i h=>?_
 refine cD (fF i)<|sF h ?_ ?_<;>intro h
 ·refine sN<|cT<|gU Z<|sU<|sN<|qR ?_
  exact oI h▸qD
 refine sN<|cF<|qK<|CR Z Z<|sV (rI 2)<|sM Z<|sN<|WL.round<|CP (R0:=[(0,.d (.lst (a0.map PD.str))),(8,.d (bd.pd a)),(9,rI 2)]) (B0:=[]) Z Z<|sT<|sN<|qS<|cT<|qK<|qS ?_
 refine qB<|gU Z<|sM Z<|sV (rS a.a2)<|sA Z<|sA Z<|sN<|gU Z<|mM Z<|bE h fun q j h=>eG j Z<|sC Z<|sM Z<|bE h fun s k h=>?_
 refine cD (fF k)<|sF h ?_ ?_<;>intro h
 ·refine sN<|cT<|gU Z<|sU<|sN<|qR ?_
  exact oI h▸qD
 refine sN<|cF<|qK<|CR Z Z<|sV (rI 3)<|sM Z<|sN<|WL.round<|CP (R0:=[(0,.d (.lst (a0.map PD.str))),(8,.d (bd.pd a)),(9,rI 3)]) (B0:=[]) Z Z<|sT<|sN<|qS<|cT<|qK<|qS ?_
 refine qB<|gU Z<|sM Z<|sV (rS a.a3)<|sA Z<|sA Z<|sN<|gU Z<|mM Z<|bE h fun l b h=>eG b Z<|sC Z<|sM Z<|bE h fun m c h=>?_
 refine cD (fF c)<|sF h ?_ ?_<;>intro h
 ·refine sN<|cT<|gU Z<|sU<|sN<|qR ?_
  exact oI h▸qD
 refine sN<|cF<|qK<|CR Z Z<|sV (rI 4)<|sM Z<|sN<|WL.round<|CP (R0:=[(0,.d (.lst (a0.map PD.str))),(8,.d (bd.pd a)),(9,rI 4)]) (B0:=[]) Z Z<|sU<|sN<|qS<|cF<|qX<|qE ?_
 refine gU Z<|sT<|sN<|qR ?_
 exact oI h▸qD
theorem source_Select_ev{a0:(List UInt8)}{a1:(List ac)}{r:(List ac)×Int}(h:gd a0 a1=some r):EvP prog aL ext 50 [rS a0,rM ac.pd a1] [] (.tup [rM ac.pd r.1,rI r.2],[]):=by
 refine Ev.body Z Tryz.func50 Z Zk<|gU Z<|sV .jt<|sV (r0)<|sN<|gU Z<|sM Z<|bE h fun g h1 h=>cR (.tup [.d (.lst (g.1.map PD.str)),rB g.2]) [] (jV h1)<|sM Z<|sV (.d (.lst (g.1.map PD.str)))<|sV (rB g.2)<|sA Z<|sA Z<|sN ?_
 refine qS<|gU Z<|sM Z<|sF h ?_ ?_<;>intro h
 ·refine sN<|cT<|gU Z<|sV .jt<|sV (rI 3)<|sN<|qR ?_
  exact oI h▸qD
 refine sN<|cF<|qK<|gU Z<|sV .jt<|sN<|qS<|gU Z<|sM Z<|sE (rI (a1.length:Int)) (ik _ _)<|sV (r0)<|sN<|bE h fun x f h=>CM (CQ (WL.jZ f (fun s=>gI 0 50 6 [(6,.d (.lst (g.1.map PD.str))),(8,.ref 544 0),(18,rM ac.pd a1),(19,rI (a1.length:Int)),(20,rI s.1)] [(544,.arr 0 27 (s.2.map ac.pd))]) (fun o=>gX 0 0 50 11 [(8,.ref 544 0)] [(544,.arr 0 27 (o.map ac.pd))]) Z ?_ ?_))
 ·rintro⟨l,C⟩ p n B k h
  refine gS Z k<|sF h ?_ ?_<;>intro h
  ·refine sN<|qS<|cT<|qK<|qS<|qB<|gU Z<|bE h fun c q h=>eG q Z<|sV (.d (ac.pd c))<|sB (.ptr 160 0) 160 (.var [rS [],rS [],rS [],rS []])<|sS 160 (.var (ac.rc c))<|sN<|gU Z<|sV (.d (ac.pd c)) ?_
   refine bE h fun D m h=>kq h (fun a h=>?_) (fun a h=>?_)
   ·refine WO.lg (v:=rB true) (u:=[]) Z Z (fun _=>Z) Z Z Z Z Z (gt m) Z Z (congrArg (fun b=>RV.d (.bool b)) a) Z<|mM Z<|sV (.d (ac.pd c))<|bE h fun y i h=>cD (source_match_ev i)<|sF h ?_ ?_<;>intro h
    ·refine sN<|cT<|CR Z Z<|sM Z<|sV (.d (ac.pd c))<|sV (.d (.lst ([c].map ac.pd)))<|bE h fun z j h=>aR j (fun _=>Z) Z<|sA Z<|sN<|CR Z Z<|sV (rI (rW (l+(1:Int))))<|sM Z<|sN ?_
     cases oI h
     exact⟨rfl,rfl⟩
    refine sN<|cF<|qK<|CR Z Z<|sV (rI (rW (l+(1:Int))))<|sM Z<|sN ?_
    cases oI h
    exact⟨rfl,rfl⟩
   refine WO.lg (v:=rB false) (u:=[]) Z Z (fun _=>Z) Z Z Z Z Z (gt m) Z Z (congrArg (fun b=>RV.d (.bool b)) a) Z<|sM Z<|k3<|sU<|sN<|cF<|qK<|CR Z Z<|sV (rI (rW (l+(1:Int))))<|sM Z<|sN ?_
   cases oI h
   exact⟨rfl,rfl⟩
  refine sN<|qS<|cF<|qX ?_
  cases oI h
  exact⟨nofun,rfl,rfl⟩
 intro e p n he t
 obtain⟨rfl,k⟩:=t
 refine qE<|gS Z k<|sM Z<|sA Z<|sV (r0)<|sN<|qR ?_
 exact oI h▸qD
theorem iT{a0:ai}{a1:(List UInt8)}{a2:Int}{r:(List ac)×Int}(h:dY a0 a1 a2=some r):EvP prog aL ext 25 [.d (ai.pd a0),rS a1,rI a2] [] (.tup [rM ac.pd r.1,rI r.2],[]):=by
 refine Ev.body Z Tryz.func25 Z Zk<|gU Z<|sB (.ptr 48 0) 48 (.var [rM aa.pd a0.am])<|sV .jt<|sV (r0)<|sN<|qS<|gU Z<|sV (.d (ai.pd a0))<|bE h fun y h1 h=>cD (cK h1)<|sF h ?_ ?_<;>intro h
 ·refine sN<|cT<|gU Z<|sV .jt<|sV (rI 1)<|sN<|qR ?_
  exact oI h▸qD
 refine sN<|cF<|qK<|gU Z<|sV .jt<|sN<|qS<|gU Z<|sV (.ptr 48 0)<|sL Z<|sE (rI (a0.am.length:Int)) (ik _ _)<|sV (r0)<|sN<|bE h fun t b h=>CM (CQ (WL.jZ b (fun s=>gI 0 25 5 [(1,rS a1),(2,rI a2),(8,.ref 544 0),(17,rM aa.pd a0.am),(18,rI (a0.am.length:Int)),(19,rI s.1)] [(544,.arr 0 27 (s.2.map ac.pd))]) (fun o=>gX 0 0 25 11 [(1,rS a1),(8,.ref 544 0)] [(544,.arr 0 27 (o.map ac.pd))]) Z ?_ ?_))
 ·rintro⟨k,x⟩ m l v j h
  refine gS Z j<|sF h ?_ ?_<;>intro h
  ·refine sN<|qS<|cT<|qK<|qS<|qB<|gU Z<|bE h fun c n h=>eG n Z<|sV (.d (aa.pd c))<|sB (.ptr 160 0) 160 (.var zZ2)<|sS 160 (.var (aa.rc c))<|sN<|gU Z<|sV (.d (aa.pd c)) ?_
   refine sM Z<|bE h fun f p h=>cR (.tup [.d (ah.pd f.1),rB f.2]) [] (iN p)<|sM Z<|sV (.d (ah.pd f.1))<|sV (rB f.2)<|sB (.ptr 176 0) 176 (.var zZ1)<|sH 176 (.var (ah.rc f.1))<|sA Z<|sN<|gU Z<|sF h ?_ ?_<;>intro h
   ·refine sN<|cT<|CR Z Z<|sM Z<|sV (.ptr 160 0)<|sV (.d (ac.pd c.aj))<|sV (.d (.lst ([c.aj].map ac.pd)))<|bE h fun u g h=>aR g (fun _=>Z) Z<|sA Z<|sN<|CR Z Z<|sV (rI (rW (k+(1:Int))))<|sM Z<|sN ?_
    cases oI h
    exact⟨rfl,rfl⟩
   refine sN<|cF<|qK<|CR Z Z<|sV (rI (rW (k+(1:Int))))<|sM Z<|sN ?_
   cases oI h
   exact⟨rfl,rfl⟩
  refine sN<|qS<|cF<|qX ?_
  cases oI h
  exact⟨nofun,rfl,rfl⟩
 intro e m l he q
 obtain⟨rfl,j⟩:=q
 refine qE<|gS Z j<|mM Z<|bE h fun a i h=>cR (.tup [rM ac.pd a.1,rI a.2]) [(544,.dead)] (source_Select_ev i)<|sV (rM ac.pd a.1)<|sV (rI a.2)<|sA Z<|sA Z<|sN<|qR ?_
 exact oI h▸qD
theorem jR{a0:(List ap)}{a1:Int}{r:Bool}(h:gJ a0 a1=some r):EvP prog aL ext 51 [rM ap.pd a0,rI a1] [] (rB r,[]):=by
 refine Ev.body Z Tryz.func51 Z Zk<|gU Z<|sU<|sN<|qS<|gU Z<|sV (r0)<|sN<|bE h fun m b h=>CM (CQ (WL.jZ b (fun s=>gI 0 51 2 [(0,rM ap.pd a0),(1,rI a1),(5,rI s)] []) (fun o=>match o with| .inl y=>gX 0 0 51 6 [] []| .inr r=>gF 51 Tryz.f51 0 (rB r,[])) Z ?_ ?_))
 ·rintro s1 j i q a h
  refine qS<|gS Z a<|mM Z<|sE (rI (a0.length:Int)) (ik _ _)<|sF h ?_ ?_<;>intro h
  ·refine sN<|cT<|qK<|qS<|qB<|gU Z<|mM Z<|bE h fun f k h=>eG k Z<|sV (.cptr [.int .i64 f.az,.int .i64 f.fTo])<|sC Z<|sM Z<|sF h ?_ ?_<;>intro h
   ·refine mM Z<|mM Z<|bE h fun g l h=>eG l Z<|sV (.cptr [.int .i64 g.fTo])<|sC Z<|sV (rB (decide (a1<g.fTo)))<|sF h ?_ ?_<;>intro h
    ·refine sN<|cT<|gU Z<|sT<|sN<|qR ?_
     cases oI h
     exact⟨nofun,rfl,rfl⟩
    refine sN<|cF<|qK<|CR Z Z<|sM Z<|sV (rI (rW (s1+(1:Int))))<|sA Z<|sN ?_
    cases oI h
    exact⟨rfl,rfl⟩
   refine sM Z<|k3<|k3<|sK<|sU<|sN<|cF<|qK<|CR Z Z<|sM Z<|sV (rI (rW (s1+(1:Int)))) ?_
   refine sA Z<|sN ?_
   cases oI h
   exact⟨rfl,rfl⟩
  refine sN<|cF<|qX ?_
  cases oI h
  exact⟨nofun,rfl,rfl⟩
 intro e j i he c
 rcases m with p|n
 ·obtain⟨rfl,a⟩:=c
  refine qE<|gS Z a<|sU<|sN<|qR ?_
  exact oI h▸qD
 obtain⟨rfl,hf⟩:=c
 cases oI h
 exact hf
theorem ref03_Split_ev{a0:(List UInt8)}{a1:Int}{r:(List (List UInt8))}(h:hU a0 a1=some r):EvP prog aL ext 110 [rS a0,.d (.int .u8 a1)] [] (.d (.lst (r.map PD.str)),[]):=by
 refine Ev.body Z Tryz.func110 Z Zk<|gU Z<|sV .jt<|sN<|gU Z<|sB (.ref 112 0) 112 (.arr 0 9 ([[]].map PD.str))<|sA Z<|sN<|qS<|gU Z<|sV (r0)<|sN<|bE h fun x a h=>CM (CQ (WL.jZ a (fun s=>gI 0 110 3 [(0,rS a0),(1,.d (.int .u8 a1)),(5,.ref 112 0),(6,rI s.1)] [(112,.arr 0 9 (s.2.map PD.str))]) (fun o=>gX 0 0 110 8 [(5,.ref 112 0)] [(112,.arr 0 9 (o.map PD.str))]) Z ?_ ?_))
 ·rintro⟨s1,s2⟩ q n E l h
  refine qS<|gS Z l<|mM Z<|sV (rI (a0.length:Int))<|sF h ?_ ?_<;>intro h
  ·refine sN<|cT<|qK<|qS<|qB<|gU Z<|mM Z<|bE h fun F t h=>WO.l8 t Z Z Z Z Z Z<|sM Z<|sF h ?_ ?_<;>intro h
   ·refine sN<|cT<|CR Z Z<|sM Z<|sV (.d (.lst ([[]].map PD.str)))<|bE h fun G u h=>aR u (fun _=>Z) Z<|sA Z<|sN<|CR Z Z<|sM Z<|sV (rI (rW (s1+(1:Int))))<|sA Z<|sN ?_
    cases oI h
    exact⟨rfl,rfl⟩
   refine sN<|cF<|CO Z Z<|mM Z<|WO.te Z Z Z Z Z Z Z Z Z<|sV (rI (rW ((s2.length:Int)-(1:Int))))<|bE h fun y b h=>WO.ma b Z Z Z Z Z Z Z Z<|bE h fun z c h=>WO.lT c Z Z Z Z Z Z<|mM Z<|sM Z<|sV (rI (rW (s1+(1:Int)))) ?_
   refine bE h fun B f h=>WO.qi f Z Z Z Z Z Z Z Z Z Z<|bE h fun m i h=>WO.catG i Z Z Z Z Z<|bE h fun C j h=>WO.ma j Z Z Z Z Z Z Z Z<|bE h fun D k h=>WO.vd (g:=PD.str) (sz:=1) (p:= .str m) k (fun _=>Z) (fun _=>Z) Z Z Z Z Z Z Z Z Z ?_
   refine sN<|sO<|CR Z Z<|sM Z<|sV (rI (rW (s1+(1:Int))))<|sA Z<|sN ?_
   cases oI h
   exact⟨rfl,rfl⟩
  refine sN<|cF<|qX ?_
  cases oI h
  exact⟨nofun,rfl,rfl⟩
 intro e q n he v
 obtain⟨rfl,l⟩:=v
 refine qE<|gS Z l<|sM Z<|sA Z<|sN<|qR ?_
 exact oI h▸qD
theorem ref03_parts_ev{a0:(List UInt8)}{r:(List (List UInt8))×Bool}(h:ge a0=some r):EvP prog aL ext 85 [rS a0] [] (.tup [.d (.lst (r.1.map PD.str)),rB r.2],[]):=by
 refine Ev.body Z Tryz.func85 Z Zk<|gU Z<|sV .jt<|sU<|sN<|gU Z<|sM Z<|bE h fun f h1 h=>cD (ref03_Split_ev h1)<|sA Z<|sN<|qS<|gU Z<|sM Z<|sE (rI (f.length:Int)) (ik _ _) ?_
 refine sF h ?_ ?_<;>intro h
 ·refine sN<|cT<|gU Z<|sV .jt<|sU<|sN<|qR ?_
  exact oI h▸qD
 refine sN<|cF<|qK<|qS<|gU Z<|sV (r0)<|sN<|bE h fun C c h=>CM (CQ (WL.jZ c (fun s=>gI 0 85 5 [(4,.d (.lst (f.map PD.str))),(5,rI s)] []) (fun o=>match o with| .inl y=>gX 0 0 85 15 [(4,.d (.lst (f.map PD.str)))] []| .inr r=>gF 85 Tryz.f85 0 (.tup [.d (.lst (r.1.map PD.str)),rB r.2],[])) Z ?_ ?_))
 ·rintro J k j W a h
  refine qS<|gS Z a<|sM Z<|sF h ?_ ?_<;>intro h
  ·refine sN<|cT<|qK<|qS<|qB<|gU Z<|sV (rS [])<|sN<|qS<|gU Z<|sV (r0)<|sN<|bE h fun B b h=>CM (CQ (WL.jZ b (fun s=>gI 0 85 9 [(4,.d (.lst (f.map PD.str))),(5,rI J),(6,rS s.1),(7,rI s.2)] []) (fun o=>gX 2 0 85 13 [(4,.d (.lst (f.map PD.str))),(5,rI o.1),(6,rS o.2)] []) Z ?_ ?_))
   ·rintro⟨X,i⟩ k j H a h
    unfold dL at h
    refine qS<|gS Z a<|mM Z<|sM Z<|bE h fun D l h=>eG l Z<|sC Z<|sV (rI (D.length:Int))<|sF h ?_ ?_<;>intro h
    ·refine sN<|cT<|qK<|qS<|qB<|gU Z<|mM Z<|bE h fun K m h=>eG m Z<|sC Z<|sM Z<|bE h fun L n h=>WO.l8 n Z Z Z Z Z Z<|sF h ?_ ?_<;>intro h
     ·refine mM Z<|sM Z<|bE h fun N p h=>eG p Z<|sC Z<|sM Z<|bE h fun E q h=>WO.l8 q Z Z Z Z Z Z<|sV (rB (E != (63:Int)))<|sF h ?_ ?_<;>intro h
      ·refine sN<|cT<|CR Z Z<|mM Z<|sM Z<|bE h fun O t h=>eG t Z<|sC Z<|mM Z<|sV (rI (rW (i+(1:Int))))<|bE h fun Q u h=>WO.qi u Z Z Z Z Z Z Z Z Z Z<|bE h fun T v h=>?_
       refine WO.catG v Z Z Z Z Z<|sA Z<|sN<|CR Z Z<|sM Z<|sV (rI (rW (i+(1:Int))))<|sA Z<|sN ?_
       cases oI h
       exact⟨rfl,rfl⟩
      refine sN<|cF<|qK<|CR Z Z<|sM Z<|sV (rI (rW (i+(1:Int))))<|sA Z<|sN ?_
      cases oI h
      exact⟨rfl,rfl⟩
     refine sM Z<|k3<|k3<|sK<|sU<|sN<|cF<|qK<|CR Z Z<|sM Z<|sV (rI (rW (i+(1:Int)))) ?_
     refine sA Z<|sN ?_
     cases oI h
     exact⟨rfl,rfl⟩
    refine sN<|cF<|qX ?_
    cases oI h
    exact⟨nofun,rfl,rfl⟩
   intro e k j he g
   obtain⟨rfl,a⟩:=g
   refine qE<|gS Z a<|mM Z<|bE h fun F x h=>eG x Z<|sC Z<|sV (rI (F.length:Int))<|sF h ?_ ?_<;>intro h
   ·refine sM Z<|k3<|sT<|sN<|cT<|gU Z<|sV .jt<|sU<|sN<|qR ?_
    cases oI h
    exact⟨nofun,rfl,rfl⟩
   refine mM Z<|bE h fun G z h=>cD (dh z)<|sV (rB (!G))<|sF h ?_ ?_<;>intro h
   ·refine sN<|cT<|gU Z<|sV .jt<|sU<|sN<|qR ?_
    cases oI h
    exact⟨nofun,rfl,rfl⟩
   refine sN<|cF<|qK<|CR Z Z<|sM Z<|sV (rI (rW (B.1+(1:Int))))<|sA Z<|sN ?_
   cases oI h
   exact⟨rfl,rfl⟩
  refine sN<|cF<|qX ?_
  cases oI h
  exact⟨nofun,rfl,rfl⟩
 intro e k j he g
 rcases C with U|I
 ·obtain⟨rfl,a⟩:=g
  refine qE<|gS Z a<|sM Z<|sA Z<|sT<|sN<|qR ?_
  exact oI h▸qD
 obtain⟨rfl,hf⟩:=g
 cases oI h
 exact hf
theorem ec:∀(a:Nat){a0:(List UInt8)}{a1:(List UInt8)}{r:Bool}(_:bR a a0 a1=some r),EvP prog aL ext 111 [rS a0,rS a1] [] (rB r,[])
  |0,_,_,_,h=>by cases h
  |a+1,a0,a1,r,h=>by
   refine Ev.body Z Tryz.func111 Z Zk<|gU Z<|sU<|sN<|qS<|gU Z<|sM Z<|sF h ?_ ?_<;>intro h
   ·refine sN<|cT<|gU Z<|sM Z<|sV (rB (a1== []))<|sA Z<|sN<|qR ?_
    exact oI h▸qD
   refine sN<|cF<|qK<|qS<|gU Z<|sM Z<|bE h fun x2 I h=>WO.l8 I Z Z Z Z Z Z<|sF h ?_ ?_<;>intro h
   ·refine sN<|cT<|qS<|gU Z<|sV (r0)<|sN<|bE h fun B f h=>CM (CQ (WL.jZ f (fun s=>gI 0 111 5 [(0,rS a0),(1,rS a1),(5,rI s)] []) (fun o=>match o with| .inl y=>gX 0 0 111 9 [] []| .inr r=>gF 111 Tryz.f111 0 (rB r,[])) Z ?_ ?_))
    ·rintro N H G Y z h
     refine qS<|gS Z z<|mM Z<|sV (rI (a1.length:Int))<|sF h ?_ ?_<;>intro h
     ·refine sN<|cT<|qK<|qS<|qB<|CN Z Z<|sM Z<|bE h fun x7 J h=>WO.qi J Z Z Z Z Z Z Z Z Z Z<|mM Z<|bE h fun x8 K h=>WO.qi K Z Z Z Z Z Z Z Z Z Z<|bE h fun x9 E h=>kq h (fun c h=>?_) (fun c h=>?_)
      ·refine WO.lg (v:=rB true) (u:=[]) Z Z (fun _=>Z) Z Z Z Z Z (ec a E) Z Z (congrArg (fun b=>RV.d (.bool b)) c) Z ?_
       refine sN<|sO<|cT<|gU Z<|sT<|sN<|qR ?_
       cases oI h
       exact⟨nofun,rfl,rfl⟩
      refine WO.lg (v:=rB false) (u:=[]) Z Z (fun _=>Z) Z Z Z Z Z (ec a E) Z Z (congrArg (fun b=>RV.d (.bool b)) c) Z ?_
      refine sN<|sO<|cF<|qK<|CR Z Z<|sM Z<|sV (rI (rW (N+(1:Int))))<|sA Z<|sN ?_
      cases oI h
      exact⟨rfl,rfl⟩
     refine sN<|cF<|qX ?_
     cases oI h
     exact⟨nofun,rfl,rfl⟩
    intro e H G he F
    rcases B with X|L
    ·obtain⟨rfl,z⟩:=F
     refine qE<|gS Z z<|sU<|sN<|qR ?_
     exact oI h▸qD
    obtain⟨rfl,hf⟩:=F
    cases oI h
    exact hf
   refine sN<|cF<|qK<|CN Z Z<|sM Z<|sF h ?_ ?_<;>intro h
   ·refine mM Z<|bE h fun O j h=>WO.l8 j Z Z Z Z Z Z<|sF h ?_ ?_<;>intro h
    ·refine sM Z<|k3<|sK<|sK<|sT<|sT<|mM Z<|bE h fun Q k h=>WO.qi k Z Z Z Z Z Z Z Z Z Z<|sM Z<|bE h fun T l h=>WO.qi l Z Z Z Z Z Z Z Z Z Z ?_
     refine bE h fun C m h=>cD (ec a m)<|sV (rB C)<|sA Z ?_
     refine sN<|sO<|qR ?_
     exact oI h▸qD
    refine mM Z<|bE h fun g n h=>WO.l8 n Z Z Z Z Z Z<|sM Z<|bE h fun i p h=>WO.l8 p Z Z Z Z Z Z<|sV (rB (g==i))<|sV (rB (g==i))<|sF h ?_ ?_<;>intro h
    ·refine mM Z<|bE h fun U q h=>WO.qi q Z Z Z Z Z Z Z Z Z Z<|sM Z<|bE h fun W t h=>WO.qi t Z Z Z Z Z Z Z Z Z Z<|bE h fun D x h=>cD (ec a x)<|sV (rB D)<|sA Z ?_
     refine sN<|sO<|qR ?_
     exact oI h▸qD
    refine sM Z<|k3<|sK<|sK<|sU<|sA Z ?_
    refine sN<|sO<|qR ?_
    exact oI h▸qD
   refine sM Z<|k3<|k3<|k3<|sK<|sU<|sM Z<|sK<|sK ?_
   refine k3<|sU<|sA Z ?_
   refine sN<|sO<|qR ?_
   exact oI h▸qD
theorem eJ{a0:(List UInt8)}{a1:(List UInt8)}{r:Bool}(h:eb a0 a1=some r):EvP prog aL ext 111 [rS a0,rS a1] [] (rB r,[]):=
  let⟨n,a⟩:=uj h;ec n a
theorem ref03_match_ev{a0:(List (List UInt8))}{a1:ac}{r:Bool}(h:hX a0 a1=some r):EvP prog aL ext 86 [.d (.lst (a0.map PD.str)),.d (ac.pd a1)] [] (rB r,[]):=by
 refine Ev.body Z Tryz.func86 Z Zk<|gU Z<|sB (.ptr 48 0) 48 (.var (ac.rc a1))<|sU<|sN<|CN Z Z<|sM Z<|bE h fun n h1 h=>eG h1 Z<|sC Z<|sV (.ptr 48 0)<|sL Z<|bE h fun x2 g h=>kq h (fun a h=>?_) (fun a h=>?_)
 ·refine WO.lg (v:=rB true) (u:=[]) Z Z (fun _=>Z) Z Z Z Z Z (eJ g) Z Z (congrArg (fun b=>RV.d (.bool b)) a) Z<|mM Z<|bE h fun o i h=>eG i Z<|sC Z<|sV (.ptr 48 1)<|sL Z<|bE h fun p j h=>cD (eJ j)<|sF h ?_ ?_<;>intro h
  ·refine mM Z<|bE h fun q k h=>eG k Z<|sC Z<|sV (.ptr 48 2)<|sL Z<|bE h fun s l h=>cD (eJ l)<|sF h ?_ ?_<;>intro h
   ·refine mM Z<|bE h fun m c h=>eG c Z<|sC Z<|sV (.ptr 48 3)<|sL Z<|bE h fun f e h=>cD (eJ e)<|sV (rB f)<|sA Z ?_
    refine sN<|sO<|qR ?_
    exact oI h▸qD
   refine sM Z<|k3<|k3<|sU<|sA Z ?_
   refine sN<|sO<|qR ?_
   exact oI h▸qD
  refine sM Z<|k3<|k3<|sU<|sM Z<|k3<|sK<|sK<|sK ?_
  refine sU<|sA Z ?_
  refine sN<|sO<|qR ?_
  exact oI h▸qD
 refine WO.lg (v:=rB false) (u:=[]) Z Z (fun _=>Z) Z Z Z Z Z (eJ g) Z Z (congrArg (fun b=>RV.d (.bool b)) a) Z<|sM Z<|k3<|k3<|sU<|sM Z<|k3<|sK<|sK ?_
 refine sK<|sU<|sM Z<|k3<|k3<|sU<|sA Z ?_
 refine sN<|sO<|qR ?_
 exact oI h▸qD
theorem ref03_Select_ev{a0:(List UInt8)}{a1:(List ac)}{r:(List ac)×Int}(h:gB a0 a1=some r):EvP prog aL ext 52 [rS a0,rM ac.pd a1] [] (.tup [rM ac.pd r.1,rI r.2],[]):=by
 refine Ev.body Z Tryz.func52 Z Zk<|gU Z<|sV .jt<|sV (r0)<|sN<|gU Z<|sM Z<|bE h fun f h1 h=>cR (.tup [.d (.lst (f.1.map PD.str)),rB f.2]) [] (ref03_parts_ev h1)<|sM Z<|sV (.d (.lst (f.1.map PD.str)))<|sV (rB f.2)<|sA Z<|sA Z<|sN ?_
 refine qS<|gU Z<|sM Z<|sF h ?_ ?_<;>intro h
 ·refine sN<|cT<|gU Z<|sV .jt<|sV (rI 3)<|sN<|qR ?_
  exact oI h▸qD
 refine sN<|cF<|qK<|gU Z<|sV .jt<|sN<|qS<|gU Z<|sV (r0)<|sN<|bE h fun B c h=>CM (CQ (WL.jZ c (fun s=>gI 0 52 6 [(1,rM ac.pd a1),(6,.d (.lst (f.1.map PD.str))),(8,.ref 672 0),(9,rI s.1)] [(672,.arr 0 27 (s.2.map ac.pd))]) (fun o=>gX 0 0 52 10 [(8,.ref 672 0)] [(672,.arr 0 27 (o.map ac.pd))]) Z ?_ ?_))
 ·rintro⟨n,G⟩ x t F m h
  refine qS<|gS Z m<|mM Z<|sE (rI (a1.length:Int)) (ik _ _)<|sF h ?_ ?_<;>intro h
  ·refine sN<|cT<|qK<|qS<|qB<|gU Z<|mM Z<|bE h fun E y h=>eG y Z<|sV (.d (ac.pd E))<|bE h fun H q h=>kq h (fun a h=>?_) (fun a h=>?_)
   ·refine WO.lg (v:=rB true) (u:=[]) Z Z (fun _=>Z) Z Z Z Z Z (fq q) Z Z (congrArg (fun b=>RV.d (.bool b)) a) Z<|mM Z<|mM Z<|bE h fun p i h=>eG i Z<|sV (.d (ac.pd p))<|bE h fun C j h=>cD (ref03_match_ev j)<|sF h ?_ ?_<;>intro h
    ·refine sN<|cT<|CR Z Z<|mM Z<|sM Z<|bE h fun g k h=>eG k Z<|sV (.d (ac.pd g))<|sV (.d (.lst ([g].map ac.pd)))<|bE h fun D l h=>aR l (fun _=>Z) Z<|sA Z<|sN<|CR Z Z ?_
     refine sM Z<|sV (rI (rW (n+(1:Int))))<|sA Z<|sN ?_
     cases oI h
     exact⟨rfl,rfl⟩
    refine sN<|cF<|qK<|CR Z Z<|sM Z<|sV (rI (rW (n+(1:Int))))<|sA Z<|sN ?_
    cases oI h
    exact⟨rfl,rfl⟩
   refine WO.lg (v:=rB false) (u:=[]) Z Z (fun _=>Z) Z Z Z Z Z (fq q) Z Z (congrArg (fun b=>RV.d (.bool b)) a) Z<|sM Z<|k3<|k3<|sU<|sN<|cF<|qK<|CR Z Z<|sM Z<|sV (rI (rW (n+(1:Int)))) ?_
   refine sA Z<|sN ?_
   cases oI h
   exact⟨rfl,rfl⟩
  refine sN<|cF<|qX ?_
  cases oI h
  exact⟨nofun,rfl,rfl⟩
 intro e x t he z
 obtain⟨rfl,m⟩:=z
 refine qE<|gS Z m<|sM Z<|sA Z<|sV (r0)<|sN<|qR ?_
 exact oI h▸qD
theorem ref19_Sources_ev{a0:ai}{a1:(List UInt8)}{a2:Int}{r:(List ac)×Int}(h:gb a0 a1 a2=some r):EvP prog aL ext 26 [.d (ai.pd a0),rS a1,rI a2] [] (.tup [rM ac.pd r.1,rI r.2],[]):=by
 refine Ev.body Z Tryz.func26 Z Zk<|gU Z<|sB (.ptr 48 0) 48 (.var [rM aa.pd a0.am])<|sV .jt<|sV (r0)<|sN<|qS<|gU Z<|sV (.d (ai.pd a0))<|bE h fun G h1 h=>cD (eh h1)<|sF h ?_ ?_<;>intro h
 ·refine sN<|cT<|gU Z<|sV .jt<|sV (rI 1)<|sN<|qR ?_
  exact oI h▸qD
 refine sN<|cF<|qK<|gU Z<|sV .jt<|sN<|qS<|gU Z<|sV (r0)<|sN<|bE h fun B j h=>CM (CQ (WL.jZ j (fun s=>gI 0 26 5 [(1,rS a1),(2,rI a2),(3,.ptr 48 0),(8,.ref 608 0),(9,rI s.1)] [(48,.var [rM aa.pd a0.am]),(608,.arr 0 27 (s.2.map ac.pd))]) (fun o=>gX 0 0 26 9 [(1,rS a1),(8,.ref 608 0)] [(608,.arr 0 27 (o.map ac.pd))]) Z ?_ ?_))
 ·rintro⟨p,F⟩ t q E n h
  refine qS<|gS Z n<|sM Z<|sV (.ptr 48 0)<|sL Z<|sE (rI (a0.am.length:Int)) (ik _ _)<|sF h ?_ ?_<;>intro h
  ·refine sN<|cT<|qK<|qS<|qB<|CN Z Z<|sV (.d (ai.pd a0))<|sV (.ptr 48 0)<|sL Z<|sM Z<|bE h fun g x h=>eG x Z<|sV (.cptr [.str g.aj.aD,.str g.aj.aC,.str g.aj.au,.str g.aj.aF,.lst (g.al.map ah.pd)])<|sV (.d (ac.pd g.aj))<|bE h fun H y h=>?_
   refine cD (iZ y)<|sM Z<|bE h fun C i h=>kq h (fun c h=>?_) (fun c h=>?_)
   ·refine WO.lg (v:=rB true) (u:=[]) Z Z (fun _=>Z) Z Z Z Z Z (jR i) Z Z (congrArg (fun b=>RV.d (.bool b)) c) Z ?_
    refine sN<|sO<|cT<|CR Z Z<|sM Z<|sV (.ptr 48 0)<|sL Z<|sM Z<|bE h fun a k h=>eG k Z<|sV (.cptr [.str a.aj.aD,.str a.aj.aC,.str a.aj.au,.str a.aj.aF,.lst (a.al.map ah.pd)])<|sV (.d (ac.pd a.aj))<|sV (.d (.lst ([a.aj].map ac.pd)))<|bE h fun D l h=>aR l (fun _=>Z) Z<|sA Z ?_
    refine sN<|CR Z Z<|sM Z<|sV (rI (rW (p+(1:Int))))<|sA Z<|sN ?_
    cases oI h
    exact⟨rfl,rfl⟩
   refine WO.lg (v:=rB false) (u:=[]) Z Z (fun _=>Z) Z Z Z Z Z (jR i) Z Z (congrArg (fun b=>RV.d (.bool b)) c) Z ?_
   refine sN<|sO<|cF<|qK<|CR Z Z<|sM Z<|sV (rI (rW (p+(1:Int))))<|sA Z<|sN ?_
   cases oI h
   exact⟨rfl,rfl⟩
  refine sN<|cF<|qX ?_
  cases oI h
  exact⟨nofun,rfl,rfl⟩
 intro e t q he z
 obtain⟨rfl,n⟩:=z
 refine qE<|gS Z n<|mM Z<|bE h fun f m h=>cR (.tup [rM ac.pd f.1,rI f.2]) [(608,.dead)] (ref03_Select_ev m)<|sV (rM ac.pd f.1)<|sV (rI f.2)<|sA Z<|sA Z<|sN<|qR ?_
 exact oI h▸qD
theorem ref03_Same_ev{a0:(List ac)}{a1:(List ac)}{r:Bool}(h:iE a0 a1=some r):EvP prog aL ext 27 [rM ac.pd a0,rM ac.pd a1] [] (rB r,[]):=by
 refine Ev.body Z Tryz.func27 Z Zk<|gU Z<|sU<|sN<|qS<|gU Z<|sM Z<|sE (rI (a0.length:Int)) (ik _ _)<|sM Z<|sE (rI (a1.length:Int)) (ik _ _)<|sF h ?_ ?_<;>intro h
 ·refine sN<|cT<|gU Z<|sU<|sN<|qR ?_
  exact oI h▸qD
 refine sN<|cF<|qK<|qS<|gU Z<|sV (r0)<|sN<|bE h fun n c h=>CM (CQ (WL.jZ c (fun s=>gI 0 27 4 [(0,rM ac.pd a0),(1,rM ac.pd a1),(5,rI s)] []) (fun o=>match o with| .inl y=>gX 0 0 27 8 [] []| .inr r=>gF 27 Tryz.f27 0 (rB r,[])) Z ?_ ?_))
 ·rintro s2 k j t b h
  refine qS<|gS Z b<|mM Z<|sE (rI (a0.length:Int)) (ik _ _)<|sF h ?_ ?_<;>intro h
  ·refine sN<|cT<|qK<|qS<|qB<|CN Z Z<|mM Z<|bE h fun f l h=>eG l Z<|sV (.d (ac.pd f))<|mM Z<|bE h fun g m h=>eG m Z ?_
   refine sV (.d (ac.pd g))<|kq h (fun a h=>?_) (fun a h=>?_)
   ·refine WO.mX (eqN_27 f g) a Z Z Z Z Z ?_
    refine sN<|sO<|cT<|gU Z<|sU<|sN<|qR ?_
    cases oI h
    exact⟨nofun,rfl,rfl⟩
   refine WO.mX (eqN_27 f g) a Z Z Z Z Z ?_
   refine sN<|sO<|cF<|qK<|CR Z Z<|sM Z<|sV (rI (rW (s2+(1:Int))))<|sA Z<|sN ?_
   cases oI h
   exact⟨rfl,rfl⟩
  refine sN<|cF<|qX ?_
  cases oI h
  exact⟨nofun,rfl,rfl⟩
 intro e k j he i
 rcases n with q|p
 ·obtain⟨rfl,b⟩:=i
  refine qE<|gS Z b<|sT<|sN<|qR ?_
  exact oI h▸qD
 obtain⟨rfl,hf⟩:=i
 cases oI h
 exact hf
theorem im{a0:(List Int)}{a1:ai}{a2:ac}{a3:Int}{a4:(List UInt8)}{r:Bool}(h:cr a0 a1 a2 a3 a4=some r):EvP prog aL ext 3 [rL a0,.d (ai.pd a1),.d (ac.pd a2),rI a3,rS a4] [] (rB r,[]):=by
 refine Ev.body Z Tryz.func3 Z Zk<|gU Z<|sB (.ptr 96 0) 96 (.var [rM aa.pd a1.am])<|sB (.ptr 112 0) 112 (.var (ac.rc a2))<|sU<|sN<|qS<|gU Z<|sM Z<|bE h fun x1 h1 h=>cD (made_Light_ev h1)<|sF h ?_ ?_<;>intro h
 ·refine sM Z<|k3<|sK<|sT<|sM Z<|k3<|sT<|sN<|cT<|gU Z<|bE h fun x3 h3 h=>?_
  refine cD (dQ h3)<|sA Z<|sN<|qR ?_
  exact oI h▸qD
 refine sM Z<|sV (.ptr 96 0)<|sL Z<|sE (rI (a1.am.length:Int)) (ik _ _)<|sV (rB (decide ((a1.am.length:Int)>(8:Int))))<|sF h ?_ ?_<;>intro h
 ·refine sM Z<|k3<|sT<|sN<|cT<|gU Z<|bE h fun x5 h5 h=>cD (dQ h5)<|sA Z<|sN<|qR ?_
  exact oI h▸qD
 refine mM Z<|sV (rI (a4.length:Int))<|sV (rB (decide ((a4.length:Int)>(40:Int))))<|sF h ?_ ?_<;>intro h
 ·refine sN<|cT<|gU Z<|bE h fun x7 h7 h=>cD (dQ h7)<|sA Z<|sN<|qR ?_
  exact oI h▸qD
 refine sN<|cF<|qK<|qS<|gU Z<|sV (.ptr 96 0)<|sL Z<|sE (rI (a1.am.length:Int)) (ik _ _)<|sV (r0)<|sN<|bE h fun h9 c1 h=>CM (CQ (WL.jZ c1 (fun s=>gI 0 3 4 [(0,rL a0),(3,rI a3),(4,rS a4),(6,.ptr 96 0),(7,.ptr 112 0),(59,rM aa.pd a1.am),(60,rI (a1.am.length:Int)),(61,rI s)] [(96,.var [rM aa.pd a1.am]),(112,.var (ac.rc a2))]) (fun o=>match o with| .inl y=>gX 0 0 3 15 [(0,rL a0),(3,rI a3),(4,rS a4),(6,.ptr 96 0),(7,.ptr 112 0)] [(96,.var [rM aa.pd a1.am]),(112,.var (ac.rc a2))]| .inr r=>gF 3 Tryz.f3 0 (rB r,[])) Z ?_ ?_))
 ·rintro s8 t q q9 g h
  refine gS Z g<|sF h ?_ ?_<;>intro h
  ·refine sN<|qS<|cT<|qK<|qS<|qB<|gU Z<|bE h fun J d5 h=>eG d5 Z<|sV (.d (aa.pd J))<|sB (.ptr 192 0) 192 (.var zZ2)<|sS 192 (.var (aa.rc J))<|sN<|qS<|gU Z ?_
   refine sV (.ptr 192 4)<|sL Z<|sE (rI (J.al.length:Int)) (ik _ _)<|sF h ?_ ?_<;>intro h
   ·refine sN<|cT<|gU Z<|bE h fun o9 d6 h=>cD (dQ d6)<|sA Z<|sN<|qR ?_
    cases oI h
    exact⟨nofun,rfl,rfl⟩
   refine sN<|cF<|qK<|gU Z<|sV (.ptr 192 4)<|sL Z<|sE (rI (J.al.length:Int)) (ik _ _)<|sV (r0)<|sN<|bE h fun h8 c0 h=>CM (CQ (WL.jZ c0 (fun s=>gI 0 3 9 [(0,rL a0),(3,rI a3),(4,rS a4),(6,.ptr 96 0),(7,.ptr 112 0),(59,rM aa.pd a1.am),(60,rI (a1.am.length:Int)),(61,rI s8),(71,rM ah.pd J.al),(72,rI (J.al.length:Int)),(73,rI s)] [(96,.var [rM aa.pd a1.am]),(112,.var (ac.rc a2))]) (fun o=>match o with| .inl y=>gX 2 0 3 14 [(0,rL a0),(3,rI a3),(4,rS a4),(6,.ptr 96 0),(7,.ptr 112 0),(59,rM aa.pd a1.am),(60,rI (a1.am.length:Int)),(61,rI y)] [(96,.var [rM aa.pd a1.am]),(112,.var (ac.rc a2))]| .inr r=>gF 3 Tryz.f3 0 (rB r,[])) Z ?_ ?_))
   ·rintro i1 t q m7 g h
    refine gS Z g<|sF h ?_ ?_<;>intro h
    ·refine sN<|qS<|cT<|qK<|qS<|qB<|gU Z<|bE h fun X d7 h=>eG d7 Z<|sV (.d (ah.pd X))<|sB (.ptr 224 0) 224 (.var zZ1)<|sH 224 (.var (ah.rc X))<|sN<|gU Z<|sV (.ptr 224 7) ?_
     refine sV (.ptr 224 7)<|sL Z<|sE (rI (X.aB.aA.length:Int)) (ik _ _)<|sF h ?_ ?_<;>intro h
     ·refine sN<|cT<|gU Z<|bE h fun p0 d8 h=>cD (dQ d8)<|sA Z<|sN<|qR ?_
      cases oI h
      exact⟨nofun,rfl,rfl⟩
     refine sN<|cF<|qK<|CR Z Z<|sV (rI (rW (i1+(1:Int))))<|sM Z<|sN ?_
     cases oI h
     exact⟨rfl,rfl⟩
    refine sN<|qS<|cF<|qX ?_
    cases oI h
    exact⟨nofun,rfl,rfl⟩
   intro e t q he n
   rcases h8 with k4|n2
   ·obtain⟨rfl,g⟩:=n
    refine qE<|CR g Z<|sV (rI (rW (k4+(1:Int))))<|sM Z<|sN ?_
    cases oI h
    exact⟨rfl,rfl⟩
   obtain⟨rfl,hf⟩:=n
   cases oI h
   exact⟨nofun,rfl,hf⟩
  refine sN<|qS<|cF<|qX ?_
  cases oI h
  exact⟨nofun,rfl,rfl⟩
 intro e t q he n
 rcases h9 with q1|n3
 ·obtain⟨rfl,g⟩:=n
  refine qE<|gS Z g<|sM Z<|bE h fun i9 e0 h=>cR (.ptr 1376 0) [(1376,.var (ae.rc i9))] (made_Roll_ev e0)<|sA Z<|sN<|gU Z<|sM Z<|bE h fun a e1 h=>cR (.d (ai.pd a.1)) [(1376,.var (ae.rc a.2))] (jH e1)<|sB (.ptr 256 0) 256 (.var [.jt])<|sS 256 (.var [rM aa.pd a.1.am])<|sN<|qS ?_
  refine CN Z Z<|sV (.d (.agg [.lst (a.1.am.map aa.pd)]))<|sM Z<|sV (.d (.agg [.lst (a.1.am.map aa.pd)]))<|bE h fun i e2 h=>cR (.d (ai.pd i.1)) [(1376,.var (ae.rc i.2))] (law19_odd_ev e2)<|sV (.d (ai.pd a1))<|sV (.d (.lst ([a.1,i.1,a1].map ai.pd)))<|sV (rI 3)<|sV (r0) ?_
  refine sN<|sO<|bE h fun c7 W h=>CM (CQ (WL.jZ W (fun s=>gI 0 3 18 [(3,rI a3),(4,rS a4),(7,.ptr 112 0),(15,.ptr 1376 0),(16,.ptr 256 0),(94,.d (.lst ([a.1,i.1,a1].map ai.pd))),(95,rI 3),(96,rI s.1)] [(112,.var (ac.rc a2)),(256,.var [rM aa.pd a.1.am]),(1376,.var [rL s.2.1,rI s.2.2])]) (fun o=>match o with| .inl y=>gX 4 0 3 61 [] []| .inr r=>gF 3 Tryz.f3 0 (rB r,[])) Z ?_ ?_))
  ·rintro⟨d0,n6,n7⟩ t q i0 g h
   refine gS Z g<|sF h ?_ ?_<;>intro h
   ·refine sN<|qS<|cT<|qK<|qS<|qB<|gU Z<|bE h fun b e3 h=>eG e3 Z<|sV (.d (ai.pd b))<|sB (.ptr 288 0) 288 (.var [.jt])<|sS 288 (.var [rM aa.pd b.am])<|sN<|qS<|CN Z Z ?_
    refine sV (.d (ai.pd b))<|bE h fun p1 e4 h=>cD (cK e4)<|sV (.d (ai.pd b))<|bE h fun p2 e5 h=>cD (eh e5)<|sF h ?_ ?_<;>intro h
    ·refine sM Z<|k3<|k3<|sK<|sT ?_
     refine sN<|sO<|cT<|gU Z<|sU<|sN<|qR ?_
     cases oI h
     exact⟨nofun,rfl,rfl⟩
    refine sM Z<|sV (.d (ai.pd b))<|sV (.d (.agg [.lst (a.1.am.map aa.pd)]))<|bE h fun j1 e6 h=>cD (jK e6)<|sV (.d (ai.pd b))<|sV (.d (.agg [.lst (a.1.am.map aa.pd)]))<|bE h fun j2 e7 h=>cD (js e7)<|sV (rB (!(j1==j2)))<|sF h ?_ ?_<;>intro h
    ·refine sN<|sO<|cT<|gU Z<|sU<|sN<|qR ?_
     cases oI h
     exact⟨nofun,rfl,rfl⟩
    refine sN<|sO<|cF<|qK<|gU Z<|sM Z<|bE h fun j e8 h=>cR (.d (ac.pd j.1)) [(1376,.var (ae.rc j.2))] (iR e8)<|sB (.ptr 304 0) 304 (.var [rS [],rS [],rS [],rS []])<|sS 304 (.var (ac.rc j.1))<|sN<|CS (α:=(List Int)×Int×(List UInt8)×(List UInt8)×(List UInt8)×(List UInt8)) (fun x t q=>kx prog 0 (A t q) (aL.at_ 3 0 26)=some (A [(3,rI a3),(4,rS a4),(7,.ptr 112 0),(15,.ptr 1376 0),(16,.ptr 256 0),(18,.ptr 288 0),(19,.ptr 304 0),(94,.d (.lst ([a.1,i.1,a1].map ai.pd))),(95,rI 3),(96,rI d0)] [(112,.var (ac.rc a2)),(256,.var [rM aa.pd a.1.am]),(288,.var [rM aa.pd b.am]),(304,.var [rS x.2.2.1,rS x.2.2.2.1,rS x.2.2.2.2.1,rS x.2.2.2.2.2]),(1376,.var [rL x.1,rI x.2.1])])) (fun x=>ba a2 b a3 a4 d0 x.1 x.2.1 x.2.2.1 x.2.2.2.1 x.2.2.2.2.1 x.2.2.2.2.2=some i0) ?_ ?_
    ·refine gU Z<|sV (.ptr 288 0)<|sL Z<|sE (rI (b.am.length:Int)) (ik _ _)<|sA Z<|sN<|gU Z<|sM Z<|sF h ?_ ?_<;>intro h
     ·refine mM Z<|bE h fun v b2 h=>cR (rI v.1) [(1376,.var (ae.rc v.2))] (aP b2)<|sV (rB (decide (v.1>(0:Int))))<|sF h ?_ ?_<;>intro h
      ·refine sN<|cT<|CO Z Z<|sV (.ptr 288 0)<|sL Z<|mM Z<|bE h fun I b3 h=>cR (rI I.1) [(1376,.var (ae.rc I.2))] (aP b3)<|bE h fun f b4 h=>eG b4 Z<|sV (.cptr [.str f.aj.aD,.str f.aj.aC,.str f.aj.au,.str f.aj.aF,.lst (f.al.map ah.pd)])<|sV (.d (ac.pd f.aj))<|sS 304 (.var (ac.rc f.aj)) ?_
       exact sN<|sO<|⟨(I.2.fL,I.2.fAt,f.aj.aD,f.aj.aC,f.aj.au,f.aj.aF),rfl,h⟩
      exact sN<|cF<|qK<|⟨(v.2.fL,v.2.fAt,j.1.aD,j.1.aC,j.1.au,j.1.aF),rfl,h⟩
     exact sM rfl<|k3<|sU<|sN<|cF<|qK<|⟨(j.2.fL,j.2.fAt,j.1.aD,j.1.aC,j.1.au,j.1.aF),rfl,h⟩
    rintro⟨m5,m6,B,C,D,E⟩ t q g h
    refine qS<|gS Z g<|sV (.d (ac.pd a2))<|sV (.d (ac.pd (ac.mk B C D E)))<|sG (.d (.lst ([a2,(ac.mk B C D E)].map ac.pd)))<|sV (rI 2)<|sV (r0)<|sN<|bE h fun c4 Q h=>CM (CQ (WL.jZ Q (fun s=>gI 0 3 27 [(3,rI a3),(4,rS a4),(7,.ptr 112 0),(15,.ptr 1376 0),(16,.ptr 256 0),(18,.ptr 288 0),(94,.d (.lst ([a.1,i.1,a1].map ai.pd))),(95,rI 3),(96,rI s.1),(136,.d (.lst ([a2,(ac.mk B C D E)].map ac.pd))),(137,rI 2),(138,rI s.2.1)] [(112,.var (ac.rc a2)),(256,.var [rM aa.pd a.1.am]),(288,.var [rM aa.pd b.am]),(1376,.var [rL s.2.2.1,rI s.2.2.2])]) (fun o=>match o with| .inl y=>gX 6 0 3 50 [(3,rI a3),(4,rS a4),(7,.ptr 112 0),(15,.ptr 1376 0),(16,.ptr 256 0),(18,.ptr 288 0),(94,.d (.lst ([a.1,i.1,a1].map ai.pd))),(95,rI 3),(96,rI y.1)] [(112,.var (ac.rc a2)),(256,.var [rM aa.pd a.1.am]),(288,.var [rM aa.pd b.am]),(1376,.var [rL y.2.1,rI y.2.2])]| .inr r=>gF 3 Tryz.f3 0 (rB r,[])) Z ?_ ?_))
    ·rintro⟨n8,o2,o7,o8⟩ t q m8 g h
     refine gS Z g<|sF h ?_ ?_<;>intro h
     ·refine sN<|qS<|cT<|qK<|qS<|qB<|gU Z<|bE h fun p f0 h=>eG f0 Z<|sV (.d (ac.pd p))<|sB (.ptr 352 0) 352 (.var [rS [],rS [],rS [],rS []])<|sS 352 (.var (ac.rc p))<|sN<|gU Z<|sV (.d (ai.pd b)) ?_
      refine sV (.d (ac.pd p))<|bE h fun l f1 h=>cR (.tup [.d (aa.pd l.1),rB l.2]) [] (fj f1)<|sM Z<|sV (.d (aa.pd l.1))<|sV (rB l.2)<|sB (.ptr 368 0) 368 (.var zZ2)<|sS 368 (.var (aa.rc l.1))<|sA Z<|sN<|gU Z<|sV (.d (ai.pd b))<|sV (.d (ac.pd p))<|bE h fun m f2 h=>cR (.tup [.d (aa.pd m.1),rB m.2]) [] (ie f2) ?_
      refine sM Z<|sV (.d (aa.pd m.1))<|sV (rB m.2)<|sB (.ptr 400 0) 400 (.var zZ2)<|sS 400 (.var (aa.rc m.1))<|sA Z<|sN<|qS<|CN Z Z<|mM Z<|sF h ?_ ?_<;>intro h
      ·refine sM Z<|k3<|k3<|sK<|sK<|sT<|sM Z<|k3<|sK ?_
       refine k3<|sK<|sT ?_
       refine sN<|sO<|cT<|gU Z<|sU<|sN<|qR ?_
       cases oI h
       exact⟨nofun,rfl,rfl⟩
      refine sM Z<|sV (.d (aa.pd l.1))<|sV (.d (.lst ([l.1].map aa.pd)))<|sV (.d (.agg [.lst ([l.1].map aa.pd)]))<|sV (.d (aa.pd m.1))<|sV (.d (.lst ([m.1].map aa.pd)))<|sV (.d (.agg [.lst ([m.1].map aa.pd)]))<|bE h fun j4 f4 h=>cD (js f4)<|sV (rB (!j4))<|sF h ?_ ?_<;>intro h
      ·refine sM Z<|k3<|k3<|sK<|sK<|sT ?_
       refine sN<|sO<|cT<|gU Z<|sU<|sN<|qR ?_
       cases oI h
       exact⟨nofun,rfl,rfl⟩
      refine sM Z<|sV (.d (ai.pd b))<|sV (.d (ac.pd p))<|bE h fun p3 f5 h=>cD (gN f5)<|sV (.d (ai.pd b))<|sV (.d (ac.pd p))<|bE h fun p4 f6 h=>cD (iZ f6)<|bE h fun j5 f9 h=>cD (jq f9)<|sV (rB (!j5))<|sF h ?_ ?_<;>intro h
      ·refine sN<|sO<|cT<|gU Z<|sU<|sN<|qR ?_
       cases oI h
       exact⟨nofun,rfl,rfl⟩
      refine sN<|sO<|cF<|qK<|gU Z<|mM Z<|bE h fun z g0 h=>cR (rI z.1) [(1376,.var (ae.rc z.2))] (aP g0)<|sV (rI (rW ((1000:Int)*z.1)))<|sV (rI (rW ((1000000000000:Int)+(rW ((1000:Int)*z.1)))))<|sM Z<|bE h fun k g1 h=>cR (rI k.1) [(1376,.var (ae.rc k.2))] (aP g1)<|sV (rI (rW ((500:Int)*k.1)))<|sV (rI (rW ((1000000000000:Int)+(rW ((500:Int)*k.1))))) ?_
      refine sV (rI (rW ((rW ((1000000000000:Int)+(rW ((500:Int)*k.1))))-(1:Int))))<|sV (.d (.lst ([a3,(rW ((1000000000000:Int)+(rW ((1000:Int)*z.1)))),(rW ((rW ((1000000000000:Int)+(rW ((500:Int)*k.1))))-(1:Int)))].map (PD.int .i64))))<|sV (rI 3)<|sV (r0)<|sN<|bE h fun c3 O h=>CM (CQ (WL.jZ O (fun s=>gI 0 3 34 [(3,rI a3),(4,rS a4),(7,.ptr 112 0),(15,.ptr 1376 0),(16,.ptr 256 0),(18,.ptr 288 0),(22,.ptr 352 0),(23,.ptr 368 0),(25,.ptr 400 0),(94,.d (.lst ([a.1,i.1,a1].map ai.pd))),(95,rI 3),(96,rI s.1),(136,.d (.lst ([a2,(ac.mk B C D E)].map ac.pd))),(137,rI 2),(138,rI s.2.1),(187,.d (.lst ([a3,(rW ((1000000000000:Int)+(rW ((1000:Int)*z.1)))),(rW ((rW ((1000000000000:Int)+(rW ((500:Int)*k.1))))-(1:Int)))].map (PD.int .i64)))),(188,rI 3),(189,rI s.2.2)] [(112,.var (ac.rc a2)),(256,.var [rM aa.pd a.1.am]),(288,.var [rM aa.pd b.am]),(352,.var (ac.rc p)),(368,.var (aa.rc l.1)),(400,.var (aa.rc m.1)),(1376,.var (ae.rc k.2))]) (fun o=>match o with| .inl y=>gX 8 0 3 49 [(3,rI a3),(4,rS a4),(7,.ptr 112 0),(15,.ptr 1376 0),(16,.ptr 256 0),(18,.ptr 288 0),(94,.d (.lst ([a.1,i.1,a1].map ai.pd))),(95,rI 3),(96,rI y.1),(136,.d (.lst ([a2,(ac.mk B C D E)].map ac.pd))),(137,rI 2),(138,rI y.2)] [(112,.var (ac.rc a2)),(256,.var [rM aa.pd a.1.am]),(288,.var [rM aa.pd b.am]),(1376,.var (ae.rc k.2))]| .inr r=>gF 3 Tryz.f3 0 (rB r,[])) Z ?_ ?_))
      ·rintro⟨i2,i3,i4⟩ t q m9 g h
       refine gS Z g<|sF h ?_ ?_<;>intro h
       ·refine sN<|qS<|cT<|qK<|qS<|qB<|gU Z<|bE h fun j7 g2 h=>eG g2 Z<|sC Z<|sA Z<|sN<|gU Z<|sV (.d (ai.pd b))<|sV (.d (ac.pd p)) ?_
        refine sM Z<|bE h fun F g3 h=>cR (.tup [.d (ah.pd F.1),rI F.2]) [] (gl g3)<|sM Z<|sV (.d (ah.pd F.1))<|sV (rI F.2)<|sB (.ptr 464 0) 464 (.var zZ1)<|sH 464 (.var (ah.rc F.1))<|sA Z<|sN<|gU Z<|sV (.d (ai.pd b))<|sV (.d (ac.pd p))<|sM Z<|bE h fun G g4 h=>?_
        refine cR (.tup [.d (ah.pd G.1),rI G.2]) [] (ref19_At_ev g4)<|sM Z<|sV (.d (ah.pd G.1))<|sV (rI G.2)<|sB (.ptr 496 0) 496 (.var zZ1)<|sH 496 (.var (ah.rc G.1))<|sA Z<|sN<|qS<|CN Z Z<|mM Z<|sF h ?_ ?_<;>intro h
        ·refine sM Z<|k3<|sK<|sT<|sM Z<|k3<|k3<|sK<|sK ?_
         refine sK<|sT ?_
         refine sN<|sO<|cT<|gU Z<|sU<|sN<|qR ?_
         cases oI h
         exact⟨nofun,rfl,rfl⟩
        refine sM Z<|sV (.d (ah.pd F.1))<|sV (.d (ah.pd G.1))<|bE h fun k0 g5 h=>cD (dC g5)<|sV (rB (!k0))<|sF h ?_ ?_<;>intro h
        ·refine sM Z<|k3<|k3<|k3<|sT ?_
         refine sN<|sO<|cT<|gU Z<|sU<|sN<|qR ?_
         cases oI h
         exact⟨nofun,rfl,rfl⟩
        refine sM Z<|sV (.d (ah.pd F.1))<|sV (.d (aa.pd l.1))<|bE h fun p5 g6 h=>cD (law19_a0_ev g6)<|bE h fun k1 g7 h=>cD (fm g7)<|sV (.d (ah.pd G.1))<|sV (.d (aa.pd m.1))<|bE h fun p6 g8 h=>cD (law19_a0_ev g8)<|bE h fun k2 h0 h=>cD (dC h0)<|sV (rB (!(k1==k2)))<|sF h ?_ ?_<;>intro h
        ·refine sN<|sO<|cT<|gU Z<|sU<|sN<|qR ?_
         cases oI h
         exact⟨nofun,rfl,rfl⟩
        refine sN<|sO<|cF<|qK<|gU Z<|sM Z<|sV (.d (.lst ([a4,[42,46,42,46,42,46,72,72,63],[71,82,46,42,46,42,46,42]].map PD.str)))<|sV (rI 3)<|sV (r0)<|sN<|bE h fun c2 N h=>CM (CQ (WL.jZ N (fun s=>gI 0 3 41 [(3,rI a3),(4,rS a4),(7,.ptr 112 0),(15,.ptr 1376 0),(16,.ptr 256 0),(18,.ptr 288 0),(22,.ptr 352 0),(23,.ptr 368 0),(25,.ptr 400 0),(28,rI j7),(94,.d (.lst ([a.1,i.1,a1].map ai.pd))),(95,rI 3),(96,rI i2),(136,.d (.lst ([a2,(ac.mk B C D E)].map ac.pd))),(137,rI 2),(138,rI i3),(187,.d (.lst ([a3,(rW ((1000000000000:Int)+(rW ((1000:Int)*z.1)))),(rW ((rW ((1000000000000:Int)+(rW ((500:Int)*k.1))))-(1:Int)))].map (PD.int .i64)))),(188,rI 3),(189,rI i4),(228,.d (.lst ([a4,[42,46,42,46,42,46,72,72,63],[71,82,46,42,46,42,46,42]].map PD.str))),(229,rI 3),(230,rI s)] [(112,.var (ac.rc a2)),(256,.var [rM aa.pd a.1.am]),(288,.var [rM aa.pd b.am]),(352,.var (ac.rc p)),(368,.var (aa.rc l.1)),(400,.var (aa.rc m.1)),(1376,.var (ae.rc k.2))]) (fun o=>match o with| .inl y=>gX 10 0 3 48 [(3,rI a3),(4,rS a4),(7,.ptr 112 0),(15,.ptr 1376 0),(16,.ptr 256 0),(18,.ptr 288 0),(22,.ptr 352 0),(23,.ptr 368 0),(25,.ptr 400 0),(94,.d (.lst ([a.1,i.1,a1].map ai.pd))),(95,rI 3),(96,rI y.1),(136,.d (.lst ([a2,(ac.mk B C D E)].map ac.pd))),(137,rI 2),(138,rI y.2.1),(187,.d (.lst ([a3,(rW ((1000000000000:Int)+(rW ((1000:Int)*z.1)))),(rW ((rW ((1000000000000:Int)+(rW ((500:Int)*k.1))))-(1:Int)))].map (PD.int .i64)))),(188,rI 3),(189,rI y.2.2)] [(112,.var (ac.rc a2)),(256,.var [rM aa.pd a.1.am]),(288,.var [rM aa.pd b.am]),(352,.var (ac.rc p)),(368,.var (aa.rc l.1)),(400,.var (aa.rc m.1)),(1376,.var (ae.rc k.2))]| .inr r=>gF 3 Tryz.f3 0 (rB r,[])) Z ?_ ?_))
        ·rintro i5 t q n0 g h
         refine gS Z g<|sF h ?_ ?_<;>intro h
         ·refine sN<|qS<|cT<|qK<|qS<|qB<|gU Z<|bE h fun q0 h2 h=>eG h2 Z<|sC Z<|sA Z<|sN<|gU Z<|sV (.d (ai.pd b))<|sM Z ?_
          refine sM Z<|bE h fun K h4 h=>cR (.tup [rM ac.pd K.1,rI K.2]) [] (iT h4)<|sM Z<|sV (rM ac.pd K.1)<|sV (rI K.2)<|sA Z<|sA Z<|sN<|gU Z<|sV (.d (ai.pd b))<|mM Z<|bE h fun L h6 h=>cR (.tup [rM ac.pd L.1,rI L.2]) [] (ref19_Sources_ev h6) ?_
          refine sM Z<|sV (rM ac.pd L.1)<|sV (rI L.2)<|sA Z<|sA Z<|sN<|gU Z<|mM Z<|sF h ?_ ?_<;>intro h
          ·refine sM Z<|k3<|sK<|sT<|sN<|cT<|gU Z<|sU<|sN<|qR ?_
           cases oI h
           exact⟨nofun,rfl,rfl⟩
          refine mM Z<|sM Z<|bE h fun d1 Y h=>cD (ref03_Same_ev Y)<|sV (rB (!d1))<|sF h ?_ ?_<;>intro h
          ·refine sN<|cT<|gU Z<|sU<|sN<|qR ?_
           cases oI h
           exact⟨nofun,rfl,rfl⟩
          refine sN<|cF<|qK<|CR Z Z<|sV (rI (rW (i5+(1:Int))))<|sM Z<|sN ?_
          cases oI h
          exact⟨rfl,rfl⟩
         refine sN<|qS<|cF<|qX ?_
         cases oI h
         exact⟨nofun,rfl,rfl⟩
        intro e t q he n
        rcases c2 with d2|l0
        ·obtain⟨rfl,g⟩:=n
         refine qE<|CR g Z<|sV (rI (rW (d2.2.2+(1:Int))))<|sM Z<|sN ?_
         cases oI h
         exact⟨rfl,rfl⟩
        obtain⟨rfl,hf⟩:=n
        cases oI h
        exact⟨nofun,rfl,hf⟩
       refine sN<|qS<|cF<|qX ?_
       cases oI h
       exact⟨nofun,rfl,rfl⟩
      intro e t q he n
      rcases c3 with d3|l1
      ·obtain⟨rfl,g⟩:=n
       refine qE<|CR g Z<|sV (rI (rW (d3.2+(1:Int))))<|sM Z<|sN ?_
       cases oI h
       exact⟨rfl,rfl⟩
      obtain⟨rfl,hf⟩:=n
      cases oI h
      exact⟨nofun,rfl,hf⟩
     refine sN<|qS<|cF<|qX ?_
     cases oI h
     exact⟨nofun,rfl,rfl⟩
    intro e t q he n
    rcases c4 with c|l2
    ·obtain⟨rfl,g⟩:=n
     refine qE<|gS Z g<|sV (.ptr 288 0)<|sL Z<|sE (rI (b.am.length:Int)) (ik _ _)<|sV (r0)<|sN<|bE h fun c6 U h=>CM (CQ (WL.jZ U (fun s=>gI 0 3 51 [(3,rI a3),(4,rS a4),(7,.ptr 112 0),(15,.ptr 1376 0),(16,.ptr 256 0),(94,.d (.lst ([a.1,i.1,a1].map ai.pd))),(95,rI 3),(96,rI c.1),(261,rM aa.pd b.am),(262,rI (b.am.length:Int)),(263,rI s)] [(112,.var (ac.rc a2)),(256,.var [rM aa.pd a.1.am]),(1376,.var [rL c.2.1,rI c.2.2])]) (fun o=>match o with| .inl y=>gX 12 0 3 60 [(3,rI a3),(4,rS a4),(7,.ptr 112 0),(15,.ptr 1376 0),(16,.ptr 256 0),(94,.d (.lst ([a.1,i.1,a1].map ai.pd))),(95,rI 3),(96,rI c.1)] [(112,.var (ac.rc a2)),(256,.var [rM aa.pd a.1.am]),(1376,.var [rL c.2.1,rI c.2.2])]| .inr r=>gF 3 Tryz.f3 0 (rB r,[])) Z ?_ ?_))
     ·rintro c8 t q k5 g h
      refine gS Z g<|sF h ?_ ?_<;>intro h
      ·refine sN<|qS<|cT<|qK<|qS<|qB<|gU Z<|bE h fun u a5 h=>eG a5 Z<|sV (.d (aa.pd u))<|sB (.ptr 640 0) 640 (.var zZ2)<|sS 640 (.var (aa.rc u))<|sN<|gU Z<|sV (.ptr 640 4) ?_
       refine sL Z<|sE (rI (u.al.length:Int)) (ik _ _)<|sV (r0)<|sN<|bE h fun c5 T h=>CM (CQ (WL.jZ T (fun s=>gI 0 3 54 [(3,rI a3),(4,rS a4),(7,.ptr 112 0),(15,.ptr 1376 0),(16,.ptr 256 0),(94,.d (.lst ([a.1,i.1,a1].map ai.pd))),(95,rI 3),(96,rI c.1),(261,rM aa.pd b.am),(262,rI (b.am.length:Int)),(263,rI c8),(268,rM ah.pd u.al),(269,rI (u.al.length:Int)),(270,rI s)] [(112,.var (ac.rc a2)),(256,.var [rM aa.pd a.1.am]),(1376,.var [rL c.2.1,rI c.2.2])]) (fun o=>match o with| .inl y=>gX 14 0 3 59 [(3,rI a3),(4,rS a4),(7,.ptr 112 0),(15,.ptr 1376 0),(16,.ptr 256 0),(94,.d (.lst ([a.1,i.1,a1].map ai.pd))),(95,rI 3),(96,rI c.1),(261,rM aa.pd b.am),(262,rI (b.am.length:Int)),(263,rI y)] [(112,.var (ac.rc a2)),(256,.var [rM aa.pd a.1.am]),(1376,.var [rL c.2.1,rI c.2.2])]| .inr r=>gF 3 Tryz.f3 0 (rB r,[])) Z ?_ ?_))
       ·rintro c9 t q k6 g h
        refine gS Z g<|sF h ?_ ?_<;>intro h
        ·refine sN<|qS<|cT<|qK<|qS<|qB<|gU Z<|bE h fun H a9 h=>eG a9 Z<|sV (.d (ah.pd H))<|sB (.ptr 672 0) 672 (.var zZ1)<|sH 672 (.var (ah.rc H))<|sN<|CN Z Z<|sV (.d (ah.pd H)) ?_
         refine bE h fun m0 b0 h=>cD (fb b0)<|sV (.d (ah.pd H))<|bE h fun m1 b1 h=>cD (dn b1)<|sF h ?_ ?_<;>intro h
         ·refine sN<|sO<|cT<|gU Z<|sU<|sN<|qR ?_
          cases oI h
          exact⟨nofun,rfl,rfl⟩
         refine sN<|sO<|cF<|qK<|CR Z Z<|sV (rI (rW (c9+(1:Int))))<|sM Z<|sN ?_
         cases oI h
         exact⟨rfl,rfl⟩
        refine sN<|qS<|cF<|qX ?_
        cases oI h
        exact⟨nofun,rfl,rfl⟩
       intro e t q he n
       rcases c5 with d4|l3
       ·obtain⟨rfl,g⟩:=n
        refine qE<|CR g Z<|sV (rI (rW (d4+(1:Int))))<|sM Z<|sN ?_
        cases oI h
        exact⟨rfl,rfl⟩
       obtain⟨rfl,hf⟩:=n
       cases oI h
       exact⟨nofun,rfl,hf⟩
      refine sN<|qS<|cF<|qX ?_
      cases oI h
      exact⟨nofun,rfl,rfl⟩
     intro e t q he n
     rcases c6 with m3|l4
     ·obtain⟨rfl,g⟩:=n
      refine qE<|CR g Z<|sV (rI (rW (c.1+(1:Int))))<|sM Z<|sN ?_
      cases oI h
      exact⟨rfl,rfl⟩
     obtain⟨rfl,hf⟩:=n
     cases oI h
     exact⟨nofun,rfl,hf⟩
    obtain⟨rfl,hf⟩:=n
    cases oI h
    exact⟨nofun,rfl,hf⟩
   refine sN<|qS<|cF<|qX ?_
   cases oI h
   exact⟨nofun,rfl,rfl⟩
  intro e t q he n
  rcases c7 with m4|l5
  ·obtain⟨rfl,g⟩:=n
   refine qE<|gS Z g<|bE h fun m2 b5 h=>cD (dQ b5)<|sA Z<|sN<|qR ?_
   exact oI h▸qD
  obtain⟨rfl,hf⟩:=n
  cases oI h
  exact hf
 obtain⟨rfl,hf⟩:=n
 cases oI h
 exact hf
end Go.Dw.Ix
