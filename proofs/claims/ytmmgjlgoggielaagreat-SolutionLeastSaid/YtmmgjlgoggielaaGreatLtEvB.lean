
import Derived.Test.YtmmgjlgoggielaaGreatLtEvA

set_option maxRecDepth 100000
set_option maxHeartbeats 4000000
namespace Go.Dw.Lt
open Go.Proofs Go.Proofs.Tryz Go.Dw
theorem solution_used_ev{a0:aw}{a1:aB}{a2:ar}{r:aC×aj×Bool}(h:cJ a0 a1 a2=some r):EvP prog av ext 84 [.d (aw.pd a0),.d (aB.pd a1),.d (ar.pd a2)] [] (.tup [.d (aC.pd r.1),.d (aj.pd r.2.1),rB r.2.2],[]):=by
 refine Ev.body rfl Tryz.func84 rfl (by kernel_rfl)<|gS rfl rfl<|sB (.ptr 48 0) 48 (.var (aw.rc a0))<|sB (.ptr 64 0) 64 (.var [rM au.pd a1.aP])<|sB (.ptr 80 0) 80 (.var (ar.rc a2))<|sB (.ptr 96 0) 96 (.var zZ4)<|sB (.ptr 112 0) 112 (.var zZ3)<|sU<|sN<|qS<|gS rfl rfl<|sV (.d (ar.pd a2))<|bE h fun x1 hx1 h=>cD (mS hx1)<|sF h (fun h=>?_) fun h=>?_
 ·refine sN<|cT<|gS rfl rfl<|sG (.d (aC.pd (aC.mk (aa.mk 0 0 0) 0 0 0)))<|sG (.agg zZ3)<|sH 96 (.var zZ4)<|sH 112 (.var zZ3)<|sU<|sN<|qR ?_
  cases oI h
  exact qG
 refine sN<|cF<|qK<|gS rfl rfl<|sV (.d (aB.pd a1))<|sV (.ptr 80 0)<|sV (.d (ap.pd a2.aJ))<|sV (.ptr 80 4)<|sL rfl<|bE h fun x3 hx3 h=>cR (.tup [.d (aj.pd x3.1),rI x3.2]) [] (inventory_At_ev hx3)<|sM rfl<|sV (.d (aj.pd x3.1))<|sV (rI x3.2)<|sB (.ptr 144 0) 144 (.var zZ3) ?_
 refine sH 144 (.var (aj.rc x3.1))<|sA rfl<|sN<|qS<|gS rfl rfl<|sM rfl<|sF h (fun h=>?_) fun h=>?_
 ·refine sN<|cT<|gS rfl rfl<|sG (.d (aC.pd (aC.mk (aa.mk 0 0 0) 0 0 0)))<|sG (.agg zZ3)<|sH 96 (.var zZ4)<|sH 112 (.var zZ3)<|sU<|sN<|qR ?_
  cases oI h
  exact qG
 refine sN<|cF<|qK<|gS rfl rfl<|sV (.ptr 144 4)<|sV (.d (aa.pd x3.1.aW))<|sV (.ptr 80 5)<|sL rfl<|sV (.ptr 80 6)<|sL rfl<|sG (.d (aC.pd (aC.mk x3.1.aW a2.a8 a2.bF 1)))<|sB (.ptr 176 0) 176 (.var zZ4)<|sH 176 (.var (aa.rc x3.1.aW++[rI a2.a8,rI a2.bF,rI 1]))<|sN<|qS ?_
 refine gS rfl rfl<|sV (.ptr 48 0)<|sV (.ptr 48 6)<|sV (.d (aq.pd a0.aA.aS))<|sV (.ptr 48 0)<|sV (.ptr 48 0)<|sV (.d (ag.pd a0.aA.aG))<|sV (.d (aC.pd (aC.mk x3.1.aW a2.a8 a2.bF 1)))<|bE h fun x5 hx5 h=>cR (.tup [.d (al.pd x5.1),rI x5.2]) [] (jb hx5)<|sM rfl<|sV (.d (al.pd x5.1))<|sV (rI x5.2)<|sB (.ptr 192 0) 192 (.var [r0,r0])<|sS 192 (.var [rI x5.1.aT,rI x5.1.fTo]) ?_
 refine sA rfl<|sN<|gS rfl rfl<|sM rfl<|sF h (fun h=>?_) fun h=>?_
 ·refine sN<|cT<|gS rfl rfl<|sG (.d (aC.pd (aC.mk (aa.mk 0 0 0) 0 0 0)))<|sG (.agg zZ3)<|sH 96 (.var zZ4)<|sH 112 (.var zZ3)<|sU<|sN<|qR ?_
  cases oI h
  exact qG
 refine sN<|cF<|qK<|WC.cI rfl rfl<|sV (.d (aC.pd (aC.mk x3.1.aW a2.a8 a2.bF 1)))<|sV (.d (aj.pd x3.1))<|sH 96 (.var (aa.rc x3.1.aW++[rI a2.a8,rI a2.bF,rI 1]))<|sH 112 (.var (aj.rc x3.1))<|sT ?_
 refine sN<|sO<|qR ?_
 cases oI h
 exact qG
theorem kr{a0:aw}{a1:aB}{a2:(List ar)}{r:aI×Int}(h:eo a0 a1 a2=some r):EvP prog av ext 55 [.d (aw.pd a0),.d (aB.pd a1),rM ar.pd a2] [] (.tup [.d (aI.pd r.1),rI r.2],[]):=by
 refine Ev.body rfl Tryz.func55 rfl (by kernel_rfl)<|gS rfl rfl<|sB (.ptr 48 0) 48 (.var (aw.rc a0))<|sB (.ptr 64 0) 64 (.var [rM au.pd a1.aP])<|sB (.ptr 96 0) 96 (.var [.nR,.nR,.nR])<|sV (r0)<|sN<|gS rfl rfl<|sB (.ptr 128 0) 128 (.var [.nR,.nR,.nR])<|sN<|qS<|qB<|gS rfl rfl<|sV (.d (aw.pd a0))<|bE h fun x1 hx1 h=>?_
 refine cD (jn hx1)<|sF h (fun h=>?_) fun h=>?_
 ·refine sA rfl<|sN<|cT<|gS rfl rfl<|sV (.agg [.nR,.nR,.nR])<|sS 96 (.var [.nR,.nR,.nR])<|sV (rI 27)<|sN<|qR ?_
  cases oI h
  exact qG
 refine sA rfl<|sN<|cF<|gS rfl rfl<|sV (.d (aB.pd a1))<|bE h fun x3 hx3 h=>cD (jW hx3)<|sF h (fun h=>?_) fun h=>?_
 ·refine sA rfl<|sN<|cT<|gS rfl rfl<|sV (.agg [.nR,.nR,.nR])<|sS 96 (.var [.nR,.nR,.nR])<|sV (rI 1)<|sN<|qR ?_
  cases oI h
  exact qG
 refine sA rfl<|sN<|cF<|qK<|qS<|gS rfl rfl<|sM rfl<|bE h fun x5 hx5 h=>cD (picker_Sort_ev hx5)<|sE (rI (x5.length:Int)) (nT _ _)<|sV (r0)<|sN<|bE h fun o22 ho22 h=>WC.block (WC.loop (WL.n4 ho22 (fun s R' B'=>hY prog 0 (A R' B') (av.at_ 55 0 7)=some (A [(3,.ptr 48 0),(4,.ptr 64 0),(6,.ptr 96 0),(8,.ptr 128 0),(25,rM ar.pd x5),(26,rI (x5.length:Int)),(27,rI s.1)] [(48,.var (aw.rc a0)),(64,.var [rM au.pd a1.aP]),(96,.var [.nR,.nR,.nR]),(128,.var [.ref 704 0,.ref 784 0,.ref 864 0]),(704,.arr 0 66 (s.2.1.map ar.pd)),(784,.arr 0 81 (s.2.2.1.map aC.pd)),(864,.arr 0 113 (s.2.2.2.map aj.pd))])) (fun o e R' B'=>e= .exit 1∧hY prog 0 (A R' B') (av.at_ 55 0 13)=some (A [(6,.ptr 96 0),(8,.ptr 128 0)] [(96,.var [.nR,.nR,.nR]),(128,.var [.ref 704 0,.ref 784 0,.ref 864 0]),(704,.arr 0 66 (o.1.map ar.pd)),(784,.arr 0 81 (o.2.1.map aC.pd)),(864,.arr 0 113 (o.2.2.map aj.pd))])) rfl ?_ ?_))
 ·rintro⟨s6,s7,s8,s9⟩ R' B' q13 hI h
  refine gS rfl hI<|sF h (fun h=>?_) fun h=>?_
  ·refine sN<|qS<|cT<|qK<|qS<|qB<|gS rfl rfl<|bE h fun x15 hx15 h=>eG hx15 rfl<|sV (.d (ar.pd x15))<|sB (.ptr 160 0) 160 (.var [rS [],rS [],rS [],rS [],r0,r0,r0,r0,r0])<|sH 160 (.var (ar.rc x15))<|sN<|gS rfl rfl<|sV (.d (aw.pd a0)) ?_
   refine sV (.d (aB.pd a1))<|sV (.d (ar.pd x15))<|bE h fun x16 hx16 h=>cR (.tup [.d (aC.pd x16.1),.d (aj.pd x16.2.1),rB x16.2.2]) [] (solution_used_ev hx16)<|sM rfl<|sV (.d (aC.pd x16.1))<|sV (.d (aj.pd x16.2.1))<|sV (rB x16.2.2)<|sB (.ptr 176 0) 176 (.var zZ4)<|sB (.ptr 192 0) 192 (.var zZ3)<|sH 176 (.var (aC.rc x16.1))<|sH 192 (.var (aj.rc x16.2.1))<|sA rfl<|sN<|gS rfl rfl ?_
   refine sF h (fun h=>?_) fun h=>?_
   ·refine sN<|cT<|WC.oW rfl rfl<|sV (.ptr 128 0)<|sL rfl<|sV (.d (ar.pd x15))<|sG (.d (.lst ([x15].map ar.pd)))<|bE h fun x18 hx18 h=>aR hx18 (fun _=>rfl) rfl<|sV (.ptr 128 1)<|sL rfl<|sV (.d (aC.pd x16.1))<|sV (.d (.lst ([x16.1].map aC.pd)))<|bE h fun x19 hx19 h=>aR hx19 (fun _=>rfl) rfl ?_
    refine sV (.ptr 128 2)<|sL rfl<|sV (.d (aj.pd x16.2.1))<|sG (.d (.lst ([x16.2.1].map aj.pd)))<|bE h fun x20 hx20 h=>aR hx20 (fun _=>rfl) rfl<|sV (.ptr 128 0)<|sS 128 (.var [.ref 704 1,.ref 784 0,.ref 864 0])<|sV (.ptr 128 1)<|sS 128 (.var [.ref 704 1,.ref 784 1,.ref 864 0])<|sV (.ptr 128 2)<|sS 128 (.var [.ref 704 1,.ref 784 1,.ref 864 1]) ?_
    refine sN<|sO<|WC.region rfl rfl<|sV (rI (rW (s6+(1:Int))))<|sM rfl<|sN ?_
    cases oI h
    exact⟨rfl,rfl⟩
   refine sN<|cF<|qK<|WC.region rfl rfl<|sV (rI (rW (s6+(1:Int))))<|sM rfl<|sN ?_
   cases oI h
   exact⟨rfl,rfl⟩
  refine sN<|qS<|cF<|qX ?_
  cases oI h
  exact⟨nofun,rfl,rfl⟩
 intro e R' B' he hq
 obtain⟨rfl,hI⟩:=hq
 refine qE<|gS rfl hI<|sV (.agg [.ref 704 0,.ref 784 0,.ref 864 0])<|sS 96 (.var [.ref 704 0,.ref 784 0,.ref 864 0])<|sV (r0)<|sN<|qR ?_
 exact oI h▸qD
theorem jC{a0:aI}{a1:aw}{r:ae×Int}(h:cC a0 a1=some r):EvP prog av ext 56 [.d (aI.pd a0),.d (aw.pd a1)] [] (.tup [.d (ae.pd r.1),rI r.2],[]):=by
 refine Ev.body rfl Tryz.func56 rfl (by kernel_rfl)<|gS rfl rfl<|sB (.ptr 32 0) 32 (.var (aI.rc a0))<|sB (.ptr 48 0) 48 (.var (aw.rc a1))<|sB (.ptr 64 0) 64 (.var zZ2)<|sV (r0)<|sN<|qS<|gS rfl rfl<|sV (.ptr 32 1)<|sL rfl<|sE (rI (a0.cm.length:Int)) (nT _ _)<|sA rfl<|sN<|qB ?_
 refine gS rfl rfl<|sM rfl<|sF h (fun h=>?_) fun h=>?_
 ·refine sA rfl<|sN<|cT<|gS rfl rfl<|sG (.agg zZ2)<|sH 64 (.var zZ2)<|sV (rI 24)<|sN<|qR ?_
  cases oI h
  exact qG
 refine sA rfl<|sN<|cF<|gS rfl rfl<|sM rfl<|sF h (fun h=>?_) fun h=>?_
 ·refine sA rfl<|sN<|cT<|gS rfl rfl<|sG (.agg zZ2)<|sH 64 (.var zZ2)<|sV (rI 8)<|sN<|qR ?_
  cases oI h
  exact qG
 refine sA rfl<|sN<|cF<|qK<|gS rfl rfl<|sV (.ptr 48 0)<|sV (.d (aV.pd a1.aA))<|sB (.ptr 112 0) 112 (.var [r0,r0,r0,r0,r0,r0,r0,.nR,.nR,r0,r0,r0,r0,r0])<|sH 112 (.var (aV.rc a1.aA))<|sN<|WC.cI rfl rfl<|sV (.ptr 112 6)<|sV (.ptr 112 6)<|sL rfl<|sV (.ptr 112 6) ?_
 refine sV (.ptr 112 7)<|sL rfl<|bE h fun x3 hx3 h=>cR (.ref 448 0) [(448,.arr 0 3 (x3.map (PD.int .i64)))] (clone_107 hx3)<|sV (.ptr 112 6)<|sV (.ptr 112 8)<|sL rfl<|bE h fun x4 hx4 h=>cR (.ref 512 0) [(512,.arr 0 3 (x4.map (PD.int .i64)))] (clone_107 hx4)<|sV (.agg [rI a1.aA.aS.aQ,.ref 448 0,.ref 512 0])<|sB (.ptr 128 0) 128 (.var [r0,.nR,.nR])<|sS 128 (.var [rI a1.aA.aS.aQ,.ref 448 0,.ref 512 0]) ?_
 refine sN<|sO<|gS rfl rfl<|sV (.ptr 112 0)<|sV (.d (ag.pd a1.aA.aG))<|sV (.agg [rI a1.aA.aS.aQ,.ref 448 0,.ref 512 0])<|sV (.ptr 32 1)<|sL rfl<|sV (.ptr 112 9)<|sL rfl<|sG (.agg (ag.rc a1.aA.aG++[rI a1.aA.aS.aQ,.ref 448 0,.ref 512 0,rM aC.pd a0.cm,rI a1.aA.bN]))<|sH 64 (.var (ag.rc a1.aA.aG++[rI a1.aA.aS.aQ,.ref 448 0,.ref 512 0,rM aC.pd a0.cm,rI a1.aA.bN]))<|sV (r0)<|sN<|qR ?_
 cases oI h
 exact qG
theorem kd{a0:ae}{r:Int}(h:fF a0=some r):EvP prog av ext 120 [.d (ae.pd a0)] [] (rI r,[]):=by
 refine Ev.body rfl Tryz.func120 rfl (by kernel_rfl)<|gS rfl rfl<|sB (.ptr 16 0) 16 (.var (ae.rc a0))<|sV (r0)<|sN<|qS<|gS rfl rfl<|sV (.ptr 16 0)<|sV (.d (ag.pd a0.aG))<|bE h fun x1 hx1 h=>cD (bh hx1)<|sF h (fun h=>?_) fun h=>?_
 ·refine sN<|cT<|gS rfl rfl<|sV (rI 20)<|sN<|qR ?_
  cases oI h
  exact qG
 refine sN<|cF<|qK<|qS<|gS rfl rfl<|sV (.ptr 16 6)<|sV (.d (aq.pd a0.aS))<|bE h fun x3 hx3 h=>cD (df hx3)<|sA rfl<|sN<|gS rfl rfl<|sM rfl<|sF h (fun h=>?_) fun h=>?_
 ·refine sN<|cT<|gS rfl rfl<|sM rfl<|sA rfl<|sN<|qR ?_
  cases oI h
  exact qG
 refine sN<|cF<|qK<|qS<|gS rfl rfl<|sV (.ptr 16 9)<|sL rfl<|sE (rI (a0.aN.length:Int)) (nT _ _)<|sA rfl<|sN<|qB<|gS rfl rfl<|sM rfl<|sF h (fun h=>?_) fun h=>?_
 ·refine sA rfl<|sN<|cT<|gS rfl rfl<|sV (rI 24)<|sN<|qR ?_
  cases oI h
  exact qG
 refine sA rfl<|sN<|cF<|gS rfl rfl<|sM rfl<|sF h (fun h=>?_) fun h=>?_
 ·refine sA rfl<|sN<|cT<|gS rfl rfl<|sV (rI 8)<|sN<|qR ?_
  cases oI h
  exact qG
 refine sA rfl<|sN<|cF<|gS rfl rfl<|sV (.ptr 16 10)<|sL rfl<|sF h (fun h=>?_) fun h=>?_
 ·refine sM rfl<|k3<|sT<|sA rfl<|sN<|cT<|gS rfl rfl<|sV (rI 2)<|sN<|qR ?_
  cases oI h
  exact qG
 refine sM rfl<|sV (.ptr 16 10)<|sL rfl<|sV (rB (decide (a0.bN>(1099511627776:Int))))<|sF h (fun h=>?_) fun h=>?_
 ·refine sA rfl<|sN<|cT<|gS rfl rfl<|sV (rI 2)<|sN<|qR ?_
  cases oI h
  exact qG
 refine sA rfl<|sN<|cF<|qK<|qS<|gS rfl rfl<|sV (.ptr 16 9)<|sL rfl<|sE (rI (a0.aN.length:Int)) (nT _ _)<|sV (r0)<|sN<|bE h fun o16 ho16 h=>WC.block (WC.loop (WL.n4 ho16 (fun s R' B'=>hY prog 0 (A R' B') (av.at_ 120 0 14)=some (A [(1,.ptr 16 0),(38,rM aC.pd a0.aN),(39,rI (a0.aN.length:Int)),(40,rI s)] [(16,.var (ae.rc a0))])) (fun o e R' B'=>match o with| .inl y=>e= .exit 1∧hY prog 0 (A R' B') (av.at_ 120 0 20)=some (A [] [])| .inr r=>e= .ret∧finish prog (av.own 120) Tryz.f120 0 (A R' B')=some (rI r,[])) rfl ?_ ?_))
 ·rintro s9 R' B' q10 hI h
  refine gS rfl hI<|sF h (fun h=>?_) fun h=>?_
  ·refine sN<|qS<|cT<|qK<|qS<|qB<|gS rfl rfl<|bE h fun x12 hx12 h=>eG hx12 rfl<|sV (.d (aC.pd x12))<|sB (.ptr 96 0) 96 (.var zZ4)<|sH 96 (.var (aC.rc x12))<|sN<|gS rfl rfl<|sV (.ptr 16 6) ?_
   refine sV (.d (aq.pd a0.aS))<|sV (.ptr 16 0)<|sV (.d (ag.pd a0.aG))<|sV (.d (aC.pd x12))<|bE h fun x13 hx13 h=>cR (.tup [.d (al.pd x13.1),rI x13.2]) [] (jb hx13)<|sM rfl<|sV (.d (al.pd x13.1))<|sV (rI x13.2)<|sB (.ptr 112 0) 112 (.var [r0,r0])<|sS 112 (.var [rI x13.1.aT,rI x13.1.fTo])<|sA rfl<|sN<|gS rfl rfl<|sM rfl ?_
   refine sF h (fun h=>?_) fun h=>?_
   ·refine sN<|cT<|gS rfl rfl<|sM rfl<|sA rfl<|sN<|qR ?_
    cases oI h
    exact⟨nofun,rfl,rfl⟩
   refine sN<|cF<|qK<|WC.region rfl rfl<|sV (rI (rW (s9+(1:Int))))<|sM rfl<|sN ?_
   cases oI h
   exact⟨rfl,rfl⟩
  refine sN<|qS<|cF<|qX ?_
  cases oI h
  exact⟨nofun,rfl,rfl⟩
 intro e R' B' he hq
 rcases o16 with y17|r18
 ·obtain⟨rfl,hI⟩:=hq
  refine qE<|gS rfl hI<|sV (r0)<|sN<|qR ?_
  exact oI h▸qD
 obtain⟨rfl,hf⟩:=hq
 cases oI h
 exact hf
theorem ji{a0:ag}{a1:aa}{r:Bool}(h:et a0 a1=some r):EvP prog av ext 201 [.d (ag.pd a0),.d (aa.pd a1)] [] (rB r,[]):=by
 refine Ev.body rfl Tryz.func201 rfl (by kernel_rfl)<|gS rfl rfl<|sB (.ptr 32 0) 32 (.var (ag.rc a0))<|sB (.ptr 48 0) 48 (.var (aa.rc a1))<|sU<|sN<|gS rfl rfl<|sV (.d (ag.pd a0))<|bE h fun x1 hx1 h=>oz h (fun hb2 h=>?_) (fun hb2 h=>?_)
 ·refine WO.oM (v:=rB true) (u:=[]) rfl rfl (fun _=>rfl) rfl rfl rfl rfl rfl (bh hx1) rfl rfl (congrArg (fun b=>RV.d (.bool b)) hb2) rfl<|sM rfl<|sV (.d (aa.pd a1))<|bE h fun x3 hx3 h=>cD (cq hx3)<|sF h (fun h=>?_) fun h=>?_
  ·refine sM rfl<|sV (.d (ag.pd a0))<|sV (.d (aa.pd a1))<|bE h fun x5 hx5 h=>cD (iJ hx5)<|sV (rB (x5==(0:Int)))<|sV (rB (x5==(0:Int)))<|sA rfl<|sN<|qR ?_
   exact oI h▸qD
  refine sM rfl<|k3<|sK<|sU<|sA rfl<|sN<|qR ?_
  exact oI h▸qD
 refine WO.oM (v:=rB false) (u:=[]) rfl rfl (fun _=>rfl) rfl rfl rfl rfl rfl (bh hx1) rfl rfl (congrArg (fun b=>RV.d (.bool b)) hb2) rfl<|sM rfl<|sK<|sK<|sU<|sM rfl<|k3<|sK<|sU<|sA rfl<|sN<|qR ?_
 exact oI h▸qD
theorem ng{a0:ag}{a1:ag}{r:Bool}(h:gN a0 a1=some r):EvP prog av ext 121 [.d (ag.pd a0),.d (ag.pd a1)] [] (rB r,[]):=by
 refine Ev.body rfl Tryz.func121 rfl (by kernel_rfl)<|gS rfl rfl<|sB (.ptr 32 0) 32 (.var (ag.rc a0))<|sB (.ptr 48 0) 48 (.var (ag.rc a1))<|sU<|sN<|gS rfl rfl<|sV (.d (ag.pd a0))<|bE h fun x1 hx1 h=>oz h (fun hb2 h=>?_) (fun hb2 h=>?_)
 ·refine WO.oM (v:=rB true) (u:=[]) rfl rfl (fun _=>rfl) rfl rfl rfl rfl rfl (bh hx1) rfl rfl (congrArg (fun b=>RV.d (.bool b)) hb2) rfl<|sM rfl<|sV (.d (ag.pd a1))<|sV (.ptr 32 0)<|sV (.d (aa.pd a0.aF))<|bE h fun x3 hx3 h=>cD (ji hx3)<|sF h (fun h=>?_) fun h=>?_
  ·refine sM rfl<|sV (.d (ag.pd a1))<|sV (.ptr 32 3)<|sV (.d (aa.pd a0.az))<|bE h fun x5 hx5 h=>cD (ji hx5)<|sV (rB x5)<|sA rfl<|sN<|qR ?_
   exact oI h▸qD
  refine sM rfl<|k3<|sK<|sU<|sA rfl<|sN<|qR ?_
  exact oI h▸qD
 refine WO.oM (v:=rB false) (u:=[]) rfl rfl (fun _=>rfl) rfl rfl rfl rfl rfl (bh hx1) rfl rfl (congrArg (fun b=>RV.d (.bool b)) hb2) rfl<|sM rfl<|k3<|sK<|sU<|sM rfl<|k3<|sK<|sU<|sA rfl<|sN ?_
 refine qR ?_
 exact oI h▸qD
theorem misfit_zones_ev{a0:ae}{a1:ag}{r:(List al)×Int}(h:jI a0 a1=some r):EvP prog av ext 122 [.d (ae.pd a0),.d (ag.pd a1)] [] (.tup [rM al.pd r.1,rI r.2],[]):=by
 refine Ev.body rfl Tryz.func122 rfl (by kernel_rfl)<|gS rfl rfl<|sB (.ptr 32 0) 32 (.var (ae.rc a0))<|sB (.ptr 48 0) 48 (.var (ag.rc a1))<|sV .nR<|sV (r0)<|sN<|gS rfl rfl<|sV (.ptr 32 9)<|sL rfl<|sE (rI (a0.aN.length:Int)) (nT _ _)<|bE h fun x1 hx1 h=>WO.mkC (g:=al.pd) hx1 rfl rfl rfl rfl rfl rfl rfl rfl rfl rfl rfl<|sA rfl<|sN ?_
 refine qS<|gS rfl rfl<|sV (.ptr 32 9)<|sL rfl<|sE (rI (a0.aN.length:Int)) (nT _ _)<|sV (r0)<|sN<|bE h fun o12 ho12 h=>WC.block (WC.loop (WL.n4 ho12 (fun s R' B'=>hY prog 0 (A R' B') (av.at_ 122 0 3)=some (A [(2,.ptr 32 0),(3,.ptr 48 0),(6,.ref 224 0),(16,rM aC.pd a0.aN),(17,rI (a0.aN.length:Int)),(18,rI s.1)] [(32,.var (ae.rc a0)),(48,.var (ag.rc a1)),(224,.arr 0 206 (s.2.map al.pd))])) (fun o e R' B'=>match o with| .inl y=>e= .exit 0∧hY prog 0 (A R' B') (av.at_ 122 0 10)=some (A [(6,.ref 224 0)] [(224,.arr 0 206 (y.map al.pd))])| .inr r=>e= .ret∧finish prog (av.own 122) Tryz.f122 0 (A R' B')=some (.tup [rM al.pd r.1,rI r.2],[])) rfl ?_ ?_))
 ·rintro⟨s2,s3⟩ R' B' q5 hI h
  refine gS rfl hI<|sF h (fun h=>?_) fun h=>?_
  ·refine sN<|qS<|cT<|qK<|qS<|qB<|gS rfl rfl<|bE h fun x7 hx7 h=>eG hx7 rfl<|sV (.d (aC.pd x7))<|sB (.ptr 128 0) 128 (.var zZ4)<|sH 128 (.var (aC.rc x7))<|sN<|gS rfl rfl<|sV (.ptr 32 6) ?_
   refine sV (.d (aq.pd a0.aS))<|sV (.d (ag.pd a1))<|sV (.d (aC.pd x7))<|bE h fun x8 hx8 h=>cR (.tup [.d (al.pd x8.1),rI x8.2]) [] (jb hx8)<|sM rfl<|sV (.d (al.pd x8.1))<|sV (rI x8.2)<|sB (.ptr 144 0) 144 (.var [r0,r0])<|sS 144 (.var [rI x8.1.aT,rI x8.1.fTo])<|sA rfl<|sN<|qS<|gS rfl rfl<|sM rfl ?_
   refine sF h (fun h=>?_) fun h=>?_
   ·refine sN<|cT<|gS rfl rfl<|sM rfl<|sV .nR<|sA rfl<|sN<|qR ?_
    cases oI h
    exact⟨nofun,rfl,rfl⟩
   refine sN<|cF<|qK<|WC.region rfl rfl<|sM rfl<|sV (.d (al.pd x8.1))<|sV (.d (.lst ([x8.1].map al.pd)))<|bE h fun x10 hx10 h=>aR hx10 (fun _=>rfl) rfl<|sA rfl<|sN<|WC.region rfl rfl<|sV (rI (rW (s2+(1:Int))))<|sM rfl<|sN ?_
   cases oI h
   exact⟨rfl,rfl⟩
  refine sN<|qS<|cF<|qX ?_
  cases oI h
  exact⟨nofun,rfl,rfl⟩
 intro e R' B' he hq
 rcases o12 with y13|r14
 ·obtain⟨rfl,hI⟩:=hq
  refine qE<|gS rfl hI<|sM rfl<|sA rfl<|sV (r0)<|sN<|qR ?_
  exact oI h▸qD
 obtain⟨rfl,hf⟩:=hq
 cases oI h
 exact hf
theorem lV{a0:ae}{a1:ag}{r:(List al)×Int}(h:fx a0 a1=some r):EvP prog av ext 61 [.d (ae.pd a0),.d (ag.pd a1)] [] (.tup [rM al.pd r.1,rI r.2],[]):=by
 refine Ev.body rfl Tryz.func61 rfl (by kernel_rfl)<|gS rfl rfl<|sB (.ptr 32 0) 32 (.var (ae.rc a0))<|sB (.ptr 48 0) 48 (.var (ag.rc a1))<|sV .nR<|sV (r0)<|sN<|qS<|gS rfl rfl<|sV (.d (ae.pd a0))<|bE h fun x1 hx1 h=>cD (kd hx1)<|sA rfl<|sN<|gS rfl rfl ?_
 refine sM rfl<|sF h (fun h=>?_) fun h=>?_
 ·refine sN<|cT<|gS rfl rfl<|sM rfl<|sV .nR<|sA rfl<|sN<|qR ?_
  cases oI h
  exact qG
 refine sN<|cF<|qK<|qS<|gS rfl rfl<|sV (.d (ag.pd a1))<|sV (.ptr 32 0)<|sV (.d (ag.pd a0.aG))<|bE h fun x3 hx3 h=>cD (ng hx3)<|sF h (fun h=>?_) fun h=>?_
 ·refine sN<|cT<|gS rfl rfl<|sV .nR<|sV (rI 20)<|sN<|qR ?_
  cases oI h
  exact qG
 refine sN<|cF<|qK<|gS rfl rfl<|sV (.d (ae.pd a0))<|sV (.d (ag.pd a1))<|bE h fun x5 hx5 h=>cR (.tup [rM al.pd x5.1,rI x5.2]) [] (misfit_zones_ev hx5)<|sV (rM al.pd x5.1)<|sV (rI x5.2)<|sA rfl<|sA rfl<|sN<|qR ?_
 cases oI h
 exact qG
theorem ni{a0:al}{a1:Int}{r:Int}(h:fE a0 a1=some r):EvP prog av ext 202 [.d (al.pd a0),rI a1] [] (rI r,[]):=by
 refine Ev.body rfl Tryz.func202 rfl (by kernel_rfl)<|gS rfl rfl<|sB (.ptr 32 0) 32 (.var [rI a0.aT,rI a0.fTo])<|sV (r0)<|sN<|gS rfl rfl<|sV (.ptr 32 0)<|sL rfl<|sM rfl<|sV (rI (rW (a0.aT-a1)))<|sM rfl<|sV (.ptr 32 1)<|sL rfl<|sV (rI (rW (a1-a0.fTo)))<|sV (rI (if(0:Int)>(if(rW (a1-a0.fTo))>(rW (a0.aT-a1))then(rW (a1-a0.fTo))else(rW (a0.aT-a1)))then(0:Int)else(if(rW (a1-a0.fTo))>(rW (a0.aT-a1))then(rW (a1-a0.fTo))else(rW (a0.aT-a1))))) ?_
 refine sA rfl<|sN<|qR ?_
 exact oI h▸qD
theorem mg{a0:ae}{a1:(List al)}{a2:Int}{r:Int}(h:f4 a0 a1 a2=some r):EvP prog av ext 123 [.d (ae.pd a0),rM al.pd a1,rI a2] [] (rI r,[]):=by
 refine Ev.body rfl Tryz.func123 rfl (by kernel_rfl)<|gS rfl rfl<|sB (.ptr 48 0) 48 (.var (ae.rc a0))<|sV (r0)<|sN<|gS rfl rfl<|sV (r0)<|sN<|qS<|gS rfl rfl<|sV (.ptr 48 9)<|sL rfl<|sE (rI (a0.aN.length:Int)) (nT _ _)<|sV (r0)<|sN ?_
 refine bE h fun o11 ho11 h=>WC.block (WC.loop (WL.n4 ho11 (fun s R' B'=>hY prog 0 (A R' B') (av.at_ 123 0 3)=some (A [(1,rM al.pd a1),(2,rI a2),(3,.ptr 48 0),(7,rI s.1),(11,rM aC.pd a0.aN),(12,rI (a0.aN.length:Int)),(13,rI s.2)] [(48,.var (ae.rc a0))])) (fun o e R' B'=>e= .exit 0∧hY prog 0 (A R' B') (av.at_ 123 0 8)=some (A [(7,rI o)] [])) rfl ?_ ?_))
 ·rintro⟨s1,s2⟩ R' B' q4 hI h
  refine gS rfl hI<|sF h (fun h=>?_) fun h=>?_
  ·refine sN<|qS<|cT<|qK<|qS<|qB<|gS rfl rfl<|sM rfl<|bE h fun x6 hx6 h=>eG hx6 rfl<|sV (.d (aC.pd x6))<|sB (.ptr 144 0) 144 (.var zZ4)<|sA rfl<|sH 144 (.var (aC.rc x6))<|sN ?_
   refine gS rfl rfl<|sM rfl<|sM rfl<|sE (rI (a1.length:Int)) (nT _ _)<|sF h (fun h=>?_) fun h=>?_
   ·refine sN<|cT<|WC.oW rfl rfl<|sM rfl<|sV (.ptr 144 5)<|sL rfl<|sV (.ptr 48 10)<|sL rfl<|sM rfl<|sM rfl<|bE h fun x8 hx8 h=>eG hx8 rfl<|sV (.d (al.pd x8))<|sM rfl<|bE h fun x9 hx9 h=>?_
    refine cD (ni hx9)<|sV (rI (if x9<a0.bN then x9 else a0.bN))<|sV (rI (rW (x6.bt*(if x9<a0.bN then x9 else a0.bN))))<|sV (rI (rW (s1+(rW (x6.bt*(if x9<a0.bN then x9 else a0.bN))))))<|sA rfl ?_
    refine sN<|sO<|WC.region rfl rfl<|sV (rI (rW (s2+(1:Int))))<|sM rfl<|sN ?_
    cases oI h
    exact⟨rfl,rfl⟩
   refine sN<|cF<|qK<|WC.region rfl rfl<|sV (rI (rW (s2+(1:Int))))<|sM rfl<|sN ?_
   cases oI h
   exact⟨rfl,rfl⟩
  refine sN<|qS<|cF<|qX ?_
  cases oI h
  exact⟨nofun,rfl,rfl⟩
 intro e R' B' he hq
 obtain⟨rfl,hI⟩:=hq
 refine qE<|gS rfl hI<|sM rfl<|sA rfl<|sN<|qR ?_
 exact oI h▸qD
theorem mf{a0:ae}{a1:(List al)}{r:Int×Int}(h:fW a0 a1=some r):EvP prog av ext 62 [.d (ae.pd a0),rM al.pd a1] [] (.tup [rI r.1,rI r.2],[]):=by
 refine Ev.body rfl Tryz.func62 rfl (by kernel_rfl)<|gS rfl rfl<|sB (.ptr 32 0) 32 (.var (ae.rc a0))<|sV (r0)<|sV (r0)<|sN<|gS rfl rfl<|sM rfl<|sE (rI (a1.length:Int)) (nT _ _)<|sV (rI (rW ((2:Int)*(a1.length:Int))))<|bE h fun x1 hx1 h=>WO.mkC (g:=(PD.int .i64)) hx1 rfl rfl rfl rfl rfl rfl rfl rfl rfl rfl rfl<|sA rfl<|sN<|qS ?_
 refine gS rfl rfl<|sM rfl<|sE (rI (a1.length:Int)) (nT _ _)<|sV (r0)<|sN<|bE h fun o10 ho10 h=>WC.block (WC.loop (WL.n4 ho10 (fun s R' B'=>hY prog 0 (A R' B') (av.at_ 62 0 3)=some (A [(1,rM al.pd a1),(2,.ptr 32 0),(6,.ref 272 0),(18,rM al.pd a1),(19,rI (a1.length:Int)),(20,rI s.1)] [(32,.var (ae.rc a0)),(272,.arr 0 3 (s.2.map (PD.int .i64)))])) (fun o e R' B'=>e= .exit 0∧hY prog 0 (A R' B') (av.at_ 62 0 7)=some (A [(1,rM al.pd a1),(2,.ptr 32 0),(6,.ref 272 0)] [(32,.var (ae.rc a0)),(272,.arr 0 3 (o.map (PD.int .i64)))])) rfl ?_ ?_))
 ·rintro⟨s2,s3⟩ R' B' q5 hI h
  refine gS rfl hI<|sF h (fun h=>?_) fun h=>?_
  ·refine sN<|qS<|cT<|qK<|qS<|qB<|gS rfl rfl<|bE h fun x7 hx7 h=>eG hx7 rfl<|sV (.d (al.pd x7))<|sB (.ptr 128 0) 128 (.var [r0,r0])<|sS 128 (.var [rI x7.aT,rI x7.fTo])<|sN<|WC.region rfl rfl<|sM rfl ?_
   refine sV (.ptr 128 0)<|sL rfl<|sV (.ptr 128 1)<|sL rfl<|sV (.d (.lst ([x7.aT,x7.fTo].map (PD.int .i64))))<|bE h fun x8 hx8 h=>aR hx8 (fun _=>rfl) rfl<|sA rfl<|sN<|WC.region rfl rfl<|sV (rI (rW (s2+(1:Int))))<|sM rfl<|sN ?_
   cases oI h
   exact⟨rfl,rfl⟩
  refine sN<|qS<|cF<|qX ?_
  cases oI h
  exact⟨nofun,rfl,rfl⟩
 intro e R' B' he hq
 obtain⟨rfl,hI⟩:=hq
 refine qE<|qS<|gS rfl hI<|sM rfl<|WO.u9 rfl rfl rfl rfl rfl rfl rfl rfl rfl<|sF h (fun h=>?_) fun h=>?_
 ·refine sN<|cT<|gS rfl rfl<|sV (r0)<|sV (r0)<|sN<|qR ?_
  cases oI h
  exact qG
 refine sN<|cF<|qK<|WC.cI rfl rfl<|sM rfl<|bE h fun x13 hx13 h=>WO.pL hx13 rfl rfl rfl rfl rfl rfl rfl rfl<|bE h fun x14 hx14 h=>WO.pn hx14 rfl rfl rfl rfl rfl rfl<|sV (.d (ae.pd a0))<|sM rfl<|sM rfl<|bE h fun x16 hx16 h=>WO.pL hx16 rfl rfl rfl rfl rfl rfl rfl rfl<|bE h fun x17 hx17 h=>?_
 refine WO.pn hx17 rfl rfl rfl rfl rfl rfl<|bE h fun x18 hx18 h=>cD (mg hx18)<|sA rfl<|sA rfl ?_
 refine sN<|sO<|qS<|gS rfl rfl<|sM rfl<|bE h fun x19 hx19 h=>WO.subR hx19 rfl rfl rfl rfl rfl rfl rfl rfl rfl rfl rfl rfl<|bE h fun x20 hx20 h=>WO.lenVw hx20 rfl rfl rfl rfl rfl rfl rfl rfl rfl<|sV (r0)<|sN<|bE h fun o35 ho35 h=>WC.block (WC.loop (WL.n4 ho35 (fun s R' B'=>hY prog 0 (A R' B') (av.at_ 62 0 11)=some (A [(1,rM al.pd a1),(2,.ptr 32 0),(9,rI s.1),(10,rI s.2.1),(45,.view 272 0 (0+(1:Int).toNat) (0+((o10.length:Int):Int).toNat)),(46,rI x20),(47,rI s.2.2)] [(32,.var (ae.rc a0)),(272,.arr 0 3 (o10.map (PD.int .i64)))])) (fun o e R' B'=>e= .exit 2∧hY prog 0 (A R' B') (av.at_ 62 0 17)=some (A [(9,rI o.1),(10,rI o.2)] [])) rfl ?_ ?_))
 ·rintro⟨s21,s22,s23⟩ R' B' q26 hI h
  refine gS rfl hI<|sF h (fun h=>?_) fun h=>?_
  ·refine sN<|qS<|cT<|qK<|qS<|qB<|gS rfl rfl<|bE h fun x28 hx28 h=>WO.eltV hx28 rfl rfl rfl rfl rfl rfl rfl rfl<|bE h fun x29 hx29 h=>WO.pn hx29 rfl rfl rfl rfl rfl rfl<|sA rfl<|sN<|gS rfl rfl<|sV (.d (ae.pd a0)) ?_
   refine sM rfl<|sM rfl<|bE h fun x30 hx30 h=>cD (mg hx30)<|sA rfl<|sN<|gS rfl rfl<|sM rfl<|sM rfl<|sF h (fun h=>?_) fun h=>?_
   ·refine sM rfl<|k3<|k3<|sK<|sK<|sT<|sN<|cT<|WC.region rfl rfl<|sM rfl<|sM rfl ?_
    refine sA rfl<|sA rfl<|sN<|WC.region rfl rfl<|sV (rI (rW (s23+(1:Int))))<|sM rfl<|sN ?_
    cases oI h
    exact⟨rfl,rfl⟩
   refine sM rfl<|sM rfl<|sM rfl<|sF h (fun h=>?_) fun h=>?_
   ·refine sM rfl<|sM rfl<|sM rfl<|sV (rB (decide (x29<s21)))<|sV (rB (decide (x29<s21)))<|sF h (fun h=>?_) fun h=>?_
    ·refine sN<|cT<|WC.region rfl rfl<|sM rfl<|sM rfl<|sA rfl<|sA rfl<|sN<|WC.region rfl rfl<|sV (rI (rW (s23+(1:Int))))<|sM rfl<|sN ?_
     cases oI h
     exact⟨rfl,rfl⟩
    refine sN<|cF<|qK<|WC.region rfl rfl<|sV (rI (rW (s23+(1:Int))))<|sM rfl<|sN ?_
    cases oI h
    exact⟨rfl,rfl⟩
   refine sM rfl<|k3<|sU<|sU<|sN<|cF<|qK<|WC.region rfl rfl<|sV (rI (rW (s23+(1:Int))))<|sM rfl<|sN ?_
   cases oI h
   exact⟨rfl,rfl⟩
  refine sN<|qS<|cF<|qX ?_
  cases oI h
  exact⟨nofun,rfl,rfl⟩
 intro e R' B' he hq
 obtain⟨rfl,hI⟩:=hq
 refine qE<|gS rfl hI<|sM rfl<|sM rfl<|sA rfl<|sA rfl<|sN<|qR ?_
 exact oI h▸qD
theorem lU{a0:ae}{a1:ag}{r:Int×Int}(h:dL a0 a1=some r):EvP prog av ext 267 [.d (ae.pd a0),.d (ag.pd a1)] [] (.tup [rI r.1,rI r.2],[]):=by
 refine Ev.body rfl Tryz.func267 rfl (by kernel_rfl)<|gS rfl rfl<|sB (.ptr 32 0) 32 (.var (ae.rc a0))<|sB (.ptr 48 0) 48 (.var (ag.rc a1))<|sV (r0)<|sV (r0)<|sN<|gS rfl rfl<|sV (.d (ae.pd a0))<|sV (.d (ag.pd a1))<|bE h fun x1 hx1 h=>cR (.tup [rM al.pd x1.1,rI x1.2]) [] (lV hx1)<|sM rfl<|sV (rM al.pd x1.1)<|sV (rI x1.2) ?_
 refine sA rfl<|sA rfl<|sN<|qS<|gS rfl rfl<|sM rfl<|sF h (fun h=>?_) fun h=>?_
 ·refine sN<|cT<|gS rfl rfl<|sM rfl<|sV (r0)<|sA rfl<|sN<|qR ?_
  cases oI h
  exact qG
 refine sN<|cF<|qK<|gS rfl rfl<|sV (.d (ae.pd a0))<|sM rfl<|bE h fun x3 hx3 h=>cR (.tup [rI x3.1,rI x3.2]) [] (mf hx3)<|sM rfl<|sV (rI x3.1)<|sV (rI x3.2)<|sA rfl<|sA rfl<|sN<|gS rfl rfl ?_
 refine sM rfl<|sA rfl<|sV (r0)<|sN<|qR ?_
 cases oI h
 exact qG
theorem queue_Push_ev{a0:ah}{e1:ae}{e2:Int}{e3:Int}{e4:Bool}{e5:ai}{r:(List ah)}(h:lJ a0 e1 e2 e3 e4 e5=some r):EvP prog av ext 444 [.ptr 0 11,.ifc 194 (.d (ah.pd a0))] [.var (ae.rc e1++ .nR::rI e2::rI e3::rB e4::ai.rc e5)] (.tup [],[.var (ae.rc e1++ .ref 1 0::rI e2::rI e3::rB e4::ai.rc e5),.arr 0 194 (r.map ah.pd)]):=by
 refine Ev.body rfl Tryz.func444 rfl (by kernel_rfl)<|gS rfl rfl<|sM rfl<|sG (.tup [.d (ah.pd a0),rB true])<|sM rfl<|sV (.d (ah.pd a0))<|sT<|sB (.ptr 64 0) 64 (.var [r0,r0,r0,r0,r0,r0,r0,r0])<|sH 64 (.var (ah.rc a0))<|sA rfl<|sN<|gS rfl rfl<|sM rfl<|sN<|cT ?_
 refine WC.oW rfl rfl<|sM rfl<|sM rfl<|sV (.ptr 0 11)<|sL rfl<|sV (.d (ah.pd a0))<|sG (.d (.lst ([a0].map ah.pd)))<|bE h fun x1 hx1 h=>WO.appN hx1 (fun _=>rfl) rfl rfl rfl rfl rfl rfl rfl rfl rfl rfl rfl rfl rfl rfl<|sV (.ptr 0 11)<|sS 0 (.var (ae.rc e1++ .ref 288 0::rI e2::rI e3::rB e4::ai.rc e5)) ?_
 refine sN<|sO ?_
 cases oI h
 exact qG
theorem k7{d0:(List ah)}{r:Int×(List ah)}(h:eK d0=some r):EvP prog av ext 440 [.ref 0 0] [.arr 0 194 (d0.map ah.pd)] (rI r.1,[.arr 0 194 (r.2.map ah.pd)]):=by
 refine Ev.body rfl Tryz.func440 rfl (by kernel_rfl)<|gS rfl rfl<|sV (r0)<|sN<|gS rfl rfl<|sM rfl<|WO.u9 rfl rfl rfl rfl rfl rfl rfl rfl rfl<|sA rfl<|sN<|qR ?_
 exact oI h▸qD
theorem k8{a1:Int}{a2:Int}{d0:(List ah)}{r:(List ah)}(h:f7 a1 a2 d0=some r):EvP prog av ext 442 [.ref 0 0,rI a1,rI a2] [.arr 0 194 (d0.map ah.pd)] (.tup [],[.arr 0 194 (r.map ah.pd)]):=by
 refine Ev.body rfl Tryz.func442 rfl (by kernel_rfl)<|WC.oW rfl rfl<|sM rfl<|sM rfl<|sM rfl<|sM rfl<|sM rfl<|sM rfl<|bE h fun x2 hx2 h=>WO.pL hx2 rfl rfl rfl rfl rfl rfl rfl rfl<|bE h fun x3 hx3 h=>WO.pn hx3 rfl rfl rfl rfl rfl rfl<|sM rfl<|sM rfl<|bE h fun x5 hx5 h=>?_
 refine WO.pL hx5 rfl rfl rfl rfl rfl rfl rfl rfl<|bE h fun x6 hx6 h=>WO.pn hx6 rfl rfl rfl rfl rfl rfl<|bE h fun x8 hx8 h=>WO.pL hx8 rfl rfl rfl rfl rfl rfl rfl rfl<|bE h fun x9 hx9 h=>WO.tg (g:=ah.pd) (sz:=8) (p:=ah.pd x3) hx9 (by intro _;kernel_rfl) (by intro _;kernel_rfl) rfl rfl rfl rfl rfl rfl rfl rfl rfl<|bE h fun x11 hx11 h=>WO.pL hx11 rfl rfl rfl rfl rfl rfl rfl rfl<|bE h fun x12 hx12 h=>WO.tg (g:=ah.pd) (sz:=8) (p:=ah.pd x6) hx12 (by intro _;kernel_rfl) (by intro _;kernel_rfl) rfl rfl rfl rfl rfl rfl rfl rfl rfl ?_
 refine sN<|sO ?_
 exact oI h▸qD
theorem kf{a1:Int}{a2:Int}{d0:(List ah)}{r:Bool×(List ah)}(h:fe a1 a2 d0=some r):EvP prog av ext 441 [.ref 0 0,rI a1,rI a2] [.arr 0 194 (d0.map ah.pd)] (rB r.1,[.arr 0 194 (r.2.map ah.pd)]):=by
 refine Ev.body rfl Tryz.func441 rfl (by kernel_rfl)<|gS rfl rfl<|sU<|sN<|WC.cI rfl rfl<|sM rfl<|sM rfl<|bE h fun x2 hx2 h=>WO.pL hx2 rfl rfl rfl rfl rfl rfl rfl rfl<|sV (.elt 0 0 (a1).toNat 6)<|bE h fun x3 hx3 h=>WO.pn hx3 rfl rfl rfl rfl rfl rfl<|sM rfl<|sM rfl<|bE h fun x5 hx5 h=>?_
 refine WO.pL hx5 rfl rfl rfl rfl rfl rfl rfl rfl<|sV (.elt 0 0 (a2).toNat 6)<|bE h fun x6 hx6 h=>WO.pn hx6 rfl rfl rfl rfl rfl rfl<|bE h fun x7 hx7 h=>cD (bG hx7)<|sM rfl<|sM rfl<|bE h fun x9 hx9 h=>WO.pL hx9 rfl rfl rfl rfl rfl rfl rfl rfl<|sV (.elt 0 0 (a1).toNat 7)<|bE h fun x10 hx10 h=>WO.pn hx10 rfl rfl rfl rfl rfl rfl<|sM rfl<|sM rfl ?_
 refine bE h fun x12 hx12 h=>WO.pL hx12 rfl rfl rfl rfl rfl rfl rfl rfl<|sV (.elt 0 0 (a2).toNat 7)<|bE h fun x13 hx13 h=>WO.pn hx13 rfl rfl rfl rfl rfl rfl<|bE h fun x14 hx14 h=>cD (bG hx14)<|sV (.d (.lst ([x7,x14].map (PD.int .i64))))<|bE h fun x15 hx15 h=>cD (gF hx15)<|sV (rB (decide (x15<(0:Int))))<|sA rfl ?_
 refine sN<|sO<|qR ?_
 exact oI h▸qD
theorem heap_up_ev{a0:Int}{e1:ae}{e2:Int}{e3:Int}{e4:Bool}{e5:ai}{d1:(List ah)}{r:(List ah)}(h:lC a0 e1 e2 e3 e4 e5 d1=some r):EvP prog av ext 330 [.ifc 309 (.ptr 0 11),rI a0] [.var (ae.rc e1++ .ref 1 0::rI e2::rI e3::rB e4::ai.rc e5),.arr 0 194 (d1.map ah.pd)] (.tup [],[.var (ae.rc e1++ .ref 1 0::rI e2::rI e3::rB e4::ai.rc e5),.arr 0 194 (r.map ah.pd)]):=by
 refine Ev.body rfl Tryz.func330 rfl (by kernel_rfl)<|bE h fun o12 ho12 h=>?_
 cases oI h
 refine WC.block (WC.loop (WL.xL ho12 (fun s R' B'=>hY prog 2 (A R' B') (av.at_ 330 2 0)=some (A [(0,.ifc 309 (.ptr 0 11)),(1,rI s.1)] [(0,.var (ae.rc e1++ .ref 1 0::rI e2::rI e3::rB e4::ai.rc e5)),(1,.arr 0 194 (s.2.map ah.pd))])) rfl ?_))
 rintro⟨s1,s2⟩ R' B' q3 hI h
 unfold kC at h
 refine qB<|gS rfl hI<|sM rfl<|sV (rI (rW (s1-(1:Int))))<|bE h fun x4 hx4 h=>WO.ru hx4 rfl rfl rfl rfl rfl rfl<|sA rfl<|sN<|qS<|gS rfl rfl<|sM rfl<|sM rfl<|sF h (fun h=>?_) fun h=>?_
 ·refine sM rfl<|k3<|sK<|sK<|sT<|sN<|cT<|qX<|⟨fun he=>(by cases he),fun _=>?_⟩
  refine tN h (fun z6 hkz6 hz=>?_)
  obtain rfl:=Option.some.inj hz
  refine⟨(fun he=>by cases he),fun hz2=>?_⟩
  subst hz2
  have h:=hkz6
  refine qE ?_
  cases oI h
  exact qG
 refine sM rfl<|sM rfl<|sM rfl<|sM rfl<|bE h fun x7 hx7 h=>WO.uP (e:=190) (c:= .ptr 0 11) (vl:= .ref 1 0) (g:=441) (args:=[rI s1,rI x4]) (v:=rB x7.1) (u:=[(1,.arr 0 194 (x7.2.map ah.pd))]) rfl rfl (by intro _;kernel_rfl) rfl rfl rfl rfl rfl rfl (kf hx7) rfl rfl rfl rfl<|sV (rB (!x7.1))<|sF h (fun h=>?_) fun h=>?_
 ·refine sN<|cT<|qX<|⟨fun he=>(by cases he),fun _=>?_⟩
  refine tN h (fun z9 hkz9 hz=>?_)
  obtain rfl:=Option.some.inj hz
  refine⟨(fun he=>by cases he),fun hz2=>?_⟩
  subst hz2
  have h:=hkz9
  refine qE ?_
  cases oI h
  exact qG
 refine sN<|cF<|qK<|gS rfl rfl<|sM rfl<|sM rfl<|sM rfl<|bE h fun x10 hx10 h=>WO.uP (e:=190) (c:= .ptr 0 11) (vl:= .ref 1 0) (g:=442) (args:=[rI x4,rI s1]) (v:= .tup []) (u:=[(1,.arr 0 194 (x10.map ah.pd))]) rfl rfl (by intro _;kernel_rfl) rfl rfl rfl rfl rfl rfl (k8 hx10) rfl rfl rfl rfl<|sN<|WC.region rfl rfl<|sM rfl<|sA rfl<|sN ?_
 cases oI h
 exact⟨rfl,rfl⟩
theorem heap_Push_ev{a0:ah}{e1:ae}{e2:Int}{e3:Int}{e4:Bool}{e5:ai}{r:(List ah)}(h:jN a0 e1 e2 e3 e4 e5=some r):EvP prog av ext 268 [.ifc 309 (.ptr 0 11),.ifc 194 (.d (ah.pd a0))] [.var (ae.rc e1++ .nR::rI e2::rI e3::rB e4::ai.rc e5)] (.tup [],[.var (ae.rc e1++ .ref 1 0::rI e2::rI e3::rB e4::ai.rc e5),.arr 0 194 (r.map ah.pd)]):=by
 refine Ev.body rfl Tryz.func268 rfl (by kernel_rfl)<|gS rfl rfl<|sM rfl<|sM rfl<|bE h fun x1 hx1 h=>WO.oM (g:=444) (args:=[.ptr 0 11,.ifc 194 (.d (ah.pd a0))]) (v:= .tup []) (u:=[(0,.var (ae.rc e1++ .ref 96 0::rI e2::rI e3::rB e4::ai.rc e5)),(96,.arr 0 194 (x1.map ah.pd))]) rfl rfl (by intro _;kernel_rfl) rfl rfl rfl rfl rfl (queue_Push_ev hx1) rfl rfl rfl rfl<|sN<|WC.region rfl rfl<|sM rfl<|sM rfl<|bE h fun x2 hx2 h=>WO.uP (e:=190) (c:= .ptr 0 11) (vl:= .ref 96 0) (g:=440) (args:=[]) (v:=rI x2.1) (u:=[(96,.arr 0 194 (x2.2.map ah.pd))]) rfl rfl (by intro _;kernel_rfl) rfl rfl rfl rfl rfl rfl (k7 hx2) rfl rfl rfl rfl<|sV (rI (rW (x2.1-(1:Int))))<|bE h fun x3 hx3 h=>cR (.tup []) [(0,.var (ae.rc e1++ .ref 96 0::rI e2::rI e3::rB e4::ai.rc e5)),(96,.arr 0 194 (x3.map ah.pd))] (heap_up_ev hx3) ?_
 refine sN ?_
 cases oI h
 exact qG
theorem search_add_ev{a0:ag}{e1:ae}{e2:Int}{e3:Int}{e4:Bool}{e5:ai}{r:Int×(List ah)×Int}(h:iW a0 e1 e2 e3 e4 e5=some r):EvP prog av ext 184 [.ptr 0 0,.d (ag.pd a0)] [.var (ae.rc e1++ .nR::rI e2::rI e3::rB e4::ai.rc e5)] (rI r.1,[.var (ae.rc e1++ .ref 1 0::rI r.2.2::rI e3::rB e4::ai.rc e5),.arr 0 194 (r.2.1.map ah.pd)]):=by
 refine Ev.body rfl Tryz.func184 rfl (by kernel_rfl)<|gS rfl rfl<|sB (.ptr 48 0) 48 (.var (ag.rc a0))<|sV (r0)<|sN<|WC.cI rfl rfl<|sM rfl<|sV (.ptr 0 0)<|sV (.ptr 0 0)<|sV (.d (ae.pd e1))<|sV (.d (ag.pd a0))<|bE h fun x1 hx1 h=>cR (.tup [rI x1.1,rI x1.2]) [] (lU hx1)<|sM rfl<|sV (rI x1.1) ?_
 refine sV (rI x1.2)<|sA rfl<|sA rfl ?_
 refine sN<|sO<|WC.join (α:=Int×(List ah)) (fun x R' B'=>hY prog 1 (A R' B') (av.at_ 184 1 5)=some (A [(6,rI x1.2)] [(0,.var (ae.rc e1++ .ref 90081 0::rI x.1::rI e3::rB e4::ai.rc e5)),(90081,.arr 0 194 (x.2.map ah.pd))])) (fun x=>gK x1 x.1 x.2=some r) ?_ ?_
 ·refine gS rfl rfl<|sM rfl<|sF h (fun h=>?_) fun h=>?_
  ·refine sN<|cT<|WC.cI rfl rfl<|sM rfl<|sV (.ptr 0 0)<|sV (.ptr 0 11)<|sG (.ifc 309 (.ptr 0 11))<|sV (.d (ag.pd a0))<|sM rfl<|sM rfl<|sV (.ptr 0 0)<|sV (.ptr 0 12)<|sL rfl<|sG (.d (ah.pd (ah.mk a0 x1.1 e2)))<|sG (.ifc 194 (.d (ah.pd (ah.mk a0 x1.1 e2)))) ?_
   refine bE h fun x6 hx6 h=>cR (.tup []) [(0,.var (ae.rc e1++ .ref 480 0::rI e2::rI e3::rB e4::ai.rc e5)),(480,.arr 0 194 (x6.map ah.pd))] (heap_Push_ev hx6) ?_
   exact sN<|sO<|WC.region rfl rfl<|sM rfl<|sV (.ptr 0 0)<|sV (.ptr 0 12)<|sL rfl<|sV (rI (rW (e2+(1:Int))))<|sV (.ptr 0 0)<|sV (.ptr 0 12)<|sS 0 (.var (ae.rc e1++ .ref 480 0::rI (rW (e2+(1:Int)))::rI e3::rB e4::ai.rc e5))<|sN<|⟨((rW (e2+(1:Int))),x6),rfl,h⟩
  exact sN<|cF<|qK<|⟨(e2,([]:List ah)),rfl,h⟩
 rintro⟨j2,j3⟩ R' B' hI h
 refine gS rfl hI<|sM rfl<|sA rfl<|sN<|qR ?_
 cases oI h
 exact qG
theorem search_ended_ev{a0:Int}{e1:ae}{e2:Int}{e3:Int}{e4:Bool}{e5:ai}{d1:(List ah)}{r:Bool}(h:gt a0 e1 e2 e3 e4 e5 d1=some r):EvP prog av ext 185 [.ptr 0 0,rI a0] [.var (ae.rc e1++ .ref 1 0::rI e2::rI e3::rB e4::ai.rc e5),.arr 0 194 (d1.map ah.pd)] (rB r,[.var (ae.rc e1++ .ref 1 0::rI e2::rI e3::rB e4::ai.rc e5),.arr 0 194 (d1.map ah.pd)]):=by
 refine Ev.body rfl Tryz.func185 rfl (by kernel_rfl)<|gS rfl rfl<|sU<|sN<|WC.cI rfl rfl<|sM rfl<|sV (.ptr 0 0)<|sV (.ptr 0 11)<|sL rfl<|WO.u9 rfl rfl rfl rfl rfl rfl rfl rfl rfl<|sF h (fun h=>?_) fun h=>?_
 ·refine sM rfl<|k3<|k3<|k3<|k3<|sK<|sK ?_
  refine k3<|k3<|sK<|sT<|sA rfl ?_
  refine sN<|sO<|qR ?_
  cases oI h
  exact qG
 refine sM rfl<|sM rfl<|sV (.ptr 0 0)<|sV (.ptr 0 14)<|sF h (fun h=>?_) fun h=>?_
 ·refine sM rfl<|sM rfl<|sV (.ptr 0 0)<|sV (.ptr 0 15)<|sV (.ptr 0 19)<|sL rfl<|sM rfl<|sV (.ptr 0 0)<|sV (.ptr 0 11)<|sL rfl<|bE h fun x4 hx4 h=>WO.pL hx4 rfl rfl rfl rfl rfl rfl rfl rfl<|sV (.elt 1 0 ((0:Int)).toNat 6)<|bE h fun x5 hx5 h=>WO.pn hx5 rfl rfl rfl rfl rfl rfl ?_
  refine sV (rI (rW (e5.aZ-x5.bQ)))<|sM rfl<|sV (rB (decide ((rW (e5.aZ-x5.bQ))<=a0)))<|sV (rB (decide ((rW (e5.aZ-x5.bQ))<=a0)))<|sV (rB (decide ((rW (e5.aZ-x5.bQ))<=a0)))<|sA rfl ?_
  refine sN<|sO<|qR ?_
  cases oI h
  exact qG
 refine sM rfl<|k3<|k3<|k3<|k3<|sK<|sK ?_
 refine sK<|sU<|sU<|sA rfl ?_
 refine sN<|sO<|qR ?_
 cases oI h
 exact qG
theorem heap_down_ev{a0:Int}{a1:Int}{e2:ae}{e3:Int}{e4:Int}{e5:Bool}{e6:ai}{d1:(List ah)}{r:Bool×(List ah)}(h:jO a0 a1 e2 e3 e4 e5 e6 d1=some r):EvP prog av ext 331 [.ifc 309 (.ptr 0 11),rI a0,rI a1] [.var (ae.rc e2++ .ref 1 0::rI e3::rI e4::rB e5::ai.rc e6),.arr 0 194 (d1.map ah.pd)] (rB r.1,[.var (ae.rc e2++ .ref 1 0::rI e3::rI e4::rB e5::ai.rc e6),.arr 0 194 (r.2.map ah.pd)]):=by
 refine Ev.body rfl Tryz.func331 rfl (by kernel_rfl)<|gS rfl rfl<|sU<|sN<|gS rfl rfl<|sM rfl<|sA rfl<|sN<|qS<|bE h fun o18 ho18 h=>WC.block (WC.loop (WL.n4 ho18 (fun s R' B'=>hY prog 2 (A R' B') (av.at_ 331 2 2)=some (A [(0,.ifc 309 (.ptr 0 11)),(1,rI a0),(2,rI a1),(7,rI s.1)] [(0,.var (ae.rc e2++ .ref 1 0::rI e3::rI e4::rB e5::ai.rc e6)),(1,.arr 0 194 (s.2.map ah.pd))])) (fun o e R' B'=>e= .exit 0∧hY prog 2 (A R' B') (av.at_ 331 2 11)=some (A [(1,rI a0),(7,rI o.1)] [(0,.var (ae.rc e2++ .ref 1 0::rI e3::rI e4::rB e5::ai.rc e6)),(1,.arr 0 194 (o.2.map ah.pd))])) rfl ?_ ?_))
 ·rintro⟨s1,s2⟩ R' B' q5 hI h
  refine qB<|gS rfl hI<|sM rfl<|sV (rI (rW ((2:Int)*s1)))<|sV (rI (rW ((rW ((2:Int)*s1))+(1:Int))))<|sA rfl<|sN<|qS<|gS rfl rfl<|sM rfl<|sM rfl<|sF h (fun h=>?_) fun h=>?_
  ·refine sM rfl<|sK<|sK<|sT<|sN<|cT<|qX<|⟨fun he=>(by cases he),fun _=>?_⟩
   cases oI h
   exact⟨nofun,rfl,rfl⟩
  refine sM rfl<|sM rfl<|sV (rB (decide ((rW ((rW ((2:Int)*s1))+(1:Int)))<(0:Int))))<|sF h (fun h=>?_) fun h=>?_
  ·refine sN<|cT<|qX<|⟨fun he=>(by cases he),fun _=>?_⟩
   cases oI h
   exact⟨nofun,rfl,rfl⟩
  refine sN<|cF<|qK<|gS rfl rfl<|sM rfl<|sA rfl<|sN<|WC.join (α:=Int×(List ah)) (fun x R' B'=>hY prog 2 (A R' B') (av.at_ 331 2 8)=some (A [(0,.ifc 309 (.ptr 0 11)),(1,rI a0),(2,rI a1),(7,rI s1),(9,rI x.1)] [(0,.var (ae.rc e2++ .ref 1 0::rI e3::rI e4::rB e5::ai.rc e6)),(1,.arr 0 194 (x.2.map ah.pd))])) (fun x=>dQ s1 x.1 x.2=some q5) ?_ ?_
  ·refine gS rfl rfl<|sM rfl<|sV (rI (rW ((rW ((rW ((2:Int)*s1))+(1:Int)))+(1:Int))))<|sA rfl<|sN<|gS rfl rfl<|sM rfl<|sM rfl<|sF h (fun h=>?_) fun h=>?_
   ·refine sM rfl<|sM rfl<|sM rfl<|sM rfl<|bE h fun x15 hx15 h=>WO.uP (e:=190) (c:= .ptr 0 11) (vl:= .ref 1 0) (g:=441) (args:=[rI (rW ((rW ((rW ((2:Int)*s1))+(1:Int)))+(1:Int))),rI (rW ((rW ((2:Int)*s1))+(1:Int)))]) (v:=rB x15.1) (u:=[(1,.arr 0 194 (x15.2.map ah.pd))]) rfl rfl (by intro _;kernel_rfl) rfl rfl rfl rfl rfl rfl (kf hx15) rfl rfl rfl rfl<|sF h (fun h=>?_) fun h=>?_
    ·exact sN<|cT<|WC.region rfl rfl<|sM rfl<|sA rfl<|sN<|⟨((rW ((rW ((rW ((2:Int)*s1))+(1:Int)))+(1:Int))),x15.2),rfl,h⟩
    exact sN<|cF<|qK<|⟨((rW ((rW ((2:Int)*s1))+(1:Int))),x15.2),rfl,h⟩
   exact sM rfl<|k3<|sK<|sU<|sN<|cF<|qK<|⟨((rW ((rW ((2:Int)*s1))+(1:Int))),s2),rfl,h⟩
  rintro⟨j8,j9⟩ R' B' hI h
  refine qS<|gS rfl hI<|sM rfl<|sM rfl<|sM rfl<|bE h fun x10 hx10 h=>WO.uP (e:=190) (c:= .ptr 0 11) (vl:= .ref 1 0) (g:=441) (args:=[rI j8,rI s1]) (v:=rB x10.1) (u:=[(1,.arr 0 194 (x10.2.map ah.pd))]) rfl rfl (by intro _;kernel_rfl) rfl rfl rfl rfl rfl rfl (kf hx10) rfl rfl rfl rfl<|sF h (fun h=>?_) fun h=>?_
  ·refine sN<|cT<|qX<|⟨fun he=>(by cases he),fun _=>?_⟩
   cases oI h
   exact⟨nofun,rfl,rfl⟩
  refine sN<|cF<|qK<|gS rfl rfl<|sM rfl<|sM rfl<|sM rfl<|bE h fun x12 hx12 h=>WO.uP (e:=190) (c:= .ptr 0 11) (vl:= .ref 1 0) (g:=442) (args:=[rI s1,rI j8]) (v:= .tup []) (u:=[(1,.arr 0 194 (x12.map ah.pd))]) rfl rfl (by intro _;kernel_rfl) rfl rfl rfl rfl rfl rfl (k8 hx12) rfl rfl rfl rfl<|sN<|WC.region rfl rfl<|sM rfl<|sA rfl<|sN ?_
  cases oI h
  exact⟨rfl,rfl⟩
 intro e R' B' he hq
 obtain⟨rfl,hI⟩:=hq
 refine qE<|gS rfl hI<|sM rfl<|sM rfl<|sV (rB (decide (o18.1>a0)))<|sA rfl<|sN<|qR ?_
 cases oI h
 exact qG
theorem queue_Pop_ev{e0:ae}{e1:Int}{e2:Int}{e3:Bool}{e4:ai}{d1:(List ah)}{r:ah×(List ah)}(h:mH e0 e1 e2 e3 e4 d1=some r):EvP prog av ext 443 [.ptr 0 11] [.var (ae.rc e0++ .ref 1 0::rI e1::rI e2::rB e3::ai.rc e4),.arr 0 194 (d1.map ah.pd)] (.ifc 194 (.d (ah.pd r.1)),[.var (ae.rc e0++ .ref 1 1::rI e1::rI e2::rB e3::ai.rc e4),.arr 1 194 (r.2.map ah.pd)]):=by
 refine Ev.body rfl Tryz.func443 rfl (by kernel_rfl)<|gS rfl rfl<|sV (.d (.raw .nilIface))<|sN<|gS rfl rfl<|sM rfl<|sV (.ptr 0 11)<|sL rfl<|sA rfl<|sN<|gS rfl rfl<|sM rfl<|sM rfl<|WO.u9 rfl rfl rfl rfl rfl rfl rfl rfl rfl<|sV (rI (rW ((d1.length:Int)-(1:Int)))) ?_
 refine bE h fun x2 hx2 h=>WO.pL hx2 rfl rfl rfl rfl rfl rfl rfl rfl<|bE h fun x3 hx3 h=>WO.pn hx3 rfl rfl rfl rfl rfl rfl<|sB (.ptr 64 0) 64 (.var [r0,r0,r0,r0,r0,r0,r0,r0])<|sH 64 (.var (ah.rc x3))<|sN<|gS rfl rfl<|sM rfl<|sM rfl<|sM rfl<|WO.u9 rfl rfl rfl rfl rfl rfl rfl rfl rfl<|sV (rI (rW ((d1.length:Int)-(1:Int))))<|bE h fun x4 hx4 h=>WO.resl hx4 rfl rfl rfl rfl rfl rfl rfl rfl rfl rfl rfl rfl ?_
 refine sV (.ptr 0 11)<|sS 0 (.var (ae.rc e0++ .ref 1 1::rI e1::rI e2::rB e3::ai.rc e4))<|sN<|gS rfl rfl<|sV (.d (ah.pd x3))<|sG (.ifc 194 (.d (ah.pd x3)))<|sA rfl<|sN<|qR ?_
 cases oI h
 exact qG
theorem heap_Pop_ev{e0:ae}{e1:Int}{e2:Int}{e3:Bool}{e4:ai}{d1:(List ah)}{r:ah×(List ah)}(h:lg e0 e1 e2 e3 e4 d1=some r):EvP prog av ext 269 [.ifc 309 (.ptr 0 11)] [.var (ae.rc e0++ .ref 1 0::rI e1::rI e2::rB e3::ai.rc e4),.arr 0 194 (d1.map ah.pd)] (.ifc 194 (.d (ah.pd r.1)),[.var (ae.rc e0++ .ref 1 1::rI e1::rI e2::rB e3::ai.rc e4),.arr 1 194 (r.2.map ah.pd)]):=by
 refine Ev.body rfl Tryz.func269 rfl (by kernel_rfl)<|gS rfl rfl<|sV (.d (.raw .nilIface))<|sN<|gS rfl rfl<|sM rfl<|bE h fun x1 hx1 h=>WO.uP (e:=190) (c:= .ptr 0 11) (vl:= .ref 1 0) (g:=440) (args:=[]) (v:=rI x1.1) (u:=[(1,.arr 0 194 (x1.2.map ah.pd))]) rfl rfl (by intro _;kernel_rfl) rfl rfl rfl rfl rfl rfl (k7 hx1) rfl rfl rfl rfl<|sV (rI (rW (x1.1-(1:Int))))<|sA rfl<|sN<|gS rfl rfl<|sM rfl<|sM rfl<|bE h fun x2 hx2 h=>?_
 refine WO.uP (e:=190) (c:= .ptr 0 11) (vl:= .ref 1 0) (g:=442) (args:=[r0,rI (rW (x1.1-(1:Int)))]) (v:= .tup []) (u:=[(1,.arr 0 194 (x2.map ah.pd))]) rfl rfl (by intro _;kernel_rfl) rfl rfl rfl rfl rfl rfl (k8 hx2) rfl rfl rfl rfl<|sN<|gS rfl rfl<|sM rfl<|sM rfl<|bE h fun x3 hx3 h=>cR (rB x3.1) [(0,.var (ae.rc e0++ .ref 1 0::rI e1::rI e2::rB e3::ai.rc e4)),(1,.arr 0 194 (x3.2.map ah.pd))] (heap_down_ev hx3)<|sN<|gS rfl rfl<|sM rfl<|bE h fun x4 hx4 h=>WO.oM (g:=443) (args:=[.ptr 0 11]) (v:= .ifc 194 (.d (ah.pd x4.1))) (u:=[(0,.var (ae.rc e0++ .ref 1 1::rI e1::rI e2::rB e3::ai.rc e4)),(1,.arr 1 194 (x4.2.map ah.pd))]) rfl rfl (by intro _;kernel_rfl) rfl rfl rfl rfl rfl (queue_Pop_ev hx4) rfl rfl rfl rfl<|sA rfl<|sN<|qR ?_
 cases oI h
 exact qG
theorem cz{a0:Int}{a1:Int}{r:Int}(h:bB a0 a1=some r):EvP prog av ext 334 [rI a0,rI a1] [] (rI r,[]):=by
 refine Ev.body rfl Tryz.func334 rfl (by kernel_rfl)<|gS rfl rfl<|sV (r0)<|sN<|gS rfl rfl<|sM rfl<|sM rfl<|sM rfl<|sV (rI (rW (a1-a0)))<|bE h fun x1 hx1 h=>WO.ru hx1 rfl rfl rfl rfl rfl rfl<|sV (rI (rW (a0+x1)))<|sA rfl<|sN<|qR ?_
 exact oI h▸qD
theorem bD{a0:aO}{r:aa}(h:bi a0=some r):EvP prog av ext 189 [.d (aO.pd a0)] [] (.d (aa.pd r),[]):=by
 refine Ev.body rfl Tryz.func189 rfl (by kernel_rfl)<|gS rfl rfl<|sB (.ptr 16 0) 16 (.var [rI a0.a0,rI a0.a1,rI a0.a2])<|sB (.ptr 32 0) 32 (.var [r0,r0,r0])<|sN<|gS rfl rfl<|sV (.ptr 16 0)<|sL rfl<|sV (.ptr 16 1)<|sL rfl<|sV (.ptr 16 2)<|sL rfl<|sV (.d (aa.pd (aa.mk a0.a0 a0.a1 a0.a2)))<|sS 32 (.var [rI a0.a0,rI a0.a1,rI a0.a2])<|sN ?_
 refine qR ?_
 exact oI h▸qD
theorem nd{a0:ag}{r:aa}(h:ei a0=some r):EvP prog av ext 332 [.d (ag.pd a0)] [] (.d (aa.pd r),[]):=by
 refine Ev.body rfl Tryz.func332 rfl (by kernel_rfl)<|gS rfl rfl<|sB (.ptr 16 0) 16 (.var (ag.rc a0))<|sB (.ptr 32 0) 32 (.var [r0,r0,r0])<|sN<|qS<|gS rfl rfl<|sV (.d (ag.pd a0))<|bE h fun x1 hx1 h=>cD (bh hx1)<|sF h (fun h=>?_) fun h=>?_
 ·refine sN<|cT<|gS rfl rfl<|sV (.d (aa.pd (aa.mk 0 0 0)))<|sS 32 (.var [r0,r0,r0])<|sN<|qR ?_
  exact oI h▸qD
 refine sN<|cF<|qK<|WC.cI rfl rfl<|sV (.ptr 16 0)<|sV (.d (aa.pd a0.aF))<|bE h fun x3 hx3 h=>cD (bq hx3)<|sV (.ptr 16 3)<|sV (.d (aa.pd a0.az))<|bE h fun x4 hx4 h=>cD (bq hx4)<|sB (.ptr 48 0) 48 (.var [r0,r0,r0])<|sB (.ptr 64 0) 64 (.var [r0,r0,r0])<|sS 48 (.var [rI x3.a0,rI x3.a1,rI x3.a2]) ?_
 refine sS 64 (.var [rI x4.a0,rI x4.a1,rI x4.a2]) ?_
 refine sN<|sO<|qS<|gS rfl rfl<|sV (r0)<|sN<|WC.block (WC.loop ?_)
 refine WL.round<|WC.oq (R0:=[(2,.ptr 32 0),(3,.ptr 48 0),(4,.ptr 64 0),(16,r0)]) (B0:=[(32,.var [r0,r0,r0]),(48,.var [rI x3.a0,rI x3.a1,rI x3.a2]),(64,.var [rI x4.a0,rI x4.a1,rI x4.a2])]) rfl rfl<|sT<|sN<|qS<|cT<|qK<|qS<|qB<|gS rfl rfl<|sM rfl<|sA rfl<|sN<|WC.oW rfl rfl<|sM rfl ?_
 refine sM rfl<|sV (.ptr 48 0)<|sL rfl<|sM rfl<|sV (.ptr 64 0)<|sL rfl<|bE h fun x5 hx5 h=>cD (cz hx5)<|sV (.ptr 48 0)<|sS 48 (.var [rI x5,rI x3.a1,rI x3.a2]) ?_
 refine sN<|sO<|WC.region rfl rfl<|sV (rI 1)<|sM rfl<|sN<|WL.round<|WC.oq (R0:=[(2,.ptr 32 0),(3,.ptr 48 0),(4,.ptr 64 0),(16,rI 1)]) (B0:=[(32,.var [r0,r0,r0]),(48,.var [rI x5,rI x3.a1,rI x3.a2]),(64,.var [rI x4.a0,rI x4.a1,rI x4.a2])]) rfl rfl<|sT<|sN<|qS<|cT<|qK<|qS<|qB<|gS rfl rfl ?_
 refine sM rfl<|sA rfl<|sN<|WC.oW rfl rfl<|sM rfl<|sM rfl<|sV (.ptr 48 1)<|sL rfl<|sM rfl<|sV (.ptr 64 1)<|sL rfl<|bE h fun x6 hx6 h=>cD (cz hx6)<|sV (.ptr 48 1)<|sS 48 (.var [rI x5,rI x6,rI x3.a2]) ?_
 refine sN<|sO<|WC.region rfl rfl<|sV (rI 2)<|sM rfl<|sN<|WL.round<|WC.oq (R0:=[(2,.ptr 32 0),(3,.ptr 48 0),(4,.ptr 64 0),(16,rI 2)]) (B0:=[(32,.var [r0,r0,r0]),(48,.var [rI x5,rI x6,rI x3.a2]),(64,.var [rI x4.a0,rI x4.a1,rI x4.a2])]) rfl rfl<|sT<|sN<|qS<|cT<|qK<|qS<|qB<|gS rfl rfl ?_
 refine sM rfl<|sA rfl<|sN<|WC.oW rfl rfl<|sM rfl<|sM rfl<|sV (.ptr 48 2)<|sL rfl<|sM rfl<|sV (.ptr 64 2)<|sL rfl<|bE h fun x7 hx7 h=>cD (cz hx7)<|sV (.ptr 48 2)<|sS 48 (.var [rI x5,rI x6,rI x7]) ?_
 refine sN<|sO<|WC.region rfl rfl<|sV (rI 3)<|sM rfl<|sN<|WL.round<|WC.oq (R0:=[(2,.ptr 32 0),(3,.ptr 48 0),(4,.ptr 64 0),(16,rI 3)]) (B0:=[(32,.var [r0,r0,r0]),(48,.var [rI x5,rI x6,rI x7]),(64,.var [rI x4.a0,rI x4.a1,rI x4.a2])]) rfl rfl<|sU<|sN<|qS<|cF<|qX<|qE<|gS rfl rfl<|sV (.d (aO.pd (aO.mk x5 x6 x7))) ?_
 refine bE h fun x8 hx8 h=>cD (bD hx8)<|sS 32 (.var (aa.rc x8))<|sN<|qR ?_
 exact oI h▸qD
theorem nH{a0:ae}{a1:aa}{r:Int×Int×Int}(h:eY a0 a1=some r):EvP prog av ext 18 [.d (ae.pd a0),.d (aa.pd a1)] [] (.tup [rI r.1,rI r.2.1,rI r.2.2],[]):=by
 refine Ev.body rfl Tryz.func18 rfl (by kernel_rfl)<|gS rfl rfl<|sB (.ptr 32 0) 32 (.var (ae.rc a0))<|sB (.ptr 48 0) 48 (.var (aa.rc a1))<|sV (r0)<|sV (r0)<|sV (r0)<|sN<|gS rfl rfl<|sV (.d (ae.pd a0))<|sV (.d (aa.pd a1))<|sV (.d (aa.pd a1))<|sG (.d (ag.pd (ag.mk a1 a1)))<|bE h fun x1 hx1 h=>cR (.tup [rM al.pd x1.1,rI x1.2]) [] (lV hx1) ?_
 refine sM rfl<|sV (rM al.pd x1.1)<|sV (rI x1.2)<|sA rfl<|sA rfl<|sN<|qS<|gS rfl rfl<|sM rfl<|sF h (fun h=>?_) fun h=>?_
 ·refine sN<|cT<|gS rfl rfl<|sM rfl<|sV (r0)<|sV (r0)<|sA rfl<|sN<|qR ?_
  cases oI h
  exact qG
 refine sN<|cF<|qK<|gS rfl rfl<|sV (.d (ae.pd a0))<|sM rfl<|bE h fun x3 hx3 h=>cR (.tup [rI x3.1,rI x3.2]) [] (mf hx3)<|sM rfl<|sV (rI x3.1)<|sV (rI x3.2)<|sA rfl<|sA rfl<|sN<|gS rfl rfl ?_
 refine sM rfl<|sM rfl<|sA rfl<|sA rfl<|sV (r0)<|sN<|qR ?_
 cases oI h
 exact qG
theorem mN{a0:aa}{a1:aa}{r:Int}(h:gj a0 a1=some r):EvP prog av ext 230 [.d (aa.pd a0),.d (aa.pd a1)] [] (rI r,[]):=by
 refine Ev.body rfl Tryz.func230 rfl (by kernel_rfl)<|gS rfl rfl<|sB (.ptr 32 0) 32 (.var (aa.rc a0))<|sB (.ptr 48 0) 48 (.var (aa.rc a1))<|sV (r0)<|sN<|WC.cI rfl rfl<|sV (.ptr 32 0)<|sL rfl<|sV (.ptr 48 0)<|sL rfl<|bE h fun x1 hx1 h=>cD (bG hx1)<|sV (.ptr 32 1)<|sL rfl ?_
 refine sV (.ptr 48 1)<|sL rfl<|bE h fun x2 hx2 h=>cD (bG hx2)<|sV (.ptr 32 2)<|sL rfl<|sV (.ptr 48 2)<|sL rfl<|bE h fun x3 hx3 h=>cD (bG hx3)<|sV (.d (.lst ([x1,x2,x3].map (PD.int .i64))))<|bE h fun x4 hx4 h=>cD (gF hx4)<|sA rfl ?_
 refine sN<|sO<|qR ?_
 exact oI h▸qD
theorem search_look_ev{a0:ag}{e1:ae}{e2:Int}{e3:Int}{e4:Bool}{e5:ai}{d1:(List ah)}{r:Int×Bool×ai}(h:ia a0 e1 e2 e3 e4 e5 d1=some r):EvP prog av ext 270 [.ptr 0 0,.d (ag.pd a0)] [.var (ae.rc e1++ .ref 1 0::rI e2::rI e3::rB e4::ai.rc e5),.arr 0 194 (d1.map ah.pd)] (rI r.1,[.var (ae.rc e1++ .ref 1 0::rI e2::rI e3::rB r.2.1::ai.rc r.2.2),.arr 0 194 (d1.map ah.pd)]):=by
 refine Ev.body rfl Tryz.func270 rfl (by kernel_rfl)<|gS rfl rfl<|sB (.ptr 48 0) 48 (.var (ag.rc a0))<|sV (r0)<|sN<|gS rfl rfl<|sV (.d (ag.pd a0))<|bE h fun x1 hx1 h=>cD (nd hx1)<|sB (.ptr 80 0) 80 (.var [r0,r0,r0])<|sS 80 (.var (aa.rc x1))<|sN<|WC.cI rfl rfl<|sM rfl<|sV (.ptr 0 0) ?_
 refine sV (.ptr 0 0)<|sV (.d (ae.pd e1))<|sV (.d (aa.pd x1))<|bE h fun x2 hx2 h=>cR (.tup [rI x2.1,rI x2.2.1,rI x2.2.2]) [] (nH hx2)<|sM rfl<|sV (rI x2.1)<|sV (rI x2.2.1)<|sV (rI x2.2.2)<|sA rfl<|sA rfl<|sA rfl ?_
 refine sN<|sO<|qS<|gS rfl rfl<|sM rfl<|sF h (fun h=>?_) fun h=>?_
 ·refine sN<|cT<|gS rfl rfl<|sM rfl<|sA rfl<|sN<|qR ?_
  cases oI h
  exact qG
 refine sN<|cF<|qK<|qS<|WC.cI rfl rfl<|sM rfl<|sV (.ptr 0 0)<|sV (.ptr 0 14)<|sL rfl<|sF h (fun h=>?_) fun h=>?_
 ·refine sM rfl<|k3<|k3<|sK<|sT<|sM rfl<|k3<|sK<|sK ?_
  refine k3<|k3<|k3<|k3<|sT ?_
  refine sN<|sO<|cT<|gS rfl rfl<|sM rfl<|sV (.ptr 0 0)<|sV (.ptr 0 14)<|sS 0 (.var (ae.rc e1++ .ref 1 0::rI e2::rI e3::rB true::ai.rc e5))<|sN<|WC.region rfl rfl<|sM rfl<|sV (.d (aa.pd x1))<|sM rfl<|sM rfl<|sG (.d (ai.pd (ai.mk x1 x2.1 x2.2.1 0 (ag.mk (aa.mk 0 0 0) (aa.mk 0 0 0)))))<|sV (.ptr 0 0) ?_
  refine sV (.ptr 0 15)<|sH 0 (.var (ae.rc e1++ .ref 1 0::rI e2::rI e3::rB true::aa.rc x1++[rI x2.1,rI x2.2.1,r0,r0,r0,r0,r0,r0,r0]))<|sN<|gS rfl rfl<|sV (r0)<|sN<|qR ?_
  cases oI h
  exact qG
 refine sM rfl<|sM rfl<|sM rfl<|sV (.ptr 0 0)<|sV (.ptr 0 15)<|sV (.ptr 0 19)<|sL rfl<|sV (rB (decide (x2.2.1<e5.aZ)))<|sF h (fun h=>?_) fun h=>?_
 ·refine sM rfl<|k3<|k3<|k3<|k3<|sK<|sK ?_
  refine k3<|sT ?_
  refine sN<|sO<|cT<|gS rfl rfl<|sM rfl<|sV (.ptr 0 0)<|sV (.ptr 0 14)<|sS 0 (.var (ae.rc e1++ .ref 1 0::rI e2::rI e3::rB true::ai.rc e5))<|sN<|WC.region rfl rfl<|sM rfl<|sV (.d (aa.pd x1))<|sM rfl<|sM rfl<|sG (.d (ai.pd (ai.mk x1 x2.1 x2.2.1 0 (ag.mk (aa.mk 0 0 0) (aa.mk 0 0 0)))))<|sV (.ptr 0 0) ?_
  refine sV (.ptr 0 15)<|sH 0 (.var (ae.rc e1++ .ref 1 0::rI e2::rI e3::rB true::aa.rc x1++[rI x2.1,rI x2.2.1,r0,r0,r0,r0,r0,r0,r0]))<|sN<|gS rfl rfl<|sV (r0)<|sN<|qR ?_
  cases oI h
  exact qG
 refine sM rfl<|sM rfl<|sM rfl<|sV (.ptr 0 0)<|sV (.ptr 0 15)<|sV (.ptr 0 19)<|sL rfl<|sF h (fun h=>?_) fun h=>?_
 ·refine sM rfl<|sV (.d (aa.pd x1))<|sM rfl<|sV (.ptr 0 0)<|sV (.ptr 0 15)<|sV (.ptr 0 15)<|sV (.d (aa.pd e5.bp))<|bE h fun x7 hx7 h=>cD (mN hx7)<|sV (rB (decide (x7<(0:Int))))<|sV (rB (decide (x7<(0:Int))))<|sF h (fun h=>?_) fun h=>?_
  ·refine sN<|sO<|cT<|gS rfl rfl<|sM rfl<|sV (.ptr 0 0)<|sV (.ptr 0 14)<|sS 0 (.var (ae.rc e1++ .ref 1 0::rI e2::rI e3::rB true::ai.rc e5))<|sN<|WC.region rfl rfl<|sM rfl<|sV (.d (aa.pd x1))<|sM rfl<|sM rfl<|sG (.d (ai.pd (ai.mk x1 x2.1 x2.2.1 0 (ag.mk (aa.mk 0 0 0) (aa.mk 0 0 0)))))<|sV (.ptr 0 0) ?_
   refine sV (.ptr 0 15)<|sH 0 (.var (ae.rc e1++ .ref 1 0::rI e2::rI e3::rB true::aa.rc x1++[rI x2.1,rI x2.2.1,r0,r0,r0,r0,r0,r0,r0]))<|sN<|gS rfl rfl<|sV (r0)<|sN<|qR ?_
   cases oI h
   exact qG
  refine sN<|sO<|cF<|qK<|gS rfl rfl<|sV (r0)<|sN<|qR ?_
  cases oI h
  exact qG
 refine sM rfl<|k3<|k3<|sK<|sK<|sU<|sU ?_
 refine sN<|sO<|cF<|qK<|gS rfl rfl<|sV (r0)<|sN<|qR ?_
 cases oI h
 exact qG
theorem nf{a0:ag}{r:Int}(h:gM a0=some r):EvP prog av ext 333 [.d (ag.pd a0)] [] (rI r,[]):=by
 refine Ev.body rfl Tryz.func333 rfl (by kernel_rfl)<|gS rfl rfl<|sB (.ptr 16 0) 16 (.var (ag.rc a0))<|sV (r0)<|sN<|qS<|gS rfl rfl<|sV (.d (ag.pd a0))<|bE h fun x1 hx1 h=>cD (bh hx1)<|sF h (fun h=>?_) fun h=>?_
 ·refine sN<|cT<|gS rfl rfl<|sV (r0)<|sN<|qR ?_
  exact oI h▸qD
 refine sN<|cF<|qK<|gS rfl rfl<|sV (.ptr 16 3)<|sV (.d (aa.pd a0.az))<|bE h fun x3 hx3 h=>cD (bq hx3)<|sB (.ptr 64 0) 64 (.var [r0,r0,r0])<|sV (rI 1)<|sS 64 (.var [rI x3.a0,rI x3.a1,rI x3.a2])<|sN<|qS<|gS rfl rfl<|sV (.ptr 16 0) ?_
 refine sV (.d (aa.pd a0.aF))<|bE h fun x4 hx4 h=>cD (bq hx4)<|sV (r0)<|sN<|WC.block (WC.loop ?_)
 refine WL.round<|gS rfl rfl<|sT<|sN<|qS<|cT<|qK<|qS<|qB<|gS rfl rfl<|sM rfl<|sV (rI x4.a0)<|sA rfl<|sA rfl<|sN ?_
 refine WC.region rfl rfl<|sM rfl<|sM rfl<|sV (.ptr 64 0)<|sL rfl<|sM rfl<|sV (rI (rW (x3.a0-x4.a0)))<|sV (rI (rW ((rW (x3.a0-x4.a0))+(1:Int))))<|sV (rI (rW ((1:Int)*(rW ((rW (x3.a0-x4.a0))+(1:Int))))))<|sA rfl<|sN<|WC.region rfl rfl<|sV (rI 1)<|sM rfl<|sN ?_
 refine WL.round<|gS rfl rfl<|sT<|sN<|qS<|cT<|qK<|qS<|qB<|gS rfl rfl<|sM rfl<|sV (rI x4.a1)<|sA rfl<|sA rfl<|sN ?_
 refine WC.region rfl rfl<|sM rfl<|sM rfl<|sV (.ptr 64 1)<|sL rfl<|sM rfl<|sV (rI (rW (x3.a1-x4.a1)))<|sV (rI (rW ((rW (x3.a1-x4.a1))+(1:Int))))<|sV (rI (rW ((rW ((1:Int)*(rW ((rW (x3.a0-x4.a0))+(1:Int)))))*(rW ((rW (x3.a1-x4.a1))+(1:Int))))))<|sA rfl<|sN<|WC.region rfl rfl<|sV (rI 2)<|sM rfl<|sN ?_
 refine WL.round<|gS rfl rfl<|sT<|sN<|qS<|cT<|qK<|qS<|qB<|gS rfl rfl<|sM rfl<|sV (rI x4.a2)<|sA rfl<|sA rfl<|sN ?_
 refine WC.region rfl rfl<|sM rfl<|sM rfl<|sV (.ptr 64 2)<|sL rfl<|sM rfl<|sV (rI (rW (x3.a2-x4.a2)))<|sV (rI (rW ((rW (x3.a2-x4.a2))+(1:Int))))<|sV (rI (rW ((rW ((rW ((1:Int)*(rW ((rW (x3.a0-x4.a0))+(1:Int)))))*(rW ((rW (x3.a1-x4.a1))+(1:Int)))))*(rW ((rW (x3.a2-x4.a2))+(1:Int))))))<|sA rfl<|sN<|WC.region rfl rfl<|sV (rI 3)<|sM rfl<|sN ?_
 refine WL.round<|gS rfl rfl<|sU<|sN<|qS<|cF<|qX<|qE<|gS rfl rfl<|sM rfl<|sA rfl<|sN<|qR ?_
 exact oI h▸qD
theorem nD{a0:ag}{r:ag×ag×Bool}(h:d4 a0=some r):EvP prog av ext 271 [.d (ag.pd a0)] [] (.tup [.d (ag.pd r.1),.d (ag.pd r.2.1),rB r.2.2],[]):=by
 refine Ev.body rfl Tryz.func271 rfl (by kernel_rfl)<|gS rfl rfl<|sB (.ptr 16 0) 16 (.var (ag.rc a0))<|sB (.ptr 32 0) 32 (.var zZ4)<|sB (.ptr 48 0) 48 (.var zZ4)<|sU<|sN<|qS<|gS rfl rfl<|sV (.d (ag.pd a0))<|bE h fun x1 hx1 h=>cD (nf hx1)<|sF h (fun h=>?_) fun h=>?_
 ·refine sN<|cT<|gS rfl rfl<|sG (.d (ag.pd (ag.mk (aa.mk 0 0 0) (aa.mk 0 0 0))))<|sG (.d (ag.pd (ag.mk (aa.mk 0 0 0) (aa.mk 0 0 0))))<|sH 32 (.var zZ4)<|sH 48 (.var zZ4)<|sU<|sN<|qR ?_
  cases oI h
  exact qG
 refine sN<|cF<|qK<|WC.cI rfl rfl<|sV (.ptr 16 0)<|sV (.d (aa.pd a0.aF))<|bE h fun x3 hx3 h=>cD (bq hx3)<|sV (.ptr 16 3)<|sV (.d (aa.pd a0.az))<|bE h fun x4 hx4 h=>cD (bq hx4)<|sB (.ptr 80 0) 80 (.var [r0,r0,r0])<|sB (.ptr 96 0) 96 (.var [r0,r0,r0])<|sS 80 (.var [rI x3.a0,rI x3.a1,rI x3.a2]) ?_
 refine sS 96 (.var [rI x4.a0,rI x4.a1,rI x4.a2]) ?_
 refine sN<|sO<|gS rfl rfl<|sV (r0)<|sN<|qS<|gS rfl rfl<|sV (r0)<|sN<|WC.block (WC.loop ?_)
 refine WL.round<|gS rfl rfl<|sT<|sN<|qS<|cT<|qK<|qS<|qB<|gS rfl rfl<|sM rfl<|sA rfl<|sN<|WC.cI rfl rfl<|sM rfl ?_
 refine sV (.ptr 96 0)<|sL rfl<|sM rfl<|sV (.ptr 80 0)<|sL rfl<|sV (rI (rW (x4.a0-x3.a0)))<|sM rfl<|sV (.ptr 96 0)<|sL rfl<|sM rfl<|sV (.ptr 80 0)<|sL rfl<|sV (rI (rW (x4.a0-x3.a0)))<|WO.s0 (v':=rB false) rfl rfl (fun _=>rfl) (congrArg (fun b=>RV.d (.bool b)) (decide_eq_false (Int.lt_irrefl _))) ?_
 refine sN<|sO<|cF<|qK<|WC.region rfl rfl<|sV (rI 1)<|sM rfl<|sN<|WL.round<|gS rfl rfl<|sT<|sN<|qS<|cT<|qK<|qS ?_
 refine qB<|gS rfl rfl<|sM rfl<|sA rfl<|sN<|WC.cI rfl rfl<|sM rfl<|sV (.ptr 96 1)<|sL rfl<|sM rfl<|sV (.ptr 80 1)<|sL rfl<|sV (rI (rW (x4.a1-x3.a1)))<|sM rfl<|sV (.ptr 96 0) ?_
 refine sL rfl<|sM rfl<|sV (.ptr 80 0)<|sL rfl<|sV (rI (rW (x4.a0-x3.a0)))<|sF h (fun h=>?_) fun h=>?_
 ·refine sN<|sO<|cT<|WC.region rfl rfl<|sM rfl<|sA rfl<|sN<|WC.region rfl rfl<|sV (rI 2)<|sM rfl<|sN<|WL.round<|gS rfl rfl<|sT<|sN<|qS ?_
  refine cT<|qK<|qS<|qB<|gS rfl rfl<|sM rfl<|sA rfl<|sN<|WC.cI rfl rfl<|sM rfl<|sV (.ptr 96 2)<|sL rfl<|sM rfl<|sV (.ptr 80 2)<|sL rfl ?_
  refine sV (rI (rW (x4.a2-x3.a2)))<|sM rfl<|sV (.ptr 96 1)<|sL rfl<|sM rfl<|sV (.ptr 80 1)<|sL rfl<|sV (rI (rW (x4.a1-x3.a1)))<|sF h (fun h=>?_) fun h=>?_
  ·refine sN<|sO<|cT<|WC.region rfl rfl<|sM rfl<|sA rfl<|sN<|WC.region rfl rfl<|sV (rI 3)<|sM rfl<|sN<|WL.round<|gS rfl rfl<|sU<|sN<|qS ?_
   refine cF<|qX<|qE<|WC.cI rfl rfl<|sV (.d (aO.pd x4))<|sV (.d (aO.pd x3))<|sB (.ptr 144 0) 144 (.var [r0,r0,r0])<|sB (.ptr 160 0) 160 (.var [r0,r0,r0])<|sS 144 (.var [rI x4.a0,rI x4.a1,rI x4.a2])<|sS 160 (.var [rI x3.a0,rI x3.a1,rI x3.a2]) ?_
   refine sN<|sO<|WC.cI rfl rfl<|sM rfl<|sM rfl<|sV (.ptr 80 2)<|sL rfl<|sM rfl<|sV (.ptr 96 2)<|sL rfl<|bE h fun x7 hx7 h=>cD (cz hx7)<|sV (.ptr 144 2)<|sS 144 (.var [rI x4.a0,rI x4.a1,rI x7]) ?_
   refine sN<|sO<|gS rfl rfl<|sM rfl<|sM rfl<|sV (.ptr 144 2)<|sL rfl<|sV (rI (rW (x7+(1:Int))))<|sV (.ptr 160 2)<|sS 160 (.var [rI x3.a0,rI x3.a1,rI (rW (x7+(1:Int)))])<|sN<|WC.cI rfl rfl<|sV (.ptr 16 0)<|sV (.d (aa.pd a0.aF))<|sV (.d (aO.pd (aO.mk x4.a0 x4.a1 x7)))<|bE h fun x8 hx8 h=>?_
   refine cD (bD hx8)<|sG (.d (ag.pd (ag.mk a0.aF x8)))<|sV (.d (aO.pd (aO.mk x3.a0 x3.a1 (rW (x7+(1:Int))))))<|bE h fun x9 hx9 h=>cD (bD hx9)<|sV (.ptr 16 3)<|sV (.d (aa.pd a0.az))<|sG (.d (ag.pd (ag.mk x9 a0.az)))<|sH 32 (.var (aa.rc a0.aF++aa.rc x8))<|sH 48 (.var (aa.rc x9++aa.rc a0.az))<|sT ?_
   refine sN<|sO<|qR ?_
   cases oI h
   exact qG
  refine sN<|sO<|cF<|qK<|WC.region rfl rfl<|sV (rI 3)<|sM rfl<|sN<|WL.round<|gS rfl rfl<|sU<|sN<|qS<|cF<|qX<|qE ?_
  refine WC.cI rfl rfl<|sV (.d (aO.pd x4))<|sV (.d (aO.pd x3))<|sB (.ptr 144 0) 144 (.var [r0,r0,r0])<|sB (.ptr 160 0) 160 (.var [r0,r0,r0])<|sS 144 (.var [rI x4.a0,rI x4.a1,rI x4.a2])<|sS 160 (.var [rI x3.a0,rI x3.a1,rI x3.a2]) ?_
  refine sN<|sO<|WC.cI rfl rfl<|sM rfl<|sM rfl<|sV (.ptr 80 1)<|sL rfl<|sM rfl<|sV (.ptr 96 1)<|sL rfl<|bE h fun x10 hx10 h=>cD (cz hx10)<|sV (.ptr 144 1)<|sS 144 (.var [rI x4.a0,rI x10,rI x4.a2]) ?_
  refine sN<|sO<|gS rfl rfl<|sM rfl<|sM rfl<|sV (.ptr 144 1)<|sL rfl<|sV (rI (rW (x10+(1:Int))))<|sV (.ptr 160 1)<|sS 160 (.var [rI x3.a0,rI (rW (x10+(1:Int))),rI x3.a2])<|sN<|WC.cI rfl rfl<|sV (.ptr 16 0)<|sV (.d (aa.pd a0.aF))<|sV (.d (aO.pd (aO.mk x4.a0 x10 x4.a2)))<|bE h fun x11 hx11 h=>?_
  refine cD (bD hx11)<|sG (.d (ag.pd (ag.mk a0.aF x11)))<|sV (.d (aO.pd (aO.mk x3.a0 (rW (x10+(1:Int))) x3.a2)))<|bE h fun x12 hx12 h=>cD (bD hx12)<|sV (.ptr 16 3)<|sV (.d (aa.pd a0.az))<|sG (.d (ag.pd (ag.mk x12 a0.az)))<|sH 32 (.var (aa.rc a0.aF++aa.rc x11))<|sH 48 (.var (aa.rc x12++aa.rc a0.az))<|sT ?_
  refine sN<|sO<|qR ?_
  cases oI h
  exact qG
 refine sN<|sO<|cF<|qK<|WC.region rfl rfl<|sV (rI 2)<|sM rfl<|sN<|WL.round<|gS rfl rfl<|sT<|sN<|qS<|cT<|qK<|qS ?_
 refine qB<|gS rfl rfl<|sM rfl<|sA rfl<|sN<|WC.cI rfl rfl<|sM rfl<|sV (.ptr 96 2)<|sL rfl<|sM rfl<|sV (.ptr 80 2)<|sL rfl<|sV (rI (rW (x4.a2-x3.a2)))<|sM rfl<|sV (.ptr 96 0) ?_
 refine sL rfl<|sM rfl<|sV (.ptr 80 0)<|sL rfl<|sV (rI (rW (x4.a0-x3.a0)))<|sF h (fun h=>?_) fun h=>?_
 ·refine sN<|sO<|cT<|WC.region rfl rfl<|sM rfl<|sA rfl<|sN<|WC.region rfl rfl<|sV (rI 3)<|sM rfl<|sN<|WL.round<|gS rfl rfl<|sU<|sN<|qS ?_
  refine cF<|qX<|qE<|WC.cI rfl rfl<|sV (.d (aO.pd x4))<|sV (.d (aO.pd x3))<|sB (.ptr 144 0) 144 (.var [r0,r0,r0])<|sB (.ptr 160 0) 160 (.var [r0,r0,r0])<|sS 144 (.var [rI x4.a0,rI x4.a1,rI x4.a2])<|sS 160 (.var [rI x3.a0,rI x3.a1,rI x3.a2]) ?_
  refine sN<|sO<|WC.cI rfl rfl<|sM rfl<|sM rfl<|sV (.ptr 80 2)<|sL rfl<|sM rfl<|sV (.ptr 96 2)<|sL rfl<|bE h fun x14 hx14 h=>cD (cz hx14)<|sV (.ptr 144 2)<|sS 144 (.var [rI x4.a0,rI x4.a1,rI x14]) ?_
  refine sN<|sO<|gS rfl rfl<|sM rfl<|sM rfl<|sV (.ptr 144 2)<|sL rfl<|sV (rI (rW (x14+(1:Int))))<|sV (.ptr 160 2)<|sS 160 (.var [rI x3.a0,rI x3.a1,rI (rW (x14+(1:Int)))])<|sN<|WC.cI rfl rfl<|sV (.ptr 16 0)<|sV (.d (aa.pd a0.aF))<|sV (.d (aO.pd (aO.mk x4.a0 x4.a1 x14)))<|bE h fun x15 hx15 h=>?_
  refine cD (bD hx15)<|sG (.d (ag.pd (ag.mk a0.aF x15)))<|sV (.d (aO.pd (aO.mk x3.a0 x3.a1 (rW (x14+(1:Int))))))<|bE h fun x16 hx16 h=>cD (bD hx16)<|sV (.ptr 16 3)<|sV (.d (aa.pd a0.az))<|sG (.d (ag.pd (ag.mk x16 a0.az)))<|sH 32 (.var (aa.rc a0.aF++aa.rc x15))<|sH 48 (.var (aa.rc x16++aa.rc a0.az))<|sT ?_
  refine sN<|sO<|qR ?_
  cases oI h
  exact qG
 refine sN<|sO<|cF<|qK<|WC.region rfl rfl<|sV (rI 3)<|sM rfl<|sN<|WL.round<|gS rfl rfl<|sU<|sN<|qS<|cF<|qX<|qE ?_
 refine WC.cI rfl rfl<|sV (.d (aO.pd x4))<|sV (.d (aO.pd x3))<|sB (.ptr 144 0) 144 (.var [r0,r0,r0])<|sB (.ptr 160 0) 160 (.var [r0,r0,r0])<|sS 144 (.var [rI x4.a0,rI x4.a1,rI x4.a2])<|sS 160 (.var [rI x3.a0,rI x3.a1,rI x3.a2]) ?_
 refine sN<|sO<|WC.cI rfl rfl<|sM rfl<|sM rfl<|sV (.ptr 80 0)<|sL rfl<|sM rfl<|sV (.ptr 96 0)<|sL rfl<|bE h fun x17 hx17 h=>cD (cz hx17)<|sV (.ptr 144 0)<|sS 144 (.var [rI x17,rI x4.a1,rI x4.a2]) ?_
 refine sN<|sO<|gS rfl rfl<|sM rfl<|sM rfl<|sV (.ptr 144 0)<|sL rfl<|sV (rI (rW (x17+(1:Int))))<|sV (.ptr 160 0)<|sS 160 (.var [rI (rW (x17+(1:Int))),rI x3.a1,rI x3.a2])<|sN<|WC.cI rfl rfl<|sV (.ptr 16 0)<|sV (.d (aa.pd a0.aF))<|sV (.d (aO.pd (aO.mk x17 x4.a1 x4.a2)))<|bE h fun x18 hx18 h=>?_
 refine cD (bD hx18)<|sG (.d (ag.pd (ag.mk a0.aF x18)))<|sV (.d (aO.pd (aO.mk (rW (x17+(1:Int))) x3.a1 x3.a2)))<|bE h fun x19 hx19 h=>cD (bD hx19)<|sV (.ptr 16 3)<|sV (.d (aa.pd a0.az))<|sG (.d (ag.pd (ag.mk x19 a0.az)))<|sH 32 (.var (aa.rc a0.aF++aa.rc x18))<|sH 48 (.var (aa.rc x19++aa.rc a0.az))<|sT ?_
 refine sN<|sO<|qR ?_
 cases oI h
 exact qG
theorem queue_Pushq_ev{a0:ah}{e1:ae}{e2:Int}{e3:Int}{e4:Bool}{e5:ai}{d1:(List ah)}{r:(List ah)}(h:kG a0 e1 e2 e3 e4 e5 d1=some r):EvP prog av ext 444 [.ptr 0 11,.ifc 194 (.d (ah.pd a0))] [.var (ae.rc e1++ .ref 1 0::rI e2::rI e3::rB e4::ai.rc e5),.arr 0 194 (d1.map ah.pd)] (.tup [],[.var (ae.rc e1++ .ref 1 1::rI e2::rI e3::rB e4::ai.rc e5),.arr 1 194 (r.map ah.pd)]):=by
 refine Ev.body rfl Tryz.func444 rfl (by kernel_rfl)<|gS rfl rfl<|sM rfl<|sG (.tup [.d (ah.pd a0),rB true])<|sM rfl<|sV (.d (ah.pd a0))<|sT<|sB (.ptr 64 0) 64 (.var [r0,r0,r0,r0,r0,r0,r0,r0])<|sH 64 (.var (ah.rc a0))<|sA rfl<|sN<|gS rfl rfl<|sM rfl<|sN<|cT ?_
 refine WC.oW rfl rfl<|sM rfl<|sM rfl<|sV (.ptr 0 11)<|sL rfl<|sV (.d (ah.pd a0))<|sG (.d (.lst ([a0].map ah.pd)))<|bE h fun x1 hx1 h=>aR hx1 (fun _=>rfl) rfl<|sV (.ptr 0 11)<|sS 0 (.var (ae.rc e1++ .ref 1 1::rI e2::rI e3::rB e4::ai.rc e5)) ?_
 refine sN<|sO ?_
 cases oI h
 exact qG
theorem heap_Pushq_ev{a0:ah}{e1:ae}{e2:Int}{e3:Int}{e4:Bool}{e5:ai}{d1:(List ah)}{r:(List ah)}(h:iK a0 e1 e2 e3 e4 e5 d1=some r):EvP prog av ext 268 [.ifc 309 (.ptr 0 11),.ifc 194 (.d (ah.pd a0))] [.var (ae.rc e1++ .ref 1 0::rI e2::rI e3::rB e4::ai.rc e5),.arr 0 194 (d1.map ah.pd)] (.tup [],[.var (ae.rc e1++ .ref 1 1::rI e2::rI e3::rB e4::ai.rc e5),.arr 1 194 (r.map ah.pd)]):=by
 refine Ev.body rfl Tryz.func268 rfl (by kernel_rfl)<|gS rfl rfl<|sM rfl<|sM rfl<|bE h fun x1 hx1 h=>WO.oM (g:=444) (args:=[.ptr 0 11,.ifc 194 (.d (ah.pd a0))]) (v:= .tup []) (u:=[(0,.var (ae.rc e1++ .ref 1 1::rI e2::rI e3::rB e4::ai.rc e5)),(1,.arr 1 194 (x1.map ah.pd))]) rfl rfl (by intro _;kernel_rfl) rfl rfl rfl rfl rfl (queue_Pushq_ev hx1) rfl rfl rfl rfl<|sN<|WC.region rfl rfl<|sM rfl<|sM rfl<|bE h fun x2 hx2 h=>WO.uP (e:=190) (c:= .ptr 0 11) (vl:= .ref 1 1) (g:=440) (args:=[]) (v:=rI x2.1) (u:=[(1,.arr 1 194 (x2.2.map ah.pd))]) rfl rfl (by intro _;kernel_rfl) rfl rfl rfl rfl rfl rfl (k7 hx2) rfl rfl rfl rfl<|sV (rI (rW (x2.1-(1:Int))))<|bE h fun x3 hx3 h=>cR (.tup []) [(0,.var (ae.rc e1++ .ref 1 1::rI e2::rI e3::rB e4::ai.rc e5)),(1,.arr 1 194 (x3.map ah.pd))] (heap_up_ev hx3) ?_
 refine sN ?_
 cases oI h
 exact qG
theorem mr{a0:ag}{e1:ae}{e2:Int}{e3:Int}{e4:Bool}{e5:ai}{d1:(List ah)}{r:Int×Int×(List ah)}(h:f9 a0 e1 e2 e3 e4 e5 d1=some r):EvP prog av ext 184 [.ptr 0 0,.d (ag.pd a0)] [.var (ae.rc e1++ .ref 1 0::rI e2::rI e3::rB e4::ai.rc e5),.arr 0 194 (d1.map ah.pd)] (rI r.1,[.var (ae.rc e1++ .ref 1 1::rI r.2.1::rI e3::rB e4::ai.rc e5),.arr 1 194 (r.2.2.map ah.pd)]):=by
 refine Ev.body rfl Tryz.func184 rfl (by kernel_rfl)<|gS rfl rfl<|sB (.ptr 48 0) 48 (.var (ag.rc a0))<|sV (r0)<|sN<|WC.cI rfl rfl<|sM rfl<|sV (.ptr 0 0)<|sV (.ptr 0 0)<|sV (.d (ae.pd e1))<|sV (.d (ag.pd a0))<|bE h fun x1 hx1 h=>cR (.tup [rI x1.1,rI x1.2]) [] (lU hx1)<|sM rfl<|sV (rI x1.1) ?_
 refine sV (rI x1.2)<|sA rfl<|sA rfl ?_
 refine sN<|sO<|WC.join (α:=Int×(List ah)) (fun x R' B'=>hY prog 2 (A R' B') (av.at_ 184 2 5)=some (A [(6,rI x1.2)] [(0,.var (ae.rc e1++ .ref 1 1::rI x.1::rI e3::rB e4::ai.rc e5)),(1,.arr 1 194 (x.2.map ah.pd))])) (fun x=>gc x1 x.1 x.2=some r) ?_ ?_
 ·refine gS rfl rfl<|sM rfl<|sF h (fun h=>?_) fun h=>?_
  ·refine sN<|cT<|WC.cI rfl rfl<|sM rfl<|sV (.ptr 0 0)<|sV (.ptr 0 11)<|sG (.ifc 309 (.ptr 0 11))<|sV (.d (ag.pd a0))<|sM rfl<|sM rfl<|sV (.ptr 0 0)<|sV (.ptr 0 12)<|sL rfl<|sG (.d (ah.pd (ah.mk a0 x1.1 e2)))<|sG (.ifc 194 (.d (ah.pd (ah.mk a0 x1.1 e2)))) ?_
   refine bE h fun x6 hx6 h=>cR (.tup []) [(0,.var (ae.rc e1++ .ref 1 1::rI e2::rI e3::rB e4::ai.rc e5)),(1,.arr 1 194 (x6.map ah.pd))] (heap_Pushq_ev hx6) ?_
   exact sN<|sO<|WC.region rfl rfl<|sM rfl<|sV (.ptr 0 0)<|sV (.ptr 0 12)<|sL rfl<|sV (rI (rW (e2+(1:Int))))<|sV (.ptr 0 0)<|sV (.ptr 0 12)<|sS 0 (.var (ae.rc e1++ .ref 1 1::rI (rW (e2+(1:Int)))::rI e3::rB e4::ai.rc e5))<|sN<|⟨((rW (e2+(1:Int))),x6),rfl,h⟩
  exact sN<|cF<|qK<|⟨(e2,d1),rfl,h⟩
 rintro⟨j2,j3⟩ R' B' hI h
 refine gS rfl hI<|sM rfl<|sA rfl<|sN<|qR ?_
 cases oI h
 exact qG
theorem search_step_ev{e0:ae}{e1:Int}{e2:Int}{e3:Bool}{e4:ai}{d1:(List ah)}{r:Int×Int×Int×Bool×ai×(List ah)}(h:ib e0 e1 e2 e3 e4 d1=some r):EvP prog av ext 186 [.ptr 0 0] [.var (ae.rc e0++ .ref 1 0::rI e1::rI e2::rB e3::ai.rc e4),.arr 0 194 (d1.map ah.pd)] (rI r.1,[.var (ae.rc e0++ .ref 1 1::rI r.2.1::rI r.2.2.1::rB r.2.2.2.1::ai.rc r.2.2.2.2.1),.arr 1 194 (r.2.2.2.2.2.map ah.pd)]):=by
 refine Ev.body rfl Tryz.func186 rfl (by kernel_rfl)<|gS rfl rfl<|sV (r0)<|sN<|qS<|gS rfl rfl<|sM rfl<|sV (.ptr 0 0)<|sV (.ptr 0 13)<|sL rfl<|sF h (fun h=>?_) fun h=>?_
 ·refine sN<|cT<|WC.oq (R0:=[]) (B0:=[(0,.var (ae.rc e0++ .ref 1 1::rI e1::rI e2::rB e3::ai.rc e4)),(1,.arr 1 194 (d1.map ah.pd))]) rfl rfl<|sV (rI 25)<|sN<|qR ?_
  cases oI h
  exact qG
 refine sN<|cF<|qK<|gS rfl rfl<|sM rfl<|sV (.ptr 0 0)<|sV (.ptr 0 11)<|sL rfl<|bE h fun x3 hx3 h=>WO.pL hx3 rfl rfl rfl rfl rfl rfl rfl rfl<|sV (.elt 1 0 ((0:Int)).toNat 0)<|bE h fun x4 hx4 h=>WO.pn hx4 rfl rfl rfl rfl rfl rfl<|sB (.ptr 48 0) 48 (.var zZ4)<|sH 48 (.var (ag.rc x4.gU)) ?_
 refine sN<|gS rfl rfl<|sM rfl<|sV (.ptr 0 0)<|sV (.ptr 0 11)<|sG (.ifc 309 (.ptr 0 11))<|bE h fun x5 hx5 h=>cR (.ifc 194 (.d (ah.pd x5.1))) [(0,.var (ae.rc e0++ .ref 1 1::rI e1::rI e2::rB e3::ai.rc e4)),(1,.arr 1 194 (x5.2.map ah.pd))] (heap_Pop_ev hx5)<|sN<|gS rfl rfl<|sM rfl<|sV (.ptr 0 0)<|sV (.ptr 0 13)<|sL rfl<|sV (rI (rW (e2+(1:Int)))) ?_
 refine sV (.ptr 0 0)<|sV (.ptr 0 13)<|sS 0 (.var (ae.rc e0++ .ref 1 1::rI e1::rI (rW (e2+(1:Int)))::rB e3::ai.rc e4))<|sN<|qS<|gS rfl rfl<|sM rfl<|sV (.d (ag.pd x4.gU))<|bE h fun x6 hx6 h=>cR (rI x6.1) [(0,.var (ae.rc e0++ .ref 1 1::rI e1::rI (rW (e2+(1:Int)))::rB x6.2.1::ai.rc x6.2.2)),(1,.arr 1 194 (x5.2.map ah.pd))] (search_look_ev hx6)<|sA rfl<|sN<|gS rfl rfl<|sM rfl<|sF h (fun h=>?_) fun h=>?_
 ·refine sN<|cT<|gS rfl rfl<|sM rfl<|sA rfl<|sN<|qR ?_
  cases oI h
  exact qG
 refine sN<|cF<|qK<|gS rfl rfl<|sV (.d (ag.pd x4.gU))<|bE h fun x8 hx8 h=>cR (.tup [.d (ag.pd x8.1),.d (ag.pd x8.2.1),rB x8.2.2]) [] (nD hx8)<|sM rfl<|sV (.d (ag.pd x8.1))<|sV (.d (ag.pd x8.2.1))<|sV (rB x8.2.2)<|sB (.ptr 80 0) 80 (.var zZ4)<|sB (.ptr 96 0) 96 (.var zZ4)<|sH 80 (.var (ag.rc x8.1))<|sH 96 (.var (ag.rc x8.2.1)) ?_
 refine sA rfl<|sN<|qS<|gS rfl rfl<|sM rfl<|sF h (fun h=>?_) fun h=>?_
 ·refine sN<|cT<|gS rfl rfl<|sV (r0)<|sN<|qR ?_
  cases oI h
  exact qG
 refine sN<|cF<|qK<|qS<|gS rfl rfl<|sM rfl<|sV (.d (ag.pd x8.1))<|bE h fun x10 hx10 h=>cR (rI x10.1) [(0,.var (ae.rc e0++ .ref 1 2::rI x10.2.1::rI (rW (e2+(1:Int)))::rB x6.2.1::ai.rc x6.2.2)),(1,.arr 2 194 (x10.2.2.map ah.pd))] (mr hx10)<|sA rfl<|sN<|gS rfl rfl<|sM rfl<|sF h (fun h=>?_) fun h=>?_
 ·refine sN<|cT<|gS rfl rfl<|sM rfl<|sA rfl<|sN<|qR ?_
  cases oI h
  exact qG
 refine sN<|cF<|qK<|gS rfl rfl<|sM rfl<|sV (.d (ag.pd x8.2.1))<|bE h fun x12 hx12 h=>cR (rI x12.1) [(0,.var (ae.rc e0++ .ref 1 3::rI x12.2.1::rI (rW (e2+(1:Int)))::rB x6.2.1::ai.rc x6.2.2)),(1,.arr 3 194 (x12.2.2.map ah.pd))] (mr hx12)<|sA rfl<|sN<|qR ?_
 cases oI h
 exact qG
theorem mX{a0:ae}{a1:Int}{r:(Option bz)×Int}(h:fU a0 a1=some r):EvP prog av ext 108 [.d (ae.pd a0),rI a1] [] (match r.1 with|none=>(.tup [.d (.raw (.pointer none)),rI r.2],[])|some yv=>(.tup [.ptr 0 0,rI r.2],[.var (bz.rc yv)])):=by
 refine Ev.body rfl Tryz.func108 rfl (by kernel_rfl)<|gS rfl rfl<|sB (.ptr 32 0) 32 (.var (ae.rc a0))<|sV (.d (.raw (.pointer none)))<|sV (r0)<|sN<|qS<|gS rfl rfl<|sV (.d (ae.pd a0))<|bE h fun x1 hx1 h=>cD (kd hx1)<|sA rfl<|sN<|gS rfl rfl<|sM rfl ?_
 refine sF h (fun h=>?_) fun h=>?_
 ·refine sN<|cT<|gS rfl rfl<|sM rfl<|sV (.d (.raw (.pointer none)))<|sA rfl<|sN<|qR ?_
  cases oI h
  exact qG
 refine sN<|cF<|qK<|qS<|gS rfl rfl<|sM rfl<|sF h (fun h=>?_) fun h=>?_
 ·refine sN<|cT<|gS rfl rfl<|sV (.d (.raw (.pointer none)))<|sV (rI 2)<|sN<|qR ?_
  cases oI h
  exact qG
 refine sN<|cF<|qK<|gS rfl rfl<|sV (.d (ae.pd a0))<|sG (.agg (ae.rc a0++[.nR,r0,r0,rB false,r0,r0,r0,r0,r0,r0,r0,r0,r0,r0,r0,r0]))<|sB (.ptr 304 0) 304 (.var (ae.rc a0++[.nR,r0,r0,rB false,r0,r0,r0,r0,r0,r0,r0,r0,r0,r0,r0,r0]))<|sA rfl<|sN<|qS<|gS rfl rfl<|sM rfl<|sV (.ptr 32 0)<|sV (.d (ag.pd a0.aG))<|bE h fun x4 hx4 h=>?_
 refine cR (rI x4.1) [(304,.var (ae.rc a0++[.ref 368 0,rI x4.2.2,r0,rB false,r0,r0,r0,r0,r0,r0,r0,r0,r0,r0,r0,r0])),(368,.arr 0 194 (x4.2.1.map ah.pd))] (search_add_ev hx4)<|sA rfl<|sN<|gS rfl rfl<|sM rfl<|sF h (fun h=>?_) fun h=>?_
 ·refine sN<|cT<|gS rfl rfl<|sM rfl<|sV (.d (.raw (.pointer none)))<|sA rfl<|sN<|qR ?_
  cases oI h
  exact qG
 refine sN<|cF<|qK<|qS<|bE h fun o22 ho22 h=>WC.block (WC.loop (WL.n4 ho22 (fun s R' B'=>hY prog 0 (A R' B') (av.at_ 108 0 10)=some (A [(1,rI a1),(7,.ptr 304 0)] [(304,.var (ae.rc a0++ .ref 368 0::rI s.1::rI s.2.1::rB s.2.2.1::ai.rc s.2.2.2.1)),(368,.arr 0 194 (s.2.2.2.2.map ah.pd))])) (fun o e R' B'=>match o with| .inl y=>e= .exit 0∧hY prog 0 (A R' B') (av.at_ 108 0 14)=some (A [(7,.ptr 304 0)] [(304,.var (ae.rc a0++rM ah.pd y.1::rI y.2.1::rI y.2.2.1::rB y.2.2.2.1::ai.rc y.2.2.2.2))])| .inr r=>e= .ret∧finish prog (av.own 108) Tryz.f108 0 (A R' B')=some (match r.1 with|none=>(.tup [.d (.raw (.pointer none)),rI r.2],[])|some yv=>(.tup [.ptr 0 0,rI r.2],[.var (bz.rc yv)]))) rfl ?_ ?_))
 ·rintro⟨s6,s7,s8,s9,s10⟩ R' B' q16 hI h
  unfold ir at h
  refine qS<|gS rfl hI<|sM rfl<|sM rfl<|bE h fun x17 hx17 h=>cR (rB x17) [(304,.var (ae.rc a0++ .ref 368 0::rI s6::rI s7::rB s8::ai.rc s9)),(368,.arr 0 194 (s10.map ah.pd))] (search_ended_ev hx17)<|sF h (fun h=>?_) fun h=>?_
  ·refine sN<|cT<|qK<|qB<|gS rfl rfl<|sM rfl<|bE h fun x19 hx19 h=>cR (rI x19.1) [(304,.var (ae.rc a0++ .ref 368 1::rI x19.2.1::rI x19.2.2.1::rB x19.2.2.2.1::ai.rc x19.2.2.2.2.1)),(368,.arr 1 194 (x19.2.2.2.2.2.map ah.pd))] (search_step_ev hx19)<|sA rfl<|sN<|gS rfl rfl<|sM rfl<|sF h (fun h=>?_) fun h=>?_
   ·refine sN<|cT<|gS rfl rfl<|sM rfl<|sV (.d (.raw (.pointer none)))<|sA rfl<|sN<|qR ?_
    cases oI h
    exact⟨nofun,rfl,rfl⟩
   refine sN<|cF<|qK ?_
   cases oI h
   exact⟨rfl,rfl⟩
  refine sN<|cF<|qX ?_
  cases oI h
  exact⟨nofun,rfl,rfl⟩
 intro e R' B' he hq
 rcases o22 with y23|r24
 ·obtain⟨rfl,hI⟩:=hq
  refine qE<|gS rfl hI<|sM rfl<|sA rfl<|sV (r0)<|sN<|qR ?_
  cases oI h
  exact qG
 obtain⟨rfl,hf⟩:=hq
 cases oI h
 exact hf
theorem locate_run_evN{a0:ae}{a1:Int}{r:(Option bz)×Int}(h:fU a0 a1=some r)(ho:r.1=none):EvP prog av ext 108 [.d (ae.pd a0),rI a1] [] (.tup [.d (.raw (.pointer none)),rI r.2],[]):=by
  have:=mX h;rw [ho]at this;exact this
theorem locate_run_evS{a0:ae}{a1:Int}{r:(Option bz)×Int}{yv:bz}(h:fU a0 a1=some r)(ho:r.1=some yv):EvP prog av ext 108 [.d (ae.pd a0),rI a1] [] (.tup [.ptr 0 0,rI r.2],[.var (bz.rc yv)]):=by
  have:=mX h;rw [ho]at this;exact this
theorem geometry_Hull_ev{a0:ag}{a1:ag}{r:ag}(h:jc a0 a1=some r):EvP prog av ext 109 [.d (ag.pd a0),.d (ag.pd a1)] [] (.d (ag.pd r),[]):=by
 refine Ev.body rfl Tryz.func109 rfl (by kernel_rfl)<|gS rfl rfl<|sB (.ptr 32 0) 32 (.var (ag.rc a0))<|sB (.ptr 48 0) 48 (.var (ag.rc a1))<|sB (.ptr 64 0) 64 (.var zZ4)<|sN<|qS<|gS rfl rfl<|sV (.d (ag.pd a0))<|bE h fun x1 hx1 h=>cD (bh hx1)<|sF h (fun h=>?_) fun h=>?_
 ·refine sM rfl<|k3<|sT<|sN<|cT<|gS rfl rfl<|sG (.d (ag.pd (ag.mk (aa.mk 0 0 0) (aa.mk 0 0 0))))<|sH 64 (.var zZ4)<|sN<|qR ?_
  cases oI h
  exact qG
 refine sM rfl<|sV (.d (ag.pd a1))<|bE h fun x3 hx3 h=>cD (bh hx3)<|sV (rB (!x3))<|sF h (fun h=>?_) fun h=>?_
 ·refine sN<|cT<|gS rfl rfl<|sG (.d (ag.pd (ag.mk (aa.mk 0 0 0) (aa.mk 0 0 0))))<|sH 64 (.var zZ4)<|sN<|qR ?_
  cases oI h
  exact qG
 refine sN<|cF<|qK<|WC.cI rfl rfl<|sV (.ptr 32 0)<|sV (.d (aa.pd a0.aF))<|bE h fun x5 hx5 h=>cD (bq hx5)<|sV (.ptr 32 3)<|sV (.d (aa.pd a0.az))<|bE h fun x6 hx6 h=>cD (bq hx6)<|sV (.ptr 48 0)<|sV (.d (aa.pd a1.aF))<|bE h fun x7 hx7 h=>?_
 refine cD (bq hx7)<|sV (.ptr 48 3)<|sV (.d (aa.pd a1.az))<|bE h fun x8 hx8 h=>cD (bq hx8)<|sB (.ptr 80 0) 80 (.var [r0,r0,r0])<|sB (.ptr 96 0) 96 (.var [r0,r0,r0])<|sB (.ptr 112 0) 112 (.var [r0,r0,r0])<|sB (.ptr 128 0) 128 (.var [r0,r0,r0])<|sS 80 (.var [rI x5.a0,rI x5.a1,rI x5.a2])<|sS 96 (.var [rI x6.a0,rI x6.a1,rI x6.a2])<|sS 112 (.var [rI x7.a0,rI x7.a1,rI x7.a2])<|sS 128 (.var [rI x8.a0,rI x8.a1,rI x8.a2]) ?_
 refine sN<|sO<|qS<|gS rfl rfl<|sV (r0)<|sN<|WC.block (WC.loop ?_)
 refine WL.round<|WC.oq (R0:=[(4,.ptr 64 0),(5,.ptr 80 0),(6,.ptr 96 0),(7,.ptr 112 0),(8,.ptr 128 0),(31,r0)]) (B0:=[(64,.var zZ4),(80,.var [rI x5.a0,rI x5.a1,rI x5.a2]),(96,.var [rI x6.a0,rI x6.a1,rI x6.a2]),(112,.var [rI x7.a0,rI x7.a1,rI x7.a2]),(128,.var [rI x8.a0,rI x8.a1,rI x8.a2])]) rfl rfl<|sT<|sN<|qS<|cT<|qK<|qS<|qB<|gS rfl rfl<|sM rfl<|sA rfl<|sN<|WC.oW rfl rfl<|sM rfl ?_
 refine sM rfl<|sM rfl<|sV (.ptr 80 0)<|sL rfl<|sM rfl<|sV (.ptr 112 0)<|sL rfl<|sV (rI (if x7.a0<x5.a0 then x7.a0 else x5.a0))<|sM rfl<|sV (.ptr 96 0)<|sL rfl<|sM rfl<|sV (.ptr 128 0)<|sL rfl<|sV (rI (if x8.a0>x6.a0 then x8.a0 else x6.a0)) ?_
 refine sV (.ptr 80 0)<|sS 80 (.var [rI (if x7.a0<x5.a0 then x7.a0 else x5.a0),rI x5.a1,rI x5.a2])<|sV (.ptr 96 0)<|sS 96 (.var [rI (if x8.a0>x6.a0 then x8.a0 else x6.a0),rI x6.a1,rI x6.a2]) ?_
 refine sN<|sO<|WC.region rfl rfl<|sV (rI 1)<|sM rfl<|sN<|WL.round<|WC.oq (R0:=[(4,.ptr 64 0),(5,.ptr 80 0),(6,.ptr 96 0),(7,.ptr 112 0),(8,.ptr 128 0),(31,rI 1)]) (B0:=[(64,.var zZ4),(80,.var [rI (if x7.a0<x5.a0 then x7.a0 else x5.a0),rI x5.a1,rI x5.a2]),(96,.var [rI (if x8.a0>x6.a0 then x8.a0 else x6.a0),rI x6.a1,rI x6.a2]),(112,.var [rI x7.a0,rI x7.a1,rI x7.a2]),(128,.var [rI x8.a0,rI x8.a1,rI x8.a2])]) rfl rfl<|sT<|sN<|qS<|cT<|qK<|qS<|qB<|gS rfl rfl ?_
 refine sM rfl<|sA rfl<|sN<|WC.oW rfl rfl<|sM rfl<|sM rfl<|sM rfl<|sV (.ptr 80 1)<|sL rfl<|sM rfl<|sV (.ptr 112 1)<|sL rfl<|sV (rI (if x7.a1<x5.a1 then x7.a1 else x5.a1))<|sM rfl<|sV (.ptr 96 1) ?_
 refine sL rfl<|sM rfl<|sV (.ptr 128 1)<|sL rfl<|sV (rI (if x8.a1>x6.a1 then x8.a1 else x6.a1))<|sV (.ptr 80 1)<|sS 80 (.var [rI (if x7.a0<x5.a0 then x7.a0 else x5.a0),rI (if x7.a1<x5.a1 then x7.a1 else x5.a1),rI x5.a2])<|sV (.ptr 96 1)<|sS 96 (.var [rI (if x8.a0>x6.a0 then x8.a0 else x6.a0),rI (if x8.a1>x6.a1 then x8.a1 else x6.a1),rI x6.a2]) ?_
 refine sN<|sO<|WC.region rfl rfl<|sV (rI 2)<|sM rfl<|sN<|WL.round<|WC.oq (R0:=[(4,.ptr 64 0),(5,.ptr 80 0),(6,.ptr 96 0),(7,.ptr 112 0),(8,.ptr 128 0),(31,rI 2)]) (B0:=[(64,.var zZ4),(80,.var [rI (if x7.a0<x5.a0 then x7.a0 else x5.a0),rI (if x7.a1<x5.a1 then x7.a1 else x5.a1),rI x5.a2]),(96,.var [rI (if x8.a0>x6.a0 then x8.a0 else x6.a0),rI (if x8.a1>x6.a1 then x8.a1 else x6.a1),rI x6.a2]),(112,.var [rI x7.a0,rI x7.a1,rI x7.a2]),(128,.var [rI x8.a0,rI x8.a1,rI x8.a2])]) rfl rfl<|sT<|sN<|qS<|cT<|qK<|qS<|qB<|gS rfl rfl ?_
 refine sM rfl<|sA rfl<|sN<|WC.oW rfl rfl<|sM rfl<|sM rfl<|sM rfl<|sV (.ptr 80 2)<|sL rfl<|sM rfl<|sV (.ptr 112 2)<|sL rfl<|sV (rI (if x7.a2<x5.a2 then x7.a2 else x5.a2))<|sM rfl<|sV (.ptr 96 2) ?_
 refine sL rfl<|sM rfl<|sV (.ptr 128 2)<|sL rfl<|sV (rI (if x8.a2>x6.a2 then x8.a2 else x6.a2))<|sV (.ptr 80 2)<|sS 80 (.var [rI (if x7.a0<x5.a0 then x7.a0 else x5.a0),rI (if x7.a1<x5.a1 then x7.a1 else x5.a1),rI (if x7.a2<x5.a2 then x7.a2 else x5.a2)])<|sV (.ptr 96 2)<|sS 96 (.var [rI (if x8.a0>x6.a0 then x8.a0 else x6.a0),rI (if x8.a1>x6.a1 then x8.a1 else x6.a1),rI (if x8.a2>x6.a2 then x8.a2 else x6.a2)]) ?_
 refine sN<|sO<|WC.region rfl rfl<|sV (rI 3)<|sM rfl<|sN<|WL.round<|WC.oq (R0:=[(4,.ptr 64 0),(5,.ptr 80 0),(6,.ptr 96 0),(7,.ptr 112 0),(8,.ptr 128 0),(31,rI 3)]) (B0:=[(64,.var zZ4),(80,.var [rI (if x7.a0<x5.a0 then x7.a0 else x5.a0),rI (if x7.a1<x5.a1 then x7.a1 else x5.a1),rI (if x7.a2<x5.a2 then x7.a2 else x5.a2)]),(96,.var [rI (if x8.a0>x6.a0 then x8.a0 else x6.a0),rI (if x8.a1>x6.a1 then x8.a1 else x6.a1),rI (if x8.a2>x6.a2 then x8.a2 else x6.a2)]),(112,.var [rI x7.a0,rI x7.a1,rI x7.a2]),(128,.var [rI x8.a0,rI x8.a1,rI x8.a2])]) rfl rfl<|sU<|sN<|qS<|cF<|qX<|qE<|WC.cI rfl rfl<|sV (.d (aO.pd (aO.mk (if x7.a0<x5.a0 then x7.a0 else x5.a0) (if x7.a1<x5.a1 then x7.a1 else x5.a1) (if x7.a2<x5.a2 then x7.a2 else x5.a2)))) ?_
 refine bE h fun x9 hx9 h=>cD (bD hx9)<|sV (.d (aO.pd (aO.mk (if x8.a0>x6.a0 then x8.a0 else x6.a0) (if x8.a1>x6.a1 then x8.a1 else x6.a1) (if x8.a2>x6.a2 then x8.a2 else x6.a2))))<|bE h fun x10 hx10 h=>cD (bD hx10)<|sG (.d (ag.pd (ag.mk x9 x10)))<|sH 64 (.var (aa.rc x9++aa.rc x10)) ?_
 refine sN<|sO<|qR ?_
 cases oI h
 exact qG
theorem locate_Locate_ev{a0:ae}{a1:Int}{r:ai×Int}(h:eJ a0 a1=some r):EvP prog av ext 57 [.d (ae.pd a0),rI a1] [] (.tup [.d (ai.pd r.1),rI r.2],[]):=by
 refine Ev.body rfl Tryz.func57 rfl (by kernel_rfl)<|gS rfl rfl<|sB (.ptr 32 0) 32 (.var (ae.rc a0))<|sB (.ptr 64 0) 64 (.var zZ1)<|sV (r0)<|sN<|gS rfl rfl<|sV (.d (ae.pd a0))<|sM rfl<|bE h fun x1 hx1 h=>opt_elim h (fun hox1 h=>?_) (fun y2 hox1 h=>?_)
 ·refine cR (.tup [.d (.raw (.pointer none)),rI x1.2]) [] (locate_run_evN hx1 hox1)<|sM rfl<|sV (.d (.raw (.pointer none)))<|sV (rI x1.2)<|sA rfl<|sA rfl<|sN<|qS<|gS rfl rfl<|sM rfl<|sF h (fun h=>?_) fun h=>?_
  ·refine sN<|cT<|gS rfl rfl<|sG (.d (ai.pd (ai.mk (aa.mk 0 0 0) 0 0 0 (ag.mk (aa.mk 0 0 0) (aa.mk 0 0 0)))))<|sM rfl<|sH 64 (.var zZ1)<|sA rfl<|sN<|qR ?_
   cases oI h
   exact qG
  refine sN<|cF<|qK<|gS rfl rfl<|sM rfl ?_
  cases h
 refine cR (.tup [.ptr 224 0,rI x1.2]) [(224,.var (bz.rc y2))] (locate_run_evS hx1 hox1)<|sM rfl<|sV (.ptr 224 0)<|sV (rI x1.2)<|sA rfl<|sA rfl<|sN<|qS<|gS rfl rfl<|sM rfl<|sF h (fun h=>?_) fun h=>?_
 ·refine sN<|cT<|gS rfl rfl<|sG (.d (ai.pd (ai.mk (aa.mk 0 0 0) 0 0 0 (ag.mk (aa.mk 0 0 0) (aa.mk 0 0 0)))))<|sM rfl<|sH 64 (.var zZ1)<|sA rfl<|sN<|qR ?_
  cases oI h
  exact qG
 refine sN<|cF<|qK<|gS rfl rfl<|sM rfl<|sV (.ptr 224 0)<|sV (.ptr 224 15)<|sV (.d (ai.pd y2.bC))<|sB (.ptr 128 0) 128 (.var zZ1)<|sH 128 (.var (ai.rc y2.bC))<|sN<|gS rfl rfl<|sV (.ptr 128 4)<|sL rfl<|sV (.ptr 128 0) ?_
 refine sV (.d (aa.pd y2.bC.bp))<|sV (.ptr 128 0)<|sV (.d (aa.pd y2.bC.bp))<|sG (.d (ag.pd (ag.mk y2.bC.bp y2.bC.bp)))<|sV (.ptr 128 5)<|sS 128 (.var (aa.rc y2.bC.bp++rI y2.bC.bS::rI y2.bC.aZ::rI y2.bC.aZ::ag.rc y2.bC.bK))<|sV (.ptr 128 6)<|sH 128 (.var (aa.rc y2.bC.bp++rI y2.bC.bS::rI y2.bC.aZ::rI y2.bC.aZ::aa.rc y2.bC.bp++aa.rc y2.bC.bp))<|sN<|qS<|gS rfl rfl<|sM rfl<|sV (.ptr 224 0)<|sV (.ptr 224 11)<|sL rfl ?_
 refine sE (rI (y2.im.length:Int)) (nT _ _)<|sV (r0)<|sN<|bE h fun o16 ho16 h=>WC.block (WC.loop (WL.n4 ho16 (fun s R' B'=>hY prog 0 (A R' B') (av.at_ 57 0 7)=some (A [(4,.ptr 64 0),(8,.ptr 128 0),(37,rM ah.pd y2.im),(38,rI (y2.im.length:Int)),(39,rI s.1)] [(64,.var zZ1),(128,.var (aa.rc y2.bC.bp++rI y2.bC.bS::rI y2.bC.aZ::rI s.2.1::ag.rc s.2.2))])) (fun o e R' B'=>e= .exit 0∧hY prog 0 (A R' B') (av.at_ 57 0 13)=some (A [(4,.ptr 64 0),(8,.ptr 128 0)] [(64,.var zZ1),(128,.var (aa.rc y2.bC.bp++rI y2.bC.bS::rI y2.bC.aZ::rI o.1::ag.rc o.2))])) rfl ?_ ?_))
 ·rintro⟨s5,s6,s7⟩ R' B' q10 hI h
  refine gS rfl hI<|sF h (fun h=>?_) fun h=>?_
  ·refine sN<|qS<|cT<|qK<|qS<|qB<|gS rfl rfl<|bE h fun x12 hx12 h=>eG hx12 rfl<|sV (.d (ah.pd x12))<|sB (.ptr 160 0) 160 (.var [r0,r0,r0,r0,r0,r0,r0,r0])<|sH 160 (.var (ah.rc x12))<|sN<|gS rfl rfl<|sV (.ptr 128 5) ?_
   refine sL rfl<|sV (.ptr 160 6)<|sL rfl<|sV (rI (if x12.bQ<s6 then x12.bQ else s6))<|sV (.ptr 128 5)<|sS 128 (.var (aa.rc y2.bC.bp++rI y2.bC.bS::rI y2.bC.aZ::rI (if x12.bQ<s6 then x12.bQ else s6)::ag.rc s7))<|sN<|gS rfl rfl<|sV (.ptr 160 6)<|sL rfl<|sV (.ptr 128 4)<|sL rfl<|sF h (fun h=>?_) fun h=>?_
   ·refine sN<|cT<|WC.region rfl rfl<|sV (.ptr 128 6)<|sV (.d (ag.pd s7))<|sV (.ptr 160 0)<|sV (.d (ag.pd x12.gU))<|bE h fun x14 hx14 h=>cD (geometry_Hull_ev hx14)<|sV (.ptr 128 6)<|sH 128 (.var (aa.rc y2.bC.bp++rI y2.bC.bS::rI y2.bC.aZ::rI (if x12.bQ<s6 then x12.bQ else s6)::ag.rc x14))<|sN<|WC.region rfl rfl<|sV (rI (rW (s5+(1:Int))))<|sM rfl ?_
    refine sN ?_
    cases oI h
    exact⟨rfl,rfl⟩
   refine sN<|cF<|qK<|WC.region rfl rfl<|sV (rI (rW (s5+(1:Int))))<|sM rfl<|sN ?_
   cases oI h
   exact⟨rfl,rfl⟩
  refine sN<|qS<|cF<|qX ?_
  cases oI h
  exact⟨nofun,rfl,rfl⟩
 intro e R' B' he hq
 obtain⟨rfl,hI⟩:=hq
 refine qE<|gS rfl hI<|sV (.d (ai.pd (ai.mk y2.bC.bp y2.bC.bS y2.bC.aZ o16.1 (ag.mk (aa.mk o16.2.aF.fX o16.2.aF.fY o16.2.aF.fZ) (aa.mk o16.2.az.fX o16.2.az.fY o16.2.az.fZ)))))<|sH 64 (.var (aa.rc y2.bC.bp++rI y2.bC.bS::rI y2.bC.aZ::rI o16.1::ag.rc o16.2))<|sV (r0)<|sN<|qR ?_
 cases oI h
 exact qG
theorem nat_From_ev{a0:Int}{r:(List Int)×Int}(h:nI a0=some r):EvP prog av ext 406 [rI a0] [] (.tup [rL r.1,rI r.2],[]):=by
 refine Ev.body rfl Tryz.func406 rfl (by kernel_rfl)<|gS rfl rfl<|sV .nR<|sV (r0)<|sN<|qS<|gS rfl rfl<|sM rfl<|sF h (fun h=>?_) fun h=>?_
 ·refine sN<|cT<|gS rfl rfl<|sV .nR<|sV (rI 2)<|sN<|qR ?_
  exact oI h▸qD
 refine sN<|cF<|qK<|gS rfl rfl<|sV .nR<|sN<|qS<|bE h fun o10 ho10 h=>WC.block (WC.loop (WL.n4 ho10 (fun s R' B'=>hY prog 0 (A R' B') (av.at_ 406 0 4)=some (A [(0,rI s.1),(4,.ref 240 0)] [(240,.arr 0 3 (s.2.map (PD.int .i64)))])) (fun o e R' B'=>e= .exit 0∧hY prog 0 (A R' B') (av.at_ 406 0 7)=some (A [(4,.ref 240 0)] [(240,.arr 0 3 (o.map (PD.int .i64)))])) rfl ?_ ?_))
 ·rintro⟨s2,s3⟩ R' B' q5 hI h
  refine qS<|gS rfl hI<|sM rfl<|sF h (fun h=>?_) fun h=>?_
  ·refine sN<|cT<|qK<|qS<|qB<|WC.region rfl rfl<|sM rfl<|sM rfl<|bE h fun x7 hx7 h=>WO.remG hx7 rfl rfl rfl rfl rfl rfl<|sV (.d (.lst ([x7].map (PD.int .i64))))<|bE h fun x8 hx8 h=>aR hx8 (fun _=>rfl) rfl<|sA rfl<|sN ?_
   refine WC.region rfl rfl<|sM rfl<|sV (rI (oj .i64 s2 (30:Int)))<|sA rfl<|sN ?_
   cases oI h
   exact⟨rfl,rfl⟩
  refine sN<|cF<|qX ?_
  cases oI h
  exact⟨nofun,rfl,rfl⟩
 intro e R' B' he hq
 obtain⟨rfl,hI⟩:=hq
 refine qE<|gS rfl hI<|sM rfl<|sA rfl<|sV (r0)<|sN<|qR ?_
 exact oI h▸qD
theorem kE{a0:Int}{r:Bool}(h:ke a0=some r):EvP prog av ext 388 [rI a0] [] (rB r,[]):=by
 refine Ev.body rfl Tryz.func388 rfl (by kernel_rfl)<|gS rfl rfl<|sU<|sN<|gS rfl rfl<|sM rfl<|sF h (fun h=>?_) fun h=>?_
 ·refine sM rfl<|sK<|sK<|sT<|sA rfl<|sN<|qR ?_
  exact oI h▸qD
 refine sM rfl<|sM rfl<|sV (rB (decide (a0>=(1073741824:Int))))<|sV (rB (decide (a0>=(1073741824:Int))))<|sA rfl<|sN<|qR ?_
 exact oI h▸qD
theorem jl{a0:(List Int)}{r:Int}(h:d8 a0=some r):EvP prog av ext 411 [rL a0,.d (.raw (.func (.func 388) #[] #[]))] [] (rI r,[]):=by
 refine Ev.body rfl Tryz.func411 rfl (by kernel_rfl)<|gS rfl rfl<|sV (r0)<|sN<|qS<|gS rfl rfl<|sM rfl<|sE (rI (a0.length:Int)) (nT _ _)<|sV (r0)<|sN<|bE h fun o8 ho8 h=>WC.block (WC.loop (WL.n4 ho8 (fun s R' B'=>hY prog 0 (A R' B') (av.at_ 411 0 2)=some (A [(0,rL a0),(1,.d (.raw (.func (.func 388) #[] #[]))),(7,rI (a0.length:Int)),(8,rI s)] [])) (fun o e R' B'=>match o with| .inl y=>e= .exit 0∧hY prog 0 (A R' B') (av.at_ 411 0 7)=some (A [] [])| .inr r=>e= .ret∧finish prog (av.own 411) Tryz.f411 0 (A R' B')=some (rI r,[])) rfl ?_ ?_))
 ·rintro s1 R' B' q2 hI h
  refine gS rfl hI<|sF h (fun h=>?_) fun h=>?_
  ·refine sN<|qS<|cT<|qK<|qS<|qB<|gS rfl rfl<|sM rfl<|sA rfl<|sN<|gS rfl rfl<|sM rfl<|sM rfl<|sM rfl<|bE h fun x4 hx4 h=>?_
   refine eG hx4 rfl<|sC rfl<|bE h fun x5 hx5 h=>oz h (fun hb6 h=>?_) (fun hb6 h=>?_)
   ·refine WO.oM (v:=rB true) (u:=[]) rfl rfl (fun _=>rfl) rfl rfl rfl rfl rfl (kE hx5) rfl rfl (congrArg (fun b=>RV.d (.bool b)) hb6) rfl<|sN<|cT<|gS rfl rfl<|sM rfl<|sA rfl<|sN<|qR ?_
    cases oI h
    exact⟨nofun,rfl,rfl⟩
   refine WO.oM (v:=rB false) (u:=[]) rfl rfl (fun _=>rfl) rfl rfl rfl rfl rfl (kE hx5) rfl rfl (congrArg (fun b=>RV.d (.bool b)) hb6) rfl<|sN<|cF<|qK<|WC.region rfl rfl<|sV (rI (rW (s1+(1:Int))))<|sM rfl<|sN ?_
   cases oI h
   exact⟨rfl,rfl⟩
  refine sN<|qS<|cF<|qX ?_
  cases oI h
  exact⟨nofun,rfl,rfl⟩
 intro e R' B' he hq
 rcases o8 with y9|r10
 ·obtain⟨rfl,hI⟩:=hq
  refine qE<|gS rfl hI<|sV (rI (-1))<|sN<|qR ?_
  exact oI h▸qD
 obtain⟨rfl,hf⟩:=hq
 cases oI h
 exact hf
theorem eD{a0:(List Int)}{r:Bool}(h:bV a0=some r):EvP prog av ext 387 [rL a0,.d (.raw (.func (.func 388) #[] #[]))] [] (rB r,[]):=by
 refine Ev.body rfl Tryz.func387 rfl (by kernel_rfl)<|gS rfl rfl<|sU<|sN<|gS rfl rfl<|sM rfl<|sM rfl<|bE h fun x1 hx1 h=>cD (jl hx1)<|sV (rB (decide (x1>=(0:Int))))<|sA rfl<|sN<|qR ?_
 exact oI h▸qD
theorem fy{a0:(List Int)}{r:Bool}(h:hZ a0=some r):EvP prog av ext 338 [rL a0] [] (rB r,[]):=by
 refine Ev.body rfl Tryz.func338 rfl (by kernel_rfl)<|gS rfl rfl<|sU<|sN<|qS<|gS rfl rfl<|sM rfl<|sE (rI (a0.length:Int)) (nT _ _)<|sF h (fun h=>?_) fun h=>?_
 ·refine sM rfl<|k3<|k3<|k3<|k3<|sT<|sN ?_
  refine cT<|gS rfl rfl<|sU<|sN<|qR ?_
  exact oI h▸qD
 refine sM rfl<|sM rfl<|sE (rI (a0.length:Int)) (nT _ _)<|sF h (fun h=>?_) fun h=>?_
 ·refine sM rfl<|sM rfl<|sM rfl<|sE (rI (a0.length:Int)) (nT _ _)<|sV (rI (rW ((a0.length:Int)-(1:Int))))<|bE h fun x3 hx3 h=>eG hx3 rfl<|sC rfl<|sV (rB (x3==(0:Int)))<|sV (rB (x3==(0:Int)))<|sF h (fun h=>?_) fun h=>?_
  ·refine sN<|cT<|gS rfl rfl<|sU<|sN<|qR ?_
   exact oI h▸qD
  refine sN<|cF<|qK<|gS rfl rfl<|sM rfl<|bE h fun x5 hx5 h=>cD (eD hx5)<|sV (rB (!x5))<|sA rfl<|sN<|qR ?_
  exact oI h▸qD
 refine sM rfl<|k3<|k3<|sK<|sU<|sU<|sN<|cF<|qK<|gS rfl rfl<|sM rfl ?_
 refine bE h fun x6 hx6 h=>cD (eD hx6)<|sV (rB (!x6))<|sA rfl<|sN<|qR ?_
 exact oI h▸qD
theorem nat_both_ev{a0:(List Int)}{a1:(List Int)}{r:Bool}(h:mi a0 a1=some r):EvP prog av ext 420 [rL a0,rL a1] [] (rB r,[]):=by
 refine Ev.body rfl Tryz.func420 rfl (by kernel_rfl)<|gS rfl rfl<|sU<|sN<|gS rfl rfl<|sM rfl<|bE h fun x1 hx1 h=>oz h (fun hb2 h=>?_) (fun hb2 h=>?_)
 ·refine WO.oM (v:=rB true) (u:=[]) rfl rfl (fun _=>rfl) rfl rfl rfl rfl rfl (fy hx1) rfl rfl (congrArg (fun b=>RV.d (.bool b)) hb2) rfl<|sM rfl<|sM rfl<|bE h fun x3 hx3 h=>cD (fy hx3)<|sV (rB x3)<|sA rfl<|sN<|qR ?_
  exact oI h▸qD
 refine WO.oM (v:=rB false) (u:=[]) rfl rfl (fun _=>rfl) rfl rfl rfl rfl rfl (fy hx1) rfl rfl (congrArg (fun b=>RV.d (.bool b)) hb2) rfl<|sM rfl<|sK<|sK<|sU<|sA rfl<|sN<|qR ?_
 exact oI h▸qD
theorem lI{a0:(List Int)}{a1:Int}{r:Int}(h:jP a0 a1=some r):EvP prog av ext 410 [rL a0,rI a1] [] (rI r,[]):=by
 refine Ev.body rfl Tryz.func410 rfl (by kernel_rfl)<|gS rfl rfl<|sV (r0)<|sN<|qS<|gS rfl rfl<|sM rfl<|sM rfl<|sE (rI (a0.length:Int)) (nT _ _)<|sF h (fun h=>?_) fun h=>?_
 ·refine sN<|cT<|gS rfl rfl<|sV (r0)<|sN<|qR ?_
  exact oI h▸qD
 refine sN<|cF<|qK<|gS rfl rfl<|sM rfl<|sM rfl<|bE h fun x2 hx2 h=>eG hx2 rfl<|sC rfl<|sA rfl<|sN<|qR ?_
 exact oI h▸qD
theorem nat_trim_ev{a0:(List Int)}{r:(List Int)}(h:mj a0=some r):EvP prog av ext 409 [rL a0] [] (rL r,[]):=by
 refine Ev.body rfl Tryz.func409 rfl (by kernel_rfl)<|gS rfl rfl<|sV .nR<|sN<|qS<|bE h fun o9 ho9 h=>WC.block (WC.loop (WL.n4 ho9 (fun s R' B'=>hY prog 0 (A R' B') (av.at_ 409 0 1)=some (A [(0,rL s)] [])) (fun o e R' B'=>e= .exit 0∧hY prog 0 (A R' B') (av.at_ 409 0 3)=some (A [(0,rL o)] [])) rfl ?_ ?_))
 ·rintro s1 R' B' q3 hI h
  refine qS<|gS rfl hI<|sM rfl<|sE (rI (s1.length:Int)) (nT _ _)<|sF h (fun h=>?_) fun h=>?_
  ·refine sM rfl<|sM rfl<|sM rfl<|sE (rI (s1.length:Int)) (nT _ _)<|sV (rI (rW ((s1.length:Int)-(1:Int))))<|bE h fun x5 hx5 h=>eG hx5 rfl<|sC rfl<|sV (rB (x5==(0:Int)))<|sF h (fun h=>?_) fun h=>?_
   ·refine sN<|cT<|qK<|qB<|WC.region rfl rfl<|sM rfl<|sM rfl<|sE (rI (s1.length:Int)) (nT _ _)<|sV (rI (rW ((s1.length:Int)-(1:Int))))<|bE h fun x7 hx7 h=>WO.cutL (sz:=1) (g:=(PD.int .i64)) hx7 (fun _=>rfl) rfl rfl rfl rfl rfl rfl rfl rfl rfl rfl rfl<|sA rfl<|sN ?_
    cases oI h
    exact⟨rfl,rfl⟩
   refine sN<|cF<|qX ?_
   cases oI h
   exact⟨nofun,rfl,rfl⟩
  refine sM rfl<|k3<|k3<|sK<|sU<|sN<|cF<|qX ?_
  cases oI h
  exact⟨nofun,rfl,rfl⟩
 intro e R' B' he hq
 obtain⟨rfl,hI⟩:=hq
 refine qE<|gS rfl hI<|sM rfl<|sA rfl<|sN<|qR ?_
 exact oI h▸qD
theorem jt{a0:(List Int)}{a1:(List Int)}{r:(List Int)}(h:gq a0 a1=some r):EvP prog av ext 386 [rL a0,rL a1] [] (rL r,[]):=by
 refine Ev.body rfl Tryz.func386 rfl (by kernel_rfl)<|gS rfl rfl<|sV .nR<|sN<|gS rfl rfl<|sM rfl<|sE (rI (a0.length:Int)) (nT _ _)<|sM rfl<|sE (rI (a1.length:Int)) (nT _ _)<|sV (rI (rW ((a0.length:Int)+(a1.length:Int))))<|bE h fun x1 hx1 h=>WO.mkS (g:=(PD.int .i64)) hx1 rfl rfl rfl rfl rfl rfl rfl rfl rfl rfl rfl<|sA rfl<|sN<|qS ?_
 refine gS rfl rfl<|sM rfl<|sE (rI (a0.length:Int)) (nT _ _)<|sV (r0)<|sN<|bE h fun o27 ho27 h=>WC.block (WC.loop (WL.n4 ho27 (fun s R' B'=>hY prog 0 (A R' B') (av.at_ 386 0 3)=some (A [(1,rL a1),(5,.ref 240 0),(16,rL a0),(17,rI (a0.length:Int)),(18,rI s.1)] [(240,.arr 0 3 (s.2.map (PD.int .i64)))])) (fun o e R' B'=>e= .exit 0∧hY prog 0 (A R' B') (av.at_ 386 0 15)=some (A [(5,.ref 240 0)] [(240,.arr 0 3 (o.map (PD.int .i64)))])) rfl ?_ ?_))
 ·rintro⟨s2,s3⟩ R' B' q5 hI h
  refine gS rfl hI<|sF h (fun h=>?_) fun h=>?_
  ·refine sN<|qS<|cT<|qK<|qS<|qB<|gS rfl rfl<|sM rfl<|bE h fun x7 hx7 h=>eG hx7 rfl<|sC rfl<|sA rfl<|sA rfl<|sN<|gS rfl rfl ?_
   refine sV (r0)<|sN<|gS rfl rfl<|sM rfl<|sE (rI (a1.length:Int)) (nT _ _)<|sV (rI (rW ((a1.length:Int)+(1:Int))))<|sV (r0)<|sN<|bE h fun o25 ho25 h=>WC.block (WC.loop (WL.n4 ho25 (fun s R' B'=>hY prog 0 (A R' B') (av.at_ 386 0 7)=some (A [(1,rL a1),(5,.ref 240 0),(6,rI s2),(7,rI x7),(8,rI s.1),(16,rL a0),(17,rI (a0.length:Int)),(18,rI s2),(25,rI (rW ((a1.length:Int)+(1:Int)))),(26,rI s.2.1)] [(240,.arr 0 3 (s.2.2.map (PD.int .i64)))])) (fun o e R' B'=>e= .exit 2∧hY prog 0 (A R' B') (av.at_ 386 0 14)=some (A [(1,rL a1),(5,.ref 240 0),(16,rL a0),(17,rI (a0.length:Int)),(18,rI o.1)] [(240,.arr 0 3 (o.2.map (PD.int .i64)))])) rfl ?_ ?_))
   ·rintro⟨s8,s9,s10⟩ R' B' q13 hI h
    refine gS rfl hI<|sF h (fun h=>?_) fun h=>?_
    ·refine sN<|qS<|cT<|qK<|qS<|qB<|gS rfl rfl<|sM rfl<|sA rfl<|sN<|gS rfl rfl<|sM rfl<|sM rfl<|sV (rI (rW (s2+s9)))<|sM rfl ?_
     refine WO.u9 rfl rfl rfl rfl rfl rfl rfl rfl rfl<|sF h (fun h=>?_) fun h=>?_
     ·refine sN<|cT<|WC.cI rfl rfl<|sM rfl<|sM rfl<|sM rfl<|sM rfl<|sV (rI (rW (s2+s9)))<|bE h fun x17 hx17 h=>WO.pL hx17 rfl rfl rfl rfl rfl rfl rfl rfl<|bE h fun x18 hx18 h=>WO.pn hx18 rfl rfl rfl rfl rfl rfl<|sM rfl<|sM rfl<|sM rfl ?_
      refine bE h fun x19 hx19 h=>cD (lI hx19)<|sV (rI (rW (x7*x19)))<|sV (rI (rW (x18+(rW (x7*x19)))))<|sV (rI (rW (s8+(rW (x18+(rW (x7*x19)))))))<|sA rfl ?_
      refine sN<|sO<|gS rfl rfl<|sM rfl<|sM rfl<|sM rfl<|sV (rI (rW (s2+s9)))<|sM rfl<|bE h fun x20 hx20 h=>WO.remG hx20 rfl rfl rfl rfl rfl rfl<|bE h fun x22 hx22 h=>WO.pL hx22 rfl rfl rfl rfl rfl rfl rfl rfl<|bE h fun x23 hx23 h=>WO.tg (g:=(PD.int .i64)) (sz:=1) (p:= .int .i64 x20) hx23 (fun _=>rfl) (fun _=>rfl) rfl rfl rfl rfl rfl rfl rfl rfl rfl<|sN<|WC.region rfl rfl ?_
      refine sM rfl<|sV (rI (oj .i64 (rW (s8+(rW (x18+(rW (x7*x19)))))) (30:Int)))<|sA rfl<|sN<|WC.region rfl rfl<|sV (rI (rW (s9+(1:Int))))<|sM rfl<|sN ?_
      cases oI h
      exact⟨rfl,rfl⟩
     refine sN<|cF<|qK<|WC.region rfl rfl<|sV (rI (rW (s9+(1:Int))))<|sM rfl<|sN ?_
     cases oI h
     exact⟨rfl,rfl⟩
    refine sN<|qS<|cF<|qX ?_
    cases oI h
    exact⟨nofun,rfl,rfl⟩
   intro e R' B' he hq
   obtain⟨rfl,hI⟩:=hq
   refine qE<|WC.region hI rfl<|sV (rI (rW (o25.1+(1:Int))))<|sM rfl<|sN ?_
   cases oI h
   exact⟨rfl,rfl⟩
  refine sN<|qS<|cF<|qX ?_
  cases oI h
  exact⟨nofun,rfl,rfl⟩
 intro e R' B' he hq
 obtain⟨rfl,hI⟩:=hq
 refine qE<|gS rfl hI<|sM rfl<|bE h fun x28 hx28 h=>cR (rL x28) [(240,.dead)] (nat_trim_ev hx28)<|sA rfl<|sN<|qR ?_
 exact oI h▸qD
theorem iv{a0:(List Int)}{r:(List Int)×Int}(h:f5 a0=some r):EvP prog av ext 385 [rL a0] [] (.tup [rL r.1,rI r.2],[]):=by
 refine Ev.body rfl Tryz.func385 rfl (by kernel_rfl)<|gS rfl rfl<|sV .nR<|sV (r0)<|sN<|qS<|gS rfl rfl<|sM rfl<|bE h fun x1 hx1 h=>cD (nat_trim_ev hx1)<|sA rfl<|sN<|gS rfl rfl<|sM rfl<|sE (rI (x1.length:Int)) (nT _ _) ?_
 refine sF h (fun h=>?_) fun h=>?_
 ·refine sN<|cT<|gS rfl rfl<|sV .nR<|sV (rI 8)<|sN<|qR ?_
  exact oI h▸qD
 refine sN<|cF<|qK<|gS rfl rfl<|sM rfl<|sA rfl<|sV (r0)<|sN<|qR ?_
 exact oI h▸qD
theorem nat_Mul_ev{a0:(List Int)}{a1:(List Int)}{r:(List Int)×Int}(h:nat_Mul a0 a1=some r):EvP prog av ext 407 [rL a0,rL a1] [] (.tup [rL r.1,rI r.2],[]):=by
 refine Ev.body rfl Tryz.func407 rfl (by kernel_rfl)<|gS rfl rfl<|sV .nR<|sV (r0)<|sN<|qS<|gS rfl rfl<|sM rfl<|sM rfl<|bE h fun x1 hx1 h=>cD (nat_both_ev hx1)<|sF h (fun h=>?_) fun h=>?_
 ·refine sN<|cT<|gS rfl rfl<|sV .nR<|sV (rI 1)<|sN<|qR ?_
  exact oI h▸qD
 refine sN<|cF<|qK<|gS rfl rfl<|sM rfl<|sM rfl<|bE h fun x3 hx3 h=>cD (jt hx3)<|bE h fun x4 hx4 h=>cR (.tup [rL x4.1,rI x4.2]) [] (iv hx4)<|sV (rL x4.1)<|sV (rI x4.2)<|sA rfl<|sA rfl<|sN ?_
 refine qR ?_
 exact oI h▸qD
theorem da{a0:Int}{r:(List Int)}(h:cw a0=some r):EvP prog av ext 381 [rI a0] [] (rL r,[]):=by
 refine Ev.body rfl Tryz.func381 rfl (by kernel_rfl)<|gS rfl rfl<|sV .nR<|sN<|gS rfl rfl<|sM rfl<|sM rfl<|sV (rI (rW (0-a0)))<|sV (rI (if(rW (0-a0))>a0 then(rW (0-a0))else a0))<|bE h fun x1 hx1 h=>cR (.tup [rL x1.1,rI x1.2]) [] (nat_From_ev hx1)<|sM rfl<|sV (rL x1.1)<|sV (rI x1.2)<|sA rfl ?_
 refine sA rfl<|sN<|gS rfl rfl<|sM rfl<|sM rfl<|bE h fun x2 hx2 h=>cR (.tup [rL x2.1,rI x2.2]) [] (nat_Mul_ev hx2)<|sM rfl<|sV (rL x2.1)<|sV (rI x2.2)<|sA rfl<|sA rfl<|sN<|gS rfl rfl<|sM rfl ?_
 refine sA rfl<|sN<|qR ?_
 exact oI h▸qD
theorem nat_Add_ev{a0:(List Int)}{a1:(List Int)}{r:(List Int)×Int}(h:nat_Add a0 a1=some r):EvP prog av ext 408 [rL a0,rL a1] [] (.tup [rL r.1,rI r.2],[]):=by
 refine Ev.body rfl Tryz.func408 rfl (by kernel_rfl)<|gS rfl rfl<|sV .nR<|sV (r0)<|sN<|qS<|gS rfl rfl<|sM rfl<|sM rfl<|bE h fun x1 hx1 h=>cD (nat_both_ev hx1)<|sF h (fun h=>?_) fun h=>?_
 ·refine sN<|cT<|gS rfl rfl<|sV .nR<|sV (rI 1)<|sN<|qR ?_
  exact oI h▸qD
 refine sN<|cF<|qK<|gS rfl rfl<|sV .nR<|sN<|gS rfl rfl<|sV (r0)<|sN<|qS<|gS rfl rfl<|sM rfl<|sE (rI (a0.length:Int)) (nT _ _)<|sM rfl<|sE (rI (a1.length:Int)) (nT _ _) ?_
 refine sV (rI (if(a1.length:Int)>(a0.length:Int)then(a1.length:Int)else(a0.length:Int)))<|sV (rI (rW ((if(a1.length:Int)>(a0.length:Int)then(a1.length:Int)else(a0.length:Int))+(1:Int))))<|sV (r0)<|sN<|bE h fun o14 ho14 h=>WC.block (WC.loop (WL.n4 ho14 (fun s R' B'=>hY prog 0 (A R' B') (av.at_ 408 0 6)=some (A [(0,rL a0),(1,rL a1),(6,.ref 560 0),(7,rI s.1),(18,rI (rW ((if(a1.length:Int)>(a0.length:Int)then(a1.length:Int)else(a0.length:Int))+(1:Int)))),(19,rI s.2.1)] [(560,.arr 0 3 (s.2.2.map (PD.int .i64)))])) (fun o e R' B'=>e= .exit 0∧hY prog 0 (A R' B') (av.at_ 408 0 12)=some (A [(6,.ref 560 0)] [(560,.arr 0 3 (o.map (PD.int .i64)))])) rfl ?_ ?_))
 ·rintro⟨s3,s4,s5⟩ R' B' q7 hI h
  refine gS rfl hI<|sF h (fun h=>?_) fun h=>?_
  ·refine sN<|qS<|cT<|qK<|qS<|qB<|gS rfl rfl<|sM rfl<|sA rfl<|sN<|gS rfl rfl<|sM rfl<|sM rfl<|sM rfl<|bE h fun x9 hx9 h=>?_
   refine cD (lI hx9)<|sM rfl<|sM rfl<|bE h fun x10 hx10 h=>cD (lI hx10)<|sV (rI (rW (x9+x10)))<|sV (rI (rW (s3+(rW (x9+x10)))))<|sA rfl<|sN<|gS rfl rfl<|sM rfl<|sM rfl<|bE h fun x11 hx11 h=>WO.remG hx11 rfl rfl rfl rfl rfl rfl<|sV (.d (.lst ([x11].map (PD.int .i64)))) ?_
   refine bE h fun x12 hx12 h=>aR hx12 (fun _=>rfl) rfl<|sA rfl<|sN<|WC.region rfl rfl<|sM rfl<|sV (rI (oj .i64 (rW (s3+(rW (x9+x10)))) (30:Int)))<|sA rfl<|sN<|WC.region rfl rfl<|sV (rI (rW (s4+(1:Int))))<|sM rfl<|sN ?_
   cases oI h
   exact⟨rfl,rfl⟩
  refine sN<|qS<|cF<|qX ?_
  cases oI h
  exact⟨nofun,rfl,rfl⟩
 intro e R' B' he hq
 obtain⟨rfl,hI⟩:=hq
 refine qE<|gS rfl hI<|sM rfl<|bE h fun x15 hx15 h=>cR (.tup [rL x15.1,rI x15.2]) [(560,.dead)] (iv hx15)<|sV (rL x15.1)<|sV (rI x15.2)<|sA rfl<|sA rfl<|sN<|qR ?_
 exact oI h▸qD
theorem jF{a0:aO}{a1:Int}{a2:Int}{r:(List Int)}(h:e9 a0 a1 a2=some r):EvP prog av ext 382 [.d (aO.pd a0),rI a1,rI a2] [] (rL r,[]):=by
 refine Ev.body rfl Tryz.func382 rfl (by kernel_rfl)<|gS rfl rfl<|sB (.ptr 48 0) 48 (.var [rI a0.a0,rI a0.a1,rI a0.a2])<|sV .nR<|sN<|WC.cI rfl rfl<|sV (.ptr 48 0)<|sL rfl<|sM rfl<|sV (rI (rW (a0.a0*a2)))<|sM rfl<|sV (rI (rW ((rW (a0.a0*a2))*a2)))<|sV (.ptr 48 2)<|sL rfl<|sM rfl ?_
 refine sV (rI (rW (a0.a2*a1)))<|sM rfl<|sV (rI (rW ((rW (a0.a2*a1))*a1)))<|sV (rI (rW ((rW ((rW (a0.a0*a2))*a2))-(rW ((rW (a0.a2*a1))*a1)))))<|bE h fun x1 hx1 h=>cD (da hx1)<|sV (.ptr 48 1)<|sL rfl<|sM rfl<|sV (rI (rW (a0.a1*a1)))<|sM rfl<|sV (rI (rW ((rW (a0.a1*a1))*a2)))<|bE h fun x2 hx2 h=>cD (da hx2)<|bE h fun x3 hx3 h=>?_
 refine cR (.tup [rL x3.1,rI x3.2]) [] (nat_Add_ev hx3)<|sM rfl<|sV (rL x3.1)<|sV (rI x3.2)<|sA rfl<|sA rfl ?_
 refine sN<|sO<|gS rfl rfl<|sM rfl<|sA rfl<|sN<|qR ?_
 exact oI h▸qD
theorem response_gain_ev{a0:aD}{a1:Int}{a2:Int}{r:aH×Bool}(h:jf a0 a1 a2=some r):EvP prog av ext 336 [.d (aD.pd a0),rI a1,rI a2] [] (.tup [.d (aH.pd r.1),rB r.2],[]):=by
 refine Ev.body rfl Tryz.func336 rfl (by kernel_rfl)<|gS rfl rfl<|sB (.ptr 48 0) 48 (.var (aD.rc a0))<|sB (.ptr 96 0) 96 (.var [.nR,.nR])<|sU<|sN<|qS<|gS rfl rfl<|sV (.ptr 48 0)<|sL rfl<|sN<|qB<|gS rfl rfl<|sF h (fun h=>?_) fun h=>?_
 ·refine sA rfl<|sN<|cT<|WC.cI rfl rfl<|sV (.ptr 48 1)<|sV (.ptr 48 1)<|sL rfl<|bE h fun x2 hx2 h=>cD (da hx2)<|sV (.ptr 48 4)<|sV (.ptr 48 4)<|sL rfl<|bE h fun x3 hx3 h=>cD (da hx3)<|sV (.d (.agg [.lst (x2.map (PD.int .i64)),.lst (x3.map (PD.int .i64))])) ?_
  refine sS 96 (.var [rL x2,rL x3])<|sT ?_
  refine sN<|sO<|qR ?_
  cases oI h
  exact qG
 refine sA rfl<|sN<|cF<|gS rfl rfl<|sF h (fun h=>?_) fun h=>?_
 ·refine sA rfl<|sN<|cT<|WC.cI rfl rfl<|sV (.ptr 48 1)<|sV (.d (aO.pd a0.bo))<|sM rfl<|sM rfl<|bE h fun x5 hx5 h=>cD (jF hx5)<|sV (.ptr 48 4)<|sV (.d (aO.pd a0.bf))<|sM rfl<|sM rfl<|bE h fun x6 hx6 h=>?_
  refine cD (jF hx6)<|sV (.d (.agg [.lst (x5.map (PD.int .i64)),.lst (x6.map (PD.int .i64))]))<|sB (.ptr 128 0) 128 (.var [.nR,.nR])<|sS 128 (.var [rL x5,rL x6]) ?_
  refine sN<|sO<|WC.cI rfl rfl<|sV (.d (.agg [.lst (x5.map (PD.int .i64)),.lst (x6.map (PD.int .i64))]))<|sV (.ptr 128 1)<|sL rfl<|sE (rI (x6.length:Int)) (nT _ _)<|sV (rB (decide ((x6.length:Int)>(0:Int))))<|sS 96 (.var [rL x5,rL x6])<|sA rfl ?_
  refine sN<|sO<|qR ?_
  cases oI h
  exact qG
 refine sA rfl<|sN<|cF<|qK<|WC.cI rfl rfl<|sV (.ptr 48 7)<|sL rfl<|bE h fun x7 hx7 h=>cD (gQ hx7)<|bE h fun x8 hx8 h=>cD (da hx8)<|sV (.ptr 48 9)<|sL rfl<|bE h fun x9 hx9 h=>WO.shlG hx9 rfl rfl rfl rfl rfl ?_
 refine bE h fun x10 hx10 h=>cD (da hx10)<|sV (.d (.agg [.lst (x8.map (PD.int .i64)),.lst (x10.map (PD.int .i64))]))<|sS 96 (.var [rL x8,rL x10])<|sT ?_
 refine sN<|sO<|qR ?_
 cases oI h
 exact qG
theorem jj{a0:aH}{r:Bool}(h:ex a0=some r):EvP prog av ext 384 [.d (aH.pd a0)] [] (rB r,[]):=by
 refine Ev.body rfl Tryz.func384 rfl (by kernel_rfl)<|gS rfl rfl<|sB (.ptr 16 0) 16 (.var (aH.rc a0))<|sU<|sN<|gS rfl rfl<|sV (.ptr 16 0)<|sL rfl<|bE h fun x1 hx1 h=>oz h (fun hb2 h=>?_) (fun hb2 h=>?_)
 ·refine WO.oM (v:=rB true) (u:=[]) rfl rfl (fun _=>rfl) rfl rfl rfl rfl rfl (fy hx1) rfl rfl (congrArg (fun b=>RV.d (.bool b)) hb2) rfl<|sM rfl<|sV (.ptr 16 1)<|sL rfl<|bE h fun x3 hx3 h=>cD (fy hx3)<|sF h (fun h=>?_) fun h=>?_
  ·refine sM rfl<|sV (.ptr 16 1)<|sL rfl<|sE (rI (a0.bf.length:Int)) (nT _ _)<|sV (rB (decide ((a0.bf.length:Int)>(0:Int))))<|sV (rB (decide ((a0.bf.length:Int)>(0:Int))))<|sA rfl<|sN<|qR ?_
   exact oI h▸qD
  refine sM rfl<|k3<|sK<|sU<|sA rfl<|sN<|qR ?_
  exact oI h▸qD
 refine WO.oM (v:=rB false) (u:=[]) rfl rfl (fun _=>rfl) rfl rfl rfl rfl rfl (fy hx1) rfl rfl (congrArg (fun b=>RV.d (.bool b)) hb2) rfl<|sM rfl<|k3<|sU<|sM rfl<|k3<|sK<|sU<|sA rfl<|sN<|qR ?_
 exact oI h▸qD
theorem nat_Times_ev{a0:aH}{a1:aH}{r:aH×Int}(h:mG a0 a1=some r):EvP prog av ext 337 [.d (aH.pd a0),.d (aH.pd a1)] [] (.tup [.d (aH.pd r.1),rI r.2],[]):=by
 refine Ev.body rfl Tryz.func337 rfl (by kernel_rfl)<|gS rfl rfl<|sB (.ptr 32 0) 32 (.var (aH.rc a0))<|sB (.ptr 48 0) 48 (.var (aH.rc a1))<|sB (.ptr 64 0) 64 (.var [.nR,.nR])<|sV (r0)<|sN<|qS<|gS rfl rfl<|sV (.d (aH.pd a0))<|bE h fun x1 hx1 h=>cD (jj hx1)<|sF h (fun h=>?_) fun h=>?_
 ·refine sM rfl<|k3<|sT<|sN<|cT<|gS rfl rfl<|sV (.agg [.nR,.nR])<|sS 64 (.var [.nR,.nR])<|sV (rI 1)<|sN<|qR ?_
  exact oI h▸qD
 refine sM rfl<|sV (.d (aH.pd a1))<|bE h fun x3 hx3 h=>cD (jj hx3)<|sV (rB (!x3))<|sF h (fun h=>?_) fun h=>?_
 ·refine sN<|cT<|gS rfl rfl<|sV (.agg [.nR,.nR])<|sS 64 (.var [.nR,.nR])<|sV (rI 1)<|sN<|qR ?_
  exact oI h▸qD
 refine sN<|cF<|qK<|gS rfl rfl<|sV (.ptr 32 0)<|sL rfl<|sV (.ptr 48 0)<|sL rfl<|bE h fun x5 hx5 h=>cD (jt hx5)<|bE h fun x6 hx6 h=>cR (.tup [rL x6.1,rI x6.2]) [] (iv hx6)<|sM rfl<|sV (rL x6.1)<|sV (rI x6.2) ?_
 refine sA rfl<|sA rfl<|sN<|gS rfl rfl<|sV (.ptr 32 1)<|sL rfl<|sV (.ptr 48 1)<|sL rfl<|bE h fun x7 hx7 h=>cD (jt hx7)<|bE h fun x8 hx8 h=>cR (.tup [rL x8.1,rI x8.2]) [] (iv hx8)<|sM rfl<|sV (rL x8.1)<|sV (rI x8.2) ?_
 refine sA rfl<|sA rfl<|sN<|qS<|gS rfl rfl<|sM rfl<|sF h (fun h=>?_) fun h=>?_
 ·refine sM rfl<|sK<|sK<|sT<|sN<|cT<|gS rfl rfl<|sV (.agg [.nR,.nR])<|sS 64 (.var [.nR,.nR])<|sV (rI 8)<|sN<|qR ?_
  exact oI h▸qD
 refine sM rfl<|sM rfl<|sV (rB (x8.2 != (0:Int)))<|sF h (fun h=>?_) fun h=>?_
 ·refine sN<|cT<|gS rfl rfl<|sV (.agg [.nR,.nR])<|sS 64 (.var [.nR,.nR])<|sV (rI 8)<|sN<|qR ?_
  exact oI h▸qD
 refine sN<|cF<|qK<|gS rfl rfl<|sM rfl<|sM rfl<|sV (.d (.agg [.lst (x6.1.map (PD.int .i64)),.lst (x8.1.map (PD.int .i64))]))<|sS 64 (.var [rL x6.1,rL x8.1])<|sV (r0)<|sN<|qR ?_
 exact oI h▸qD
theorem response_Gain_ev{a0:aL}{a1:Int}{a2:Int}{r:aH×Int}(h:je a0 a1 a2=some r):EvP prog av ext 273 [.d (aL.pd a0),rI a1,rI a2] [] (.tup [.d (aH.pd r.1),rI r.2],[]):=by
 refine Ev.body rfl Tryz.func273 rfl (by kernel_rfl)<|gS rfl rfl<|sB (.ptr 48 0) 48 (.var [rM aD.pd a0.bn])<|sB (.ptr 96 0) 96 (.var [.nR,.nR])<|sV (r0)<|sN<|qS<|gS rfl rfl<|sV (.d (aL.pd a0))<|bE h fun x1 hx1 h=>cD (kN hx1)<|sF h (fun h=>?_) fun h=>?_
 ·refine sN<|cT<|gS rfl rfl<|sV (.agg [.nR,.nR])<|sS 96 (.var [.nR,.nR])<|sV (rI 1)<|sN<|qR ?_
  exact oI h▸qD
 refine sN<|cF<|qK<|qS<|gS rfl rfl<|sM rfl<|bE h fun x3 hx3 h=>cD (bR hx3)<|sF h (fun h=>?_) fun h=>?_
 ·refine sM rfl<|k3<|sT<|sN<|cT<|gS rfl rfl<|sV (.agg [.nR,.nR])<|sS 96 (.var [.nR,.nR])<|sV (rI 2)<|sN<|qR ?_
  exact oI h▸qD
 refine sM rfl<|sM rfl<|bE h fun x5 hx5 h=>cD (bR hx5)<|sV (rB (!x5))<|sF h (fun h=>?_) fun h=>?_
 ·refine sN<|cT<|gS rfl rfl<|sV (.agg [.nR,.nR])<|sS 96 (.var [.nR,.nR])<|sV (rI 2)<|sN<|qR ?_
  exact oI h▸qD
 refine sN<|cF<|qK<|gS rfl rfl<|sV (.d (.lst ([1].map (PD.int .i64))))<|sV (.d (.lst ([1].map (PD.int .i64))))<|sV (.d (.agg [.lst ([1].map (PD.int .i64)),.lst ([1].map (PD.int .i64))]))<|sB (.ptr 128 0) 128 (.var [.nR,.nR])<|sS 128 (.var [.d (.lst ([1].map (PD.int .i64))),.d (.lst ([1].map (PD.int .i64)))])<|sN<|qS<|gS rfl rfl<|sV (.ptr 48 0)<|sL rfl<|sE (rI (a0.bn.length:Int)) (nT _ _) ?_
 refine sV (r0)<|sN<|bE h fun o20 ho20 h=>WC.block (WC.loop (WL.n4 ho20 (fun s R' B'=>hY prog 0 (A R' B') (av.at_ 273 0 7)=some (A [(1,rI a1),(2,rI a2),(6,.ptr 96 0),(8,.ptr 128 0),(31,rM aD.pd a0.bn),(32,rI (a0.bn.length:Int)),(33,rI s.1)] [(96,.var [.nR,.nR]),(128,.var [rL s.2.1,rL s.2.2])])) (fun o e R' B'=>match o with| .inl y=>e= .exit 0∧hY prog 0 (A R' B') (av.at_ 273 0 17)=some (A [(6,.ptr 96 0),(8,.ptr 128 0)] [(96,.var [.nR,.nR]),(128,.var [rL y.1,rL y.2])])| .inr r=>e= .ret∧finish prog (av.own 273) Tryz.f273 0 (A R' B')=some (.tup [.d (aH.pd r.1),rI r.2],[])) rfl ?_ ?_))
 ·rintro⟨s7,s8,s9⟩ R' B' q12 hI h
  refine gS rfl hI<|sF h (fun h=>?_) fun h=>?_
  ·refine sN<|qS<|cT<|qK<|qS<|qB<|gS rfl rfl<|bE h fun x14 hx14 h=>eG hx14 rfl<|sV (.d (aD.pd x14))<|sB (.ptr 160 0) 160 (.var [r0,r0,r0,r0,r0,r0,r0,.nR,r0,r0])<|sH 160 (.var (aD.rc x14))<|sN<|gS rfl rfl<|sV (.d (aD.pd x14)) ?_
   refine sM rfl<|sM rfl<|bE h fun x15 hx15 h=>cR (.tup [.d (aH.pd x15.1),rB x15.2]) [] (response_gain_ev hx15)<|sM rfl<|sV (.d (aH.pd x15.1))<|sV (rB x15.2)<|sB (.ptr 176 0) 176 (.var [.nR,.nR])<|sS 176 (.var (aH.rc x15.1))<|sA rfl<|sN<|qS<|gS rfl rfl<|sM rfl<|sF h (fun h=>?_) fun h=>?_
   ·refine sN<|cT<|gS rfl rfl<|sV (.agg [.nR,.nR])<|sS 96 (.var [.nR,.nR])<|sV (rI 11)<|sN<|qR ?_
    cases oI h
    exact⟨nofun,rfl,rfl⟩
   refine sN<|cF<|qK<|gS rfl rfl<|sV (r0)<|sN<|gS rfl rfl<|sV (.d (aH.pd (aH.mk s8 s9)))<|sV (.d (aH.pd x15.1))<|bE h fun x17 hx17 h=>cR (.tup [.d (aH.pd x17.1),rI x17.2]) [] (nat_Times_ev hx17)<|sM rfl<|sV (.d (aH.pd x17.1))<|sV (rI x17.2)<|sS 128 (.var (aH.rc x17.1)) ?_
   refine sA rfl<|sN<|gS rfl rfl<|sM rfl<|sF h (fun h=>?_) fun h=>?_
   ·refine sN<|cT<|gS rfl rfl<|sV (.agg [.nR,.nR])<|sM rfl<|sS 96 (.var [.nR,.nR])<|sA rfl<|sN<|qR ?_
    cases oI h
    exact⟨nofun,rfl,rfl⟩
   refine sN<|cF<|qK<|WC.region rfl rfl<|sV (rI (rW (s7+(1:Int))))<|sM rfl<|sN ?_
   cases oI h
   exact⟨rfl,rfl⟩
  refine sN<|qS<|cF<|qX ?_
  cases oI h
  exact⟨nofun,rfl,rfl⟩
 intro e R' B' he hq
 rcases o20 with y21|r22
 ·obtain⟨rfl,hI⟩:=hq
  refine qE<|gS rfl hI<|sV (.d (aH.pd (aH.mk y21.1 y21.2)))<|sS 96 (.var [rL y21.1,rL y21.2])<|sV (r0)<|sN<|qR ?_
  exact oI h▸qD
 obtain⟨rfl,hf⟩:=hq
 cases oI h
 exact hf
theorem jB{a0:Int}{a1:Int}{r:Int}(h:eX a0 a1=some r):EvP prog av ext 339 [rI a0,rI a1] [] (rI r,[]):=by
 refine Ev.body rfl Tryz.func339 rfl (by kernel_rfl)<|gS rfl rfl<|sV (r0)<|sN<|gS rfl rfl<|sV (r0)<|sN<|qS<|gS rfl rfl<|sV (r0)<|sN<|WC.block (WC.loop ?_)
 refine WL.round<|gS rfl rfl<|sT<|sN<|qS<|cT<|qK<|WC.join (α:=Int×Int) (fun x R' B'=>hY prog 0 (A R' B') (av.at_ 339 0 9)=some (A [(0,rI a0),(1,rI x.1),(5,rI x.2),(6,r0)] [])) (fun x=>dx a0 x.1 x.2=some r) ?_ ?_
 ·refine qB<|gS rfl rfl<|sM rfl<|sM rfl<|sV (rI (rW (a1*a1)))<|sV (rI (oj .i64 (rW (a1*a1)) (30:Int)))<|sA rfl<|sN<|gS rfl rfl<|sM rfl<|sV (r0)<|sA rfl<|sN<|gS rfl rfl<|sM rfl ?_
  refine sF h (fun h=>?_) fun h=>?_
  ·exact sN<|cT<|gS rfl rfl<|sM rfl<|bE h fun x40 hx40 h=>WO.ru hx40 rfl rfl rfl rfl rfl rfl<|sA rfl<|sN<|WC.region rfl rfl<|sM rfl<|sV (rI 1)<|sA rfl<|sN<|⟨(x40,1),rfl,h⟩
  exact sN<|cF<|qK<|⟨((oj .i64 (rW (a1*a1)) (30:Int)),0),rfl,h⟩
 rintro⟨j1,j2⟩ R' B' hI h
 refine WC.region hI rfl<|sV (rI 1)<|sM rfl<|sN<|WL.round<|gS rfl rfl<|sT<|sN<|qS<|cT<|qK<|WC.join (α:=Int×Int) (fun x R' B'=>hY prog 0 (A R' B') (av.at_ 339 0 9)=some (A [(0,rI a0),(1,rI x.1),(5,rI x.2),(6,rI 1)] [])) (fun x=>dw a0 x.1 x.2=some r) ?_ ?_
 ·refine qB<|gS rfl rfl<|sM rfl<|sM rfl<|sV (rI (rW (j1*j1)))<|sV (rI (oj .i64 (rW (j1*j1)) (30:Int)))<|sA rfl<|sN<|gS rfl rfl<|sM rfl<|sV (rI (rW (j2*(2:Int))))<|sA rfl<|sN<|gS rfl rfl<|sM rfl ?_
  refine sF h (fun h=>?_) fun h=>?_
  ·exact sN<|cT<|gS rfl rfl<|sM rfl<|bE h fun x37 hx37 h=>WO.ru hx37 rfl rfl rfl rfl rfl rfl<|sA rfl<|sN<|WC.region rfl rfl<|sM rfl<|sV (rI (rW ((rW (j2*(2:Int)))+(1:Int))))<|sA rfl<|sN<|⟨(x37,(rW ((rW (j2*(2:Int)))+(1:Int)))),rfl,h⟩
  exact sN<|cF<|qK<|⟨((oj .i64 (rW (j1*j1)) (30:Int)),(rW (j2*(2:Int)))),rfl,h⟩
 rintro⟨j3,j4⟩ R' B' hI h
 refine WC.region hI rfl<|sV (rI 2)<|sM rfl<|sN<|WL.round<|gS rfl rfl<|sT<|sN<|qS<|cT<|qK<|WC.join (α:=Int×Int) (fun x R' B'=>hY prog 0 (A R' B') (av.at_ 339 0 9)=some (A [(0,rI a0),(1,rI x.1),(5,rI x.2),(6,rI 2)] [])) (fun x=>dv a0 x.1 x.2=some r) ?_ ?_
 ·refine qB<|gS rfl rfl<|sM rfl<|sM rfl<|sV (rI (rW (j3*j3)))<|sV (rI (oj .i64 (rW (j3*j3)) (30:Int)))<|sA rfl<|sN<|gS rfl rfl<|sM rfl<|sV (rI (rW (j4*(2:Int))))<|sA rfl<|sN<|gS rfl rfl<|sM rfl ?_
  refine sF h (fun h=>?_) fun h=>?_
  ·exact sN<|cT<|gS rfl rfl<|sM rfl<|bE h fun x34 hx34 h=>WO.ru hx34 rfl rfl rfl rfl rfl rfl<|sA rfl<|sN<|WC.region rfl rfl<|sM rfl<|sV (rI (rW ((rW (j4*(2:Int)))+(1:Int))))<|sA rfl<|sN<|⟨(x34,(rW ((rW (j4*(2:Int)))+(1:Int)))),rfl,h⟩
  exact sN<|cF<|qK<|⟨((oj .i64 (rW (j3*j3)) (30:Int)),(rW (j4*(2:Int)))),rfl,h⟩
 rintro⟨j5,j6⟩ R' B' hI h
 refine WC.region hI rfl<|sV (rI 3)<|sM rfl<|sN<|WL.round<|gS rfl rfl<|sT<|sN<|qS<|cT<|qK<|WC.join (α:=Int×Int) (fun x R' B'=>hY prog 0 (A R' B') (av.at_ 339 0 9)=some (A [(0,rI a0),(1,rI x.1),(5,rI x.2),(6,rI 3)] [])) (fun x=>du a0 x.1 x.2=some r) ?_ ?_
 ·refine qB<|gS rfl rfl<|sM rfl<|sM rfl<|sV (rI (rW (j5*j5)))<|sV (rI (oj .i64 (rW (j5*j5)) (30:Int)))<|sA rfl<|sN<|gS rfl rfl<|sM rfl<|sV (rI (rW (j6*(2:Int))))<|sA rfl<|sN<|gS rfl rfl<|sM rfl ?_
  refine sF h (fun h=>?_) fun h=>?_
  ·exact sN<|cT<|gS rfl rfl<|sM rfl<|bE h fun x31 hx31 h=>WO.ru hx31 rfl rfl rfl rfl rfl rfl<|sA rfl<|sN<|WC.region rfl rfl<|sM rfl<|sV (rI (rW ((rW (j6*(2:Int)))+(1:Int))))<|sA rfl<|sN<|⟨(x31,(rW ((rW (j6*(2:Int)))+(1:Int)))),rfl,h⟩
  exact sN<|cF<|qK<|⟨((oj .i64 (rW (j5*j5)) (30:Int)),(rW (j6*(2:Int)))),rfl,h⟩
 rintro⟨j7,j8⟩ R' B' hI h
 refine WC.region hI rfl<|sV (rI 4)<|sM rfl<|sN<|WL.round<|gS rfl rfl<|sT<|sN<|qS<|cT<|qK<|WC.join (α:=Int×Int) (fun x R' B'=>hY prog 0 (A R' B') (av.at_ 339 0 9)=some (A [(0,rI a0),(1,rI x.1),(5,rI x.2),(6,rI 4)] [])) (fun x=>dt a0 x.1 x.2=some r) ?_ ?_
 ·refine qB<|gS rfl rfl<|sM rfl<|sM rfl<|sV (rI (rW (j7*j7)))<|sV (rI (oj .i64 (rW (j7*j7)) (30:Int)))<|sA rfl<|sN<|gS rfl rfl<|sM rfl<|sV (rI (rW (j8*(2:Int))))<|sA rfl<|sN<|gS rfl rfl<|sM rfl ?_
  refine sF h (fun h=>?_) fun h=>?_
  ·exact sN<|cT<|gS rfl rfl<|sM rfl<|bE h fun x28 hx28 h=>WO.ru hx28 rfl rfl rfl rfl rfl rfl<|sA rfl<|sN<|WC.region rfl rfl<|sM rfl<|sV (rI (rW ((rW (j8*(2:Int)))+(1:Int))))<|sA rfl<|sN<|⟨(x28,(rW ((rW (j8*(2:Int)))+(1:Int)))),rfl,h⟩
  exact sN<|cF<|qK<|⟨((oj .i64 (rW (j7*j7)) (30:Int)),(rW (j8*(2:Int)))),rfl,h⟩
 rintro⟨j9,j10⟩ R' B' hI h
 refine WC.region hI rfl<|sV (rI 5)<|sM rfl<|sN<|WL.round<|gS rfl rfl<|sT<|sN<|qS<|cT<|qK<|WC.join (α:=Int×Int) (fun x R' B'=>hY prog 0 (A R' B') (av.at_ 339 0 9)=some (A [(0,rI a0),(1,rI x.1),(5,rI x.2),(6,rI 5)] [])) (fun x=>dq a0 x.1 x.2=some r) ?_ ?_
 ·refine qB<|gS rfl rfl<|sM rfl<|sM rfl<|sV (rI (rW (j9*j9)))<|sV (rI (oj .i64 (rW (j9*j9)) (30:Int)))<|sA rfl<|sN<|gS rfl rfl<|sM rfl<|sV (rI (rW (j10*(2:Int))))<|sA rfl<|sN<|gS rfl rfl<|sM rfl ?_
  refine sF h (fun h=>?_) fun h=>?_
  ·exact sN<|cT<|gS rfl rfl<|sM rfl<|bE h fun x25 hx25 h=>WO.ru hx25 rfl rfl rfl rfl rfl rfl<|sA rfl<|sN<|WC.region rfl rfl<|sM rfl<|sV (rI (rW ((rW (j10*(2:Int)))+(1:Int))))<|sA rfl<|sN<|⟨(x25,(rW ((rW (j10*(2:Int)))+(1:Int)))),rfl,h⟩
  exact sN<|cF<|qK<|⟨((oj .i64 (rW (j9*j9)) (30:Int)),(rW (j10*(2:Int)))),rfl,h⟩
 rintro⟨j11,j12⟩ R' B' hI h
 refine WC.region hI rfl<|sV (rI 6)<|sM rfl<|sN<|WL.round<|gS rfl rfl<|sT<|sN<|qS<|cT<|qK<|WC.join (α:=Int×Int) (fun x R' B'=>hY prog 0 (A R' B') (av.at_ 339 0 9)=some (A [(0,rI a0),(1,rI x.1),(5,rI x.2),(6,rI 6)] [])) (fun x=>dp a0 x.1 x.2=some r) ?_ ?_
 ·refine qB<|gS rfl rfl<|sM rfl<|sM rfl<|sV (rI (rW (j11*j11)))<|sV (rI (oj .i64 (rW (j11*j11)) (30:Int)))<|sA rfl<|sN<|gS rfl rfl<|sM rfl<|sV (rI (rW (j12*(2:Int))))<|sA rfl<|sN<|gS rfl rfl<|sM rfl ?_
  refine sF h (fun h=>?_) fun h=>?_
  ·exact sN<|cT<|gS rfl rfl<|sM rfl<|bE h fun x22 hx22 h=>WO.ru hx22 rfl rfl rfl rfl rfl rfl<|sA rfl<|sN<|WC.region rfl rfl<|sM rfl<|sV (rI (rW ((rW (j12*(2:Int)))+(1:Int))))<|sA rfl<|sN<|⟨(x22,(rW ((rW (j12*(2:Int)))+(1:Int)))),rfl,h⟩
  exact sN<|cF<|qK<|⟨((oj .i64 (rW (j11*j11)) (30:Int)),(rW (j12*(2:Int)))),rfl,h⟩
 rintro⟨j13,j14⟩ R' B' hI h
 refine WC.region hI rfl<|sV (rI 7)<|sM rfl<|sN<|WL.round<|gS rfl rfl<|sT<|sN<|qS<|cT<|qK<|WC.join (α:=Int×Int) (fun x R' B'=>hY prog 0 (A R' B') (av.at_ 339 0 9)=some (A [(0,rI a0),(1,rI x.1),(5,rI x.2),(6,rI 7)] [])) (fun x=>dn a0 x.1 x.2=some r) ?_ ?_
 ·refine qB<|gS rfl rfl<|sM rfl<|sM rfl<|sV (rI (rW (j13*j13)))<|sV (rI (oj .i64 (rW (j13*j13)) (30:Int)))<|sA rfl<|sN<|gS rfl rfl<|sM rfl<|sV (rI (rW (j14*(2:Int))))<|sA rfl<|sN<|gS rfl rfl<|sM rfl ?_
  refine sF h (fun h=>?_) fun h=>?_
  ·exact sN<|cT<|gS rfl rfl<|sM rfl<|bE h fun x19 hx19 h=>WO.ru hx19 rfl rfl rfl rfl rfl rfl<|sA rfl<|sN<|WC.region rfl rfl<|sM rfl<|sV (rI (rW ((rW (j14*(2:Int)))+(1:Int))))<|sA rfl<|sN<|⟨(x19,(rW ((rW (j14*(2:Int)))+(1:Int)))),rfl,h⟩
  exact sN<|cF<|qK<|⟨((oj .i64 (rW (j13*j13)) (30:Int)),(rW (j14*(2:Int)))),rfl,h⟩
 rintro⟨j15,j16⟩ R' B' hI h
 refine WC.region hI rfl<|sV (rI 8)<|sM rfl<|sN<|WL.round<|gS rfl rfl<|sU<|sN<|qS<|cF<|qX<|qE<|gS rfl rfl<|sM rfl<|sV (rI (rW ((256:Int)*a0))) ?_
 refine sM rfl<|sV (rI (rW ((rW ((256:Int)*a0))+j16)))<|sA rfl<|sN<|qR ?_
 exact oI h▸qD
theorem iM{a0:Int}{r:Int×Int}(h:fK a0=some r):EvP prog av ext 275 [rI a0] [] (.tup [rI r.1,rI r.2],[]):=by
 refine Ev.body rfl Tryz.func275 rfl (by kernel_rfl)<|gS rfl rfl<|sV (r0)<|sV (r0)<|sN<|qS<|gS rfl rfl<|sM rfl<|sF h (fun h=>?_) fun h=>?_
 ·refine sN<|cT<|gS rfl rfl<|sV (r0)<|sV (rI 2)<|sN<|qR ?_
  exact oI h▸qD
 refine sN<|cF<|qK<|gS rfl rfl<|sM rfl<|sV (.d (.int .u64 (IntKind.wrap .u64 a0)))<|bE h fun x2 hx2 h=>cD (l5 hx2)<|sV (rI (rW (x2-(1:Int))))<|sA rfl<|sN<|qS<|gS rfl rfl<|sM rfl<|sF h (fun h=>?_) fun h=>?_
 ·refine sN<|cT<|gS rfl rfl<|sM rfl<|sM rfl<|sM rfl<|sV (rI (rW ((30:Int)-(rW (x2-(1:Int))))))<|bE h fun x4 hx4 h=>WO.shlG hx4 rfl rfl rfl rfl rfl<|bE h fun x5 hx5 h=>cD (jB hx5)<|sA rfl<|sV (r0)<|sN<|qR ?_
  exact oI h▸qD
 refine sN<|cF<|qK<|gS rfl rfl<|sM rfl<|sM rfl<|sM rfl<|sV (rI (rW ((rW (x2-(1:Int)))-(30:Int))))<|bE h fun x6 hx6 h=>WO.shrG hx6 rfl rfl rfl rfl rfl<|bE h fun x7 hx7 h=>cD (jB hx7)<|sA rfl<|sV (r0)<|sN ?_
 refine qR ?_
 exact oI h▸qD
theorem jA{a0:(List Int)}{r:Int×Int}(h:eW a0=some r):EvP prog av ext 274 [rL a0] [] (.tup [rI r.1,rI r.2],[]):=by
 refine Ev.body rfl Tryz.func274 rfl (by kernel_rfl)<|gS rfl rfl<|sV (r0)<|sV (r0)<|sN<|qS<|gS rfl rfl<|sM rfl<|bE h fun x1 hx1 h=>cD (fy hx1)<|sF h (fun h=>?_) fun h=>?_
 ·refine sN<|cT<|gS rfl rfl<|sV (r0)<|sV (rI 1)<|sN<|qR ?_
  exact oI h▸qD
 refine sN<|cF<|qK<|gS rfl rfl<|sM rfl<|sE (rI (a0.length:Int)) (nT _ _)<|sV (rI (rW ((a0.length:Int)-(1:Int))))<|sA rfl<|sN<|qS<|qB<|gS rfl rfl<|sM rfl<|sF h (fun h=>?_) fun h=>?_
 ·refine sA rfl<|sN<|cT<|gS rfl rfl<|sV (r0)<|sV (rI 2)<|sN<|qR ?_
  exact oI h▸qD
 refine sA rfl<|sN<|cF<|gS rfl rfl<|sM rfl<|sF h (fun h=>?_) fun h=>?_
 ·refine sA rfl<|sN<|cT<|gS rfl rfl<|sM rfl<|bE h fun x5 hx5 h=>eG hx5 rfl<|sC rfl<|bE h fun x6 hx6 h=>cR (.tup [rI x6.1,rI x6.2]) [] (iM hx6)<|sV (rI x6.1)<|sV (rI x6.2)<|sA rfl<|sA rfl<|sN ?_
  refine qR ?_
  exact oI h▸qD
 refine sA rfl<|sN<|cF<|qK<|WC.cI rfl rfl<|sM rfl<|sM rfl<|bE h fun x7 hx7 h=>eG hx7 rfl<|sC rfl<|sV (rI (shlI .i64 x7 (30:Int)))<|sM rfl<|sM rfl<|sV (rI (rW ((rW ((a0.length:Int)-(1:Int)))-(1:Int))))<|bE h fun x8 hx8 h=>?_
 refine eG hx8 rfl<|sC rfl<|sV (rI (orI .i64 (shlI .i64 x7 (30:Int)) x8))<|sA rfl ?_
 refine sN<|sO<|gS rfl rfl<|sM rfl<|bE h fun x9 hx9 h=>cR (.tup [rI x9.1,rI x9.2]) [] (iM hx9)<|sM rfl<|sV (rI x9.1)<|sV (rI x9.2)<|sA rfl<|sA rfl<|sN<|gS rfl rfl<|sM rfl<|sM rfl<|sV (rI (rW ((rW ((a0.length:Int)-(1:Int)))-(1:Int)))) ?_
 refine sV (rI (rW ((7680:Int)*(rW ((rW ((a0.length:Int)-(1:Int)))-(1:Int))))))<|sV (rI (rW (x9.1+(rW ((7680:Int)*(rW ((rW ((a0.length:Int)-(1:Int)))-(1:Int))))))))<|sM rfl<|sA rfl<|sA rfl<|sN<|qR ?_
 exact oI h▸qD
theorem mR{a0:ba}{a1:aL}{a2:Int}{r:Int×Int}(h:gp a0 a1 a2=some r):EvP prog av ext 190 [.d (ba.pd a0),.d (aL.pd a1),rI a2] [] (.tup [rI r.1,rI r.2],[]):=by
 refine Ev.body rfl Tryz.func190 rfl (by kernel_rfl)<|gS rfl rfl<|sB (.ptr 48 0) 48 (.var (ba.rc a0))<|sB (.ptr 64 0) 64 (.var [rM aD.pd a1.bn])<|sV (r0)<|sV (r0)<|sN<|gS rfl rfl<|sV (.d (aL.pd a1))<|sV (.ptr 48 3)<|sL rfl<|sV (.ptr 48 4)<|sL rfl<|bE h fun x1 hx1 h=>cR (.tup [.d (aH.pd x1.1),rI x1.2]) [] (response_Gain_ev hx1) ?_
 refine sM rfl<|sV (.d (aH.pd x1.1))<|sV (rI x1.2)<|sB (.ptr 128 0) 128 (.var [.nR,.nR])<|sS 128 (.var (aH.rc x1.1))<|sA rfl<|sN<|qS<|gS rfl rfl<|sM rfl<|sF h (fun h=>?_) fun h=>?_
 ·refine sN<|cT<|gS rfl rfl<|sM rfl<|sV (r0)<|sA rfl<|sN<|qR ?_
  exact oI h▸qD
 refine sN<|cF<|qK<|gS rfl rfl<|sV (.ptr 128 0)<|sL rfl<|bE h fun x3 hx3 h=>cR (.tup [rI x3.1,rI x3.2]) [] (jA hx3)<|sM rfl<|sV (rI x3.1)<|sV (rI x3.2)<|sA rfl<|sA rfl<|sN<|qS ?_
 refine gS rfl rfl<|sM rfl<|sF h (fun h=>?_) fun h=>?_
 ·refine sN<|cT<|gS rfl rfl<|sV (r0)<|sV (rI 24)<|sN<|qR ?_
  exact oI h▸qD
 refine sN<|cF<|qK<|gS rfl rfl<|sV (.ptr 128 1)<|sL rfl<|bE h fun x5 hx5 h=>cR (.tup [rI x5.1,rI x5.2]) [] (jA hx5)<|sM rfl<|sV (rI x5.1)<|sV (rI x5.2)<|sA rfl<|sA rfl<|sN<|qS ?_
 refine gS rfl rfl<|sM rfl<|sF h (fun h=>?_) fun h=>?_
 ·refine sN<|cT<|gS rfl rfl<|sM rfl<|sV (r0)<|sA rfl<|sN<|qR ?_
  exact oI h▸qD
 refine sN<|cF<|qK<|gS rfl rfl<|sM rfl<|bE h fun x7 hx7 h=>cR (.tup [rI x7.1,rI x7.2]) [] (iM hx7)<|sM rfl<|sV (rI x7.1)<|sV (rI x7.2)<|sA rfl<|sA rfl<|sN<|gS rfl rfl<|sM rfl ?_
 refine sV (rI (rW ((2:Int)*x7.1)))<|sM rfl<|sV (rI (rW ((rW ((2:Int)*x7.1))+x5.1)))<|sM rfl<|sV (rI (rW ((rW ((rW ((2:Int)*x7.1))+x5.1))-x3.1)))<|sM rfl<|sA rfl<|sA rfl<|sN<|qR ?_
 exact oI h▸qD
theorem kD{a0:Int}{r:Int}(h:fV a0=some r):EvP prog av ext 193 [rI a0] [] (rI r,[]):=by
 refine Ev.body rfl Tryz.func193 rfl (by kernel_rfl)<|gS rfl rfl<|sV (r0)<|sN<|gS rfl rfl<|sM rfl<|sV (rI (oj .i64 a0 (1:Int)))<|sA rfl<|sN<|qR ?_
 exact oI h▸qD
theorem mQ{a0:Int}{r:Int×Bool}(h:iN a0=some r):EvP prog av ext 281 [rI a0] [] (.tup [rI r.1,rB r.2],[]):=by
 refine Ev.body rfl Tryz.func281 rfl (by kernel_rfl)<|gS rfl rfl<|sV (r0)<|sU<|sN<|gS rfl rfl<|sM rfl<|sV (rI (rW (a0*(30103:Int))))<|sM rfl<|sF h (fun h=>?_) fun h=>?_
 ·refine sM rfl<|sM rfl<|sV (rB (decide (a0<=(16777216:Int))))<|sV (rB (decide (a0<=(16777216:Int))))<|sA rfl<|sA rfl<|sN<|qR ?_
  exact oI h▸qD
 refine sM rfl<|sK<|sK<|sU<|sA rfl<|sA rfl<|sN<|qR ?_
 exact oI h▸qD
theorem kb{a0:Int}{r:Int}(h:fD a0=some r):EvP prog av ext 192 [rI a0] [] (rI r,[]):=by
 refine Ev.body rfl Tryz.func192 rfl (by kernel_rfl)<|gS rfl rfl<|sV (r0)<|sN<|gS rfl rfl<|sM rfl<|bE h fun x1 hx1 h=>cR (.tup [rI x1.1,rB x1.2]) [] (mQ hx1)<|sM rfl<|sV (rI x1.1)<|sV (rB x1.2)<|sA rfl<|sA rfl<|sN<|qS ?_
 refine gS rfl rfl<|sM rfl<|sF h (fun h=>?_) fun h=>?_
 ·refine sN<|cT<|gS rfl rfl<|sV (r0)<|sN<|qR ?_
  exact oI h▸qD
 refine sN<|cF<|qK<|gS rfl rfl<|sM rfl<|bE h fun x3 hx3 h=>WO.ru hx3 rfl rfl rfl rfl rfl rfl<|sA rfl<|sN<|qS<|gS rfl rfl<|sM rfl<|bE h fun x4 hx4 h=>WO.remG hx4 rfl rfl rfl rfl rfl rfl<|sF h (fun h=>?_) fun h=>?_
 ·refine sN<|cT<|WC.region rfl rfl<|sM rfl<|sV (rI (rW (x3-(1:Int))))<|sA rfl<|sN<|gS rfl rfl<|sM rfl<|sA rfl<|sN<|qR ?_
  exact oI h▸qD
 refine sN<|cF<|qK<|gS rfl rfl<|sM rfl<|sA rfl<|sN<|qR ?_
 exact oI h▸qD
theorem nG{a0:Int}{r:Int}(h:iu a0=some r):EvP prog av ext 194 [rI a0] [] (rI r,[]):=by
 refine Ev.body rfl Tryz.func194 rfl (by kernel_rfl)<|gS rfl rfl<|sV (r0)<|sN<|gS rfl rfl<|sM rfl<|sV (rI (rW (0-a0)))<|bE h fun x1 hx1 h=>cD (kb hx1)<|sV (rI (rW (0-x1)))<|sA rfl<|sN<|qR ?_
 exact oI h▸qD
end Go.Dw.Lt
