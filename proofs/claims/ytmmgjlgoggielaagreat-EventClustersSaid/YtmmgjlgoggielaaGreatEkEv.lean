
import Derived.Test.YtmmgjlgoggielaaGreatEkEvB

set_option maxRecDepth 100000
set_option maxHeartbeats 4000000
namespace Go.Dw.Ek
open Go.Proofs Go.Proofs.Tryz Go.Dw
theorem pU{a0:ap}{a1:ar}{a2:(List ae)}{r:aS×Int}(h:gP a0 a1 a2=some r):EvP prog aC ext 55 [.d (ap.pd a0),.d (ar.pd a1),rM ae.pd a2] [] (.tup [.d (aS.pd r.1),rI r.2],[]):=by
 refine Ev.body rfl Tryz.func55 rfl (by kernel_rfl)<|gS rfl rfl<|sB (.ptr 48 0) 48 (.var (ap.rc a0))<|sB (.ptr 64 0) 64 (.var [rM az.pd a1.aT])<|sB (.ptr 96 0) 96 (.var [.dH,.dH,.dH])<|sV (r0)<|sN<|gS rfl rfl<|sB (.ptr 128 0) 128 (.var [.dH,.dH,.dH])<|sN<|qS<|qB<|gS rfl rfl<|sV (.d (ap.pd a0))<|bE h fun x1 hx1 h=>?_
 refine cD (iE hx1)<|sF h (fun h=>?_) fun h=>?_
 ·refine sA rfl<|sN<|cT<|gS rfl rfl<|sV (.agg [.dH,.dH,.dH])<|sS 96 (.var [.dH,.dH,.dH])<|sV (rI 27)<|sN<|qR ?_
  cases oI h
  exact qG
 refine sA rfl<|sN<|cF<|gS rfl rfl<|sV (.d (ar.pd a1))<|bE h fun x3 hx3 h=>cD (gB hx3)<|sF h (fun h=>?_) fun h=>?_
 ·refine sA rfl<|sN<|cT<|gS rfl rfl<|sV (.agg [.dH,.dH,.dH])<|sS 96 (.var [.dH,.dH,.dH])<|sV (rI 1)<|sN<|qR ?_
  cases oI h
  exact qG
 refine sA rfl<|sN<|cF<|qK<|qS<|gS rfl rfl<|sM rfl<|bE h fun x5 hx5 h=>cD (oR hx5)<|sE (rI (x5.length:Int)) (dT _ _)<|sV (r0)<|sN<|bE h fun o22 ho22 h=>WC.block (WC.loop (WL.gv ho22 (fun s R' B'=>cI prog 0 (A R' B') (aC.at_ 55 0 7)=some (A [(3,.ptr 48 0),(4,.ptr 64 0),(6,.ptr 96 0),(8,.ptr 128 0),(25,rM ae.pd x5),(26,rI (x5.length:Int)),(27,rI s.1)] [(48,.var (ap.rc a0)),(64,.var [rM az.pd a1.aT]),(96,.var [.dH,.dH,.dH]),(128,.var [.ref 704 0,.ref 784 0,.ref 864 0]),(704,.arr 0 66 (s.2.1.map ae.pd)),(784,.arr 0 81 (s.2.2.1.map ak.pd)),(864,.arr 0 113 (s.2.2.2.map av.pd))])) (fun o e R' B'=>e= .exit 1∧cI prog 0 (A R' B') (aC.at_ 55 0 13)=some (A [(6,.ptr 96 0),(8,.ptr 128 0)] [(96,.var [.dH,.dH,.dH]),(128,.var [.ref 704 0,.ref 784 0,.ref 864 0]),(704,.arr 0 66 (o.1.map ae.pd)),(784,.arr 0 81 (o.2.1.map ak.pd)),(864,.arr 0 113 (o.2.2.map av.pd))])) rfl ?_ ?_))
 ·rintro⟨s6,s7,s8,s9⟩ R' B' q13 hI h
  refine gS rfl hI<|sF h (fun h=>?_) fun h=>?_
  ·refine sN<|qS<|cT<|qK<|qS<|qB<|gS rfl rfl<|bE h fun x15 hx15 h=>eG hx15 rfl<|sV (.d (ae.pd x15))<|sB (.ptr 160 0) 160 (.var zZ2)<|sH 160 (.var (ae.rc x15))<|sN<|gS rfl rfl<|sV (.d (ap.pd a0)) ?_
   refine sV (.d (ar.pd a1))<|sV (.d (ae.pd x15))<|bE h fun x16 hx16 h=>cR (.tup [.d (ak.pd x16.1),.d (av.pd x16.2.1),rB x16.2.2]) [] (nB hx16)<|sM rfl<|sV (.d (ak.pd x16.1))<|sV (.d (av.pd x16.2.1))<|sV (rB x16.2.2)<|sB (.ptr 176 0) 176 (.var zZ4)<|sB (.ptr 192 0) 192 (.var zZ3)<|sH 176 (.var (ak.rc x16.1))<|sH 192 (.var (av.rc x16.2.1))<|sA rfl<|sN<|gS rfl rfl ?_
   refine sF h (fun h=>?_) fun h=>?_
   ·refine sN<|cT<|WC.kI rfl rfl<|sV (.ptr 128 0)<|sL rfl<|sV (.d (ae.pd x15))<|sG (.d (.lst ([x15].map ae.pd)))<|bE h fun x18 hx18 h=>aR hx18 (fun _=>rfl) rfl<|sV (.ptr 128 1)<|sL rfl<|sV (.d (ak.pd x16.1))<|sV (.d (.lst ([x16.1].map ak.pd)))<|bE h fun x19 hx19 h=>aR hx19 (fun _=>rfl) rfl ?_
    refine sV (.ptr 128 2)<|sL rfl<|sV (.d (av.pd x16.2.1))<|sG (.d (.lst ([x16.2.1].map av.pd)))<|bE h fun x20 hx20 h=>aR hx20 (fun _=>rfl) rfl<|sV (.ptr 128 0)<|sS 128 (.var [.ref 704 1,.ref 784 0,.ref 864 0])<|sV (.ptr 128 1)<|sS 128 (.var [.ref 704 1,.ref 784 1,.ref 864 0])<|sV (.ptr 128 2)<|sS 128 (.var [.ref 704 1,.ref 784 1,.ref 864 1]) ?_
    refine sN<|sO<|WC.region rfl rfl<|sV (rI (rW (s6+(1:Int))))<|sM rfl<|sN ?_
    cases oI h
    exact⟨rfl,rfl⟩
   refine sN<|cF<|qK<|WC.region rfl rfl<|sV (rI (rW (s6+(1:Int))))<|sM rfl<|sN ?_
   cases oI h
   exact⟨rfl,rfl⟩
  refine sN<|qS<|cF<|qX ?_
  cases oI h
  exact⟨nofun,rfl,rfl⟩
 intro e R' B' he hq
 obtain⟨rfl,hI⟩:=hq
 refine qE<|gS rfl hI<|sV (.agg [.ref 704 0,.ref 784 0,.ref 864 0])<|sS 96 (.var [.ref 704 0,.ref 784 0,.ref 864 0])<|sV (r0)<|sN<|qR ?_
 exact oI h▸qD
theorem pu{a0:aS}{a1:ap}{r:ag×Int}(h:iQ a0 a1=some r):EvP prog aC ext 56 [.d (aS.pd a0),.d (ap.pd a1)] [] (.tup [.d (ag.pd r.1),rI r.2],[]):=by
 refine Ev.body rfl Tryz.func56 rfl (by kernel_rfl)<|gS rfl rfl<|sB (.ptr 32 0) 32 (.var (aS.rc a0))<|sB (.ptr 48 0) 48 (.var (ap.rc a1))<|sB (.ptr 64 0) 64 (.var [r0,r0,r0,r0,r0,r0,r0,.dH,.dH,.dH,r0])<|sV (r0)<|sN<|qS<|gS rfl rfl<|sV (.ptr 32 1)<|sL rfl<|sE (rI (a0.dc.length:Int)) (dT _ _)<|sA rfl<|sN<|qB ?_
 refine gS rfl rfl<|sM rfl<|sF h (fun h=>?_) fun h=>?_
 ·refine sA rfl<|sN<|cT<|gS rfl rfl<|sG (.agg [r0,r0,r0,r0,r0,r0,r0,.dH,.dH,.dH,r0])<|sH 64 (.var [r0,r0,r0,r0,r0,r0,r0,.dH,.dH,.dH,r0])<|sV (rI 24)<|sN<|qR ?_
  cases oI h
  exact qG
 refine sA rfl<|sN<|cF<|gS rfl rfl<|sM rfl<|sF h (fun h=>?_) fun h=>?_
 ·refine sA rfl<|sN<|cT<|gS rfl rfl<|sG (.agg [r0,r0,r0,r0,r0,r0,r0,.dH,.dH,.dH,r0])<|sH 64 (.var [r0,r0,r0,r0,r0,r0,r0,.dH,.dH,.dH,r0])<|sV (rI 8)<|sN<|qR ?_
  cases oI h
  exact qG
 refine sA rfl<|sN<|cF<|qK<|gS rfl rfl<|sV (.ptr 48 0)<|sV (.d (aJ.pd a1.ah))<|sB (.ptr 112 0) 112 (.var [r0,r0,r0,r0,r0,r0,r0,.dH,.dH,r0,r0,r0,r0,r0])<|sH 112 (.var (aJ.rc a1.ah))<|sN<|WC.dG rfl rfl<|sV (.ptr 112 6)<|sV (.ptr 112 6)<|sL rfl<|sV (.ptr 112 6) ?_
 refine sV (.ptr 112 7)<|sL rfl<|bE h fun x3 hx3 h=>cR (.ref 448 0) [(448,.arr 0 3 (x3.map (PD.int .i64)))] (clone_107 hx3)<|sV (.ptr 112 6)<|sV (.ptr 112 8)<|sL rfl<|bE h fun x4 hx4 h=>cR (.ref 512 0) [(512,.arr 0 3 (x4.map (PD.int .i64)))] (clone_107 hx4)<|sV (.agg [rI a1.ah.bi.bn,.ref 448 0,.ref 512 0])<|sB (.ptr 128 0) 128 (.var [r0,.dH,.dH])<|sS 128 (.var [rI a1.ah.bi.bn,.ref 448 0,.ref 512 0]) ?_
 refine sN<|sO<|gS rfl rfl<|sV (.ptr 112 0)<|sV (.d (ai.pd a1.ah.aO))<|sV (.agg [rI a1.ah.bi.bn,.ref 448 0,.ref 512 0])<|sV (.ptr 32 1)<|sL rfl<|sV (.ptr 112 9)<|sL rfl<|sG (.agg (ai.rc a1.ah.aO++[rI a1.ah.bi.bn,.ref 448 0,.ref 512 0,rM ak.pd a0.dc,rI a1.ah.da]))<|sH 64 (.var (ai.rc a1.ah.aO++[rI a1.ah.bi.bn,.ref 448 0,.ref 512 0,rM ak.pd a0.dc,rI a1.ah.da]))<|sV (r0)<|sN<|qR ?_
 cases oI h
 exact qG
theorem nat_From_ev{a0:Int}{r:(List Int)×Int}(h:qk a0=some r):EvP prog aC ext 406 [rI a0] [] (.tup [rL r.1,rI r.2],[]):=by
 refine Ev.body rfl Tryz.func406 rfl (by kernel_rfl)<|gS rfl rfl<|sV .dH<|sV (r0)<|sN<|qS<|gS rfl rfl<|sM rfl<|sF h (fun h=>?_) fun h=>?_
 ·refine sN<|cT<|gS rfl rfl<|sV .dH<|sV (rI 2)<|sN<|qR ?_
  exact oI h▸qD
 refine sN<|cF<|qK<|gS rfl rfl<|sV .dH<|sN<|qS<|bE h fun o10 ho10 h=>WC.block (WC.loop (WL.gv ho10 (fun s R' B'=>cI prog 0 (A R' B') (aC.at_ 406 0 4)=some (A [(0,rI s.1),(4,.ref 240 0)] [(240,.arr 0 3 (s.2.map (PD.int .i64)))])) (fun o e R' B'=>e= .exit 0∧cI prog 0 (A R' B') (aC.at_ 406 0 7)=some (A [(4,.ref 240 0)] [(240,.arr 0 3 (o.map (PD.int .i64)))])) rfl ?_ ?_))
 ·rintro⟨s2,s3⟩ R' B' q5 hI h
  refine qS<|gS rfl hI<|sM rfl<|sF h (fun h=>?_) fun h=>?_
  ·refine sN<|cT<|qK<|qS<|qB<|WC.region rfl rfl<|sM rfl<|sM rfl<|bE h fun x7 hx7 h=>WO.remG hx7 rfl rfl rfl rfl rfl rfl<|sV (.d (.lst ([x7].map (PD.int .i64))))<|bE h fun x8 hx8 h=>aR hx8 (fun _=>rfl) rfl<|sA rfl<|sN ?_
   refine WC.region rfl rfl<|sM rfl<|sV (rI (jS .i64 s2 (30:Int)))<|sA rfl<|sN ?_
   cases oI h
   exact⟨rfl,rfl⟩
  refine sN<|cF<|qX ?_
  cases oI h
  exact⟨nofun,rfl,rfl⟩
 intro e R' B' he hq
 obtain⟨rfl,hI⟩:=hq
 refine qE<|gS rfl hI<|sM rfl<|sA rfl<|sV (r0)<|sN<|qR ?_
 exact oI h▸qD
theorem mO{a0:Int}{r:Bool}(h:mA a0=some r):EvP prog aC ext 388 [rI a0] [] (rB r,[]):=by
 refine Ev.body rfl Tryz.func388 rfl (by kernel_rfl)<|gS rfl rfl<|sU<|sN<|gS rfl rfl<|sM rfl<|sF h (fun h=>?_) fun h=>?_
 ·refine sM rfl<|sK<|sK<|sT<|sA rfl<|sN<|qR ?_
  exact oI h▸qD
 refine sM rfl<|sM rfl<|sV (rB (decide (a0>=(1073741824:Int))))<|sV (rB (decide (a0>=(1073741824:Int))))<|sA rfl<|sN<|qR ?_
 exact oI h▸qD
theorem lA{a0:(List Int)}{r:Int}(h:ff a0=some r):EvP prog aC ext 411 [rL a0,.d (.raw (.func (.func 388) #[] #[]))] [] (rI r,[]):=by
 refine Ev.body rfl Tryz.func411 rfl (by kernel_rfl)<|gS rfl rfl<|sV (r0)<|sN<|qS<|gS rfl rfl<|sM rfl<|sE (rI (a0.length:Int)) (dT _ _)<|sV (r0)<|sN<|bE h fun o8 ho8 h=>WC.block (WC.loop (WL.gv ho8 (fun s R' B'=>cI prog 0 (A R' B') (aC.at_ 411 0 2)=some (A [(0,rL a0),(1,.d (.raw (.func (.func 388) #[] #[]))),(7,rI (a0.length:Int)),(8,rI s)] [])) (fun o e R' B'=>match o with| .inl y=>e= .exit 0∧cI prog 0 (A R' B') (aC.at_ 411 0 7)=some (A [] [])| .inr r=>e= .ret∧finish prog (aC.own 411) Tryz.f411 0 (A R' B')=some (rI r,[])) rfl ?_ ?_))
 ·rintro s1 R' B' q2 hI h
  refine gS rfl hI<|sF h (fun h=>?_) fun h=>?_
  ·refine sN<|qS<|cT<|qK<|qS<|qB<|gS rfl rfl<|sM rfl<|sA rfl<|sN<|gS rfl rfl<|sM rfl<|sM rfl<|sM rfl<|bE h fun x4 hx4 h=>?_
   refine eG hx4 rfl<|sC rfl<|bE h fun x5 hx5 h=>kB h (fun hb6 h=>?_) (fun hb6 h=>?_)
   ·refine WO.qw (v:=rB true) (u:=[]) rfl rfl (fun _=>rfl) rfl rfl rfl rfl rfl (mO hx5) rfl rfl (congrArg (fun b=>RV.d (.bool b)) hb6) rfl<|sN<|cT<|gS rfl rfl<|sM rfl<|sA rfl<|sN<|qR ?_
    cases oI h
    exact⟨nofun,rfl,rfl⟩
   refine WO.qw (v:=rB false) (u:=[]) rfl rfl (fun _=>rfl) rfl rfl rfl rfl rfl (mO hx5) rfl rfl (congrArg (fun b=>RV.d (.bool b)) hb6) rfl<|sN<|cF<|qK<|WC.region rfl rfl<|sV (rI (rW (s1+(1:Int))))<|sM rfl<|sN ?_
   cases oI h
   exact⟨rfl,rfl⟩
  refine sN<|qS<|cF<|qX ?_
  cases oI h
  exact⟨nofun,rfl,rfl⟩
 intro e R' B' he hq
 rcases o8 with y9|r10
 ·obtain⟨rfl,hI⟩:=hq
  refine qE<|gS rfl hI<|sV (rI (-1))<|sN<|qR ?_
  exact oI h▸qD
 obtain⟨rfl,hf⟩:=hq
 cases oI h
 exact hf
theorem fH{a0:(List Int)}{r:Bool}(h:cu a0=some r):EvP prog aC ext 387 [rL a0,.d (.raw (.func (.func 388) #[] #[]))] [] (rB r,[]):=by
 refine Ev.body rfl Tryz.func387 rfl (by kernel_rfl)<|gS rfl rfl<|sU<|sN<|gS rfl rfl<|sM rfl<|sM rfl<|bE h fun x1 hx1 h=>cD (lA hx1)<|sV (rB (decide (x1>=(0:Int))))<|sA rfl<|sN<|qR ?_
 exact oI h▸qD
theorem gH{a0:(List Int)}{r:Bool}(h:jJ a0=some r):EvP prog aC ext 338 [rL a0] [] (rB r,[]):=by
 refine Ev.body rfl Tryz.func338 rfl (by kernel_rfl)<|gS rfl rfl<|sU<|sN<|qS<|gS rfl rfl<|sM rfl<|sE (rI (a0.length:Int)) (dT _ _)<|sF h (fun h=>?_) fun h=>?_
 ·refine sM rfl<|k3<|k3<|k3<|k3<|sT<|sN ?_
  refine cT<|gS rfl rfl<|sU<|sN<|qR ?_
  exact oI h▸qD
 refine sM rfl<|sM rfl<|sE (rI (a0.length:Int)) (dT _ _)<|sF h (fun h=>?_) fun h=>?_
 ·refine sM rfl<|sM rfl<|sM rfl<|sE (rI (a0.length:Int)) (dT _ _)<|sV (rI (rW ((a0.length:Int)-(1:Int))))<|bE h fun x3 hx3 h=>eG hx3 rfl<|sC rfl<|sV (rB (x3==(0:Int)))<|sV (rB (x3==(0:Int)))<|sF h (fun h=>?_) fun h=>?_
  ·refine sN<|cT<|gS rfl rfl<|sU<|sN<|qR ?_
   exact oI h▸qD
  refine sN<|cF<|qK<|gS rfl rfl<|sM rfl<|bE h fun x5 hx5 h=>cD (fH hx5)<|sV (rB (!x5))<|sA rfl<|sN<|qR ?_
  exact oI h▸qD
 refine sM rfl<|k3<|k3<|sK<|sU<|sU<|sN<|cF<|qK<|gS rfl rfl<|sM rfl ?_
 refine bE h fun x6 hx6 h=>cD (fH hx6)<|sV (rB (!x6))<|sA rfl<|sN<|qR ?_
 exact oI h▸qD
theorem nat_both_ev{a0:(List Int)}{a1:(List Int)}{r:Bool}(h:oN a0 a1=some r):EvP prog aC ext 420 [rL a0,rL a1] [] (rB r,[]):=by
 refine Ev.body rfl Tryz.func420 rfl (by kernel_rfl)<|gS rfl rfl<|sU<|sN<|gS rfl rfl<|sM rfl<|bE h fun x1 hx1 h=>kB h (fun hb2 h=>?_) (fun hb2 h=>?_)
 ·refine WO.qw (v:=rB true) (u:=[]) rfl rfl (fun _=>rfl) rfl rfl rfl rfl rfl (gH hx1) rfl rfl (congrArg (fun b=>RV.d (.bool b)) hb2) rfl<|sM rfl<|sM rfl<|bE h fun x3 hx3 h=>cD (gH hx3)<|sV (rB x3)<|sA rfl<|sN<|qR ?_
  exact oI h▸qD
 refine WO.qw (v:=rB false) (u:=[]) rfl rfl (fun _=>rfl) rfl rfl rfl rfl rfl (gH hx1) rfl rfl (congrArg (fun b=>RV.d (.bool b)) hb2) rfl<|sM rfl<|sK<|sK<|sU<|sA rfl<|sN<|qR ?_
 exact oI h▸qD
theorem nT{a0:(List Int)}{a1:Int}{r:Int}(h:mi a0 a1=some r):EvP prog aC ext 410 [rL a0,rI a1] [] (rI r,[]):=by
 refine Ev.body rfl Tryz.func410 rfl (by kernel_rfl)<|gS rfl rfl<|sV (r0)<|sN<|qS<|gS rfl rfl<|sM rfl<|sM rfl<|sE (rI (a0.length:Int)) (dT _ _)<|sF h (fun h=>?_) fun h=>?_
 ·refine sN<|cT<|gS rfl rfl<|sV (r0)<|sN<|qR ?_
  exact oI h▸qD
 refine sN<|cF<|qK<|gS rfl rfl<|sM rfl<|sM rfl<|bE h fun x2 hx2 h=>eG hx2 rfl<|sC rfl<|sA rfl<|sN<|qR ?_
 exact oI h▸qD
theorem nat_trim_ev{a0:(List Int)}{r:(List Int)}(h:oO a0=some r):EvP prog aC ext 409 [rL a0] [] (rL r,[]):=by
 refine Ev.body rfl Tryz.func409 rfl (by kernel_rfl)<|gS rfl rfl<|sV .dH<|sN<|qS<|bE h fun o9 ho9 h=>WC.block (WC.loop (WL.gv ho9 (fun s R' B'=>cI prog 0 (A R' B') (aC.at_ 409 0 1)=some (A [(0,rL s)] [])) (fun o e R' B'=>e= .exit 0∧cI prog 0 (A R' B') (aC.at_ 409 0 3)=some (A [(0,rL o)] [])) rfl ?_ ?_))
 ·rintro s1 R' B' q3 hI h
  refine qS<|gS rfl hI<|sM rfl<|sE (rI (s1.length:Int)) (dT _ _)<|sF h (fun h=>?_) fun h=>?_
  ·refine sM rfl<|sM rfl<|sM rfl<|sE (rI (s1.length:Int)) (dT _ _)<|sV (rI (rW ((s1.length:Int)-(1:Int))))<|bE h fun x5 hx5 h=>eG hx5 rfl<|sC rfl<|sV (rB (x5==(0:Int)))<|sF h (fun h=>?_) fun h=>?_
   ·refine sN<|cT<|qK<|qB<|WC.region rfl rfl<|sM rfl<|sM rfl<|sE (rI (s1.length:Int)) (dT _ _)<|sV (rI (rW ((s1.length:Int)-(1:Int))))<|bE h fun x7 hx7 h=>WO.cutL (sz:=1) (g:=(PD.int .i64)) hx7 (fun _=>rfl) rfl rfl rfl rfl rfl rfl rfl rfl rfl rfl rfl<|sA rfl<|sN ?_
    cases oI h
    exact⟨rfl,rfl⟩
   refine sN<|cF<|qX ?_
   cases oI h
   exact⟨nofun,rfl,rfl⟩
  refine sM rfl<|k3<|k3<|sK<|sU<|sN<|cF<|qX ?_
  cases oI h
  exact⟨nofun,rfl,rfl⟩
 intro e R' B' he hq
 obtain⟨rfl,hI⟩:=hq
 refine qE<|gS rfl hI<|sM rfl<|sA rfl<|sN<|qR ?_
 exact oI h▸qD
theorem lI{a0:(List Int)}{a1:(List Int)}{r:(List Int)}(h:iR a0 a1=some r):EvP prog aC ext 386 [rL a0,rL a1] [] (rL r,[]):=by
 refine Ev.body rfl Tryz.func386 rfl (by kernel_rfl)<|gS rfl rfl<|sV .dH<|sN<|gS rfl rfl<|sM rfl<|sE (rI (a0.length:Int)) (dT _ _)<|sM rfl<|sE (rI (a1.length:Int)) (dT _ _)<|sV (rI (rW ((a0.length:Int)+(a1.length:Int))))<|bE h fun x1 hx1 h=>WO.mkS (g:=(PD.int .i64)) hx1 rfl rfl rfl rfl rfl rfl rfl rfl rfl rfl rfl<|sA rfl<|sN<|qS ?_
 refine gS rfl rfl<|sM rfl<|sE (rI (a0.length:Int)) (dT _ _)<|sV (r0)<|sN<|bE h fun o27 ho27 h=>WC.block (WC.loop (WL.gv ho27 (fun s R' B'=>cI prog 0 (A R' B') (aC.at_ 386 0 3)=some (A [(1,rL a1),(5,.ref 240 0),(16,rL a0),(17,rI (a0.length:Int)),(18,rI s.1)] [(240,.arr 0 3 (s.2.map (PD.int .i64)))])) (fun o e R' B'=>e= .exit 0∧cI prog 0 (A R' B') (aC.at_ 386 0 15)=some (A [(5,.ref 240 0)] [(240,.arr 0 3 (o.map (PD.int .i64)))])) rfl ?_ ?_))
 ·rintro⟨s2,s3⟩ R' B' q5 hI h
  refine gS rfl hI<|sF h (fun h=>?_) fun h=>?_
  ·refine sN<|qS<|cT<|qK<|qS<|qB<|gS rfl rfl<|sM rfl<|bE h fun x7 hx7 h=>eG hx7 rfl<|sC rfl<|sA rfl<|sA rfl<|sN<|gS rfl rfl ?_
   refine sV (r0)<|sN<|gS rfl rfl<|sM rfl<|sE (rI (a1.length:Int)) (dT _ _)<|sV (rI (rW ((a1.length:Int)+(1:Int))))<|sV (r0)<|sN<|bE h fun o25 ho25 h=>WC.block (WC.loop (WL.gv ho25 (fun s R' B'=>cI prog 0 (A R' B') (aC.at_ 386 0 7)=some (A [(1,rL a1),(5,.ref 240 0),(6,rI s2),(7,rI x7),(8,rI s.1),(16,rL a0),(17,rI (a0.length:Int)),(18,rI s2),(25,rI (rW ((a1.length:Int)+(1:Int)))),(26,rI s.2.1)] [(240,.arr 0 3 (s.2.2.map (PD.int .i64)))])) (fun o e R' B'=>e= .exit 2∧cI prog 0 (A R' B') (aC.at_ 386 0 14)=some (A [(1,rL a1),(5,.ref 240 0),(16,rL a0),(17,rI (a0.length:Int)),(18,rI o.1)] [(240,.arr 0 3 (o.2.map (PD.int .i64)))])) rfl ?_ ?_))
   ·rintro⟨s8,s9,s10⟩ R' B' q13 hI h
    refine gS rfl hI<|sF h (fun h=>?_) fun h=>?_
    ·refine sN<|qS<|cT<|qK<|qS<|qB<|gS rfl rfl<|sM rfl<|sA rfl<|sN<|gS rfl rfl<|sM rfl<|sM rfl<|sV (rI (rW (s2+s9)))<|sM rfl ?_
     refine WO.ud rfl rfl rfl rfl rfl rfl rfl rfl rfl<|sF h (fun h=>?_) fun h=>?_
     ·refine sN<|cT<|WC.dG rfl rfl<|sM rfl<|sM rfl<|sM rfl<|sM rfl<|sV (rI (rW (s2+s9)))<|bE h fun x17 hx17 h=>WO.qy hx17 rfl rfl rfl rfl rfl rfl rfl rfl<|bE h fun x18 hx18 h=>WO.pO hx18 rfl rfl rfl rfl rfl rfl<|sM rfl<|sM rfl<|sM rfl ?_
      refine bE h fun x19 hx19 h=>cD (nT hx19)<|sV (rI (rW (x7*x19)))<|sV (rI (rW (x18+(rW (x7*x19)))))<|sV (rI (rW (s8+(rW (x18+(rW (x7*x19)))))))<|sA rfl ?_
      refine sN<|sO<|gS rfl rfl<|sM rfl<|sM rfl<|sM rfl<|sV (rI (rW (s2+s9)))<|sM rfl<|bE h fun x20 hx20 h=>WO.remG hx20 rfl rfl rfl rfl rfl rfl<|bE h fun x22 hx22 h=>WO.qy hx22 rfl rfl rfl rfl rfl rfl rfl rfl<|bE h fun x23 hx23 h=>WO.rD (g:=(PD.int .i64)) (sz:=1) (p:= .int .i64 x20) hx23 (fun _=>rfl) (fun _=>rfl) rfl rfl rfl rfl rfl rfl rfl rfl rfl<|sN<|WC.region rfl rfl ?_
      refine sM rfl<|sV (rI (jS .i64 (rW (s8+(rW (x18+(rW (x7*x19)))))) (30:Int)))<|sA rfl<|sN<|WC.region rfl rfl<|sV (rI (rW (s9+(1:Int))))<|sM rfl<|sN ?_
      cases oI h
      exact⟨rfl,rfl⟩
     refine sN<|cF<|qK<|WC.region rfl rfl<|sV (rI (rW (s9+(1:Int))))<|sM rfl<|sN ?_
     cases oI h
     exact⟨rfl,rfl⟩
    refine sN<|qS<|cF<|qX ?_
    cases oI h
    exact⟨nofun,rfl,rfl⟩
   intro e R' B' he hq
   obtain⟨rfl,hI⟩:=hq
   refine qE<|WC.region hI rfl<|sV (rI (rW (o25.1+(1:Int))))<|sM rfl<|sN ?_
   cases oI h
   exact⟨rfl,rfl⟩
  refine sN<|qS<|cF<|qX ?_
  cases oI h
  exact⟨nofun,rfl,rfl⟩
 intro e R' B' he hq
 obtain⟨rfl,hI⟩:=hq
 refine qE<|gS rfl hI<|sM rfl<|bE h fun x28 hx28 h=>cR (rL x28) [(240,.dead)] (nat_trim_ev hx28)<|sA rfl<|sN<|qR ?_
 exact oI h▸qD
theorem kr{a0:(List Int)}{r:(List Int)×Int}(h:iw a0=some r):EvP prog aC ext 385 [rL a0] [] (.tup [rL r.1,rI r.2],[]):=by
 refine Ev.body rfl Tryz.func385 rfl (by kernel_rfl)<|gS rfl rfl<|sV .dH<|sV (r0)<|sN<|qS<|gS rfl rfl<|sM rfl<|bE h fun x1 hx1 h=>cD (nat_trim_ev hx1)<|sA rfl<|sN<|gS rfl rfl<|sM rfl<|sE (rI (x1.length:Int)) (dT _ _) ?_
 refine sF h (fun h=>?_) fun h=>?_
 ·refine sN<|cT<|gS rfl rfl<|sV .dH<|sV (rI 8)<|sN<|qR ?_
  exact oI h▸qD
 refine sN<|cF<|qK<|gS rfl rfl<|sM rfl<|sA rfl<|sV (r0)<|sN<|qR ?_
 exact oI h▸qD
theorem nat_Mul_ev{a0:(List Int)}{a1:(List Int)}{r:(List Int)×Int}(h:nat_Mul a0 a1=some r):EvP prog aC ext 407 [rL a0,rL a1] [] (.tup [rL r.1,rI r.2],[]):=by
 refine Ev.body rfl Tryz.func407 rfl (by kernel_rfl)<|gS rfl rfl<|sV .dH<|sV (r0)<|sN<|qS<|gS rfl rfl<|sM rfl<|sM rfl<|bE h fun x1 hx1 h=>cD (nat_both_ev hx1)<|sF h (fun h=>?_) fun h=>?_
 ·refine sN<|cT<|gS rfl rfl<|sV .dH<|sV (rI 1)<|sN<|qR ?_
  exact oI h▸qD
 refine sN<|cF<|qK<|gS rfl rfl<|sM rfl<|sM rfl<|bE h fun x3 hx3 h=>cD (lI hx3)<|bE h fun x4 hx4 h=>cR (.tup [rL x4.1,rI x4.2]) [] (kr hx4)<|sV (rL x4.1)<|sV (rI x4.2)<|sA rfl<|sA rfl<|sN ?_
 refine qR ?_
 exact oI h▸qD
theorem dR{a0:Int}{r:(List Int)}(h:df a0=some r):EvP prog aC ext 381 [rI a0] [] (rL r,[]):=by
 refine Ev.body rfl Tryz.func381 rfl (by kernel_rfl)<|gS rfl rfl<|sV .dH<|sN<|gS rfl rfl<|sM rfl<|sM rfl<|sV (rI (rW (0-a0)))<|sV (rI (if(rW (0-a0))>a0 then(rW (0-a0))else a0))<|bE h fun x1 hx1 h=>cR (.tup [rL x1.1,rI x1.2]) [] (nat_From_ev hx1)<|sM rfl<|sV (rL x1.1)<|sV (rI x1.2)<|sA rfl ?_
 refine sA rfl<|sN<|gS rfl rfl<|sM rfl<|sM rfl<|bE h fun x2 hx2 h=>cR (.tup [rL x2.1,rI x2.2]) [] (nat_Mul_ev hx2)<|sM rfl<|sV (rL x2.1)<|sV (rI x2.2)<|sA rfl<|sA rfl<|sN<|gS rfl rfl<|sM rfl ?_
 refine sA rfl<|sN<|qR ?_
 exact oI h▸qD
theorem nat_Add_ev{a0:(List Int)}{a1:(List Int)}{r:(List Int)×Int}(h:nat_Add a0 a1=some r):EvP prog aC ext 408 [rL a0,rL a1] [] (.tup [rL r.1,rI r.2],[]):=by
 refine Ev.body rfl Tryz.func408 rfl (by kernel_rfl)<|gS rfl rfl<|sV .dH<|sV (r0)<|sN<|qS<|gS rfl rfl<|sM rfl<|sM rfl<|bE h fun x1 hx1 h=>cD (nat_both_ev hx1)<|sF h (fun h=>?_) fun h=>?_
 ·refine sN<|cT<|gS rfl rfl<|sV .dH<|sV (rI 1)<|sN<|qR ?_
  exact oI h▸qD
 refine sN<|cF<|qK<|gS rfl rfl<|sV .dH<|sN<|gS rfl rfl<|sV (r0)<|sN<|qS<|gS rfl rfl<|sM rfl<|sE (rI (a0.length:Int)) (dT _ _)<|sM rfl<|sE (rI (a1.length:Int)) (dT _ _) ?_
 refine sV (rI (if(a1.length:Int)>(a0.length:Int)then(a1.length:Int)else(a0.length:Int)))<|sV (rI (rW ((if(a1.length:Int)>(a0.length:Int)then(a1.length:Int)else(a0.length:Int))+(1:Int))))<|sV (r0)<|sN<|bE h fun o14 ho14 h=>WC.block (WC.loop (WL.gv ho14 (fun s R' B'=>cI prog 0 (A R' B') (aC.at_ 408 0 6)=some (A [(0,rL a0),(1,rL a1),(6,.ref 560 0),(7,rI s.1),(18,rI (rW ((if(a1.length:Int)>(a0.length:Int)then(a1.length:Int)else(a0.length:Int))+(1:Int)))),(19,rI s.2.1)] [(560,.arr 0 3 (s.2.2.map (PD.int .i64)))])) (fun o e R' B'=>e= .exit 0∧cI prog 0 (A R' B') (aC.at_ 408 0 12)=some (A [(6,.ref 560 0)] [(560,.arr 0 3 (o.map (PD.int .i64)))])) rfl ?_ ?_))
 ·rintro⟨s3,s4,s5⟩ R' B' q7 hI h
  refine gS rfl hI<|sF h (fun h=>?_) fun h=>?_
  ·refine sN<|qS<|cT<|qK<|qS<|qB<|gS rfl rfl<|sM rfl<|sA rfl<|sN<|gS rfl rfl<|sM rfl<|sM rfl<|sM rfl<|bE h fun x9 hx9 h=>?_
   refine cD (nT hx9)<|sM rfl<|sM rfl<|bE h fun x10 hx10 h=>cD (nT hx10)<|sV (rI (rW (x9+x10)))<|sV (rI (rW (s3+(rW (x9+x10)))))<|sA rfl<|sN<|gS rfl rfl<|sM rfl<|sM rfl<|bE h fun x11 hx11 h=>WO.remG hx11 rfl rfl rfl rfl rfl rfl<|sV (.d (.lst ([x11].map (PD.int .i64)))) ?_
   refine bE h fun x12 hx12 h=>aR hx12 (fun _=>rfl) rfl<|sA rfl<|sN<|WC.region rfl rfl<|sM rfl<|sV (rI (jS .i64 (rW (s3+(rW (x9+x10)))) (30:Int)))<|sA rfl<|sN<|WC.region rfl rfl<|sV (rI (rW (s4+(1:Int))))<|sM rfl<|sN ?_
   cases oI h
   exact⟨rfl,rfl⟩
  refine sN<|qS<|cF<|qX ?_
  cases oI h
  exact⟨nofun,rfl,rfl⟩
 intro e R' B' he hq
 obtain⟨rfl,hI⟩:=hq
 refine qE<|gS rfl hI<|sM rfl<|bE h fun x15 hx15 h=>cR (.tup [rL x15.1,rI x15.2]) [(560,.dead)] (kr hx15)<|sV (rL x15.1)<|sV (rI x15.2)<|sA rfl<|sA rfl<|sN<|qR ?_
 exact oI h▸qD
theorem lY{a0:aW}{a1:Int}{a2:Int}{r:(List Int)}(h:gh a0 a1 a2=some r):EvP prog aC ext 382 [.d (aW.pd a0),rI a1,rI a2] [] (rL r,[]):=by
 refine Ev.body rfl Tryz.func382 rfl (by kernel_rfl)<|gS rfl rfl<|sB (.ptr 48 0) 48 (.var [rI a0.a0,rI a0.a1,rI a0.a2])<|sV .dH<|sN<|WC.dG rfl rfl<|sV (.ptr 48 0)<|sL rfl<|sM rfl<|sV (rI (rW (a0.a0*a2)))<|sM rfl<|sV (rI (rW ((rW (a0.a0*a2))*a2)))<|sV (.ptr 48 2)<|sL rfl<|sM rfl ?_
 refine sV (rI (rW (a0.a2*a1)))<|sM rfl<|sV (rI (rW ((rW (a0.a2*a1))*a1)))<|sV (rI (rW ((rW ((rW (a0.a0*a2))*a2))-(rW ((rW (a0.a2*a1))*a1)))))<|bE h fun x1 hx1 h=>cD (dR hx1)<|sV (.ptr 48 1)<|sL rfl<|sM rfl<|sV (rI (rW (a0.a1*a1)))<|sM rfl<|sV (rI (rW ((rW (a0.a1*a1))*a2)))<|bE h fun x2 hx2 h=>cD (dR hx2)<|bE h fun x3 hx3 h=>?_
 refine cR (.tup [rL x3.1,rI x3.2]) [] (nat_Add_ev hx3)<|sM rfl<|sV (rL x3.1)<|sV (rI x3.2)<|sA rfl<|sA rfl ?_
 refine sN<|sO<|gS rfl rfl<|sM rfl<|sA rfl<|sN<|qR ?_
 exact oI h▸qD
theorem response_gain_ev{a0:aH}{a1:Int}{a2:Int}{r:aM×Bool}(h:lm a0 a1 a2=some r):EvP prog aC ext 336 [.d (aH.pd a0),rI a1,rI a2] [] (.tup [.d (aM.pd r.1),rB r.2],[]):=by
 refine Ev.body rfl Tryz.func336 rfl (by kernel_rfl)<|gS rfl rfl<|sB (.ptr 48 0) 48 (.var (aH.rc a0))<|sB (.ptr 96 0) 96 (.var [.dH,.dH])<|sU<|sN<|qS<|gS rfl rfl<|sV (.ptr 48 0)<|sL rfl<|sN<|qB<|gS rfl rfl<|sF h (fun h=>?_) fun h=>?_
 ·refine sA rfl<|sN<|cT<|WC.dG rfl rfl<|sV (.ptr 48 1)<|sV (.ptr 48 1)<|sL rfl<|bE h fun x2 hx2 h=>cD (dR hx2)<|sV (.ptr 48 4)<|sV (.ptr 48 4)<|sL rfl<|bE h fun x3 hx3 h=>cD (dR hx3)<|sV (.d (.agg [.lst (x2.map (PD.int .i64)),.lst (x3.map (PD.int .i64))])) ?_
  refine sS 96 (.var [rL x2,rL x3])<|sT ?_
  refine sN<|sO<|qR ?_
  cases oI h
  exact qG
 refine sA rfl<|sN<|cF<|gS rfl rfl<|sF h (fun h=>?_) fun h=>?_
 ·refine sA rfl<|sN<|cT<|WC.dG rfl rfl<|sV (.ptr 48 1)<|sV (.d (aW.pd a0.bI))<|sM rfl<|sM rfl<|bE h fun x5 hx5 h=>cD (lY hx5)<|sV (.ptr 48 4)<|sV (.d (aW.pd a0.bw))<|sM rfl<|sM rfl<|bE h fun x6 hx6 h=>?_
  refine cD (lY hx6)<|sV (.d (.agg [.lst (x5.map (PD.int .i64)),.lst (x6.map (PD.int .i64))]))<|sB (.ptr 128 0) 128 (.var [.dH,.dH])<|sS 128 (.var [rL x5,rL x6]) ?_
  refine sN<|sO<|WC.dG rfl rfl<|sV (.d (.agg [.lst (x5.map (PD.int .i64)),.lst (x6.map (PD.int .i64))]))<|sV (.ptr 128 1)<|sL rfl<|sE (rI (x6.length:Int)) (dT _ _)<|sV (rB (decide ((x6.length:Int)>(0:Int))))<|sS 96 (.var [rL x5,rL x6])<|sA rfl ?_
  refine sN<|sO<|qR ?_
  cases oI h
  exact qG
 refine sA rfl<|sN<|cF<|qK<|WC.dG rfl rfl<|sV (.ptr 48 7)<|sL rfl<|bE h fun x7 hx7 h=>cD (js hx7)<|bE h fun x8 hx8 h=>cD (dR hx8)<|sV (.ptr 48 9)<|sL rfl<|bE h fun x9 hx9 h=>WO.shlG hx9 rfl rfl rfl rfl rfl ?_
 refine bE h fun x10 hx10 h=>cD (dR hx10)<|sV (.d (.agg [.lst (x8.map (PD.int .i64)),.lst (x10.map (PD.int .i64))]))<|sS 96 (.var [rL x8,rL x10])<|sT ?_
 refine sN<|sO<|qR ?_
 cases oI h
 exact qG
theorem lw{a0:aM}{r:Bool}(h:fF a0=some r):EvP prog aC ext 384 [.d (aM.pd a0)] [] (rB r,[]):=by
 refine Ev.body rfl Tryz.func384 rfl (by kernel_rfl)<|gS rfl rfl<|sB (.ptr 16 0) 16 (.var (aM.rc a0))<|sU<|sN<|gS rfl rfl<|sV (.ptr 16 0)<|sL rfl<|bE h fun x1 hx1 h=>kB h (fun hb2 h=>?_) (fun hb2 h=>?_)
 ·refine WO.qw (v:=rB true) (u:=[]) rfl rfl (fun _=>rfl) rfl rfl rfl rfl rfl (gH hx1) rfl rfl (congrArg (fun b=>RV.d (.bool b)) hb2) rfl<|sM rfl<|sV (.ptr 16 1)<|sL rfl<|bE h fun x3 hx3 h=>cD (gH hx3)<|sF h (fun h=>?_) fun h=>?_
  ·refine sM rfl<|sV (.ptr 16 1)<|sL rfl<|sE (rI (a0.bw.length:Int)) (dT _ _)<|sV (rB (decide ((a0.bw.length:Int)>(0:Int))))<|sV (rB (decide ((a0.bw.length:Int)>(0:Int))))<|sA rfl<|sN<|qR ?_
   exact oI h▸qD
  refine sM rfl<|k3<|sK<|sU<|sA rfl<|sN<|qR ?_
  exact oI h▸qD
 refine WO.qw (v:=rB false) (u:=[]) rfl rfl (fun _=>rfl) rfl rfl rfl rfl rfl (gH hx1) rfl rfl (congrArg (fun b=>RV.d (.bool b)) hb2) rfl<|sM rfl<|k3<|sU<|sM rfl<|k3<|sK<|sU<|sA rfl<|sN<|qR ?_
 exact oI h▸qD
theorem nat_Times_ev{a0:aM}{a1:aM}{r:aM×Int}(h:pb a0 a1=some r):EvP prog aC ext 337 [.d (aM.pd a0),.d (aM.pd a1)] [] (.tup [.d (aM.pd r.1),rI r.2],[]):=by
 refine Ev.body rfl Tryz.func337 rfl (by kernel_rfl)<|gS rfl rfl<|sB (.ptr 32 0) 32 (.var (aM.rc a0))<|sB (.ptr 48 0) 48 (.var (aM.rc a1))<|sB (.ptr 64 0) 64 (.var [.dH,.dH])<|sV (r0)<|sN<|qS<|gS rfl rfl<|sV (.d (aM.pd a0))<|bE h fun x1 hx1 h=>cD (lw hx1)<|sF h (fun h=>?_) fun h=>?_
 ·refine sM rfl<|k3<|sT<|sN<|cT<|gS rfl rfl<|sV (.agg [.dH,.dH])<|sS 64 (.var [.dH,.dH])<|sV (rI 1)<|sN<|qR ?_
  exact oI h▸qD
 refine sM rfl<|sV (.d (aM.pd a1))<|bE h fun x3 hx3 h=>cD (lw hx3)<|sV (rB (!x3))<|sF h (fun h=>?_) fun h=>?_
 ·refine sN<|cT<|gS rfl rfl<|sV (.agg [.dH,.dH])<|sS 64 (.var [.dH,.dH])<|sV (rI 1)<|sN<|qR ?_
  exact oI h▸qD
 refine sN<|cF<|qK<|gS rfl rfl<|sV (.ptr 32 0)<|sL rfl<|sV (.ptr 48 0)<|sL rfl<|bE h fun x5 hx5 h=>cD (lI hx5)<|bE h fun x6 hx6 h=>cR (.tup [rL x6.1,rI x6.2]) [] (kr hx6)<|sM rfl<|sV (rL x6.1)<|sV (rI x6.2) ?_
 refine sA rfl<|sA rfl<|sN<|gS rfl rfl<|sV (.ptr 32 1)<|sL rfl<|sV (.ptr 48 1)<|sL rfl<|bE h fun x7 hx7 h=>cD (lI hx7)<|bE h fun x8 hx8 h=>cR (.tup [rL x8.1,rI x8.2]) [] (kr hx8)<|sM rfl<|sV (rL x8.1)<|sV (rI x8.2) ?_
 refine sA rfl<|sA rfl<|sN<|qS<|gS rfl rfl<|sM rfl<|sF h (fun h=>?_) fun h=>?_
 ·refine sM rfl<|sK<|sK<|sT<|sN<|cT<|gS rfl rfl<|sV (.agg [.dH,.dH])<|sS 64 (.var [.dH,.dH])<|sV (rI 8)<|sN<|qR ?_
  exact oI h▸qD
 refine sM rfl<|sM rfl<|sV (rB (x8.2 != (0:Int)))<|sF h (fun h=>?_) fun h=>?_
 ·refine sN<|cT<|gS rfl rfl<|sV (.agg [.dH,.dH])<|sS 64 (.var [.dH,.dH])<|sV (rI 8)<|sN<|qR ?_
  exact oI h▸qD
 refine sN<|cF<|qK<|gS rfl rfl<|sM rfl<|sM rfl<|sV (.d (.agg [.lst (x6.1.map (PD.int .i64)),.lst (x8.1.map (PD.int .i64))]))<|sS 64 (.var [rL x6.1,rL x8.1])<|sV (r0)<|sN<|qR ?_
 exact oI h▸qD
theorem response_Gain_ev{a0:aP}{a1:Int}{a2:Int}{r:aM×Int}(h:lk a0 a1 a2=some r):EvP prog aC ext 273 [.d (aP.pd a0),rI a1,rI a2] [] (.tup [.d (aM.pd r.1),rI r.2],[]):=by
 refine Ev.body rfl Tryz.func273 rfl (by kernel_rfl)<|gS rfl rfl<|sB (.ptr 48 0) 48 (.var [rM aH.pd a0.bG])<|sB (.ptr 96 0) 96 (.var [.dH,.dH])<|sV (r0)<|sN<|qS<|gS rfl rfl<|sV (.d (aP.pd a0))<|bE h fun x1 hx1 h=>cD (mS hx1)<|sF h (fun h=>?_) fun h=>?_
 ·refine sN<|cT<|gS rfl rfl<|sV (.agg [.dH,.dH])<|sS 96 (.var [.dH,.dH])<|sV (rI 1)<|sN<|qR ?_
  exact oI h▸qD
 refine sN<|cF<|qK<|qS<|gS rfl rfl<|sM rfl<|bE h fun x3 hx3 h=>cD (ce hx3)<|sF h (fun h=>?_) fun h=>?_
 ·refine sM rfl<|k3<|sT<|sN<|cT<|gS rfl rfl<|sV (.agg [.dH,.dH])<|sS 96 (.var [.dH,.dH])<|sV (rI 2)<|sN<|qR ?_
  exact oI h▸qD
 refine sM rfl<|sM rfl<|bE h fun x5 hx5 h=>cD (ce hx5)<|sV (rB (!x5))<|sF h (fun h=>?_) fun h=>?_
 ·refine sN<|cT<|gS rfl rfl<|sV (.agg [.dH,.dH])<|sS 96 (.var [.dH,.dH])<|sV (rI 2)<|sN<|qR ?_
  exact oI h▸qD
 refine sN<|cF<|qK<|gS rfl rfl<|sV (.d (.lst ([1].map (PD.int .i64))))<|sV (.d (.lst ([1].map (PD.int .i64))))<|sV (.d (.agg [.lst ([1].map (PD.int .i64)),.lst ([1].map (PD.int .i64))]))<|sB (.ptr 128 0) 128 (.var [.dH,.dH])<|sS 128 (.var [.d (.lst ([1].map (PD.int .i64))),.d (.lst ([1].map (PD.int .i64)))])<|sN<|qS<|gS rfl rfl<|sV (.ptr 48 0)<|sL rfl<|sE (rI (a0.bG.length:Int)) (dT _ _) ?_
 refine sV (r0)<|sN<|bE h fun o20 ho20 h=>WC.block (WC.loop (WL.gv ho20 (fun s R' B'=>cI prog 0 (A R' B') (aC.at_ 273 0 7)=some (A [(1,rI a1),(2,rI a2),(6,.ptr 96 0),(8,.ptr 128 0),(31,rM aH.pd a0.bG),(32,rI (a0.bG.length:Int)),(33,rI s.1)] [(96,.var [.dH,.dH]),(128,.var [rL s.2.1,rL s.2.2])])) (fun o e R' B'=>match o with| .inl y=>e= .exit 0∧cI prog 0 (A R' B') (aC.at_ 273 0 17)=some (A [(6,.ptr 96 0),(8,.ptr 128 0)] [(96,.var [.dH,.dH]),(128,.var [rL y.1,rL y.2])])| .inr r=>e= .ret∧finish prog (aC.own 273) Tryz.f273 0 (A R' B')=some (.tup [.d (aM.pd r.1),rI r.2],[])) rfl ?_ ?_))
 ·rintro⟨s7,s8,s9⟩ R' B' q12 hI h
  refine gS rfl hI<|sF h (fun h=>?_) fun h=>?_
  ·refine sN<|qS<|cT<|qK<|qS<|qB<|gS rfl rfl<|bE h fun x14 hx14 h=>eG hx14 rfl<|sV (.d (aH.pd x14))<|sB (.ptr 160 0) 160 (.var [r0,r0,r0,r0,r0,r0,r0,.dH,r0,r0])<|sH 160 (.var (aH.rc x14))<|sN<|gS rfl rfl<|sV (.d (aH.pd x14)) ?_
   refine sM rfl<|sM rfl<|bE h fun x15 hx15 h=>cR (.tup [.d (aM.pd x15.1),rB x15.2]) [] (response_gain_ev hx15)<|sM rfl<|sV (.d (aM.pd x15.1))<|sV (rB x15.2)<|sB (.ptr 176 0) 176 (.var [.dH,.dH])<|sS 176 (.var (aM.rc x15.1))<|sA rfl<|sN<|qS<|gS rfl rfl<|sM rfl<|sF h (fun h=>?_) fun h=>?_
   ·refine sN<|cT<|gS rfl rfl<|sV (.agg [.dH,.dH])<|sS 96 (.var [.dH,.dH])<|sV (rI 11)<|sN<|qR ?_
    cases oI h
    exact⟨nofun,rfl,rfl⟩
   refine sN<|cF<|qK<|gS rfl rfl<|sV (r0)<|sN<|gS rfl rfl<|sV (.d (aM.pd (aM.mk s8 s9)))<|sV (.d (aM.pd x15.1))<|bE h fun x17 hx17 h=>cR (.tup [.d (aM.pd x17.1),rI x17.2]) [] (nat_Times_ev hx17)<|sM rfl<|sV (.d (aM.pd x17.1))<|sV (rI x17.2)<|sS 128 (.var (aM.rc x17.1)) ?_
   refine sA rfl<|sN<|gS rfl rfl<|sM rfl<|sF h (fun h=>?_) fun h=>?_
   ·refine sN<|cT<|gS rfl rfl<|sV (.agg [.dH,.dH])<|sM rfl<|sS 96 (.var [.dH,.dH])<|sA rfl<|sN<|qR ?_
    cases oI h
    exact⟨nofun,rfl,rfl⟩
   refine sN<|cF<|qK<|WC.region rfl rfl<|sV (rI (rW (s7+(1:Int))))<|sM rfl<|sN ?_
   cases oI h
   exact⟨rfl,rfl⟩
  refine sN<|qS<|cF<|qX ?_
  cases oI h
  exact⟨nofun,rfl,rfl⟩
 intro e R' B' he hq
 rcases o20 with y21|r22
 ·obtain⟨rfl,hI⟩:=hq
  refine qE<|gS rfl hI<|sV (.d (aM.pd (aM.mk y21.1 y21.2)))<|sS 96 (.var [rL y21.1,rL y21.2])<|sV (r0)<|sN<|qR ?_
  exact oI h▸qD
 obtain⟨rfl,hf⟩:=hq
 cases oI h
 exact hf
theorem lW{a0:Int}{a1:Int}{r:Int}(h:ge a0 a1=some r):EvP prog aC ext 339 [rI a0,rI a1] [] (rI r,[]):=by
 refine Ev.body rfl Tryz.func339 rfl (by kernel_rfl)<|gS rfl rfl<|sV (r0)<|sN<|gS rfl rfl<|sV (r0)<|sN<|qS<|gS rfl rfl<|sV (r0)<|sN<|WC.block (WC.loop ?_)
 refine WL.round<|gS rfl rfl<|sT<|sN<|qS<|cT<|qK<|WC.join (α:=Int×Int) (fun x R' B'=>cI prog 0 (A R' B') (aC.at_ 339 0 9)=some (A [(0,rI a0),(1,rI x.1),(5,rI x.2),(6,r0)] [])) (fun x=>ej a0 x.1 x.2=some r) ?_ ?_
 ·refine qB<|gS rfl rfl<|sM rfl<|sM rfl<|sV (rI (rW (a1*a1)))<|sV (rI (jS .i64 (rW (a1*a1)) (30:Int)))<|sA rfl<|sN<|gS rfl rfl<|sM rfl<|sV (r0)<|sA rfl<|sN<|gS rfl rfl<|sM rfl ?_
  refine sF h (fun h=>?_) fun h=>?_
  ·exact sN<|cT<|gS rfl rfl<|sM rfl<|bE h fun x40 hx40 h=>WO.tV hx40 rfl rfl rfl rfl rfl rfl<|sA rfl<|sN<|WC.region rfl rfl<|sM rfl<|sV (rI 1)<|sA rfl<|sN<|⟨(x40,1),rfl,h⟩
  exact sN<|cF<|qK<|⟨((jS .i64 (rW (a1*a1)) (30:Int)),0),rfl,h⟩
 rintro⟨j1,j2⟩ R' B' hI h
 refine WC.region hI rfl<|sV (rI 1)<|sM rfl<|sN<|WL.round<|gS rfl rfl<|sT<|sN<|qS<|cT<|qK<|WC.join (α:=Int×Int) (fun x R' B'=>cI prog 0 (A R' B') (aC.at_ 339 0 9)=some (A [(0,rI a0),(1,rI x.1),(5,rI x.2),(6,rI 1)] [])) (fun x=>ei a0 x.1 x.2=some r) ?_ ?_
 ·refine qB<|gS rfl rfl<|sM rfl<|sM rfl<|sV (rI (rW (j1*j1)))<|sV (rI (jS .i64 (rW (j1*j1)) (30:Int)))<|sA rfl<|sN<|gS rfl rfl<|sM rfl<|sV (rI (rW (j2*(2:Int))))<|sA rfl<|sN<|gS rfl rfl<|sM rfl ?_
  refine sF h (fun h=>?_) fun h=>?_
  ·exact sN<|cT<|gS rfl rfl<|sM rfl<|bE h fun x37 hx37 h=>WO.tV hx37 rfl rfl rfl rfl rfl rfl<|sA rfl<|sN<|WC.region rfl rfl<|sM rfl<|sV (rI (rW ((rW (j2*(2:Int)))+(1:Int))))<|sA rfl<|sN<|⟨(x37,(rW ((rW (j2*(2:Int)))+(1:Int)))),rfl,h⟩
  exact sN<|cF<|qK<|⟨((jS .i64 (rW (j1*j1)) (30:Int)),(rW (j2*(2:Int)))),rfl,h⟩
 rintro⟨j3,j4⟩ R' B' hI h
 refine WC.region hI rfl<|sV (rI 2)<|sM rfl<|sN<|WL.round<|gS rfl rfl<|sT<|sN<|qS<|cT<|qK<|WC.join (α:=Int×Int) (fun x R' B'=>cI prog 0 (A R' B') (aC.at_ 339 0 9)=some (A [(0,rI a0),(1,rI x.1),(5,rI x.2),(6,rI 2)] [])) (fun x=>eh a0 x.1 x.2=some r) ?_ ?_
 ·refine qB<|gS rfl rfl<|sM rfl<|sM rfl<|sV (rI (rW (j3*j3)))<|sV (rI (jS .i64 (rW (j3*j3)) (30:Int)))<|sA rfl<|sN<|gS rfl rfl<|sM rfl<|sV (rI (rW (j4*(2:Int))))<|sA rfl<|sN<|gS rfl rfl<|sM rfl ?_
  refine sF h (fun h=>?_) fun h=>?_
  ·exact sN<|cT<|gS rfl rfl<|sM rfl<|bE h fun x34 hx34 h=>WO.tV hx34 rfl rfl rfl rfl rfl rfl<|sA rfl<|sN<|WC.region rfl rfl<|sM rfl<|sV (rI (rW ((rW (j4*(2:Int)))+(1:Int))))<|sA rfl<|sN<|⟨(x34,(rW ((rW (j4*(2:Int)))+(1:Int)))),rfl,h⟩
  exact sN<|cF<|qK<|⟨((jS .i64 (rW (j3*j3)) (30:Int)),(rW (j4*(2:Int)))),rfl,h⟩
 rintro⟨j5,j6⟩ R' B' hI h
 refine WC.region hI rfl<|sV (rI 3)<|sM rfl<|sN<|WL.round<|gS rfl rfl<|sT<|sN<|qS<|cT<|qK<|WC.join (α:=Int×Int) (fun x R' B'=>cI prog 0 (A R' B') (aC.at_ 339 0 9)=some (A [(0,rI a0),(1,rI x.1),(5,rI x.2),(6,rI 3)] [])) (fun x=>ef a0 x.1 x.2=some r) ?_ ?_
 ·refine qB<|gS rfl rfl<|sM rfl<|sM rfl<|sV (rI (rW (j5*j5)))<|sV (rI (jS .i64 (rW (j5*j5)) (30:Int)))<|sA rfl<|sN<|gS rfl rfl<|sM rfl<|sV (rI (rW (j6*(2:Int))))<|sA rfl<|sN<|gS rfl rfl<|sM rfl ?_
  refine sF h (fun h=>?_) fun h=>?_
  ·exact sN<|cT<|gS rfl rfl<|sM rfl<|bE h fun x31 hx31 h=>WO.tV hx31 rfl rfl rfl rfl rfl rfl<|sA rfl<|sN<|WC.region rfl rfl<|sM rfl<|sV (rI (rW ((rW (j6*(2:Int)))+(1:Int))))<|sA rfl<|sN<|⟨(x31,(rW ((rW (j6*(2:Int)))+(1:Int)))),rfl,h⟩
  exact sN<|cF<|qK<|⟨((jS .i64 (rW (j5*j5)) (30:Int)),(rW (j6*(2:Int)))),rfl,h⟩
 rintro⟨j7,j8⟩ R' B' hI h
 refine WC.region hI rfl<|sV (rI 4)<|sM rfl<|sN<|WL.round<|gS rfl rfl<|sT<|sN<|qS<|cT<|qK<|WC.join (α:=Int×Int) (fun x R' B'=>cI prog 0 (A R' B') (aC.at_ 339 0 9)=some (A [(0,rI a0),(1,rI x.1),(5,rI x.2),(6,rI 4)] [])) (fun x=>ed a0 x.1 x.2=some r) ?_ ?_
 ·refine qB<|gS rfl rfl<|sM rfl<|sM rfl<|sV (rI (rW (j7*j7)))<|sV (rI (jS .i64 (rW (j7*j7)) (30:Int)))<|sA rfl<|sN<|gS rfl rfl<|sM rfl<|sV (rI (rW (j8*(2:Int))))<|sA rfl<|sN<|gS rfl rfl<|sM rfl ?_
  refine sF h (fun h=>?_) fun h=>?_
  ·exact sN<|cT<|gS rfl rfl<|sM rfl<|bE h fun x28 hx28 h=>WO.tV hx28 rfl rfl rfl rfl rfl rfl<|sA rfl<|sN<|WC.region rfl rfl<|sM rfl<|sV (rI (rW ((rW (j8*(2:Int)))+(1:Int))))<|sA rfl<|sN<|⟨(x28,(rW ((rW (j8*(2:Int)))+(1:Int)))),rfl,h⟩
  exact sN<|cF<|qK<|⟨((jS .i64 (rW (j7*j7)) (30:Int)),(rW (j8*(2:Int)))),rfl,h⟩
 rintro⟨j9,j10⟩ R' B' hI h
 refine WC.region hI rfl<|sV (rI 5)<|sM rfl<|sN<|WL.round<|gS rfl rfl<|sT<|sN<|qS<|cT<|qK<|WC.join (α:=Int×Int) (fun x R' B'=>cI prog 0 (A R' B') (aC.at_ 339 0 9)=some (A [(0,rI a0),(1,rI x.1),(5,rI x.2),(6,rI 5)] [])) (fun x=>ec a0 x.1 x.2=some r) ?_ ?_
 ·refine qB<|gS rfl rfl<|sM rfl<|sM rfl<|sV (rI (rW (j9*j9)))<|sV (rI (jS .i64 (rW (j9*j9)) (30:Int)))<|sA rfl<|sN<|gS rfl rfl<|sM rfl<|sV (rI (rW (j10*(2:Int))))<|sA rfl<|sN<|gS rfl rfl<|sM rfl ?_
  refine sF h (fun h=>?_) fun h=>?_
  ·exact sN<|cT<|gS rfl rfl<|sM rfl<|bE h fun x25 hx25 h=>WO.tV hx25 rfl rfl rfl rfl rfl rfl<|sA rfl<|sN<|WC.region rfl rfl<|sM rfl<|sV (rI (rW ((rW (j10*(2:Int)))+(1:Int))))<|sA rfl<|sN<|⟨(x25,(rW ((rW (j10*(2:Int)))+(1:Int)))),rfl,h⟩
  exact sN<|cF<|qK<|⟨((jS .i64 (rW (j9*j9)) (30:Int)),(rW (j10*(2:Int)))),rfl,h⟩
 rintro⟨j11,j12⟩ R' B' hI h
 refine WC.region hI rfl<|sV (rI 6)<|sM rfl<|sN<|WL.round<|gS rfl rfl<|sT<|sN<|qS<|cT<|qK<|WC.join (α:=Int×Int) (fun x R' B'=>cI prog 0 (A R' B') (aC.at_ 339 0 9)=some (A [(0,rI a0),(1,rI x.1),(5,rI x.2),(6,rI 6)] [])) (fun x=>d9 a0 x.1 x.2=some r) ?_ ?_
 ·refine qB<|gS rfl rfl<|sM rfl<|sM rfl<|sV (rI (rW (j11*j11)))<|sV (rI (jS .i64 (rW (j11*j11)) (30:Int)))<|sA rfl<|sN<|gS rfl rfl<|sM rfl<|sV (rI (rW (j12*(2:Int))))<|sA rfl<|sN<|gS rfl rfl<|sM rfl ?_
  refine sF h (fun h=>?_) fun h=>?_
  ·exact sN<|cT<|gS rfl rfl<|sM rfl<|bE h fun x22 hx22 h=>WO.tV hx22 rfl rfl rfl rfl rfl rfl<|sA rfl<|sN<|WC.region rfl rfl<|sM rfl<|sV (rI (rW ((rW (j12*(2:Int)))+(1:Int))))<|sA rfl<|sN<|⟨(x22,(rW ((rW (j12*(2:Int)))+(1:Int)))),rfl,h⟩
  exact sN<|cF<|qK<|⟨((jS .i64 (rW (j11*j11)) (30:Int)),(rW (j12*(2:Int)))),rfl,h⟩
 rintro⟨j13,j14⟩ R' B' hI h
 refine WC.region hI rfl<|sV (rI 7)<|sM rfl<|sN<|WL.round<|gS rfl rfl<|sT<|sN<|qS<|cT<|qK<|WC.join (α:=Int×Int) (fun x R' B'=>cI prog 0 (A R' B') (aC.at_ 339 0 9)=some (A [(0,rI a0),(1,rI x.1),(5,rI x.2),(6,rI 7)] [])) (fun x=>d8 a0 x.1 x.2=some r) ?_ ?_
 ·refine qB<|gS rfl rfl<|sM rfl<|sM rfl<|sV (rI (rW (j13*j13)))<|sV (rI (jS .i64 (rW (j13*j13)) (30:Int)))<|sA rfl<|sN<|gS rfl rfl<|sM rfl<|sV (rI (rW (j14*(2:Int))))<|sA rfl<|sN<|gS rfl rfl<|sM rfl ?_
  refine sF h (fun h=>?_) fun h=>?_
  ·exact sN<|cT<|gS rfl rfl<|sM rfl<|bE h fun x19 hx19 h=>WO.tV hx19 rfl rfl rfl rfl rfl rfl<|sA rfl<|sN<|WC.region rfl rfl<|sM rfl<|sV (rI (rW ((rW (j14*(2:Int)))+(1:Int))))<|sA rfl<|sN<|⟨(x19,(rW ((rW (j14*(2:Int)))+(1:Int)))),rfl,h⟩
  exact sN<|cF<|qK<|⟨((jS .i64 (rW (j13*j13)) (30:Int)),(rW (j14*(2:Int)))),rfl,h⟩
 rintro⟨j15,j16⟩ R' B' hI h
 refine WC.region hI rfl<|sV (rI 8)<|sM rfl<|sN<|WL.round<|gS rfl rfl<|sU<|sN<|qS<|cF<|qX<|qE<|gS rfl rfl<|sM rfl<|sV (rI (rW ((256:Int)*a0))) ?_
 refine sM rfl<|sV (rI (rW ((rW ((256:Int)*a0))+j16)))<|sA rfl<|sN<|qR ?_
 exact oI h▸qD
theorem kO{a0:Int}{r:Int×Int}(h:gV a0=some r):EvP prog aC ext 275 [rI a0] [] (.tup [rI r.1,rI r.2],[]):=by
 refine Ev.body rfl Tryz.func275 rfl (by kernel_rfl)<|gS rfl rfl<|sV (r0)<|sV (r0)<|sN<|qS<|gS rfl rfl<|sM rfl<|sF h (fun h=>?_) fun h=>?_
 ·refine sN<|cT<|gS rfl rfl<|sV (r0)<|sV (rI 2)<|sN<|qR ?_
  exact oI h▸qD
 refine sN<|cF<|qK<|gS rfl rfl<|sM rfl<|sV (.d (.int .u64 (IntKind.wrap .u64 a0)))<|bE h fun x2 hx2 h=>cD (ow hx2)<|sV (rI (rW (x2-(1:Int))))<|sA rfl<|sN<|qS<|gS rfl rfl<|sM rfl<|sF h (fun h=>?_) fun h=>?_
 ·refine sN<|cT<|gS rfl rfl<|sM rfl<|sM rfl<|sM rfl<|sV (rI (rW ((30:Int)-(rW (x2-(1:Int))))))<|bE h fun x4 hx4 h=>WO.shlG hx4 rfl rfl rfl rfl rfl<|bE h fun x5 hx5 h=>cD (lW hx5)<|sA rfl<|sV (r0)<|sN<|qR ?_
  exact oI h▸qD
 refine sN<|cF<|qK<|gS rfl rfl<|sM rfl<|sM rfl<|sM rfl<|sV (rI (rW ((rW (x2-(1:Int)))-(30:Int))))<|bE h fun x6 hx6 h=>WO.shrG hx6 rfl rfl rfl rfl rfl<|bE h fun x7 hx7 h=>cD (lW hx7)<|sA rfl<|sV (r0)<|sN ?_
 refine qR ?_
 exact oI h▸qD
theorem lV{a0:(List Int)}{r:Int×Int}(h:gd a0=some r):EvP prog aC ext 274 [rL a0] [] (.tup [rI r.1,rI r.2],[]):=by
 refine Ev.body rfl Tryz.func274 rfl (by kernel_rfl)<|gS rfl rfl<|sV (r0)<|sV (r0)<|sN<|qS<|gS rfl rfl<|sM rfl<|bE h fun x1 hx1 h=>cD (gH hx1)<|sF h (fun h=>?_) fun h=>?_
 ·refine sN<|cT<|gS rfl rfl<|sV (r0)<|sV (rI 1)<|sN<|qR ?_
  exact oI h▸qD
 refine sN<|cF<|qK<|gS rfl rfl<|sM rfl<|sE (rI (a0.length:Int)) (dT _ _)<|sV (rI (rW ((a0.length:Int)-(1:Int))))<|sA rfl<|sN<|qS<|qB<|gS rfl rfl<|sM rfl<|sF h (fun h=>?_) fun h=>?_
 ·refine sA rfl<|sN<|cT<|gS rfl rfl<|sV (r0)<|sV (rI 2)<|sN<|qR ?_
  exact oI h▸qD
 refine sA rfl<|sN<|cF<|gS rfl rfl<|sM rfl<|sF h (fun h=>?_) fun h=>?_
 ·refine sA rfl<|sN<|cT<|gS rfl rfl<|sM rfl<|bE h fun x5 hx5 h=>eG hx5 rfl<|sC rfl<|bE h fun x6 hx6 h=>cR (.tup [rI x6.1,rI x6.2]) [] (kO hx6)<|sV (rI x6.1)<|sV (rI x6.2)<|sA rfl<|sA rfl<|sN ?_
  refine qR ?_
  exact oI h▸qD
 refine sA rfl<|sN<|cF<|qK<|WC.dG rfl rfl<|sM rfl<|sM rfl<|bE h fun x7 hx7 h=>eG hx7 rfl<|sC rfl<|sV (rI (shlI .i64 x7 (30:Int)))<|sM rfl<|sM rfl<|sV (rI (rW ((rW ((a0.length:Int)-(1:Int)))-(1:Int))))<|bE h fun x8 hx8 h=>?_
 refine eG hx8 rfl<|sC rfl<|sV (rI (orI .i64 (shlI .i64 x7 (30:Int)) x8))<|sA rfl ?_
 refine sN<|sO<|gS rfl rfl<|sM rfl<|bE h fun x9 hx9 h=>cR (.tup [rI x9.1,rI x9.2]) [] (kO hx9)<|sM rfl<|sV (rI x9.1)<|sV (rI x9.2)<|sA rfl<|sA rfl<|sN<|gS rfl rfl<|sM rfl<|sM rfl<|sV (rI (rW ((rW ((a0.length:Int)-(1:Int)))-(1:Int)))) ?_
 refine sV (rI (rW ((7680:Int)*(rW ((rW ((a0.length:Int)-(1:Int)))-(1:Int))))))<|sV (rI (rW (x9.1+(rW ((7680:Int)*(rW ((rW ((a0.length:Int)-(1:Int)))-(1:Int))))))))<|sM rfl<|sA rfl<|sA rfl<|sN<|qR ?_
 exact oI h▸qD
theorem pr{a0:bu}{a1:aP}{a2:Int}{r:Int×Int}(h:iP a0 a1 a2=some r):EvP prog aC ext 190 [.d (bu.pd a0),.d (aP.pd a1),rI a2] [] (.tup [rI r.1,rI r.2],[]):=by
 refine Ev.body rfl Tryz.func190 rfl (by kernel_rfl)<|gS rfl rfl<|sB (.ptr 48 0) 48 (.var (bu.rc a0))<|sB (.ptr 64 0) 64 (.var [rM aH.pd a1.bG])<|sV (r0)<|sV (r0)<|sN<|gS rfl rfl<|sV (.d (aP.pd a1))<|sV (.ptr 48 3)<|sL rfl<|sV (.ptr 48 4)<|sL rfl<|bE h fun x1 hx1 h=>cR (.tup [.d (aM.pd x1.1),rI x1.2]) [] (response_Gain_ev hx1) ?_
 refine sM rfl<|sV (.d (aM.pd x1.1))<|sV (rI x1.2)<|sB (.ptr 128 0) 128 (.var [.dH,.dH])<|sS 128 (.var (aM.rc x1.1))<|sA rfl<|sN<|qS<|gS rfl rfl<|sM rfl<|sF h (fun h=>?_) fun h=>?_
 ·refine sN<|cT<|gS rfl rfl<|sM rfl<|sV (r0)<|sA rfl<|sN<|qR ?_
  exact oI h▸qD
 refine sN<|cF<|qK<|gS rfl rfl<|sV (.ptr 128 0)<|sL rfl<|bE h fun x3 hx3 h=>cR (.tup [rI x3.1,rI x3.2]) [] (lV hx3)<|sM rfl<|sV (rI x3.1)<|sV (rI x3.2)<|sA rfl<|sA rfl<|sN<|qS ?_
 refine gS rfl rfl<|sM rfl<|sF h (fun h=>?_) fun h=>?_
 ·refine sN<|cT<|gS rfl rfl<|sV (r0)<|sV (rI 24)<|sN<|qR ?_
  exact oI h▸qD
 refine sN<|cF<|qK<|gS rfl rfl<|sV (.ptr 128 1)<|sL rfl<|bE h fun x5 hx5 h=>cR (.tup [rI x5.1,rI x5.2]) [] (lV hx5)<|sM rfl<|sV (rI x5.1)<|sV (rI x5.2)<|sA rfl<|sA rfl<|sN<|qS ?_
 refine gS rfl rfl<|sM rfl<|sF h (fun h=>?_) fun h=>?_
 ·refine sN<|cT<|gS rfl rfl<|sM rfl<|sV (r0)<|sA rfl<|sN<|qR ?_
  exact oI h▸qD
 refine sN<|cF<|qK<|gS rfl rfl<|sM rfl<|bE h fun x7 hx7 h=>cR (.tup [rI x7.1,rI x7.2]) [] (kO hx7)<|sM rfl<|sV (rI x7.1)<|sV (rI x7.2)<|sA rfl<|sA rfl<|sN<|gS rfl rfl<|sM rfl ?_
 refine sV (rI (rW ((2:Int)*x7.1)))<|sM rfl<|sV (rI (rW ((rW ((2:Int)*x7.1))+x5.1)))<|sM rfl<|sV (rI (rW ((rW ((rW ((2:Int)*x7.1))+x5.1))-x3.1)))<|sM rfl<|sA rfl<|sA rfl<|sN<|qR ?_
 exact oI h▸qD
theorem mN{a0:Int}{r:Int}(h:iq a0=some r):EvP prog aC ext 193 [rI a0] [] (rI r,[]):=by
 refine Ev.body rfl Tryz.func193 rfl (by kernel_rfl)<|gS rfl rfl<|sV (r0)<|sN<|gS rfl rfl<|sM rfl<|sV (rI (jS .i64 a0 (1:Int)))<|sA rfl<|sN<|qR ?_
 exact oI h▸qD
theorem pq{a0:Int}{r:Int×Bool}(h:kP a0=some r):EvP prog aC ext 281 [rI a0] [] (.tup [rI r.1,rB r.2],[]):=by
 refine Ev.body rfl Tryz.func281 rfl (by kernel_rfl)<|gS rfl rfl<|sV (r0)<|sU<|sN<|gS rfl rfl<|sM rfl<|sV (rI (rW (a0*(30103:Int))))<|sM rfl<|sF h (fun h=>?_) fun h=>?_
 ·refine sM rfl<|sM rfl<|sV (rB (decide (a0<=(16777216:Int))))<|sV (rB (decide (a0<=(16777216:Int))))<|sA rfl<|sA rfl<|sN<|qR ?_
  exact oI h▸qD
 refine sM rfl<|sK<|sK<|sU<|sA rfl<|sA rfl<|sN<|qR ?_
 exact oI h▸qD
theorem mu{a0:Int}{r:Int}(h:gM a0=some r):EvP prog aC ext 192 [rI a0] [] (rI r,[]):=by
 refine Ev.body rfl Tryz.func192 rfl (by kernel_rfl)<|gS rfl rfl<|sV (r0)<|sN<|gS rfl rfl<|sM rfl<|bE h fun x1 hx1 h=>cR (.tup [rI x1.1,rB x1.2]) [] (pq hx1)<|sM rfl<|sV (rI x1.1)<|sV (rB x1.2)<|sA rfl<|sA rfl<|sN<|qS ?_
 refine gS rfl rfl<|sM rfl<|sF h (fun h=>?_) fun h=>?_
 ·refine sN<|cT<|gS rfl rfl<|sV (r0)<|sN<|qR ?_
  exact oI h▸qD
 refine sN<|cF<|qK<|gS rfl rfl<|sM rfl<|bE h fun x3 hx3 h=>WO.tV hx3 rfl rfl rfl rfl rfl rfl<|sA rfl<|sN<|qS<|gS rfl rfl<|sM rfl<|bE h fun x4 hx4 h=>WO.remG hx4 rfl rfl rfl rfl rfl rfl<|sF h (fun h=>?_) fun h=>?_
 ·refine sN<|cT<|WC.region rfl rfl<|sM rfl<|sV (rI (rW (x3-(1:Int))))<|sA rfl<|sN<|gS rfl rfl<|sM rfl<|sA rfl<|sN<|qR ?_
  exact oI h▸qD
 refine sN<|cF<|qK<|gS rfl rfl<|sM rfl<|sA rfl<|sN<|qR ?_
 exact oI h▸qD
theorem qj{a0:Int}{r:Int}(h:kq a0=some r):EvP prog aC ext 194 [rI a0] [] (rI r,[]):=by
 refine Ev.body rfl Tryz.func194 rfl (by kernel_rfl)<|gS rfl rfl<|sV (r0)<|sN<|gS rfl rfl<|sM rfl<|sV (rI (rW (0-a0)))<|bE h fun x1 hx1 h=>cD (mu hx1)<|sV (rI (rW (0-x1)))<|sA rfl<|sN<|qR ?_
 exact oI h▸qD
theorem oG{a0:bu}{a1:aP}{a2:Int}{a3:Int}{a4:Int}{r:aA×Int}(h:fC a0 a1 a2 a3 a4=some r):EvP prog aC ext 110 [.d (bu.pd a0),.d (aP.pd a1),rI a2,rI a3,rI a4] [] (.tup [.d (aA.pd r.1),rI r.2],[]):=by
 refine Ev.body rfl Tryz.func110 rfl (by kernel_rfl)<|gS rfl rfl<|sB (.ptr 80 0) 80 (.var (bu.rc a0))<|sB (.ptr 96 0) 96 (.var [rM aH.pd a1.bG])<|sB (.ptr 160 0) 160 (.var [r0,r0])<|sV (r0)<|sN<|qS<|gS rfl rfl<|sV (.d (bu.pd a0))<|bE h fun x1 hx1 h=>cD (jI hx1)<|sF h (fun h=>?_) fun h=>?_
 ·refine sN<|cT<|gS rfl rfl<|sV (.d (aA.pd (aA.mk 0 0)))<|sS 160 (.var [r0,r0])<|sV (rI 27)<|sN<|qR ?_
  exact oI h▸qD
 refine sN<|cF<|qK<|qS<|gS rfl rfl<|sM rfl<|sF h (fun h=>?_) fun h=>?_
 ·refine sM rfl<|sK<|sK<|sT<|sN<|cT<|gS rfl rfl<|sV (.d (aA.pd (aA.mk 0 0)))<|sS 160 (.var [r0,r0])<|sV (rI 2)<|sN<|qR ?_
  exact oI h▸qD
 refine sM rfl<|sM rfl<|sV (rB (decide (a2>(1073741823:Int))))<|sF h (fun h=>?_) fun h=>?_
 ·refine sN<|cT<|gS rfl rfl<|sV (.d (aA.pd (aA.mk 0 0)))<|sS 160 (.var [r0,r0])<|sV (rI 2)<|sN<|qR ?_
  exact oI h▸qD
 refine sN<|cF<|qK<|gS rfl rfl<|sV (.d (bu.pd a0))<|sV (.d (aP.pd a1))<|sM rfl<|bE h fun x5 hx5 h=>cR (.tup [rI x5.1,rI x5.2]) [] (pr hx5)<|sM rfl<|sV (rI x5.1)<|sV (rI x5.2)<|sA rfl<|sA rfl<|sN ?_
 refine qS<|gS rfl rfl<|sM rfl<|sF h (fun h=>?_) fun h=>?_
 ·refine sN<|cT<|gS rfl rfl<|sV (.d (aA.pd (aA.mk 0 0)))<|sM rfl<|sS 160 (.var [r0,r0])<|sA rfl<|sN<|qR ?_
  exact oI h▸qD
 refine sN<|cF<|qK<|gS rfl rfl<|sV (.ptr 80 0)<|sV (.d (aI.pd a0.b8))<|sM rfl<|sM rfl<|bE h fun x7 hx7 h=>cR (.tup [rI x7.1,rI x7.2.1,rI x7.2.2]) [] (mU hx7)<|sM rfl<|sV (rI x7.1)<|sV (rI x7.2.1)<|sV (rI x7.2.2)<|sA rfl ?_
 refine sA rfl<|sA rfl<|sN<|qS<|gS rfl rfl<|sM rfl<|sF h (fun h=>?_) fun h=>?_
 ·refine sN<|cT<|gS rfl rfl<|sV (.d (aA.pd (aA.mk 0 0)))<|sM rfl<|sS 160 (.var [r0,r0])<|sA rfl<|sN<|qR ?_
  exact oI h▸qD
 refine sN<|cF<|qK<|gS rfl rfl<|sM rfl<|sV (rI (rW (x5.1-(2:Int))))<|bE h fun x9 hx9 h=>cD (mN hx9)<|bE h fun x10 hx10 h=>cD (mu hx10)<|sM rfl<|sV (rI (rW (x10+x7.1)))<|sM rfl<|sV (rI (rW (0-x5.1)))<|sV (rI (rW ((rW (0-x5.1))-(6:Int)))) ?_
 refine bE h fun x11 hx11 h=>cD (mN hx11)<|sV (rI (rW (0-x11)))<|bE h fun x12 hx12 h=>cD (qj hx12)<|sM rfl<|sV (rI (rW (x12+x7.2.1)))<|sV (.d (aA.pd (aA.mk (rW (x10+x7.1)) (rW (x12+x7.2.1)))))<|sS 160 (.var [rI (rW (x10+x7.1)),rI (rW (x12+x7.2.1))])<|sV (r0)<|sN<|qR ?_
 exact oI h▸qD
theorem ol{a0:aS}{a1:ap}{a2:ai}{r:(List aA)}(h:cM a0 a1 a2=some r):EvP prog aC ext 58 [.d (aS.pd a0),.d (ap.pd a1),.d (ai.pd a2)] [] (rM aA.pd r,[]):=by
 refine Ev.body rfl Tryz.func58 rfl (by kernel_rfl)<|gS rfl rfl<|sB (.ptr 48 0) 48 (.var (aS.rc a0))<|sB (.ptr 64 0) 64 (.var (ap.rc a1))<|sB (.ptr 80 0) 80 (.var (ai.rc a2))<|sV .dH<|sN<|gS rfl rfl<|sV .dH<|sN<|qS<|gS rfl rfl<|sV (.ptr 48 1)<|sL rfl<|sE (rI (a0.dc.length:Int)) (dT _ _) ?_
 refine sV (r0)<|sN<|bE h fun o15 ho15 h=>WC.block (WC.loop (WL.gv ho15 (fun s R' B'=>cI prog 0 (A R' B') (aC.at_ 58 0 3)=some (A [(3,.ptr 48 0),(4,.ptr 64 0),(5,.ptr 80 0),(7,.ref 816 0),(13,rM ak.pd a0.dc),(14,rI (a0.dc.length:Int)),(15,rI s.1)] [(48,.var (aS.rc a0)),(64,.var (ap.rc a1)),(80,.var (ai.rc a2)),(816,.arr 0 47 (s.2.map aA.pd))])) (fun o e R' B'=>e= .exit 0∧cI prog 0 (A R' B') (aC.at_ 58 0 9)=some (A [(7,.ref 816 0)] [(816,.arr 0 47 (o.map aA.pd))])) rfl ?_ ?_))
 ·rintro⟨s1,s2⟩ R' B' q4 hI h
  refine gS rfl hI<|sF h (fun h=>?_) fun h=>?_
  ·refine sN<|qS<|cT<|qK<|qS<|qB<|gS rfl rfl<|sM rfl<|bE h fun x6 hx6 h=>eG hx6 rfl<|sV (.d (ak.pd x6))<|sB (.ptr 144 0) 144 (.var zZ4)<|sA rfl<|sH 144 (.var (ak.rc x6))<|sN ?_
   refine WC.dG rfl rfl<|sV (.ptr 64 14)<|sV (.d (bu.pd a1.fb))<|sV (.ptr 48 2)<|sL rfl<|sM rfl<|bE h fun x7 hx7 h=>eG hx7 rfl<|sV (.cptr [.lst (x7.bN.bG.map aH.pd)])<|sV (.d (aP.pd x7.bN))<|sV (.ptr 48 0)<|sL rfl<|sM rfl<|bE h fun x8 hx8 h=>eG hx8 rfl ?_
   refine sV (.cptr [.int .i64 x8.aQ,.int .i64 x8.aU])<|sC rfl<|sV (.d (ai.pd a2))<|sV (.ptr 144 0)<|sV (.d (aa.pd x6.aN))<|bE h fun x9 hx9 h=>cD (kL hx9)<|sV (.d (ai.pd a2))<|sV (.ptr 144 0)<|sV (.d (aa.pd x6.aN))<|bE h fun x10 hx10 h=>cD (og hx10)<|bE h fun x11 hx11 h=>cR (.tup [.d (aA.pd x11.1),rI x11.2]) [] (oG hx11)<|sM rfl ?_
   refine sV (.d (aA.pd x11.1))<|sV (rI x11.2)<|sB (.ptr 160 0) 160 (.var [r0,r0])<|sS 160 (.var (aA.rc x11.1))<|sA rfl ?_
   refine sN<|sO<|gS rfl rfl<|sM rfl<|sF h (fun h=>?_) fun h=>?_
   ·refine sN<|cT<|WC.region rfl rfl<|sM rfl<|sV (.d (aA.pd x11.1))<|sV (.d (.lst ([x11.1].map aA.pd)))<|bE h fun x13 hx13 h=>aR hx13 (fun _=>rfl) rfl<|sA rfl<|sN<|WC.region rfl rfl<|sV (rI (rW (s1+(1:Int))))<|sM rfl<|sN ?_
    cases oI h
    exact⟨rfl,rfl⟩
   refine sN<|cF<|qK<|WC.region rfl rfl<|sV (rI (rW (s1+(1:Int))))<|sM rfl<|sN ?_
   cases oI h
   exact⟨rfl,rfl⟩
  refine sN<|qS<|cF<|qX ?_
  cases oI h
  exact⟨nofun,rfl,rfl⟩
 intro e R' B' he hq
 obtain⟨rfl,hI⟩:=hq
 refine qE<|gS rfl hI<|sM rfl<|sA rfl<|sN<|qR ?_
 exact oI h▸qD
theorem iW{a0:aA}{r:Bool}(h:gE a0=some r):EvP prog aC ext 114 [.d (aA.pd a0)] [] (rB r,[]):=by
 refine Ev.body rfl Tryz.func114 rfl (by kernel_rfl)<|gS rfl rfl<|sB (.ptr 16 0) 16 (.var (aA.rc a0))<|sU<|sN<|gS rfl rfl<|sV (.ptr 16 0)<|sL rfl<|sV (.ptr 16 1)<|sL rfl<|sV (rB (decide (a0.aL>a0.aF)))<|sA rfl<|sN<|qR ?_
 exact oI h▸qD
theorem jO{a0:(List aA)}{r:Int}(h:dU a0=some r):EvP prog aC ext 198 [rM aA.pd a0,.d (.raw (.func (.func 114) #[] #[]))] [] (rI r,[]):=by
 refine Ev.body rfl Tryz.func198 rfl (by kernel_rfl)<|gS rfl rfl<|sV (r0)<|sN<|qS<|gS rfl rfl<|sM rfl<|sE (rI (a0.length:Int)) (dT _ _)<|sV (r0)<|sN<|bE h fun o8 ho8 h=>WC.block (WC.loop (WL.gv ho8 (fun s R' B'=>cI prog 0 (A R' B') (aC.at_ 198 0 2)=some (A [(0,rM aA.pd a0),(1,.d (.raw (.func (.func 114) #[] #[]))),(7,rI (a0.length:Int)),(8,rI s)] [])) (fun o e R' B'=>match o with| .inl y=>e= .exit 0∧cI prog 0 (A R' B') (aC.at_ 198 0 7)=some (A [] [])| .inr r=>e= .ret∧finish prog (aC.own 198) Tryz.f198 0 (A R' B')=some (rI r,[])) rfl ?_ ?_))
 ·rintro s1 R' B' q2 hI h
  refine gS rfl hI<|sF h (fun h=>?_) fun h=>?_
  ·refine sN<|qS<|cT<|qK<|qS<|qB<|gS rfl rfl<|sM rfl<|sA rfl<|sN<|gS rfl rfl<|sM rfl<|sM rfl<|sM rfl<|bE h fun x4 hx4 h=>?_
   refine eG hx4 rfl<|sV (.d (aA.pd x4))<|bE h fun x5 hx5 h=>kB h (fun hb6 h=>?_) (fun hb6 h=>?_)
   ·refine WO.qw (v:=rB true) (u:=[]) rfl rfl (fun _=>rfl) rfl rfl rfl rfl rfl (iW hx5) rfl rfl (congrArg (fun b=>RV.d (.bool b)) hb6) rfl<|sN<|cT<|gS rfl rfl<|sM rfl<|sA rfl<|sN<|qR ?_
    cases oI h
    exact⟨nofun,rfl,rfl⟩
   refine WO.qw (v:=rB false) (u:=[]) rfl rfl (fun _=>rfl) rfl rfl rfl rfl rfl (iW hx5) rfl rfl (congrArg (fun b=>RV.d (.bool b)) hb6) rfl<|sN<|cF<|qK<|WC.region rfl rfl<|sV (rI (rW (s1+(1:Int))))<|sM rfl<|sN ?_
   cases oI h
   exact⟨rfl,rfl⟩
  refine sN<|qS<|cF<|qX ?_
  cases oI h
  exact⟨nofun,rfl,rfl⟩
 intro e R' B' he hq
 rcases o8 with y9|r10
 ·obtain⟨rfl,hI⟩:=hq
  refine qE<|gS rfl hI<|sV (rI (-1))<|sN<|qR ?_
  exact oI h▸qD
 obtain⟨rfl,hf⟩:=hq
 cases oI h
 exact hf
theorem eJ{a0:(List aA)}{r:Bool}(h:cA a0=some r):EvP prog aC ext 113 [rM aA.pd a0,.d (.raw (.func (.func 114) #[] #[]))] [] (rB r,[]):=by
 refine Ev.body rfl Tryz.func113 rfl (by kernel_rfl)<|gS rfl rfl<|sU<|sN<|gS rfl rfl<|sM rfl<|sM rfl<|bE h fun x1 hx1 h=>cD (jO hx1)<|sV (rB (decide (x1>=(0:Int))))<|sA rfl<|sN<|qR ?_
 exact oI h▸qD
theorem mF{a0:aA}{r:Int}(h:gF a0=some r):EvP prog aC ext 116 [.d (aA.pd a0)] [] (rI r,[]):=by
 refine Ev.body rfl Tryz.func116 rfl (by kernel_rfl)<|gS rfl rfl<|sB (.ptr 16 0) 16 (.var (aA.rc a0))<|sV (r0)<|sN<|gS rfl rfl<|sV (.ptr 16 0)<|sL rfl<|sA rfl<|sN<|qR ?_
 exact oI h▸qD
theorem m5{a0:(List aA)}{r:Int}(h:fh a0=some r):EvP prog aC ext 115 [rM aA.pd a0,.d (.raw (.func (.func 116) #[] #[]))] [] (rI r,[]):=by
 refine Ev.body rfl Tryz.func115 rfl (by kernel_rfl)<|gS rfl rfl<|sV (r0)<|sN<|gS rfl rfl<|sV .dH<|sN<|qS<|gS rfl rfl<|sM rfl<|sE (rI (a0.length:Int)) (dT _ _)<|sV (r0)<|sN<|bE h fun o10 ho10 h=>WC.block (WC.loop (WL.gv ho10 (fun s R' B'=>cI prog 0 (A R' B') (aC.at_ 115 0 3)=some (A [(1,.d (.raw (.func (.func 116) #[] #[]))),(5,.ref 304 0),(8,rM aA.pd a0),(9,rI (a0.length:Int)),(10,rI s.1)] [(304,.arr 0 3 (s.2.map (PD.int .i64)))])) (fun o e R' B'=>e= .exit 0∧cI prog 0 (A R' B') (aC.at_ 115 0 7)=some (A [(5,.ref 304 0)] [(304,.arr 0 3 (o.map (PD.int .i64)))])) rfl ?_ ?_))
 ·rintro⟨s1,s2⟩ R' B' q4 hI h
  refine gS rfl hI<|sF h (fun h=>?_) fun h=>?_
  ·refine sN<|qS<|cT<|qK<|qS<|qB<|gS rfl rfl<|bE h fun x6 hx6 h=>eG hx6 rfl<|sV (.d (aA.pd x6))<|sB (.ptr 112 0) 112 (.var [r0,r0])<|sS 112 (.var (aA.rc x6))<|sN<|WC.region rfl rfl<|sM rfl ?_
   refine sM rfl<|sV (.d (aA.pd x6))<|bE h fun x7 hx7 h=>cD (mF hx7)<|sV (.d (.lst ([x7].map (PD.int .i64))))<|bE h fun x8 hx8 h=>aR hx8 (fun _=>rfl) rfl<|sA rfl<|sN<|WC.region rfl rfl<|sV (rI (rW (s1+(1:Int))))<|sM rfl<|sN ?_
   cases oI h
   exact⟨rfl,rfl⟩
  refine sN<|qS<|cF<|qX ?_
  cases oI h
  exact⟨nofun,rfl,rfl⟩
 intro e R' B' he hq
 obtain⟨rfl,hI⟩:=hq
 refine qE<|gS rfl hI<|sM rfl<|bE h fun x11 hx11 h=>cR (.tup []) [(304,.arr 0 3 (x11.map (PD.int .i64)))] (pg hx11)<|sN<|gS rfl rfl<|sM rfl<|sM rfl<|WO.ud rfl rfl rfl rfl rfl rfl rfl rfl rfl<|sV (rI (rW ((x11.length:Int)-(1:Int))))<|bE h fun x12 hx12 h=>WO.tV hx12 rfl rfl rfl rfl rfl rfl<|bE h fun x14 hx14 h=>WO.qy hx14 rfl rfl rfl rfl rfl rfl rfl rfl ?_
 refine bE h fun x15 hx15 h=>WO.pO hx15 rfl rfl rfl rfl rfl rfl<|sA rfl<|sN<|qR ?_
 exact oI h▸qD
theorem mG{a0:aA}{r:Int}(h:gG a0=some r):EvP prog aC ext 117 [.d (aA.pd a0)] [] (rI r,[]):=by
 refine Ev.body rfl Tryz.func117 rfl (by kernel_rfl)<|gS rfl rfl<|sB (.ptr 16 0) 16 (.var (aA.rc a0))<|sV (r0)<|sN<|gS rfl rfl<|sV (.ptr 16 1)<|sL rfl<|sA rfl<|sN<|qR ?_
 exact oI h▸qD
theorem m6{a0:(List aA)}{r:Int}(h:fi a0=some r):EvP prog aC ext 115 [rM aA.pd a0,.d (.raw (.func (.func 117) #[] #[]))] [] (rI r,[]):=by
 refine Ev.body rfl Tryz.func115 rfl (by kernel_rfl)<|gS rfl rfl<|sV (r0)<|sN<|gS rfl rfl<|sV .dH<|sN<|qS<|gS rfl rfl<|sM rfl<|sE (rI (a0.length:Int)) (dT _ _)<|sV (r0)<|sN<|bE h fun o10 ho10 h=>WC.block (WC.loop (WL.gv ho10 (fun s R' B'=>cI prog 0 (A R' B') (aC.at_ 115 0 3)=some (A [(1,.d (.raw (.func (.func 117) #[] #[]))),(5,.ref 304 0),(8,rM aA.pd a0),(9,rI (a0.length:Int)),(10,rI s.1)] [(304,.arr 0 3 (s.2.map (PD.int .i64)))])) (fun o e R' B'=>e= .exit 0∧cI prog 0 (A R' B') (aC.at_ 115 0 7)=some (A [(5,.ref 304 0)] [(304,.arr 0 3 (o.map (PD.int .i64)))])) rfl ?_ ?_))
 ·rintro⟨s1,s2⟩ R' B' q4 hI h
  refine gS rfl hI<|sF h (fun h=>?_) fun h=>?_
  ·refine sN<|qS<|cT<|qK<|qS<|qB<|gS rfl rfl<|bE h fun x6 hx6 h=>eG hx6 rfl<|sV (.d (aA.pd x6))<|sB (.ptr 112 0) 112 (.var [r0,r0])<|sS 112 (.var (aA.rc x6))<|sN<|WC.region rfl rfl<|sM rfl ?_
   refine sM rfl<|sV (.d (aA.pd x6))<|bE h fun x7 hx7 h=>cD (mG hx7)<|sV (.d (.lst ([x7].map (PD.int .i64))))<|bE h fun x8 hx8 h=>aR hx8 (fun _=>rfl) rfl<|sA rfl<|sN<|WC.region rfl rfl<|sV (rI (rW (s1+(1:Int))))<|sM rfl<|sN ?_
   cases oI h
   exact⟨rfl,rfl⟩
  refine sN<|qS<|cF<|qX ?_
  cases oI h
  exact⟨nofun,rfl,rfl⟩
 intro e R' B' he hq
 obtain⟨rfl,hI⟩:=hq
 refine qE<|gS rfl hI<|sM rfl<|bE h fun x11 hx11 h=>cR (.tup []) [(304,.arr 0 3 (x11.map (PD.int .i64)))] (pg hx11)<|sN<|gS rfl rfl<|sM rfl<|sM rfl<|WO.ud rfl rfl rfl rfl rfl rfl rfl rfl rfl<|sV (rI (rW ((x11.length:Int)-(1:Int))))<|bE h fun x12 hx12 h=>WO.tV hx12 rfl rfl rfl rfl rfl rfl<|bE h fun x14 hx14 h=>WO.qy hx14 rfl rfl rfl rfl rfl rfl rfl rfl ?_
 refine bE h fun x15 hx15 h=>WO.pO hx15 rfl rfl rfl rfl rfl rfl<|sA rfl<|sN<|qR ?_
 exact oI h▸qD
theorem oF{a0:(List aA)}{r:aA×Int}(h:fB a0=some r):EvP prog aC ext 59 [rM aA.pd a0] [] (.tup [.d (aA.pd r.1),rI r.2],[]):=by
 refine Ev.body rfl Tryz.func59 rfl (by kernel_rfl)<|gS rfl rfl<|sB (.ptr 32 0) 32 (.var [r0,r0])<|sV (r0)<|sN<|qS<|gS rfl rfl<|sM rfl<|sE (rI (a0.length:Int)) (dT _ _)<|sF h (fun h=>?_) fun h=>?_
 ·refine sN<|cT<|gS rfl rfl<|sV (.d (aA.pd (aA.mk 0 0)))<|sS 32 (.var [r0,r0])<|sV (rI 24)<|sN<|qR ?_
  exact oI h▸qD
 refine sN<|cF<|qK<|qS<|gS rfl rfl<|sM rfl<|bE h fun x2 hx2 h=>kB h (fun hb3 h=>?_) (fun hb3 h=>?_)
 ·refine WO.qw (v:=rB true) (u:=[]) rfl rfl (fun _=>rfl) rfl rfl rfl rfl rfl (eJ hx2) rfl rfl (congrArg (fun b=>RV.d (.bool b)) hb3) rfl<|sN<|cT<|gS rfl rfl<|sV (.d (aA.pd (aA.mk 0 0)))<|sS 32 (.var [r0,r0])<|sV (rI 1)<|sN<|qR ?_
  exact oI h▸qD
 refine WO.qw (v:=rB false) (u:=[]) rfl rfl (fun _=>rfl) rfl rfl rfl rfl rfl (eJ hx2) rfl rfl (congrArg (fun b=>RV.d (.bool b)) hb3) rfl<|sN<|cF<|qK<|gS rfl rfl<|sM rfl<|bE h fun x4 hx4 h=>cD (m5 hx4)<|sM rfl<|bE h fun x5 hx5 h=>cD (m6 hx5)<|sV (.d (aA.pd (aA.mk x4 x5)))<|sS 32 (.var [rI x4,rI x5])<|sV (r0)<|sN ?_
 refine qR ?_
 exact oI h▸qD
theorem qt{a0:ap}{a1:ar}{a2:(List ae)}{r:bc×Int}(h:gm a0 a1 a2=some r):EvP prog aC ext 15 [.d (ap.pd a0),.d (ar.pd a1),rM ae.pd a2] [] (.tup [.d (bc.pd r.1),rI r.2],[]):=by
 refine Ev.body rfl Tryz.func15 rfl (by kernel_rfl)<|gS rfl rfl<|sB (.ptr 48 0) 48 (.var (ap.rc a0))<|sB (.ptr 64 0) 64 (.var [rM az.pd a1.aT])<|sB (.ptr 96 0) 96 (.var zZ0)<|sV (r0)<|sN<|gS rfl rfl<|sV (.d (ap.pd a0))<|sV (.d (ar.pd a1))<|sM rfl<|bE h fun x1 hx1 h=>cR (.tup [.d (aS.pd x1.1),rI x1.2]) [] (pU hx1)<|sM rfl<|sV (.d (aS.pd x1.1)) ?_
 refine sV (rI x1.2)<|sB (.ptr 128 0) 128 (.var [.dH,.dH,.dH])<|sS 128 (.var (aS.rc x1.1))<|sA rfl<|sN<|qS<|gS rfl rfl<|sM rfl<|sF h (fun h=>?_) fun h=>?_
 ·refine sN<|cT<|gS rfl rfl<|sG (.agg zZ0)<|sM rfl<|sH 96 (.var zZ0)<|sA rfl<|sN<|qR ?_
  cases oI h
  exact qG
 refine sN<|cF<|qK<|gS rfl rfl<|sV (.d (aS.pd x1.1))<|sV (.d (ap.pd a0))<|bE h fun x3 hx3 h=>cR (.tup [.d (ag.pd x3.1),rI x3.2]) [] (pu hx3)<|sM rfl<|sV (.d (ag.pd x3.1))<|sV (rI x3.2)<|sB (.ptr 160 0) 160 (.var [r0,r0,r0,r0,r0,r0,r0,.dH,.dH,.dH,r0])<|sH 160 (.var (ag.rc x3.1))<|sA rfl<|sN ?_
 refine qS<|gS rfl rfl<|sM rfl<|sF h (fun h=>?_) fun h=>?_
 ·refine sN<|cT<|gS rfl rfl<|sG (.agg zZ0)<|sM rfl<|sH 96 (.var zZ0)<|sA rfl<|sN<|qR ?_
  cases oI h
  exact qG
 refine sN<|cF<|qK<|gS rfl rfl<|sV (.d (ag.pd x3.1))<|sV (.ptr 48 19)<|sL rfl<|bE h fun x5 hx5 h=>cR (.tup [.d (aj.pd x5.1),rI x5.2]) [] (nv hx5)<|sM rfl<|sV (.d (aj.pd x5.1))<|sV (rI x5.2)<|sB (.ptr 176 0) 176 (.var zZ1)<|sH 176 (.var (aj.rc x5.1))<|sA rfl ?_
 refine sN<|qS<|gS rfl rfl<|sM rfl<|sF h (fun h=>?_) fun h=>?_
 ·refine sN<|cT<|gS rfl rfl<|sG (.agg zZ0)<|sM rfl<|sH 96 (.var zZ0)<|sA rfl<|sN<|qR ?_
  cases oI h
  exact qG
 refine sN<|cF<|qK<|gS rfl rfl<|sV (.ptr 128 0)<|sL rfl<|sV (.d (aj.pd x5.1))<|sG (.d (.agg [.lst (x1.1.du.map ae.pd),.int .i64 x5.1.aV.fX,.int .i64 x5.1.aV.fY,.int .i64 x5.1.aV.fZ,.int .i64 x5.1.aX,.int .i64 x5.1.bh,.int .i64 x5.1.d5,.int .i64 x5.1.aY.aL.fX,.int .i64 x5.1.aY.aL.fY,.int .i64 x5.1.aY.aL.fZ,.int .i64 x5.1.aY.aF.fX,.int .i64 x5.1.aY.aF.fY,.int .i64 x5.1.aY.aF.fZ,.int .i64 0,.int .i64 0,.int .i64 0]))<|sB (.ptr 192 0) 192 (.var zZ0)<|sH 192 (.var (rM ae.pd x1.1.du::aj.rc x5.1++[r0,r0,r0]))<|sN<|qS<|gS rfl rfl<|sV (.d (aS.pd x1.1))<|sV (.d (ap.pd a0)) ?_
 refine sV (.ptr 176 6)<|sV (.d (ai.pd x5.1.aY))<|bE h fun x7 hx7 h=>cD (ol hx7)<|sA rfl<|sN<|gS rfl rfl<|sM rfl<|sE (rI (x7.length:Int)) (dT _ _)<|sF h (fun h=>?_) fun h=>?_
 ·refine sN<|cT<|gS rfl rfl<|sM rfl<|sE (rI (x7.length:Int)) (dT _ _)<|sV (.ptr 192 15)<|sS 192 (.var (rM ae.pd x1.1.du::aj.rc x5.1++[r0,r0,rI (x7.length:Int)]))<|sN<|gS rfl rfl<|sM rfl<|bE h fun x9 hx9 h=>cR (.tup [.d (aA.pd x9.1),rI x9.2]) [] (oF hx9)<|sM rfl<|sV (.d (aA.pd x9.1))<|sV (rI x9.2) ?_
  refine sV (.ptr 192 13)<|sS 192 (.var (rM ae.pd x1.1.du::aj.rc x5.1++aA.rc x9.1++[rI (x7.length:Int)]))<|sA rfl<|sN<|gS rfl rfl<|sM rfl<|sF h (fun h=>?_) fun h=>?_
  ·refine sN<|cT<|gS rfl rfl<|sG (.agg zZ0)<|sM rfl<|sH 96 (.var zZ0)<|sA rfl<|sN<|qR ?_
   cases oI h
   exact qG
  refine sN<|cF<|qK<|gS rfl rfl<|sV (.d (.agg [.lst (x1.1.du.map ae.pd),.int .i64 x5.1.aV.fX,.int .i64 x5.1.aV.fY,.int .i64 x5.1.aV.fZ,.int .i64 x5.1.aX,.int .i64 x5.1.bh,.int .i64 x5.1.d5,.int .i64 x5.1.aY.aL.fX,.int .i64 x5.1.aY.aL.fY,.int .i64 x5.1.aY.aL.fZ,.int .i64 x5.1.aY.aF.fX,.int .i64 x5.1.aY.aF.fY,.int .i64 x5.1.aY.aF.fZ,.int .i64 x9.1.aL,.int .i64 x9.1.aF,.int .i64 (x7.length:Int)]))<|sH 96 (.var (rM ae.pd x1.1.du::aj.rc x5.1++aA.rc x9.1++[rI (x7.length:Int)]))<|sV (r0)<|sN<|qR ?_
  cases oI h
  exact qG
 refine sN<|cF<|qK<|gS rfl rfl<|sV (.d (.agg [.lst (x1.1.du.map ae.pd),.int .i64 x5.1.aV.fX,.int .i64 x5.1.aV.fY,.int .i64 x5.1.aV.fZ,.int .i64 x5.1.aX,.int .i64 x5.1.bh,.int .i64 x5.1.d5,.int .i64 x5.1.aY.aL.fX,.int .i64 x5.1.aY.aL.fY,.int .i64 x5.1.aY.aL.fZ,.int .i64 x5.1.aY.aF.fX,.int .i64 x5.1.aY.aF.fY,.int .i64 x5.1.aY.aF.fZ,.int .i64 0,.int .i64 0,.int .i64 0]))<|sH 96 (.var (rM ae.pd x1.1.du::aj.rc x5.1++[r0,r0,r0]))<|sV (r0)<|sN<|qR ?_
 cases oI h
 exact qG
theorem nn{a0:ae}{a1:ae}{r:Int}(h:jg a0 a1=some r):EvP prog aC ext 42 [.d (ae.pd a0),.d (ae.pd a1)] [] (rI r,[]):=by
 refine Ev.body rfl Tryz.func42 rfl (by kernel_rfl)<|gS rfl rfl<|sB (.ptr 32 0) 32 (.var (ae.rc a0))<|sB (.ptr 48 0) 48 (.var (ae.rc a1))<|sV (r0)<|sN<|WC.dG rfl rfl<|sV (.ptr 32 4)<|sL rfl<|sV (.ptr 48 4)<|sL rfl<|bE h fun x1 hx1 h=>cD (bK hx1)<|sV (.d (ae.pd a0))<|sV (.d (ae.pd a1)) ?_
 refine bE h fun x2 hx2 h=>cD (qp hx2)<|sV (.d (.lst ([x1,x2].map (PD.int .i64))))<|bE h fun x3 hx3 h=>cD (gT hx3)<|sA rfl ?_
 refine sN<|sO<|qR ?_
 cases oI h
 exact qG
theorem kY{a0:(List ae)}{r:ae}(h:eS a0=some r):EvP prog aC ext 134 [rM ae.pd a0,.d (.raw (.func (.func 42) #[] #[]))] [] (.d (ae.pd r),[]):=by
 refine Ev.body rfl Tryz.func134 rfl (by kernel_rfl)<|gS rfl rfl<|sB (.ptr 64 0) 64 (.var zZ2)<|sN<|qS<|gS rfl rfl<|sM rfl<|sE (rI (a0.length:Int)) (dT _ _)<|sF h (fun h=>?_) fun h=>?_
 ·refine sN<|cT<|WC.region rfl rfl<|sG (.ifc 9 (rS [115,108,105,99,101,115,46,77,105,110,70,117,110,99,58,32,101,109,112,116,121,32,108,105,115,116])) ?_
  cases h
 refine sN<|cF<|qK<|gS rfl rfl<|sM rfl<|bE h fun x2 hx2 h=>eG hx2 rfl<|sV (.d (ae.pd x2))<|sB (.ptr 80 0) 80 (.var zZ2)<|sH 80 (.var (ae.rc x2))<|sN<|qS<|gS rfl rfl<|sV (rI 1)<|sN ?_
 refine bE h fun o29 ho29 h=>WC.block (WC.loop (WL.gv ho29 (fun s R' B'=>cI prog 0 (A R' B') (aC.at_ 134 0 5)=some (A [(0,rM ae.pd a0),(1,.d (.raw (.func (.func 42) #[] #[]))),(4,.ptr 64 0),(5,.ptr 80 0),(6,rI s.1)] [(64,.var zZ2),(80,.var [rS s.2.1,rS s.2.2.1,rS s.2.2.2.1,rS s.2.2.2.2.1,rI s.2.2.2.2.2.1,rI s.2.2.2.2.2.2.1,rI s.2.2.2.2.2.2.2.1,rI s.2.2.2.2.2.2.2.2.1,rI s.2.2.2.2.2.2.2.2.2])])) (fun o e R' B'=>e= .exit 0∧cI prog 0 (A R' B') (aC.at_ 134 0 9)=some (A [(4,.ptr 64 0),(5,.ptr 80 0)] [(64,.var zZ2),(80,.var [rS o.1,rS o.2.1,rS o.2.2.1,rS o.2.2.2.1,rI o.2.2.2.2.1,rI o.2.2.2.2.2.1,rI o.2.2.2.2.2.2.1,rI o.2.2.2.2.2.2.2.1,rI o.2.2.2.2.2.2.2.2])])) rfl ?_ ?_))
 ·rintro⟨s3,s4,s5,s6,s7,s8,s9,s10,s11,s12⟩ R' B' q22 hI h
  refine qS<|gS rfl hI<|sM rfl<|sM rfl<|sE (rI (a0.length:Int)) (dT _ _)<|sF h (fun h=>?_) fun h=>?_
  ·refine sN<|cT<|qK<|qS<|qB<|WC.dG rfl rfl<|sM rfl<|sM rfl<|sM rfl<|bE h fun x24 hx24 h=>eG hx24 rfl<|sV (.d (ae.pd x24))<|sV (.d (ae.pd (ae.mk (aw.mk s4 s5 s6 s7) s8 s9 s10 s11 s12)))<|bE h fun x25 hx25 h=>cD (nn hx25) ?_
   refine sF h (fun h=>?_) fun h=>?_
   ·refine sN<|sO<|cT<|WC.region rfl rfl<|sM rfl<|sM rfl<|bE h fun x27 hx27 h=>eG hx27 rfl<|sV (.d (ae.pd x27))<|sH 80 (.var (ae.rc x27))<|sN<|WC.region rfl rfl<|sM rfl<|sV (rI (rW (s3+(1:Int))))<|sA rfl<|sN ?_
    cases oI h
    exact⟨rfl,rfl⟩
   refine sN<|sO<|cF<|qK<|WC.region rfl rfl<|sM rfl<|sV (rI (rW (s3+(1:Int))))<|sA rfl<|sN ?_
   cases oI h
   exact⟨rfl,rfl⟩
  refine sN<|cF<|qX ?_
  cases oI h
  exact⟨nofun,rfl,rfl⟩
 intro e R' B' he hq
 obtain⟨rfl,hI⟩:=hq
 refine qE<|gS rfl hI<|sV (.d (ae.pd (ae.mk (aw.mk o29.1 o29.2.1 o29.2.2.1 o29.2.2.2.1) o29.2.2.2.2.1 o29.2.2.2.2.2.1 o29.2.2.2.2.2.2.1 o29.2.2.2.2.2.2.2.1 o29.2.2.2.2.2.2.2.2)))<|sH 64 (.var [rS o29.1,rS o29.2.1,rS o29.2.2.1,rS o29.2.2.2.1,rI o29.2.2.2.2.1,rI o29.2.2.2.2.2.1,rI o29.2.2.2.2.2.2.1,rI o29.2.2.2.2.2.2.2.1,rI o29.2.2.2.2.2.2.2.2])<|sN<|qR ?_
 cases oI h
 exact qG
theorem event_name_ev{a0:(List ae)}{r:ae}(h:nM a0=some r):EvP prog aC ext 67 [rM ae.pd a0] [] (.d (ae.pd r),[]):=by
 refine Ev.body rfl Tryz.func67 rfl (by kernel_rfl)<|gS rfl rfl<|sB (.ptr 32 0) 32 (.var zZ2)<|sN<|qS<|gS rfl rfl<|sM rfl<|sE (rI (a0.length:Int)) (dT _ _)<|sF h (fun h=>?_) fun h=>?_
 ·refine sN<|cT<|gS rfl rfl<|sG (.d (ae.pd (ae.mk (aw.mk [] [] [] []) 0 0 0 0 0)))<|sH 32 (.var zZ2)<|sN<|qR ?_
  cases oI h
  exact qG
 refine sN<|cF<|qK<|gS rfl rfl<|sM rfl<|bE h fun x2 hx2 h=>cD (kY hx2)<|sH 32 (.var (ae.rc x2))<|sN<|qR ?_
 cases oI h
 exact qG
theorem names_compare_ev{a0:eT}{a1:au}{a2:au}{r:Int}(h:jj a0 a1 a2=some r):EvP prog aC ext 69 [.d (eT.pd a0),.d (au.pd a1),.d (au.pd a2)] [] (rI r,[]):=by
 refine Ev.body rfl Tryz.func69 rfl (by kernel_rfl)<|gS rfl rfl<|sB (.ptr 48 0) 48 (.var [])<|sB (.ptr 64 0) 64 (.var (au.rc a1))<|sB (.ptr 80 0) 80 (.var (au.rc a2))<|sV (r0)<|sN<|gS rfl rfl<|sV (.ptr 64 0)<|sV (.d (ae.pd a1.aZ))<|sV (.ptr 80 0)<|sV (.d (ae.pd a2.aZ))<|bE h fun x1 hx1 h=>cD (nn hx1)<|sA rfl ?_
 refine sN<|qR ?_
 cases oI h
 exact qG
theorem gl{a1:Int}{a2:Int}{d0:(List au)}{r:(List au)}(h:cy a1 a2 d0=some r):EvP prog aC ext 208 [.ref 0 0,rI a1,rI a2,.d (.raw (.func (.func 69) #[.agg #[]] #[]))] [.arr 0 86 (d0.map au.pd)] (.tup [],[.arr 0 86 (r.map au.pd)]):=by
 refine Ev.body rfl Tryz.func208 rfl (by kernel_rfl)<|gS rfl rfl<|sM rfl<|sV (rI (rW (a1+(1:Int))))<|sA rfl<|sN<|bE h fun o35 ho35 h=>?_
 cases oI h
 refine WC.block (WC.loop (WL.vH ho35 (fun s R' B'=>cI prog 1 (A R' B') (aC.at_ 208 1 1)=some (A [(0,.ref 0 0),(1,rI a1),(2,rI a2),(3,.d (.raw (.func (.func 69) #[.agg #[]] #[]))),(8,rI s.1)] [(0,.arr 0 86 (s.2.map au.pd))])) rfl ?_))
 rintro⟨s1,s2⟩ R' B' q3 hI h
 refine qS<|gS rfl hI<|sM rfl<|sM rfl<|sF h (fun h=>?_) fun h=>?_
 ·refine sN<|cT<|qK<|qS<|qB<|gS rfl rfl<|sM rfl<|sA rfl<|sN<|bE h fun o32 ho32 h=>WC.block (WC.loop (WL.gv ho32 (fun s R' B'=>cI prog 1 (A R' B') (aC.at_ 208 1 4)=some (A [(0,.ref 0 0),(1,rI a1),(2,rI a2),(3,.d (.raw (.func (.func 69) #[.agg #[]] #[]))),(8,rI s1),(9,rI s.1)] [(0,.arr 0 86 (s.2.map au.pd))])) (fun o e R' B'=>e= .exit 2∧cI prog 1 (A R' B') (aC.at_ 208 1 2)=some (A [(0,.ref 0 0),(1,rI a1),(2,rI a2),(3,.d (.raw (.func (.func 69) #[.agg #[]] #[]))),(8,rI o.1)] [(0,.arr 0 86 (o.2.map au.pd))])) rfl ?_ ?_))
  ·rintro⟨s5,s6⟩ R' B' q9 hI h
   refine qS<|WC.dG hI rfl<|sM rfl<|sM rfl<|sF h (fun h=>?_) fun h=>?_
   ·refine sM rfl<|sM rfl<|sM rfl<|sM rfl<|bE h fun x12 hx12 h=>WO.qy hx12 rfl rfl rfl rfl rfl rfl rfl rfl<|bE h fun x13 hx13 h=>WO.pO hx13 rfl rfl rfl rfl rfl rfl<|sM rfl<|sM rfl<|sV (rI (rW (s5-(1:Int))))<|bE h fun x15 hx15 h=>WO.qy hx15 rfl rfl rfl rfl rfl rfl rfl rfl<|bE h fun x16 hx16 h=>WO.pO hx16 rfl rfl rfl rfl rfl rfl ?_
    refine bE h fun x17 hx17 h=>cD (names_compare_ev hx17)<|sV (rB (decide (x17<(0:Int))))<|sF h (fun h=>?_) fun h=>?_
    ·refine sN<|sO<|cT<|qK<|qS<|qB<|WC.kI rfl rfl<|sM rfl<|sM rfl<|sM rfl<|sM rfl<|sV (rI (rW (s5-(1:Int))))<|sM rfl<|sM rfl<|sV (rI (rW (s5-(1:Int))))<|bE h fun x20 hx20 h=>?_
     refine WO.qy hx20 rfl rfl rfl rfl rfl rfl rfl rfl<|bE h fun x21 hx21 h=>WO.pO hx21 rfl rfl rfl rfl rfl rfl<|sM rfl<|sM rfl<|bE h fun x23 hx23 h=>WO.qy hx23 rfl rfl rfl rfl rfl rfl rfl rfl<|bE h fun x24 hx24 h=>WO.pO hx24 rfl rfl rfl rfl rfl rfl<|bE h fun x26 hx26 h=>WO.qy hx26 rfl rfl rfl rfl rfl rfl rfl rfl<|bE h fun x27 hx27 h=>WO.rD (g:=au.pd) (sz:=25) (p:=au.pd x21) hx27 (by intro _;kernel_rfl) (by intro _;kernel_rfl) rfl rfl rfl rfl rfl rfl rfl rfl rfl<|bE h fun x29 hx29 h=>WO.qy hx29 rfl rfl rfl rfl rfl rfl rfl rfl ?_
     refine bE h fun x30 hx30 h=>WO.rD (g:=au.pd) (sz:=25) (p:=au.pd x24) hx30 (by intro _;kernel_rfl) (by intro _;kernel_rfl) rfl rfl rfl rfl rfl rfl rfl rfl rfl ?_
     refine sN<|sO<|WC.region rfl rfl<|sM rfl<|sV (rI (rW (s5-(1:Int))))<|sA rfl<|sN ?_
     cases oI h
     exact⟨rfl,rfl⟩
    refine sN<|sO<|cF<|qX ?_
    cases oI h
    exact⟨nofun,rfl,rfl⟩
   refine sM rfl<|k3<|k3<|k3<|k3<|sU ?_
   refine sN<|sO<|cF<|qX ?_
   cases oI h
   exact⟨nofun,rfl,rfl⟩
  intro e R' B' he hq
  obtain⟨rfl,hI⟩:=hq
  refine qE<|WC.region hI rfl<|sM rfl<|sV (rI (rW (o32.1+(1:Int))))<|sA rfl<|sN ?_
  cases oI h
  exact⟨rfl,rfl⟩
 refine sN<|cF<|qX<|tq h (fun z33 hkz33 hz=>?_)
 obtain rfl:=Option.some.inj hz
 refine⟨(fun he=>by cases he),fun hz2=>?_⟩
 subst hz2
 have h:=hkz33
 refine qE ?_
 exact oI h▸qD
theorem ij:∀(nfu:Nat){a1:Int}{a2:Int}{a3:Int}{d0:(List au)}{r:(List au)}(_:eK nfu a1 a2 a3 d0=some r),EvP prog aC ext 135 [.ref 0 0,rI a1,rI a2,rI a3,.d (.raw (.func (.func 69) #[.agg #[]] #[]))] [.arr 0 86 (d0.map au.pd)] (.tup [],[.arr 0 86 (r.map au.pd)])
  |0,_,_,_,_,_,h=>by cases h
  |nfu+1,a1,a2,a3,d0,r,h=>by
   refine Ev.body rfl Tryz.func135 rfl (by kernel_rfl)<|gS rfl rfl<|sT<|sN<|gS rfl rfl<|sT<|sN<|bE h fun o6 ho6 h=>WC.block (WC.loop (WL.gv ho6 (fun s R' B'=>cI prog 1 (A R' B') (aC.at_ 135 1 2)=some (A [(0,.ref 0 0),(1,rI a1),(2,rI a2),(3,rI a3),(4,.d (.raw (.func (.func 69) #[.agg #[]] #[]))),(10,rB true),(11,rB true)] [(0,.arr 0 86 (d0.map au.pd))])) (fun o e R' B'=>e= .ret∧finish prog (aC.own 135) Tryz.f135 1 (A R' B')=some (.tup [],[.arr 0 86 (o.map au.pd)])) rfl ?_ ?_))
   ·rintro⟨⟩ R' B' q1 hI h
    refine qB<|gS rfl hI<|sM rfl<|sM rfl<|sV (rI (rW (a2-a1)))<|sA rfl<|sN<|qS<|gS rfl rfl<|sM rfl<|sF h (fun h=>?_) fun h=>?_
    ·refine sN<|cT<|gS rfl rfl<|sM rfl<|sM rfl<|sM rfl<|sM rfl<|bE h fun x3 hx3 h=>cR (.tup []) [(0,.arr 0 86 (x3.map au.pd))] (gl hx3)<|sN<|qR ?_
     cases oI h
     exact⟨nofun,rfl,rfl⟩
    refine sN<|cF<|qK<|qS<|gS rfl rfl<|sM rfl<|sF h (fun h=>?_) fun h=>?_
    ·refine sN<|cT<|gS rfl rfl<|sM rfl<|sM rfl<|sM rfl<|sM rfl ?_
     cases h
    refine sN<|cF<|qK<|qS<|gS rfl rfl<|sM rfl<|sU<|sN<|cF<|qK<|gS rfl rfl<|sM rfl<|sM rfl<|sM rfl<|sM rfl ?_
    cases h
   intro e R' B' he hq
   obtain⟨rfl,hf⟩:=hq
   cases oI h
   exact hf
theorem iD{a1:Int}{a2:Int}{a3:Int}{d0:(List au)}{r:(List au)}(h:ct a1 a2 a3 d0=some r):EvP prog aC ext 135 [.ref 0 0,rI a1,rI a2,rI a3,.d (.raw (.func (.func 69) #[.agg #[]] #[]))] [.arr 0 86 (d0.map au.pd)] (.tup [],[.arr 0 86 (r.map au.pd)]):=
  let⟨n,hn⟩:=BE h;ij n hn
theorem kz{d0:(List au)}{r:(List au)}(h:c8 d0=some r):EvP prog aC ext 68 [.ref 0 0,.d (.raw (.func (.func 69) #[.agg #[]] #[]))] [.arr 0 86 (d0.map au.pd)] (.tup [],[.arr 0 86 (r.map au.pd)]):=by
 refine Ev.body rfl Tryz.func68 rfl (by kernel_rfl)<|gS rfl rfl<|sM rfl<|WO.ud rfl rfl rfl rfl rfl rfl rfl rfl rfl<|sA rfl<|sN<|WC.region rfl rfl<|sM rfl<|sM rfl<|sM rfl<|sV (.d (.int .u64 (IntKind.wrap .u64 (d0.length:Int))))<|bE h fun x1 hx1 h=>cD (ow hx1)<|sM rfl<|bE h fun x2 hx2 h=>?_
 refine cR (.tup []) [(0,.arr 0 86 (x2.map au.pd))] (iD hx2)<|sN ?_
 exact oI h▸qD
theorem lc{a0:ap}{a1:ar}{a2:(List ae)}{r:(List au)×(List ae)×Int}(h:eC a0 a1 a2=some r):EvP prog aC ext 20 [.d (ap.pd a0),.d (ar.pd a1),rM ae.pd a2] [] (.tup [rM au.pd r.1,rM ae.pd r.2.1,rI r.2.2],[]):=by
 refine Ev.body rfl Tryz.func20 rfl (by kernel_rfl)<|gS rfl rfl<|sB (.ptr 48 0) 48 (.var (ap.rc a0))<|sB (.ptr 64 0) 64 (.var [rM az.pd a1.aT])<|sV .dH<|sV .dH<|sV (r0)<|sN<|gS rfl rfl<|sV (.d (ap.pd a0))<|sV (.d (ar.pd a1))<|sM rfl<|bE h fun x1 hx1 h=>cR (.tup [rM ae.pd x1.1,rM ak.pd x1.2.1,rI x1.2.2]) [] (oe hx1)<|sM rfl ?_
 refine sV (rM ae.pd x1.1)<|sV (rM ak.pd x1.2.1)<|sV (rI x1.2.2)<|sA rfl<|sA rfl<|sA rfl<|sN<|qS<|gS rfl rfl<|sM rfl<|sF h (fun h=>?_) fun h=>?_
 ·refine sN<|cT<|gS rfl rfl<|sM rfl<|sV .dH<|sV .dH<|sA rfl<|sN<|qR ?_
  cases oI h
  exact qG
 refine sN<|cF<|qK<|gS rfl rfl<|sV (.ptr 48 0)<|sV (.d (aJ.pd a0.ah))<|sM rfl<|bE h fun x3 hx3 h=>cR (.tup [rM a7.pd x3.1,rL x3.2.1,rI x3.2.2]) [] (nG hx3)<|sM rfl<|sV (rM a7.pd x3.1)<|sV (rL x3.2.1)<|sV (rI x3.2.2)<|sA rfl<|sA rfl ?_
 refine sA rfl<|sN<|qS<|gS rfl rfl<|sM rfl<|sF h (fun h=>?_) fun h=>?_
 ·refine sN<|cT<|gS rfl rfl<|sM rfl<|sV .dH<|sV .dH<|sA rfl<|sN<|qR ?_
  cases oI h
  exact qG
 refine sN<|cF<|qK<|gS rfl rfl<|sV .dH<|sN<|qS<|gS rfl rfl<|sM rfl<|sE (rI (x3.1.length:Int)) (dT _ _)<|sV (r0)<|sN<|bE h fun o28 ho28 h=>WC.block (WC.loop (WL.gv ho28 (fun s R' B'=>cI prog 0 (A R' B') (aC.at_ 20 0 9)=some (A [(3,.ptr 48 0),(4,.ptr 64 0),(9,rM ae.pd x1.1),(13,rL x3.2.1),(14,.ref 1360 0),(47,rM a7.pd x3.1),(48,rI (x3.1.length:Int)),(49,rI s.1)] [(48,.var (ap.rc a0)),(64,.var [rM az.pd a1.aT]),(1360,.arr 0 86 (s.2.map au.pd))])) (fun o e R' B'=>match o with| .inl y=>e= .exit 0∧cI prog 0 (A R' B') (aC.at_ 20 0 22)=some (A [(9,rM ae.pd x1.1),(13,rL x3.2.1),(14,.ref 1360 0)] [(1360,.arr 0 86 (y.map au.pd))])| .inr r=>e= .ret∧finish prog (aC.own 20) Tryz.f20 0 (A R' B')=some (.tup [rM au.pd r.1,rM ae.pd r.2.1,rI r.2.2],[])) rfl ?_ ?_))
 ·rintro⟨s5,s6⟩ R' B' q8 hI h
  refine gS rfl hI<|sF h (fun h=>?_) fun h=>?_
  ·refine sN<|qS<|cT<|qK<|qS<|qB<|gS rfl rfl<|bE h fun x10 hx10 h=>eG hx10 rfl<|sV (.d (a7.pd x10))<|sB (.ptr 256 0) 256 (.var [.dH,r0,r0,r0,r0])<|sS 256 (.var (a7.rc x10))<|sN<|gS rfl rfl<|sV .dH ?_
   refine sN<|qS<|gS rfl rfl<|sV (.ptr 256 0)<|sL rfl<|sE (rI (x10.co.length:Int)) (dT _ _)<|sV (r0)<|sN<|bE h fun o22 ho22 h=>WC.block (WC.loop (WL.gv ho22 (fun s R' B'=>cI prog 0 (A R' B') (aC.at_ 20 0 13)=some (A [(3,.ptr 48 0),(4,.ptr 64 0),(9,rM ae.pd x1.1),(13,rL x3.2.1),(14,.ref 1360 0),(17,.ref 1056 0),(47,rM a7.pd x3.1),(48,rI (x3.1.length:Int)),(49,rI s5),(54,rL x10.co),(55,rI (x10.co.length:Int)),(56,rI s.1)] [(48,.var (ap.rc a0)),(64,.var [rM az.pd a1.aT]),(1056,.arr 0 66 (s.2.map ae.pd)),(1360,.arr 0 86 (s6.map au.pd))])) (fun o e R' B'=>e= .exit 2∧cI prog 0 (A R' B') (aC.at_ 20 0 17)=some (A [(3,.ptr 48 0),(4,.ptr 64 0),(9,rM ae.pd x1.1),(13,rL x3.2.1),(14,.ref 1360 0),(17,.ref 1056 0),(47,rM a7.pd x3.1),(48,rI (x3.1.length:Int)),(49,rI o.1)] [(48,.var (ap.rc a0)),(64,.var [rM az.pd a1.aT]),(1056,.arr 0 66 (o.2.2.map ae.pd)),(1360,.arr 0 86 (o.2.1.map au.pd))])) rfl ?_ ?_))
   ·rintro⟨s11,s12⟩ R' B' q16 hI h
    refine gS rfl hI<|sF h (fun h=>?_) fun h=>?_
    ·refine sN<|qS<|cT<|qK<|qS<|qB<|gS rfl rfl<|bE h fun x18 hx18 h=>eG hx18 rfl<|sC rfl<|sA rfl<|sN<|WC.region rfl rfl<|sM rfl<|sM rfl ?_
     refine sM rfl<|bE h fun x19 hx19 h=>eG hx19 rfl<|sV (.d (ae.pd x19))<|sG (.d (.lst ([x19].map ae.pd)))<|bE h fun x20 hx20 h=>aR hx20 (fun _=>rfl) rfl<|sA rfl<|sN<|WC.region rfl rfl<|sV (rI (rW (s11+(1:Int))))<|sM rfl<|sN ?_
     cases oI h
     exact⟨rfl,rfl⟩
    refine sN<|qS<|cF<|qX ?_
    cases oI h
    exact⟨nofun,rfl,rfl⟩
   intro e R' B' he hq
   obtain⟨rfl,hI⟩:=hq
   refine qE<|gS rfl hI<|sV (.d (ap.pd a0))<|sV (.d (ar.pd a1))<|sM rfl<|bE h fun x23 hx23 h=>cR (.tup [.d (bc.pd x23.1),rI x23.2]) [(1056,.dead)] (qt hx23)<|sM rfl<|sV (.d (bc.pd x23.1))<|sV (rI x23.2)<|sB (.ptr 320 0) 320 (.var zZ0)<|sH 320 (.var (bc.rc x23.1))<|sA rfl<|sN<|qS ?_
   refine gS rfl rfl<|sM rfl<|sF h (fun h=>?_) fun h=>?_
   ·refine sN<|cT<|gS rfl rfl<|sM rfl<|sV .dH<|sV .dH<|sA rfl<|sN<|qR ?_
    cases oI h
    exact⟨nofun,rfl,rfl⟩
   refine sN<|cF<|qK<|WC.kI rfl rfl<|sM rfl<|sV (.ptr 320 0)<|sL rfl<|bE h fun x25 hx25 h=>cD (event_name_ev hx25)<|sV (.d (bc.pd x23.1))<|sG (.d (.agg [.str x25.aD.a8,.str x25.aD.aN,.str x25.aD.aq,.str x25.aD.bd,.int .i64 x25.aX,.int .i64 x25.aK,.int .i64 x25.bf,.int .i64 x25.aQ,.int .i64 x25.aU,.lst (x23.1.cg.map ae.pd),.int .i64 x23.1.aq.aV.fX,.int .i64 x23.1.aq.aV.fY,.int .i64 x23.1.aq.aV.fZ,.int .i64 x23.1.aq.aX,.int .i64 x23.1.aq.bh,.int .i64 x23.1.aq.d5,.int .i64 x23.1.aq.aY.aL.fX,.int .i64 x23.1.aq.aY.aL.fY,.int .i64 x23.1.aq.aY.aL.fZ,.int .i64 x23.1.aq.aY.aF.fX,.int .i64 x23.1.aq.aY.aF.fY,.int .i64 x23.1.aq.aY.aF.fZ,.int .i64 x23.1.bt.aL,.int .i64 x23.1.bt.aF,.int .i64 x23.1.gu]))<|sG (.d (.lst ([(au.mk x25 x23.1)].map au.pd)))<|bE h fun x26 hx26 h=>aR hx26 (fun _=>rfl) rfl<|sA rfl ?_
   refine sN<|sO<|WC.region rfl rfl<|sV (rI (rW (o22.1+(1:Int))))<|sM rfl<|sN ?_
   cases oI h
   exact⟨rfl,rfl⟩
  refine sN<|qS<|cF<|qX ?_
  cases oI h
  exact⟨nofun,rfl,rfl⟩
 intro e R' B' he hq
 rcases o28 with y29|r30
 ·obtain⟨rfl,hI⟩:=hq
  refine qE<|gS rfl hI<|sM rfl<|sV (.d (eT.pd (eT.mk )))<|sV (.d (.raw (.func (.func 69) #[.agg #[]] #[])))<|bE h fun x31 hx31 h=>cR (.tup []) [(1360,.arr 0 86 (x31.map au.pd))] (kz hx31)<|sN<|gS rfl rfl<|sV .dH<|sN<|qS<|gS rfl rfl<|sM rfl<|sE (rI (x3.2.1.length:Int)) (dT _ _) ?_
  refine sV (r0)<|sN<|bE h fun o41 ho41 h=>WC.block (WC.loop (WL.gv ho41 (fun s R' B'=>cI prog 0 (A R' B') (aC.at_ 20 0 25)=some (A [(9,rM ae.pd x1.1),(14,.ref 1360 0),(22,.ref 1648 0),(91,rL x3.2.1),(92,rI (x3.2.1.length:Int)),(93,rI s.1)] [(1360,.arr 0 86 (x31.map au.pd)),(1648,.arr 0 66 (s.2.map ae.pd))])) (fun o e R' B'=>e= .exit 4∧cI prog 0 (A R' B') (aC.at_ 20 0 29)=some (A [(14,.ref 1360 0),(22,.ref 1648 0)] [(1360,.arr 0 86 (x31.map au.pd)),(1648,.arr 0 66 (o.map ae.pd))])) rfl ?_ ?_))
  ·rintro⟨s32,s33⟩ R' B' q35 hI h
   refine gS rfl hI<|sF h (fun h=>?_) fun h=>?_
   ·refine sN<|qS<|cT<|qK<|qS<|qB<|gS rfl rfl<|bE h fun x37 hx37 h=>eG hx37 rfl<|sC rfl<|sA rfl<|sN<|WC.region rfl rfl<|sM rfl<|sM rfl ?_
    refine sM rfl<|bE h fun x38 hx38 h=>eG hx38 rfl<|sV (.d (ae.pd x38))<|sG (.d (.lst ([x38].map ae.pd)))<|bE h fun x39 hx39 h=>aR hx39 (fun _=>rfl) rfl<|sA rfl<|sN<|WC.region rfl rfl<|sV (rI (rW (s32+(1:Int))))<|sM rfl<|sN ?_
    cases oI h
    exact⟨rfl,rfl⟩
   refine sN<|qS<|cF<|qX ?_
   cases oI h
   exact⟨nofun,rfl,rfl⟩
  intro e R' B' he hq
  obtain⟨rfl,hI⟩:=hq
  refine qE<|gS rfl hI<|sM rfl<|sM rfl<|sA rfl<|sA rfl<|sV (r0)<|sN<|qR ?_
  exact oI h▸qD
 obtain⟨rfl,hf⟩:=hq
 cases oI h
 exact hf
theorem qd{a0:ap}{a1:ar}{a2:(List ae)}{r:(List (List ae))×Int}(h:kb a0 a1 a2=some r):EvP prog aC ext 32 [.d (ap.pd a0),.d (ar.pd a1),rM ae.pd a2] [] (.tup [.d (.lst (r.1.map (fun l=>PD.lst (l.map ae.pd)))),rI r.2],[]):=by
 refine Ev.body rfl Tryz.func32 rfl (by kernel_rfl)<|gS rfl rfl<|sB (.ptr 48 0) 48 (.var (ap.rc a0))<|sB (.ptr 64 0) 64 (.var [rM az.pd a1.aT])<|sV .dH<|sV (r0)<|sN<|gS rfl rfl<|sV (.d (ap.pd a0))<|sV (.d (ar.pd a1))<|sM rfl<|bE h fun x1 hx1 h=>cR (.tup [rM ae.pd x1.1,rM ak.pd x1.2.1,rI x1.2.2]) [] (oe hx1)<|sM rfl<|sV (rM ae.pd x1.1) ?_
 refine sV (rM ak.pd x1.2.1)<|sV (rI x1.2.2)<|sA rfl<|sA rfl<|sA rfl<|sN<|qS<|gS rfl rfl<|sM rfl<|sF h (fun h=>?_) fun h=>?_
 ·refine sN<|cT<|gS rfl rfl<|sM rfl<|sV .dH<|sA rfl<|sN<|qR ?_
  cases oI h
  exact qG
 refine sN<|cF<|qK<|gS rfl rfl<|sV .dH<|sN<|gS rfl rfl<|sV (r0)<|sN<|qS<|gS rfl rfl<|sM rfl<|bE h fun x3 hx3 h=>cD (ml hx3)<|sE (rI (x3.length:Int)) (dT _ _) ?_
 refine sV (r0)<|sN<|bE h fun o41 ho41 h=>WC.block (WC.loop (WL.gv ho41 (fun s R' B'=>cI prog 0 (A R' B') (aC.at_ 32 0 7)=some (A [(3,.ptr 48 0),(8,rM ae.pd x1.1),(9,rM ak.pd x1.2.1),(11,.ref 848 0),(12,rI s.1),(29,rL x3),(30,rI (x3.length:Int)),(31,rI s.2.1)] [(48,.var (ap.rc a0)),(848,.nest 0 42 66 (s.2.2.map (List.map ae.pd)) none)])) (fun o e R' B'=>e= .exit 0∧cI prog 0 (A R' B') (aC.at_ 32 0 14)=some (A [(11,.ref 848 0)] [(848,.nest 0 42 66 (o.map (List.map ae.pd)) none)])) rfl ?_ ?_))
 ·rintro⟨s4,s5,s6⟩ R' B' q8 hI h
  refine gS rfl hI<|sF h (fun h=>?_) fun h=>?_
  ·refine sN<|qS<|cT<|qK<|qS<|qB<|gS rfl rfl<|sM rfl<|bE h fun x10 hx10 h=>eG hx10 rfl<|sC rfl<|sA rfl<|sA rfl<|sN<|qS ?_
   refine WC.dG rfl rfl<|sM rfl<|sF h (fun h=>?_) fun h=>?_
   ·refine sM rfl<|k3<|k3<|k3<|sK<|sK<|sT ?_
    refine sN<|sO<|cT<|WC.region (R0:=[(3,.ptr 48 0),(8,rM ae.pd x1.1),(9,rM ak.pd x1.2.1),(11,.ref 848 0),(14,rI x10),(29,rL x3),(30,rI (x3.length:Int)),(31,rI s5)]) (B0:=[(48,.var (ap.rc a0)),(848,.nest 0 42 66 (s6.map (List.map ae.pd)) none)]) rfl rfl<|sM rfl<|sV (.d (.lst [nil0]))<|bE h fun x12 hx12 h=>WO.appNN hx12 rfl rfl rfl rfl rfl rfl rfl rfl rfl rfl rfl rfl rfl rfl<|sA rfl<|sN<|gS rfl rfl<|sM rfl<|sM rfl<|bE h fun x13 hx13 h=>eG hx13 rfl<|sV (.cptr [.int .i64 x13.aK,.int .i64 x13.bf,.int .i64 x13.bA]) ?_
    refine sC rfl<|sA rfl<|sN<|bE h fun x14 hx14 h=>WC.kI (uu hx14 rfl rfl rfl) rfl<|sM rfl<|sM rfl<|WO.lenN rfl rfl rfl rfl rfl rfl rfl rfl rfl<|sV (rI (rW ((x12.length:Int)-(1:Int))))<|sM rfl<|sM rfl<|WO.lenN rfl rfl rfl rfl rfl rfl rfl rfl rfl<|sV (rI (rW ((x12.length:Int)-(1:Int))))<|bE h fun x15 hx15 h=>WO.eltN hx15 rfl rfl rfl rfl rfl rfl rfl rfl ?_
    refine bE h fun x16 hx16 h=>WO.loadN hx16 rfl rfl rfl rfl rfl rfl<|sM rfl<|sM rfl<|bE h fun x17 hx17 h=>eG hx17 rfl<|sV (.d (ae.pd x17))<|sG (.d (.lst ([x17].map ae.pd)))<|bE h fun x18 hx18 h=>aR hx18 (fun _=>rfl) rfl<|bE h fun x19 hx19 h=>WO.eltN hx19 rfl rfl rfl rfl rfl rfl rfl rfl<|bE h fun x20 hx20 h=>WO.A5 hx20 rfl rfl rfl rfl rfl rfl rfl ?_
    refine sN<|sO<|WC.region rfl rfl<|sV (rI (rW (s5+(1:Int))))<|sM rfl<|sN ?_
    cases oI h
    exact⟨rfl,(tE rfl rfl (by decide) rfl)⟩
   refine sM rfl<|sM rfl<|sM rfl<|bE h fun x21 hx21 h=>eG hx21 rfl<|sV (.cptr [.int .i64 x21.aK,.int .i64 x21.bf,.int .i64 x21.bA])<|sC rfl<|sM rfl<|sV (rI (rW (x21.aK-s4)))<|sV (.ptr 48 0)<|sV (.ptr 48 11)<|sL rfl<|sV (rB (decide ((rW (x21.aK-s4))>a0.ah.cB)))<|sF h (fun h=>?_) fun h=>?_
   ·refine sN<|sO<|cT<|WC.region (R0:=[(3,.ptr 48 0),(8,rM ae.pd x1.1),(9,rM ak.pd x1.2.1),(11,.ref 848 0),(14,rI x10),(29,rL x3),(30,rI (x3.length:Int)),(31,rI s5)]) (B0:=[(48,.var (ap.rc a0)),(848,.nest 0 42 66 (s6.map (List.map ae.pd)) none)]) rfl rfl<|sM rfl<|sV (.d (.lst [nil0]))<|bE h fun x23 hx23 h=>WO.appNN hx23 rfl rfl rfl rfl rfl rfl rfl rfl rfl rfl rfl rfl rfl rfl<|sA rfl<|sN<|gS rfl rfl<|sM rfl<|sM rfl<|bE h fun x24 hx24 h=>eG hx24 rfl<|sV (.cptr [.int .i64 x24.aK,.int .i64 x24.bf,.int .i64 x24.bA]) ?_
    refine sC rfl<|sA rfl<|sN<|bE h fun x25 hx25 h=>WC.kI (uu hx25 rfl rfl rfl) rfl<|sM rfl<|sM rfl<|WO.lenN rfl rfl rfl rfl rfl rfl rfl rfl rfl<|sV (rI (rW ((x23.length:Int)-(1:Int))))<|sM rfl<|sM rfl<|WO.lenN rfl rfl rfl rfl rfl rfl rfl rfl rfl<|sV (rI (rW ((x23.length:Int)-(1:Int))))<|bE h fun x26 hx26 h=>WO.eltN hx26 rfl rfl rfl rfl rfl rfl rfl rfl ?_
    refine bE h fun x27 hx27 h=>WO.loadN hx27 rfl rfl rfl rfl rfl rfl<|sM rfl<|sM rfl<|bE h fun x28 hx28 h=>eG hx28 rfl<|sV (.d (ae.pd x28))<|sG (.d (.lst ([x28].map ae.pd)))<|bE h fun x29 hx29 h=>aR hx29 (fun _=>rfl) rfl<|bE h fun x30 hx30 h=>WO.eltN hx30 rfl rfl rfl rfl rfl rfl rfl rfl<|bE h fun x31 hx31 h=>WO.A5 hx31 rfl rfl rfl rfl rfl rfl rfl ?_
    refine sN<|sO<|WC.region rfl rfl<|sV (rI (rW (s5+(1:Int))))<|sM rfl<|sN ?_
    cases oI h
    exact⟨rfl,(tE rfl rfl (by decide) rfl)⟩
   refine sN<|sO<|cF<|qK<|gS rfl rfl<|sM rfl<|sM rfl<|bE h fun x32 hx32 h=>eG hx32 rfl<|sV (.cptr [.int .i64 x32.aK,.int .i64 x32.bf,.int .i64 x32.bA])<|sC rfl<|sA rfl<|sN<|bE h fun x33 hx33 h=>WC.kI (uu hx33 rfl rfl rfl) rfl<|sM rfl ?_
   refine sM rfl<|WO.lenN rfl rfl rfl rfl rfl rfl rfl rfl rfl<|sV (rI (rW ((s6.length:Int)-(1:Int))))<|sM rfl<|sM rfl<|WO.lenN rfl rfl rfl rfl rfl rfl rfl rfl rfl<|sV (rI (rW ((s6.length:Int)-(1:Int))))<|bE h fun x34 hx34 h=>WO.eltN hx34 rfl rfl rfl rfl rfl rfl rfl rfl<|bE h fun x35 hx35 h=>WO.loadN hx35 rfl rfl rfl rfl rfl rfl<|sM rfl<|sM rfl<|bE h fun x36 hx36 h=>eG hx36 rfl ?_
   refine sV (.d (ae.pd x36))<|sG (.d (.lst ([x36].map ae.pd)))<|bE h fun x37 hx37 h=>aR hx37 (fun _=>rfl) rfl<|bE h fun x38 hx38 h=>WO.eltN hx38 rfl rfl rfl rfl rfl rfl rfl rfl<|bE h fun x39 hx39 h=>WO.A5 hx39 rfl rfl rfl rfl rfl rfl rfl ?_
   refine sN<|sO<|WC.region rfl rfl<|sV (rI (rW (s5+(1:Int))))<|sM rfl<|sN ?_
   cases oI h
   exact⟨rfl,(tE rfl rfl (by decide) rfl)⟩
  refine sN<|qS<|cF<|qX ?_
  cases oI h
  exact⟨nofun,rfl,rfl⟩
 intro e R' B' he hq
 obtain⟨rfl,hI⟩:=hq
 refine qE<|qS<|gS rfl hI<|sM rfl<|WO.lenN rfl rfl rfl rfl rfl rfl rfl rfl rfl<|sV (r0)<|sN<|bE h fun o52 ho52 h=>WC.block (WC.loop (WL.gv ho52 (fun s R' B'=>cI prog 0 (A R' B') (aC.at_ 32 0 15)=some (A [(11,.ref 848 0),(77,.ref 848 0),(78,rI (o41.length:Int)),(79,rI s.1)] [(848,.nest 0 42 66 (s.2.map (List.map ae.pd)) none)])) (fun o e R' B'=>e= .exit 2∧cI prog 0 (A R' B') (aC.at_ 32 0 19)=some (A [(11,.d (.lst (o.map (fun l=>PD.lst (l.map ae.pd)))))] [])) rfl ?_ ?_))
 ·rintro⟨s42,s43⟩ R' B' q45 hI h
  refine gS rfl hI<|sF h (fun h=>?_) fun h=>?_
  ·refine sN<|qS<|cT<|qK<|qS<|qB<|bE h fun x47 hx47 h=>WC.iA (zj hx47 rfl rfl rfl rfl) rfl<|bE h fun x48 hx48 h=>WO.eltN hx48 rfl rfl rfl rfl rfl rfl rfl rfl<|bE h fun x49 hx49 h=>WO.loadN hx49 rfl rfl rfl rfl rfl rfl<|sA rfl<|sN<|WC.region rfl rfl ?_
   refine sM rfl<|bE h fun x50 hx50 h=>cR (.tup []) [(1312,.arr 0 66 (x50.map ae.pd))] (sort_79_80 hx50)<|sN<|WC.region rfl rfl<|sV (rI (rW (s42+(1:Int))))<|sM rfl<|sN ?_
   cases oI h
   exact⟨rfl,(tE rfl rfl (by decide) rfl)⟩
  refine sN<|qS<|cF<|qX ?_
  cases oI h
  exact⟨nofun,rfl,(tc rfl (Ac rfl rfl rfl))⟩
 intro e R' B' he hq
 obtain⟨rfl,hI⟩:=hq
 refine qE<|gS rfl hI<|sM rfl<|sA rfl<|sV (r0)<|sN<|qR ?_
 exact oI h▸qD
theorem iU{a0:(List UInt8)}{a1:(List UInt8)}{r:Int}(h:fN a0 a1=some r):EvP prog aC ext 240 [rS a0,rS a1] [] (rI r,[]):=by
 refine Ev.body rfl Tryz.func240 rfl (by kernel_rfl)<|gS rfl rfl<|sV (r0)<|sN<|qS<|qB<|gS rfl rfl<|sM rfl<|sM rfl<|sF h (fun h=>?_) fun h=>?_
 ·refine sA rfl<|sN<|cT<|gS rfl rfl<|sV (rI (-1))<|sN<|qR ?_
  exact oI h▸qD
 refine sA rfl<|sN<|cF<|gS rfl rfl<|sM rfl<|sM rfl<|sF h (fun h=>?_) fun h=>?_
 ·refine sA rfl<|sN<|cT<|gS rfl rfl<|sV (rI 1)<|sN<|qR ?_
  exact oI h▸qD
 refine sA rfl<|sN<|cF<|qK<|gS rfl rfl<|sV (r0)<|sN<|qR ?_
 exact oI h▸qD
theorem ref03_Compare_ev{a0:aw}{a1:aw}{r:Int}(h:lg a0 a1=some r):EvP prog aC ext 154 [.d (aw.pd a0),.d (aw.pd a1)] [] (rI r,[]):=by
 refine Ev.body rfl Tryz.func154 rfl (by kernel_rfl)<|gS rfl rfl<|sB (.ptr 32 0) 32 (.var (aw.rc a0))<|sB (.ptr 48 0) 48 (.var (aw.rc a1))<|sV (r0)<|sN<|qS<|WC.dG rfl rfl<|sV (.ptr 32 0)<|sL rfl<|sV (.ptr 48 0)<|sL rfl<|bE h fun x1 hx1 h=>cD (iU hx1)<|sV (.ptr 32 1) ?_
 refine sL rfl<|sV (.ptr 48 1)<|sL rfl<|bE h fun x2 hx2 h=>cD (iU hx2)<|sV (.ptr 32 2)<|sL rfl<|sV (.ptr 48 2)<|sL rfl<|bE h fun x3 hx3 h=>cD (iU hx3)<|sV (.ptr 32 3)<|sL rfl<|sV (.ptr 48 3)<|sL rfl ?_
 refine bE h fun x4 hx4 h=>cD (iU hx4)<|sV (.d (A4_Int.pd (A4_Int.mk x1 x2 x3 x4)))<|sV (r0) ?_
 refine sN<|sO<|WC.block (WC.loop ?_)
 refine WL.round<|gS rfl rfl<|sT<|sN<|qS<|cT<|qK<|qS<|qB<|gS rfl rfl<|sV (rI x1)<|sA rfl<|sN<|gS rfl rfl<|sM rfl ?_
 refine sF h (fun h=>?_) fun h=>?_
 ·refine sN<|cT<|gS rfl rfl<|sM rfl<|sA rfl<|sN<|qR ?_
  exact oI h▸qD
 refine sN<|cF<|qK<|WC.region rfl rfl<|sV (rI 1)<|sM rfl<|sN<|WL.round<|gS rfl rfl<|sT<|sN<|qS<|cT<|qK<|qS ?_
 refine qB<|gS rfl rfl<|sV (rI x2)<|sA rfl<|sN<|gS rfl rfl<|sM rfl<|sF h (fun h=>?_) fun h=>?_
 ·refine sN<|cT<|gS rfl rfl<|sM rfl<|sA rfl<|sN<|qR ?_
  exact oI h▸qD
 refine sN<|cF<|qK<|WC.region rfl rfl<|sV (rI 2)<|sM rfl<|sN<|WL.round<|gS rfl rfl<|sT<|sN<|qS<|cT<|qK<|qS ?_
 refine qB<|gS rfl rfl<|sV (rI x3)<|sA rfl<|sN<|gS rfl rfl<|sM rfl<|sF h (fun h=>?_) fun h=>?_
 ·refine sN<|cT<|gS rfl rfl<|sM rfl<|sA rfl<|sN<|qR ?_
  exact oI h▸qD
 refine sN<|cF<|qK<|WC.region rfl rfl<|sV (rI 3)<|sM rfl<|sN<|WL.round<|gS rfl rfl<|sT<|sN<|qS<|cT<|qK<|qS ?_
 refine qB<|gS rfl rfl<|sV (rI x4)<|sA rfl<|sN<|gS rfl rfl<|sM rfl<|sF h (fun h=>?_) fun h=>?_
 ·refine sN<|cT<|gS rfl rfl<|sM rfl<|sA rfl<|sN<|qR ?_
  exact oI h▸qD
 refine sN<|cF<|qK<|WC.region rfl rfl<|sV (rI 4)<|sM rfl<|sN<|WL.round<|gS rfl rfl<|sU<|sN<|qS<|cF<|qX<|qE ?_
 refine gS rfl rfl<|sV (r0)<|sN<|qR ?_
 exact oI h▸qD
theorem nA{a0:ae}{a1:ae}{r:Int}(h:jk a0 a1=some r):EvP prog aC ext 81 [.d (ae.pd a0),.d (ae.pd a1)] [] (rI r,[]):=by
 refine Ev.body rfl Tryz.func81 rfl (by kernel_rfl)<|gS rfl rfl<|sB (.ptr 32 0) 32 (.var (ae.rc a0))<|sB (.ptr 48 0) 48 (.var (ae.rc a1))<|sV (r0)<|sN<|qS<|gS rfl rfl<|sV (.ptr 32 0)<|sV (.d (aw.pd a0.aD))<|sV (.ptr 48 0)<|sV (.d (aw.pd a1.aD))<|bE h fun x1 hx1 h=>cD (ref03_Compare_ev hx1)<|sA rfl ?_
 refine sN<|gS rfl rfl<|sM rfl<|sF h (fun h=>?_) fun h=>?_
 ·refine sN<|cT<|gS rfl rfl<|sM rfl<|sA rfl<|sN<|qR ?_
  cases oI h
  exact qG
 refine sN<|cF<|qK<|qS<|gS rfl rfl<|sV (.ptr 32 4)<|sL rfl<|sV (.ptr 48 4)<|sL rfl<|sV (.d (bH.pd (bH.mk a0.aX a1.aX)))<|sV (.ptr 32 5)<|sL rfl<|sV (.ptr 48 5)<|sL rfl<|sV (.d (bH.pd (bH.mk a0.aK a1.aK))) ?_
 refine sV (.ptr 32 6)<|sL rfl<|sV (.ptr 48 6)<|sL rfl<|sV (.d (bH.pd (bH.mk a0.bf a1.bf)))<|sV (.ptr 32 7)<|sL rfl<|sV (.ptr 48 7)<|sL rfl<|sV (.d (bH.pd (bH.mk a0.aQ a1.aQ)))<|sV (.ptr 32 8)<|sL rfl<|sV (.ptr 48 8)<|sL rfl<|sV (.d (bH.pd (bH.mk a0.aU a1.aU))) ?_
 refine sG (.d (dI.pd (dI.mk (bH.mk a0.aX a1.aX) (bH.mk a0.aK a1.aK) (bH.mk a0.bf a1.bf) (bH.mk a0.aQ a1.aQ) (bH.mk a0.aU a1.aU))))<|sV (r0)<|sN<|WC.block (WC.loop ?_)
 refine WL.round<|WC.iA (R0:=[(41,.d (dI.pd (dI.mk (bH.mk a0.aX a1.aX) (bH.mk a0.aK a1.aK) (bH.mk a0.bf a1.bf) (bH.mk a0.aQ a1.aQ) (bH.mk a0.aU a1.aU)))),(42,r0)]) (B0:=[]) rfl rfl<|sT<|sN<|qS<|cT<|qK<|qS<|qB<|gS rfl rfl<|sV (.d (bH.pd (bH.mk a0.aX a1.aX)))<|sB (.ptr 112 0) 112 (.var [r0,r0])<|sS 112 (.var [rI a0.aX,rI a1.aX])<|sN<|qS ?_
 refine gS rfl rfl<|sV (.ptr 112 0)<|sL rfl<|sV (.ptr 112 1)<|sL rfl<|sF h (fun h=>?_) fun h=>?_
 ·refine sN<|cT<|gS rfl rfl<|sV (rI (-1))<|sN<|qR ?_
  exact oI h▸qD
 refine sN<|cF<|qK<|gS rfl rfl<|sV (.ptr 112 0)<|sL rfl<|sV (.ptr 112 1)<|sL rfl<|sF h (fun h=>?_) fun h=>?_
 ·refine sN<|cT<|gS rfl rfl<|sV (rI 1)<|sN<|qR ?_
  exact oI h▸qD
 refine sN<|cF<|qK<|WC.region rfl rfl<|sV (rI 1)<|sM rfl<|sN<|WL.round<|WC.iA (R0:=[(41,.d (dI.pd (dI.mk (bH.mk a0.aX a1.aX) (bH.mk a0.aK a1.aK) (bH.mk a0.bf a1.bf) (bH.mk a0.aQ a1.aQ) (bH.mk a0.aU a1.aU)))),(42,rI 1)]) (B0:=[]) rfl rfl<|sT<|sN<|qS<|cT<|qK<|qS ?_
 refine qB<|gS rfl rfl<|sV (.d (bH.pd (bH.mk a0.aK a1.aK)))<|sB (.ptr 112 0) 112 (.var [r0,r0])<|sS 112 (.var [rI a0.aK,rI a1.aK])<|sN<|qS<|gS rfl rfl<|sV (.ptr 112 0)<|sL rfl<|sV (.ptr 112 1)<|sL rfl<|sF h (fun h=>?_) fun h=>?_
 ·refine sN<|cT<|gS rfl rfl<|sV (rI (-1))<|sN<|qR ?_
  exact oI h▸qD
 refine sN<|cF<|qK<|gS rfl rfl<|sV (.ptr 112 0)<|sL rfl<|sV (.ptr 112 1)<|sL rfl<|sF h (fun h=>?_) fun h=>?_
 ·refine sN<|cT<|gS rfl rfl<|sV (rI 1)<|sN<|qR ?_
  exact oI h▸qD
 refine sN<|cF<|qK<|WC.region rfl rfl<|sV (rI 2)<|sM rfl<|sN<|WL.round<|WC.iA (R0:=[(41,.d (dI.pd (dI.mk (bH.mk a0.aX a1.aX) (bH.mk a0.aK a1.aK) (bH.mk a0.bf a1.bf) (bH.mk a0.aQ a1.aQ) (bH.mk a0.aU a1.aU)))),(42,rI 2)]) (B0:=[]) rfl rfl<|sT<|sN<|qS<|cT<|qK<|qS ?_
 refine qB<|gS rfl rfl<|sV (.d (bH.pd (bH.mk a0.bf a1.bf)))<|sB (.ptr 112 0) 112 (.var [r0,r0])<|sS 112 (.var [rI a0.bf,rI a1.bf])<|sN<|qS<|gS rfl rfl<|sV (.ptr 112 0)<|sL rfl<|sV (.ptr 112 1)<|sL rfl<|sF h (fun h=>?_) fun h=>?_
 ·refine sN<|cT<|gS rfl rfl<|sV (rI (-1))<|sN<|qR ?_
  exact oI h▸qD
 refine sN<|cF<|qK<|gS rfl rfl<|sV (.ptr 112 0)<|sL rfl<|sV (.ptr 112 1)<|sL rfl<|sF h (fun h=>?_) fun h=>?_
 ·refine sN<|cT<|gS rfl rfl<|sV (rI 1)<|sN<|qR ?_
  exact oI h▸qD
 refine sN<|cF<|qK<|WC.region rfl rfl<|sV (rI 3)<|sM rfl<|sN<|WL.round<|WC.iA (R0:=[(41,.d (dI.pd (dI.mk (bH.mk a0.aX a1.aX) (bH.mk a0.aK a1.aK) (bH.mk a0.bf a1.bf) (bH.mk a0.aQ a1.aQ) (bH.mk a0.aU a1.aU)))),(42,rI 3)]) (B0:=[]) rfl rfl<|sT<|sN<|qS<|cT<|qK<|qS ?_
 refine qB<|gS rfl rfl<|sV (.d (bH.pd (bH.mk a0.aQ a1.aQ)))<|sB (.ptr 112 0) 112 (.var [r0,r0])<|sS 112 (.var [rI a0.aQ,rI a1.aQ])<|sN<|qS<|gS rfl rfl<|sV (.ptr 112 0)<|sL rfl<|sV (.ptr 112 1)<|sL rfl<|sF h (fun h=>?_) fun h=>?_
 ·refine sN<|cT<|gS rfl rfl<|sV (rI (-1))<|sN<|qR ?_
  exact oI h▸qD
 refine sN<|cF<|qK<|gS rfl rfl<|sV (.ptr 112 0)<|sL rfl<|sV (.ptr 112 1)<|sL rfl<|sF h (fun h=>?_) fun h=>?_
 ·refine sN<|cT<|gS rfl rfl<|sV (rI 1)<|sN<|qR ?_
  exact oI h▸qD
 refine sN<|cF<|qK<|WC.region rfl rfl<|sV (rI 4)<|sM rfl<|sN<|WL.round<|WC.iA (R0:=[(41,.d (dI.pd (dI.mk (bH.mk a0.aX a1.aX) (bH.mk a0.aK a1.aK) (bH.mk a0.bf a1.bf) (bH.mk a0.aQ a1.aQ) (bH.mk a0.aU a1.aU)))),(42,rI 4)]) (B0:=[]) rfl rfl<|sT<|sN<|qS<|cT<|qK<|qS ?_
 refine qB<|gS rfl rfl<|sV (.d (bH.pd (bH.mk a0.aU a1.aU)))<|sB (.ptr 112 0) 112 (.var [r0,r0])<|sS 112 (.var [rI a0.aU,rI a1.aU])<|sN<|qS<|gS rfl rfl<|sV (.ptr 112 0)<|sL rfl<|sV (.ptr 112 1)<|sL rfl<|sF h (fun h=>?_) fun h=>?_
 ·refine sN<|cT<|gS rfl rfl<|sV (rI (-1))<|sN<|qR ?_
  exact oI h▸qD
 refine sN<|cF<|qK<|gS rfl rfl<|sV (.ptr 112 0)<|sL rfl<|sV (.ptr 112 1)<|sL rfl<|sF h (fun h=>?_) fun h=>?_
 ·refine sN<|cT<|gS rfl rfl<|sV (rI 1)<|sN<|qR ?_
  exact oI h▸qD
 refine sN<|cF<|qK<|WC.region rfl rfl<|sV (rI 5)<|sM rfl<|sN<|WL.round<|WC.iA (R0:=[(41,.d (dI.pd (dI.mk (bH.mk a0.aX a1.aX) (bH.mk a0.aK a1.aK) (bH.mk a0.bf a1.bf) (bH.mk a0.aQ a1.aQ) (bH.mk a0.aU a1.aU)))),(42,rI 5)]) (B0:=[]) rfl rfl<|sU<|sN<|qS<|cF<|qX<|qE ?_
 refine gS rfl rfl<|sV (r0)<|sN<|qR ?_
 exact oI h▸qD
theorem ref34_Compare_ev{a0:ae}{a1:ae}{r:Int}(h:lj a0 a1=some r):EvP prog aC ext 43 [.d (ae.pd a0),.d (ae.pd a1)] [] (rI r,[]):=by
 refine Ev.body rfl Tryz.func43 rfl (by kernel_rfl)<|gS rfl rfl<|sB (.ptr 32 0) 32 (.var (ae.rc a0))<|sB (.ptr 48 0) 48 (.var (ae.rc a1))<|sV (r0)<|sN<|qS<|gS rfl rfl<|sV (.ptr 32 4)<|sL rfl<|sV (.ptr 48 4)<|sL rfl<|sF h (fun h=>?_) fun h=>?_
 ·refine sN<|cT<|gS rfl rfl<|sV (rI (-1))<|sN<|qR ?_
  cases oI h
  exact qG
 refine sN<|cF<|qK<|qS<|gS rfl rfl<|sV (.ptr 32 4)<|sL rfl<|sV (.ptr 48 4)<|sL rfl<|sF h (fun h=>?_) fun h=>?_
 ·refine sN<|cT<|gS rfl rfl<|sV (rI 1)<|sN<|qR ?_
  cases oI h
  exact qG
 refine sN<|cF<|qK<|gS rfl rfl<|sV (.d (ae.pd a0))<|sV (.d (ae.pd a1))<|bE h fun x3 hx3 h=>cD (nA hx3)<|sA rfl<|sN<|qR ?_
 cases oI h
 exact qG
theorem ref34_insert_ev{a0:(List au)}{a1:au}{r:(List au)}(h:l8 a0 a1=some r):EvP prog aC ext 71 [rM au.pd a0,.d (au.pd a1)] [] (rM au.pd r,[]):=by
 refine Ev.body rfl Tryz.func71 rfl (by kernel_rfl)<|gS rfl rfl<|sB (.ptr 48 0) 48 (.var (au.rc a1))<|sV .dH<|sN<|gS rfl rfl<|sV (r0)<|sN<|qS<|bE h fun o9 ho9 h=>WC.block (WC.loop (WL.gv ho9 (fun s R' B'=>cI prog 0 (A R' B') (aC.at_ 71 0 2)=some (A [(0,rM au.pd a0),(3,.ptr 48 0),(5,rI s)] [(48,.var (au.rc a1))])) (fun o e R' B'=>e= .exit 0∧cI prog 0 (A R' B') (aC.at_ 71 0 4)=some (A [(0,rM au.pd a0),(3,.ptr 48 0),(5,rI o)] [(48,.var (au.rc a1))])) rfl ?_ ?_))
 ·rintro s1 R' B' q3 hI h
  refine qS<|WC.dG hI rfl<|sM rfl<|sM rfl<|sE (rI (a0.length:Int)) (dT _ _)<|sF h (fun h=>?_) fun h=>?_
  ·refine sM rfl<|sM rfl<|sM rfl<|bE h fun x5 hx5 h=>eG hx5 rfl<|sV (.cptr [.str x5.aZ.aD.a8,.str x5.aZ.aD.aN,.str x5.aZ.aD.aq,.str x5.aZ.aD.bd,.int .i64 x5.aZ.aX,.int .i64 x5.aZ.aK,.int .i64 x5.aZ.bf,.int .i64 x5.aZ.aQ,.int .i64 x5.aZ.aU,.lst (x5.aB.cg.map ae.pd),.int .i64 x5.aB.aq.aV.fX,.int .i64 x5.aB.aq.aV.fY,.int .i64 x5.aB.aq.aV.fZ,.int .i64 x5.aB.aq.aX,.int .i64 x5.aB.aq.bh,.int .i64 x5.aB.aq.d5,.int .i64 x5.aB.aq.aY.aL.fX,.int .i64 x5.aB.aq.aY.aL.fY,.int .i64 x5.aB.aq.aY.aL.fZ,.int .i64 x5.aB.aq.aY.aF.fX,.int .i64 x5.aB.aq.aY.aF.fY,.int .i64 x5.aB.aq.aY.aF.fZ,.int .i64 x5.aB.bt.aL,.int .i64 x5.aB.bt.aF,.int .i64 x5.aB.gu])<|sV (.d (ae.pd x5.aZ))<|sV (.ptr 48 0)<|sV (.d (ae.pd a1.aZ))<|bE h fun x6 hx6 h=>cD (ref34_Compare_ev hx6)<|sV (rB (decide (x6<(0:Int))))<|sF h (fun h=>?_) fun h=>?_
   ·refine sN<|sO<|cT<|qK<|qB<|WC.region rfl rfl<|sM rfl<|sV (rI (rW (s1+(1:Int))))<|sA rfl<|sN ?_
    cases oI h
    exact⟨rfl,rfl⟩
   refine sN<|sO<|cF<|qX ?_
   cases oI h
   exact⟨nofun,rfl,rfl⟩
  refine sM rfl<|k3<|k3<|k3<|sU ?_
  refine sN<|sO<|cF<|qX ?_
  cases oI h
  exact⟨nofun,rfl,rfl⟩
 intro e R' B' he hq
 obtain⟨rfl,hI⟩:=hq
 refine qE<|gS rfl hI<|sB (.ref 384 0) 384 (.arr 0 86 (([]:List au).map au.pd))<|sM rfl<|sM rfl<|bE h fun x10 hx10 h=>WO.cutL (sz:=25) (g:=au.pd) hx10 (fun _=>rfl) rfl rfl rfl rfl rfl rfl rfl rfl rfl rfl rfl<|bE h fun x11 hx11 h=>aR hx11 (fun _=>rfl) rfl<|sA rfl<|sN<|WC.dG rfl rfl<|sM rfl<|sV (.d (au.pd a1))<|sG (.d (.lst ([a1].map au.pd))) ?_
 refine bE h fun x12 hx12 h=>aR hx12 (fun _=>rfl) rfl<|sM rfl<|sM rfl<|bE h fun x13 hx13 h=>WO.cutL (sz:=25) (g:=au.pd) hx13 (fun _=>rfl) rfl rfl rfl rfl rfl rfl rfl rfl rfl rfl rfl<|bE h fun x14 hx14 h=>aR hx14 (fun _=>rfl) rfl<|sA rfl ?_
 refine sN<|sO<|qR ?_
 cases oI h
 exact qG
theorem ref34_Join_ev{a0:(List au)}{a1:(List au)}{r:(List au)}(h:nZ a0 a1=some r):EvP prog aC ext 22 [rM au.pd a0,rM au.pd a1] [] (rM au.pd r,[]):=by
 refine Ev.body rfl Tryz.func22 rfl (by kernel_rfl)<|gS rfl rfl<|sV .dH<|sN<|qS<|gS rfl rfl<|sV (r0)<|sN<|bE h fun o9 ho9 h=>WC.block (WC.loop (WL.gv ho9 (fun s R' B'=>cI prog 0 (A R' B') (aC.at_ 22 0 2)=some (A [(0,rM au.pd s.1),(1,rM au.pd a1),(5,rI s.2)] [])) (fun o e R' B'=>e= .exit 0∧cI prog 0 (A R' B') (aC.at_ 22 0 5)=some (A [(0,rM au.pd o)] [])) rfl ?_ ?_))
 ·rintro⟨s1,s2⟩ R' B' q4 hI h
  refine qS<|gS rfl hI<|sM rfl<|sM rfl<|sE (rI (a1.length:Int)) (dT _ _)<|sF h (fun h=>?_) fun h=>?_
  ·refine sN<|cT<|qK<|qS<|qB<|WC.region rfl rfl<|sM rfl<|sM rfl<|sM rfl<|bE h fun x6 hx6 h=>eG hx6 rfl<|sV (.d (au.pd x6))<|bE h fun x7 hx7 h=>cD (ref34_insert_ev hx7)<|sA rfl ?_
   refine sN<|WC.region rfl rfl<|sM rfl<|sV (rI (rW (s2+(1:Int))))<|sA rfl<|sN ?_
   cases oI h
   exact⟨rfl,rfl⟩
  refine sN<|cF<|qX ?_
  cases oI h
  exact⟨nofun,rfl,rfl⟩
 intro e R' B' he hq
 obtain⟨rfl,hI⟩:=hq
 refine qE<|gS rfl hI<|sM rfl<|sA rfl<|sN<|qR ?_
 exact oI h▸qD
theorem jB{a0:(List ae)}{a1:(List ae)}{r:Bool}(h:fq a0 a1=some r):EvP prog aC ext 26 [rM ae.pd a0,rM ae.pd a1] [] (rB r,[]):=by
 refine Ev.body rfl Tryz.func26 rfl (by kernel_rfl)<|gS rfl rfl<|sU<|sN<|qS<|gS rfl rfl<|sM rfl<|sE (rI (a0.length:Int)) (dT _ _)<|sM rfl<|sE (rI (a1.length:Int)) (dT _ _)<|sF h (fun h=>?_) fun h=>?_
 ·refine sN<|cT<|gS rfl rfl<|sU<|sN<|qR ?_
  exact oI h▸qD
 refine sN<|cF<|qK<|qS<|gS rfl rfl<|sV (r0)<|sN<|bE h fun o9 ho9 h=>WC.block (WC.loop (WL.gv ho9 (fun s R' B'=>cI prog 0 (A R' B') (aC.at_ 26 0 4)=some (A [(0,rM ae.pd a0),(1,rM ae.pd a1),(5,rI s)] [])) (fun o e R' B'=>match o with| .inl y=>e= .exit 0∧cI prog 0 (A R' B') (aC.at_ 26 0 8)=some (A [] [])| .inr r=>e= .ret∧finish prog (aC.own 26) Tryz.f26 0 (A R' B')=some (rB r,[])) rfl ?_ ?_))
 ·rintro s2 R' B' q3 hI h
  refine qS<|gS rfl hI<|sM rfl<|sM rfl<|sE (rI (a0.length:Int)) (dT _ _)<|sF h (fun h=>?_) fun h=>?_
  ·refine sN<|cT<|qK<|qS<|qB<|WC.dG rfl rfl<|sM rfl<|sM rfl<|bE h fun x5 hx5 h=>eG hx5 rfl<|sV (.d (ae.pd x5))<|sM rfl<|sM rfl<|bE h fun x6 hx6 h=>eG hx6 rfl ?_
   refine sV (.d (ae.pd x6))<|kB h (fun hb7 h=>?_) (fun hb7 h=>?_)
   ·refine WO.uS (eqN_66 x5 x6) hb7 rfl rfl rfl rfl rfl ?_
    refine sN<|sO<|cT<|gS rfl rfl<|sU<|sN<|qR ?_
    cases oI h
    exact⟨nofun,rfl,rfl⟩
   refine WO.uS (eqN_66 x5 x6) hb7 rfl rfl rfl rfl rfl ?_
   refine sN<|sO<|cF<|qK<|WC.region rfl rfl<|sM rfl<|sV (rI (rW (s2+(1:Int))))<|sA rfl<|sN ?_
   cases oI h
   exact⟨rfl,rfl⟩
  refine sN<|cF<|qX ?_
  cases oI h
  exact⟨nofun,rfl,rfl⟩
 intro e R' B' he hq
 rcases o9 with y10|r11
 ·obtain⟨rfl,hI⟩:=hq
  refine qE<|gS rfl hI<|sT<|sN<|qR ?_
  exact oI h▸qD
 obtain⟨rfl,hf⟩:=hq
 cases oI h
 exact hf
theorem ref33_Same_ev{a0:bc}{a1:bc}{r:Bool}(h:nY a0 a1=some r):EvP prog aC ext 70 [.d (bc.pd a0),.d (bc.pd a1)] [] (rB r,[]):=by
 refine Ev.body rfl Tryz.func70 rfl (by kernel_rfl)<|gS rfl rfl<|sB (.ptr 32 0) 32 (.var (bc.rc a0))<|sB (.ptr 48 0) 48 (.var (bc.rc a1))<|sU<|sN<|gS rfl rfl<|sV (.ptr 32 0)<|sL rfl<|sV (.ptr 48 0)<|sL rfl<|bE h fun x1 hx1 h=>kB h (fun hb2 h=>?_) (fun hb2 h=>?_)
 ·refine WO.qw (v:=rB true) (u:=[]) rfl rfl (fun _=>rfl) rfl rfl rfl rfl rfl (jB hx1) rfl rfl (congrArg (fun b=>RV.d (.bool b)) hb2) rfl<|sM rfl<|sV (.ptr 32 1)<|sV (.d (aj.pd a0.aq))<|sV (.ptr 48 1)<|sV (.d (aj.pd a1.aq))<|WO.bin (eqE_45 a0.aq a1.aq) rfl rfl rfl rfl rfl<|sF h (fun h=>?_) fun h=>?_
  ·refine sM rfl<|sV (.ptr 32 13)<|sV (.d (aA.pd a0.bt))<|sV (.ptr 48 13)<|sV (.d (aA.pd a1.bt))<|WO.bin (eqE_47 a0.bt a1.bt) rfl rfl rfl rfl rfl<|sF h (fun h=>?_) fun h=>?_
   ·refine sM rfl<|sV (.ptr 32 15)<|sL rfl<|sV (.ptr 48 15)<|sL rfl<|sV (rB (a0.gu==a1.gu))<|sV (rB (a0.gu==a1.gu))<|sA rfl<|sN<|qR ?_
    cases oI h
    exact qG
   refine sM rfl<|k3<|sK<|sK<|sU<|sA rfl<|sN<|qR ?_
   cases oI h
   exact qG
  refine sM rfl<|k3<|sK<|sK<|sU<|sM rfl<|k3<|sK<|sK<|sU<|sA rfl ?_
  refine sN<|qR ?_
  cases oI h
  exact qG
 refine WO.qw (v:=rB false) (u:=[]) rfl rfl (fun _=>rfl) rfl rfl rfl rfl rfl (jB hx1) rfl rfl (congrArg (fun b=>RV.d (.bool b)) hb2) rfl<|sM rfl<|k3<|sK<|sK<|sU<|sM rfl<|k3<|sK<|sK<|sU ?_
 refine sM rfl<|k3<|sK<|sK<|sU<|sA rfl<|sN<|qR ?_
 cases oI h
 exact qG
theorem pC{a0:(List au)}{a1:(List au)}{r:Bool}(h:mD a0 a1=some r):EvP prog aC ext 21 [rM au.pd a0,rM au.pd a1] [] (rB r,[]):=by
 refine Ev.body rfl Tryz.func21 rfl (by kernel_rfl)<|gS rfl rfl<|sU<|sN<|qS<|gS rfl rfl<|sM rfl<|sE (rI (a0.length:Int)) (dT _ _)<|sM rfl<|sE (rI (a1.length:Int)) (dT _ _)<|sF h (fun h=>?_) fun h=>?_
 ·refine sN<|cT<|gS rfl rfl<|sU<|sN<|qR ?_
  exact oI h▸qD
 refine sN<|cF<|qK<|qS<|gS rfl rfl<|sV (r0)<|sN<|bE h fun o13 ho13 h=>WC.block (WC.loop (WL.gv ho13 (fun s R' B'=>cI prog 0 (A R' B') (aC.at_ 21 0 4)=some (A [(0,rM au.pd a0),(1,rM au.pd a1),(5,rI s)] [])) (fun o e R' B'=>match o with| .inl y=>e= .exit 0∧cI prog 0 (A R' B') (aC.at_ 21 0 8)=some (A [] [])| .inr r=>e= .ret∧finish prog (aC.own 21) Tryz.f21 0 (A R' B')=some (rB r,[])) rfl ?_ ?_))
 ·rintro s2 R' B' q3 hI h
  refine qS<|gS rfl hI<|sM rfl<|sM rfl<|sE (rI (a0.length:Int)) (dT _ _)<|sF h (fun h=>?_) fun h=>?_
  ·refine sN<|cT<|qK<|qS<|qB<|WC.dG rfl rfl<|sM rfl<|sM rfl<|bE h fun x5 hx5 h=>eG hx5 rfl<|sV (.cptr [.str x5.aZ.aD.a8,.str x5.aZ.aD.aN,.str x5.aZ.aD.aq,.str x5.aZ.aD.bd,.int .i64 x5.aZ.aX,.int .i64 x5.aZ.aK,.int .i64 x5.aZ.bf,.int .i64 x5.aZ.aQ,.int .i64 x5.aZ.aU,.lst (x5.aB.cg.map ae.pd),.int .i64 x5.aB.aq.aV.fX,.int .i64 x5.aB.aq.aV.fY,.int .i64 x5.aB.aq.aV.fZ,.int .i64 x5.aB.aq.aX,.int .i64 x5.aB.aq.bh,.int .i64 x5.aB.aq.d5,.int .i64 x5.aB.aq.aY.aL.fX,.int .i64 x5.aB.aq.aY.aL.fY,.int .i64 x5.aB.aq.aY.aL.fZ,.int .i64 x5.aB.aq.aY.aF.fX,.int .i64 x5.aB.aq.aY.aF.fY,.int .i64 x5.aB.aq.aY.aF.fZ,.int .i64 x5.aB.bt.aL,.int .i64 x5.aB.bt.aF,.int .i64 x5.aB.gu])<|sV (.d (ae.pd x5.aZ))<|sM rfl<|sM rfl<|bE h fun x6 hx6 h=>?_
   refine eG hx6 rfl<|sV (.cptr [.str x6.aZ.aD.a8,.str x6.aZ.aD.aN,.str x6.aZ.aD.aq,.str x6.aZ.aD.bd,.int .i64 x6.aZ.aX,.int .i64 x6.aZ.aK,.int .i64 x6.aZ.bf,.int .i64 x6.aZ.aQ,.int .i64 x6.aZ.aU,.lst (x6.aB.cg.map ae.pd),.int .i64 x6.aB.aq.aV.fX,.int .i64 x6.aB.aq.aV.fY,.int .i64 x6.aB.aq.aV.fZ,.int .i64 x6.aB.aq.aX,.int .i64 x6.aB.aq.bh,.int .i64 x6.aB.aq.d5,.int .i64 x6.aB.aq.aY.aL.fX,.int .i64 x6.aB.aq.aY.aL.fY,.int .i64 x6.aB.aq.aY.aL.fZ,.int .i64 x6.aB.aq.aY.aF.fX,.int .i64 x6.aB.aq.aY.aF.fY,.int .i64 x6.aB.aq.aY.aF.fZ,.int .i64 x6.aB.bt.aL,.int .i64 x6.aB.bt.aF,.int .i64 x6.aB.gu])<|sV (.d (ae.pd x6.aZ))<|kB h (fun hb7 h=>?_) (fun hb7 h=>?_)
   ·refine WO.uS (eqN_66 x5.aZ x6.aZ) hb7 rfl rfl rfl rfl rfl<|sM rfl<|k3<|k3<|k3<|k3<|sT ?_
    refine sN<|sO<|cT<|gS rfl rfl<|sU<|sN<|qR ?_
    cases oI h
    exact⟨nofun,rfl,rfl⟩
   refine WO.uS (eqN_66 x5.aZ x6.aZ) hb7 rfl rfl rfl rfl rfl<|sM rfl<|sM rfl<|sM rfl<|bE h fun x8 hx8 h=>eG hx8 rfl<|sV (.cptr [.lst (x8.aB.cg.map ae.pd),.int .i64 x8.aB.aq.aV.fX,.int .i64 x8.aB.aq.aV.fY,.int .i64 x8.aB.aq.aV.fZ,.int .i64 x8.aB.aq.aX,.int .i64 x8.aB.aq.bh,.int .i64 x8.aB.aq.d5,.int .i64 x8.aB.aq.aY.aL.fX,.int .i64 x8.aB.aq.aY.aL.fY,.int .i64 x8.aB.aq.aY.aL.fZ,.int .i64 x8.aB.aq.aY.aF.fX,.int .i64 x8.aB.aq.aY.aF.fY,.int .i64 x8.aB.aq.aY.aF.fZ,.int .i64 x8.aB.bt.aL,.int .i64 x8.aB.bt.aF,.int .i64 x8.aB.gu])<|sV (.d (bc.pd x8.aB))<|sM rfl<|sM rfl<|bE h fun x9 hx9 h=>eG hx9 rfl<|sV (.cptr [.lst (x9.aB.cg.map ae.pd),.int .i64 x9.aB.aq.aV.fX,.int .i64 x9.aB.aq.aV.fY,.int .i64 x9.aB.aq.aV.fZ,.int .i64 x9.aB.aq.aX,.int .i64 x9.aB.aq.bh,.int .i64 x9.aB.aq.d5,.int .i64 x9.aB.aq.aY.aL.fX,.int .i64 x9.aB.aq.aY.aL.fY,.int .i64 x9.aB.aq.aY.aL.fZ,.int .i64 x9.aB.aq.aY.aF.fX,.int .i64 x9.aB.aq.aY.aF.fY,.int .i64 x9.aB.aq.aY.aF.fZ,.int .i64 x9.aB.bt.aL,.int .i64 x9.aB.bt.aF,.int .i64 x9.aB.gu])<|sV (.d (bc.pd x9.aB))<|bE h fun x10 hx10 h=>?_
   refine cD (ref33_Same_ev hx10)<|sV (rB (!x10))<|sF h (fun h=>?_) fun h=>?_
   ·refine sN<|sO<|cT<|gS rfl rfl<|sU<|sN<|qR ?_
    cases oI h
    exact⟨nofun,rfl,rfl⟩
   refine sN<|sO<|cF<|qK<|WC.region rfl rfl<|sM rfl<|sV (rI (rW (s2+(1:Int))))<|sA rfl<|sN ?_
   cases oI h
   exact⟨rfl,rfl⟩
  refine sN<|cF<|qX ?_
  cases oI h
  exact⟨nofun,rfl,rfl⟩
 intro e R' B' he hq
 rcases o13 with y14|r15
 ·obtain⟨rfl,hI⟩:=hq
  refine qE<|gS rfl hI<|sT<|sN<|qR ?_
  exact oI h▸qD
 obtain⟨rfl,hf⟩:=hq
 cases oI h
 exact hf
theorem ref23_Sort_ev{a0:(List ae)}{r:(List ae)}(h:nX a0=some r):EvP prog aC ext 33 [rM ae.pd a0] [] (rM ae.pd r,[]):=by
 refine Ev.body rfl Tryz.func33 rfl (by kernel_rfl)<|gS rfl rfl<|sV .dH<|sN<|gS rfl rfl<|sV .dH<|sN<|qS<|gS rfl rfl<|sV (r0)<|sN<|bE h fun o39 ho39 h=>WC.block (WC.loop (WL.gv ho39 (fun s R' B'=>cI prog 0 (A R' B') (aC.at_ 33 0 3)=some (A [(0,rM ae.pd a0),(3,.ref 816 0),(4,rI s.1)] [(816,.arr 0 66 (s.2.map ae.pd))])) (fun o e R' B'=>e= .exit 0∧cI prog 0 (A R' B') (aC.at_ 33 0 12)=some (A [(3,.ref 816 0)] [(816,.arr 0 66 (o.map ae.pd))])) rfl ?_ ?_))
 ·rintro⟨s1,s2⟩ R' B' q4 hI h
  refine qS<|gS rfl hI<|sM rfl<|sM rfl<|sE (rI (a0.length:Int)) (dT _ _)<|sF h (fun h=>?_) fun h=>?_
  ·refine sN<|cT<|qK<|qS<|qB<|gS rfl rfl<|sM rfl<|WO.ud rfl rfl rfl rfl rfl rfl rfl rfl rfl<|sA rfl<|sN<|qS<|bE h fun o19 ho19 h=>WC.block (WC.loop (WL.gv ho19 (fun s R' B'=>cI prog 0 (A R' B') (aC.at_ 33 0 6)=some (A [(0,rM ae.pd a0),(3,.ref 816 0),(4,rI s1),(5,rI s)] [(816,.arr 0 66 (s2.map ae.pd))])) (fun o e R' B'=>e= .exit 2∧cI prog 0 (A R' B') (aC.at_ 33 0 8)=some (A [(0,rM ae.pd a0),(3,.ref 816 0),(4,rI o.1),(5,rI o.2.1)] [(816,.arr 0 66 (o.2.2.map ae.pd))])) rfl ?_ ?_))
   ·rintro s6 R' B' q10 hI h
    refine qS<|WC.dG hI rfl<|sM rfl<|sF h (fun h=>?_) fun h=>?_
    ·refine sM rfl<|sM rfl<|sM rfl<|sV (rI (rW (s6-(1:Int))))<|bE h fun x13 hx13 h=>WO.qy hx13 rfl rfl rfl rfl rfl rfl rfl rfl<|bE h fun x14 hx14 h=>WO.pO hx14 rfl rfl rfl rfl rfl rfl<|sM rfl<|sM rfl<|bE h fun x15 hx15 h=>eG hx15 rfl<|sV (.d (ae.pd x15))<|bE h fun x16 hx16 h=>cD (nA hx16) ?_
     refine sV (rB (decide (x16>(0:Int))))<|sF h (fun h=>?_) fun h=>?_
     ·refine sN<|sO<|cT<|qK<|qB<|WC.region rfl rfl<|sM rfl<|sV (rI (rW (s6-(1:Int))))<|sA rfl<|sN ?_
      cases oI h
      exact⟨rfl,rfl⟩
     refine sN<|sO<|cF<|qX ?_
     cases oI h
     exact⟨nofun,rfl,rfl⟩
    refine sM rfl<|k3<|k3<|k3<|sK<|sK<|sU ?_
    refine sN<|sO<|cF<|qX ?_
    cases oI h
    exact⟨nofun,rfl,rfl⟩
   intro e R' B' he hq
   obtain⟨rfl,hI⟩:=hq
   refine qE<|WC.join (α:=Unit) (fun x R' B'=>cI prog 0 (A R' B') (aC.at_ 33 0 9)=some (A [(0,rM ae.pd a0),(3,.ref 816 0),(4,rI o19.1),(5,rI o19.2.1)] [(816,.arr 0 66 (o19.2.2.map ae.pd))])) (fun x=>gg a0 o19=some q4) ?_ ?_
   ·refine WC.dG hI rfl<|sM rfl<|sF h (fun h=>?_) fun h=>?_
    ·refine sM rfl<|sM rfl<|sM rfl<|sV (rI (rW (o19.2.1-(1:Int))))<|bE h fun x34 hx34 h=>WO.qy hx34 rfl rfl rfl rfl rfl rfl rfl rfl<|bE h fun x35 hx35 h=>WO.pO hx35 rfl rfl rfl rfl rfl rfl<|sM rfl<|sM rfl<|bE h fun x36 hx36 h=>eG hx36 rfl<|sV (.d (ae.pd x36))<|WO.bin (eqE_66 x35 x36) rfl rfl rfl rfl rfl<|sF h (fun h=>?_) fun h=>?_
     ·refine sN<|sO<|cT<|qX<|qE<|WC.region rfl rfl<|sM rfl<|sV (rI (rW (o19.1+(1:Int))))<|sA rfl<|sN ?_
      cases oI h
      exact⟨rfl,rfl⟩
     exact sN<|sO<|cF<|qK<|⟨(),rfl,h⟩
    refine sM rfl<|k3<|k3<|k3<|sK<|sU ?_
    exact sN<|sO<|cF<|qK<|⟨(),rfl,h⟩
   rintro⟨⟩ R' B' hI h
   refine gS rfl hI<|sM rfl<|sM rfl<|sM rfl<|bE h fun x20 hx20 h=>eG hx20 rfl<|sV (.d (ae.pd x20))<|sG (.d (.lst ([x20].map ae.pd)))<|bE h fun x21 hx21 h=>aR hx21 (fun _=>rfl) rfl<|sA rfl<|sN<|WC.dG rfl rfl<|sM rfl<|sM rfl ?_
   refine sV (rI (rW (o19.2.1+(1:Int))))<|bE h fun x22 hx22 h=>WO.subR hx22 rfl rfl rfl rfl rfl rfl rfl rfl rfl rfl rfl rfl<|sM rfl<|sM rfl<|bE h fun x23 hx23 h=>WO.subR hx23 rfl rfl rfl rfl rfl rfl rfl rfl rfl rfl rfl rfl<|bE h fun x24 hx24 h=>bE h fun x25 hx25 h=>WO.copyG rfl rfl rfl rfl rfl rfl rfl rfl (zX hx24 rfl) (src_view hx25 rfl) rfl rfl (fun _=>rfl) ?_
   refine sN<|sO<|WC.region rfl rfl<|sM rfl<|sM rfl<|sM rfl<|sM rfl<|bE h fun x27 hx27 h=>eG hx27 rfl<|sV (.d (ae.pd x27))<|bE h fun x29 hx29 h=>WO.qy hx29 rfl rfl rfl rfl rfl rfl rfl rfl<|bE h fun x30 hx30 h=>WO.rD (g:=ae.pd) (sz:=9) (p:=ae.pd x27) hx30 (by intro _;kernel_rfl) (by intro _;kernel_rfl) rfl rfl rfl rfl rfl rfl rfl rfl rfl<|sN<|WC.region rfl rfl ?_
   refine sM rfl<|sV (rI (rW (o19.1+(1:Int))))<|sA rfl<|sN ?_
   cases oI h
   exact⟨rfl,rfl⟩
  refine sN<|cF<|qX ?_
  cases oI h
  exact⟨nofun,rfl,rfl⟩
 intro e R' B' he hq
 obtain⟨rfl,hI⟩:=hq
 refine qE<|gS rfl hI<|sM rfl<|sA rfl<|sN<|qR ?_
 exact oI h▸qD
theorem lT{a0:au}{d0:ae}{r:Bool}(h:kJ a0 d0=some r):EvP prog aC ext 91 [.d (au.pd a0),.ptr 0 0] [.var (ae.rc d0)] (rB r,[.var (ae.rc d0)]):=by
 refine Ev.body rfl Tryz.func91 rfl (by kernel_rfl)<|gS rfl rfl<|sB (.ptr 32 0) 32 (.var (au.rc a0))<|sU<|sN<|gS rfl rfl<|sV (.ptr 32 0)<|sV (.d (ae.pd a0.aZ))<|sV (.d (ae.pd d0))<|WO.bin (eqE_66 a0.aZ d0) rfl rfl rfl rfl rfl<|sA rfl<|sN<|qR ?_
 cases oI h
 exact qG
theorem kW{a0:(List au)}{d0:ae}{r:Int}(h:eP a0 d0=some r):EvP prog aC ext 90 [rM au.pd a0,.clo 91 [.ptr 0 0]] [.var (ae.rc d0)] (rI r,[.var (ae.rc d0)]):=by
 refine Ev.body rfl Tryz.func90 rfl (by kernel_rfl)<|gS rfl rfl<|sV (r0)<|sN<|qS<|gS rfl rfl<|sM rfl<|sE (rI (a0.length:Int)) (dT _ _)<|sV (r0)<|sN<|bE h fun o8 ho8 h=>WC.block (WC.loop (WL.gv ho8 (fun s R' B'=>cI prog 1 (A R' B') (aC.at_ 90 1 2)=some (A [(0,rM au.pd a0),(1,.clo 91 [.ptr 0 0]),(7,rI (a0.length:Int)),(8,rI s)] [(0,.var (ae.rc d0))])) (fun o e R' B'=>match o with| .inl y=>e= .exit 0∧cI prog 1 (A R' B') (aC.at_ 90 1 7)=some (A [] [(0,.var (ae.rc d0))])| .inr r=>e= .ret∧finish prog (aC.own 90) Tryz.f90 1 (A R' B')=some (rI r,[.var (ae.rc d0)])) rfl ?_ ?_))
 ·rintro s1 R' B' q2 hI h
  refine gS rfl hI<|sF h (fun h=>?_) fun h=>?_
  ·refine sN<|qS<|cT<|qK<|qS<|qB<|gS rfl rfl<|sM rfl<|sA rfl<|sN<|gS rfl rfl<|sM rfl<|sM rfl<|sM rfl<|bE h fun x4 hx4 h=>?_
   refine eG hx4 rfl<|sV (.d (au.pd x4))<|bE h fun x5 hx5 h=>kB h (fun hb6 h=>?_) (fun hb6 h=>?_)
   ·refine WO.qw (v:=rB true) (u:=[(0,.var (ae.rc d0))]) rfl rfl (fun _=>rfl) rfl rfl rfl rfl rfl (lT hx5) rfl rfl (congrArg (fun b=>RV.d (.bool b)) hb6) rfl<|sN<|cT<|gS rfl rfl<|sM rfl<|sA rfl<|sN<|qR ?_
    cases oI h
    exact⟨nofun,rfl,rfl⟩
   refine WO.qw (v:=rB false) (u:=[(0,.var (ae.rc d0))]) rfl rfl (fun _=>rfl) rfl rfl rfl rfl rfl (lT hx5) rfl rfl (congrArg (fun b=>RV.d (.bool b)) hb6) rfl<|sN<|cF<|qK<|WC.region rfl rfl<|sV (rI (rW (s1+(1:Int))))<|sM rfl<|sN ?_
   cases oI h
   exact⟨rfl,rfl⟩
  refine sN<|qS<|cF<|qX ?_
  cases oI h
  exact⟨nofun,rfl,rfl⟩
 intro e R' B' he hq
 rcases o8 with y9|r10
 ·obtain⟨rfl,hI⟩:=hq
  refine qE<|gS rfl hI<|sV (rI (-1))<|sN<|qR ?_
  cases oI h
  exact qG
 obtain⟨rfl,hf⟩:=hq
 cases oI h
 exact hf
theorem oB{a0:(List au)}{a1:ae}{r:Int}(h:im a0 a1=some r):EvP prog aC ext 39 [rM au.pd a0,.d (ae.pd a1)] [] (rI r,[]):=by
 refine Ev.body rfl Tryz.func39 rfl (by kernel_rfl)<|gS rfl rfl<|sB (.ptr 48 0) 48 (.var (ae.rc a1))<|sV (r0)<|sN<|gS rfl rfl<|sM rfl<|sV (.clo 91 [.ptr 48 0])<|bE h fun x1 hx1 h=>cR (rI x1) [(48,.var (ae.rc a1))] (kW hx1)<|sA rfl<|sN<|qR ?_
 cases oI h
 exact qG
theorem law34_awake_ev{r:Bool}(h:mM=some r):EvP prog aC ext 23 [] [] (rB r,[]):=by
 refine Ev.body rfl Tryz.func23 rfl (by kernel_rfl)<|gS rfl rfl<|sU<|sN<|gS rfl rfl<|bE h fun x1 hx1 h=>cR (.ptr 192 0) [(192,.var (ac.rc x1))] (keep_New_ev hx1)<|sA rfl<|sN<|gS rfl rfl<|sM rfl<|bE h fun x2 hx2 h=>cR (.d (ap.pd x2.1)) [(192,.var (ac.rc x2.2))] (oc hx2)<|sM rfl<|bE h fun x3 hx3 h=>?_
 refine cR (.d (ar.pd x3.1)) [(192,.var (ac.rc x3.2))] (qa hx3)<|sB (.ptr 32 0) 32 (.var [r0,r0,r0,r0,r0,r0,r0,.dH,.dH,r0,r0,r0,r0,r0,r0,.dH,.dH,r0,r0,r0])<|sB (.ptr 48 0) 48 (.var [.dH])<|sH 32 (.var (ap.rc x2.1))<|sS 48 (.var [rM az.pd x3.1.aT])<|sN<|gS rfl rfl<|bE h fun x4 hx4 h=>cD (mr hx4)<|sG (.d (ae.pd (ae.mk x4 2500 2500 2500 10 0)))<|sB (.ptr 64 0) 64 (.var zZ2)<|sH 64 (.var (aw.rc x4++[rI 2500,rI 2500,rI 2500,rI 10,r0]))<|sN<|gS rfl rfl<|sV (.d (ae.pd (ae.mk x4 2500 2500 2500 10 0))) ?_
 refine sB (.ptr 80 0) 80 (.var zZ2)<|sH 80 (.var (aw.rc x4++[rI 2500,rI 2500,rI 2500,rI 10,r0]))<|sN<|gS rfl rfl<|sV (.ptr 80 7)<|sS 80 (.var (aw.rc x4++[rI 2500,rI 2500,rI 2500,rI 11,r0]))<|sN<|gS rfl rfl<|sV (.d (ap.pd x2.1))<|sV (.d (.agg [.lst (x3.1.aT.map az.pd)]))<|sV (.d (ae.pd (ae.mk x4 2500 2500 2500 11 0)))<|sV (.d (ae.pd (ae.mk x4 2500 2500 2500 10 0)))<|sG (.d (.lst ([(ae.mk x4 2500 2500 2500 11 0),(ae.mk x4 2500 2500 2500 10 0)].map ae.pd)))<|bE h fun x5 hx5 h=>cR (.tup [rM au.pd x5.1,rM ae.pd x5.2.1,rI x5.2.2]) [] (lc hx5) ?_
 refine sM rfl<|sV (rM au.pd x5.1)<|sV (rM ae.pd x5.2.1)<|sV (rI x5.2.2)<|sA rfl<|sA rfl<|sA rfl<|sN<|gS rfl rfl<|sV (.d (ap.pd x2.1))<|sV (.d (.agg [.lst (x3.1.aT.map az.pd)]))<|bE h fun x6 hx6 h=>cR (.tup [rM au.pd x6.1,rM ae.pd x6.2.1,rI x6.2.2]) [] (lc hx6)<|sM rfl<|sV (rM au.pd x6.1) ?_
 refine sV (rM ae.pd x6.2.1)<|sV (rI x6.2.2)<|sA rfl<|sA rfl<|sA rfl<|sN<|WC.dG rfl rfl<|sM rfl<|sF h (fun h=>?_) fun h=>?_
 ·refine sM rfl<|sM rfl<|sE (rI (x5.1.length:Int)) (dT _ _)<|sV (rB ((x5.1.length:Int)==(1:Int)))<|sF h (fun h=>?_) fun h=>?_
  ·refine sM rfl<|sM rfl<|sE (rI (x5.2.1.length:Int)) (dT _ _)<|sV (rB ((x5.2.1.length:Int)==(0:Int)))<|sF h (fun h=>?_) fun h=>?_
   ·refine sM rfl<|sM rfl<|bE h fun x10 hx10 h=>eG hx10 rfl<|sV (.cptr [.str x10.aZ.aD.a8,.str x10.aZ.aD.aN,.str x10.aZ.aD.aq,.str x10.aZ.aD.bd,.int .i64 x10.aZ.aX,.int .i64 x10.aZ.aK,.int .i64 x10.aZ.bf,.int .i64 x10.aZ.aQ,.int .i64 x10.aZ.aU,.lst (x10.aB.cg.map ae.pd),.int .i64 x10.aB.aq.aV.fX,.int .i64 x10.aB.aq.aV.fY,.int .i64 x10.aB.aq.aV.fZ,.int .i64 x10.aB.aq.aX,.int .i64 x10.aB.aq.bh,.int .i64 x10.aB.aq.d5,.int .i64 x10.aB.aq.aY.aL.fX,.int .i64 x10.aB.aq.aY.aL.fY,.int .i64 x10.aB.aq.aY.aL.fZ,.int .i64 x10.aB.aq.aY.aF.fX,.int .i64 x10.aB.aq.aY.aF.fY,.int .i64 x10.aB.aq.aY.aF.fZ,.int .i64 x10.aB.bt.aL,.int .i64 x10.aB.bt.aF,.int .i64 x10.aB.gu])<|sV (.d (ae.pd x10.aZ))<|sV (.d (ae.pd (ae.mk x4 2500 2500 2500 10 0)))<|WO.bin (eqE_66 x10.aZ (ae.mk x4 2500 2500 2500 10 0)) rfl rfl rfl rfl rfl<|sF h (fun h=>?_) fun h=>?_
    ·refine sM rfl<|sM rfl<|bE h fun x12 hx12 h=>eG hx12 rfl<|sV (.cptr [.lst (x12.aB.cg.map ae.pd),.int .i64 x12.aB.aq.aV.fX,.int .i64 x12.aB.aq.aV.fY,.int .i64 x12.aB.aq.aV.fZ,.int .i64 x12.aB.aq.aX,.int .i64 x12.aB.aq.bh,.int .i64 x12.aB.aq.d5,.int .i64 x12.aB.aq.aY.aL.fX,.int .i64 x12.aB.aq.aY.aL.fY,.int .i64 x12.aB.aq.aY.aL.fZ,.int .i64 x12.aB.aq.aY.aF.fX,.int .i64 x12.aB.aq.aY.aF.fY,.int .i64 x12.aB.aq.aY.aF.fZ,.int .i64 x12.aB.bt.aL,.int .i64 x12.aB.bt.aF,.int .i64 x12.aB.gu])<|sV (.cptr [.lst (x12.aB.cg.map ae.pd),.int .i64 x12.aB.aq.aV.fX,.int .i64 x12.aB.aq.aV.fY,.int .i64 x12.aB.aq.aV.fZ,.int .i64 x12.aB.aq.aX,.int .i64 x12.aB.aq.bh,.int .i64 x12.aB.aq.d5,.int .i64 x12.aB.aq.aY.aL.fX,.int .i64 x12.aB.aq.aY.aL.fY,.int .i64 x12.aB.aq.aY.aL.fZ,.int .i64 x12.aB.aq.aY.aF.fX,.int .i64 x12.aB.aq.aY.aF.fY,.int .i64 x12.aB.aq.aY.aF.fZ,.int .i64 x12.aB.bt.aL,.int .i64 x12.aB.bt.aF,.int .i64 x12.aB.gu])<|sC rfl<|sE (rI (x12.aB.cg.length:Int)) (dT _ _)<|sV (rB ((x12.aB.cg.length:Int)==(2:Int)))<|sF h (fun h=>?_) fun h=>?_
     ·refine sM rfl<|sM rfl<|sV (rB (x6.2.2==(0:Int)))<|sF h (fun h=>?_) fun h=>?_
      ·refine sM rfl<|sM rfl<|sE (rI (x6.1.length:Int)) (dT _ _)<|sV (rB ((x6.1.length:Int)==(0:Int)))<|sF h (fun h=>?_) fun h=>?_
       ·refine sM rfl<|sM rfl<|sV (.d (ae.pd (ae.mk x4 2500 2500 2500 10 0)))<|bE h fun x16 hx16 h=>cD (oB hx16)<|sV (rB (x16==(0:Int)))<|sF h (fun h=>?_) fun h=>?_
        ·refine sM rfl<|sM rfl<|sV (.d (ae.pd (ae.mk x4 2500 2500 2500 11 0)))<|bE h fun x18 hx18 h=>cD (oB hx18)<|sV (rB (x18==(-1:Int)))<|sV (rB (x18==(-1:Int)))<|sA rfl ?_
         refine sN<|sO<|qR ?_
         cases oI h
         exact qG
        refine sM rfl<|k3<|sK<|sU<|sA rfl ?_
        refine sN<|sO<|qR ?_
        cases oI h
        exact qG
       refine sM rfl<|k3<|sK<|sU<|sM rfl<|k3<|sK<|sU<|sA rfl ?_
       refine sN<|sO<|qR ?_
       cases oI h
       exact qG
      refine sM rfl<|k3<|sU<|sM rfl<|k3<|sK<|sU<|sM rfl<|sK<|sK<|sK ?_
      refine sK<|sU<|sA rfl ?_
      refine sN<|sO<|qR ?_
      cases oI h
      exact qG
     refine sM rfl<|sK<|sK<|sU<|sM rfl<|k3<|sU<|sM rfl<|k3<|sK<|sU ?_
     refine sM rfl<|k3<|sK<|sU<|sA rfl ?_
     refine sN<|sO<|qR ?_
     cases oI h
     exact qG
    refine sM rfl<|k3<|k3<|sK<|sU<|sM rfl<|sK<|sK<|sU<|sM rfl<|sK ?_
    refine sK<|sK<|sU<|sM rfl<|k3<|sK<|sU<|sM rfl<|k3<|sK<|sU ?_
    refine sA rfl ?_
    refine sN<|sO<|qR ?_
    cases oI h
    exact qG
   refine sM rfl<|k3<|k3<|sU<|sM rfl<|k3<|sK<|sK<|sK ?_
   refine sK<|sU<|sM rfl<|sK<|sK<|sU<|sM rfl<|k3<|sU<|sM rfl<|sK<|sK<|sK ?_
   refine sK<|sU<|sM rfl<|k3<|sK<|sU<|sA rfl ?_
   refine sN<|sO<|qR ?_
   cases oI h
   exact qG
  refine sM rfl<|k3<|sU<|sM rfl<|k3<|k3<|sU<|sM rfl<|sK ?_
  refine k3<|k3<|sU<|sM rfl<|sK<|sK<|sU<|sM rfl<|sK<|sK<|sK ?_
  refine sU<|sM rfl<|k3<|sK<|sU<|sM rfl<|k3<|sK<|sU<|sA rfl ?_
  refine sN<|sO<|qR ?_
  cases oI h
  exact qG
 refine sM rfl<|k3<|sU<|sM rfl<|k3<|sU<|sM rfl<|k3<|sK ?_
 refine sK<|sK<|sU<|sM rfl<|k3<|k3<|sK<|sU<|sM rfl<|sK<|sK ?_
 refine sU<|sM rfl<|k3<|sU<|sM rfl<|k3<|sK<|sU<|sM rfl<|sK<|sK ?_
 refine sK<|sK<|sU<|sA rfl ?_
 refine sN<|sO<|qR ?_
 cases oI h
 exact qG
theorem nR{a0:(List Int)}{r:Bool}(h:iZ a0=some r):EvP prog aC ext 7 [rL a0] [] (rB r,[]):=by
 refine Ev.body rfl Tryz.func7 rfl (by kernel_rfl)<|gS rfl rfl<|sU<|sN<|gS rfl rfl<|sM rfl<|bE h fun x1 hx1 h=>cR (.ptr 320 0) [(320,.var (ac.rc x1))] (keep_New_ev hx1)<|sA rfl<|sN<|gS rfl rfl<|sM rfl<|bE h fun x2 hx2 h=>cR (.d (ap.pd x2.1)) [(320,.var (ac.rc x2.2))] (oc hx2)<|sM rfl ?_
 refine bE h fun x3 hx3 h=>cR (.d (ar.pd x3.1)) [(320,.var (ac.rc x3.2))] (qa hx3)<|sB (.ptr 64 0) 64 (.var [r0,r0,r0,r0,r0,r0,r0,.dH,.dH,r0,r0,r0,r0,r0,r0,.dH,.dH,r0,r0,r0])<|sB (.ptr 80 0) 80 (.var [.dH])<|sH 64 (.var (ap.rc x2.1))<|sS 80 (.var [rM az.pd x3.1.aT])<|sN<|gS rfl rfl<|sM rfl<|sV (.d (ap.pd x2.1))<|sV (.d (.agg [.lst (x3.1.aT.map az.pd)]))<|bE h fun x4 hx4 h=>cR (rM ae.pd x4.1) [(320,.var (ac.rc x4.2))] (Src_Picks_ev hx4)<|sA rfl<|sN ?_
 refine gS rfl rfl<|sV (.d (ap.pd x2.1))<|sV (.d (.agg [.lst (x3.1.aT.map az.pd)]))<|sM rfl<|bE h fun x5 hx5 h=>cR (.tup [rM au.pd x5.1,rM ae.pd x5.2.1,rI x5.2.2]) [] (lc hx5)<|sM rfl<|sV (rM au.pd x5.1)<|sV (rM ae.pd x5.2.1)<|sV (rI x5.2.2)<|sA rfl<|sA rfl<|sA rfl<|sN<|gS rfl rfl ?_
 refine sV (.d (ap.pd x2.1))<|sV (.d (.agg [.lst (x3.1.aT.map az.pd)]))<|sM rfl<|bE h fun x6 hx6 h=>cR (.tup [.d (.lst (x6.1.map (fun l=>PD.lst (l.map ae.pd)))),rI x6.2]) [] (qd hx6)<|sM rfl<|sV (.d (.lst (x6.1.map (fun l=>PD.lst (l.map ae.pd)))))<|sV (rI x6.2)<|sA rfl<|sA rfl<|sN<|qS<|gS rfl rfl<|sM rfl<|sF h (fun h=>?_) fun h=>?_
 ·refine sM rfl<|sK<|sK<|sT<|sN<|cT<|gS rfl rfl<|sU<|sN<|qR ?_
  cases oI h
  exact qG
 refine sM rfl<|sM rfl<|sV (rB (x6.2 != (0:Int)))<|sF h (fun h=>?_) fun h=>?_
 ·refine sN<|cT<|gS rfl rfl<|sU<|sN<|qR ?_
  cases oI h
  exact qG
 refine sN<|cF<|qK<|gS rfl rfl<|sV .dH<|sN<|gS rfl rfl<|sV .dH<|sN<|qS<|gS rfl rfl<|sM rfl<|sE (rI (x6.1.length:Int)) (dT _ _)<|sV (r0)<|sN ?_
 refine bE h fun o23 ho23 h=>WC.block (WC.loop (WL.gv ho23 (fun s R' B'=>cI prog 0 (A R' B') (aC.at_ 7 0 11)=some (A [(4,.ptr 64 0),(5,.ptr 80 0),(7,rM au.pd x5.1),(8,rM ae.pd x5.2.1),(12,rM au.pd s.1),(13,.ref 1216 0),(50,.d (.lst (x6.1.map (fun l=>PD.lst (l.map ae.pd))))),(51,rI (x6.1.length:Int)),(52,rI s.2.1)] [(64,.var (ap.rc x2.1)),(80,.var [rM az.pd x3.1.aT]),(1216,.arr 0 66 (s.2.2.map ae.pd))])) (fun o e R' B'=>match o with| .inl y=>e= .exit 0∧cI prog 0 (A R' B') (aC.at_ 7 0 18)=some (A [(7,rM au.pd x5.1),(8,rM ae.pd x5.2.1),(12,rM au.pd y.1),(13,.ref 1216 0)] [(1216,.arr 0 66 (y.2.map ae.pd))])| .inr r=>e= .ret∧finish prog (aC.own 7) Tryz.f7 0 (A R' B')=some (rB r,[])) rfl ?_ ?_))
 ·rintro⟨s9,s10,s11⟩ R' B' q14 hI h
  refine gS rfl hI<|sF h (fun h=>?_) fun h=>?_
  ·refine sN<|qS<|cT<|qK<|qS<|qB<|gS rfl rfl<|bE h fun x16 hx16 h=>eG hx16 rfl<|sC rfl<|sA rfl<|sN<|gS rfl rfl<|sV (.d (ap.pd x2.1))<|sV (.d (.agg [.lst (x3.1.aT.map az.pd)])) ?_
   refine sM rfl<|bE h fun x17 hx17 h=>cR (.tup [rM au.pd x17.1,rM ae.pd x17.2.1,rI x17.2.2]) [] (lc hx17)<|sM rfl<|sV (rM au.pd x17.1)<|sV (rM ae.pd x17.2.1)<|sV (rI x17.2.2)<|sA rfl<|sA rfl<|sA rfl<|sN<|qS<|gS rfl rfl<|sM rfl<|sF h (fun h=>?_) fun h=>?_
   ·refine sM rfl<|k3<|sT<|sN<|cT<|gS rfl rfl<|sU<|sN<|qR ?_
    cases oI h
    exact⟨nofun,rfl,rfl⟩
   refine sM rfl<|sM rfl<|sE (rI (x16.length:Int)) (dT _ _)<|sV (rB ((x16.length:Int)==(0:Int)))<|sF h (fun h=>?_) fun h=>?_
   ·refine sN<|cT<|gS rfl rfl<|sU<|sN<|qR ?_
    cases oI h
    exact⟨nofun,rfl,rfl⟩
   refine sN<|cF<|qK<|WC.region rfl rfl<|sM rfl<|sM rfl<|bE h fun x20 hx20 h=>cD (ref34_Join_ev hx20)<|sM rfl<|sM rfl<|bE h fun x21 hx21 h=>aR hx21 (fun _=>rfl) rfl<|sA rfl<|sA rfl<|sN ?_
   refine WC.region rfl rfl<|sV (rI (rW (s10+(1:Int))))<|sM rfl<|sN ?_
   cases oI h
   exact⟨rfl,rfl⟩
  refine sN<|qS<|cF<|qX ?_
  cases oI h
  exact⟨nofun,rfl,rfl⟩
 intro e R' B' he hq
 rcases o23 with y24|r25
 ·obtain⟨rfl,hI⟩:=hq
  refine qE<|gS rfl hI<|sM rfl<|sM rfl<|bE h fun x26 hx26 h=>kB h (fun hb27 h=>?_) (fun hb27 h=>?_)
  ·refine WO.qw (v:=rB true) (u:=[]) rfl rfl (fun _=>rfl) rfl rfl rfl rfl rfl (pC hx26) rfl rfl (congrArg (fun b=>RV.d (.bool b)) hb27) rfl<|sM rfl<|sM rfl<|sM rfl<|bE h fun x28 hx28 h=>cR (rM ae.pd x28) [(1216,.dead)] (ref23_Sort_ev hx28)<|bE h fun x29 hx29 h=>cD (jB hx29)<|sF h (fun h=>?_) fun h=>?_
   ·refine sM rfl<|bE h fun x31 hx31 h=>cD (law34_awake_ev hx31)<|sV (rB x31)<|sA rfl<|sN<|qR ?_
    exact oI h▸qD
   refine sM rfl<|sK<|sU<|sA rfl<|sN<|qR ?_
   exact oI h▸qD
  refine WO.qw (v:=rB false) (u:=[]) rfl rfl (fun _=>rfl) rfl rfl rfl rfl rfl (pC hx26) rfl rfl (congrArg (fun b=>RV.d (.bool b)) hb27) rfl<|sM rfl<|k3<|sK<|sU<|sM rfl<|sK<|sU<|sA rfl<|sN<|qR ?_
  exact oI h▸qD
 obtain⟨rfl,hf⟩:=hq
 cases oI h
 exact hf
end Go.Dw.Ek
