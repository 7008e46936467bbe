
import Derived.Test.YtmmgjlgoggielaaGreatElEvB

set_option maxRecDepth 100000
set_option maxHeartbeats 4000000
namespace Go.Dw.El
open Go.Proofs Go.Proofs.Tryz Go.Dw
theorem pU{a0:aq}{a1:ar}{a2:(List ae)}{r:aS×Int}(h:gN a0 a1 a2=some r):EvP prog aC ext 55 [.d (aq.pd a0),.d (ar.pd a1),rM ae.pd a2] [] (.tup [.d (aS.pd r.1),rI r.2],[]):=by
 refine Ev.body rfl Tryz.func55 rfl (by kernel_rfl)<|gS rfl rfl<|sB (.ptr 48 0) 48 (.var (aq.rc a0))<|sB (.ptr 64 0) 64 (.var [rM aA.pd a1.aU])<|sB (.ptr 96 0) 96 (.var [.ng,.ng,.ng])<|sV (r0)<|sN<|gS rfl rfl<|sB (.ptr 128 0) 128 (.var [.ng,.ng,.ng])<|sN<|qS<|qB<|gS rfl rfl<|sV (.d (aq.pd a0))<|bE h fun x1 hx1 h=>?_
 refine cD (iE hx1)<|sF h (fun h=>?_) fun h=>?_
 ·refine sA rfl<|sN<|cT<|gS rfl rfl<|sV (.agg [.ng,.ng,.ng])<|sS 96 (.var [.ng,.ng,.ng])<|sV (rI 27)<|sN<|qR ?_
  cases oI h
  exact qG
 refine sA rfl<|sN<|cF<|gS rfl rfl<|sV (.d (ar.pd a1))<|bE h fun x3 hx3 h=>cD (gz hx3)<|sF h (fun h=>?_) fun h=>?_
 ·refine sA rfl<|sN<|cT<|gS rfl rfl<|sV (.agg [.ng,.ng,.ng])<|sS 96 (.var [.ng,.ng,.ng])<|sV (rI 1)<|sN<|qR ?_
  cases oI h
  exact qG
 refine sA rfl<|sN<|cF<|qK<|qS<|gS rfl rfl<|sM rfl<|bE h fun x5 hx5 h=>cD (oP hx5)<|sE (rI (x5.length:Int)) (qt _ _)<|sV (r0)<|sN<|bE h fun o22 ho22 h=>WC.block (WC.loop (WL.qx ho22 (fun s R' B'=>hY prog 0 (A R' B') (aC.at_ 55 0 7)=some (A [(3,.ptr 48 0),(4,.ptr 64 0),(6,.ptr 96 0),(8,.ptr 128 0),(25,rM ae.pd x5),(26,rI (x5.length:Int)),(27,rI s.1)] [(48,.var (aq.rc a0)),(64,.var [rM aA.pd a1.aU]),(96,.var [.ng,.ng,.ng]),(128,.var [.ref 704 0,.ref 784 0,.ref 864 0]),(704,.arr 0 66 (s.2.1.map ae.pd)),(784,.arr 0 81 (s.2.2.1.map al.pd)),(864,.arr 0 113 (s.2.2.2.map av.pd))])) (fun o e R' B'=>e= .exit 1∧hY prog 0 (A R' B') (aC.at_ 55 0 13)=some (A [(6,.ptr 96 0),(8,.ptr 128 0)] [(96,.var [.ng,.ng,.ng]),(128,.var [.ref 704 0,.ref 784 0,.ref 864 0]),(704,.arr 0 66 (o.1.map ae.pd)),(784,.arr 0 81 (o.2.1.map al.pd)),(864,.arr 0 113 (o.2.2.map av.pd))])) rfl ?_ ?_))
 ·rintro⟨s6,s7,s8,s9⟩ R' B' q13 hI h
  refine gS rfl hI<|sF h (fun h=>?_) fun h=>?_
  ·refine sN<|qS<|cT<|qK<|qS<|qB<|gS rfl rfl<|bE h fun x15 hx15 h=>eG hx15 rfl<|sV (.d (ae.pd x15))<|sB (.ptr 160 0) 160 (.var zZ2)<|sH 160 (.var (ae.rc x15))<|sN<|gS rfl rfl<|sV (.d (aq.pd a0)) ?_
   refine sV (.d (ar.pd a1))<|sV (.d (ae.pd x15))<|bE h fun x16 hx16 h=>cR (.tup [.d (al.pd x16.1),.d (av.pd x16.2.1),rB x16.2.2]) [] (nA hx16)<|sM rfl<|sV (.d (al.pd x16.1))<|sV (.d (av.pd x16.2.1))<|sV (rB x16.2.2)<|sB (.ptr 176 0) 176 (.var zZ4)<|sB (.ptr 192 0) 192 (.var zZ3)<|sH 176 (.var (al.rc x16.1))<|sH 192 (.var (av.rc x16.2.1))<|sA rfl<|sN<|gS rfl rfl ?_
   refine sF h (fun h=>?_) fun h=>?_
   ·refine sN<|cT<|WC.rb rfl rfl<|sV (.ptr 128 0)<|sL rfl<|sV (.d (ae.pd x15))<|sG (.d (.lst ([x15].map ae.pd)))<|bE h fun x18 hx18 h=>aR hx18 (fun _=>rfl) rfl<|sV (.ptr 128 1)<|sL rfl<|sV (.d (al.pd x16.1))<|sV (.d (.lst ([x16.1].map al.pd)))<|bE h fun x19 hx19 h=>aR hx19 (fun _=>rfl) rfl ?_
    refine sV (.ptr 128 2)<|sL rfl<|sV (.d (av.pd x16.2.1))<|sG (.d (.lst ([x16.2.1].map av.pd)))<|bE h fun x20 hx20 h=>aR hx20 (fun _=>rfl) rfl<|sV (.ptr 128 0)<|sS 128 (.var [.ref 704 1,.ref 784 0,.ref 864 0])<|sV (.ptr 128 1)<|sS 128 (.var [.ref 704 1,.ref 784 1,.ref 864 0])<|sV (.ptr 128 2)<|sS 128 (.var [.ref 704 1,.ref 784 1,.ref 864 1]) ?_
    refine sN<|sO<|WC.region rfl rfl<|sV (rI (rW (s6+(1:Int))))<|sM rfl<|sN ?_
    cases oI h
    exact⟨rfl,rfl⟩
   refine sN<|cF<|qK<|WC.region rfl rfl<|sV (rI (rW (s6+(1:Int))))<|sM rfl<|sN ?_
   cases oI h
   exact⟨rfl,rfl⟩
  refine sN<|qS<|cF<|qX ?_
  cases oI h
  exact⟨nofun,rfl,rfl⟩
 intro e R' B' he hq
 obtain⟨rfl,hI⟩:=hq
 refine qE<|gS rfl hI<|sV (.agg [.ref 704 0,.ref 784 0,.ref 864 0])<|sS 96 (.var [.ref 704 0,.ref 784 0,.ref 864 0])<|sV (r0)<|sN<|qR ?_
 exact oI h▸qD
theorem pu{a0:aS}{a1:aq}{r:ag×Int}(h:iP a0 a1=some r):EvP prog aC ext 56 [.d (aS.pd a0),.d (aq.pd a1)] [] (.tup [.d (ag.pd r.1),rI r.2],[]):=by
 refine Ev.body rfl Tryz.func56 rfl (by kernel_rfl)<|gS rfl rfl<|sB (.ptr 32 0) 32 (.var (aS.rc a0))<|sB (.ptr 48 0) 48 (.var (aq.rc a1))<|sB (.ptr 64 0) 64 (.var [r0,r0,r0,r0,r0,r0,r0,.ng,.ng,.ng,r0])<|sV (r0)<|sN<|qS<|gS rfl rfl<|sV (.ptr 32 1)<|sL rfl<|sE (rI (a0.c7.length:Int)) (qt _ _)<|sA rfl<|sN<|qB ?_
 refine gS rfl rfl<|sM rfl<|sF h (fun h=>?_) fun h=>?_
 ·refine sA rfl<|sN<|cT<|gS rfl rfl<|sG (.agg [r0,r0,r0,r0,r0,r0,r0,.ng,.ng,.ng,r0])<|sH 64 (.var [r0,r0,r0,r0,r0,r0,r0,.ng,.ng,.ng,r0])<|sV (rI 24)<|sN<|qR ?_
  cases oI h
  exact qG
 refine sA rfl<|sN<|cF<|gS rfl rfl<|sM rfl<|sF h (fun h=>?_) fun h=>?_
 ·refine sA rfl<|sN<|cT<|gS rfl rfl<|sG (.agg [r0,r0,r0,r0,r0,r0,r0,.ng,.ng,.ng,r0])<|sH 64 (.var [r0,r0,r0,r0,r0,r0,r0,.ng,.ng,.ng,r0])<|sV (rI 8)<|sN<|qR ?_
  cases oI h
  exact qG
 refine sA rfl<|sN<|cF<|qK<|gS rfl rfl<|sV (.ptr 48 0)<|sV (.d (aJ.pd a1.ai))<|sB (.ptr 112 0) 112 (.var [r0,r0,r0,r0,r0,r0,r0,.ng,.ng,r0,r0,r0,r0,r0])<|sH 112 (.var (aJ.rc a1.ai))<|sN<|WC.cI rfl rfl<|sV (.ptr 112 6)<|sV (.ptr 112 6)<|sL rfl<|sV (.ptr 112 6) ?_
 refine sV (.ptr 112 7)<|sL rfl<|bE h fun x3 hx3 h=>cR (.ref 448 0) [(448,.arr 0 3 (x3.map (PD.int .i64)))] (clone_107 hx3)<|sV (.ptr 112 6)<|sV (.ptr 112 8)<|sL rfl<|bE h fun x4 hx4 h=>cR (.ref 512 0) [(512,.arr 0 3 (x4.map (PD.int .i64)))] (clone_107 hx4)<|sV (.agg [rI a1.ai.bi.bn,.ref 448 0,.ref 512 0])<|sB (.ptr 128 0) 128 (.var [r0,.ng,.ng])<|sS 128 (.var [rI a1.ai.bi.bn,.ref 448 0,.ref 512 0]) ?_
 refine sN<|sO<|gS rfl rfl<|sV (.ptr 112 0)<|sV (.d (ah.pd a1.ai.aN))<|sV (.agg [rI a1.ai.bi.bn,.ref 448 0,.ref 512 0])<|sV (.ptr 32 1)<|sL rfl<|sV (.ptr 112 9)<|sL rfl<|sG (.agg (ah.rc a1.ai.aN++[rI a1.ai.bi.bn,.ref 448 0,.ref 512 0,rM al.pd a0.c7,rI a1.ai.cW]))<|sH 64 (.var (ah.rc a1.ai.aN++[rI a1.ai.bi.bn,.ref 448 0,.ref 512 0,rM al.pd a0.c7,rI a1.ai.cW]))<|sV (r0)<|sN<|qR ?_
 cases oI h
 exact qG
theorem nat_From_ev{a0:Int}{r:(List Int)×Int}(h:ql a0=some r):EvP prog aC ext 406 [rI a0] [] (.tup [rL r.1,rI r.2],[]):=by
 refine Ev.body rfl Tryz.func406 rfl (by kernel_rfl)<|gS rfl rfl<|sV .ng<|sV (r0)<|sN<|qS<|gS rfl rfl<|sM rfl<|sF h (fun h=>?_) fun h=>?_
 ·refine sN<|cT<|gS rfl rfl<|sV .ng<|sV (rI 2)<|sN<|qR ?_
  exact oI h▸qD
 refine sN<|cF<|qK<|gS rfl rfl<|sV .ng<|sN<|qS<|bE h fun o10 ho10 h=>WC.block (WC.loop (WL.qx ho10 (fun s R' B'=>hY prog 0 (A R' B') (aC.at_ 406 0 4)=some (A [(0,rI s.1),(4,.ref 240 0)] [(240,.arr 0 3 (s.2.map (PD.int .i64)))])) (fun o e R' B'=>e= .exit 0∧hY prog 0 (A R' B') (aC.at_ 406 0 7)=some (A [(4,.ref 240 0)] [(240,.arr 0 3 (o.map (PD.int .i64)))])) rfl ?_ ?_))
 ·rintro⟨s2,s3⟩ R' B' q5 hI h
  refine qS<|gS rfl hI<|sM rfl<|sF h (fun h=>?_) fun h=>?_
  ·refine sN<|cT<|qK<|qS<|qB<|WC.region rfl rfl<|sM rfl<|sM rfl<|bE h fun x7 hx7 h=>WO.remG hx7 rfl rfl rfl rfl rfl rfl<|sV (.d (.lst ([x7].map (PD.int .i64))))<|bE h fun x8 hx8 h=>aR hx8 (fun _=>rfl) rfl<|sA rfl<|sN ?_
   refine WC.region rfl rfl<|sM rfl<|sV (rI (qP .i64 s2 (30:Int)))<|sA rfl<|sN ?_
   cases oI h
   exact⟨rfl,rfl⟩
  refine sN<|cF<|qX ?_
  cases oI h
  exact⟨nofun,rfl,rfl⟩
 intro e R' B' he hq
 obtain⟨rfl,hI⟩:=hq
 refine qE<|gS rfl hI<|sM rfl<|sA rfl<|sV (r0)<|sN<|qR ?_
 exact oI h▸qD
theorem mI{a0:Int}{r:Bool}(h:mo a0=some r):EvP prog aC ext 388 [rI a0] [] (rB r,[]):=by
 refine Ev.body rfl Tryz.func388 rfl (by kernel_rfl)<|gS rfl rfl<|sU<|sN<|gS rfl rfl<|sM rfl<|sF h (fun h=>?_) fun h=>?_
 ·refine sM rfl<|sK<|sK<|sT<|sA rfl<|sN<|qR ?_
  exact oI h▸qD
 refine sM rfl<|sM rfl<|sV (rB (decide (a0>=(1073741824:Int))))<|sV (rB (decide (a0>=(1073741824:Int))))<|sA rfl<|sN<|qR ?_
 exact oI h▸qD
theorem lr{a0:(List Int)}{r:Int}(h:fc a0=some r):EvP prog aC ext 411 [rL a0,.d (.raw (.func (.func 388) #[] #[]))] [] (rI r,[]):=by
 refine Ev.body rfl Tryz.func411 rfl (by kernel_rfl)<|gS rfl rfl<|sV (r0)<|sN<|qS<|gS rfl rfl<|sM rfl<|sE (rI (a0.length:Int)) (qt _ _)<|sV (r0)<|sN<|bE h fun o8 ho8 h=>WC.block (WC.loop (WL.qx ho8 (fun s R' B'=>hY prog 0 (A R' B') (aC.at_ 411 0 2)=some (A [(0,rL a0),(1,.d (.raw (.func (.func 388) #[] #[]))),(7,rI (a0.length:Int)),(8,rI s)] [])) (fun o e R' B'=>match o with| .inl y=>e= .exit 0∧hY prog 0 (A R' B') (aC.at_ 411 0 7)=some (A [] [])| .inr r=>e= .ret∧finish prog (aC.own 411) Tryz.f411 0 (A R' B')=some (rI r,[])) rfl ?_ ?_))
 ·rintro s1 R' B' q2 hI h
  refine gS rfl hI<|sF h (fun h=>?_) fun h=>?_
  ·refine sN<|qS<|cT<|qK<|qS<|qB<|gS rfl rfl<|sM rfl<|sA rfl<|sN<|gS rfl rfl<|sM rfl<|sM rfl<|sM rfl<|bE h fun x4 hx4 h=>?_
   refine eG hx4 rfl<|sC rfl<|bE h fun x5 hx5 h=>qZ h (fun hb6 h=>?_) (fun hb6 h=>?_)
   ·refine WO.rN (v:=rB true) (u:=[]) rfl rfl (fun _=>rfl) rfl rfl rfl rfl rfl (mI hx5) rfl rfl (congrArg (fun b=>RV.d (.bool b)) hb6) rfl<|sN<|cT<|gS rfl rfl<|sM rfl<|sA rfl<|sN<|qR ?_
    cases oI h
    exact⟨nofun,rfl,rfl⟩
   refine WO.rN (v:=rB false) (u:=[]) rfl rfl (fun _=>rfl) rfl rfl rfl rfl rfl (mI hx5) rfl rfl (congrArg (fun b=>RV.d (.bool b)) hb6) rfl<|sN<|cF<|qK<|WC.region rfl rfl<|sV (rI (rW (s1+(1:Int))))<|sM rfl<|sN ?_
   cases oI h
   exact⟨rfl,rfl⟩
  refine sN<|qS<|cF<|qX ?_
  cases oI h
  exact⟨nofun,rfl,rfl⟩
 intro e R' B' he hq
 rcases o8 with y9|r10
 ·obtain⟨rfl,hI⟩:=hq
  refine qE<|gS rfl hI<|sV (rI (-1))<|sN<|qR ?_
  exact oI h▸qD
 obtain⟨rfl,hf⟩:=hq
 cases oI h
 exact hf
theorem fC{a0:(List Int)}{r:Bool}(h:ct a0=some r):EvP prog aC ext 387 [rL a0,.d (.raw (.func (.func 388) #[] #[]))] [] (rB r,[]):=by
 refine Ev.body rfl Tryz.func387 rfl (by kernel_rfl)<|gS rfl rfl<|sU<|sN<|gS rfl rfl<|sM rfl<|sM rfl<|bE h fun x1 hx1 h=>cD (lr hx1)<|sV (rB (decide (x1>=(0:Int))))<|sA rfl<|sN<|qR ?_
 exact oI h▸qD
theorem gF{a0:(List Int)}{r:Bool}(h:jH a0=some r):EvP prog aC ext 338 [rL a0] [] (rB r,[]):=by
 refine Ev.body rfl Tryz.func338 rfl (by kernel_rfl)<|gS rfl rfl<|sU<|sN<|qS<|gS rfl rfl<|sM rfl<|sE (rI (a0.length:Int)) (qt _ _)<|sF h (fun h=>?_) fun h=>?_
 ·refine sM rfl<|k3<|k3<|k3<|k3<|sT<|sN ?_
  refine cT<|gS rfl rfl<|sU<|sN<|qR ?_
  exact oI h▸qD
 refine sM rfl<|sM rfl<|sE (rI (a0.length:Int)) (qt _ _)<|sF h (fun h=>?_) fun h=>?_
 ·refine sM rfl<|sM rfl<|sM rfl<|sE (rI (a0.length:Int)) (qt _ _)<|sV (rI (rW ((a0.length:Int)-(1:Int))))<|bE h fun x3 hx3 h=>eG hx3 rfl<|sC rfl<|sV (rB (x3==(0:Int)))<|sV (rB (x3==(0:Int)))<|sF h (fun h=>?_) fun h=>?_
  ·refine sN<|cT<|gS rfl rfl<|sU<|sN<|qR ?_
   exact oI h▸qD
  refine sN<|cF<|qK<|gS rfl rfl<|sM rfl<|bE h fun x5 hx5 h=>cD (fC hx5)<|sV (rB (!x5))<|sA rfl<|sN<|qR ?_
  exact oI h▸qD
 refine sM rfl<|k3<|k3<|sK<|sU<|sU<|sN<|cF<|qK<|gS rfl rfl<|sM rfl ?_
 refine bE h fun x6 hx6 h=>cD (fC hx6)<|sV (rB (!x6))<|sA rfl<|sN<|qR ?_
 exact oI h▸qD
theorem nat_both_ev{a0:(List Int)}{a1:(List Int)}{r:Bool}(h:oL a0 a1=some r):EvP prog aC ext 420 [rL a0,rL a1] [] (rB r,[]):=by
 refine Ev.body rfl Tryz.func420 rfl (by kernel_rfl)<|gS rfl rfl<|sU<|sN<|gS rfl rfl<|sM rfl<|bE h fun x1 hx1 h=>qZ h (fun hb2 h=>?_) (fun hb2 h=>?_)
 ·refine WO.rN (v:=rB true) (u:=[]) rfl rfl (fun _=>rfl) rfl rfl rfl rfl rfl (gF hx1) rfl rfl (congrArg (fun b=>RV.d (.bool b)) hb2) rfl<|sM rfl<|sM rfl<|bE h fun x3 hx3 h=>cD (gF hx3)<|sV (rB x3)<|sA rfl<|sN<|qR ?_
  exact oI h▸qD
 refine WO.rN (v:=rB false) (u:=[]) rfl rfl (fun _=>rfl) rfl rfl rfl rfl rfl (gF hx1) rfl rfl (congrArg (fun b=>RV.d (.bool b)) hb2) rfl<|sM rfl<|sK<|sK<|sU<|sA rfl<|sN<|qR ?_
 exact oI h▸qD
theorem nU{a0:(List Int)}{a1:Int}{r:Int}(h:l9 a0 a1=some r):EvP prog aC ext 410 [rL a0,rI a1] [] (rI r,[]):=by
 refine Ev.body rfl Tryz.func410 rfl (by kernel_rfl)<|gS rfl rfl<|sV (r0)<|sN<|qS<|gS rfl rfl<|sM rfl<|sM rfl<|sE (rI (a0.length:Int)) (qt _ _)<|sF h (fun h=>?_) fun h=>?_
 ·refine sN<|cT<|gS rfl rfl<|sV (r0)<|sN<|qR ?_
  exact oI h▸qD
 refine sN<|cF<|qK<|gS rfl rfl<|sM rfl<|sM rfl<|bE h fun x2 hx2 h=>eG hx2 rfl<|sC rfl<|sA rfl<|sN<|qR ?_
 exact oI h▸qD
theorem nat_trim_ev{a0:(List Int)}{r:(List Int)}(h:oM a0=some r):EvP prog aC ext 409 [rL a0] [] (rL r,[]):=by
 refine Ev.body rfl Tryz.func409 rfl (by kernel_rfl)<|gS rfl rfl<|sV .ng<|sN<|qS<|bE h fun o9 ho9 h=>WC.block (WC.loop (WL.qx ho9 (fun s R' B'=>hY prog 0 (A R' B') (aC.at_ 409 0 1)=some (A [(0,rL s)] [])) (fun o e R' B'=>e= .exit 0∧hY prog 0 (A R' B') (aC.at_ 409 0 3)=some (A [(0,rL o)] [])) rfl ?_ ?_))
 ·rintro s1 R' B' q3 hI h
  refine qS<|gS rfl hI<|sM rfl<|sE (rI (s1.length:Int)) (qt _ _)<|sF h (fun h=>?_) fun h=>?_
  ·refine sM rfl<|sM rfl<|sM rfl<|sE (rI (s1.length:Int)) (qt _ _)<|sV (rI (rW ((s1.length:Int)-(1:Int))))<|bE h fun x5 hx5 h=>eG hx5 rfl<|sC rfl<|sV (rB (x5==(0:Int)))<|sF h (fun h=>?_) fun h=>?_
   ·refine sN<|cT<|qK<|qB<|WC.region rfl rfl<|sM rfl<|sM rfl<|sE (rI (s1.length:Int)) (qt _ _)<|sV (rI (rW ((s1.length:Int)-(1:Int))))<|bE h fun x7 hx7 h=>WO.cutL (sz:=1) (g:=(PD.int .i64)) hx7 (fun _=>rfl) rfl rfl rfl rfl rfl rfl rfl rfl rfl rfl rfl<|sA rfl<|sN ?_
    cases oI h
    exact⟨rfl,rfl⟩
   refine sN<|cF<|qX ?_
   cases oI h
   exact⟨nofun,rfl,rfl⟩
  refine sM rfl<|k3<|k3<|sK<|sU<|sN<|cF<|qX ?_
  cases oI h
  exact⟨nofun,rfl,rfl⟩
 intro e R' B' he hq
 obtain⟨rfl,hI⟩:=hq
 refine qE<|gS rfl hI<|sM rfl<|sA rfl<|sN<|qR ?_
 exact oI h▸qD
theorem lC{a0:(List Int)}{a1:(List Int)}{r:(List Int)}(h:iQ a0 a1=some r):EvP prog aC ext 386 [rL a0,rL a1] [] (rL r,[]):=by
 refine Ev.body rfl Tryz.func386 rfl (by kernel_rfl)<|gS rfl rfl<|sV .ng<|sN<|gS rfl rfl<|sM rfl<|sE (rI (a0.length:Int)) (qt _ _)<|sM rfl<|sE (rI (a1.length:Int)) (qt _ _)<|sV (rI (rW ((a0.length:Int)+(a1.length:Int))))<|bE h fun x1 hx1 h=>WO.mkS (g:=(PD.int .i64)) hx1 rfl rfl rfl rfl rfl rfl rfl rfl rfl rfl rfl<|sA rfl<|sN<|qS ?_
 refine gS rfl rfl<|sM rfl<|sE (rI (a0.length:Int)) (qt _ _)<|sV (r0)<|sN<|bE h fun o27 ho27 h=>WC.block (WC.loop (WL.qx ho27 (fun s R' B'=>hY prog 0 (A R' B') (aC.at_ 386 0 3)=some (A [(1,rL a1),(5,.ref 240 0),(16,rL a0),(17,rI (a0.length:Int)),(18,rI s.1)] [(240,.arr 0 3 (s.2.map (PD.int .i64)))])) (fun o e R' B'=>e= .exit 0∧hY prog 0 (A R' B') (aC.at_ 386 0 15)=some (A [(5,.ref 240 0)] [(240,.arr 0 3 (o.map (PD.int .i64)))])) rfl ?_ ?_))
 ·rintro⟨s2,s3⟩ R' B' q5 hI h
  refine gS rfl hI<|sF h (fun h=>?_) fun h=>?_
  ·refine sN<|qS<|cT<|qK<|qS<|qB<|gS rfl rfl<|sM rfl<|bE h fun x7 hx7 h=>eG hx7 rfl<|sC rfl<|sA rfl<|sA rfl<|sN<|gS rfl rfl ?_
   refine sV (r0)<|sN<|gS rfl rfl<|sM rfl<|sE (rI (a1.length:Int)) (qt _ _)<|sV (rI (rW ((a1.length:Int)+(1:Int))))<|sV (r0)<|sN<|bE h fun o25 ho25 h=>WC.block (WC.loop (WL.qx ho25 (fun s R' B'=>hY prog 0 (A R' B') (aC.at_ 386 0 7)=some (A [(1,rL a1),(5,.ref 240 0),(6,rI s2),(7,rI x7),(8,rI s.1),(16,rL a0),(17,rI (a0.length:Int)),(18,rI s2),(25,rI (rW ((a1.length:Int)+(1:Int)))),(26,rI s.2.1)] [(240,.arr 0 3 (s.2.2.map (PD.int .i64)))])) (fun o e R' B'=>e= .exit 2∧hY prog 0 (A R' B') (aC.at_ 386 0 14)=some (A [(1,rL a1),(5,.ref 240 0),(16,rL a0),(17,rI (a0.length:Int)),(18,rI o.1)] [(240,.arr 0 3 (o.2.map (PD.int .i64)))])) rfl ?_ ?_))
   ·rintro⟨s8,s9,s10⟩ R' B' q13 hI h
    refine gS rfl hI<|sF h (fun h=>?_) fun h=>?_
    ·refine sN<|qS<|cT<|qK<|qS<|qB<|gS rfl rfl<|sM rfl<|sA rfl<|sN<|gS rfl rfl<|sM rfl<|sM rfl<|sV (rI (rW (s2+s9)))<|sM rfl ?_
     refine WO.u9 rfl rfl rfl rfl rfl rfl rfl rfl rfl<|sF h (fun h=>?_) fun h=>?_
     ·refine sN<|cT<|WC.cI rfl rfl<|sM rfl<|sM rfl<|sM rfl<|sM rfl<|sV (rI (rW (s2+s9)))<|bE h fun x17 hx17 h=>WO.rG hx17 rfl rfl rfl rfl rfl rfl rfl rfl<|bE h fun x18 hx18 h=>WO.rC hx18 rfl rfl rfl rfl rfl rfl<|sM rfl<|sM rfl<|sM rfl ?_
      refine bE h fun x19 hx19 h=>cD (nU hx19)<|sV (rI (rW (x7*x19)))<|sV (rI (rW (x18+(rW (x7*x19)))))<|sV (rI (rW (s8+(rW (x18+(rW (x7*x19)))))))<|sA rfl ?_
      refine sN<|sO<|gS rfl rfl<|sM rfl<|sM rfl<|sM rfl<|sV (rI (rW (s2+s9)))<|sM rfl<|bE h fun x20 hx20 h=>WO.remG hx20 rfl rfl rfl rfl rfl rfl<|bE h fun x22 hx22 h=>WO.rG hx22 rfl rfl rfl rfl rfl rfl rfl rfl<|bE h fun x23 hx23 h=>WO.sY (g:=(PD.int .i64)) (sz:=1) (p:= .int .i64 x20) hx23 (fun _=>rfl) (fun _=>rfl) rfl rfl rfl rfl rfl rfl rfl rfl rfl<|sN<|WC.region rfl rfl ?_
      refine sM rfl<|sV (rI (qP .i64 (rW (s8+(rW (x18+(rW (x7*x19)))))) (30:Int)))<|sA rfl<|sN<|WC.region rfl rfl<|sV (rI (rW (s9+(1:Int))))<|sM rfl<|sN ?_
      cases oI h
      exact⟨rfl,rfl⟩
     refine sN<|cF<|qK<|WC.region rfl rfl<|sV (rI (rW (s9+(1:Int))))<|sM rfl<|sN ?_
     cases oI h
     exact⟨rfl,rfl⟩
    refine sN<|qS<|cF<|qX ?_
    cases oI h
    exact⟨nofun,rfl,rfl⟩
   intro e R' B' he hq
   obtain⟨rfl,hI⟩:=hq
   refine qE<|WC.region hI rfl<|sV (rI (rW (o25.1+(1:Int))))<|sM rfl<|sN ?_
   cases oI h
   exact⟨rfl,rfl⟩
  refine sN<|qS<|cF<|qX ?_
  cases oI h
  exact⟨nofun,rfl,rfl⟩
 intro e R' B' he hq
 obtain⟨rfl,hI⟩:=hq
 refine qE<|gS rfl hI<|sM rfl<|bE h fun x28 hx28 h=>cR (rL x28) [(240,.dead)] (nat_trim_ev hx28)<|sA rfl<|sN<|qR ?_
 exact oI h▸qD
theorem kj{a0:(List Int)}{r:(List Int)×Int}(h:iw a0=some r):EvP prog aC ext 385 [rL a0] [] (.tup [rL r.1,rI r.2],[]):=by
 refine Ev.body rfl Tryz.func385 rfl (by kernel_rfl)<|gS rfl rfl<|sV .ng<|sV (r0)<|sN<|qS<|gS rfl rfl<|sM rfl<|bE h fun x1 hx1 h=>cD (nat_trim_ev hx1)<|sA rfl<|sN<|gS rfl rfl<|sM rfl<|sE (rI (x1.length:Int)) (qt _ _) ?_
 refine sF h (fun h=>?_) fun h=>?_
 ·refine sN<|cT<|gS rfl rfl<|sV .ng<|sV (rI 8)<|sN<|qR ?_
  exact oI h▸qD
 refine sN<|cF<|qK<|gS rfl rfl<|sM rfl<|sA rfl<|sV (r0)<|sN<|qR ?_
 exact oI h▸qD
theorem nat_Mul_ev{a0:(List Int)}{a1:(List Int)}{r:(List Int)×Int}(h:nat_Mul a0 a1=some r):EvP prog aC ext 407 [rL a0,rL a1] [] (.tup [rL r.1,rI r.2],[]):=by
 refine Ev.body rfl Tryz.func407 rfl (by kernel_rfl)<|gS rfl rfl<|sV .ng<|sV (r0)<|sN<|qS<|gS rfl rfl<|sM rfl<|sM rfl<|bE h fun x1 hx1 h=>cD (nat_both_ev hx1)<|sF h (fun h=>?_) fun h=>?_
 ·refine sN<|cT<|gS rfl rfl<|sV .ng<|sV (rI 1)<|sN<|qR ?_
  exact oI h▸qD
 refine sN<|cF<|qK<|gS rfl rfl<|sM rfl<|sM rfl<|bE h fun x3 hx3 h=>cD (lC hx3)<|bE h fun x4 hx4 h=>cR (.tup [rL x4.1,rI x4.2]) [] (kj hx4)<|sV (rL x4.1)<|sV (rI x4.2)<|sA rfl<|sA rfl<|sN ?_
 refine qR ?_
 exact oI h▸qD
theorem dM{a0:Int}{r:(List Int)}(h:c9 a0=some r):EvP prog aC ext 381 [rI a0] [] (rL r,[]):=by
 refine Ev.body rfl Tryz.func381 rfl (by kernel_rfl)<|gS rfl rfl<|sV .ng<|sN<|gS rfl rfl<|sM rfl<|sM rfl<|sV (rI (rW (0-a0)))<|sV (rI (if(rW (0-a0))>a0 then(rW (0-a0))else a0))<|bE h fun x1 hx1 h=>cR (.tup [rL x1.1,rI x1.2]) [] (nat_From_ev hx1)<|sM rfl<|sV (rL x1.1)<|sV (rI x1.2)<|sA rfl ?_
 refine sA rfl<|sN<|gS rfl rfl<|sM rfl<|sM rfl<|bE h fun x2 hx2 h=>cR (.tup [rL x2.1,rI x2.2]) [] (nat_Mul_ev hx2)<|sM rfl<|sV (rL x2.1)<|sV (rI x2.2)<|sA rfl<|sA rfl<|sN<|gS rfl rfl<|sM rfl ?_
 refine sA rfl<|sN<|qR ?_
 exact oI h▸qD
theorem nat_Add_ev{a0:(List Int)}{a1:(List Int)}{r:(List Int)×Int}(h:nat_Add a0 a1=some r):EvP prog aC ext 408 [rL a0,rL a1] [] (.tup [rL r.1,rI r.2],[]):=by
 refine Ev.body rfl Tryz.func408 rfl (by kernel_rfl)<|gS rfl rfl<|sV .ng<|sV (r0)<|sN<|qS<|gS rfl rfl<|sM rfl<|sM rfl<|bE h fun x1 hx1 h=>cD (nat_both_ev hx1)<|sF h (fun h=>?_) fun h=>?_
 ·refine sN<|cT<|gS rfl rfl<|sV .ng<|sV (rI 1)<|sN<|qR ?_
  exact oI h▸qD
 refine sN<|cF<|qK<|gS rfl rfl<|sV .ng<|sN<|gS rfl rfl<|sV (r0)<|sN<|qS<|gS rfl rfl<|sM rfl<|sE (rI (a0.length:Int)) (qt _ _)<|sM rfl<|sE (rI (a1.length:Int)) (qt _ _) ?_
 refine sV (rI (if(a1.length:Int)>(a0.length:Int)then(a1.length:Int)else(a0.length:Int)))<|sV (rI (rW ((if(a1.length:Int)>(a0.length:Int)then(a1.length:Int)else(a0.length:Int))+(1:Int))))<|sV (r0)<|sN<|bE h fun o14 ho14 h=>WC.block (WC.loop (WL.qx ho14 (fun s R' B'=>hY prog 0 (A R' B') (aC.at_ 408 0 6)=some (A [(0,rL a0),(1,rL a1),(6,.ref 560 0),(7,rI s.1),(18,rI (rW ((if(a1.length:Int)>(a0.length:Int)then(a1.length:Int)else(a0.length:Int))+(1:Int)))),(19,rI s.2.1)] [(560,.arr 0 3 (s.2.2.map (PD.int .i64)))])) (fun o e R' B'=>e= .exit 0∧hY prog 0 (A R' B') (aC.at_ 408 0 12)=some (A [(6,.ref 560 0)] [(560,.arr 0 3 (o.map (PD.int .i64)))])) rfl ?_ ?_))
 ·rintro⟨s3,s4,s5⟩ R' B' q7 hI h
  refine gS rfl hI<|sF h (fun h=>?_) fun h=>?_
  ·refine sN<|qS<|cT<|qK<|qS<|qB<|gS rfl rfl<|sM rfl<|sA rfl<|sN<|gS rfl rfl<|sM rfl<|sM rfl<|sM rfl<|bE h fun x9 hx9 h=>?_
   refine cD (nU hx9)<|sM rfl<|sM rfl<|bE h fun x10 hx10 h=>cD (nU hx10)<|sV (rI (rW (x9+x10)))<|sV (rI (rW (s3+(rW (x9+x10)))))<|sA rfl<|sN<|gS rfl rfl<|sM rfl<|sM rfl<|bE h fun x11 hx11 h=>WO.remG hx11 rfl rfl rfl rfl rfl rfl<|sV (.d (.lst ([x11].map (PD.int .i64)))) ?_
   refine bE h fun x12 hx12 h=>aR hx12 (fun _=>rfl) rfl<|sA rfl<|sN<|WC.region rfl rfl<|sM rfl<|sV (rI (qP .i64 (rW (s3+(rW (x9+x10)))) (30:Int)))<|sA rfl<|sN<|WC.region rfl rfl<|sV (rI (rW (s4+(1:Int))))<|sM rfl<|sN ?_
   cases oI h
   exact⟨rfl,rfl⟩
  refine sN<|qS<|cF<|qX ?_
  cases oI h
  exact⟨nofun,rfl,rfl⟩
 intro e R' B' he hq
 obtain⟨rfl,hI⟩:=hq
 refine qE<|gS rfl hI<|sM rfl<|bE h fun x15 hx15 h=>cR (.tup [rL x15.1,rI x15.2]) [(560,.dead)] (kj hx15)<|sV (rL x15.1)<|sV (rI x15.2)<|sA rfl<|sA rfl<|sN<|qR ?_
 exact oI h▸qD
theorem lP{a0:aW}{a1:Int}{a2:Int}{r:(List Int)}(h:gf a0 a1 a2=some r):EvP prog aC ext 382 [.d (aW.pd a0),rI a1,rI a2] [] (rL r,[]):=by
 refine Ev.body rfl Tryz.func382 rfl (by kernel_rfl)<|gS rfl rfl<|sB (.ptr 48 0) 48 (.var [rI a0.a0,rI a0.a1,rI a0.a2])<|sV .ng<|sN<|WC.cI rfl rfl<|sV (.ptr 48 0)<|sL rfl<|sM rfl<|sV (rI (rW (a0.a0*a2)))<|sM rfl<|sV (rI (rW ((rW (a0.a0*a2))*a2)))<|sV (.ptr 48 2)<|sL rfl<|sM rfl ?_
 refine sV (rI (rW (a0.a2*a1)))<|sM rfl<|sV (rI (rW ((rW (a0.a2*a1))*a1)))<|sV (rI (rW ((rW ((rW (a0.a0*a2))*a2))-(rW ((rW (a0.a2*a1))*a1)))))<|bE h fun x1 hx1 h=>cD (dM hx1)<|sV (.ptr 48 1)<|sL rfl<|sM rfl<|sV (rI (rW (a0.a1*a1)))<|sM rfl<|sV (rI (rW ((rW (a0.a1*a1))*a2)))<|bE h fun x2 hx2 h=>cD (dM hx2)<|bE h fun x3 hx3 h=>?_
 refine cR (.tup [rL x3.1,rI x3.2]) [] (nat_Add_ev hx3)<|sM rfl<|sV (rL x3.1)<|sV (rI x3.2)<|sA rfl<|sA rfl ?_
 refine sN<|sO<|gS rfl rfl<|sM rfl<|sA rfl<|sN<|qR ?_
 exact oI h▸qD
theorem response_gain_ev{a0:aH}{a1:Int}{a2:Int}{r:aL×Bool}(h:k8 a0 a1 a2=some r):EvP prog aC ext 336 [.d (aH.pd a0),rI a1,rI a2] [] (.tup [.d (aL.pd r.1),rB r.2],[]):=by
 refine Ev.body rfl Tryz.func336 rfl (by kernel_rfl)<|gS rfl rfl<|sB (.ptr 48 0) 48 (.var (aH.rc a0))<|sB (.ptr 96 0) 96 (.var [.ng,.ng])<|sU<|sN<|qS<|gS rfl rfl<|sV (.ptr 48 0)<|sL rfl<|sN<|qB<|gS rfl rfl<|sF h (fun h=>?_) fun h=>?_
 ·refine sA rfl<|sN<|cT<|WC.cI rfl rfl<|sV (.ptr 48 1)<|sV (.ptr 48 1)<|sL rfl<|bE h fun x2 hx2 h=>cD (dM hx2)<|sV (.ptr 48 4)<|sV (.ptr 48 4)<|sL rfl<|bE h fun x3 hx3 h=>cD (dM hx3)<|sV (.d (.agg [.lst (x2.map (PD.int .i64)),.lst (x3.map (PD.int .i64))])) ?_
  refine sS 96 (.var [rL x2,rL x3])<|sT ?_
  refine sN<|sO<|qR ?_
  cases oI h
  exact qG
 refine sA rfl<|sN<|cF<|gS rfl rfl<|sF h (fun h=>?_) fun h=>?_
 ·refine sA rfl<|sN<|cT<|WC.cI rfl rfl<|sV (.ptr 48 1)<|sV (.d (aW.pd a0.bG))<|sM rfl<|sM rfl<|bE h fun x5 hx5 h=>cD (lP hx5)<|sV (.ptr 48 4)<|sV (.d (aW.pd a0.bw))<|sM rfl<|sM rfl<|bE h fun x6 hx6 h=>?_
  refine cD (lP hx6)<|sV (.d (.agg [.lst (x5.map (PD.int .i64)),.lst (x6.map (PD.int .i64))]))<|sB (.ptr 128 0) 128 (.var [.ng,.ng])<|sS 128 (.var [rL x5,rL x6]) ?_
  refine sN<|sO<|WC.cI rfl rfl<|sV (.d (.agg [.lst (x5.map (PD.int .i64)),.lst (x6.map (PD.int .i64))]))<|sV (.ptr 128 1)<|sL rfl<|sE (rI (x6.length:Int)) (qt _ _)<|sV (rB (decide ((x6.length:Int)>(0:Int))))<|sS 96 (.var [rL x5,rL x6])<|sA rfl ?_
  refine sN<|sO<|qR ?_
  cases oI h
  exact qG
 refine sA rfl<|sN<|cF<|qK<|WC.cI rfl rfl<|sV (.ptr 48 7)<|sL rfl<|bE h fun x7 hx7 h=>cD (js hx7)<|bE h fun x8 hx8 h=>cD (dM hx8)<|sV (.ptr 48 9)<|sL rfl<|bE h fun x9 hx9 h=>WO.shlG hx9 rfl rfl rfl rfl rfl ?_
 refine bE h fun x10 hx10 h=>cD (dM hx10)<|sV (.d (.agg [.lst (x8.map (PD.int .i64)),.lst (x10.map (PD.int .i64))]))<|sS 96 (.var [rL x8,rL x10])<|sT ?_
 refine sN<|sO<|qR ?_
 cases oI h
 exact qG
theorem lm{a0:aL}{r:Bool}(h:fy a0=some r):EvP prog aC ext 384 [.d (aL.pd a0)] [] (rB r,[]):=by
 refine Ev.body rfl Tryz.func384 rfl (by kernel_rfl)<|gS rfl rfl<|sB (.ptr 16 0) 16 (.var (aL.rc a0))<|sU<|sN<|gS rfl rfl<|sV (.ptr 16 0)<|sL rfl<|bE h fun x1 hx1 h=>qZ h (fun hb2 h=>?_) (fun hb2 h=>?_)
 ·refine WO.rN (v:=rB true) (u:=[]) rfl rfl (fun _=>rfl) rfl rfl rfl rfl rfl (gF hx1) rfl rfl (congrArg (fun b=>RV.d (.bool b)) hb2) rfl<|sM rfl<|sV (.ptr 16 1)<|sL rfl<|bE h fun x3 hx3 h=>cD (gF hx3)<|sF h (fun h=>?_) fun h=>?_
  ·refine sM rfl<|sV (.ptr 16 1)<|sL rfl<|sE (rI (a0.bw.length:Int)) (qt _ _)<|sV (rB (decide ((a0.bw.length:Int)>(0:Int))))<|sV (rB (decide ((a0.bw.length:Int)>(0:Int))))<|sA rfl<|sN<|qR ?_
   exact oI h▸qD
  refine sM rfl<|k3<|sK<|sU<|sA rfl<|sN<|qR ?_
  exact oI h▸qD
 refine WO.rN (v:=rB false) (u:=[]) rfl rfl (fun _=>rfl) rfl rfl rfl rfl rfl (gF hx1) rfl rfl (congrArg (fun b=>RV.d (.bool b)) hb2) rfl<|sM rfl<|k3<|sU<|sM rfl<|k3<|sK<|sU<|sA rfl<|sN<|qR ?_
 exact oI h▸qD
theorem nat_Times_ev{a0:aL}{a1:aL}{r:aL×Int}(h:pa a0 a1=some r):EvP prog aC ext 337 [.d (aL.pd a0),.d (aL.pd a1)] [] (.tup [.d (aL.pd r.1),rI r.2],[]):=by
 refine Ev.body rfl Tryz.func337 rfl (by kernel_rfl)<|gS rfl rfl<|sB (.ptr 32 0) 32 (.var (aL.rc a0))<|sB (.ptr 48 0) 48 (.var (aL.rc a1))<|sB (.ptr 64 0) 64 (.var [.ng,.ng])<|sV (r0)<|sN<|qS<|gS rfl rfl<|sV (.d (aL.pd a0))<|bE h fun x1 hx1 h=>cD (lm hx1)<|sF h (fun h=>?_) fun h=>?_
 ·refine sM rfl<|k3<|sT<|sN<|cT<|gS rfl rfl<|sV (.agg [.ng,.ng])<|sS 64 (.var [.ng,.ng])<|sV (rI 1)<|sN<|qR ?_
  exact oI h▸qD
 refine sM rfl<|sV (.d (aL.pd a1))<|bE h fun x3 hx3 h=>cD (lm hx3)<|sV (rB (!x3))<|sF h (fun h=>?_) fun h=>?_
 ·refine sN<|cT<|gS rfl rfl<|sV (.agg [.ng,.ng])<|sS 64 (.var [.ng,.ng])<|sV (rI 1)<|sN<|qR ?_
  exact oI h▸qD
 refine sN<|cF<|qK<|gS rfl rfl<|sV (.ptr 32 0)<|sL rfl<|sV (.ptr 48 0)<|sL rfl<|bE h fun x5 hx5 h=>cD (lC hx5)<|bE h fun x6 hx6 h=>cR (.tup [rL x6.1,rI x6.2]) [] (kj hx6)<|sM rfl<|sV (rL x6.1)<|sV (rI x6.2) ?_
 refine sA rfl<|sA rfl<|sN<|gS rfl rfl<|sV (.ptr 32 1)<|sL rfl<|sV (.ptr 48 1)<|sL rfl<|bE h fun x7 hx7 h=>cD (lC hx7)<|bE h fun x8 hx8 h=>cR (.tup [rL x8.1,rI x8.2]) [] (kj hx8)<|sM rfl<|sV (rL x8.1)<|sV (rI x8.2) ?_
 refine sA rfl<|sA rfl<|sN<|qS<|gS rfl rfl<|sM rfl<|sF h (fun h=>?_) fun h=>?_
 ·refine sM rfl<|sK<|sK<|sT<|sN<|cT<|gS rfl rfl<|sV (.agg [.ng,.ng])<|sS 64 (.var [.ng,.ng])<|sV (rI 8)<|sN<|qR ?_
  exact oI h▸qD
 refine sM rfl<|sM rfl<|sV (rB (x8.2 != (0:Int)))<|sF h (fun h=>?_) fun h=>?_
 ·refine sN<|cT<|gS rfl rfl<|sV (.agg [.ng,.ng])<|sS 64 (.var [.ng,.ng])<|sV (rI 8)<|sN<|qR ?_
  exact oI h▸qD
 refine sN<|cF<|qK<|gS rfl rfl<|sM rfl<|sM rfl<|sV (.d (.agg [.lst (x6.1.map (PD.int .i64)),.lst (x8.1.map (PD.int .i64))]))<|sS 64 (.var [rL x6.1,rL x8.1])<|sV (r0)<|sN<|qR ?_
 exact oI h▸qD
theorem response_Gain_ev{a0:aQ}{a1:Int}{a2:Int}{r:aL×Int}(h:k7 a0 a1 a2=some r):EvP prog aC ext 273 [.d (aQ.pd a0),rI a1,rI a2] [] (.tup [.d (aL.pd r.1),rI r.2],[]):=by
 refine Ev.body rfl Tryz.func273 rfl (by kernel_rfl)<|gS rfl rfl<|sB (.ptr 48 0) 48 (.var [rM aH.pd a0.bC])<|sB (.ptr 96 0) 96 (.var [.ng,.ng])<|sV (r0)<|sN<|qS<|gS rfl rfl<|sV (.d (aQ.pd a0))<|bE h fun x1 hx1 h=>cD (mO hx1)<|sF h (fun h=>?_) fun h=>?_
 ·refine sN<|cT<|gS rfl rfl<|sV (.agg [.ng,.ng])<|sS 96 (.var [.ng,.ng])<|sV (rI 1)<|sN<|qR ?_
  exact oI h▸qD
 refine sN<|cF<|qK<|qS<|gS rfl rfl<|sM rfl<|bE h fun x3 hx3 h=>cD (b9 hx3)<|sF h (fun h=>?_) fun h=>?_
 ·refine sM rfl<|k3<|sT<|sN<|cT<|gS rfl rfl<|sV (.agg [.ng,.ng])<|sS 96 (.var [.ng,.ng])<|sV (rI 2)<|sN<|qR ?_
  exact oI h▸qD
 refine sM rfl<|sM rfl<|bE h fun x5 hx5 h=>cD (b9 hx5)<|sV (rB (!x5))<|sF h (fun h=>?_) fun h=>?_
 ·refine sN<|cT<|gS rfl rfl<|sV (.agg [.ng,.ng])<|sS 96 (.var [.ng,.ng])<|sV (rI 2)<|sN<|qR ?_
  exact oI h▸qD
 refine sN<|cF<|qK<|gS rfl rfl<|sV (.d (.lst ([1].map (PD.int .i64))))<|sV (.d (.lst ([1].map (PD.int .i64))))<|sV (.d (.agg [.lst ([1].map (PD.int .i64)),.lst ([1].map (PD.int .i64))]))<|sB (.ptr 128 0) 128 (.var [.ng,.ng])<|sS 128 (.var [.d (.lst ([1].map (PD.int .i64))),.d (.lst ([1].map (PD.int .i64)))])<|sN<|qS<|gS rfl rfl<|sV (.ptr 48 0)<|sL rfl<|sE (rI (a0.bC.length:Int)) (qt _ _) ?_
 refine sV (r0)<|sN<|bE h fun o20 ho20 h=>WC.block (WC.loop (WL.qx ho20 (fun s R' B'=>hY prog 0 (A R' B') (aC.at_ 273 0 7)=some (A [(1,rI a1),(2,rI a2),(6,.ptr 96 0),(8,.ptr 128 0),(31,rM aH.pd a0.bC),(32,rI (a0.bC.length:Int)),(33,rI s.1)] [(96,.var [.ng,.ng]),(128,.var [rL s.2.1,rL s.2.2])])) (fun o e R' B'=>match o with| .inl y=>e= .exit 0∧hY prog 0 (A R' B') (aC.at_ 273 0 17)=some (A [(6,.ptr 96 0),(8,.ptr 128 0)] [(96,.var [.ng,.ng]),(128,.var [rL y.1,rL y.2])])| .inr r=>e= .ret∧finish prog (aC.own 273) Tryz.f273 0 (A R' B')=some (.tup [.d (aL.pd r.1),rI r.2],[])) rfl ?_ ?_))
 ·rintro⟨s7,s8,s9⟩ R' B' q12 hI h
  refine gS rfl hI<|sF h (fun h=>?_) fun h=>?_
  ·refine sN<|qS<|cT<|qK<|qS<|qB<|gS rfl rfl<|bE h fun x14 hx14 h=>eG hx14 rfl<|sV (.d (aH.pd x14))<|sB (.ptr 160 0) 160 (.var [r0,r0,r0,r0,r0,r0,r0,.ng,r0,r0])<|sH 160 (.var (aH.rc x14))<|sN<|gS rfl rfl<|sV (.d (aH.pd x14)) ?_
   refine sM rfl<|sM rfl<|bE h fun x15 hx15 h=>cR (.tup [.d (aL.pd x15.1),rB x15.2]) [] (response_gain_ev hx15)<|sM rfl<|sV (.d (aL.pd x15.1))<|sV (rB x15.2)<|sB (.ptr 176 0) 176 (.var [.ng,.ng])<|sS 176 (.var (aL.rc x15.1))<|sA rfl<|sN<|qS<|gS rfl rfl<|sM rfl<|sF h (fun h=>?_) fun h=>?_
   ·refine sN<|cT<|gS rfl rfl<|sV (.agg [.ng,.ng])<|sS 96 (.var [.ng,.ng])<|sV (rI 11)<|sN<|qR ?_
    cases oI h
    exact⟨nofun,rfl,rfl⟩
   refine sN<|cF<|qK<|gS rfl rfl<|sV (r0)<|sN<|gS rfl rfl<|sV (.d (aL.pd (aL.mk s8 s9)))<|sV (.d (aL.pd x15.1))<|bE h fun x17 hx17 h=>cR (.tup [.d (aL.pd x17.1),rI x17.2]) [] (nat_Times_ev hx17)<|sM rfl<|sV (.d (aL.pd x17.1))<|sV (rI x17.2)<|sS 128 (.var (aL.rc x17.1)) ?_
   refine sA rfl<|sN<|gS rfl rfl<|sM rfl<|sF h (fun h=>?_) fun h=>?_
   ·refine sN<|cT<|gS rfl rfl<|sV (.agg [.ng,.ng])<|sM rfl<|sS 96 (.var [.ng,.ng])<|sA rfl<|sN<|qR ?_
    cases oI h
    exact⟨nofun,rfl,rfl⟩
   refine sN<|cF<|qK<|WC.region rfl rfl<|sV (rI (rW (s7+(1:Int))))<|sM rfl<|sN ?_
   cases oI h
   exact⟨rfl,rfl⟩
  refine sN<|qS<|cF<|qX ?_
  cases oI h
  exact⟨nofun,rfl,rfl⟩
 intro e R' B' he hq
 rcases o20 with y21|r22
 ·obtain⟨rfl,hI⟩:=hq
  refine qE<|gS rfl hI<|sV (.d (aL.pd (aL.mk y21.1 y21.2)))<|sS 96 (.var [rL y21.1,rL y21.2])<|sV (r0)<|sN<|qR ?_
  exact oI h▸qD
 obtain⟨rfl,hf⟩:=hq
 cases oI h
 exact hf
theorem lN{a0:Int}{a1:Int}{r:Int}(h:gd a0 a1=some r):EvP prog aC ext 339 [rI a0,rI a1] [] (rI r,[]):=by
 refine Ev.body rfl Tryz.func339 rfl (by kernel_rfl)<|gS rfl rfl<|sV (r0)<|sN<|gS rfl rfl<|sV (r0)<|sN<|qS<|gS rfl rfl<|sV (r0)<|sN<|WC.block (WC.loop ?_)
 refine WL.round<|gS rfl rfl<|sT<|sN<|qS<|cT<|qK<|WC.join (α:=Int×Int) (fun x R' B'=>hY prog 0 (A R' B') (aC.at_ 339 0 9)=some (A [(0,rI a0),(1,rI x.1),(5,rI x.2),(6,r0)] [])) (fun x=>ec a0 x.1 x.2=some r) ?_ ?_
 ·refine qB<|gS rfl rfl<|sM rfl<|sM rfl<|sV (rI (rW (a1*a1)))<|sV (rI (qP .i64 (rW (a1*a1)) (30:Int)))<|sA rfl<|sN<|gS rfl rfl<|sM rfl<|sV (r0)<|sA rfl<|sN<|gS rfl rfl<|sM rfl ?_
  refine sF h (fun h=>?_) fun h=>?_
  ·exact sN<|cT<|gS rfl rfl<|sM rfl<|bE h fun x40 hx40 h=>WO.uV hx40 rfl rfl rfl rfl rfl rfl<|sA rfl<|sN<|WC.region rfl rfl<|sM rfl<|sV (rI 1)<|sA rfl<|sN<|⟨(x40,1),rfl,h⟩
  exact sN<|cF<|qK<|⟨((qP .i64 (rW (a1*a1)) (30:Int)),0),rfl,h⟩
 rintro⟨j1,j2⟩ R' B' hI h
 refine WC.region hI rfl<|sV (rI 1)<|sM rfl<|sN<|WL.round<|gS rfl rfl<|sT<|sN<|qS<|cT<|qK<|WC.join (α:=Int×Int) (fun x R' B'=>hY prog 0 (A R' B') (aC.at_ 339 0 9)=some (A [(0,rI a0),(1,rI x.1),(5,rI x.2),(6,rI 1)] [])) (fun x=>d9 a0 x.1 x.2=some r) ?_ ?_
 ·refine qB<|gS rfl rfl<|sM rfl<|sM rfl<|sV (rI (rW (j1*j1)))<|sV (rI (qP .i64 (rW (j1*j1)) (30:Int)))<|sA rfl<|sN<|gS rfl rfl<|sM rfl<|sV (rI (rW (j2*(2:Int))))<|sA rfl<|sN<|gS rfl rfl<|sM rfl ?_
  refine sF h (fun h=>?_) fun h=>?_
  ·exact sN<|cT<|gS rfl rfl<|sM rfl<|bE h fun x37 hx37 h=>WO.uV hx37 rfl rfl rfl rfl rfl rfl<|sA rfl<|sN<|WC.region rfl rfl<|sM rfl<|sV (rI (rW ((rW (j2*(2:Int)))+(1:Int))))<|sA rfl<|sN<|⟨(x37,(rW ((rW (j2*(2:Int)))+(1:Int)))),rfl,h⟩
  exact sN<|cF<|qK<|⟨((qP .i64 (rW (j1*j1)) (30:Int)),(rW (j2*(2:Int)))),rfl,h⟩
 rintro⟨j3,j4⟩ R' B' hI h
 refine WC.region hI rfl<|sV (rI 2)<|sM rfl<|sN<|WL.round<|gS rfl rfl<|sT<|sN<|qS<|cT<|qK<|WC.join (α:=Int×Int) (fun x R' B'=>hY prog 0 (A R' B') (aC.at_ 339 0 9)=some (A [(0,rI a0),(1,rI x.1),(5,rI x.2),(6,rI 2)] [])) (fun x=>d8 a0 x.1 x.2=some r) ?_ ?_
 ·refine qB<|gS rfl rfl<|sM rfl<|sM rfl<|sV (rI (rW (j3*j3)))<|sV (rI (qP .i64 (rW (j3*j3)) (30:Int)))<|sA rfl<|sN<|gS rfl rfl<|sM rfl<|sV (rI (rW (j4*(2:Int))))<|sA rfl<|sN<|gS rfl rfl<|sM rfl ?_
  refine sF h (fun h=>?_) fun h=>?_
  ·exact sN<|cT<|gS rfl rfl<|sM rfl<|bE h fun x34 hx34 h=>WO.uV hx34 rfl rfl rfl rfl rfl rfl<|sA rfl<|sN<|WC.region rfl rfl<|sM rfl<|sV (rI (rW ((rW (j4*(2:Int)))+(1:Int))))<|sA rfl<|sN<|⟨(x34,(rW ((rW (j4*(2:Int)))+(1:Int)))),rfl,h⟩
  exact sN<|cF<|qK<|⟨((qP .i64 (rW (j3*j3)) (30:Int)),(rW (j4*(2:Int)))),rfl,h⟩
 rintro⟨j5,j6⟩ R' B' hI h
 refine WC.region hI rfl<|sV (rI 3)<|sM rfl<|sN<|WL.round<|gS rfl rfl<|sT<|sN<|qS<|cT<|qK<|WC.join (α:=Int×Int) (fun x R' B'=>hY prog 0 (A R' B') (aC.at_ 339 0 9)=some (A [(0,rI a0),(1,rI x.1),(5,rI x.2),(6,rI 3)] [])) (fun x=>d7 a0 x.1 x.2=some r) ?_ ?_
 ·refine qB<|gS rfl rfl<|sM rfl<|sM rfl<|sV (rI (rW (j5*j5)))<|sV (rI (qP .i64 (rW (j5*j5)) (30:Int)))<|sA rfl<|sN<|gS rfl rfl<|sM rfl<|sV (rI (rW (j6*(2:Int))))<|sA rfl<|sN<|gS rfl rfl<|sM rfl ?_
  refine sF h (fun h=>?_) fun h=>?_
  ·exact sN<|cT<|gS rfl rfl<|sM rfl<|bE h fun x31 hx31 h=>WO.uV hx31 rfl rfl rfl rfl rfl rfl<|sA rfl<|sN<|WC.region rfl rfl<|sM rfl<|sV (rI (rW ((rW (j6*(2:Int)))+(1:Int))))<|sA rfl<|sN<|⟨(x31,(rW ((rW (j6*(2:Int)))+(1:Int)))),rfl,h⟩
  exact sN<|cF<|qK<|⟨((qP .i64 (rW (j5*j5)) (30:Int)),(rW (j6*(2:Int)))),rfl,h⟩
 rintro⟨j7,j8⟩ R' B' hI h
 refine WC.region hI rfl<|sV (rI 4)<|sM rfl<|sN<|WL.round<|gS rfl rfl<|sT<|sN<|qS<|cT<|qK<|WC.join (α:=Int×Int) (fun x R' B'=>hY prog 0 (A R' B') (aC.at_ 339 0 9)=some (A [(0,rI a0),(1,rI x.1),(5,rI x.2),(6,rI 4)] [])) (fun x=>d6 a0 x.1 x.2=some r) ?_ ?_
 ·refine qB<|gS rfl rfl<|sM rfl<|sM rfl<|sV (rI (rW (j7*j7)))<|sV (rI (qP .i64 (rW (j7*j7)) (30:Int)))<|sA rfl<|sN<|gS rfl rfl<|sM rfl<|sV (rI (rW (j8*(2:Int))))<|sA rfl<|sN<|gS rfl rfl<|sM rfl ?_
  refine sF h (fun h=>?_) fun h=>?_
  ·exact sN<|cT<|gS rfl rfl<|sM rfl<|bE h fun x28 hx28 h=>WO.uV hx28 rfl rfl rfl rfl rfl rfl<|sA rfl<|sN<|WC.region rfl rfl<|sM rfl<|sV (rI (rW ((rW (j8*(2:Int)))+(1:Int))))<|sA rfl<|sN<|⟨(x28,(rW ((rW (j8*(2:Int)))+(1:Int)))),rfl,h⟩
  exact sN<|cF<|qK<|⟨((qP .i64 (rW (j7*j7)) (30:Int)),(rW (j8*(2:Int)))),rfl,h⟩
 rintro⟨j9,j10⟩ R' B' hI h
 refine WC.region hI rfl<|sV (rI 5)<|sM rfl<|sN<|WL.round<|gS rfl rfl<|sT<|sN<|qS<|cT<|qK<|WC.join (α:=Int×Int) (fun x R' B'=>hY prog 0 (A R' B') (aC.at_ 339 0 9)=some (A [(0,rI a0),(1,rI x.1),(5,rI x.2),(6,rI 5)] [])) (fun x=>d5 a0 x.1 x.2=some r) ?_ ?_
 ·refine qB<|gS rfl rfl<|sM rfl<|sM rfl<|sV (rI (rW (j9*j9)))<|sV (rI (qP .i64 (rW (j9*j9)) (30:Int)))<|sA rfl<|sN<|gS rfl rfl<|sM rfl<|sV (rI (rW (j10*(2:Int))))<|sA rfl<|sN<|gS rfl rfl<|sM rfl ?_
  refine sF h (fun h=>?_) fun h=>?_
  ·exact sN<|cT<|gS rfl rfl<|sM rfl<|bE h fun x25 hx25 h=>WO.uV hx25 rfl rfl rfl rfl rfl rfl<|sA rfl<|sN<|WC.region rfl rfl<|sM rfl<|sV (rI (rW ((rW (j10*(2:Int)))+(1:Int))))<|sA rfl<|sN<|⟨(x25,(rW ((rW (j10*(2:Int)))+(1:Int)))),rfl,h⟩
  exact sN<|cF<|qK<|⟨((qP .i64 (rW (j9*j9)) (30:Int)),(rW (j10*(2:Int)))),rfl,h⟩
 rintro⟨j11,j12⟩ R' B' hI h
 refine WC.region hI rfl<|sV (rI 6)<|sM rfl<|sN<|WL.round<|gS rfl rfl<|sT<|sN<|qS<|cT<|qK<|WC.join (α:=Int×Int) (fun x R' B'=>hY prog 0 (A R' B') (aC.at_ 339 0 9)=some (A [(0,rI a0),(1,rI x.1),(5,rI x.2),(6,rI 6)] [])) (fun x=>d4 a0 x.1 x.2=some r) ?_ ?_
 ·refine qB<|gS rfl rfl<|sM rfl<|sM rfl<|sV (rI (rW (j11*j11)))<|sV (rI (qP .i64 (rW (j11*j11)) (30:Int)))<|sA rfl<|sN<|gS rfl rfl<|sM rfl<|sV (rI (rW (j12*(2:Int))))<|sA rfl<|sN<|gS rfl rfl<|sM rfl ?_
  refine sF h (fun h=>?_) fun h=>?_
  ·exact sN<|cT<|gS rfl rfl<|sM rfl<|bE h fun x22 hx22 h=>WO.uV hx22 rfl rfl rfl rfl rfl rfl<|sA rfl<|sN<|WC.region rfl rfl<|sM rfl<|sV (rI (rW ((rW (j12*(2:Int)))+(1:Int))))<|sA rfl<|sN<|⟨(x22,(rW ((rW (j12*(2:Int)))+(1:Int)))),rfl,h⟩
  exact sN<|cF<|qK<|⟨((qP .i64 (rW (j11*j11)) (30:Int)),(rW (j12*(2:Int)))),rfl,h⟩
 rintro⟨j13,j14⟩ R' B' hI h
 refine WC.region hI rfl<|sV (rI 7)<|sM rfl<|sN<|WL.round<|gS rfl rfl<|sT<|sN<|qS<|cT<|qK<|WC.join (α:=Int×Int) (fun x R' B'=>hY prog 0 (A R' B') (aC.at_ 339 0 9)=some (A [(0,rI a0),(1,rI x.1),(5,rI x.2),(6,rI 7)] [])) (fun x=>dZ a0 x.1 x.2=some r) ?_ ?_
 ·refine qB<|gS rfl rfl<|sM rfl<|sM rfl<|sV (rI (rW (j13*j13)))<|sV (rI (qP .i64 (rW (j13*j13)) (30:Int)))<|sA rfl<|sN<|gS rfl rfl<|sM rfl<|sV (rI (rW (j14*(2:Int))))<|sA rfl<|sN<|gS rfl rfl<|sM rfl ?_
  refine sF h (fun h=>?_) fun h=>?_
  ·exact sN<|cT<|gS rfl rfl<|sM rfl<|bE h fun x19 hx19 h=>WO.uV hx19 rfl rfl rfl rfl rfl rfl<|sA rfl<|sN<|WC.region rfl rfl<|sM rfl<|sV (rI (rW ((rW (j14*(2:Int)))+(1:Int))))<|sA rfl<|sN<|⟨(x19,(rW ((rW (j14*(2:Int)))+(1:Int)))),rfl,h⟩
  exact sN<|cF<|qK<|⟨((qP .i64 (rW (j13*j13)) (30:Int)),(rW (j14*(2:Int)))),rfl,h⟩
 rintro⟨j15,j16⟩ R' B' hI h
 refine WC.region hI rfl<|sV (rI 8)<|sM rfl<|sN<|WL.round<|gS rfl rfl<|sU<|sN<|qS<|cF<|qX<|qE<|gS rfl rfl<|sM rfl<|sV (rI (rW ((256:Int)*a0))) ?_
 refine sM rfl<|sV (rI (rW ((rW ((256:Int)*a0))+j16)))<|sA rfl<|sN<|qR ?_
 exact oI h▸qD
theorem kG{a0:Int}{r:Int×Int}(h:gT a0=some r):EvP prog aC ext 275 [rI a0] [] (.tup [rI r.1,rI r.2],[]):=by
 refine Ev.body rfl Tryz.func275 rfl (by kernel_rfl)<|gS rfl rfl<|sV (r0)<|sV (r0)<|sN<|qS<|gS rfl rfl<|sM rfl<|sF h (fun h=>?_) fun h=>?_
 ·refine sN<|cT<|gS rfl rfl<|sV (r0)<|sV (rI 2)<|sN<|qR ?_
  exact oI h▸qD
 refine sN<|cF<|qK<|gS rfl rfl<|sM rfl<|sV (.d (.int .u64 (IntKind.wrap .u64 a0)))<|bE h fun x2 hx2 h=>cD (ou hx2)<|sV (rI (rW (x2-(1:Int))))<|sA rfl<|sN<|qS<|gS rfl rfl<|sM rfl<|sF h (fun h=>?_) fun h=>?_
 ·refine sN<|cT<|gS rfl rfl<|sM rfl<|sM rfl<|sM rfl<|sV (rI (rW ((30:Int)-(rW (x2-(1:Int))))))<|bE h fun x4 hx4 h=>WO.shlG hx4 rfl rfl rfl rfl rfl<|bE h fun x5 hx5 h=>cD (lN hx5)<|sA rfl<|sV (r0)<|sN<|qR ?_
  exact oI h▸qD
 refine sN<|cF<|qK<|gS rfl rfl<|sM rfl<|sM rfl<|sM rfl<|sV (rI (rW ((rW (x2-(1:Int)))-(30:Int))))<|bE h fun x6 hx6 h=>WO.shrG hx6 rfl rfl rfl rfl rfl<|bE h fun x7 hx7 h=>cD (lN hx7)<|sA rfl<|sV (r0)<|sN ?_
 refine qR ?_
 exact oI h▸qD
theorem lM{a0:(List Int)}{r:Int×Int}(h:gc a0=some r):EvP prog aC ext 274 [rL a0] [] (.tup [rI r.1,rI r.2],[]):=by
 refine Ev.body rfl Tryz.func274 rfl (by kernel_rfl)<|gS rfl rfl<|sV (r0)<|sV (r0)<|sN<|qS<|gS rfl rfl<|sM rfl<|bE h fun x1 hx1 h=>cD (gF hx1)<|sF h (fun h=>?_) fun h=>?_
 ·refine sN<|cT<|gS rfl rfl<|sV (r0)<|sV (rI 1)<|sN<|qR ?_
  exact oI h▸qD
 refine sN<|cF<|qK<|gS rfl rfl<|sM rfl<|sE (rI (a0.length:Int)) (qt _ _)<|sV (rI (rW ((a0.length:Int)-(1:Int))))<|sA rfl<|sN<|qS<|qB<|gS rfl rfl<|sM rfl<|sF h (fun h=>?_) fun h=>?_
 ·refine sA rfl<|sN<|cT<|gS rfl rfl<|sV (r0)<|sV (rI 2)<|sN<|qR ?_
  exact oI h▸qD
 refine sA rfl<|sN<|cF<|gS rfl rfl<|sM rfl<|sF h (fun h=>?_) fun h=>?_
 ·refine sA rfl<|sN<|cT<|gS rfl rfl<|sM rfl<|bE h fun x5 hx5 h=>eG hx5 rfl<|sC rfl<|bE h fun x6 hx6 h=>cR (.tup [rI x6.1,rI x6.2]) [] (kG hx6)<|sV (rI x6.1)<|sV (rI x6.2)<|sA rfl<|sA rfl<|sN ?_
  refine qR ?_
  exact oI h▸qD
 refine sA rfl<|sN<|cF<|qK<|WC.cI rfl rfl<|sM rfl<|sM rfl<|bE h fun x7 hx7 h=>eG hx7 rfl<|sC rfl<|sV (rI (shlI .i64 x7 (30:Int)))<|sM rfl<|sM rfl<|sV (rI (rW ((rW ((a0.length:Int)-(1:Int)))-(1:Int))))<|bE h fun x8 hx8 h=>?_
 refine eG hx8 rfl<|sC rfl<|sV (rI (orI .i64 (shlI .i64 x7 (30:Int)) x8))<|sA rfl ?_
 refine sN<|sO<|gS rfl rfl<|sM rfl<|bE h fun x9 hx9 h=>cR (.tup [rI x9.1,rI x9.2]) [] (kG hx9)<|sM rfl<|sV (rI x9.1)<|sV (rI x9.2)<|sA rfl<|sA rfl<|sN<|gS rfl rfl<|sM rfl<|sM rfl<|sV (rI (rW ((rW ((a0.length:Int)-(1:Int)))-(1:Int)))) ?_
 refine sV (rI (rW ((7680:Int)*(rW ((rW ((a0.length:Int)-(1:Int)))-(1:Int))))))<|sV (rI (rW (x9.1+(rW ((7680:Int)*(rW ((rW ((a0.length:Int)-(1:Int)))-(1:Int))))))))<|sM rfl<|sA rfl<|sA rfl<|sN<|qR ?_
 exact oI h▸qD
theorem pr{a0:bu}{a1:aQ}{a2:Int}{r:Int×Int}(h:iO a0 a1 a2=some r):EvP prog aC ext 190 [.d (bu.pd a0),.d (aQ.pd a1),rI a2] [] (.tup [rI r.1,rI r.2],[]):=by
 refine Ev.body rfl Tryz.func190 rfl (by kernel_rfl)<|gS rfl rfl<|sB (.ptr 48 0) 48 (.var (bu.rc a0))<|sB (.ptr 64 0) 64 (.var [rM aH.pd a1.bC])<|sV (r0)<|sV (r0)<|sN<|gS rfl rfl<|sV (.d (aQ.pd a1))<|sV (.ptr 48 3)<|sL rfl<|sV (.ptr 48 4)<|sL rfl<|bE h fun x1 hx1 h=>cR (.tup [.d (aL.pd x1.1),rI x1.2]) [] (response_Gain_ev hx1) ?_
 refine sM rfl<|sV (.d (aL.pd x1.1))<|sV (rI x1.2)<|sB (.ptr 128 0) 128 (.var [.ng,.ng])<|sS 128 (.var (aL.rc x1.1))<|sA rfl<|sN<|qS<|gS rfl rfl<|sM rfl<|sF h (fun h=>?_) fun h=>?_
 ·refine sN<|cT<|gS rfl rfl<|sM rfl<|sV (r0)<|sA rfl<|sN<|qR ?_
  exact oI h▸qD
 refine sN<|cF<|qK<|gS rfl rfl<|sV (.ptr 128 0)<|sL rfl<|bE h fun x3 hx3 h=>cR (.tup [rI x3.1,rI x3.2]) [] (lM hx3)<|sM rfl<|sV (rI x3.1)<|sV (rI x3.2)<|sA rfl<|sA rfl<|sN<|qS ?_
 refine gS rfl rfl<|sM rfl<|sF h (fun h=>?_) fun h=>?_
 ·refine sN<|cT<|gS rfl rfl<|sV (r0)<|sV (rI 24)<|sN<|qR ?_
  exact oI h▸qD
 refine sN<|cF<|qK<|gS rfl rfl<|sV (.ptr 128 1)<|sL rfl<|bE h fun x5 hx5 h=>cR (.tup [rI x5.1,rI x5.2]) [] (lM hx5)<|sM rfl<|sV (rI x5.1)<|sV (rI x5.2)<|sA rfl<|sA rfl<|sN<|qS ?_
 refine gS rfl rfl<|sM rfl<|sF h (fun h=>?_) fun h=>?_
 ·refine sN<|cT<|gS rfl rfl<|sM rfl<|sV (r0)<|sA rfl<|sN<|qR ?_
  exact oI h▸qD
 refine sN<|cF<|qK<|gS rfl rfl<|sM rfl<|bE h fun x7 hx7 h=>cR (.tup [rI x7.1,rI x7.2]) [] (kG hx7)<|sM rfl<|sV (rI x7.1)<|sV (rI x7.2)<|sA rfl<|sA rfl<|sN<|gS rfl rfl<|sM rfl ?_
 refine sV (rI (rW ((2:Int)*x7.1)))<|sM rfl<|sV (rI (rW ((rW ((2:Int)*x7.1))+x5.1)))<|sM rfl<|sV (rI (rW ((rW ((rW ((2:Int)*x7.1))+x5.1))-x3.1)))<|sM rfl<|sA rfl<|sA rfl<|sN<|qR ?_
 exact oI h▸qD
theorem mH{a0:Int}{r:Int}(h:iq a0=some r):EvP prog aC ext 193 [rI a0] [] (rI r,[]):=by
 refine Ev.body rfl Tryz.func193 rfl (by kernel_rfl)<|gS rfl rfl<|sV (r0)<|sN<|gS rfl rfl<|sM rfl<|sV (rI (qP .i64 a0 (1:Int)))<|sA rfl<|sN<|qR ?_
 exact oI h▸qD
theorem pq{a0:Int}{r:Int×Bool}(h:kH a0=some r):EvP prog aC ext 281 [rI a0] [] (.tup [rI r.1,rB r.2],[]):=by
 refine Ev.body rfl Tryz.func281 rfl (by kernel_rfl)<|gS rfl rfl<|sV (r0)<|sU<|sN<|gS rfl rfl<|sM rfl<|sV (rI (rW (a0*(30103:Int))))<|sM rfl<|sF h (fun h=>?_) fun h=>?_
 ·refine sM rfl<|sM rfl<|sV (rB (decide (a0<=(16777216:Int))))<|sV (rB (decide (a0<=(16777216:Int))))<|sA rfl<|sA rfl<|sN<|qR ?_
  exact oI h▸qD
 refine sM rfl<|sK<|sK<|sU<|sA rfl<|sA rfl<|sN<|qR ?_
 exact oI h▸qD
theorem mj{a0:Int}{r:Int}(h:gJ a0=some r):EvP prog aC ext 192 [rI a0] [] (rI r,[]):=by
 refine Ev.body rfl Tryz.func192 rfl (by kernel_rfl)<|gS rfl rfl<|sV (r0)<|sN<|gS rfl rfl<|sM rfl<|bE h fun x1 hx1 h=>cR (.tup [rI x1.1,rB x1.2]) [] (pq hx1)<|sM rfl<|sV (rI x1.1)<|sV (rB x1.2)<|sA rfl<|sA rfl<|sN<|qS ?_
 refine gS rfl rfl<|sM rfl<|sF h (fun h=>?_) fun h=>?_
 ·refine sN<|cT<|gS rfl rfl<|sV (r0)<|sN<|qR ?_
  exact oI h▸qD
 refine sN<|cF<|qK<|gS rfl rfl<|sM rfl<|bE h fun x3 hx3 h=>WO.uV hx3 rfl rfl rfl rfl rfl rfl<|sA rfl<|sN<|qS<|gS rfl rfl<|sM rfl<|bE h fun x4 hx4 h=>WO.remG hx4 rfl rfl rfl rfl rfl rfl<|sF h (fun h=>?_) fun h=>?_
 ·refine sN<|cT<|WC.region rfl rfl<|sM rfl<|sV (rI (rW (x3-(1:Int))))<|sA rfl<|sN<|gS rfl rfl<|sM rfl<|sA rfl<|sN<|qR ?_
  exact oI h▸qD
 refine sN<|cF<|qK<|gS rfl rfl<|sM rfl<|sA rfl<|sN<|qR ?_
 exact oI h▸qD
theorem qk{a0:Int}{r:Int}(h:kg a0=some r):EvP prog aC ext 194 [rI a0] [] (rI r,[]):=by
 refine Ev.body rfl Tryz.func194 rfl (by kernel_rfl)<|gS rfl rfl<|sV (r0)<|sN<|gS rfl rfl<|sM rfl<|sV (rI (rW (0-a0)))<|bE h fun x1 hx1 h=>cD (mj hx1)<|sV (rI (rW (0-x1)))<|sA rfl<|sN<|qR ?_
 exact oI h▸qD
theorem oE{a0:bu}{a1:aQ}{a2:Int}{a3:Int}{a4:Int}{r:az×Int}(h:fw a0 a1 a2 a3 a4=some r):EvP prog aC ext 110 [.d (bu.pd a0),.d (aQ.pd a1),rI a2,rI a3,rI a4] [] (.tup [.d (az.pd r.1),rI r.2],[]):=by
 refine Ev.body rfl Tryz.func110 rfl (by kernel_rfl)<|gS rfl rfl<|sB (.ptr 80 0) 80 (.var (bu.rc a0))<|sB (.ptr 96 0) 96 (.var [rM aH.pd a1.bC])<|sB (.ptr 160 0) 160 (.var [r0,r0])<|sV (r0)<|sN<|qS<|gS rfl rfl<|sV (.d (bu.pd a0))<|bE h fun x1 hx1 h=>cD (jG hx1)<|sF h (fun h=>?_) fun h=>?_
 ·refine sN<|cT<|gS rfl rfl<|sV (.d (az.pd (az.mk 0 0)))<|sS 160 (.var [r0,r0])<|sV (rI 27)<|sN<|qR ?_
  exact oI h▸qD
 refine sN<|cF<|qK<|qS<|gS rfl rfl<|sM rfl<|sF h (fun h=>?_) fun h=>?_
 ·refine sM rfl<|sK<|sK<|sT<|sN<|cT<|gS rfl rfl<|sV (.d (az.pd (az.mk 0 0)))<|sS 160 (.var [r0,r0])<|sV (rI 2)<|sN<|qR ?_
  exact oI h▸qD
 refine sM rfl<|sM rfl<|sV (rB (decide (a2>(1073741823:Int))))<|sF h (fun h=>?_) fun h=>?_
 ·refine sN<|cT<|gS rfl rfl<|sV (.d (az.pd (az.mk 0 0)))<|sS 160 (.var [r0,r0])<|sV (rI 2)<|sN<|qR ?_
  exact oI h▸qD
 refine sN<|cF<|qK<|gS rfl rfl<|sV (.d (bu.pd a0))<|sV (.d (aQ.pd a1))<|sM rfl<|bE h fun x5 hx5 h=>cR (.tup [rI x5.1,rI x5.2]) [] (pr hx5)<|sM rfl<|sV (rI x5.1)<|sV (rI x5.2)<|sA rfl<|sA rfl<|sN ?_
 refine qS<|gS rfl rfl<|sM rfl<|sF h (fun h=>?_) fun h=>?_
 ·refine sN<|cT<|gS rfl rfl<|sV (.d (az.pd (az.mk 0 0)))<|sM rfl<|sS 160 (.var [r0,r0])<|sA rfl<|sN<|qR ?_
  exact oI h▸qD
 refine sN<|cF<|qK<|gS rfl rfl<|sV (.ptr 80 0)<|sV (.d (aI.pd a0.bY))<|sM rfl<|sM rfl<|bE h fun x7 hx7 h=>cR (.tup [rI x7.1,rI x7.2.1,rI x7.2.2]) [] (mQ hx7)<|sM rfl<|sV (rI x7.1)<|sV (rI x7.2.1)<|sV (rI x7.2.2)<|sA rfl ?_
 refine sA rfl<|sA rfl<|sN<|qS<|gS rfl rfl<|sM rfl<|sF h (fun h=>?_) fun h=>?_
 ·refine sN<|cT<|gS rfl rfl<|sV (.d (az.pd (az.mk 0 0)))<|sM rfl<|sS 160 (.var [r0,r0])<|sA rfl<|sN<|qR ?_
  exact oI h▸qD
 refine sN<|cF<|qK<|gS rfl rfl<|sM rfl<|sV (rI (rW (x5.1-(2:Int))))<|bE h fun x9 hx9 h=>cD (mH hx9)<|bE h fun x10 hx10 h=>cD (mj hx10)<|sM rfl<|sV (rI (rW (x10+x7.1)))<|sM rfl<|sV (rI (rW (0-x5.1)))<|sV (rI (rW ((rW (0-x5.1))-(6:Int)))) ?_
 refine bE h fun x11 hx11 h=>cD (mH hx11)<|sV (rI (rW (0-x11)))<|bE h fun x12 hx12 h=>cD (qk hx12)<|sM rfl<|sV (rI (rW (x12+x7.2.1)))<|sV (.d (az.pd (az.mk (rW (x10+x7.1)) (rW (x12+x7.2.1)))))<|sS 160 (.var [rI (rW (x10+x7.1)),rI (rW (x12+x7.2.1))])<|sV (r0)<|sN<|qR ?_
 exact oI h▸qD
theorem oi{a0:aS}{a1:aq}{a2:ah}{r:(List az)}(h:cL a0 a1 a2=some r):EvP prog aC ext 58 [.d (aS.pd a0),.d (aq.pd a1),.d (ah.pd a2)] [] (rM az.pd r,[]):=by
 refine Ev.body rfl Tryz.func58 rfl (by kernel_rfl)<|gS rfl rfl<|sB (.ptr 48 0) 48 (.var (aS.rc a0))<|sB (.ptr 64 0) 64 (.var (aq.rc a1))<|sB (.ptr 80 0) 80 (.var (ah.rc a2))<|sV .ng<|sN<|gS rfl rfl<|sV .ng<|sN<|qS<|gS rfl rfl<|sV (.ptr 48 1)<|sL rfl<|sE (rI (a0.c7.length:Int)) (qt _ _) ?_
 refine sV (r0)<|sN<|bE h fun o15 ho15 h=>WC.block (WC.loop (WL.qx ho15 (fun s R' B'=>hY prog 0 (A R' B') (aC.at_ 58 0 3)=some (A [(3,.ptr 48 0),(4,.ptr 64 0),(5,.ptr 80 0),(7,.ref 816 0),(13,rM al.pd a0.c7),(14,rI (a0.c7.length:Int)),(15,rI s.1)] [(48,.var (aS.rc a0)),(64,.var (aq.rc a1)),(80,.var (ah.rc a2)),(816,.arr 0 47 (s.2.map az.pd))])) (fun o e R' B'=>e= .exit 0∧hY prog 0 (A R' B') (aC.at_ 58 0 9)=some (A [(7,.ref 816 0)] [(816,.arr 0 47 (o.map az.pd))])) rfl ?_ ?_))
 ·rintro⟨s1,s2⟩ R' B' q4 hI h
  refine gS rfl hI<|sF h (fun h=>?_) fun h=>?_
  ·refine sN<|qS<|cT<|qK<|qS<|qB<|gS rfl rfl<|sM rfl<|bE h fun x6 hx6 h=>eG hx6 rfl<|sV (.d (al.pd x6))<|sB (.ptr 144 0) 144 (.var zZ4)<|sA rfl<|sH 144 (.var (al.rc x6))<|sN ?_
   refine WC.cI rfl rfl<|sV (.ptr 64 14)<|sV (.d (bu.pd a1.eZ))<|sV (.ptr 48 2)<|sL rfl<|sM rfl<|bE h fun x7 hx7 h=>eG hx7 rfl<|sV (.cptr [.lst (x7.bL.bC.map aH.pd)])<|sV (.d (aQ.pd x7.bL))<|sV (.ptr 48 0)<|sL rfl<|sM rfl<|bE h fun x8 hx8 h=>eG hx8 rfl ?_
   refine sV (.cptr [.int .i64 x8.aP,.int .i64 x8.aT])<|sC rfl<|sV (.d (ah.pd a2))<|sV (.ptr 144 0)<|sV (.d (aa.pd x6.aO))<|bE h fun x9 hx9 h=>cD (kC hx9)<|sV (.d (ah.pd a2))<|sV (.ptr 144 0)<|sV (.d (aa.pd x6.aO))<|bE h fun x10 hx10 h=>cD (oe hx10)<|bE h fun x11 hx11 h=>cR (.tup [.d (az.pd x11.1),rI x11.2]) [] (oE hx11)<|sM rfl ?_
   refine sV (.d (az.pd x11.1))<|sV (rI x11.2)<|sB (.ptr 160 0) 160 (.var [r0,r0])<|sS 160 (.var (az.rc x11.1))<|sA rfl ?_
   refine sN<|sO<|gS rfl rfl<|sM rfl<|sF h (fun h=>?_) fun h=>?_
   ·refine sN<|cT<|WC.region rfl rfl<|sM rfl<|sV (.d (az.pd x11.1))<|sV (.d (.lst ([x11.1].map az.pd)))<|bE h fun x13 hx13 h=>aR hx13 (fun _=>rfl) rfl<|sA rfl<|sN<|WC.region rfl rfl<|sV (rI (rW (s1+(1:Int))))<|sM rfl<|sN ?_
    cases oI h
    exact⟨rfl,rfl⟩
   refine sN<|cF<|qK<|WC.region rfl rfl<|sV (rI (rW (s1+(1:Int))))<|sM rfl<|sN ?_
   cases oI h
   exact⟨rfl,rfl⟩
  refine sN<|qS<|cF<|qX ?_
  cases oI h
  exact⟨nofun,rfl,rfl⟩
 intro e R' B' he hq
 obtain⟨rfl,hI⟩:=hq
 refine qE<|gS rfl hI<|sM rfl<|sA rfl<|sN<|qR ?_
 exact oI h▸qD
theorem iV{a0:az}{r:Bool}(h:gC a0=some r):EvP prog aC ext 114 [.d (az.pd a0)] [] (rB r,[]):=by
 refine Ev.body rfl Tryz.func114 rfl (by kernel_rfl)<|gS rfl rfl<|sB (.ptr 16 0) 16 (.var (az.rc a0))<|sU<|sN<|gS rfl rfl<|sV (.ptr 16 0)<|sL rfl<|sV (.ptr 16 1)<|sL rfl<|sV (rB (decide (a0.aK>a0.aF)))<|sA rfl<|sN<|qR ?_
 exact oI h▸qD
theorem jM{a0:(List az)}{r:Int}(h:dP a0=some r):EvP prog aC ext 198 [rM az.pd a0,.d (.raw (.func (.func 114) #[] #[]))] [] (rI r,[]):=by
 refine Ev.body rfl Tryz.func198 rfl (by kernel_rfl)<|gS rfl rfl<|sV (r0)<|sN<|qS<|gS rfl rfl<|sM rfl<|sE (rI (a0.length:Int)) (qt _ _)<|sV (r0)<|sN<|bE h fun o8 ho8 h=>WC.block (WC.loop (WL.qx ho8 (fun s R' B'=>hY prog 0 (A R' B') (aC.at_ 198 0 2)=some (A [(0,rM az.pd a0),(1,.d (.raw (.func (.func 114) #[] #[]))),(7,rI (a0.length:Int)),(8,rI s)] [])) (fun o e R' B'=>match o with| .inl y=>e= .exit 0∧hY prog 0 (A R' B') (aC.at_ 198 0 7)=some (A [] [])| .inr r=>e= .ret∧finish prog (aC.own 198) Tryz.f198 0 (A R' B')=some (rI r,[])) rfl ?_ ?_))
 ·rintro s1 R' B' q2 hI h
  refine gS rfl hI<|sF h (fun h=>?_) fun h=>?_
  ·refine sN<|qS<|cT<|qK<|qS<|qB<|gS rfl rfl<|sM rfl<|sA rfl<|sN<|gS rfl rfl<|sM rfl<|sM rfl<|sM rfl<|bE h fun x4 hx4 h=>?_
   refine eG hx4 rfl<|sV (.d (az.pd x4))<|bE h fun x5 hx5 h=>qZ h (fun hb6 h=>?_) (fun hb6 h=>?_)
   ·refine WO.rN (v:=rB true) (u:=[]) rfl rfl (fun _=>rfl) rfl rfl rfl rfl rfl (iV hx5) rfl rfl (congrArg (fun b=>RV.d (.bool b)) hb6) rfl<|sN<|cT<|gS rfl rfl<|sM rfl<|sA rfl<|sN<|qR ?_
    cases oI h
    exact⟨nofun,rfl,rfl⟩
   refine WO.rN (v:=rB false) (u:=[]) rfl rfl (fun _=>rfl) rfl rfl rfl rfl rfl (iV hx5) rfl rfl (congrArg (fun b=>RV.d (.bool b)) hb6) rfl<|sN<|cF<|qK<|WC.region rfl rfl<|sV (rI (rW (s1+(1:Int))))<|sM rfl<|sN ?_
   cases oI h
   exact⟨rfl,rfl⟩
  refine sN<|qS<|cF<|qX ?_
  cases oI h
  exact⟨nofun,rfl,rfl⟩
 intro e R' B' he hq
 rcases o8 with y9|r10
 ·obtain⟨rfl,hI⟩:=hq
  refine qE<|gS rfl hI<|sV (rI (-1))<|sN<|qR ?_
  exact oI h▸qD
 obtain⟨rfl,hf⟩:=hq
 cases oI h
 exact hf
theorem eB{a0:(List az)}{r:Bool}(h:cz a0=some r):EvP prog aC ext 113 [rM az.pd a0,.d (.raw (.func (.func 114) #[] #[]))] [] (rB r,[]):=by
 refine Ev.body rfl Tryz.func113 rfl (by kernel_rfl)<|gS rfl rfl<|sU<|sN<|gS rfl rfl<|sM rfl<|sM rfl<|bE h fun x1 hx1 h=>cD (jM hx1)<|sV (rB (decide (x1>=(0:Int))))<|sA rfl<|sN<|qR ?_
 exact oI h▸qD
theorem my{a0:az}{r:Int}(h:gD a0=some r):EvP prog aC ext 116 [.d (az.pd a0)] [] (rI r,[]):=by
 refine Ev.body rfl Tryz.func116 rfl (by kernel_rfl)<|gS rfl rfl<|sB (.ptr 16 0) 16 (.var (az.rc a0))<|sV (r0)<|sN<|gS rfl rfl<|sV (.ptr 16 0)<|sL rfl<|sA rfl<|sN<|qR ?_
 exact oI h▸qD
theorem mY{a0:(List az)}{r:Int}(h:fe a0=some r):EvP prog aC ext 115 [rM az.pd a0,.d (.raw (.func (.func 116) #[] #[]))] [] (rI r,[]):=by
 refine Ev.body rfl Tryz.func115 rfl (by kernel_rfl)<|gS rfl rfl<|sV (r0)<|sN<|gS rfl rfl<|sV .ng<|sN<|qS<|gS rfl rfl<|sM rfl<|sE (rI (a0.length:Int)) (qt _ _)<|sV (r0)<|sN<|bE h fun o10 ho10 h=>WC.block (WC.loop (WL.qx ho10 (fun s R' B'=>hY prog 0 (A R' B') (aC.at_ 115 0 3)=some (A [(1,.d (.raw (.func (.func 116) #[] #[]))),(5,.ref 304 0),(8,rM az.pd a0),(9,rI (a0.length:Int)),(10,rI s.1)] [(304,.arr 0 3 (s.2.map (PD.int .i64)))])) (fun o e R' B'=>e= .exit 0∧hY prog 0 (A R' B') (aC.at_ 115 0 7)=some (A [(5,.ref 304 0)] [(304,.arr 0 3 (o.map (PD.int .i64)))])) rfl ?_ ?_))
 ·rintro⟨s1,s2⟩ R' B' q4 hI h
  refine gS rfl hI<|sF h (fun h=>?_) fun h=>?_
  ·refine sN<|qS<|cT<|qK<|qS<|qB<|gS rfl rfl<|bE h fun x6 hx6 h=>eG hx6 rfl<|sV (.d (az.pd x6))<|sB (.ptr 112 0) 112 (.var [r0,r0])<|sS 112 (.var (az.rc x6))<|sN<|WC.region rfl rfl<|sM rfl ?_
   refine sM rfl<|sV (.d (az.pd x6))<|bE h fun x7 hx7 h=>cD (my hx7)<|sV (.d (.lst ([x7].map (PD.int .i64))))<|bE h fun x8 hx8 h=>aR hx8 (fun _=>rfl) rfl<|sA rfl<|sN<|WC.region rfl rfl<|sV (rI (rW (s1+(1:Int))))<|sM rfl<|sN ?_
   cases oI h
   exact⟨rfl,rfl⟩
  refine sN<|qS<|cF<|qX ?_
  cases oI h
  exact⟨nofun,rfl,rfl⟩
 intro e R' B' he hq
 obtain⟨rfl,hI⟩:=hq
 refine qE<|gS rfl hI<|sM rfl<|bE h fun x11 hx11 h=>cR (.tup []) [(304,.arr 0 3 (x11.map (PD.int .i64)))] (pe hx11)<|sN<|gS rfl rfl<|sM rfl<|sM rfl<|WO.u9 rfl rfl rfl rfl rfl rfl rfl rfl rfl<|sV (rI (rW ((x11.length:Int)-(1:Int))))<|bE h fun x12 hx12 h=>WO.uV hx12 rfl rfl rfl rfl rfl rfl<|bE h fun x14 hx14 h=>WO.rG hx14 rfl rfl rfl rfl rfl rfl rfl rfl ?_
 refine bE h fun x15 hx15 h=>WO.rC hx15 rfl rfl rfl rfl rfl rfl<|sA rfl<|sN<|qR ?_
 exact oI h▸qD
theorem mz{a0:az}{r:Int}(h:gE a0=some r):EvP prog aC ext 117 [.d (az.pd a0)] [] (rI r,[]):=by
 refine Ev.body rfl Tryz.func117 rfl (by kernel_rfl)<|gS rfl rfl<|sB (.ptr 16 0) 16 (.var (az.rc a0))<|sV (r0)<|sN<|gS rfl rfl<|sV (.ptr 16 1)<|sL rfl<|sA rfl<|sN<|qR ?_
 exact oI h▸qD
theorem mZ{a0:(List az)}{r:Int}(h:ff a0=some r):EvP prog aC ext 115 [rM az.pd a0,.d (.raw (.func (.func 117) #[] #[]))] [] (rI r,[]):=by
 refine Ev.body rfl Tryz.func115 rfl (by kernel_rfl)<|gS rfl rfl<|sV (r0)<|sN<|gS rfl rfl<|sV .ng<|sN<|qS<|gS rfl rfl<|sM rfl<|sE (rI (a0.length:Int)) (qt _ _)<|sV (r0)<|sN<|bE h fun o10 ho10 h=>WC.block (WC.loop (WL.qx ho10 (fun s R' B'=>hY prog 0 (A R' B') (aC.at_ 115 0 3)=some (A [(1,.d (.raw (.func (.func 117) #[] #[]))),(5,.ref 304 0),(8,rM az.pd a0),(9,rI (a0.length:Int)),(10,rI s.1)] [(304,.arr 0 3 (s.2.map (PD.int .i64)))])) (fun o e R' B'=>e= .exit 0∧hY prog 0 (A R' B') (aC.at_ 115 0 7)=some (A [(5,.ref 304 0)] [(304,.arr 0 3 (o.map (PD.int .i64)))])) rfl ?_ ?_))
 ·rintro⟨s1,s2⟩ R' B' q4 hI h
  refine gS rfl hI<|sF h (fun h=>?_) fun h=>?_
  ·refine sN<|qS<|cT<|qK<|qS<|qB<|gS rfl rfl<|bE h fun x6 hx6 h=>eG hx6 rfl<|sV (.d (az.pd x6))<|sB (.ptr 112 0) 112 (.var [r0,r0])<|sS 112 (.var (az.rc x6))<|sN<|WC.region rfl rfl<|sM rfl ?_
   refine sM rfl<|sV (.d (az.pd x6))<|bE h fun x7 hx7 h=>cD (mz hx7)<|sV (.d (.lst ([x7].map (PD.int .i64))))<|bE h fun x8 hx8 h=>aR hx8 (fun _=>rfl) rfl<|sA rfl<|sN<|WC.region rfl rfl<|sV (rI (rW (s1+(1:Int))))<|sM rfl<|sN ?_
   cases oI h
   exact⟨rfl,rfl⟩
  refine sN<|qS<|cF<|qX ?_
  cases oI h
  exact⟨nofun,rfl,rfl⟩
 intro e R' B' he hq
 obtain⟨rfl,hI⟩:=hq
 refine qE<|gS rfl hI<|sM rfl<|bE h fun x11 hx11 h=>cR (.tup []) [(304,.arr 0 3 (x11.map (PD.int .i64)))] (pe hx11)<|sN<|gS rfl rfl<|sM rfl<|sM rfl<|WO.u9 rfl rfl rfl rfl rfl rfl rfl rfl rfl<|sV (rI (rW ((x11.length:Int)-(1:Int))))<|bE h fun x12 hx12 h=>WO.uV hx12 rfl rfl rfl rfl rfl rfl<|bE h fun x14 hx14 h=>WO.rG hx14 rfl rfl rfl rfl rfl rfl rfl rfl ?_
 refine bE h fun x15 hx15 h=>WO.rC hx15 rfl rfl rfl rfl rfl rfl<|sA rfl<|sN<|qR ?_
 exact oI h▸qD
theorem oD{a0:(List az)}{r:az×Int}(h:fu a0=some r):EvP prog aC ext 59 [rM az.pd a0] [] (.tup [.d (az.pd r.1),rI r.2],[]):=by
 refine Ev.body rfl Tryz.func59 rfl (by kernel_rfl)<|gS rfl rfl<|sB (.ptr 32 0) 32 (.var [r0,r0])<|sV (r0)<|sN<|qS<|gS rfl rfl<|sM rfl<|sE (rI (a0.length:Int)) (qt _ _)<|sF h (fun h=>?_) fun h=>?_
 ·refine sN<|cT<|gS rfl rfl<|sV (.d (az.pd (az.mk 0 0)))<|sS 32 (.var [r0,r0])<|sV (rI 24)<|sN<|qR ?_
  exact oI h▸qD
 refine sN<|cF<|qK<|qS<|gS rfl rfl<|sM rfl<|bE h fun x2 hx2 h=>qZ h (fun hb3 h=>?_) (fun hb3 h=>?_)
 ·refine WO.rN (v:=rB true) (u:=[]) rfl rfl (fun _=>rfl) rfl rfl rfl rfl rfl (eB hx2) rfl rfl (congrArg (fun b=>RV.d (.bool b)) hb3) rfl<|sN<|cT<|gS rfl rfl<|sV (.d (az.pd (az.mk 0 0)))<|sS 32 (.var [r0,r0])<|sV (rI 1)<|sN<|qR ?_
  exact oI h▸qD
 refine WO.rN (v:=rB false) (u:=[]) rfl rfl (fun _=>rfl) rfl rfl rfl rfl rfl (eB hx2) rfl rfl (congrArg (fun b=>RV.d (.bool b)) hb3) rfl<|sN<|cF<|qK<|gS rfl rfl<|sM rfl<|bE h fun x4 hx4 h=>cD (mY hx4)<|sM rfl<|bE h fun x5 hx5 h=>cD (mZ hx5)<|sV (.d (az.pd (az.mk x4 x5)))<|sS 32 (.var [rI x4,rI x5])<|sV (r0)<|sN ?_
 refine qR ?_
 exact oI h▸qD
theorem qq{a0:aq}{a1:ar}{a2:(List ae)}{r:ba×Int}(h:gj a0 a1 a2=some r):EvP prog aC ext 15 [.d (aq.pd a0),.d (ar.pd a1),rM ae.pd a2] [] (.tup [.d (ba.pd r.1),rI r.2],[]):=by
 refine Ev.body rfl Tryz.func15 rfl (by kernel_rfl)<|gS rfl rfl<|sB (.ptr 48 0) 48 (.var (aq.rc a0))<|sB (.ptr 64 0) 64 (.var [rM aA.pd a1.aU])<|sB (.ptr 96 0) 96 (.var zZ0)<|sV (r0)<|sN<|gS rfl rfl<|sV (.d (aq.pd a0))<|sV (.d (ar.pd a1))<|sM rfl<|bE h fun x1 hx1 h=>cR (.tup [.d (aS.pd x1.1),rI x1.2]) [] (pU hx1)<|sM rfl<|sV (.d (aS.pd x1.1)) ?_
 refine sV (rI x1.2)<|sB (.ptr 128 0) 128 (.var [.ng,.ng,.ng])<|sS 128 (.var (aS.rc x1.1))<|sA rfl<|sN<|qS<|gS rfl rfl<|sM rfl<|sF h (fun h=>?_) fun h=>?_
 ·refine sN<|cT<|gS rfl rfl<|sG (.agg zZ0)<|sM rfl<|sH 96 (.var zZ0)<|sA rfl<|sN<|qR ?_
  cases oI h
  exact qG
 refine sN<|cF<|qK<|gS rfl rfl<|sV (.d (aS.pd x1.1))<|sV (.d (aq.pd a0))<|bE h fun x3 hx3 h=>cR (.tup [.d (ag.pd x3.1),rI x3.2]) [] (pu hx3)<|sM rfl<|sV (.d (ag.pd x3.1))<|sV (rI x3.2)<|sB (.ptr 160 0) 160 (.var [r0,r0,r0,r0,r0,r0,r0,.ng,.ng,.ng,r0])<|sH 160 (.var (ag.rc x3.1))<|sA rfl<|sN ?_
 refine qS<|gS rfl rfl<|sM rfl<|sF h (fun h=>?_) fun h=>?_
 ·refine sN<|cT<|gS rfl rfl<|sG (.agg zZ0)<|sM rfl<|sH 96 (.var zZ0)<|sA rfl<|sN<|qR ?_
  cases oI h
  exact qG
 refine sN<|cF<|qK<|gS rfl rfl<|sV (.d (ag.pd x3.1))<|sV (.ptr 48 19)<|sL rfl<|bE h fun x5 hx5 h=>cR (.tup [.d (aj.pd x5.1),rI x5.2]) [] (nu hx5)<|sM rfl<|sV (.d (aj.pd x5.1))<|sV (rI x5.2)<|sB (.ptr 176 0) 176 (.var zZ1)<|sH 176 (.var (aj.rc x5.1))<|sA rfl ?_
 refine sN<|qS<|gS rfl rfl<|sM rfl<|sF h (fun h=>?_) fun h=>?_
 ·refine sN<|cT<|gS rfl rfl<|sG (.agg zZ0)<|sM rfl<|sH 96 (.var zZ0)<|sA rfl<|sN<|qR ?_
  cases oI h
  exact qG
 refine sN<|cF<|qK<|gS rfl rfl<|sV (.ptr 128 0)<|sL rfl<|sV (.d (aj.pd x5.1))<|sG (.d (.agg [.lst (x1.1.dl.map ae.pd),.int .i64 x5.1.aV.fX,.int .i64 x5.1.aV.fY,.int .i64 x5.1.aV.fZ,.int .i64 x5.1.aX,.int .i64 x5.1.bh,.int .i64 x5.1.dW,.int .i64 x5.1.aY.aK.fX,.int .i64 x5.1.aY.aK.fY,.int .i64 x5.1.aY.aK.fZ,.int .i64 x5.1.aY.aF.fX,.int .i64 x5.1.aY.aF.fY,.int .i64 x5.1.aY.aF.fZ,.int .i64 0,.int .i64 0,.int .i64 0]))<|sB (.ptr 192 0) 192 (.var zZ0)<|sH 192 (.var (rM ae.pd x1.1.dl::aj.rc x5.1++[r0,r0,r0]))<|sN<|qS<|gS rfl rfl<|sV (.d (aS.pd x1.1))<|sV (.d (aq.pd a0)) ?_
 refine sV (.ptr 176 6)<|sV (.d (ah.pd x5.1.aY))<|bE h fun x7 hx7 h=>cD (oi hx7)<|sA rfl<|sN<|gS rfl rfl<|sM rfl<|sE (rI (x7.length:Int)) (qt _ _)<|sF h (fun h=>?_) fun h=>?_
 ·refine sN<|cT<|gS rfl rfl<|sM rfl<|sE (rI (x7.length:Int)) (qt _ _)<|sV (.ptr 192 15)<|sS 192 (.var (rM ae.pd x1.1.dl::aj.rc x5.1++[r0,r0,rI (x7.length:Int)]))<|sN<|gS rfl rfl<|sM rfl<|bE h fun x9 hx9 h=>cR (.tup [.d (az.pd x9.1),rI x9.2]) [] (oD hx9)<|sM rfl<|sV (.d (az.pd x9.1))<|sV (rI x9.2) ?_
  refine sV (.ptr 192 13)<|sS 192 (.var (rM ae.pd x1.1.dl::aj.rc x5.1++az.rc x9.1++[rI (x7.length:Int)]))<|sA rfl<|sN<|gS rfl rfl<|sM rfl<|sF h (fun h=>?_) fun h=>?_
  ·refine sN<|cT<|gS rfl rfl<|sG (.agg zZ0)<|sM rfl<|sH 96 (.var zZ0)<|sA rfl<|sN<|qR ?_
   cases oI h
   exact qG
  refine sN<|cF<|qK<|gS rfl rfl<|sV (.d (.agg [.lst (x1.1.dl.map ae.pd),.int .i64 x5.1.aV.fX,.int .i64 x5.1.aV.fY,.int .i64 x5.1.aV.fZ,.int .i64 x5.1.aX,.int .i64 x5.1.bh,.int .i64 x5.1.dW,.int .i64 x5.1.aY.aK.fX,.int .i64 x5.1.aY.aK.fY,.int .i64 x5.1.aY.aK.fZ,.int .i64 x5.1.aY.aF.fX,.int .i64 x5.1.aY.aF.fY,.int .i64 x5.1.aY.aF.fZ,.int .i64 x9.1.aK,.int .i64 x9.1.aF,.int .i64 (x7.length:Int)]))<|sH 96 (.var (rM ae.pd x1.1.dl::aj.rc x5.1++az.rc x9.1++[rI (x7.length:Int)]))<|sV (r0)<|sN<|qR ?_
  cases oI h
  exact qG
 refine sN<|cF<|qK<|gS rfl rfl<|sV (.d (.agg [.lst (x1.1.dl.map ae.pd),.int .i64 x5.1.aV.fX,.int .i64 x5.1.aV.fY,.int .i64 x5.1.aV.fZ,.int .i64 x5.1.aX,.int .i64 x5.1.bh,.int .i64 x5.1.dW,.int .i64 x5.1.aY.aK.fX,.int .i64 x5.1.aY.aK.fY,.int .i64 x5.1.aY.aK.fZ,.int .i64 x5.1.aY.aF.fX,.int .i64 x5.1.aY.aF.fY,.int .i64 x5.1.aY.aF.fZ,.int .i64 0,.int .i64 0,.int .i64 0]))<|sH 96 (.var (rM ae.pd x1.1.dl::aj.rc x5.1++[r0,r0,r0]))<|sV (r0)<|sN<|qR ?_
 cases oI h
 exact qG
theorem nj{a0:ae}{a1:ae}{r:Int}(h:jf a0 a1=some r):EvP prog aC ext 42 [.d (ae.pd a0),.d (ae.pd a1)] [] (rI r,[]):=by
 refine Ev.body rfl Tryz.func42 rfl (by kernel_rfl)<|gS rfl rfl<|sB (.ptr 32 0) 32 (.var (ae.rc a0))<|sB (.ptr 48 0) 48 (.var (ae.rc a1))<|sV (r0)<|sN<|WC.cI rfl rfl<|sV (.ptr 32 4)<|sL rfl<|sV (.ptr 48 4)<|sL rfl<|bE h fun x1 hx1 h=>cD (bI hx1)<|sV (.d (ae.pd a0))<|sV (.d (ae.pd a1)) ?_
 refine bE h fun x2 hx2 h=>cD (qo hx2)<|sV (.d (.lst ([x1,x2].map (PD.int .i64))))<|bE h fun x3 hx3 h=>cD (gQ hx3)<|sA rfl ?_
 refine sN<|sO<|qR ?_
 cases oI h
 exact qG
theorem kQ{a0:(List ae)}{r:ae}(h:eJ a0=some r):EvP prog aC ext 134 [rM ae.pd a0,.d (.raw (.func (.func 42) #[] #[]))] [] (.d (ae.pd r),[]):=by
 refine Ev.body rfl Tryz.func134 rfl (by kernel_rfl)<|gS rfl rfl<|sB (.ptr 64 0) 64 (.var zZ2)<|sN<|qS<|gS rfl rfl<|sM rfl<|sE (rI (a0.length:Int)) (qt _ _)<|sF h (fun h=>?_) fun h=>?_
 ·refine sN<|cT<|WC.region rfl rfl<|sG (.ifc 9 (rS [115,108,105,99,101,115,46,77,105,110,70,117,110,99,58,32,101,109,112,116,121,32,108,105,115,116])) ?_
  cases h
 refine sN<|cF<|qK<|gS rfl rfl<|sM rfl<|bE h fun x2 hx2 h=>eG hx2 rfl<|sV (.d (ae.pd x2))<|sB (.ptr 80 0) 80 (.var zZ2)<|sH 80 (.var (ae.rc x2))<|sN<|qS<|gS rfl rfl<|sV (rI 1)<|sN ?_
 refine bE h fun o29 ho29 h=>WC.block (WC.loop (WL.qx ho29 (fun s R' B'=>hY prog 0 (A R' B') (aC.at_ 134 0 5)=some (A [(0,rM ae.pd a0),(1,.d (.raw (.func (.func 42) #[] #[]))),(4,.ptr 64 0),(5,.ptr 80 0),(6,rI s.1)] [(64,.var zZ2),(80,.var [rS s.2.1,rS s.2.2.1,rS s.2.2.2.1,rS s.2.2.2.2.1,rI s.2.2.2.2.2.1,rI s.2.2.2.2.2.2.1,rI s.2.2.2.2.2.2.2.1,rI s.2.2.2.2.2.2.2.2.1,rI s.2.2.2.2.2.2.2.2.2])])) (fun o e R' B'=>e= .exit 0∧hY prog 0 (A R' B') (aC.at_ 134 0 9)=some (A [(4,.ptr 64 0),(5,.ptr 80 0)] [(64,.var zZ2),(80,.var [rS o.1,rS o.2.1,rS o.2.2.1,rS o.2.2.2.1,rI o.2.2.2.2.1,rI o.2.2.2.2.2.1,rI o.2.2.2.2.2.2.1,rI o.2.2.2.2.2.2.2.1,rI o.2.2.2.2.2.2.2.2])])) rfl ?_ ?_))
 ·rintro⟨s3,s4,s5,s6,s7,s8,s9,s10,s11,s12⟩ R' B' q22 hI h
  refine qS<|gS rfl hI<|sM rfl<|sM rfl<|sE (rI (a0.length:Int)) (qt _ _)<|sF h (fun h=>?_) fun h=>?_
  ·refine sN<|cT<|qK<|qS<|qB<|WC.cI rfl rfl<|sM rfl<|sM rfl<|sM rfl<|bE h fun x24 hx24 h=>eG hx24 rfl<|sV (.d (ae.pd x24))<|sV (.d (ae.pd (ae.mk (aw.mk s4 s5 s6 s7) s8 s9 s10 s11 s12)))<|bE h fun x25 hx25 h=>cD (nj hx25) ?_
   refine sF h (fun h=>?_) fun h=>?_
   ·refine sN<|sO<|cT<|WC.region rfl rfl<|sM rfl<|sM rfl<|bE h fun x27 hx27 h=>eG hx27 rfl<|sV (.d (ae.pd x27))<|sH 80 (.var (ae.rc x27))<|sN<|WC.region rfl rfl<|sM rfl<|sV (rI (rW (s3+(1:Int))))<|sA rfl<|sN ?_
    cases oI h
    exact⟨rfl,rfl⟩
   refine sN<|sO<|cF<|qK<|WC.region rfl rfl<|sM rfl<|sV (rI (rW (s3+(1:Int))))<|sA rfl<|sN ?_
   cases oI h
   exact⟨rfl,rfl⟩
  refine sN<|cF<|qX ?_
  cases oI h
  exact⟨nofun,rfl,rfl⟩
 intro e R' B' he hq
 obtain⟨rfl,hI⟩:=hq
 refine qE<|gS rfl hI<|sV (.d (ae.pd (ae.mk (aw.mk o29.1 o29.2.1 o29.2.2.1 o29.2.2.2.1) o29.2.2.2.2.1 o29.2.2.2.2.2.1 o29.2.2.2.2.2.2.1 o29.2.2.2.2.2.2.2.1 o29.2.2.2.2.2.2.2.2)))<|sH 64 (.var [rS o29.1,rS o29.2.1,rS o29.2.2.1,rS o29.2.2.2.1,rI o29.2.2.2.2.1,rI o29.2.2.2.2.2.1,rI o29.2.2.2.2.2.2.1,rI o29.2.2.2.2.2.2.2.1,rI o29.2.2.2.2.2.2.2.2])<|sN<|qR ?_
 cases oI h
 exact qG
theorem event_name_ev{a0:(List ae)}{r:ae}(h:nO a0=some r):EvP prog aC ext 67 [rM ae.pd a0] [] (.d (ae.pd r),[]):=by
 refine Ev.body rfl Tryz.func67 rfl (by kernel_rfl)<|gS rfl rfl<|sB (.ptr 32 0) 32 (.var zZ2)<|sN<|qS<|gS rfl rfl<|sM rfl<|sE (rI (a0.length:Int)) (qt _ _)<|sF h (fun h=>?_) fun h=>?_
 ·refine sN<|cT<|gS rfl rfl<|sG (.d (ae.pd (ae.mk (aw.mk [] [] [] []) 0 0 0 0 0)))<|sH 32 (.var zZ2)<|sN<|qR ?_
  cases oI h
  exact qG
 refine sN<|cF<|qK<|gS rfl rfl<|sM rfl<|bE h fun x2 hx2 h=>cD (kQ hx2)<|sH 32 (.var (ae.rc x2))<|sN<|qR ?_
 cases oI h
 exact qG
theorem names_compare_ev{a0:eP}{a1:au}{a2:au}{r:Int}(h:jk a0 a1 a2=some r):EvP prog aC ext 69 [.d (eP.pd a0),.d (au.pd a1),.d (au.pd a2)] [] (rI r,[]):=by
 refine Ev.body rfl Tryz.func69 rfl (by kernel_rfl)<|gS rfl rfl<|sB (.ptr 48 0) 48 (.var [])<|sB (.ptr 64 0) 64 (.var (au.rc a1))<|sB (.ptr 80 0) 80 (.var (au.rc a2))<|sV (r0)<|sN<|gS rfl rfl<|sV (.ptr 64 0)<|sV (.d (ae.pd a1.aZ))<|sV (.ptr 80 0)<|sV (.d (ae.pd a2.aZ))<|bE h fun x1 hx1 h=>cD (nj hx1)<|sA rfl ?_
 refine sN<|qR ?_
 cases oI h
 exact qG
theorem gi{a1:Int}{a2:Int}{d0:(List au)}{r:(List au)}(h:cx a1 a2 d0=some r):EvP prog aC ext 208 [.ref 0 0,rI a1,rI a2,.d (.raw (.func (.func 69) #[.agg #[]] #[]))] [.arr 0 86 (d0.map au.pd)] (.tup [],[.arr 0 86 (r.map au.pd)]):=by
 refine Ev.body rfl Tryz.func208 rfl (by kernel_rfl)<|gS rfl rfl<|sM rfl<|sV (rI (rW (a1+(1:Int))))<|sA rfl<|sN<|bE h fun o35 ho35 h=>?_
 cases oI h
 refine WC.block (WC.loop (WL.wx ho35 (fun s R' B'=>hY prog 1 (A R' B') (aC.at_ 208 1 1)=some (A [(0,.ref 0 0),(1,rI a1),(2,rI a2),(3,.d (.raw (.func (.func 69) #[.agg #[]] #[]))),(8,rI s.1)] [(0,.arr 0 86 (s.2.map au.pd))])) rfl ?_))
 rintro⟨s1,s2⟩ R' B' q3 hI h
 refine qS<|gS rfl hI<|sM rfl<|sM rfl<|sF h (fun h=>?_) fun h=>?_
 ·refine sN<|cT<|qK<|qS<|qB<|gS rfl rfl<|sM rfl<|sA rfl<|sN<|bE h fun o32 ho32 h=>WC.block (WC.loop (WL.qx ho32 (fun s R' B'=>hY prog 1 (A R' B') (aC.at_ 208 1 4)=some (A [(0,.ref 0 0),(1,rI a1),(2,rI a2),(3,.d (.raw (.func (.func 69) #[.agg #[]] #[]))),(8,rI s1),(9,rI s.1)] [(0,.arr 0 86 (s.2.map au.pd))])) (fun o e R' B'=>e= .exit 2∧hY prog 1 (A R' B') (aC.at_ 208 1 2)=some (A [(0,.ref 0 0),(1,rI a1),(2,rI a2),(3,.d (.raw (.func (.func 69) #[.agg #[]] #[]))),(8,rI o.1)] [(0,.arr 0 86 (o.2.map au.pd))])) rfl ?_ ?_))
  ·rintro⟨s5,s6⟩ R' B' q9 hI h
   refine qS<|WC.cI hI rfl<|sM rfl<|sM rfl<|sF h (fun h=>?_) fun h=>?_
   ·refine sM rfl<|sM rfl<|sM rfl<|sM rfl<|bE h fun x12 hx12 h=>WO.rG hx12 rfl rfl rfl rfl rfl rfl rfl rfl<|bE h fun x13 hx13 h=>WO.rC hx13 rfl rfl rfl rfl rfl rfl<|sM rfl<|sM rfl<|sV (rI (rW (s5-(1:Int))))<|bE h fun x15 hx15 h=>WO.rG hx15 rfl rfl rfl rfl rfl rfl rfl rfl<|bE h fun x16 hx16 h=>WO.rC hx16 rfl rfl rfl rfl rfl rfl ?_
    refine bE h fun x17 hx17 h=>cD (names_compare_ev hx17)<|sV (rB (decide (x17<(0:Int))))<|sF h (fun h=>?_) fun h=>?_
    ·refine sN<|sO<|cT<|qK<|qS<|qB<|WC.rb rfl rfl<|sM rfl<|sM rfl<|sM rfl<|sM rfl<|sV (rI (rW (s5-(1:Int))))<|sM rfl<|sM rfl<|sV (rI (rW (s5-(1:Int))))<|bE h fun x20 hx20 h=>?_
     refine WO.rG hx20 rfl rfl rfl rfl rfl rfl rfl rfl<|bE h fun x21 hx21 h=>WO.rC hx21 rfl rfl rfl rfl rfl rfl<|sM rfl<|sM rfl<|bE h fun x23 hx23 h=>WO.rG hx23 rfl rfl rfl rfl rfl rfl rfl rfl<|bE h fun x24 hx24 h=>WO.rC hx24 rfl rfl rfl rfl rfl rfl<|bE h fun x26 hx26 h=>WO.rG hx26 rfl rfl rfl rfl rfl rfl rfl rfl<|bE h fun x27 hx27 h=>WO.sY (g:=au.pd) (sz:=25) (p:=au.pd x21) hx27 (by intro _;kernel_rfl) (by intro _;kernel_rfl) rfl rfl rfl rfl rfl rfl rfl rfl rfl<|bE h fun x29 hx29 h=>WO.rG hx29 rfl rfl rfl rfl rfl rfl rfl rfl ?_
     refine bE h fun x30 hx30 h=>WO.sY (g:=au.pd) (sz:=25) (p:=au.pd x24) hx30 (by intro _;kernel_rfl) (by intro _;kernel_rfl) rfl rfl rfl rfl rfl rfl rfl rfl rfl ?_
     refine sN<|sO<|WC.region rfl rfl<|sM rfl<|sV (rI (rW (s5-(1:Int))))<|sA rfl<|sN ?_
     cases oI h
     exact⟨rfl,rfl⟩
    refine sN<|sO<|cF<|qX ?_
    cases oI h
    exact⟨nofun,rfl,rfl⟩
   refine sM rfl<|k3<|k3<|k3<|k3<|sU ?_
   refine sN<|sO<|cF<|qX ?_
   cases oI h
   exact⟨nofun,rfl,rfl⟩
  intro e R' B' he hq
  obtain⟨rfl,hI⟩:=hq
  refine qE<|WC.region hI rfl<|sM rfl<|sV (rI (rW (o32.1+(1:Int))))<|sA rfl<|sN ?_
  cases oI h
  exact⟨rfl,rfl⟩
 refine sN<|cF<|qX<|uj h (fun z33 hkz33 hz=>?_)
 obtain rfl:=Option.some.inj hz
 refine⟨(fun he=>by cases he),fun hz2=>?_⟩
 subst hz2
 have h:=hkz33
 refine qE ?_
 exact oI h▸qD
theorem ij:∀(nfu:Nat){a1:Int}{a2:Int}{a3:Int}{d0:(List au)}{r:(List au)}(_:eC nfu a1 a2 a3 d0=some r),EvP prog aC ext 135 [.ref 0 0,rI a1,rI a2,rI a3,.d (.raw (.func (.func 69) #[.agg #[]] #[]))] [.arr 0 86 (d0.map au.pd)] (.tup [],[.arr 0 86 (r.map au.pd)])
  |0,_,_,_,_,_,h=>by cases h
  |nfu+1,a1,a2,a3,d0,r,h=>by
   refine Ev.body rfl Tryz.func135 rfl (by kernel_rfl)<|gS rfl rfl<|sT<|sN<|gS rfl rfl<|sT<|sN<|bE h fun o6 ho6 h=>WC.block (WC.loop (WL.qx ho6 (fun s R' B'=>hY prog 1 (A R' B') (aC.at_ 135 1 2)=some (A [(0,.ref 0 0),(1,rI a1),(2,rI a2),(3,rI a3),(4,.d (.raw (.func (.func 69) #[.agg #[]] #[]))),(10,rB true),(11,rB true)] [(0,.arr 0 86 (d0.map au.pd))])) (fun o e R' B'=>e= .ret∧finish prog (aC.own 135) Tryz.f135 1 (A R' B')=some (.tup [],[.arr 0 86 (o.map au.pd)])) rfl ?_ ?_))
   ·rintro⟨⟩ R' B' q1 hI h
    refine qB<|gS rfl hI<|sM rfl<|sM rfl<|sV (rI (rW (a2-a1)))<|sA rfl<|sN<|qS<|gS rfl rfl<|sM rfl<|sF h (fun h=>?_) fun h=>?_
    ·refine sN<|cT<|gS rfl rfl<|sM rfl<|sM rfl<|sM rfl<|sM rfl<|bE h fun x3 hx3 h=>cR (.tup []) [(0,.arr 0 86 (x3.map au.pd))] (gi hx3)<|sN<|qR ?_
     cases oI h
     exact⟨nofun,rfl,rfl⟩
    refine sN<|cF<|qK<|qS<|gS rfl rfl<|sM rfl<|sF h (fun h=>?_) fun h=>?_
    ·refine sN<|cT<|gS rfl rfl<|sM rfl<|sM rfl<|sM rfl<|sM rfl ?_
     cases h
    refine sN<|cF<|qK<|qS<|gS rfl rfl<|sM rfl<|sU<|sN<|cF<|qK<|gS rfl rfl<|sM rfl<|sM rfl<|sM rfl<|sM rfl ?_
    cases h
   intro e R' B' he hq
   obtain⟨rfl,hf⟩:=hq
   cases oI h
   exact hf
theorem iD{a1:Int}{a2:Int}{a3:Int}{d0:(List au)}{r:(List au)}(h:cr a1 a2 a3 d0=some r):EvP prog aC ext 135 [.ref 0 0,rI a1,rI a2,rI a3,.d (.raw (.func (.func 69) #[.agg #[]] #[]))] [.arr 0 86 (d0.map au.pd)] (.tup [],[.arr 0 86 (r.map au.pd)]):=
  let⟨n,hn⟩:=Ci h;ij n hn
theorem kq{d0:(List au)}{r:(List au)}(h:cV d0=some r):EvP prog aC ext 68 [.ref 0 0,.d (.raw (.func (.func 69) #[.agg #[]] #[]))] [.arr 0 86 (d0.map au.pd)] (.tup [],[.arr 0 86 (r.map au.pd)]):=by
 refine Ev.body rfl Tryz.func68 rfl (by kernel_rfl)<|gS rfl rfl<|sM rfl<|WO.u9 rfl rfl rfl rfl rfl rfl rfl rfl rfl<|sA rfl<|sN<|WC.region rfl rfl<|sM rfl<|sM rfl<|sM rfl<|sV (.d (.int .u64 (IntKind.wrap .u64 (d0.length:Int))))<|bE h fun x1 hx1 h=>cD (ou hx1)<|sM rfl<|bE h fun x2 hx2 h=>?_
 refine cR (.tup []) [(0,.arr 0 86 (x2.map au.pd))] (iD hx2)<|sN ?_
 exact oI h▸qD
theorem jg{a0:aq}{a1:ar}{a2:(List ae)}{r:(List au)×(List ae)×Int}(h:eu a0 a1 a2=some r):EvP prog aC ext 20 [.d (aq.pd a0),.d (ar.pd a1),rM ae.pd a2] [] (.tup [rM au.pd r.1,rM ae.pd r.2.1,rI r.2.2],[]):=by
 refine Ev.body rfl Tryz.func20 rfl (by kernel_rfl)<|gS rfl rfl<|sB (.ptr 48 0) 48 (.var (aq.rc a0))<|sB (.ptr 64 0) 64 (.var [rM aA.pd a1.aU])<|sV .ng<|sV .ng<|sV (r0)<|sN<|gS rfl rfl<|sV (.d (aq.pd a0))<|sV (.d (ar.pd a1))<|sM rfl<|bE h fun x1 hx1 h=>cR (.tup [rM ae.pd x1.1,rM al.pd x1.2.1,rI x1.2.2]) [] (event_usable_ev hx1)<|sM rfl ?_
 refine sV (rM ae.pd x1.1)<|sV (rM al.pd x1.2.1)<|sV (rI x1.2.2)<|sA rfl<|sA rfl<|sA rfl<|sN<|qS<|gS rfl rfl<|sM rfl<|sF h (fun h=>?_) fun h=>?_
 ·refine sN<|cT<|gS rfl rfl<|sM rfl<|sV .ng<|sV .ng<|sA rfl<|sN<|qR ?_
  cases oI h
  exact qG
 refine sN<|cF<|qK<|gS rfl rfl<|sV (.ptr 48 0)<|sV (.d (aJ.pd a0.ai))<|sM rfl<|bE h fun x3 hx3 h=>cR (.tup [rM a7.pd x3.1,rL x3.2.1,rI x3.2.2]) [] (nG hx3)<|sM rfl<|sV (rM a7.pd x3.1)<|sV (rL x3.2.1)<|sV (rI x3.2.2)<|sA rfl<|sA rfl ?_
 refine sA rfl<|sN<|qS<|gS rfl rfl<|sM rfl<|sF h (fun h=>?_) fun h=>?_
 ·refine sN<|cT<|gS rfl rfl<|sM rfl<|sV .ng<|sV .ng<|sA rfl<|sN<|qR ?_
  cases oI h
  exact qG
 refine sN<|cF<|qK<|gS rfl rfl<|sV .ng<|sN<|qS<|gS rfl rfl<|sM rfl<|sE (rI (x3.1.length:Int)) (qt _ _)<|sV (r0)<|sN<|bE h fun o28 ho28 h=>WC.block (WC.loop (WL.qx ho28 (fun s R' B'=>hY prog 0 (A R' B') (aC.at_ 20 0 9)=some (A [(3,.ptr 48 0),(4,.ptr 64 0),(9,rM ae.pd x1.1),(13,rL x3.2.1),(14,.ref 1360 0),(47,rM a7.pd x3.1),(48,rI (x3.1.length:Int)),(49,rI s.1)] [(48,.var (aq.rc a0)),(64,.var [rM aA.pd a1.aU]),(1360,.arr 0 86 (s.2.map au.pd))])) (fun o e R' B'=>match o with| .inl y=>e= .exit 0∧hY prog 0 (A R' B') (aC.at_ 20 0 22)=some (A [(9,rM ae.pd x1.1),(13,rL x3.2.1),(14,.ref 1360 0)] [(1360,.arr 0 86 (y.map au.pd))])| .inr r=>e= .ret∧finish prog (aC.own 20) Tryz.f20 0 (A R' B')=some (.tup [rM au.pd r.1,rM ae.pd r.2.1,rI r.2.2],[])) rfl ?_ ?_))
 ·rintro⟨s5,s6⟩ R' B' q8 hI h
  refine gS rfl hI<|sF h (fun h=>?_) fun h=>?_
  ·refine sN<|qS<|cT<|qK<|qS<|qB<|gS rfl rfl<|bE h fun x10 hx10 h=>eG hx10 rfl<|sV (.d (a7.pd x10))<|sB (.ptr 256 0) 256 (.var [.ng,r0,r0,r0,r0])<|sS 256 (.var (a7.rc x10))<|sN<|gS rfl rfl<|sV .ng ?_
   refine sN<|qS<|gS rfl rfl<|sV (.ptr 256 0)<|sL rfl<|sE (rI (x10.cm.length:Int)) (qt _ _)<|sV (r0)<|sN<|bE h fun o22 ho22 h=>WC.block (WC.loop (WL.qx ho22 (fun s R' B'=>hY prog 0 (A R' B') (aC.at_ 20 0 13)=some (A [(3,.ptr 48 0),(4,.ptr 64 0),(9,rM ae.pd x1.1),(13,rL x3.2.1),(14,.ref 1360 0),(17,.ref 1056 0),(47,rM a7.pd x3.1),(48,rI (x3.1.length:Int)),(49,rI s5),(54,rL x10.cm),(55,rI (x10.cm.length:Int)),(56,rI s.1)] [(48,.var (aq.rc a0)),(64,.var [rM aA.pd a1.aU]),(1056,.arr 0 66 (s.2.map ae.pd)),(1360,.arr 0 86 (s6.map au.pd))])) (fun o e R' B'=>e= .exit 2∧hY prog 0 (A R' B') (aC.at_ 20 0 17)=some (A [(3,.ptr 48 0),(4,.ptr 64 0),(9,rM ae.pd x1.1),(13,rL x3.2.1),(14,.ref 1360 0),(17,.ref 1056 0),(47,rM a7.pd x3.1),(48,rI (x3.1.length:Int)),(49,rI o.1)] [(48,.var (aq.rc a0)),(64,.var [rM aA.pd a1.aU]),(1056,.arr 0 66 (o.2.2.map ae.pd)),(1360,.arr 0 86 (o.2.1.map au.pd))])) rfl ?_ ?_))
   ·rintro⟨s11,s12⟩ R' B' q16 hI h
    refine gS rfl hI<|sF h (fun h=>?_) fun h=>?_
    ·refine sN<|qS<|cT<|qK<|qS<|qB<|gS rfl rfl<|bE h fun x18 hx18 h=>eG hx18 rfl<|sC rfl<|sA rfl<|sN<|WC.region rfl rfl<|sM rfl<|sM rfl ?_
     refine sM rfl<|bE h fun x19 hx19 h=>eG hx19 rfl<|sV (.d (ae.pd x19))<|sG (.d (.lst ([x19].map ae.pd)))<|bE h fun x20 hx20 h=>aR hx20 (fun _=>rfl) rfl<|sA rfl<|sN<|WC.region rfl rfl<|sV (rI (rW (s11+(1:Int))))<|sM rfl<|sN ?_
     cases oI h
     exact⟨rfl,rfl⟩
    refine sN<|qS<|cF<|qX ?_
    cases oI h
    exact⟨nofun,rfl,rfl⟩
   intro e R' B' he hq
   obtain⟨rfl,hI⟩:=hq
   refine qE<|gS rfl hI<|sV (.d (aq.pd a0))<|sV (.d (ar.pd a1))<|sM rfl<|bE h fun x23 hx23 h=>cR (.tup [.d (ba.pd x23.1),rI x23.2]) [(1056,.dead)] (qq hx23)<|sM rfl<|sV (.d (ba.pd x23.1))<|sV (rI x23.2)<|sB (.ptr 320 0) 320 (.var zZ0)<|sH 320 (.var (ba.rc x23.1))<|sA rfl<|sN<|qS ?_
   refine gS rfl rfl<|sM rfl<|sF h (fun h=>?_) fun h=>?_
   ·refine sN<|cT<|gS rfl rfl<|sM rfl<|sV .ng<|sV .ng<|sA rfl<|sN<|qR ?_
    cases oI h
    exact⟨nofun,rfl,rfl⟩
   refine sN<|cF<|qK<|WC.rb rfl rfl<|sM rfl<|sV (.ptr 320 0)<|sL rfl<|bE h fun x25 hx25 h=>cD (event_name_ev hx25)<|sV (.d (ba.pd x23.1))<|sG (.d (.agg [.str x25.aD.bc,.str x25.aD.aO,.str x25.aD.ap,.str x25.aD.bd,.int .i64 x25.aX,.int .i64 x25.aM,.int .i64 x25.bf,.int .i64 x25.aP,.int .i64 x25.aT,.lst (x23.1.ce.map ae.pd),.int .i64 x23.1.ap.aV.fX,.int .i64 x23.1.ap.aV.fY,.int .i64 x23.1.ap.aV.fZ,.int .i64 x23.1.ap.aX,.int .i64 x23.1.ap.bh,.int .i64 x23.1.ap.dW,.int .i64 x23.1.ap.aY.aK.fX,.int .i64 x23.1.ap.aY.aK.fY,.int .i64 x23.1.ap.aY.aK.fZ,.int .i64 x23.1.ap.aY.aF.fX,.int .i64 x23.1.ap.aY.aF.fY,.int .i64 x23.1.ap.aY.aF.fZ,.int .i64 x23.1.bt.aK,.int .i64 x23.1.bt.aF,.int .i64 x23.1.gr]))<|sG (.d (.lst ([(au.mk x25 x23.1)].map au.pd)))<|bE h fun x26 hx26 h=>aR hx26 (fun _=>rfl) rfl<|sA rfl ?_
   refine sN<|sO<|WC.region rfl rfl<|sV (rI (rW (o22.1+(1:Int))))<|sM rfl<|sN ?_
   cases oI h
   exact⟨rfl,rfl⟩
  refine sN<|qS<|cF<|qX ?_
  cases oI h
  exact⟨nofun,rfl,rfl⟩
 intro e R' B' he hq
 rcases o28 with y29|r30
 ·obtain⟨rfl,hI⟩:=hq
  refine qE<|gS rfl hI<|sM rfl<|sV (.d (eP.pd (eP.mk )))<|sV (.d (.raw (.func (.func 69) #[.agg #[]] #[])))<|bE h fun x31 hx31 h=>cR (.tup []) [(1360,.arr 0 86 (x31.map au.pd))] (kq hx31)<|sN<|gS rfl rfl<|sV .ng<|sN<|qS<|gS rfl rfl<|sM rfl<|sE (rI (x3.2.1.length:Int)) (qt _ _) ?_
  refine sV (r0)<|sN<|bE h fun o41 ho41 h=>WC.block (WC.loop (WL.qx ho41 (fun s R' B'=>hY prog 0 (A R' B') (aC.at_ 20 0 25)=some (A [(9,rM ae.pd x1.1),(14,.ref 1360 0),(22,.ref 1648 0),(91,rL x3.2.1),(92,rI (x3.2.1.length:Int)),(93,rI s.1)] [(1360,.arr 0 86 (x31.map au.pd)),(1648,.arr 0 66 (s.2.map ae.pd))])) (fun o e R' B'=>e= .exit 4∧hY prog 0 (A R' B') (aC.at_ 20 0 29)=some (A [(14,.ref 1360 0),(22,.ref 1648 0)] [(1360,.arr 0 86 (x31.map au.pd)),(1648,.arr 0 66 (o.map ae.pd))])) rfl ?_ ?_))
  ·rintro⟨s32,s33⟩ R' B' q35 hI h
   refine gS rfl hI<|sF h (fun h=>?_) fun h=>?_
   ·refine sN<|qS<|cT<|qK<|qS<|qB<|gS rfl rfl<|bE h fun x37 hx37 h=>eG hx37 rfl<|sC rfl<|sA rfl<|sN<|WC.region rfl rfl<|sM rfl<|sM rfl ?_
    refine sM rfl<|bE h fun x38 hx38 h=>eG hx38 rfl<|sV (.d (ae.pd x38))<|sG (.d (.lst ([x38].map ae.pd)))<|bE h fun x39 hx39 h=>aR hx39 (fun _=>rfl) rfl<|sA rfl<|sN<|WC.region rfl rfl<|sV (rI (rW (s32+(1:Int))))<|sM rfl<|sN ?_
    cases oI h
    exact⟨rfl,rfl⟩
   refine sN<|qS<|cF<|qX ?_
   cases oI h
   exact⟨nofun,rfl,rfl⟩
  intro e R' B' he hq
  obtain⟨rfl,hI⟩:=hq
  refine qE<|gS rfl hI<|sM rfl<|sM rfl<|sA rfl<|sA rfl<|sV (r0)<|sN<|qR ?_
  exact oI h▸qD
 obtain⟨rfl,hf⟩:=hq
 cases oI h
 exact hf
theorem iT{a0:(List UInt8)}{a1:(List UInt8)}{r:Int}(h:fJ a0 a1=some r):EvP prog aC ext 240 [rS a0,rS a1] [] (rI r,[]):=by
 refine Ev.body rfl Tryz.func240 rfl (by kernel_rfl)<|gS rfl rfl<|sV (r0)<|sN<|qS<|qB<|gS rfl rfl<|sM rfl<|sM rfl<|sF h (fun h=>?_) fun h=>?_
 ·refine sA rfl<|sN<|cT<|gS rfl rfl<|sV (rI (-1))<|sN<|qR ?_
  exact oI h▸qD
 refine sA rfl<|sN<|cF<|gS rfl rfl<|sM rfl<|sM rfl<|sF h (fun h=>?_) fun h=>?_
 ·refine sA rfl<|sN<|cT<|gS rfl rfl<|sV (rI 1)<|sN<|qR ?_
  exact oI h▸qD
 refine sA rfl<|sN<|cF<|qK<|gS rfl rfl<|sV (r0)<|sN<|qR ?_
 exact oI h▸qD
theorem ref03_Compare_ev{a0:aw}{a1:aw}{r:Int}(h:kX a0 a1=some r):EvP prog aC ext 154 [.d (aw.pd a0),.d (aw.pd a1)] [] (rI r,[]):=by
 refine Ev.body rfl Tryz.func154 rfl (by kernel_rfl)<|gS rfl rfl<|sB (.ptr 32 0) 32 (.var (aw.rc a0))<|sB (.ptr 48 0) 48 (.var (aw.rc a1))<|sV (r0)<|sN<|qS<|WC.cI rfl rfl<|sV (.ptr 32 0)<|sL rfl<|sV (.ptr 48 0)<|sL rfl<|bE h fun x1 hx1 h=>cD (iT hx1)<|sV (.ptr 32 1) ?_
 refine sL rfl<|sV (.ptr 48 1)<|sL rfl<|bE h fun x2 hx2 h=>cD (iT hx2)<|sV (.ptr 32 2)<|sL rfl<|sV (.ptr 48 2)<|sL rfl<|bE h fun x3 hx3 h=>cD (iT hx3)<|sV (.ptr 32 3)<|sL rfl<|sV (.ptr 48 3)<|sL rfl ?_
 refine bE h fun x4 hx4 h=>cD (iT hx4)<|sV (.d (A4_Int.pd (A4_Int.mk x1 x2 x3 x4)))<|sV (r0) ?_
 refine sN<|sO<|WC.block (WC.loop ?_)
 refine WL.round<|gS rfl rfl<|sT<|sN<|qS<|cT<|qK<|qS<|qB<|gS rfl rfl<|sV (rI x1)<|sA rfl<|sN<|gS rfl rfl<|sM rfl ?_
 refine sF h (fun h=>?_) fun h=>?_
 ·refine sN<|cT<|gS rfl rfl<|sM rfl<|sA rfl<|sN<|qR ?_
  exact oI h▸qD
 refine sN<|cF<|qK<|WC.region rfl rfl<|sV (rI 1)<|sM rfl<|sN<|WL.round<|gS rfl rfl<|sT<|sN<|qS<|cT<|qK<|qS ?_
 refine qB<|gS rfl rfl<|sV (rI x2)<|sA rfl<|sN<|gS rfl rfl<|sM rfl<|sF h (fun h=>?_) fun h=>?_
 ·refine sN<|cT<|gS rfl rfl<|sM rfl<|sA rfl<|sN<|qR ?_
  exact oI h▸qD
 refine sN<|cF<|qK<|WC.region rfl rfl<|sV (rI 2)<|sM rfl<|sN<|WL.round<|gS rfl rfl<|sT<|sN<|qS<|cT<|qK<|qS ?_
 refine qB<|gS rfl rfl<|sV (rI x3)<|sA rfl<|sN<|gS rfl rfl<|sM rfl<|sF h (fun h=>?_) fun h=>?_
 ·refine sN<|cT<|gS rfl rfl<|sM rfl<|sA rfl<|sN<|qR ?_
  exact oI h▸qD
 refine sN<|cF<|qK<|WC.region rfl rfl<|sV (rI 3)<|sM rfl<|sN<|WL.round<|gS rfl rfl<|sT<|sN<|qS<|cT<|qK<|qS ?_
 refine qB<|gS rfl rfl<|sV (rI x4)<|sA rfl<|sN<|gS rfl rfl<|sM rfl<|sF h (fun h=>?_) fun h=>?_
 ·refine sN<|cT<|gS rfl rfl<|sM rfl<|sA rfl<|sN<|qR ?_
  exact oI h▸qD
 refine sN<|cF<|qK<|WC.region rfl rfl<|sV (rI 4)<|sM rfl<|sN<|WL.round<|gS rfl rfl<|sU<|sN<|qS<|cF<|qX<|qE ?_
 refine gS rfl rfl<|sV (r0)<|sN<|qR ?_
 exact oI h▸qD
theorem ref23_Compare_ev{a0:ae}{a1:ae}{r:Int}(h:kY a0 a1=some r):EvP prog aC ext 81 [.d (ae.pd a0),.d (ae.pd a1)] [] (rI r,[]):=by
 refine Ev.body rfl Tryz.func81 rfl (by kernel_rfl)<|gS rfl rfl<|sB (.ptr 32 0) 32 (.var (ae.rc a0))<|sB (.ptr 48 0) 48 (.var (ae.rc a1))<|sV (r0)<|sN<|qS<|gS rfl rfl<|sV (.ptr 32 0)<|sV (.d (aw.pd a0.aD))<|sV (.ptr 48 0)<|sV (.d (aw.pd a1.aD))<|bE h fun x1 hx1 h=>cD (ref03_Compare_ev hx1)<|sA rfl ?_
 refine sN<|gS rfl rfl<|sM rfl<|sF h (fun h=>?_) fun h=>?_
 ·refine sN<|cT<|gS rfl rfl<|sM rfl<|sA rfl<|sN<|qR ?_
  cases oI h
  exact qG
 refine sN<|cF<|qK<|qS<|gS rfl rfl<|sV (.ptr 32 4)<|sL rfl<|sV (.ptr 48 4)<|sL rfl<|sV (.d (bD.pd (bD.mk a0.aX a1.aX)))<|sV (.ptr 32 5)<|sL rfl<|sV (.ptr 48 5)<|sL rfl<|sV (.d (bD.pd (bD.mk a0.aM a1.aM))) ?_
 refine sV (.ptr 32 6)<|sL rfl<|sV (.ptr 48 6)<|sL rfl<|sV (.d (bD.pd (bD.mk a0.bf a1.bf)))<|sV (.ptr 32 7)<|sL rfl<|sV (.ptr 48 7)<|sL rfl<|sV (.d (bD.pd (bD.mk a0.aP a1.aP)))<|sV (.ptr 32 8)<|sL rfl<|sV (.ptr 48 8)<|sL rfl<|sV (.d (bD.pd (bD.mk a0.aT a1.aT))) ?_
 refine sG (.d (dz.pd (dz.mk (bD.mk a0.aX a1.aX) (bD.mk a0.aM a1.aM) (bD.mk a0.bf a1.bf) (bD.mk a0.aP a1.aP) (bD.mk a0.aT a1.aT))))<|sV (r0)<|sN<|WC.block (WC.loop ?_)
 refine WL.round<|WC.qH (R0:=[(41,.d (dz.pd (dz.mk (bD.mk a0.aX a1.aX) (bD.mk a0.aM a1.aM) (bD.mk a0.bf a1.bf) (bD.mk a0.aP a1.aP) (bD.mk a0.aT a1.aT)))),(42,r0)]) (B0:=[]) rfl rfl<|sT<|sN<|qS<|cT<|qK<|qS<|qB<|gS rfl rfl<|sV (.d (bD.pd (bD.mk a0.aX a1.aX)))<|sB (.ptr 112 0) 112 (.var [r0,r0])<|sS 112 (.var [rI a0.aX,rI a1.aX])<|sN<|qS ?_
 refine gS rfl rfl<|sV (.ptr 112 0)<|sL rfl<|sV (.ptr 112 1)<|sL rfl<|sF h (fun h=>?_) fun h=>?_
 ·refine sN<|cT<|gS rfl rfl<|sV (rI (-1))<|sN<|qR ?_
  exact oI h▸qD
 refine sN<|cF<|qK<|gS rfl rfl<|sV (.ptr 112 0)<|sL rfl<|sV (.ptr 112 1)<|sL rfl<|sF h (fun h=>?_) fun h=>?_
 ·refine sN<|cT<|gS rfl rfl<|sV (rI 1)<|sN<|qR ?_
  exact oI h▸qD
 refine sN<|cF<|qK<|WC.region rfl rfl<|sV (rI 1)<|sM rfl<|sN<|WL.round<|WC.qH (R0:=[(41,.d (dz.pd (dz.mk (bD.mk a0.aX a1.aX) (bD.mk a0.aM a1.aM) (bD.mk a0.bf a1.bf) (bD.mk a0.aP a1.aP) (bD.mk a0.aT a1.aT)))),(42,rI 1)]) (B0:=[]) rfl rfl<|sT<|sN<|qS<|cT<|qK<|qS ?_
 refine qB<|gS rfl rfl<|sV (.d (bD.pd (bD.mk a0.aM a1.aM)))<|sB (.ptr 112 0) 112 (.var [r0,r0])<|sS 112 (.var [rI a0.aM,rI a1.aM])<|sN<|qS<|gS rfl rfl<|sV (.ptr 112 0)<|sL rfl<|sV (.ptr 112 1)<|sL rfl<|sF h (fun h=>?_) fun h=>?_
 ·refine sN<|cT<|gS rfl rfl<|sV (rI (-1))<|sN<|qR ?_
  exact oI h▸qD
 refine sN<|cF<|qK<|gS rfl rfl<|sV (.ptr 112 0)<|sL rfl<|sV (.ptr 112 1)<|sL rfl<|sF h (fun h=>?_) fun h=>?_
 ·refine sN<|cT<|gS rfl rfl<|sV (rI 1)<|sN<|qR ?_
  exact oI h▸qD
 refine sN<|cF<|qK<|WC.region rfl rfl<|sV (rI 2)<|sM rfl<|sN<|WL.round<|WC.qH (R0:=[(41,.d (dz.pd (dz.mk (bD.mk a0.aX a1.aX) (bD.mk a0.aM a1.aM) (bD.mk a0.bf a1.bf) (bD.mk a0.aP a1.aP) (bD.mk a0.aT a1.aT)))),(42,rI 2)]) (B0:=[]) rfl rfl<|sT<|sN<|qS<|cT<|qK<|qS ?_
 refine qB<|gS rfl rfl<|sV (.d (bD.pd (bD.mk a0.bf a1.bf)))<|sB (.ptr 112 0) 112 (.var [r0,r0])<|sS 112 (.var [rI a0.bf,rI a1.bf])<|sN<|qS<|gS rfl rfl<|sV (.ptr 112 0)<|sL rfl<|sV (.ptr 112 1)<|sL rfl<|sF h (fun h=>?_) fun h=>?_
 ·refine sN<|cT<|gS rfl rfl<|sV (rI (-1))<|sN<|qR ?_
  exact oI h▸qD
 refine sN<|cF<|qK<|gS rfl rfl<|sV (.ptr 112 0)<|sL rfl<|sV (.ptr 112 1)<|sL rfl<|sF h (fun h=>?_) fun h=>?_
 ·refine sN<|cT<|gS rfl rfl<|sV (rI 1)<|sN<|qR ?_
  exact oI h▸qD
 refine sN<|cF<|qK<|WC.region rfl rfl<|sV (rI 3)<|sM rfl<|sN<|WL.round<|WC.qH (R0:=[(41,.d (dz.pd (dz.mk (bD.mk a0.aX a1.aX) (bD.mk a0.aM a1.aM) (bD.mk a0.bf a1.bf) (bD.mk a0.aP a1.aP) (bD.mk a0.aT a1.aT)))),(42,rI 3)]) (B0:=[]) rfl rfl<|sT<|sN<|qS<|cT<|qK<|qS ?_
 refine qB<|gS rfl rfl<|sV (.d (bD.pd (bD.mk a0.aP a1.aP)))<|sB (.ptr 112 0) 112 (.var [r0,r0])<|sS 112 (.var [rI a0.aP,rI a1.aP])<|sN<|qS<|gS rfl rfl<|sV (.ptr 112 0)<|sL rfl<|sV (.ptr 112 1)<|sL rfl<|sF h (fun h=>?_) fun h=>?_
 ·refine sN<|cT<|gS rfl rfl<|sV (rI (-1))<|sN<|qR ?_
  exact oI h▸qD
 refine sN<|cF<|qK<|gS rfl rfl<|sV (.ptr 112 0)<|sL rfl<|sV (.ptr 112 1)<|sL rfl<|sF h (fun h=>?_) fun h=>?_
 ·refine sN<|cT<|gS rfl rfl<|sV (rI 1)<|sN<|qR ?_
  exact oI h▸qD
 refine sN<|cF<|qK<|WC.region rfl rfl<|sV (rI 4)<|sM rfl<|sN<|WL.round<|WC.qH (R0:=[(41,.d (dz.pd (dz.mk (bD.mk a0.aX a1.aX) (bD.mk a0.aM a1.aM) (bD.mk a0.bf a1.bf) (bD.mk a0.aP a1.aP) (bD.mk a0.aT a1.aT)))),(42,rI 4)]) (B0:=[]) rfl rfl<|sT<|sN<|qS<|cT<|qK<|qS ?_
 refine qB<|gS rfl rfl<|sV (.d (bD.pd (bD.mk a0.aT a1.aT)))<|sB (.ptr 112 0) 112 (.var [r0,r0])<|sS 112 (.var [rI a0.aT,rI a1.aT])<|sN<|qS<|gS rfl rfl<|sV (.ptr 112 0)<|sL rfl<|sV (.ptr 112 1)<|sL rfl<|sF h (fun h=>?_) fun h=>?_
 ·refine sN<|cT<|gS rfl rfl<|sV (rI (-1))<|sN<|qR ?_
  exact oI h▸qD
 refine sN<|cF<|qK<|gS rfl rfl<|sV (.ptr 112 0)<|sL rfl<|sV (.ptr 112 1)<|sL rfl<|sF h (fun h=>?_) fun h=>?_
 ·refine sN<|cT<|gS rfl rfl<|sV (rI 1)<|sN<|qR ?_
  exact oI h▸qD
 refine sN<|cF<|qK<|WC.region rfl rfl<|sV (rI 5)<|sM rfl<|sN<|WL.round<|WC.qH (R0:=[(41,.d (dz.pd (dz.mk (bD.mk a0.aX a1.aX) (bD.mk a0.aM a1.aM) (bD.mk a0.bf a1.bf) (bD.mk a0.aP a1.aP) (bD.mk a0.aT a1.aT)))),(42,rI 5)]) (B0:=[]) rfl rfl<|sU<|sN<|qS<|cF<|qX<|qE ?_
 refine gS rfl rfl<|sV (r0)<|sN<|qR ?_
 exact oI h▸qD
theorem ref34_Compare_ev{a0:ae}{a1:ae}{r:Int}(h:kZ a0 a1=some r):EvP prog aC ext 43 [.d (ae.pd a0),.d (ae.pd a1)] [] (rI r,[]):=by
 refine Ev.body rfl Tryz.func43 rfl (by kernel_rfl)<|gS rfl rfl<|sB (.ptr 32 0) 32 (.var (ae.rc a0))<|sB (.ptr 48 0) 48 (.var (ae.rc a1))<|sV (r0)<|sN<|qS<|gS rfl rfl<|sV (.ptr 32 4)<|sL rfl<|sV (.ptr 48 4)<|sL rfl<|sF h (fun h=>?_) fun h=>?_
 ·refine sN<|cT<|gS rfl rfl<|sV (rI (-1))<|sN<|qR ?_
  cases oI h
  exact qG
 refine sN<|cF<|qK<|qS<|gS rfl rfl<|sV (.ptr 32 4)<|sL rfl<|sV (.ptr 48 4)<|sL rfl<|sF h (fun h=>?_) fun h=>?_
 ·refine sN<|cT<|gS rfl rfl<|sV (rI 1)<|sN<|qR ?_
  cases oI h
  exact qG
 refine sN<|cF<|qK<|gS rfl rfl<|sV (.d (ae.pd a0))<|sV (.d (ae.pd a1))<|bE h fun x3 hx3 h=>cD (ref23_Compare_ev hx3)<|sA rfl<|sN<|qR ?_
 cases oI h
 exact qG
theorem ref34_insert_ev{a0:(List au)}{a1:au}{r:(List au)}(h:lV a0 a1=some r):EvP prog aC ext 71 [rM au.pd a0,.d (au.pd a1)] [] (rM au.pd r,[]):=by
 refine Ev.body rfl Tryz.func71 rfl (by kernel_rfl)<|gS rfl rfl<|sB (.ptr 48 0) 48 (.var (au.rc a1))<|sV .ng<|sN<|gS rfl rfl<|sV (r0)<|sN<|qS<|bE h fun o9 ho9 h=>WC.block (WC.loop (WL.qx ho9 (fun s R' B'=>hY prog 0 (A R' B') (aC.at_ 71 0 2)=some (A [(0,rM au.pd a0),(3,.ptr 48 0),(5,rI s)] [(48,.var (au.rc a1))])) (fun o e R' B'=>e= .exit 0∧hY prog 0 (A R' B') (aC.at_ 71 0 4)=some (A [(0,rM au.pd a0),(3,.ptr 48 0),(5,rI o)] [(48,.var (au.rc a1))])) rfl ?_ ?_))
 ·rintro s1 R' B' q3 hI h
  refine qS<|WC.cI hI rfl<|sM rfl<|sM rfl<|sE (rI (a0.length:Int)) (qt _ _)<|sF h (fun h=>?_) fun h=>?_
  ·refine sM rfl<|sM rfl<|sM rfl<|bE h fun x5 hx5 h=>eG hx5 rfl<|sV (.cptr [.str x5.aZ.aD.bc,.str x5.aZ.aD.aO,.str x5.aZ.aD.ap,.str x5.aZ.aD.bd,.int .i64 x5.aZ.aX,.int .i64 x5.aZ.aM,.int .i64 x5.aZ.bf,.int .i64 x5.aZ.aP,.int .i64 x5.aZ.aT,.lst (x5.aB.ce.map ae.pd),.int .i64 x5.aB.ap.aV.fX,.int .i64 x5.aB.ap.aV.fY,.int .i64 x5.aB.ap.aV.fZ,.int .i64 x5.aB.ap.aX,.int .i64 x5.aB.ap.bh,.int .i64 x5.aB.ap.dW,.int .i64 x5.aB.ap.aY.aK.fX,.int .i64 x5.aB.ap.aY.aK.fY,.int .i64 x5.aB.ap.aY.aK.fZ,.int .i64 x5.aB.ap.aY.aF.fX,.int .i64 x5.aB.ap.aY.aF.fY,.int .i64 x5.aB.ap.aY.aF.fZ,.int .i64 x5.aB.bt.aK,.int .i64 x5.aB.bt.aF,.int .i64 x5.aB.gr])<|sV (.d (ae.pd x5.aZ))<|sV (.ptr 48 0)<|sV (.d (ae.pd a1.aZ))<|bE h fun x6 hx6 h=>cD (ref34_Compare_ev hx6)<|sV (rB (decide (x6<(0:Int))))<|sF h (fun h=>?_) fun h=>?_
   ·refine sN<|sO<|cT<|qK<|qB<|WC.region rfl rfl<|sM rfl<|sV (rI (rW (s1+(1:Int))))<|sA rfl<|sN ?_
    cases oI h
    exact⟨rfl,rfl⟩
   refine sN<|sO<|cF<|qX ?_
   cases oI h
   exact⟨nofun,rfl,rfl⟩
  refine sM rfl<|k3<|k3<|k3<|sU ?_
  refine sN<|sO<|cF<|qX ?_
  cases oI h
  exact⟨nofun,rfl,rfl⟩
 intro e R' B' he hq
 obtain⟨rfl,hI⟩:=hq
 refine qE<|gS rfl hI<|sB (.ref 384 0) 384 (.arr 0 86 (([]:List au).map au.pd))<|sM rfl<|sM rfl<|bE h fun x10 hx10 h=>WO.cutL (sz:=25) (g:=au.pd) hx10 (fun _=>rfl) rfl rfl rfl rfl rfl rfl rfl rfl rfl rfl rfl<|bE h fun x11 hx11 h=>aR hx11 (fun _=>rfl) rfl<|sA rfl<|sN<|WC.cI rfl rfl<|sM rfl<|sV (.d (au.pd a1))<|sG (.d (.lst ([a1].map au.pd))) ?_
 refine bE h fun x12 hx12 h=>aR hx12 (fun _=>rfl) rfl<|sM rfl<|sM rfl<|bE h fun x13 hx13 h=>WO.cutL (sz:=25) (g:=au.pd) hx13 (fun _=>rfl) rfl rfl rfl rfl rfl rfl rfl rfl rfl rfl rfl<|bE h fun x14 hx14 h=>aR hx14 (fun _=>rfl) rfl<|sA rfl ?_
 refine sN<|sO<|qR ?_
 cases oI h
 exact qG
theorem ref34_Join_ev{a0:(List au)}{a1:(List au)}{r:(List au)}(h:n4 a0 a1=some r):EvP prog aC ext 22 [rM au.pd a0,rM au.pd a1] [] (rM au.pd r,[]):=by
 refine Ev.body rfl Tryz.func22 rfl (by kernel_rfl)<|gS rfl rfl<|sV .ng<|sN<|qS<|gS rfl rfl<|sV (r0)<|sN<|bE h fun o9 ho9 h=>WC.block (WC.loop (WL.qx ho9 (fun s R' B'=>hY prog 0 (A R' B') (aC.at_ 22 0 2)=some (A [(0,rM au.pd s.1),(1,rM au.pd a1),(5,rI s.2)] [])) (fun o e R' B'=>e= .exit 0∧hY prog 0 (A R' B') (aC.at_ 22 0 5)=some (A [(0,rM au.pd o)] [])) rfl ?_ ?_))
 ·rintro⟨s1,s2⟩ R' B' q4 hI h
  refine qS<|gS rfl hI<|sM rfl<|sM rfl<|sE (rI (a1.length:Int)) (qt _ _)<|sF h (fun h=>?_) fun h=>?_
  ·refine sN<|cT<|qK<|qS<|qB<|WC.region rfl rfl<|sM rfl<|sM rfl<|sM rfl<|bE h fun x6 hx6 h=>eG hx6 rfl<|sV (.d (au.pd x6))<|bE h fun x7 hx7 h=>cD (ref34_insert_ev hx7)<|sA rfl ?_
   refine sN<|WC.region rfl rfl<|sM rfl<|sV (rI (rW (s2+(1:Int))))<|sA rfl<|sN ?_
   cases oI h
   exact⟨rfl,rfl⟩
  refine sN<|cF<|qX ?_
  cases oI h
  exact⟨nofun,rfl,rfl⟩
 intro e R' B' he hq
 obtain⟨rfl,hI⟩:=hq
 refine qE<|gS rfl hI<|sM rfl<|sA rfl<|sN<|qR ?_
 exact oI h▸qD
theorem mq{a0:(List ae)}{a1:(List ae)}{r:Bool}(h:gM a0 a1=some r):EvP prog aC ext 26 [rM ae.pd a0,rM ae.pd a1] [] (rB r,[]):=by
 refine Ev.body rfl Tryz.func26 rfl (by kernel_rfl)<|gS rfl rfl<|sU<|sN<|qS<|gS rfl rfl<|sM rfl<|sE (rI (a0.length:Int)) (qt _ _)<|sM rfl<|sE (rI (a1.length:Int)) (qt _ _)<|sF h (fun h=>?_) fun h=>?_
 ·refine sN<|cT<|gS rfl rfl<|sU<|sN<|qR ?_
  exact oI h▸qD
 refine sN<|cF<|qK<|qS<|gS rfl rfl<|sV (r0)<|sN<|bE h fun o9 ho9 h=>WC.block (WC.loop (WL.qx ho9 (fun s R' B'=>hY prog 0 (A R' B') (aC.at_ 26 0 4)=some (A [(0,rM ae.pd a0),(1,rM ae.pd a1),(5,rI s)] [])) (fun o e R' B'=>match o with| .inl y=>e= .exit 0∧hY prog 0 (A R' B') (aC.at_ 26 0 8)=some (A [] [])| .inr r=>e= .ret∧finish prog (aC.own 26) Tryz.f26 0 (A R' B')=some (rB r,[])) rfl ?_ ?_))
 ·rintro s2 R' B' q3 hI h
  refine qS<|gS rfl hI<|sM rfl<|sM rfl<|sE (rI (a0.length:Int)) (qt _ _)<|sF h (fun h=>?_) fun h=>?_
  ·refine sN<|cT<|qK<|qS<|qB<|WC.cI rfl rfl<|sM rfl<|sM rfl<|bE h fun x5 hx5 h=>eG hx5 rfl<|sV (.d (ae.pd x5))<|sM rfl<|sM rfl<|bE h fun x6 hx6 h=>eG hx6 rfl ?_
   refine sV (.d (ae.pd x6))<|qZ h (fun hb7 h=>?_) (fun hb7 h=>?_)
   ·refine WO.vS (eqN_66 x5 x6) hb7 rfl rfl rfl rfl rfl ?_
    refine sN<|sO<|cT<|gS rfl rfl<|sU<|sN<|qR ?_
    cases oI h
    exact⟨nofun,rfl,rfl⟩
   refine WO.vS (eqN_66 x5 x6) hb7 rfl rfl rfl rfl rfl ?_
   refine sN<|sO<|cF<|qK<|WC.region rfl rfl<|sM rfl<|sV (rI (rW (s2+(1:Int))))<|sA rfl<|sN ?_
   cases oI h
   exact⟨rfl,rfl⟩
  refine sN<|cF<|qX ?_
  cases oI h
  exact⟨nofun,rfl,rfl⟩
 intro e R' B' he hq
 rcases o9 with y10|r11
 ·obtain⟨rfl,hI⟩:=hq
  refine qE<|gS rfl hI<|sT<|sN<|qR ?_
  exact oI h▸qD
 obtain⟨rfl,hf⟩:=hq
 cases oI h
 exact hf
theorem ref33_Same_ev{a0:ba}{a1:ba}{r:Bool}(h:nZ a0 a1=some r):EvP prog aC ext 70 [.d (ba.pd a0),.d (ba.pd a1)] [] (rB r,[]):=by
 refine Ev.body rfl Tryz.func70 rfl (by kernel_rfl)<|gS rfl rfl<|sB (.ptr 32 0) 32 (.var (ba.rc a0))<|sB (.ptr 48 0) 48 (.var (ba.rc a1))<|sU<|sN<|gS rfl rfl<|sV (.ptr 32 0)<|sL rfl<|sV (.ptr 48 0)<|sL rfl<|bE h fun x1 hx1 h=>qZ h (fun hb2 h=>?_) (fun hb2 h=>?_)
 ·refine WO.rN (v:=rB true) (u:=[]) rfl rfl (fun _=>rfl) rfl rfl rfl rfl rfl (mq hx1) rfl rfl (congrArg (fun b=>RV.d (.bool b)) hb2) rfl<|sM rfl<|sV (.ptr 32 1)<|sV (.d (aj.pd a0.ap))<|sV (.ptr 48 1)<|sV (.d (aj.pd a1.ap))<|WO.bin (eqE_45 a0.ap a1.ap) rfl rfl rfl rfl rfl<|sF h (fun h=>?_) fun h=>?_
  ·refine sM rfl<|sV (.ptr 32 13)<|sV (.d (az.pd a0.bt))<|sV (.ptr 48 13)<|sV (.d (az.pd a1.bt))<|WO.bin (eqE_47 a0.bt a1.bt) rfl rfl rfl rfl rfl<|sF h (fun h=>?_) fun h=>?_
   ·refine sM rfl<|sV (.ptr 32 15)<|sL rfl<|sV (.ptr 48 15)<|sL rfl<|sV (rB (a0.gr==a1.gr))<|sV (rB (a0.gr==a1.gr))<|sA rfl<|sN<|qR ?_
    cases oI h
    exact qG
   refine sM rfl<|k3<|sK<|sK<|sU<|sA rfl<|sN<|qR ?_
   cases oI h
   exact qG
  refine sM rfl<|k3<|sK<|sK<|sU<|sM rfl<|k3<|sK<|sK<|sU<|sA rfl ?_
  refine sN<|qR ?_
  cases oI h
  exact qG
 refine WO.rN (v:=rB false) (u:=[]) rfl rfl (fun _=>rfl) rfl rfl rfl rfl rfl (mq hx1) rfl rfl (congrArg (fun b=>RV.d (.bool b)) hb2) rfl<|sM rfl<|k3<|sK<|sK<|sU<|sM rfl<|k3<|sK<|sK<|sU ?_
 refine sM rfl<|k3<|sK<|sK<|sU<|sA rfl<|sN<|qR ?_
 cases oI h
 exact qG
theorem ref34_Same_ev{a0:(List au)}{a1:(List au)}{r:Bool}(h:mr a0 a1=some r):EvP prog aC ext 21 [rM au.pd a0,rM au.pd a1] [] (rB r,[]):=by
 refine Ev.body rfl Tryz.func21 rfl (by kernel_rfl)<|gS rfl rfl<|sU<|sN<|qS<|gS rfl rfl<|sM rfl<|sE (rI (a0.length:Int)) (qt _ _)<|sM rfl<|sE (rI (a1.length:Int)) (qt _ _)<|sF h (fun h=>?_) fun h=>?_
 ·refine sN<|cT<|gS rfl rfl<|sU<|sN<|qR ?_
  exact oI h▸qD
 refine sN<|cF<|qK<|qS<|gS rfl rfl<|sV (r0)<|sN<|bE h fun o13 ho13 h=>WC.block (WC.loop (WL.qx ho13 (fun s R' B'=>hY prog 0 (A R' B') (aC.at_ 21 0 4)=some (A [(0,rM au.pd a0),(1,rM au.pd a1),(5,rI s)] [])) (fun o e R' B'=>match o with| .inl y=>e= .exit 0∧hY prog 0 (A R' B') (aC.at_ 21 0 8)=some (A [] [])| .inr r=>e= .ret∧finish prog (aC.own 21) Tryz.f21 0 (A R' B')=some (rB r,[])) rfl ?_ ?_))
 ·rintro s2 R' B' q3 hI h
  refine qS<|gS rfl hI<|sM rfl<|sM rfl<|sE (rI (a0.length:Int)) (qt _ _)<|sF h (fun h=>?_) fun h=>?_
  ·refine sN<|cT<|qK<|qS<|qB<|WC.cI rfl rfl<|sM rfl<|sM rfl<|bE h fun x5 hx5 h=>eG hx5 rfl<|sV (.cptr [.str x5.aZ.aD.bc,.str x5.aZ.aD.aO,.str x5.aZ.aD.ap,.str x5.aZ.aD.bd,.int .i64 x5.aZ.aX,.int .i64 x5.aZ.aM,.int .i64 x5.aZ.bf,.int .i64 x5.aZ.aP,.int .i64 x5.aZ.aT,.lst (x5.aB.ce.map ae.pd),.int .i64 x5.aB.ap.aV.fX,.int .i64 x5.aB.ap.aV.fY,.int .i64 x5.aB.ap.aV.fZ,.int .i64 x5.aB.ap.aX,.int .i64 x5.aB.ap.bh,.int .i64 x5.aB.ap.dW,.int .i64 x5.aB.ap.aY.aK.fX,.int .i64 x5.aB.ap.aY.aK.fY,.int .i64 x5.aB.ap.aY.aK.fZ,.int .i64 x5.aB.ap.aY.aF.fX,.int .i64 x5.aB.ap.aY.aF.fY,.int .i64 x5.aB.ap.aY.aF.fZ,.int .i64 x5.aB.bt.aK,.int .i64 x5.aB.bt.aF,.int .i64 x5.aB.gr])<|sV (.d (ae.pd x5.aZ))<|sM rfl<|sM rfl<|bE h fun x6 hx6 h=>?_
   refine eG hx6 rfl<|sV (.cptr [.str x6.aZ.aD.bc,.str x6.aZ.aD.aO,.str x6.aZ.aD.ap,.str x6.aZ.aD.bd,.int .i64 x6.aZ.aX,.int .i64 x6.aZ.aM,.int .i64 x6.aZ.bf,.int .i64 x6.aZ.aP,.int .i64 x6.aZ.aT,.lst (x6.aB.ce.map ae.pd),.int .i64 x6.aB.ap.aV.fX,.int .i64 x6.aB.ap.aV.fY,.int .i64 x6.aB.ap.aV.fZ,.int .i64 x6.aB.ap.aX,.int .i64 x6.aB.ap.bh,.int .i64 x6.aB.ap.dW,.int .i64 x6.aB.ap.aY.aK.fX,.int .i64 x6.aB.ap.aY.aK.fY,.int .i64 x6.aB.ap.aY.aK.fZ,.int .i64 x6.aB.ap.aY.aF.fX,.int .i64 x6.aB.ap.aY.aF.fY,.int .i64 x6.aB.ap.aY.aF.fZ,.int .i64 x6.aB.bt.aK,.int .i64 x6.aB.bt.aF,.int .i64 x6.aB.gr])<|sV (.d (ae.pd x6.aZ))<|qZ h (fun hb7 h=>?_) (fun hb7 h=>?_)
   ·refine WO.vS (eqN_66 x5.aZ x6.aZ) hb7 rfl rfl rfl rfl rfl<|sM rfl<|k3<|k3<|k3<|k3<|sT ?_
    refine sN<|sO<|cT<|gS rfl rfl<|sU<|sN<|qR ?_
    cases oI h
    exact⟨nofun,rfl,rfl⟩
   refine WO.vS (eqN_66 x5.aZ x6.aZ) hb7 rfl rfl rfl rfl rfl<|sM rfl<|sM rfl<|sM rfl<|bE h fun x8 hx8 h=>eG hx8 rfl<|sV (.cptr [.lst (x8.aB.ce.map ae.pd),.int .i64 x8.aB.ap.aV.fX,.int .i64 x8.aB.ap.aV.fY,.int .i64 x8.aB.ap.aV.fZ,.int .i64 x8.aB.ap.aX,.int .i64 x8.aB.ap.bh,.int .i64 x8.aB.ap.dW,.int .i64 x8.aB.ap.aY.aK.fX,.int .i64 x8.aB.ap.aY.aK.fY,.int .i64 x8.aB.ap.aY.aK.fZ,.int .i64 x8.aB.ap.aY.aF.fX,.int .i64 x8.aB.ap.aY.aF.fY,.int .i64 x8.aB.ap.aY.aF.fZ,.int .i64 x8.aB.bt.aK,.int .i64 x8.aB.bt.aF,.int .i64 x8.aB.gr])<|sV (.d (ba.pd x8.aB))<|sM rfl<|sM rfl<|bE h fun x9 hx9 h=>eG hx9 rfl<|sV (.cptr [.lst (x9.aB.ce.map ae.pd),.int .i64 x9.aB.ap.aV.fX,.int .i64 x9.aB.ap.aV.fY,.int .i64 x9.aB.ap.aV.fZ,.int .i64 x9.aB.ap.aX,.int .i64 x9.aB.ap.bh,.int .i64 x9.aB.ap.dW,.int .i64 x9.aB.ap.aY.aK.fX,.int .i64 x9.aB.ap.aY.aK.fY,.int .i64 x9.aB.ap.aY.aK.fZ,.int .i64 x9.aB.ap.aY.aF.fX,.int .i64 x9.aB.ap.aY.aF.fY,.int .i64 x9.aB.ap.aY.aF.fZ,.int .i64 x9.aB.bt.aK,.int .i64 x9.aB.bt.aF,.int .i64 x9.aB.gr])<|sV (.d (ba.pd x9.aB))<|bE h fun x10 hx10 h=>?_
   refine cD (ref33_Same_ev hx10)<|sV (rB (!x10))<|sF h (fun h=>?_) fun h=>?_
   ·refine sN<|sO<|cT<|gS rfl rfl<|sU<|sN<|qR ?_
    cases oI h
    exact⟨nofun,rfl,rfl⟩
   refine sN<|sO<|cF<|qK<|WC.region rfl rfl<|sM rfl<|sV (rI (rW (s2+(1:Int))))<|sA rfl<|sN ?_
   cases oI h
   exact⟨rfl,rfl⟩
  refine sN<|cF<|qX ?_
  cases oI h
  exact⟨nofun,rfl,rfl⟩
 intro e R' B' he hq
 rcases o13 with y14|r15
 ·obtain⟨rfl,hI⟩:=hq
  refine qE<|gS rfl hI<|sT<|sN<|qR ?_
  exact oI h▸qD
 obtain⟨rfl,hf⟩:=hq
 cases oI h
 exact hf
theorem lK{a0:au}{d0:ae}{r:Bool}(h:kA a0 d0=some r):EvP prog aC ext 91 [.d (au.pd a0),.ptr 0 0] [.var (ae.rc d0)] (rB r,[.var (ae.rc d0)]):=by
 refine Ev.body rfl Tryz.func91 rfl (by kernel_rfl)<|gS rfl rfl<|sB (.ptr 32 0) 32 (.var (au.rc a0))<|sU<|sN<|gS rfl rfl<|sV (.ptr 32 0)<|sV (.d (ae.pd a0.aZ))<|sV (.d (ae.pd d0))<|WO.bin (eqE_66 a0.aZ d0) rfl rfl rfl rfl rfl<|sA rfl<|sN<|qR ?_
 cases oI h
 exact qG
theorem kO{a0:(List au)}{d0:ae}{r:Int}(h:eH a0 d0=some r):EvP prog aC ext 90 [rM au.pd a0,.clo 91 [.ptr 0 0]] [.var (ae.rc d0)] (rI r,[.var (ae.rc d0)]):=by
 refine Ev.body rfl Tryz.func90 rfl (by kernel_rfl)<|gS rfl rfl<|sV (r0)<|sN<|qS<|gS rfl rfl<|sM rfl<|sE (rI (a0.length:Int)) (qt _ _)<|sV (r0)<|sN<|bE h fun o8 ho8 h=>WC.block (WC.loop (WL.qx ho8 (fun s R' B'=>hY prog 1 (A R' B') (aC.at_ 90 1 2)=some (A [(0,rM au.pd a0),(1,.clo 91 [.ptr 0 0]),(7,rI (a0.length:Int)),(8,rI s)] [(0,.var (ae.rc d0))])) (fun o e R' B'=>match o with| .inl y=>e= .exit 0∧hY prog 1 (A R' B') (aC.at_ 90 1 7)=some (A [] [(0,.var (ae.rc d0))])| .inr r=>e= .ret∧finish prog (aC.own 90) Tryz.f90 1 (A R' B')=some (rI r,[.var (ae.rc d0)])) rfl ?_ ?_))
 ·rintro s1 R' B' q2 hI h
  refine gS rfl hI<|sF h (fun h=>?_) fun h=>?_
  ·refine sN<|qS<|cT<|qK<|qS<|qB<|gS rfl rfl<|sM rfl<|sA rfl<|sN<|gS rfl rfl<|sM rfl<|sM rfl<|sM rfl<|bE h fun x4 hx4 h=>?_
   refine eG hx4 rfl<|sV (.d (au.pd x4))<|bE h fun x5 hx5 h=>qZ h (fun hb6 h=>?_) (fun hb6 h=>?_)
   ·refine WO.rN (v:=rB true) (u:=[(0,.var (ae.rc d0))]) rfl rfl (fun _=>rfl) rfl rfl rfl rfl rfl (lK hx5) rfl rfl (congrArg (fun b=>RV.d (.bool b)) hb6) rfl<|sN<|cT<|gS rfl rfl<|sM rfl<|sA rfl<|sN<|qR ?_
    cases oI h
    exact⟨nofun,rfl,rfl⟩
   refine WO.rN (v:=rB false) (u:=[(0,.var (ae.rc d0))]) rfl rfl (fun _=>rfl) rfl rfl rfl rfl rfl (lK hx5) rfl rfl (congrArg (fun b=>RV.d (.bool b)) hb6) rfl<|sN<|cF<|qK<|WC.region rfl rfl<|sV (rI (rW (s1+(1:Int))))<|sM rfl<|sN ?_
   cases oI h
   exact⟨rfl,rfl⟩
  refine sN<|qS<|cF<|qX ?_
  cases oI h
  exact⟨nofun,rfl,rfl⟩
 intro e R' B' he hq
 rcases o8 with y9|r10
 ·obtain⟨rfl,hI⟩:=hq
  refine qE<|gS rfl hI<|sV (rI (-1))<|sN<|qR ?_
  cases oI h
  exact qG
 obtain⟨rfl,hf⟩:=hq
 cases oI h
 exact hf
theorem oz{a0:(List au)}{a1:ae}{r:Int}(h:il a0 a1=some r):EvP prog aC ext 39 [rM au.pd a0,.d (ae.pd a1)] [] (rI r,[]):=by
 refine Ev.body rfl Tryz.func39 rfl (by kernel_rfl)<|gS rfl rfl<|sB (.ptr 48 0) 48 (.var (ae.rc a1))<|sV (r0)<|sN<|gS rfl rfl<|sM rfl<|sV (.clo 91 [.ptr 48 0])<|bE h fun x1 hx1 h=>cR (rI x1) [(48,.var (ae.rc a1))] (kO hx1)<|sA rfl<|sN<|qR ?_
 cases oI h
 exact qG
theorem law34_awake_ev{r:Bool}(h:mG=some r):EvP prog aC ext 23 [] [] (rB r,[]):=by
 refine Ev.body rfl Tryz.func23 rfl (by kernel_rfl)<|gS rfl rfl<|sU<|sN<|gS rfl rfl<|bE h fun x1 hx1 h=>cR (.ptr 192 0) [(192,.var (ac.rc x1))] (keep_New_ev hx1)<|sA rfl<|sN<|gS rfl rfl<|sM rfl<|bE h fun x2 hx2 h=>cR (.d (aq.pd x2.1)) [(192,.var (ac.rc x2.2))] (oc hx2)<|sM rfl<|bE h fun x3 hx3 h=>?_
 refine cR (.d (ar.pd x3.1)) [(192,.var (ac.rc x3.2))] (qc hx3)<|sB (.ptr 32 0) 32 (.var [r0,r0,r0,r0,r0,r0,r0,.ng,.ng,r0,r0,r0,r0,r0,r0,.ng,.ng,r0,r0,r0])<|sB (.ptr 48 0) 48 (.var [.ng])<|sH 32 (.var (aq.rc x2.1))<|sS 48 (.var [rM aA.pd x3.1.aU])<|sN<|gS rfl rfl<|bE h fun x4 hx4 h=>cD (mi hx4)<|sG (.d (ae.pd (ae.mk x4 2500 2500 2500 10 0)))<|sB (.ptr 64 0) 64 (.var zZ2)<|sH 64 (.var (aw.rc x4++[rI 2500,rI 2500,rI 2500,rI 10,r0]))<|sN<|gS rfl rfl<|sV (.d (ae.pd (ae.mk x4 2500 2500 2500 10 0))) ?_
 refine sB (.ptr 80 0) 80 (.var zZ2)<|sH 80 (.var (aw.rc x4++[rI 2500,rI 2500,rI 2500,rI 10,r0]))<|sN<|gS rfl rfl<|sV (.ptr 80 7)<|sS 80 (.var (aw.rc x4++[rI 2500,rI 2500,rI 2500,rI 11,r0]))<|sN<|gS rfl rfl<|sV (.d (aq.pd x2.1))<|sV (.d (.agg [.lst (x3.1.aU.map aA.pd)]))<|sV (.d (ae.pd (ae.mk x4 2500 2500 2500 11 0)))<|sV (.d (ae.pd (ae.mk x4 2500 2500 2500 10 0)))<|sG (.d (.lst ([(ae.mk x4 2500 2500 2500 11 0),(ae.mk x4 2500 2500 2500 10 0)].map ae.pd)))<|bE h fun x5 hx5 h=>cR (.tup [rM au.pd x5.1,rM ae.pd x5.2.1,rI x5.2.2]) [] (jg hx5) ?_
 refine sM rfl<|sV (rM au.pd x5.1)<|sV (rM ae.pd x5.2.1)<|sV (rI x5.2.2)<|sA rfl<|sA rfl<|sA rfl<|sN<|gS rfl rfl<|sV (.d (aq.pd x2.1))<|sV (.d (.agg [.lst (x3.1.aU.map aA.pd)]))<|bE h fun x6 hx6 h=>cR (.tup [rM au.pd x6.1,rM ae.pd x6.2.1,rI x6.2.2]) [] (jg hx6)<|sM rfl<|sV (rM au.pd x6.1) ?_
 refine sV (rM ae.pd x6.2.1)<|sV (rI x6.2.2)<|sA rfl<|sA rfl<|sA rfl<|sN<|WC.cI rfl rfl<|sM rfl<|sF h (fun h=>?_) fun h=>?_
 ·refine sM rfl<|sM rfl<|sE (rI (x5.1.length:Int)) (qt _ _)<|sV (rB ((x5.1.length:Int)==(1:Int)))<|sF h (fun h=>?_) fun h=>?_
  ·refine sM rfl<|sM rfl<|sE (rI (x5.2.1.length:Int)) (qt _ _)<|sV (rB ((x5.2.1.length:Int)==(0:Int)))<|sF h (fun h=>?_) fun h=>?_
   ·refine sM rfl<|sM rfl<|bE h fun x10 hx10 h=>eG hx10 rfl<|sV (.cptr [.str x10.aZ.aD.bc,.str x10.aZ.aD.aO,.str x10.aZ.aD.ap,.str x10.aZ.aD.bd,.int .i64 x10.aZ.aX,.int .i64 x10.aZ.aM,.int .i64 x10.aZ.bf,.int .i64 x10.aZ.aP,.int .i64 x10.aZ.aT,.lst (x10.aB.ce.map ae.pd),.int .i64 x10.aB.ap.aV.fX,.int .i64 x10.aB.ap.aV.fY,.int .i64 x10.aB.ap.aV.fZ,.int .i64 x10.aB.ap.aX,.int .i64 x10.aB.ap.bh,.int .i64 x10.aB.ap.dW,.int .i64 x10.aB.ap.aY.aK.fX,.int .i64 x10.aB.ap.aY.aK.fY,.int .i64 x10.aB.ap.aY.aK.fZ,.int .i64 x10.aB.ap.aY.aF.fX,.int .i64 x10.aB.ap.aY.aF.fY,.int .i64 x10.aB.ap.aY.aF.fZ,.int .i64 x10.aB.bt.aK,.int .i64 x10.aB.bt.aF,.int .i64 x10.aB.gr])<|sV (.d (ae.pd x10.aZ))<|sV (.d (ae.pd (ae.mk x4 2500 2500 2500 10 0)))<|WO.bin (eqE_66 x10.aZ (ae.mk x4 2500 2500 2500 10 0)) rfl rfl rfl rfl rfl<|sF h (fun h=>?_) fun h=>?_
    ·refine sM rfl<|sM rfl<|bE h fun x12 hx12 h=>eG hx12 rfl<|sV (.cptr [.lst (x12.aB.ce.map ae.pd),.int .i64 x12.aB.ap.aV.fX,.int .i64 x12.aB.ap.aV.fY,.int .i64 x12.aB.ap.aV.fZ,.int .i64 x12.aB.ap.aX,.int .i64 x12.aB.ap.bh,.int .i64 x12.aB.ap.dW,.int .i64 x12.aB.ap.aY.aK.fX,.int .i64 x12.aB.ap.aY.aK.fY,.int .i64 x12.aB.ap.aY.aK.fZ,.int .i64 x12.aB.ap.aY.aF.fX,.int .i64 x12.aB.ap.aY.aF.fY,.int .i64 x12.aB.ap.aY.aF.fZ,.int .i64 x12.aB.bt.aK,.int .i64 x12.aB.bt.aF,.int .i64 x12.aB.gr])<|sV (.cptr [.lst (x12.aB.ce.map ae.pd),.int .i64 x12.aB.ap.aV.fX,.int .i64 x12.aB.ap.aV.fY,.int .i64 x12.aB.ap.aV.fZ,.int .i64 x12.aB.ap.aX,.int .i64 x12.aB.ap.bh,.int .i64 x12.aB.ap.dW,.int .i64 x12.aB.ap.aY.aK.fX,.int .i64 x12.aB.ap.aY.aK.fY,.int .i64 x12.aB.ap.aY.aK.fZ,.int .i64 x12.aB.ap.aY.aF.fX,.int .i64 x12.aB.ap.aY.aF.fY,.int .i64 x12.aB.ap.aY.aF.fZ,.int .i64 x12.aB.bt.aK,.int .i64 x12.aB.bt.aF,.int .i64 x12.aB.gr])<|sC rfl<|sE (rI (x12.aB.ce.length:Int)) (qt _ _)<|sV (rB ((x12.aB.ce.length:Int)==(2:Int)))<|sF h (fun h=>?_) fun h=>?_
     ·refine sM rfl<|sM rfl<|sV (rB (x6.2.2==(0:Int)))<|sF h (fun h=>?_) fun h=>?_
      ·refine sM rfl<|sM rfl<|sE (rI (x6.1.length:Int)) (qt _ _)<|sV (rB ((x6.1.length:Int)==(0:Int)))<|sF h (fun h=>?_) fun h=>?_
       ·refine sM rfl<|sM rfl<|sV (.d (ae.pd (ae.mk x4 2500 2500 2500 10 0)))<|bE h fun x16 hx16 h=>cD (oz hx16)<|sV (rB (x16==(0:Int)))<|sF h (fun h=>?_) fun h=>?_
        ·refine sM rfl<|sM rfl<|sV (.d (ae.pd (ae.mk x4 2500 2500 2500 11 0)))<|bE h fun x18 hx18 h=>cD (oz hx18)<|sV (rB (x18==(-1:Int)))<|sV (rB (x18==(-1:Int)))<|sA rfl ?_
         refine sN<|sO<|qR ?_
         cases oI h
         exact qG
        refine sM rfl<|k3<|sK<|sU<|sA rfl ?_
        refine sN<|sO<|qR ?_
        cases oI h
        exact qG
       refine sM rfl<|k3<|sK<|sU<|sM rfl<|k3<|sK<|sU<|sA rfl ?_
       refine sN<|sO<|qR ?_
       cases oI h
       exact qG
      refine sM rfl<|k3<|sU<|sM rfl<|k3<|sK<|sU<|sM rfl<|sK<|sK<|sK ?_
      refine sK<|sU<|sA rfl ?_
      refine sN<|sO<|qR ?_
      cases oI h
      exact qG
     refine sM rfl<|sK<|sK<|sU<|sM rfl<|k3<|sU<|sM rfl<|k3<|sK<|sU ?_
     refine sM rfl<|k3<|sK<|sU<|sA rfl ?_
     refine sN<|sO<|qR ?_
     cases oI h
     exact qG
    refine sM rfl<|k3<|k3<|sK<|sU<|sM rfl<|sK<|sK<|sU<|sM rfl<|sK ?_
    refine sK<|sK<|sU<|sM rfl<|k3<|sK<|sU<|sM rfl<|k3<|sK<|sU ?_
    refine sA rfl ?_
    refine sN<|sO<|qR ?_
    cases oI h
    exact qG
   refine sM rfl<|k3<|k3<|sU<|sM rfl<|k3<|sK<|sK<|sK ?_
   refine sK<|sU<|sM rfl<|sK<|sK<|sU<|sM rfl<|k3<|sU<|sM rfl<|sK<|sK<|sK ?_
   refine sK<|sU<|sM rfl<|k3<|sK<|sU<|sA rfl ?_
   refine sN<|sO<|qR ?_
   cases oI h
   exact qG
  refine sM rfl<|k3<|sU<|sM rfl<|k3<|k3<|sU<|sM rfl<|sK ?_
  refine k3<|k3<|sU<|sM rfl<|sK<|sK<|sU<|sM rfl<|sK<|sK<|sK ?_
  refine sU<|sM rfl<|k3<|sK<|sU<|sM rfl<|k3<|sK<|sU<|sA rfl ?_
  refine sN<|sO<|qR ?_
  cases oI h
  exact qG
 refine sM rfl<|k3<|sU<|sM rfl<|k3<|sU<|sM rfl<|k3<|sK ?_
 refine sK<|sK<|sU<|sM rfl<|k3<|k3<|sK<|sU<|sM rfl<|sK<|sK ?_
 refine sU<|sM rfl<|k3<|sU<|sM rfl<|k3<|sK<|sU<|sM rfl<|sK<|sK ?_
 refine sK<|sK<|sU<|sA rfl ?_
 refine sN<|sO<|qR ?_
 cases oI h
 exact qG
theorem pp{a0:(List Int)}{r:Bool}(h:kF a0=some r):EvP prog aC ext 4 [rL a0] [] (rB r,[]):=by
 refine Ev.body rfl Tryz.func4 rfl (by kernel_rfl)<|gS rfl rfl<|sU<|sN<|gS rfl rfl<|sM rfl<|bE h fun x1 hx1 h=>cR (.ptr 304 0) [(304,.var (ac.rc x1))] (keep_New_ev hx1)<|sA rfl<|sN<|gS rfl rfl<|sM rfl<|bE h fun x2 hx2 h=>cR (.d (aq.pd x2.1)) [(304,.var (ac.rc x2.2))] (oc hx2)<|sM rfl ?_
 refine bE h fun x3 hx3 h=>cR (.d (ar.pd x3.1)) [(304,.var (ac.rc x3.2))] (qc hx3)<|sB (.ptr 64 0) 64 (.var [r0,r0,r0,r0,r0,r0,r0,.ng,.ng,r0,r0,r0,r0,r0,r0,.ng,.ng,r0,r0,r0])<|sB (.ptr 80 0) 80 (.var [.ng])<|sH 64 (.var (aq.rc x2.1))<|sS 80 (.var [rM aA.pd x3.1.aU])<|sN<|WC.cI rfl rfl<|sM rfl<|sV (.d (aq.pd x2.1))<|sV (.d (.agg [.lst (x3.1.aU.map aA.pd)]))<|bE h fun x4 hx4 h=>cR (.ref 432 0) [(304,.var (ac.rc x4.2)),(432,.arr 0 66 (x4.1.map ae.pd))] (qa hx4)<|sM rfl<|sV (.d (aq.pd x2.1)) ?_
 refine sV (.d (.agg [.lst (x3.1.aU.map aA.pd)]))<|bE h fun x5 hx5 h=>cR (.ref 496 0) [(304,.var (ac.rc x5.2)),(496,.arr 0 66 (x5.1.map ae.pd))] (qa hx5)<|sA rfl<|sA rfl ?_
 refine sN<|sO<|qS<|gS rfl rfl<|sM rfl<|WO.u9 rfl rfl rfl rfl rfl rfl rfl rfl rfl<|sV (r0)<|sN<|bE h fun o33 ho33 h=>WC.block (WC.loop (WL.qx ho33 (fun s R' B'=>hY prog 0 (A R' B') (aC.at_ 4 0 5)=some (A [(4,.ptr 64 0),(5,.ptr 80 0),(6,.ref 432 0),(7,.ref 496 0),(33,rI (x5.1.length:Int)),(34,rI s.1)] [(64,.var (aq.rc x2.1)),(80,.var [rM aA.pd x3.1.aU]),(432,.arr 0 66 (x4.1.map ae.pd)),(496,.arr 0 66 (s.2.map ae.pd))])) (fun o e R' B'=>e= .exit 0∧hY prog 0 (A R' B') (aC.at_ 4 0 9)=some (A [(4,.ptr 64 0),(5,.ptr 80 0),(6,rM ae.pd x4.1),(7,.ref 496 0)] [(64,.var (aq.rc x2.1)),(80,.var [rM aA.pd x3.1.aU]),(496,.arr 0 66 (o.map ae.pd))])) rfl ?_ ?_))
 ·rintro⟨s6,s7⟩ R' B' q9 hI h
  refine gS rfl hI<|sF h (fun h=>?_) fun h=>?_
  ·refine sN<|qS<|cT<|qK<|qS<|qB<|gS rfl rfl<|sM rfl<|sA rfl<|sN<|WC.rb rfl rfl<|sM rfl<|sM rfl<|sM rfl<|sM rfl ?_
   refine sM rfl<|sM rfl<|sM rfl<|sM rfl<|bE h fun x12 hx12 h=>WO.rG hx12 rfl rfl rfl rfl rfl rfl rfl rfl<|sV (.elt 496 0 (s6).toNat 4)<|bE h fun x13 hx13 h=>WO.rC hx13 rfl rfl rfl rfl rfl rfl<|sV (rI (rW (x13.aX+(50000:Int))))<|sM rfl<|sM rfl<|bE h fun x15 hx15 h=>WO.rG hx15 rfl rfl rfl rfl rfl rfl rfl rfl<|sV (.elt 496 0 (s6).toNat 5) ?_
   refine bE h fun x16 hx16 h=>WO.rC hx16 rfl rfl rfl rfl rfl rfl<|sV (rI (rW (x16.aM+(50000:Int))))<|sM rfl<|sM rfl<|bE h fun x18 hx18 h=>WO.rG hx18 rfl rfl rfl rfl rfl rfl rfl rfl<|sV (.elt 496 0 (s6).toNat 6)<|bE h fun x19 hx19 h=>WO.rC hx19 rfl rfl rfl rfl rfl rfl<|sV (rI (rW (x19.bf+(50000:Int))))<|bE h fun x21 hx21 h=>WO.rG hx21 rfl rfl rfl rfl rfl rfl rfl rfl<|sV (.elt 496 0 (s6).toNat 4)<|bE h fun x22 hx22 h=>?_
   refine WO.xY (g:=ae.pd) (u:=[]) (sz:=1) hx22 (fun _=>rfl) (fun _=>Nat.le_of_ble_eq_true rfl) rfl rfl rfl rfl rfl rfl rfl rfl rfl rfl rfl<|bE h fun x25 hx25 h=>WO.rG hx25 rfl rfl rfl rfl rfl rfl rfl rfl<|sV (.elt 496 0 (s6).toNat 5)<|bE h fun x26 hx26 h=>WO.xY (g:=ae.pd) (u:=[]) (sz:=1) hx26 (fun _=>rfl) (fun _=>Nat.le_of_ble_eq_true rfl) rfl rfl rfl rfl rfl rfl rfl rfl rfl rfl rfl<|bE h fun x29 hx29 h=>WO.rG hx29 rfl rfl rfl rfl rfl rfl rfl rfl<|sV (.elt 496 0 (s6).toNat 6)<|bE h fun x30 hx30 h=>WO.xY (g:=ae.pd) (u:=[]) (sz:=1) hx30 (fun _=>rfl) (fun _=>Nat.le_of_ble_eq_true rfl) rfl rfl rfl rfl rfl rfl rfl rfl rfl rfl rfl ?_
   refine sN<|sO<|WC.region rfl rfl<|sV (rI (rW (s6+(1:Int))))<|sM rfl<|sN ?_
   cases oI h
   exact⟨rfl,rfl⟩
  refine sN<|qS<|cF<|qX ?_
  cases oI h
  exact⟨nofun,rfl,rfl⟩
 intro e R' B' he hq
 obtain⟨rfl,hI⟩:=hq
 refine qE<|gS rfl hI<|sV (.d (aq.pd x2.1))<|sV (.d (.agg [.lst (x3.1.aU.map aA.pd)]))<|sM rfl<|bE h fun x34 hx34 h=>cR (.tup [rM au.pd x34.1,rM ae.pd x34.2.1,rI x34.2.2]) [] (jg hx34)<|sM rfl<|sV (rM au.pd x34.1)<|sV (rM ae.pd x34.2.1)<|sV (rI x34.2.2)<|sA rfl<|sA rfl<|sA rfl<|sN ?_
 refine WC.qH (R0:=[(4,.ptr 64 0),(5,.ptr 80 0),(6,rM ae.pd x4.1),(7,rM ae.pd o33),(9,rM au.pd x34.1),(11,rI x34.2.2)]) (B0:=[(64,.var (aq.rc x2.1)),(80,.var [rM aA.pd x3.1.aU])]) rfl rfl<|sV (.d (aq.pd x2.1))<|sV (.d (.agg [.lst (x3.1.aU.map aA.pd)]))<|sM rfl<|bE h fun x35 hx35 h=>cR (.tup [rM au.pd x35.1,rM ae.pd x35.2.1,rI x35.2.2]) [] (jg hx35)<|sM rfl<|sV (rM au.pd x35.1)<|sV (rM ae.pd x35.2.1)<|sV (rI x35.2.2)<|sA rfl<|sA rfl<|sA rfl<|sN<|WC.cI rfl rfl ?_
 refine sV (.d (aq.pd x2.1))<|sV (.d (.agg [.lst (x3.1.aU.map aA.pd)]))<|sM rfl<|sM rfl<|sE (rI (x4.1.length:Int)) (qt _ _)<|sM rfl<|sE (rI (x4.1.length:Int)) (qt _ _)<|WO.fullG (g:=ae.pd) (li:=x4.1) rfl rfl rfl rfl rfl rfl rfl rfl rfl rfl rfl rfl rfl<|sM rfl<|bE h fun x36 hx36 h=>WO.appD hx36 (fun _=>rfl) rfl rfl rfl rfl rfl rfl rfl rfl rfl rfl rfl rfl rfl rfl<|bE h fun x37 hx37 h=>cR (.tup [rM au.pd x37.1,rM ae.pd x37.2.1,rI x37.2.2]) [] (jg hx37)<|sM rfl<|sV (rM au.pd x37.1) ?_
 refine sV (rM ae.pd x37.2.1)<|sV (rI x37.2.2)<|sA rfl<|sA rfl<|sA rfl ?_
 refine sN<|sO<|gS rfl rfl<|sM rfl<|sF h (fun h=>?_) fun h=>?_
 ·refine sM rfl<|sM rfl<|sV (rB (x35.2.2==(0:Int)))<|sF h (fun h=>?_) fun h=>?_
  ·refine sM rfl<|sM rfl<|sV (rB (x37.2.2==(0:Int)))<|sF h (fun h=>?_) fun h=>?_
   ·refine sM rfl<|sM rfl<|sM rfl<|sM rfl<|bE h fun x41 hx41 h=>cD (ref34_Join_ev hx41)<|bE h fun x42 hx42 h=>cD (ref34_Same_ev hx42)<|sF h (fun h=>?_) fun h=>?_
    ·refine sM rfl<|bE h fun x44 hx44 h=>cD (law34_awake_ev hx44)<|sV (rB x44)<|sA rfl<|sN<|qR ?_
     cases oI h
     exact qG
    refine sM rfl<|sK<|sU<|sA rfl<|sN<|qR ?_
    cases oI h
    exact qG
   refine sM rfl<|k3<|sK<|sK<|sU<|sM rfl<|sK<|sU<|sA rfl<|sN<|qR ?_
   cases oI h
   exact qG
  refine sM rfl<|sK<|sK<|sU<|sM rfl<|k3<|sK<|sK<|sU<|sM rfl<|sK<|sU<|sA rfl ?_
  refine sN<|qR ?_
  cases oI h
  exact qG
 refine sM rfl<|sK<|sK<|sU<|sM rfl<|sK<|sK<|sU<|sM rfl<|k3<|sK<|sK<|sU ?_
 refine sM rfl<|sK<|sU<|sA rfl<|sN<|qR ?_
 cases oI h
 exact qG
end Go.Dw.El
