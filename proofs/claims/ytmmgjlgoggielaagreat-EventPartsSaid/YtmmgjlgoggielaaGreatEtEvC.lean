
import Derived.Test.YtmmgjlgoggielaaGreatEtEvB

set_option maxRecDepth 100000
set_option maxHeartbeats 4000000
namespace Go.Dw.Et
open Go.Proofs Go.Proofs.Tryz Go.Dw
theorem oA{a0:aJ}{a1:(List al)}{r:(List ba)×(List Int)×Int}(h:gj a0 a1=some r):EvP prog aB ext 66 [.d (aJ.pd a0),rM al.pd a1] [] (.tup [rM ba.pd r.1,rL r.2.1,rI r.2.2],[]):=by
 refine Ev.body rfl Tryz.func66 rfl (by kernel_rfl)<|gS rfl rfl<|sB (.ptr 32 0) 32 (.var (aJ.rc a0))<|sV .dg<|sV .dg<|sV (r0)<|sN<|WC.scope<|qS<|gS rfl rfl<|sV (.d (aJ.pd a0))<|sM rfl<|bE h fun x1 hx1 h=>cD (lj hx1)<|sA rfl ?_
 refine sN<|gS rfl rfl<|sM rfl<|sF h (fun h=>?_) fun h=>?_
 ·refine sN<|cT<|gS rfl rfl<|sM rfl<|sV .dg<|sV .dg<|sA rfl<|sN<|qR ?_
  cases oI h
  exact qG
 refine sN<|cF<|qK<|gS rfl rfl<|sV .dg<|sN<|gS rfl rfl<|sV .dg<|sN<|gS rfl rfl<|sM rfl<|bE h fun x3 hx3 h=>cD (mS hx3)<|sA rfl<|sN ?_
 refine gS rfl rfl<|sM rfl<|sE (rI (a1.length:Int)) (fB _ _)<|bE h fun x4 hx4 h=>cR (.agg [.ref 560 0,.ref 561 0]) [(560,.arr 0 3 (x4.nZ.map (PD.int .i64))),(561,.arr 0 3 (x4.fback.map (PD.int .i64)))] (pj hx4)<|sB (.ptr 176 0) 176 (.var [.dg,.dg])<|sS 176 (.var [.ref 560 0,.ref 561 0])<|sN<|qS<|WC.label<|qS<|bE h fun o79 ho79 h=>WC.block (WC.loop (WL.gE ho79 (fun s R' B'=>b8 prog 0 (A R' B') (aB.at_ 66 0 8)=some (A [(1,rM al.pd a1),(2,.ptr 32 0),(8,.ref 2432 0),(9,.ref 2576 0),(10,rL x3),(11,.ptr 176 0)] [(32,.var (aJ.rc a0)),(176,.var [.ref 560 0,.ref 561 0]),(560,.arr 0 3 (s.2.2.1.map (PD.int .i64))),(561,.arr 0 3 (s.2.2.2.map (PD.int .i64))),(2432,.arr 0 142 (s.1.map ba.pd)),(2576,.arr 0 3 (s.2.1.map (PD.int .i64)))])) (fun o e R' B'=>match o with| .inl y=>e= .exit 0∧b8 prog 0 (A R' B') (aB.at_ 66 0 42)=some (A [(8,.ref 2432 0),(9,.ref 2576 0)] [(2432,.arr 0 142 (y.1.map ba.pd)),(2576,.arr 0 3 (y.2.map (PD.int .i64)))])| .inr r=>e= .ret∧finish prog (aB.own 66) Tryz.f66 0 (A R' B')=some (.tup [rM ba.pd r.1,rL r.2.1,rI r.2.2],[])) rfl ?_ ?_))
 ·rintro⟨s5,s6,s7,s8⟩ R' B' q11 hI h
  unfold bZ at h
  refine qS<|WC.cI hI rfl<|sV (.ptr 176 0)<|sL rfl<|sV (.agg [.ref 560 0,.ref 561 0])<|bE h fun x12 hx12 h=>cR (rI x12) [ ] (jr hx12)<|bE h fun x14 hx14 h=>WO.p8 hx14 rfl rfl rfl rfl rfl rfl rfl rfl<|bE h fun x15 hx15 h=>WO.pJ hx15 rfl rfl rfl rfl rfl rfl<|sV (.agg [.ref 560 0,.ref 561 0])<|bE h fun x16 hx16 h=>cR (rI x16) [ ] (jr hx16)<|sF h (fun h=>?_) fun h=>?_
  ·refine sN<|sO<|cT<|qK<|qB<|gS rfl rfl<|sV (.agg [.ref 560 0,.ref 561 0])<|sV (.d (aJ.pd a0))<|sM rfl<|sM rfl<|bE h fun x18 hx18 h=>cR (rL x18.1) [(560,.arr 0 3 (x18.2.1.map (PD.int .i64))),(561,.arr 0 3 (x18.2.2.map (PD.int .i64)))] (chain_windowq_ev hx18)<|sA rfl<|sN<|WC.join (α:=(List ba)×(List Int)) (fun x R' B'=>b8 prog 0 (A R' B') (aB.at_ 66 0 40)=some (A [(1,rM al.pd a1),(2,.ptr 32 0),(8,.ref 2432 0),(9,.ref 2576 0),(10,rL x3),(11,.ptr 176 0),(12,rL x18.1)] [(32,.var (aJ.rc a0)),(176,.var [.ref 560 0,.ref 561 0]),(560,.arr 0 3 (x18.2.1.map (PD.int .i64))),(561,.arr 0 3 (x18.2.2.map (PD.int .i64))),(2432,.arr 0 142 (x.1.map ba.pd)),(2576,.arr 0 3 (x.2.map (PD.int .i64)))])) (fun x=>cu x18 x3 x.1 x.2=some q11) ?_ ?_
   ·refine gS rfl rfl<|sM rfl<|sE (rI (x18.1.length:Int)) (fB _ _)<|sV (.ptr 32 13)<|sL rfl<|sF h (fun h=>?_) fun h=>?_
    ·refine sN<|cT<|gS rfl rfl<|sV .dg<|sN<|qS<|gS rfl rfl<|sM rfl<|sE (rI (x18.1.length:Int)) (fB _ _)<|sV (r0)<|sN<|bE h fun o40 ho40 h=>WC.block (WC.loop (WL.gE ho40 (fun s R' B'=>b8 prog 0 (A R' B') (aB.at_ 66 0 13)=some (A [(1,rM al.pd a1),(2,.ptr 32 0),(8,.ref 2432 0),(9,.ref 2576 0),(10,rL x3),(11,.ptr 176 0),(12,rL x18.1),(13,.ref 1120 0),(55,rL x18.1),(56,rI (x18.1.length:Int)),(57,rI s.1)] [(32,.var (aJ.rc a0)),(176,.var [.ref 560 0,.ref 561 0]),(560,.arr 0 3 (x18.2.1.map (PD.int .i64))),(561,.arr 0 3 (x18.2.2.map (PD.int .i64))),(1120,.arr 0 81 (s.2.map al.pd)),(2432,.arr 0 142 (s5.map ba.pd)),(2576,.arr 0 3 (s6.map (PD.int .i64)))])) (fun o e R' B'=>e= .exit 2∧b8 prog 0 (A R' B') (aB.at_ 66 0 17)=some (A [(1,rM al.pd a1),(2,.ptr 32 0),(8,.ref 2432 0),(9,.ref 2576 0),(10,rL x3),(11,.ptr 176 0),(12,rL x18.1),(13,rM al.pd o.1)] [(32,.var (aJ.rc a0)),(176,.var [.ref 560 0,.ref 561 0]),(560,.arr 0 3 (x18.2.1.map (PD.int .i64))),(561,.arr 0 3 (x18.2.2.map (PD.int .i64))),(2432,.arr 0 142 (o.2.1.map ba.pd)),(2576,.arr 0 3 (o.2.2.map (PD.int .i64)))])) rfl ?_ ?_))
     ·rintro⟨s28,s29⟩ R' B' q33 hI h
      refine gS rfl hI<|sF h (fun h=>?_) fun h=>?_
      ·refine sN<|qS<|cT<|qK<|qS<|qB<|gS rfl rfl<|bE h fun x35 hx35 h=>eG hx35 rfl<|sC rfl<|sA rfl<|sN<|WC.region rfl rfl<|sM rfl<|sM rfl ?_
       refine sM rfl<|sM rfl<|bE h fun x36 hx36 h=>eG hx36 rfl<|sC rfl<|bE h fun x37 hx37 h=>eG hx37 rfl<|sV (.d (al.pd x37))<|sV (.d (.lst ([x37].map al.pd)))<|bE h fun x38 hx38 h=>aR hx38 (fun _=>rfl) rfl<|sA rfl<|sN<|WC.region rfl rfl<|sV (rI (rW (s28+(1:Int)))) ?_
       refine sM rfl<|sN ?_
       cases oI h
       exact⟨rfl,rfl⟩
      refine sN<|qS<|cF<|qX ?_
      cases oI h
      exact⟨nofun,rfl,rfl⟩
     intro e R' B' he hq
     obtain⟨rfl,hI⟩:=hq
     refine qE<|WC.cI hI rfl<|sV (.d (aJ.pd a0))<|sM rfl<|bE h fun x41 hx41 h=>cD (lT hx41)<|sV (.ptr 32 10)<|sL rfl<|bE h fun x42 hx42 h=>cR (.tup [.d (au.pd x42.1),rI x42.2]) [] (n9 hx42)<|sM rfl<|sV (.d (au.pd x42.1))<|sV (rI x42.2)<|sB (.ptr 256 0) 256 (.var zZ2)<|sH 256 (.var (au.rc x42.1)) ?_
     refine sA rfl ?_
     refine sN<|sO<|qS<|gS rfl rfl<|sM rfl<|sF h (fun h=>?_) fun h=>?_
     ·refine sN<|cT<|gS rfl rfl<|sM rfl<|sV .dg<|sV .dg<|sA rfl<|sN<|qR ?_
      cases oI h
      exact⟨nofun,rfl,rfl⟩
     refine sN<|cF<|qK<|WC.cI rfl rfl<|sV (.d (aJ.pd a0))<|sM rfl<|bE h fun x44 hx44 h=>cD (lT hx44)<|sV (.ptr 256 0)<|sV (.d (aa.pd x42.1.aV))<|sV (.ptr 256 3)<|sL rfl<|bE h fun x45 hx45 h=>cR (.tup [rL x45.1,rI x45.2]) [] (qy hx45)<|sM rfl ?_
     refine sV (rL x45.1)<|sV (rI x45.2)<|sA rfl<|sA rfl ?_
     refine sN<|sO<|qS<|gS rfl rfl<|sM rfl<|sF h (fun h=>?_) fun h=>?_
     ·refine sN<|cT<|gS rfl rfl<|sM rfl<|sV .dg<|sV .dg<|sA rfl<|sN<|qR ?_
      cases oI h
      exact⟨nofun,rfl,rfl⟩
     refine sN<|cF<|qK<|gS rfl rfl<|sV .dg<|sN<|qS<|gS rfl rfl<|sM rfl<|sE (rI (x18.1.length:Int)) (fB _ _)<|sV (r0)<|sN<|bE h fun o57 ho57 h=>WC.block (WC.loop (WL.gE ho57 (fun s R' B'=>b8 prog 0 (A R' B') (aB.at_ 66 0 25)=some (A [(1,rM al.pd a1),(2,.ptr 32 0),(8,.ref 2432 0),(9,.ref 2576 0),(10,rL x3),(11,.ptr 176 0),(12,rL x18.1),(16,.ptr 256 0),(18,rL x45.1),(19,.ref 1840 0),(98,rL x18.1),(99,rI (x18.1.length:Int)),(100,rI s.1)] [(32,.var (aJ.rc a0)),(176,.var [.ref 560 0,.ref 561 0]),(256,.var (au.rc x42.1)),(560,.arr 0 3 (x18.2.1.map (PD.int .i64))),(561,.arr 0 3 (x18.2.2.map (PD.int .i64))),(1840,.arr 0 3 (s.2.map (PD.int .i64))),(2432,.arr 0 142 (o40.2.1.map ba.pd)),(2576,.arr 0 3 (o40.2.2.map (PD.int .i64)))])) (fun o e R' B'=>e= .exit 4∧b8 prog 0 (A R' B') (aB.at_ 66 0 30)=some (A [(1,rM al.pd a1),(2,.ptr 32 0),(8,.ref 2432 0),(9,.ref 2576 0),(10,rL x3),(11,.ptr 176 0),(12,rL x18.1),(16,.ptr 256 0),(19,.ref 1840 0)] [(32,.var (aJ.rc a0)),(176,.var [.ref 560 0,.ref 561 0]),(256,.var (au.rc x42.1)),(560,.arr 0 3 (x18.2.1.map (PD.int .i64))),(561,.arr 0 3 (x18.2.2.map (PD.int .i64))),(1840,.arr 0 3 (o.map (PD.int .i64))),(2432,.arr 0 142 (o40.2.1.map ba.pd)),(2576,.arr 0 3 (o40.2.2.map (PD.int .i64)))])) rfl ?_ ?_))
     ·rintro⟨s47,s48⟩ R' B' q50 hI h
      refine gS rfl hI<|sF h (fun h=>?_) fun h=>?_
      ·refine sN<|qS<|cT<|qK<|qS<|qB<|gS rfl rfl<|sM rfl<|bE h fun x52 hx52 h=>eG hx52 rfl<|sC rfl<|sA rfl<|sA rfl<|sN<|WC.cI rfl rfl ?_
       refine sM rfl<|sM rfl<|bE h fun x53 hx53 h=>eG hx53 rfl<|sC rfl<|sV (.ptr 32 12)<|sL rfl<|sF h (fun h=>?_) fun h=>?_
       ·refine sN<|sO<|cT<|WC.region rfl rfl<|sM rfl<|sM rfl<|sV (.d (.lst ([x52].map (PD.int .i64))))<|bE h fun x55 hx55 h=>aR hx55 (fun _=>rfl) rfl<|sA rfl<|sN<|WC.region rfl rfl<|sV (rI (rW (s47+(1:Int))))<|sM rfl<|sN ?_
        cases oI h
        exact⟨rfl,rfl⟩
       refine sN<|sO<|cF<|qK<|WC.region rfl rfl<|sV (rI (rW (s47+(1:Int))))<|sM rfl<|sN ?_
       cases oI h
       exact⟨rfl,rfl⟩
      refine sN<|qS<|cF<|qX ?_
      cases oI h
      exact⟨nofun,rfl,rfl⟩
     intro e R' B' he hq
     obtain⟨rfl,hI⟩:=hq
     refine qE<|gS rfl hI<|sM rfl<|WO.uT rfl rfl rfl rfl rfl rfl rfl rfl rfl<|sV (.ptr 32 13)<|sL rfl<|sF h (fun h=>?_) fun h=>?_
     ·refine sN<|cT<|gS rfl rfl<|sV (.ptr 256 0)<|sV (.d (aa.pd x42.1.aV))<|sV (.ptr 256 3)<|sL rfl<|sV (.agg (.dg::aa.rc x42.1.aV++[rI x42.1.a8]))<|sB (.ptr 352 0) 352 (.var [.dg,r0,r0,r0,r0])<|sS 352 (.var (.dg::aa.rc x42.1.aV++[rI x42.1.a8]))<|sN<|qS<|gS rfl rfl<|sM rfl<|WO.uT rfl rfl rfl rfl rfl rfl rfl rfl rfl ?_
      refine sV (r0)<|sN<|bE h fun o75 ho75 h=>WC.block (WC.loop (WL.gE ho75 (fun s R' B'=>b8 prog 0 (A R' B') (aB.at_ 66 0 33)=some (A [(1,rM al.pd a1),(2,.ptr 32 0),(8,.ref 2432 0),(9,.ref 2576 0),(10,rL x3),(11,.ptr 176 0),(22,.ptr 352 0),(127,.ref 1840 0),(128,rI (o57.length:Int)),(129,rI s.1)] [(32,.var (aJ.rc a0)),(176,.var [.ref 560 0,.ref 561 0]),(352,.var (.ref 2288 0::aa.rc x42.1.aV++[rI x42.1.a8])),(560,.arr 0 3 (s.2.1.map (PD.int .i64))),(561,.arr 0 3 (s.2.2.1.map (PD.int .i64))),(1840,.arr 0 3 (o57.map (PD.int .i64))),(2288,.arr 0 3 (s.2.2.2.map (PD.int .i64))),(2432,.arr 0 142 (o40.2.1.map ba.pd)),(2576,.arr 0 3 (o40.2.2.map (PD.int .i64)))])) (fun o e R' B'=>e= .exit 6∧b8 prog 0 (A R' B') (aB.at_ 66 0 38)=some (A [(1,rM al.pd a1),(2,.ptr 32 0),(8,.ref 2432 0),(9,.ref 2576 0),(10,rL x3),(11,.ptr 176 0),(22,.ptr 352 0)] [(32,.var (aJ.rc a0)),(176,.var [.ref 560 0,.ref 561 0]),(352,.var (.ref 2288 0::aa.rc x42.1.aV++[rI x42.1.a8])),(560,.arr 0 3 (o.1.map (PD.int .i64))),(561,.arr 0 3 (o.2.1.map (PD.int .i64))),(2288,.arr 0 3 (o.2.2.map (PD.int .i64))),(2432,.arr 0 142 (o40.2.1.map ba.pd)),(2576,.arr 0 3 (o40.2.2.map (PD.int .i64)))])) rfl ?_ ?_))
      ·rintro⟨s59,s60,s61,s62⟩ R' B' q66 hI h
       refine gS rfl hI<|sF h (fun h=>?_) fun h=>?_
       ·refine sN<|qS<|cT<|qK<|qS<|qB<|gS rfl rfl<|bE h fun x69 hx69 h=>WO.p8 hx69 rfl rfl rfl rfl rfl rfl rfl rfl<|bE h fun x70 hx70 h=>WO.pJ hx70 rfl rfl rfl rfl rfl rfl<|sA rfl<|sN<|gS rfl rfl<|sV (.agg [.ref 560 0,.ref 561 0]) ?_
        refine sM rfl<|bE h fun x71 hx71 h=>cR (.tup []) [(560,.arr 0 3 (x71.1.map (PD.int .i64))),(561,.arr 0 3 (x71.2.map (PD.int .i64)))] (oY hx71)<|sN<|WC.oi rfl rfl<|sV (.ptr 352 0)<|sL rfl<|sM rfl<|sM rfl<|bE h fun x72 hx72 h=>eG hx72 rfl<|sC rfl<|sV (.d (.lst ([x72].map (PD.int .i64))))<|bE h fun x73 hx73 h=>aR hx73 (fun _=>rfl) rfl ?_
        refine sV (.ptr 352 0)<|sS 352 (.var (.ref 2288 1::aa.rc x42.1.aV++[rI x42.1.a8])) ?_
        refine sN<|sO<|WC.region rfl rfl<|sV (rI (rW (s59+(1:Int))))<|sM rfl<|sN ?_
        cases oI h
        exact⟨rfl,rfl⟩
       refine sN<|qS<|cF<|qX ?_
       cases oI h
       exact⟨nofun,rfl,rfl⟩
      intro e R' B' he hq
      obtain⟨rfl,hI⟩:=hq
      refine qE<|gS rfl hI<|sV (.ptr 352 0)<|sL rfl<|bE h fun x76 hx76 h=>cR (.tup []) [(2288,.arr 0 3 (x76.map (PD.int .i64)))] (ic hx76)<|sN<|gS rfl rfl<|sM rfl<|sV (.agg (.ref 2288 0::aa.rc x42.1.aV++[rI x42.1.a8]))<|sB (.d (.lst [ba.pd (ba.mk x76 x42.1.aV x42.1.a8)])) 2288 .dead<|bE h fun x77 hx77 h=>aR hx77 (fun _=>rfl) rfl<|sA rfl<|sN ?_
      refine qX<|qE ?_
      cases oI h
      exact⟨rfl,rfl⟩
     exact sN<|cF<|qK<|⟨(o40.2.1,o40.2.2),rfl,h⟩
    exact sN<|cF<|qK<|⟨(s5,s6),rfl,h⟩
   rintro⟨j19,j20⟩ R' B' hI h
   refine gS rfl hI<|sM rfl<|sM rfl<|sM rfl<|bE h fun x21 hx21 h=>eG hx21 rfl<|sC rfl<|bE h fun x22 hx22 h=>eG hx22 rfl<|sC rfl<|sV (.d (.lst ([x22].map (PD.int .i64))))<|bE h fun x23 hx23 h=>aR hx23 (fun _=>rfl) rfl<|sA rfl<|sN ?_
   refine WC.oi rfl rfl<|sV (.agg [.ref 560 0,.ref 561 0])<|sM rfl<|bE h fun x24 hx24 h=>eG hx24 rfl<|sC rfl<|bE h fun x25 hx25 h=>cR (.tup []) [(560,.arr 0 3 (x25.1.map (PD.int .i64))),(561,.arr 0 3 (x25.2.map (PD.int .i64)))] (oY hx25) ?_
   refine sN<|sO ?_
   cases oI h
   exact⟨rfl,rfl⟩
  refine sN<|sO<|cF<|qX ?_
  cases oI h
  exact⟨nofun,rfl,rfl⟩
 intro e R' B' he hq
 rcases o79 with y80|r81
 ·obtain⟨rfl,hI⟩:=hq
  refine qE<|gS rfl hI<|sM rfl<|bE h fun x82 hx82 h=>cR (.tup []) [(2576,.arr 0 3 (x82.map (PD.int .i64)))] (ic hx82)<|sN<|gS rfl rfl<|sM rfl<|sM rfl<|sA rfl<|sA rfl<|sV (r0)<|sN<|qR ?_
  exact oI h▸qD
 obtain⟨rfl,hf⟩:=hq
 cases oI h
 exact hf
theorem rE{a0:ak}{a1:aq}{a2:(List ac)}{r:aW×Int}(h:iu a0 a1 a2=some r):EvP prog aB ext 55 [.d (ak.pd a0),.d (aq.pd a1),rM ac.pd a2] [] (.tup [.d (aW.pd r.1),rI r.2],[]):=by
 refine Ev.body rfl Tryz.func55 rfl (by kernel_rfl)<|gS rfl rfl<|sB (.ptr 48 0) 48 (.var (ak.rc a0))<|sB (.ptr 64 0) 64 (.var [rM ar.pd a1.aI])<|sB (.ptr 96 0) 96 (.var [.dg,.dg,.dg])<|sV (r0)<|sN<|gS rfl rfl<|sB (.ptr 128 0) 128 (.var [.dg,.dg,.dg])<|sN<|qS<|qB<|gS rfl rfl<|sV (.d (ak.pd a0))<|bE h fun x1 hx1 h=>?_
 refine cD (jl hx1)<|sF h (fun h=>?_) fun h=>?_
 ·refine sA rfl<|sN<|cT<|gS rfl rfl<|sV (.agg [.dg,.dg,.dg])<|sS 96 (.var [.dg,.dg,.dg])<|sV (rI 27)<|sN<|qR ?_
  cases oI h
  exact qG
 refine sA rfl<|sN<|cF<|gS rfl rfl<|sV (.d (aq.pd a1))<|bE h fun x3 hx3 h=>cD (gU hx3)<|sF h (fun h=>?_) fun h=>?_
 ·refine sA rfl<|sN<|cT<|gS rfl rfl<|sV (.agg [.dg,.dg,.dg])<|sS 96 (.var [.dg,.dg,.dg])<|sV (rI 1)<|sN<|qR ?_
  cases oI h
  exact qG
 refine sA rfl<|sN<|cF<|qK<|qS<|gS rfl rfl<|sM rfl<|bE h fun x5 hx5 h=>cD (pU hx5)<|sE (rI (x5.length:Int)) (fB _ _)<|sV (r0)<|sN<|bE h fun o22 ho22 h=>WC.block (WC.loop (WL.gE ho22 (fun s R' B'=>b8 prog 0 (A R' B') (aB.at_ 55 0 7)=some (A [(3,.ptr 48 0),(4,.ptr 64 0),(6,.ptr 96 0),(8,.ptr 128 0),(25,rM ac.pd x5),(26,rI (x5.length:Int)),(27,rI s.1)] [(48,.var (ak.rc a0)),(64,.var [rM ar.pd a1.aI]),(96,.var [.dg,.dg,.dg]),(128,.var [.ref 704 0,.ref 784 0,.ref 864 0]),(704,.arr 0 66 (s.2.1.map ac.pd)),(784,.arr 0 81 (s.2.2.1.map al.pd)),(864,.arr 0 113 (s.2.2.2.map aA.pd))])) (fun o e R' B'=>e= .exit 1∧b8 prog 0 (A R' B') (aB.at_ 55 0 13)=some (A [(6,.ptr 96 0),(8,.ptr 128 0)] [(96,.var [.dg,.dg,.dg]),(128,.var [.ref 704 0,.ref 784 0,.ref 864 0]),(704,.arr 0 66 (o.1.map ac.pd)),(784,.arr 0 81 (o.2.1.map al.pd)),(864,.arr 0 113 (o.2.2.map aA.pd))])) rfl ?_ ?_))
 ·rintro⟨s6,s7,s8,s9⟩ R' B' q13 hI h
  refine gS rfl hI<|sF h (fun h=>?_) fun h=>?_
  ·refine sN<|qS<|cT<|qK<|qS<|qB<|gS rfl rfl<|bE h fun x15 hx15 h=>eG hx15 rfl<|sV (.d (ac.pd x15))<|sB (.ptr 160 0) 160 (.var zZ3)<|sH 160 (.var (ac.rc x15))<|sN<|gS rfl rfl<|sV (.d (ak.pd a0)) ?_
   refine sV (.d (aq.pd a1))<|sV (.d (ac.pd x15))<|bE h fun x16 hx16 h=>cR (.tup [.d (al.pd x16.1),.d (aA.pd x16.2.1),rB x16.2.2]) [] (om hx16)<|sM rfl<|sV (.d (al.pd x16.1))<|sV (.d (aA.pd x16.2.1))<|sV (rB x16.2.2)<|sB (.ptr 176 0) 176 (.var zZ5)<|sB (.ptr 192 0) 192 (.var zZ4)<|sH 176 (.var (al.rc x16.1))<|sH 192 (.var (aA.rc x16.2.1))<|sA rfl<|sN<|gS rfl rfl ?_
   refine sF h (fun h=>?_) fun h=>?_
   ·refine sN<|cT<|WC.oi rfl rfl<|sV (.ptr 128 0)<|sL rfl<|sV (.d (ac.pd x15))<|sG (.d (.lst ([x15].map ac.pd)))<|bE h fun x18 hx18 h=>aR hx18 (fun _=>rfl) rfl<|sV (.ptr 128 1)<|sL rfl<|sV (.d (al.pd x16.1))<|sV (.d (.lst ([x16.1].map al.pd)))<|bE h fun x19 hx19 h=>aR hx19 (fun _=>rfl) rfl ?_
    refine sV (.ptr 128 2)<|sL rfl<|sV (.d (aA.pd x16.2.1))<|sG (.d (.lst ([x16.2.1].map aA.pd)))<|bE h fun x20 hx20 h=>aR hx20 (fun _=>rfl) rfl<|sV (.ptr 128 0)<|sS 128 (.var [.ref 704 1,.ref 784 0,.ref 864 0])<|sV (.ptr 128 1)<|sS 128 (.var [.ref 704 1,.ref 784 1,.ref 864 0])<|sV (.ptr 128 2)<|sS 128 (.var [.ref 704 1,.ref 784 1,.ref 864 1]) ?_
    refine sN<|sO<|WC.region rfl rfl<|sV (rI (rW (s6+(1:Int))))<|sM rfl<|sN ?_
    cases oI h
    exact⟨rfl,rfl⟩
   refine sN<|cF<|qK<|WC.region rfl rfl<|sV (rI (rW (s6+(1:Int))))<|sM rfl<|sN ?_
   cases oI h
   exact⟨rfl,rfl⟩
  refine sN<|qS<|cF<|qX ?_
  cases oI h
  exact⟨nofun,rfl,rfl⟩
 intro e R' B' he hq
 obtain⟨rfl,hI⟩:=hq
 refine qE<|gS rfl hI<|sV (.agg [.ref 704 0,.ref 784 0,.ref 864 0])<|sS 96 (.var [.ref 704 0,.ref 784 0,.ref 864 0])<|sV (r0)<|sN<|qR ?_
 exact oI h▸qD
theorem qx{a0:aW}{a1:ak}{r:ah×Int}(h:jx a0 a1=some r):EvP prog aB ext 56 [.d (aW.pd a0),.d (ak.pd a1)] [] (.tup [.d (ah.pd r.1),rI r.2],[]):=by
 refine Ev.body rfl Tryz.func56 rfl (by kernel_rfl)<|gS rfl rfl<|sB (.ptr 32 0) 32 (.var (aW.rc a0))<|sB (.ptr 48 0) 48 (.var (ak.rc a1))<|sB (.ptr 64 0) 64 (.var [r0,r0,r0,r0,r0,r0,r0,.dg,.dg,.dg,r0])<|sV (r0)<|sN<|qS<|gS rfl rfl<|sV (.ptr 32 1)<|sL rfl<|sE (rI (a0.dt.length:Int)) (fB _ _)<|sA rfl<|sN<|qB ?_
 refine gS rfl rfl<|sM rfl<|sF h (fun h=>?_) fun h=>?_
 ·refine sA rfl<|sN<|cT<|gS rfl rfl<|sG (.agg [r0,r0,r0,r0,r0,r0,r0,.dg,.dg,.dg,r0])<|sH 64 (.var [r0,r0,r0,r0,r0,r0,r0,.dg,.dg,.dg,r0])<|sV (rI 24)<|sN<|qR ?_
  cases oI h
  exact qG
 refine sA rfl<|sN<|cF<|gS rfl rfl<|sM rfl<|sF h (fun h=>?_) fun h=>?_
 ·refine sA rfl<|sN<|cT<|gS rfl rfl<|sG (.agg [r0,r0,r0,r0,r0,r0,r0,.dg,.dg,.dg,r0])<|sH 64 (.var [r0,r0,r0,r0,r0,r0,r0,.dg,.dg,.dg,r0])<|sV (rI 8)<|sN<|qR ?_
  cases oI h
  exact qG
 refine sA rfl<|sN<|cF<|qK<|gS rfl rfl<|sV (.ptr 48 0)<|sV (.d (aJ.pd a1.ag))<|sB (.ptr 112 0) 112 (.var [r0,r0,r0,r0,r0,r0,r0,.dg,.dg,r0,r0,r0,r0,r0])<|sH 112 (.var (aJ.rc a1.ag))<|sN<|WC.cI rfl rfl<|sV (.ptr 112 6)<|sV (.ptr 112 6)<|sL rfl<|sV (.ptr 112 6) ?_
 refine sV (.ptr 112 7)<|sL rfl<|bE h fun x3 hx3 h=>cR (.ref 448 0) [(448,.arr 0 3 (x3.map (PD.int .i64)))] (clone_107 hx3)<|sV (.ptr 112 6)<|sV (.ptr 112 8)<|sL rfl<|bE h fun x4 hx4 h=>cR (.ref 512 0) [(512,.arr 0 3 (x4.map (PD.int .i64)))] (clone_107 hx4)<|sV (.agg [rI a1.ag.bi.bp,.ref 448 0,.ref 512 0])<|sB (.ptr 128 0) 128 (.var [r0,.dg,.dg])<|sS 128 (.var [rI a1.ag.bi.bp,.ref 448 0,.ref 512 0]) ?_
 refine sN<|sO<|gS rfl rfl<|sV (.ptr 112 0)<|sV (.d (ai.pd a1.ag.aN))<|sV (.agg [rI a1.ag.bi.bp,.ref 448 0,.ref 512 0])<|sV (.ptr 32 1)<|sL rfl<|sV (.ptr 112 9)<|sL rfl<|sG (.agg (ai.rc a1.ag.aN++[rI a1.ag.bi.bp,.ref 448 0,.ref 512 0,rM al.pd a0.dt,rI a1.ag.cJ]))<|sH 64 (.var (ai.rc a1.ag.aN++[rI a1.ag.bi.bp,.ref 448 0,.ref 512 0,rM al.pd a0.dt,rI a1.ag.cJ]))<|sV (r0)<|sN<|qR ?_
 cases oI h
 exact qG
theorem nat_From_ev{a0:Int}{r:(List Int)×Int}(h:rX a0=some r):EvP prog aB ext 406 [rI a0] [] (.tup [rL r.1,rI r.2],[]):=by
 refine Ev.body rfl Tryz.func406 rfl (by kernel_rfl)<|gS rfl rfl<|sV .dg<|sV (r0)<|sN<|qS<|gS rfl rfl<|sM rfl<|sF h (fun h=>?_) fun h=>?_
 ·refine sN<|cT<|gS rfl rfl<|sV .dg<|sV (rI 2)<|sN<|qR ?_
  exact oI h▸qD
 refine sN<|cF<|qK<|gS rfl rfl<|sV .dg<|sN<|qS<|bE h fun o10 ho10 h=>WC.block (WC.loop (WL.gE ho10 (fun s R' B'=>b8 prog 0 (A R' B') (aB.at_ 406 0 4)=some (A [(0,rI s.1),(4,.ref 240 0)] [(240,.arr 0 3 (s.2.map (PD.int .i64)))])) (fun o e R' B'=>e= .exit 0∧b8 prog 0 (A R' B') (aB.at_ 406 0 7)=some (A [(4,.ref 240 0)] [(240,.arr 0 3 (o.map (PD.int .i64)))])) rfl ?_ ?_))
 ·rintro⟨s2,s3⟩ R' B' q5 hI h
  refine qS<|gS rfl hI<|sM rfl<|sF h (fun h=>?_) fun h=>?_
  ·refine sN<|cT<|qK<|qS<|qB<|WC.region rfl rfl<|sM rfl<|sM rfl<|bE h fun x7 hx7 h=>WO.remG hx7 rfl rfl rfl rfl rfl rfl<|sV (.d (.lst ([x7].map (PD.int .i64))))<|bE h fun x8 hx8 h=>aR hx8 (fun _=>rfl) rfl<|sA rfl<|sN ?_
   refine WC.region rfl rfl<|sM rfl<|sV (rI (mu .i64 s2 (30:Int)))<|sA rfl<|sN ?_
   cases oI h
   exact⟨rfl,rfl⟩
  refine sN<|cF<|qX ?_
  cases oI h
  exact⟨nofun,rfl,rfl⟩
 intro e R' B' he hq
 obtain⟨rfl,hI⟩:=hq
 refine qE<|gS rfl hI<|sM rfl<|sA rfl<|sV (r0)<|sN<|qR ?_
 exact oI h▸qD
theorem nB{a0:Int}{r:Bool}(h:m9 a0=some r):EvP prog aB ext 388 [rI a0] [] (rB r,[]):=by
 refine Ev.body rfl Tryz.func388 rfl (by kernel_rfl)<|gS rfl rfl<|sU<|sN<|gS rfl rfl<|sM rfl<|sF h (fun h=>?_) fun h=>?_
 ·refine sM rfl<|sK<|sK<|sT<|sA rfl<|sN<|qR ?_
  exact oI h▸qD
 refine sM rfl<|sM rfl<|sV (rB (decide (a0>=(1073741824:Int))))<|sV (rB (decide (a0>=(1073741824:Int))))<|sA rfl<|sN<|qR ?_
 exact oI h▸qD
theorem l5{a0:(List Int)}{r:Int}(h:fq a0=some r):EvP prog aB ext 411 [rL a0,.d (.raw (.func (.func 388) #[] #[]))] [] (rI r,[]):=by
 refine Ev.body rfl Tryz.func411 rfl (by kernel_rfl)<|gS rfl rfl<|sV (r0)<|sN<|qS<|gS rfl rfl<|sM rfl<|sE (rI (a0.length:Int)) (fB _ _)<|sV (r0)<|sN<|bE h fun o8 ho8 h=>WC.block (WC.loop (WL.gE ho8 (fun s R' B'=>b8 prog 0 (A R' B') (aB.at_ 411 0 2)=some (A [(0,rL a0),(1,.d (.raw (.func (.func 388) #[] #[]))),(7,rI (a0.length:Int)),(8,rI s)] [])) (fun o e R' B'=>match o with| .inl y=>e= .exit 0∧b8 prog 0 (A R' B') (aB.at_ 411 0 7)=some (A [] [])| .inr r=>e= .ret∧finish prog (aB.own 411) Tryz.f411 0 (A R' B')=some (rI r,[])) rfl ?_ ?_))
 ·rintro s1 R' B' q2 hI h
  refine gS rfl hI<|sF h (fun h=>?_) fun h=>?_
  ·refine sN<|qS<|cT<|qK<|qS<|qB<|gS rfl rfl<|sM rfl<|sA rfl<|sN<|gS rfl rfl<|sM rfl<|sM rfl<|sM rfl<|bE h fun x4 hx4 h=>?_
   refine eG hx4 rfl<|sC rfl<|bE h fun x5 hx5 h=>nX h (fun hb6 h=>?_) (fun hb6 h=>?_)
   ·refine WO.qA (v:=rB true) (u:=[]) rfl rfl (fun _=>rfl) rfl rfl rfl rfl rfl (nB hx5) rfl rfl (congrArg (fun b=>RV.d (.bool b)) hb6) rfl<|sN<|cT<|gS rfl rfl<|sM rfl<|sA rfl<|sN<|qR ?_
    cases oI h
    exact⟨nofun,rfl,rfl⟩
   refine WO.qA (v:=rB false) (u:=[]) rfl rfl (fun _=>rfl) rfl rfl rfl rfl rfl (nB hx5) rfl rfl (congrArg (fun b=>RV.d (.bool b)) hb6) rfl<|sN<|cF<|qK<|WC.region rfl rfl<|sV (rI (rW (s1+(1:Int))))<|sM rfl<|sN ?_
   cases oI h
   exact⟨rfl,rfl⟩
  refine sN<|qS<|cF<|qX ?_
  cases oI h
  exact⟨nofun,rfl,rfl⟩
 intro e R' B' he hq
 rcases o8 with y9|r10
 ·obtain⟨rfl,hI⟩:=hq
  refine qE<|gS rfl hI<|sV (rI (-1))<|sN<|qR ?_
  exact oI h▸qD
 obtain⟨rfl,hf⟩:=hq
 cases oI h
 exact hf
theorem f4{a0:(List Int)}{r:Bool}(h:cC a0=some r):EvP prog aB ext 387 [rL a0,.d (.raw (.func (.func 388) #[] #[]))] [] (rB r,[]):=by
 refine Ev.body rfl Tryz.func387 rfl (by kernel_rfl)<|gS rfl rfl<|sU<|sN<|gS rfl rfl<|sM rfl<|sM rfl<|bE h fun x1 hx1 h=>cD (l5 hx1)<|sV (rB (decide (x1>=(0:Int))))<|sA rfl<|sN<|qR ?_
 exact oI h▸qD
theorem hJ{a0:(List Int)}{r:Bool}(h:kz a0=some r):EvP prog aB ext 338 [rL a0] [] (rB r,[]):=by
 refine Ev.body rfl Tryz.func338 rfl (by kernel_rfl)<|gS rfl rfl<|sU<|sN<|qS<|gS rfl rfl<|sM rfl<|sE (rI (a0.length:Int)) (fB _ _)<|sF h (fun h=>?_) fun h=>?_
 ·refine sM rfl<|k3<|k3<|k3<|k3<|sT<|sN ?_
  refine cT<|gS rfl rfl<|sU<|sN<|qR ?_
  exact oI h▸qD
 refine sM rfl<|sM rfl<|sE (rI (a0.length:Int)) (fB _ _)<|sF h (fun h=>?_) fun h=>?_
 ·refine sM rfl<|sM rfl<|sM rfl<|sE (rI (a0.length:Int)) (fB _ _)<|sV (rI (rW ((a0.length:Int)-(1:Int))))<|bE h fun x3 hx3 h=>eG hx3 rfl<|sC rfl<|sV (rB (x3==(0:Int)))<|sV (rB (x3==(0:Int)))<|sF h (fun h=>?_) fun h=>?_
  ·refine sN<|cT<|gS rfl rfl<|sU<|sN<|qR ?_
   exact oI h▸qD
  refine sN<|cF<|qK<|gS rfl rfl<|sM rfl<|bE h fun x5 hx5 h=>cD (f4 hx5)<|sV (rB (!x5))<|sA rfl<|sN<|qR ?_
  exact oI h▸qD
 refine sM rfl<|k3<|k3<|sK<|sU<|sU<|sN<|cF<|qK<|gS rfl rfl<|sM rfl ?_
 refine bE h fun x6 hx6 h=>cD (f4 hx6)<|sV (rB (!x6))<|sA rfl<|sN<|qR ?_
 exact oI h▸qD
theorem nat_both_ev{a0:(List Int)}{a1:(List Int)}{r:Bool}(h:pR a0 a1=some r):EvP prog aB ext 420 [rL a0,rL a1] [] (rB r,[]):=by
 refine Ev.body rfl Tryz.func420 rfl (by kernel_rfl)<|gS rfl rfl<|sU<|sN<|gS rfl rfl<|sM rfl<|bE h fun x1 hx1 h=>nX h (fun hb2 h=>?_) (fun hb2 h=>?_)
 ·refine WO.qA (v:=rB true) (u:=[]) rfl rfl (fun _=>rfl) rfl rfl rfl rfl rfl (hJ hx1) rfl rfl (congrArg (fun b=>RV.d (.bool b)) hb2) rfl<|sM rfl<|sM rfl<|bE h fun x3 hx3 h=>cD (hJ hx3)<|sV (rB x3)<|sA rfl<|sN<|qR ?_
  exact oI h▸qD
 refine WO.qA (v:=rB false) (u:=[]) rfl rfl (fun _=>rfl) rfl rfl rfl rfl rfl (hJ hx1) rfl rfl (congrArg (fun b=>RV.d (.bool b)) hb2) rfl<|sM rfl<|sK<|sK<|sU<|sA rfl<|sN<|qR ?_
 exact oI h▸qD
theorem oM{a0:(List Int)}{a1:Int}{r:Int}(h:mQ a0 a1=some r):EvP prog aB ext 410 [rL a0,rI a1] [] (rI r,[]):=by
 refine Ev.body rfl Tryz.func410 rfl (by kernel_rfl)<|gS rfl rfl<|sV (r0)<|sN<|qS<|gS rfl rfl<|sM rfl<|sM rfl<|sE (rI (a0.length:Int)) (fB _ _)<|sF h (fun h=>?_) fun h=>?_
 ·refine sN<|cT<|gS rfl rfl<|sV (r0)<|sN<|qR ?_
  exact oI h▸qD
 refine sN<|cF<|qK<|gS rfl rfl<|sM rfl<|sM rfl<|bE h fun x2 hx2 h=>eG hx2 rfl<|sC rfl<|sA rfl<|sN<|qR ?_
 exact oI h▸qD
theorem nat_trim_ev{a0:(List Int)}{r:(List Int)}(h:pS a0=some r):EvP prog aB ext 409 [rL a0] [] (rL r,[]):=by
 refine Ev.body rfl Tryz.func409 rfl (by kernel_rfl)<|gS rfl rfl<|sV .dg<|sN<|qS<|bE h fun o9 ho9 h=>WC.block (WC.loop (WL.gE ho9 (fun s R' B'=>b8 prog 0 (A R' B') (aB.at_ 409 0 1)=some (A [(0,rL s)] [])) (fun o e R' B'=>e= .exit 0∧b8 prog 0 (A R' B') (aB.at_ 409 0 3)=some (A [(0,rL o)] [])) rfl ?_ ?_))
 ·rintro s1 R' B' q3 hI h
  refine qS<|gS rfl hI<|sM rfl<|sE (rI (s1.length:Int)) (fB _ _)<|sF h (fun h=>?_) fun h=>?_
  ·refine sM rfl<|sM rfl<|sM rfl<|sE (rI (s1.length:Int)) (fB _ _)<|sV (rI (rW ((s1.length:Int)-(1:Int))))<|bE h fun x5 hx5 h=>eG hx5 rfl<|sC rfl<|sV (rB (x5==(0:Int)))<|sF h (fun h=>?_) fun h=>?_
   ·refine sN<|cT<|qK<|qB<|WC.region rfl rfl<|sM rfl<|sM rfl<|sE (rI (s1.length:Int)) (fB _ _)<|sV (rI (rW ((s1.length:Int)-(1:Int))))<|bE h fun x7 hx7 h=>WO.cutL (sz:=1) (g:=(PD.int .i64)) hx7 (fun _=>rfl) rfl rfl rfl rfl rfl rfl rfl rfl rfl rfl rfl<|sA rfl<|sN ?_
    cases oI h
    exact⟨rfl,rfl⟩
   refine sN<|cF<|qX ?_
   cases oI h
   exact⟨nofun,rfl,rfl⟩
  refine sM rfl<|k3<|k3<|sK<|sU<|sN<|cF<|qX ?_
  cases oI h
  exact⟨nofun,rfl,rfl⟩
 intro e R' B' he hq
 obtain⟨rfl,hI⟩:=hq
 refine qE<|gS rfl hI<|sM rfl<|sA rfl<|sN<|qR ?_
 exact oI h▸qD
theorem mg{a0:(List Int)}{a1:(List Int)}{r:(List Int)}(h:jy a0 a1=some r):EvP prog aB ext 386 [rL a0,rL a1] [] (rL r,[]):=by
 refine Ev.body rfl Tryz.func386 rfl (by kernel_rfl)<|gS rfl rfl<|sV .dg<|sN<|gS rfl rfl<|sM rfl<|sE (rI (a0.length:Int)) (fB _ _)<|sM rfl<|sE (rI (a1.length:Int)) (fB _ _)<|sV (rI (rW ((a0.length:Int)+(a1.length:Int))))<|bE h fun x1 hx1 h=>WO.mkS (g:=(PD.int .i64)) hx1 rfl rfl rfl rfl rfl rfl rfl rfl rfl rfl rfl<|sA rfl<|sN<|qS ?_
 refine gS rfl rfl<|sM rfl<|sE (rI (a0.length:Int)) (fB _ _)<|sV (r0)<|sN<|bE h fun o27 ho27 h=>WC.block (WC.loop (WL.gE ho27 (fun s R' B'=>b8 prog 0 (A R' B') (aB.at_ 386 0 3)=some (A [(1,rL a1),(5,.ref 240 0),(16,rL a0),(17,rI (a0.length:Int)),(18,rI s.1)] [(240,.arr 0 3 (s.2.map (PD.int .i64)))])) (fun o e R' B'=>e= .exit 0∧b8 prog 0 (A R' B') (aB.at_ 386 0 15)=some (A [(5,.ref 240 0)] [(240,.arr 0 3 (o.map (PD.int .i64)))])) rfl ?_ ?_))
 ·rintro⟨s2,s3⟩ R' B' q5 hI h
  refine gS rfl hI<|sF h (fun h=>?_) fun h=>?_
  ·refine sN<|qS<|cT<|qK<|qS<|qB<|gS rfl rfl<|sM rfl<|bE h fun x7 hx7 h=>eG hx7 rfl<|sC rfl<|sA rfl<|sA rfl<|sN<|gS rfl rfl ?_
   refine sV (r0)<|sN<|gS rfl rfl<|sM rfl<|sE (rI (a1.length:Int)) (fB _ _)<|sV (rI (rW ((a1.length:Int)+(1:Int))))<|sV (r0)<|sN<|bE h fun o25 ho25 h=>WC.block (WC.loop (WL.gE ho25 (fun s R' B'=>b8 prog 0 (A R' B') (aB.at_ 386 0 7)=some (A [(1,rL a1),(5,.ref 240 0),(6,rI s2),(7,rI x7),(8,rI s.1),(16,rL a0),(17,rI (a0.length:Int)),(18,rI s2),(25,rI (rW ((a1.length:Int)+(1:Int)))),(26,rI s.2.1)] [(240,.arr 0 3 (s.2.2.map (PD.int .i64)))])) (fun o e R' B'=>e= .exit 2∧b8 prog 0 (A R' B') (aB.at_ 386 0 14)=some (A [(1,rL a1),(5,.ref 240 0),(16,rL a0),(17,rI (a0.length:Int)),(18,rI o.1)] [(240,.arr 0 3 (o.2.map (PD.int .i64)))])) rfl ?_ ?_))
   ·rintro⟨s8,s9,s10⟩ R' B' q13 hI h
    refine gS rfl hI<|sF h (fun h=>?_) fun h=>?_
    ·refine sN<|qS<|cT<|qK<|qS<|qB<|gS rfl rfl<|sM rfl<|sA rfl<|sN<|gS rfl rfl<|sM rfl<|sM rfl<|sV (rI (rW (s2+s9)))<|sM rfl ?_
     refine WO.uT rfl rfl rfl rfl rfl rfl rfl rfl rfl<|sF h (fun h=>?_) fun h=>?_
     ·refine sN<|cT<|WC.cI rfl rfl<|sM rfl<|sM rfl<|sM rfl<|sM rfl<|sV (rI (rW (s2+s9)))<|bE h fun x17 hx17 h=>WO.p8 hx17 rfl rfl rfl rfl rfl rfl rfl rfl<|bE h fun x18 hx18 h=>WO.pJ hx18 rfl rfl rfl rfl rfl rfl<|sM rfl<|sM rfl<|sM rfl ?_
      refine bE h fun x19 hx19 h=>cD (oM hx19)<|sV (rI (rW (x7*x19)))<|sV (rI (rW (x18+(rW (x7*x19)))))<|sV (rI (rW (s8+(rW (x18+(rW (x7*x19)))))))<|sA rfl ?_
      refine sN<|sO<|gS rfl rfl<|sM rfl<|sM rfl<|sM rfl<|sV (rI (rW (s2+s9)))<|sM rfl<|bE h fun x20 hx20 h=>WO.remG hx20 rfl rfl rfl rfl rfl rfl<|bE h fun x22 hx22 h=>WO.p8 hx22 rfl rfl rfl rfl rfl rfl rfl rfl<|bE h fun x23 hx23 h=>WO.ss (g:=(PD.int .i64)) (sz:=1) (p:= .int .i64 x20) hx23 (fun _=>rfl) (fun _=>rfl) rfl rfl rfl rfl rfl rfl rfl rfl rfl<|sN<|WC.region rfl rfl ?_
      refine sM rfl<|sV (rI (mu .i64 (rW (s8+(rW (x18+(rW (x7*x19)))))) (30:Int)))<|sA rfl<|sN<|WC.region rfl rfl<|sV (rI (rW (s9+(1:Int))))<|sM rfl<|sN ?_
      cases oI h
      exact⟨rfl,rfl⟩
     refine sN<|cF<|qK<|WC.region rfl rfl<|sV (rI (rW (s9+(1:Int))))<|sM rfl<|sN ?_
     cases oI h
     exact⟨rfl,rfl⟩
    refine sN<|qS<|cF<|qX ?_
    cases oI h
    exact⟨nofun,rfl,rfl⟩
   intro e R' B' he hq
   obtain⟨rfl,hI⟩:=hq
   refine qE<|WC.region hI rfl<|sV (rI (rW (o25.1+(1:Int))))<|sM rfl<|sN ?_
   cases oI h
   exact⟨rfl,rfl⟩
  refine sN<|qS<|cF<|qX ?_
  cases oI h
  exact⟨nofun,rfl,rfl⟩
 intro e R' B' he hq
 obtain⟨rfl,hI⟩:=hq
 refine qE<|gS rfl hI<|sM rfl<|bE h fun x28 hx28 h=>cR (rL x28) [(240,.dead)] (nat_trim_ev hx28)<|sA rfl<|sN<|qR ?_
 exact oI h▸qD
theorem kY{a0:(List Int)}{r:(List Int)×Int}(h:ja a0=some r):EvP prog aB ext 385 [rL a0] [] (.tup [rL r.1,rI r.2],[]):=by
 refine Ev.body rfl Tryz.func385 rfl (by kernel_rfl)<|gS rfl rfl<|sV .dg<|sV (r0)<|sN<|qS<|gS rfl rfl<|sM rfl<|bE h fun x1 hx1 h=>cD (nat_trim_ev hx1)<|sA rfl<|sN<|gS rfl rfl<|sM rfl<|sE (rI (x1.length:Int)) (fB _ _) ?_
 refine sF h (fun h=>?_) fun h=>?_
 ·refine sN<|cT<|gS rfl rfl<|sV .dg<|sV (rI 8)<|sN<|qR ?_
  exact oI h▸qD
 refine sN<|cF<|qK<|gS rfl rfl<|sM rfl<|sA rfl<|sV (r0)<|sN<|qR ?_
 exact oI h▸qD
theorem nat_Mul_ev{a0:(List Int)}{a1:(List Int)}{r:(List Int)×Int}(h:nat_Mul a0 a1=some r):EvP prog aB ext 407 [rL a0,rL a1] [] (.tup [rL r.1,rI r.2],[]):=by
 refine Ev.body rfl Tryz.func407 rfl (by kernel_rfl)<|gS rfl rfl<|sV .dg<|sV (r0)<|sN<|qS<|gS rfl rfl<|sM rfl<|sM rfl<|bE h fun x1 hx1 h=>cD (nat_both_ev hx1)<|sF h (fun h=>?_) fun h=>?_
 ·refine sN<|cT<|gS rfl rfl<|sV .dg<|sV (rI 1)<|sN<|qR ?_
  exact oI h▸qD
 refine sN<|cF<|qK<|gS rfl rfl<|sM rfl<|sM rfl<|bE h fun x3 hx3 h=>cD (mg hx3)<|bE h fun x4 hx4 h=>cR (.tup [rL x4.1,rI x4.2]) [] (kY hx4)<|sV (rL x4.1)<|sV (rI x4.2)<|sA rfl<|sA rfl<|sN ?_
 refine qR ?_
 exact oI h▸qD
theorem dZ{a0:Int}{r:(List Int)}(h:dv a0=some r):EvP prog aB ext 381 [rI a0] [] (rL r,[]):=by
 refine Ev.body rfl Tryz.func381 rfl (by kernel_rfl)<|gS rfl rfl<|sV .dg<|sN<|gS rfl rfl<|sM rfl<|sM rfl<|sV (rI (rW (0-a0)))<|sV (rI (if(rW (0-a0))>a0 then(rW (0-a0))else a0))<|bE h fun x1 hx1 h=>cR (.tup [rL x1.1,rI x1.2]) [] (nat_From_ev hx1)<|sM rfl<|sV (rL x1.1)<|sV (rI x1.2)<|sA rfl ?_
 refine sA rfl<|sN<|gS rfl rfl<|sM rfl<|sM rfl<|bE h fun x2 hx2 h=>cR (.tup [rL x2.1,rI x2.2]) [] (nat_Mul_ev hx2)<|sM rfl<|sV (rL x2.1)<|sV (rI x2.2)<|sA rfl<|sA rfl<|sN<|gS rfl rfl<|sM rfl ?_
 refine sA rfl<|sN<|qR ?_
 exact oI h▸qD
theorem nat_Add_ev{a0:(List Int)}{a1:(List Int)}{r:(List Int)×Int}(h:nat_Add a0 a1=some r):EvP prog aB ext 408 [rL a0,rL a1] [] (.tup [rL r.1,rI r.2],[]):=by
 refine Ev.body rfl Tryz.func408 rfl (by kernel_rfl)<|gS rfl rfl<|sV .dg<|sV (r0)<|sN<|qS<|gS rfl rfl<|sM rfl<|sM rfl<|bE h fun x1 hx1 h=>cD (nat_both_ev hx1)<|sF h (fun h=>?_) fun h=>?_
 ·refine sN<|cT<|gS rfl rfl<|sV .dg<|sV (rI 1)<|sN<|qR ?_
  exact oI h▸qD
 refine sN<|cF<|qK<|gS rfl rfl<|sV .dg<|sN<|gS rfl rfl<|sV (r0)<|sN<|qS<|gS rfl rfl<|sM rfl<|sE (rI (a0.length:Int)) (fB _ _)<|sM rfl<|sE (rI (a1.length:Int)) (fB _ _) ?_
 refine sV (rI (if(a1.length:Int)>(a0.length:Int)then(a1.length:Int)else(a0.length:Int)))<|sV (rI (rW ((if(a1.length:Int)>(a0.length:Int)then(a1.length:Int)else(a0.length:Int))+(1:Int))))<|sV (r0)<|sN<|bE h fun o14 ho14 h=>WC.block (WC.loop (WL.gE ho14 (fun s R' B'=>b8 prog 0 (A R' B') (aB.at_ 408 0 6)=some (A [(0,rL a0),(1,rL a1),(6,.ref 560 0),(7,rI s.1),(18,rI (rW ((if(a1.length:Int)>(a0.length:Int)then(a1.length:Int)else(a0.length:Int))+(1:Int)))),(19,rI s.2.1)] [(560,.arr 0 3 (s.2.2.map (PD.int .i64)))])) (fun o e R' B'=>e= .exit 0∧b8 prog 0 (A R' B') (aB.at_ 408 0 12)=some (A [(6,.ref 560 0)] [(560,.arr 0 3 (o.map (PD.int .i64)))])) rfl ?_ ?_))
 ·rintro⟨s3,s4,s5⟩ R' B' q7 hI h
  refine gS rfl hI<|sF h (fun h=>?_) fun h=>?_
  ·refine sN<|qS<|cT<|qK<|qS<|qB<|gS rfl rfl<|sM rfl<|sA rfl<|sN<|gS rfl rfl<|sM rfl<|sM rfl<|sM rfl<|bE h fun x9 hx9 h=>?_
   refine cD (oM hx9)<|sM rfl<|sM rfl<|bE h fun x10 hx10 h=>cD (oM hx10)<|sV (rI (rW (x9+x10)))<|sV (rI (rW (s3+(rW (x9+x10)))))<|sA rfl<|sN<|gS rfl rfl<|sM rfl<|sM rfl<|bE h fun x11 hx11 h=>WO.remG hx11 rfl rfl rfl rfl rfl rfl<|sV (.d (.lst ([x11].map (PD.int .i64)))) ?_
   refine bE h fun x12 hx12 h=>aR hx12 (fun _=>rfl) rfl<|sA rfl<|sN<|WC.region rfl rfl<|sM rfl<|sV (rI (mu .i64 (rW (s3+(rW (x9+x10)))) (30:Int)))<|sA rfl<|sN<|WC.region rfl rfl<|sV (rI (rW (s4+(1:Int))))<|sM rfl<|sN ?_
   cases oI h
   exact⟨rfl,rfl⟩
  refine sN<|qS<|cF<|qX ?_
  cases oI h
  exact⟨nofun,rfl,rfl⟩
 intro e R' B' he hq
 obtain⟨rfl,hI⟩:=hq
 refine qE<|gS rfl hI<|sM rfl<|bE h fun x15 hx15 h=>cR (.tup [rL x15.1,rI x15.2]) [(560,.dead)] (kY hx15)<|sV (rL x15.1)<|sV (rI x15.2)<|sA rfl<|sA rfl<|sN<|qR ?_
 exact oI h▸qD
theorem mA{a0:aU}{a1:Int}{a2:Int}{r:(List Int)}(h:gF a0 a1 a2=some r):EvP prog aB ext 382 [.d (aU.pd a0),rI a1,rI a2] [] (rL r,[]):=by
 refine Ev.body rfl Tryz.func382 rfl (by kernel_rfl)<|gS rfl rfl<|sB (.ptr 48 0) 48 (.var [rI a0.a0,rI a0.a1,rI a0.a2])<|sV .dg<|sN<|WC.cI rfl rfl<|sV (.ptr 48 0)<|sL rfl<|sM rfl<|sV (rI (rW (a0.a0*a2)))<|sM rfl<|sV (rI (rW ((rW (a0.a0*a2))*a2)))<|sV (.ptr 48 2)<|sL rfl<|sM rfl ?_
 refine sV (rI (rW (a0.a2*a1)))<|sM rfl<|sV (rI (rW ((rW (a0.a2*a1))*a1)))<|sV (rI (rW ((rW ((rW (a0.a0*a2))*a2))-(rW ((rW (a0.a2*a1))*a1)))))<|bE h fun x1 hx1 h=>cD (dZ hx1)<|sV (.ptr 48 1)<|sL rfl<|sM rfl<|sV (rI (rW (a0.a1*a1)))<|sM rfl<|sV (rI (rW ((rW (a0.a1*a1))*a2)))<|bE h fun x2 hx2 h=>cD (dZ hx2)<|bE h fun x3 hx3 h=>?_
 refine cR (.tup [rL x3.1,rI x3.2]) [] (nat_Add_ev hx3)<|sM rfl<|sV (rL x3.1)<|sV (rI x3.2)<|sA rfl<|sA rfl ?_
 refine sN<|sO<|gS rfl rfl<|sM rfl<|sA rfl<|sN<|qR ?_
 exact oI h▸qD
theorem response_gain_ev{a0:aH}{a1:Int}{a2:Int}{r:aQ×Bool}(h:lR a0 a1 a2=some r):EvP prog aB ext 336 [.d (aH.pd a0),rI a1,rI a2] [] (.tup [.d (aQ.pd r.1),rB r.2],[]):=by
 refine Ev.body rfl Tryz.func336 rfl (by kernel_rfl)<|gS rfl rfl<|sB (.ptr 48 0) 48 (.var (aH.rc a0))<|sB (.ptr 96 0) 96 (.var [.dg,.dg])<|sU<|sN<|qS<|gS rfl rfl<|sV (.ptr 48 0)<|sL rfl<|sN<|qB<|gS rfl rfl<|sF h (fun h=>?_) fun h=>?_
 ·refine sA rfl<|sN<|cT<|WC.cI rfl rfl<|sV (.ptr 48 1)<|sV (.ptr 48 1)<|sL rfl<|bE h fun x2 hx2 h=>cD (dZ hx2)<|sV (.ptr 48 4)<|sV (.ptr 48 4)<|sL rfl<|bE h fun x3 hx3 h=>cD (dZ hx3)<|sV (.d (.agg [.lst (x2.map (PD.int .i64)),.lst (x3.map (PD.int .i64))])) ?_
  refine sS 96 (.var [rL x2,rL x3])<|sT ?_
  refine sN<|sO<|qR ?_
  cases oI h
  exact qG
 refine sA rfl<|sN<|cF<|gS rfl rfl<|sF h (fun h=>?_) fun h=>?_
 ·refine sA rfl<|sN<|cT<|WC.cI rfl rfl<|sV (.ptr 48 1)<|sV (.d (aU.pd a0.bn))<|sM rfl<|sM rfl<|bE h fun x5 hx5 h=>cD (mA hx5)<|sV (.ptr 48 4)<|sV (.d (aU.pd a0.bg))<|sM rfl<|sM rfl<|bE h fun x6 hx6 h=>?_
  refine cD (mA hx6)<|sV (.d (.agg [.lst (x5.map (PD.int .i64)),.lst (x6.map (PD.int .i64))]))<|sB (.ptr 128 0) 128 (.var [.dg,.dg])<|sS 128 (.var [rL x5,rL x6]) ?_
  refine sN<|sO<|WC.cI rfl rfl<|sV (.d (.agg [.lst (x5.map (PD.int .i64)),.lst (x6.map (PD.int .i64))]))<|sV (.ptr 128 1)<|sL rfl<|sE (rI (x6.length:Int)) (fB _ _)<|sV (rB (decide ((x6.length:Int)>(0:Int))))<|sS 96 (.var [rL x5,rL x6])<|sA rfl ?_
  refine sN<|sO<|qR ?_
  cases oI h
  exact qG
 refine sA rfl<|sN<|cF<|qK<|WC.cI rfl rfl<|sV (.ptr 48 7)<|sL rfl<|bE h fun x7 hx7 h=>cD (kb hx7)<|bE h fun x8 hx8 h=>cD (dZ hx8)<|sV (.ptr 48 9)<|sL rfl<|bE h fun x9 hx9 h=>WO.shlG hx9 rfl rfl rfl rfl rfl ?_
 refine bE h fun x10 hx10 h=>cD (dZ hx10)<|sV (.d (.agg [.lst (x8.map (PD.int .i64)),.lst (x10.map (PD.int .i64))]))<|sS 96 (.var [rL x8,rL x10])<|sT ?_
 refine sN<|sO<|qR ?_
 cases oI h
 exact qG
theorem lY{a0:aQ}{r:Bool}(h:fS a0=some r):EvP prog aB ext 384 [.d (aQ.pd a0)] [] (rB r,[]):=by
 refine Ev.body rfl Tryz.func384 rfl (by kernel_rfl)<|gS rfl rfl<|sB (.ptr 16 0) 16 (.var (aQ.rc a0))<|sU<|sN<|gS rfl rfl<|sV (.ptr 16 0)<|sL rfl<|bE h fun x1 hx1 h=>nX h (fun hb2 h=>?_) (fun hb2 h=>?_)
 ·refine WO.qA (v:=rB true) (u:=[]) rfl rfl (fun _=>rfl) rfl rfl rfl rfl rfl (hJ hx1) rfl rfl (congrArg (fun b=>RV.d (.bool b)) hb2) rfl<|sM rfl<|sV (.ptr 16 1)<|sL rfl<|bE h fun x3 hx3 h=>cD (hJ hx3)<|sF h (fun h=>?_) fun h=>?_
  ·refine sM rfl<|sV (.ptr 16 1)<|sL rfl<|sE (rI (a0.bg.length:Int)) (fB _ _)<|sV (rB (decide ((a0.bg.length:Int)>(0:Int))))<|sV (rB (decide ((a0.bg.length:Int)>(0:Int))))<|sA rfl<|sN<|qR ?_
   exact oI h▸qD
  refine sM rfl<|k3<|sK<|sU<|sA rfl<|sN<|qR ?_
  exact oI h▸qD
 refine WO.qA (v:=rB false) (u:=[]) rfl rfl (fun _=>rfl) rfl rfl rfl rfl rfl (hJ hx1) rfl rfl (congrArg (fun b=>RV.d (.bool b)) hb2) rfl<|sM rfl<|k3<|sU<|sM rfl<|k3<|sK<|sU<|sA rfl<|sN<|qR ?_
 exact oI h▸qD
theorem nat_Times_ev{a0:aQ}{a1:aQ}{r:aQ×Int}(h:qk a0 a1=some r):EvP prog aB ext 337 [.d (aQ.pd a0),.d (aQ.pd a1)] [] (.tup [.d (aQ.pd r.1),rI r.2],[]):=by
 refine Ev.body rfl Tryz.func337 rfl (by kernel_rfl)<|gS rfl rfl<|sB (.ptr 32 0) 32 (.var (aQ.rc a0))<|sB (.ptr 48 0) 48 (.var (aQ.rc a1))<|sB (.ptr 64 0) 64 (.var [.dg,.dg])<|sV (r0)<|sN<|qS<|gS rfl rfl<|sV (.d (aQ.pd a0))<|bE h fun x1 hx1 h=>cD (lY hx1)<|sF h (fun h=>?_) fun h=>?_
 ·refine sM rfl<|k3<|sT<|sN<|cT<|gS rfl rfl<|sV (.agg [.dg,.dg])<|sS 64 (.var [.dg,.dg])<|sV (rI 1)<|sN<|qR ?_
  exact oI h▸qD
 refine sM rfl<|sV (.d (aQ.pd a1))<|bE h fun x3 hx3 h=>cD (lY hx3)<|sV (rB (!x3))<|sF h (fun h=>?_) fun h=>?_
 ·refine sN<|cT<|gS rfl rfl<|sV (.agg [.dg,.dg])<|sS 64 (.var [.dg,.dg])<|sV (rI 1)<|sN<|qR ?_
  exact oI h▸qD
 refine sN<|cF<|qK<|gS rfl rfl<|sV (.ptr 32 0)<|sL rfl<|sV (.ptr 48 0)<|sL rfl<|bE h fun x5 hx5 h=>cD (mg hx5)<|bE h fun x6 hx6 h=>cR (.tup [rL x6.1,rI x6.2]) [] (kY hx6)<|sM rfl<|sV (rL x6.1)<|sV (rI x6.2) ?_
 refine sA rfl<|sA rfl<|sN<|gS rfl rfl<|sV (.ptr 32 1)<|sL rfl<|sV (.ptr 48 1)<|sL rfl<|bE h fun x7 hx7 h=>cD (mg hx7)<|bE h fun x8 hx8 h=>cR (.tup [rL x8.1,rI x8.2]) [] (kY hx8)<|sM rfl<|sV (rL x8.1)<|sV (rI x8.2) ?_
 refine sA rfl<|sA rfl<|sN<|qS<|gS rfl rfl<|sM rfl<|sF h (fun h=>?_) fun h=>?_
 ·refine sM rfl<|sK<|sK<|sT<|sN<|cT<|gS rfl rfl<|sV (.agg [.dg,.dg])<|sS 64 (.var [.dg,.dg])<|sV (rI 8)<|sN<|qR ?_
  exact oI h▸qD
 refine sM rfl<|sM rfl<|sV (rB (x8.2 != (0:Int)))<|sF h (fun h=>?_) fun h=>?_
 ·refine sN<|cT<|gS rfl rfl<|sV (.agg [.dg,.dg])<|sS 64 (.var [.dg,.dg])<|sV (rI 8)<|sN<|qR ?_
  exact oI h▸qD
 refine sN<|cF<|qK<|gS rfl rfl<|sM rfl<|sM rfl<|sV (.d (.agg [.lst (x6.1.map (PD.int .i64)),.lst (x8.1.map (PD.int .i64))]))<|sS 64 (.var [rL x6.1,rL x8.1])<|sV (r0)<|sN<|qR ?_
 exact oI h▸qD
theorem response_Gain_ev{a0:aO}{a1:Int}{a2:Int}{r:aQ×Int}(h:lQ a0 a1 a2=some r):EvP prog aB ext 273 [.d (aO.pd a0),rI a1,rI a2] [] (.tup [.d (aQ.pd r.1),rI r.2],[]):=by
 refine Ev.body rfl Tryz.func273 rfl (by kernel_rfl)<|gS rfl rfl<|sB (.ptr 48 0) 48 (.var [rM aH.pd a0.bt])<|sB (.ptr 96 0) 96 (.var [.dg,.dg])<|sV (r0)<|sN<|qS<|gS rfl rfl<|sV (.d (aO.pd a0))<|bE h fun x1 hx1 h=>cD (nG hx1)<|sF h (fun h=>?_) fun h=>?_
 ·refine sN<|cT<|gS rfl rfl<|sV (.agg [.dg,.dg])<|sS 96 (.var [.dg,.dg])<|sV (rI 1)<|sN<|qR ?_
  exact oI h▸qD
 refine sN<|cF<|qK<|qS<|gS rfl rfl<|sM rfl<|bE h fun x3 hx3 h=>cD (cn hx3)<|sF h (fun h=>?_) fun h=>?_
 ·refine sM rfl<|k3<|sT<|sN<|cT<|gS rfl rfl<|sV (.agg [.dg,.dg])<|sS 96 (.var [.dg,.dg])<|sV (rI 2)<|sN<|qR ?_
  exact oI h▸qD
 refine sM rfl<|sM rfl<|bE h fun x5 hx5 h=>cD (cn hx5)<|sV (rB (!x5))<|sF h (fun h=>?_) fun h=>?_
 ·refine sN<|cT<|gS rfl rfl<|sV (.agg [.dg,.dg])<|sS 96 (.var [.dg,.dg])<|sV (rI 2)<|sN<|qR ?_
  exact oI h▸qD
 refine sN<|cF<|qK<|gS rfl rfl<|sV (.d (.lst ([1].map (PD.int .i64))))<|sV (.d (.lst ([1].map (PD.int .i64))))<|sV (.d (.agg [.lst ([1].map (PD.int .i64)),.lst ([1].map (PD.int .i64))]))<|sB (.ptr 128 0) 128 (.var [.dg,.dg])<|sS 128 (.var [.d (.lst ([1].map (PD.int .i64))),.d (.lst ([1].map (PD.int .i64)))])<|sN<|qS<|gS rfl rfl<|sV (.ptr 48 0)<|sL rfl<|sE (rI (a0.bt.length:Int)) (fB _ _) ?_
 refine sV (r0)<|sN<|bE h fun o20 ho20 h=>WC.block (WC.loop (WL.gE ho20 (fun s R' B'=>b8 prog 0 (A R' B') (aB.at_ 273 0 7)=some (A [(1,rI a1),(2,rI a2),(6,.ptr 96 0),(8,.ptr 128 0),(31,rM aH.pd a0.bt),(32,rI (a0.bt.length:Int)),(33,rI s.1)] [(96,.var [.dg,.dg]),(128,.var [rL s.2.1,rL s.2.2])])) (fun o e R' B'=>match o with| .inl y=>e= .exit 0∧b8 prog 0 (A R' B') (aB.at_ 273 0 17)=some (A [(6,.ptr 96 0),(8,.ptr 128 0)] [(96,.var [.dg,.dg]),(128,.var [rL y.1,rL y.2])])| .inr r=>e= .ret∧finish prog (aB.own 273) Tryz.f273 0 (A R' B')=some (.tup [.d (aQ.pd r.1),rI r.2],[])) rfl ?_ ?_))
 ·rintro⟨s7,s8,s9⟩ R' B' q12 hI h
  refine gS rfl hI<|sF h (fun h=>?_) fun h=>?_
  ·refine sN<|qS<|cT<|qK<|qS<|qB<|gS rfl rfl<|bE h fun x14 hx14 h=>eG hx14 rfl<|sV (.d (aH.pd x14))<|sB (.ptr 160 0) 160 (.var [r0,r0,r0,r0,r0,r0,r0,.dg,r0,r0])<|sH 160 (.var (aH.rc x14))<|sN<|gS rfl rfl<|sV (.d (aH.pd x14)) ?_
   refine sM rfl<|sM rfl<|bE h fun x15 hx15 h=>cR (.tup [.d (aQ.pd x15.1),rB x15.2]) [] (response_gain_ev hx15)<|sM rfl<|sV (.d (aQ.pd x15.1))<|sV (rB x15.2)<|sB (.ptr 176 0) 176 (.var [.dg,.dg])<|sS 176 (.var (aQ.rc x15.1))<|sA rfl<|sN<|qS<|gS rfl rfl<|sM rfl<|sF h (fun h=>?_) fun h=>?_
   ·refine sN<|cT<|gS rfl rfl<|sV (.agg [.dg,.dg])<|sS 96 (.var [.dg,.dg])<|sV (rI 11)<|sN<|qR ?_
    cases oI h
    exact⟨nofun,rfl,rfl⟩
   refine sN<|cF<|qK<|gS rfl rfl<|sV (r0)<|sN<|gS rfl rfl<|sV (.d (aQ.pd (aQ.mk s8 s9)))<|sV (.d (aQ.pd x15.1))<|bE h fun x17 hx17 h=>cR (.tup [.d (aQ.pd x17.1),rI x17.2]) [] (nat_Times_ev hx17)<|sM rfl<|sV (.d (aQ.pd x17.1))<|sV (rI x17.2)<|sS 128 (.var (aQ.rc x17.1)) ?_
   refine sA rfl<|sN<|gS rfl rfl<|sM rfl<|sF h (fun h=>?_) fun h=>?_
   ·refine sN<|cT<|gS rfl rfl<|sV (.agg [.dg,.dg])<|sM rfl<|sS 96 (.var [.dg,.dg])<|sA rfl<|sN<|qR ?_
    cases oI h
    exact⟨nofun,rfl,rfl⟩
   refine sN<|cF<|qK<|WC.region rfl rfl<|sV (rI (rW (s7+(1:Int))))<|sM rfl<|sN ?_
   cases oI h
   exact⟨rfl,rfl⟩
  refine sN<|qS<|cF<|qX ?_
  cases oI h
  exact⟨nofun,rfl,rfl⟩
 intro e R' B' he hq
 rcases o20 with y21|r22
 ·obtain⟨rfl,hI⟩:=hq
  refine qE<|gS rfl hI<|sV (.d (aQ.pd (aQ.mk y21.1 y21.2)))<|sS 96 (.var [rL y21.1,rL y21.2])<|sV (r0)<|sN<|qR ?_
  exact oI h▸qD
 obtain⟨rfl,hf⟩:=hq
 cases oI h
 exact hf
theorem my{a0:Int}{a1:Int}{r:Int}(h:gA a0 a1=some r):EvP prog aB ext 339 [rI a0,rI a1] [] (rI r,[]):=by
 refine Ev.body rfl Tryz.func339 rfl (by kernel_rfl)<|gS rfl rfl<|sV (r0)<|sN<|gS rfl rfl<|sV (r0)<|sN<|qS<|gS rfl rfl<|sV (r0)<|sN<|WC.block (WC.loop ?_)
 refine WL.round<|gS rfl rfl<|sT<|sN<|qS<|cT<|qK<|WC.join (α:=Int×Int) (fun x R' B'=>b8 prog 0 (A R' B') (aB.at_ 339 0 9)=some (A [(0,rI a0),(1,rI x.1),(5,rI x.2),(6,r0)] [])) (fun x=>ex a0 x.1 x.2=some r) ?_ ?_
 ·refine qB<|gS rfl rfl<|sM rfl<|sM rfl<|sV (rI (rW (a1*a1)))<|sV (rI (mu .i64 (rW (a1*a1)) (30:Int)))<|sA rfl<|sN<|gS rfl rfl<|sM rfl<|sV (r0)<|sA rfl<|sN<|gS rfl rfl<|sM rfl ?_
  refine sF h (fun h=>?_) fun h=>?_
  ·exact sN<|cT<|gS rfl rfl<|sM rfl<|bE h fun x40 hx40 h=>WO.uW hx40 rfl rfl rfl rfl rfl rfl<|sA rfl<|sN<|WC.region rfl rfl<|sM rfl<|sV (rI 1)<|sA rfl<|sN<|⟨(x40,1),rfl,h⟩
  exact sN<|cF<|qK<|⟨((mu .i64 (rW (a1*a1)) (30:Int)),0),rfl,h⟩
 rintro⟨j1,j2⟩ R' B' hI h
 refine WC.region hI rfl<|sV (rI 1)<|sM rfl<|sN<|WL.round<|gS rfl rfl<|sT<|sN<|qS<|cT<|qK<|WC.join (α:=Int×Int) (fun x R' B'=>b8 prog 0 (A R' B') (aB.at_ 339 0 9)=some (A [(0,rI a0),(1,rI x.1),(5,rI x.2),(6,rI 1)] [])) (fun x=>ew a0 x.1 x.2=some r) ?_ ?_
 ·refine qB<|gS rfl rfl<|sM rfl<|sM rfl<|sV (rI (rW (j1*j1)))<|sV (rI (mu .i64 (rW (j1*j1)) (30:Int)))<|sA rfl<|sN<|gS rfl rfl<|sM rfl<|sV (rI (rW (j2*(2:Int))))<|sA rfl<|sN<|gS rfl rfl<|sM rfl ?_
  refine sF h (fun h=>?_) fun h=>?_
  ·exact sN<|cT<|gS rfl rfl<|sM rfl<|bE h fun x37 hx37 h=>WO.uW hx37 rfl rfl rfl rfl rfl rfl<|sA rfl<|sN<|WC.region rfl rfl<|sM rfl<|sV (rI (rW ((rW (j2*(2:Int)))+(1:Int))))<|sA rfl<|sN<|⟨(x37,(rW ((rW (j2*(2:Int)))+(1:Int)))),rfl,h⟩
  exact sN<|cF<|qK<|⟨((mu .i64 (rW (j1*j1)) (30:Int)),(rW (j2*(2:Int)))),rfl,h⟩
 rintro⟨j3,j4⟩ R' B' hI h
 refine WC.region hI rfl<|sV (rI 2)<|sM rfl<|sN<|WL.round<|gS rfl rfl<|sT<|sN<|qS<|cT<|qK<|WC.join (α:=Int×Int) (fun x R' B'=>b8 prog 0 (A R' B') (aB.at_ 339 0 9)=some (A [(0,rI a0),(1,rI x.1),(5,rI x.2),(6,rI 2)] [])) (fun x=>ev a0 x.1 x.2=some r) ?_ ?_
 ·refine qB<|gS rfl rfl<|sM rfl<|sM rfl<|sV (rI (rW (j3*j3)))<|sV (rI (mu .i64 (rW (j3*j3)) (30:Int)))<|sA rfl<|sN<|gS rfl rfl<|sM rfl<|sV (rI (rW (j4*(2:Int))))<|sA rfl<|sN<|gS rfl rfl<|sM rfl ?_
  refine sF h (fun h=>?_) fun h=>?_
  ·exact sN<|cT<|gS rfl rfl<|sM rfl<|bE h fun x34 hx34 h=>WO.uW hx34 rfl rfl rfl rfl rfl rfl<|sA rfl<|sN<|WC.region rfl rfl<|sM rfl<|sV (rI (rW ((rW (j4*(2:Int)))+(1:Int))))<|sA rfl<|sN<|⟨(x34,(rW ((rW (j4*(2:Int)))+(1:Int)))),rfl,h⟩
  exact sN<|cF<|qK<|⟨((mu .i64 (rW (j3*j3)) (30:Int)),(rW (j4*(2:Int)))),rfl,h⟩
 rintro⟨j5,j6⟩ R' B' hI h
 refine WC.region hI rfl<|sV (rI 3)<|sM rfl<|sN<|WL.round<|gS rfl rfl<|sT<|sN<|qS<|cT<|qK<|WC.join (α:=Int×Int) (fun x R' B'=>b8 prog 0 (A R' B') (aB.at_ 339 0 9)=some (A [(0,rI a0),(1,rI x.1),(5,rI x.2),(6,rI 3)] [])) (fun x=>eu a0 x.1 x.2=some r) ?_ ?_
 ·refine qB<|gS rfl rfl<|sM rfl<|sM rfl<|sV (rI (rW (j5*j5)))<|sV (rI (mu .i64 (rW (j5*j5)) (30:Int)))<|sA rfl<|sN<|gS rfl rfl<|sM rfl<|sV (rI (rW (j6*(2:Int))))<|sA rfl<|sN<|gS rfl rfl<|sM rfl ?_
  refine sF h (fun h=>?_) fun h=>?_
  ·exact sN<|cT<|gS rfl rfl<|sM rfl<|bE h fun x31 hx31 h=>WO.uW hx31 rfl rfl rfl rfl rfl rfl<|sA rfl<|sN<|WC.region rfl rfl<|sM rfl<|sV (rI (rW ((rW (j6*(2:Int)))+(1:Int))))<|sA rfl<|sN<|⟨(x31,(rW ((rW (j6*(2:Int)))+(1:Int)))),rfl,h⟩
  exact sN<|cF<|qK<|⟨((mu .i64 (rW (j5*j5)) (30:Int)),(rW (j6*(2:Int)))),rfl,h⟩
 rintro⟨j7,j8⟩ R' B' hI h
 refine WC.region hI rfl<|sV (rI 4)<|sM rfl<|sN<|WL.round<|gS rfl rfl<|sT<|sN<|qS<|cT<|qK<|WC.join (α:=Int×Int) (fun x R' B'=>b8 prog 0 (A R' B') (aB.at_ 339 0 9)=some (A [(0,rI a0),(1,rI x.1),(5,rI x.2),(6,rI 4)] [])) (fun x=>et a0 x.1 x.2=some r) ?_ ?_
 ·refine qB<|gS rfl rfl<|sM rfl<|sM rfl<|sV (rI (rW (j7*j7)))<|sV (rI (mu .i64 (rW (j7*j7)) (30:Int)))<|sA rfl<|sN<|gS rfl rfl<|sM rfl<|sV (rI (rW (j8*(2:Int))))<|sA rfl<|sN<|gS rfl rfl<|sM rfl ?_
  refine sF h (fun h=>?_) fun h=>?_
  ·exact sN<|cT<|gS rfl rfl<|sM rfl<|bE h fun x28 hx28 h=>WO.uW hx28 rfl rfl rfl rfl rfl rfl<|sA rfl<|sN<|WC.region rfl rfl<|sM rfl<|sV (rI (rW ((rW (j8*(2:Int)))+(1:Int))))<|sA rfl<|sN<|⟨(x28,(rW ((rW (j8*(2:Int)))+(1:Int)))),rfl,h⟩
  exact sN<|cF<|qK<|⟨((mu .i64 (rW (j7*j7)) (30:Int)),(rW (j8*(2:Int)))),rfl,h⟩
 rintro⟨j9,j10⟩ R' B' hI h
 refine WC.region hI rfl<|sV (rI 5)<|sM rfl<|sN<|WL.round<|gS rfl rfl<|sT<|sN<|qS<|cT<|qK<|WC.join (α:=Int×Int) (fun x R' B'=>b8 prog 0 (A R' B') (aB.at_ 339 0 9)=some (A [(0,rI a0),(1,rI x.1),(5,rI x.2),(6,rI 5)] [])) (fun x=>er a0 x.1 x.2=some r) ?_ ?_
 ·refine qB<|gS rfl rfl<|sM rfl<|sM rfl<|sV (rI (rW (j9*j9)))<|sV (rI (mu .i64 (rW (j9*j9)) (30:Int)))<|sA rfl<|sN<|gS rfl rfl<|sM rfl<|sV (rI (rW (j10*(2:Int))))<|sA rfl<|sN<|gS rfl rfl<|sM rfl ?_
  refine sF h (fun h=>?_) fun h=>?_
  ·exact sN<|cT<|gS rfl rfl<|sM rfl<|bE h fun x25 hx25 h=>WO.uW hx25 rfl rfl rfl rfl rfl rfl<|sA rfl<|sN<|WC.region rfl rfl<|sM rfl<|sV (rI (rW ((rW (j10*(2:Int)))+(1:Int))))<|sA rfl<|sN<|⟨(x25,(rW ((rW (j10*(2:Int)))+(1:Int)))),rfl,h⟩
  exact sN<|cF<|qK<|⟨((mu .i64 (rW (j9*j9)) (30:Int)),(rW (j10*(2:Int)))),rfl,h⟩
 rintro⟨j11,j12⟩ R' B' hI h
 refine WC.region hI rfl<|sV (rI 6)<|sM rfl<|sN<|WL.round<|gS rfl rfl<|sT<|sN<|qS<|cT<|qK<|WC.join (α:=Int×Int) (fun x R' B'=>b8 prog 0 (A R' B') (aB.at_ 339 0 9)=some (A [(0,rI a0),(1,rI x.1),(5,rI x.2),(6,rI 6)] [])) (fun x=>ep a0 x.1 x.2=some r) ?_ ?_
 ·refine qB<|gS rfl rfl<|sM rfl<|sM rfl<|sV (rI (rW (j11*j11)))<|sV (rI (mu .i64 (rW (j11*j11)) (30:Int)))<|sA rfl<|sN<|gS rfl rfl<|sM rfl<|sV (rI (rW (j12*(2:Int))))<|sA rfl<|sN<|gS rfl rfl<|sM rfl ?_
  refine sF h (fun h=>?_) fun h=>?_
  ·exact sN<|cT<|gS rfl rfl<|sM rfl<|bE h fun x22 hx22 h=>WO.uW hx22 rfl rfl rfl rfl rfl rfl<|sA rfl<|sN<|WC.region rfl rfl<|sM rfl<|sV (rI (rW ((rW (j12*(2:Int)))+(1:Int))))<|sA rfl<|sN<|⟨(x22,(rW ((rW (j12*(2:Int)))+(1:Int)))),rfl,h⟩
  exact sN<|cF<|qK<|⟨((mu .i64 (rW (j11*j11)) (30:Int)),(rW (j12*(2:Int)))),rfl,h⟩
 rintro⟨j13,j14⟩ R' B' hI h
 refine WC.region hI rfl<|sV (rI 7)<|sM rfl<|sN<|WL.round<|gS rfl rfl<|sT<|sN<|qS<|cT<|qK<|WC.join (α:=Int×Int) (fun x R' B'=>b8 prog 0 (A R' B') (aB.at_ 339 0 9)=some (A [(0,rI a0),(1,rI x.1),(5,rI x.2),(6,rI 7)] [])) (fun x=>eo a0 x.1 x.2=some r) ?_ ?_
 ·refine qB<|gS rfl rfl<|sM rfl<|sM rfl<|sV (rI (rW (j13*j13)))<|sV (rI (mu .i64 (rW (j13*j13)) (30:Int)))<|sA rfl<|sN<|gS rfl rfl<|sM rfl<|sV (rI (rW (j14*(2:Int))))<|sA rfl<|sN<|gS rfl rfl<|sM rfl ?_
  refine sF h (fun h=>?_) fun h=>?_
  ·exact sN<|cT<|gS rfl rfl<|sM rfl<|bE h fun x19 hx19 h=>WO.uW hx19 rfl rfl rfl rfl rfl rfl<|sA rfl<|sN<|WC.region rfl rfl<|sM rfl<|sV (rI (rW ((rW (j14*(2:Int)))+(1:Int))))<|sA rfl<|sN<|⟨(x19,(rW ((rW (j14*(2:Int)))+(1:Int)))),rfl,h⟩
  exact sN<|cF<|qK<|⟨((mu .i64 (rW (j13*j13)) (30:Int)),(rW (j14*(2:Int)))),rfl,h⟩
 rintro⟨j15,j16⟩ R' B' hI h
 refine WC.region hI rfl<|sV (rI 8)<|sM rfl<|sN<|WL.round<|gS rfl rfl<|sU<|sN<|qS<|cF<|qX<|qE<|gS rfl rfl<|sM rfl<|sV (rI (rW ((256:Int)*a0))) ?_
 refine sM rfl<|sV (rI (rW ((rW ((256:Int)*a0))+j16)))<|sA rfl<|sN<|qR ?_
 exact oI h▸qD
theorem ly{a0:Int}{r:Int×Int}(h:iB a0=some r):EvP prog aB ext 275 [rI a0] [] (.tup [rI r.1,rI r.2],[]):=by
 refine Ev.body rfl Tryz.func275 rfl (by kernel_rfl)<|gS rfl rfl<|sV (r0)<|sV (r0)<|sN<|qS<|gS rfl rfl<|sM rfl<|sF h (fun h=>?_) fun h=>?_
 ·refine sN<|cT<|gS rfl rfl<|sV (r0)<|sV (rI 2)<|sN<|qR ?_
  exact oI h▸qD
 refine sN<|cF<|qK<|gS rfl rfl<|sM rfl<|sV (.d (.int .u64 (IntKind.wrap .u64 a0)))<|bE h fun x2 hx2 h=>cD (nr hx2)<|sV (rI (rW (x2-(1:Int))))<|sA rfl<|sN<|qS<|gS rfl rfl<|sM rfl<|sF h (fun h=>?_) fun h=>?_
 ·refine sN<|cT<|gS rfl rfl<|sM rfl<|sM rfl<|sM rfl<|sV (rI (rW ((30:Int)-(rW (x2-(1:Int))))))<|bE h fun x4 hx4 h=>WO.shlG hx4 rfl rfl rfl rfl rfl<|bE h fun x5 hx5 h=>cD (my hx5)<|sA rfl<|sV (r0)<|sN<|qR ?_
  exact oI h▸qD
 refine sN<|cF<|qK<|gS rfl rfl<|sM rfl<|sM rfl<|sM rfl<|sV (rI (rW ((rW (x2-(1:Int)))-(30:Int))))<|bE h fun x6 hx6 h=>WO.shrG hx6 rfl rfl rfl rfl rfl<|bE h fun x7 hx7 h=>cD (my hx7)<|sA rfl<|sV (r0)<|sN ?_
 refine qR ?_
 exact oI h▸qD
theorem mw{a0:(List Int)}{r:Int×Int}(h:gz a0=some r):EvP prog aB ext 274 [rL a0] [] (.tup [rI r.1,rI r.2],[]):=by
 refine Ev.body rfl Tryz.func274 rfl (by kernel_rfl)<|gS rfl rfl<|sV (r0)<|sV (r0)<|sN<|qS<|gS rfl rfl<|sM rfl<|bE h fun x1 hx1 h=>cD (hJ hx1)<|sF h (fun h=>?_) fun h=>?_
 ·refine sN<|cT<|gS rfl rfl<|sV (r0)<|sV (rI 1)<|sN<|qR ?_
  exact oI h▸qD
 refine sN<|cF<|qK<|gS rfl rfl<|sM rfl<|sE (rI (a0.length:Int)) (fB _ _)<|sV (rI (rW ((a0.length:Int)-(1:Int))))<|sA rfl<|sN<|qS<|qB<|gS rfl rfl<|sM rfl<|sF h (fun h=>?_) fun h=>?_
 ·refine sA rfl<|sN<|cT<|gS rfl rfl<|sV (r0)<|sV (rI 2)<|sN<|qR ?_
  exact oI h▸qD
 refine sA rfl<|sN<|cF<|gS rfl rfl<|sM rfl<|sF h (fun h=>?_) fun h=>?_
 ·refine sA rfl<|sN<|cT<|gS rfl rfl<|sM rfl<|bE h fun x5 hx5 h=>eG hx5 rfl<|sC rfl<|bE h fun x6 hx6 h=>cR (.tup [rI x6.1,rI x6.2]) [] (ly hx6)<|sV (rI x6.1)<|sV (rI x6.2)<|sA rfl<|sA rfl<|sN ?_
  refine qR ?_
  exact oI h▸qD
 refine sA rfl<|sN<|cF<|qK<|WC.cI rfl rfl<|sM rfl<|sM rfl<|bE h fun x7 hx7 h=>eG hx7 rfl<|sC rfl<|sV (rI (shlI .i64 x7 (30:Int)))<|sM rfl<|sM rfl<|sV (rI (rW ((rW ((a0.length:Int)-(1:Int)))-(1:Int))))<|bE h fun x8 hx8 h=>?_
 refine eG hx8 rfl<|sC rfl<|sV (rI (orI .i64 (shlI .i64 x7 (30:Int)) x8))<|sA rfl ?_
 refine sN<|sO<|gS rfl rfl<|sM rfl<|bE h fun x9 hx9 h=>cR (.tup [rI x9.1,rI x9.2]) [] (ly hx9)<|sM rfl<|sV (rI x9.1)<|sV (rI x9.2)<|sA rfl<|sA rfl<|sN<|gS rfl rfl<|sM rfl<|sM rfl<|sV (rI (rW ((rW ((a0.length:Int)-(1:Int)))-(1:Int)))) ?_
 refine sV (rI (rW ((7680:Int)*(rW ((rW ((a0.length:Int)-(1:Int)))-(1:Int))))))<|sV (rI (rW (x9.1+(rW ((7680:Int)*(rW ((rW ((a0.length:Int)-(1:Int)))-(1:Int))))))))<|sM rfl<|sA rfl<|sA rfl<|sN<|qR ?_
 exact oI h▸qD
theorem qw{a0:bu}{a1:aO}{a2:Int}{r:Int×Int}(h:jw a0 a1 a2=some r):EvP prog aB ext 190 [.d (bu.pd a0),.d (aO.pd a1),rI a2] [] (.tup [rI r.1,rI r.2],[]):=by
 refine Ev.body rfl Tryz.func190 rfl (by kernel_rfl)<|gS rfl rfl<|sB (.ptr 48 0) 48 (.var (bu.rc a0))<|sB (.ptr 64 0) 64 (.var [rM aH.pd a1.bt])<|sV (r0)<|sV (r0)<|sN<|gS rfl rfl<|sV (.d (aO.pd a1))<|sV (.ptr 48 3)<|sL rfl<|sV (.ptr 48 4)<|sL rfl<|bE h fun x1 hx1 h=>cR (.tup [.d (aQ.pd x1.1),rI x1.2]) [] (response_Gain_ev hx1) ?_
 refine sM rfl<|sV (.d (aQ.pd x1.1))<|sV (rI x1.2)<|sB (.ptr 128 0) 128 (.var [.dg,.dg])<|sS 128 (.var (aQ.rc x1.1))<|sA rfl<|sN<|qS<|gS rfl rfl<|sM rfl<|sF h (fun h=>?_) fun h=>?_
 ·refine sN<|cT<|gS rfl rfl<|sM rfl<|sV (r0)<|sA rfl<|sN<|qR ?_
  exact oI h▸qD
 refine sN<|cF<|qK<|gS rfl rfl<|sV (.ptr 128 0)<|sL rfl<|bE h fun x3 hx3 h=>cR (.tup [rI x3.1,rI x3.2]) [] (mw hx3)<|sM rfl<|sV (rI x3.1)<|sV (rI x3.2)<|sA rfl<|sA rfl<|sN<|qS ?_
 refine gS rfl rfl<|sM rfl<|sF h (fun h=>?_) fun h=>?_
 ·refine sN<|cT<|gS rfl rfl<|sV (r0)<|sV (rI 24)<|sN<|qR ?_
  exact oI h▸qD
 refine sN<|cF<|qK<|gS rfl rfl<|sV (.ptr 128 1)<|sL rfl<|bE h fun x5 hx5 h=>cR (.tup [rI x5.1,rI x5.2]) [] (mw hx5)<|sM rfl<|sV (rI x5.1)<|sV (rI x5.2)<|sA rfl<|sA rfl<|sN<|qS ?_
 refine gS rfl rfl<|sM rfl<|sF h (fun h=>?_) fun h=>?_
 ·refine sN<|cT<|gS rfl rfl<|sM rfl<|sV (r0)<|sA rfl<|sN<|qR ?_
  exact oI h▸qD
 refine sN<|cF<|qK<|gS rfl rfl<|sM rfl<|bE h fun x7 hx7 h=>cR (.tup [rI x7.1,rI x7.2]) [] (ly hx7)<|sM rfl<|sV (rI x7.1)<|sV (rI x7.2)<|sA rfl<|sA rfl<|sN<|gS rfl rfl<|sM rfl ?_
 refine sV (rI (rW ((2:Int)*x7.1)))<|sM rfl<|sV (rI (rW ((rW ((2:Int)*x7.1))+x5.1)))<|sM rfl<|sV (rI (rW ((rW ((rW ((2:Int)*x7.1))+x5.1))-x3.1)))<|sM rfl<|sA rfl<|sA rfl<|sN<|qR ?_
 exact oI h▸qD
theorem nA{a0:Int}{r:Int}(h:iW a0=some r):EvP prog aB ext 193 [rI a0] [] (rI r,[]):=by
 refine Ev.body rfl Tryz.func193 rfl (by kernel_rfl)<|gS rfl rfl<|sV (r0)<|sN<|gS rfl rfl<|sM rfl<|sV (rI (mu .i64 a0 (1:Int)))<|sA rfl<|sN<|qR ?_
 exact oI h▸qD
theorem qv{a0:Int}{r:Int×Bool}(h:lz a0=some r):EvP prog aB ext 281 [rI a0] [] (.tup [rI r.1,rB r.2],[]):=by
 refine Ev.body rfl Tryz.func281 rfl (by kernel_rfl)<|gS rfl rfl<|sV (r0)<|sU<|sN<|gS rfl rfl<|sM rfl<|sV (rI (rW (a0*(30103:Int))))<|sM rfl<|sF h (fun h=>?_) fun h=>?_
 ·refine sM rfl<|sM rfl<|sV (rB (decide (a0<=(16777216:Int))))<|sV (rB (decide (a0<=(16777216:Int))))<|sA rfl<|sA rfl<|sN<|qR ?_
  exact oI h▸qD
 refine sM rfl<|sK<|sK<|sU<|sA rfl<|sA rfl<|sN<|qR ?_
 exact oI h▸qD
theorem m5{a0:Int}{r:Int}(h:io a0=some r):EvP prog aB ext 192 [rI a0] [] (rI r,[]):=by
 refine Ev.body rfl Tryz.func192 rfl (by kernel_rfl)<|gS rfl rfl<|sV (r0)<|sN<|gS rfl rfl<|sM rfl<|bE h fun x1 hx1 h=>cR (.tup [rI x1.1,rB x1.2]) [] (qv hx1)<|sM rfl<|sV (rI x1.1)<|sV (rB x1.2)<|sA rfl<|sA rfl<|sN<|qS ?_
 refine gS rfl rfl<|sM rfl<|sF h (fun h=>?_) fun h=>?_
 ·refine sN<|cT<|gS rfl rfl<|sV (r0)<|sN<|qR ?_
  exact oI h▸qD
 refine sN<|cF<|qK<|gS rfl rfl<|sM rfl<|bE h fun x3 hx3 h=>WO.uW hx3 rfl rfl rfl rfl rfl rfl<|sA rfl<|sN<|qS<|gS rfl rfl<|sM rfl<|bE h fun x4 hx4 h=>WO.remG hx4 rfl rfl rfl rfl rfl rfl<|sF h (fun h=>?_) fun h=>?_
 ·refine sN<|cT<|WC.region rfl rfl<|sM rfl<|sV (rI (rW (x3-(1:Int))))<|sA rfl<|sN<|gS rfl rfl<|sM rfl<|sA rfl<|sN<|qR ?_
  exact oI h▸qD
 refine sN<|cF<|qK<|gS rfl rfl<|sM rfl<|sA rfl<|sN<|qR ?_
 exact oI h▸qD
theorem rV{a0:Int}{r:Int}(h:kX a0=some r):EvP prog aB ext 194 [rI a0] [] (rI r,[]):=by
 refine Ev.body rfl Tryz.func194 rfl (by kernel_rfl)<|gS rfl rfl<|sV (r0)<|sN<|gS rfl rfl<|sM rfl<|sV (rI (rW (0-a0)))<|bE h fun x1 hx1 h=>cD (m5 hx1)<|sV (rI (rW (0-x1)))<|sA rfl<|sN<|qR ?_
 exact oI h▸qD
theorem pL{a0:bu}{a1:aO}{a2:Int}{a3:Int}{a4:Int}{r:aD×Int}(h:fP a0 a1 a2 a3 a4=some r):EvP prog aB ext 110 [.d (bu.pd a0),.d (aO.pd a1),rI a2,rI a3,rI a4] [] (.tup [.d (aD.pd r.1),rI r.2],[]):=by
 refine Ev.body rfl Tryz.func110 rfl (by kernel_rfl)<|gS rfl rfl<|sB (.ptr 80 0) 80 (.var (bu.rc a0))<|sB (.ptr 96 0) 96 (.var [rM aH.pd a1.bt])<|sB (.ptr 160 0) 160 (.var [r0,r0])<|sV (r0)<|sN<|qS<|gS rfl rfl<|sV (.d (bu.pd a0))<|bE h fun x1 hx1 h=>cD (ky hx1)<|sF h (fun h=>?_) fun h=>?_
 ·refine sN<|cT<|gS rfl rfl<|sV (.d (aD.pd (aD.mk 0 0)))<|sS 160 (.var [r0,r0])<|sV (rI 27)<|sN<|qR ?_
  exact oI h▸qD
 refine sN<|cF<|qK<|qS<|gS rfl rfl<|sM rfl<|sF h (fun h=>?_) fun h=>?_
 ·refine sM rfl<|sK<|sK<|sT<|sN<|cT<|gS rfl rfl<|sV (.d (aD.pd (aD.mk 0 0)))<|sS 160 (.var [r0,r0])<|sV (rI 2)<|sN<|qR ?_
  exact oI h▸qD
 refine sM rfl<|sM rfl<|sV (rB (decide (a2>(1073741823:Int))))<|sF h (fun h=>?_) fun h=>?_
 ·refine sN<|cT<|gS rfl rfl<|sV (.d (aD.pd (aD.mk 0 0)))<|sS 160 (.var [r0,r0])<|sV (rI 2)<|sN<|qR ?_
  exact oI h▸qD
 refine sN<|cF<|qK<|gS rfl rfl<|sV (.d (bu.pd a0))<|sV (.d (aO.pd a1))<|sM rfl<|bE h fun x5 hx5 h=>cR (.tup [rI x5.1,rI x5.2]) [] (qw hx5)<|sM rfl<|sV (rI x5.1)<|sV (rI x5.2)<|sA rfl<|sA rfl<|sN ?_
 refine qS<|gS rfl rfl<|sM rfl<|sF h (fun h=>?_) fun h=>?_
 ·refine sN<|cT<|gS rfl rfl<|sV (.d (aD.pd (aD.mk 0 0)))<|sM rfl<|sS 160 (.var [r0,r0])<|sA rfl<|sN<|qR ?_
  exact oI h▸qD
 refine sN<|cF<|qK<|gS rfl rfl<|sV (.ptr 80 0)<|sV (.d (aF.pd a0.bG))<|sM rfl<|sM rfl<|bE h fun x7 hx7 h=>cR (.tup [rI x7.1,rI x7.2.1,rI x7.2.2]) [] (nI hx7)<|sM rfl<|sV (rI x7.1)<|sV (rI x7.2.1)<|sV (rI x7.2.2)<|sA rfl ?_
 refine sA rfl<|sA rfl<|sN<|qS<|gS rfl rfl<|sM rfl<|sF h (fun h=>?_) fun h=>?_
 ·refine sN<|cT<|gS rfl rfl<|sV (.d (aD.pd (aD.mk 0 0)))<|sM rfl<|sS 160 (.var [r0,r0])<|sA rfl<|sN<|qR ?_
  exact oI h▸qD
 refine sN<|cF<|qK<|gS rfl rfl<|sM rfl<|sV (rI (rW (x5.1-(2:Int))))<|bE h fun x9 hx9 h=>cD (nA hx9)<|bE h fun x10 hx10 h=>cD (m5 hx10)<|sM rfl<|sV (rI (rW (x10+x7.1)))<|sM rfl<|sV (rI (rW (0-x5.1)))<|sV (rI (rW ((rW (0-x5.1))-(6:Int)))) ?_
 refine bE h fun x11 hx11 h=>cD (nA hx11)<|sV (rI (rW (0-x11)))<|bE h fun x12 hx12 h=>cD (rV hx12)<|sM rfl<|sV (rI (rW (x12+x7.2.1)))<|sV (.d (aD.pd (aD.mk (rW (x10+x7.1)) (rW (x12+x7.2.1)))))<|sS 160 (.var [rI (rW (x10+x7.1)),rI (rW (x12+x7.2.1))])<|sV (r0)<|sN<|qR ?_
 exact oI h▸qD
theorem pn{a0:aW}{a1:ak}{a2:ai}{r:(List aD)}(h:c8 a0 a1 a2=some r):EvP prog aB ext 58 [.d (aW.pd a0),.d (ak.pd a1),.d (ai.pd a2)] [] (rM aD.pd r,[]):=by
 refine Ev.body rfl Tryz.func58 rfl (by kernel_rfl)<|gS rfl rfl<|sB (.ptr 48 0) 48 (.var (aW.rc a0))<|sB (.ptr 64 0) 64 (.var (ak.rc a1))<|sB (.ptr 80 0) 80 (.var (ai.rc a2))<|sV .dg<|sN<|gS rfl rfl<|sV .dg<|sN<|qS<|gS rfl rfl<|sV (.ptr 48 1)<|sL rfl<|sE (rI (a0.dt.length:Int)) (fB _ _) ?_
 refine sV (r0)<|sN<|bE h fun o15 ho15 h=>WC.block (WC.loop (WL.gE ho15 (fun s R' B'=>b8 prog 0 (A R' B') (aB.at_ 58 0 3)=some (A [(3,.ptr 48 0),(4,.ptr 64 0),(5,.ptr 80 0),(7,.ref 816 0),(13,rM al.pd a0.dt),(14,rI (a0.dt.length:Int)),(15,rI s.1)] [(48,.var (aW.rc a0)),(64,.var (ak.rc a1)),(80,.var (ai.rc a2)),(816,.arr 0 47 (s.2.map aD.pd))])) (fun o e R' B'=>e= .exit 0∧b8 prog 0 (A R' B') (aB.at_ 58 0 9)=some (A [(7,.ref 816 0)] [(816,.arr 0 47 (o.map aD.pd))])) rfl ?_ ?_))
 ·rintro⟨s1,s2⟩ R' B' q4 hI h
  refine gS rfl hI<|sF h (fun h=>?_) fun h=>?_
  ·refine sN<|qS<|cT<|qK<|qS<|qB<|gS rfl rfl<|sM rfl<|bE h fun x6 hx6 h=>eG hx6 rfl<|sV (.d (al.pd x6))<|sB (.ptr 144 0) 144 (.var zZ5)<|sA rfl<|sH 144 (.var (al.rc x6))<|sN ?_
   refine WC.cI rfl rfl<|sV (.ptr 64 14)<|sV (.d (bu.pd a1.cq))<|sV (.ptr 48 2)<|sL rfl<|sM rfl<|bE h fun x7 hx7 h=>eG hx7 rfl<|sV (.cptr [.lst (x7.bD.bt.map aH.pd)])<|sV (.d (aO.pd x7.bD))<|sV (.ptr 48 0)<|sL rfl<|sM rfl<|bE h fun x8 hx8 h=>eG hx8 rfl ?_
   refine sV (.cptr [.int .i64 x8.aS,.int .i64 x8.aT])<|sC rfl<|sV (.d (ai.pd a2))<|sV (.ptr 144 0)<|sV (.d (aa.pd x6.aM))<|bE h fun x9 hx9 h=>cD (lu hx9)<|sV (.d (ai.pd a2))<|sV (.ptr 144 0)<|sV (.d (aa.pd x6.aM))<|bE h fun x10 hx10 h=>cD (pc hx10)<|bE h fun x11 hx11 h=>cR (.tup [.d (aD.pd x11.1),rI x11.2]) [] (pL hx11)<|sM rfl ?_
   refine sV (.d (aD.pd x11.1))<|sV (rI x11.2)<|sB (.ptr 160 0) 160 (.var [r0,r0])<|sS 160 (.var (aD.rc x11.1))<|sA rfl ?_
   refine sN<|sO<|gS rfl rfl<|sM rfl<|sF h (fun h=>?_) fun h=>?_
   ·refine sN<|cT<|WC.region rfl rfl<|sM rfl<|sV (.d (aD.pd x11.1))<|sV (.d (.lst ([x11.1].map aD.pd)))<|bE h fun x13 hx13 h=>aR hx13 (fun _=>rfl) rfl<|sA rfl<|sN<|WC.region rfl rfl<|sV (rI (rW (s1+(1:Int))))<|sM rfl<|sN ?_
    cases oI h
    exact⟨rfl,rfl⟩
   refine sN<|cF<|qK<|WC.region rfl rfl<|sV (rI (rW (s1+(1:Int))))<|sM rfl<|sN ?_
   cases oI h
   exact⟨rfl,rfl⟩
  refine sN<|qS<|cF<|qX ?_
  cases oI h
  exact⟨nofun,rfl,rfl⟩
 intro e R' B' he hq
 obtain⟨rfl,hI⟩:=hq
 refine qE<|gS rfl hI<|sM rfl<|sA rfl<|sN<|qR ?_
 exact oI h▸qD
theorem jE{a0:aD}{r:Bool}(h:gX a0=some r):EvP prog aB ext 114 [.d (aD.pd a0)] [] (rB r,[]):=by
 refine Ev.body rfl Tryz.func114 rfl (by kernel_rfl)<|gS rfl rfl<|sB (.ptr 16 0) 16 (.var (aD.rc a0))<|sU<|sN<|gS rfl rfl<|sV (.ptr 16 0)<|sL rfl<|sV (.ptr 16 1)<|sL rfl<|sV (rB (decide (a0.aK>a0.aG)))<|sA rfl<|sN<|qR ?_
 exact oI h▸qD
theorem kF{a0:(List aD)}{r:Int}(h:d6 a0=some r):EvP prog aB ext 198 [rM aD.pd a0,.d (.raw (.func (.func 114) #[] #[]))] [] (rI r,[]):=by
 refine Ev.body rfl Tryz.func198 rfl (by kernel_rfl)<|gS rfl rfl<|sV (r0)<|sN<|qS<|gS rfl rfl<|sM rfl<|sE (rI (a0.length:Int)) (fB _ _)<|sV (r0)<|sN<|bE h fun o8 ho8 h=>WC.block (WC.loop (WL.gE ho8 (fun s R' B'=>b8 prog 0 (A R' B') (aB.at_ 198 0 2)=some (A [(0,rM aD.pd a0),(1,.d (.raw (.func (.func 114) #[] #[]))),(7,rI (a0.length:Int)),(8,rI s)] [])) (fun o e R' B'=>match o with| .inl y=>e= .exit 0∧b8 prog 0 (A R' B') (aB.at_ 198 0 7)=some (A [] [])| .inr r=>e= .ret∧finish prog (aB.own 198) Tryz.f198 0 (A R' B')=some (rI r,[])) rfl ?_ ?_))
 ·rintro s1 R' B' q2 hI h
  refine gS rfl hI<|sF h (fun h=>?_) fun h=>?_
  ·refine sN<|qS<|cT<|qK<|qS<|qB<|gS rfl rfl<|sM rfl<|sA rfl<|sN<|gS rfl rfl<|sM rfl<|sM rfl<|sM rfl<|bE h fun x4 hx4 h=>?_
   refine eG hx4 rfl<|sV (.d (aD.pd x4))<|bE h fun x5 hx5 h=>nX h (fun hb6 h=>?_) (fun hb6 h=>?_)
   ·refine WO.qA (v:=rB true) (u:=[]) rfl rfl (fun _=>rfl) rfl rfl rfl rfl rfl (jE hx5) rfl rfl (congrArg (fun b=>RV.d (.bool b)) hb6) rfl<|sN<|cT<|gS rfl rfl<|sM rfl<|sA rfl<|sN<|qR ?_
    cases oI h
    exact⟨nofun,rfl,rfl⟩
   refine WO.qA (v:=rB false) (u:=[]) rfl rfl (fun _=>rfl) rfl rfl rfl rfl rfl (jE hx5) rfl rfl (congrArg (fun b=>RV.d (.bool b)) hb6) rfl<|sN<|cF<|qK<|WC.region rfl rfl<|sV (rI (rW (s1+(1:Int))))<|sM rfl<|sN ?_
   cases oI h
   exact⟨rfl,rfl⟩
  refine sN<|qS<|cF<|qX ?_
  cases oI h
  exact⟨nofun,rfl,rfl⟩
 intro e R' B' he hq
 rcases o8 with y9|r10
 ·obtain⟨rfl,hI⟩:=hq
  refine qE<|gS rfl hI<|sV (rI (-1))<|sN<|qR ?_
  exact oI h▸qD
 obtain⟨rfl,hf⟩:=hq
 cases oI h
 exact hf
theorem eT{a0:(List aD)}{r:Bool}(h:cO a0=some r):EvP prog aB ext 113 [rM aD.pd a0,.d (.raw (.func (.func 114) #[] #[]))] [] (rB r,[]):=by
 refine Ev.body rfl Tryz.func113 rfl (by kernel_rfl)<|gS rfl rfl<|sU<|sN<|gS rfl rfl<|sM rfl<|sM rfl<|bE h fun x1 hx1 h=>cD (kF hx1)<|sV (rB (decide (x1>=(0:Int))))<|sA rfl<|sN<|qR ?_
 exact oI h▸qD
theorem nl{a0:aD}{r:Int}(h:gY a0=some r):EvP prog aB ext 116 [.d (aD.pd a0)] [] (rI r,[]):=by
 refine Ev.body rfl Tryz.func116 rfl (by kernel_rfl)<|gS rfl rfl<|sB (.ptr 16 0) 16 (.var (aD.rc a0))<|sV (r0)<|sN<|gS rfl rfl<|sV (.ptr 16 0)<|sL rfl<|sA rfl<|sN<|qR ?_
 exact oI h▸qD
theorem nP{a0:(List aD)}{r:Int}(h:fu a0=some r):EvP prog aB ext 115 [rM aD.pd a0,.d (.raw (.func (.func 116) #[] #[]))] [] (rI r,[]):=by
 refine Ev.body rfl Tryz.func115 rfl (by kernel_rfl)<|gS rfl rfl<|sV (r0)<|sN<|gS rfl rfl<|sV .dg<|sN<|qS<|gS rfl rfl<|sM rfl<|sE (rI (a0.length:Int)) (fB _ _)<|sV (r0)<|sN<|bE h fun o10 ho10 h=>WC.block (WC.loop (WL.gE ho10 (fun s R' B'=>b8 prog 0 (A R' B') (aB.at_ 115 0 3)=some (A [(1,.d (.raw (.func (.func 116) #[] #[]))),(5,.ref 304 0),(8,rM aD.pd a0),(9,rI (a0.length:Int)),(10,rI s.1)] [(304,.arr 0 3 (s.2.map (PD.int .i64)))])) (fun o e R' B'=>e= .exit 0∧b8 prog 0 (A R' B') (aB.at_ 115 0 7)=some (A [(5,.ref 304 0)] [(304,.arr 0 3 (o.map (PD.int .i64)))])) rfl ?_ ?_))
 ·rintro⟨s1,s2⟩ R' B' q4 hI h
  refine gS rfl hI<|sF h (fun h=>?_) fun h=>?_
  ·refine sN<|qS<|cT<|qK<|qS<|qB<|gS rfl rfl<|bE h fun x6 hx6 h=>eG hx6 rfl<|sV (.d (aD.pd x6))<|sB (.ptr 112 0) 112 (.var [r0,r0])<|sS 112 (.var (aD.rc x6))<|sN<|WC.region rfl rfl<|sM rfl ?_
   refine sM rfl<|sV (.d (aD.pd x6))<|bE h fun x7 hx7 h=>cD (nl hx7)<|sV (.d (.lst ([x7].map (PD.int .i64))))<|bE h fun x8 hx8 h=>aR hx8 (fun _=>rfl) rfl<|sA rfl<|sN<|WC.region rfl rfl<|sV (rI (rW (s1+(1:Int))))<|sM rfl<|sN ?_
   cases oI h
   exact⟨rfl,rfl⟩
  refine sN<|qS<|cF<|qX ?_
  cases oI h
  exact⟨nofun,rfl,rfl⟩
 intro e R' B' he hq
 obtain⟨rfl,hI⟩:=hq
 refine qE<|gS rfl hI<|sM rfl<|bE h fun x11 hx11 h=>cR (.tup []) [(304,.arr 0 3 (x11.map (PD.int .i64)))] (ic hx11)<|sN<|gS rfl rfl<|sM rfl<|sM rfl<|WO.uT rfl rfl rfl rfl rfl rfl rfl rfl rfl<|sV (rI (rW ((x11.length:Int)-(1:Int))))<|bE h fun x12 hx12 h=>WO.uW hx12 rfl rfl rfl rfl rfl rfl<|bE h fun x14 hx14 h=>WO.p8 hx14 rfl rfl rfl rfl rfl rfl rfl rfl ?_
 refine bE h fun x15 hx15 h=>WO.pJ hx15 rfl rfl rfl rfl rfl rfl<|sA rfl<|sN<|qR ?_
 exact oI h▸qD
theorem nn{a0:aD}{r:Int}(h:gZ a0=some r):EvP prog aB ext 117 [.d (aD.pd a0)] [] (rI r,[]):=by
 refine Ev.body rfl Tryz.func117 rfl (by kernel_rfl)<|gS rfl rfl<|sB (.ptr 16 0) 16 (.var (aD.rc a0))<|sV (r0)<|sN<|gS rfl rfl<|sV (.ptr 16 1)<|sL rfl<|sA rfl<|sN<|qR ?_
 exact oI h▸qD
theorem nQ{a0:(List aD)}{r:Int}(h:fw a0=some r):EvP prog aB ext 115 [rM aD.pd a0,.d (.raw (.func (.func 117) #[] #[]))] [] (rI r,[]):=by
 refine Ev.body rfl Tryz.func115 rfl (by kernel_rfl)<|gS rfl rfl<|sV (r0)<|sN<|gS rfl rfl<|sV .dg<|sN<|qS<|gS rfl rfl<|sM rfl<|sE (rI (a0.length:Int)) (fB _ _)<|sV (r0)<|sN<|bE h fun o10 ho10 h=>WC.block (WC.loop (WL.gE ho10 (fun s R' B'=>b8 prog 0 (A R' B') (aB.at_ 115 0 3)=some (A [(1,.d (.raw (.func (.func 117) #[] #[]))),(5,.ref 304 0),(8,rM aD.pd a0),(9,rI (a0.length:Int)),(10,rI s.1)] [(304,.arr 0 3 (s.2.map (PD.int .i64)))])) (fun o e R' B'=>e= .exit 0∧b8 prog 0 (A R' B') (aB.at_ 115 0 7)=some (A [(5,.ref 304 0)] [(304,.arr 0 3 (o.map (PD.int .i64)))])) rfl ?_ ?_))
 ·rintro⟨s1,s2⟩ R' B' q4 hI h
  refine gS rfl hI<|sF h (fun h=>?_) fun h=>?_
  ·refine sN<|qS<|cT<|qK<|qS<|qB<|gS rfl rfl<|bE h fun x6 hx6 h=>eG hx6 rfl<|sV (.d (aD.pd x6))<|sB (.ptr 112 0) 112 (.var [r0,r0])<|sS 112 (.var (aD.rc x6))<|sN<|WC.region rfl rfl<|sM rfl ?_
   refine sM rfl<|sV (.d (aD.pd x6))<|bE h fun x7 hx7 h=>cD (nn hx7)<|sV (.d (.lst ([x7].map (PD.int .i64))))<|bE h fun x8 hx8 h=>aR hx8 (fun _=>rfl) rfl<|sA rfl<|sN<|WC.region rfl rfl<|sV (rI (rW (s1+(1:Int))))<|sM rfl<|sN ?_
   cases oI h
   exact⟨rfl,rfl⟩
  refine sN<|qS<|cF<|qX ?_
  cases oI h
  exact⟨nofun,rfl,rfl⟩
 intro e R' B' he hq
 obtain⟨rfl,hI⟩:=hq
 refine qE<|gS rfl hI<|sM rfl<|bE h fun x11 hx11 h=>cR (.tup []) [(304,.arr 0 3 (x11.map (PD.int .i64)))] (ic hx11)<|sN<|gS rfl rfl<|sM rfl<|sM rfl<|WO.uT rfl rfl rfl rfl rfl rfl rfl rfl rfl<|sV (rI (rW ((x11.length:Int)-(1:Int))))<|bE h fun x12 hx12 h=>WO.uW hx12 rfl rfl rfl rfl rfl rfl<|bE h fun x14 hx14 h=>WO.p8 hx14 rfl rfl rfl rfl rfl rfl rfl rfl ?_
 refine bE h fun x15 hx15 h=>WO.pJ hx15 rfl rfl rfl rfl rfl rfl<|sA rfl<|sN<|qR ?_
 exact oI h▸qD
theorem pK{a0:(List aD)}{r:aD×Int}(h:fO a0=some r):EvP prog aB ext 59 [rM aD.pd a0] [] (.tup [.d (aD.pd r.1),rI r.2],[]):=by
 refine Ev.body rfl Tryz.func59 rfl (by kernel_rfl)<|gS rfl rfl<|sB (.ptr 32 0) 32 (.var [r0,r0])<|sV (r0)<|sN<|qS<|gS rfl rfl<|sM rfl<|sE (rI (a0.length:Int)) (fB _ _)<|sF h (fun h=>?_) fun h=>?_
 ·refine sN<|cT<|gS rfl rfl<|sV (.d (aD.pd (aD.mk 0 0)))<|sS 32 (.var [r0,r0])<|sV (rI 24)<|sN<|qR ?_
  exact oI h▸qD
 refine sN<|cF<|qK<|qS<|gS rfl rfl<|sM rfl<|bE h fun x2 hx2 h=>nX h (fun hb3 h=>?_) (fun hb3 h=>?_)
 ·refine WO.qA (v:=rB true) (u:=[]) rfl rfl (fun _=>rfl) rfl rfl rfl rfl rfl (eT hx2) rfl rfl (congrArg (fun b=>RV.d (.bool b)) hb3) rfl<|sN<|cT<|gS rfl rfl<|sV (.d (aD.pd (aD.mk 0 0)))<|sS 32 (.var [r0,r0])<|sV (rI 1)<|sN<|qR ?_
  exact oI h▸qD
 refine WO.qA (v:=rB false) (u:=[]) rfl rfl (fun _=>rfl) rfl rfl rfl rfl rfl (eT hx2) rfl rfl (congrArg (fun b=>RV.d (.bool b)) hb3) rfl<|sN<|cF<|qK<|gS rfl rfl<|sM rfl<|bE h fun x4 hx4 h=>cD (nP hx4)<|sM rfl<|bE h fun x5 hx5 h=>cD (nQ hx5)<|sV (.d (aD.pd (aD.mk x4 x5)))<|sS 32 (.var [rI x4,rI x5])<|sV (r0)<|sN ?_
 refine qR ?_
 exact oI h▸qD
theorem sg{a0:ak}{a1:aq}{a2:(List ac)}{r:bf×Int}(h:gJ a0 a1 a2=some r):EvP prog aB ext 15 [.d (ak.pd a0),.d (aq.pd a1),rM ac.pd a2] [] (.tup [.d (bf.pd r.1),rI r.2],[]):=by
 refine Ev.body rfl Tryz.func15 rfl (by kernel_rfl)<|gS rfl rfl<|sB (.ptr 48 0) 48 (.var (ak.rc a0))<|sB (.ptr 64 0) 64 (.var [rM ar.pd a1.aI])<|sB (.ptr 96 0) 96 (.var zZ1)<|sV (r0)<|sN<|gS rfl rfl<|sV (.d (ak.pd a0))<|sV (.d (aq.pd a1))<|sM rfl<|bE h fun x1 hx1 h=>cR (.tup [.d (aW.pd x1.1),rI x1.2]) [] (rE hx1)<|sM rfl<|sV (.d (aW.pd x1.1)) ?_
 refine sV (rI x1.2)<|sB (.ptr 128 0) 128 (.var [.dg,.dg,.dg])<|sS 128 (.var (aW.rc x1.1))<|sA rfl<|sN<|qS<|gS rfl rfl<|sM rfl<|sF h (fun h=>?_) fun h=>?_
 ·refine sN<|cT<|gS rfl rfl<|sG (.agg zZ1)<|sM rfl<|sH 96 (.var zZ1)<|sA rfl<|sN<|qR ?_
  cases oI h
  exact qG
 refine sN<|cF<|qK<|gS rfl rfl<|sV (.d (aW.pd x1.1))<|sV (.d (ak.pd a0))<|bE h fun x3 hx3 h=>cR (.tup [.d (ah.pd x3.1),rI x3.2]) [] (qx hx3)<|sM rfl<|sV (.d (ah.pd x3.1))<|sV (rI x3.2)<|sB (.ptr 160 0) 160 (.var [r0,r0,r0,r0,r0,r0,r0,.dg,.dg,.dg,r0])<|sH 160 (.var (ah.rc x3.1))<|sA rfl<|sN ?_
 refine qS<|gS rfl rfl<|sM rfl<|sF h (fun h=>?_) fun h=>?_
 ·refine sN<|cT<|gS rfl rfl<|sG (.agg zZ1)<|sM rfl<|sH 96 (.var zZ1)<|sA rfl<|sN<|qR ?_
  cases oI h
  exact qG
 refine sN<|cF<|qK<|gS rfl rfl<|sV (.d (ah.pd x3.1))<|sV (.ptr 48 19)<|sL rfl<|bE h fun x5 hx5 h=>cR (.tup [.d (au.pd x5.1),rI x5.2]) [] (n9 hx5)<|sM rfl<|sV (.d (au.pd x5.1))<|sV (rI x5.2)<|sB (.ptr 176 0) 176 (.var zZ2)<|sH 176 (.var (au.rc x5.1))<|sA rfl ?_
 refine sN<|qS<|gS rfl rfl<|sM rfl<|sF h (fun h=>?_) fun h=>?_
 ·refine sN<|cT<|gS rfl rfl<|sG (.agg zZ1)<|sM rfl<|sH 96 (.var zZ1)<|sA rfl<|sN<|qR ?_
  cases oI h
  exact qG
 refine sN<|cF<|qK<|gS rfl rfl<|sV (.ptr 128 0)<|sL rfl<|sV (.d (au.pd x5.1))<|sG (.d (.agg [.lst (x1.1.dK.map ac.pd),.int .i64 x5.1.aV.fX,.int .i64 x5.1.aV.fY,.int .i64 x5.1.aV.fZ,.int .i64 x5.1.a8,.int .i64 x5.1.bj,.int .i64 x5.1.dm,.int .i64 x5.1.aX.aK.fX,.int .i64 x5.1.aX.aK.fY,.int .i64 x5.1.aX.aK.fZ,.int .i64 x5.1.aX.aG.fX,.int .i64 x5.1.aX.aG.fY,.int .i64 x5.1.aX.aG.fZ,.int .i64 0,.int .i64 0,.int .i64 0]))<|sB (.ptr 192 0) 192 (.var zZ1)<|sH 192 (.var (rM ac.pd x1.1.dK::au.rc x5.1++[r0,r0,r0]))<|sN<|qS<|gS rfl rfl<|sV (.d (aW.pd x1.1))<|sV (.d (ak.pd a0)) ?_
 refine sV (.ptr 176 6)<|sV (.d (ai.pd x5.1.aX))<|bE h fun x7 hx7 h=>cD (pn hx7)<|sA rfl<|sN<|gS rfl rfl<|sM rfl<|sE (rI (x7.length:Int)) (fB _ _)<|sF h (fun h=>?_) fun h=>?_
 ·refine sN<|cT<|gS rfl rfl<|sM rfl<|sE (rI (x7.length:Int)) (fB _ _)<|sV (.ptr 192 15)<|sS 192 (.var (rM ac.pd x1.1.dK::au.rc x5.1++[r0,r0,rI (x7.length:Int)]))<|sN<|gS rfl rfl<|sM rfl<|bE h fun x9 hx9 h=>cR (.tup [.d (aD.pd x9.1),rI x9.2]) [] (pK hx9)<|sM rfl<|sV (.d (aD.pd x9.1))<|sV (rI x9.2) ?_
  refine sV (.ptr 192 13)<|sS 192 (.var (rM ac.pd x1.1.dK::au.rc x5.1++aD.rc x9.1++[rI (x7.length:Int)]))<|sA rfl<|sN<|gS rfl rfl<|sM rfl<|sF h (fun h=>?_) fun h=>?_
  ·refine sN<|cT<|gS rfl rfl<|sG (.agg zZ1)<|sM rfl<|sH 96 (.var zZ1)<|sA rfl<|sN<|qR ?_
   cases oI h
   exact qG
  refine sN<|cF<|qK<|gS rfl rfl<|sV (.d (.agg [.lst (x1.1.dK.map ac.pd),.int .i64 x5.1.aV.fX,.int .i64 x5.1.aV.fY,.int .i64 x5.1.aV.fZ,.int .i64 x5.1.a8,.int .i64 x5.1.bj,.int .i64 x5.1.dm,.int .i64 x5.1.aX.aK.fX,.int .i64 x5.1.aX.aK.fY,.int .i64 x5.1.aX.aK.fZ,.int .i64 x5.1.aX.aG.fX,.int .i64 x5.1.aX.aG.fY,.int .i64 x5.1.aX.aG.fZ,.int .i64 x9.1.aK,.int .i64 x9.1.aG,.int .i64 (x7.length:Int)]))<|sH 96 (.var (rM ac.pd x1.1.dK::au.rc x5.1++aD.rc x9.1++[rI (x7.length:Int)]))<|sV (r0)<|sN<|qR ?_
  cases oI h
  exact qG
 refine sN<|cF<|qK<|gS rfl rfl<|sV (.d (.agg [.lst (x1.1.dK.map ac.pd),.int .i64 x5.1.aV.fX,.int .i64 x5.1.aV.fY,.int .i64 x5.1.aV.fZ,.int .i64 x5.1.a8,.int .i64 x5.1.bj,.int .i64 x5.1.dm,.int .i64 x5.1.aX.aK.fX,.int .i64 x5.1.aX.aK.fY,.int .i64 x5.1.aX.aK.fZ,.int .i64 x5.1.aX.aG.fX,.int .i64 x5.1.aX.aG.fY,.int .i64 x5.1.aX.aG.fZ,.int .i64 0,.int .i64 0,.int .i64 0]))<|sH 96 (.var (rM ac.pd x1.1.dK::au.rc x5.1++[r0,r0,r0]))<|sV (r0)<|sN<|qR ?_
 cases oI h
 exact qG
theorem lp{a0:ac}{a1:ac}{r:Int}(h:iz a0 a1=some r):EvP prog aB ext 42 [.d (ac.pd a0),.d (ac.pd a1)] [] (rI r,[]):=by
 refine Ev.body rfl Tryz.func42 rfl (by kernel_rfl)<|gS rfl rfl<|sB (.ptr 32 0) 32 (.var (ac.rc a0))<|sB (.ptr 48 0) 48 (.var (ac.rc a1))<|sV (r0)<|sN<|WC.cI rfl rfl<|sV (.ptr 32 4)<|sL rfl<|sV (.ptr 48 4)<|sL rfl<|bE h fun x1 hx1 h=>cD (bO hx1)<|sV (.d (ac.pd a0))<|sV (.d (ac.pd a1)) ?_
 refine bE h fun x2 hx2 h=>cD (nC hx2)<|sV (.d (.lst ([x1,x2].map (PD.int .i64))))<|bE h fun x3 hx3 h=>cD (iy hx3)<|sA rfl ?_
 refine sN<|sO<|qR ?_
 cases oI h
 exact qG
theorem lJ{a0:(List ac)}{r:ac}(h:e7 a0=some r):EvP prog aB ext 134 [rM ac.pd a0,.d (.raw (.func (.func 42) #[] #[]))] [] (.d (ac.pd r),[]):=by
 refine Ev.body rfl Tryz.func134 rfl (by kernel_rfl)<|gS rfl rfl<|sB (.ptr 64 0) 64 (.var zZ3)<|sN<|qS<|gS rfl rfl<|sM rfl<|sE (rI (a0.length:Int)) (fB _ _)<|sF h (fun h=>?_) fun h=>?_
 ·refine sN<|cT<|WC.region rfl rfl<|sG (.ifc 9 (rS [115,108,105,99,101,115,46,77,105,110,70,117,110,99,58,32,101,109,112,116,121,32,108,105,115,116])) ?_
  cases h
 refine sN<|cF<|qK<|gS rfl rfl<|sM rfl<|bE h fun x2 hx2 h=>eG hx2 rfl<|sV (.d (ac.pd x2))<|sB (.ptr 80 0) 80 (.var zZ3)<|sH 80 (.var (ac.rc x2))<|sN<|qS<|gS rfl rfl<|sV (rI 1)<|sN ?_
 refine bE h fun o29 ho29 h=>WC.block (WC.loop (WL.gE ho29 (fun s R' B'=>b8 prog 0 (A R' B') (aB.at_ 134 0 5)=some (A [(0,rM ac.pd a0),(1,.d (.raw (.func (.func 42) #[] #[]))),(4,.ptr 64 0),(5,.ptr 80 0),(6,rI s.1)] [(64,.var zZ3),(80,.var [rS s.2.1,rS s.2.2.1,rS s.2.2.2.1,rS s.2.2.2.2.1,rI s.2.2.2.2.2.1,rI s.2.2.2.2.2.2.1,rI s.2.2.2.2.2.2.2.1,rI s.2.2.2.2.2.2.2.2.1,rI s.2.2.2.2.2.2.2.2.2])])) (fun o e R' B'=>e= .exit 0∧b8 prog 0 (A R' B') (aB.at_ 134 0 9)=some (A [(4,.ptr 64 0),(5,.ptr 80 0)] [(64,.var zZ3),(80,.var [rS o.1,rS o.2.1,rS o.2.2.1,rS o.2.2.2.1,rI o.2.2.2.2.1,rI o.2.2.2.2.2.1,rI o.2.2.2.2.2.2.1,rI o.2.2.2.2.2.2.2.1,rI o.2.2.2.2.2.2.2.2])])) rfl ?_ ?_))
 ·rintro⟨s3,s4,s5,s6,s7,s8,s9,s10,s11,s12⟩ R' B' q22 hI h
  refine qS<|gS rfl hI<|sM rfl<|sM rfl<|sE (rI (a0.length:Int)) (fB _ _)<|sF h (fun h=>?_) fun h=>?_
  ·refine sN<|cT<|qK<|qS<|qB<|WC.cI rfl rfl<|sM rfl<|sM rfl<|sM rfl<|bE h fun x24 hx24 h=>eG hx24 rfl<|sV (.d (ac.pd x24))<|sV (.d (ac.pd (ac.mk (aw.mk s4 s5 s6 s7) s8 s9 s10 s11 s12)))<|bE h fun x25 hx25 h=>cD (lp hx25) ?_
   refine sF h (fun h=>?_) fun h=>?_
   ·refine sN<|sO<|cT<|WC.region rfl rfl<|sM rfl<|sM rfl<|bE h fun x27 hx27 h=>eG hx27 rfl<|sV (.d (ac.pd x27))<|sH 80 (.var (ac.rc x27))<|sN<|WC.region rfl rfl<|sM rfl<|sV (rI (rW (s3+(1:Int))))<|sA rfl<|sN ?_
    cases oI h
    exact⟨rfl,rfl⟩
   refine sN<|sO<|cF<|qK<|WC.region rfl rfl<|sM rfl<|sV (rI (rW (s3+(1:Int))))<|sA rfl<|sN ?_
   cases oI h
   exact⟨rfl,rfl⟩
  refine sN<|cF<|qX ?_
  cases oI h
  exact⟨nofun,rfl,rfl⟩
 intro e R' B' he hq
 obtain⟨rfl,hI⟩:=hq
 refine qE<|gS rfl hI<|sV (.d (ac.pd (ac.mk (aw.mk o29.1 o29.2.1 o29.2.2.1 o29.2.2.2.1) o29.2.2.2.2.1 o29.2.2.2.2.2.1 o29.2.2.2.2.2.2.1 o29.2.2.2.2.2.2.2.1 o29.2.2.2.2.2.2.2.2)))<|sH 64 (.var [rS o29.1,rS o29.2.1,rS o29.2.2.1,rS o29.2.2.2.1,rI o29.2.2.2.2.1,rI o29.2.2.2.2.2.1,rI o29.2.2.2.2.2.2.1,rI o29.2.2.2.2.2.2.2.1,rI o29.2.2.2.2.2.2.2.2])<|sN<|qR ?_
 cases oI h
 exact qG
theorem qL{a0:(List ac)}{r:ac}(h:mU a0=some r):EvP prog aB ext 67 [rM ac.pd a0] [] (.d (ac.pd r),[]):=by
 refine Ev.body rfl Tryz.func67 rfl (by kernel_rfl)<|gS rfl rfl<|sB (.ptr 32 0) 32 (.var zZ3)<|sN<|qS<|gS rfl rfl<|sM rfl<|sE (rI (a0.length:Int)) (fB _ _)<|sF h (fun h=>?_) fun h=>?_
 ·refine sN<|cT<|gS rfl rfl<|sG (.d (ac.pd (ac.mk (aw.mk [] [] [] []) 0 0 0 0 0)))<|sH 32 (.var zZ3)<|sN<|qR ?_
  cases oI h
  exact qG
 refine sN<|cF<|qK<|gS rfl rfl<|sM rfl<|bE h fun x2 hx2 h=>cD (lJ hx2)<|sH 32 (.var (ac.rc x2))<|sN<|qR ?_
 cases oI h
 exact qG
theorem names_compare_ev{a0:e9}{a1:az}{a2:az}{r:Int}(h:jQ a0 a1 a2=some r):EvP prog aB ext 69 [.d (e9.pd a0),.d (az.pd a1),.d (az.pd a2)] [] (rI r,[]):=by
 refine Ev.body rfl Tryz.func69 rfl (by kernel_rfl)<|gS rfl rfl<|sB (.ptr 48 0) 48 (.var [])<|sB (.ptr 64 0) 64 (.var (az.rc a1))<|sB (.ptr 80 0) 80 (.var (az.rc a2))<|sV (r0)<|sN<|gS rfl rfl<|sV (.ptr 64 0)<|sV (.d (ac.pd a1.bd))<|sV (.ptr 80 0)<|sV (.d (ac.pd a2.bd))<|bE h fun x1 hx1 h=>cD (lp hx1)<|sA rfl ?_
 refine sN<|qR ?_
 cases oI h
 exact qG
theorem gI{a1:Int}{a2:Int}{d0:(List az)}{r:(List az)}(h:cM a1 a2 d0=some r):EvP prog aB ext 208 [.ref 0 0,rI a1,rI a2,.d (.raw (.func (.func 69) #[.agg #[]] #[]))] [.arr 0 86 (d0.map az.pd)] (.tup [],[.arr 0 86 (r.map az.pd)]):=by
 refine Ev.body rfl Tryz.func208 rfl (by kernel_rfl)<|gS rfl rfl<|sM rfl<|sV (rI (rW (a1+(1:Int))))<|sA rfl<|sN<|bE h fun o35 ho35 h=>?_
 cases oI h
 refine WC.block (WC.loop (WL.vd ho35 (fun s R' B'=>b8 prog 1 (A R' B') (aB.at_ 208 1 1)=some (A [(0,.ref 0 0),(1,rI a1),(2,rI a2),(3,.d (.raw (.func (.func 69) #[.agg #[]] #[]))),(8,rI s.1)] [(0,.arr 0 86 (s.2.map az.pd))])) rfl ?_))
 rintro⟨s1,s2⟩ R' B' q3 hI h
 refine qS<|gS rfl hI<|sM rfl<|sM rfl<|sF h (fun h=>?_) fun h=>?_
 ·refine sN<|cT<|qK<|qS<|qB<|gS rfl rfl<|sM rfl<|sA rfl<|sN<|bE h fun o32 ho32 h=>WC.block (WC.loop (WL.gE ho32 (fun s R' B'=>b8 prog 1 (A R' B') (aB.at_ 208 1 4)=some (A [(0,.ref 0 0),(1,rI a1),(2,rI a2),(3,.d (.raw (.func (.func 69) #[.agg #[]] #[]))),(8,rI s1),(9,rI s.1)] [(0,.arr 0 86 (s.2.map az.pd))])) (fun o e R' B'=>e= .exit 2∧b8 prog 1 (A R' B') (aB.at_ 208 1 2)=some (A [(0,.ref 0 0),(1,rI a1),(2,rI a2),(3,.d (.raw (.func (.func 69) #[.agg #[]] #[]))),(8,rI o.1)] [(0,.arr 0 86 (o.2.map az.pd))])) rfl ?_ ?_))
  ·rintro⟨s5,s6⟩ R' B' q9 hI h
   refine qS<|WC.cI hI rfl<|sM rfl<|sM rfl<|sF h (fun h=>?_) fun h=>?_
   ·refine sM rfl<|sM rfl<|sM rfl<|sM rfl<|bE h fun x12 hx12 h=>WO.p8 hx12 rfl rfl rfl rfl rfl rfl rfl rfl<|bE h fun x13 hx13 h=>WO.pJ hx13 rfl rfl rfl rfl rfl rfl<|sM rfl<|sM rfl<|sV (rI (rW (s5-(1:Int))))<|bE h fun x15 hx15 h=>WO.p8 hx15 rfl rfl rfl rfl rfl rfl rfl rfl<|bE h fun x16 hx16 h=>WO.pJ hx16 rfl rfl rfl rfl rfl rfl ?_
    refine bE h fun x17 hx17 h=>cD (names_compare_ev hx17)<|sV (rB (decide (x17<(0:Int))))<|sF h (fun h=>?_) fun h=>?_
    ·refine sN<|sO<|cT<|qK<|qS<|qB<|WC.oi rfl rfl<|sM rfl<|sM rfl<|sM rfl<|sM rfl<|sV (rI (rW (s5-(1:Int))))<|sM rfl<|sM rfl<|sV (rI (rW (s5-(1:Int))))<|bE h fun x20 hx20 h=>?_
     refine WO.p8 hx20 rfl rfl rfl rfl rfl rfl rfl rfl<|bE h fun x21 hx21 h=>WO.pJ hx21 rfl rfl rfl rfl rfl rfl<|sM rfl<|sM rfl<|bE h fun x23 hx23 h=>WO.p8 hx23 rfl rfl rfl rfl rfl rfl rfl rfl<|bE h fun x24 hx24 h=>WO.pJ hx24 rfl rfl rfl rfl rfl rfl<|bE h fun x26 hx26 h=>WO.p8 hx26 rfl rfl rfl rfl rfl rfl rfl rfl<|bE h fun x27 hx27 h=>WO.ss (g:=az.pd) (sz:=25) (p:=az.pd x21) hx27 (by intro _;kernel_rfl) (by intro _;kernel_rfl) rfl rfl rfl rfl rfl rfl rfl rfl rfl<|bE h fun x29 hx29 h=>WO.p8 hx29 rfl rfl rfl rfl rfl rfl rfl rfl ?_
     refine bE h fun x30 hx30 h=>WO.ss (g:=az.pd) (sz:=25) (p:=az.pd x24) hx30 (by intro _;kernel_rfl) (by intro _;kernel_rfl) rfl rfl rfl rfl rfl rfl rfl rfl rfl ?_
     refine sN<|sO<|WC.region rfl rfl<|sM rfl<|sV (rI (rW (s5-(1:Int))))<|sA rfl<|sN ?_
     cases oI h
     exact⟨rfl,rfl⟩
    refine sN<|sO<|cF<|qX ?_
    cases oI h
    exact⟨nofun,rfl,rfl⟩
   refine sM rfl<|k3<|k3<|k3<|k3<|sU ?_
   refine sN<|sO<|cF<|qX ?_
   cases oI h
   exact⟨nofun,rfl,rfl⟩
  intro e R' B' he hq
  obtain⟨rfl,hI⟩:=hq
  refine qE<|WC.region hI rfl<|sM rfl<|sV (rI (rW (o32.1+(1:Int))))<|sA rfl<|sN ?_
  cases oI h
  exact⟨rfl,rfl⟩
 refine sN<|cF<|qX<|tO h (fun z33 hkz33 hz=>?_)
 obtain rfl:=Option.some.inj hz
 refine⟨(fun he=>by cases he),fun hz2=>?_⟩
 subst hz2
 have h:=hkz33
 refine qE ?_
 exact oI h▸qD
theorem iO:∀(nfu:Nat){a1:Int}{a2:Int}{a3:Int}{d0:(List az)}{r:(List az)}(_:eU nfu a1 a2 a3 d0=some r),EvP prog aB ext 135 [.ref 0 0,rI a1,rI a2,rI a3,.d (.raw (.func (.func 69) #[.agg #[]] #[]))] [.arr 0 86 (d0.map az.pd)] (.tup [],[.arr 0 86 (r.map az.pd)])
  |0,_,_,_,_,_,h=>by cases h
  |nfu+1,a1,a2,a3,d0,r,h=>by
   refine Ev.body rfl Tryz.func135 rfl (by kernel_rfl)<|gS rfl rfl<|sT<|sN<|gS rfl rfl<|sT<|sN<|bE h fun o6 ho6 h=>WC.block (WC.loop (WL.gE ho6 (fun s R' B'=>b8 prog 1 (A R' B') (aB.at_ 135 1 2)=some (A [(0,.ref 0 0),(1,rI a1),(2,rI a2),(3,rI a3),(4,.d (.raw (.func (.func 69) #[.agg #[]] #[]))),(10,rB true),(11,rB true)] [(0,.arr 0 86 (d0.map az.pd))])) (fun o e R' B'=>e= .ret∧finish prog (aB.own 135) Tryz.f135 1 (A R' B')=some (.tup [],[.arr 0 86 (o.map az.pd)])) rfl ?_ ?_))
   ·rintro⟨⟩ R' B' q1 hI h
    refine qB<|gS rfl hI<|sM rfl<|sM rfl<|sV (rI (rW (a2-a1)))<|sA rfl<|sN<|qS<|gS rfl rfl<|sM rfl<|sF h (fun h=>?_) fun h=>?_
    ·refine sN<|cT<|gS rfl rfl<|sM rfl<|sM rfl<|sM rfl<|sM rfl<|bE h fun x3 hx3 h=>cR (.tup []) [(0,.arr 0 86 (x3.map az.pd))] (gI hx3)<|sN<|qR ?_
     cases oI h
     exact⟨nofun,rfl,rfl⟩
    refine sN<|cF<|qK<|qS<|gS rfl rfl<|sM rfl<|sF h (fun h=>?_) fun h=>?_
    ·refine sN<|cT<|gS rfl rfl<|sM rfl<|sM rfl<|sM rfl<|sM rfl ?_
     cases h
    refine sN<|cF<|qK<|qS<|gS rfl rfl<|sM rfl<|sU<|sN<|cF<|qK<|gS rfl rfl<|sM rfl<|sM rfl<|sM rfl<|sM rfl ?_
    cases h
   intro e R' B' he hq
   obtain⟨rfl,hf⟩:=hq
   cases oI h
   exact hf
theorem jj{a1:Int}{a2:Int}{a3:Int}{d0:(List az)}{r:(List az)}(h:cB a1 a2 a3 d0=some r):EvP prog aB ext 135 [.ref 0 0,rI a1,rI a2,rI a3,.d (.raw (.func (.func 69) #[.agg #[]] #[]))] [.arr 0 86 (d0.map az.pd)] (.tup [],[.arr 0 86 (r.map az.pd)]):=
  let⟨n,hn⟩:=zY h;iO n hn
theorem la{d0:(List az)}{r:(List az)}(h:dl d0=some r):EvP prog aB ext 68 [.ref 0 0,.d (.raw (.func (.func 69) #[.agg #[]] #[]))] [.arr 0 86 (d0.map az.pd)] (.tup [],[.arr 0 86 (r.map az.pd)]):=by
 refine Ev.body rfl Tryz.func68 rfl (by kernel_rfl)<|gS rfl rfl<|sM rfl<|WO.uT rfl rfl rfl rfl rfl rfl rfl rfl rfl<|sA rfl<|sN<|WC.region rfl rfl<|sM rfl<|sM rfl<|sM rfl<|sV (.d (.int .u64 (IntKind.wrap .u64 (d0.length:Int))))<|bE h fun x1 hx1 h=>cD (nr hx1)<|sM rfl<|bE h fun x2 hx2 h=>?_
 refine cR (.tup []) [(0,.arr 0 86 (x2.map az.pd))] (jj hx2)<|sN ?_
 exact oI h▸qD
theorem fb{a0:ak}{a1:aq}{a2:(List ac)}{r:(List az)×(List ac)×Int}(h:dC a0 a1 a2=some r):EvP prog aB ext 20 [.d (ak.pd a0),.d (aq.pd a1),rM ac.pd a2] [] (.tup [rM az.pd r.1,rM ac.pd r.2.1,rI r.2.2],[]):=by
 refine Ev.body rfl Tryz.func20 rfl (by kernel_rfl)<|gS rfl rfl<|sB (.ptr 48 0) 48 (.var (ak.rc a0))<|sB (.ptr 64 0) 64 (.var [rM ar.pd a1.aI])<|sV .dg<|sV .dg<|sV (r0)<|sN<|gS rfl rfl<|sV (.d (ak.pd a0))<|sV (.d (aq.pd a1))<|sM rfl<|bE h fun x1 hx1 h=>cR (.tup [rM ac.pd x1.1,rM al.pd x1.2.1,rI x1.2.2]) [] (pb hx1)<|sM rfl ?_
 refine sV (rM ac.pd x1.1)<|sV (rM al.pd x1.2.1)<|sV (rI x1.2.2)<|sA rfl<|sA rfl<|sA rfl<|sN<|qS<|gS rfl rfl<|sM rfl<|sF h (fun h=>?_) fun h=>?_
 ·refine sN<|cT<|gS rfl rfl<|sM rfl<|sV .dg<|sV .dg<|sA rfl<|sN<|qR ?_
  cases oI h
  exact qG
 refine sN<|cF<|qK<|gS rfl rfl<|sV (.ptr 48 0)<|sV (.d (aJ.pd a0.ag))<|sM rfl<|bE h fun x3 hx3 h=>cR (.tup [rM ba.pd x3.1,rL x3.2.1,rI x3.2.2]) [] (oA hx3)<|sM rfl<|sV (rM ba.pd x3.1)<|sV (rL x3.2.1)<|sV (rI x3.2.2)<|sA rfl<|sA rfl ?_
 refine sA rfl<|sN<|qS<|gS rfl rfl<|sM rfl<|sF h (fun h=>?_) fun h=>?_
 ·refine sN<|cT<|gS rfl rfl<|sM rfl<|sV .dg<|sV .dg<|sA rfl<|sN<|qR ?_
  cases oI h
  exact qG
 refine sN<|cF<|qK<|gS rfl rfl<|sV .dg<|sN<|qS<|gS rfl rfl<|sM rfl<|sE (rI (x3.1.length:Int)) (fB _ _)<|sV (r0)<|sN<|bE h fun o28 ho28 h=>WC.block (WC.loop (WL.gE ho28 (fun s R' B'=>b8 prog 0 (A R' B') (aB.at_ 20 0 9)=some (A [(3,.ptr 48 0),(4,.ptr 64 0),(9,rM ac.pd x1.1),(13,rL x3.2.1),(14,.ref 1360 0),(47,rM ba.pd x3.1),(48,rI (x3.1.length:Int)),(49,rI s.1)] [(48,.var (ak.rc a0)),(64,.var [rM ar.pd a1.aI]),(1360,.arr 0 86 (s.2.map az.pd))])) (fun o e R' B'=>match o with| .inl y=>e= .exit 0∧b8 prog 0 (A R' B') (aB.at_ 20 0 22)=some (A [(9,rM ac.pd x1.1),(13,rL x3.2.1),(14,.ref 1360 0)] [(1360,.arr 0 86 (y.map az.pd))])| .inr r=>e= .ret∧finish prog (aB.own 20) Tryz.f20 0 (A R' B')=some (.tup [rM az.pd r.1,rM ac.pd r.2.1,rI r.2.2],[])) rfl ?_ ?_))
 ·rintro⟨s5,s6⟩ R' B' q8 hI h
  refine gS rfl hI<|sF h (fun h=>?_) fun h=>?_
  ·refine sN<|qS<|cT<|qK<|qS<|qB<|gS rfl rfl<|bE h fun x10 hx10 h=>eG hx10 rfl<|sV (.d (ba.pd x10))<|sB (.ptr 256 0) 256 (.var [.dg,r0,r0,r0,r0])<|sS 256 (.var (ba.rc x10))<|sN<|gS rfl rfl<|sV .dg ?_
   refine sN<|qS<|gS rfl rfl<|sV (.ptr 256 0)<|sL rfl<|sE (rI (x10.cw.length:Int)) (fB _ _)<|sV (r0)<|sN<|bE h fun o22 ho22 h=>WC.block (WC.loop (WL.gE ho22 (fun s R' B'=>b8 prog 0 (A R' B') (aB.at_ 20 0 13)=some (A [(3,.ptr 48 0),(4,.ptr 64 0),(9,rM ac.pd x1.1),(13,rL x3.2.1),(14,.ref 1360 0),(17,.ref 1056 0),(47,rM ba.pd x3.1),(48,rI (x3.1.length:Int)),(49,rI s5),(54,rL x10.cw),(55,rI (x10.cw.length:Int)),(56,rI s.1)] [(48,.var (ak.rc a0)),(64,.var [rM ar.pd a1.aI]),(1056,.arr 0 66 (s.2.map ac.pd)),(1360,.arr 0 86 (s6.map az.pd))])) (fun o e R' B'=>e= .exit 2∧b8 prog 0 (A R' B') (aB.at_ 20 0 17)=some (A [(3,.ptr 48 0),(4,.ptr 64 0),(9,rM ac.pd x1.1),(13,rL x3.2.1),(14,.ref 1360 0),(17,.ref 1056 0),(47,rM ba.pd x3.1),(48,rI (x3.1.length:Int)),(49,rI o.1)] [(48,.var (ak.rc a0)),(64,.var [rM ar.pd a1.aI]),(1056,.arr 0 66 (o.2.2.map ac.pd)),(1360,.arr 0 86 (o.2.1.map az.pd))])) rfl ?_ ?_))
   ·rintro⟨s11,s12⟩ R' B' q16 hI h
    refine gS rfl hI<|sF h (fun h=>?_) fun h=>?_
    ·refine sN<|qS<|cT<|qK<|qS<|qB<|gS rfl rfl<|bE h fun x18 hx18 h=>eG hx18 rfl<|sC rfl<|sA rfl<|sN<|WC.region rfl rfl<|sM rfl<|sM rfl ?_
     refine sM rfl<|bE h fun x19 hx19 h=>eG hx19 rfl<|sV (.d (ac.pd x19))<|sG (.d (.lst ([x19].map ac.pd)))<|bE h fun x20 hx20 h=>aR hx20 (fun _=>rfl) rfl<|sA rfl<|sN<|WC.region rfl rfl<|sV (rI (rW (s11+(1:Int))))<|sM rfl<|sN ?_
     cases oI h
     exact⟨rfl,rfl⟩
    refine sN<|qS<|cF<|qX ?_
    cases oI h
    exact⟨nofun,rfl,rfl⟩
   intro e R' B' he hq
   obtain⟨rfl,hI⟩:=hq
   refine qE<|gS rfl hI<|sV (.d (ak.pd a0))<|sV (.d (aq.pd a1))<|sM rfl<|bE h fun x23 hx23 h=>cR (.tup [.d (bf.pd x23.1),rI x23.2]) [(1056,.dead)] (sg hx23)<|sM rfl<|sV (.d (bf.pd x23.1))<|sV (rI x23.2)<|sB (.ptr 320 0) 320 (.var zZ1)<|sH 320 (.var (bf.rc x23.1))<|sA rfl<|sN<|qS ?_
   refine gS rfl rfl<|sM rfl<|sF h (fun h=>?_) fun h=>?_
   ·refine sN<|cT<|gS rfl rfl<|sM rfl<|sV .dg<|sV .dg<|sA rfl<|sN<|qR ?_
    cases oI h
    exact⟨nofun,rfl,rfl⟩
   refine sN<|cF<|qK<|WC.oi rfl rfl<|sM rfl<|sV (.ptr 320 0)<|sL rfl<|bE h fun x25 hx25 h=>cD (qL hx25)<|sV (.d (bf.pd x23.1))<|sG (.d (.agg [.str x25.aC.aY,.str x25.aC.aM,.str x25.aC.aj,.str x25.aC.a7,.int .i64 x25.a8,.int .i64 x25.aP,.int .i64 x25.bh,.int .i64 x25.aS,.int .i64 x25.aT,.lst (x23.1.bo.map ac.pd),.int .i64 x23.1.aj.aV.fX,.int .i64 x23.1.aj.aV.fY,.int .i64 x23.1.aj.aV.fZ,.int .i64 x23.1.aj.a8,.int .i64 x23.1.aj.bj,.int .i64 x23.1.aj.dm,.int .i64 x23.1.aj.aX.aK.fX,.int .i64 x23.1.aj.aX.aK.fY,.int .i64 x23.1.aj.aX.aK.fZ,.int .i64 x23.1.aj.aX.aG.fX,.int .i64 x23.1.aj.aX.aG.fY,.int .i64 x23.1.aj.aX.aG.fZ,.int .i64 x23.1.bq.aK,.int .i64 x23.1.bq.aG,.int .i64 x23.1.eM]))<|sG (.d (.lst ([(az.mk x25 x23.1)].map az.pd)))<|bE h fun x26 hx26 h=>aR hx26 (fun _=>rfl) rfl<|sA rfl ?_
   refine sN<|sO<|WC.region rfl rfl<|sV (rI (rW (o22.1+(1:Int))))<|sM rfl<|sN ?_
   cases oI h
   exact⟨rfl,rfl⟩
  refine sN<|qS<|cF<|qX ?_
  cases oI h
  exact⟨nofun,rfl,rfl⟩
 intro e R' B' he hq
 rcases o28 with y29|r30
 ·obtain⟨rfl,hI⟩:=hq
  refine qE<|gS rfl hI<|sM rfl<|sV (.d (e9.pd (e9.mk )))<|sV (.d (.raw (.func (.func 69) #[.agg #[]] #[])))<|bE h fun x31 hx31 h=>cR (.tup []) [(1360,.arr 0 86 (x31.map az.pd))] (la hx31)<|sN<|gS rfl rfl<|sV .dg<|sN<|qS<|gS rfl rfl<|sM rfl<|sE (rI (x3.2.1.length:Int)) (fB _ _) ?_
  refine sV (r0)<|sN<|bE h fun o41 ho41 h=>WC.block (WC.loop (WL.gE ho41 (fun s R' B'=>b8 prog 0 (A R' B') (aB.at_ 20 0 25)=some (A [(9,rM ac.pd x1.1),(14,.ref 1360 0),(22,.ref 1648 0),(91,rL x3.2.1),(92,rI (x3.2.1.length:Int)),(93,rI s.1)] [(1360,.arr 0 86 (x31.map az.pd)),(1648,.arr 0 66 (s.2.map ac.pd))])) (fun o e R' B'=>e= .exit 4∧b8 prog 0 (A R' B') (aB.at_ 20 0 29)=some (A [(14,.ref 1360 0),(22,.ref 1648 0)] [(1360,.arr 0 86 (x31.map az.pd)),(1648,.arr 0 66 (o.map ac.pd))])) rfl ?_ ?_))
  ·rintro⟨s32,s33⟩ R' B' q35 hI h
   refine gS rfl hI<|sF h (fun h=>?_) fun h=>?_
   ·refine sN<|qS<|cT<|qK<|qS<|qB<|gS rfl rfl<|bE h fun x37 hx37 h=>eG hx37 rfl<|sC rfl<|sA rfl<|sN<|WC.region rfl rfl<|sM rfl<|sM rfl ?_
    refine sM rfl<|bE h fun x38 hx38 h=>eG hx38 rfl<|sV (.d (ac.pd x38))<|sG (.d (.lst ([x38].map ac.pd)))<|bE h fun x39 hx39 h=>aR hx39 (fun _=>rfl) rfl<|sA rfl<|sN<|WC.region rfl rfl<|sV (rI (rW (s32+(1:Int))))<|sM rfl<|sN ?_
    cases oI h
    exact⟨rfl,rfl⟩
   refine sN<|qS<|cF<|qX ?_
   cases oI h
   exact⟨nofun,rfl,rfl⟩
  intro e R' B' he hq
  obtain⟨rfl,hI⟩:=hq
  refine qE<|gS rfl hI<|sM rfl<|sM rfl<|sA rfl<|sA rfl<|sV (r0)<|sN<|qR ?_
  exact oI h▸qD
 obtain⟨rfl,hf⟩:=hq
 cases oI h
 exact hf
theorem mq{a0:az}{d0:ac}{r:Bool}(h:lq a0 d0=some r):EvP prog aB ext 91 [.d (az.pd a0),.ptr 0 0] [.var (ac.rc d0)] (rB r,[.var (ac.rc d0)]):=by
 refine Ev.body rfl Tryz.func91 rfl (by kernel_rfl)<|gS rfl rfl<|sB (.ptr 32 0) 32 (.var (az.rc a0))<|sU<|sN<|gS rfl rfl<|sV (.ptr 32 0)<|sV (.d (ac.pd a0.bd))<|sV (.d (ac.pd d0))<|WO.bin (oF a0.bd d0) rfl rfl rfl rfl rfl<|sA rfl<|sN<|qR ?_
 cases oI h
 exact qG
theorem lH{a0:(List az)}{d0:ac}{r:Int}(h:eY a0 d0=some r):EvP prog aB ext 90 [rM az.pd a0,.clo 91 [.ptr 0 0]] [.var (ac.rc d0)] (rI r,[.var (ac.rc d0)]):=by
 refine Ev.body rfl Tryz.func90 rfl (by kernel_rfl)<|gS rfl rfl<|sV (r0)<|sN<|qS<|gS rfl rfl<|sM rfl<|sE (rI (a0.length:Int)) (fB _ _)<|sV (r0)<|sN<|bE h fun o8 ho8 h=>WC.block (WC.loop (WL.gE ho8 (fun s R' B'=>b8 prog 1 (A R' B') (aB.at_ 90 1 2)=some (A [(0,rM az.pd a0),(1,.clo 91 [.ptr 0 0]),(7,rI (a0.length:Int)),(8,rI s)] [(0,.var (ac.rc d0))])) (fun o e R' B'=>match o with| .inl y=>e= .exit 0∧b8 prog 1 (A R' B') (aB.at_ 90 1 7)=some (A [] [(0,.var (ac.rc d0))])| .inr r=>e= .ret∧finish prog (aB.own 90) Tryz.f90 1 (A R' B')=some (rI r,[.var (ac.rc d0)])) rfl ?_ ?_))
 ·rintro s1 R' B' q2 hI h
  refine gS rfl hI<|sF h (fun h=>?_) fun h=>?_
  ·refine sN<|qS<|cT<|qK<|qS<|qB<|gS rfl rfl<|sM rfl<|sA rfl<|sN<|gS rfl rfl<|sM rfl<|sM rfl<|sM rfl<|bE h fun x4 hx4 h=>?_
   refine eG hx4 rfl<|sV (.d (az.pd x4))<|bE h fun x5 hx5 h=>nX h (fun hb6 h=>?_) (fun hb6 h=>?_)
   ·refine WO.qA (v:=rB true) (u:=[(0,.var (ac.rc d0))]) rfl rfl (fun _=>rfl) rfl rfl rfl rfl rfl (mq hx5) rfl rfl (congrArg (fun b=>RV.d (.bool b)) hb6) rfl<|sN<|cT<|gS rfl rfl<|sM rfl<|sA rfl<|sN<|qR ?_
    cases oI h
    exact⟨nofun,rfl,rfl⟩
   refine WO.qA (v:=rB false) (u:=[(0,.var (ac.rc d0))]) rfl rfl (fun _=>rfl) rfl rfl rfl rfl rfl (mq hx5) rfl rfl (congrArg (fun b=>RV.d (.bool b)) hb6) rfl<|sN<|cF<|qK<|WC.region rfl rfl<|sV (rI (rW (s1+(1:Int))))<|sM rfl<|sN ?_
   cases oI h
   exact⟨rfl,rfl⟩
  refine sN<|qS<|cF<|qX ?_
  cases oI h
  exact⟨nofun,rfl,rfl⟩
 intro e R' B' he hq
 rcases o8 with y9|r10
 ·obtain⟨rfl,hI⟩:=hq
  refine qE<|gS rfl hI<|sV (rI (-1))<|sN<|qR ?_
  cases oI h
  exact qG
 obtain⟨rfl,hf⟩:=hq
 cases oI h
 exact hf
theorem pE{a0:(List az)}{a1:ac}{r:Int}(h:iR a0 a1=some r):EvP prog aB ext 39 [rM az.pd a0,.d (ac.pd a1)] [] (rI r,[]):=by
 refine Ev.body rfl Tryz.func39 rfl (by kernel_rfl)<|gS rfl rfl<|sB (.ptr 48 0) 48 (.var (ac.rc a1))<|sV (r0)<|sN<|gS rfl rfl<|sM rfl<|sV (.clo 91 [.ptr 48 0])<|bE h fun x1 hx1 h=>cR (rI x1) [(48,.var (ac.rc a1))] (lH hx1)<|sA rfl<|sN<|qR ?_
 cases oI h
 exact qG
theorem gy{r:Bool}(h:fN=some r):EvP prog aB ext 23 [] [] (rB r,[]):=by
 refine Ev.body rfl Tryz.func23 rfl (by kernel_rfl)<|gS rfl rfl<|sU<|sN<|gS rfl rfl<|bE h fun x1 hx1 h=>cR (.ptr 192 0) [(192,.var (ae.rc x1))] (lX hx1)<|sA rfl<|sN<|gS rfl rfl<|sM rfl<|bE h fun x2 hx2 h=>cR (.d (ak.pd x2.1)) [(192,.var (ae.rc x2.2))] (ig hx2)<|sM rfl<|bE h fun x3 hx3 h=>?_
 refine cR (.d (aq.pd x3.1)) [(192,.var (ae.rc x3.2))] (kL hx3)<|sB (.ptr 32 0) 32 (.var zZ0)<|sB (.ptr 48 0) 48 (.var [.dg])<|sH 32 (.var (ak.rc x2.1))<|sS 48 (.var [rM ar.pd x3.1.aI])<|sN<|gS rfl rfl<|bE h fun x4 hx4 h=>cD (gx hx4)<|sG (.d (ac.pd (ac.mk x4 2500 2500 2500 10 0)))<|sB (.ptr 64 0) 64 (.var zZ3)<|sH 64 (.var (aw.rc x4++[rI 2500,rI 2500,rI 2500,rI 10,r0]))<|sN<|gS rfl rfl<|sV (.d (ac.pd (ac.mk x4 2500 2500 2500 10 0))) ?_
 refine sB (.ptr 80 0) 80 (.var zZ3)<|sH 80 (.var (aw.rc x4++[rI 2500,rI 2500,rI 2500,rI 10,r0]))<|sN<|gS rfl rfl<|sV (.ptr 80 7)<|sS 80 (.var (aw.rc x4++[rI 2500,rI 2500,rI 2500,rI 11,r0]))<|sN<|gS rfl rfl<|sV (.d (ak.pd x2.1))<|sV (.d (.agg [.lst (x3.1.aI.map ar.pd)]))<|sV (.d (ac.pd (ac.mk x4 2500 2500 2500 11 0)))<|sV (.d (ac.pd (ac.mk x4 2500 2500 2500 10 0)))<|sG (.d (.lst ([(ac.mk x4 2500 2500 2500 11 0),(ac.mk x4 2500 2500 2500 10 0)].map ac.pd)))<|bE h fun x5 hx5 h=>cR (.tup [rM az.pd x5.1,rM ac.pd x5.2.1,rI x5.2.2]) [] (fb hx5) ?_
 refine sM rfl<|sV (rM az.pd x5.1)<|sV (rM ac.pd x5.2.1)<|sV (rI x5.2.2)<|sA rfl<|sA rfl<|sA rfl<|sN<|gS rfl rfl<|sV (.d (ak.pd x2.1))<|sV (.d (.agg [.lst (x3.1.aI.map ar.pd)]))<|bE h fun x6 hx6 h=>cR (.tup [rM az.pd x6.1,rM ac.pd x6.2.1,rI x6.2.2]) [] (fb hx6)<|sM rfl<|sV (rM az.pd x6.1) ?_
 refine sV (rM ac.pd x6.2.1)<|sV (rI x6.2.2)<|sA rfl<|sA rfl<|sA rfl<|sN<|WC.cI rfl rfl<|sM rfl<|sF h (fun h=>?_) fun h=>?_
 ·refine sM rfl<|sM rfl<|sE (rI (x5.1.length:Int)) (fB _ _)<|sV (rB ((x5.1.length:Int)==(1:Int)))<|sF h (fun h=>?_) fun h=>?_
  ·refine sM rfl<|sM rfl<|sE (rI (x5.2.1.length:Int)) (fB _ _)<|sV (rB ((x5.2.1.length:Int)==(0:Int)))<|sF h (fun h=>?_) fun h=>?_
   ·refine sM rfl<|sM rfl<|bE h fun x10 hx10 h=>eG hx10 rfl<|sV (.cptr [.str x10.bd.aC.aY,.str x10.bd.aC.aM,.str x10.bd.aC.aj,.str x10.bd.aC.a7,.int .i64 x10.bd.a8,.int .i64 x10.bd.aP,.int .i64 x10.bd.bh,.int .i64 x10.bd.aS,.int .i64 x10.bd.aT,.lst (x10.ap.bo.map ac.pd),.int .i64 x10.ap.aj.aV.fX,.int .i64 x10.ap.aj.aV.fY,.int .i64 x10.ap.aj.aV.fZ,.int .i64 x10.ap.aj.a8,.int .i64 x10.ap.aj.bj,.int .i64 x10.ap.aj.dm,.int .i64 x10.ap.aj.aX.aK.fX,.int .i64 x10.ap.aj.aX.aK.fY,.int .i64 x10.ap.aj.aX.aK.fZ,.int .i64 x10.ap.aj.aX.aG.fX,.int .i64 x10.ap.aj.aX.aG.fY,.int .i64 x10.ap.aj.aX.aG.fZ,.int .i64 x10.ap.bq.aK,.int .i64 x10.ap.bq.aG,.int .i64 x10.ap.eM])<|sV (.d (ac.pd x10.bd))<|sV (.d (ac.pd (ac.mk x4 2500 2500 2500 10 0)))<|WO.bin (oF x10.bd (ac.mk x4 2500 2500 2500 10 0)) rfl rfl rfl rfl rfl<|sF h (fun h=>?_) fun h=>?_
    ·refine sM rfl<|sM rfl<|bE h fun x12 hx12 h=>eG hx12 rfl<|sV (.cptr [.lst (x12.ap.bo.map ac.pd),.int .i64 x12.ap.aj.aV.fX,.int .i64 x12.ap.aj.aV.fY,.int .i64 x12.ap.aj.aV.fZ,.int .i64 x12.ap.aj.a8,.int .i64 x12.ap.aj.bj,.int .i64 x12.ap.aj.dm,.int .i64 x12.ap.aj.aX.aK.fX,.int .i64 x12.ap.aj.aX.aK.fY,.int .i64 x12.ap.aj.aX.aK.fZ,.int .i64 x12.ap.aj.aX.aG.fX,.int .i64 x12.ap.aj.aX.aG.fY,.int .i64 x12.ap.aj.aX.aG.fZ,.int .i64 x12.ap.bq.aK,.int .i64 x12.ap.bq.aG,.int .i64 x12.ap.eM])<|sV (.cptr [.lst (x12.ap.bo.map ac.pd),.int .i64 x12.ap.aj.aV.fX,.int .i64 x12.ap.aj.aV.fY,.int .i64 x12.ap.aj.aV.fZ,.int .i64 x12.ap.aj.a8,.int .i64 x12.ap.aj.bj,.int .i64 x12.ap.aj.dm,.int .i64 x12.ap.aj.aX.aK.fX,.int .i64 x12.ap.aj.aX.aK.fY,.int .i64 x12.ap.aj.aX.aK.fZ,.int .i64 x12.ap.aj.aX.aG.fX,.int .i64 x12.ap.aj.aX.aG.fY,.int .i64 x12.ap.aj.aX.aG.fZ,.int .i64 x12.ap.bq.aK,.int .i64 x12.ap.bq.aG,.int .i64 x12.ap.eM])<|sC rfl<|sE (rI (x12.ap.bo.length:Int)) (fB _ _)<|sV (rB ((x12.ap.bo.length:Int)==(2:Int)))<|sF h (fun h=>?_) fun h=>?_
     ·refine sM rfl<|sM rfl<|sV (rB (x6.2.2==(0:Int)))<|sF h (fun h=>?_) fun h=>?_
      ·refine sM rfl<|sM rfl<|sE (rI (x6.1.length:Int)) (fB _ _)<|sV (rB ((x6.1.length:Int)==(0:Int)))<|sF h (fun h=>?_) fun h=>?_
       ·refine sM rfl<|sM rfl<|sV (.d (ac.pd (ac.mk x4 2500 2500 2500 10 0)))<|bE h fun x16 hx16 h=>cD (pE hx16)<|sV (rB (x16==(0:Int)))<|sF h (fun h=>?_) fun h=>?_
        ·refine sM rfl<|sM rfl<|sV (.d (ac.pd (ac.mk x4 2500 2500 2500 11 0)))<|bE h fun x18 hx18 h=>cD (pE hx18)<|sV (rB (x18==(-1:Int)))<|sV (rB (x18==(-1:Int)))<|sA rfl ?_
         refine sN<|sO<|qR ?_
         cases oI h
         exact qG
        refine sM rfl<|k3<|sK<|sU<|sA rfl ?_
        refine sN<|sO<|qR ?_
        cases oI h
        exact qG
       refine sM rfl<|k3<|sK<|sU<|sM rfl<|k3<|sK<|sU<|sA rfl ?_
       refine sN<|sO<|qR ?_
       cases oI h
       exact qG
      refine sM rfl<|k3<|sU<|sM rfl<|k3<|sK<|sU<|sM rfl<|sK<|sK<|sK ?_
      refine sK<|sU<|sA rfl ?_
      refine sN<|sO<|qR ?_
      cases oI h
      exact qG
     refine sM rfl<|sK<|sK<|sU<|sM rfl<|k3<|sU<|sM rfl<|k3<|sK<|sU ?_
     refine sM rfl<|k3<|sK<|sU<|sA rfl ?_
     refine sN<|sO<|qR ?_
     cases oI h
     exact qG
    refine sM rfl<|k3<|k3<|sK<|sU<|sM rfl<|sK<|sK<|sU<|sM rfl<|sK ?_
    refine sK<|sK<|sU<|sM rfl<|k3<|sK<|sU<|sM rfl<|k3<|sK<|sU ?_
    refine sA rfl ?_
    refine sN<|sO<|qR ?_
    cases oI h
    exact qG
   refine sM rfl<|k3<|k3<|sU<|sM rfl<|k3<|sK<|sK<|sK ?_
   refine sK<|sU<|sM rfl<|sK<|sK<|sU<|sM rfl<|k3<|sU<|sM rfl<|sK<|sK<|sK ?_
   refine sK<|sU<|sM rfl<|k3<|sK<|sU<|sA rfl ?_
   refine sN<|sO<|qR ?_
   cases oI h
   exact qG
  refine sM rfl<|k3<|sU<|sM rfl<|k3<|k3<|sU<|sM rfl<|sK ?_
  refine k3<|k3<|sU<|sM rfl<|sK<|sK<|sU<|sM rfl<|sK<|sK<|sK ?_
  refine sU<|sM rfl<|k3<|sK<|sU<|sM rfl<|k3<|sK<|sU<|sA rfl ?_
  refine sN<|sO<|qR ?_
  cases oI h
  exact qG
 refine sM rfl<|k3<|sU<|sM rfl<|k3<|sU<|sM rfl<|k3<|sK ?_
 refine sK<|sK<|sU<|sM rfl<|k3<|k3<|sK<|sU<|sM rfl<|sK<|sK ?_
 refine sU<|sM rfl<|k3<|sU<|sM rfl<|k3<|sK<|sU<|sM rfl<|sK<|sK ?_
 refine sK<|sK<|sU<|sA rfl ?_
 refine sN<|sO<|qR ?_
 cases oI h
 exact qG
end Go.Dw.Et
