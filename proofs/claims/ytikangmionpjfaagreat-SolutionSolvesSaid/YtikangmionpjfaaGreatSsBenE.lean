
import Derived.Test.YtikangmionpjfaaGreatSsEvA
open Go.IntKind renaming wrap->Dt
open Go.Dw.WC renaming region->EH

set_option maxRecDepth 100000
set_option maxHeartbeats 4000000
namespace Go.Dw.Ss
open Go.Proofs Go.Proofs.Tryz Go.Dw
theorem Src_Raw_evB{d0:ag}{r:Int×ag}(h:oH d0=some r):EvP prog bi ext0 62 [.ptr 0 0] [.var [.d (.lst (d0.fL.map (PD.int .i64))),.d (.int .i64 d0.fAt)]] (.d (.int .i64 r.1),[.var [.d (.lst (r.2.fL.map (PD.int .i64))),.d (.int .i64 r.2.fAt)]]):=by
 refine Ev.body rfl Tryz.func62 rfl (by kernel_rfl)<|gS rfl rfl<|sV (.d (.int .i64 0))<|sN<|qS<|WC.pg rfl rfl<|sM rfl<|sV (.ptr 0 0)<|sV (.ptr 0 1)<|sL rfl<|sM rfl<|sV (.ptr 0 0)<|sV (.ptr 0 0)<|sL rfl<|sE (.d (.int .i64 (d0.fL.length:Int))) (qy _ _) ?_
 refine sF h (fun h=>?_) fun h=>?_
 ·refine sN<|sO<|cT<|gS rfl rfl<|sV (.d (.int .i64 0))<|sN<|qR ?_
  obtain rfl:=oI h
  exact qD
 refine sN<|sO<|cF<|qK<|gS rfl rfl<|sM rfl<|sV (.ptr 0 0)<|sV (.ptr 0 1)<|sL rfl<|sV (.d (.int .i64 (Dt .i64 (d0.fAt+(1:Int)))))<|sV (.ptr 0 0)<|sV (.ptr 0 1)<|sS 0 (.var [.d (.lst (d0.fL.map (PD.int .i64))),.d (.int .i64 (Dt .i64 (d0.fAt+(1:Int))))])<|sN<|WC.pg rfl rfl<|sM rfl ?_
 refine sV (.ptr 0 0)<|sV (.ptr 0 0)<|sL rfl<|sM rfl<|sV (.ptr 0 0)<|sV (.ptr 0 1)<|sL rfl<|sV (.d (.int .i64 (Dt .i64 ((Dt .i64 (d0.fAt+(1:Int)))-(1:Int)))))<|bE h fun c a h=>WO.xn a rfl rfl rfl rfl rfl rfl rfl rfl rfl<|sC rfl<|sA rfl ?_
 refine sN<|sO<|qR ?_
 obtain rfl:=oI h
 exact qD
theorem keep_Mod_evB{a0:Int}{a1:Int}{r:Int}(h:mN a0 a1=some r):EvP prog bi ext0 59 [.d (.int .i64 a0),.d (.int .i64 a1)] [] (.d (.int .i64 r),[]):=by
 refine Ev.body rfl Tryz.func59 rfl (by kernel_rfl)<|gS rfl rfl<|sV (.d (.int .i64 0))<|sN<|qS<|gS rfl rfl<|sM rfl<|sF h (fun h=>?_) fun h=>?_
 ·refine sN<|cT<|gS rfl rfl<|sV (.d (.int .i64 0))<|sN<|qR ?_
  obtain rfl:=oI h
  exact qD
 refine sN<|cF<|qK<|gS rfl rfl<|sM rfl<|sM rfl<|bE h fun c a h=>WO.remG a rfl rfl rfl rfl rfl rfl<|sA rfl<|sN<|qS<|gS rfl rfl<|sM rfl<|sF h (fun h=>?_) fun h=>?_
 ·refine sN<|cT<|EH rfl rfl<|sM rfl<|sM rfl<|sV (.d (.int .i64 (Dt .i64 (c+a1))))<|sA rfl<|sN<|gS rfl rfl<|sM rfl<|sA rfl<|sN<|qR ?_
  obtain rfl:=oI h
  exact qD
 refine sN<|cF<|qK<|gS rfl rfl<|sM rfl<|sA rfl<|sN<|qR ?_
 obtain rfl:=oI h
 exact qD
theorem Src_N_evB{a1:Int}{d0:ag}{r:Int×ag}(h:cY a1 d0=some r):EvP prog bi ext0 32 [.ptr 0 0,.d (.int .i64 a1)] [.var [.d (.lst (d0.fL.map (PD.int .i64))),.d (.int .i64 d0.fAt)]] (.d (.int .i64 r.1),[.var [.d (.lst (r.2.fL.map (PD.int .i64))),.d (.int .i64 r.2.fAt)]]):=by
 refine Ev.body rfl Tryz.func32 rfl (by kernel_rfl)<|gS rfl rfl<|sV (.d (.int .i64 0))<|sN<|gS rfl rfl<|sM rfl<|bE h fun f a h=>cR (.d (.int .i64 f.1)) [(0,.var [.d (.lst (f.2.fL.map (PD.int .i64))),.d (.int .i64 f.2.fAt)])] (Src_Raw_evB a)<|sM rfl<|bE h fun g c h=>cD (keep_Mod_evB c)<|sA rfl<|sN<|qR ?_
 obtain rfl:=oI h
 exact qD
theorem Src_BentP_evB{a1:ac}{d0:ag}{r:ac×ag}(h:Src_BentP a1 d0=some r):EvP prog bi ext0 12 [.ptr 0 0,.d (ac.pd a1)] [.var [.d (.lst (d0.fL.map (PD.int .i64))),.d (.int .i64 d0.fAt)]] (.d (ac.pd r.1),[.var [.d (.lst (r.2.fL.map (PD.int .i64))),.d (.int .i64 r.2.fAt)]]):=by
 refine Ev.body rfl Tryz.func12 rfl (by kernel_rfl)<|gS rfl rfl<|sB (.ptr 48 0) 48 (.var [.d (.lst (a1.bg.map aq.pd))])<|sB (.ptr 64 0) 64 (.var [.px])<|sN<|gS rfl rfl<|sB (.ptr 80 0) 80 (.var [.px])<|sN<|qS<|gS rfl rfl<|sV (.ptr 48 0)<|sL rfl<|sE (.d (.int .i64 (a1.bg.length:Int))) (qy _ _)<|sV (.d (.int .i64 0))<|sN ?_
 refine bE h fun Y t h=>WC.block (WC.loop (WL.qz t (fun s q p=>pK prog 1 (A q p) (bi.at_ 12 1 3)=some (A [(0,.ptr 0 0),(4,.ptr 64 0),(5,.ptr 80 0),(10,.d (.lst (a1.bg.map aq.pd))),(11,.d (.int .i64 (a1.bg.length:Int))),(12,.d (.int .i64 s.1))] [(0,.var [.d (.lst (d0.fL.map (PD.int .i64))),.d (.int .i64 d0.fAt)]),(64,.var [.px]),(80,.var [.ref 400 0]),(400,.arr 0 81 (s.2.map aq.pd))])) (fun o e q p=>e= .exit 0∧pK prog 1 (A q p) (bi.at_ 12 1 8)=some (A [(0,.ptr 0 0),(4,.ptr 64 0),(5,.ptr 80 0)] [(0,.var [.d (.lst (d0.fL.map (PD.int .i64))),.d (.int .i64 d0.fAt)]),(64,.var [.px]),(80,.var [.ref 400 0]),(400,.arr 0 81 (o.map aq.pd))])) rfl ?_ ?_))
 ·rintro⟨s1,s2⟩ q p q4 N h
  refine gS rfl N<|sF h (fun h=>?_) fun h=>?_
  ·refine sN<|qS<|cT<|qK<|qS<|qB<|gS rfl rfl<|bE h fun k O h=>WO.xn O rfl rfl rfl rfl rfl rfl rfl rfl rfl<|sV (.d (aq.pd k))<|sB (.ptr 112 0) 112 (.var [.d (.str []),.d (.str []),.d (.str []),.d (.str []),.px])<|sS 112 (.var [.d (.str k.bc.bH),.d (.str k.bc.bv),.d (.str k.bc.bd),.d (.str k.bc.bL),.d (.lst (k.bA.map ba.pd))])<|sN<|gS rfl rfl<|sB (.ref 256 0) 256 (.arr 0 89 (([]:List ba).map ba.pd)) ?_
   refine sV (.ptr 112 4)<|sL rfl<|bE h fun x7 Q h=>WO.appR Q (fun _=>rfl) rfl rfl rfl rfl rfl rfl rfl rfl rfl rfl rfl rfl rfl rfl<|sV (.ptr 112 4)<|sS 112 (.var [.d (.str k.bc.bH),.d (.str k.bc.bv),.d (.str k.bc.bd),.d (.str k.bc.bL),.ref 256 1])<|sN<|EH rfl rfl<|sV (.ptr 80 0)<|sL rfl<|sV (.agg [.d (.str k.bc.bH),.d (.str k.bc.bv),.d (.str k.bc.bd),.d (.str k.bc.bL),.ref 256 1])<|sB (.d (.lst [aq.pd (aq.mk k.bc x7)])) 256 .dead<|bE h fun x8 T h=>WO.appR T (fun _=>rfl) rfl rfl rfl rfl rfl rfl rfl rfl rfl rfl rfl rfl rfl rfl<|sV (.ptr 80 0) ?_
   refine sS 80 (.var [.ref 400 1])<|sN<|EH rfl rfl<|sV (.d (.int .i64 (Dt .i64 (s1+(1:Int)))))<|sM rfl<|sN ?_
   obtain rfl:=oI h
   exact⟨rfl,rfl⟩
  refine sN<|qS<|cF<|qX ?_
  obtain rfl:=oI h
  exact⟨(fun he=>by cases he),rfl,rfl⟩
 intro e q p he X
 obtain⟨rfl,N⟩:=X
 refine qE<|qS<|gS rfl N<|sV (.ptr 80 0)<|sL rfl<|WO.lenR rfl rfl rfl rfl rfl rfl rfl rfl rfl<|sF h (fun h=>?_) fun h=>?_
 ·refine sN<|cT<|gS rfl rfl<|sV (.agg [.ref 400 0])<|sS 64 (.var [.ref 400 0])<|sN<|qR ?_
  obtain rfl:=oI h
  exact qD
 refine sN<|cF<|qK<|WC.pg rfl rfl<|sV (.ptr 80 0)<|sL rfl<|sM rfl<|sV (.ptr 80 0)<|sL rfl<|WO.lenR rfl rfl rfl rfl rfl rfl rfl rfl rfl<|bE h fun a x h=>cR (.d (.int .i64 a.1)) [(0,.var [.d (.lst (a.2.fL.map (PD.int .i64))),.d (.int .i64 a.2.fAt)])] (Src_N_evB x)<|bE h fun a5 y h=>WO.uf y rfl rfl rfl rfl rfl rfl rfl rfl<|sA rfl ?_
 refine sN<|sO<|qS<|gS rfl rfl<|sM rfl<|bE h fun l z h=>cR (.d (.int .i64 l.1)) [(0,.var [.d (.lst (l.2.fL.map (PD.int .i64))),.d (.int .i64 l.2.fAt)])] (Src_N_evB z)<|sN<|qB<|gS rfl rfl<|sF h (fun h=>?_) fun h=>?_
 ·refine sA rfl<|sN<|cT<|EH rfl rfl<|sM rfl<|sV (.elt 400 0 (a.1).toNat 0)<|sV (.elt 400 0 (a.1).toNat 0)<|sV (.elt 400 0 (a.1).toNat 1)<|bE h fun a6 B h=>WO.yI (g:=aq.pd) (u:=[]) (sz:=1) B (fun _=>rfl) (fun _=>Nat.le_of_ble_eq_true rfl) rfl rfl rfl rfl rfl rfl rfl rfl rfl rfl rfl<|sN<|gS rfl rfl<|sV (.agg [.ref 400 0])<|sS 64 (.var [.ref 400 0])<|sN ?_
  refine qR ?_
  obtain rfl:=oI h
  exact qD
 refine sA rfl<|sN<|cF<|gS rfl rfl<|sF h (fun h=>?_) fun h=>?_
 ·refine sA rfl<|sN<|cT<|WC.uK rfl rfl<|sM rfl<|sV (.elt 400 0 (a.1).toNat 0)<|sV (.elt 400 0 (a.1).toNat 4)<|bE h fun a7 C h=>WO.ry C rfl rfl rfl rfl rfl rfl<|sM rfl<|sV (.elt 400 0 (a.1).toNat 0)<|sV (.elt 400 0 (a.1).toNat 4)<|bE h fun a8 D h=>WO.ry D rfl rfl rfl rfl rfl rfl<|bE h fun j E h=>?_
  refine WO.xn E rfl rfl rfl rfl rfl rfl rfl rfl rfl<|sV (.cptr [.int .i64 j.fTo,.int .i64 j.lj.bI,.int .i64 j.lj.bG,.int .i64 j.bM.fX,.int .i64 j.bM.fY,.int .i64 j.bM.fZ,.lst (j.bQ.bD.map bq.pd)])<|sC rfl<|bE h fun c F h=>WO.xn F rfl rfl rfl rfl rfl rfl rfl rfl rfl<|sV (.cptr [.int .i64 c.b8,.int .i64 c.fTo,.int .i64 c.lj.bI,.int .i64 c.lj.bG,.int .i64 c.bM.fX,.int .i64 c.bM.fY,.int .i64 c.bM.fZ,.lst (c.bQ.bD.map bq.pd)]) ?_
  cases h
 refine sA rfl<|sN<|cF<|gS rfl rfl<|sF h (fun h=>?_) fun h=>?_
 ·refine sA rfl<|sN<|cT<|EH rfl rfl<|sM rfl<|sV (.elt 400 0 (a.1).toNat 0)<|sV (.elt 400 0 (a.1).toNat 4)<|bE h fun a9 G h=>WO.ry G rfl rfl rfl rfl rfl rfl<|bE h fun f H h=>WO.xn H rfl rfl rfl rfl rfl rfl rfl rfl rfl<|sV (.cptr [.int .i64 f.bM.fX,.int .i64 f.bM.fY,.int .i64 f.bM.fZ,.lst (f.bQ.bD.map bq.pd)])<|sV (.cptr [.int .i64 f.bM.fX,.int .i64 f.bM.fY,.int .i64 f.bM.fZ,.lst (f.bQ.bD.map bq.pd)]) ?_
  cases h
 refine sA rfl<|sN<|cF<|gS rfl rfl<|sF h (fun h=>?_) fun h=>?_
 ·refine sA rfl<|sN<|cT<|WC.uK rfl rfl<|sV (.ptr 80 0)<|sL rfl<|sV (.ptr 80 0)<|sL rfl<|bE h fun b0 I h=>WO.uf I rfl rfl rfl rfl rfl rfl rfl rfl<|bE h fun W J h=>WO.ry J rfl rfl rfl rfl rfl rfl<|sV (.d (.lst ([W].map aq.pd)))<|bE h fun b3 K h=>WO.appR K (fun _=>rfl) rfl rfl rfl rfl rfl rfl rfl rfl rfl rfl rfl rfl rfl rfl ?_
  refine sV (.ptr 80 0)<|sS 80 (.var [.ref 400 1]) ?_
  refine sN<|sO<|gS rfl rfl<|sV (.agg [.ref 400 1])<|sS 64 (.var [.ref 400 1])<|sN<|qR ?_
  obtain rfl:=oI h
  exact qD
 refine sA rfl<|sN<|cF<|EH rfl rfl<|sM rfl<|sV (.elt 400 0 (a.1).toNat 0)<|sV (.elt 400 0 (a.1).toNat 4)<|bE h fun b4 L h=>WO.yI (g:=aq.pd) (u:=[]) (sz:=1) L (fun _=>rfl) (fun _=>Nat.le_of_ble_eq_true rfl) rfl rfl rfl rfl rfl rfl rfl rfl rfl rfl rfl<|sN<|gS rfl rfl<|sV (.agg [.ref 400 0])<|sS 64 (.var [.ref 400 0])<|sN<|qR ?_
 obtain rfl:=oI h
 exact qD
end Go.Dw.Ss
