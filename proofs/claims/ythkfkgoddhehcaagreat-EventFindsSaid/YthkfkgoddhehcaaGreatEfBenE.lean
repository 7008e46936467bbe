
import Derived.Test.YthkfkgoddhehcaaGreatEfEvA
open Go.IntKind renaming wrap->GV
open Go.Dw.WC renaming region->Gb

set_option maxRecDepth 100000
set_option maxHeartbeats 4000000
namespace Go.Dw.Ef
open Go.Proofs Go.Proofs.Tryz Go.Dw
theorem Src_Raw_evB{d0:ah}{r:Int×ah}(h:sD d0=some r):EvP prog bj ext0 57 [.ptr 0 0] [.var [.d (.lst (d0.fL.map (PD.int .i64))),.d (.int .i64 d0.fAt)]] (.d (.int .i64 r.1),[.var [.d (.lst (r.2.fL.map (PD.int .i64))),.d (.int .i64 r.2.fAt)]]):=by
 refine Ev.body rfl Tryz.func57 rfl (by kernel_rfl)<|gS rfl rfl<|sV (.d (.int .i64 0))<|sN<|qS<|WC.tw rfl rfl<|sM rfl<|sV (.ptr 0 0)<|sV (.ptr 0 1)<|sL rfl<|sM rfl<|sV (.ptr 0 0)<|sV (.ptr 0 0)<|sL rfl<|sE (.d (.int .i64 (d0.fL.length:Int))) (uf _ _) ?_
 refine sF h (λh=>?_) λh=>?_
 ·refine sN<|sO<|cT<|gS rfl rfl<|sV (.d (.int .i64 0))<|sN<|qR ?_
  obtain rfl:=oI h
  exact qD
 refine sN<|sO<|cF<|qK<|gS rfl rfl<|sM rfl<|sV (.ptr 0 0)<|sV (.ptr 0 1)<|sL rfl<|sV (.d (.int .i64 (GV .i64 (d0.fAt+(1:Int)))))<|sV (.ptr 0 0)<|sV (.ptr 0 1)<|sS 0 (.var [.d (.lst (d0.fL.map (PD.int .i64))),.d (.int .i64 (GV .i64 (d0.fAt+(1:Int))))])<|sN<|WC.tw rfl rfl<|sM rfl ?_
 refine sV (.ptr 0 0)<|sV (.ptr 0 0)<|sL rfl<|sM rfl<|sV (.ptr 0 0)<|sV (.ptr 0 1)<|sL rfl<|sV (.d (.int .i64 (GV .i64 ((GV .i64 (d0.fAt+(1:Int)))-(1:Int)))))<|bE h λc a h=>WO.Bk a rfl rfl rfl rfl rfl rfl rfl rfl rfl<|sC rfl<|sA rfl ?_
 refine sN<|sO<|qR ?_
 obtain rfl:=oI h
 exact qD
theorem keep_Mod_evB{a0:Int}{a1:Int}{r:Int}(h:pK a0 a1=some r):EvP prog bj ext0 52 [.d (.int .i64 a0),.d (.int .i64 a1)] [] (.d (.int .i64 r),[]):=by
 refine Ev.body rfl Tryz.func52 rfl (by kernel_rfl)<|gS rfl rfl<|sV (.d (.int .i64 0))<|sN<|qS<|gS rfl rfl<|sM rfl<|sF h (λh=>?_) λh=>?_
 ·refine sN<|cT<|gS rfl rfl<|sV (.d (.int .i64 0))<|sN<|qR ?_
  obtain rfl:=oI h
  exact qD
 refine sN<|cF<|qK<|gS rfl rfl<|sM rfl<|sM rfl<|bE h λc a h=>WO.remG a rfl rfl rfl rfl rfl rfl<|sA rfl<|sN<|qS<|gS rfl rfl<|sM rfl<|sF h (λh=>?_) λh=>?_
 ·refine sN<|cT<|Gb rfl rfl<|sM rfl<|sM rfl<|sV (.d (.int .i64 (GV .i64 (c+a1))))<|sA rfl<|sN<|gS rfl rfl<|sM rfl<|sA rfl<|sN<|qR ?_
  obtain rfl:=oI h
  exact qD
 refine sN<|cF<|qK<|gS rfl rfl<|sM rfl<|sA rfl<|sN<|qR ?_
 obtain rfl:=oI h
 exact qD
theorem Src_N_evB{a1:Int}{d0:ah}{r:Int×ah}(h:dS a1 d0=some r):EvP prog bj ext0 29 [.ptr 0 0,.d (.int .i64 a1)] [.var [.d (.lst (d0.fL.map (PD.int .i64))),.d (.int .i64 d0.fAt)]] (.d (.int .i64 r.1),[.var [.d (.lst (r.2.fL.map (PD.int .i64))),.d (.int .i64 r.2.fAt)]]):=by
 refine Ev.body rfl Tryz.func29 rfl (by kernel_rfl)<|gS rfl rfl<|sV (.d (.int .i64 0))<|sN<|gS rfl rfl<|sM rfl<|bE h λf a h=>cR (.d (.int .i64 f.1)) [(0,.var [.d (.lst (f.2.fL.map (PD.int .i64))),.d (.int .i64 f.2.fAt)])] (Src_Raw_evB a)<|sM rfl<|bE h λg c h=>cD (keep_Mod_evB c)<|sA rfl<|sN<|qR ?_
 obtain rfl:=oI h
 exact qD
theorem Src_BentP_evB{a1:ag}{d0:ah}{r:ag×ah}(h:Src_BentP a1 d0=some r):EvP prog bj ext0 12 [.ptr 0 0,.d (ag.pd a1)] [.var [.d (.lst (d0.fL.map (PD.int .i64))),.d (.int .i64 d0.fAt)]] (.d (ag.pd r.1),[.var [.d (.lst (r.2.fL.map (PD.int .i64))),.d (.int .i64 r.2.fAt)]]):=by
 refine Ev.body rfl Tryz.func12 rfl (by kernel_rfl)<|gS rfl rfl<|sB (.ptr 48 0) 48 (.var [.d (.lst (a1.bp.map av.pd))])<|sB (.ptr 64 0) 64 (.var [.tC])<|sN<|gS rfl rfl<|sB (.ptr 80 0) 80 (.var [.tC])<|sN<|qS<|gS rfl rfl<|sV (.ptr 48 0)<|sL rfl<|sE (.d (.int .i64 (a1.bp.length:Int))) (uf _ _)<|sV (.d (.int .i64 0))<|sN ?_
 refine bE h λY t h=>WC.block (WC.loop (WL.tS t (λs q p=>tH prog 1 (A q p) (bj.at_ 12 1 3)=some (A [(0,.ptr 0 0),(4,.ptr 64 0),(5,.ptr 80 0),(10,.d (.lst (a1.bp.map av.pd))),(11,.d (.int .i64 (a1.bp.length:Int))),(12,.d (.int .i64 s.1))] [(0,.var [.d (.lst (d0.fL.map (PD.int .i64))),.d (.int .i64 d0.fAt)]),(64,.var [.tC]),(80,.var [.ref 400 0]),(400,.arr 0 67 (s.2.map av.pd))])) (λo e q p=>e= .exit 0∧tH prog 1 (A q p) (bj.at_ 12 1 8)=some (A [(0,.ptr 0 0),(4,.ptr 64 0),(5,.ptr 80 0)] [(0,.var [.d (.lst (d0.fL.map (PD.int .i64))),.d (.int .i64 d0.fAt)]),(64,.var [.tC]),(80,.var [.ref 400 0]),(400,.arr 0 67 (o.map av.pd))])) rfl ?_ ?_))
 ·rintro⟨s1,s2⟩ q p q4 N h
  refine gS rfl N<|sF h (λh=>?_) λh=>?_
  ·refine sN<|qS<|cT<|qK<|qS<|qB<|gS rfl rfl<|bE h λk O h=>WO.Bk O rfl rfl rfl rfl rfl rfl rfl rfl rfl<|sV (.d (av.pd k))<|sB (.ptr 112 0) 112 (.var [.d (.str []),.d (.str []),.d (.str []),.d (.str []),.tC])<|sS 112 (.var [.d (.str k.az.bI),.d (.str k.az.bB),.d (.str k.az.bg),.d (.str k.az.bL),.d (.lst (k.bF.map bi.pd))])<|sN<|gS rfl rfl<|sB (.ref 256 0) 256 (.arr 0 75 (([]:List bi).map bi.pd)) ?_
   refine sV (.ptr 112 4)<|sL rfl<|bE h λx7 Q h=>WO.appR Q (λ_=>rfl) rfl rfl rfl rfl rfl rfl rfl rfl rfl rfl rfl rfl rfl rfl<|sV (.ptr 112 4)<|sS 112 (.var [.d (.str k.az.bI),.d (.str k.az.bB),.d (.str k.az.bg),.d (.str k.az.bL),.ref 256 1])<|sN<|Gb rfl rfl<|sV (.ptr 80 0)<|sL rfl<|sV (.agg [.d (.str k.az.bI),.d (.str k.az.bB),.d (.str k.az.bg),.d (.str k.az.bL),.ref 256 1])<|sB (.d (.lst [av.pd (av.mk k.az x7)])) 256 .dead<|bE h λx8 T h=>WO.appR T (λ_=>rfl) rfl rfl rfl rfl rfl rfl rfl rfl rfl rfl rfl rfl rfl rfl<|sV (.ptr 80 0) ?_
   refine sS 80 (.var [.ref 400 1])<|sN<|Gb rfl rfl<|sV (.d (.int .i64 (GV .i64 (s1+(1:Int)))))<|sM rfl<|sN ?_
   obtain rfl:=oI h
   exact⟨rfl,rfl⟩
  refine sN<|qS<|cF<|qX ?_
  obtain rfl:=oI h
  exact⟨(λhe=>by cases he),rfl,rfl⟩
 intro e q p he X
 obtain⟨rfl,N⟩:=X
 refine qE<|qS<|gS rfl N<|sV (.ptr 80 0)<|sL rfl<|WO.Au rfl rfl rfl rfl rfl rfl rfl rfl rfl<|sF h (λh=>?_) λh=>?_
 ·refine sN<|cT<|gS rfl rfl<|sV (.agg [.ref 400 0])<|sS 64 (.var [.ref 400 0])<|sN<|qR ?_
  obtain rfl:=oI h
  exact qD
 refine sN<|cF<|qK<|WC.tw rfl rfl<|sV (.ptr 80 0)<|sL rfl<|sM rfl<|sV (.ptr 80 0)<|sL rfl<|WO.Au rfl rfl rfl rfl rfl rfl rfl rfl rfl<|bE h λa x h=>cR (.d (.int .i64 a.1)) [(0,.var [.d (.lst (a.2.fL.map (PD.int .i64))),.d (.int .i64 a.2.fAt)])] (Src_N_evB x)<|bE h λa5 y h=>WO.uS y rfl rfl rfl rfl rfl rfl rfl rfl<|sA rfl ?_
 refine sN<|sO<|qS<|gS rfl rfl<|sM rfl<|bE h λl z h=>cR (.d (.int .i64 l.1)) [(0,.var [.d (.lst (l.2.fL.map (PD.int .i64))),.d (.int .i64 l.2.fAt)])] (Src_N_evB z)<|sN<|qB<|gS rfl rfl<|sF h (λh=>?_) λh=>?_
 ·refine sA rfl<|sN<|cT<|Gb rfl rfl<|sM rfl<|sV (.elt 400 0 (a.1).toNat 0)<|sV (.elt 400 0 (a.1).toNat 0)<|sV (.elt 400 0 (a.1).toNat 1)<|bE h λa6 B h=>WO.BD (g:=av.pd) (u:=[]) (sz:=1) B (λ_=>rfl) (λ_=>Nat.le_of_ble_eq_true rfl) rfl rfl rfl rfl rfl rfl rfl rfl rfl rfl rfl<|sN<|gS rfl rfl<|sV (.agg [.ref 400 0])<|sS 64 (.var [.ref 400 0])<|sN ?_
  refine qR ?_
  obtain rfl:=oI h
  exact qD
 refine sA rfl<|sN<|cF<|gS rfl rfl<|sF h (λh=>?_) λh=>?_
 ·refine sA rfl<|sN<|cT<|WC.uI rfl rfl<|sM rfl<|sV (.elt 400 0 (a.1).toNat 0)<|sV (.elt 400 0 (a.1).toNat 4)<|bE h λa7 C h=>WO.uw C rfl rfl rfl rfl rfl rfl<|sM rfl<|sV (.elt 400 0 (a.1).toNat 0)<|sV (.elt 400 0 (a.1).toNat 4)<|bE h λa8 D h=>WO.uw D rfl rfl rfl rfl rfl rfl<|bE h λj E h=>?_
  refine WO.Bk E rfl rfl rfl rfl rfl rfl rfl rfl rfl<|sV (.cptr [.int .i64 j.fTo,.int .i64 j.nP.bR,.int .i64 j.nP.bO,.int .i64 j.bW.fX,.int .i64 j.bW.fY,.int .i64 j.bW.fZ,.lst (j.b7.bJ.map bw.pd)])<|sC rfl<|bE h λc F h=>WO.Bk F rfl rfl rfl rfl rfl rfl rfl rfl rfl<|sV (.cptr [.int .i64 c.ck,.int .i64 c.fTo,.int .i64 c.nP.bR,.int .i64 c.nP.bO,.int .i64 c.bW.fX,.int .i64 c.bW.fY,.int .i64 c.bW.fZ,.lst (c.b7.bJ.map bw.pd)]) ?_
  cases h
 refine sA rfl<|sN<|cF<|gS rfl rfl<|sF h (λh=>?_) λh=>?_
 ·refine sA rfl<|sN<|cT<|Gb rfl rfl<|sM rfl<|sV (.elt 400 0 (a.1).toNat 0)<|sV (.elt 400 0 (a.1).toNat 4)<|bE h λa9 G h=>WO.uw G rfl rfl rfl rfl rfl rfl<|bE h λf H h=>WO.Bk H rfl rfl rfl rfl rfl rfl rfl rfl rfl<|sV (.cptr [.int .i64 f.bW.fX,.int .i64 f.bW.fY,.int .i64 f.bW.fZ,.lst (f.b7.bJ.map bw.pd)])<|sV (.cptr [.int .i64 f.bW.fX,.int .i64 f.bW.fY,.int .i64 f.bW.fZ,.lst (f.b7.bJ.map bw.pd)]) ?_
  cases h
 refine sA rfl<|sN<|cF<|gS rfl rfl<|sF h (λh=>?_) λh=>?_
 ·refine sA rfl<|sN<|cT<|WC.uI rfl rfl<|sV (.ptr 80 0)<|sL rfl<|sV (.ptr 80 0)<|sL rfl<|bE h λb0 I h=>WO.uS I rfl rfl rfl rfl rfl rfl rfl rfl<|bE h λW J h=>WO.uw J rfl rfl rfl rfl rfl rfl<|sV (.d (.lst ([W].map av.pd)))<|bE h λb3 K h=>WO.appR K (λ_=>rfl) rfl rfl rfl rfl rfl rfl rfl rfl rfl rfl rfl rfl rfl rfl ?_
  refine sV (.ptr 80 0)<|sS 80 (.var [.ref 400 1]) ?_
  refine sN<|sO<|gS rfl rfl<|sV (.agg [.ref 400 1])<|sS 64 (.var [.ref 400 1])<|sN<|qR ?_
  obtain rfl:=oI h
  exact qD
 refine sA rfl<|sN<|cF<|Gb rfl rfl<|sM rfl<|sV (.elt 400 0 (a.1).toNat 0)<|sV (.elt 400 0 (a.1).toNat 4)<|bE h λb4 L h=>WO.BD (g:=av.pd) (u:=[]) (sz:=1) L (λ_=>rfl) (λ_=>Nat.le_of_ble_eq_true rfl) rfl rfl rfl rfl rfl rfl rfl rfl rfl rfl rfl<|sN<|gS rfl rfl<|sV (.agg [.ref 400 0])<|sS 64 (.var [.ref 400 0])<|sN<|qR ?_
 obtain rfl:=oI h
 exact qD
end Go.Dw.Ef
