
import Derived.Test.YtgiepghgloiinaaGreatDoorIxFn
import Derived.Test.YtgiepghgloiinaaGreatDoorDwShort
import Derived.Test.YtgiepghgloiinaaGreatDoorDwNest
import Derived.Test.YtgiepghgloiinaaGreatDoorDwDeepL
import Derived.Test.YtgiepghgloiinaaGreatDoorProg
set_option linter.unusedVariables false
set_option linter.unusedSimpArgs false
open Go.Dw.WC renaming block->CM, cP->CN, lf->CO, loop->CQ, region->CR
open Go.IntKind renaming wrap->CH
open Nat renaming le_of_ble_eq_true->CT
open Int renaming toNat->CI

set_option maxRecDepth 100000
set_option maxHeartbeats 4000000
namespace Go.Dw.Ix
open Go.Proofs Go.Proofs.Tryz Go.Dw
def extO:FuncId->Option ko:=fun _=>none
def hintAtO:FuncId->Nat->Nat->List oV:=fun f a id=>
  if f=8 then(if a=1 then(if id=5 then [.opnd 144 25 92608]else if id=20 then [.opnd 92608 37 80560]else if id=22 then [.clsd 144,.flatd 144 0,.fN [4,5] [0,64,80,144]]else if id=24 then [.flatd 92608 0,.fN [4,5,6,7] [0,64,80,144,92608]]else if id=25 then [.clsd 92608,.flatd 144 1,.flatd 92608 0,.clsd 144,.flatd 144 0,.fN [4,5] [0,64,80,144]]else [])else [])else if f=33 then(if a=0 then(if id=3 then [.ownd (.cell 48 0) 816 32 4 41 [(7,84)],.fN [1,2,3,4] [16,32,48,816]]else if id=7 then [.ownd (.cell 80 4) 720 41 7 84 [],.fN [1,2,3,4,5,6] [16,32,48,80,720,816]]else if id=10 then [.fN [1,2,3,4,5] [16,32,48,80,720,816]]else if id=11 then [.fN [2,3] [32,48,816]]else [])else [])else if f=97 then(if a=0 then(if id=3 then [.ownp (.cell 48 0) 416 84,.fN [1,2,3,4] [16,32,48,416]]else if id=8 then [.fN [2,3] [32,48,416]]else [])else [])else []
def eV:Hints:={ at_:=hintAtO,mt:=fun f i=>(f==33&&i==1048620)||(f==33&&i==1048626),by_:=fun f i=>false,own:=fun f i=>(f==33&&i==0)||(f==63&&i==0)||(f==97&&i==0) }
theorem ref18_Copy_evB{a0:ar}{r:ar}(h:gP a0=some r):EvP prog eV extO 97 [.d (ar.pd a0)] [] (.agg [.ref 0 0],[.arr 0 84 (r.aA.map ak.pd)]):=by
 refine Ev.body rfl Tryz.func97 rfl (by kernel_rfl)<|gS rfl rfl<|sB (.ptr 16 0) 16 (.var [.d (.lst (a0.aA.map ak.pd))])<|sB (.ptr 32 0) 32 (.var [.jt])<|sN<|gS rfl rfl<|sB (.ptr 48 0) 48 (.var [.jt])<|sN<|qS<|gS rfl rfl<|sV (.d (.int .i64 0))<|sN<|bE h fun m f h=>CM (CQ (WL.jZ f (fun s c b=>kx prog 0 (A c b) (eV.at_ 97 0 3)=some (A [(1,.ptr 16 0),(2,.ptr 32 0),(3,.ptr 48 0),(4,.d (.int .i64 s.1))] [(16,.var [.d (.lst (a0.aA.map ak.pd))]),(32,.var [.jt]),(48,.var [.ref 416 0]),(416,.arr 0 84 (s.2.map ak.pd))])) (fun o e c b=>e= .exit 0∧kx prog 0 (A c b) (eV.at_ 97 0 8)=some (A [(2,.ptr 32 0),(3,.ptr 48 0)] [(32,.var [.jt]),(48,.var [.ref 416 0]),(416,.arr 0 84 (o.map ak.pd))])) rfl ?_ ?_))
 ·rintro⟨s1,s2⟩ c b p g h
  refine qS<|gS rfl g<|sM rfl<|sV (.ptr 16 0)<|sL rfl<|sE (.d (.int .i64 (a0.aA.length:Int))) (ik _ _)<|sF h (fun h=>?_) fun h=>?_
  ·refine sN<|cT<|qK<|qS<|qB<|gS rfl rfl<|sV (.ptr 16 0)<|sL rfl<|sM rfl<|bE h fun a i h=>WO.oP i rfl rfl rfl rfl rfl rfl rfl rfl rfl<|sV (.d (ak.pd a))<|sB (.ptr 80 0) 80 (.var [.d (.int .i64 0),.d (.int .i64 0),.d (.int .i64 0),.d (.int .i64 0),.d (.int .i64 0),.d (.int .i64 0),.d (.int .i64 0),.jt,.d (.int .i64 0),.d (.int .i64 0)])<|sH 80 (.var [.d (.int .i64 a.aQ),.d (.int .i64 a.aI.a0),.d (.int .i64 a.aI.a1),.d (.int .i64 a.aI.a2),.d (.int .i64 a.aH.a0),.d (.int .i64 a.aH.a1),.d (.int .i64 a.aH.a2),.d (.lst (a.aO.map (PD.int .i64))),.d (.int .i64 a.aJ),.d (.int .i64 a.aS)])<|sN ?_
   refine gS rfl rfl<|sV (.ptr 80 7)<|sL rfl<|bE h fun n j h=>WO.appN j (fun _=>rfl) rfl rfl rfl rfl rfl rfl rfl rfl rfl rfl rfl rfl rfl rfl<|sV (.ptr 80 7)<|sS 80 (.var [.d (.int .i64 a.aQ),.d (.int .i64 a.aI.a0),.d (.int .i64 a.aI.a1),.d (.int .i64 a.aI.a2),.d (.int .i64 a.aH.a0),.d (.int .i64 a.aH.a1),.d (.int .i64 a.aH.a2),.ref 320 0,.d (.int .i64 a.aJ),.d (.int .i64 a.aS)])<|sN<|CR rfl rfl<|sV (.ptr 48 0)<|sL rfl<|sV (.agg [.d (.int .i64 a.aQ),.d (.int .i64 a.aI.a0),.d (.int .i64 a.aI.a1),.d (.int .i64 a.aI.a2),.d (.int .i64 a.aH.a0),.d (.int .i64 a.aH.a1),.d (.int .i64 a.aH.a2),.ref 320 0,.d (.int .i64 a.aJ),.d (.int .i64 a.aS)])<|sB (.d (.lst [ak.pd (ak.mk a.aQ a.aI a.aH n a.aJ a.aS)])) 320 .dead<|bE h fun q k h=>WO.appR k (fun _=>rfl) rfl rfl rfl rfl rfl rfl rfl rfl rfl rfl rfl rfl rfl rfl ?_
   refine sV (.ptr 48 0)<|sS 48 (.var [.ref 416 1])<|sN<|CR rfl rfl<|sM rfl<|sV (.d (.int .i64 (CH .i64 (s1+(1:Int)))))<|sA rfl<|sN ?_
   obtain rfl:=oI h
   exact⟨rfl,rfl⟩
  refine sN<|cF<|qX ?_
  obtain rfl:=oI h
  exact⟨(fun he=>by cases he),rfl,rfl⟩
 intro e c b he l
 obtain⟨rfl,g⟩:=l
 refine qE<|gS rfl g<|sV (.agg [.ref 416 0])<|sS 32 (.var [.ref 416 0])<|sN<|qR ?_
 obtain rfl:=oI h
 exact qD
theorem jo{a0:ah}{r:ah}(h:cx a0=some r):EvP prog eV extO 63 [.d (ah.pd a0)] [] (.agg [.d (.int .i64 r.az),.d (.int .i64 r.fTo),.d (.int .i64 r.aM.aI),.d (.int .i64 r.aM.aH),.d (.int .i64 r.aq.fX),.d (.int .i64 r.aq.fY),.d (.int .i64 r.aq.fZ),.ref 0 0],[.arr 0 84 (r.aB.aA.map ak.pd)]):=by
 refine Ev.body rfl Tryz.func63 rfl (by kernel_rfl)<|gS rfl rfl<|sB (.ptr 16 0) 16 (.var [.d (.int .i64 a0.az),.d (.int .i64 a0.fTo),.d (.int .i64 a0.aM.aI),.d (.int .i64 a0.aM.aH),.d (.int .i64 a0.aq.fX),.d (.int .i64 a0.aq.fY),.d (.int .i64 a0.aq.fZ),.d (.lst (a0.aB.aA.map ak.pd))])<|sB (.ptr 32 0) 32 (.var [.d (.int .i64 0),.d (.int .i64 0),.d (.int .i64 0),.d (.int .i64 0),.d (.int .i64 0),.d (.int .i64 0),.d (.int .i64 0),.jt])<|sN<|gS rfl rfl<|sV (.ptr 16 7)<|sV (.d (ar.pd a0.aB))<|bE h fun b a h=>cR (.agg [.ref 80 0]) [(80,.arr 0 84 (b.aA.map ak.pd))] (ref18_Copy_evB a)<|sV (.ptr 16 7)<|sS 16 (.var [.d (.int .i64 a0.az),.d (.int .i64 a0.fTo),.d (.int .i64 a0.aM.aI),.d (.int .i64 a0.aM.aH),.d (.int .i64 a0.aq.fX),.d (.int .i64 a0.aq.fY),.d (.int .i64 a0.aq.fZ),.ref 80 0])<|sN<|gS rfl rfl<|sV (.agg [.d (.int .i64 a0.az),.d (.int .i64 a0.fTo),.d (.int .i64 a0.aM.aI),.d (.int .i64 a0.aM.aH),.d (.int .i64 a0.aq.fX),.d (.int .i64 a0.aq.fY),.d (.int .i64 a0.aq.fZ),.ref 80 0]) ?_
 refine sH 32 (.var [.d (.int .i64 a0.az),.d (.int .i64 a0.fTo),.d (.int .i64 a0.aM.aI),.d (.int .i64 a0.aM.aH),.d (.int .i64 a0.aq.fX),.d (.int .i64 a0.aq.fY),.d (.int .i64 a0.aq.fZ),.ref 80 0])<|sN<|qR ?_
 obtain rfl:=oI h
 exact qG
theorem ref19_Copy_evB{a0:ai}{r:ai}(h:eZ a0=some r):EvP prog eV extO 33 [.d (ai.pd a0)] [] (.agg [.ref 0 0],[.deep 0 32 (r.am.map aa.pd) 4 41 [(7,84)] none]):=by
 refine Ev.body rfl Tryz.func33 rfl (by kernel_rfl)<|gS rfl rfl<|sB (.ptr 16 0) 16 (.var [.d (.lst (a0.am.map aa.pd))])<|sB (.ptr 32 0) 32 (.var [.jt])<|sN<|gS rfl rfl<|sB (.ptr 48 0) 48 (.var [.jt])<|sN<|qS<|gS rfl rfl<|sV (.d (.int .i64 0))<|sN<|bE h fun C j h=>CM (CQ (WL.jZ j (fun s f c=>kx prog 0 (A f c) (eV.at_ 33 0 3)=some (A [(1,.ptr 16 0),(2,.ptr 32 0),(3,.ptr 48 0),(4,.d (.int .i64 s.1))] [(16,.var [.d (.lst (a0.am.map aa.pd))]),(32,.var [.jt]),(48,.var [.ref 816 0]),(816,.deep 0 32 (s.2.map aa.pd) 4 41 [(7,84)] none)])) (fun o e f c=>e= .exit 0∧kx prog 0 (A f c) (eV.at_ 33 0 11)=some (A [(2,.ptr 32 0),(3,.ptr 48 0)] [(32,.var [.jt]),(48,.var [.ref 816 0]),(816,.deep 0 32 (o.map aa.pd) 4 41 [(7,84)] none)])) rfl ?_ ?_))
 ·rintro⟨s1,s2⟩ f c H g h
  refine qS<|gS rfl g<|sM rfl<|sV (.ptr 16 0)<|sL rfl<|sE (.d (.int .i64 (a0.am.length:Int))) (ik _ _)<|sF h (fun h=>?_) fun h=>?_
  ·refine sN<|cT<|qK<|qS<|qB<|gS rfl rfl<|sV (.ptr 16 0)<|sL rfl<|sM rfl<|bE h fun a y h=>WO.oP y rfl rfl rfl rfl rfl rfl rfl rfl rfl<|sV (.cptr [.str a.aj.aD,.str a.aj.aC,.str a.aj.au,.str a.aj.aF,.lst (a.al.map ah.pd)])<|sV (.d (ac.pd a.aj))<|sV (.agg [.d (.str a.aj.aD),.d (.str a.aj.aC),.d (.str a.aj.au),.d (.str a.aj.aF),.jt])<|sB (.ptr 80 0) 80 (.var [.d (.str []),.d (.str []),.d (.str []),.d (.str []),.jt]) ?_
   refine sS 80 (.var [.d (.str a.aj.aD),.d (.str a.aj.aC),.d (.str a.aj.au),.d (.str a.aj.aF),.jt])<|sN<|qS<|gS rfl rfl<|sV (.d (.int .i64 0))<|sN<|bE h fun t i h=>CM (CQ (WL.jZ i (fun s f c=>kx prog 0 (A f c) (eV.at_ 33 0 7)=some (A [(1,.ptr 16 0),(2,.ptr 32 0),(3,.ptr 48 0),(4,.d (.int .i64 s1)),(5,.ptr 80 0),(6,.d (.int .i64 s.1))] [(16,.var [.d (.lst (a0.am.map aa.pd))]),(32,.var [.jt]),(48,.var [.ref 816 0]),(80,.var [.d (.str a.aj.aD),.d (.str a.aj.aC),.d (.str a.aj.au),.d (.str a.aj.aF),.ref 720 0]),(720,.deep 0 41 (s.2.map ah.pd) 7 84 [] none),(816,.deep 0 32 (s2.map aa.pd) 4 41 [(7,84)] none)])) (fun o e f c=>e= .exit 2∧kx prog 0 (A f c) (eV.at_ 33 0 10)=some (A [(1,.ptr 16 0),(2,.ptr 32 0),(3,.ptr 48 0),(4,.d (.int .i64 o.1)),(5,.ptr 80 0)] [(16,.var [.d (.lst (a0.am.map aa.pd))]),(32,.var [.jt]),(48,.var [.ref 816 0]),(80,.var [.d (.str a.aj.aD),.d (.str a.aj.aC),.d (.str a.aj.au),.d (.str a.aj.aF),.ref 720 0]),(720,.deep 0 41 (o.2.2.map ah.pd) 7 84 [] none),(816,.deep 0 32 (o.2.1.map aa.pd) 4 41 [(7,84)] none)])) rfl ?_ ?_))
   ·rintro⟨E,I⟩ f c D g h
    unfold cN at h
    refine qS<|gS rfl g<|sM rfl<|sV (.ptr 16 0)<|sL rfl<|sM rfl<|bE h fun v k h=>WO.oP k rfl rfl rfl rfl rfl rfl rfl rfl rfl<|sV (.cptr [.lst (v.al.map ah.pd)])<|sC rfl<|sE (.d (.int .i64 (v.al.length:Int))) (ik _ _)<|sF h (fun h=>?_) fun h=>?_
    ·refine sN<|cT<|qK<|qS<|qB<|CO rfl rfl<|sV (.ptr 80 4)<|sL rfl<|sV (.ptr 16 0)<|sL rfl<|sM rfl<|bE h fun z l h=>WO.oP l rfl rfl rfl rfl rfl rfl rfl rfl rfl<|sV (.cptr [.lst (z.al.map ah.pd)])<|sC rfl ?_
     refine sM rfl<|bE h fun B m h=>WO.oP m rfl rfl rfl rfl rfl rfl rfl rfl rfl<|sV (.d (ah.pd B))<|bE h fun b n h=>cR (.agg [.d (.int .i64 b.az),.d (.int .i64 b.fTo),.d (.int .i64 b.aM.aI),.d (.int .i64 b.aM.aH),.d (.int .i64 b.aq.fX),.d (.int .i64 b.aq.fY),.d (.int .i64 b.aq.fZ),.ref 688 0]) [(688,.arr 0 84 (b.aB.aA.map ak.pd))] (jo n)<|sG (.rlit [.d (.int .i64 b.az),.d (.int .i64 b.fTo),.d (.int .i64 b.aM.aI),.d (.int .i64 b.aM.aH),.d (.int .i64 b.aq.fX),.d (.int .i64 b.aq.fY),.d (.int .i64 b.aq.fZ),.ref 688 0])<|bE h fun F p h=>WO.appP (u:=[(688,.dead)]) (row:=b.aB.aA.map ak.pd) p rfl rfl rfl rfl rfl rfl rfl rfl rfl rfl rfl rfl rfl rfl rfl rfl rfl rfl rfl<|sV (.ptr 80 4)<|sS 80 (.var [.d (.str a.aj.aD),.d (.str a.aj.aC),.d (.str a.aj.au),.d (.str a.aj.aF),.ref 720 1]) ?_
     refine sN<|sO<|CR rfl rfl<|sM rfl<|sV (.d (.int .i64 (CH .i64 (E+(1:Int)))))<|sA rfl<|sN ?_
     obtain rfl:=oI h
     exact⟨rfl,rfl⟩
    refine sN<|cF<|qX ?_
    obtain rfl:=oI h
    exact⟨(fun he=>by cases he),rfl,rfl⟩
   intro e f c he x
   obtain⟨rfl,g⟩:=x
   refine qE<|CR g rfl<|sV (.ptr 48 0)<|sL rfl<|sV (.agg [.d (.str a.aj.aD),.d (.str a.aj.aC),.d (.str a.aj.au),.d (.str a.aj.aF),.ref 720 0])<|sG (.rlit [.d (.str a.aj.aD),.d (.str a.aj.aC),.d (.str a.aj.au),.d (.str a.aj.aF),.ref 720 0])<|bE h fun G q h=>WO.appP (u:=[(720,.dead)]) (row:=t.2.2.map ah.pd) q rfl rfl rfl rfl rfl rfl rfl rfl rfl rfl rfl rfl rfl rfl rfl rfl rfl rfl rfl<|sV (.ptr 48 0)<|sS 48 (.var [.ref 816 1])<|sN<|CR rfl rfl<|sM rfl<|sV (.d (.int .i64 (CH .i64 (t.1+(1:Int)))))<|sA rfl ?_
   refine sN ?_
   obtain rfl:=oI h
   exact⟨rfl,rfl⟩
  refine sN<|cF<|qX ?_
  obtain rfl:=oI h
  exact⟨(fun he=>by cases he),rfl,rfl⟩
 intro e f c he x
 obtain⟨rfl,g⟩:=x
 refine qE<|gS rfl g<|sV (.agg [.ref 816 0])<|sS 32 (.var [.ref 816 0])<|sN<|qR ?_
 obtain rfl:=oI h
 exact qD
theorem bV{a1:Int}{d0:ae}{r:Int×ae}(h:aN a1 d0=some r):EvP prog eV extO 14 [.ptr 0 0,.d (.int .i64 a1)] [.var [.d (.lst (d0.fL.map (PD.int .i64))),.d (.int .i64 d0.fAt)]] (.d (.int .i64 r.1),[.var [.d (.lst (r.2.fL.map (PD.int .i64))),.d (.int .i64 r.2.fAt)]]):=by
 refine Ev.body rfl Tryz.func14 rfl (by kernel_rfl)<|gS rfl rfl<|sV (.d (.int .i64 0))<|sN<|qS<|CN rfl rfl<|sM rfl<|sV (.ptr 0 0)<|sV (.ptr 0 1)<|sL rfl<|sM rfl<|sV (.ptr 0 0)<|sV (.ptr 0 0)<|sL rfl<|sE (.d (.int .i64 (d0.fL.length:Int))) (ik _ _) ?_
 refine sF h (fun h=>?_) fun h=>?_
 ·refine sM rfl<|sK<|sK<|sT ?_
  refine sN<|sO<|cT<|gS rfl rfl<|sV (.d (.int .i64 0))<|sN<|qR ?_
  obtain rfl:=oI h
  exact qD
 refine sM rfl<|sM rfl<|sV (.d (.bool (decide (a1<(1:Int)))))<|sF h (fun h=>?_) fun h=>?_
 ·refine sN<|sO<|cT<|gS rfl rfl<|sV (.d (.int .i64 0))<|sN<|qR ?_
  obtain rfl:=oI h
  exact qD
 refine sN<|sO<|cF<|qK<|CN rfl rfl<|sM rfl<|sV (.ptr 0 0)<|sV (.ptr 0 0)<|sL rfl<|sM rfl<|sV (.ptr 0 0)<|sV (.ptr 0 1)<|sL rfl<|bE h fun e a h=>WO.oP a rfl rfl rfl rfl rfl rfl rfl rfl rfl<|sC rfl ?_
 refine sM rfl<|bE h fun c b h=>WO.remG b rfl rfl rfl rfl rfl rfl<|sA rfl ?_
 refine sN<|sO<|gS rfl rfl<|sM rfl<|sV (.ptr 0 0)<|sV (.ptr 0 1)<|sL rfl<|sV (.d (.int .i64 (CH .i64 (d0.fAt+(1:Int)))))<|sV (.ptr 0 0)<|sV (.ptr 0 1)<|sS 0 (.var [.d (.lst (d0.fL.map (PD.int .i64))),.d (.int .i64 (CH .i64 (d0.fAt+(1:Int))))])<|sN<|qS<|gS rfl rfl<|sM rfl<|sF h (fun h=>?_) fun h=>?_
 ·refine sN<|cT<|CR rfl rfl<|sM rfl<|sM rfl<|sV (.d (.int .i64 (CH .i64 (c+a1))))<|sA rfl<|sN<|gS rfl rfl<|sM rfl<|sA rfl<|sN<|qR ?_
  obtain rfl:=oI h
  exact qD
 refine sN<|cF<|qK<|gS rfl rfl<|sM rfl<|sA rfl<|sN<|qR ?_
 obtain rfl:=oI h
 exact qD
theorem Dice_Source_evB{d0:ae}{r:ac×ae}(h:cZ d0=some r):EvP prog eV extO 13 [.ptr 0 0] [.var [.d (.lst (d0.fL.map (PD.int .i64))),.d (.int .i64 d0.fAt)]] (.d (ac.pd r.1),[.var [.d (.lst (r.2.fL.map (PD.int .i64))),.d (.int .i64 r.2.fAt)]]):=by
 refine Ev.body rfl Tryz.func13 rfl (by kernel_rfl)<|gS rfl rfl<|sB (.ptr 32 0) 32 (.var [.d (.str []),.d (.str []),.d (.str []),.d (.str [])])<|sN<|CN rfl rfl<|sV (.d (.lst ([[71,82],[88],[55,65]].map PD.str)))<|sM rfl<|bE h fun k a h=>cR (.d (.int .i64 k.1)) [(0,.var [.d (.lst (k.2.fL.map (PD.int .i64))),.d (.int .i64 k.2.fAt)])] (bV a)<|bE h fun x2 b h=>WO.oP b rfl rfl rfl rfl rfl rfl rfl rfl rfl<|sC rfl<|sV (.d (.lst ([[70,85,82],[65],[65,66,67,68,69],[70,85]].map PD.str)))<|sM rfl<|bE h fun l c h=>?_
 refine cR (.d (.int .i64 l.1)) [(0,.var [.d (.lst (l.2.fL.map (PD.int .i64))),.d (.int .i64 l.2.fAt)])] (bV c)<|bE h fun o e h=>WO.oP e rfl rfl rfl rfl rfl rfl rfl rfl rfl<|sC rfl<|sV (.d (.lst ([[],[48,48],[49,48]].map PD.str)))<|sM rfl<|bE h fun m f h=>cR (.d (.int .i64 m.1)) [(0,.var [.d (.lst (m.2.fL.map (PD.int .i64))),.d (.int .i64 m.2.fAt)])] (bV f)<|bE h fun p g h=>WO.oP g rfl rfl rfl rfl rfl rfl rfl rfl rfl<|sC rfl<|sV (.d (.lst ([[72,72,90],[72,72,78],[66,72,90]].map PD.str)))<|sM rfl<|bE h fun n i h=>cR (.d (.int .i64 n.1)) [(0,.var [.d (.lst (n.2.fL.map (PD.int .i64))),.d (.int .i64 n.2.fAt)])] (bV i) ?_
 refine bE h fun q j h=>WO.oP j rfl rfl rfl rfl rfl rfl rfl rfl rfl<|sC rfl<|sV (.d (ac.pd (ac.mk x2 o p q)))<|sS 32 (.var [.d (.str x2),.d (.str o),.d (.str p),.d (.str q)]) ?_
 refine sN<|sO<|qR ?_
 obtain rfl:=oI h
 exact qD
theorem f7{a1:(List Int)}{d0:ae}{r:Int×ae}(h:bK a1 d0=some r):EvP prog eV extO 34 [.ptr 0 0,.d (.lst (a1.map (PD.int .i64)))] [.var [.d (.lst (d0.fL.map (PD.int .i64))),.d (.int .i64 d0.fAt)]] (.d (.int .i64 r.1),[.var [.d (.lst (r.2.fL.map (PD.int .i64))),.d (.int .i64 r.2.fAt)]]):=by
 refine Ev.body rfl Tryz.func34 rfl (by kernel_rfl)<|gS rfl rfl<|sV (.d (.int .i64 0))<|sN<|gS rfl rfl<|sM rfl<|sM rfl<|sM rfl<|sE (.d (.int .i64 (a1.length:Int))) (ik _ _)<|bE h fun c a h=>cR (.d (.int .i64 c.1)) [(0,.var [.d (.lst (c.2.fL.map (PD.int .i64))),.d (.int .i64 c.2.fAt)])] (bV a)<|bE h fun x2 b h=>WO.oP b rfl rfl rfl rfl rfl rfl rfl rfl rfl<|sC rfl<|sA rfl ?_
 refine sN<|qR ?_
 obtain rfl:=oI h
 exact qD
theorem law19_odd_evB{a1:ai}{d0:ae}{r:ai×ae}(h:fc a1 d0=some r):EvP prog eV extO 8 [.ptr 0 0,.d (ai.pd a1)] [.var [.d (.lst (d0.fL.map (PD.int .i64))),.d (.int .i64 d0.fAt)]] (.d (ai.pd r.1),[.var [.d (.lst (r.2.fL.map (PD.int .i64))),.d (.int .i64 r.2.fAt)]]):=by
 refine Ev.body rfl Tryz.func8 rfl (by kernel_rfl)<|gS rfl rfl<|sB (.ptr 48 0) 48 (.var [.d (.lst (a1.am.map aa.pd))])<|sB (.ptr 64 0) 64 (.var [.jt])<|sN<|gS rfl rfl<|sV (.d (ai.pd a1))<|bE h fun k d2 h=>cR (.agg [.ref 144 0]) [(144,.deep 0 32 (k.am.map aa.pd) 4 41 [(7,84)] none)] (ref19_Copy_evB d2)<|sB (.ptr 80 0) 80 (.var [.jt])<|sS 80 (.var [.ref 144 0])<|sN<|qS<|gS rfl rfl<|sV (.ptr 80 0) ?_
 refine sL rfl<|WO.lenP rfl rfl rfl rfl rfl rfl rfl rfl rfl<|sF h (fun h=>?_) fun h=>?_
 ·refine sN<|cT<|gS rfl rfl<|sM rfl<|bE h fun n d3 h=>cR (.d (ac.pd n.1)) [(0,.var [.d (.lst (n.2.fL.map (PD.int .i64))),.d (.int .i64 n.2.fAt)])] (Dice_Source_evB d3)<|sV (.agg [.d (.str n.1.aD),.d (.str n.1.aC),.d (.str n.1.au),.d (.str n.1.aF),.jt])<|sV (.d (.lst ([(aa.mk n.1 [])].map aa.pd)))<|sV (.d (.agg [.lst ([(aa.mk n.1 [])].map aa.pd)]))<|sS 64 (.var [.d (.lst ([(aa.mk n.1 [])].map aa.pd))])<|sN<|qR ?_
  obtain rfl:=oI h
  exact qD
 refine sN<|cF<|qK<|CN rfl rfl<|sV (.ptr 80 0)<|sL rfl<|sM rfl<|sV (.ptr 80 0)<|sL rfl<|WO.lenP rfl rfl rfl rfl rfl rfl rfl rfl rfl<|bE h fun b d4 h=>cR (.d (.int .i64 b.1)) [(0,.var [.d (.lst (b.2.fL.map (PD.int .i64))),.d (.int .i64 b.2.fAt)])] (bV d4)<|bE h fun x5 d5 h=>WO.eltP d5 rfl rfl rfl rfl rfl rfl rfl rfl<|sA rfl ?_
 refine sN<|sO<|bE h fun o d6 h=>CN (rN d6 rfl rfl rfl rfl rfl) rfl<|sM rfl<|sV (.elt 144 0 (b.1).toNat 0)<|sV (.elt 144 0 (b.1).toNat 4)<|bE h fun x7 d7 h=>WO.uS d7 rfl rfl rfl rfl rfl rfl<|sM rfl<|sM rfl<|sV (.elt 144 0 (b.1).toNat 0)<|sV (.elt 144 0 (b.1).toNat 4)<|bE h fun x8 d8 h=>WO.uS d8 rfl rfl rfl rfl rfl rfl<|WO.lenP rfl rfl rfl rfl rfl rfl rfl rfl rfl ?_
 refine bE h fun c e0 h=>cR (.d (.int .i64 c.1)) [(0,.var [.d (.lst (c.2.fL.map (PD.int .i64))),.d (.int .i64 c.2.fAt)])] (bV e0)<|bE h fun g1 G h=>WO.eltP G rfl rfl rfl rfl rfl rfl rfl rfl<|sA rfl ?_
 refine sN<|sO<|WC.join (α:=(List Int)×Int×(List aa)) (fun x R' B'=>kx prog 1 (A R' B') (eV.at_ 8 1 25)=some (A [(4,.ptr 64 0),(5,.ptr 80 0)] [(0,.var [.d (.lst (x.1.map (PD.int .i64))),.d (.int .i64 x.2.1)]),(64,.var [.jt]),(80,.var [.ref 144 0]),(144,.arr 0 32 (x.2.2.map aa.pd))])) (fun x=>bF x.1 x.2.1 x.2.2=some r) ?_ ?_
 ·refine gS rfl rfl<|sM rfl<|bE h fun a H h=>cR (.d (.int .i64 a.1)) [(0,.var [.d (.lst (a.2.fL.map (PD.int .i64))),.d (.int .i64 a.2.fAt)])] (bV H)<|sN<|qB<|gS rfl rfl<|sF h (fun h=>?_) fun h=>?_
  ·exact sA rfl<|sN<|cT<|CR rfl rfl<|sM rfl<|sV (.elt 144 0 (b.1).toNat 0)<|sV (.elt 144 0 (b.1).toNat 0)<|sV (.elt 144 0 (b.1).toNat 0)<|bE h fun e1 I h=>WO.tE (g:=aa.pd) (sz:=1) I (by intro _;kernel_rfl) (fun _=>CT rfl) rfl rfl rfl rfl rfl rfl rfl rfl rfl rfl rfl<|sN<|⟨(a.2.fL,a.2.fAt,(lG e1 (CI b.1) (fun(z46:aa)=>(aa.mk z46.aj o.al)))),(kL rfl (la rfl (kk rfl (lh (f:=fun(e4:aa)=>(aa.mk e4.aj o.al)) rfl rfl rfl (by decide) (by intro _;kernel_rfl) (kk rfl rfl))))),h⟩
  refine sA rfl<|sN<|cF<|gS rfl rfl<|sF h (fun h=>?_) fun h=>?_
  ·exact sA rfl<|sN<|cT<|CR rfl rfl<|sM rfl<|sV (.elt 144 0 (b.1).toNat 0)<|sV (.elt 144 0 (b.1).toNat 4)<|bE h fun g2 J h=>WO.ve J rfl rfl rfl rfl rfl rfl rfl rfl<|sN<|⟨(a.2.fL,a.2.fAt,(lG k.am (CI b.1) (fun(z51:aa)=>(aa.mk z51.aj [])))),(kL rfl (la rfl (kk rfl (uK (f:=fun(e5:aa)=>(aa.mk e5.aj [])) rfl (by intro _;kernel_rfl) (kk rfl rfl))))),h⟩
  refine sA rfl<|sN<|cF<|gS rfl rfl<|sF h (fun h=>?_) fun h=>?_
  ·refine sA rfl<|sN<|cT<|CO rfl rfl<|sM rfl<|sM rfl<|sM rfl<|sV (.elt 92608 0 (c.1).toNat 0)<|sV (.elt 92608 0 (c.1).toNat 1)<|bE h fun e2 K h=>WO.loadP K rfl rfl rfl rfl rfl rfl rfl rfl rfl<|sM rfl<|sV (.elt 92608 0 (c.1).toNat 0)<|sV (.elt 92608 0 (c.1).toNat 1)<|bE h fun c1 L h=>?_
   refine WO.loadP L rfl rfl rfl rfl rfl rfl rfl rfl rfl<|sV (.d (.int .i64 (CH .i64 (c1.fTo-(1:Int)))))<|sV (.d (.lst ([-1,e2.fTo,(CH .i64 (c1.fTo-(1:Int))),0].map (PD.int .i64))))<|bE h fun l N h=>cR (.d (.int .i64 l.1)) [(0,.var [.d (.lst (l.2.fL.map (PD.int .i64))),.d (.int .i64 l.2.fAt)])] (f7 N)<|sV (.elt 92608 0 (c.1).toNat 0)<|sV (.elt 92608 0 (c.1).toNat 0)<|bE h fun c2 O h=>WO.tE (g:=ah.pd) (sz:=1) O (by intro _;kernel_rfl) (fun _=>CT rfl) rfl rfl rfl rfl rfl rfl rfl rfl rfl rfl rfl ?_
   exact sN<|sO<|⟨(l.2.fL,l.2.fAt,(lG k.am (CI b.1) (fun(z60:aa)=>(aa.mk z60.aj c2)))),(kL rfl (la rfl (kk rfl (lh (f:=fun(e6:aa)=>(aa.mk e6.aj c2)) rfl rfl rfl (by decide) (by intro _;kernel_rfl) (kk rfl rfl))))),h⟩
  refine sA rfl<|sN<|cF<|gS rfl rfl<|sF h (fun h=>?_) fun h=>?_
  ·refine sA rfl<|sN<|cT<|CR rfl rfl<|sM rfl<|sM rfl<|sM rfl<|sV (.elt 92608 0 (c.1).toNat 0)<|sV (.elt 92608 0 (c.1).toNat 0)<|bE h fun e3 Q h=>WO.loadP Q rfl rfl rfl rfl rfl rfl rfl rfl rfl<|sV (.d (.lst ([9007199254740992,9007199254740993,e3.az].map (PD.int .i64))))<|bE h fun m T h=>cR (.d (.int .i64 m.1)) [(0,.var [.d (.lst (m.2.fL.map (PD.int .i64))),.d (.int .i64 m.2.fAt)])] (f7 T)<|sV (.elt 92608 0 (c.1).toNat 0) ?_
   exact sV (.elt 92608 0 (c.1).toNat 1)<|bE h fun c3 U h=>WO.tE (g:=ah.pd) (sz:=1) U (by intro _;kernel_rfl) (fun _=>CT rfl) rfl rfl rfl rfl rfl rfl rfl rfl rfl rfl rfl<|sN<|⟨(m.2.fL,m.2.fAt,(lG k.am (CI b.1) (fun(e7:aa)=>(aa.mk e7.aj c3)))),(kL rfl (la rfl (kk rfl (lh (f:=fun(e8:aa)=>(aa.mk e8.aj c3)) rfl rfl rfl (by decide) (by intro _;kernel_rfl) (kk rfl rfl))))),h⟩
  refine sA rfl<|sN<|cF<|gS rfl rfl<|sF h (fun h=>?_) fun h=>?_
  ·refine sA rfl<|sN<|cT<|CR rfl rfl<|sM rfl<|sM rfl<|sV (.d (.lst ([1048577, -1048576,3].map (PD.int .i64))))<|bE h fun p W h=>cR (.d (.int .i64 p.1)) [(0,.var [.d (.lst (p.2.fL.map (PD.int .i64))),.d (.int .i64 p.2.fAt)])] (f7 W)<|sM rfl<|sV (.d (.lst ([-16385,1048576,0].map (PD.int .i64))))<|bE h fun i X h=>cR (.d (.int .i64 i.1)) [(0,.var [.d (.lst (i.2.fL.map (PD.int .i64))),.d (.int .i64 i.2.fAt)])] (f7 X)<|sV (.d (aw.pd (aw.mk p.1 0 i.1)))<|sV (.elt 92608 0 (c.1).toNat 0) ?_
   exact sV (.elt 92608 0 (c.1).toNat 4)<|bE h fun c4 Y h=>WO.tE (g:=ah.pd) (sz:=3) Y (by intro _;kernel_rfl) (fun _=>CT rfl) rfl rfl rfl rfl rfl rfl rfl rfl rfl rfl rfl<|sN<|⟨(i.2.fL,i.2.fAt,(lG k.am (CI b.1) (fun(z76:aa)=>(aa.mk z76.aj c4)))),(kL rfl (la rfl (kk rfl (lh (f:=fun(z77:aa)=>(aa.mk z77.aj c4)) rfl rfl rfl (by decide) (by intro _;kernel_rfl) (kk rfl rfl))))),h⟩
  refine sA rfl<|sN<|cF<|gS rfl rfl<|sF h (fun h=>?_) fun h=>?_
  ·exact sA rfl<|sN<|cT<|CR rfl rfl<|sM rfl<|sM rfl<|bE h fun j a4 h=>cR (.d (.int .i64 j.1)) [(0,.var [.d (.lst (j.2.fL.map (PD.int .i64))),.d (.int .i64 j.2.fAt)])] (bV a4)<|sV (.d (av.pd (av.mk j.1 2)))<|sV (.elt 92608 0 (c.1).toNat 0)<|sV (.elt 92608 0 (c.1).toNat 2)<|bE h fun c5 a5 h=>WO.tE (g:=ah.pd) (sz:=2) a5 (by intro _;kernel_rfl) (fun _=>CT rfl) rfl rfl rfl rfl rfl rfl rfl rfl rfl rfl rfl<|sN<|⟨(j.2.fL,j.2.fAt,(lG k.am (CI b.1) (fun(f0:aa)=>(aa.mk f0.aj c5)))),(kL rfl (la rfl (kk rfl (lh (f:=fun(f1:aa)=>(aa.mk f1.aj c5)) rfl rfl rfl (by decide) (by intro _;kernel_rfl) (kk rfl rfl))))),h⟩
  refine sA rfl<|sN<|cF<|gS rfl rfl<|sF h (fun h=>?_) fun h=>?_
  ·refine sA rfl<|sN<|cT<|bE h fun g3 a9 h=>CO (rN a9 rfl rfl rfl rfl rfl) rfl<|sM rfl<|sM rfl<|sV (.elt 92608 0 (c.1).toNat 0)<|sV (.elt 92608 0 (c.1).toNat 7)<|sV (.elt 92608 0 (c.1).toNat 7)<|bE h fun g4 b0 h=>WO.uS b0 rfl rfl rfl rfl rfl rfl<|sM rfl<|bE h fun e b1 h=>cR (.d (.int .i64 e.1)) [(0,.var [.d (.lst (e.2.fL.map (PD.int .i64))),.d (.int .i64 e.2.fAt)])] (bV b1) ?_
   refine sG (.agg [.d (.int .i64 e.1),.d (.int .i64 0),.d (.int .i64 0),.d (.int .i64 0),.d (.int .i64 0),.d (.int .i64 0),.d (.int .i64 0),.jt,.d (.int .i64 0),.d (.int .i64 0)])<|sG (.d (.lst ([(ak.mk e.1 (aK.mk 0 0 0) (aK.mk 0 0 0) [] 0 0)].map ak.pd)))<|bE h fun F b2 h=>WO.appR b2 (fun _=>rfl) rfl rfl rfl rfl rfl rfl rfl rfl rfl rfl rfl rfl rfl rfl<|sV (.elt 92608 0 (c.1).toNat 0)<|sV (.elt 92608 0 (c.1).toNat 7)<|sV (.elt 92608 0 (c.1).toNat 7)<|bE h fun g5 b3 h=>WO.ve b3 rfl rfl rfl rfl rfl rfl rfl rfl ?_
   exact sN<|sO<|⟨(e.2.fL,e.2.fAt,(lG k.am (CI b.1) (fun(z93:aa)=>(aa.mk z93.aj (lG o.al (CI c.1) (fun(q:ah)=>(ah.mk q.az q.fTo q.aM q.aq (ar.mk F)))))))),(lh (f:=fun(s:ah)=>(ah.mk s.az s.fTo s.aM s.aq (ar.mk F))) rfl rfl rfl (by decide) (by intro _;kernel_rfl) (la rfl (kk rfl (lh (f:=fun(f2:aa)=>(aa.mk f2.aj (lG o.al (CI c.1) (fun(t:ah)=>(ah.mk t.az t.fTo t.aM t.aq (ar.mk F)))))) rfl rfl rfl (by decide) (by intro _;kernel_rfl) (kk rfl rfl))))),h⟩
  refine sA rfl<|sN<|cF<|gS rfl rfl<|sF h (fun h=>?_) fun h=>?_
  ·refine sA rfl<|sN<|cT<|CO (R0:=[(4,.ptr 64 0),(5,.ptr 80 0)]) (B0:=[(0,.var [.d (.lst (a.2.fL.map (PD.int .i64))),.d (.int .i64 a.2.fAt)]),(64,.var [.jt]),(80,.var [.ref 144 0]),(144,.arr 0 32 ((lG k.am (CI b.1) (fun(c6:aa)=>(aa.mk c6.aj o.al))).map aa.pd))]) (lh (f:=fun(c7:aa)=>(aa.mk c7.aj o.al)) rfl rfl rfl (by decide) (by intro _;kernel_rfl) (kk rfl rfl)) rfl<|sV (.ptr 80 0)<|sL rfl<|sV (.ptr 80 0)<|sL rfl<|bE h fun f3 v h=>WO.ma v rfl rfl rfl rfl rfl rfl rfl rfl<|bE h fun b4 y h=>WO.lT y rfl rfl rfl rfl rfl rfl<|sV (.d (.lst ([b4].map aa.pd)))<|bE h fun b5 z h=>WO.appR z (fun _=>rfl) rfl rfl rfl rfl rfl rfl rfl rfl rfl rfl rfl rfl rfl rfl ?_
   refine sV (.ptr 80 0)<|sS 80 (.var [.ref 144 1]) ?_
   exact sN<|sO<|⟨(a.2.fL,a.2.fAt,b5),rfl,h⟩
  refine sA rfl<|sN<|cF<|gS rfl rfl<|sF h (fun h=>?_) fun h=>?_
  ·refine sA rfl<|sN<|cT<|CO (R0:=[(4,.ptr 64 0),(5,.ptr 80 0),(6,.elt 144 0 (b.1).toNat 0),(7,.elt 92608 0 (c.1).toNat 0)]) (B0:=[(0,.var [.d (.lst (a.2.fL.map (PD.int .i64))),.d (.int .i64 a.2.fAt)]),(64,.var [.jt]),(80,.var [.ref 144 0]),(144,.deep 0 32 (k.am.map aa.pd) 4 41 [(7,84)] (some ((CI b.1),.ref 92608 0))),(92608,.arr 0 41 (o.al.map ah.pd))]) rfl rfl<|sM rfl<|sM rfl<|sV (.elt 144 0 (b.1).toNat 0)<|sV (.elt 144 0 (b.1).toNat 4)<|bE h fun f4 B h=>WO.uS B rfl rfl rfl rfl rfl rfl<|sM rfl<|sV (.elt 92608 0 (c.1).toNat 0)<|bE h fun c0 C h=>WO.lT C rfl rfl rfl rfl rfl rfl<|sG (.d (.lst ([c0].map ah.pd))) ?_
   refine bE h fun u D h=>WO.appR D (fun _=>rfl) rfl rfl rfl rfl rfl rfl rfl rfl rfl rfl rfl rfl rfl rfl<|sV (.elt 144 0 (b.1).toNat 0)<|sV (.elt 144 0 (b.1).toNat 4)<|bE h fun f5 E h=>WO.ve E rfl rfl rfl rfl rfl rfl rfl rfl ?_
   exact sN<|sO<|⟨(a.2.fL,a.2.fAt,(lG k.am (CI b.1) (fun(c8:aa)=>(aa.mk c8.aj u)))),(kL rfl (la rfl (kL rfl (lh (f:=fun(c9:aa)=>(aa.mk c9.aj u)) rfl rfl rfl (by decide) (by intro _;kernel_rfl) (kk rfl rfl))))),h⟩
  exact sA rfl<|sN<|cF<|qK<|⟨(a.2.fL,a.2.fAt,(lG k.am (CI b.1) (fun(z117:aa)=>(aa.mk z117.aj o.al)))),(kL rfl (la rfl (kk rfl (lh (f:=fun(d1:aa)=>(aa.mk d1.aj o.al)) rfl rfl rfl (by decide) (by intro _;kernel_rfl) (kk rfl rfl))))),h⟩
 rintro⟨f6,f9,g0⟩ R' B' hI h
 refine gS rfl hI<|sV (.agg [.ref 144 0])<|sS 64 (.var [.ref 144 0])<|sN<|qR ?_
 obtain rfl:=oI h
 exact qD
end Go.Dw.Ix
