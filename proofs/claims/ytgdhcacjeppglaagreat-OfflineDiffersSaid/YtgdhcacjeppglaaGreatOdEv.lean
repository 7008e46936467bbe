
import Derived.Test.YtgdhcacjeppglaaGreatOdFn
import Derived.Test.YtgdhcacjeppglaaGreatDwShort
import Derived.Test.YtgdhcacjeppglaaGreatDwNest
import Derived.Test.YtgdhcacjeppglaaGreatProg
import Derived.Test.YtgdhcacjeppglaaGreatDwConst
set_option linter.unusedVariables false
set_option linter.unusedSimpArgs false
open Go.Dw.WC renaming block->CB, eI->CC, loop->CD, region->CE
open Nat renaming le_of_ble_eq_true->CF

set_option maxRecDepth 100000
set_option maxHeartbeats 4000000
namespace Go.Dw.Od
open Go.Proofs Go.Proofs.Tryz Go.Dw
@[reducible] def rW(n:Int):Int:=IntKind.wrap .i64 n
@[reducible] def rI(n:Int):RV:= .d (.int .i64 n)
@[reducible] def r0:RV:= .d (.int .i64 0)
@[reducible] def rS(s:List UInt8):RV:= .d (.str s)
@[reducible] def rB(b:Bool):RV:= .d (.bool b)
@[reducible] def rM{α:Type}(g:α->PD)(l:List α):RV:= .d (.lst (l.map g))
@[reducible] def rL(l:List Int):RV:= .d (.lst (l.map (PD.int .i64)))
@[reducible] def zZ0:List RV:=[.d (.str []),.d (.str []),.d (.str []),.d (.str []),.d (.int .i64 0),.d (.int .i64 0),.d (.int .i64 0),.d (.int .i64 0),.d (.int .i64 0),.cL,.d (.int .i64 0),.d (.int .i64 0),.d (.int .i64 0),.d (.int .i64 0),.d (.int .i64 0),.d (.int .i64 0),.d (.int .i64 0),.d (.int .i64 0),.d (.int .i64 0),.d (.int .i64 0),.d (.int .i64 0),.d (.int .i64 0),.d (.int .i64 0),.d (.int .i64 0),.d (.int .i64 0)]
@[reducible] def ae.rc(x:ae):List RV:=[.d (.str x.al.ak.aL),.d (.str x.al.ak.aN),.d (.str x.al.ak.ah),.d (.str x.al.ak.aK),.d (.int .i64 x.al.aG),.d (.int .i64 x.al.aW),.d (.int .i64 x.al.bd),.d (.int .i64 x.al.av),.d (.int .i64 x.al.az),.d (.lst (x.ai.aM.map ac.pd)),.d (.int .i64 x.ai.ah.aH.fX),.d (.int .i64 x.ai.ah.aH.fY),.d (.int .i64 x.ai.ah.aH.fZ),.d (.int .i64 x.ai.ah.aG),.d (.int .i64 x.ai.ah.bp),.d (.int .i64 x.ai.ah.bG),.d (.int .i64 x.ai.ah.au.aT.fX),.d (.int .i64 x.ai.ah.au.aT.fY),.d (.int .i64 x.ai.ah.au.aT.fZ),.d (.int .i64 x.ai.ah.au.aB.fX),.d (.int .i64 x.ai.ah.au.aB.fY),.d (.int .i64 x.ai.ah.au.aB.fZ),.d (.int .i64 x.ai.aq.aT),.d (.int .i64 x.ai.aq.aB),.d (.int .i64 x.ai.aU)]
@[reducible] def am.rc(x:am):List RV:=[.d (.lst (x.aM.map ac.pd)),.d (.int .i64 x.ah.aH.fX),.d (.int .i64 x.ah.aH.fY),.d (.int .i64 x.ah.aH.fZ),.d (.int .i64 x.ah.aG),.d (.int .i64 x.ah.bp),.d (.int .i64 x.ah.bG),.d (.int .i64 x.ah.au.aT.fX),.d (.int .i64 x.ah.au.aT.fY),.d (.int .i64 x.ah.au.aT.fZ),.d (.int .i64 x.ah.au.aB.fX),.d (.int .i64 x.ah.au.aB.fY),.d (.int .i64 x.ah.au.aB.fZ),.d (.int .i64 x.aq.aT),.d (.int .i64 x.aq.aB),.d (.int .i64 x.aU)]
@[reducible] def ac.rc(x:ac):List RV:=[.d (.str x.ak.aL),.d (.str x.ak.aN),.d (.str x.ak.ah),.d (.str x.ak.aK),.d (.int .i64 x.aG),.d (.int .i64 x.aW),.d (.int .i64 x.bd),.d (.int .i64 x.av),.d (.int .i64 x.az)]
@[reducible] def aa.rc(x:aa):List RV:=[.d (.lst (x.fL.map (PD.int .i64))),.d (.int .i64 x.fAt)]
@[reducible] def ap.rc(x:ap):List RV:=[.d (.int .i64 x.aH.fX),.d (.int .i64 x.aH.fY),.d (.int .i64 x.aH.fZ),.d (.int .i64 x.aG),.d (.int .i64 x.bp),.d (.int .i64 x.bG),.d (.int .i64 x.au.aT.fX),.d (.int .i64 x.au.aT.fY),.d (.int .i64 x.au.aT.fZ),.d (.int .i64 x.au.aB.fX),.d (.int .i64 x.au.aB.fY),.d (.int .i64 x.au.aB.fZ)]
@[reducible] def ar.rc(x:ar):List RV:=[.d (.int .i64 x.aT),.d (.int .i64 x.aB)]
@[reducible] def aj.rc(x:aj):List RV:=[.d (.int .i64 x.fX),.d (.int .i64 x.fY),.d (.int .i64 x.fZ)]
theorem Z{α:Sort _}{a:α}:a=a:=rfl
theorem Zk{α:Sort _}{a b:α}(h:a=b:=by kernel_rfl):a=b:=h
theorem gU{P:Program}{H:Hints}{ext:FuncId->Option cB}{f:FuncId}{a:Nat}{R:List (Nat×RV)}{B:List (Nat×Box)}{Q:Ex->List (Nat×RV)->List (Nat×Box)->Prop}{id:Nat}{ops:Array Oper}{l:List Oper}{c:List (Nat×RV)}{B0:List (Nat×Box)}{b:Code}(hl:(ops.toList,dY P a (A R B) (H.at_ f a id))=(l,some (A c B0)))
    (h:WO P H ext (H.hf f) ops l c B0 fun g e _=>WC P H ext f a b g e Q):WC P H ext f a (.seq (.region id ops false) b) R B Q:=gS (congrArg Prod.fst hl) (congrArg Prod.snd hl) h
theorem mM{P:Program}{H:Hints}{ext:FuncId->Option cB}{mt:Hf}{ops:Array Oper}{l:List Oper}{R:List (Nat×RV)}{B:List (Nat×Box)}{K:List (Nat×RV)->List (Nat×Box)->List Tr->Prop}{d e:Nat}{ty f:TypeId}{p q:String}{a b:Array Edge}{g k:Option (Nat×Bool)}{x y:Operand}{v w:RV}(c:((A R B).opd x,(A ((d,v)::R) B).opd y)=(some v,some w))(h:WO P H ext mt ops l ((e,w)::(d,v)::R) B fun j i ts=>K j i (⟨[],[]⟩::⟨[],[]⟩::ts))(hw:cu ops (A R B) ⟨some d,.move x,ty,p,a,g⟩=some true:=by exact rfl)(hu:cu ops (A ((d,v)::R) B) ⟨some e,.move y,f,q,b,k⟩=some true:=by exact rfl):WO P H ext mt ops (⟨some d,.move x,ty,p,a,g⟩::⟨some e,.move y,f,q,b,k⟩::l) R B K:=
  sM (congrArg Prod.fst c) (sM (congrArg Prod.snd c) h hu) hw
def hintAt:FuncId->Nat->Nat->List ju:=fun f a id=>
  if f=3 then(if a=0 then(if id=5 then [.frz (.reg 4),.frz (.reg 5),.aE [4,5] []]else [])else [])else if f=5 then(if a=1 then(if id=3 then [.own 5 1344 52,.aE [0,1,5,6] [0,1344]]else if id=8 then [.aE [0,1,5,6,7,23,24] [0,112,304,1344]]else if id=13 then [.frz (.cell 112 9),.aE [0,1,5,6,7] [0,112,1344]]else if id=16 then [.aE [5] [0,1344]]else [])else [])else if f=7 then(if a=0 then(if id=2 then [.own 4 464 40,.own 6 704 40,.aE [0,1,4,5,6,12,13,14] [464,704]]else if id=10 then [.aE [0,1,4,5,6] [464,704]]else if id=11 then [.own 5 976 40,.aE [0,4,5,6,46,47,48] [464,704,976]]else if id=16 then [.aE [4,5,6] [464,704,976]]else [])else [])else if f=9 then(if a=0 then(if id=4 then [.aE [0,1,5] []]else if id=8 then [.aE [] []]else [])else [])else if f=11 then(if a=1 then(if id=4 then [.ownp (.cell 80 9) 656 40,.aE [0,1,4,5,6,7] [0,64,80,656]]else if id=7 then [.aE [0,4,5,6] [0,64,80,656]]else [])else [])else if f=16 then(if a=0 then(if id=4 then [.aE [1,2,15,16,17] []]else if id=10 then [.aE [] []]else [])else [])else if f=26 then(if a=1 then(if id=2 then [.aE [0,1,7,8] [0]]else if id=7 then [.aE [] [0]]else [])else [])else if f=28 then(if a=0 then(if id=4 then [.aE [0,1,12,13] []]else if id=9 then [.aE [] []]else [])else [])else []
def hints:Hints:={ at_:=hintAt,mt:=fun f i=>(f==3&&i==22),by_:=fun f i=>false,own:=fun f i=>(f==5&&i==0)||(f==11&&i==0) }
@[reducible] def gI(a f id:Nat)(R:List (Nat×RV))(B:List (Nat×Box))(c:List (Nat×RV))(b:List (Nat×Box)):Prop:=dY prog a (A c b) (hints.at_ f a id)=some (A R B)
@[reducible] def gX(x c f id:Nat)(R:List (Nat×RV))(B:List (Nat×Box))(e:Ex)(b:List (Nat×RV))(a:List (Nat×Box)):Prop:=e= .exit x∧gI c f id R B b a
@[reducible] def gF(f:Nat)(fn:Func)(c:Nat)(x:RV×List Box)(e:Ex)(b:List (Nat×RV))(a:List (Nat×Box)):Prop:=e= .ret∧finish prog (hints.own f) fn c (A b a)=some x
theorem eqE_40(a b:ac):binT prog .eql 40 (.d a.pd) (.d b.pd)=some (.bool (((a.ak.aL==b.ak.aL)&&((a.ak.aN==b.ak.aN)&&((a.ak.ah==b.ak.ah)&&((a.ak.aK==b.ak.aK)&&true))))&&((a.aG==b.aG)&&((a.aW==b.aW)&&((a.bd==b.bd)&&((a.av==b.av)&&((a.az==b.az)&&true)))))),true):=by kernel_rfl
theorem eqN_40(a b:ac):binT prog .neq 40 (.d a.pd) (.d b.pd)=some (.bool (!(((a.ak.aL==b.ak.aL)&&((a.ak.aN==b.ak.aN)&&((a.ak.ah==b.ak.ah)&&((a.ak.aK==b.ak.aK)&&true))))&&((a.aG==b.aG)&&((a.aW==b.aW)&&((a.bd==b.bd)&&((a.av==b.av)&&((a.az==b.az)&&true))))))),true):=by kernel_rfl
theorem eqE_46(a b:ap):binT prog .eql 46 (.d a.pd) (.d b.pd)=some (.bool (((a.aH.fX==b.aH.fX)&&((a.aH.fY==b.aH.fY)&&((a.aH.fZ==b.aH.fZ)&&true)))&&((a.aG==b.aG)&&((a.bp==b.bp)&&((a.bG==b.bG)&&((((a.au.aT.fX==b.au.aT.fX)&&((a.au.aT.fY==b.au.aT.fY)&&((a.au.aT.fZ==b.au.aT.fZ)&&true)))&&(((a.au.aB.fX==b.au.aB.fX)&&((a.au.aB.fY==b.au.aB.fY)&&((a.au.aB.fZ==b.au.aB.fZ)&&true)))&&true))&&true))))),true):=by kernel_rfl
theorem eqE_48(a b:ar):binT prog .eql 48 (.d a.pd) (.d b.pd)=some (.bool ((a.aT==b.aT)&&((a.aB==b.aB)&&true)),true):=by kernel_rfl
noncomputable def ext:FuncId->Option cB:=fun f=>if f=10 then some (lC (rB true))else none
theorem closed_10{r:Bool}(h:bN=some r):EvP prog hints ext 10 [] [] (rB r,[]):=by cases h;exact Ev.lib (g:=lC (rB true)) rfl rfl
theorem keep_New_ev{a0:(List Int)}{r:aa}(h:ca a0=some r):EvP prog hints ext 4 [rL a0] [] (.ptr 0 0,[.var (aa.rc r)]):=by
 refine Ev.body Z Tryz.func4 Z Zk<|gU Z<|sV (.d (.raw (.pointer none)))<|sN<|gU Z<|mM Z<|sE (rI (a0.length:Int)) (dp _ _)<|sV (rI (if(2000:Int)<(a0.length:Int)then(2000:Int)else(a0.length:Int)))<|bE h fun a h1 h=>WO.cutL (sz:=1) (g:=(PD.int .i64)) h1 (fun _=>Z) Z Z Z Z Z Z Z Z Z Z Z<|sV (.d (aa.pd (aa.mk a 0)))<|sB (.ptr 144 0) 144 (.var [rL a,r0])<|sA Z<|sN ?_
 refine qR ?_
 exact oI h▸qD
theorem Src_Raw_ev{d0:aa}{r:Int×aa}(h:Src_Raw d0=some r):EvP prog hints ext 13 [.ptr 0 0] [.var (aa.rc d0)] (rI r.1,[.var (aa.rc r.2)]):=by
 refine Ev.body Z Tryz.func13 Z Zk<|gU Z<|sV (r0)<|sN<|qS<|CC Z Z<|sM Z<|sV (.ptr 0 0)<|sV (.ptr 0 1)<|sL Z<|sM Z<|sV (.ptr 0 0)<|sV (.ptr 0 0)<|sL Z<|sE (rI (d0.fL.length:Int)) (dp _ _) ?_
 refine sF h ?_ ?_<;>intro h
 ·refine sN<|sO<|cT<|gU Z<|sV (r0)<|sN<|qR ?_
  exact oI h▸qD
 refine sN<|sO<|cF<|qK<|gU Z<|sM Z<|sV (.ptr 0 0)<|sV (.ptr 0 1)<|sL Z<|sV (rI (rW (d0.fAt+(1:Int))))<|sV (.ptr 0 0)<|sV (.ptr 0 1)<|sS 0 (.var [rL d0.fL,rI (rW (d0.fAt+(1:Int)))])<|sN<|CC Z Z<|sM Z ?_
 refine sV (.ptr 0 0)<|sV (.ptr 0 0)<|sL Z<|sM Z<|sV (.ptr 0 0)<|sV (.ptr 0 1)<|sL Z<|sV (rI (rW ((rW (d0.fAt+(1:Int)))-(1:Int))))<|bE h fun b a h=>eG a Z<|sC Z<|sA Z ?_
 refine sN<|sO<|qR ?_
 exact oI h▸qD
theorem keep_Mod_ev{a0:Int}{a:Int}{r:Int}(h:bR a0 a=some r):EvP prog hints ext 12 [rI a0,rI a] [] (rI r,[]):=by
 refine Ev.body Z Tryz.func12 Z Zk<|gU Z<|sV (r0)<|sN<|qS<|gU Z<|sM Z<|sF h ?_ ?_<;>intro h
 ·refine sN<|cT<|gU Z<|sV (r0)<|sN<|qR ?_
  exact oI h▸qD
 refine sN<|cF<|qK<|gU Z<|mM Z<|bE h fun c b h=>WO.remG b Z Z Z Z Z Z<|sA Z<|sN<|qS<|gU Z<|sM Z<|sF h ?_ ?_<;>intro h
 ·refine sN<|cT<|CE Z Z<|mM Z<|sV (rI (rW (c+a)))<|sA Z<|sN<|gU Z<|sM Z<|sA Z<|sN<|qR ?_
  exact oI h▸qD
 refine sN<|cF<|qK<|gU Z<|sM Z<|sA Z<|sN<|qR ?_
 exact oI h▸qD
theorem aV{a:Int}{d0:aa}{r:Int×aa}(h:bz a d0=some r):EvP prog hints ext 6 [.ptr 0 0,rI a] [.var (aa.rc d0)] (rI r.1,[.var (aa.rc r.2)]):=by
 refine Ev.body Z Tryz.func6 Z Zk<|gU Z<|sV (r0)<|sN<|gU Z<|sM Z<|bE h fun b h1 h=>cR (rI b.1) [(0,.var (aa.rc b.2))] (Src_Raw_ev h1)<|sM Z<|bE h fun e c h=>cD (keep_Mod_ev c)<|sA Z<|sN<|qR ?_
 exact oI h▸qD
theorem keep_Source_ev{a0:Int}{r:aI}(h:bS a0=some r):EvP prog hints ext 23 [rI a0] [] (.d (aI.pd r),[]):=by
 refine Ev.body Z Tryz.func23 Z Zk<|gU Z<|sB (.ptr 32 0) 32 (.var [rS [],rS [],rS [],rS []])<|sN<|gU Z<|sV (.d (.lst ([[83,49],[83,50],[83,51],[83,52],[83,53],[83,54]].map PD.str)))<|sM Z<|bE h fun c h1 h=>cD (keep_Mod_ev h1)<|bE h fun a b h=>eG b Z<|sC Z<|sV (.d (aI.pd (aI.mk [65,66] a [48,48] [66,72,90])))<|sS 32 (.var [rS [65,66],rS a,rS [48,48],rS [66,72,90]])<|sN ?_
 refine qR ?_
 exact oI h▸qD
theorem Src_Place_ev{a:Int}{d0:aa}{r:aj×aa}(h:bU a d0=some r):EvP prog hints ext 24 [.ptr 0 0,rI a] [.var (aa.rc d0)] (.d (aj.pd r.1),[.var (aa.rc r.2)]):=by
 refine Ev.body Z Tryz.func24 Z Zk<|gU Z<|sB (.ptr 64 0) 64 (.var [r0,r0,r0])<|sN<|gU Z<|mM Z<|sV (rI (rW ((2:Int)*a)))<|sV (rI (rW ((rW ((2:Int)*a))+(1:Int))))<|bE h fun b h1 h=>cR (rI b.1) [(0,.var (aa.rc b.2))] (aV h1)<|sM Z<|sV (rI (rW (b.1-a)))<|sM Z<|sM Z ?_
 refine sV (rI (rW ((2:Int)*a)))<|sV (rI (rW ((rW ((2:Int)*a))+(1:Int))))<|bE h fun c f h=>cR (rI c.1) [(0,.var (aa.rc c.2))] (aV f)<|sM Z<|sV (rI (rW (c.1-a)))<|mM Z<|sV (rI (rW (a+(1:Int))))<|bE h fun e g h=>cR (rI e.1) [(0,.var (aa.rc e.2))] (aV g)<|sV (.d (aj.pd (aj.mk (rW (b.1-a)) (rW (c.1-a)) e.1)))<|sS 64 (.var [rI (rW (b.1-a)),rI (rW (c.1-a)),rI e.1])<|sN<|qR ?_
 exact oI h▸qD
theorem Src_Pick_ev{a:(List Int)}{d0:aa}{r:Int×aa}(h:bZ a d0=some r):EvP prog hints ext 25 [.ptr 0 0,rL a] [.var (aa.rc d0)] (rI r.1,[.var (aa.rc r.2)]):=by
 refine Ev.body Z Tryz.func25 Z Zk<|gU Z<|sV (r0)<|sN<|gU Z<|mM Z<|sM Z<|sE (rI (a.length:Int)) (dp _ _)<|bE h fun b h1 h=>cR (rI b.1) [(0,.var (aa.rc b.2))] (aV h1)<|bE h fun e c h=>eG c Z<|sC Z<|sA Z ?_
 refine sN<|qR ?_
 exact oI h▸qD
theorem Src_Event_ev{k:Int}{d0:aa}{r:ae×aa}(h:bT k d0=some r):EvP prog hints ext 11 [.ptr 0 0,rI k] [.var (aa.rc d0)] (.agg (ac.rc r.1.al++ .ref 1 0::ap.rc r.1.ai.ah++ar.rc r.1.ai.aq++[rI r.1.ai.aU]),[.var (aa.rc r.2),.arr 0 40 (r.1.ai.aM.map ac.pd)]):=by
 refine Ev.body Z Tryz.func11 Z Zk<|gU Z<|sB (.ptr 64 0) 64 (.var zZ0)<|sN<|gU Z<|sB (.ptr 80 0) 80 (.var zZ0)<|sN<|gU Z<|sM Z<|bE h fun c h1 h=>cR (rI c.1) [(0,.var (aa.rc c.2))] (aV h1)<|sV (rI (rW ((1000:Int)+c.1)))<|sA Z<|sN<|qS ?_
 refine gU Z<|sV (r0)<|sN<|bE h fun L p h=>CB (CD (WL.gq p (fun s=>gI 1 11 4 [(0,.ptr 0 0),(1,rI k),(4,.ptr 64 0),(5,.ptr 80 0),(6,rI (rW ((1000:Int)+c.1))),(7,rI s.1)] [(0,.var [rL s.2.1,rI s.2.2.1]),(64,.var zZ0),(80,.var [rS [],rS [],rS [],rS [],r0,r0,r0,r0,r0,.ref 656 0,r0,r0,r0,r0,r0,r0,r0,r0,r0,r0,r0,r0,r0,r0,r0]),(656,.arr 0 40 (s.2.2.2.map ac.pd))]) (fun o=>gX 0 1 11 7 [(0,.ptr 0 0),(4,.ptr 64 0),(5,.ptr 80 0),(6,rI (rW ((1000:Int)+c.1)))] [(0,.var [rL o.1,rI o.2.1]),(64,.var zZ0),(80,.var [rS [],rS [],rS [],rS [],r0,r0,r0,r0,r0,.ref 656 0,r0,r0,r0,r0,r0,r0,r0,r0,r0,r0,r0,r0,r0,r0,r0]),(656,.arr 0 40 (o.2.2.map ac.pd))]) Z ?_ ?_))
 ·rintro⟨s2,T,U,W⟩ J I Q H h
  unfold bH at h
  refine qS<|gS Z H<|mM Z<|bE h fun n t h=>cR (rI n.1) [(0,.var (aa.rc n.2))] (aV t)<|sV (rI (rW ((1:Int)+n.1)))<|sF h ?_ ?_<;>intro h
  ·refine sN<|cT<|qK<|qS<|qB<|WC.lV Z Z<|sV (.ptr 80 9)<|sV (.ptr 80 9)<|sL Z<|sM Z<|bE h fun q u h=>cD (keep_Source_ev u)<|mM Z<|sV (rI (rW ((10:Int)*k))) ?_
   refine sV (rI (rW ((rW ((1000:Int)+c.1))+(rW ((10:Int)*k)))))<|mM Z<|sV (rI (rW ((10:Int)*k)))<|sV (rI (rW ((rW ((1000:Int)+c.1))+(rW ((10:Int)*k)))))<|mM Z<|sV (rI (rW ((10:Int)*k)))<|sV (rI (rW ((rW ((1000:Int)+c.1))+(rW ((10:Int)*k)))))<|sM Z<|bE h fun m v h=>cR (rI m.1) [(0,.var (aa.rc m.2))] (aV v)<|sV (rI (rW ((rW ((rW ((1000:Int)+c.1))+(rW ((10:Int)*k))))+m.1)))<|sM Z<|sG (.d (ac.pd (ac.mk q (rW ((rW ((1000:Int)+c.1))+(rW ((10:Int)*k)))) (rW ((rW ((1000:Int)+c.1))+(rW ((10:Int)*k)))) (rW ((rW ((rW ((1000:Int)+c.1))+(rW ((10:Int)*k))))+m.1)) k 0))) ?_
   refine sG (.d (.lst ([(ac.mk q (rW ((rW ((1000:Int)+c.1))+(rW ((10:Int)*k)))) (rW ((rW ((1000:Int)+c.1))+(rW ((10:Int)*k)))) (rW ((rW ((rW ((1000:Int)+c.1))+(rW ((10:Int)*k))))+m.1)) k 0)].map ac.pd)))<|bE h fun N x h=>aR x (fun _=>Z) Z<|sV (.ptr 80 9)<|sV (.ptr 80 9)<|sS 80 (.var [rS [],rS [],rS [],rS [],r0,r0,r0,r0,r0,.ref 656 1,r0,r0,r0,r0,r0,r0,r0,r0,r0,r0,r0,r0,r0,r0,r0]) ?_
   refine sN<|sO<|CE Z Z<|sM Z<|sV (rI (rW (s2+(1:Int))))<|sA Z<|sN ?_
   cases oI h
   exact⟨rfl,rfl⟩
  refine sN<|cF<|qX ?_
  cases oI h
  exact⟨nofun,rfl,rfl⟩
 intro e J I he K
 obtain⟨rfl,H⟩:=K
 refine qE<|gS Z H<|sV (.ptr 80 9)<|sV (.ptr 80 9)<|sL Z<|bE h fun O y h=>WO.eltG y Z Z Z Z Z Z Z Z<|bE h fun g z h=>WO.loadE z Z Z Z Z Z Z<|sV (.ptr 80 0)<|sH 80 (.var (ac.rc g++[.ref 656 0,r0,r0,r0,r0,r0,r0,r0,r0,r0,r0,r0,r0,r0,r0,r0]))<|sN<|gU Z<|sM Z<|bE h fun a B h=>?_
 refine cR (.d (aj.pd a.1)) [(0,.var (aa.rc a.2))] (Src_Place_ev B)<|mM Z<|bE h fun b C h=>cR (rI b.1) [(0,.var (aa.rc b.2))] (aV C)<|sV (rI (rW ((rW ((1000:Int)+c.1))-b.1)))<|sM Z<|sV (.d (.lst ([0,0,5,500].map (PD.int .i64))))<|bE h fun f D h=>cR (rI f.1) [(0,.var (aa.rc f.2))] (Src_Pick_ev D)<|sG (.d (ap.pd (ap.mk a.1 (rW ((rW ((1000:Int)+c.1))-b.1)) f.1 0 (ba.mk (aj.mk 0 0 0) (aj.mk 0 0 0)))))<|sV (.ptr 80 9)<|sV (.ptr 80 10)<|sH 80 (.var (ac.rc g++ .ref 656 0::aj.rc a.1++[rI (rW ((rW ((1000:Int)+c.1))-b.1)),rI f.1,r0,r0,r0,r0,r0,r0,r0,r0,r0,r0]))<|sN ?_
 refine gU Z<|sV (.ptr 80 9)<|sV (.ptr 80 10)<|sV (.ptr 80 10)<|sV (.d (aj.pd a.1))<|sV (.ptr 80 9)<|sV (.ptr 80 10)<|sV (.ptr 80 10)<|sV (.d (aj.pd a.1))<|sG (.d (ba.pd (ba.mk a.1 a.1)))<|sV (.ptr 80 9)<|sV (.ptr 80 10)<|sV (.ptr 80 16)<|sH 80 (.var (ac.rc g++ .ref 656 0::aj.rc a.1++rI (rW ((rW ((1000:Int)+c.1))-b.1))::rI f.1::r0::aj.rc a.1++aj.rc a.1++[r0,r0,r0]))<|sN ?_
 refine gU Z<|sM Z<|bE h fun j E h=>cR (rI j.1) [(0,.var (aa.rc j.2))] (aV E)<|sV (.ptr 80 9)<|sV (.ptr 80 24)<|sS 80 (.var (ac.rc g++ .ref 656 0::aj.rc a.1++rI (rW ((rW ((1000:Int)+c.1))-b.1))::rI f.1::r0::aj.rc a.1++aj.rc a.1++[r0,r0,rI j.1]))<|sN<|qS<|gU Z<|sV (.ptr 80 9)<|sV (.ptr 80 24)<|sL Z<|sF h ?_ ?_<;>intro h
 ·refine sN<|cT<|gU Z<|sM Z<|bE h fun i F h=>cR (rI i.1) [(0,.var (aa.rc i.2))] (aV F)<|sV (.ptr 80 9)<|sV (.ptr 80 22)<|sV (.ptr 80 22)<|sS 80 (.var (ac.rc g++ .ref 656 0::aj.rc a.1++rI (rW ((rW ((1000:Int)+c.1))-b.1))::rI f.1::r0::aj.rc a.1++aj.rc a.1++[rI i.1,r0,rI j.1]))<|sN<|WC.lV Z Z<|sV (.ptr 80 9)<|sV (.ptr 80 22)<|sV (.ptr 80 22) ?_
  refine sL Z<|sM Z<|bE h fun l G h=>cR (rI l.1) [(0,.var (aa.rc l.2))] (aV G)<|sV (rI (rW (i.1+l.1)))<|sV (.ptr 80 9)<|sV (.ptr 80 22)<|sV (.ptr 80 23)<|sS 80 (.var (ac.rc g++ .ref 656 0::aj.rc a.1++rI (rW ((rW ((1000:Int)+c.1))-b.1))::rI f.1::r0::aj.rc a.1++aj.rc a.1++[rI i.1,rI (rW (i.1+l.1)),rI j.1])) ?_
  refine sN<|sO<|gU Z<|sV (.agg (ac.rc g++ .ref 656 0::aj.rc a.1++rI (rW ((rW ((1000:Int)+c.1))-b.1))::rI f.1::r0::aj.rc a.1++aj.rc a.1++[rI i.1,rI (rW (i.1+l.1)),rI j.1]))<|sH 64 (.var (ac.rc g++ .ref 656 0::aj.rc a.1++rI (rW ((rW ((1000:Int)+c.1))-b.1))::rI f.1::r0::aj.rc a.1++aj.rc a.1++[rI i.1,rI (rW (i.1+l.1)),rI j.1]))<|sN<|qR ?_
  cases oI h
  exact qG
 refine sN<|cF<|qK<|gU Z<|sV (.agg (ac.rc g++ .ref 656 0::aj.rc a.1++rI (rW ((rW ((1000:Int)+c.1))-b.1))::rI f.1::r0::aj.rc a.1++aj.rc a.1++[r0,r0,rI j.1]))<|sH 64 (.var (ac.rc g++ .ref 656 0::aj.rc a.1++rI (rW ((rW ((1000:Int)+c.1))-b.1))::rI f.1::r0::aj.rc a.1++aj.rc a.1++[r0,r0,rI j.1]))<|sN<|qR ?_
 cases oI h
 exact qG
theorem bV{l:Int}{d0:aa}{r:(List ae)×aa}(h:bD l d0=some r):EvP prog hints ext 5 [.ptr 0 0,rI l] [.var (aa.rc d0)] (.ref 1 0,[.var (aa.rc r.2),.arr 0 52 (r.1.map ae.pd)]):=by
 refine Ev.body Z Tryz.func5 Z Zk<|gU Z<|sV .cL<|sN<|gU Z<|sV .cL<|sN<|qS<|gU Z<|sV (r0)<|sN<|bE h fun J n h=>CB (CD (WL.gq n (fun s=>gI 1 5 3 [(0,.ptr 0 0),(1,rI l),(5,.ref 1344 0),(6,rI s.1)] [(0,.var [rL s.2.1,rI s.2.2.1]),(1344,.arr 0 52 (s.2.2.2.map ae.pd))]) (fun o=>gX 0 1 5 16 [(5,.ref 1344 0)] [(0,.var [rL o.2.1,rI o.2.2]),(1344,.arr 0 52 (o.1.map ae.pd))]) Z ?_ ?_))
 ·rintro⟨s1,s2,s3,N⟩ t q Y k h
  refine qS<|gS Z k<|mM Z<|sF h ?_ ?_<;>intro h
  ·refine sN<|cT<|qK<|qS<|qB<|qS<|gU Z<|sM Z<|bE h fun p v h=>cR (rI p.1) [(0,.var (aa.rc p.2))] (aV v)<|sF h ?_ ?_<;>intro h
   ·refine sN<|cT<|qX<|qE<|CE Z Z<|sM Z<|sV (rI (rW (s1+(1:Int))))<|sA Z<|sN ?_
    cases oI h
    exact⟨rfl,rfl⟩
   refine sN<|cF<|qK<|gU Z<|sM Z<|bE h fun a x h=>cR (.agg (ac.rc a.1.al++ .ref 304 0::ap.rc a.1.ai.ah++ar.rc a.1.ai.aq++[rI a.1.ai.aU])) [(0,.var (aa.rc a.2)),(304,.arr 0 40 (a.1.ai.aM.map ac.pd))] (Src_Event_ev x)<|sB (.ptr 112 0) 112 (.var zZ0)<|sH 112 (.var (ac.rc a.1.al++ .ref 304 0::ap.rc a.1.ai.ah++ar.rc a.1.ai.aq++[rI a.1.ai.aU]))<|sN<|qS<|gU Z<|sV (.ptr 112 9)<|sV (.ptr 112 9)<|sL Z ?_
   refine WO.lenR Z Z Z Z Z Z Z Z Z<|sV (r0)<|sN<|bE h fun c m h=>CB (CD (WL.gq m (fun s=>gI 1 5 8 [(0,.ptr 0 0),(1,rI l),(5,.ref 1344 0),(6,rI s1),(7,.ptr 112 0),(23,rI (a.1.ai.aM.length:Int)),(24,rI s.1)] [(0,.var (aa.rc a.2)),(112,.var (ac.rc a.1.al++ .ref 304 0::ap.rc a.1.ai.ah++ar.rc a.1.ai.aq++[rI a.1.ai.aU])),(304,.arr 0 40 (s.2.map ac.pd)),(1344,.arr 0 52 (N.map ae.pd))]) (fun o=>gX 2 1 5 13 [(0,.ptr 0 0),(1,rI l),(5,.ref 1344 0),(6,rI o.1),(7,.ptr 112 0)] [(0,.var (aa.rc a.2)),(112,.var (ac.rc a.1.al++rM ac.pd o.2.2::ap.rc a.1.ai.ah++ar.rc a.1.ai.aq++[rI a.1.ai.aU])),(1344,.arr 0 52 (o.2.1.map ae.pd))]) Z ?_ ?_))
   ·rintro⟨b,L⟩ t q K k h
    refine gS Z k<|sF h ?_ ?_<;>intro h
    ·refine sN<|qS<|cT<|qK<|qS<|qB<|gU Z<|sM Z<|sA Z<|sN<|gU Z<|sV (.ptr 112 9)<|sV (.ptr 112 9)<|sL Z<|sM Z ?_
     refine bE h fun O y h=>WO.eltG y Z Z Z Z Z Z Z Z<|sA Z<|sN<|CE Z Z<|mM Z<|mM Z<|sM Z<|sV (rI (rW ((400:Int)*s1)))<|sV (rI (rW ((1000:Int)+(rW ((400:Int)*s1)))))<|sM Z<|sV (rI (rW ((rW ((1000:Int)+(rW ((400:Int)*s1))))+b)))<|sM Z ?_
     refine sV (rI (rW ((400:Int)*s1)))<|sV (rI (rW ((1000:Int)+(rW ((400:Int)*s1)))))<|sM Z<|sV (rI (rW ((rW ((1000:Int)+(rW ((400:Int)*s1))))+b)))<|sM Z<|sV (rI (rW ((400:Int)*s1)))<|sV (rI (rW ((1000:Int)+(rW ((400:Int)*s1)))))<|sM Z<|sV (rI (rW ((rW ((1000:Int)+(rW ((400:Int)*s1))))+b)))<|sV (rI (rW ((rW ((rW ((1000:Int)+(rW ((400:Int)*s1))))+b))+(2:Int))))<|sV (.elt 304 0 (b).toNat 0)<|sV (.elt 304 0 (b).toNat 4)<|bE h fun Q z h=>WO.l5 (g:=ac.pd) (u:=[]) (sz:=1) z (fun _=>Z) (fun _=>CF Z) Z Z Z Z Z Z Z Z Z Z Z<|sV (.elt 304 0 (b).toNat 0) ?_
     refine sV (.elt 304 0 (b).toNat 5)<|bE h fun T B h=>WO.l5 (g:=ac.pd) (u:=[]) (sz:=1) B (fun _=>Z) (fun _=>CF Z) Z Z Z Z Z Z Z Z Z Z Z<|sV (.elt 304 0 (b).toNat 0)<|sV (.elt 304 0 (b).toNat 6)<|bE h fun U C h=>WO.l5 (g:=ac.pd) (u:=[]) (sz:=1) C (fun _=>Z) (fun _=>CF Z) Z Z Z Z Z Z Z Z Z Z Z<|sV (.elt 304 0 (b).toNat 0)<|sV (.elt 304 0 (b).toNat 7)<|bE h fun W D h=>WO.l5 (g:=ac.pd) (u:=[]) (sz:=1) D (fun _=>Z) (fun _=>CF Z) Z Z Z Z Z Z Z Z Z Z Z<|sN<|CE Z Z<|sV (rI (rW (b+(1:Int))))<|sM Z ?_
     refine sN ?_
     cases oI h
     exact⟨rfl,rfl⟩
    refine sN<|qS<|cF<|qX ?_
    cases oI h
    exact⟨nofun,rfl,rfl⟩
   intro e t q he I
   obtain⟨rfl,k⟩:=I
   refine qE<|CC k Z<|sV (.ptr 112 9)<|sV (.ptr 112 9)<|sL Z<|sM Z<|bE h fun f E h=>cR (rI f.1) [(0,.var (aa.rc f.2))] (aV E)<|sV (.ptr 112 9)<|sV (.ptr 112 9)<|sL Z<|sE (rI (c.2.2.length:Int)) (dp _ _)<|sV (rI (rW ((c.2.2.length:Int)-(1:Int))))<|sV (rI (if(rW ((c.2.2.length:Int)-(1:Int)))<f.1 then(rW ((c.2.2.length:Int)-(1:Int)))else f.1))<|bE h fun i F h=>?_
   refine WO.cutL (sz:=9) (g:=ac.pd) F (fun _=>Z) Z Z Z Z Z Z Z Z Z Z Z<|sV (.ptr 112 9)<|sV (.ptr 112 9)<|sS 112 (.var (ac.rc a.1.al++rM ac.pd i::ap.rc a.1.ai.ah++ar.rc a.1.ai.aq++[rI a.1.ai.aU])) ?_
   refine sN<|sO<|gU Z<|sV (.ptr 112 9)<|sV (.ptr 112 9)<|sL Z<|bE h fun j G h=>eG G Z<|sV (.d (ac.pd j))<|sV (.ptr 112 0)<|sH 112 (.var (ac.rc j++rM ac.pd i::ap.rc a.1.ai.ah++ar.rc a.1.ai.aq++[rI a.1.ai.aU]))<|sN<|CE Z Z<|sM Z<|sV (.d (ae.pd (ae.mk j (am.mk i a.1.ai.ah a.1.ai.aq a.1.ai.aU))))<|sG (.d (.lst ([(ae.mk j (am.mk i a.1.ai.ah a.1.ai.aq a.1.ai.aU))].map ae.pd))) ?_
   refine bE h fun X H h=>aR H (fun _=>Z) Z<|sA Z<|sN<|CE Z Z<|sM Z<|sV (rI (rW (c.1+(1:Int))))<|sA Z<|sN ?_
   cases oI h
   exact⟨rfl,rfl⟩
  refine sN<|cF<|qX ?_
  cases oI h
  exact⟨nofun,rfl,rfl⟩
 intro e t q he I
 obtain⟨rfl,k⟩:=I
 refine qE<|gS Z k<|sM Z<|sA Z<|sN<|qR ?_
 exact oI h▸qD
theorem bC{a0:ae}{d0:ac}{r:Bool}(h:br a0 d0=some r):EvP prog hints ext 27 [.d (ae.pd a0),.ptr 0 0] [.var (ac.rc d0)] (rB r,[.var (ac.rc d0)]):=by
 refine Ev.body Z Tryz.func27 Z Zk<|gU Z<|sB (.ptr 32 0) 32 (.var (ae.rc a0))<|sU<|sN<|gU Z<|sV (.ptr 32 0)<|sV (.d (ac.pd a0.al))<|sV (.d (ac.pd d0))<|WO.bin (eqE_40 a0.al d0) Z Z Z Z Z<|sA Z<|sN<|qR ?_
 cases oI h
 exact qG
theorem bv{a0:(List ae)}{d0:ac}{r:Int}(h:aS a0 d0=some r):EvP prog hints ext 26 [rM ae.pd a0,.clo 27 [.ptr 0 0]] [.var (ac.rc d0)] (rI r,[.var (ac.rc d0)]):=by
 refine Ev.body Z Tryz.func26 Z Zk<|gU Z<|sV (r0)<|sN<|qS<|gU Z<|sM Z<|sE (rI (a0.length:Int)) (dp _ _)<|sV (r0)<|sN<|bE h fun m f h=>CB (CD (WL.gq f (fun s=>gI 1 26 2 [(0,rM ae.pd a0),(1,.clo 27 [.ptr 0 0]),(7,rI (a0.length:Int)),(8,rI s)] [(0,.var (ac.rc d0))]) (fun o=>match o with| .inl y=>gX 0 1 26 7 [] [(0,.var (ac.rc d0))]| .inr r=>gF 26 Tryz.f26 1 (rI r,[.var (ac.rc d0)])) Z ?_ ?_))
 ·rintro s1 k j q c h
  refine gS Z c<|sF h ?_ ?_<;>intro h
  ·refine sN<|qS<|cT<|qK<|qS<|qB<|gU Z<|sM Z<|sA Z<|sN<|gU Z<|mM Z<|sM Z<|bE h fun p l h=>?_
   refine eG l Z<|sV (.d (ae.pd p))<|bE h fun t g h=>gN h (fun a h=>?_) (fun a h=>?_)
   ·refine WO.kW (v:=rB true) (u:=[(0,.var (ac.rc d0))]) Z Z (fun _=>Z) Z Z Z Z Z (bC g) Z Z (congrArg (fun b=>RV.d (.bool b)) a) Z<|sN<|cT<|gU Z<|sM Z<|sA Z<|sN<|qR ?_
    cases oI h
    exact⟨nofun,rfl,rfl⟩
   refine WO.kW (v:=rB false) (u:=[(0,.var (ac.rc d0))]) Z Z (fun _=>Z) Z Z Z Z Z (bC g) Z Z (congrArg (fun b=>RV.d (.bool b)) a) Z<|sN<|cF<|qK<|CE Z Z<|sV (rI (rW (s1+(1:Int))))<|sM Z<|sN ?_
   cases oI h
   exact⟨rfl,rfl⟩
  refine sN<|qS<|cF<|qX ?_
  cases oI h
  exact⟨nofun,rfl,rfl⟩
 intro e k j he i
 rcases m with x|n
 ·obtain⟨rfl,c⟩:=i
  refine qE<|gS Z c<|sV (rI (-1))<|sN<|qR ?_
  cases oI h
  exact qG
 obtain⟨rfl,hf⟩:=i
 cases oI h
 exact hf
theorem bP{a0:(List ae)}{a:ac}{r:Int}(h:bA a0 a=some r):EvP prog hints ext 14 [rM ae.pd a0,.d (ac.pd a)] [] (rI r,[]):=by
 refine Ev.body Z Tryz.func14 Z Zk<|gU Z<|sB (.ptr 48 0) 48 (.var (ac.rc a))<|sV (r0)<|sN<|gU Z<|sM Z<|sV (.clo 27 [.ptr 48 0])<|bE h fun b h1 h=>cR (rI b) [(48,.var (ac.rc a))] (bv h1)<|sA Z<|sN<|qR ?_
 cases oI h
 exact qG
theorem bB{a0:(List ac)}{b:(List ac)}{r:Bool}(h:aX a0 b=some r):EvP prog hints ext 28 [rM ac.pd a0,rM ac.pd b] [] (rB r,[]):=by
 refine Ev.body Z Tryz.func28 Z Zk<|gU Z<|sU<|sN<|qS<|gU Z<|sM Z<|sE (rI (a0.length:Int)) (dp _ _)<|sM Z<|sE (rI (b.length:Int)) (dp _ _)<|sF h ?_ ?_<;>intro h
 ·refine sN<|cT<|gU Z<|sU<|sN<|qR ?_
  exact oI h▸qD
 refine sN<|cF<|qK<|qS<|gU Z<|sM Z<|sE (rI (a0.length:Int)) (dp _ _)<|sV (r0)<|sN<|bE h fun p f h=>CB (CD (WL.gq f (fun s=>gI 0 28 4 [(0,rM ac.pd a0),(1,rM ac.pd b),(12,rI (a0.length:Int)),(13,rI s)] []) (fun o=>match o with| .inl y=>gX 0 0 28 9 [] []| .inr r=>gF 28 Tryz.f28 0 (rB r,[])) Z ?_ ?_))
 ·rintro s2 l k u c h
  refine gS Z c<|sF h ?_ ?_<;>intro h
  ·refine sN<|qS<|cT<|qK<|qS<|qB<|gU Z<|sM Z<|sA Z<|sN<|CC Z Z<|mM Z<|bE h fun g m h=>eG m Z ?_
   refine sV (.d (ac.pd g))<|mM Z<|bE h fun i n h=>eG n Z<|sV (.d (ac.pd i))<|gN h (fun a h=>?_) (fun a h=>?_)
   ·refine WO.binS (eqN_40 g i) a Z Z Z Z Z ?_
    refine sN<|sO<|cT<|gU Z<|sU<|sN<|qR ?_
    cases oI h
    exact⟨nofun,rfl,rfl⟩
   refine WO.binS (eqN_40 g i) a Z Z Z Z Z ?_
   refine sN<|sO<|cF<|qK<|CE Z Z<|sV (rI (rW (s2+(1:Int))))<|sM Z<|sN ?_
   cases oI h
   exact⟨rfl,rfl⟩
  refine sN<|qS<|cF<|qX ?_
  cases oI h
  exact⟨nofun,rfl,rfl⟩
 intro e l k he j
 rcases p with t|q
 ·obtain⟨rfl,c⟩:=j
  refine qE<|gS Z c<|sT<|sN<|qR ?_
  exact oI h▸qD
 obtain⟨rfl,hf⟩:=j
 cases oI h
 exact hf
theorem bK{a0:am}{a:am}{r:Bool}(h:bh a0 a=some r):EvP prog hints ext 15 [.d (am.pd a0),.d (am.pd a)] [] (rB r,[]):=by
 refine Ev.body Z Tryz.func15 Z Zk<|gU Z<|sB (.ptr 32 0) 32 (.var (am.rc a0))<|sB (.ptr 48 0) 48 (.var (am.rc a))<|sU<|sN<|gU Z<|sV (.ptr 32 0)<|sL Z<|sV (.ptr 48 0)<|sL Z<|bE h fun e h1 h=>gN h (fun c h=>?_) (fun c h=>?_)
 ·refine WO.kW (v:=rB true) (u:=[]) Z Z (fun _=>Z) Z Z Z Z Z (bB h1) Z Z (congrArg (fun b=>RV.d (.bool b)) c) Z<|sM Z<|sV (.ptr 32 1)<|sV (.d (ap.pd a0.ah))<|sV (.ptr 48 1)<|sV (.d (ap.pd a.ah))<|WO.bin (eqE_46 a0.ah a.ah) Z Z Z Z Z<|sF h ?_ ?_<;>intro h
  ·refine sM Z<|sV (.ptr 32 13)<|sV (.d (ar.pd a0.aq))<|sV (.ptr 48 13)<|sV (.d (ar.pd a.aq))<|WO.bin (eqE_48 a0.aq a.aq) Z Z Z Z Z<|sF h ?_ ?_<;>intro h
   ·refine sM Z<|sV (.ptr 32 15)<|sL Z<|sV (.ptr 48 15)<|sL Z<|sV (rB (a0.aU==a.aU))<|sV (rB (a0.aU==a.aU))<|sA Z<|sN<|qR ?_
    cases oI h
    exact qG
   refine sM Z<|k3<|sK<|sK<|sU<|sA Z<|sN<|qR ?_
   cases oI h
   exact qG
  refine sM Z<|k3<|sK<|sK<|sU<|sM Z<|k3<|sK<|sK<|sU<|sA Z ?_
  refine sN<|qR ?_
  cases oI h
  exact qG
 refine WO.kW (v:=rB false) (u:=[]) Z Z (fun _=>Z) Z Z Z Z Z (bB h1) Z Z (congrArg (fun b=>RV.d (.bool b)) c) Z<|sM Z<|k3<|sK<|sK<|sU<|sM Z<|k3<|sK<|sK<|sU ?_
 refine sM Z<|k3<|sK<|sK<|sU<|sA Z<|sN<|qR ?_
 cases oI h
 exact qG
theorem bq{a0:(List ae)}{g:(List ae)}{r:(List ac)×(List ac)×(List ac)}(h:aP a0 g=some r):EvP prog hints ext 7 [rM ae.pd a0,rM ae.pd g] [] (.tup [rM ac.pd r.1,rM ac.pd r.2.1,rM ac.pd r.2.2],[]):=by
 refine Ev.body Z Tryz.func7 Z Zk<|gU Z<|sV .cL<|sV .cL<|sV .cL<|sN<|qS<|gU Z<|sM Z<|sE (rI (a0.length:Int)) (dp _ _)<|sV (r0)<|sN<|bE h fun c j h=>CB (CD (WL.gq j (fun s=>gI 0 7 2 [(0,rM ae.pd a0),(1,rM ae.pd g),(4,.ref 464 0),(5,.cL),(6,.ref 704 0),(12,rM ae.pd a0),(13,rI (a0.length:Int)),(14,rI s.1)] [(464,.arr 0 40 (s.2.1.map ac.pd)),(704,.arr 0 40 (s.2.2.map ac.pd))]) (fun o=>gX 0 0 7 10 [(0,rM ae.pd a0),(1,rM ae.pd g),(4,.ref 464 0),(5,.cL),(6,.ref 704 0)] [(464,.arr 0 40 (o.1.map ac.pd)),(704,.arr 0 40 (o.2.map ac.pd))]) Z ?_ ?_))
 ·rintro⟨s1,s2,N⟩ n m L i h
  refine gS Z i<|sF h ?_ ?_<;>intro h
  ·refine sN<|qS<|cT<|qK<|qS<|qB<|gU Z<|bE h fun f B h=>eG B Z<|sV (.d (ae.pd f))<|sB (.ptr 128 0) 128 (.var zZ0)<|sH 128 (.var (ae.rc f))<|sN<|gU Z<|sM Z ?_
   refine sV (.ptr 128 0)<|sV (.d (ac.pd f.al))<|bE h fun O C h=>cD (bP C)<|sA Z<|sN<|qB<|gU Z<|sM Z<|sF h ?_ ?_<;>intro h
   ·refine sA Z<|sN<|cT<|CE Z Z<|sM Z<|sV (.ptr 128 0)<|sV (.d (ac.pd f.al))<|sG (.d (.lst ([f.al].map ac.pd)))<|bE h fun G p h=>aR p (fun _=>Z) Z<|sA Z<|sN<|CE Z Z<|sV (rI (rW (s1+(1:Int))))<|sM Z ?_
    refine sN ?_
    cases oI h
    exact⟨rfl,rfl⟩
   refine sA Z<|sN<|cF<|CC Z Z<|sV (.ptr 128 9)<|sV (.d (am.pd f.ai))<|mM Z<|bE h fun a q h=>eG q Z<|sV (.cptr [.lst (a.ai.aM.map ac.pd),.int .i64 a.ai.ah.aH.fX,.int .i64 a.ai.ah.aH.fY,.int .i64 a.ai.ah.aH.fZ,.int .i64 a.ai.ah.aG,.int .i64 a.ai.ah.bp,.int .i64 a.ai.ah.bG,.int .i64 a.ai.ah.au.aT.fX,.int .i64 a.ai.ah.au.aT.fY,.int .i64 a.ai.ah.au.aT.fZ,.int .i64 a.ai.ah.au.aB.fX,.int .i64 a.ai.ah.au.aB.fY,.int .i64 a.ai.ah.au.aB.fZ,.int .i64 a.ai.aq.aT,.int .i64 a.ai.aq.aB,.int .i64 a.ai.aU])<|sV (.d (am.pd a.ai))<|bE h fun H t h=>cD (bK t)<|sF h ?_ ?_<;>intro h
   ·refine sA Z ?_
    refine sN<|sO<|cT<|CE Z Z<|sM Z<|sV (.ptr 128 0)<|sV (.d (ac.pd f.al))<|sG (.d (.lst ([f.al].map ac.pd)))<|bE h fun I u h=>aR u (fun _=>Z) Z<|sA Z<|sN<|CE Z Z<|sV (rI (rW (s1+(1:Int))))<|sM Z<|sN ?_
    cases oI h
    exact⟨rfl,rfl⟩
   refine sA Z ?_
   refine sN<|sO<|cF<|qK<|CE Z Z<|sV (rI (rW (s1+(1:Int))))<|sM Z<|sN ?_
   cases oI h
   exact⟨rfl,rfl⟩
  refine sN<|qS<|cF<|qX ?_
  cases oI h
  exact⟨nofun,rfl,rfl⟩
 intro e n m he z
 obtain⟨rfl,i⟩:=z
 refine qE<|qS<|gS Z i<|sM Z<|sE (rI (g.length:Int)) (dp _ _)<|sV (r0)<|sN<|bE h fun D k h=>CB (CD (WL.gq k (fun s=>gI 0 7 11 [(0,rM ae.pd a0),(4,.ref 464 0),(5,.ref 976 0),(6,.ref 704 0),(46,rM ae.pd g),(47,rI (g.length:Int)),(48,rI s.1)] [(464,.arr 0 40 (c.1.map ac.pd)),(704,.arr 0 40 (c.2.map ac.pd)),(976,.arr 0 40 (s.2.map ac.pd))]) (fun o=>gX 3 0 7 16 [(4,.ref 464 0),(5,.ref 976 0),(6,.ref 704 0)] [(464,.arr 0 40 (c.1.map ac.pd)),(704,.arr 0 40 (c.2.map ac.pd)),(976,.arr 0 40 (o.map ac.pd))]) Z ?_ ?_))
 ·rintro⟨l,F⟩ n m E i h
  refine gS Z i<|sF h ?_ ?_<;>intro h
  ·refine sN<|qS<|cT<|qK<|qS<|qB<|gU Z<|bE h fun b v h=>eG v Z<|sV (.d (ae.pd b))<|sB (.ptr 176 0) 176 (.var zZ0)<|sH 176 (.var (ae.rc b))<|sN<|gU Z<|sM Z ?_
   refine sV (.ptr 176 0)<|sV (.d (ac.pd b.al))<|bE h fun J x h=>cD (bP x)<|sF h ?_ ?_<;>intro h
   ·refine sN<|cT<|CE Z Z<|sM Z<|sV (.ptr 176 0)<|sV (.d (ac.pd b.al))<|sG (.d (.lst ([b.al].map ac.pd)))<|bE h fun K y h=>aR y (fun _=>Z) Z<|sA Z<|sN<|CE Z Z<|sV (rI (rW (l+(1:Int))))<|sM Z<|sN ?_
    cases oI h
    exact⟨rfl,rfl⟩
   refine sN<|cF<|qK<|CE Z Z<|sV (rI (rW (l+(1:Int))))<|sM Z<|sN ?_
   cases oI h
   exact⟨rfl,rfl⟩
  refine sN<|qS<|cF<|qX ?_
  cases oI h
  exact⟨nofun,rfl,rfl⟩
 intro e n m he z
 obtain⟨rfl,i⟩:=z
 refine qE<|gS Z i<|mM Z<|sM Z<|sA Z<|sA Z<|sA Z<|sN<|qR ?_
 exact oI h▸qD
theorem bW{a0:ae}{a:ae}{r:Bool}(h:bi a0 a=some r):EvP prog hints ext 17 [.d (ae.pd a0),.d (ae.pd a)] [] (rB r,[]):=by
 refine Ev.body Z Tryz.func17 Z Zk<|gU Z<|sB (.ptr 32 0) 32 (.var (ae.rc a0))<|sB (.ptr 48 0) 48 (.var (ae.rc a))<|sU<|sN<|gU Z<|sV (.ptr 32 0)<|sV (.d (ac.pd a0.al))<|sV (.ptr 48 0)<|sV (.d (ac.pd a.al))<|gN h (fun b h=>?_) (fun b h=>?_)
 ·refine WO.binS (eqE_40 a0.al a.al) b Z Z Z Z Z<|sM Z<|sV (.ptr 32 9)<|sV (.d (am.pd a0.ai))<|sV (.ptr 48 9)<|sV (.d (am.pd a.ai))<|bE h fun e c h=>cD (bK c)<|sV (rB e)<|sA Z<|sN<|qR ?_
  cases oI h
  exact qG
 refine WO.binS (eqE_40 a0.al a.al) b Z Z Z Z Z<|sM Z<|k3<|sK<|sK<|sU<|sA Z<|sN<|qR ?_
 cases oI h
 exact qG
theorem bu{a0:(List ae)}{b:(List ae)}{r:Bool}(h:aQ a0 b=some r):EvP prog hints ext 16 [rM ae.pd a0,rM ae.pd b,.d (.raw (.func (.func 17) #[] #[]))] [] (rB r,[]):=by
 refine Ev.body Z Tryz.func16 Z Zk<|gU Z<|sU<|sN<|qS<|gU Z<|sM Z<|sE (rI (a0.length:Int)) (dp _ _)<|sM Z<|sE (rI (b.length:Int)) (dp _ _)<|sF h ?_ ?_<;>intro h
 ·refine sN<|cT<|gU Z<|sU<|sN<|qR ?_
  exact oI h▸qD
 refine sN<|cF<|qK<|qS<|gU Z<|sM Z<|sE (rI (a0.length:Int)) (dp _ _)<|sV (r0)<|sN<|bE h fun f a h=>CB (CD (WL.gq a (fun s=>gI 0 16 4 [(1,rM ae.pd b),(2,.d (.raw (.func (.func 17) #[] #[]))),(15,rM ae.pd a0),(16,rI (a0.length:Int)),(17,rI s)] []) (fun o=>match o with| .inl y=>gX 0 0 16 10 [] []| .inr r=>gF 16 Tryz.f16 0 (rB r,[])) Z ?_ ?_))
 ·rintro s2 l k u c h
  refine gS Z c<|sF h ?_ ?_<;>intro h
  ·refine sN<|qS<|cT<|qK<|qS<|qB<|gU Z<|sM Z<|bE h fun g m h=>eG m Z<|sV (.d (ae.pd g))<|sB (.ptr 128 0) 128 (.var zZ0)<|sA Z<|sH 128 (.var (ae.rc g))<|sN ?_
   refine gU Z<|mM Z<|bE h fun i n h=>eG n Z<|sV (.d (ae.pd i))<|sB (.ptr 144 0) 144 (.var zZ0)<|sH 144 (.var (ae.rc i))<|sN<|gU Z<|sM Z<|sV (.d (ae.pd g))<|sV (.d (ae.pd i))<|bE h fun v p h=>cD (bW p) ?_
   refine sF h ?_ ?_<;>intro h
   ·refine sN<|cT<|gU Z<|sU<|sN<|qR ?_
    cases oI h
    exact⟨nofun,rfl,rfl⟩
   refine sN<|cF<|qK<|CE Z Z<|sV (rI (rW (s2+(1:Int))))<|sM Z<|sN ?_
   cases oI h
   exact⟨rfl,rfl⟩
  refine sN<|qS<|cF<|qX ?_
  cases oI h
  exact⟨nofun,rfl,rfl⟩
 intro e l k he j
 rcases f with t|q
 ·obtain⟨rfl,c⟩:=j
  refine qE<|gS Z c<|sT<|sN<|qR ?_
  exact oI h▸qD
 obtain⟨rfl,hf⟩:=j
 cases oI h
 exact hf
theorem bI{a0:(List ae)}{a:(List ae)}{r:Bool}(h:bt a0 a=some r):EvP prog hints ext 8 [rM ae.pd a0,rM ae.pd a] [] (rB r,[]):=by
 refine Ev.body Z Tryz.func8 Z Zk<|gU Z<|sU<|sN<|gU Z<|mM Z<|bE h fun b h1 h=>cD (bu h1)<|sA Z<|sN<|qR ?_
 exact oI h▸qD
theorem aA{a0:(List ac)}{b:(List ac)}{r:Bool}(h:aw a0 b=some r):EvP prog hints ext 9 [rM ac.pd a0,rM ac.pd b] [] (rB r,[]):=by
 refine Ev.body Z Tryz.func9 Z Zk<|gU Z<|sU<|sN<|qS<|gU Z<|sM Z<|sE (rI (a0.length:Int)) (dp _ _)<|sM Z<|sE (rI (b.length:Int)) (dp _ _)<|sF h ?_ ?_<;>intro h
 ·refine sN<|cT<|gU Z<|sU<|sN<|qR ?_
  exact oI h▸qD
 refine sN<|cF<|qK<|qS<|gU Z<|sV (r0)<|sN<|bE h fun p f h=>CB (CD (WL.gq f (fun s=>gI 0 9 4 [(0,rM ac.pd a0),(1,rM ac.pd b),(5,rI s)] []) (fun o=>match o with| .inl y=>gX 0 0 9 8 [] []| .inr r=>gF 9 Tryz.f9 0 (rB r,[])) Z ?_ ?_))
 ·rintro s2 l k u c h
  refine qS<|gS Z c<|mM Z<|sE (rI (a0.length:Int)) (dp _ _)<|sF h ?_ ?_<;>intro h
  ·refine sN<|cT<|qK<|qS<|qB<|CC Z Z<|mM Z<|bE h fun g m h=>eG m Z<|sV (.d (ac.pd g))<|mM Z<|bE h fun i n h=>eG n Z ?_
   refine sV (.d (ac.pd i))<|gN h (fun a h=>?_) (fun a h=>?_)
   ·refine WO.binS (eqN_40 g i) a Z Z Z Z Z ?_
    refine sN<|sO<|cT<|gU Z<|sU<|sN<|qR ?_
    cases oI h
    exact⟨nofun,rfl,rfl⟩
   refine WO.binS (eqN_40 g i) a Z Z Z Z Z ?_
   refine sN<|sO<|cF<|qK<|CE Z Z<|sM Z<|sV (rI (rW (s2+(1:Int))))<|sA Z<|sN ?_
   cases oI h
   exact⟨rfl,rfl⟩
  refine sN<|cF<|qX ?_
  cases oI h
  exact⟨nofun,rfl,rfl⟩
 intro e l k he j
 rcases p with t|q
 ·obtain⟨rfl,c⟩:=j
  refine qE<|gS Z c<|sT<|sN<|qR ?_
  exact oI h▸qD
 obtain⟨rfl,hf⟩:=j
 cases oI h
 exact hf
theorem bJ{a0:(List Int)}{r:Bool}(h:aY a0=some r):EvP prog hints ext 3 [rL a0] [] (rB r,[]):=by
 refine Ev.body Z Tryz.func3 Z Zk<|gU Z<|sU<|sN<|gU Z<|sM Z<|bE h fun O h1 h=>cR (.ptr 224 0) [(224,.var (aa.rc O))] (keep_New_ev h1)<|sA Z<|sN<|gU Z<|sM Z<|bE h fun e H h=>cR (.ref 256 0) [(224,.var (aa.rc e.2)),(256,.arr 0 52 (e.1.map ae.pd))] (bV H)<|sM Z ?_
 refine bE h fun C I h=>cR (.ref 288 0) [(224,.var (aa.rc C.2)),(288,.arr 0 52 (C.1.map ae.pd))] (bV I)<|sA Z<|sA Z<|sN<|WC.join (α:=(List ae)) (fun x G F=>dY prog 0 (A G F) (hints.at_ 3 0 5)=some (A [(4,rM ae.pd e.1),(5,rM ae.pd x)] [])) (fun x=>aJ e x=some r) ?_ ?_
 ·refine gU Z<|sM Z<|bE h fun c v h=>cR (rI c.1) [(224,.var (aa.rc c.2))] (aV v)<|sF h ?_ ?_<;>intro h
  ·exact sN<|cT<|CE rfl rfl<|sB (.ref 352 0) 352 (.arr 0 52 (([]:List ae).map ae.pd))<|sM rfl<|bE h fun E y h=>WO.appRG y (fun _=>rfl) rfl rfl rfl rfl rfl rfl rfl rfl rfl rfl rfl rfl rfl rfl rfl<|sA rfl<|sN<|⟨E,rfl,h⟩
  exact sN<|cF<|qK<|⟨C.1,rfl,h⟩
 rintro j4 G F N h
 refine gS Z N<|mM Z<|bE h fun a J h=>cR (.tup [rM ac.pd a.1,rM ac.pd a.2.1,rM ac.pd a.2.2]) [] (bq J)<|sM Z<|sV (rM ac.pd a.1)<|sV (rM ac.pd a.2.1)<|sV (rM ac.pd a.2.2)<|sA Z<|sA Z<|sA Z<|sN<|gU Z<|sM Z ?_
 refine sM Z<|bE h fun b K h=>cR (.tup [rM ac.pd b.1,rM ac.pd b.2.1,rM ac.pd b.2.2]) [] (bq K)<|sM Z<|sV (rM ac.pd b.1)<|sV (rM ac.pd b.2.1)<|sV (rM ac.pd b.2.2)<|sA Z<|sA Z<|sA Z<|sN<|gU Z<|sM Z<|sE (rI (a.1.length:Int)) (dp _ _)<|sF h ?_ ?_<;>intro h
 ·refine mM Z<|sE (rI (a.2.1.length:Int)) (dp _ _)<|sV (rB ((a.2.1.length:Int)==(0:Int)))<|sF h ?_ ?_<;>intro h
  ·refine mM Z<|sE (rI (a.2.2.length:Int)) (dp _ _)<|sV (rB ((a.2.2.length:Int)==(0:Int)))<|sV (rB ((a.2.2.length:Int)==(0:Int)))<|sA Z<|sN<|gU Z<|mM Z<|sM Z<|bE h fun x9 L h=>cD (bI L)<|sF h ?_ ?_<;>intro h
   ·refine mM Z<|sM Z<|bE h fun Q f h=>cD (aA f)<|sF h ?_ ?_<;>intro h
    ·refine mM Z<|sM Z<|bE h fun T g h=>cD (aA g)<|sF h ?_ ?_<;>intro h
     ·refine mM Z<|sM Z<|bE h fun U i h=>cD (aA i)<|sF h ?_ ?_<;>intro h
      ·refine sM Z<|bE h fun z j h=>cD (closed_10 j)<|sV (rB z)<|sA Z<|sN<|qR ?_
       exact oI h▸qD
      refine sM Z<|sK<|sU<|sA Z<|sN<|qR ?_
      exact oI h▸qD
     refine sM Z<|k3<|sU<|sM Z<|sK<|sU<|sA Z<|sN<|qR ?_
     exact oI h▸qD
    refine sM Z<|k3<|sU<|sM Z<|k3<|sU<|sM Z<|sK<|sU<|sA Z<|sN ?_
    refine qR ?_
    exact oI h▸qD
   refine sM Z<|k3<|sU<|sM Z<|k3<|sU<|sM Z<|k3<|sU ?_
   refine sM Z<|sK<|sU<|sA Z<|sN<|qR ?_
   exact oI h▸qD
  refine sM Z<|k3<|sU<|sA Z<|sN<|gU Z<|mM Z<|sM Z<|bE h fun W k h=>cD (bI k)<|sF h ?_ ?_<;>intro h
  ·refine mM Z<|sM Z<|bE h fun X l h=>cD (aA l)<|sF h ?_ ?_<;>intro h
   ·refine mM Z<|sM Z<|bE h fun Y m h=>cD (aA m)<|sF h ?_ ?_<;>intro h
    ·refine mM Z<|sM Z<|bE h fun a1 n h=>cD (aA n)<|sF h ?_ ?_<;>intro h
     ·refine sM Z<|bE h fun B o h=>cD (closed_10 o)<|sV (rB B)<|sA Z<|sN<|qR ?_
      exact oI h▸qD
     refine sM Z<|sK<|sU<|sA Z<|sN<|qR ?_
     exact oI h▸qD
    refine sM Z<|k3<|sU<|sM Z<|sK<|sU<|sA Z<|sN<|qR ?_
    exact oI h▸qD
   refine sM Z<|k3<|sU<|sM Z<|k3<|sU<|sM Z<|sK<|sU<|sA Z<|sN ?_
   refine qR ?_
   exact oI h▸qD
  refine sM Z<|k3<|sU<|sM Z<|k3<|sU<|sM Z<|k3<|sU ?_
  refine sM Z<|sK<|sU<|sA Z<|sN<|qR ?_
  exact oI h▸qD
 refine sM Z<|k3<|sU<|sM Z<|k3<|sU<|sA Z<|sN<|gU Z<|sM Z<|sM Z ?_
 refine sM Z<|bE h fun a2 p h=>cD (bI p)<|sF h ?_ ?_<;>intro h
 ·refine mM Z<|sM Z<|bE h fun a3 q h=>cD (aA q)<|sF h ?_ ?_<;>intro h
  ·refine mM Z<|sM Z<|bE h fun a4 s h=>cD (aA s)<|sF h ?_ ?_<;>intro h
   ·refine mM Z<|sM Z<|bE h fun a5 t h=>cD (aA t)<|sF h ?_ ?_<;>intro h
    ·refine sM Z<|bE h fun D u h=>cD (closed_10 u)<|sV (rB D)<|sA Z<|sN<|qR ?_
     exact oI h▸qD
    refine sM Z<|sK<|sU<|sA Z<|sN<|qR ?_
    exact oI h▸qD
   refine sM Z<|k3<|sU<|sM Z<|sK<|sU<|sA Z<|sN<|qR ?_
   exact oI h▸qD
  refine sM Z<|k3<|sU<|sM Z<|k3<|sU<|sM Z<|sK<|sU<|sA Z<|sN ?_
  refine qR ?_
  exact oI h▸qD
 refine sM Z<|k3<|sU<|sM Z<|k3<|sU<|sM Z<|k3<|sU ?_
 refine sM Z<|sK<|sU<|sA Z<|sN<|qR ?_
 exact oI h▸qD
end Go.Dw.Od
