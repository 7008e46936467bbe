
import Derived.Test.YtfmoipelhfkdkaaGreatDoorReEvC
set_option linter.unusedVariables false
set_option linter.unusedSimpArgs false
open Go.Dw.WC renaming block->Fq, loop->Fs, pe->Ft, region->Fu

set_option maxRecDepth 100000
set_option maxHeartbeats 4000000
namespace Go.Dw.Re
open Go.Proofs Go.Proofs.Tryz Go.Dw
theorem nJ{a0:Int}{a1:(List aa)}{a2:(List aa)}{a3:ae}{a4:ae}{r:(List Int)×Int}(h:gr a0 a1 a2 a3 a4=some r):EvP prog bo ext 15 [rI a0,rM aa.pd a1,rM aa.pd a2,.d (ae.pd a3),.d (ae.pd a4)] [] (.tup [rL r.1,rI r.2],[]):=by
 refine Ev.body Z Tryz.func15 Z Zk<|gU Z<|sB (.ptr 128 0) 128 (.var [rM aj.pd a3.a8])<|sB (.ptr 144 0) 144 (.var [rM aj.pd a4.a8])<|sV .rm<|sV (r0)<|sN<|qS<|qB<|gU Z<|sM Z<|sF h ?_ ?_<;>intro h
 ·refine sM Z<|sK<|sK<|sT<|sA Z<|sN<|cT<|gU Z<|sV .rm<|sV (rI 2)<|sN<|qR ?_
  exact oI h▸qD
 refine mM Z<|sV (rB (decide (a0>(1099511627776:Int))))<|sF h ?_ ?_<;>intro h
 ·refine sA Z<|sN<|cT<|gU Z<|sV .rm<|sV (rI 2)<|sN<|qR ?_
  exact oI h▸qD
 refine sA Z<|sN<|cF<|gU Z<|sM Z<|bE h fun x3 h3 h=>cD (ce h3)<|sF h ?_ ?_<;>intro h
 ·refine sM Z<|k3<|sT<|sM Z<|k3<|sT<|sM Z<|k3<|sT ?_
  refine sA Z<|sN<|cT<|gU Z<|sV .rm<|sV (rI 1)<|sN<|qR ?_
  exact oI h▸qD
 refine mM Z<|bE h fun x5 h5 h=>cD (ce h5)<|sV (rB (!x5))<|sF h ?_ ?_<;>intro h
 ·refine sM Z<|k3<|sT<|sM Z<|k3<|sT<|sA Z<|sN<|cT<|gU Z<|sV .rm ?_
  refine sV (rI 1)<|sN<|qR ?_
  exact oI h▸qD
 refine sM Z<|sV (.d (ae.pd a3))<|bE h fun x7 h7 h=>cD (ce h7)<|sV (rB (!x7))<|sF h ?_ ?_<;>intro h
 ·refine sM Z<|k3<|sT<|sA Z<|sN<|cT<|gU Z<|sV .rm<|sV (rI 1)<|sN<|qR ?_
  exact oI h▸qD
 refine sM Z<|sV (.d (ae.pd a4))<|bE h fun x9 h9 h=>cD (ce h9)<|sV (rB (!x9))<|sF h ?_ ?_<;>intro h
 ·refine sA Z<|sN<|cT<|gU Z<|sV .rm<|sV (rI 1)<|sN<|qR ?_
  exact oI h▸qD
 refine sA Z<|sN<|cF<|qK<|gU Z<|mM Z<|bE h fun f O h=>cD (kb O)<|sA Z<|sN<|gU Z<|sB (.ptr 832 0) 832 (.map 70 3 (([]:List (aa×Int)).map fun e=>(aa.pd e.1,(PD.int .i64) e.2)))<|sB (.ptr 208 0) 208 (.var [.d (.raw (.map none))])<|sS 208 (.var [.ptr 832 0]) ?_
 refine sN<|qS<|gU Z<|sM Z<|sE (rI (f.length:Int)) (sx _ _)<|sV (r0)<|sN<|bE h fun k I h=>Fq (Fs (WL.rU I (fun s=>gI 0 15 8 [(0,rI a0),(2,rM aa.pd a2),(8,.ptr 128 0),(9,.ptr 144 0),(12,.d (.lst (f.map (fun l=>PD.lst (l.map aa.pd))))),(13,.ptr 208 0),(53,.d (.lst (f.map (fun l=>PD.lst (l.map aa.pd))))),(54,rI (f.length:Int)),(55,rI s.1)] [(128,.var [rM aj.pd a3.a8]),(144,.var [rM aj.pd a4.a8]),(208,.var [.ptr 832 0]),(832,.map 70 3 (s.2.map fun e=>(aa.pd e.1,(PD.int .i64) e.2)))]) (fun o=>gX 1 0 15 16 [(0,rI a0),(2,rM aa.pd a2),(8,.ptr 128 0),(9,.ptr 144 0),(12,.d (.lst (f.map (fun l=>PD.lst (l.map aa.pd))))),(13,.ptr 208 0)] [(128,.var [rM aj.pd a3.a8]),(144,.var [rM aj.pd a4.a8]),(208,.var [.ptr 832 0]),(832,.map 70 3 (o.map fun e=>(aa.pd e.1,(PD.int .i64) e.2)))]) Z ?_ ?_))
 ·rintro⟨q,c1⟩ G F b5 j h
  refine gS Z j<|sF h ?_ ?_<;>intro h
  ·refine sN<|qS<|cT<|qK<|qS<|qB<|gU Z<|sM Z<|bE h fun C Q h=>eG Q Z<|sC Z<|sA Z<|sA Z<|sN<|gU Z ?_
   refine sM Z<|sE (rI (C.length:Int)) (sx _ _)<|sV (r0)<|sN<|bE h fun b1 H h=>Fq (Fs (WL.rU H (fun s=>gI 0 15 11 [(0,rI a0),(2,rM aa.pd a2),(8,.ptr 128 0),(9,.ptr 144 0),(12,.d (.lst (f.map (fun l=>PD.lst (l.map aa.pd))))),(13,.ptr 208 0),(14,rI q),(53,.d (.lst (f.map (fun l=>PD.lst (l.map aa.pd))))),(54,rI (f.length:Int)),(55,rI q),(60,rM aa.pd C),(61,rI (C.length:Int)),(62,rI s.1)] [(128,.var [rM aj.pd a3.a8]),(144,.var [rM aj.pd a4.a8]),(208,.var [.ptr 832 0]),(832,.map 70 3 (s.2.map fun e=>(aa.pd e.1,(PD.int .i64) e.2)))]) (fun o=>gX 3 0 15 15 [(0,rI a0),(2,rM aa.pd a2),(8,.ptr 128 0),(9,.ptr 144 0),(12,.d (.lst (f.map (fun l=>PD.lst (l.map aa.pd))))),(13,.ptr 208 0),(53,.d (.lst (f.map (fun l=>PD.lst (l.map aa.pd))))),(54,rI (f.length:Int)),(55,rI o.1)] [(128,.var [rM aj.pd a3.a8]),(144,.var [rM aj.pd a4.a8]),(208,.var [.ptr 832 0]),(832,.map 70 3 (o.2.map fun e=>(aa.pd e.1,(PD.int .i64) e.2)))]) Z ?_ ?_))
   ·rintro⟨b2,c2⟩ G F b6 j h
    refine gS Z j<|sF h ?_ ?_<;>intro h
    ·refine sN<|qS<|cT<|qK<|qS<|qB<|gU Z<|bE h fun D T h=>eG T Z<|sV (.d (aa.pd D))<|sB (.ptr 272 0) 272 (.var [rS [],rS [],rS [],rS [],r0,r0,r0,r0,r0])<|sH 272 (.var (aa.rc D))<|sN<|Fu Z Z<|sL Z ?_
     refine sV (.d (aa.pd D))<|sM Z<|sV (rI (rW (q+(1:Int))))<|WO.mput (gv:=(PD.int .i64)) (y:=(rW (q+(1:Int)))) keyT_70 Z Z Z Z Z Z Z Z Z Z<|sN<|Fu Z Z<|sV (rI (rW (b2+(1:Int))))<|sM Z<|sN ?_
     cases oI h
     exact⟨rfl,rfl⟩
    refine sN<|qS<|cF<|qX ?_
    cases oI h
    exact⟨nofun,rfl,rfl⟩
   intro e G F he K
   obtain⟨rfl,j⟩:=K
   refine qE<|Fu j Z<|sV (rI (rW (b1.1+(1:Int))))<|sM Z<|sN ?_
   cases oI h
   exact⟨rfl,rfl⟩
  refine sN<|qS<|cF<|qX ?_
  cases oI h
  exact⟨nofun,rfl,rfl⟩
 intro e G F he K
 obtain⟨rfl,j⟩:=K
 refine qE<|gS Z j<|sV .rm<|sN<|qS<|gU Z<|mM Z<|bE h fun E U h=>cD (kb U)<|sE (rI (E.length:Int)) (sx _ _)<|sV (r0)<|sN<|bE h fun b4 J h=>Fq (Fs (WL.rU J (fun s=>gI 0 15 18 [(8,.ptr 128 0),(9,.ptr 144 0),(12,.d (.lst (f.map (fun l=>PD.lst (l.map aa.pd))))),(13,.ptr 208 0),(18,.ref 1728 0),(74,.d (.lst (E.map (fun l=>PD.lst (l.map aa.pd))))),(75,rI (E.length:Int)),(76,rI s.1)] [(128,.var [rM aj.pd a3.a8]),(144,.var [rM aj.pd a4.a8]),(208,.var [.ptr 832 0]),(832,.map 70 3 (k.map fun e=>(aa.pd e.1,(PD.int .i64) e.2))),(1728,.arr 0 3 (s.2.map (PD.int .i64)))]) (fun o=>gX 5 0 15 25 [(18,.ref 1728 0)] [(1728,.arr 0 3 (o.map (PD.int .i64)))]) Z ?_ ?_))
 ·rintro⟨g,c3⟩ G F c0 j h
  refine gS Z j<|sF h ?_ ?_<;>intro h
  ·refine sN<|qS<|cT<|qK<|qS<|qB<|gU Z<|sM Z<|bE h fun L W h=>eG W Z<|sC Z<|sA Z<|sA Z<|sN<|Ft Z Z ?_
   refine sL Z<|sM Z<|bE h fun u X h=>eG X Z<|sV (.d (aa.pd u))<|WO.look (gv:=(PD.int .i64)) (z:=(0:Int)) keyT_70 Z Z Z Z Z Z Z Z<|sB (.ptr 336 0) 336 (.var [r0])<|sS 336 (.var [rI (u6 oS u (0:Int) k)]) ?_
   refine sN<|sO<|gU Z<|sV (.clo 47 [.ptr 208 0,.ptr 336 0,.ptr 128 0,.ptr 144 0])<|sA Z<|sN<|gU Z<|sL Z<|sF h ?_ ?_<;>intro h
   ·refine sM Z<|k3<|k3<|k3<|sT<|sM Z<|sK<|sK<|sK ?_
    refine sT<|sN<|cT<|Fu Z Z<|mM Z<|sV (.d (.lst ([g].map (PD.int .i64))))<|bE h fun c4 Y h=>aR Y (fun _=>Z) Z<|sA Z<|sN<|Fu Z Z<|sV (rI (rW (g+(1:Int))))<|sM Z<|sN ?_
    cases oI h
    exact⟨rfl,rfl⟩
   refine mM Z<|sL Z<|sV (rI (rW ((u6 oS u (0:Int) k)-(1:Int))))<|bE h fun N a5 h=>eG a5 Z<|sC Z<|sE (rI (N.length:Int)) (sx _ _)<|sM Z<|sE (rI (L.length:Int)) (sx _ _)<|sV (rB ((N.length:Int) != (L.length:Int)))<|sF h ?_ ?_<;>intro h
   ·refine sM Z<|k3<|sT<|sN<|cT<|Fu Z Z<|mM Z<|sV (.d (.lst ([g].map (PD.int .i64))))<|bE h fun c5 a6 h=>aR a6 (fun _=>Z) Z<|sA Z<|sN ?_
    refine Fu Z Z<|sV (rI (rW (g+(1:Int))))<|sM Z<|sN ?_
    cases oI h
    exact⟨rfl,rfl⟩
   refine mM Z<|sM Z<|bE h fun b3 a9 h=>cR (rB b3) [(208,.var [.ptr 832 0]),(336,.var [rI (u6 oS u (0:Int) k)]),(128,.var [rM aj.pd a3.a8]),(144,.var [rM aj.pd a4.a8]),(832,.map 70 3 (k.map fun e=>(aa.pd e.1,(PD.int .i64) e.2)))] (ce a9)<|sF h ?_ ?_<;>intro h
   ·refine sN<|cT<|Fu Z Z<|mM Z<|sV (.d (.lst ([g].map (PD.int .i64))))<|bE h fun c6 b0 h=>aR b0 (fun _=>Z) Z<|sA Z<|sN<|Fu Z Z<|sV (rI (rW (g+(1:Int))))<|sM Z<|sN ?_
    cases oI h
    exact⟨rfl,rfl⟩
   refine sN<|cF<|qK<|Fu Z Z<|sV (rI (rW (g+(1:Int))))<|sM Z<|sN ?_
   cases oI h
   exact⟨rfl,rfl⟩
  refine sN<|qS<|cF<|qX ?_
  cases oI h
  exact⟨nofun,rfl,rfl⟩
 intro e G F he K
 obtain⟨rfl,j⟩:=K
 refine qE<|gS Z j<|sM Z<|sA Z<|sV (r0)<|sN<|qR ?_
 exact oI h▸qD
theorem keyO_ev{a0:(List aa)}{r:List UInt8}(h:keyO a0=some r):EvP prog bo ext 41 [rM aa.pd a0] [] (rS r,[]):=Dv (pa:=fun l=>.lst (l.map aa.pd)) rfl (fun x y h=>List.map_inj_right pQ |>.1 (PD.lst.inj h)) h
section
attribute [local irreducible] HM HU HF HB WO WC QS QB tZ
instance {a0:(List Int)}{a1:Int}:LI (eW a0 a1) 2 (fun s=>[(8,rI s)]) (fun s=>[]) (jY 7 (fun y=>[]) (fun y=>[]) Tryz.f79 fun r=>(rI r,[])):=⟨⟩
instance {a0:(List Int)}{a1:Int}:CE prog bo ext (ng a0 a1) 79 [rL a0,rI a1] [] fun r=>(rI r,[]):=⟨fun h=>Ev.au h Tryz.func79⟩
instance {a0:(List Int)}{a1:Int}:CE prog bo ext (iL a0 a1) 42 [rL a0,rI a1] [] fun r=>(rB r,[]):=⟨fun h=>Ev.au h Tryz.func42⟩
instance {f:(List aq)}:LI (iu f) 3 (fun s=>[(19,rI s.1)]) (fun s=>[(192,.arr 0 122 (s.2.map aq.pd))]) (jX 7 (fun o=>[]) fun o=>[(192,.arr 0 122 (o.map aq.pd))]):=⟨⟩
instance {a0:bq}:CE prog bo ext (jc a0) 43 [.d (bq.pd a0)] [] fun r=>(.d (bq.pd r),[]):=⟨fun h=>Ev.au h Tryz.func43⟩
end
theorem iJ{a0:av}{a1:ae}{a2:(List aa)}{r:av×(List Int)×Int}(h:dm a0 a1 a2=some r):EvP prog bo ext 14 [.d (av.pd a0),.d (ae.pd a1),rM aa.pd a2] [] (.tup [.d (av.pd r.1),rL r.2.1,rI r.2.2],[]):=by
 refine Ev.body Z Tryz.func14 Z Zk<|gU Z<|sB (.ptr 48 0) 48 (.var (av.rc a0))<|sB (.ptr 64 0) 64 (.var [rM aj.pd a1.a8])<|sB (.ptr 96 0) 96 (.var zZ0)<|sV .rm<|sV (r0)<|sN<|gU Z<|sV (.ptr 48 0)<|sV (.d (ah.pd a0.ba))<|sV (.d (ae.pd a1))<|sM Z<|bE h fun j h1 h=>cR (.tup [.d (.lst (j.1.map (fun l=>PD.lst (l.map aa.pd)))),rI j.2]) [] (ce h1) ?_
 refine sM Z<|sV (.d (.lst (j.1.map (fun l=>PD.lst (l.map aa.pd)))))<|sV (rI j.2)<|sA Z<|sA Z<|sN<|qS<|gU Z<|sM Z<|sF h ?_ ?_<;>intro h
 ·refine sN<|cT<|gU Z<|sG (.agg zZ0)<|sM Z<|sH 96 (.var zZ0)<|sV .rm<|sA Z<|sN<|qR ?_
  cases oI h
  exact qG
 refine sN<|cF<|qK<|Ft Z Z<|sV (.ptr 48 0)<|sV (.ptr 48 0)<|sV (.ptr 48 11)<|sL Z<|sV (.d (av.pd a0))<|bE h fun x3 h3 h=>cD (ce h3)<|sM Z<|sV (.ptr 48 20)<|sV (.d (ae.pd a0.cm))<|sV (.d (ae.pd a1)) ?_
 refine bE h fun q h4 h=>cR (.tup [rL q.1,rI q.2]) [] (nJ h4)<|sM Z<|sV (rL q.1)<|sV (rI q.2)<|sA Z<|sA Z ?_
 refine sN<|sO<|qS<|gU Z<|sM Z<|sF h ?_ ?_<;>intro h
 ·refine sN<|cT<|gU Z<|sG (.agg zZ0)<|sM Z<|sH 96 (.var zZ0)<|sV .rm<|sA Z<|sN<|qR ?_
  cases oI h
  exact qG
 refine sN<|cF<|qK<|gU Z<|sB (.ptr 800 0) 800 (.map 9 61 (([]:List ((List UInt8)×bq)).map fun e=>(PD.str e.1,bq.pd e.2)))<|sA Z<|sN<|qS<|gU Z<|sV (.ptr 48 21)<|sL Z<|sE (rI (a0.bU.length:Int)) (sx _ _)<|sV (r0)<|sN<|bE h fun X C h=>?_
 refine Fq (Fs (WL.rU C (fun s=>gI 0 14 9 [(3,.ptr 48 0),(4,.ptr 64 0),(6,.ptr 96 0),(9,.d (.lst (j.1.map (fun l=>PD.lst (l.map aa.pd))))),(11,rL q.1),(12,.ptr 800 0),(52,rM bq.pd a0.bU),(53,rI (a0.bU.length:Int)),(54,rI s.1)] [(48,.var (av.rc a0)),(64,.var [rM aj.pd a1.a8]),(96,.var zZ0),(800,.map 9 61 (s.2.map fun e=>(PD.str e.1,bq.pd e.2)))]) (fun o=>gX 0 0 14 13 [(3,.ptr 48 0),(4,.ptr 64 0),(6,.ptr 96 0),(9,.d (.lst (j.1.map (fun l=>PD.lst (l.map aa.pd))))),(11,rL q.1),(12,.ptr 800 0)] [(48,.var (av.rc a0)),(64,.var [rM aj.pd a1.a8]),(96,.var zZ0),(800,.map 9 61 (o.map fun e=>(PD.str e.1,bq.pd e.2)))]) Z ?_ ?_))
 ·rintro⟨s6,s7⟩ H G q9 u h
  refine gS Z u<|sF h ?_ ?_<;>intro h
  ·refine sN<|qS<|cT<|qK<|qS<|qB<|gU Z<|bE h fun k I h=>eG I Z<|sV (.d (bq.pd k))<|sB (.ptr 224 0) 224 (.var [.rm,.rm,.rm])<|sS 224 (.var (bq.rc k))<|sN<|WC.tn Z Z<|sM Z ?_
   refine sV (.ptr 224 0)<|sL Z<|bE h fun b1 J h=>cD (keyO_ev J)<|sV (.d (bq.pd k))<|WO.mput (gv:=bq.pd) (y:=k) (KeyT.str Z) Z Z Z Z Z Z Z Z Z Z ?_
   refine sN<|sO<|Fu Z Z<|sV (rI (rW (s6+(1:Int))))<|sM Z<|sN ?_
   cases oI h
   exact⟨rfl,rfl⟩
  refine sN<|qS<|cF<|qX ?_
  cases oI h
  exact⟨nofun,rfl,rfl⟩
 intro e H G he F
 obtain⟨rfl,u⟩:=F
 refine qE<|gS Z u<|sV (.ptr 48 0)<|sV (.d (ah.pd a0.ba))<|sV (.d (ae.pd a1))<|bE h fun f K h=>cR (.agg (ah.rc f.ba++[rM aj.pd f.cm.a8,.rm])) [] (mU K)<|sB (.ptr 240 0) 240 (.var zZ0)<|sH 240 (.var (ah.rc f.ba++[rM aj.pd f.cm.a8,.rm]))<|sN<|qS<|gU Z<|sM Z<|sE (rI (j.1.length:Int)) (sx _ _)<|sV (r0) ?_
 refine sN<|bE h fun Y D h=>Fq (Fs (WL.rU D (fun s=>gI 0 14 15 [(3,.ptr 48 0),(4,.ptr 64 0),(6,.ptr 96 0),(11,rL q.1),(12,.ptr 800 0),(15,.ptr 240 0),(68,.d (.lst (j.1.map (fun l=>PD.lst (l.map aa.pd))))),(69,rI (j.1.length:Int)),(70,rI s.1)] [(48,.var (av.rc a0)),(64,.var [rM aj.pd a1.a8]),(96,.var zZ0),(240,.var (ah.rc f.ba++[rM aj.pd f.cm.a8,.ref 90240 0])),(800,.map 9 61 (X.map fun e=>(PD.str e.1,bq.pd e.2))),(90240,.arr 0 61 (s.2.map bq.pd))]) (fun o=>match o with| .inl y=>gX 2 0 14 24 [(6,.ptr 96 0),(11,rL q.1),(15,.ptr 240 0)] [(96,.var zZ0),(240,.var (ah.rc f.ba++[rM aj.pd f.cm.a8,.ref 90240 0])),(90240,.arr 0 61 (y.map bq.pd))]| .inr r=>gF 14 Tryz.f14 0 (.tup [.d (av.pd r.1),rL r.2.1,rI r.2.2],[])) Z ?_ ?_))
 ·rintro⟨E,b0⟩ H G a6 u h
  refine gS Z u<|sF h ?_ ?_<;>intro h
  ·refine sN<|qS<|cT<|qK<|qS<|qB<|gU Z<|sM Z<|bE h fun b2 L h=>eG L Z<|sC Z<|sA Z<|sA Z<|sN<|qS ?_
   refine gU Z<|mM Z<|bE h fun b3 N h=>cD (ce N)<|sF h ?_ ?_<;>intro h
   ·refine sN<|cT<|Ft Z Z<|sV (.ptr 240 21)<|sL Z<|mM Z<|bE h fun b4 O h=>cD (keyO_ev O)<|WO.look (gv:=bq.pd) (z:=(bq.mk [] [] [])) (KeyT.str Z) Z Z Z Z Z Z Z Z<|bE h fun a5 Q h=>cD (ce Q)<|sV (.d (.lst ([a5].map bq.pd)))<|bE h fun b5 T h=>aR T (fun _=>Z) Z ?_
    refine sV (.ptr 240 21)<|sS 240 (.var (ah.rc f.ba++[rM aj.pd f.cm.a8,.ref 90240 1])) ?_
    refine sN<|sO<|qX<|qE<|Fu Z Z<|sV (rI (rW (E+(1:Int))))<|sM Z<|sN ?_
    cases oI h
    exact⟨rfl,rfl⟩
   refine sN<|cF<|qK<|gU Z<|sV (.ptr 48 0)<|sV (.d (ah.pd a0.ba))<|sV (.d (ae.pd a1))<|sM Z<|bE h fun g U h=>cR (.tup [.d (bq.pd g.1),rI g.2]) [] (ce U)<|sM Z<|sV (.d (bq.pd g.1))<|sV (rI g.2)<|sB (.ptr 288 0) 288 (.var [.rm,.rm,.rm])<|sS 288 (.var (bq.rc g.1)) ?_
   refine sA Z<|sN<|qS<|gU Z<|sM Z<|sF h ?_ ?_<;>intro h
   ·refine sN<|cT<|gU Z<|sG (.agg zZ0)<|sM Z<|sH 96 (.var zZ0)<|sV .rm<|sA Z<|sN<|qR ?_
    cases oI h
    exact⟨nofun,rfl,rfl⟩
   refine sN<|cF<|qK<|Fu Z Z<|sV (.ptr 240 21)<|sL Z<|sV (.d (bq.pd g.1))<|sV (.d (.lst ([g.1].map bq.pd)))<|bE h fun b6 W h=>aR W (fun _=>Z) Z<|sV (.ptr 240 21)<|sS 240 (.var (ah.rc f.ba++[rM aj.pd f.cm.a8,.ref 90240 1]))<|sN<|Fu Z Z<|sV (rI (rW (E+(1:Int)))) ?_
   refine sM Z<|sN ?_
   cases oI h
   exact⟨rfl,rfl⟩
  refine sN<|qS<|cF<|qX ?_
  cases oI h
  exact⟨nofun,rfl,rfl⟩
 intro e H G he F
 rcases Y with c0|a9
 ·obtain⟨rfl,u⟩:=F
  refine qE<|gS Z u<|sV (.agg (ah.rc f.ba++[rM aj.pd f.cm.a8,.ref 90240 0]))<|sM Z<|sH 96 (.var (ah.rc f.ba++[rM aj.pd f.cm.a8,.ref 90240 0]))<|sA Z<|sV (r0)<|sN<|qR ?_
  cases oI h
  exact qG
 obtain⟨rfl,hf⟩:=F
 cases oI h
 exact hf
section
attribute [local irreducible] HM HU HF HB WO WC QS QB tZ
instance {a0:(List Int)}{a1:(List Int)}:LI (rr a0 a1) 4 (fun s=>[(13,rI s)]) (fun s=>[]) (jY 9 (fun y=>[]) (fun y=>[]) Tryz.f16 fun r=>(rB r,[])):=⟨⟩
instance {a0:(List Int)}{a1:(List Int)}:CE prog bo ext (keep_Ints a0 a1) 16 [rL a0,rL a1] [] fun r=>(rB r,[]):=⟨fun h=>Ev.au h Tryz.func16⟩
instance {a0:aq}{a1:aq}:CE prog bo ext (ff a0 a1) 59 [.d (aq.pd a0),.d (aq.pd a1)] [] fun r=>(rI r,[]):=⟨fun h=>Ev.au h Tryz.func59⟩
end
theorem jM{a1:Int}{a2:Int}{d0:(List aq)}{r:(List aq)}(h:dN a1 a2 d0=some r):EvP prog bo ext 156 [.ref 0 0,rI a1,rI a2,.d (.raw (.func (.func 59) #[] #[]))] [.arr 0 122 (d0.map aq.pd)] (.tup [],[.arr 0 122 (r.map aq.pd)]):=by
 refine Ev.body Z Tryz.func156 Z Zk<|gU Z<|sM Z<|sV (rI (rW (a1+(1:Int))))<|sA Z<|sN<|bE h fun a5 q h=>?_
 cases oI h
 refine Fq (Fs (WL.uQ q (fun s=>gI 1 156 1 [(0,.ref 0 0),(1,rI a1),(2,rI a2),(3,.d (.raw (.func (.func 59) #[] #[]))),(8,rI s.1)] [(0,.arr 0 122 (s.2.map aq.pd))]) Z ?_))
 rintro⟨s1,s2⟩ R' B' q3 j h
 refine qS<|gS Z j<|mM Z<|sF h ?_ ?_<;>intro h
 ·refine sN<|cT<|qK<|qS<|qB<|gU Z<|sM Z<|sA Z<|sN<|bE h fun U k h=>Fq (Fs (WL.rU k (fun s=>gI 1 156 4 [(0,.ref 0 0),(1,rI a1),(2,rI a2),(3,.d (.raw (.func (.func 59) #[] #[]))),(8,rI s1),(9,rI s.1)] [(0,.arr 0 122 (s.2.map aq.pd))]) (fun o=>gX 2 1 156 2 [(0,.ref 0 0),(1,rI a1),(2,rI a2),(3,.d (.raw (.func (.func 59) #[] #[]))),(8,rI o.1)] [(0,.arr 0 122 (o.2.map aq.pd))]) Z ?_ ?_))
  ·rintro⟨u,s6⟩ R' B' q9 j h
   refine qS<|Ft j Z<|mM Z<|sF h ?_ ?_<;>intro h
   ·refine mM Z<|mM Z<|bE h fun a6 C h=>WO.tF C Z Z Z Z Z Z Z Z<|bE h fun a9 D h=>WO.tg D Z Z Z Z Z Z<|mM Z<|sV (rI (rW (u-(1:Int))))<|bE h fun b0 E h=>WO.tF E Z Z Z Z Z Z Z Z<|bE h fun b1 F h=>WO.tg F Z Z Z Z Z Z ?_
    refine bE h fun W G h=>cD (ce G)<|sV (rB (decide (W<(0:Int))))<|sF h ?_ ?_<;>intro h
    ·refine sN<|sO<|cT<|qK<|qS<|qB<|WC.tn Z Z<|mM Z<|mM Z<|sV (rI (rW (u-(1:Int))))<|mM Z<|sV (rI (rW (u-(1:Int))))<|bE h fun b2 H h=>?_
     refine WO.tF H Z Z Z Z Z Z Z Z<|bE h fun X I h=>WO.tg I Z Z Z Z Z Z<|mM Z<|bE h fun b3 J h=>WO.tF J Z Z Z Z Z Z Z Z<|bE h fun Y K h=>WO.tg K Z Z Z Z Z Z<|bE h fun b4 L h=>WO.tF L Z Z Z Z Z Z Z Z<|bE h fun b5 N h=>WO.vj (g:=aq.pd) (sz:=25) (p:=aq.pd X) N (by intro _;kernel_rfl) (by intro _;kernel_rfl) Z Z Z Z Z Z Z Z Z<|bE h fun b6 O h=>WO.tF O Z Z Z Z Z Z Z Z ?_
     refine bE h fun c0 Q h=>WO.vj (g:=aq.pd) (sz:=25) (p:=aq.pd Y) Q (by intro _;kernel_rfl) (by intro _;kernel_rfl) Z Z Z Z Z Z Z Z Z ?_
     refine sN<|sO<|Fu Z Z<|sM Z<|sV (rI (rW (u-(1:Int))))<|sA Z<|sN ?_
     cases oI h
     exact⟨rfl,rfl⟩
    refine sN<|sO<|cF<|qX ?_
    cases oI h
    exact⟨nofun,rfl,rfl⟩
   refine sM Z<|k3<|k3<|k3<|k3<|sU ?_
   refine sN<|sO<|cF<|qX ?_
   cases oI h
   exact⟨nofun,rfl,rfl⟩
  intro e R' B' he hq
  obtain⟨rfl,j⟩:=hq
  refine qE<|Fu j Z<|sM Z<|sV (rI (rW (U.1+(1:Int))))<|sA Z<|sN ?_
  cases oI h
  exact⟨rfl,rfl⟩
 refine sN<|cF<|qX<|oh h (fun z33 f hz=>?_)
 obtain rfl:=Option.some.inj hz
 refine⟨(fun he=>by cases he),fun T=>?_⟩
 subst T
 have h:=f
 refine qE ?_
 exact oI h▸qD
theorem ly:∀(f:Nat){a1:Int}{a2:Int}{a3:Int}{d0:(List aq)}{r:(List aq)}(_:gL f a1 a2 a3 d0=some r),EvP prog bo ext 111 [.ref 0 0,rI a1,rI a2,rI a3,.d (.raw (.func (.func 59) #[] #[]))] [.arr 0 122 (d0.map aq.pd)] (.tup [],[.arr 0 122 (r.map aq.pd)])
  |0,_,_,_,_,_,h=>by cases h
  |f+1,a1,a2,a3,d0,r,h=>by
   refine Ev.body Z Tryz.func111 Z Zk<|gU Z<|sT<|sN<|gU Z<|sT<|sN<|bE h fun E g h=>Fq (Fs (WL.rU g (fun s=>gI 1 111 2 [(0,.ref 0 0),(1,rI a1),(2,rI a2),(3,rI a3),(4,.d (.raw (.func (.func 59) #[] #[]))),(10,rB true),(11,rB true)] [(0,.arr 0 122 (d0.map aq.pd))]) (fun o=>gF 111 Tryz.f111 1 (.tup [],[.arr 0 122 (o.map aq.pd)])) Z ?_ ?_))
   ·rintro⟨⟩ k j F u h
    refine qB<|gS Z u<|mM Z<|sV (rI (rW (a2-a1)))<|sA Z<|sN<|qS<|gU Z<|sM Z<|sF h ?_ ?_<;>intro h
    ·refine sN<|cT<|gU Z<|mM Z<|mM Z<|bE h fun D q h=>cR (.tup []) [(0,.arr 0 122 (D.map aq.pd))] (jM q)<|sN<|qR ?_
     cases oI h
     exact⟨nofun,rfl,rfl⟩
    refine sN<|cF<|qK<|qS<|gU Z<|sM Z<|sF h ?_ ?_<;>intro h
    ·refine sN<|cT<|gU Z<|mM Z<|sM Z<|sM Z ?_
     cases h
    refine sN<|cF<|qK<|qS<|gU Z<|sM Z<|sU<|sN<|cF<|qK<|gU Z<|mM Z<|sM Z<|sM Z ?_
    cases h
   intro e k j he C
   obtain⟨rfl,hf⟩:=C
   cases oI h
   exact hf
theorem lJ{a1:Int}{a2:Int}{a3:Int}{d0:(List aq)}{r:(List aq)}(h:cW a1 a2 a3 d0=some r):EvP prog bo ext 111 [.ref 0 0,rI a1,rI a2,rI a3,.d (.raw (.func (.func 59) #[] #[]))] [.arr 0 122 (d0.map aq.pd)] (.tup [],[.arr 0 122 (r.map aq.pd)]):=
  let⟨n,f⟩:=Bc h;ly n f
instance {a1:Int}{a2:Int}{a3:Int}{d0:(List aq)}:CE prog bo ext (cW a1 a2 a3 d0) 111 [.ref 0 0,rI a1,rI a2,rI a3,.d (.raw (.func (.func 59) #[] #[]))] [.arr 0 122 (d0.map aq.pd)] fun r=>(.tup [],[.arr 0 122 (r.map aq.pd)]):=⟨fun h=>lJ h⟩
section
attribute [local irreducible] HM HU HF HB WO WC QS QB tZ
instance {d0:(List aq)}:CE prog bo ext (eK d0) 55 [.ref 0 0,.d (.raw (.func (.func 59) #[] #[]))] [.arr 0 122 (d0.map aq.pd)] fun r=>(.tup [],[.arr 0 122 (r.map aq.pd)]):=⟨fun h=>Ev.au h Tryz.func55⟩
instance {a0:av}:LI (iI a0) 3 (fun s=>[(9,rI s.1)]) (fun s=>[(272,.arr 0 122 (s.2.map aq.pd))]) (jX 7 (fun o=>[]) fun o=>[(272,.arr 0 122 (o.map aq.pd))]):=⟨⟩
instance {a0:av}:CE prog bo ext (gx a0) 24 [.d (av.pd a0)] [] fun r=>(rM aq.pd r,[]):=⟨fun h=>Ev.au h Tryz.func24⟩
instance {a0:bh}{a1:bh}:LI (eQ a0 a1) 4 (fun s=>[(5,rI s)]) (fun s=>[]) (jY 8 (fun y=>[]) (fun y=>[]) Tryz.f222 fun r=>(rB r,[])):=⟨⟩
instance {a0:bh}{a1:bh}:CE prog bo ext (lR a0 a1) 222 [.d (bh.pd a0),.d (bh.pd a1)] [] fun r=>(rB r,[]):=⟨fun h=>Ev.au h Tryz.func222⟩
instance {a0:bv}{a1:bv}:LI (jW a0 a1) 4 (fun s=>[(5,rI s)]) (fun s=>[]) (jY 8 (fun y=>[]) (fun y=>[]) Tryz.f166 fun r=>(rB r,[])):=⟨⟩
instance {a0:bv}{a1:bv}:CE prog bo ext (pD a0 a1) 166 [.d (bv.pd a0),.d (bv.pd a1)] [] fun r=>(rB r,[]):=⟨fun h=>Ev.au h Tryz.func166⟩
instance {a0:az}{a1:az}:CE prog bo ext (lT a0 a1) 113 [.d (az.pd a0),.d (az.pd a1)] [] fun r=>(rB r,[]):=⟨fun h=>Ev.au h Tryz.func113⟩
instance {a0:ae}{a1:ae}:LI (iX a0 a1) 4 (fun s=>[(5,rI s)]) (fun s=>[]) (jY 14 (fun y=>[]) (fun y=>[]) Tryz.f57 fun r=>(rB r,[])):=⟨⟩
instance {f:aj}{g:aj}{s2:Int}:LI (mI f g s2) 10 (fun s=>[(8,rI s)]) (fun s=>[]) (jY 5 (fun y=>[(5,rI y)]) (fun y=>[]) Tryz.f57 fun r=>(rB r,[])):=⟨⟩
instance {a0:ae}{a1:ae}:CE prog bo ext (om a0 a1) 57 [.d (ae.pd a0),.d (ae.pd a1)] [] fun r=>(rB r,[]):=⟨fun h=>Ev.au h Tryz.func57⟩
instance {a0:(List Int)}{a1:(List Int)}:LI (jZ a0 a1) 4 (fun s=>[(5,rI s)]) (fun s=>[]) (jY 8 (fun y=>[]) (fun y=>[]) Tryz.f167 fun r=>(rB r,[])):=⟨⟩
instance {a0:(List Int)}{a1:(List Int)}:CE prog bo ext (oq a0 a1) 167 [rL a0,rL a1] [] fun r=>(rB r,[]):=⟨fun h=>Ev.au h Tryz.func167⟩
instance {a0:bg}{a1:bg}:CE prog bo ext (jL a0 a1) 114 [.d (bg.pd a0),.d (bg.pd a1)] [] fun r=>(rB r,[]):=⟨fun h=>Ev.au h Tryz.func114⟩
instance {a0:ah}{a1:ah}:CE prog bo ext (gC a0 a1) 58 [.d (ah.pd a0),.d (ah.pd a1)] [] fun r=>(rB r,[]):=⟨fun h=>Ev.au h Tryz.func58⟩
end
theorem fj{a0:(List aa)}{a1:(List aa)}{r:Bool}(h:dg a0 a1=some r):EvP prog bo ext 18 [rM aa.pd a0,rM aa.pd a1] [] (rB r,[]):=by
 refine Ev.body Z Tryz.func18 Z Zk<|gU Z<|sU<|sN<|qS<|gU Z<|sM Z<|sE (rI (a0.length:Int)) (sx _ _)<|sM Z<|sE (rI (a1.length:Int)) (sx _ _)<|sF h ?_ ?_<;>intro h
 ·refine sN<|cT<|gU Z<|sU<|sN<|qR ?_
  exact oI h▸qD
 refine sN<|cF<|qK<|qS<|gU Z<|sV (r0)<|sN<|bE h fun G j h=>Fq (Fs (WL.rU j (fun s=>gI 0 18 4 [(0,rM aa.pd a0),(1,rM aa.pd a1),(5,rI s)] []) (fun o=>match o with| .inl y=>gX 0 0 18 8 [] []| .inr r=>gF 18 Tryz.f18 0 (rB r,[])) Z ?_ ?_))
 ·rintro s2 D C J g h
  refine qS<|gS Z g<|mM Z<|sE (rI (a0.length:Int)) (sx _ _)<|sF h ?_ ?_<;>intro h
  ·refine sN<|cT<|qK<|qS<|qB<|Ft Z Z<|mM Z<|bE h fun k E h=>eG E Z<|sV (.d (aa.pd k))<|mM Z<|bE h fun q F h=>eG F Z ?_
   refine sV (.d (aa.pd q))<|u4 h (fun f h=>?_) (fun f h=>?_)
   ·refine WO.zJ (eqN_70 k q) f Z Z Z Z Z ?_
    refine sN<|sO<|cT<|gU Z<|sU<|sN<|qR ?_
    cases oI h
    exact⟨nofun,rfl,rfl⟩
   refine WO.zJ (eqN_70 k q) f Z Z Z Z Z ?_
   refine sN<|sO<|cF<|qK<|Fu Z Z<|sM Z<|sV (rI (rW (s2+(1:Int))))<|sA Z<|sN ?_
   cases oI h
   exact⟨rfl,rfl⟩
  refine sN<|cF<|qX ?_
  cases oI h
  exact⟨nofun,rfl,rfl⟩
 intro e D C he u
 rcases G with I|H
 ·obtain⟨rfl,g⟩:=u
  refine qE<|gS Z g<|sT<|sN<|qR ?_
  exact oI h▸qD
 obtain⟨rfl,hf⟩:=u
 cases oI h
 exact hf
instance {a0:(List aa)}{a1:(List aa)}:CE prog bo ext (dg a0 a1) 18 [rM aa.pd a0,rM aa.pd a1] [] fun r=>(rB r,[]):=⟨fun h=>fj h⟩
section
attribute [local irreducible] HM HU HF HB WO WC QS QB tZ
instance {a0:bJ}{a1:bJ}:CE prog bo ext (pG a0 a1) 50 [.d (bJ.pd a0),.d (bJ.pd a1)] [] fun r=>(rB r,[]):=⟨fun h=>Ev.au h Tryz.func50⟩
instance {a0:(List aq)}{a1:(List aq)}:LI (iZ a0 a1) 4 (fun s=>[(5,rI s)]) (fun s=>[]) (jY 8 (fun y=>[]) (fun y=>[]) Tryz.f19 fun r=>(rB r,[])):=⟨⟩
instance {a0:(List aq)}{a1:(List aq)}:CE prog bo ext (l5 a0 a1) 19 [rM aq.pd a0,rM aq.pd a1] [] fun r=>(rB r,[]):=⟨fun h=>Ev.au h Tryz.func19⟩
instance {a0:av}{a1:av}:LI (ja a0 a1) 4 (fun s=>[(5,rI s)]) (fun s=>[]) (jY 9 (fun y=>[]) (fun y=>[]) Tryz.f23 fun r=>(rB r,[])):=⟨⟩
instance {a0:av}{a1:av}:CE prog bo ext (na a0 a1) 23 [.d (av.pd a0),.d (av.pd a1)] [] fun r=>(rB r,[]):=⟨fun h=>Ev.au h Tryz.func23⟩
end
theorem oi{r:Bool}(h:mc=some r):EvP prog bo ext 20 [] [] (rB r,[]):=by
 refine Ev.body Z Tryz.func20 Z Zk<|gU Z<|sU<|sN<|gU Z<|bE h fun K h1 h=>cR (.ptr 176 0) [(176,.var (ai.rc K))] (ce h1)<|sA Z<|sN<|gU Z<|sM Z<|bE h fun q E h=>cR (.d (ah.pd q.1)) [(176,.var (ai.rc q.2))] (ce E)<|sM Z<|bE h fun k F h=>?_
 refine cR (.d (ae.pd k.1)) [(176,.var (ai.rc k.2))] (ce F)<|sB (.ptr 32 0) 32 (.var [r0,r0,r0,r0,r0,r0,r0,.rm,.rm,r0,r0,r0,r0,r0,r0,.rm,.rm,r0,r0,r0])<|sB (.ptr 48 0) 48 (.var [.rm])<|sH 32 (.var (ah.rc q.1))<|sS 48 (.var [rM aj.pd k.1.a8])<|sN<|gU Z<|bE h fun f G h=>cD (ce G)<|sG (.d (aa.pd (aa.mk f 2500 2500 2500 10 0)))<|sB (.ptr 64 0) 64 (.var [rS [],rS [],rS [],rS [],r0,r0,r0,r0,r0])<|sH 64 (.var (bn.rc f++[rI 2500,rI 2500,rI 2500,rI 10,r0]))<|sN<|gU Z<|sV (.d (aa.pd (aa.mk f 2500 2500 2500 10 0))) ?_
 refine sB (.ptr 80 0) 80 (.var [rS [],rS [],rS [],rS [],r0,r0,r0,r0,r0])<|sH 80 (.var (bn.rc f++[rI 2500,rI 2500,rI 2500,rI 10,r0]))<|sN<|gU Z<|sV (.ptr 80 7)<|sS 80 (.var (bn.rc f++[rI 2500,rI 2500,rI 2500,rI 11,r0]))<|sN<|gU Z<|sV (.d (ah.pd q.1))<|sV (.d (.agg [.lst (k.1.a8.map aj.pd)]))<|sV (.d (aa.pd (aa.mk f 2500 2500 2500 10 0)))<|sV (.d (aa.pd (aa.mk f 2500 2500 2500 11 0)))<|sG (.d (.lst ([(aa.mk f 2500 2500 2500 10 0),(aa.mk f 2500 2500 2500 11 0)].map aa.pd)))<|bE h fun j H h=>cR (.tup [.d (av.pd j.1),rI j.2]) [] (jb H) ?_
 refine sM Z<|sV (.d (av.pd j.1))<|sV (rI j.2)<|sB (.ptr 96 0) 96 (.var zZ0)<|sH 96 (.var (av.rc j.1))<|sA Z<|sN<|gU Z<|sV (.d (av.pd j.1))<|sV (.d (.agg [.lst (k.1.a8.map aj.pd)]))<|sV (.d (aa.pd (aa.mk f 2500 2500 2500 11 0)))<|sV (.d (aa.pd (aa.mk f 2500 2500 2500 10 0)))<|sG (.d (.lst ([(aa.mk f 2500 2500 2500 11 0),(aa.mk f 2500 2500 2500 10 0)].map aa.pd)))<|bE h fun g I h=>cR (.tup [.d (av.pd g.1),rL g.2.1,rI g.2.2]) [] (iJ I) ?_
 refine sM Z<|sV (.d (av.pd g.1))<|sV (rL g.2.1)<|sV (rI g.2.2)<|sB (.ptr 128 0) 128 (.var zZ0)<|sH 128 (.var (av.rc g.1))<|sA Z<|sA Z<|sN<|gU Z<|sM Z<|sF h ?_ ?_<;>intro h
 ·refine sM Z<|sV (.d (av.pd j.1))<|bE h fun D J h=>cD (ce J)<|sE (rI (D.length:Int)) (sx _ _)<|sV (rB ((D.length:Int)==(1:Int)))<|sF h ?_ ?_<;>intro h
  ·refine mM Z<|sV (rB (g.2.2==(0:Int)))<|sF h ?_ ?_<;>intro h
   ·refine mM Z<|sE (rI (g.2.1.length:Int)) (sx _ _)<|sV (rB ((g.2.1.length:Int)==(0:Int)))<|sF h ?_ ?_<;>intro h
    ·refine sM Z<|sV (.d (av.pd j.1))<|sV (.d (av.pd g.1))<|bE h fun C u h=>cD (ce u)<|sV (rB C)<|sA Z<|sN<|qR ?_
     cases oI h
     exact qG
    refine sM Z<|k3<|sU<|sA Z<|sN<|qR ?_
    cases oI h
    exact qG
   refine sM Z<|k3<|sU<|sM Z<|k3<|sU<|sA Z<|sN<|qR ?_
   cases oI h
   exact qG
  refine sM Z<|sK<|sK<|sU<|sM Z<|k3<|sU<|sM Z<|k3<|sU<|sA Z ?_
  refine sN<|qR ?_
  cases oI h
  exact qG
 refine sM Z<|k3<|sK<|sU<|sM Z<|sK<|sK<|sU<|sM Z<|k3<|sU ?_
 refine sM Z<|k3<|sU<|sA Z<|sN<|qR ?_
 cases oI h
 exact qG
section
attribute [local irreducible] HM HU HF HB WO WC QS QB tZ
instance {a1:(List aa)}:LI (mX a1) 3 (fun s=>[(11,rI s.1)]) (fun s=>[(0,.var [rL s.2.1,rI s.2.2.1]),(368,.arr 0 70 (s.2.2.2.map aa.pd))]) (jX 8 (fun o=>[]) fun o=>[(0,.var [rL o.1,rI o.2.1]),(368,.arr 0 70 (o.2.2.map aa.pd))]):=⟨⟩
instance {a1:(List aa)}{a2:(List aa)}{d0:ai}:CE prog bo ext (mm a1 a2 d0) 10 [.ptr 0 0,rM aa.pd a1,rM aa.pd a2] [.var (ai.rc d0)] fun r=>(rM aa.pd r.1,[.var (ai.rc r.2)]):=⟨fun h=>Ev.au h Tryz.func10⟩
instance {a1:ae}:LI (ml a1) 3 (fun s=>[(12,rI s.1)]) (fun s=>[(0,.var [rL s.2.1,rI s.2.2.1]),(1536,.arr 0 93 (s.2.2.2.map aj.pd))]) (jX 20 (fun o=>[]) fun o=>[(0,.var [rL o.1,rI o.2.1]),(1536,.arr 0 93 (o.2.2.map aj.pd))]):=⟨⟩
instance {a1:ae}{d0:ai}:CE prog bo ext (lA a1 d0) 12 [.ptr 0 0,.d (ae.pd a1)] [.var (ai.rc d0)] fun r=>(.d (ae.pd r.1),[.var (ai.rc r.2)]):=⟨fun h=>Ev.au h Tryz.func12⟩
end
section
attribute [local irreducible] HM HU HF HB WO WC QS QB tZ
instance {a0:bq}:CE prog bo ext (nK a0) 62 [.d (bq.pd a0)] [] fun r=>(rM aa.pd r,[]):=⟨fun h=>Ev.au h Tryz.func62⟩
instance {a0:av}:LI (fe a0) 3 (fun s=>[(11,rI s.1)]) (fun s=>[(304,.arr 0 70 (s.2.map aa.pd))]) (jX 7 (fun o=>[]) fun o=>[(304,.arr 0 70 (o.map aa.pd))]):=⟨⟩
instance {a0:av}:CE prog bo ext (jx a0) 61 [.d (av.pd a0),.d (.raw (.func (.func 62) #[] #[]))] [] fun r=>(rM aa.pd r,[]):=⟨fun h=>Ev.au h Tryz.func61⟩
instance {a0:av}:CE prog bo ext (kN a0) 25 [.d (av.pd a0)] [] fun r=>(rM aa.pd r,[]):=⟨fun h=>Ev.au h Tryz.func25⟩
instance {a0:(List UInt8)}{a1:(List UInt8)}:CE prog bo ext (iz a0 a1) 168 [rS a0,rS a1] [] fun r=>(rI r,[]):=⟨fun h=>Ev.au h Tryz.func168⟩
instance {a0:bn}{a1:bn}:CE prog bo ext (nn a0 a1) 116 [.d (bn.pd a0),.d (bn.pd a1)] [] fun r=>(rI r,[]):=⟨fun h=>Ev.au h Tryz.func116⟩
instance {a0:aa}{a1:aa}:CE prog bo ext (np a0 a1) 64 [.d (aa.pd a0),.d (aa.pd a1)] [] fun r=>(rI r,[]):=⟨fun h=>Ev.au h Tryz.func64⟩
end
theorem ref23_Sort_ev{a0:(List aa)}{r:(List aa)}(h:pE a0=some r):EvP prog bo ext 27 [rM aa.pd a0] [] (rM aa.pd r,[]):=by
 refine Ev.body Z Tryz.func27 Z Zk<|gU Z<|sV .rm<|sN<|gU Z<|sV .rm<|sN<|qS<|gU Z<|sV (r0)<|sN<|bE h fun b2 C h=>Fq (Fs (WL.rU C (fun s=>gI 0 27 3 [(0,rM aa.pd a0),(3,.ref 816 0),(4,rI s.1)] [(816,.arr 0 70 (s.2.map aa.pd))]) (fun o=>gX 0 0 27 12 [(3,.ref 816 0)] [(816,.arr 0 70 (o.map aa.pd))]) Z ?_ ?_))
 ·rintro⟨s1,s2⟩ q k q4 j h
  refine qS<|gS Z j<|mM Z<|sE (rI (a0.length:Int)) (sx _ _)<|sF h ?_ ?_<;>intro h
  ·refine sN<|cT<|qK<|qS<|qB<|gU Z<|sM Z<|WO.lenR Z Z Z Z Z Z Z Z Z<|sA Z<|sN<|qS<|bE h fun f u h=>Fq (Fs (WL.rU u (fun s=>gI 0 27 6 [(0,rM aa.pd a0),(3,.ref 816 0),(4,rI s1),(5,rI s)] [(816,.arr 0 70 (s2.map aa.pd))]) (fun o=>gX 2 0 27 8 [(0,rM aa.pd a0),(3,.ref 816 0),(4,rI o.1),(5,rI o.2.1)] [(816,.arr 0 70 (o.2.2.map aa.pd))]) Z ?_ ?_))
   ·rintro s6 q k b3 j h
    refine qS<|Ft j Z<|sM Z<|sF h ?_ ?_<;>intro h
    ·refine mM Z<|sM Z<|sV (rI (rW (s6-(1:Int))))<|bE h fun b4 G h=>WO.tF G Z Z Z Z Z Z Z Z<|bE h fun b5 H h=>WO.tg H Z Z Z Z Z Z<|mM Z<|bE h fun a9 I h=>eG I Z<|sV (.d (aa.pd a9))<|bE h fun b0 J h=>cD (ce J) ?_
     refine sV (rB (decide (b0>(0:Int))))<|sF h ?_ ?_<;>intro h
     ·refine sN<|sO<|cT<|qK<|qB<|Fu Z Z<|sM Z<|sV (rI (rW (s6-(1:Int))))<|sA Z<|sN ?_
      cases oI h
      exact⟨rfl,rfl⟩
     refine sN<|sO<|cF<|qX ?_
     cases oI h
     exact⟨nofun,rfl,rfl⟩
    refine sM Z<|k3<|k3<|k3<|sK<|sK<|sU ?_
    refine sN<|sO<|cF<|qX ?_
    cases oI h
    exact⟨nofun,rfl,rfl⟩
   intro e q k he hq
   obtain⟨rfl,j⟩:=hq
   refine qE<|WC.join (α:=Unit) (fun x q k=>rJ prog 0 (A q k) (bo.at_ 27 0 9)=some (A [(0,rM aa.pd a0),(3,.ref 816 0),(4,rI f.1),(5,rI f.2.1)] [(816,.arr 0 70 (f.2.2.map aa.pd))])) (fun x=>iY a0 f=some q4) ?_ ?_
   ·refine Ft j Z<|sM Z<|sF h ?_ ?_<;>intro h
    ·refine mM Z<|sM Z<|sV (rI (rW (f.2.1-(1:Int))))<|bE h fun c6 Y h=>WO.tF Y Z Z Z Z Z Z Z Z<|bE h fun b1 a5 h=>WO.tg a5 Z Z Z Z Z Z<|mM Z<|bE h fun F a6 h=>eG a6 Z<|sV (.d (aa.pd F))<|WO.bin (eqE_70 b1 F) Z Z Z Z Z<|sF h ?_ ?_<;>intro h
     ·refine sN<|sO<|cT<|qX<|qE<|Fu Z Z<|sM Z<|sV (rI (rW (f.1+(1:Int))))<|sA Z<|sN ?_
      cases oI h
      exact⟨rfl,rfl⟩
     exact sN<|sO<|cF<|qK<|⟨(),rfl,h⟩
    refine sM Z<|k3<|k3<|k3<|sK<|sU ?_
    exact sN<|sO<|cF<|qK<|⟨(),rfl,h⟩
   rintro⟨⟩ q k j h
   refine gS Z j<|mM Z<|sM Z<|bE h fun D K h=>eG K Z<|sV (.d (aa.pd D))<|sG (.d (.lst ([D].map aa.pd)))<|bE h fun b6 L h=>aR L (fun _=>Z) Z<|sA Z<|sN<|Ft Z Z<|sM Z<|sM Z ?_
   refine sV (rI (rW (f.2.1+(1:Int))))<|bE h fun c0 N h=>WO.subR N Z Z Z Z Z Z Z Z Z Z Z Z<|mM Z<|bE h fun c1 O h=>WO.subR O Z Z Z Z Z Z Z Z Z Z Z Z<|bE h fun c2 Q h=>bE h fun c3 T h=>WO.copyG Z Z Z Z Z Z Z Z (B5 Q Z) (src_view T Z) Z Z (fun _=>Z) ?_
   refine sN<|sO<|Fu Z Z<|mM Z<|mM Z<|bE h fun E U h=>eG U Z<|sV (.d (aa.pd E))<|bE h fun c4 W h=>WO.tF W Z Z Z Z Z Z Z Z<|bE h fun c5 X h=>WO.vj (g:=aa.pd) (sz:=9) (p:=aa.pd E) X (by intro _;kernel_rfl) (by intro _;kernel_rfl) Z Z Z Z Z Z Z Z Z<|sN<|Fu Z Z ?_
   refine sM Z<|sV (rI (rW (f.1+(1:Int))))<|sA Z<|sN ?_
   cases oI h
   exact⟨rfl,rfl⟩
  refine sN<|cF<|qX ?_
  cases oI h
  exact⟨nofun,rfl,rfl⟩
 intro e q k he hq
 obtain⟨rfl,j⟩:=hq
 refine qE<|gS Z j<|sM Z<|sA Z<|sN<|qR ?_
 exact oI h▸qD
theorem oT{a0:(List Int)}{r:Bool}(h:kD a0=some r):EvP prog bo ext 5 [rL a0] [] (rB r,[]):=by
 refine Ev.body Z Tryz.func5 Z Zk<|gU Z<|sU<|sN<|gU Z<|sM Z<|bE h fun x1 h1 h=>cR (.ptr 304 0) [(304,.var (ai.rc x1))] (ce h1)<|sA Z<|sN<|gU Z<|sM Z<|bE h fun u h2 h=>cR (.d (ah.pd u.1)) [(304,.var (ai.rc u.2))] (ce h2)<|sM Z ?_
 refine bE h fun x3 h3 h=>cR (.d (ae.pd x3.1)) [(304,.var (ai.rc x3.2))] (ce h3)<|sB (.ptr 64 0) 64 (.var [r0,r0,r0,r0,r0,r0,r0,.rm,.rm,r0,r0,r0,r0,r0,r0,.rm,.rm,r0,r0,r0])<|sB (.ptr 80 0) 80 (.var [.rm])<|sH 64 (.var (ah.rc u.1))<|sS 80 (.var [rM aj.pd x3.1.a8])<|sN<|gU Z<|sM Z<|sV (.d (ah.pd u.1))<|sV (.d (.agg [.lst (x3.1.a8.map aj.pd)]))<|bE h fun x4 h4 h=>cR (rM aa.pd x4.1) [(304,.var (ai.rc x4.2))] (ce h4)<|sA Z<|sN ?_
 refine gU Z<|sV (.d (ah.pd u.1))<|sV (.d (.agg [.lst (x3.1.a8.map aj.pd)]))<|sM Z<|bE h fun x5 h5 h=>cR (.tup [.d (av.pd x5.1),rI x5.2]) [] (jb h5)<|sM Z<|sV (.d (av.pd x5.1))<|sV (rI x5.2)<|sB (.ptr 112 0) 112 (.var zZ0)<|sH 112 (.var (av.rc x5.1))<|sA Z<|sN<|qS<|gU Z ?_
 refine sM Z<|sF h ?_ ?_<;>intro h
 ·refine sN<|cT<|gU Z<|sU<|sN<|qR ?_
  cases oI h
  exact qG
 refine sN<|cF<|qK<|qS<|gU Z<|sV (r0)<|sN<|bE h fun d7 b3 h=>Fq (Fs (WL.rU b3 (fun s=>gI 0 5 8 [(3,.ptr 304 0),(4,.ptr 64 0),(5,.ptr 80 0),(6,rM aa.pd s.1),(7,.ptr 112 0),(9,rI s.2.1)] [(64,.var (ah.rc u.1)),(80,.var [rM aj.pd s.2.2.2.2.1]),(112,.var [rI s.2.2.2.2.2.1,rI s.2.2.2.2.2.2.1,rI s.2.2.2.2.2.2.2.1,rI s.2.2.2.2.2.2.2.2.1,rI s.2.2.2.2.2.2.2.2.2.1,rI s.2.2.2.2.2.2.2.2.2.2.1,rI s.2.2.2.2.2.2.2.2.2.2.2.1,rL s.2.2.2.2.2.2.2.2.2.2.2.2.1,rL s.2.2.2.2.2.2.2.2.2.2.2.2.2.1,rI s.2.2.2.2.2.2.2.2.2.2.2.2.2.2.1,rI s.2.2.2.2.2.2.2.2.2.2.2.2.2.2.2.1,rI s.2.2.2.2.2.2.2.2.2.2.2.2.2.2.2.2.1,rI s.2.2.2.2.2.2.2.2.2.2.2.2.2.2.2.2.2.1,rI s.2.2.2.2.2.2.2.2.2.2.2.2.2.2.2.2.2.2.1,rI s.2.2.2.2.2.2.2.2.2.2.2.2.2.2.2.2.2.2.2.1,rL s.2.2.2.2.2.2.2.2.2.2.2.2.2.2.2.2.2.2.2.2.1,rL s.2.2.2.2.2.2.2.2.2.2.2.2.2.2.2.2.2.2.2.2.2.1,rI s.2.2.2.2.2.2.2.2.2.2.2.2.2.2.2.2.2.2.2.2.2.2.1,rI s.2.2.2.2.2.2.2.2.2.2.2.2.2.2.2.2.2.2.2.2.2.2.2.1,rI s.2.2.2.2.2.2.2.2.2.2.2.2.2.2.2.2.2.2.2.2.2.2.2.2.1,rM aj.pd s.2.2.2.2.2.2.2.2.2.2.2.2.2.2.2.2.2.2.2.2.2.2.2.2.2.1,rM bq.pd s.2.2.2.2.2.2.2.2.2.2.2.2.2.2.2.2.2.2.2.2.2.2.2.2.2.2]),(304,.var [rL s.2.2.1,rI s.2.2.2.1])]) (fun o=>match o with| .inl y=>gX 0 0 5 17 [(4,.ptr 64 0),(5,.ptr 80 0),(6,rM aa.pd y.1),(7,.ptr 112 0)] [(64,.var (ah.rc u.1)),(80,.var [rM aj.pd y.2.1]),(112,.var [rI y.2.2.1,rI y.2.2.2.1,rI y.2.2.2.2.1,rI y.2.2.2.2.2.1,rI y.2.2.2.2.2.2.1,rI y.2.2.2.2.2.2.2.1,rI y.2.2.2.2.2.2.2.2.1,rL y.2.2.2.2.2.2.2.2.2.1,rL y.2.2.2.2.2.2.2.2.2.2.1,rI y.2.2.2.2.2.2.2.2.2.2.2.1,rI y.2.2.2.2.2.2.2.2.2.2.2.2.1,rI y.2.2.2.2.2.2.2.2.2.2.2.2.2.1,rI y.2.2.2.2.2.2.2.2.2.2.2.2.2.2.1,rI y.2.2.2.2.2.2.2.2.2.2.2.2.2.2.2.1,rI y.2.2.2.2.2.2.2.2.2.2.2.2.2.2.2.2.1,rL y.2.2.2.2.2.2.2.2.2.2.2.2.2.2.2.2.2.1,rL y.2.2.2.2.2.2.2.2.2.2.2.2.2.2.2.2.2.2.1,rI y.2.2.2.2.2.2.2.2.2.2.2.2.2.2.2.2.2.2.2.1,rI y.2.2.2.2.2.2.2.2.2.2.2.2.2.2.2.2.2.2.2.2.1,rI y.2.2.2.2.2.2.2.2.2.2.2.2.2.2.2.2.2.2.2.2.2.1,rM aj.pd y.2.2.2.2.2.2.2.2.2.2.2.2.2.2.2.2.2.2.2.2.2.2.1,rM bq.pd y.2.2.2.2.2.2.2.2.2.2.2.2.2.2.2.2.2.2.2.2.2.2.2])]| .inr r=>gF 5 Tryz.f5 0 (rB r,[])) Z ?_ ?_))
 ·rintro⟨s7,s8,s9,e5,D,E,F,G,H,I,J,K,L,N,O,Q,T,U,W,X,Y,a5,a6,a9,b0,b1,b2⟩ R' B' d8 hI h
  refine qS<|gS Z hI<|sM Z<|sF h ?_ ?_<;>intro h
  ·refine sN<|cT<|qK<|qS<|qB<|WC.join (α:=(List aa)×(List Int)×Int×(List aj)) (fun x R' B'=>rJ prog 0 (A R' B') (bo.at_ 5 0 13)=some (A [(3,.ptr 304 0),(4,.ptr 64 0),(5,.ptr 80 0),(6,rM aa.pd x.1),(7,.ptr 112 0),(9,rI s8)] [(64,.var (ah.rc u.1)),(80,.var [rM aj.pd x.2.2.2]),(112,.var [rI E,rI F,rI G,rI H,rI I,rI J,rI K,rL L,rL N,rI O,rI Q,rI T,rI U,rI W,rI X,rL Y,rL a5,rI a6,rI a9,rI b0,rM aj.pd b1,rM bq.pd b2]),(304,.var [rL x.2.1,rI x.2.2.1])])) (fun x=>ek E F G H I J K L N O Q T U W X Y a5 a6 a9 b0 b1 b2 s8 x.1 x.2.1 x.2.2.1 x.2.2.2=some d8) ?_ ?_
   ·refine gU Z<|sM Z<|bE h fun b4 c0 h=>cR (rI b4.1) [(304,.var (ai.rc b4.2))] (ce c0)<|sF h ?_ ?_<;>intro h
    ·exact sN<|cT<|Fu rfl rfl<|sM rfl<|sV (.d (ae.pd (ae.mk D)))<|bE h fun k c1 h=>cR (.d (ae.pd k.1)) [(304,.var (ai.rc k.2))] (ce c1)<|sS 80 (.var [rM aj.pd k.1.a8])<|sN<|⟨(s7,k.2.fL,k.2.fAt,k.1.a8),rfl,h⟩
    exact sN<|cF<|Fu rfl rfl<|sM rfl<|sM rfl<|sM rfl<|sV (.d (ah.pd u.1))<|sV (.d (ae.pd (ae.mk D)))<|bE h fun b5 c2 h=>cR (rM aa.pd b5.1) [(304,.var (ai.rc b5.2))] (ce c2)<|bE h fun C c3 h=>cR (rM aa.pd C.1) [(304,.var (ai.rc C.2))] (ce c3)<|sA rfl<|sN<|⟨(C.1,C.2.fL,C.2.fAt,D),rfl,h⟩
   rintro⟨e1,e2,e3,d6⟩ R' B' hI h
   refine gS Z hI<|sV (.d (av.pd (av.mk (ah.mk (bi.mk (al.mk (ag.mk E F G) (ag.mk H I J)) (bg.mk K L N) O Q T U W) (bS.mk (bg.mk X Y a5) a6 a9) b0) (ae.mk b1) b2)))<|sV (.d (ae.pd (ae.mk d6)))<|sM Z<|bE h fun g b6 h=>cR (.tup [.d (av.pd g.1),rL g.2.1,rI g.2.2]) [] (iJ b6)<|sM Z<|sV (.d (av.pd g.1))<|sV (rL g.2.1)<|sV (rI g.2.2)<|sB (.ptr 160 0) 160 (.var zZ0)<|sH 160 (.var (av.rc g.1))<|sA Z<|sA Z<|sN ?_
   refine qS<|gU Z<|sM Z<|sF h ?_ ?_<;>intro h
   ·refine sN<|cT<|gU Z<|sU<|sN<|qR ?_
    cases oI h
    exact⟨nofun,rfl,rfl⟩
   refine sN<|cF<|qK<|Fu Z Z<|sV (.d (av.pd g.1))<|sH 112 (.var (av.rc g.1))<|sN<|Fu Z Z<|sM Z<|sV (rI (rW (s8+(1:Int))))<|sA Z<|sN ?_
   cases oI h
   exact⟨rfl,rfl⟩
  refine sN<|cF<|qX ?_
  cases oI h
  exact⟨nofun,rfl,rfl⟩
 intro e R' B' he hq
 rcases d7 with f|e4
 ·obtain⟨rfl,hI⟩:=hq
  refine qE<|gS Z hI<|sV (.d (ah.pd u.1))<|sV (.d (ae.pd (ae.mk f.2.1)))<|sM Z<|bE h fun q c4 h=>cR (.tup [.d (av.pd q.1),rI q.2]) [] (jb c4)<|sM Z<|sV (.d (av.pd q.1))<|sV (rI q.2)<|sB (.ptr 208 0) 208 (.var zZ0)<|sH 208 (.var (av.rc q.1))<|sA Z<|sN<|gU Z ?_
  refine sV (.d (ah.pd u.1))<|sV (.d (ae.pd (ae.mk f.2.1)))<|sM Z<|bE h fun j c5 h=>cR (.tup [rM aq.pd j.1,rM aa.pd j.2.1,rI j.2.2]) [] (qF c5)<|sM Z<|sV (rM aq.pd j.1)<|sV (rM aa.pd j.2.1)<|sV (rI j.2.2)<|sA Z<|sA Z<|sA Z<|sN<|gU Z<|sM Z ?_
  refine sF h ?_ ?_<;>intro h
  ·refine mM Z<|sV (rB (j.2.2==(0:Int)))<|sF h ?_ ?_<;>intro h
   ·refine sM Z<|sV (.d (av.pd (av.mk (ah.mk (bi.mk (al.mk (ag.mk f.2.2.1 f.2.2.2.1 f.2.2.2.2.1) (ag.mk f.2.2.2.2.2.1 f.2.2.2.2.2.2.1 f.2.2.2.2.2.2.2.1)) (bg.mk f.2.2.2.2.2.2.2.2.1 f.2.2.2.2.2.2.2.2.2.1 f.2.2.2.2.2.2.2.2.2.2.1) f.2.2.2.2.2.2.2.2.2.2.2.1 f.2.2.2.2.2.2.2.2.2.2.2.2.1 f.2.2.2.2.2.2.2.2.2.2.2.2.2.1 f.2.2.2.2.2.2.2.2.2.2.2.2.2.2.1 f.2.2.2.2.2.2.2.2.2.2.2.2.2.2.2.1) (bS.mk (bg.mk f.2.2.2.2.2.2.2.2.2.2.2.2.2.2.2.2.1 f.2.2.2.2.2.2.2.2.2.2.2.2.2.2.2.2.2.1 f.2.2.2.2.2.2.2.2.2.2.2.2.2.2.2.2.2.2.1) f.2.2.2.2.2.2.2.2.2.2.2.2.2.2.2.2.2.2.2.1 f.2.2.2.2.2.2.2.2.2.2.2.2.2.2.2.2.2.2.2.2.1) f.2.2.2.2.2.2.2.2.2.2.2.2.2.2.2.2.2.2.2.2.2.1) (ae.mk f.2.2.2.2.2.2.2.2.2.2.2.2.2.2.2.2.2.2.2.2.2.2.1) f.2.2.2.2.2.2.2.2.2.2.2.2.2.2.2.2.2.2.2.2.2.2.2)))<|sV (.d (av.pd q.1))<|bE h fun e6 c6 h=>cD (ce c6)<|sF h ?_ ?_<;>intro h
    ·refine sM Z<|sV (.d (av.pd (av.mk (ah.mk (bi.mk (al.mk (ag.mk f.2.2.1 f.2.2.2.1 f.2.2.2.2.1) (ag.mk f.2.2.2.2.2.1 f.2.2.2.2.2.2.1 f.2.2.2.2.2.2.2.1)) (bg.mk f.2.2.2.2.2.2.2.2.1 f.2.2.2.2.2.2.2.2.2.1 f.2.2.2.2.2.2.2.2.2.2.1) f.2.2.2.2.2.2.2.2.2.2.2.1 f.2.2.2.2.2.2.2.2.2.2.2.2.1 f.2.2.2.2.2.2.2.2.2.2.2.2.2.1 f.2.2.2.2.2.2.2.2.2.2.2.2.2.2.1 f.2.2.2.2.2.2.2.2.2.2.2.2.2.2.2.1) (bS.mk (bg.mk f.2.2.2.2.2.2.2.2.2.2.2.2.2.2.2.2.1 f.2.2.2.2.2.2.2.2.2.2.2.2.2.2.2.2.2.1 f.2.2.2.2.2.2.2.2.2.2.2.2.2.2.2.2.2.2.1) f.2.2.2.2.2.2.2.2.2.2.2.2.2.2.2.2.2.2.2.1 f.2.2.2.2.2.2.2.2.2.2.2.2.2.2.2.2.2.2.2.2.1) f.2.2.2.2.2.2.2.2.2.2.2.2.2.2.2.2.2.2.2.2.2.1) (ae.mk f.2.2.2.2.2.2.2.2.2.2.2.2.2.2.2.2.2.2.2.2.2.2.1) f.2.2.2.2.2.2.2.2.2.2.2.2.2.2.2.2.2.2.2.2.2.2.2)))<|bE h fun e7 c7 h=>cD (ce c7)<|sM Z<|bE h fun e8 c8 h=>cD (ce c8)<|sF h ?_ ?_<;>intro h
     ·refine sM Z<|sV (.d (av.pd (av.mk (ah.mk (bi.mk (al.mk (ag.mk f.2.2.1 f.2.2.2.1 f.2.2.2.2.1) (ag.mk f.2.2.2.2.2.1 f.2.2.2.2.2.2.1 f.2.2.2.2.2.2.2.1)) (bg.mk f.2.2.2.2.2.2.2.2.1 f.2.2.2.2.2.2.2.2.2.1 f.2.2.2.2.2.2.2.2.2.2.1) f.2.2.2.2.2.2.2.2.2.2.2.1 f.2.2.2.2.2.2.2.2.2.2.2.2.1 f.2.2.2.2.2.2.2.2.2.2.2.2.2.1 f.2.2.2.2.2.2.2.2.2.2.2.2.2.2.1 f.2.2.2.2.2.2.2.2.2.2.2.2.2.2.2.1) (bS.mk (bg.mk f.2.2.2.2.2.2.2.2.2.2.2.2.2.2.2.2.1 f.2.2.2.2.2.2.2.2.2.2.2.2.2.2.2.2.2.1 f.2.2.2.2.2.2.2.2.2.2.2.2.2.2.2.2.2.2.1) f.2.2.2.2.2.2.2.2.2.2.2.2.2.2.2.2.2.2.2.1 f.2.2.2.2.2.2.2.2.2.2.2.2.2.2.2.2.2.2.2.2.1) f.2.2.2.2.2.2.2.2.2.2.2.2.2.2.2.2.2.2.2.2.2.1) (ae.mk f.2.2.2.2.2.2.2.2.2.2.2.2.2.2.2.2.2.2.2.2.2.2.1) f.2.2.2.2.2.2.2.2.2.2.2.2.2.2.2.2.2.2.2.2.2.2.2)))<|bE h fun e9 d0 h=>cD (ce d0)<|sM Z<|bE h fun f0 d1 h=>cD (fj d1)<|sF h ?_ ?_<;>intro h
      ·refine sM Z<|sV (.d (av.pd (av.mk (ah.mk (bi.mk (al.mk (ag.mk f.2.2.1 f.2.2.2.1 f.2.2.2.2.1) (ag.mk f.2.2.2.2.2.1 f.2.2.2.2.2.2.1 f.2.2.2.2.2.2.2.1)) (bg.mk f.2.2.2.2.2.2.2.2.1 f.2.2.2.2.2.2.2.2.2.1 f.2.2.2.2.2.2.2.2.2.2.1) f.2.2.2.2.2.2.2.2.2.2.2.1 f.2.2.2.2.2.2.2.2.2.2.2.2.1 f.2.2.2.2.2.2.2.2.2.2.2.2.2.1 f.2.2.2.2.2.2.2.2.2.2.2.2.2.2.1 f.2.2.2.2.2.2.2.2.2.2.2.2.2.2.2.1) (bS.mk (bg.mk f.2.2.2.2.2.2.2.2.2.2.2.2.2.2.2.2.1 f.2.2.2.2.2.2.2.2.2.2.2.2.2.2.2.2.2.1 f.2.2.2.2.2.2.2.2.2.2.2.2.2.2.2.2.2.2.1) f.2.2.2.2.2.2.2.2.2.2.2.2.2.2.2.2.2.2.2.1 f.2.2.2.2.2.2.2.2.2.2.2.2.2.2.2.2.2.2.2.2.1) f.2.2.2.2.2.2.2.2.2.2.2.2.2.2.2.2.2.2.2.2.2.1) (ae.mk f.2.2.2.2.2.2.2.2.2.2.2.2.2.2.2.2.2.2.2.2.2.2.1) f.2.2.2.2.2.2.2.2.2.2.2.2.2.2.2.2.2.2.2.2.2.2.2)))<|bE h fun f1 d2 h=>cD (ce d2)<|sM Z<|bE h fun f2 d3 h=>cD (ref23_Sort_ev d3)<|bE h fun f3 d4 h=>cD (fj d4)<|sF h ?_ ?_<;>intro h
       ·refine sM Z<|bE h fun e0 d5 h=>cD (oi d5)<|sV (rB e0)<|sA Z<|sN<|qR ?_
        cases oI h
        exact qG
       refine sM Z<|sK<|sU<|sA Z<|sN<|qR ?_
       cases oI h
       exact qG
      refine sM Z<|k3<|sK<|sK<|sU<|sM Z<|sK<|sU<|sA Z<|sN<|qR ?_
      cases oI h
      exact qG
     refine sM Z<|k3<|sK<|sU<|sM Z<|k3<|sK<|sK<|sU<|sM Z<|sK ?_
     refine sU<|sA Z<|sN<|qR ?_
     cases oI h
     exact qG
    refine sM Z<|k3<|sK<|sU<|sM Z<|k3<|sK<|sU<|sM Z<|sK<|sK ?_
    refine k3<|sU<|sM Z<|sK<|sU<|sA Z<|sN<|qR ?_
    cases oI h
    exact qG
   refine sM Z<|k3<|sU<|sM Z<|k3<|sK<|sU<|sM Z<|sK<|sK<|sK ?_
   refine sK<|sU<|sM Z<|k3<|sK<|sK<|sU<|sM Z<|sK<|sU<|sA Z<|sN<|qR ?_
   cases oI h
   exact qG
  refine sM Z<|sK<|sK<|sU<|sM Z<|k3<|sU<|sM Z<|k3<|sK<|sU ?_
  refine sM Z<|k3<|sK<|sU<|sM Z<|k3<|sK<|sK<|sU<|sM Z<|sK ?_
  refine sU<|sA Z<|sN<|qR ?_
  cases oI h
  exact qG
 obtain⟨rfl,hf⟩:=hq
 cases oI h
 exact hf
end Go.Dw.Re
