
import Derived.Test.YtfmoipelhfkdkaaGreatDoorReEvC
set_option linter.unusedVariables false
set_option linter.unusedSimpArgs false
open Go.Dw.WC renaming block->F1, loop->F2, py->F3, region->F4

set_option maxRecDepth 100000
set_option maxHeartbeats 4000000
namespace Go.Dw.Re
open Go.Proofs Go.Proofs.Tryz Go.Dw
theorem ny{a0:Int}{a1:(List aa)}{a2:(List aa)}{a3:ae}{a4:ae}{r:(List Int)×Int}(h:gf a0 a1 a2 a3 a4=some r):EvP prog bj ext 15 [rI a0,rM aa.pd a1,rM aa.pd a2,.d (ae.pd a3),.d (ae.pd a4)] [] (.tup [rL r.1,rI r.2],[]):=by
 refine Ev.body Z Tryz.func15 Z Zk<|gU Z<|sB (.ptr 128 0) 128 (.var [rM aj.pd a3.a8])<|sB (.ptr 144 0) 144 (.var [rM aj.pd a4.a8])<|sV .pY<|sV (r0)<|sN<|qS<|qB<|gU Z<|sM Z<|sF h ?_ ?_<;>intro h
 ·refine sM Z<|sK<|sK<|sT<|sA Z<|sN<|cT<|gU Z<|sV .pY<|sV (rI 2)<|sN<|qR ?_
  exact oI h▸qD
 refine mM Z<|sV (rB (decide (a0>(1099511627776:Int))))<|sF h ?_ ?_<;>intro h
 ·refine sA Z<|sN<|cT<|gU Z<|sV .pY<|sV (rI 2)<|sN<|qR ?_
  exact oI h▸qD
 refine sA Z<|sN<|cF<|gU Z<|sM Z<|bE h fun x3 h3 h=>cD (ce h3)<|sF h ?_ ?_<;>intro h
 ·refine sM Z<|k3<|sT<|sM Z<|k3<|sT<|sM Z<|k3<|sT ?_
  refine sA Z<|sN<|cT<|gU Z<|sV .pY<|sV (rI 1)<|sN<|qR ?_
  exact oI h▸qD
 refine mM Z<|bE h fun x5 h5 h=>cD (ce h5)<|sV (rB (!x5))<|sF h ?_ ?_<;>intro h
 ·refine sM Z<|k3<|sT<|sM Z<|k3<|sT<|sA Z<|sN<|cT<|gU Z<|sV .pY ?_
  refine sV (rI 1)<|sN<|qR ?_
  exact oI h▸qD
 refine sM Z<|sV (.d (ae.pd a3))<|bE h fun x7 h7 h=>cD (ce h7)<|sV (rB (!x7))<|sF h ?_ ?_<;>intro h
 ·refine sM Z<|k3<|sT<|sA Z<|sN<|cT<|gU Z<|sV .pY<|sV (rI 1)<|sN<|qR ?_
  exact oI h▸qD
 refine sM Z<|sV (.d (ae.pd a4))<|bE h fun x9 h9 h=>cD (ce h9)<|sV (rB (!x9))<|sF h ?_ ?_<;>intro h
 ·refine sA Z<|sN<|cT<|gU Z<|sV .pY<|sV (rI 1)<|sN<|qR ?_
  exact oI h▸qD
 refine sA Z<|sN<|cF<|qK<|gU Z<|mM Z<|bE h fun f N h=>cD (jO N)<|sA Z<|sN<|gU Z<|sB (.ptr 832 0) 832 (.map 70 3 (([]:List (aa×Int)).map fun e=>(aa.pd e.1,(PD.int .i64) e.2)))<|sB (.ptr 208 0) 208 (.var [.d (.raw (.map none))])<|sS 208 (.var [.ptr 832 0]) ?_
 refine sN<|qS<|gU Z<|sM Z<|sE (rI (f.length:Int)) (sb _ _)<|sV (r0)<|sN<|bE h fun k H h=>F1 (F2 (WL.rG H (fun s=>gI 0 15 8 [(0,rI a0),(2,rM aa.pd a2),(8,.ptr 128 0),(9,.ptr 144 0),(12,.d (.lst (f.map (fun l=>PD.lst (l.map aa.pd))))),(13,.ptr 208 0),(53,.d (.lst (f.map (fun l=>PD.lst (l.map aa.pd))))),(54,rI (f.length:Int)),(55,rI s.1)] [(128,.var [rM aj.pd a3.a8]),(144,.var [rM aj.pd a4.a8]),(208,.var [.ptr 832 0]),(832,.map 70 3 (s.2.map fun e=>(aa.pd e.1,(PD.int .i64) e.2)))]) (fun o=>gX 1 0 15 16 [(0,rI a0),(2,rM aa.pd a2),(8,.ptr 128 0),(9,.ptr 144 0),(12,.d (.lst (f.map (fun l=>PD.lst (l.map aa.pd))))),(13,.ptr 208 0)] [(128,.var [rM aj.pd a3.a8]),(144,.var [rM aj.pd a4.a8]),(208,.var [.ptr 832 0]),(832,.map 70 3 (o.map fun e=>(aa.pd e.1,(PD.int .i64) e.2)))]) Z ?_ ?_))
 ·rintro⟨q,c0⟩ F E b4 j h
  refine gS Z j<|sF h ?_ ?_<;>intro h
  ·refine sN<|qS<|cT<|qK<|qS<|qB<|gU Z<|sM Z<|bE h fun B O h=>eG O Z<|sC Z<|sA Z<|sA Z<|sN<|gU Z ?_
   refine sM Z<|sE (rI (B.length:Int)) (sb _ _)<|sV (r0)<|sN<|bE h fun b0 G h=>F1 (F2 (WL.rG G (fun s=>gI 0 15 11 [(0,rI a0),(2,rM aa.pd a2),(8,.ptr 128 0),(9,.ptr 144 0),(12,.d (.lst (f.map (fun l=>PD.lst (l.map aa.pd))))),(13,.ptr 208 0),(14,rI q),(53,.d (.lst (f.map (fun l=>PD.lst (l.map aa.pd))))),(54,rI (f.length:Int)),(55,rI q),(60,rM aa.pd B),(61,rI (B.length:Int)),(62,rI s.1)] [(128,.var [rM aj.pd a3.a8]),(144,.var [rM aj.pd a4.a8]),(208,.var [.ptr 832 0]),(832,.map 70 3 (s.2.map fun e=>(aa.pd e.1,(PD.int .i64) e.2)))]) (fun o=>gX 3 0 15 15 [(0,rI a0),(2,rM aa.pd a2),(8,.ptr 128 0),(9,.ptr 144 0),(12,.d (.lst (f.map (fun l=>PD.lst (l.map aa.pd))))),(13,.ptr 208 0),(53,.d (.lst (f.map (fun l=>PD.lst (l.map aa.pd))))),(54,rI (f.length:Int)),(55,rI o.1)] [(128,.var [rM aj.pd a3.a8]),(144,.var [rM aj.pd a4.a8]),(208,.var [.ptr 832 0]),(832,.map 70 3 (o.2.map fun e=>(aa.pd e.1,(PD.int .i64) e.2)))]) Z ?_ ?_))
   ·rintro⟨b1,c1⟩ F E b5 j h
    refine gS Z j<|sF h ?_ ?_<;>intro h
    ·refine sN<|qS<|cT<|qK<|qS<|qB<|gU Z<|bE h fun C Q h=>eG Q Z<|sV (.d (aa.pd C))<|sB (.ptr 272 0) 272 (.var [rS [],rS [],rS [],rS [],r0,r0,r0,r0,r0])<|sH 272 (.var (aa.rc C))<|sN<|F4 Z Z<|sL Z ?_
     refine sV (.d (aa.pd C))<|sM Z<|sV (rI (rW (q+(1:Int))))<|WO.mput (gv:=(PD.int .i64)) (y:=(rW (q+(1:Int)))) keyT_70 Z Z Z Z Z Z Z Z Z Z<|sN<|F4 Z Z<|sV (rI (rW (b1+(1:Int))))<|sM Z<|sN ?_
     cases oI h
     exact⟨rfl,rfl⟩
    refine sN<|qS<|cF<|qX ?_
    cases oI h
    exact⟨nofun,rfl,rfl⟩
   intro e F E he J
   obtain⟨rfl,j⟩:=J
   refine qE<|F4 j Z<|sV (rI (rW (b0.1+(1:Int))))<|sM Z<|sN ?_
   cases oI h
   exact⟨rfl,rfl⟩
  refine sN<|qS<|cF<|qX ?_
  cases oI h
  exact⟨nofun,rfl,rfl⟩
 intro e F E he J
 obtain⟨rfl,j⟩:=J
 refine qE<|gS Z j<|sV .pY<|sN<|qS<|gU Z<|mM Z<|bE h fun D T h=>cD (jO T)<|sE (rI (D.length:Int)) (sb _ _)<|sV (r0)<|sN<|bE h fun b3 I h=>F1 (F2 (WL.rG I (fun s=>gI 0 15 18 [(8,.ptr 128 0),(9,.ptr 144 0),(12,.d (.lst (f.map (fun l=>PD.lst (l.map aa.pd))))),(13,.ptr 208 0),(18,.ref 1728 0),(74,.d (.lst (D.map (fun l=>PD.lst (l.map aa.pd))))),(75,rI (D.length:Int)),(76,rI s.1)] [(128,.var [rM aj.pd a3.a8]),(144,.var [rM aj.pd a4.a8]),(208,.var [.ptr 832 0]),(832,.map 70 3 (k.map fun e=>(aa.pd e.1,(PD.int .i64) e.2))),(1728,.arr 0 3 (s.2.map (PD.int .i64)))]) (fun o=>gX 5 0 15 25 [(18,.ref 1728 0)] [(1728,.arr 0 3 (o.map (PD.int .i64)))]) Z ?_ ?_))
 ·rintro⟨g,c2⟩ F E b6 j h
  refine gS Z j<|sF h ?_ ?_<;>intro h
  ·refine sN<|qS<|cT<|qK<|qS<|qB<|gU Z<|sM Z<|bE h fun K U h=>eG U Z<|sC Z<|sA Z<|sA Z<|sN<|F3 Z Z ?_
   refine sL Z<|sM Z<|bE h fun u W h=>eG W Z<|sV (.d (aa.pd u))<|WO.look (gv:=(PD.int .i64)) (z:=(0:Int)) keyT_70 Z Z Z Z Z Z Z Z<|sB (.ptr 336 0) 336 (.var [r0])<|sS 336 (.var [rI (uQ oB u (0:Int) k)]) ?_
   refine sN<|sO<|gU Z<|sV (.clo 47 [.ptr 208 0,.ptr 336 0,.ptr 128 0,.ptr 144 0])<|sA Z<|sN<|gU Z<|sL Z<|sF h ?_ ?_<;>intro h
   ·refine sM Z<|k3<|k3<|k3<|sT<|sM Z<|sK<|sK<|sK ?_
    refine sT<|sN<|cT<|F4 Z Z<|mM Z<|sV (.d (.lst ([g].map (PD.int .i64))))<|bE h fun c3 X h=>aR X (fun _=>Z) Z<|sA Z<|sN<|F4 Z Z<|sV (rI (rW (g+(1:Int))))<|sM Z<|sN ?_
    cases oI h
    exact⟨rfl,rfl⟩
   refine mM Z<|sL Z<|sV (rI (rW ((uQ oB u (0:Int) k)-(1:Int))))<|bE h fun L Y h=>eG Y Z<|sC Z<|sE (rI (L.length:Int)) (sb _ _)<|sM Z<|sE (rI (K.length:Int)) (sb _ _)<|sV (rB ((L.length:Int) != (K.length:Int)))<|sF h ?_ ?_<;>intro h
   ·refine sM Z<|k3<|sT<|sN<|cT<|F4 Z Z<|mM Z<|sV (.d (.lst ([g].map (PD.int .i64))))<|bE h fun c4 a5 h=>aR a5 (fun _=>Z) Z<|sA Z<|sN ?_
    refine F4 Z Z<|sV (rI (rW (g+(1:Int))))<|sM Z<|sN ?_
    cases oI h
    exact⟨rfl,rfl⟩
   refine mM Z<|sM Z<|bE h fun b2 a6 h=>cR (rB b2) [(208,.var [.ptr 832 0]),(336,.var [rI (uQ oB u (0:Int) k)]),(128,.var [rM aj.pd a3.a8]),(144,.var [rM aj.pd a4.a8]),(832,.map 70 3 (k.map fun e=>(aa.pd e.1,(PD.int .i64) e.2)))] (ce a6)<|sF h ?_ ?_<;>intro h
   ·refine sN<|cT<|F4 Z Z<|mM Z<|sV (.d (.lst ([g].map (PD.int .i64))))<|bE h fun c5 a9 h=>aR a9 (fun _=>Z) Z<|sA Z<|sN<|F4 Z Z<|sV (rI (rW (g+(1:Int))))<|sM Z<|sN ?_
    cases oI h
    exact⟨rfl,rfl⟩
   refine sN<|cF<|qK<|F4 Z Z<|sV (rI (rW (g+(1:Int))))<|sM Z<|sN ?_
   cases oI h
   exact⟨rfl,rfl⟩
  refine sN<|qS<|cF<|qX ?_
  cases oI h
  exact⟨nofun,rfl,rfl⟩
 intro e F E he J
 obtain⟨rfl,j⟩:=J
 refine qE<|gS Z j<|sM Z<|sA Z<|sV (r0)<|sN<|qR ?_
 exact oI h▸qD
theorem keyO_ev{a0:(List aa)}{r:List UInt8}(h:keyO a0=some r):EvP prog bj ext 41 [rM aa.pd a0] [] (rS r,[]):=Db (pa:=fun l=>.lst (l.map aa.pd)) rfl (fun x y h=>List.map_inj_right pz |>.1 (PD.lst.inj h)) h
section
attribute [local irreducible] HM HU HF HB WO WC QS QB tO
instance {a0:(List Int)}{a1:Int}:LI (eP a0 a1) 2 (fun s=>[(8,rI s)]) (fun s=>[]) (jY 7 (fun y=>[]) (fun y=>[]) Tryz.f79 fun r=>(rI r,[])):=⟨⟩
instance {a0:(List Int)}{a1:Int}:CE prog bj ext (mZ a0 a1) 79 [rL a0,rI a1] [] fun r=>(rI r,[]):=⟨fun h=>Ev.au h Tryz.func79⟩
instance {a0:(List Int)}{a1:Int}:CE prog bj ext (iA a0 a1) 42 [rL a0,rI a1] [] fun r=>(rB r,[]):=⟨fun h=>Ev.au h Tryz.func42⟩
instance {f:(List ar)}:LI (ie f) 3 (fun s=>[(19,rI s.1)]) (fun s=>[(192,.arr 0 122 (s.2.map ar.pd))]) (jX 7 (fun o=>[]) fun o=>[(192,.arr 0 122 (o.map ar.pd))]):=⟨⟩
instance {a0:bq}:CE prog bj ext (iU a0) 43 [.d (bq.pd a0)] [] fun r=>(.d (bq.pd r),[]):=⟨fun h=>Ev.au h Tryz.func43⟩
end
theorem iz{a0:av}{a1:ae}{a2:(List aa)}{r:av×(List Int)×Int}(h:er a0 a1 a2=some r):EvP prog bj ext 14 [.d (av.pd a0),.d (ae.pd a1),rM aa.pd a2] [] (.tup [.d (av.pd r.1),rL r.2.1,rI r.2.2],[]):=by
 refine Ev.body Z Tryz.func14 Z Zk<|gU Z<|sB (.ptr 48 0) 48 (.var (av.rc a0))<|sB (.ptr 64 0) 64 (.var [rM aj.pd a1.a8])<|sB (.ptr 96 0) 96 (.var zZ0)<|sV .pY<|sV (r0)<|sN<|gU Z<|sV (.ptr 48 0)<|sV (.d (ah.pd a0.bp))<|sV (.d (ae.pd a1))<|sM Z<|bE h fun j h1 h=>cR (.tup [.d (.lst (j.1.map (fun l=>PD.lst (l.map aa.pd)))),rI j.2]) [] (ce h1) ?_
 refine sM Z<|sV (.d (.lst (j.1.map (fun l=>PD.lst (l.map aa.pd)))))<|sV (rI j.2)<|sA Z<|sA Z<|sN<|qS<|gU Z<|sM Z<|sF h ?_ ?_<;>intro h
 ·refine sN<|cT<|gU Z<|sG (.agg zZ0)<|sM Z<|sH 96 (.var zZ0)<|sV .pY<|sA Z<|sN<|qR ?_
  cases oI h
  exact qG
 refine sN<|cF<|qK<|F3 Z Z<|sV (.ptr 48 0)<|sV (.ptr 48 0)<|sV (.ptr 48 11)<|sL Z<|sV (.d (av.pd a0))<|bE h fun x3 h3 h=>cD (ce h3)<|sM Z<|sV (.ptr 48 20)<|sV (.d (ae.pd a0.co))<|sV (.d (ae.pd a1)) ?_
 refine bE h fun q h4 h=>cR (.tup [rL q.1,rI q.2]) [] (ny h4)<|sM Z<|sV (rL q.1)<|sV (rI q.2)<|sA Z<|sA Z ?_
 refine sN<|sO<|qS<|gU Z<|sM Z<|sF h ?_ ?_<;>intro h
 ·refine sN<|cT<|gU Z<|sG (.agg zZ0)<|sM Z<|sH 96 (.var zZ0)<|sV .pY<|sA Z<|sN<|qR ?_
  cases oI h
  exact qG
 refine sN<|cF<|qK<|gU Z<|sB (.ptr 800 0) 800 (.map 9 61 (([]:List ((List UInt8)×bq)).map fun e=>(PD.str e.1,bq.pd e.2)))<|sA Z<|sN<|qS<|gU Z<|sV (.ptr 48 21)<|sL Z<|sE (rI (a0.bP.length:Int)) (sb _ _)<|sV (r0)<|sN<|bE h fun W B h=>?_
 refine F1 (F2 (WL.rG B (fun s=>gI 0 14 9 [(3,.ptr 48 0),(4,.ptr 64 0),(6,.ptr 96 0),(9,.d (.lst (j.1.map (fun l=>PD.lst (l.map aa.pd))))),(11,rL q.1),(12,.ptr 800 0),(52,rM bq.pd a0.bP),(53,rI (a0.bP.length:Int)),(54,rI s.1)] [(48,.var (av.rc a0)),(64,.var [rM aj.pd a1.a8]),(96,.var zZ0),(800,.map 9 61 (s.2.map fun e=>(PD.str e.1,bq.pd e.2)))]) (fun o=>gX 0 0 14 13 [(3,.ptr 48 0),(4,.ptr 64 0),(6,.ptr 96 0),(9,.d (.lst (j.1.map (fun l=>PD.lst (l.map aa.pd))))),(11,rL q.1),(12,.ptr 800 0)] [(48,.var (av.rc a0)),(64,.var [rM aj.pd a1.a8]),(96,.var zZ0),(800,.map 9 61 (o.map fun e=>(PD.str e.1,bq.pd e.2)))]) Z ?_ ?_))
 ·rintro⟨s6,s7⟩ G F q9 u h
  refine gS Z u<|sF h ?_ ?_<;>intro h
  ·refine sN<|qS<|cT<|qK<|qS<|qB<|gU Z<|bE h fun k H h=>eG H Z<|sV (.d (bq.pd k))<|sB (.ptr 224 0) 224 (.var [.pY,.pY,.pY])<|sS 224 (.var (bq.rc k))<|sN<|WC.sI Z Z<|sM Z ?_
   refine sV (.ptr 224 0)<|sL Z<|bE h fun b0 I h=>cD (keyO_ev I)<|sV (.d (bq.pd k))<|WO.mput (gv:=bq.pd) (y:=k) (KeyT.str Z) Z Z Z Z Z Z Z Z Z Z ?_
   refine sN<|sO<|F4 Z Z<|sV (rI (rW (s6+(1:Int))))<|sM Z<|sN ?_
   cases oI h
   exact⟨rfl,rfl⟩
  refine sN<|qS<|cF<|qX ?_
  cases oI h
  exact⟨nofun,rfl,rfl⟩
 intro e G F he E
 obtain⟨rfl,u⟩:=E
 refine qE<|gS Z u<|sV (.ptr 48 0)<|sV (.d (ah.pd a0.bp))<|sV (.d (ae.pd a1))<|bE h fun f J h=>cR (.agg (ah.rc f.bp++[rM aj.pd f.co.a8,.pY])) [] (mJ J)<|sB (.ptr 240 0) 240 (.var zZ0)<|sH 240 (.var (ah.rc f.bp++[rM aj.pd f.co.a8,.pY]))<|sN<|qS<|gU Z<|sM Z<|sE (rI (j.1.length:Int)) (sb _ _)<|sV (r0) ?_
 refine sN<|bE h fun X C h=>F1 (F2 (WL.rG C (fun s=>gI 0 14 15 [(3,.ptr 48 0),(4,.ptr 64 0),(6,.ptr 96 0),(11,rL q.1),(12,.ptr 800 0),(15,.ptr 240 0),(68,.d (.lst (j.1.map (fun l=>PD.lst (l.map aa.pd))))),(69,rI (j.1.length:Int)),(70,rI s.1)] [(48,.var (av.rc a0)),(64,.var [rM aj.pd a1.a8]),(96,.var zZ0),(240,.var (ah.rc f.bp++[rM aj.pd f.co.a8,.ref 90240 0])),(800,.map 9 61 (W.map fun e=>(PD.str e.1,bq.pd e.2))),(90240,.arr 0 61 (s.2.map bq.pd))]) (fun o=>match o with| .inl y=>gX 2 0 14 24 [(6,.ptr 96 0),(11,rL q.1),(15,.ptr 240 0)] [(96,.var zZ0),(240,.var (ah.rc f.bp++[rM aj.pd f.co.a8,.ref 90240 0])),(90240,.arr 0 61 (y.map bq.pd))]| .inr r=>gF 14 Tryz.f14 0 (.tup [.d (av.pd r.1),rL r.2.1,rI r.2.2],[])) Z ?_ ?_))
 ·rintro⟨D,a9⟩ G F a5 u h
  refine gS Z u<|sF h ?_ ?_<;>intro h
  ·refine sN<|qS<|cT<|qK<|qS<|qB<|gU Z<|sM Z<|bE h fun b1 K h=>eG K Z<|sC Z<|sA Z<|sA Z<|sN<|qS ?_
   refine gU Z<|mM Z<|bE h fun b2 L h=>cD (ce L)<|sF h ?_ ?_<;>intro h
   ·refine sN<|cT<|F3 Z Z<|sV (.ptr 240 21)<|sL Z<|mM Z<|bE h fun b3 N h=>cD (keyO_ev N)<|WO.look (gv:=bq.pd) (z:=(bq.mk [] [] [])) (KeyT.str Z) Z Z Z Z Z Z Z Z<|bE h fun Y O h=>cD (ce O)<|sV (.d (.lst ([Y].map bq.pd)))<|bE h fun b4 Q h=>aR Q (fun _=>Z) Z ?_
    refine sV (.ptr 240 21)<|sS 240 (.var (ah.rc f.bp++[rM aj.pd f.co.a8,.ref 90240 1])) ?_
    refine sN<|sO<|qX<|qE<|F4 Z Z<|sV (rI (rW (D+(1:Int))))<|sM Z<|sN ?_
    cases oI h
    exact⟨rfl,rfl⟩
   refine sN<|cF<|qK<|gU Z<|sV (.ptr 48 0)<|sV (.d (ah.pd a0.bp))<|sV (.d (ae.pd a1))<|sM Z<|bE h fun g T h=>cR (.tup [.d (bq.pd g.1),rI g.2]) [] (ce T)<|sM Z<|sV (.d (bq.pd g.1))<|sV (rI g.2)<|sB (.ptr 288 0) 288 (.var [.pY,.pY,.pY])<|sS 288 (.var (bq.rc g.1)) ?_
   refine sA Z<|sN<|qS<|gU Z<|sM Z<|sF h ?_ ?_<;>intro h
   ·refine sN<|cT<|gU Z<|sG (.agg zZ0)<|sM Z<|sH 96 (.var zZ0)<|sV .pY<|sA Z<|sN<|qR ?_
    cases oI h
    exact⟨nofun,rfl,rfl⟩
   refine sN<|cF<|qK<|F4 Z Z<|sV (.ptr 240 21)<|sL Z<|sV (.d (bq.pd g.1))<|sV (.d (.lst ([g.1].map bq.pd)))<|bE h fun b5 U h=>aR U (fun _=>Z) Z<|sV (.ptr 240 21)<|sS 240 (.var (ah.rc f.bp++[rM aj.pd f.co.a8,.ref 90240 1]))<|sN<|F4 Z Z<|sV (rI (rW (D+(1:Int)))) ?_
   refine sM Z<|sN ?_
   cases oI h
   exact⟨rfl,rfl⟩
  refine sN<|qS<|cF<|qX ?_
  cases oI h
  exact⟨nofun,rfl,rfl⟩
 intro e G F he E
 rcases X with b6|a6
 ·obtain⟨rfl,u⟩:=E
  refine qE<|gS Z u<|sV (.agg (ah.rc f.bp++[rM aj.pd f.co.a8,.ref 90240 0]))<|sM Z<|sH 96 (.var (ah.rc f.bp++[rM aj.pd f.co.a8,.ref 90240 0]))<|sA Z<|sV (r0)<|sN<|qR ?_
  cases oI h
  exact qG
 obtain⟨rfl,hf⟩:=E
 cases oI h
 exact hf
section
attribute [local irreducible] HM HU HF HB WO WC QS QB tO
instance {a0:(List Int)}{a1:(List Int)}:LI (nG a0 a1) 4 (fun s=>[(13,rI s)]) (fun s=>[]) (jY 9 (fun y=>[]) (fun y=>[]) Tryz.f16 fun r=>(rB r,[])):=⟨⟩
instance {a0:(List Int)}{a1:(List Int)}:CE prog bj ext (oC a0 a1) 16 [rL a0,rL a1] [] fun r=>(rB r,[]):=⟨fun h=>Ev.au h Tryz.func16⟩
instance {a0:ar}{a1:ar}:CE prog bj ext (eZ a0 a1) 59 [.d (ar.pd a0),.d (ar.pd a1)] [] fun r=>(rI r,[]):=⟨fun h=>Ev.au h Tryz.func59⟩
end
theorem jF{a1:Int}{a2:Int}{d0:(List ar)}{r:(List ar)}(h:dJ a1 a2 d0=some r):EvP prog bj ext 156 [.ref 0 0,rI a1,rI a2,.d (.raw (.func (.func 59) #[] #[]))] [.arr 0 122 (d0.map ar.pd)] (.tup [],[.arr 0 122 (r.map ar.pd)]):=by
 refine Ev.body Z Tryz.func156 Z Zk<|gU Z<|sM Z<|sV (rI (rW (a1+(1:Int))))<|sA Z<|sN<|bE h fun a5 q h=>?_
 cases oI h
 refine F1 (F2 (WL.uG q (fun s=>gI 1 156 1 [(0,.ref 0 0),(1,rI a1),(2,rI a2),(3,.d (.raw (.func (.func 59) #[] #[]))),(8,rI s.1)] [(0,.arr 0 122 (s.2.map ar.pd))]) Z ?_))
 rintro⟨s1,s2⟩ R' Y q3 j h
 refine qS<|gS Z j<|mM Z<|sF h ?_ ?_<;>intro h
 ·refine sN<|cT<|qK<|qS<|qB<|gU Z<|sM Z<|sA Z<|sN<|bE h fun T k h=>F1 (F2 (WL.rG k (fun s=>gI 1 156 4 [(0,.ref 0 0),(1,rI a1),(2,rI a2),(3,.d (.raw (.func (.func 59) #[] #[]))),(8,rI s1),(9,rI s.1)] [(0,.arr 0 122 (s.2.map ar.pd))]) (fun o=>gX 2 1 156 2 [(0,.ref 0 0),(1,rI a1),(2,rI a2),(3,.d (.raw (.func (.func 59) #[] #[]))),(8,rI o.1)] [(0,.arr 0 122 (o.2.map ar.pd))]) Z ?_ ?_))
  ·rintro⟨u,s6⟩ R' Y q9 j h
   refine qS<|F3 j Z<|mM Z<|sF h ?_ ?_<;>intro h
   ·refine mM Z<|mM Z<|bE h fun a6 B h=>WO.tD B Z Z Z Z Z Z Z Z<|bE h fun a9 C h=>WO.sY C Z Z Z Z Z Z<|mM Z<|sV (rI (rW (u-(1:Int))))<|bE h fun b0 D h=>WO.tD D Z Z Z Z Z Z Z Z<|bE h fun b1 E h=>WO.sY E Z Z Z Z Z Z ?_
    refine bE h fun U F h=>cD (ce F)<|sV (rB (decide (U<(0:Int))))<|sF h ?_ ?_<;>intro h
    ·refine sN<|sO<|cT<|qK<|qS<|qB<|WC.sI Z Z<|mM Z<|mM Z<|sV (rI (rW (u-(1:Int))))<|mM Z<|sV (rI (rW (u-(1:Int))))<|bE h fun b2 G h=>?_
     refine WO.tD G Z Z Z Z Z Z Z Z<|bE h fun W H h=>WO.sY H Z Z Z Z Z Z<|mM Z<|bE h fun b3 I h=>WO.tD I Z Z Z Z Z Z Z Z<|bE h fun X J h=>WO.sY J Z Z Z Z Z Z<|bE h fun b4 K h=>WO.tD K Z Z Z Z Z Z Z Z<|bE h fun b5 L h=>WO.vw (g:=ar.pd) (sz:=25) (p:=ar.pd W) L (by intro _;kernel_rfl) (by intro _;kernel_rfl) Z Z Z Z Z Z Z Z Z<|bE h fun b6 N h=>WO.tD N Z Z Z Z Z Z Z Z ?_
     refine bE h fun c0 O h=>WO.vw (g:=ar.pd) (sz:=25) (p:=ar.pd X) O (by intro _;kernel_rfl) (by intro _;kernel_rfl) Z Z Z Z Z Z Z Z Z ?_
     refine sN<|sO<|F4 Z Z<|sM Z<|sV (rI (rW (u-(1:Int))))<|sA Z<|sN ?_
     cases oI h
     exact⟨rfl,rfl⟩
    refine sN<|sO<|cF<|qX ?_
    cases oI h
    exact⟨nofun,rfl,rfl⟩
   refine sM Z<|k3<|k3<|k3<|k3<|sU ?_
   refine sN<|sO<|cF<|qX ?_
   cases oI h
   exact⟨nofun,rfl,rfl⟩
  intro e R' Y he hq
  obtain⟨rfl,j⟩:=hq
  refine qE<|F4 j Z<|sM Z<|sV (rI (rW (T.1+(1:Int))))<|sA Z<|sN ?_
  cases oI h
  exact⟨rfl,rfl⟩
 refine sN<|cF<|qX<|pe h (fun z33 f hz=>?_)
 obtain rfl:=Option.some.inj hz
 refine⟨(fun he=>by cases he),fun Q=>?_⟩
 subst Q
 have h:=f
 refine qE ?_
 exact oI h▸qD
theorem lg:∀(f:Nat){a1:Int}{a2:Int}{a3:Int}{d0:(List ar)}{r:(List ar)}(_:gC f a1 a2 a3 d0=some r),EvP prog bj ext 111 [.ref 0 0,rI a1,rI a2,rI a3,.d (.raw (.func (.func 59) #[] #[]))] [.arr 0 122 (d0.map ar.pd)] (.tup [],[.arr 0 122 (r.map ar.pd)])
  |0,_,_,_,_,_,h=>by cases h
  |f+1,a1,a2,a3,d0,r,h=>by
   refine Ev.body Z Tryz.func111 Z Zk<|gU Z<|sT<|sN<|gU Z<|sT<|sN<|bE h fun D g h=>F1 (F2 (WL.rG g (fun s=>gI 1 111 2 [(0,.ref 0 0),(1,rI a1),(2,rI a2),(3,rI a3),(4,.d (.raw (.func (.func 59) #[] #[]))),(10,rB true),(11,rB true)] [(0,.arr 0 122 (d0.map ar.pd))]) (fun o=>gF 111 Tryz.f111 1 (.tup [],[.arr 0 122 (o.map ar.pd)])) Z ?_ ?_))
   ·rintro⟨⟩ k j E u h
    refine qB<|gS Z u<|mM Z<|sV (rI (rW (a2-a1)))<|sA Z<|sN<|qS<|gU Z<|sM Z<|sF h ?_ ?_<;>intro h
    ·refine sN<|cT<|gU Z<|mM Z<|mM Z<|bE h fun C q h=>cR (.tup []) [(0,.arr 0 122 (C.map ar.pd))] (jF q)<|sN<|qR ?_
     cases oI h
     exact⟨nofun,rfl,rfl⟩
    refine sN<|cF<|qK<|qS<|gU Z<|sM Z<|sF h ?_ ?_<;>intro h
    ·refine sN<|cT<|gU Z<|mM Z<|sM Z<|sM Z ?_
     cases h
    refine sN<|cF<|qK<|qS<|gU Z<|sM Z<|sU<|sN<|cF<|qK<|gU Z<|mM Z<|sM Z<|sM Z ?_
    cases h
   intro e k j he B
   obtain⟨rfl,hf⟩:=B
   cases oI h
   exact hf
theorem lz{a1:Int}{a2:Int}{a3:Int}{d0:(List ar)}{r:(List ar)}(h:cV a1 a2 a3 d0=some r):EvP prog bj ext 111 [.ref 0 0,rI a1,rI a2,rI a3,.d (.raw (.func (.func 59) #[] #[]))] [.arr 0 122 (d0.map ar.pd)] (.tup [],[.arr 0 122 (r.map ar.pd)]):=
  let⟨n,f⟩:=AX h;lg n f
instance {a1:Int}{a2:Int}{a3:Int}{d0:(List ar)}:CE prog bj ext (cV a1 a2 a3 d0) 111 [.ref 0 0,rI a1,rI a2,rI a3,.d (.raw (.func (.func 59) #[] #[]))] [.arr 0 122 (d0.map ar.pd)] fun r=>(.tup [],[.arr 0 122 (r.map ar.pd)]):=⟨fun h=>lz h⟩
section
attribute [local irreducible] HM HU HF HB WO WC QS QB tO
instance {d0:(List ar)}:CE prog bj ext (eF d0) 55 [.ref 0 0,.d (.raw (.func (.func 59) #[] #[]))] [.arr 0 122 (d0.map ar.pd)] fun r=>(.tup [],[.arr 0 122 (r.map ar.pd)]):=⟨fun h=>Ev.au h Tryz.func55⟩
instance {a0:av}:LI (iy a0) 3 (fun s=>[(9,rI s.1)]) (fun s=>[(272,.arr 0 122 (s.2.map ar.pd))]) (jX 7 (fun o=>[]) fun o=>[(272,.arr 0 122 (o.map ar.pd))]):=⟨⟩
instance {a0:av}:CE prog bj ext (iR a0) 24 [.d (av.pd a0)] [] fun r=>(rM ar.pd r,[]):=⟨fun h=>Ev.au h Tryz.func24⟩
instance {a0:bg}{a1:bg}:LI (eK a0 a1) 4 (fun s=>[(5,rI s)]) (fun s=>[]) (jY 8 (fun y=>[]) (fun y=>[]) Tryz.f222 fun r=>(rB r,[])):=⟨⟩
instance {a0:bg}{a1:bg}:CE prog bj ext (lJ a0 a1) 222 [.d (bg.pd a0),.d (bg.pd a1)] [] fun r=>(rB r,[]):=⟨fun h=>Ev.au h Tryz.func222⟩
instance {a0:bu}{a1:bu}:LI (jM a0 a1) 4 (fun s=>[(5,rI s)]) (fun s=>[]) (jY 8 (fun y=>[]) (fun y=>[]) Tryz.f166 fun r=>(rB r,[])):=⟨⟩
instance {a0:bu}{a1:bu}:CE prog bj ext (oZ a0 a1) 166 [.d (bu.pd a0),.d (bu.pd a1)] [] fun r=>(rB r,[]):=⟨fun h=>Ev.au h Tryz.func166⟩
instance {a0:az}{a1:az}:CE prog bj ext (lK a0 a1) 113 [.d (az.pd a0),.d (az.pd a1)] [] fun r=>(rB r,[]):=⟨fun h=>Ev.au h Tryz.func113⟩
instance {a0:ae}{a1:ae}:LI (iM a0 a1) 4 (fun s=>[(5,rI s)]) (fun s=>[]) (jY 14 (fun y=>[]) (fun y=>[]) Tryz.f57 fun r=>(rB r,[])):=⟨⟩
instance {f:aj}{g:aj}{s2:Int}:LI (mB f g s2) 10 (fun s=>[(8,rI s)]) (fun s=>[]) (jY 5 (fun y=>[(5,rI y)]) (fun y=>[]) Tryz.f57 fun r=>(rB r,[])):=⟨⟩
instance {a0:ae}{a1:ae}:CE prog bj ext (nY a0 a1) 57 [.d (ae.pd a0),.d (ae.pd a1)] [] fun r=>(rB r,[]):=⟨fun h=>Ev.au h Tryz.func57⟩
instance {a0:(List Int)}{a1:(List Int)}:LI (jN a0 a1) 4 (fun s=>[(5,rI s)]) (fun s=>[]) (jY 8 (fun y=>[]) (fun y=>[]) Tryz.f167 fun r=>(rB r,[])):=⟨⟩
instance {a0:(List Int)}{a1:(List Int)}:CE prog bj ext (n5 a0 a1) 167 [rL a0,rL a1] [] fun r=>(rB r,[]):=⟨fun h=>Ev.au h Tryz.func167⟩
instance {a0:bc}{a1:bc}:CE prog bj ext (jC a0 a1) 114 [.d (bc.pd a0),.d (bc.pd a1)] [] fun r=>(rB r,[]):=⟨fun h=>Ev.au h Tryz.func114⟩
instance {a0:ah}{a1:ah}:CE prog bj ext (gr a0 a1) 58 [.d (ah.pd a0),.d (ah.pd a1)] [] fun r=>(rB r,[]):=⟨fun h=>Ev.au h Tryz.func58⟩
end
theorem fe{a0:(List aa)}{a1:(List aa)}{r:Bool}(h:cB a0 a1=some r):EvP prog bj ext 18 [rM aa.pd a0,rM aa.pd a1] [] (rB r,[]):=by
 refine Ev.body Z Tryz.func18 Z Zk<|gU Z<|sU<|sN<|qS<|gU Z<|sM Z<|sE (rI (a0.length:Int)) (sb _ _)<|sM Z<|sE (rI (a1.length:Int)) (sb _ _)<|sF h ?_ ?_<;>intro h
 ·refine sN<|cT<|gU Z<|sU<|sN<|qR ?_
  exact oI h▸qD
 refine sN<|cF<|qK<|qS<|gU Z<|sV (r0)<|sN<|bE h fun F j h=>F1 (F2 (WL.rG j (fun s=>gI 0 18 4 [(0,rM aa.pd a0),(1,rM aa.pd a1),(5,rI s)] []) (fun o=>match o with| .inl y=>gX 0 0 18 8 [] []| .inr r=>gF 18 Tryz.f18 0 (rB r,[])) Z ?_ ?_))
 ·rintro s2 C B I g h
  refine qS<|gS Z g<|mM Z<|sE (rI (a0.length:Int)) (sb _ _)<|sF h ?_ ?_<;>intro h
  ·refine sN<|cT<|qK<|qS<|qB<|F3 Z Z<|mM Z<|bE h fun k D h=>eG D Z<|sV (.d (aa.pd k))<|mM Z<|bE h fun q E h=>eG E Z ?_
   refine sV (.d (aa.pd q))<|tU h (fun f h=>?_) (fun f h=>?_)
   ·refine WO.zp (eqN_70 k q) f Z Z Z Z Z ?_
    refine sN<|sO<|cT<|gU Z<|sU<|sN<|qR ?_
    cases oI h
    exact⟨nofun,rfl,rfl⟩
   refine WO.zp (eqN_70 k q) f Z Z Z Z Z ?_
   refine sN<|sO<|cF<|qK<|F4 Z Z<|sM Z<|sV (rI (rW (s2+(1:Int))))<|sA Z<|sN ?_
   cases oI h
   exact⟨rfl,rfl⟩
  refine sN<|cF<|qX ?_
  cases oI h
  exact⟨nofun,rfl,rfl⟩
 intro e C B he u
 rcases F with H|G
 ·obtain⟨rfl,g⟩:=u
  refine qE<|gS Z g<|sT<|sN<|qR ?_
  exact oI h▸qD
 obtain⟨rfl,hf⟩:=u
 cases oI h
 exact hf
instance {a0:(List aa)}{a1:(List aa)}:CE prog bj ext (cB a0 a1) 18 [rM aa.pd a0,rM aa.pd a1] [] fun r=>(rB r,[]):=⟨fun h=>fe h⟩
section
attribute [local irreducible] HM HU HF HB WO WC QS QB tO
instance {a0:bH}{a1:bH}:CE prog bj ext (o0 a0 a1) 50 [.d (bH.pd a0),.d (bH.pd a1)] [] fun r=>(rB r,[]):=⟨fun h=>Ev.au h Tryz.func50⟩
instance {a0:(List ar)}{a1:(List ar)}:LI (iN a0 a1) 4 (fun s=>[(5,rI s)]) (fun s=>[]) (jY 8 (fun y=>[]) (fun y=>[]) Tryz.f19 fun r=>(rB r,[])):=⟨⟩
instance {a0:(List ar)}{a1:(List ar)}:CE prog bj ext (lQ a0 a1) 19 [rM ar.pd a0,rM ar.pd a1] [] fun r=>(rB r,[]):=⟨fun h=>Ev.au h Tryz.func19⟩
instance {a0:av}{a1:av}:LI (iP a0 a1) 4 (fun s=>[(5,rI s)]) (fun s=>[]) (jY 9 (fun y=>[]) (fun y=>[]) Tryz.f23 fun r=>(rB r,[])):=⟨⟩
instance {a0:av}{a1:av}:CE prog bj ext (n4 a0 a1) 23 [.d (av.pd a0),.d (av.pd a1)] [] fun r=>(rB r,[]):=⟨fun h=>Ev.au h Tryz.func23⟩
end
theorem nV{r:Bool}(h:lW=some r):EvP prog bj ext 20 [] [] (rB r,[]):=by
 refine Ev.body Z Tryz.func20 Z Zk<|gU Z<|sU<|sN<|gU Z<|bE h fun J h1 h=>cR (.ptr 176 0) [(176,.var (ai.rc J))] (ce h1)<|sA Z<|sN<|gU Z<|sM Z<|bE h fun q D h=>cR (.d (ah.pd q.1)) [(176,.var (ai.rc q.2))] (ce D)<|sM Z<|bE h fun k E h=>?_
 refine cR (.d (ae.pd k.1)) [(176,.var (ai.rc k.2))] (ce E)<|sB (.ptr 32 0) 32 (.var [r0,r0,r0,r0,r0,r0,r0,.pY,.pY,r0,r0,r0,r0,r0,r0,.pY,.pY,r0,r0,r0])<|sB (.ptr 48 0) 48 (.var [.pY])<|sH 32 (.var (ah.rc q.1))<|sS 48 (.var [rM aj.pd k.1.a8])<|sN<|gU Z<|bE h fun f F h=>cD (ce F)<|sG (.d (aa.pd (aa.mk f 2500 2500 2500 10 0)))<|sB (.ptr 64 0) 64 (.var [rS [],rS [],rS [],rS [],r0,r0,r0,r0,r0])<|sH 64 (.var (bi.rc f++[rI 2500,rI 2500,rI 2500,rI 10,r0]))<|sN<|gU Z<|sV (.d (aa.pd (aa.mk f 2500 2500 2500 10 0))) ?_
 refine sB (.ptr 80 0) 80 (.var [rS [],rS [],rS [],rS [],r0,r0,r0,r0,r0])<|sH 80 (.var (bi.rc f++[rI 2500,rI 2500,rI 2500,rI 10,r0]))<|sN<|gU Z<|sV (.ptr 80 7)<|sS 80 (.var (bi.rc f++[rI 2500,rI 2500,rI 2500,rI 11,r0]))<|sN<|gU Z<|sV (.d (ah.pd q.1))<|sV (.d (.agg [.lst (k.1.a8.map aj.pd)]))<|sV (.d (aa.pd (aa.mk f 2500 2500 2500 10 0)))<|sV (.d (aa.pd (aa.mk f 2500 2500 2500 11 0)))<|sG (.d (.lst ([(aa.mk f 2500 2500 2500 10 0),(aa.mk f 2500 2500 2500 11 0)].map aa.pd)))<|bE h fun j G h=>cR (.tup [.d (av.pd j.1),rI j.2]) [] (iT G) ?_
 refine sM Z<|sV (.d (av.pd j.1))<|sV (rI j.2)<|sB (.ptr 96 0) 96 (.var zZ0)<|sH 96 (.var (av.rc j.1))<|sA Z<|sN<|gU Z<|sV (.d (av.pd j.1))<|sV (.d (.agg [.lst (k.1.a8.map aj.pd)]))<|sV (.d (aa.pd (aa.mk f 2500 2500 2500 11 0)))<|sV (.d (aa.pd (aa.mk f 2500 2500 2500 10 0)))<|sG (.d (.lst ([(aa.mk f 2500 2500 2500 11 0),(aa.mk f 2500 2500 2500 10 0)].map aa.pd)))<|bE h fun g H h=>cR (.tup [.d (av.pd g.1),rL g.2.1,rI g.2.2]) [] (iz H) ?_
 refine sM Z<|sV (.d (av.pd g.1))<|sV (rL g.2.1)<|sV (rI g.2.2)<|sB (.ptr 128 0) 128 (.var zZ0)<|sH 128 (.var (av.rc g.1))<|sA Z<|sA Z<|sN<|gU Z<|sM Z<|sF h ?_ ?_<;>intro h
 ·refine sM Z<|sV (.d (av.pd j.1))<|bE h fun C I h=>cD (ce I)<|sE (rI (C.length:Int)) (sb _ _)<|sV (rB ((C.length:Int)==(1:Int)))<|sF h ?_ ?_<;>intro h
  ·refine mM Z<|sV (rB (g.2.2==(0:Int)))<|sF h ?_ ?_<;>intro h
   ·refine mM Z<|sE (rI (g.2.1.length:Int)) (sb _ _)<|sV (rB ((g.2.1.length:Int)==(0:Int)))<|sF h ?_ ?_<;>intro h
    ·refine sM Z<|sV (.d (av.pd j.1))<|sV (.d (av.pd g.1))<|bE h fun B u h=>cD (ce u)<|sV (rB B)<|sA Z<|sN<|qR ?_
     cases oI h
     exact qG
    refine sM Z<|k3<|sU<|sA Z<|sN<|qR ?_
    cases oI h
    exact qG
   refine sM Z<|k3<|sU<|sM Z<|k3<|sU<|sA Z<|sN<|qR ?_
   cases oI h
   exact qG
  refine sM Z<|sK<|sK<|sU<|sM Z<|k3<|sU<|sM Z<|k3<|sU<|sA Z ?_
  refine sN<|qR ?_
  cases oI h
  exact qG
 refine sM Z<|k3<|sK<|sU<|sM Z<|sK<|sK<|sU<|sM Z<|k3<|sU ?_
 refine sM Z<|k3<|sU<|sA Z<|sN<|qR ?_
 cases oI h
 exact qG
section
attribute [local irreducible] HM HU HF HB WO WC QS QB tO
instance {a1:(List aa)}:LI (mO a1) 3 (fun s=>[(11,rI s.1)]) (fun s=>[(0,.var [rL s.2.1,rI s.2.2.1]),(368,.arr 0 70 (s.2.2.2.map aa.pd))]) (jX 8 (fun o=>[]) fun o=>[(0,.var [rL o.1,rI o.2.1]),(368,.arr 0 70 (o.2.2.map aa.pd))]):=⟨⟩
instance {a1:(List aa)}{a2:(List aa)}{d0:ai}:CE prog bj ext (md a1 a2 d0) 10 [.ptr 0 0,rM aa.pd a1,rM aa.pd a2] [.var (ai.rc d0)] fun r=>(rM aa.pd r.1,[.var (ai.rc r.2)]):=⟨fun h=>Ev.au h Tryz.func10⟩
instance {a1:ae}:LI (mc a1) 3 (fun s=>[(12,rI s.1)]) (fun s=>[(0,.var [rL s.2.1,rI s.2.2.1]),(1536,.arr 0 93 (s.2.2.2.map aj.pd))]) (jX 20 (fun o=>[]) fun o=>[(0,.var [rL o.1,rI o.2.1]),(1536,.arr 0 93 (o.2.2.map aj.pd))]):=⟨⟩
instance {a1:ae}{d0:ai}:CE prog bj ext (lk a1 d0) 12 [.ptr 0 0,.d (ae.pd a1)] [.var (ai.rc d0)] fun r=>(.d (ae.pd r.1),[.var (ai.rc r.2)]):=⟨fun h=>Ev.au h Tryz.func12⟩
end
theorem keep_In_ev{a0:(List Int)}{a1:Int}{r:Bool}(h:qh a0 a1=some r):EvP prog bj ext 17 [rL a0,rI a1] [] (rB r,[]):=by
 refine Ev.body Z Tryz.func17 Z Zk<|gU Z<|sU<|sN<|qS<|gU Z<|sM Z<|sE (rI (a0.length:Int)) (sb _ _)<|sV (r0)<|sN<|bE h fun B g h=>F1 (F2 (WL.rG g (fun s=>gI 0 17 2 [(0,rL a0),(1,rI a1),(7,rI (a0.length:Int)),(8,rI s)] []) (fun o=>match o with| .inl y=>gX 0 0 17 7 [] []| .inr r=>gF 17 Tryz.f17 0 (rB r,[])) Z ?_ ?_))
 ·rintro s1 q k C f h
  refine gS Z f<|sF h ?_ ?_<;>intro h
  ·refine sN<|qS<|cT<|qK<|qS<|qB<|gU Z<|sM Z<|sA Z<|sN<|gU Z<|mM Z<|bE h fun E u h=>eG u Z ?_
   refine sC Z<|sM Z<|sF h ?_ ?_<;>intro h
   ·refine sN<|cT<|gU Z<|sT<|sN<|qR ?_
    cases oI h
    exact⟨nofun,rfl,rfl⟩
   refine sN<|cF<|qK<|F4 Z Z<|sV (rI (rW (s1+(1:Int))))<|sM Z<|sN ?_
   cases oI h
   exact⟨rfl,rfl⟩
  refine sN<|qS<|cF<|qX ?_
  cases oI h
  exact⟨nofun,rfl,rfl⟩
 intro e q k he j
 rcases B with F|D
 ·obtain⟨rfl,f⟩:=j
  refine qE<|gS Z f<|sU<|sN<|qR ?_
  exact oI h▸qD
 obtain⟨rfl,hf⟩:=j
 cases oI h
 exact hf
theorem n8{a0:(List Int)}{r:Bool}(h:jm a0=some r):EvP prog bj ext 3 [rL a0] [] (rB r,[]):=by
 refine Ev.body Z Tryz.func3 Z Zk<|gU Z<|sU<|sN<|gU Z<|sM Z<|bE h fun x1 h1 h=>cR (.ptr 336 0) [(336,.var (ai.rc x1))] (ce h1)<|sA Z<|sN<|gU Z<|sM Z<|bE h fun F h2 h=>cR (.d (ah.pd F.1)) [(336,.var (ai.rc F.2))] (ce h2)<|sM Z ?_
 refine bE h fun g h3 h=>cR (.d (ae.pd g.1)) [(336,.var (ai.rc g.2))] (ce h3)<|sB (.ptr 64 0) 64 (.var [r0,r0,r0,r0,r0,r0,r0,.pY,.pY,r0,r0,r0,r0,r0,r0,.pY,.pY,r0,r0,r0])<|sB (.ptr 80 0) 80 (.var [.pY])<|sH 64 (.var (ah.rc F.1))<|sS 80 (.var [rM aj.pd g.1.a8])<|sN<|gU Z<|sM Z<|sV (.d (ah.pd F.1))<|sV (.d (.agg [.lst (g.1.a8.map aj.pd)]))<|bE h fun Y h4 h=>cR (rM aa.pd Y.1) [(336,.var (ai.rc Y.2))] (ce h4)<|sA Z<|sN ?_
 refine gU Z<|mM Z<|sM Z<|sV (.d (ah.pd F.1))<|sV (.d (.agg [.lst (g.1.a8.map aj.pd)]))<|bE h fun x5 h5 h=>cR (rM aa.pd x5.1) [(336,.var (ai.rc x5.2))] (ce h5)<|bE h fun x6 h6 h=>cR (rM aa.pd x6.1) [(336,.var (ai.rc x6.2))] (ce h6)<|sA Z<|sN<|gU Z<|sV (.d (.agg [.lst (g.1.a8.map aj.pd)]))<|sB (.ptr 128 0) 128 (.var [.pY]) ?_
 refine sS 128 (.var [rM aj.pd g.1.a8])<|sN<|WC.join (α:=(List aj)) (fun x J I=>ry prog 0 (A J I) (bj.at_ 3 0 8)=some (A [(4,.ptr 64 0),(5,.ptr 80 0),(6,rM aa.pd Y.1),(7,rM aa.pd x6.1),(8,.ptr 128 0)] [(64,.var (ah.rc F.1)),(80,.var [rM aj.pd g.1.a8]),(128,.var [rM aj.pd x])])) (fun x=>dD F g Y x6 x=some r) ?_ ?_
 ·refine gU Z<|sM Z<|bE h fun W b6 h=>cR (rI W.1) [(336,.var (ai.rc W.2))] (ce b6)<|sF h ?_ ?_<;>intro h
  ·exact sN<|cT<|F4 rfl rfl<|sM rfl<|sV (.d (.agg [.lst (g.1.a8.map aj.pd)]))<|bE h fun E c0 h=>cR (.d (ae.pd E.1)) [(336,.var (ai.rc E.2))] (ce c0)<|sS 128 (.var [rM aj.pd E.1.a8])<|sN<|⟨E.1.a8,rfl,h⟩
  exact sN<|cF<|qK<|⟨g.1.a8,rfl,h⟩
 rintro j7 J I C h
 refine gS Z C<|sV (.d (ah.pd F.1))<|sV (.d (.agg [.lst (g.1.a8.map aj.pd)]))<|sM Z<|bE h fun j h8 h=>cR (.tup [.d (av.pd j.1),rI j.2]) [] (iT h8)<|sM Z<|sV (.d (av.pd j.1))<|sV (rI j.2)<|sB (.ptr 144 0) 144 (.var zZ0)<|sH 144 (.var (av.rc j.1))<|sA Z<|sN<|gU Z<|sV (.d (av.pd j.1)) ?_
 refine sV (.d (ae.pd (ae.mk j7)))<|sM Z<|bE h fun f h9 h=>cR (.tup [.d (av.pd f.1),rL f.2.1,rI f.2.2]) [] (iz h9)<|sM Z<|sV (.d (av.pd f.1))<|sV (rL f.2.1)<|sV (rI f.2.2)<|sB (.ptr 176 0) 176 (.var zZ0)<|sH 176 (.var (av.rc f.1))<|sA Z<|sA Z<|sN<|gU Z<|sV (.ptr 64 0) ?_
 refine sV (.ptr 64 11)<|sL Z<|mM Z<|sV (.d (.agg [.lst (g.1.a8.map aj.pd)]))<|sV (.d (ae.pd (ae.mk j7)))<|bE h fun B a5 h=>cR (.tup [rL B.1,rI B.2]) [] (ny a5)<|sM Z<|sV (rL B.1)<|sV (rI B.2)<|sA Z<|sA Z<|sN<|qS ?_
 refine gU Z<|sM Z<|sF h ?_ ?_<;>intro h
 ·refine sM Z<|sK<|sK<|sT<|sM Z<|sK<|sK<|sT<|sM Z<|k3<|sK<|sT<|sN ?_
  refine cT<|gU Z<|sU<|sN<|qR ?_
  cases oI h
  exact qG
 refine mM Z<|sV (rB (f.2.2 != (0:Int)))<|sF h ?_ ?_<;>intro h
 ·refine sM Z<|sK<|sK<|sT<|sM Z<|k3<|sK<|sT<|sN<|cT<|gU Z<|sU<|sN ?_
  refine qR ?_
  cases oI h
  exact qG
 refine mM Z<|sV (rB (B.2 != (0:Int)))<|sF h ?_ ?_<;>intro h
 ·refine sM Z<|k3<|sK<|sT<|sN<|cT<|gU Z<|sU<|sN<|qR ?_
  cases oI h
  exact qG
 refine mM Z<|sM Z<|bE h fun c3 a6 h=>cD (ce a6)<|sV (rB (!c3))<|sF h ?_ ?_<;>intro h
 ·refine sN<|cT<|gU Z<|sU<|sN<|qR ?_
  cases oI h
  exact qG
 refine sN<|cF<|qK<|qS<|gU Z<|sV (.ptr 176 21)<|sL Z<|sE (rI (f.1.bP.length:Int)) (sb _ _)<|sV (r0)<|sN<|bE h fun c2 O h=>F1 (F2 (WL.rG O (fun s=>gI 0 3 14 [(9,.ptr 144 0),(11,.ptr 176 0),(12,rL f.2.1),(88,rI (f.1.bP.length:Int)),(89,rI s)] [(144,.var (av.rc j.1)),(176,.var (av.rc f.1))]) (fun o=>match o with| .inl y=>gX 0 0 3 26 [] []| .inr r=>gF 3 Tryz.f3 0 (rB r,[])) Z ?_ ?_))
 ·rintro G J I c5 C h
  refine gS Z C<|sF h ?_ ?_<;>intro h
  ·refine sN<|qS<|cT<|qK<|qS<|qB<|gU Z<|sM Z<|sA Z<|sN<|qS<|gU Z<|mM Z<|bE h fun d0 K h=>?_
   refine tU h (fun k h=>?_) (fun k h=>?_)
   ·refine WO.yd (v:=rB true) (u:=[]) Z Z (fun _=>Z) Z Z Z Z Z (keep_In_ev K) Z Z (congrArg (fun b=>RV.d (.bool b)) k) Z<|sN<|cT<|qX<|qE<|F4 Z Z<|sV (rI (rW (G+(1:Int))))<|sM Z<|sN ?_
    cases oI h
    exact⟨rfl,rfl⟩
   refine WO.yd (v:=rB false) (u:=[]) Z Z (fun _=>Z) Z Z Z Z Z (keep_In_ev K) Z Z (congrArg (fun b=>RV.d (.bool b)) k) Z<|sN<|cF<|qK<|gU Z<|sU<|sN<|qS<|gU Z<|sV (.ptr 144 21)<|sL Z<|sE (rI (j.1.bP.length:Int)) (sb _ _)<|sV (r0)<|sN<|bE h fun c1 N h=>?_
   refine F1 (F2 (WL.rG N (fun s=>gI 0 3 19 [(9,.ptr 144 0),(11,.ptr 176 0),(12,rL f.2.1),(16,rI G),(17,rB s.1),(88,rI (f.1.bP.length:Int)),(89,rI G),(96,rM bq.pd j.1.bP),(97,rI (j.1.bP.length:Int)),(98,rI s.2)] [(144,.var (av.rc j.1)),(176,.var (av.rc f.1))]) (fun o=>gX 2 0 3 23 [(9,.ptr 144 0),(11,.ptr 176 0),(12,rL f.2.1),(17,rB o.1),(88,rI (f.1.bP.length:Int)),(89,rI o.2)] [(144,.var (av.rc j.1)),(176,.var (av.rc f.1))]) Z ?_ ?_))
   ·rintro⟨c8,D⟩ J I c6 C h
    refine gS Z C<|sF h ?_ ?_<;>intro h
    ·refine sN<|qS<|cT<|qK<|qS<|qB<|gU Z<|bE h fun Q a9 h=>eG a9 Z<|sV (.d (bq.pd Q))<|sB (.ptr 304 0) 304 (.var [.pY,.pY,.pY])<|sS 304 (.var (bq.rc Q))<|sN<|WC.sI Z Z<|sF h ?_ ?_<;>intro h
     ·refine sM Z<|k3<|k3<|k3<|k3<|sK<|sK ?_
      refine k3<|k3<|k3<|k3<|sK<|sK<|sK ?_
      refine sK<|sK<|sT<|sA Z ?_
      refine sN<|sO<|F4 Z Z<|sV (rI (rW (D+(1:Int))))<|sM Z<|sN ?_
      cases oI h
      exact⟨rfl,rfl⟩
     refine sM Z<|sV (.ptr 304 0)<|sL Z<|sV (.ptr 176 21)<|sL Z<|sM Z<|bE h fun H b0 h=>eG b0 Z<|sV (.cptr [.lst (H.ew.map aa.pd),.lst (H.gx.map ar.pd),.lst (H.pp.map aa.pd)])<|sC Z<|bE h fun d1 L h=>tU h (fun q h=>?_) (fun q h=>?_)
     ·refine WO.yd (v:=rB true) (u:=[]) Z Z (fun _=>Z) Z Z Z Z Z (fe L) Z Z (congrArg (fun b=>RV.d (.bool b)) q) Z<|sM Z<|sV (.ptr 304 1)<|sL Z<|sV (.ptr 176 21)<|sL Z<|sM Z<|bE h fun T b1 h=>eG b1 Z<|sV (.cptr [.lst (T.gx.map ar.pd),.lst (T.pp.map aa.pd)])<|sC Z<|bE h fun d2 b2 h=>cD (ce b2)<|sF h ?_ ?_<;>intro h
      ·refine sM Z<|sV (.ptr 304 2)<|sL Z<|sV (.ptr 176 21)<|sL Z<|sM Z<|bE h fun c4 b3 h=>eG b3 Z<|sV (.cptr [.lst (c4.pp.map aa.pd)])<|sC Z<|bE h fun U b4 h=>cD (fe b4)<|sV (rB U)<|sV (rB U)<|sA Z ?_
       refine sN<|sO<|F4 Z Z<|sV (rI (rW (D+(1:Int))))<|sM Z<|sN ?_
       cases oI h
       exact⟨rfl,rfl⟩
      refine sM Z<|k3<|k3<|k3<|sU<|sU<|sA Z ?_
      refine sN<|sO<|F4 Z Z<|sV (rI (rW (D+(1:Int))))<|sM Z<|sN ?_
      cases oI h
      exact⟨rfl,rfl⟩
     refine WO.yd (v:=rB false) (u:=[]) Z Z (fun _=>Z) Z Z Z Z Z (fe L) Z Z (congrArg (fun b=>RV.d (.bool b)) q) Z<|sM Z<|k3<|k3<|k3<|sU<|sM Z<|sK<|sK ?_
     refine k3<|k3<|sK<|sU<|sU<|sA Z ?_
     refine sN<|sO<|F4 Z Z<|sV (rI (rW (D+(1:Int))))<|sM Z<|sN ?_
     cases oI h
     exact⟨rfl,rfl⟩
    refine sN<|qS<|cF<|qX ?_
    cases oI h
    exact⟨nofun,rfl,rfl⟩
   intro e J I he X
   obtain⟨rfl,C⟩:=X
   refine qE<|gS Z C<|sM Z<|sF h ?_ ?_<;>intro h
   ·refine sN<|cT<|gU Z<|sU<|sN<|qR ?_
    cases oI h
    exact⟨nofun,rfl,rfl⟩
   refine sN<|cF<|qK<|F4 Z Z<|sV (rI (rW (c1.2+(1:Int))))<|sM Z<|sN ?_
   cases oI h
   exact⟨rfl,rfl⟩
  refine sN<|qS<|cF<|qX ?_
  cases oI h
  exact⟨nofun,rfl,rfl⟩
 intro e J I he X
 rcases c2 with d4|c7
 ·obtain⟨rfl,C⟩:=X
  refine qE<|gS Z C<|bE h fun d3 b5 h=>cD (nV b5)<|sA Z<|sN<|qR ?_
  exact oI h▸qD
 obtain⟨rfl,hf⟩:=X
 cases oI h
 exact hf
section
attribute [local irreducible] HM HU HF HB WO WC QS QB tO
instance {a0:bq}:CE prog bj ext (nz a0) 62 [.d (bq.pd a0)] [] fun r=>(rM aa.pd r,[]):=⟨fun h=>Ev.au h Tryz.func62⟩
instance {a0:av}:LI (k9 a0) 3 (fun s=>[(11,rI s.1)]) (fun s=>[(304,.arr 0 70 (s.2.map aa.pd))]) (jX 7 (fun o=>[]) fun o=>[(304,.arr 0 70 (o.map aa.pd))]):=⟨⟩
instance {a0:av}:CE prog bj ext (mD a0) 61 [.d (av.pd a0),.d (.raw (.func (.func 62) #[] #[]))] [] fun r=>(rM aa.pd r,[]):=⟨fun h=>Ev.au h Tryz.func61⟩
instance {a0:av}:CE prog bj ext (pW a0) 25 [.d (av.pd a0)] [] fun r=>(rM aa.pd r,[]):=⟨fun h=>Ev.au h Tryz.func25⟩
instance {a0:(List UInt8)}{a1:(List UInt8)}:CE prog bj ext (ly a0 a1) 168 [rS a0,rS a1] [] fun r=>(rI r,[]):=⟨fun h=>Ev.au h Tryz.func168⟩
instance {a0:bi}{a1:bi}:CE prog bj ext (qu a0 a1) 116 [.d (bi.pd a0),.d (bi.pd a1)] [] fun r=>(rI r,[]):=⟨fun h=>Ev.au h Tryz.func116⟩
instance {a0:aa}{a1:aa}:CE prog bj ext (qv a0 a1) 64 [.d (aa.pd a0),.d (aa.pd a1)] [] fun r=>(rI r,[]):=⟨fun h=>Ev.au h Tryz.func64⟩
end
end Go.Dw.Re
