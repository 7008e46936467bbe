
import Derived.Test.YthkfkgoddhehcaaGreatEfEvB
set_option linter.unusedVariables false
set_option linter.unusedSimpArgs false
open Go.Dw.WC renaming block->Gc, loop->Gd, region->Gb, tw->Ge, uI->Gf

set_option maxRecDepth 100000
set_option maxHeartbeats 4000000
namespace Go.Dw.Ef
open Go.Proofs Go.Proofs.Tryz Go.Dw
section
attribute [local irreducible] HM HU HF HB WO WC QS QB vh
instance {a a0 a1}:LI (ly a a0 a1) 10 (λs=>[(11,rI s.1)]) (λs=>[(736,.arr 0 107 (s.2.map al.pd))]) (jX 14 (λo=>[]) λo=>[(736,.arr 0 107 (o.map al.pd))]):=⟨⟩
instance {a0 a1 a2}:CEf (gO a0 a1 a2) 39 [.d (ai.pd a0),.d (ag.pd a1),rM ac.pd a2] [] λr=>(.tup [rM ac.pd r.1,rM al.pd r.2.1,rI r.2.2],[]):=⟨λh=>Ev.au h func39⟩
instance {a0 a1}:CEf (nl a0 a1) 189 [rI a0,rI a1] [] λr=>(rI r,[]):=⟨λh=>Ev.au h func189⟩
instance {a0 a1}:CEf (gV a0 a1) 131 [.d (aa.pd a0),.d (aa.pd a1)] [] λr=>(rI r,[]):=⟨λh=>Ev.au h func131⟩
instance {a0 a1 a2}:CEf (qt a0 a1 a2) 75 [rM al.pd a0,rI a1,rI a2] [] λr=>(rB r,[]):=⟨λh=>Ev.au h func75⟩
end
theorem rm{a0:(List al)}{r:(List Int)}(h:kJ a0=some r):EvP prog bj ext 40 [rM al.pd a0] [] (rL r,[]):=by
 refine Ev.body Z func40 Z Zk<|gU Z<|sV .tC<|sN<|gU Z<|sV .tC<|sN<|qS<|gU Z<|sV (r0)<|sN<|bE h λG j h=>Gc (Gd (WL.tS j (λs=>gI 0 40 3 [(0,rM al.pd a0),(3,.ref 464 0),(4,rI s.1)] [(464,.arr 0 3 (s.2.map (PD.int .i64)))]) (λo=>gX 0 0 40 11 [(3,.ref 464 0)] [(464,.arr 0 3 (o.map (PD.int .i64)))]) Z ?_ ?_))
 ·rintro⟨s1,s2⟩ l k q4 a h
  refine qS<|gS Z a<|mM Z<|sE (rI (a0.length:Int)) (uf _ _)<|sF h ?_ ?_<;>intro h
  ·refine sN<|cT<|qK<|qS<|qB<|gU Z<|sV (r0)<|sN<|qS<|bE h λc f h=>Gc (Gd (WL.tS f (λs=>gI 0 40 6 [(0,rM al.pd a0),(3,.ref 464 0),(4,rI s1),(5,rI s)] [(464,.arr 0 3 (s2.map (PD.int .i64)))]) (λo=>gX 2 0 40 8 [(0,rM al.pd a0),(3,.ref 464 0),(4,rI o.1),(5,rI o.2.1)] [(464,.arr 0 3 (o.2.2.map (PD.int .i64)))]) Z ?_ ?_))
   ·rintro I l k H a h
    refine qS<|gS Z a<|mM Z<|WO.Au Z Z Z Z Z Z Z Z Z<|sF h ?_ ?_<;>intro h
    ·refine mM Z<|mM Z<|bE h λJ q h=>WO.uS q Z Z Z Z Z Z Z Z<|bE h λK t h=>WO.uw t Z Z Z Z Z Z<|sM Z<|bE h λL u h=>cD (ce u)<|sF h ?_ ?_<;>intro h
     ·refine sN<|cT<|qK<|qB<|Gb Z Z<|sM Z<|sV (rI (rW (I+(1:Int))))<|sA Z<|sN ?_
      cases oI h
      exact⟨rfl,rfl⟩
     refine sN<|cF<|qX ?_
     cases oI h
     exact⟨nofun,rfl,rfl⟩
    refine sM Z<|k3<|k3<|sK<|sU<|sN<|cF<|qX ?_
    cases oI h
    exact⟨nofun,rfl,rfl⟩
   intro e l k he F
   obtain⟨rfl,a⟩:=F
   refine qE<|gS Z a<|sM Z<|sV (.d (.lst ([0].map (PD.int .i64))))<|bE h λN x h=>aR x (λ_=>Z) Z<|sA Z<|sN<|Ge Z Z<|mM Z<|sV (rI (rW (c.2.1+(1:Int))))<|bE h λO y h=>WO.AY y Z Z Z Z Z Z Z Z Z Z Z Z<|sM Z ?_
   refine sM Z<|bE h λQ z h=>WO.AY z Z Z Z Z Z Z Z Z Z Z Z Z<|bE h λT B h=>bE h λW C h=>WO.copyG Z Z Z Z Z Z Z Z (yr B Z) (Ab C Z) Z Z (λ_=>Z) ?_
   refine sN<|sO<|Gb Z Z<|mM Z<|sM Z<|bE h λX D h=>WO.uS D Z Z Z Z Z Z Z Z<|bE h λY E h=>WO.xu (g:=(PD.int .i64)) (sz:=1) (p:= .int .i64 c.1) E (λ_=>Z) (λ_=>Z) Z Z Z Z Z Z Z Z Z<|sN<|Gb Z Z<|sM Z<|sV (rI (rW (c.1+(1:Int))))<|sA Z<|sN ?_
   cases oI h
   exact⟨rfl,rfl⟩
  refine sN<|cF<|qX ?_
  cases oI h
  exact⟨nofun,rfl,rfl⟩
 intro e l k he F
 obtain⟨rfl,a⟩:=F
 refine qE<|gS Z a<|sM Z<|sA Z<|sN<|qR ?_
 exact oI h▸qD
instance {a0}:CEf (kJ a0) 40 [rM al.pd a0] [] λr=>(rL r,[]):=⟨λh=>rm h⟩
theorem tj{a0:ai}{a1:ag}{a2:(List ac)}{r:(List (List ac))×Int}(h:mZ a0 a1 a2=some r):EvP prog bj ext 14 [.d (ai.pd a0),.d (ag.pd a1),rM ac.pd a2] [] (.tup [.d (.lst (r.1.map (λl=>PD.lst (l.map ac.pd)))),rI r.2],[]):=by
 refine Ev.body Z func14 Z Zk<|gU Z<|sB (.ptr 48 0) 48 (.var (ai.rc a0))<|sB (.ptr 64 0) 64 (.var [rM av.pd a1.bp])<|sV .tC<|sV (r0)<|sN<|gU Z<|sV (.d (ai.pd a0))<|sV (.d (ag.pd a1))<|sM Z<|bE h λf h1 h=>cR (.tup [rM ac.pd f.1,rM al.pd f.2.1,rI f.2.2]) [] (ce h1)<|sM Z<|sV (rM ac.pd f.1) ?_
 refine sV (rM al.pd f.2.1)<|sV (rI f.2.2)<|sA Z<|sA Z<|sA Z<|sN<|qS<|gU Z<|sM Z<|sF h ?_ ?_<;>intro h
 ·refine sN<|cT<|gU Z<|sM Z<|sV .tC<|sA Z<|sN<|qR ?_
  cases oI h
  exact qG
 refine sN<|cF<|qK<|gU Z<|sV .tC<|sN<|gU Z<|sM Z<|bE h λB h3 h=>cD (rm h3)<|sA Z<|sN<|qS<|gU Z<|sV (r0) ?_
 refine sN<|bE h λd3 k h=>Gc (Gd (WL.tS k (λs=>gI 0 14 7 [(3,.ptr 48 0),(8,rM ac.pd f.1),(11,.ref 992 0),(12,rL B),(13,rI s.1)] [(48,.var (ai.rc a0)),(992,.nest 0 38 78 (s.2.map (List.map ac.pd)) none)]) (λo=>gX 0 0 14 12 [(11,.ref 992 0)] [(992,.nest 0 38 78 (o.map (List.map ac.pd)) none)]) Z ?_ ?_))
 ·rintro⟨j,z⟩ D C q7 g h
  refine qS<|gS Z g<|mM Z<|sE (rI (B.length:Int)) (uf _ _)<|sF h ?_ ?_<;>intro h
  ·refine sN<|cT<|qK<|qS<|qB<|qS<|Ge Z Z<|sM Z<|sF h ?_ ?_<;>intro h
   ·refine sM Z<|k3<|k3<|k3<|k3<|sK<|sK ?_
    refine k3<|k3<|sK<|sK<|sT ?_
    refine sN<|sO<|cT<|Gb (R0:=[(3,.ptr 48 0),(8,rM ac.pd f.1),(11,.ref 992 0),(12,rL B),(13,rI j)]) (B0:=[(48,.var (ai.rc a0)),(992,.nest 0 38 78 (z.map (List.map ac.pd)) none)]) Z Z<|sM Z<|sV (.d (.lst [AW]))<|bE h λq E h=>WO.appNN E Z Z Z Z Z Z Z Z Z Z Z Z Z Z<|sA Z<|sN<|bE h λe1 F h=>Gf (vv F Z Z Z) Z<|mM Z<|WO.zY Z Z Z Z Z Z Z Z Z<|sV (rI (rW ((q.length:Int)-(1:Int)))) ?_
    refine mM Z<|WO.zY Z Z Z Z Z Z Z Z Z<|sV (rI (rW ((q.length:Int)-(1:Int))))<|bE h λe2 G h=>WO.zj G Z Z Z Z Z Z Z Z<|bE h λe3 H h=>WO.AO H Z Z Z Z Z Z<|mM Z<|sM Z<|bE h λe4 I h=>eG I Z<|sC Z<|bE h λt J h=>?_
    refine eG J Z<|sV (.d (ac.pd t))<|sG (.d (.lst ([t].map ac.pd)))<|bE h λe5 K h=>aR K (λ_=>Z) Z<|bE h λe6 L h=>WO.zj L Z Z Z Z Z Z Z Z<|bE h λe7 N h=>WO.zF N Z Z Z Z Z Z Z ?_
    refine sN<|sO<|Gb Z Z<|sM Z<|sV (rI (rW (j+(1:Int))))<|sA Z<|sN ?_
    cases oI h
    exact⟨rfl,(uT rfl rfl (by decide) rfl)⟩
   refine mM Z<|mM Z<|bE h λe9 O h=>eG O Z<|sC Z<|bE h λa Q h=>eG Q Z<|sV (.cptr [.int .i64 a.bA,.int .i64 a.bY,.int .i64 a.bG,.int .i64 a.bM])<|sC Z<|mM Z<|sM Z<|sV (rI (rW (j-(1:Int)))) ?_
   refine bE h λf0 T h=>eG T Z<|sC Z<|bE h λc W h=>eG W Z<|sV (.cptr [.int .i64 c.bA,.int .i64 c.bY,.int .i64 c.bG,.int .i64 c.bM])<|sC Z<|sV (rI (rW (a.bA-c.bA)))<|sV (.ptr 48 0)<|sV (.ptr 48 11)<|sL Z<|sV (rB (decide ((rW (a.bA-c.bA))>a0.ae.df)))<|sF h ?_ ?_<;>intro h
   ·refine sN<|sO<|cT<|Gb (R0:=[(3,.ptr 48 0),(8,rM ac.pd f.1),(11,.ref 992 0),(12,rL B),(13,rI j)]) (B0:=[(48,.var (ai.rc a0)),(992,.nest 0 38 78 (z.map (List.map ac.pd)) none)]) Z Z<|sM Z<|sV (.d (.lst [AW]))<|bE h λu X h=>WO.appNN X Z Z Z Z Z Z Z Z Z Z Z Z Z Z<|sA Z<|sN<|bE h λf1 Y h=>Gf (vv Y Z Z Z) Z<|mM Z<|WO.zY Z Z Z Z Z Z Z Z Z<|sV (rI (rW ((u.length:Int)-(1:Int)))) ?_
    refine mM Z<|WO.zY Z Z Z Z Z Z Z Z Z<|sV (rI (rW ((u.length:Int)-(1:Int))))<|bE h λf2 a5 h=>WO.zj a5 Z Z Z Z Z Z Z Z<|bE h λf3 a6 h=>WO.AO a6 Z Z Z Z Z Z<|mM Z<|sM Z<|bE h λf4 a7 h=>eG a7 Z<|sC Z<|bE h λx a8 h=>?_
    refine eG a8 Z<|sV (.d (ac.pd x))<|sG (.d (.lst ([x].map ac.pd)))<|bE h λf5 a9 h=>aR a9 (λ_=>Z) Z<|bE h λf6 b0 h=>WO.zj b0 Z Z Z Z Z Z Z Z<|bE h λg0 b3 h=>WO.zF b3 Z Z Z Z Z Z Z ?_
    refine sN<|sO<|Gb Z Z<|sM Z<|sV (rI (rW (j+(1:Int))))<|sA Z<|sN ?_
    cases oI h
    exact⟨rfl,(uT rfl rfl (by decide) rfl)⟩
   refine sN<|sO<|cF<|qK<|bE h λg1 b4 h=>Gf (vv b4 Z Z Z) Z<|mM Z<|WO.zY Z Z Z Z Z Z Z Z Z<|sV (rI (rW ((z.length:Int)-(1:Int))))<|mM Z<|WO.zY Z Z Z Z Z Z Z Z Z<|sV (rI (rW ((z.length:Int)-(1:Int))))<|bE h λg2 b5 h=>WO.zj b5 Z Z Z Z Z Z Z Z ?_
   refine bE h λg3 b6 h=>WO.AO b6 Z Z Z Z Z Z<|mM Z<|sM Z<|bE h λg4 c0 h=>eG c0 Z<|sC Z<|bE h λy c1 h=>eG c1 Z<|sV (.d (ac.pd y))<|sG (.d (.lst ([y].map ac.pd)))<|bE h λg5 c2 h=>aR c2 (λ_=>Z) Z<|bE h λg6 c3 h=>?_
   refine WO.zj c3 Z Z Z Z Z Z Z Z<|bE h λg7 c4 h=>WO.zF c4 Z Z Z Z Z Z Z ?_
   refine sN<|sO<|Gb Z Z<|sM Z<|sV (rI (rW (j+(1:Int))))<|sA Z<|sN ?_
   cases oI h
   exact⟨rfl,(uT rfl rfl (by decide) rfl)⟩
  refine sN<|cF<|qX ?_
  cases oI h
  exact⟨nofun,rfl,rfl⟩
 intro e D C he hq
 obtain⟨rfl,g⟩:=hq
 refine qE<|qS<|gS Z g<|sV (r0)<|sN<|bE h λd4 p h=>Gc (Gd (WL.tS p (λs=>gI 0 14 13 [(11,.ref 992 0),(14,rI s.1)] [(992,.nest 0 38 78 (s.2.map (List.map ac.pd)) none)]) (λo=>gX 2 0 14 16 [(11,.d (.lst (o.map (λl=>PD.lst (l.map ac.pd)))))] []) Z ?_ ?_))
 ·rintro⟨d1,e0⟩ D C d5 g h
  refine qS<|gS Z g<|mM Z<|WO.zY Z Z Z Z Z Z Z Z Z<|sF h ?_ ?_<;>intro h
  ·refine sN<|cT<|qK<|qS<|qB<|bE h λg8 c5 h=>Gb (zV c5 Z Z Z Z) Z<|mM Z<|mM Z<|bE h λg9 c6 h=>WO.zj c6 Z Z Z Z Z Z Z Z<|bE h λh0 c7 h=>WO.AO c7 Z Z Z Z Z Z ?_
   refine bE h λd2 c8 h=>cR (.ref 1520 0) [(1504,.dead),(1520,.arr 0 78 (d2.map ac.pd))] (rX c8)<|bE h λh2 c9 h=>WO.zj c9 Z Z Z Z Z Z Z Z<|bE h λh4 d0 h=>WO.zF d0 Z Z Z Z Z Z Z<|sN<|Gb Z Z<|sM Z<|sV (rI (rW (d1+(1:Int))))<|sA Z<|sN ?_
   cases oI h
   exact⟨rfl,(uT rfl rfl (by decide) rfl)⟩
  refine sN<|cF<|qX ?_
  cases oI h
  exact⟨nofun,rfl,(vZ rfl (AN rfl rfl rfl))⟩
 intro e D C he hq
 obtain⟨rfl,g⟩:=hq
 refine qE<|gS Z g<|sM Z<|sA Z<|sV (r0)<|sN<|qR ?_
 exact oI h▸qD
section
attribute [local irreducible] HM HU HF HB WO WC QS QB vh
instance {a0}:LI (jc a0) 3 (λs=>[(14,rI s.1)]) (λs=>[(112,.arr 0 3 (s.2.1.map (PD.int .i64))),(160,.arr 0 3 (s.2.2.map (PD.int .i64)))]) (jX 7 (λo=>[]) λo=>[(112,.arr 0 3 (o.1.map (PD.int .i64))),(160,.arr 0 3 (o.2.map (PD.int .i64)))]):=⟨⟩
instance {a0}:CEf (jb a0) 78 [rI a0] [] λr=>(.agg [.ref 0 0,.ref 1 0],[.arr 0 3 (r.qV.map (PD.int .i64)),.arr 0 3 (r.fback.map (PD.int .i64))]):=⟨λh=>Ev.au h func78⟩
instance {a0}:CEf (lc a0) 79 [.d (bV.pd a0)] [] λr=>(rI r,[]):=⟨λh=>Ev.au h func79⟩
end
theorem chain_windowq_ev{a1:aw}{a2:(List al)}{a3:(List Int)}{d0:(List Int)}{d1:(List Int)}{r:(List Int)×(List Int)×(List Int)}(h:nw a1 a2 a3 d0 d1=some r):EvP prog bj ext 80 [.agg [.ref 0 0,.ref 1 0],.d (aw.pd a1),rM al.pd a2,rL a3] [.arr 0 3 (d0.map (PD.int .i64)),.arr 0 3 (d1.map (PD.int .i64))] (rL r.1,[.arr 0 3 (r.2.1.map (PD.int .i64)),.arr 0 3 (r.2.2.map (PD.int .i64))]):=by
 refine Ev.body Z func80 Z Zk<|gU Z<|sB (.ptr 64 0) 64 (.var [.ref 0 0,.ref 1 0])<|sB (.ptr 80 0) 80 (.var (aw.rc a1))<|sV .tC<|sN<|gU Z<|sV .tC<|sN<|Ge Z Z<|sV (.ptr 64 0)<|sL Z<|sV (.agg [.ref 0 0,.ref 1 0])<|bE h λH h1 h=>cR (rI H) [ ] (ce h1) ?_
 refine bE h λW z h=>WO.uS z Z Z Z Z Z Z Z Z<|bE h λO B h=>WO.uw B Z Z Z Z Z Z<|sA Z ?_
 refine sN<|sO<|qS<|gU Z<|sM Z<|sA Z<|sN<|bE h λE f h=>Gc (Gd (WL.tS f (λs=>gI 2 80 4 [(2,rM al.pd a2),(3,rL a3),(4,.ptr 64 0),(5,.ptr 80 0),(9,.ref 928 0),(10,rI O),(11,rI s.1)] [(0,.arr 0 3 (d0.map (PD.int .i64))),(1,.arr 0 3 (d1.map (PD.int .i64))),(64,.var [.ref 0 0,.ref 1 0]),(80,.var (aw.rc a1)),(928,.arr 0 3 (s.2.map (PD.int .i64)))]) (λo=>gX 0 2 80 7 [(9,.ref 928 0)] [(0,.arr 0 3 (d0.map (PD.int .i64))),(1,.arr 0 3 (d1.map (PD.int .i64))),(928,.arr 0 3 (o.map (PD.int .i64)))]) Z ?_ ?_))
 ·rintro⟨F,G⟩ y x T u h
  unfold dp at h
  refine qS<|Ge u Z<|sM Z<|sV (.agg [.ref 0 0,.ref 1 0])<|bE h λQ C h=>cR (rI Q) [ ] (ce C)<|sF h ?_ ?_<;>intro h
  ·refine mM Z<|WO.Au Z Z Z Z Z Z Z Z Z<|sV (rB (decide ((G.length:Int)<(16:Int))))<|sF h ?_ ?_<;>intro h
   ·refine mM Z<|mM Z<|bE h λI g h=>eG g Z<|sC Z<|bE h λa j h=>eG j Z<|sV (.cptr [.int .i64 a.bA,.int .i64 a.bY,.int .i64 a.cC])<|sC Z<|mM Z<|sM Z<|bE h λJ k h=>?_
    refine eG k Z<|sC Z<|bE h λc l h=>eG l Z<|sV (.cptr [.int .i64 c.bA,.int .i64 c.bY,.int .i64 c.cC])<|sC Z<|sV (rI (rW (a.bA-c.bA)))<|sV (.ptr 80 11)<|sL Z<|sV (rB (decide ((rW (a.bA-c.bA))<=a1.df)))<|sF h ?_ ?_<;>intro h
    ·refine sN<|sO<|cT<|qK<|qS<|qB<|Gb Z Z<|mM Z<|sV (.d (.lst ([F].map (PD.int .i64))))<|bE h λK p h=>aR p (λ_=>Z) Z<|sA Z<|sN<|Gb Z Z<|sV (.ptr 64 0) ?_
     refine sL Z<|sM Z<|bE h λL q h=>WO.uS q Z Z Z Z Z Z Z Z<|bE h λN t h=>WO.uw t Z Z Z Z Z Z<|sA Z<|sN ?_
     cases oI h
     exact⟨rfl,rfl⟩
    refine sN<|sO<|cF<|qX ?_
    cases oI h
    exact⟨nofun,rfl,rfl⟩
   refine sM Z<|k3<|k3<|k3<|k3<|sK<|sK ?_
   refine k3<|k3<|sU ?_
   refine sN<|sO<|cF<|qX ?_
   cases oI h
   exact⟨nofun,rfl,rfl⟩
  refine sM Z<|k3<|sU<|sM Z<|k3<|k3<|sK<|sK<|sK ?_
  refine k3<|k3<|k3<|sK<|sK<|sU ?_
  refine sN<|sO<|cF<|qX ?_
  cases oI h
  exact⟨nofun,rfl,rfl⟩
 intro e y x he D
 obtain⟨rfl,u⟩:=D
 refine qE<|gS Z u<|sM Z<|sA Z<|sN<|qR ?_
 exact oI h▸qD
section
attribute [local irreducible] HM HU HF HB WO WC QS QB vh
instance {a0 a1}:CEf (fu a0 a1) 82 [.d (aw.pd a0),rM al.pd a1] [] λr=>(.d (aj.pd r),[]):=⟨λh=>Ev.au h func82⟩
instance {a0}:LI (ig a0) 14 (λs=>[(40,rI s)]) (λs=>[]) (jY 20 (λy=>[]) (λy=>[]) f194 λr=>(rI r,[])):=⟨⟩
instance {a0}:CEf (jr a0) 194 [.d (aj.pd a0)] [] λr=>(rI r,[]):=⟨λh=>Ev.au h func194⟩
instance {a0 a1}:CEf (gC a0 a1) 264 [.d (ak.pd a0),.d (aa.pd a1)] [] λr=>(rB r,[]):=⟨λh=>Ev.au h func264⟩
instance {a0 a1}:CEf (l7 a0 a1) 199 [.d (ak.pd a0),.d (ak.pd a1)] [] λr=>(rB r,[]):=⟨λh=>Ev.au h func199⟩
instance {a0 a1}:LI (fV a0 a1) 3 (λs=>[(18,rI s.1)]) (λs=>[(224,.arr 0 215 (s.2.map bC.pd))]) (jY 10 (λy=>[]) (λy=>[(224,.arr 0 215 (y.map bC.pd))]) f200 λr=>(.tup [rM bC.pd r.1,rI r.2],[])):=⟨⟩
instance {a0 a1}:CEf (qg a0 a1) 200 [.d (aj.pd a0),.d (ak.pd a1)] [] λr=>(.tup [rM bC.pd r.1,rI r.2],[]):=⟨λh=>Ev.au h func200⟩
instance {a0 a1}:CEf (ll a0 a1) 138 [.d (aj.pd a0),.d (ak.pd a1)] [] λr=>(.tup [rM bC.pd r.1,rI r.2],[]):=⟨λh=>Ev.au h func138⟩
instance {a0 a1}:CEf (eW a0 a1) 139 [.d (bC.pd a0),rI a1] [] λr=>(rI r,[]):=⟨λh=>Ev.au h func139⟩
instance {a0 a1 a2}:LI (gr a0 a1 a2) 3 (λs=>[(7,rI s.1),(13,rI s.2)]) (λs=>[]) (jX 8 (λo=>[(7,rI o)]) λo=>[]):=⟨⟩
instance {a0 a1 a2}:CEf (ko a0 a1 a2) 324 [.d (aj.pd a0),rM bC.pd a1,rI a2] [] λr=>(rI r,[]):=⟨λh=>Ev.au h func324⟩
instance {a1}:LI (iy a1) 3 (λs=>[(20,rI s.1)]) (λs=>[(272,.arr 0 3 (s.2.map (PD.int .i64)))]) (jX 7 (λo=>[]) λo=>[(272,.arr 0 3 (o.map (PD.int .i64)))]):=⟨⟩
instance {c a a0 a1}:LI (gq c a a0 a1) 11 (λs=>[(9,rI s.1),(10,rI s.2.1),(47,rI s.2.2)]) (λs=>[]) (jX 17 (λo=>[(9,rI o.1),(10,rI o.2)]) λo=>[]):=⟨⟩
instance {a0 a1}:CEf (nR a0 a1) 299 [.d (aj.pd a0),rM bC.pd a1] [] λr=>(.tup [rI r.1,rI r.2],[]):=⟨λh=>Ev.au h func299⟩
instance {a0 a1}:CEf (lk a0 a1) 259 [.d (aj.pd a0),.d (ak.pd a1)] [] λr=>(.tup [rI r.1,rI r.2],[]):=⟨λh=>Ev.au h func259⟩
instance {a0 a e2 c f g}:CEf (qi a0 a e2 c f g) 369 [.ptr 0 11,.ifc 226 (.d (aq.pd a0))] [.var (aj.rc a++ .tC::rI e2::rI c::rB f::ap.rc g)] λr=>(.tup [],[.var (aj.rc a++ .ref 1 0::rI e2::rI c::rB f::ap.rc g),.arr 0 226 (r.map aq.pd)]):=⟨λh=>Ev.au h func369⟩
instance {a0}:CEf (jC a0) 365 [rM aq.pd a0] [] λr=>(rI r,[]):=⟨λh=>Ev.au h func365⟩
instance {a0 a1 a2}:CEf (kq a0 a1 a2) 366 [rM aq.pd a0,rI a1,rI a2] [] λr=>(rB r,[]):=⟨λh=>Ev.au h func366⟩
instance {a1 a2 d0}:CEf (kr a1 a2 d0) 367 [.ref 0 0,rI a1,rI a2] [.arr 0 226 (d0.map aq.pd)] λr=>(.tup [],[.arr 0 226 (r.map aq.pd)]):=⟨λh=>Ev.au h func367⟩
end
theorem heap_up_ev{a0:Int}{l:aj}{e2:Int}{p:Int}{q:Bool}{t:ap}{d1:(List aq)}{r:(List aq)}(h:qd a0 l e2 p q t d1=some r):EvP prog bj ext 300 [.ifc 313 (.ptr 0 11),rI a0] [.var (aj.rc l++ .ref 1 0::rI e2::rI p::rB q::ap.rc t),.arr 0 226 (d1.map aq.pd)] (.tup [],[.var (aj.rc l++ .ref 1 0::rI e2::rI p::rB q::ap.rc t),.arr 0 226 (r.map aq.pd)]):=by
 refine Ev.body Z func300 Z Zk<|bE h λG k h=>?_
 cases oI h
 refine Gc (Gd (WL.yS k (λs=>gI 2 300 0 [(0,.ifc 313 (.ptr 0 11)),(1,rI s.1)] [(0,.var (aj.rc l++ .ref 1 0::rI e2::rI p::rB q::ap.rc t)),(1,.arr 0 226 (s.2.map aq.pd))]) Z ?_))
 rintro⟨s1,s2⟩ I H J F h
 unfold pa at h
 refine qB<|gS Z F<|sM Z<|sV (rI (rW (s1-(1:Int))))<|bE h λB D h=>WO.quoG D Z Z Z Z Z Z<|sA Z<|sN<|qS<|gU Z<|mM Z<|sF h ?_ ?_<;>intro h
 ·refine sM Z<|k3<|sK<|sK<|sT<|sN<|cT<|qX<|⟨λhe=>(by cases he),λ_=>?_⟩
  refine tF h (λK f y=>?_)
  obtain rfl:=Option.some.inj y
  refine⟨(λhe=>by cases he),λa=>?_⟩
  subst a
  have h:=f
  refine qE ?_
  cases oI h
  exact qG
 refine mM Z<|mM Z<|bE h λC E h=>WO.zN (e:=222) (c:= .ptr 0 11) (vl:= .ref 1 0) (g:=366) (args:=[rI s1,rI B]) (v:=rB C) (u:=[ ]) Z Z (by intro _;kernel_rfl) Z Z Z Z Z Z (ce E) Z Z Z Z<|sV (rB (!C))<|sF h ?_ ?_<;>intro h
 ·refine sN<|cT<|qX<|⟨λhe=>(by cases he),λ_=>?_⟩
  refine tF h (λz9 j y=>?_)
  obtain rfl:=Option.some.inj y
  refine⟨(λhe=>by cases he),λa=>?_⟩
  subst a
  have h:=j
  refine qE ?_
  cases oI h
  exact qG
 refine sN<|cF<|qK<|gU Z<|mM Z<|sM Z<|bE h λz x h=>WO.zN (e:=222) (c:= .ptr 0 11) (vl:= .ref 1 0) (g:=367) (args:=[rI B,rI s1]) (v:= .tup []) (u:=[(1,.arr 0 226 (z.map aq.pd))]) Z Z (by intro _;kernel_rfl) Z Z Z Z Z Z (ce x) Z Z Z Z<|sN<|Gb Z Z<|sM Z<|sA Z<|sN ?_
 cases oI h
 exact⟨rfl,rfl⟩
theorem heap_Push_ev{a0:aq}{a:aj}{e2:Int}{f:Int}{j:Bool}{k:ap}{r:(List aq)}(h:mq a0 a e2 f j k=some r):EvP prog bj ext 260 [.ifc 313 (.ptr 0 11),.ifc 226 (.d (aq.pd a0))] [.var (aj.rc a++ .tC::rI e2::rI f::rB j::ap.rc k)] (.tup [],[.var (aj.rc a++ .ref 1 0::rI e2::rI f::rB j::ap.rc k),.arr 0 226 (r.map aq.pd)]):=by
 refine Ev.body Z func260 Z Zk<|gU Z<|mM Z<|bE h λt h1 h=>WO.CG (g:=369) (args:=[.ptr 0 11,.ifc 226 (.d (aq.pd a0))]) (v:= .tup []) (u:=[(0,.var (aj.rc a++ .ref 96 0::rI e2::rI f::rB j::ap.rc k)),(96,.arr 0 226 (t.map aq.pd))]) Z Z (by intro _;kernel_rfl) Z Z Z Z Z (ce h1) Z Z Z Z<|sN<|Gb Z Z<|mM Z<|bE h λl p h=>WO.zN (e:=222) (c:= .ptr 0 11) (vl:= .ref 96 0) (g:=365) (args:=[]) (v:=rI l) (u:=[ ]) Z Z (by intro _;kernel_rfl) Z Z Z Z Z Z (ce p) Z Z Z Z<|sV (rI (rW (l-(1:Int))))<|bE h λx q h=>cR (.tup []) [(0,.var (aj.rc a++ .ref 96 0::rI e2::rI f::rB j::ap.rc k)),(96,.arr 0 226 (x.map aq.pd))] (heap_up_ev q) ?_
 refine sN ?_
 cases oI h
 exact qG
instance {a0 a e2 c f g}:CEf (mq a0 a e2 c f g) 260 [.ifc 313 (.ptr 0 11),.ifc 226 (.d (aq.pd a0))] [.var (aj.rc a++ .tC::rI e2::rI c::rB f::ap.rc g)] λr=>(.tup [],[.var (aj.rc a++ .ref 1 0::rI e2::rI c::rB f::ap.rc g),.arr 0 226 (r.map aq.pd)]):=⟨λh=>heap_Push_ev h⟩
section
attribute [local irreducible] HM HU HF HB WO WC QS QB vh
instance {a0 a e2 c f g}:CEf (sm a0 a e2 c f g) 195 [.ptr 0 0,.d (ak.pd a0)] [.var (aj.rc a++ .tC::rI e2::rI c::rB f::ap.rc g)] λr=>(rI r.1,[.var (aj.rc a++ .ref 1 0::rI r.2.2::rI c::rB f::ap.rc g),.arr 0 226 (r.2.1.map aq.pd)]):=⟨λh=>Ev.au h func195⟩
instance {a0 a e2 c f g d1}:CEf (m6 a0 a e2 c f g d1) 196 [.ptr 0 0,rI a0] [.var (aj.rc a++ .ref 1 0::rI e2::rI c::rB f::ap.rc g),.arr 0 226 (d1.map aq.pd)] λr=>(rB r,[.var (aj.rc a++ .ref 1 0::rI e2::rI c::rB f::ap.rc g),.arr 0 226 (d1.map aq.pd)]):=⟨λh=>Ev.au h func196⟩
end
theorem heap_down_ev{a0:Int}{a1:Int}{e2:aj}{a:Int}{f:Int}{j:Bool}{k:ap}{d1:(List aq)}{r:Bool×(List aq)}(h:ot a0 a1 e2 a f j k d1=some r):EvP prog bj ext 301 [.ifc 313 (.ptr 0 11),rI a0,rI a1] [.var (aj.rc e2++ .ref 1 0::rI a::rI f::rB j::ap.rc k),.arr 0 226 (d1.map aq.pd)] (rB r.1,[.var (aj.rc e2++ .ref 1 0::rI a::rI f::rB j::ap.rc k),.arr 0 226 (r.2.map aq.pd)]):=by
 refine Ev.body Z func301 Z Zk<|gU Z<|sU<|sN<|gU Z<|sM Z<|sA Z<|sN<|qS<|bE h λB p h=>Gc (Gd (WL.tS p (λs=>gI 2 301 2 [(0,.ifc 313 (.ptr 0 11)),(1,rI a0),(2,rI a1),(7,rI s.1)] [(0,.var (aj.rc e2++ .ref 1 0::rI a::rI f::rB j::ap.rc k)),(1,.arr 0 226 (s.2.map aq.pd))]) (λo=>gX 0 2 301 11 [(1,rI a0),(7,rI o.1)] [(0,.var (aj.rc e2++ .ref 1 0::rI a::rI f::rB j::ap.rc k)),(1,.arr 0 226 (o.2.map aq.pd))]) Z ?_ ?_))
 ·rintro⟨s1,s2⟩ t q H l h
  refine qB<|gS Z l<|sM Z<|sV (rI (rW ((2:Int)*s1)))<|sV (rI (rW ((rW ((2:Int)*s1))+(1:Int))))<|sA Z<|sN<|qS<|gU Z<|mM Z<|sF h ?_ ?_<;>intro h
  ·refine sM Z<|sK<|sK<|sT<|sN<|cT<|qX<|⟨λhe=>(by cases he),λ_=>?_⟩
   cases oI h
   exact⟨nofun,rfl,rfl⟩
  refine mM Z<|sV (rB (decide ((rW ((rW ((2:Int)*s1))+(1:Int)))<(0:Int))))<|sF h ?_ ?_<;>intro h
  ·refine sN<|cT<|qX<|⟨λhe=>(by cases he),λ_=>?_⟩
   cases oI h
   exact⟨nofun,rfl,rfl⟩
  refine sN<|cF<|qK<|gU Z<|sM Z<|sA Z<|sN<|WC.join (α:=Int) (λx t q=>tH prog 2 (A t q) (bj.at_ 301 2 8)=some (A [(0,.ifc 313 (.ptr 0 11)),(1,rI a0),(2,rI a1),(7,rI s1),(9,rI x)] [(0,.var (aj.rc e2++ .ref 1 0::rI a::rI f::rB j::ap.rc k)),(1,.arr 0 226 (s2.map aq.pd))])) (λx=>fO s2 s1 x=some H) ?_ ?_
  ·refine gU Z<|sM Z<|sV (rI (rW ((rW ((rW ((2:Int)*s1))+(1:Int)))+(1:Int))))<|sA Z<|sN<|gU Z<|mM Z<|sF h ?_ ?_<;>intro h
   ·refine mM Z<|mM Z<|bE h λD z h=>WO.zN (e:=222) (c:= .ptr 0 11) (vl:= .ref 1 0) (g:=366) (args:=[rI (rW ((rW ((rW ((2:Int)*s1))+(1:Int)))+(1:Int))),rI (rW ((rW ((2:Int)*s1))+(1:Int)))]) (v:=rB D) (u:=[ ]) Z Z (by intro _;kernel_rfl) Z Z Z Z Z Z (ce z) Z Z Z Z<|sF h ?_ ?_<;>intro h
    ·exact sN<|cT<|Gb rfl rfl<|sM rfl<|sA rfl<|sN<|⟨(rW ((rW ((rW ((2:Int)*s1))+(1:Int)))+(1:Int))),rfl,h⟩
    exact sN<|cF<|qK<|⟨(rW ((rW ((2:Int)*s1))+(1:Int))),rfl,h⟩
   exact sM rfl<|k3<|sK<|sU<|sN<|cF<|qK<|⟨(rW ((rW ((2:Int)*s1))+(1:Int))),rfl,h⟩
  rintro E t q l h
  refine qS<|gS Z l<|mM Z<|sM Z<|bE h λI F h=>WO.zN (e:=222) (c:= .ptr 0 11) (vl:= .ref 1 0) (g:=366) (args:=[rI E,rI s1]) (v:=rB I) (u:=[ ]) Z Z (by intro _;kernel_rfl) Z Z Z Z Z Z (ce F) Z Z Z Z<|sF h ?_ ?_<;>intro h
  ·refine sN<|cT<|qX<|⟨λhe=>(by cases he),λ_=>?_⟩
   cases oI h
   exact⟨nofun,rfl,rfl⟩
  refine sN<|cF<|qK<|gU Z<|mM Z<|sM Z<|bE h λC y h=>WO.zN (e:=222) (c:= .ptr 0 11) (vl:= .ref 1 0) (g:=367) (args:=[rI s1,rI E]) (v:= .tup []) (u:=[(1,.arr 0 226 (C.map aq.pd))]) Z Z (by intro _;kernel_rfl) Z Z Z Z Z Z (ce y) Z Z Z Z<|sN<|Gb Z Z<|sM Z<|sA Z<|sN ?_
  cases oI h
  exact⟨rfl,rfl⟩
 intro e t q he G
 obtain⟨rfl,l⟩:=G
 refine qE<|gS Z l<|mM Z<|sV (rB (decide (B.1>a0)))<|sA Z<|sN<|qR ?_
 cases oI h
 exact qG
section
attribute [local irreducible] HM HU HF HB WO WC QS QB vh
instance {a c e2 f g d1}:CEf (rH a c e2 f g d1) 368 [.ptr 0 11] [.var (aj.rc a++ .ref 1 0::rI c::rI e2::rB f::ap.rc g),.arr 0 226 (d1.map aq.pd)] λr=>(.ifc 226 (.d (aq.pd r.1)),[.var (aj.rc a++ .ref 1 1::rI c::rI e2::rB f::ap.rc g),.arr 1 226 (r.2.map aq.pd)]):=⟨λh=>Ev.au h func368⟩
end
theorem heap_Pop_ev{a:aj}{f:Int}{e2:Int}{j:Bool}{k:ap}{d1:(List aq)}{r:aq×(List aq)}(h:oE a f e2 j k d1=some r):EvP prog bj ext 261 [.ifc 313 (.ptr 0 11)] [.var (aj.rc a++ .ref 1 0::rI f::rI e2::rB j::ap.rc k),.arr 0 226 (d1.map aq.pd)] (.ifc 226 (.d (aq.pd r.1)),[.var (aj.rc a++ .ref 1 1::rI f::rI e2::rB j::ap.rc k),.arr 1 226 (r.2.map aq.pd)]):=by
 refine Ev.body Z func261 Z Zk<|gU Z<|sV (.d (.raw .nilIface))<|sN<|gU Z<|sM Z<|bE h λl h1 h=>WO.zN (e:=222) (c:= .ptr 0 11) (vl:= .ref 1 0) (g:=365) (args:=[]) (v:=rI l) (u:=[ ]) Z Z (by intro _;kernel_rfl) Z Z Z Z Z Z (ce h1) Z Z Z Z<|sV (rI (rW (l-(1:Int))))<|sA Z<|sN<|gU Z<|mM Z<|bE h λz t h=>?_
 refine WO.zN (e:=222) (c:= .ptr 0 11) (vl:= .ref 1 0) (g:=367) (args:=[r0,rI (rW (l-(1:Int)))]) (v:= .tup []) (u:=[(1,.arr 0 226 (z.map aq.pd))]) Z Z (by intro _;kernel_rfl) Z Z Z Z Z Z (ce t) Z Z Z Z<|sN<|gU Z<|mM Z<|bE h λp x h=>cR (rB p.1) [(0,.var (aj.rc a++ .ref 1 0::rI f::rI e2::rB j::ap.rc k)),(1,.arr 0 226 (p.2.map aq.pd))] (heap_down_ev x)<|sN<|gU Z<|sM Z<|bE h λq y h=>WO.CG (g:=368) (args:=[.ptr 0 11]) (v:= .ifc 226 (.d (aq.pd q.1))) (u:=[(0,.var (aj.rc a++ .ref 1 1::rI f::rI e2::rB j::ap.rc k)),(1,.arr 1 226 (q.2.map aq.pd))]) Z Z (by intro _;kernel_rfl) Z Z Z Z Z (ce y) Z Z Z Z<|sA Z<|sN<|qR ?_
 cases oI h
 exact qG
instance {a c e2 f g d1}:CEf (oE a c e2 f g d1) 261 [.ifc 313 (.ptr 0 11)] [.var (aj.rc a++ .ref 1 0::rI c::rI e2::rB f::ap.rc g),.arr 0 226 (d1.map aq.pd)] λr=>(.ifc 226 (.d (aq.pd r.1)),[.var (aj.rc a++ .ref 1 1::rI c::rI e2::rB f::ap.rc g),.arr 1 226 (r.2.map aq.pd)]):=⟨λh=>heap_Pop_ev h⟩
section
attribute [local irreducible] HM HU HF HB WO WC QS QB vh
instance {a0 a1}:CEf (d6 a0 a1) 305 [rI a0,rI a1] [] λr=>(rI r,[]):=⟨λh=>Ev.au h func305⟩
instance {a0}:CEf (cp a0) 198 [.d (bH.pd a0)] [] λr=>(.d (aa.pd r),[]):=⟨λh=>Ev.au h func198⟩
instance {a0}:CEf (l5 a0) 302 [.d (ak.pd a0)] [] λr=>(.d (aa.pd r),[]):=⟨λh=>Ev.au h func302⟩
instance {a0 a1}:CEf (pN a0 a1) 303 [.d (aj.pd a0),.d (aa.pd a1)] [] λr=>(.tup [rI r.1,rI r.2.1,rI r.2.2],[]):=⟨λh=>Ev.au h func303⟩
instance {a0 a e2 c f g d1}:CEf (nW a0 a e2 c f g d1) 262 [.ptr 0 0,.d (ak.pd a0)] [.var (aj.rc a++ .ref 1 0::rI e2::rI c::rB f::ap.rc g),.arr 0 226 (d1.map aq.pd)] λr=>(rI r.1,[.var (aj.rc a++ .ref 1 0::rI e2::rI c::rB r.2.1::ap.rc r.2.2),.arr 0 226 (d1.map aq.pd)]):=⟨λh=>Ev.au h func262⟩
instance {a0}:CEf (l6 a0) 304 [.d (ak.pd a0)] [] λr=>(rI r,[]):=⟨λh=>Ev.au h func304⟩
end
theorem sR{a0:ak}{r:ak×ak×Bool}(h:iu a0=some r):EvP prog bj ext 263 [.d (ak.pd a0)] [] (.tup [.d (ak.pd r.1),.d (ak.pd r.2.1),rB r.2.2],[]):=by
 refine Ev.body Z func263 Z Zk<|gU Z<|sB (.ptr 16 0) 16 (.var (ak.rc a0))<|sB (.ptr 32 0) 32 (.var [r0,r0,r0,r0,r0,r0])<|sB (.ptr 48 0) 48 (.var [r0,r0,r0,r0,r0,r0])<|sU<|sN<|qS<|gU Z<|sV (.d (ak.pd a0))<|bE h λT h1 h=>cD (ce h1)<|sF h ?_ ?_<;>intro h
 ·refine sN<|cT<|gU Z<|sG (.d (ak.pd (ak.mk (aa.mk 0 0 0) (aa.mk 0 0 0))))<|sG (.d (ak.pd (ak.mk (aa.mk 0 0 0) (aa.mk 0 0 0))))<|sH 32 (.var [r0,r0,r0,r0,r0,r0])<|sH 48 (.var [r0,r0,r0,r0,r0,r0])<|sU<|sN<|qR ?_
  cases oI h
  exact qG
 refine sN<|cF<|qK<|Ge Z Z<|sV (.ptr 16 0)<|sV (.d (aa.pd a0.bo))<|bE h λa K h=>cD (ce K)<|sV (.ptr 16 3)<|sV (.d (aa.pd a0.ba))<|bE h λc L h=>cD (ce L)<|sB (.ptr 80 0) 80 (.var [r0,r0,r0])<|sB (.ptr 96 0) 96 (.var [r0,r0,r0])<|sS 80 (.var [rI a.a0,rI a.a1,rI a.a2]) ?_
 refine sS 96 (.var [rI c.a0,rI c.a1,rI c.a2]) ?_
 refine sN<|sO<|gU Z<|sV (r0)<|sN<|qS<|gU Z<|sV (r0)<|sN<|Gc (Gd ?_)
 refine WL.round<|gU Z<|sT<|sN<|qS<|cT<|qK<|qS<|qB<|gU Z<|sM Z<|sA Z<|sN<|Ge Z Z<|sM Z ?_
 refine sV (.ptr 96 0)<|sL Z<|sM Z<|sV (.ptr 80 0)<|sL Z<|sV (rI (rW (c.a0-a.a0)))<|sM Z<|sV (.ptr 96 0)<|sL Z<|sM Z<|sV (.ptr 80 0)<|sL Z<|sV (rI (rW (c.a0-a.a0)))<|WO.s0 (v':=rB false) Z Z (λ_=>Z) (congrArg (λb=>RV.d (.bool b)) (decide_eq_false (Int.lt_irrefl _))) ?_
 refine sN<|sO<|cF<|qK<|Gb Z Z<|sV (rI 1)<|sM Z<|sN<|WL.round<|gU Z<|sT<|sN<|qS<|cT<|qK<|qS ?_
 refine qB<|gU Z<|sM Z<|sA Z<|sN<|Ge Z Z<|sM Z<|sV (.ptr 96 1)<|sL Z<|sM Z<|sV (.ptr 80 1)<|sL Z<|sV (rI (rW (c.a1-a.a1)))<|sM Z<|sV (.ptr 96 0) ?_
 refine sL Z<|sM Z<|sV (.ptr 80 0)<|sL Z<|sV (rI (rW (c.a0-a.a0)))<|sF h ?_ ?_<;>intro h
 ·refine sN<|sO<|cT<|Gb Z Z<|sM Z<|sA Z<|sN<|Gb Z Z<|sV (rI 2)<|sM Z<|sN<|WL.round<|gU Z<|sT<|sN<|qS ?_
  refine cT<|qK<|qS<|qB<|gU Z<|sM Z<|sA Z<|sN<|Ge Z Z<|sM Z<|sV (.ptr 96 2)<|sL Z<|sM Z<|sV (.ptr 80 2)<|sL Z ?_
  refine sV (rI (rW (c.a2-a.a2)))<|sM Z<|sV (.ptr 96 1)<|sL Z<|sM Z<|sV (.ptr 80 1)<|sL Z<|sV (rI (rW (c.a1-a.a1)))<|sF h ?_ ?_<;>intro h
  ·refine sN<|sO<|cT<|Gb Z Z<|sM Z<|sA Z<|sN<|Gb Z Z<|sV (rI 3)<|sM Z<|sN<|WL.round<|gU Z<|sU<|sN<|qS ?_
   refine cF<|qX<|qE<|Ge Z Z<|sV (.d (bH.pd c))<|sV (.d (bH.pd a))<|sB (.ptr 144 0) 144 (.var [r0,r0,r0])<|sB (.ptr 160 0) 160 (.var [r0,r0,r0])<|sS 144 (.var [rI c.a0,rI c.a1,rI c.a2])<|sS 160 (.var [rI a.a0,rI a.a1,rI a.a2]) ?_
   refine sN<|sO<|Ge Z Z<|mM Z<|sV (.ptr 80 2)<|sL Z<|sM Z<|sV (.ptr 96 2)<|sL Z<|bE h λx N h=>cD (ce N)<|sV (.ptr 144 2)<|sS 144 (.var [rI c.a0,rI c.a1,rI x]) ?_
   refine sN<|sO<|gU Z<|mM Z<|sV (.ptr 144 2)<|sL Z<|sV (rI (rW (x+(1:Int))))<|sV (.ptr 160 2)<|sS 160 (.var [rI a.a0,rI a.a1,rI (rW (x+(1:Int)))])<|sN<|Ge Z Z<|sV (.ptr 16 0)<|sV (.d (aa.pd a0.bo))<|sV (.d (bH.pd (bH.mk c.a0 c.a1 x)))<|bE h λI O h=>?_
   refine cD (ce O)<|sG (.d (ak.pd (ak.mk a0.bo I)))<|sV (.d (bH.pd (bH.mk a.a0 a.a1 (rW (x+(1:Int))))))<|bE h λJ Q h=>cD (ce Q)<|sV (.ptr 16 3)<|sV (.d (aa.pd a0.ba))<|sG (.d (ak.pd (ak.mk J a0.ba)))<|sH 32 (.var (aa.rc a0.bo++aa.rc I))<|sH 48 (.var (aa.rc J++aa.rc a0.ba))<|sT ?_
   refine sN<|sO<|qR ?_
   cases oI h
   exact qG
  refine sN<|sO<|cF<|qK<|Gb Z Z<|sV (rI 3)<|sM Z<|sN<|WL.round<|gU Z<|sU<|sN<|qS<|cF<|qX<|qE ?_
  refine Ge Z Z<|sV (.d (bH.pd c))<|sV (.d (bH.pd a))<|sB (.ptr 144 0) 144 (.var [r0,r0,r0])<|sB (.ptr 160 0) 160 (.var [r0,r0,r0])<|sS 144 (.var [rI c.a0,rI c.a1,rI c.a2])<|sS 160 (.var [rI a.a0,rI a.a1,rI a.a2]) ?_
  refine sN<|sO<|Ge Z Z<|mM Z<|sV (.ptr 80 1)<|sL Z<|sM Z<|sV (.ptr 96 1)<|sL Z<|bE h λf y h=>cD (ce y)<|sV (.ptr 144 1)<|sS 144 (.var [rI c.a0,rI f,rI c.a2]) ?_
  refine sN<|sO<|gU Z<|mM Z<|sV (.ptr 144 1)<|sL Z<|sV (rI (rW (f+(1:Int))))<|sV (.ptr 160 1)<|sS 160 (.var [rI a.a0,rI (rW (f+(1:Int))),rI a.a2])<|sN<|Ge Z Z<|sV (.ptr 16 0)<|sV (.d (aa.pd a0.bo))<|sV (.d (bH.pd (bH.mk c.a0 f c.a2)))<|bE h λk z h=>?_
  refine cD (ce z)<|sG (.d (ak.pd (ak.mk a0.bo k)))<|sV (.d (bH.pd (bH.mk a.a0 (rW (f+(1:Int))) a.a2)))<|bE h λl B h=>cD (ce B)<|sV (.ptr 16 3)<|sV (.d (aa.pd a0.ba))<|sG (.d (ak.pd (ak.mk l a0.ba)))<|sH 32 (.var (aa.rc a0.bo++aa.rc k))<|sH 48 (.var (aa.rc l++aa.rc a0.ba))<|sT ?_
  refine sN<|sO<|qR ?_
  cases oI h
  exact qG
 refine sN<|sO<|cF<|qK<|Gb Z Z<|sV (rI 2)<|sM Z<|sN<|WL.round<|gU Z<|sT<|sN<|qS<|cT<|qK<|qS ?_
 refine qB<|gU Z<|sM Z<|sA Z<|sN<|Ge Z Z<|sM Z<|sV (.ptr 96 2)<|sL Z<|sM Z<|sV (.ptr 80 2)<|sL Z<|sV (rI (rW (c.a2-a.a2)))<|sM Z<|sV (.ptr 96 0) ?_
 refine sL Z<|sM Z<|sV (.ptr 80 0)<|sL Z<|sV (rI (rW (c.a0-a.a0)))<|sF h ?_ ?_<;>intro h
 ·refine sN<|sO<|cT<|Gb Z Z<|sM Z<|sA Z<|sN<|Gb Z Z<|sV (rI 3)<|sM Z<|sN<|WL.round<|gU Z<|sU<|sN<|qS ?_
  refine cF<|qX<|qE<|Ge Z Z<|sV (.d (bH.pd c))<|sV (.d (bH.pd a))<|sB (.ptr 144 0) 144 (.var [r0,r0,r0])<|sB (.ptr 160 0) 160 (.var [r0,r0,r0])<|sS 144 (.var [rI c.a0,rI c.a1,rI c.a2])<|sS 160 (.var [rI a.a0,rI a.a1,rI a.a2]) ?_
  refine sN<|sO<|Ge Z Z<|mM Z<|sV (.ptr 80 2)<|sL Z<|sM Z<|sV (.ptr 96 2)<|sL Z<|bE h λg C h=>cD (ce C)<|sV (.ptr 144 2)<|sS 144 (.var [rI c.a0,rI c.a1,rI g]) ?_
  refine sN<|sO<|gU Z<|mM Z<|sV (.ptr 144 2)<|sL Z<|sV (rI (rW (g+(1:Int))))<|sV (.ptr 160 2)<|sS 160 (.var [rI a.a0,rI a.a1,rI (rW (g+(1:Int)))])<|sN<|Ge Z Z<|sV (.ptr 16 0)<|sV (.d (aa.pd a0.bo))<|sV (.d (bH.pd (bH.mk c.a0 c.a1 g)))<|bE h λp D h=>?_
  refine cD (ce D)<|sG (.d (ak.pd (ak.mk a0.bo p)))<|sV (.d (bH.pd (bH.mk a.a0 a.a1 (rW (g+(1:Int))))))<|bE h λq E h=>cD (ce E)<|sV (.ptr 16 3)<|sV (.d (aa.pd a0.ba))<|sG (.d (ak.pd (ak.mk q a0.ba)))<|sH 32 (.var (aa.rc a0.bo++aa.rc p))<|sH 48 (.var (aa.rc q++aa.rc a0.ba))<|sT ?_
  refine sN<|sO<|qR ?_
  cases oI h
  exact qG
 refine sN<|sO<|cF<|qK<|Gb Z Z<|sV (rI 3)<|sM Z<|sN<|WL.round<|gU Z<|sU<|sN<|qS<|cF<|qX<|qE ?_
 refine Ge Z Z<|sV (.d (bH.pd c))<|sV (.d (bH.pd a))<|sB (.ptr 144 0) 144 (.var [r0,r0,r0])<|sB (.ptr 160 0) 160 (.var [r0,r0,r0])<|sS 144 (.var [rI c.a0,rI c.a1,rI c.a2])<|sS 160 (.var [rI a.a0,rI a.a1,rI a.a2]) ?_
 refine sN<|sO<|Ge Z Z<|mM Z<|sV (.ptr 80 0)<|sL Z<|sM Z<|sV (.ptr 96 0)<|sL Z<|bE h λj F h=>cD (ce F)<|sV (.ptr 144 0)<|sS 144 (.var [rI j,rI c.a1,rI c.a2]) ?_
 refine sN<|sO<|gU Z<|mM Z<|sV (.ptr 144 0)<|sL Z<|sV (rI (rW (j+(1:Int))))<|sV (.ptr 160 0)<|sS 160 (.var [rI (rW (j+(1:Int))),rI a.a1,rI a.a2])<|sN<|Ge Z Z<|sV (.ptr 16 0)<|sV (.d (aa.pd a0.bo))<|sV (.d (bH.pd (bH.mk j c.a1 c.a2)))<|bE h λt G h=>?_
 refine cD (ce G)<|sG (.d (ak.pd (ak.mk a0.bo t)))<|sV (.d (bH.pd (bH.mk (rW (j+(1:Int))) a.a1 a.a2)))<|bE h λu H h=>cD (ce H)<|sV (.ptr 16 3)<|sV (.d (aa.pd a0.ba))<|sG (.d (ak.pd (ak.mk u a0.ba)))<|sH 32 (.var (aa.rc a0.bo++aa.rc t))<|sH 48 (.var (aa.rc u++aa.rc a0.ba))<|sT ?_
 refine sN<|sO<|qR ?_
 cases oI h
 exact qG
instance {a0}:CEf (iu a0) 263 [.d (ak.pd a0)] [] λr=>(.tup [.d (ak.pd r.1),.d (ak.pd r.2.1),rB r.2.2],[]):=⟨λh=>sR h⟩
section
attribute [local irreducible] HM HU HF HB WO WC QS QB vh
instance {a0 a e2 c f g d1}:CEf (pe a0 a e2 c f g d1) 369 [.ptr 0 11,.ifc 226 (.d (aq.pd a0))] [.var (aj.rc a++ .ref 1 0::rI e2::rI c::rB f::ap.rc g),.arr 0 226 (d1.map aq.pd)] λr=>(.tup [],[.var (aj.rc a++ .ref 1 1::rI e2::rI c::rB f::ap.rc g),.arr 1 226 (r.map aq.pd)]):=⟨λh=>Ev.au h func369⟩
end
theorem heap_Pushq_ev{a0:aq}{a:aj}{e2:Int}{f:Int}{j:Bool}{k:ap}{d1:(List aq)}{r:(List aq)}(h:mm a0 a e2 f j k d1=some r):EvP prog bj ext 260 [.ifc 313 (.ptr 0 11),.ifc 226 (.d (aq.pd a0))] [.var (aj.rc a++ .ref 1 0::rI e2::rI f::rB j::ap.rc k),.arr 0 226 (d1.map aq.pd)] (.tup [],[.var (aj.rc a++ .ref 1 1::rI e2::rI f::rB j::ap.rc k),.arr 1 226 (r.map aq.pd)]):=by
 refine Ev.body Z func260 Z Zk<|gU Z<|mM Z<|bE h λt h1 h=>WO.CG (g:=369) (args:=[.ptr 0 11,.ifc 226 (.d (aq.pd a0))]) (v:= .tup []) (u:=[(0,.var (aj.rc a++ .ref 1 1::rI e2::rI f::rB j::ap.rc k)),(1,.arr 1 226 (t.map aq.pd))]) Z Z (by intro _;kernel_rfl) Z Z Z Z Z (ce h1) Z Z Z Z<|sN<|Gb Z Z<|mM Z<|bE h λl p h=>WO.zN (e:=222) (c:= .ptr 0 11) (vl:= .ref 1 1) (g:=365) (args:=[]) (v:=rI l) (u:=[ ]) Z Z (by intro _;kernel_rfl) Z Z Z Z Z Z (ce p) Z Z Z Z<|sV (rI (rW (l-(1:Int))))<|bE h λx q h=>cR (.tup []) [(0,.var (aj.rc a++ .ref 1 1::rI e2::rI f::rB j::ap.rc k)),(1,.arr 1 226 (x.map aq.pd))] (heap_up_ev q) ?_
 refine sN ?_
 cases oI h
 exact qG
instance {a0 a e2 c f g d1}:CEf (mm a0 a e2 c f g d1) 260 [.ifc 313 (.ptr 0 11),.ifc 226 (.d (aq.pd a0))] [.var (aj.rc a++ .ref 1 0::rI e2::rI c::rB f::ap.rc g),.arr 0 226 (d1.map aq.pd)] λr=>(.tup [],[.var (aj.rc a++ .ref 1 1::rI e2::rI c::rB f::ap.rc g),.arr 1 226 (r.map aq.pd)]):=⟨λh=>heap_Pushq_ev h⟩
section
attribute [local irreducible] HM HU HF HB WO WC QS QB vh
instance {a0 a e2 c f g d1}:CEf (kV a0 a e2 c f g d1) 195 [.ptr 0 0,.d (ak.pd a0)] [.var (aj.rc a++ .ref 1 0::rI e2::rI c::rB f::ap.rc g),.arr 0 226 (d1.map aq.pd)] λr=>(rI r.1,[.var (aj.rc a++ .ref 1 1::rI r.2.1::rI c::rB f::ap.rc g),.arr 1 226 (r.2.2.map aq.pd)]):=⟨λh=>Ev.au h func195⟩
instance {a c e2 f g d1}:CEf (gP a c e2 f g d1) 197 [.ptr 0 0] [.var (aj.rc a++ .ref 1 0::rI c::rI e2::rB f::ap.rc g),.arr 0 226 (d1.map aq.pd)] λr=>(rI r.1,[.var (aj.rc a++ .ref 1 1::rI r.2.1::rI r.2.2.1::rB r.2.2.2.1::ap.rc r.2.2.2.2.1),.arr 1 226 (r.2.2.2.2.2.map aq.pd)]):=⟨λh=>Ev.au h func197⟩
end
theorem rU{a0:aj}{a1:Int}{r:(Option cj)×Int}(h:oH a0 a1=some r):EvP prog bj ext 136 [.d (aj.pd a0),rI a1] [] (match r.1 with|none=>(.tup [.d (.raw (.pointer none)),rI r.2],[])|some t=>(.tup [.ptr 0 0,rI r.2],[.var (cj.rc t)])):=by
 refine Ev.body Z func136 Z Zk<|gU Z<|sB (.ptr 32 0) 32 (.var (aj.rc a0))<|sV (.d (.raw (.pointer none)))<|sV (r0)<|sN<|qS<|gU Z<|sV (.d (aj.pd a0))<|bE h λJ h1 h=>cD (ce h1)<|sA Z<|sN<|gU Z<|sM Z ?_
 refine sF h ?_ ?_<;>intro h
 ·refine sN<|cT<|gU Z<|sM Z<|sV (.d (.raw (.pointer none)))<|sA Z<|sN<|qR ?_
  cases oI h
  exact qG
 refine sN<|cF<|qK<|qS<|gU Z<|sM Z<|sF h ?_ ?_<;>intro h
 ·refine sN<|cT<|gU Z<|sV (.d (.raw (.pointer none)))<|sV (rI 2)<|sN<|qR ?_
  cases oI h
  exact qG
 refine sN<|cF<|qK<|gU Z<|sV (.d (aj.pd a0))<|sG (.agg (aj.rc a0++[.tC,r0,r0,rB false,r0,r0,r0,r0,r0,r0,r0,r0,r0,r0,r0,r0]))<|sB (.ptr 304 0) 304 (.var (aj.rc a0++[.tC,r0,r0,rB false,r0,r0,r0,r0,r0,r0,r0,r0,r0,r0,r0,r0]))<|sA Z<|sN<|qS<|gU Z<|sM Z<|sV (.ptr 32 0)<|sV (.d (ak.pd a0.bt))<|bE h λq B h=>?_
 refine cR (rI q.1) [(304,.var (aj.rc a0++[.ref 368 0,rI q.2.2,r0,rB false,r0,r0,r0,r0,r0,r0,r0,r0,r0,r0,r0,r0])),(368,.arr 0 226 (q.2.1.map aq.pd))] (ce B)<|sA Z<|sN<|gU Z<|sM Z<|sF h ?_ ?_<;>intro h
 ·refine sN<|cT<|gU Z<|sM Z<|sV (.d (.raw (.pointer none)))<|sA Z<|sN<|qR ?_
  cases oI h
  exact qG
 refine sN<|cF<|qK<|qS<|bE h λk c h=>Gc (Gd (WL.tS c (λs=>gI 0 136 10 [(1,rI a1),(7,.ptr 304 0)] [(304,.var (aj.rc a0++ .ref 368 0::rI s.1::rI s.2.1::rB s.2.2.1::ap.rc s.2.2.2.1)),(368,.arr 0 226 (s.2.2.2.2.map aq.pd))]) (λo=>match o with| .inl y=>gX 0 0 136 14 [(7,.ptr 304 0)] [(304,.var (aj.rc a0++rM aq.pd y.1::rI y.2.1::rI y.2.2.1::rB y.2.2.2.1::ap.rc y.2.2.2.2))]| .inr r=>gF 136 f136 0 (match r.1 with|none=>(.tup [.d (.raw (.pointer none)),rI r.2],[])|some t=>(.tup [.ptr 0 0,rI r.2],[.var (cj.rc t)]))) Z ?_ ?_))
 ·rintro⟨E,F,G,H,l⟩ z x C j h
  unfold cV at h
  refine qS<|gS Z j<|mM Z<|bE h λp f h=>cR (rB p) [(304,.var (aj.rc a0++ .ref 368 0::rI E::rI F::rB G::ap.rc H)),(368,.arr 0 226 (l.map aq.pd))] (ce f)<|sF h ?_ ?_<;>intro h
  ·refine sN<|cT<|qK<|qB<|gU Z<|sM Z<|bE h λa g h=>cR (rI a.1) [(304,.var (aj.rc a0++ .ref 368 1::rI a.2.1::rI a.2.2.1::rB a.2.2.2.1::ap.rc a.2.2.2.2.1)),(368,.arr 1 226 (a.2.2.2.2.2.map aq.pd))] (ce g)<|sA Z<|sN<|gU Z<|sM Z<|sF h ?_ ?_<;>intro h
   ·refine sN<|cT<|gU Z<|sM Z<|sV (.d (.raw (.pointer none)))<|sA Z<|sN<|qR ?_
    cases oI h
    exact⟨nofun,rfl,rfl⟩
   refine sN<|cF<|qK ?_
   cases oI h
   exact⟨rfl,rfl⟩
  refine sN<|cF<|qX ?_
  cases oI h
  exact⟨nofun,rfl,rfl⟩
 intro e z x he u
 rcases k with I|D
 ·obtain⟨rfl,j⟩:=u
  refine qE<|gS Z j<|sM Z<|sA Z<|sV (r0)<|sN<|qR ?_
  cases oI h
  exact qG
 obtain⟨rfl,hf⟩:=u
 cases oI h
 exact hf
theorem locate_run_evN{a0:aj}{a1:Int}{r:(Option cj)×Int}(h:oH a0 a1=some r)(ho:r.1=none):EvP prog bj ext 136 [.d (aj.pd a0),rI a1] [] (.tup [.d (.raw (.pointer none)),rI r.2],[]):=by
  have:=rU h;rw [ho]at this;exact this
theorem locate_run_evS{a0:aj}{a1:Int}{r:(Option cj)×Int}{a:cj}(h:oH a0 a1=some r)(ho:r.1=some a):EvP prog bj ext 136 [.d (aj.pd a0),rI a1] [] (.tup [.ptr 0 0,rI r.2],[.var (cj.rc a)]):=by
  have:=rU h;rw [ho]at this;exact this
section
attribute [local irreducible] HM HU HF HB WO WC QS QB vh
instance {a0 a1}:CEf (nA a0 a1) 137 [.d (ak.pd a0),.d (ak.pd a1)] [] λr=>(.d (ak.pd r),[]):=⟨λh=>Ev.au h func137⟩
end
theorem pM{a0:aj}{a1:Int}{r:ap×Int}(h:gR a0 a1=some r):EvP prog bj ext 81 [.d (aj.pd a0),rI a1] [] (.tup [.d (ap.pd r.1),rI r.2],[]):=by
 refine Ev.body Z func81 Z Zk<|gU Z<|sB (.ptr 32 0) 32 (.var (aj.rc a0))<|sB (.ptr 64 0) 64 (.var zZ0)<|sV (r0)<|sN<|gU Z<|sV (.d (aj.pd a0))<|sM Z<|bE h λl h1 h=>opt_elim h (λg h=>?_) (λa g h=>?_)
 ·refine cR (.tup [.d (.raw (.pointer none)),rI l.2]) [] (locate_run_evN h1 g)<|sM Z<|sV (.d (.raw (.pointer none)))<|sV (rI l.2)<|sA Z<|sA Z<|sN<|qS<|gU Z<|sM Z<|sF h ?_ ?_<;>intro h
  ·refine sN<|cT<|gU Z<|sG (.d (ap.pd (ap.mk (aa.mk 0 0 0) 0 0 0 (ak.mk (aa.mk 0 0 0) (aa.mk 0 0 0)))))<|sM Z<|sH 64 (.var zZ0)<|sA Z<|sN<|qR ?_
   cases oI h
   exact qG
  refine sN<|cF<|qK<|gU Z<|sM Z ?_
  cases h
 refine cR (.tup [.ptr 224 0,rI l.2]) [(224,.var (cj.rc a))] (locate_run_evS h1 g)<|sM Z<|sV (.ptr 224 0)<|sV (rI l.2)<|sA Z<|sA Z<|sN<|qS<|gU Z<|sM Z<|sF h ?_ ?_<;>intro h
 ·refine sN<|cT<|gU Z<|sG (.d (ap.pd (ap.mk (aa.mk 0 0 0) 0 0 0 (ak.mk (aa.mk 0 0 0) (aa.mk 0 0 0)))))<|sM Z<|sH 64 (.var zZ0)<|sA Z<|sN<|qR ?_
  cases oI h
  exact qG
 refine sN<|cF<|qK<|gU Z<|sM Z<|sV (.ptr 224 0)<|sV (.ptr 224 15)<|sV (.d (ap.pd a.cy))<|sB (.ptr 128 0) 128 (.var zZ0)<|sH 128 (.var (ap.rc a.cy))<|sN<|gU Z<|sV (.ptr 128 4)<|sL Z<|sV (.ptr 128 0) ?_
 refine sV (.d (aa.pd a.cy.bU))<|sV (.ptr 128 0)<|sV (.d (aa.pd a.cy.bU))<|sG (.d (ak.pd (ak.mk a.cy.bU a.cy.bU)))<|sV (.ptr 128 5)<|sS 128 (.var (aa.rc a.cy.bU++rI a.cy.bS::rI a.cy.cA::rI a.cy.cA::ak.rc a.cy.ca))<|sV (.ptr 128 6)<|sH 128 (.var (aa.rc a.cy.bU++rI a.cy.bS::rI a.cy.cA::rI a.cy.cA::aa.rc a.cy.bU++aa.rc a.cy.bU))<|sN<|qS<|gU Z<|sM Z<|sV (.ptr 224 0)<|sV (.ptr 224 11)<|sL Z ?_
 refine sE (rI (a.oD.length:Int)) (uf _ _)<|sV (r0)<|sN<|bE h λc k h=>Gc (Gd (WL.tS k (λs=>gI 0 81 7 [(4,.ptr 64 0),(8,.ptr 128 0),(37,rM aq.pd a.oD),(38,rI (a.oD.length:Int)),(39,rI s.1)] [(64,.var zZ0),(128,.var (aa.rc a.cy.bU++rI a.cy.bS::rI a.cy.cA::rI s.2.1::ak.rc s.2.2))]) (λo=>gX 0 0 81 13 [(4,.ptr 64 0),(8,.ptr 128 0)] [(64,.var zZ0),(128,.var (aa.rc a.cy.bU++rI a.cy.bS::rI a.cy.cA::rI o.1::ak.rc o.2))]) Z ?_ ?_))
 ·rintro⟨x,j,y⟩ B z D t h
  refine gS Z t<|sF h ?_ ?_<;>intro h
  ·refine sN<|qS<|cT<|qK<|qS<|qB<|gU Z<|bE h λf p h=>eG p Z<|sV (.d (aq.pd f))<|sB (.ptr 160 0) 160 (.var [r0,r0,r0,r0,r0,r0,r0,r0])<|sH 160 (.var (aq.rc f))<|sN<|gU Z<|sV (.ptr 128 5) ?_
   refine sL Z<|sV (.ptr 160 6)<|sL Z<|sV (rI (if f.cg<j then f.cg else j))<|sV (.ptr 128 5)<|sS 128 (.var (aa.rc a.cy.bU++rI a.cy.bS::rI a.cy.cA::rI (if f.cg<j then f.cg else j)::ak.rc y))<|sN<|gU Z<|sV (.ptr 160 6)<|sL Z<|sV (.ptr 128 4)<|sL Z<|sF h ?_ ?_<;>intro h
   ·refine sN<|cT<|Gb Z Z<|sV (.ptr 128 6)<|sV (.d (ak.pd y))<|sV (.ptr 160 0)<|sV (.d (ak.pd f.ey))<|bE h λu q h=>cD (ce q)<|sV (.ptr 128 6)<|sH 128 (.var (aa.rc a.cy.bU++rI a.cy.bS::rI a.cy.cA::rI (if f.cg<j then f.cg else j)::ak.rc u))<|sN<|Gb Z Z<|sV (rI (rW (x+(1:Int))))<|sM Z ?_
    refine sN ?_
    cases oI h
    exact⟨rfl,rfl⟩
   refine sN<|cF<|qK<|Gb Z Z<|sV (rI (rW (x+(1:Int))))<|sM Z<|sN ?_
   cases oI h
   exact⟨rfl,rfl⟩
  refine sN<|qS<|cF<|qX ?_
  cases oI h
  exact⟨nofun,rfl,rfl⟩
 intro e B z he C
 obtain⟨rfl,t⟩:=C
 refine qE<|gS Z t<|sV (.d (ap.pd (ap.mk a.cy.bU a.cy.bS a.cy.cA c.1 (ak.mk (aa.mk c.2.bo.fX c.2.bo.fY c.2.bo.fZ) (aa.mk c.2.ba.fX c.2.ba.fY c.2.ba.fZ)))))<|sH 64 (.var (aa.rc a.cy.bU++rI a.cy.bS::rI a.cy.cA::rI c.1::ak.rc c.2))<|sV (r0)<|sN<|qR ?_
 cases oI h
 exact qG
instance {a0 a1}:CEf (gR a0 a1) 81 [.d (aj.pd a0),rI a1] [] λr=>(.tup [.d (ap.pd r.1),rI r.2],[]):=⟨λh=>pM h⟩
section
attribute [local irreducible] HM HU HF HB WO WC QS QB vh
instance {a a2}:LI (gG a a2) 8 (λs=>[(35,rI s.1)]) (λs=>[(512,.arr 0 3 (s.2.map (PD.int .i64)))]) (jX 12 (λo=>[]) λo=>[(512,.arr 0 3 (o.map (PD.int .i64)))]):=⟨⟩
instance {a0 a1 a2}:CEf (iz a0 a1 a2) 83 [.d (aj.pd a0),.d (aa.pd a1),rI a2] [] λr=>(.tup [rL r.1,rI r.2],[]):=⟨λh=>Ev.au h func83⟩
instance {a1 d0 d1}:CEf (mG a1 d0 d1) 84 [.agg [.ref 0 0,.ref 1 0],rI a1] [.arr 0 3 (d0.map (PD.int .i64)),.arr 0 3 (d1.map (PD.int .i64))] λr=>(.tup [],[.arr 0 3 (r.1.map (PD.int .i64)),.arr 0 3 (r.2.map (PD.int .i64))]):=⟨λh=>Ev.au h func84⟩
end
theorem pZ{a0:aw}{a1:(List al)}{r:(List bz)×(List Int)×Int}(h:hZ a0 a1=some r):EvP prog bj ext 42 [.d (aw.pd a0),rM al.pd a1] [] (.tup [rM bz.pd r.1,rL r.2.1,rI r.2.2],[]):=by
 refine Ev.body Z func42 Z Zk<|gU Z<|sB (.ptr 32 0) 32 (.var (aw.rc a0))<|sV .tC<|sV .tC<|sV (r0)<|sN<|WC.scope<|qS<|gU Z<|sV (.d (aw.pd a0))<|sM Z<|bE h λx1 h1 h=>cD (ce h1)<|sA Z ?_
 refine sN<|gU Z<|sM Z<|sF h ?_ ?_<;>intro h
 ·refine sN<|cT<|gU Z<|sM Z<|sV .tC<|sV .tC<|sA Z<|sN<|qR ?_
  cases oI h
  exact qG
 refine sN<|cF<|qK<|gU Z<|sV .tC<|sN<|gU Z<|sV .tC<|sN<|gU Z<|sM Z<|bE h λp h3 h=>cD (ce h3)<|sA Z<|sN ?_
 refine gU Z<|sM Z<|sE (rI (a1.length:Int)) (uf _ _)<|bE h λx4 h4 h=>cR (.agg [.ref 560 0,.ref 561 0]) [(560,.arr 0 3 (x4.qV.map (PD.int .i64))),(561,.arr 0 3 (x4.fback.map (PD.int .i64)))] (ce h4)<|sB (.ptr 176 0) 176 (.var [.tC,.tC])<|sS 176 (.var [.ref 560 0,.ref 561 0])<|sN<|qS<|WC.label<|qS<|bE h λc8 B h=>Gc (Gd (WL.tS B (λs=>gI 0 42 8 [(1,rM al.pd a1),(2,.ptr 32 0),(8,.ref 2432 0),(9,.ref 2576 0),(10,rL p),(11,.ptr 176 0)] [(32,.var (aw.rc a0)),(176,.var [.ref 560 0,.ref 561 0]),(560,.arr 0 3 (s.2.2.1.map (PD.int .i64))),(561,.arr 0 3 (s.2.2.2.map (PD.int .i64))),(2432,.arr 0 115 (s.1.map bz.pd)),(2576,.arr 0 3 (s.2.1.map (PD.int .i64)))]) (λo=>match o with| .inl y=>gX 0 0 42 42 [(8,.ref 2432 0),(9,.ref 2576 0)] [(2432,.arr 0 115 (y.1.map bz.pd)),(2576,.arr 0 3 (y.2.map (PD.int .i64)))]| .inr r=>gF 42 f42 0 (.tup [rM bz.pd r.1,rL r.2.1,rI r.2.2],[])) Z ?_ ?_))
 ·rintro⟨s5,s6,s7,s8⟩ l k c9 g h
  unfold cm at h
  refine qS<|Ge g Z<|sV (.ptr 176 0)<|sL Z<|sV (.agg [.ref 560 0,.ref 561 0])<|bE h λd2 I h=>cR (rI d2) [ ] (ce I)<|bE h λf5 J h=>WO.uS J Z Z Z Z Z Z Z Z<|bE h λf6 K h=>WO.uw K Z Z Z Z Z Z<|sV (.agg [.ref 560 0,.ref 561 0])<|bE h λd3 L h=>cR (rI d3) [ ] (ce L)<|sF h ?_ ?_<;>intro h
  ·refine sN<|sO<|cT<|qK<|qB<|gU Z<|sV (.agg [.ref 560 0,.ref 561 0])<|sV (.d (aw.pd a0))<|mM Z<|bE h λa N h=>cR (rL a.1) [(560,.arr 0 3 (a.2.1.map (PD.int .i64))),(561,.arr 0 3 (a.2.2.map (PD.int .i64)))] (chain_windowq_ev N)<|sA Z<|sN<|WC.join (α:=(List bz)×(List Int)) (λx l k=>tH prog 0 (A l k) (bj.at_ 42 0 40)=some (A [(1,rM al.pd a1),(2,.ptr 32 0),(8,.ref 2432 0),(9,.ref 2576 0),(10,rL p),(11,.ptr 176 0),(12,rL a.1)] [(32,.var (aw.rc a0)),(176,.var [.ref 560 0,.ref 561 0]),(560,.arr 0 3 (a.2.1.map (PD.int .i64))),(561,.arr 0 3 (a.2.2.map (PD.int .i64))),(2432,.arr 0 115 (x.1.map bz.pd)),(2576,.arr 0 3 (x.2.map (PD.int .i64)))])) (λx=>cW a p x.1 x.2=some c9) ?_ ?_
   ·refine gU Z<|sM Z<|sE (rI (a.1.length:Int)) (uf _ _)<|sV (.ptr 32 13)<|sL Z<|sF h ?_ ?_<;>intro h
    ·refine sN<|cT<|gU Z<|sV .tC<|sN<|qS<|gU Z<|sM Z<|sE (rI (a.1.length:Int)) (uf _ _)<|sV (r0)<|sN<|bE h λf t h=>Gc (Gd (WL.tS t (λs=>gI 0 42 13 [(1,rM al.pd a1),(2,.ptr 32 0),(8,.ref 2432 0),(9,.ref 2576 0),(10,rL p),(11,.ptr 176 0),(12,rL a.1),(13,.ref 1120 0),(55,rL a.1),(56,rI (a.1.length:Int)),(57,rI s.1)] [(32,.var (aw.rc a0)),(176,.var [.ref 560 0,.ref 561 0]),(560,.arr 0 3 (a.2.1.map (PD.int .i64))),(561,.arr 0 3 (a.2.2.map (PD.int .i64))),(1120,.arr 0 107 (s.2.map al.pd)),(2432,.arr 0 115 (s5.map bz.pd)),(2576,.arr 0 3 (s6.map (PD.int .i64)))]) (λo=>gX 2 0 42 17 [(1,rM al.pd a1),(2,.ptr 32 0),(8,.ref 2432 0),(9,.ref 2576 0),(10,rL p),(11,.ptr 176 0),(12,rL a.1),(13,rM al.pd o.1)] [(32,.var (aw.rc a0)),(176,.var [.ref 560 0,.ref 561 0]),(560,.arr 0 3 (a.2.1.map (PD.int .i64))),(561,.arr 0 3 (a.2.2.map (PD.int .i64))),(2432,.arr 0 115 (o.2.1.map bz.pd)),(2576,.arr 0 3 (o.2.2.map (PD.int .i64)))]) Z ?_ ?_))
     ·rintro⟨d0,f0⟩ l k e5 g h
      refine gS Z g<|sF h ?_ ?_<;>intro h
      ·refine sN<|qS<|cT<|qK<|qS<|qB<|gU Z<|bE h λg3 Y h=>eG Y Z<|sC Z<|sA Z<|sN<|Gb Z Z<|sM Z<|sM Z ?_
       refine mM Z<|bE h λg4 a5 h=>eG a5 Z<|sC Z<|bE h λF a6 h=>eG a6 Z<|sV (.d (al.pd F))<|sV (.d (.lst ([F].map al.pd)))<|bE h λg5 a7 h=>aR a7 (λ_=>Z) Z<|sA Z<|sN<|Gb Z Z<|sV (rI (rW (d0+(1:Int)))) ?_
       refine sM Z<|sN ?_
       cases oI h
       exact⟨rfl,rfl⟩
      refine sN<|qS<|cF<|qX ?_
      cases oI h
      exact⟨nofun,rfl,rfl⟩
     intro e l k he q
     obtain⟨rfl,g⟩:=q
     refine qE<|Ge g Z<|sV (.d (aw.pd a0))<|sM Z<|bE h λg6 a8 h=>cD (ce a8)<|sV (.ptr 32 10)<|sL Z<|bE h λc a9 h=>cR (.tup [.d (ap.pd c.1),rI c.2]) [] (pM a9)<|sM Z<|sV (.d (ap.pd c.1))<|sV (rI c.2)<|sB (.ptr 256 0) 256 (.var zZ0)<|sH 256 (.var (ap.rc c.1)) ?_
     refine sA Z ?_
     refine sN<|sO<|qS<|gU Z<|sM Z<|sF h ?_ ?_<;>intro h
     ·refine sN<|cT<|gU Z<|sM Z<|sV .tC<|sV .tC<|sA Z<|sN<|qR ?_
      cases oI h
      exact⟨nofun,rfl,rfl⟩
     refine sN<|cF<|qK<|Ge Z Z<|sV (.d (aw.pd a0))<|sM Z<|bE h λg7 b0 h=>cD (ce b0)<|sV (.ptr 256 0)<|sV (.d (aa.pd c.1.bU))<|sV (.ptr 256 3)<|sL Z<|bE h λj b3 h=>cR (.tup [rL j.1,rI j.2]) [] (ce b3)<|sM Z ?_
     refine sV (rL j.1)<|sV (rI j.2)<|sA Z<|sA Z ?_
     refine sN<|sO<|qS<|gU Z<|sM Z<|sF h ?_ ?_<;>intro h
     ·refine sN<|cT<|gU Z<|sM Z<|sV .tC<|sV .tC<|sA Z<|sN<|qR ?_
      cases oI h
      exact⟨nofun,rfl,rfl⟩
     refine sN<|cF<|qK<|gU Z<|sV .tC<|sN<|qS<|gU Z<|sM Z<|sE (rI (a.1.length:Int)) (uf _ _)<|sV (r0)<|sN<|bE h λC u h=>Gc (Gd (WL.tS u (λs=>gI 0 42 25 [(1,rM al.pd a1),(2,.ptr 32 0),(8,.ref 2432 0),(9,.ref 2576 0),(10,rL p),(11,.ptr 176 0),(12,rL a.1),(16,.ptr 256 0),(18,rL j.1),(19,.ref 1840 0),(98,rL a.1),(99,rI (a.1.length:Int)),(100,rI s.1)] [(32,.var (aw.rc a0)),(176,.var [.ref 560 0,.ref 561 0]),(256,.var (ap.rc c.1)),(560,.arr 0 3 (a.2.1.map (PD.int .i64))),(561,.arr 0 3 (a.2.2.map (PD.int .i64))),(1840,.arr 0 3 (s.2.map (PD.int .i64))),(2432,.arr 0 115 (f.2.1.map bz.pd)),(2576,.arr 0 3 (f.2.2.map (PD.int .i64)))]) (λo=>gX 4 0 42 30 [(1,rM al.pd a1),(2,.ptr 32 0),(8,.ref 2432 0),(9,.ref 2576 0),(10,rL p),(11,.ptr 176 0),(12,rL a.1),(16,.ptr 256 0),(19,.ref 1840 0)] [(32,.var (aw.rc a0)),(176,.var [.ref 560 0,.ref 561 0]),(256,.var (ap.rc c.1)),(560,.arr 0 3 (a.2.1.map (PD.int .i64))),(561,.arr 0 3 (a.2.2.map (PD.int .i64))),(1840,.arr 0 3 (o.map (PD.int .i64))),(2432,.arr 0 115 (f.2.1.map bz.pd)),(2576,.arr 0 3 (f.2.2.map (PD.int .i64)))]) Z ?_ ?_))
     ·rintro⟨D,f1⟩ l k e6 g h
      refine gS Z g<|sF h ?_ ?_<;>intro h
      ·refine sN<|qS<|cT<|qK<|qS<|qB<|gU Z<|sM Z<|bE h λd5 b4 h=>eG b4 Z<|sC Z<|sA Z<|sA Z<|sN<|Ge Z Z ?_
       refine mM Z<|bE h λg8 b5 h=>eG b5 Z<|sC Z<|sV (.ptr 32 12)<|sL Z<|sF h ?_ ?_<;>intro h
       ·refine sN<|sO<|cT<|Gb Z Z<|mM Z<|sV (.d (.lst ([d5].map (PD.int .i64))))<|bE h λg9 b6 h=>aR b6 (λ_=>Z) Z<|sA Z<|sN<|Gb Z Z<|sV (rI (rW (D+(1:Int))))<|sM Z<|sN ?_
        cases oI h
        exact⟨rfl,rfl⟩
       refine sN<|sO<|cF<|qK<|Gb Z Z<|sV (rI (rW (D+(1:Int))))<|sM Z<|sN ?_
       cases oI h
       exact⟨rfl,rfl⟩
      refine sN<|qS<|cF<|qX ?_
      cases oI h
      exact⟨nofun,rfl,rfl⟩
     intro e l k he q
     obtain⟨rfl,g⟩:=q
     refine qE<|gS Z g<|sM Z<|WO.Au Z Z Z Z Z Z Z Z Z<|sV (.ptr 32 13)<|sL Z<|sF h ?_ ?_<;>intro h
     ·refine sN<|cT<|gU Z<|sV (.ptr 256 0)<|sV (.d (aa.pd c.1.bU))<|sV (.ptr 256 3)<|sL Z<|sV (.agg (.tC::aa.rc c.1.bU++[rI c.1.bS]))<|sB (.ptr 352 0) 352 (.var [.tC,r0,r0,r0,r0])<|sS 352 (.var (.tC::aa.rc c.1.bU++[rI c.1.bS]))<|sN<|qS<|gU Z<|sM Z<|WO.Au Z Z Z Z Z Z Z Z Z ?_
      refine sV (r0)<|sN<|bE h λe4 z h=>Gc (Gd (WL.tS z (λs=>gI 0 42 33 [(1,rM al.pd a1),(2,.ptr 32 0),(8,.ref 2432 0),(9,.ref 2576 0),(10,rL p),(11,.ptr 176 0),(22,.ptr 352 0),(127,.ref 1840 0),(128,rI (C.length:Int)),(129,rI s.1)] [(32,.var (aw.rc a0)),(176,.var [.ref 560 0,.ref 561 0]),(352,.var (.ref 2288 0::aa.rc c.1.bU++[rI c.1.bS])),(560,.arr 0 3 (s.2.1.map (PD.int .i64))),(561,.arr 0 3 (s.2.2.1.map (PD.int .i64))),(1840,.arr 0 3 (C.map (PD.int .i64))),(2288,.arr 0 3 (s.2.2.2.map (PD.int .i64))),(2432,.arr 0 115 (f.2.1.map bz.pd)),(2576,.arr 0 3 (f.2.2.map (PD.int .i64)))]) (λo=>gX 6 0 42 38 [(1,rM al.pd a1),(2,.ptr 32 0),(8,.ref 2432 0),(9,.ref 2576 0),(10,rL p),(11,.ptr 176 0),(22,.ptr 352 0)] [(32,.var (aw.rc a0)),(176,.var [.ref 560 0,.ref 561 0]),(352,.var (.ref 2288 0::aa.rc c.1.bU++[rI c.1.bS])),(560,.arr 0 3 (o.1.map (PD.int .i64))),(561,.arr 0 3 (o.2.1.map (PD.int .i64))),(2288,.arr 0 3 (o.2.2.map (PD.int .i64))),(2432,.arr 0 115 (f.2.1.map bz.pd)),(2576,.arr 0 3 (f.2.2.map (PD.int .i64)))]) Z ?_ ?_))
      ·rintro⟨d1,f2,f3,f4⟩ l k e7 g h
       refine gS Z g<|sF h ?_ ?_<;>intro h
       ·refine sN<|qS<|cT<|qK<|qS<|qB<|gU Z<|bE h λh0 c0 h=>WO.uS c0 Z Z Z Z Z Z Z Z<|bE h λh2 c1 h=>WO.uw c1 Z Z Z Z Z Z<|sA Z<|sN<|gU Z<|sV (.agg [.ref 560 0,.ref 561 0]) ?_
        refine sM Z<|bE h λG c2 h=>cR (.tup []) [(560,.arr 0 3 (G.1.map (PD.int .i64))),(561,.arr 0 3 (G.2.map (PD.int .i64)))] (ce c2)<|sN<|Gf Z Z<|sV (.ptr 352 0)<|sL Z<|mM Z<|bE h λe0 c3 h=>eG c3 Z<|sC Z<|sV (.d (.lst ([e0].map (PD.int .i64))))<|bE h λh5 c4 h=>aR c4 (λ_=>Z) Z ?_
        refine sV (.ptr 352 0)<|sS 352 (.var (.ref 2288 1::aa.rc c.1.bU++[rI c.1.bS])) ?_
        refine sN<|sO<|Gb Z Z<|sV (rI (rW (d1+(1:Int))))<|sM Z<|sN ?_
        cases oI h
        exact⟨rfl,rfl⟩
       refine sN<|qS<|cF<|qX ?_
       cases oI h
       exact⟨nofun,rfl,rfl⟩
      intro e l k he q
      obtain⟨rfl,g⟩:=q
      refine qE<|gS Z g<|sV (.ptr 352 0)<|sL Z<|bE h λH c5 h=>cR (.tup []) [(2288,.arr 0 3 (H.map (PD.int .i64)))] (sortI_85 c5)<|sN<|gU Z<|sM Z<|sV (.agg (.ref 2288 0::aa.rc c.1.bU++[rI c.1.bS]))<|sB (.d (.lst [bz.pd (bz.mk H c.1.bU c.1.bS)])) 2288 .dead<|bE h λh6 c6 h=>aR c6 (λ_=>Z) Z<|sA Z<|sN ?_
      refine qX<|qE ?_
      cases oI h
      exact⟨rfl,rfl⟩
     exact sN<|cF<|qK<|⟨(f.2.1,f.2.2),rfl,h⟩
    exact sN<|cF<|qK<|⟨(s5,s6),rfl,h⟩
   rintro⟨e2,e3⟩ l k g h
   refine gS Z g<|mM Z<|sM Z<|bE h λg0 O h=>eG O Z<|sC Z<|bE h λd4 Q h=>eG Q Z<|sC Z<|sV (.d (.lst ([d4].map (PD.int .i64))))<|bE h λg1 T h=>aR T (λ_=>Z) Z<|sA Z<|sN ?_
   refine Gf Z Z<|sV (.agg [.ref 560 0,.ref 561 0])<|sM Z<|bE h λg2 W h=>eG W Z<|sC Z<|bE h λE X h=>cR (.tup []) [(560,.arr 0 3 (E.1.map (PD.int .i64))),(561,.arr 0 3 (E.2.map (PD.int .i64)))] (ce X) ?_
   refine sN<|sO ?_
   cases oI h
   exact⟨rfl,rfl⟩
  refine sN<|sO<|cF<|qX ?_
  cases oI h
  exact⟨nofun,rfl,rfl⟩
 intro e l k he q
 rcases c8 with h7|e9
 ·obtain⟨rfl,g⟩:=q
  refine qE<|gS Z g<|sM Z<|bE h λe1 c7 h=>cR (.tup []) [(2576,.arr 0 3 (e1.map (PD.int .i64)))] (sortI_85 c7)<|sN<|gU Z<|mM Z<|sA Z<|sA Z<|sV (r0)<|sN<|qR ?_
  exact oI h▸qD
 obtain⟨rfl,hf⟩:=q
 cases oI h
 exact hf
section
attribute [local irreducible] HM HU HF HB WO WC QS QB vh
instance {a a0 a1}:LI (im a a0 a1) 7 (λs=>[(27,rI s.1)]) (λs=>[(704,.arr 0 78 (s.2.1.map ac.pd)),(784,.arr 0 107 (s.2.2.1.map al.pd)),(864,.arr 0 75 (s.2.2.2.map bi.pd))]) (jX 13 (λo=>[]) λo=>[(704,.arr 0 78 (o.1.map ac.pd)),(784,.arr 0 107 (o.2.1.map al.pd)),(864,.arr 0 75 (o.2.2.map bi.pd))]):=⟨⟩
instance {a0 a1 a2}:CEf (gy a0 a1 a2) 86 [.d (ai.pd a0),.d (ag.pd a1),rM ac.pd a2] [] λr=>(.tup [.d (bZ.pd r.1),rI r.2],[]):=⟨λh=>Ev.au h func86⟩
end
end Go.Dw.Ef
