
import Derived.Test.YtikangmionpjfaaGreatSsEvC
set_option linter.unusedVariables false
set_option linter.unusedSimpArgs false
open Go.Dw.WC renaming block->EI, join->EM, loop->EJ, pg->EK, region->EH

set_option maxRecDepth 100000
set_option maxHeartbeats 4000000
namespace Go.Dw.Ss
open Go.Proofs Go.Proofs.Tryz Go.Dw
section
attribute [local irreducible] HM HU HF HB WO WC QS QB sR
instance {a0:br}:CE prog bi ext (dX a0) 187 [.d (br.pd a0)] [] fun r=>(rB r,[]):=⟨fun h=>Ev.au h Tryz.func187⟩
instance {a0:ai}:LI (gD a0) 12 (fun s=>[(3,rI s)]) (fun s=>[]) (jY 19 (fun y=>[]) (fun y=>[]) Tryz.f145 fun r=>(rI r,[])):=⟨⟩
instance {a0:ai}:CE prog bi ext (iD a0) 145 [.d (ai.pd a0)] [] fun r=>(rI r,[]):=⟨fun h=>Ev.au h Tryz.func145⟩
instance {a0:ah}{a1:aa}:CE prog bi ext (iz a0 a1) 273 [.d (ah.pd a0),.d (aa.pd a1)] [] fun r=>(rB r,[]):=⟨fun h=>Ev.au h Tryz.func273⟩
instance {a0:ah}{a1:ah}:CE prog bi ext (lF a0 a1) 244 [.d (ah.pd a0),.d (ah.pd a1)] [] fun r=>(rB r,[]):=⟨fun h=>Ev.au h Tryz.func244⟩
instance {a0:aw}{a1:ah}{a2:br}:CE prog bi ext (ni a0 a1 a2) 245 [.d (aw.pd a0),.d (ah.pd a1),.d (br.pd a2)] [] fun r=>(.tup [.d (bw.pd r.1),rI r.2],[]):=⟨fun h=>Ev.au h Tryz.func245⟩
instance {a0:ai}{a1:ah}:LI (ff a0 a1) 8 (fun s=>[(8,rI s.1)]) (fun s=>[(688,.arr 0 144 (s.2.map bw.pd))]) (jX 12 (fun o=>[]) fun o=>[(688,.arr 0 144 (o.map bw.pd))]):=⟨⟩
instance {a0:ai}{a1:ah}:CE prog bi ext (lr a0 a1) 188 [.d (ai.pd a0),.d (ah.pd a1)] [] fun r=>(.tup [rM bw.pd r.1,rI r.2],[]):=⟨fun h=>Ev.au h Tryz.func188⟩
instance {a0:bw}{a1:Int}:CE prog bi ext (kl a0 a1) 274 [.d (bw.pd a0),rI a1] [] fun r=>(rI r,[]):=⟨fun h=>Ev.au h Tryz.func274⟩
instance {a1:(List bw)}{a0:ai}{a2:Int}:LI (gZ a1 a0 a2) 3 (fun s=>[(7,rI s.1),(8,rI s.2)]) (fun s=>[]) (jX 6 (fun o=>[(7,rI o)]) fun o=>[]):=⟨⟩
instance {a0:ai}{a1:(List bw)}{a2:Int}:CE prog bi ext (iC a0 a1 a2) 246 [.d (ai.pd a0),rM bw.pd a1,rI a2] [] fun r=>(rI r,[]):=⟨fun h=>Ev.au h Tryz.func246⟩
instance {a1:(List bw)}{a0:ai}:LI (f9 a1 a0) 3 (fun s=>[(6,rI s.1),(7,rI s.2.1),(8,rI s.2.2)]) (fun s=>[]) (jX 12 (fun o=>[(6,rI o.1),(7,rI o.2)]) fun o=>[]):=⟨⟩
instance {a0:ai}{a1:(List bw)}:CE prog bi ext (mc a0 a1) 189 [.d (ai.pd a0),rM bw.pd a1] [] fun r=>(.tup [rI r.1,rI r.2],[]):=⟨fun h=>Ev.au h Tryz.func189⟩
instance {a0:ai}{a1:ah}:CE prog bi ext (gm a0 a1) 146 [.d (ai.pd a0),.d (ah.pd a1)] [] fun r=>(.tup [rI r.1,rI r.2],[]):=⟨fun h=>Ev.au h Tryz.func146⟩
instance {a0:(List bn)}:LI (md a0) 3 (fun s=>[(3,rI s.1),(4,rI s.2)]) (fun s=>[]) (jX 7 (fun o=>[(3,rI o)]) fun o=>[]):=⟨⟩
instance {a0:(List bn)}:CE prog bi ext (nj a0) 147 [rM bn.pd a0] [] fun r=>(rI r,[]):=⟨fun h=>Ev.au h Tryz.func147⟩
instance {a0:Int}{a1:Int}:CE prog bi ext (iV a0 a1) 190 [rI a0,rI a1] [] fun r=>(rI r,[]):=⟨fun h=>Ev.au h Tryz.func190⟩
instance {a0:ah}:CE prog bi ext (iU a0) 148 [.d (ah.pd a0)] [] fun r=>(.d (aa.pd r),[]):=⟨fun h=>Ev.au h Tryz.func148⟩
instance {a0:aa}:CE prog bi ext (ref26_One a0) 191 [.d (aa.pd a0)] [] fun r=>(.d (ah.pd r),[]):=⟨fun h=>Ev.au h Tryz.func191⟩
instance {a0:ai}{a1:aa}:CE prog bi ext (oW a0 a1) 149 [.d (ai.pd a0),.d (aa.pd a1)] [] fun r=>(.tup [rI r.1,rI r.2.1,rI r.2.2],[]):=⟨fun h=>Ev.au h Tryz.func149⟩
instance {a0:ah}:CE prog bi ext (lE a0) 193 [.d (ah.pd a0)] [] fun r=>(rI r,[]):=⟨fun h=>Ev.au h Tryz.func193⟩
instance {a0:ah}:CE prog bi ext (lq a0) 151 [.d (ah.pd a0)] [] fun r=>(.tup [.d (ah.pd r.1),.d (ah.pd r.2.1),rB r.2.2],[]):=⟨fun h=>Ev.au h Tryz.func151⟩
instance {a0:Int}{a1:Int}:CE prog bi ext (kN a0 a1) 192 [rI a0,rI a1] [] fun r=>(rI r,[]):=⟨fun h=>Ev.au h Tryz.func192⟩
instance {a0:aa}{a1:aa}:CE prog bi ext (jn a0 a1) 150 [.d (aa.pd a0),.d (aa.pd a1)] [] fun r=>(rI r,[]):=⟨fun h=>Ev.au h Tryz.func150⟩
instance {a0:ah}{a1:ah}:CE prog bi ext (nh a0 a1) 152 [.d (ah.pd a0),.d (ah.pd a1)] [] fun r=>(.d (ah.pd r),[]):=⟨fun h=>Ev.au h Tryz.func152⟩
end
theorem ref28_search_ev{a0:ai}{a1:Int}{r:al×Int×Int}(h:lH a0 a1=some r):EvP prog bi ext 97 [.d (ai.pd a0),rI a1] [] (.tup [.d (al.pd r.1),rI r.2.1,rI r.2.2],[]):=by
 refine Ev.body Z Tryz.func97 Z Zk<|gU Z<|sB (.ptr 32 0) 32 (.var (ai.rc a0))<|sB (.ptr 64 0) 64 (.var zZ0)<|sV (r0)<|sV (r0)<|sN<|qS<|gU Z<|sV (.d (ai.pd a0))<|bE h fun x1 h1 h=>cD (ce h1)<|sA Z<|sN<|gU Z ?_
 refine sM Z<|sF h ?_ ?_<;>intro h
 ·refine sN<|cT<|gU Z<|sG (.d (al.pd (al.mk (aa.mk 0 0 0) 0 0 0 (ah.mk (aa.mk 0 0 0) (aa.mk 0 0 0)))))<|sM Z<|sH 64 (.var zZ0)<|sV (r0)<|sA Z<|sN<|qR ?_
  cases oI h
  exact qG
 refine sN<|cF<|qK<|qS<|gU Z<|sM Z<|sF h ?_ ?_<;>intro h
 ·refine sN<|cT<|gU Z<|sG (.d (al.pd (al.mk (aa.mk 0 0 0) 0 0 0 (ah.mk (aa.mk 0 0 0) (aa.mk 0 0 0)))))<|sH 64 (.var zZ0)<|sV (r0)<|sV (rI 2)<|sN<|qR ?_
  cases oI h
  exact qG
 refine sN<|cF<|qK<|gU Z<|sV (.d (ai.pd a0))<|sV (.ptr 32 0)<|sV (.d (ah.pd a0.bk))<|bE h fun I h4 h=>cR (.tup [rI I.1,rI I.2]) [] (ce h4)<|sM Z<|sV (rI I.1)<|sV (rI I.2)<|sA Z<|sA Z<|sN ?_
 refine gU Z<|sV (.ptr 32 0)<|sV (.d (ah.pd a0.bk))<|sM Z<|sG (.d (bn.pd (bn.mk a0.bk I.1 false)))<|sB (.ref 736 0) 736 (.arr 0 202 ([(bn.mk a0.bk I.1 false)].map bn.pd))<|sA Z<|sN<|gU Z<|sB (.ptr 176 0) 176 (.var zZ0)<|sN<|gU Z<|sV (r0)<|sN<|qS ?_
 refine bE h fun e1 J h=>EI (EJ (WL.qz J (fun s=>gI 0 97 10 [(1,rI a1),(2,.ptr 32 0),(4,.ptr 64 0),(10,.ref 736 0),(11,.ptr 176 0),(12,rI s.1)] [(32,.var (ai.rc a0)),(64,.var zZ0),(176,.var [rI s.2.2.1,rI s.2.2.2.1,rI s.2.2.2.2.1,rI s.2.2.2.2.2.1,rI s.2.2.2.2.2.2,r0,r0,r0,r0,r0,r0,r0]),(736,.arr 0 202 (s.2.1.map bn.pd))]) (fun o=>match o with| .inl y=>gX 0 0 97 25 [(4,.ptr 64 0),(10,.ref 736 0),(11,.ptr 176 0),(12,rI y.1)] [(64,.var zZ0),(176,.var [rI y.2.2.1,rI y.2.2.2.1,rI y.2.2.2.2.1,rI y.2.2.2.2.2.1,rI y.2.2.2.2.2.2,r0,r0,r0,r0,r0,r0,r0]),(736,.arr 0 202 (y.2.1.map bn.pd))]| .inr r=>gF 97 Tryz.f97 0 (.tup [.d (al.pd r.1),rI r.2.1,rI r.2.2],[])) Z ?_ ?_))
 ·rintro⟨N,s6,s7,s8,s9,q,l⟩ G F L E h
  unfold co at h
  refine qB<|gS Z E<|sM Z<|bE h fun p a7 h=>cR (rI p) [ ] (ce a7)<|sA Z<|sN<|EM (α:=Unit) (fun x G F=>pK prog 0 (A G F) (bi.at_ 97 0 12)=some (A [(1,rI a1),(2,.ptr 32 0),(4,.ptr 64 0),(10,.ref 736 0),(11,.ptr 176 0),(12,rI N),(13,rI p)] [(32,.var (ai.rc a0)),(64,.var zZ0),(176,.var [rI s7,rI s8,rI s9,rI q,rI l,r0,r0,r0,r0,r0,r0,r0]),(736,.arr 0 202 (s6.map bn.pd))])) (fun x=>cE N s6 p a0 l s7 s8 s9 q=some L) ?_ ?_
  ·refine EK Z Z<|sM Z<|sF h ?_ ?_<;>intro h
   ·refine sM Z<|k3<|k3<|k3<|k3<|sK<|sK ?_
    refine sT ?_
    refine sN<|sO<|cT<|qX<|⟨fun he=>(by cases he),fun _=>?_⟩
    cases oI h
    exact⟨nofun,rfl,rfl⟩
   refine mM Z<|sF h ?_ ?_<;>intro h
   ·refine sM Z<|sV (.ptr 176 4)<|sL Z<|mM Z<|bE h fun g2 c6 h=>WO.uf c6 Z Z Z Z Z Z Z Z<|sV (.elt 736 0 (p).toNat 6)<|bE h fun H c7 h=>WO.ry c7 Z Z Z Z Z Z<|sV (rI (rW (l-H.bY)))<|sM Z<|sV (rB (decide ((rW (l-H.bY))<=a1)))<|sV (rB (decide ((rW (l-H.bY))<=a1)))<|sF h ?_ ?_<;>intro h
    ·refine sN<|sO<|cT<|qX<|⟨fun he=>(by cases he),fun _=>?_⟩
     cases oI h
     exact⟨nofun,rfl,rfl⟩
    exact sN<|sO<|cF<|qK<|⟨(),rfl,h⟩
   refine sM Z<|k3<|k3<|k3<|sK<|sU<|sU ?_
   exact sN<|sO<|cF<|qK<|⟨(),rfl,h⟩
  rintro⟨⟩ G F E h
  refine qS<|gS Z E<|sM Z<|sF h ?_ ?_<;>intro h
  ·refine sN<|cT<|gU Z<|sG (.d (al.pd (al.mk (aa.mk 0 0 0) 0 0 0 (ah.mk (aa.mk 0 0 0) (aa.mk 0 0 0)))))<|sH 64 (.var zZ0)<|sV (r0)<|sV (rI 25)<|sN<|qR ?_
   cases oI h
   exact⟨nofun,rfl,rfl⟩
  refine sN<|cF<|qK<|gU Z<|mM Z<|bE h fun f3 a8 h=>WO.uf a8 Z Z Z Z Z Z Z Z<|sV (.elt 736 0 (p).toNat 7)<|bE h fun a5 a9 h=>WO.yI (g:=bn.pd) (u:=[]) (sz:=1) a9 (fun _=>Z) (fun _=>Nat.le_of_ble_eq_true Z) Z Z Z Z Z Z Z Z Z Z Z<|sN<|gU Z<|sM Z<|sM Z ?_
  refine bE h fun f4 b0 h=>WO.uf b0 Z Z Z Z Z Z Z Z<|sV (.elt 736 0 (p).toNat 0)<|bE h fun f5 b3 h=>WO.ry b3 Z Z Z Z Z Z<|bE h fun c b4 h=>cD (ce b4)<|sB (.ptr 224 0) 224 (.var [r0,r0,r0])<|sS 224 (.var (aa.rc c))<|sN<|gU Z<|sV (.d (ai.pd a0))<|sV (.d (aa.pd c))<|bE h fun f b5 h=>cR (.tup [rI f.1,rI f.2.1,rI f.2.2]) [] (ce b5) ?_
  refine sM Z<|sV (rI f.1)<|sV (rI f.2.1)<|sV (rI f.2.2)<|sA Z<|sA Z<|sA Z<|sN<|EM (α:=Int×Int×Int×Int×Int) (fun x G F=>pK prog 0 (A G F) (bi.at_ 97 0 19)=some (A [(1,rI a1),(2,.ptr 32 0),(4,.ptr 64 0),(10,.ref 736 0),(11,.ptr 176 0),(12,rI N),(13,rI p)] [(32,.var (ai.rc a0)),(64,.var zZ0),(176,.var [rI x.1,rI x.2.1,rI x.2.2.1,rI x.2.2.2.1,rI x.2.2.2.2,r0,r0,r0,r0,r0,r0,r0]),(736,.arr 0 202 (a5.map bn.pd))])) (fun x=>cj a5 p a0 N x.1 x.2.1 x.2.2.1 x.2.2.2.1 x.2.2.2.2=some L) ?_ ?_
  ·refine gU Z<|sM Z<|sF h ?_ ?_<;>intro h
   ·refine sM Z<|k3<|sK<|sT<|sM Z<|k3<|k3<|sK<|sK ?_
    refine k3<|sT<|sN<|cT<|EH Z Z<|sV (.d (aa.pd c))<|mM Z<|sV (.ptr 176 0)<|sS 176 (.var (aa.rc c++[rI q,rI l,r0,r0,r0,r0,r0,r0,r0]))<|sV (.ptr 176 3)<|sS 176 (.var (aa.rc c++[rI f.1,rI l,r0,r0,r0,r0,r0,r0,r0]))<|sV (.ptr 176 4) ?_
    exact sS 176 (.var (aa.rc c++[rI f.1,rI f.2.1,r0,r0,r0,r0,r0,r0,r0]))<|sN<|⟨(c.fX,c.fY,c.fZ,f.1,f.2.1),rfl,h⟩
   refine mM Z<|sV (.ptr 176 4)<|sL Z<|sV (rB (decide (f.2.1<l)))<|sF h ?_ ?_<;>intro h
   ·refine sM Z<|k3<|k3<|k3<|sK<|sK<|sT<|sN<|cT ?_
    exact EH rfl rfl<|sV (.d (aa.pd c))<|sM rfl<|sM rfl<|sV (.ptr 176 0)<|sS 176 (.var (aa.rc c++[rI q,rI l,r0,r0,r0,r0,r0,r0,r0]))<|sV (.ptr 176 3)<|sS 176 (.var (aa.rc c++[rI f.1,rI l,r0,r0,r0,r0,r0,r0,r0]))<|sV (.ptr 176 4)<|sS 176 (.var (aa.rc c++[rI f.1,rI f.2.1,r0,r0,r0,r0,r0,r0,r0]))<|sN<|⟨(c.fX,c.fY,c.fZ,f.1,f.2.1),rfl,h⟩
   refine mM Z<|sV (.ptr 176 4)<|sL Z<|sF h ?_ ?_<;>intro h
   ·refine sM Z<|sV (.d (aa.pd c))<|sV (.ptr 176 0)<|sV (.d (aa.pd (aa.mk s7 s8 s9)))<|bE h fun a6 c5 h=>cD (ce c5)<|sV (rB (decide (a6<(0:Int))))<|sV (rB (decide (a6<(0:Int))))<|sF h ?_ ?_<;>intro h
    ·exact sN<|cT<|EH rfl rfl<|sV (.d (aa.pd c))<|sM rfl<|sM rfl<|sV (.ptr 176 0)<|sS 176 (.var (aa.rc c++[rI q,rI l,r0,r0,r0,r0,r0,r0,r0]))<|sV (.ptr 176 3)<|sS 176 (.var (aa.rc c++[rI f.1,rI l,r0,r0,r0,r0,r0,r0,r0]))<|sV (.ptr 176 4)<|sS 176 (.var (aa.rc c++[rI f.1,rI f.2.1,r0,r0,r0,r0,r0,r0,r0]))<|sN<|⟨(c.fX,c.fY,c.fZ,f.1,f.2.1),rfl,h⟩
    exact sN<|cF<|qK<|⟨(s7,s8,s9,q,l),rfl,h⟩
   exact sM rfl<|k3<|sK<|sK<|sU<|sU<|sN<|cF<|qK<|⟨(s7,s8,s9,q,l),rfl,h⟩
  rintro⟨e4,e5,e6,e9,f0⟩ G F E h
  refine gS Z E<|sM Z<|sV (rI (rW (N+(1:Int))))<|sA Z<|sN<|gU Z<|mM Z<|bE h fun f6 b6 h=>WO.uf b6 Z Z Z Z Z Z Z Z<|sV (.elt 736 0 (p).toNat 0)<|bE h fun g0 c0 h=>WO.ry c0 Z Z Z Z Z Z<|bE h fun j c1 h=>cR (.tup [.d (ah.pd j.1),.d (ah.pd j.2.1),rB j.2.2]) [] (ce c1) ?_
  refine sM Z<|sV (.d (ah.pd j.1))<|sV (.d (ah.pd j.2.1))<|sV (rB j.2.2)<|sB (.ptr 288 0) 288 (.var [r0,r0,r0,r0,r0,r0])<|sB (.ptr 304 0) 304 (.var [r0,r0,r0,r0,r0,r0])<|sH 288 (.var (ah.rc j.1))<|sH 304 (.var (ah.rc j.2.1))<|sA Z<|sN<|gU Z<|sF h ?_ ?_<;>intro h
  ·refine sN<|cT<|gU Z<|sV (.d (ai.pd a0))<|sV (.d (ah.pd j.1))<|bE h fun B c2 h=>cR (.tup [rI B.1,rI B.2]) [] (ce c2)<|sM Z<|sV (rI B.1)<|sV (rI B.2)<|sA Z<|sA Z<|sN<|gU Z<|sV (.d (ai.pd a0)) ?_
   refine sV (.d (ah.pd j.2.1))<|bE h fun C c3 h=>cR (.tup [rI C.1,rI C.2]) [] (ce c3)<|sM Z<|sV (rI C.1)<|sV (rI C.2)<|sA Z<|sA Z<|sN<|EH Z Z<|sM Z<|sV (.d (ah.pd j.1))<|sM Z<|sG (.d (bn.pd (bn.mk j.1 B.1 false)))<|sV (.d (ah.pd j.2.1)) ?_
   refine sM Z<|sG (.d (bn.pd (bn.mk j.2.1 C.1 false)))<|sG (.d (.lst ([(bn.mk j.1 B.1 false),(bn.mk j.2.1 C.1 false)].map bn.pd)))<|bE h fun g1 c4 h=>aR c4 (fun _=>Z) Z<|sA Z<|sN ?_
   cases oI h
   exact⟨rfl,rfl⟩
  refine sN<|cF<|qK ?_
  cases oI h
  exact⟨rfl,rfl⟩
 intro e G F he hq
 rcases e1 with a|f2
 ·obtain⟨rfl,E⟩:=hq
  refine qE<|gS Z E<|sV (.ptr 176 4)<|sL Z<|sV (.ptr 176 0)<|sV (.d (aa.pd (aa.mk a.2.2.1 a.2.2.2.1 a.2.2.2.2.1)))<|sV (.ptr 176 0)<|sV (.d (aa.pd (aa.mk a.2.2.1 a.2.2.2.1 a.2.2.2.2.1)))<|sG (.d (ah.pd (ah.mk (aa.mk a.2.2.1 a.2.2.2.1 a.2.2.2.2.1) (aa.mk a.2.2.1 a.2.2.2.1 a.2.2.2.2.1))))<|sV (.ptr 176 5)<|sS 176 (.var [rI a.2.2.1,rI a.2.2.2.1,rI a.2.2.2.2.1,rI a.2.2.2.2.2.1,rI a.2.2.2.2.2.2,rI a.2.2.2.2.2.2,r0,r0,r0,r0,r0,r0])<|sV (.ptr 176 6)<|sH 176 (.var [rI a.2.2.1,rI a.2.2.2.1,rI a.2.2.2.2.1,rI a.2.2.2.2.2.1,rI a.2.2.2.2.2.2,rI a.2.2.2.2.2.2,rI a.2.2.1,rI a.2.2.2.1,rI a.2.2.2.2.1,rI a.2.2.1,rI a.2.2.2.1,rI a.2.2.2.2.1])<|sN<|qS ?_
  refine gU Z<|sV (r0)<|sN<|bE h fun k K h=>EI (EJ (WL.qz K (fun s=>gI 0 97 27 [(4,.ptr 64 0),(10,.ref 736 0),(11,.ptr 176 0),(12,rI a.1),(25,rI s.1)] [(64,.var zZ0),(176,.var [rI a.2.2.1,rI a.2.2.2.1,rI a.2.2.2.2.1,rI a.2.2.2.2.2.1,rI a.2.2.2.2.2.2,rI s.2.1,rI s.2.2.1,rI s.2.2.2.1,rI s.2.2.2.2.1,rI s.2.2.2.2.2.1,rI s.2.2.2.2.2.2.1,rI s.2.2.2.2.2.2.2]),(736,.arr 0 202 (a.2.1.map bn.pd))]) (fun o=>gX 2 0 97 31 [(4,.ptr 64 0),(11,.ptr 176 0),(12,rI a.1)] [(64,.var zZ0),(176,.var [rI a.2.2.1,rI a.2.2.2.1,rI a.2.2.2.2.1,rI a.2.2.2.2.2.1,rI a.2.2.2.2.2.2,rI o.1,rI o.2.1,rI o.2.2.1,rI o.2.2.2.1,rI o.2.2.2.2.1,rI o.2.2.2.2.2.1,rI o.2.2.2.2.2.2])]) Z ?_ ?_))
  ·rintro⟨t,z,O,Q,T,W,X,Y⟩ G F f1 E h
   refine qS<|gS Z E<|mM Z<|WO.lenR Z Z Z Z Z Z Z Z Z<|sF h ?_ ?_<;>intro h
   ·refine sN<|cT<|qK<|qS<|qB<|EK Z Z<|mM Z<|bE h fun g3 c8 h=>WO.uf c8 Z Z Z Z Z Z Z Z<|sV (.elt 736 0 (t).toNat 7)<|bE h fun g4 c9 h=>WO.ry c9 Z Z Z Z Z Z<|sF h ?_ ?_<;>intro h
    ·refine mM Z<|sM Z<|bE h fun g5 d0 h=>WO.uf d0 Z Z Z Z Z Z Z Z<|sV (.elt 736 0 (t).toNat 6)<|bE h fun e2 d1 h=>WO.ry d1 Z Z Z Z Z Z<|sV (.ptr 176 4)<|sL Z<|sV (rB (decide (e2.bY<a.2.2.2.2.2.2)))<|sF h ?_ ?_<;>intro h
     ·refine sN<|sO<|cT<|WC.uK Z Z<|sV (.ptr 176 5)<|sL Z<|mM Z<|bE h fun g6 d2 h=>WO.uf d2 Z Z Z Z Z Z Z Z<|sV (.elt 736 0 (t).toNat 6)<|bE h fun D d3 h=>WO.ry d3 Z Z Z Z Z Z<|sV (rI (if D.bY<z then D.bY else z))<|sV (.ptr 176 6)<|sV (.d (ah.pd (ah.mk (aa.mk O Q T) (aa.mk W X Y)))) ?_
      refine mM Z<|bE h fun g7 d4 h=>WO.uf d4 Z Z Z Z Z Z Z Z<|sV (.elt 736 0 (t).toNat 0)<|bE h fun g8 d5 h=>WO.ry d5 Z Z Z Z Z Z<|bE h fun e3 e0 h=>cD (ce e0)<|sV (.ptr 176 5)<|sS 176 (.var [rI a.2.2.1,rI a.2.2.2.1,rI a.2.2.2.2.1,rI a.2.2.2.2.2.1,rI a.2.2.2.2.2.2,rI (if D.bY<z then D.bY else z),rI O,rI Q,rI T,rI W,rI X,rI Y])<|sV (.ptr 176 6)<|sH 176 (.var (rI a.2.2.1::rI a.2.2.2.1::rI a.2.2.2.2.1::rI a.2.2.2.2.2.1::rI a.2.2.2.2.2.2::rI (if D.bY<z then D.bY else z)::ah.rc e3)) ?_
      refine sN<|sO<|EH Z Z<|sM Z<|sV (rI (rW (t+(1:Int))))<|sA Z<|sN ?_
      cases oI h
      exact⟨rfl,rfl⟩
     refine sN<|sO<|cF<|qK<|EH Z Z<|sM Z<|sV (rI (rW (t+(1:Int))))<|sA Z<|sN ?_
     cases oI h
     exact⟨rfl,rfl⟩
    refine sM Z<|k3<|k3<|sK<|sK<|sU ?_
    refine sN<|sO<|cF<|qK<|EH Z Z<|sM Z<|sV (rI (rW (t+(1:Int))))<|sA Z<|sN ?_
    cases oI h
    exact⟨rfl,rfl⟩
   refine sN<|cF<|qX ?_
   cases oI h
   exact⟨nofun,rfl,rfl⟩
  intro e G F he hq
  obtain⟨rfl,E⟩:=hq
  refine qE<|gS Z E<|sV (.d (al.pd (al.mk (aa.mk a.2.2.1 a.2.2.2.1 a.2.2.2.2.1) a.2.2.2.2.2.1 a.2.2.2.2.2.2 k.1 (ah.mk (aa.mk k.2.1 k.2.2.1 k.2.2.2.1) (aa.mk k.2.2.2.2.1 k.2.2.2.2.2.1 k.2.2.2.2.2.2)))))<|sM Z<|sH 64 (.var [rI a.2.2.1,rI a.2.2.2.1,rI a.2.2.2.2.1,rI a.2.2.2.2.2.1,rI a.2.2.2.2.2.2,rI k.1,rI k.2.1,rI k.2.2.1,rI k.2.2.2.1,rI k.2.2.2.2.1,rI k.2.2.2.2.2.1,rI k.2.2.2.2.2.2])<|sA Z<|sV (r0)<|sN<|qR ?_
  cases oI h
  exact qG
 obtain⟨rfl,hf⟩:=hq
 cases oI h
 exact hf
instance {a0:ai}{a1:Int}:CE prog bi ext (lH a0 a1) 97 [.d (ai.pd a0),rI a1] [] fun r=>(.tup [.d (al.pd r.1),rI r.2.1,rI r.2.2],[]):=⟨fun h=>ref28_search_ev h⟩
section
attribute [local irreducible] HM HU HF HB WO WC QS QB sR
instance {a0:ai}{a1:Int}:CE prog bi ext (lG a0 a1) 54 [.d (ai.pd a0),rI a1] [] fun r=>(.tup [.d (al.pd r.1),rI r.2],[]):=⟨fun h=>Ev.au h Tryz.func54⟩
instance :LI (dO) 4 (fun s=>[(0,rI s.1)]) (fun s=>[(208,.arr 0 3 (s.2.map (PD.int .i64)))]) (jX 7 (fun o=>[]) fun o=>[(208,.arr 0 3 (o.map (PD.int .i64)))]):=⟨⟩
instance {a0:Int}:CE prog bi ext (m8 a0) 275 [rI a0] [] fun r=>(.tup [rL r.1,rI r.2],[]):=⟨fun h=>Ev.au h Tryz.func275⟩
instance {a0:(List Int)}:LI (l7 a0) 2 (fun s=>[(3,rI s)]) (fun s=>[]) (jY 6 (fun y=>[]) (fun y=>[]) Tryz.f198 fun r=>(rB r,[])):=⟨⟩
instance {a0:(List Int)}:CE prog bi ext (eM a0) 198 [rL a0] [] fun r=>(rB r,[]):=⟨fun h=>Ev.au h Tryz.func198⟩
instance :LI (om) 1 (fun s=>[(0,rL s)]) (fun s=>[]) (jX 3 (fun o=>[(0,rL o)]) fun o=>[]):=⟨⟩
instance {a0:(List Int)}:CE prog bi ext (ref17_trim a0) 291 [rL a0] [] fun r=>(rL r,[]):=⟨fun h=>Ev.au h Tryz.func291⟩
instance {a0:(List Int)}{a1:(List Int)}:LI (gV a0 a1) 3 (fun s=>[(6,rI s.1)]) (fun s=>[(224,.arr 0 3 (s.2.map (PD.int .i64)))]) (jX 14 (fun o=>[]) fun o=>[(224,.arr 0 3 (o.map (PD.int .i64)))]):=⟨⟩
instance {a1:(List Int)}{s2:Int}{a0:(List Int)}:LI (dJ a1 s2 a0) 7 (fun s=>[(7,rI s.1),(8,rI s.2.1)]) (fun s=>[(224,.arr 0 3 (s.2.2.map (PD.int .i64)))]) (jX 4 (fun o=>[(6,rI o.1)]) fun o=>[(224,.arr 0 3 (o.2.map (PD.int .i64)))]):=⟨⟩
instance {a0:(List Int)}{a1:(List Int)}:CE prog bi ext (mS a0 a1) 278 [rL a0,rL a1] [] fun r=>(rL r,[]):=⟨fun h=>Ev.au h Tryz.func278⟩
instance {a0:(List Int)}:CE prog bi ext (ed a0) 277 [rL a0] [] fun r=>(.tup [rL r.1,rI r.2],[]):=⟨fun h=>Ev.au h Tryz.func277⟩
instance {a0:(List Int)}{a1:(List Int)}:CE prog bi ext (kJ a0 a1) 250 [rL a0,rL a1] [] fun r=>(.tup [rL r.1,rI r.2],[]):=⟨fun h=>Ev.au h Tryz.func250⟩
instance {a0:Int}:CE prog bi ext (eF a0) 247 [rI a0] [] fun r=>(rL r,[]):=⟨fun h=>Ev.au h Tryz.func247⟩
instance {a0:(List Int)}{a1:(List Int)}:LI (ec a0 a1) 6 (fun s=>[(7,rI s.1),(8,rI s.2.1)]) (fun s=>[(912,.arr 0 3 (s.2.2.map (PD.int .i64)))]) (jX 14 (fun o=>[]) fun o=>[(912,.arr 0 3 (o.map (PD.int .i64)))]):=⟨⟩
instance {a0:(List Int)}{a1:(List Int)}:CE prog bi ext (od a0 a1) 276 [rL a0,rL a1] [] fun r=>(.tup [rL r.1,rI r.2],[]):=⟨fun h=>Ev.au h Tryz.func276⟩
instance {a0:bB}{a1:Int}{a2:Int}:CE prog bi ext (gK a0 a1 a2) 248 [.d (bB.pd a0),rI a1,rI a2] [] fun r=>(rL r,[]):=⟨fun h=>Ev.au h Tryz.func248⟩
instance {a0:bq}{a1:Int}{a2:Int}:CE prog bi ext (nf a0 a1 a2) 194 [.d (bq.pd a0),rI a1,rI a2] [] fun r=>(.d (bo.pd r),[]):=⟨fun h=>Ev.au h Tryz.func194⟩
instance {a0:bo}:CE prog bi ext (ez a0) 249 [.d (bo.pd a0)] [] fun r=>(rB r,[]):=⟨fun h=>Ev.au h Tryz.func249⟩
instance {a0:bo}{a1:bo}:CE prog bi ext (mu a0 a1) 195 [.d (bo.pd a0),.d (bo.pd a1)] [] fun r=>(.tup [.d (bo.pd r.1),rI r.2],[]):=⟨fun h=>Ev.au h Tryz.func195⟩
instance {a0:bp}{a1:Int}{a2:Int}:LI (dg a0 a1 a2) 7 (fun s=>[(9,rI s.1)]) (fun s=>[(128,.var [rL s.2.1,rL s.2.2])]) (jY 13 (fun y=>[]) (fun y=>[(128,.var [rL y.1,rL y.2])]) Tryz.f153 fun r=>(.tup [.d (bo.pd r.1),rI r.2],[])):=⟨⟩
instance {a0:bp}{a1:Int}{a2:Int}:CE prog bi ext (na a0 a1 a2) 153 [.d (bp.pd a0),rI a1,rI a2] [] fun r=>(.tup [.d (bo.pd r.1),rI r.2],[]):=⟨fun h=>Ev.au h Tryz.func153⟩
instance :LI (lA) 2 (fun s=>[(0,rI s.1),(3,rI s.2)]) (fun s=>[]) (jX 5 (fun o=>[(3,rI o)]) fun o=>[]):=⟨⟩
instance {a0:Int}:CE prog bi ext (iW a0) 196 [rI a0] [] fun r=>(rI r,[]):=⟨fun h=>Ev.au h Tryz.func196⟩
instance :LI (cU) 3 (fun s=>[(1,rI s.1),(5,rI s.2.1),(6,rI s.2.2)]) (fun s=>[]) (jX 10 (fun o=>[(5,rI o)]) fun o=>[]):=⟨⟩
instance {a0:Int}{a1:Int}:CE prog bi ext (gn a0 a1) 197 [rI a0,rI a1] [] fun r=>(rI r,[]):=⟨fun h=>Ev.au h Tryz.func197⟩
instance {a0:Int}:CE prog bi ext (lR a0) 154 [rI a0] [] fun r=>(.tup [rI r.1,rI r.2],[]):=⟨fun h=>Ev.au h Tryz.func154⟩
instance {a0:(List Int)}:LI (cz a0) 8 (fun s=>[(4,rI s.1),(5,rI s.2)]) (fun s=>[]) (jX 11 (fun o=>[(4,rI o)]) fun o=>[]):=⟨⟩
instance {a0:(List Int)}:CE prog bi ext (kq a0) 155 [rL a0] [] fun r=>(.tup [rI r.1,rI r.2],[]):=⟨fun h=>Ev.au h Tryz.func155⟩
instance {a0:Int}:CE prog bi ext (me a0) 157 [rI a0] [] fun r=>(rI r,[]):=⟨fun h=>Ev.au h Tryz.func157⟩
instance {a0:Int}:CE prog bi ext (lu a0) 156 [rI a0] [] fun r=>(rI r,[]):=⟨fun h=>Ev.au h Tryz.func156⟩
instance {a0:Int}:CE prog bi ext (nk a0) 158 [rI a0] [] fun r=>(rI r,[]):=⟨fun h=>Ev.au h Tryz.func158⟩
instance {a0:bC}{a1:bp}{a2:Int}{a3:Int}{a4:Int}:CE prog bi ext (jp a0 a1 a2 a3 a4) 98 [.d (bC.pd a0),.d (bp.pd a1),rI a2,rI a3,rI a4] [] fun r=>(.tup [.d (az.pd r.1),rI r.2],[]):=⟨fun h=>Ev.au h Tryz.func98⟩
instance {a:(List ak)}{a1:ac}{a3:ah}{a0:aj}:LI (dQ a a1 a3 a0) 9 (fun s=>[(31,rI s.1)]) (fun s=>[(1072,.arr 0 52 (s.2.map az.pd))]) (jX 16 (fun o=>[]) fun o=>[(1072,.arr 0 52 (o.map az.pd))]):=⟨⟩
instance {a0:aj}{a1:ac}{a2:(List ak)}{a3:ah}:CE prog bi ext (jC a0 a1 a2 a3) 55 [.d (aj.pd a0),.d (ac.pd a1),rM ak.pd a2,.d (ah.pd a3)] [] fun r=>(.tup [rM az.pd r.1,rI r.2],[]):=⟨fun h=>Ev.au h Tryz.func55⟩
end
theorem ref32_sorted_ev{a0:(List Int)}{r:(List Int)}(h:ku a0=some r):EvP prog bi ext 159 [rL a0] [] (rL r,[]):=by
 refine Ev.body Z Tryz.func159 Z Zk<|gU Z<|sV .px<|sN<|gU Z<|sV .px<|sN<|qS<|gU Z<|sV (r0)<|sN<|bE h fun K f h=>EI (EJ (WL.qz f (fun s=>gI 0 159 3 [(0,rL a0),(3,.ref 496 0),(4,rI s.1)] [(496,.arr 0 3 (s.2.map (PD.int .i64)))]) (fun o=>gX 0 0 159 11 [(3,.ref 496 0)] [(496,.arr 0 3 (o.map (PD.int .i64)))]) Z ?_ ?_))
 ·rintro⟨s1,s2⟩ l k q4 a h
  refine qS<|gS Z a<|mM Z<|sE (rI (a0.length:Int)) (qy _ _)<|sF h ?_ ?_<;>intro h
  ·refine sN<|cT<|qK<|qS<|qB<|gU Z<|sV (r0)<|sN<|qS<|bE h fun j c h=>EI (EJ (WL.qz c (fun s=>gI 0 159 6 [(0,rL a0),(3,.ref 496 0),(4,rI s1),(5,rI s)] [(496,.arr 0 3 (s2.map (PD.int .i64)))]) (fun o=>gX 2 0 159 8 [(0,rL a0),(3,.ref 496 0),(4,rI o.1),(5,rI o.2.1)] [(496,.arr 0 3 (o.2.2.map (PD.int .i64)))]) Z ?_ ?_))
   ·rintro N l k L a h
    refine qS<|EK a Z<|mM Z<|WO.lenR Z Z Z Z Z Z Z Z Z<|sF h ?_ ?_<;>intro h
    ·refine mM Z<|sM Z<|bE h fun O q h=>WO.uf q Z Z Z Z Z Z Z Z<|bE h fun H t h=>WO.ry t Z Z Z Z Z Z<|mM Z<|bE h fun I u h=>eG u Z<|sC Z<|sV (rB (decide (H<I)))<|sF h ?_ ?_<;>intro h
     ·refine sN<|sO<|cT<|qK<|qB<|EH Z Z<|sM Z<|sV (rI (rW (N+(1:Int))))<|sA Z<|sN ?_
      cases oI h
      exact⟨rfl,rfl⟩
     refine sN<|sO<|cF<|qX ?_
     cases oI h
     exact⟨nofun,rfl,rfl⟩
    refine sM Z<|k3<|k3<|k3<|sU ?_
    refine sN<|sO<|cF<|qX ?_
    cases oI h
    exact⟨nofun,rfl,rfl⟩
   intro e l k he G
   obtain⟨rfl,a⟩:=G
   refine qE<|gS Z a<|sM Z<|sV (.d (.lst ([0].map (PD.int .i64))))<|bE h fun Q x h=>aR x (fun _=>Z) Z<|sA Z<|sN<|EK Z Z<|mM Z<|sV (rI (rW (j.2.1+(1:Int))))<|bE h fun T y h=>WO.subR y Z Z Z Z Z Z Z Z Z Z Z Z<|sM Z ?_
   refine sM Z<|bE h fun W z h=>WO.subR z Z Z Z Z Z Z Z Z Z Z Z Z<|bE h fun X B h=>bE h fun Y C h=>WO.copyG Z Z Z Z Z Z Z Z (yf B Z) (AM C Z) Z Z (fun _=>Z) ?_
   refine sN<|sO<|EH Z Z<|mM Z<|mM Z<|bE h fun J D h=>eG D Z<|sC Z<|bE h fun a5 E h=>WO.uf E Z Z Z Z Z Z Z Z<|bE h fun a6 F h=>WO.yH (g:=(PD.int .i64)) (sz:=1) (p:= .int .i64 J) F (fun _=>Z) (fun _=>Z) Z Z Z Z Z Z Z Z Z<|sN<|EH Z Z ?_
   refine sM Z<|sV (rI (rW (j.1+(1:Int))))<|sA Z<|sN ?_
   cases oI h
   exact⟨rfl,rfl⟩
  refine sN<|cF<|qX ?_
  cases oI h
  exact⟨nofun,rfl,rfl⟩
 intro e l k he G
 obtain⟨rfl,a⟩:=G
 refine qE<|gS Z a<|sM Z<|sA Z<|sN<|qR ?_
 exact oI h▸qD
instance {a0:(List Int)}:CE prog bi ext (ku a0) 159 [rL a0] [] fun r=>(rL r,[]):=⟨fun h=>ref32_sorted_ev h⟩
section
attribute [local irreducible] HM HU HF HB WO WC QS QB sR
instance {a0:(List Int)}:CE prog bi ext (kr a0) 99 [rL a0] [] fun r=>(rI r,[]):=⟨fun h=>Ev.au h Tryz.func99⟩
instance {a0:(List az)}:LI (ic a0) 5 (fun s=>[(6,rI s.1)]) (fun s=>[(576,.arr 0 3 (s.2.1.map (PD.int .i64))),(704,.arr 0 3 (s.2.2.map (PD.int .i64)))]) (jY 10 (fun y=>[]) (fun y=>[(576,.arr 0 3 (y.1.map (PD.int .i64))),(704,.arr 0 3 (y.2.map (PD.int .i64)))]) Tryz.f56 fun r=>(.tup [.d (az.pd r.1),rI r.2],[])):=⟨⟩
instance {a0:(List az)}:CE prog bi ext (jo a0) 56 [rM az.pd a0] [] fun r=>(.tup [.d (az.pd r.1),rI r.2],[]):=⟨fun h=>Ev.au h Tryz.func56⟩
instance {a0:aj}{a1:ac}{a2:(List ak)}:CE prog bi ext (mw a0 a1 a2) 20 [.d (aj.pd a0),.d (ac.pd a1),rM ak.pd a2] [] fun r=>(.tup [.d (bu.pd r.1),rI r.2],[]):=⟨fun h=>Ev.au h Tryz.func20⟩
instance {a0:(List ak)}{a1:(List ak)}:LI (dY a0 a1) 4 (fun s=>[(5,rI s)]) (fun s=>[]) (jY 8 (fun y=>[]) (fun y=>[]) Tryz.f57 fun r=>(rB r,[])):=⟨⟩
instance {a0:(List ak)}{a1:(List ak)}:CE prog bi ext (jF a0 a1) 57 [rM ak.pd a0,rM ak.pd a1] [] fun r=>(rB r,[]):=⟨fun h=>Ev.au h Tryz.func57⟩
instance {a0:bu}{a1:bu}:CE prog bi ext (mf a0 a1) 21 [.d (bu.pd a0),.d (bu.pd a1)] [] fun r=>(rB r,[]):=⟨fun h=>Ev.au h Tryz.func21⟩
instance {a0:(List ak)}{a1:(List ak)}:LI (fx a0 a1) 4 (fun s=>[(13,rI s)]) (fun s=>[]) (jY 9 (fun y=>[]) (fun y=>[]) Tryz.f58 fun r=>(rB r,[])):=⟨⟩
instance {a0:(List ak)}{a1:(List ak)}:CE prog bi ext (ig a0 a1) 58 [rM ak.pd a0,rM ak.pd a1] [] fun r=>(rB r,[]):=⟨fun h=>Ev.au h Tryz.func58⟩
instance {a0:bu}{a1:bu}:CE prog bi ext (lg a0 a1) 22 [.d (bu.pd a0),.d (bu.pd a1)] [] fun r=>(rB r,[]):=⟨fun h=>Ev.au h Tryz.func22⟩
end
theorem mO{a0:aj}{a1:ac}{a2:(List ak)}{a3:(List Int)}{r:Bool}(h:fk a0 a1 a2 a3=some r):EvP prog bi ext 3 [.d (aj.pd a0),.d (ac.pd a1),rM ak.pd a2,rL a3] [] (rB r,[]):=by
 refine Ev.body Z Tryz.func3 Z Zk<|gU Z<|sB (.ptr 64 0) 64 (.var (aj.rc a0))<|sB (.ptr 80 0) 80 (.var [rM aq.pd a1.bg])<|sU<|sN<|qS<|gU Z<|sV (.d (aj.pd a0))<|bE h fun x1 h1 h=>cD (ce h1)<|sF h ?_ ?_<;>intro h
 ·refine sM Z<|k3<|sT<|sM Z<|k3<|sT<|sN<|cT<|gU Z<|bE h fun x3 h3 h=>cD (oL h3) ?_
  refine sA Z<|sN<|qR ?_
  cases oI h
  exact qG
 refine sM Z<|sV (.d (ac.pd a1))<|bE h fun x4 h4 h=>cD (ce h4)<|sV (rB (!x4))<|sF h ?_ ?_<;>intro h
 ·refine sM Z<|k3<|sT<|sN<|cT<|gU Z<|bE h fun x6 h6 h=>cD (oL h6)<|sA Z<|sN<|qR ?_
  cases oI h
  exact qG
 refine mM Z<|sE (rI (a2.length:Int)) (qy _ _)<|sV (rB (decide ((a2.length:Int)>(12:Int))))<|sF h ?_ ?_<;>intro h
 ·refine sN<|cT<|gU Z<|bE h fun x8 h8 h=>cD (oL h8)<|sA Z<|sN<|qR ?_
  cases oI h
  exact qG
 refine sN<|cF<|qK<|gU Z<|sM Z<|bE h fun x9 h9 h=>cR (.ptr 816 0) [(816,.var (ag.rc x9))] (ce h9)<|sA Z<|sN<|gU Z<|sM Z<|bE h fun c i7 h=>cR (.d (aj.pd c.1)) [(816,.var (ag.rc c.2))] (ce i7)<|sM Z<|bE h fun f i8 h=>?_
 refine cR (.d (ac.pd f.1)) [(816,.var (ag.rc f.2))] (ce i8)<|sB (.ptr 160 0) 160 (.var [r0,r0,r0,r0,r0,r0,r0,.px,.px,r0,r0,r0,r0,r0,r0,.px,.px,r0,r0,r0])<|sB (.ptr 176 0) 176 (.var [.px])<|sH 160 (.var (aj.rc c.1))<|sS 176 (.var [rM aq.pd f.1.bg])<|sN<|gU Z<|sM Z<|sV (.d (aj.pd c.1))<|sV (.d (.agg [.lst (f.1.bg.map aq.pd)]))<|bE h fun p j1 h=>cR (rM ak.pd p.1) [(816,.var (ag.rc p.2))] (ce j1)<|sA Z<|sN<|EK Z Z ?_
 refine sM Z<|sV (.d (aj.pd c.1))<|bE h fun g j2 h=>cR (.d (aj.pd g.1)) [(816,.var (ag.rc g.2))] (oe j2)<|sM Z<|sV (.d (.agg [.lst (f.1.bg.map aq.pd)]))<|bE h fun j j3 h=>cR (.d (ac.pd j.1)) [(816,.var (ag.rc j.2))] (nA j3)<|sB (.ptr 208 0) 208 (.var [r0,r0,r0,r0,r0,r0,r0,.px,.px,r0,r0,r0,r0,r0,r0,.px,.px,r0,r0,r0])<|sB (.ptr 224 0) 224 (.var [.px])<|sH 208 (.var (aj.rc g.1))<|sS 224 (.var [rM aq.pd j.1.bg]) ?_
 refine sN<|sO<|EM (α:=Int×Int×Int×Int×Int×Int×Int×(List Int)×(List Int)×Int×Int×Int×Int×Int×Int×(List Int)×(List Int)×Int×Int×Int) (fun x R' B'=>pK prog 0 (A R' B') (bi.at_ 3 0 9)=some (A [(2,rM ak.pd a2),(4,.ptr 64 0),(5,.ptr 80 0),(10,.ptr 160 0),(11,.ptr 176 0),(12,rM ak.pd p.1),(13,.ptr 208 0),(14,.ptr 224 0)] [(64,.var (aj.rc a0)),(80,.var [rM aq.pd a1.bg]),(160,.var (aj.rc c.1)),(176,.var [rM aq.pd f.1.bg]),(208,.var [rI x.1,rI x.2.1,rI x.2.2.1,rI x.2.2.2.1,rI x.2.2.2.2.1,rI x.2.2.2.2.2.1,rI x.2.2.2.2.2.2.1,rL x.2.2.2.2.2.2.2.1,rL x.2.2.2.2.2.2.2.2.1,rI x.2.2.2.2.2.2.2.2.2.1,rI x.2.2.2.2.2.2.2.2.2.2.1,rI x.2.2.2.2.2.2.2.2.2.2.2.1,rI x.2.2.2.2.2.2.2.2.2.2.2.2.1,rI x.2.2.2.2.2.2.2.2.2.2.2.2.2.1,rI x.2.2.2.2.2.2.2.2.2.2.2.2.2.2.1,rL x.2.2.2.2.2.2.2.2.2.2.2.2.2.2.2.1,rL x.2.2.2.2.2.2.2.2.2.2.2.2.2.2.2.2.1,rI x.2.2.2.2.2.2.2.2.2.2.2.2.2.2.2.2.2.1,rI x.2.2.2.2.2.2.2.2.2.2.2.2.2.2.2.2.2.2.1,rI x.2.2.2.2.2.2.2.2.2.2.2.2.2.2.2.2.2.2.2]),(224,.var [rM aq.pd j.1.bg])])) (fun x=>dS c a0 f a1 j p a2 x.1 x.2.1 x.2.2.1 x.2.2.2.1 x.2.2.2.2.1 x.2.2.2.2.2.1 x.2.2.2.2.2.2.1 x.2.2.2.2.2.2.2.1 x.2.2.2.2.2.2.2.2.1 x.2.2.2.2.2.2.2.2.2.1 x.2.2.2.2.2.2.2.2.2.2.1 x.2.2.2.2.2.2.2.2.2.2.2.1 x.2.2.2.2.2.2.2.2.2.2.2.2.1 x.2.2.2.2.2.2.2.2.2.2.2.2.2.1 x.2.2.2.2.2.2.2.2.2.2.2.2.2.2.1 x.2.2.2.2.2.2.2.2.2.2.2.2.2.2.2.1 x.2.2.2.2.2.2.2.2.2.2.2.2.2.2.2.2.1 x.2.2.2.2.2.2.2.2.2.2.2.2.2.2.2.2.2.1 x.2.2.2.2.2.2.2.2.2.2.2.2.2.2.2.2.2.2.1 x.2.2.2.2.2.2.2.2.2.2.2.2.2.2.2.2.2.2.2=some r) ?_ ?_
 ·refine gU Z<|sV (.d (aj.pd g.1))<|bE h fun l2 e4 h=>cD (ce e4)<|sF h ?_ ?_<;>intro h
  ·exact sN<|cT<|EH rfl rfl<|sV (.d (aj.pd c.1))<|sH 208 (.var (aj.rc c.1))<|sN<|⟨(c.1.ae.bk.bh.fX,c.1.ae.bk.bh.fY,c.1.ae.bk.bh.fZ,c.1.ae.bk.av.fX,c.1.ae.bk.av.fY,c.1.ae.bk.av.fZ,c.1.ae.bJ.bS,c.1.ae.bJ.bh,c.1.ae.bJ.av,c.1.ae.dL,c.1.ae.bz,c.1.ae.ey,c.1.ae.dq,c.1.ae.dp,c.1.bN.bF.bS,c.1.bN.bF.bh,c.1.bN.bF.av,c.1.bN.bI,c.1.bN.bG,c.1.bz),rfl,h⟩
  exact sN<|cF<|qK<|⟨(g.1.ae.bk.bh.fX,g.1.ae.bk.bh.fY,g.1.ae.bk.bh.fZ,g.1.ae.bk.av.fX,g.1.ae.bk.av.fY,g.1.ae.bk.av.fZ,g.1.ae.bJ.bS,g.1.ae.bJ.bh,g.1.ae.bJ.av,g.1.ae.dL,g.1.ae.bz,g.1.ae.ey,g.1.ae.dq,g.1.ae.dp,g.1.bN.bF.bS,g.1.bN.bF.bh,g.1.bN.bF.av,g.1.bN.bI,g.1.bN.bG,g.1.bz),rfl,h⟩
 rintro⟨E,F,G,H,I,J,K,L,N,O,Q,T,W,X,Y,a5,a6,a7,a8,a9⟩ R' B' hI h
 refine gS Z hI<|sB (.ptr 240 0) 240 (.var [.px,r0,r0,r0,r0,r0,r0,r0,r0,r0,r0,r0,r0,r0,r0,r0])<|sN<|qS<|gU Z<|sV (.d (aj.pd c.1))<|sV (.d (aj.pd a0))<|sV (.d (aj.pd (aj.mk (bt.mk (ah.mk (aa.mk E F G) (aa.mk H I J)) (aw.mk K L N) O Q T W X) (bC.mk (aw.mk Y a5 a6) a7 a8) a9)))<|sG (.d (.lst ([c.1,a0,(aj.mk (bt.mk (ah.mk (aa.mk E F G) (aa.mk H I J)) (aw.mk K L N) O Q T W X) (bC.mk (aw.mk Y a5 a6) a7 a8) a9)].map aj.pd)))<|sV (rI 3)<|sV (r0)<|sN<|bE h fun f1 c4 h=>EI (EJ (WL.qz c4 (fun s=>gI 0 3 11 [(2,rM ak.pd a2),(5,.ptr 80 0),(11,.ptr 176 0),(12,rM ak.pd p.1),(14,.ptr 224 0),(15,.ptr 240 0),(73,.d (.lst ([c.1,a0,(aj.mk (bt.mk (ah.mk (aa.mk E F G) (aa.mk H I J)) (aw.mk K L N) O Q T W X) (bC.mk (aw.mk Y a5 a6) a7 a8) a9)].map aj.pd))),(74,rI 3),(75,rI s.1)] [(80,.var [rM aq.pd a1.bg]),(176,.var [rM aq.pd f.1.bg]),(224,.var [rM aq.pd j.1.bg]),(240,.var [rM ak.pd s.2.1,rI s.2.2.1,rI s.2.2.2.1,rI s.2.2.2.2.1,rI s.2.2.2.2.2.1,rI s.2.2.2.2.2.2.1,rI s.2.2.2.2.2.2.2.1,rI s.2.2.2.2.2.2.2.2.1,rI s.2.2.2.2.2.2.2.2.2.1,rI s.2.2.2.2.2.2.2.2.2.2.1,rI s.2.2.2.2.2.2.2.2.2.2.2.1,rI s.2.2.2.2.2.2.2.2.2.2.2.2.1,rI s.2.2.2.2.2.2.2.2.2.2.2.2.2.1,rI s.2.2.2.2.2.2.2.2.2.2.2.2.2.2.1,rI s.2.2.2.2.2.2.2.2.2.2.2.2.2.2.2.1,rI s.2.2.2.2.2.2.2.2.2.2.2.2.2.2.2.2])]) (fun o=>match o with| .inl y=>gX 0 0 3 45 [] []| .inr r=>gF 3 Tryz.f3 0 (rB r,[])) Z ?_ ?_))
 ·rintro⟨m3,m4,n2,n3,n4,n6,o1,o2,o3,o4,o5,o6,o7,o8,o9,p0,p1⟩ R' B' m1 hI h
  refine gS Z hI<|sF h ?_ ?_<;>intro h
  ·refine sN<|qS<|cT<|qK<|qS<|qB<|gU Z<|bE h fun u j4 h=>eG j4 Z<|sV (.d (aj.pd u))<|sB (.ptr 272 0) 272 (.var [r0,r0,r0,r0,r0,r0,r0,.px,.px,r0,r0,r0,r0,r0,r0,.px,.px,r0,r0,r0])<|sH 272 (.var (aj.rc u))<|sN<|qS<|EK Z Z ?_
   refine sV (.d (aj.pd u))<|bE h fun r8 j5 h=>cD (ce j5)<|sV (.d (aj.pd u))<|bE h fun r9 j6 h=>cD (ce j6)<|sF h ?_ ?_<;>intro h
   ·refine sN<|sO<|cT<|gU Z<|sU<|sN<|qR ?_
    cases oI h
    exact⟨nofun,rfl,rfl⟩
   refine sN<|sO<|cF<|qK<|gU Z<|sV (.d (.agg [.lst (f.1.bg.map aq.pd)]))<|sV (.d (ac.pd a1))<|sV (.d (.agg [.lst (j.1.bg.map aq.pd)]))<|sV (.d (.lst ([f.1,a1,j.1].map ac.pd)))<|sV (rI 3)<|sV (r0)<|sN<|bE h fun f0 c3 h=>EI (EJ (WL.qz c3 (fun s=>gI 0 3 16 [(2,rM ak.pd a2),(5,.ptr 80 0),(11,.ptr 176 0),(12,rM ak.pd p.1),(14,.ptr 224 0),(15,.ptr 240 0),(17,.ptr 272 0),(73,.d (.lst ([c.1,a0,(aj.mk (bt.mk (ah.mk (aa.mk E F G) (aa.mk H I J)) (aw.mk K L N) O Q T W X) (bC.mk (aw.mk Y a5 a6) a7 a8) a9)].map aj.pd))),(74,rI 3),(75,rI s.1),(87,.d (.lst ([f.1,a1,j.1].map ac.pd))),(88,rI 3),(89,rI s.2.1)] [(80,.var [rM aq.pd a1.bg]),(176,.var [rM aq.pd f.1.bg]),(224,.var [rM aq.pd j.1.bg]),(240,.var [rM ak.pd s.2.2.1,rI s.2.2.2.1,rI s.2.2.2.2.1,rI s.2.2.2.2.2.1,rI s.2.2.2.2.2.2.1,rI s.2.2.2.2.2.2.2.1,rI s.2.2.2.2.2.2.2.2.1,rI s.2.2.2.2.2.2.2.2.2.1,rI s.2.2.2.2.2.2.2.2.2.2.1,rI s.2.2.2.2.2.2.2.2.2.2.2.1,rI s.2.2.2.2.2.2.2.2.2.2.2.2.1,rI s.2.2.2.2.2.2.2.2.2.2.2.2.2.1,rI s.2.2.2.2.2.2.2.2.2.2.2.2.2.2.1,rI s.2.2.2.2.2.2.2.2.2.2.2.2.2.2.2.1,rI s.2.2.2.2.2.2.2.2.2.2.2.2.2.2.2.2.1,rI s.2.2.2.2.2.2.2.2.2.2.2.2.2.2.2.2.2]),(272,.var (aj.rc u))]) (fun o=>match o with| .inl y=>gX 2 0 3 44 [(2,rM ak.pd a2),(5,.ptr 80 0),(11,.ptr 176 0),(12,rM ak.pd p.1),(14,.ptr 224 0),(15,.ptr 240 0),(73,.d (.lst ([c.1,a0,(aj.mk (bt.mk (ah.mk (aa.mk E F G) (aa.mk H I J)) (aw.mk K L N) O Q T W X) (bC.mk (aw.mk Y a5 a6) a7 a8) a9)].map aj.pd))),(74,rI 3),(75,rI y.1)] [(80,.var [rM aq.pd a1.bg]),(176,.var [rM aq.pd f.1.bg]),(224,.var [rM aq.pd j.1.bg]),(240,.var [rM ak.pd y.2.1,rI y.2.2.1,rI y.2.2.2.1,rI y.2.2.2.2.1,rI y.2.2.2.2.2.1,rI y.2.2.2.2.2.2.1,rI y.2.2.2.2.2.2.2.1,rI y.2.2.2.2.2.2.2.2.1,rI y.2.2.2.2.2.2.2.2.2.1,rI y.2.2.2.2.2.2.2.2.2.2.1,rI y.2.2.2.2.2.2.2.2.2.2.2.1,rI y.2.2.2.2.2.2.2.2.2.2.2.2.1,rI y.2.2.2.2.2.2.2.2.2.2.2.2.2.1,rI y.2.2.2.2.2.2.2.2.2.2.2.2.2.2.1,rI y.2.2.2.2.2.2.2.2.2.2.2.2.2.2.2.1,rI y.2.2.2.2.2.2.2.2.2.2.2.2.2.2.2.2])]| .inr r=>gF 3 Tryz.f3 0 (rB r,[])) Z ?_ ?_))
   ·rintro⟨p2,p3,p4,p5,q0,q1,q2,q3,q4,q5,q6,r1,r2,r3,r4,r5,r6,r7⟩ R' B' m2 hI h
    refine gS Z hI<|sF h ?_ ?_<;>intro h
    ·refine sN<|qS<|cT<|qK<|qS<|qB<|gU Z<|bE h fun C j7 h=>eG j7 Z<|sV (.d (ac.pd C))<|sB (.ptr 304 0) 304 (.var [.px])<|sS 304 (.var [rM aq.pd C.bg])<|sN<|gU Z<|sM Z ?_
     refine sM Z<|sV (.d (.lst ([p.1,a2].map (fun l=>PD.lst (l.map ak.pd)))))<|sV (rI 2)<|sV (r0)<|sN<|bE h fun e9 c2 h=>EI (EJ (WL.qz c2 (fun s=>gI 0 3 19 [(2,rM ak.pd a2),(5,.ptr 80 0),(11,.ptr 176 0),(12,rM ak.pd p.1),(14,.ptr 224 0),(15,.ptr 240 0),(17,.ptr 272 0),(19,.ptr 304 0),(73,.d (.lst ([c.1,a0,(aj.mk (bt.mk (ah.mk (aa.mk E F G) (aa.mk H I J)) (aw.mk K L N) O Q T W X) (bC.mk (aw.mk Y a5 a6) a7 a8) a9)].map aj.pd))),(74,rI 3),(75,rI s.1),(87,.d (.lst ([f.1,a1,j.1].map ac.pd))),(88,rI 3),(89,rI s.2.1),(95,.d (.lst ([p.1,a2].map (fun l=>PD.lst (l.map ak.pd))))),(96,rI 2),(97,rI s.2.2.1)] [(80,.var [rM aq.pd a1.bg]),(176,.var [rM aq.pd f.1.bg]),(224,.var [rM aq.pd j.1.bg]),(240,.var [rM ak.pd s.2.2.2.1,rI s.2.2.2.2.1,rI s.2.2.2.2.2.1,rI s.2.2.2.2.2.2.1,rI s.2.2.2.2.2.2.2.1,rI s.2.2.2.2.2.2.2.2.1,rI s.2.2.2.2.2.2.2.2.2.1,rI s.2.2.2.2.2.2.2.2.2.2.1,rI s.2.2.2.2.2.2.2.2.2.2.2.1,rI s.2.2.2.2.2.2.2.2.2.2.2.2.1,rI s.2.2.2.2.2.2.2.2.2.2.2.2.2.1,rI s.2.2.2.2.2.2.2.2.2.2.2.2.2.2.1,rI s.2.2.2.2.2.2.2.2.2.2.2.2.2.2.2.1,rI s.2.2.2.2.2.2.2.2.2.2.2.2.2.2.2.2.1,rI s.2.2.2.2.2.2.2.2.2.2.2.2.2.2.2.2.2.1,rI s.2.2.2.2.2.2.2.2.2.2.2.2.2.2.2.2.2.2]),(272,.var (aj.rc u)),(304,.var [rM aq.pd C.bg])]) (fun o=>match o with| .inl y=>gX 4 0 3 43 [(2,rM ak.pd a2),(5,.ptr 80 0),(11,.ptr 176 0),(12,rM ak.pd p.1),(14,.ptr 224 0),(15,.ptr 240 0),(17,.ptr 272 0),(73,.d (.lst ([c.1,a0,(aj.mk (bt.mk (ah.mk (aa.mk E F G) (aa.mk H I J)) (aw.mk K L N) O Q T W X) (bC.mk (aw.mk Y a5 a6) a7 a8) a9)].map aj.pd))),(74,rI 3),(75,rI y.1),(87,.d (.lst ([f.1,a1,j.1].map ac.pd))),(88,rI 3),(89,rI y.2.1)] [(80,.var [rM aq.pd a1.bg]),(176,.var [rM aq.pd f.1.bg]),(224,.var [rM aq.pd j.1.bg]),(240,.var [rM ak.pd y.2.2.1,rI y.2.2.2.1,rI y.2.2.2.2.1,rI y.2.2.2.2.2.1,rI y.2.2.2.2.2.2.1,rI y.2.2.2.2.2.2.2.1,rI y.2.2.2.2.2.2.2.2.1,rI y.2.2.2.2.2.2.2.2.2.1,rI y.2.2.2.2.2.2.2.2.2.2.1,rI y.2.2.2.2.2.2.2.2.2.2.2.1,rI y.2.2.2.2.2.2.2.2.2.2.2.2.1,rI y.2.2.2.2.2.2.2.2.2.2.2.2.2.1,rI y.2.2.2.2.2.2.2.2.2.2.2.2.2.2.1,rI y.2.2.2.2.2.2.2.2.2.2.2.2.2.2.2.1,rI y.2.2.2.2.2.2.2.2.2.2.2.2.2.2.2.2.1,rI y.2.2.2.2.2.2.2.2.2.2.2.2.2.2.2.2.2]),(272,.var (aj.rc u))]| .inr r=>gF 3 Tryz.f3 0 (rB r,[])) Z ?_ ?_))
     ·rintro⟨j8,j9,k0,f2,f4,f5,f6,g0,g1,g2,g3,g4,g5,g6,g7,g8,g9,h0,h2⟩ R' B' k1 hI h
      refine gS Z hI<|sF h ?_ ?_<;>intro h
      ·refine sN<|qS<|cT<|qK<|qS<|qB<|gU Z<|bE h fun b4 c5 h=>eG c5 Z<|sC Z<|sA Z<|sN<|qS<|gU Z<|sM Z ?_
       refine sE (rI (b4.length:Int)) (qy _ _)<|sV (r0)<|sN<|bE h fun e5 c0 h=>EI (EJ (WL.qz c0 (fun s=>gI 0 3 22 [(2,rM ak.pd a2),(5,.ptr 80 0),(11,.ptr 176 0),(12,rM ak.pd p.1),(14,.ptr 224 0),(15,.ptr 240 0),(17,.ptr 272 0),(19,.ptr 304 0),(21,rM ak.pd b4),(73,.d (.lst ([c.1,a0,(aj.mk (bt.mk (ah.mk (aa.mk E F G) (aa.mk H I J)) (aw.mk K L N) O Q T W X) (bC.mk (aw.mk Y a5 a6) a7 a8) a9)].map aj.pd))),(74,rI 3),(75,rI j8),(87,.d (.lst ([f.1,a1,j.1].map ac.pd))),(88,rI 3),(89,rI j9),(95,.d (.lst ([p.1,a2].map (fun l=>PD.lst (l.map ak.pd))))),(96,rI 2),(97,rI k0),(102,rI (b4.length:Int)),(103,rI s)] [(80,.var [rM aq.pd a1.bg]),(176,.var [rM aq.pd f.1.bg]),(224,.var [rM aq.pd j.1.bg]),(240,.var [rM ak.pd f2,rI f4,rI f5,rI f6,rI g0,rI g1,rI g2,rI g3,rI g4,rI g5,rI g6,rI g7,rI g8,rI g9,rI h0,rI h2]),(272,.var (aj.rc u)),(304,.var [rM aq.pd C.bg])]) (fun o=>match o with| .inl y=>gX 6 0 3 29 [(2,rM ak.pd a2),(5,.ptr 80 0),(11,.ptr 176 0),(12,rM ak.pd p.1),(14,.ptr 224 0),(15,.ptr 240 0),(17,.ptr 272 0),(19,.ptr 304 0),(21,rM ak.pd b4),(73,.d (.lst ([c.1,a0,(aj.mk (bt.mk (ah.mk (aa.mk E F G) (aa.mk H I J)) (aw.mk K L N) O Q T W X) (bC.mk (aw.mk Y a5 a6) a7 a8) a9)].map aj.pd))),(74,rI 3),(75,rI y.1),(87,.d (.lst ([f.1,a1,j.1].map ac.pd))),(88,rI 3),(89,rI y.2.1),(95,.d (.lst ([p.1,a2].map (fun l=>PD.lst (l.map ak.pd))))),(96,rI 2),(97,rI y.2.2.1)] [(80,.var [rM aq.pd a1.bg]),(176,.var [rM aq.pd f.1.bg]),(224,.var [rM aq.pd j.1.bg]),(240,.var [rM ak.pd y.2.2.2.1,rI y.2.2.2.2.1,rI y.2.2.2.2.2.1,rI y.2.2.2.2.2.2.1,rI y.2.2.2.2.2.2.2.1,rI y.2.2.2.2.2.2.2.2.1,rI y.2.2.2.2.2.2.2.2.2.1,rI y.2.2.2.2.2.2.2.2.2.2.1,rI y.2.2.2.2.2.2.2.2.2.2.2.1,rI y.2.2.2.2.2.2.2.2.2.2.2.2.1,rI y.2.2.2.2.2.2.2.2.2.2.2.2.2.1,rI y.2.2.2.2.2.2.2.2.2.2.2.2.2.2.1,rI y.2.2.2.2.2.2.2.2.2.2.2.2.2.2.2.1,rI y.2.2.2.2.2.2.2.2.2.2.2.2.2.2.2.2.1,rI y.2.2.2.2.2.2.2.2.2.2.2.2.2.2.2.2.2.1,rI y.2.2.2.2.2.2.2.2.2.2.2.2.2.2.2.2.2.2]),(272,.var (aj.rc u)),(304,.var [rM aq.pd C.bg])]| .inr r=>gF 3 Tryz.f3 0 (rB r,[])) Z ?_ ?_))
       ·rintro h5 R' B' k2 hI h
        refine gS Z hI<|sF h ?_ ?_<;>intro h
        ·refine sN<|qS<|cT<|qK<|qS<|qB<|gU Z<|sM Z<|sA Z<|sN<|EK Z Z<|sV (.d (aj.pd u))<|sV (.d (ac.pd C))<|sM Z<|sM Z ?_
         refine bE h fun i0 c6 h=>eG c6 Z<|sV (.d (ak.pd i0))<|bE h fun z c7 h=>cR (.tup [.d (br.pd z.1),rB z.2]) [] (ce c7)<|sM Z<|sV (.d (br.pd z.1))<|sV (rB z.2)<|sB (.ptr 368 0) 368 (.var [r0,r0,r0,r0,r0,r0])<|sH 368 (.var (br.rc z.1))<|sA Z ?_
         refine sN<|sO<|EK Z Z<|sV (.d (aj.pd u))<|sV (.d (ac.pd C))<|mM Z<|bE h fun i1 c8 h=>eG c8 Z<|sV (.d (ak.pd i1))<|bE h fun B c9 h=>cR (.tup [.d (br.pd B.1),rB B.2]) [] (ce c9)<|sM Z<|sV (.d (br.pd B.1))<|sV (rB B.2)<|sB (.ptr 400 0) 400 (.var [r0,r0,r0,r0,r0,r0]) ?_
         refine sH 400 (.var (br.rc B.1))<|sA Z ?_
         refine sN<|sO<|gU Z<|sV (.d (br.pd z.1))<|sV (.d (br.pd B.1))<|qO h (fun b0 h=>?_) (fun b0 h=>?_)
         ·refine WO.ud (eqN_61 z.1 B.1) b0 Z Z Z Z Z<|sM Z<|k3<|sT<|sN<|cT<|gU Z<|sU<|sN<|qR ?_
          cases oI h
          exact⟨nofun,rfl,rfl⟩
         refine WO.ud (eqN_61 z.1 B.1) b0 Z Z Z Z Z<|mM Z<|sM Z<|sV (rB (!(z.2==B.2)))<|sF h ?_ ?_<;>intro h
         ·refine sN<|cT<|gU Z<|sU<|sN<|qR ?_
          cases oI h
          exact⟨nofun,rfl,rfl⟩
         refine sN<|cF<|qK<|EH Z Z<|sV (rI (rW (h5+(1:Int))))<|sM Z<|sN ?_
         cases oI h
         exact⟨rfl,rfl⟩
        refine sN<|qS<|cF<|qX ?_
        cases oI h
        exact⟨nofun,rfl,rfl⟩
       intro e R' B' he hq
       rcases e5 with a|k5
       ·obtain⟨rfl,hI⟩:=hq
        refine qE<|gS Z hI<|sV (.d (aj.pd u))<|sV (.d (ac.pd C))<|sM Z<|bE h fun k d0 h=>cR (.tup [.d (ai.pd k.1),rI k.2]) [] (ce d0)<|sM Z<|sV (.d (ai.pd k.1))<|sV (rI k.2)<|sB (.ptr 432 0) 432 (.var [r0,r0,r0,r0,r0,r0,r0,.px,.px,.px,r0])<|sH 432 (.var (ai.rc k.1))<|sA Z<|sN<|gU Z ?_
        refine sV (.d (aj.pd u))<|sV (.d (ac.pd C))<|sM Z<|bE h fun t d1 h=>cR (.tup [.d (ai.pd t.1),rI t.2]) [] (ce d1)<|sM Z<|sV (.d (ai.pd t.1))<|sV (rI t.2)<|sB (.ptr 464 0) 464 (.var [r0,r0,r0,r0,r0,r0,r0,.px,.px,.px,r0])<|sH 464 (.var (ai.rc t.1))<|sA Z<|sN<|gU Z<|sV (.d (aj.pd u))<|sV (.d (ac.pd C)) ?_
        refine sM Z<|bE h fun D d2 h=>cR (.tup [.d (bu.pd D.1),rI D.2]) [] (ce d2)<|sM Z<|sV (.d (bu.pd D.1))<|sV (rI D.2)<|sB (.ptr 496 0) 496 (.var [.px,r0,r0,r0,r0,r0,r0,r0,r0,r0,r0,r0,r0,r0,r0,r0])<|sH 496 (.var (bu.rc D.1))<|sA Z<|sN<|gU Z<|sV (.d (aj.pd u))<|sV (.d (ac.pd C))<|sM Z<|bE h fun q d3 h=>?_
        refine cR (.tup [.d (bu.pd q.1),rI q.2]) [] (ce d3)<|sM Z<|sV (.d (bu.pd q.1))<|sV (rI q.2)<|sB (.ptr 528 0) 528 (.var [.px,r0,r0,r0,r0,r0,r0,r0,r0,r0,r0,r0,r0,r0,r0,r0])<|sH 528 (.var (bu.rc q.1))<|sA Z<|sN<|qS<|EK Z Z<|mM Z<|sF h ?_ ?_<;>intro h
        ·refine sM Z<|k3<|k3<|sK<|sT<|sM Z<|k3<|sK<|sK ?_
         refine sT<|sM Z<|k3<|sK<|sK<|sT<|sM Z<|k3<|sT<|sM Z<|sK ?_
         refine k3<|sT<|sM Z<|k3<|k3<|sK<|sT ?_
         refine sN<|sO<|cT<|gU Z<|sU<|sN<|qR ?_
         cases oI h
         exact⟨nofun,rfl,rfl⟩
        refine sM Z<|sV (.ptr 432 9)<|sL Z<|sE (rI (k.1.bT.length:Int)) (qy _ _)<|sV (.ptr 464 9)<|sL Z<|sE (rI (t.1.bT.length:Int)) (qy _ _)<|sV (rB ((k.1.bT.length:Int) != (t.1.bT.length:Int)))<|sF h ?_ ?_<;>intro h
        ·refine sM Z<|k3<|sK<|sK<|sT<|sM Z<|k3<|sK<|sK<|sT<|sM Z ?_
         refine k3<|sT<|sM Z<|k3<|sK<|sT<|sM Z<|k3<|sK ?_
         refine k3<|sT ?_
         refine sN<|sO<|cT<|gU Z<|sU<|sN<|qR ?_
         cases oI h
         exact⟨nofun,rfl,rfl⟩
        refine sM Z<|sV (.ptr 432 0)<|sV (.d (ah.pd k.1.bk))<|sV (.ptr 464 0)<|sV (.d (ah.pd t.1.bk))<|WO.bin (eqN_25 k.1.bk t.1.bk) Z Z Z Z Z<|sF h ?_ ?_<;>intro h
        ·refine sM Z<|k3<|sK<|sK<|sT<|sM Z<|k3<|sT<|sM Z<|sK<|sK ?_
         refine sK<|sK<|sT<|sM Z<|k3<|k3<|sK<|sT ?_
         refine sN<|sO<|cT<|gU Z<|sU<|sN<|qR ?_
         cases oI h
         exact⟨nofun,rfl,rfl⟩
        refine sM Z<|sV (.ptr 432 10)<|sL Z<|sV (.ptr 464 10)<|sL Z<|sV (rB (k.1.dL != t.1.dL))<|sF h ?_ ?_<;>intro h
        ·refine sM Z<|k3<|sT<|sM Z<|k3<|sK<|sT<|sM Z<|sK<|sK<|sK ?_
         refine k3<|sK<|sT ?_
         refine sN<|sO<|cT<|gU Z<|sU<|sN<|qR ?_
         cases oI h
         exact⟨nofun,rfl,rfl⟩
        refine mM Z<|sM Z<|sV (rB (D.2 != q.2))<|sF h ?_ ?_<;>intro h
        ·refine sM Z<|k3<|sK<|sT<|sM Z<|k3<|k3<|sK<|sT ?_
         refine sN<|sO<|cT<|gU Z<|sU<|sN<|qR ?_
         cases oI h
         exact⟨nofun,rfl,rfl⟩
        refine sM Z<|sV (.d (bu.pd D.1))<|sV (.d (bu.pd q.1))<|bE h fun i2 d4 h=>cD (ce d4)<|sV (rB (!i2))<|sF h ?_ ?_<;>intro h
        ·refine sM Z<|k3<|k3<|sK<|sT ?_
         refine sN<|sO<|cT<|gU Z<|sU<|sN<|qR ?_
         cases oI h
         exact⟨nofun,rfl,rfl⟩
        refine sM Z<|sV (.d (bu.pd D.1))<|sV (.d (bu.pd (bu.mk a.2.2.2.1 (al.mk (aa.mk a.2.2.2.2.1 a.2.2.2.2.2.1 a.2.2.2.2.2.2.1) a.2.2.2.2.2.2.2.1 a.2.2.2.2.2.2.2.2.1 a.2.2.2.2.2.2.2.2.2.1 (ah.mk (aa.mk a.2.2.2.2.2.2.2.2.2.2.1 a.2.2.2.2.2.2.2.2.2.2.2.1 a.2.2.2.2.2.2.2.2.2.2.2.2.1) (aa.mk a.2.2.2.2.2.2.2.2.2.2.2.2.2.1 a.2.2.2.2.2.2.2.2.2.2.2.2.2.2.1 a.2.2.2.2.2.2.2.2.2.2.2.2.2.2.2.1))) (az.mk a.2.2.2.2.2.2.2.2.2.2.2.2.2.2.2.2.1 a.2.2.2.2.2.2.2.2.2.2.2.2.2.2.2.2.2.1) a.2.2.2.2.2.2.2.2.2.2.2.2.2.2.2.2.2.2)))<|bE h fun i3 d5 h=>cD (ce d5)<|sV (.d (bu.pd q.1))<|sV (.d (bu.pd (bu.mk a.2.2.2.1 (al.mk (aa.mk a.2.2.2.2.1 a.2.2.2.2.2.1 a.2.2.2.2.2.2.1) a.2.2.2.2.2.2.2.1 a.2.2.2.2.2.2.2.2.1 a.2.2.2.2.2.2.2.2.2.1 (ah.mk (aa.mk a.2.2.2.2.2.2.2.2.2.2.1 a.2.2.2.2.2.2.2.2.2.2.2.1 a.2.2.2.2.2.2.2.2.2.2.2.2.1) (aa.mk a.2.2.2.2.2.2.2.2.2.2.2.2.2.1 a.2.2.2.2.2.2.2.2.2.2.2.2.2.2.1 a.2.2.2.2.2.2.2.2.2.2.2.2.2.2.2.1))) (az.mk a.2.2.2.2.2.2.2.2.2.2.2.2.2.2.2.2.1 a.2.2.2.2.2.2.2.2.2.2.2.2.2.2.2.2.2.1) a.2.2.2.2.2.2.2.2.2.2.2.2.2.2.2.2.2.2)))<|bE h fun i4 e0 h=>cD (ce e0)<|sV (rB (!(i3==i4)))<|sF h ?_ ?_<;>intro h
        ·refine sN<|sO<|cT<|gU Z<|sU<|sN<|qR ?_
         cases oI h
         exact⟨nofun,rfl,rfl⟩
        refine sN<|sO<|cF<|qK<|qS<|gU Z<|sV (.ptr 432 9)<|sL Z<|sE (rI (k.1.bT.length:Int)) (qy _ _)<|sV (r0)<|sN<|bE h fun e6 c1 h=>EI (EJ (WL.qz c1 (fun s=>gI 0 3 36 [(2,rM ak.pd a2),(5,.ptr 80 0),(11,.ptr 176 0),(12,rM ak.pd p.1),(14,.ptr 224 0),(15,.ptr 240 0),(17,.ptr 272 0),(19,.ptr 304 0),(27,.ptr 432 0),(29,.ptr 464 0),(33,.ptr 528 0),(73,.d (.lst ([c.1,a0,(aj.mk (bt.mk (ah.mk (aa.mk E F G) (aa.mk H I J)) (aw.mk K L N) O Q T W X) (bC.mk (aw.mk Y a5 a6) a7 a8) a9)].map aj.pd))),(74,rI 3),(75,rI a.1),(87,.d (.lst ([f.1,a1,j.1].map ac.pd))),(88,rI 3),(89,rI a.2.1),(95,.d (.lst ([p.1,a2].map (fun l=>PD.lst (l.map ak.pd))))),(96,rI 2),(97,rI a.2.2.1),(211,rI (k.1.bT.length:Int)),(212,rI s)] [(80,.var [rM aq.pd a1.bg]),(176,.var [rM aq.pd f.1.bg]),(224,.var [rM aq.pd j.1.bg]),(240,.var [rM ak.pd a.2.2.2.1,rI a.2.2.2.2.1,rI a.2.2.2.2.2.1,rI a.2.2.2.2.2.2.1,rI a.2.2.2.2.2.2.2.1,rI a.2.2.2.2.2.2.2.2.1,rI a.2.2.2.2.2.2.2.2.2.1,rI a.2.2.2.2.2.2.2.2.2.2.1,rI a.2.2.2.2.2.2.2.2.2.2.2.1,rI a.2.2.2.2.2.2.2.2.2.2.2.2.1,rI a.2.2.2.2.2.2.2.2.2.2.2.2.2.1,rI a.2.2.2.2.2.2.2.2.2.2.2.2.2.2.1,rI a.2.2.2.2.2.2.2.2.2.2.2.2.2.2.2.1,rI a.2.2.2.2.2.2.2.2.2.2.2.2.2.2.2.2.1,rI a.2.2.2.2.2.2.2.2.2.2.2.2.2.2.2.2.2.1,rI a.2.2.2.2.2.2.2.2.2.2.2.2.2.2.2.2.2.2]),(272,.var (aj.rc u)),(304,.var [rM aq.pd C.bg]),(432,.var (ai.rc k.1)),(464,.var (ai.rc t.1)),(528,.var (bu.rc q.1))]) (fun o=>match o with| .inl y=>gX 8 0 3 41 [(2,rM ak.pd a2),(5,.ptr 80 0),(11,.ptr 176 0),(12,rM ak.pd p.1),(14,.ptr 224 0),(15,.ptr 240 0),(17,.ptr 272 0),(19,.ptr 304 0),(33,.ptr 528 0),(73,.d (.lst ([c.1,a0,(aj.mk (bt.mk (ah.mk (aa.mk E F G) (aa.mk H I J)) (aw.mk K L N) O Q T W X) (bC.mk (aw.mk Y a5 a6) a7 a8) a9)].map aj.pd))),(74,rI 3),(75,rI a.1),(87,.d (.lst ([f.1,a1,j.1].map ac.pd))),(88,rI 3),(89,rI a.2.1),(95,.d (.lst ([p.1,a2].map (fun l=>PD.lst (l.map ak.pd))))),(96,rI 2),(97,rI a.2.2.1)] [(80,.var [rM aq.pd a1.bg]),(176,.var [rM aq.pd f.1.bg]),(224,.var [rM aq.pd j.1.bg]),(240,.var [rM ak.pd a.2.2.2.1,rI a.2.2.2.2.1,rI a.2.2.2.2.2.1,rI a.2.2.2.2.2.2.1,rI a.2.2.2.2.2.2.2.1,rI a.2.2.2.2.2.2.2.2.1,rI a.2.2.2.2.2.2.2.2.2.1,rI a.2.2.2.2.2.2.2.2.2.2.1,rI a.2.2.2.2.2.2.2.2.2.2.2.1,rI a.2.2.2.2.2.2.2.2.2.2.2.2.1,rI a.2.2.2.2.2.2.2.2.2.2.2.2.2.1,rI a.2.2.2.2.2.2.2.2.2.2.2.2.2.2.1,rI a.2.2.2.2.2.2.2.2.2.2.2.2.2.2.2.1,rI a.2.2.2.2.2.2.2.2.2.2.2.2.2.2.2.2.1,rI a.2.2.2.2.2.2.2.2.2.2.2.2.2.2.2.2.2.1,rI a.2.2.2.2.2.2.2.2.2.2.2.2.2.2.2.2.2.2]),(272,.var (aj.rc u)),(304,.var [rM aq.pd C.bg]),(528,.var (bu.rc q.1))]| .inr r=>gF 3 Tryz.f3 0 (rB r,[])) Z ?_ ?_))
        ·rintro h7 R' B' k4 hI h
         refine gS Z hI<|sF h ?_ ?_<;>intro h
         ·refine sN<|qS<|cT<|qK<|qS<|qB<|gU Z<|sM Z<|sA Z<|sN<|EK Z Z<|sV (.ptr 432 9)<|sL Z<|sM Z<|bE h fun b5 e1 h=>?_
          refine eG e1 Z<|sV (.d (br.pd b5))<|sV (.ptr 464 9)<|sL Z<|sM Z<|bE h fun b6 e2 h=>eG e2 Z<|sV (.d (br.pd b6))<|qO h (fun b3 h=>?_) (fun b3 h=>?_)
          ·refine WO.ud (eqN_61 b5 b6) b3 Z Z Z Z Z ?_
           refine sN<|sO<|cT<|gU Z<|sU<|sN<|qR ?_
           cases oI h
           exact⟨nofun,rfl,rfl⟩
          refine WO.ud (eqN_61 b5 b6) b3 Z Z Z Z Z ?_
          refine sN<|sO<|cF<|qK<|EH Z Z<|sV (rI (rW (h7+(1:Int))))<|sM Z<|sN ?_
          cases oI h
          exact⟨rfl,rfl⟩
         refine sN<|qS<|cF<|qX ?_
         cases oI h
         exact⟨nofun,rfl,rfl⟩
        intro e R' B' he hq
        rcases e6 with l3|k6
        ·obtain⟨rfl,hI⟩:=hq
         refine qE<|EH hI Z<|sV (.d (bu.pd q.1))<|sH 240 (.var (bu.rc q.1))<|sN<|EH Z Z<|sV (rI (rW (a.2.2.1+(1:Int))))<|sM Z<|sN ?_
         cases oI h
         exact⟨rfl,rfl⟩
        obtain⟨rfl,hf⟩:=hq
        cases oI h
        exact⟨nofun,rfl,hf⟩
       obtain⟨rfl,hf⟩:=hq
       cases oI h
       exact⟨nofun,rfl,hf⟩
      refine sN<|qS<|cF<|qX ?_
      cases oI h
      exact⟨nofun,rfl,rfl⟩
     intro e R' B' he hq
     rcases e9 with i5|k7
     ·obtain⟨rfl,hI⟩:=hq
      refine qE<|EH hI Z<|sV (rI (rW (i5.2.1+(1:Int))))<|sM Z<|sN ?_
      cases oI h
      exact⟨rfl,rfl⟩
     obtain⟨rfl,hf⟩:=hq
     cases oI h
     exact⟨nofun,rfl,hf⟩
    refine sN<|qS<|cF<|qX ?_
    cases oI h
    exact⟨nofun,rfl,rfl⟩
   intro e R' B' he hq
   rcases f0 with i6|k8
   ·obtain⟨rfl,hI⟩:=hq
    refine qE<|EH hI Z<|sV (rI (rW (i6.1+(1:Int))))<|sM Z<|sN ?_
    cases oI h
    exact⟨rfl,rfl⟩
   obtain⟨rfl,hf⟩:=hq
   cases oI h
   exact⟨nofun,rfl,hf⟩
  refine sN<|qS<|cF<|qX ?_
  cases oI h
  exact⟨nofun,rfl,rfl⟩
 intro e R' B' he hq
 rcases f1 with l4|l0
 ·obtain⟨rfl,hI⟩:=hq
  refine qE<|gS Z hI<|bE h fun l1 e3 h=>cD (oL e3)<|sA Z<|sN<|qR ?_
  exact oI h▸qD
 obtain⟨rfl,hf⟩:=hq
 cases oI h
 exact hf
end Go.Dw.Ss
