
import Derived.Test.YtfmoipelhfkdkaaGreatDoorReEvB
set_option linter.unusedVariables false
set_option linter.unusedSimpArgs false
open Go.Dw.WC renaming block->Fq, join->Fx, loop->Fs, pe->Ft, region->Fu, tn->Fw

set_option maxRecDepth 100000
set_option maxHeartbeats 4000000
namespace Go.Dw.Re
open Go.Proofs Go.Proofs.Tryz Go.Dw
theorem qH{a0:ak}{a1:Int}{r:(Option cr)×Int}(h:kF a0 a1=some r):EvP prog bo ext 143 [.d (ak.pd a0),rI a1] [] (match r.1 with|none=>(.tup [.d (.raw (.pointer none)),rI r.2],[])|some F=>(.tup [.ptr 0 0,rI r.2],[.var (cr.rc F)])):=by
 refine Ev.body Z Tryz.func143 Z Zk<|gU Z<|sB (.ptr 32 0) 32 (.var (ak.rc a0))<|sV (.d (.raw (.pointer none)))<|sV (r0)<|sN<|qS<|gU Z<|sV (.d (ak.pd a0))<|bE h fun W h1 h=>cD (ce h1)<|sA Z<|sN<|gU Z<|sM Z ?_
 refine sF h ?_ ?_<;>intro h
 ·refine sN<|cT<|gU Z<|sM Z<|sV (.d (.raw (.pointer none)))<|sA Z<|sN<|qR ?_
  cases oI h
  exact qG
 refine sN<|cF<|qK<|qS<|gU Z<|sM Z<|sF h ?_ ?_<;>intro h
 ·refine sN<|cT<|gU Z<|sV (.d (.raw (.pointer none)))<|sV (rI 2)<|sN<|qR ?_
  cases oI h
  exact qG
 refine sN<|cF<|qK<|gU Z<|sV (.d (ak.pd a0))<|sG (.agg (ak.rc a0++[.rm,r0,r0,rB false,r0,r0,r0,r0,r0,r0,r0,r0,r0,r0,r0,r0]))<|sB (.ptr 304 0) 304 (.var (ak.rc a0++[.rm,r0,r0,rB false,r0,r0,r0,r0,r0,r0,r0,r0,r0,r0,r0,r0]))<|sA Z<|sN<|qS<|gU Z<|sM Z<|sV (.ptr 32 0)<|sV (.d (al.pd a0.bj))<|bE h fun E J h=>?_
 refine cR (rI E.1) [(304,.var (ak.rc a0++[.ref 368 0,rI E.2.2,r0,rB false,r0,r0,r0,r0,r0,r0,r0,r0,r0,r0,r0,r0])),(368,.arr 0 249 (E.2.1.map ar.pd))] (ce J)<|sA Z<|sN<|gU Z<|sM Z<|sF h ?_ ?_<;>intro h
 ·refine sN<|cT<|gU Z<|sM Z<|sV (.d (.raw (.pointer none)))<|sA Z<|sN<|qR ?_
  cases oI h
  exact qG
 refine sN<|cF<|qK<|qS<|bE h fun u g h=>Fq (Fs (WL.rU g (fun s=>gI 0 143 10 [(1,rI a1),(7,.ptr 304 0)] [(304,.var (ak.rc a0++ .ref 368 0::rI s.1::rI s.2.1::rB s.2.2.1::ap.rc s.2.2.2.1)),(368,.arr 0 249 (s.2.2.2.2.map ar.pd))]) (fun o=>match o with| .inl y=>gX 0 0 143 14 [(7,.ptr 304 0)] [(304,.var (ak.rc a0++rM ar.pd y.1::rI y.2.1::rI y.2.2.1::rB y.2.2.2.1::ap.rc y.2.2.2.2))]| .inr r=>gF 143 Tryz.f143 0 (match r.1 with|none=>(.tup [.d (.raw (.pointer none)),rI r.2],[])|some F=>(.tup [.ptr 0 0,rI r.2],[.var (cr.rc F)]))) Z ?_ ?_))
 ·rintro⟨N,O,Q,T,C⟩ I H K q h
  unfold mE at h
  refine qS<|gS Z q<|mM Z<|bE h fun D j h=>cR (rB D) [(304,.var (ak.rc a0++ .ref 368 0::rI N::rI O::rB Q::ap.rc T)),(368,.arr 0 249 (C.map ar.pd))] (ce j)<|sF h ?_ ?_<;>intro h
  ·refine sN<|cT<|qK<|qB<|gU Z<|sM Z<|bE h fun f k h=>cR (rI f.1) [(304,.var (ak.rc a0++ .ref 368 1::rI f.2.1::rI f.2.2.1::rB f.2.2.2.1::ap.rc f.2.2.2.2.1)),(368,.arr 1 249 (f.2.2.2.2.2.map ar.pd))] (ce k)<|sA Z<|sN<|gU Z<|sM Z<|sF h ?_ ?_<;>intro h
   ·refine sN<|cT<|gU Z<|sM Z<|sV (.d (.raw (.pointer none)))<|sA Z<|sN<|qR ?_
    cases oI h
    exact⟨nofun,rfl,rfl⟩
   refine sN<|cF<|qK ?_
   cases oI h
   exact⟨rfl,rfl⟩
  refine sN<|cF<|qX ?_
  cases oI h
  exact⟨nofun,rfl,rfl⟩
 intro e I H he G
 rcases u with U|L
 ·obtain⟨rfl,q⟩:=G
  refine qE<|gS Z q<|sM Z<|sA Z<|sV (r0)<|sN<|qR ?_
  cases oI h
  exact qG
 obtain⟨rfl,hf⟩:=G
 cases oI h
 exact hf
theorem locate_run_evN{a0:ak}{a1:Int}{r:(Option cr)×Int}(h:kF a0 a1=some r)(ho:r.1=none):EvP prog bo ext 143 [.d (ak.pd a0),rI a1] [] (.tup [.d (.raw (.pointer none)),rI r.2],[]):=by
  have:=qH h;rw [ho]at this;exact this
theorem locate_run_evS{a0:ak}{a1:Int}{r:(Option cr)×Int}{f:cr}(h:kF a0 a1=some r)(ho:r.1=some f):EvP prog bo ext 143 [.d (ak.pd a0),rI a1] [] (.tup [.ptr 0 0,rI r.2],[.var (cr.rc f)]):=by
  have:=qH h;rw [ho]at this;exact this
section
attribute [local irreducible] HM HU HF HB WO WC QS QB tZ
instance {a0:al}{a1:al}:CE prog bo ext (nl a0 a1) 144 [.d (al.pd a0),.d (al.pd a1)] [] fun r=>(.d (al.pd r),[]):=⟨fun h=>Ev.au h Tryz.func144⟩
end
theorem oU{a0:ak}{a1:Int}{r:ap×Int}(h:dO a0 a1=some r):EvP prog bo ext 101 [.d (ak.pd a0),rI a1] [] (.tup [.d (ap.pd r.1),rI r.2],[]):=by
 refine Ev.body Z Tryz.func101 Z Zk<|gU Z<|sB (.ptr 32 0) 32 (.var (ak.rc a0))<|sB (.ptr 64 0) 64 (.var zZ1)<|sV (r0)<|sN<|gU Z<|sV (.d (ak.pd a0))<|sM Z<|bE h fun C h1 h=>opt_elim h (fun k h=>?_) (fun f k h=>?_)
 ·refine cR (.tup [.d (.raw (.pointer none)),rI C.2]) [] (locate_run_evN h1 k)<|sM Z<|sV (.d (.raw (.pointer none)))<|sV (rI C.2)<|sA Z<|sA Z<|sN<|qS<|gU Z<|sM Z<|sF h ?_ ?_<;>intro h
  ·refine sN<|cT<|gU Z<|sG (.d (ap.pd (ap.mk (ag.mk 0 0 0) 0 0 0 (al.mk (ag.mk 0 0 0) (ag.mk 0 0 0)))))<|sM Z<|sH 64 (.var zZ1)<|sA Z<|sN<|qR ?_
   cases oI h
   exact qG
  refine sN<|cF<|qK<|gU Z<|sM Z ?_
  cases h
 refine cR (.tup [.ptr 224 0,rI C.2]) [(224,.var (cr.rc f))] (locate_run_evS h1 k)<|sM Z<|sV (.ptr 224 0)<|sV (rI C.2)<|sA Z<|sA Z<|sN<|qS<|gU Z<|sM Z<|sF h ?_ ?_<;>intro h
 ·refine sN<|cT<|gU Z<|sG (.d (ap.pd (ap.mk (ag.mk 0 0 0) 0 0 0 (al.mk (ag.mk 0 0 0) (ag.mk 0 0 0)))))<|sM Z<|sH 64 (.var zZ1)<|sA Z<|sN<|qR ?_
  cases oI h
  exact qG
 refine sN<|cF<|qK<|gU Z<|sM Z<|sV (.ptr 224 0)<|sV (.ptr 224 15)<|sV (.d (ap.pd f.cx))<|sB (.ptr 128 0) 128 (.var zZ1)<|sH 128 (.var (ap.rc f.cx))<|sN<|gU Z<|sV (.ptr 128 4)<|sL Z<|sV (.ptr 128 0) ?_
 refine sV (.d (ag.pd f.cx.bO))<|sV (.ptr 128 0)<|sV (.d (ag.pd f.cx.bO))<|sG (.d (al.pd (al.mk f.cx.bO f.cx.bO)))<|sV (.ptr 128 5)<|sS 128 (.var (ag.rc f.cx.bO++rI f.cx.bT::rI f.cx.cb::rI f.cx.cb::al.rc f.cx.cp))<|sV (.ptr 128 6)<|sH 128 (.var (ag.rc f.cx.bO++rI f.cx.bT::rI f.cx.cb::rI f.cx.cb::ag.rc f.cx.bO++ag.rc f.cx.bO))<|sN<|qS<|gU Z<|sM Z<|sV (.ptr 224 0)<|sV (.ptr 224 11)<|sL Z ?_
 refine sE (rI (f.mB.length:Int)) (sx _ _)<|sV (r0)<|sN<|bE h fun g u h=>Fq (Fs (WL.rU u (fun s=>gI 0 101 7 [(4,.ptr 64 0),(8,.ptr 128 0),(37,rM ar.pd f.mB),(38,rI (f.mB.length:Int)),(39,rI s.1)] [(64,.var zZ1),(128,.var (ag.rc f.cx.bO++rI f.cx.bT::rI f.cx.cb::rI s.2.1::al.rc s.2.2))]) (fun o=>gX 0 0 101 13 [(4,.ptr 64 0),(8,.ptr 128 0)] [(64,.var zZ1),(128,.var (ag.rc f.cx.bO++rI f.cx.bT::rI f.cx.cb::rI o.1::al.rc o.2))]) Z ?_ ?_))
 ·rintro⟨H,q,I⟩ K J N F h
  refine gS Z F<|sF h ?_ ?_<;>intro h
  ·refine sN<|qS<|cT<|qK<|qS<|qB<|gU Z<|bE h fun j D h=>eG D Z<|sV (.d (ar.pd j))<|sB (.ptr 160 0) 160 (.var [r0,r0,r0,r0,r0,r0,r0,r0])<|sH 160 (.var (ar.rc j))<|sN<|gU Z<|sV (.ptr 128 5) ?_
   refine sL Z<|sV (.ptr 160 6)<|sL Z<|sV (rI (if j.dF<q then j.dF else q))<|sV (.ptr 128 5)<|sS 128 (.var (ag.rc f.cx.bO++rI f.cx.bT::rI f.cx.cb::rI (if j.dF<q then j.dF else q)::al.rc I))<|sN<|gU Z<|sV (.ptr 160 6)<|sL Z<|sV (.ptr 128 4)<|sL Z<|sF h ?_ ?_<;>intro h
   ·refine sN<|cT<|Fu Z Z<|sV (.ptr 128 6)<|sV (.d (al.pd I))<|sV (.ptr 160 0)<|sV (.d (al.pd j.mT))<|bE h fun G E h=>cD (ce E)<|sV (.ptr 128 6)<|sH 128 (.var (ag.rc f.cx.bO++rI f.cx.bT::rI f.cx.cb::rI (if j.dF<q then j.dF else q)::al.rc G))<|sN<|Fu Z Z<|sV (rI (rW (H+(1:Int))))<|sM Z ?_
    refine sN ?_
    cases oI h
    exact⟨rfl,rfl⟩
   refine sN<|cF<|qK<|Fu Z Z<|sV (rI (rW (H+(1:Int))))<|sM Z<|sN ?_
   cases oI h
   exact⟨rfl,rfl⟩
  refine sN<|qS<|cF<|qX ?_
  cases oI h
  exact⟨nofun,rfl,rfl⟩
 intro e K J he L
 obtain⟨rfl,F⟩:=L
 refine qE<|gS Z F<|sV (.d (ap.pd (ap.mk f.cx.bO f.cx.bT f.cx.cb g.1 (al.mk (ag.mk g.2.bt.fX g.2.bt.fY g.2.bt.fZ) (ag.mk g.2.bd.fX g.2.bd.fY g.2.bd.fZ)))))<|sH 64 (.var (ag.rc f.cx.bO++rI f.cx.bT::rI f.cx.cb::rI g.1::al.rc g.2))<|sV (r0)<|sN<|qR ?_
 cases oI h
 exact qG
instance {a0:ak}{a1:Int}:CE prog bo ext (dO a0 a1) 101 [.d (ak.pd a0),rI a1] [] fun r=>(.tup [.d (ap.pd r.1),rI r.2],[]):=⟨fun h=>oU h⟩
section
attribute [local irreducible] HM HU HF HB WO WC QS QB tZ
instance {f:(List bz)×Int}{a2:Int}:LI (io f a2) 8 (fun s=>[(35,rI s.1)]) (fun s=>[(512,.arr 0 3 (s.2.map (PD.int .i64)))]) (jX 12 (fun o=>[]) fun o=>[(512,.arr 0 3 (o.map (PD.int .i64)))]):=⟨⟩
instance {a0:ak}{a1:ag}{a2:Int}:CE prog bo ext (iV a0 a1 a2) 103 [.d (ak.pd a0),.d (ag.pd a1),rI a2] [] fun r=>(.tup [rL r.1,rI r.2],[]):=⟨fun h=>Ev.au h Tryz.func103⟩
instance {a1:Int}{d0:(List Int)}{d1:(List Int)}:CE prog bo ext (mp a1 d0 d1) 104 [.agg [.ref 0 0,.ref 1 0],rI a1] [.arr 0 3 (d0.map (PD.int .i64)),.arr 0 3 (d1.map (PD.int .i64))] fun r=>(.tup [],[.arr 0 3 (r.1.map (PD.int .i64)),.arr 0 3 (r.2.map (PD.int .i64))]):=⟨fun h=>Ev.au h Tryz.func104⟩
end
theorem pj{a0:bi}{a1:(List aw)}{r:(List bC)×(List Int)×Int}(h:iD a0 a1=some r):EvP prog bo ext 52 [.d (bi.pd a0),rM aw.pd a1] [] (.tup [rM bC.pd r.1,rL r.2.1,rI r.2.2],[]):=by
 refine Ev.body Z Tryz.func52 Z Zk<|gU Z<|sB (.ptr 32 0) 32 (.var (bi.rc a0))<|sV .rm<|sV .rm<|sV (r0)<|sN<|WC.scope<|qS<|gU Z<|sV (.d (bi.pd a0))<|sM Z<|bE h fun x1 h1 h=>cD (ce h1)<|sA Z ?_
 refine sN<|gU Z<|sM Z<|sF h ?_ ?_<;>intro h
 ·refine sN<|cT<|gU Z<|sM Z<|sV .rm<|sV .rm<|sA Z<|sN<|qR ?_
  cases oI h
  exact qG
 refine sN<|cF<|qK<|gU Z<|sV .rm<|sN<|gU Z<|sV .rm<|sN<|gU Z<|sM Z<|bE h fun D h3 h=>cD (ce h3)<|sA Z<|sN ?_
 refine gU Z<|sM Z<|sE (rI (a1.length:Int)) (sx _ _)<|bE h fun x4 h4 h=>cR (.agg [.ref 560 0,.ref 561 0]) [(560,.arr 0 3 (x4.fnext.map (PD.int .i64))),(561,.arr 0 3 (x4.fback.map (PD.int .i64)))] (ce h4)<|sB (.ptr 176 0) 176 (.var [.rm,.rm])<|sS 176 (.var [.ref 560 0,.ref 561 0])<|sN<|qS<|WC.label<|qS<|bE h fun d5 I h=>Fq (Fs (WL.rU I (fun s=>gI 0 52 8 [(1,rM aw.pd a1),(2,.ptr 32 0),(8,.ref 2432 0),(9,.ref 2576 0),(10,rL D),(11,.ptr 176 0)] [(32,.var (bi.rc a0)),(176,.var [.ref 560 0,.ref 561 0]),(560,.arr 0 3 (s.2.2.1.map (PD.int .i64))),(561,.arr 0 3 (s.2.2.2.map (PD.int .i64))),(2432,.arr 0 132 (s.1.map bC.pd)),(2576,.arr 0 3 (s.2.1.map (PD.int .i64)))]) (fun o=>match o with| .inl y=>gX 0 0 52 42 [(8,.ref 2432 0),(9,.ref 2576 0)] [(2432,.arr 0 132 (y.1.map bC.pd)),(2576,.arr 0 3 (y.2.map (PD.int .i64)))]| .inr r=>gF 52 Tryz.f52 0 (.tup [rM bC.pd r.1,rL r.2.1,rI r.2.2],[])) Z ?_ ?_))
 ·rintro⟨s5,s6,s7,s8⟩ C u d6 k h
  unfold cA at h
  refine qS<|Ft k Z<|sV (.ptr 176 0)<|sL Z<|sV (.agg [.ref 560 0,.ref 561 0])<|bE h fun e0 T h=>cR (rI e0) [ ] (ce T)<|bE h fun g1 U h=>WO.tF U Z Z Z Z Z Z Z Z<|bE h fun g2 W h=>WO.tg W Z Z Z Z Z Z<|sV (.agg [.ref 560 0,.ref 561 0])<|bE h fun e1 X h=>cR (rI e1) [ ] (ce X)<|sF h ?_ ?_<;>intro h
  ·refine sN<|sO<|cT<|qK<|qB<|gU Z<|sV (.agg [.ref 560 0,.ref 561 0])<|sV (.d (bi.pd a0))<|mM Z<|bE h fun f Y h=>cR (rL f.1) [(560,.arr 0 3 (f.2.1.map (PD.int .i64))),(561,.arr 0 3 (f.2.2.map (PD.int .i64)))] (chain_window_ev Y)<|sA Z<|sN<|Fx (α:=(List bC)×(List Int)) (fun x C u=>rJ prog 0 (A C u) (bo.at_ 52 0 40)=some (A [(1,rM aw.pd a1),(2,.ptr 32 0),(8,.ref 2432 0),(9,.ref 2576 0),(10,rL D),(11,.ptr 176 0),(12,rL f.1)] [(32,.var (bi.rc a0)),(176,.var [.ref 560 0,.ref 561 0]),(560,.arr 0 3 (f.2.1.map (PD.int .i64))),(561,.arr 0 3 (f.2.2.map (PD.int .i64))),(2432,.arr 0 132 (x.1.map bC.pd)),(2576,.arr 0 3 (x.2.map (PD.int .i64)))])) (fun x=>dh f D x.1 x.2=some d6) ?_ ?_
   ·refine gU Z<|sM Z<|sE (rI (f.1.length:Int)) (sx _ _)<|sV (.ptr 32 13)<|sL Z<|sF h ?_ ?_<;>intro h
    ·refine sN<|cT<|gU Z<|sV .rm<|sN<|qS<|gU Z<|sM Z<|sE (rI (f.1.length:Int)) (sx _ _)<|sV (r0)<|sN<|bE h fun j F h=>Fq (Fs (WL.rU F (fun s=>gI 0 52 13 [(1,rM aw.pd a1),(2,.ptr 32 0),(8,.ref 2432 0),(9,.ref 2576 0),(10,rL D),(11,.ptr 176 0),(12,rL f.1),(13,.ref 1120 0),(55,rL f.1),(56,rI (f.1.length:Int)),(57,rI s.1)] [(32,.var (bi.rc a0)),(176,.var [.ref 560 0,.ref 561 0]),(560,.arr 0 3 (f.2.1.map (PD.int .i64))),(561,.arr 0 3 (f.2.2.map (PD.int .i64))),(1120,.arr 0 180 (s.2.map aw.pd)),(2432,.arr 0 132 (s5.map bC.pd)),(2576,.arr 0 3 (s6.map (PD.int .i64)))]) (fun o=>gX 2 0 52 17 [(1,rM aw.pd a1),(2,.ptr 32 0),(8,.ref 2432 0),(9,.ref 2576 0),(10,rL D),(11,.ptr 176 0),(12,rL f.1),(13,rM aw.pd o.1)] [(32,.var (bi.rc a0)),(176,.var [.ref 560 0,.ref 561 0]),(560,.arr 0 3 (f.2.1.map (PD.int .i64))),(561,.arr 0 3 (f.2.2.map (PD.int .i64))),(2432,.arr 0 132 (o.2.1.map bC.pd)),(2576,.arr 0 3 (o.2.2.map (PD.int .i64)))]) Z ?_ ?_))
     ·rintro⟨d7,f3⟩ C u e9 k h
      refine gS Z k<|sF h ?_ ?_<;>intro h
      ·refine sN<|qS<|cT<|qK<|qS<|qB<|gU Z<|bE h fun g6 b2 h=>eG b2 Z<|sC Z<|sA Z<|sN<|Fu Z Z<|sM Z<|sM Z ?_
       refine mM Z<|bE h fun g7 b3 h=>eG b3 Z<|sC Z<|bE h fun N b4 h=>eG b4 Z<|sV (.d (aw.pd N))<|sV (.d (.lst ([N].map aw.pd)))<|bE h fun g8 b5 h=>aR b5 (fun _=>Z) Z<|sA Z<|sN<|Fu Z Z<|sV (rI (rW (d7+(1:Int)))) ?_
       refine sM Z<|sN ?_
       cases oI h
       exact⟨rfl,rfl⟩
      refine sN<|qS<|cF<|qX ?_
      cases oI h
      exact⟨nofun,rfl,rfl⟩
     intro e C u he E
     obtain⟨rfl,k⟩:=E
     refine qE<|Ft k Z<|sV (.d (bi.pd a0))<|sM Z<|bE h fun g9 b6 h=>cD (ce b6)<|sV (.ptr 32 10)<|sL Z<|bE h fun g c0 h=>cR (.tup [.d (ap.pd g.1),rI g.2]) [] (oU c0)<|sM Z<|sV (.d (ap.pd g.1))<|sV (rI g.2)<|sB (.ptr 256 0) 256 (.var zZ1)<|sH 256 (.var (ap.rc g.1)) ?_
     refine sA Z ?_
     refine sN<|sO<|qS<|gU Z<|sM Z<|sF h ?_ ?_<;>intro h
     ·refine sN<|cT<|gU Z<|sM Z<|sV .rm<|sV .rm<|sA Z<|sN<|qR ?_
      cases oI h
      exact⟨nofun,rfl,rfl⟩
     refine sN<|cF<|qK<|Ft Z Z<|sV (.d (bi.pd a0))<|sM Z<|bE h fun h0 c1 h=>cD (ce c1)<|sV (.ptr 256 0)<|sV (.d (ag.pd g.1.bO))<|sV (.ptr 256 3)<|sL Z<|bE h fun q c2 h=>cR (.tup [rL q.1,rI q.2]) [] (ce c2)<|sM Z ?_
     refine sV (rL q.1)<|sV (rI q.2)<|sA Z<|sA Z ?_
     refine sN<|sO<|qS<|gU Z<|sM Z<|sF h ?_ ?_<;>intro h
     ·refine sN<|cT<|gU Z<|sM Z<|sV .rm<|sV .rm<|sA Z<|sN<|qR ?_
      cases oI h
      exact⟨nofun,rfl,rfl⟩
     refine sN<|cF<|qK<|gU Z<|sV .rm<|sN<|qS<|gU Z<|sM Z<|sE (rI (f.1.length:Int)) (sx _ _)<|sV (r0)<|sN<|bE h fun J G h=>Fq (Fs (WL.rU G (fun s=>gI 0 52 25 [(1,rM aw.pd a1),(2,.ptr 32 0),(8,.ref 2432 0),(9,.ref 2576 0),(10,rL D),(11,.ptr 176 0),(12,rL f.1),(16,.ptr 256 0),(18,rL q.1),(19,.ref 1840 0),(98,rL f.1),(99,rI (f.1.length:Int)),(100,rI s.1)] [(32,.var (bi.rc a0)),(176,.var [.ref 560 0,.ref 561 0]),(256,.var (ap.rc g.1)),(560,.arr 0 3 (f.2.1.map (PD.int .i64))),(561,.arr 0 3 (f.2.2.map (PD.int .i64))),(1840,.arr 0 3 (s.2.map (PD.int .i64))),(2432,.arr 0 132 (j.2.1.map bC.pd)),(2576,.arr 0 3 (j.2.2.map (PD.int .i64)))]) (fun o=>gX 4 0 52 30 [(1,rM aw.pd a1),(2,.ptr 32 0),(8,.ref 2432 0),(9,.ref 2576 0),(10,rL D),(11,.ptr 176 0),(12,rL f.1),(16,.ptr 256 0),(19,.ref 1840 0)] [(32,.var (bi.rc a0)),(176,.var [.ref 560 0,.ref 561 0]),(256,.var (ap.rc g.1)),(560,.arr 0 3 (f.2.1.map (PD.int .i64))),(561,.arr 0 3 (f.2.2.map (PD.int .i64))),(1840,.arr 0 3 (o.map (PD.int .i64))),(2432,.arr 0 132 (j.2.1.map bC.pd)),(2576,.arr 0 3 (j.2.2.map (PD.int .i64)))]) Z ?_ ?_))
     ·rintro⟨K,f4⟩ C u f0 k h
      refine gS Z k<|sF h ?_ ?_<;>intro h
      ·refine sN<|qS<|cT<|qK<|qS<|qB<|gU Z<|sM Z<|bE h fun e3 c3 h=>eG c3 Z<|sC Z<|sA Z<|sA Z<|sN<|Ft Z Z ?_
       refine mM Z<|bE h fun h2 c4 h=>eG c4 Z<|sC Z<|sV (.ptr 32 12)<|sL Z<|sF h ?_ ?_<;>intro h
       ·refine sN<|sO<|cT<|Fu Z Z<|mM Z<|sV (.d (.lst ([e3].map (PD.int .i64))))<|bE h fun h5 c5 h=>aR c5 (fun _=>Z) Z<|sA Z<|sN<|Fu Z Z<|sV (rI (rW (K+(1:Int))))<|sM Z<|sN ?_
        cases oI h
        exact⟨rfl,rfl⟩
       refine sN<|sO<|cF<|qK<|Fu Z Z<|sV (rI (rW (K+(1:Int))))<|sM Z<|sN ?_
       cases oI h
       exact⟨rfl,rfl⟩
      refine sN<|qS<|cF<|qX ?_
      cases oI h
      exact⟨nofun,rfl,rfl⟩
     intro e C u he E
     obtain⟨rfl,k⟩:=E
     refine qE<|gS Z k<|sM Z<|WO.lenR Z Z Z Z Z Z Z Z Z<|sV (.ptr 32 13)<|sL Z<|sF h ?_ ?_<;>intro h
     ·refine sN<|cT<|gU Z<|sV (.ptr 256 0)<|sV (.d (ag.pd g.1.bO))<|sV (.ptr 256 3)<|sL Z<|sV (.agg (.rm::ag.rc g.1.bO++[rI g.1.bT]))<|sB (.ptr 352 0) 352 (.var [.rm,r0,r0,r0,r0])<|sS 352 (.var (.rm::ag.rc g.1.bO++[rI g.1.bT]))<|sN<|qS<|gU Z<|sM Z<|WO.lenR Z Z Z Z Z Z Z Z Z ?_
      refine sV (r0)<|sN<|bE h fun e8 H h=>Fq (Fs (WL.rU H (fun s=>gI 0 52 33 [(1,rM aw.pd a1),(2,.ptr 32 0),(8,.ref 2432 0),(9,.ref 2576 0),(10,rL D),(11,.ptr 176 0),(22,.ptr 352 0),(127,.ref 1840 0),(128,rI (J.length:Int)),(129,rI s.1)] [(32,.var (bi.rc a0)),(176,.var [.ref 560 0,.ref 561 0]),(352,.var (.ref 2288 0::ag.rc g.1.bO++[rI g.1.bT])),(560,.arr 0 3 (s.2.1.map (PD.int .i64))),(561,.arr 0 3 (s.2.2.1.map (PD.int .i64))),(1840,.arr 0 3 (J.map (PD.int .i64))),(2288,.arr 0 3 (s.2.2.2.map (PD.int .i64))),(2432,.arr 0 132 (j.2.1.map bC.pd)),(2576,.arr 0 3 (j.2.2.map (PD.int .i64)))]) (fun o=>gX 6 0 52 38 [(1,rM aw.pd a1),(2,.ptr 32 0),(8,.ref 2432 0),(9,.ref 2576 0),(10,rL D),(11,.ptr 176 0),(22,.ptr 352 0)] [(32,.var (bi.rc a0)),(176,.var [.ref 560 0,.ref 561 0]),(352,.var (.ref 2288 0::ag.rc g.1.bO++[rI g.1.bT])),(560,.arr 0 3 (o.1.map (PD.int .i64))),(561,.arr 0 3 (o.2.1.map (PD.int .i64))),(2288,.arr 0 3 (o.2.2.map (PD.int .i64))),(2432,.arr 0 132 (j.2.1.map bC.pd)),(2576,.arr 0 3 (j.2.2.map (PD.int .i64)))]) Z ?_ ?_))
      ·rintro⟨d8,f5,f6,g0⟩ C u f1 k h
       refine gS Z k<|sF h ?_ ?_<;>intro h
       ·refine sN<|qS<|cT<|qK<|qS<|qB<|gU Z<|bE h fun h6 c6 h=>WO.tF c6 Z Z Z Z Z Z Z Z<|bE h fun h7 c7 h=>WO.tg c7 Z Z Z Z Z Z<|sA Z<|sN<|gU Z<|sV (.agg [.ref 560 0,.ref 561 0]) ?_
        refine sM Z<|bE h fun O c8 h=>cR (.tup []) [(560,.arr 0 3 (O.1.map (PD.int .i64))),(561,.arr 0 3 (O.2.map (PD.int .i64)))] (ce c8)<|sN<|Fw Z Z<|sV (.ptr 352 0)<|sL Z<|mM Z<|bE h fun e4 d0 h=>eG d0 Z<|sC Z<|sV (.d (.lst ([e4].map (PD.int .i64))))<|bE h fun h8 d1 h=>aR d1 (fun _=>Z) Z ?_
        refine sV (.ptr 352 0)<|sS 352 (.var (.ref 2288 1::ag.rc g.1.bO++[rI g.1.bT])) ?_
        refine sN<|sO<|Fu Z Z<|sV (rI (rW (d8+(1:Int))))<|sM Z<|sN ?_
        cases oI h
        exact⟨rfl,rfl⟩
       refine sN<|qS<|cF<|qX ?_
       cases oI h
       exact⟨nofun,rfl,rfl⟩
      intro e C u he E
      obtain⟨rfl,k⟩:=E
      refine qE<|gS Z k<|sV (.ptr 352 0)<|sL Z<|bE h fun Q d2 h=>cR (.tup []) [(2288,.arr 0 3 (Q.map (PD.int .i64)))] (sortI_105 d2)<|sN<|gU Z<|sM Z<|sV (.agg (.ref 2288 0::ag.rc g.1.bO++[rI g.1.bT]))<|sB (.d (.lst [bC.pd (bC.mk Q g.1.bO g.1.bT)])) 2288 .dead<|bE h fun h9 d3 h=>aR d3 (fun _=>Z) Z<|sA Z<|sN ?_
      refine qX<|qE ?_
      cases oI h
      exact⟨rfl,rfl⟩
     exact sN<|cF<|qK<|⟨(j.2.1,j.2.2),rfl,h⟩
    exact sN<|cF<|qK<|⟨(s5,s6),rfl,h⟩
   rintro⟨e6,e7⟩ C u k h
   refine gS Z k<|mM Z<|sM Z<|bE h fun g3 a5 h=>eG a5 Z<|sC Z<|bE h fun e2 a6 h=>eG a6 Z<|sC Z<|sV (.d (.lst ([e2].map (PD.int .i64))))<|bE h fun g4 a9 h=>aR a9 (fun _=>Z) Z<|sA Z<|sN ?_
   refine Fw Z Z<|sV (.agg [.ref 560 0,.ref 561 0])<|sM Z<|bE h fun g5 b0 h=>eG b0 Z<|sC Z<|bE h fun L b1 h=>cR (.tup []) [(560,.arr 0 3 (L.1.map (PD.int .i64))),(561,.arr 0 3 (L.2.map (PD.int .i64)))] (ce b1) ?_
   refine sN<|sO ?_
   cases oI h
   exact⟨rfl,rfl⟩
  refine sN<|sO<|cF<|qX ?_
  cases oI h
  exact⟨nofun,rfl,rfl⟩
 intro e C u he E
 rcases d5 with i0|f2
 ·obtain⟨rfl,k⟩:=E
  refine qE<|gS Z k<|sM Z<|bE h fun e5 d4 h=>cR (.tup []) [(2576,.arr 0 3 (e5.map (PD.int .i64)))] (sortI_105 d4)<|sN<|gU Z<|mM Z<|sA Z<|sA Z<|sV (r0)<|sN<|qR ?_
  exact oI h▸qD
 obtain⟨rfl,hf⟩:=E
 cases oI h
 exact hf
section
attribute [local irreducible] HM HU HF HB WO WC QS QB tZ
instance {f:(List aa)}{a0:ah}{a1:ae}:LI (iM f a0 a1) 7 (fun s=>[(27,rI s.1)]) (fun s=>[(704,.arr 0 70 (s.2.1.map aa.pd)),(784,.arr 0 180 (s.2.2.1.map aw.pd)),(864,.arr 0 90 (s.2.2.2.map az.pd))]) (jX 13 (fun o=>[]) fun o=>[(704,.arr 0 70 (o.1.map aa.pd)),(784,.arr 0 180 (o.2.1.map aw.pd)),(864,.arr 0 90 (o.2.2.map az.pd))]):=⟨⟩
instance {a0:ah}{a1:ae}{a2:(List aa)}:CE prog bo ext (jN a0 a1 a2) 106 [.d (ah.pd a0),.d (ae.pd a1),rM aa.pd a2] [] fun r=>(.tup [.d (bF.pd r.1),rI r.2],[]):=⟨fun h=>Ev.au h Tryz.func106⟩
instance {a0:bF}{a1:ah}:CE prog bo ext (lg a0 a1) 107 [.d (bF.pd a0),.d (ah.pd a1)] [] fun r=>(.tup [.d (ak.pd r.1),rI r.2],[]):=⟨fun h=>Ev.au h Tryz.func107⟩
instance :LI (qg) 4 (fun s=>[(0,rI s.1)]) (fun s=>[(240,.arr 0 3 (s.2.map (PD.int .i64)))]) (jX 7 (fun o=>[]) fun o=>[(240,.arr 0 3 (o.map (PD.int .i64)))]):=⟨⟩
instance {a0:Int}:CE prog bo ext (ru a0) 298 [rI a0] [] fun r=>(.tup [rL r.1,rI r.2],[]):=⟨fun h=>Ev.au h Tryz.func298⟩
instance {a0:Int}:CE prog bo ext (oj a0) 296 [rI a0] [] fun r=>(rB r,[]):=⟨fun h=>Ev.au h Tryz.func296⟩
instance {a0:(List Int)}:LI (fM a0) 2 (fun s=>[(8,rI s)]) (fun s=>[]) (jY 7 (fun y=>[]) (fun y=>[]) Tryz.f303 fun r=>(rI r,[])):=⟨⟩
instance {a0:(List Int)}:CE prog bo ext (gE a0) 303 [rL a0,.d (.raw (.func (.func 296) #[] #[]))] [] fun r=>(rI r,[]):=⟨fun h=>Ev.au h Tryz.func303⟩
instance {a0:(List Int)}:CE prog bo ext (dq a0) 295 [rL a0,.d (.raw (.func (.func 296) #[] #[]))] [] fun r=>(rB r,[]):=⟨fun h=>Ev.au h Tryz.func295⟩
instance {a0:(List Int)}:CE prog bo ext (md a0) 282 [rL a0] [] fun r=>(rB r,[]):=⟨fun h=>Ev.au h Tryz.func282⟩
instance {a0:(List Int)}{a1:(List Int)}:CE prog bo ext (qh a0 a1) 304 [rL a0,rL a1] [] fun r=>(rB r,[]):=⟨fun h=>Ev.au h Tryz.func304⟩
instance {a0:(List Int)}{a1:Int}:CE prog bo ext (n4 a0 a1) 302 [rL a0,rI a1] [] fun r=>(rI r,[]):=⟨fun h=>Ev.au h Tryz.func302⟩
instance :LI (qj) 1 (fun s=>[(0,rL s)]) (fun s=>[]) (jX 3 (fun o=>[(0,rL o)]) fun o=>[]):=⟨⟩
instance {a0:(List Int)}:CE prog bo ext (qi a0) 301 [rL a0] [] fun r=>(rL r,[]):=⟨fun h=>Ev.au h Tryz.func301⟩
instance {a0:(List Int)}{a1:(List Int)}:LI (m7 a0 a1) 3 (fun s=>[(18,rI s.1)]) (fun s=>[(240,.arr 0 3 (s.2.map (PD.int .i64)))]) (jX 15 (fun o=>[]) fun o=>[(240,.arr 0 3 (o.map (PD.int .i64)))]):=⟨⟩
instance {a1:(List Int)}{s2:Int}{f:Int}:LI (m6 a1 s2 f) 7 (fun s=>[(8,rI s.1),(26,rI s.2.1)]) (fun s=>[(240,.arr 0 3 (s.2.2.map (PD.int .i64)))]) (jX 14 (fun o=>[(18,rI o.1)]) fun o=>[(240,.arr 0 3 (o.2.map (PD.int .i64)))]):=⟨⟩
instance {a0:(List Int)}{a1:(List Int)}:CE prog bo ext (lk a0 a1) 294 [rL a0,rL a1] [] fun r=>(rL r,[]):=⟨fun h=>Ev.au h Tryz.func294⟩
instance {a0:(List Int)}:CE prog bo ext (kK a0) 293 [rL a0] [] fun r=>(.tup [rL r.1,rI r.2],[]):=⟨fun h=>Ev.au h Tryz.func293⟩
instance {a0:(List Int)}{a1:(List Int)}:CE prog bo ext (nat_Mul a0 a1) 299 [rL a0,rL a1] [] fun r=>(.tup [rL r.1,rI r.2],[]):=⟨fun h=>Ev.au h Tryz.func299⟩
instance {a0:Int}:CE prog bo ext (eo a0) 290 [rI a0] [] fun r=>(rL r,[]):=⟨fun h=>Ev.au h Tryz.func290⟩
instance {a1:(List Int)}{a0:(List Int)}:LI (qe a1 a0) 6 (fun s=>[(7,rI s.1),(19,rI s.2.1)]) (fun s=>[(560,.arr 0 3 (s.2.2.map (PD.int .i64)))]) (jX 12 (fun o=>[]) fun o=>[(560,.arr 0 3 (o.map (PD.int .i64)))]):=⟨⟩
instance {a0:(List Int)}{a1:(List Int)}:CE prog bo ext (nat_Add a0 a1) 300 [rL a0,rL a1] [] fun r=>(.tup [rL r.1,rI r.2],[]):=⟨fun h=>Ev.au h Tryz.func300⟩
instance {a0:bR}{a1:Int}{a2:Int}:CE prog bo ext (je a0 a1 a2) 291 [.d (bR.pd a0),rI a1,rI a2] [] fun r=>(rL r,[]):=⟨fun h=>Ev.au h Tryz.func291⟩
instance {a0:bh}{a1:Int}{a2:Int}:CE prog bo ext (nu a0 a1 a2) 280 [.d (bh.pd a0),rI a1,rI a2] [] fun r=>(.tup [.d (bD.pd r.1),rB r.2],[]):=⟨fun h=>Ev.au h Tryz.func280⟩
instance {a0:bD}:CE prog bo ext (iq a0) 292 [.d (bD.pd a0)] [] fun r=>(rB r,[]):=⟨fun h=>Ev.au h Tryz.func292⟩
instance {a0:bD}{a1:bD}:CE prog bo ext (qw a0 a1) 281 [.d (bD.pd a0),.d (bD.pd a1)] [] fun r=>(.tup [.d (bD.pd r.1),rI r.2],[]):=⟨fun h=>Ev.au h Tryz.func281⟩
instance {a0:bv}{a1:Int}{a2:Int}:LI (mN a0 a1 a2) 7 (fun s=>[(33,rI s.1)]) (fun s=>[(128,.var [rL s.2.1,rL s.2.2])]) (jY 17 (fun y=>[]) (fun y=>[(128,.var [rL y.1,rL y.2])]) Tryz.f251 fun r=>(.tup [.d (bD.pd r.1),rI r.2],[])):=⟨⟩
instance {a0:bv}{a1:Int}{a2:Int}:CE prog bo ext (nq a0 a1 a2) 251 [.d (bv.pd a0),rI a1,rI a2] [] fun r=>(.tup [.d (bD.pd r.1),rI r.2],[]):=⟨fun h=>Ev.au h Tryz.func251⟩
end
theorem qC{a0:Int}{a1:Int}{r:Int}(h:gw a0 a1=some r):EvP prog bo ext 283 [rI a0,rI a1] [] (rI r,[]):=by
 refine Ev.body Z Tryz.func283 Z Zk<|gU Z<|sV (r0)<|sN<|gU Z<|sV (r0)<|sN<|qS<|gU Z<|sV (r0)<|sN<|Fq (Fs ?_)
 refine WL.round<|gU Z<|sT<|sN<|qS<|cT<|qK<|Fx (α:=Int×Int) (fun x g f=>rJ prog 0 (A g f) (bo.at_ 283 0 9)=some (A [(0,rI a0),(1,rI x.1),(5,rI x.2),(6,r0)] [])) (fun x=>fJ a0 x.1 x.2=some r) ?_ ?_
 ·refine qB<|gU Z<|mM Z<|sV (rI (rW (a1*a1)))<|sV (rI (sl .i64 (rW (a1*a1)) (30:Int)))<|sA Z<|sN<|gU Z<|sM Z<|sV (r0)<|sA Z<|sN<|gU Z<|sM Z ?_
  refine sF h ?_ ?_<;>intro h
  ·exact sN<|cT<|gS rfl rfl<|sM rfl<|bE h fun b6 a5 h=>WO.quoG a5 rfl rfl rfl rfl rfl rfl<|sA rfl<|sN<|Fu rfl rfl<|sM rfl<|sV (rI 1)<|sA rfl<|sN<|⟨(b6,1),rfl,h⟩
  exact sN<|cF<|qK<|⟨((sl .i64 (rW (a1*a1)) (30:Int)),0),rfl,h⟩
 rintro⟨E,J⟩ g f j h
 refine Fu j Z<|sV (rI 1)<|sM Z<|sN<|WL.round<|gU Z<|sT<|sN<|qS<|cT<|qK<|Fx (α:=Int×Int) (fun x g f=>rJ prog 0 (A g f) (bo.at_ 283 0 9)=some (A [(0,rI a0),(1,rI x.1),(5,rI x.2),(6,rI 1)] [])) (fun x=>fI a0 x.1 x.2=some r) ?_ ?_
 ·refine qB<|gU Z<|mM Z<|sV (rI (rW (E*E)))<|sV (rI (sl .i64 (rW (E*E)) (30:Int)))<|sA Z<|sN<|gU Z<|sM Z<|sV (rI (rW (J*(2:Int))))<|sA Z<|sN<|gU Z<|sM Z ?_
  refine sF h ?_ ?_<;>intro h
  ·exact sN<|cT<|gS rfl rfl<|sM rfl<|bE h fun b5 Y h=>WO.quoG Y rfl rfl rfl rfl rfl rfl<|sA rfl<|sN<|Fu rfl rfl<|sM rfl<|sV (rI (rW ((rW (J*(2:Int)))+(1:Int))))<|sA rfl<|sN<|⟨(b5,(rW ((rW (J*(2:Int)))+(1:Int)))),rfl,h⟩
  exact sN<|cF<|qK<|⟨((sl .i64 (rW (E*E)) (30:Int)),(rW (J*(2:Int)))),rfl,h⟩
 rintro⟨F,K⟩ g f j h
 refine Fu j Z<|sV (rI 2)<|sM Z<|sN<|WL.round<|gU Z<|sT<|sN<|qS<|cT<|qK<|Fx (α:=Int×Int) (fun x g f=>rJ prog 0 (A g f) (bo.at_ 283 0 9)=some (A [(0,rI a0),(1,rI x.1),(5,rI x.2),(6,rI 2)] [])) (fun x=>fH a0 x.1 x.2=some r) ?_ ?_
 ·refine qB<|gU Z<|mM Z<|sV (rI (rW (F*F)))<|sV (rI (sl .i64 (rW (F*F)) (30:Int)))<|sA Z<|sN<|gU Z<|sM Z<|sV (rI (rW (K*(2:Int))))<|sA Z<|sN<|gU Z<|sM Z ?_
  refine sF h ?_ ?_<;>intro h
  ·exact sN<|cT<|gS rfl rfl<|sM rfl<|bE h fun b4 X h=>WO.quoG X rfl rfl rfl rfl rfl rfl<|sA rfl<|sN<|Fu rfl rfl<|sM rfl<|sV (rI (rW ((rW (K*(2:Int)))+(1:Int))))<|sA rfl<|sN<|⟨(b4,(rW ((rW (K*(2:Int)))+(1:Int)))),rfl,h⟩
  exact sN<|cF<|qK<|⟨((sl .i64 (rW (F*F)) (30:Int)),(rW (K*(2:Int)))),rfl,h⟩
 rintro⟨G,L⟩ g f j h
 refine Fu j Z<|sV (rI 3)<|sM Z<|sN<|WL.round<|gU Z<|sT<|sN<|qS<|cT<|qK<|Fx (α:=Int×Int) (fun x g f=>rJ prog 0 (A g f) (bo.at_ 283 0 9)=some (A [(0,rI a0),(1,rI x.1),(5,rI x.2),(6,rI 3)] [])) (fun x=>fG a0 x.1 x.2=some r) ?_ ?_
 ·refine qB<|gU Z<|mM Z<|sV (rI (rW (G*G)))<|sV (rI (sl .i64 (rW (G*G)) (30:Int)))<|sA Z<|sN<|gU Z<|sM Z<|sV (rI (rW (L*(2:Int))))<|sA Z<|sN<|gU Z<|sM Z ?_
  refine sF h ?_ ?_<;>intro h
  ·exact sN<|cT<|gS rfl rfl<|sM rfl<|bE h fun b3 W h=>WO.quoG W rfl rfl rfl rfl rfl rfl<|sA rfl<|sN<|Fu rfl rfl<|sM rfl<|sV (rI (rW ((rW (L*(2:Int)))+(1:Int))))<|sA rfl<|sN<|⟨(b3,(rW ((rW (L*(2:Int)))+(1:Int)))),rfl,h⟩
  exact sN<|cF<|qK<|⟨((sl .i64 (rW (G*G)) (30:Int)),(rW (L*(2:Int)))),rfl,h⟩
 rintro⟨H,N⟩ g f j h
 refine Fu j Z<|sV (rI 4)<|sM Z<|sN<|WL.round<|gU Z<|sT<|sN<|qS<|cT<|qK<|Fx (α:=Int×Int) (fun x g f=>rJ prog 0 (A g f) (bo.at_ 283 0 9)=some (A [(0,rI a0),(1,rI x.1),(5,rI x.2),(6,rI 4)] [])) (fun x=>fF a0 x.1 x.2=some r) ?_ ?_
 ·refine qB<|gU Z<|mM Z<|sV (rI (rW (H*H)))<|sV (rI (sl .i64 (rW (H*H)) (30:Int)))<|sA Z<|sN<|gU Z<|sM Z<|sV (rI (rW (N*(2:Int))))<|sA Z<|sN<|gU Z<|sM Z ?_
  refine sF h ?_ ?_<;>intro h
  ·exact sN<|cT<|gS rfl rfl<|sM rfl<|bE h fun b2 U h=>WO.quoG U rfl rfl rfl rfl rfl rfl<|sA rfl<|sN<|Fu rfl rfl<|sM rfl<|sV (rI (rW ((rW (N*(2:Int)))+(1:Int))))<|sA rfl<|sN<|⟨(b2,(rW ((rW (N*(2:Int)))+(1:Int)))),rfl,h⟩
  exact sN<|cF<|qK<|⟨((sl .i64 (rW (H*H)) (30:Int)),(rW (N*(2:Int)))),rfl,h⟩
 rintro⟨I,u⟩ g f j h
 refine Fu j Z<|sV (rI 5)<|sM Z<|sN<|WL.round<|gU Z<|sT<|sN<|qS<|cT<|qK<|Fx (α:=Int×Int) (fun x g f=>rJ prog 0 (A g f) (bo.at_ 283 0 9)=some (A [(0,rI a0),(1,rI x.1),(5,rI x.2),(6,rI 5)] [])) (fun x=>fD a0 x.1 x.2=some r) ?_ ?_
 ·refine qB<|gU Z<|mM Z<|sV (rI (rW (I*I)))<|sV (rI (sl .i64 (rW (I*I)) (30:Int)))<|sA Z<|sN<|gU Z<|sM Z<|sV (rI (rW (u*(2:Int))))<|sA Z<|sN<|gU Z<|sM Z ?_
  refine sF h ?_ ?_<;>intro h
  ·exact sN<|cT<|gS rfl rfl<|sM rfl<|bE h fun b1 T h=>WO.quoG T rfl rfl rfl rfl rfl rfl<|sA rfl<|sN<|Fu rfl rfl<|sM rfl<|sV (rI (rW ((rW (u*(2:Int)))+(1:Int))))<|sA rfl<|sN<|⟨(b1,(rW ((rW (u*(2:Int)))+(1:Int)))),rfl,h⟩
  exact sN<|cF<|qK<|⟨((sl .i64 (rW (I*I)) (30:Int)),(rW (u*(2:Int)))),rfl,h⟩
 rintro⟨k,C⟩ g f j h
 refine Fu j Z<|sV (rI 6)<|sM Z<|sN<|WL.round<|gU Z<|sT<|sN<|qS<|cT<|qK<|Fx (α:=Int×Int) (fun x g f=>rJ prog 0 (A g f) (bo.at_ 283 0 9)=some (A [(0,rI a0),(1,rI x.1),(5,rI x.2),(6,rI 6)] [])) (fun x=>fC a0 x.1 x.2=some r) ?_ ?_
 ·refine qB<|gU Z<|mM Z<|sV (rI (rW (k*k)))<|sV (rI (sl .i64 (rW (k*k)) (30:Int)))<|sA Z<|sN<|gU Z<|sM Z<|sV (rI (rW (C*(2:Int))))<|sA Z<|sN<|gU Z<|sM Z ?_
  refine sF h ?_ ?_<;>intro h
  ·exact sN<|cT<|gS rfl rfl<|sM rfl<|bE h fun b0 Q h=>WO.quoG Q rfl rfl rfl rfl rfl rfl<|sA rfl<|sN<|Fu rfl rfl<|sM rfl<|sV (rI (rW ((rW (C*(2:Int)))+(1:Int))))<|sA rfl<|sN<|⟨(b0,(rW ((rW (C*(2:Int)))+(1:Int)))),rfl,h⟩
  exact sN<|cF<|qK<|⟨((sl .i64 (rW (k*k)) (30:Int)),(rW (C*(2:Int)))),rfl,h⟩
 rintro⟨q,D⟩ g f j h
 refine Fu j Z<|sV (rI 7)<|sM Z<|sN<|WL.round<|gU Z<|sT<|sN<|qS<|cT<|qK<|Fx (α:=Int×Int) (fun x g f=>rJ prog 0 (A g f) (bo.at_ 283 0 9)=some (A [(0,rI a0),(1,rI x.1),(5,rI x.2),(6,rI 7)] [])) (fun x=>fB a0 x.1 x.2=some r) ?_ ?_
 ·refine qB<|gU Z<|mM Z<|sV (rI (rW (q*q)))<|sV (rI (sl .i64 (rW (q*q)) (30:Int)))<|sA Z<|sN<|gU Z<|sM Z<|sV (rI (rW (D*(2:Int))))<|sA Z<|sN<|gU Z<|sM Z ?_
  refine sF h ?_ ?_<;>intro h
  ·exact sN<|cT<|gS rfl rfl<|sM rfl<|bE h fun a9 O h=>WO.quoG O rfl rfl rfl rfl rfl rfl<|sA rfl<|sN<|Fu rfl rfl<|sM rfl<|sV (rI (rW ((rW (D*(2:Int)))+(1:Int))))<|sA rfl<|sN<|⟨(a9,(rW ((rW (D*(2:Int)))+(1:Int)))),rfl,h⟩
  exact sN<|cF<|qK<|⟨((sl .i64 (rW (q*q)) (30:Int)),(rW (D*(2:Int)))),rfl,h⟩
 rintro⟨c0,a6⟩ g f j h
 refine Fu j Z<|sV (rI 8)<|sM Z<|sN<|WL.round<|gU Z<|sU<|sN<|qS<|cF<|qX<|qE<|gU Z<|sM Z<|sV (rI (rW ((256:Int)*a0))) ?_
 refine sM Z<|sV (rI (rW ((rW ((256:Int)*a0))+a6)))<|sA Z<|sN<|qR ?_
 exact oI h▸qD
instance {a0:Int}{a1:Int}:CE prog bo ext (gw a0 a1) 283 [rI a0,rI a1] [] fun r=>(rI r,[]):=⟨fun h=>qC h⟩
section
attribute [local irreducible] HM HU HF HB WO WC QS QB tZ
instance {a0:Int}:CE prog bo ext (jT a0) 253 [rI a0] [] fun r=>(.tup [rI r.1,rI r.2],[]):=⟨fun h=>Ev.au h Tryz.func253⟩
instance {a0:(List Int)}:CE prog bo ext (iU a0) 252 [rL a0] [] fun r=>(.tup [rI r.1,rI r.2],[]):=⟨fun h=>Ev.au h Tryz.func252⟩
instance {a0:bS}{a1:bv}{a2:Int}:CE prog bo ext (lf a0 a1 a2) 208 [.d (bS.pd a0),.d (bv.pd a1),rI a2] [] fun r=>(.tup [rI r.1,rI r.2],[]):=⟨fun h=>Ev.au h Tryz.func208⟩
instance {a0:Int}:CE prog bo ext (kG a0) 211 [rI a0] [] fun r=>(rI r,[]):=⟨fun h=>Ev.au h Tryz.func211⟩
instance {a0:Int}:CE prog bo ext (m5 a0) 259 [rI a0] [] fun r=>(.tup [rI r.1,rB r.2],[]):=⟨fun h=>Ev.au h Tryz.func259⟩
instance {a0:Int}:CE prog bo ext (jI a0) 210 [rI a0] [] fun r=>(rI r,[]):=⟨fun h=>Ev.au h Tryz.func210⟩
instance {a0:Int}:CE prog bo ext (mF a0) 212 [rI a0] [] fun r=>(rI r,[]):=⟨fun h=>Ev.au h Tryz.func212⟩
instance {a0:bS}{a1:bv}{a2:Int}{a3:Int}{a4:Int}:CE prog bo ext (im a0 a1 a2 a3 a4) 148 [.d (bS.pd a0),.d (bv.pd a1),rI a2,rI a3,rI a4] [] fun r=>(.tup [.d (bp.pd r.1),rI r.2],[]):=⟨fun h=>Ev.au h Tryz.func148⟩
instance {a0:bF}{a2:al}{a1:ah}:LI (dQ a0 a2 a1) 3 (fun s=>[(15,rI s.1)]) (fun s=>[(816,.arr 0 118 (s.2.map bp.pd))]) (jX 9 (fun o=>[]) fun o=>[(816,.arr 0 118 (o.map bp.pd))]):=⟨⟩
instance {a0:bF}{a1:ah}{a2:al}:CE prog bo ext (dL a0 a1 a2) 108 [.d (bF.pd a0),.d (ah.pd a1),.d (al.pd a2)] [] fun r=>(rM bp.pd r,[]):=⟨fun h=>Ev.au h Tryz.func108⟩
instance {a0:bp}:CE prog bo ext (ju a0) 152 [.d (bp.pd a0)] [] fun r=>(rB r,[]):=⟨fun h=>Ev.au h Tryz.func152⟩
instance {a0:(List bp)}:LI (dz a0) 2 (fun s=>[(8,rI s)]) (fun s=>[]) (jY 7 (fun y=>[]) (fun y=>[]) Tryz.f216 fun r=>(rI r,[])):=⟨⟩
instance {a0:(List bp)}:CE prog bo ext (fm a0) 216 [rM bp.pd a0,.d (.raw (.func (.func 152) #[] #[]))] [] fun r=>(rI r,[]):=⟨fun h=>Ev.au h Tryz.func216⟩
instance {a0:(List bp)}:CE prog bo ext (dy a0) 151 [rM bp.pd a0,.d (.raw (.func (.func 152) #[] #[]))] [] fun r=>(rB r,[]):=⟨fun h=>Ev.au h Tryz.func151⟩
instance {a0:bp}:CE prog bo ext (jv a0) 154 [.d (bp.pd a0)] [] fun r=>(rI r,[]):=⟨fun h=>Ev.au h Tryz.func154⟩
instance {a0:(List bp)}:LI (ix a0) 3 (fun s=>[(10,rI s.1)]) (fun s=>[(304,.arr 0 3 (s.2.map (PD.int .i64)))]) (jX 7 (fun o=>[]) fun o=>[(304,.arr 0 3 (o.map (PD.int .i64)))]):=⟨⟩
instance {a0:(List bp)}:CE prog bo ext (gJ a0) 153 [rM bp.pd a0,.d (.raw (.func (.func 154) #[] #[]))] [] fun r=>(rI r,[]):=⟨fun h=>Ev.au h Tryz.func153⟩
instance {a0:bp}:CE prog bo ext (jw a0) 155 [.d (bp.pd a0)] [] fun r=>(rI r,[]):=⟨fun h=>Ev.au h Tryz.func155⟩
instance {a0:(List bp)}:LI (iy a0) 3 (fun s=>[(10,rI s.1)]) (fun s=>[(304,.arr 0 3 (s.2.map (PD.int .i64)))]) (jX 7 (fun o=>[]) fun o=>[(304,.arr 0 3 (o.map (PD.int .i64)))]):=⟨⟩
instance {a0:(List bp)}:CE prog bo ext (gK a0) 153 [rM bp.pd a0,.d (.raw (.func (.func 155) #[] #[]))] [] fun r=>(rI r,[]):=⟨fun h=>Ev.au h Tryz.func153⟩
instance {a0:(List bp)}:CE prog bo ext (il a0) 109 [rM bp.pd a0] [] fun r=>(.tup [.d (bp.pd r.1),rI r.2],[]):=⟨fun h=>Ev.au h Tryz.func109⟩
instance {a0:ah}{a1:ae}{a2:(List aa)}:CE prog bo ext (ji a0 a1 a2) 53 [.d (ah.pd a0),.d (ae.pd a1),rM aa.pd a2] [] fun r=>(.tup [.d (bJ.pd r.1),rI r.2],[]):=⟨fun h=>Ev.au h Tryz.func53⟩
instance {a0:aa}{a1:aa}:CE prog bo ext (jQ a0 a1) 60 [.d (aa.pd a0),.d (aa.pd a1)] [] fun r=>(rI r,[]):=⟨fun h=>Ev.au h Tryz.func60⟩
end
theorem nh{a0:(List aa)}{r:aa}(h:eD a0=some r):EvP prog bo ext 110 [rM aa.pd a0,.d (.raw (.func (.func 60) #[] #[]))] [] (.d (aa.pd r),[]):=by
 refine Ev.body Z Tryz.func110 Z Zk<|gU Z<|sB (.ptr 64 0) 64 (.var [rS [],rS [],rS [],rS [],r0,r0,r0,r0,r0])<|sN<|qS<|gU Z<|sM Z<|sE (rI (a0.length:Int)) (sx _ _)<|sF h ?_ ?_<;>intro h
 ·refine sN<|cT<|Fu Z Z<|sG (.ifc 9 (rS [115,108,105,99,101,115,46,77,105,110,70,117,110,99,58,32,101,109,112,116,121,32,108,105,115,116])) ?_
  cases h
 refine sN<|cF<|qK<|gU Z<|sM Z<|bE h fun I L h=>eG L Z<|sV (.d (aa.pd I))<|sB (.ptr 80 0) 80 (.var [rS [],rS [],rS [],rS [],r0,r0,r0,r0,r0])<|sH 80 (.var (aa.rc I))<|sN<|qS<|gU Z<|sV (rI 1)<|sN ?_
 refine bE h fun f g h=>Fq (Fs (WL.rU g (fun s=>gI 0 110 5 [(0,rM aa.pd a0),(1,.d (.raw (.func (.func 60) #[] #[]))),(4,.ptr 64 0),(5,.ptr 80 0),(6,rI s.1)] [(64,.var [rS [],rS [],rS [],rS [],r0,r0,r0,r0,r0]),(80,.var [rS s.2.1,rS s.2.2.1,rS s.2.2.2.1,rS s.2.2.2.2.1,rI s.2.2.2.2.2.1,rI s.2.2.2.2.2.2.1,rI s.2.2.2.2.2.2.2.1,rI s.2.2.2.2.2.2.2.2.1,rI s.2.2.2.2.2.2.2.2.2])]) (fun o=>gX 0 0 110 9 [(4,.ptr 64 0),(5,.ptr 80 0)] [(64,.var [rS [],rS [],rS [],rS [],r0,r0,r0,r0,r0]),(80,.var [rS o.1,rS o.2.1,rS o.2.2.1,rS o.2.2.2.1,rI o.2.2.2.2.1,rI o.2.2.2.2.2.1,rI o.2.2.2.2.2.2.1,rI o.2.2.2.2.2.2.2.1,rI o.2.2.2.2.2.2.2.2])]) Z ?_ ?_))
 ·rintro⟨H,Q,T,U,W,X,Y,D,E,F⟩ K J O C h
  refine qS<|gS Z C<|mM Z<|sE (rI (a0.length:Int)) (sx _ _)<|sF h ?_ ?_<;>intro h
  ·refine sN<|cT<|qK<|qS<|qB<|Ft Z Z<|mM Z<|sM Z<|bE h fun G k h=>eG k Z<|sV (.d (aa.pd G))<|sV (.d (aa.pd (aa.mk (bn.mk Q T U W) X Y D E F)))<|bE h fun a5 q h=>cD (ce q) ?_
   refine sF h ?_ ?_<;>intro h
   ·refine sN<|sO<|cT<|Fu Z Z<|mM Z<|bE h fun j u h=>eG u Z<|sV (.d (aa.pd j))<|sH 80 (.var (aa.rc j))<|sN<|Fu Z Z<|sM Z<|sV (rI (rW (H+(1:Int))))<|sA Z<|sN ?_
    cases oI h
    exact⟨rfl,rfl⟩
   refine sN<|sO<|cF<|qK<|Fu Z Z<|sM Z<|sV (rI (rW (H+(1:Int))))<|sA Z<|sN ?_
   cases oI h
   exact⟨rfl,rfl⟩
  refine sN<|cF<|qX ?_
  cases oI h
  exact⟨nofun,rfl,rfl⟩
 intro e K J he N
 obtain⟨rfl,C⟩:=N
 refine qE<|gS Z C<|sV (.d (aa.pd (aa.mk (bn.mk f.1 f.2.1 f.2.2.1 f.2.2.2.1) f.2.2.2.2.1 f.2.2.2.2.2.1 f.2.2.2.2.2.2.1 f.2.2.2.2.2.2.2.1 f.2.2.2.2.2.2.2.2)))<|sH 64 (.var [rS f.1,rS f.2.1,rS f.2.2.1,rS f.2.2.2.1,rI f.2.2.2.2.1,rI f.2.2.2.2.2.1,rI f.2.2.2.2.2.2.1,rI f.2.2.2.2.2.2.2.1,rI f.2.2.2.2.2.2.2.2])<|sN<|qR ?_
 cases oI h
 exact qG
instance {a0:(List aa)}:CE prog bo ext (eD a0) 110 [rM aa.pd a0,.d (.raw (.func (.func 60) #[] #[]))] [] fun r=>(.d (aa.pd r),[]):=⟨fun h=>nh h⟩
section
attribute [local irreducible] HM HU HF HB WO WC QS QB tZ
instance {a0:(List aa)}:CE prog bo ext (pr a0) 54 [rM aa.pd a0] [] fun r=>(.d (aa.pd r),[]):=⟨fun h=>Ev.au h Tryz.func54⟩
instance {a0:eE}{a1:aq}{a2:aq}:CE prog bo ext (lI a0 a1 a2) 56 [.d (eE.pd a0),.d (aq.pd a1),.d (aq.pd a2)] [] fun r=>(rI r,[]):=⟨fun h=>Ev.au h Tryz.func56⟩
end
theorem jh{a1:Int}{a2:Int}{d0:(List aq)}{r:(List aq)}(h:dw a1 a2 d0=some r):EvP prog bo ext 156 [.ref 0 0,rI a1,rI a2,.d (.raw (.func (.func 56) #[.agg #[]] #[]))] [.arr 0 122 (d0.map aq.pd)] (.tup [],[.arr 0 122 (r.map aq.pd)]):=by
 refine Ev.body Z Tryz.func156 Z Zk<|gU Z<|sM Z<|sV (rI (rW (a1+(1:Int))))<|sA Z<|sN<|bE h fun a5 q h=>?_
 cases oI h
 refine Fq (Fs (WL.uQ q (fun s=>gI 1 156 1 [(0,.ref 0 0),(1,rI a1),(2,rI a2),(3,.d (.raw (.func (.func 56) #[.agg #[]] #[]))),(8,rI s.1)] [(0,.arr 0 122 (s.2.map aq.pd))]) Z ?_))
 rintro⟨s1,s2⟩ R' B' q3 j h
 refine qS<|gS Z j<|mM Z<|sF h ?_ ?_<;>intro h
 ·refine sN<|cT<|qK<|qS<|qB<|gU Z<|sM Z<|sA Z<|sN<|bE h fun U k h=>Fq (Fs (WL.rU k (fun s=>gI 1 156 4 [(0,.ref 0 0),(1,rI a1),(2,rI a2),(3,.d (.raw (.func (.func 56) #[.agg #[]] #[]))),(8,rI s1),(9,rI s.1)] [(0,.arr 0 122 (s.2.map aq.pd))]) (fun o=>gX 2 1 156 2 [(0,.ref 0 0),(1,rI a1),(2,rI a2),(3,.d (.raw (.func (.func 56) #[.agg #[]] #[]))),(8,rI o.1)] [(0,.arr 0 122 (o.2.map aq.pd))]) Z ?_ ?_))
  ·rintro⟨u,s6⟩ R' B' q9 j h
   refine qS<|Ft j Z<|mM Z<|sF h ?_ ?_<;>intro h
   ·refine mM Z<|mM Z<|bE h fun a6 C h=>WO.tF C Z Z Z Z Z Z Z Z<|bE h fun a9 D h=>WO.tg D Z Z Z Z Z Z<|mM Z<|sV (rI (rW (u-(1:Int))))<|bE h fun b0 E h=>WO.tF E Z Z Z Z Z Z Z Z<|bE h fun b1 F h=>WO.tg F Z Z Z Z Z Z ?_
    refine bE h fun W G h=>cD (ce G)<|sV (rB (decide (W<(0:Int))))<|sF h ?_ ?_<;>intro h
    ·refine sN<|sO<|cT<|qK<|qS<|qB<|Fw Z Z<|mM Z<|mM Z<|sV (rI (rW (u-(1:Int))))<|mM Z<|sV (rI (rW (u-(1:Int))))<|bE h fun b2 H h=>?_
     refine WO.tF H Z Z Z Z Z Z Z Z<|bE h fun X I h=>WO.tg I Z Z Z Z Z Z<|mM Z<|bE h fun b3 J h=>WO.tF J Z Z Z Z Z Z Z Z<|bE h fun Y K h=>WO.tg K Z Z Z Z Z Z<|bE h fun b4 L h=>WO.tF L Z Z Z Z Z Z Z Z<|bE h fun b5 N h=>WO.vj (g:=aq.pd) (sz:=25) (p:=aq.pd X) N (by intro _;kernel_rfl) (by intro _;kernel_rfl) Z Z Z Z Z Z Z Z Z<|bE h fun b6 O h=>WO.tF O Z Z Z Z Z Z Z Z ?_
     refine bE h fun c0 Q h=>WO.vj (g:=aq.pd) (sz:=25) (p:=aq.pd Y) Q (by intro _;kernel_rfl) (by intro _;kernel_rfl) Z Z Z Z Z Z Z Z Z ?_
     refine sN<|sO<|Fu Z Z<|sM Z<|sV (rI (rW (u-(1:Int))))<|sA Z<|sN ?_
     cases oI h
     exact⟨rfl,rfl⟩
    refine sN<|sO<|cF<|qX ?_
    cases oI h
    exact⟨nofun,rfl,rfl⟩
   refine sM Z<|k3<|k3<|k3<|k3<|sU ?_
   refine sN<|sO<|cF<|qX ?_
   cases oI h
   exact⟨nofun,rfl,rfl⟩
  intro e R' B' he hq
  obtain⟨rfl,j⟩:=hq
  refine qE<|Fu j Z<|sM Z<|sV (rI (rW (U.1+(1:Int))))<|sA Z<|sN ?_
  cases oI h
  exact⟨rfl,rfl⟩
 refine sN<|cF<|qX<|oh h (fun z33 f hz=>?_)
 obtain rfl:=Option.some.inj hz
 refine⟨(fun he=>by cases he),fun T=>?_⟩
 subst T
 have h:=f
 refine qE ?_
 exact oI h▸qD
theorem kq:∀(f:Nat){a1:Int}{a2:Int}{a3:Int}{d0:(List aq)}{r:(List aq)}(_:f7 f a1 a2 a3 d0=some r),EvP prog bo ext 111 [.ref 0 0,rI a1,rI a2,rI a3,.d (.raw (.func (.func 56) #[.agg #[]] #[]))] [.arr 0 122 (d0.map aq.pd)] (.tup [],[.arr 0 122 (r.map aq.pd)])
  |0,_,_,_,_,_,h=>by cases h
  |f+1,a1,a2,a3,d0,r,h=>by
   refine Ev.body Z Tryz.func111 Z Zk<|gU Z<|sT<|sN<|gU Z<|sT<|sN<|bE h fun E g h=>Fq (Fs (WL.rU g (fun s=>gI 1 111 2 [(0,.ref 0 0),(1,rI a1),(2,rI a2),(3,rI a3),(4,.d (.raw (.func (.func 56) #[.agg #[]] #[]))),(10,rB true),(11,rB true)] [(0,.arr 0 122 (d0.map aq.pd))]) (fun o=>gF 111 Tryz.f111 1 (.tup [],[.arr 0 122 (o.map aq.pd)])) Z ?_ ?_))
   ·rintro⟨⟩ k j F u h
    refine qB<|gS Z u<|mM Z<|sV (rI (rW (a2-a1)))<|sA Z<|sN<|qS<|gU Z<|sM Z<|sF h ?_ ?_<;>intro h
    ·refine sN<|cT<|gU Z<|mM Z<|mM Z<|bE h fun D q h=>cR (.tup []) [(0,.arr 0 122 (D.map aq.pd))] (jh q)<|sN<|qR ?_
     cases oI h
     exact⟨nofun,rfl,rfl⟩
    refine sN<|cF<|qK<|qS<|gU Z<|sM Z<|sF h ?_ ?_<;>intro h
    ·refine sN<|cT<|gU Z<|mM Z<|sM Z<|sM Z ?_
     cases h
    refine sN<|cF<|qK<|qS<|gU Z<|sM Z<|sU<|sN<|cF<|qK<|gU Z<|mM Z<|sM Z<|sM Z ?_
    cases h
   intro e k j he C
   obtain⟨rfl,hf⟩:=C
   cases oI h
   exact hf
theorem kX{a1:Int}{a2:Int}{a3:Int}{d0:(List aq)}{r:(List aq)}(h:cK a1 a2 a3 d0=some r):EvP prog bo ext 111 [.ref 0 0,rI a1,rI a2,rI a3,.d (.raw (.func (.func 56) #[.agg #[]] #[]))] [.arr 0 122 (d0.map aq.pd)] (.tup [],[.arr 0 122 (r.map aq.pd)]):=
  let⟨n,f⟩:=Bc h;kq n f
instance {a1:Int}{a2:Int}{a3:Int}{d0:(List aq)}:CE prog bo ext (cK a1 a2 a3 d0) 111 [.ref 0 0,rI a1,rI a2,rI a3,.d (.raw (.func (.func 56) #[.agg #[]] #[]))] [.arr 0 122 (d0.map aq.pd)] fun r=>(.tup [],[.arr 0 122 (r.map aq.pd)]):=⟨fun h=>kX h⟩
section
attribute [local irreducible] HM HU HF HB WO WC QS QB tZ
instance {d0:(List aq)}:CE prog bo ext (ef d0) 55 [.ref 0 0,.d (.raw (.func (.func 56) #[.agg #[]] #[]))] [.arr 0 122 (d0.map aq.pd)] fun r=>(.tup [],[.arr 0 122 (r.map aq.pd)]):=⟨fun h=>Ev.au h Tryz.func55⟩
end
theorem qF{a0:ah}{a1:ae}{a2:(List aa)}{r:(List aq)×(List aa)×Int}(h:kz a0 a1 a2=some r):EvP prog bo ext 22 [.d (ah.pd a0),.d (ae.pd a1),rM aa.pd a2] [] (.tup [rM aq.pd r.1,rM aa.pd r.2.1,rI r.2.2],[]):=by
 refine Ev.body Z Tryz.func22 Z Zk<|gU Z<|sB (.ptr 48 0) 48 (.var (ah.rc a0))<|sB (.ptr 64 0) 64 (.var [rM aj.pd a1.a8])<|sV .rm<|sV .rm<|sV (r0)<|sN<|gU Z<|sV (.d (ah.pd a0))<|sV (.d (ae.pd a1))<|sM Z<|bE h fun q h1 h=>cR (.tup [rM aa.pd q.1,rM aw.pd q.2.1,rI q.2.2]) [] (ce h1)<|sM Z ?_
 refine sV (rM aa.pd q.1)<|sV (rM aw.pd q.2.1)<|sV (rI q.2.2)<|sA Z<|sA Z<|sA Z<|sN<|qS<|gU Z<|sM Z<|sF h ?_ ?_<;>intro h
 ·refine sN<|cT<|gU Z<|sM Z<|sV .rm<|sV .rm<|sA Z<|sN<|qR ?_
  cases oI h
  exact qG
 refine sN<|cF<|qK<|gU Z<|sV (.ptr 48 0)<|sV (.d (bi.pd a0.ac))<|sM Z<|bE h fun j h3 h=>cR (.tup [rM bC.pd j.1,rL j.2.1,rI j.2.2]) [] (pj h3)<|sM Z<|sV (rM bC.pd j.1)<|sV (rL j.2.1)<|sV (rI j.2.2)<|sA Z<|sA Z ?_
 refine sA Z<|sN<|qS<|gU Z<|sM Z<|sF h ?_ ?_<;>intro h
 ·refine sN<|cT<|gU Z<|sM Z<|sV .rm<|sV .rm<|sA Z<|sN<|qR ?_
  cases oI h
  exact qG
 refine sN<|cF<|qK<|gU Z<|sV .rm<|sN<|qS<|gU Z<|sM Z<|sE (rI (j.1.length:Int)) (sx _ _)<|sV (r0)<|sN<|bE h fun b0 H h=>Fq (Fs (WL.rU H (fun s=>gI 0 22 9 [(3,.ptr 48 0),(4,.ptr 64 0),(9,rM aa.pd q.1),(13,rL j.2.1),(14,.ref 1360 0),(47,rM bC.pd j.1),(48,rI (j.1.length:Int)),(49,rI s.1)] [(48,.var (ah.rc a0)),(64,.var [rM aj.pd a1.a8]),(1360,.arr 0 122 (s.2.map aq.pd))]) (fun o=>match o with| .inl y=>gX 0 0 22 22 [(9,rM aa.pd q.1),(13,rL j.2.1),(14,.ref 1360 0)] [(1360,.arr 0 122 (y.map aq.pd))]| .inr r=>gF 22 Tryz.f22 0 (.tup [rM aq.pd r.1,rM aa.pd r.2.1,rI r.2.2],[])) Z ?_ ?_))
 ·rintro⟨s5,s6⟩ F E q8 k h
  refine gS Z k<|sF h ?_ ?_<;>intro h
  ·refine sN<|qS<|cT<|qK<|qS<|qB<|gU Z<|bE h fun u L h=>eG L Z<|sV (.d (bC.pd u))<|sB (.ptr 256 0) 256 (.var [.rm,r0,r0,r0,r0])<|sS 256 (.var (bC.rc u))<|sN<|gU Z<|sV .rm ?_
   refine sN<|qS<|gU Z<|sV (.ptr 256 0)<|sL Z<|sE (rI (u.dj.length:Int)) (sx _ _)<|sV (r0)<|sN<|bE h fun a9 G h=>Fq (Fs (WL.rU G (fun s=>gI 0 22 13 [(3,.ptr 48 0),(4,.ptr 64 0),(9,rM aa.pd q.1),(13,rL j.2.1),(14,.ref 1360 0),(17,.ref 1056 0),(47,rM bC.pd j.1),(48,rI (j.1.length:Int)),(49,rI s5),(54,rL u.dj),(55,rI (u.dj.length:Int)),(56,rI s.1)] [(48,.var (ah.rc a0)),(64,.var [rM aj.pd a1.a8]),(1056,.arr 0 70 (s.2.map aa.pd)),(1360,.arr 0 122 (s6.map aq.pd))]) (fun o=>gX 2 0 22 17 [(3,.ptr 48 0),(4,.ptr 64 0),(9,rM aa.pd q.1),(13,rL j.2.1),(14,.ref 1360 0),(17,.ref 1056 0),(47,rM bC.pd j.1),(48,rI (j.1.length:Int)),(49,rI o.1)] [(48,.var (ah.rc a0)),(64,.var [rM aj.pd a1.a8]),(1056,.arr 0 70 (o.2.2.map aa.pd)),(1360,.arr 0 122 (o.2.1.map aq.pd))]) Z ?_ ?_))
   ·rintro⟨b1,c0⟩ F E b4 k h
    refine gS Z k<|sF h ?_ ?_<;>intro h
    ·refine sN<|qS<|cT<|qK<|qS<|qB<|gU Z<|bE h fun c2 N h=>eG N Z<|sC Z<|sA Z<|sN<|Fu Z Z<|sM Z<|sM Z ?_
     refine sM Z<|bE h fun J O h=>eG O Z<|sV (.d (aa.pd J))<|sG (.d (.lst ([J].map aa.pd)))<|bE h fun c3 Q h=>aR Q (fun _=>Z) Z<|sA Z<|sN<|Fu Z Z<|sV (rI (rW (b1+(1:Int))))<|sM Z<|sN ?_
     cases oI h
     exact⟨rfl,rfl⟩
    refine sN<|qS<|cF<|qX ?_
    cases oI h
    exact⟨nofun,rfl,rfl⟩
   intro e F E he D
   obtain⟨rfl,k⟩:=D
   refine qE<|gS Z k<|sV (.d (ah.pd a0))<|sV (.d (ae.pd a1))<|sM Z<|bE h fun f T h=>cR (.tup [.d (bJ.pd f.1),rI f.2]) [(1056,.dead)] (ce T)<|sM Z<|sV (.d (bJ.pd f.1))<|sV (rI f.2)<|sB (.ptr 320 0) 320 (.var [.rm,r0,r0,r0,r0,r0,r0,r0,r0,r0,r0,r0,r0,r0,r0,r0])<|sH 320 (.var (bJ.rc f.1))<|sA Z<|sN<|qS ?_
   refine gU Z<|sM Z<|sF h ?_ ?_<;>intro h
   ·refine sN<|cT<|gU Z<|sM Z<|sV .rm<|sV .rm<|sA Z<|sN<|qR ?_
    cases oI h
    exact⟨nofun,rfl,rfl⟩
   refine sN<|cF<|qK<|Fw Z Z<|sM Z<|sV (.ptr 320 0)<|sL Z<|bE h fun g U h=>cD (ce U)<|sV (.d (bJ.pd f.1))<|sG (.d (.agg [.str g.a7.bI,.str g.a7.bw,.str g.a7.bc,.str g.a7.bL,.int .i64 g.bT,.int .i64 g.bu,.int .i64 g.co,.int .i64 g.bH,.int .i64 g.bN,.lst (f.1.da.map aa.pd),.int .i64 f.1.bc.bO.fX,.int .i64 f.1.bc.bO.fY,.int .i64 f.1.bc.bO.fZ,.int .i64 f.1.bc.bT,.int .i64 f.1.bc.cb,.int .i64 f.1.bc.mz,.int .i64 f.1.bc.cp.bt.fX,.int .i64 f.1.bc.cp.bt.fY,.int .i64 f.1.bc.cp.bt.fZ,.int .i64 f.1.bc.cp.bd.fX,.int .i64 f.1.bc.cp.bd.fY,.int .i64 f.1.bc.cp.bd.fZ,.int .i64 f.1.fh.bt,.int .i64 f.1.fh.bd,.int .i64 f.1.qN]))<|sG (.d (.lst ([(aq.mk g f.1)].map aq.pd)))<|bE h fun c4 W h=>aR W (fun _=>Z) Z<|sA Z ?_
   refine sN<|sO<|Fu Z Z<|sV (rI (rW (a9.1+(1:Int))))<|sM Z<|sN ?_
   cases oI h
   exact⟨rfl,rfl⟩
  refine sN<|qS<|cF<|qX ?_
  cases oI h
  exact⟨nofun,rfl,rfl⟩
 intro e F E he D
 rcases b0 with c7|b6
 ·obtain⟨rfl,k⟩:=D
  refine qE<|gS Z k<|sM Z<|sV (.d (eE.pd (eE.mk )))<|sV (.d (.raw (.func (.func 56) #[.agg #[]] #[])))<|bE h fun C X h=>cR (.tup []) [(1360,.arr 0 122 (C.map aq.pd))] (ce X)<|sN<|gU Z<|sV .rm<|sN<|qS<|gU Z<|sM Z<|sE (rI (j.2.1.length:Int)) (sx _ _) ?_
  refine sV (r0)<|sN<|bE h fun b3 I h=>Fq (Fs (WL.rU I (fun s=>gI 0 22 25 [(9,rM aa.pd q.1),(14,.ref 1360 0),(22,.ref 1648 0),(91,rL j.2.1),(92,rI (j.2.1.length:Int)),(93,rI s.1)] [(1360,.arr 0 122 (C.map aq.pd)),(1648,.arr 0 70 (s.2.map aa.pd))]) (fun o=>gX 4 0 22 29 [(14,.ref 1360 0),(22,.ref 1648 0)] [(1360,.arr 0 122 (C.map aq.pd)),(1648,.arr 0 70 (o.map aa.pd))]) Z ?_ ?_))
  ·rintro⟨b2,c1⟩ F E b5 k h
   refine gS Z k<|sF h ?_ ?_<;>intro h
   ·refine sN<|qS<|cT<|qK<|qS<|qB<|gU Z<|bE h fun c5 Y h=>eG Y Z<|sC Z<|sA Z<|sN<|Fu Z Z<|sM Z<|sM Z ?_
    refine sM Z<|bE h fun K a5 h=>eG a5 Z<|sV (.d (aa.pd K))<|sG (.d (.lst ([K].map aa.pd)))<|bE h fun c6 a6 h=>aR a6 (fun _=>Z) Z<|sA Z<|sN<|Fu Z Z<|sV (rI (rW (b2+(1:Int))))<|sM Z<|sN ?_
    cases oI h
    exact⟨rfl,rfl⟩
   refine sN<|qS<|cF<|qX ?_
   cases oI h
   exact⟨nofun,rfl,rfl⟩
  intro e F E he D
  obtain⟨rfl,k⟩:=D
  refine qE<|gS Z k<|mM Z<|sA Z<|sA Z<|sV (r0)<|sN<|qR ?_
  exact oI h▸qD
 obtain⟨rfl,hf⟩:=D
 cases oI h
 exact hf
instance {a0:ah}{a1:ae}{a2:(List aa)}:CE prog bo ext (kz a0 a1 a2) 22 [.d (ah.pd a0),.d (ae.pd a1),rM aa.pd a2] [] fun r=>(.tup [rM aq.pd r.1,rM aa.pd r.2.1,rI r.2.2],[]):=⟨fun h=>qF h⟩
section
attribute [local irreducible] HM HU HF HB WO WC QS QB tZ
instance {a0:ah}{a1:ae}{a2:(List aa)}:CE prog bo ext (jd a0 a1 a2) 40 [.d (ah.pd a0),.d (ae.pd a1),rM aa.pd a2] [] fun r=>(.tup [.d (bq.pd r.1),rI r.2],[]):=⟨fun h=>Ev.au h Tryz.func40⟩
end
theorem jb{a0:ah}{a1:ae}{a2:(List aa)}{r:av×Int}(h:fw a0 a1 a2=some r):EvP prog bo ext 13 [.d (ah.pd a0),.d (ae.pd a1),rM aa.pd a2] [] (.tup [.d (av.pd r.1),rI r.2],[]):=by
 refine Ev.body Z Tryz.func13 Z Zk<|gU Z<|sB (.ptr 48 0) 48 (.var (ah.rc a0))<|sB (.ptr 64 0) 64 (.var [rM aj.pd a1.a8])<|sB (.ptr 96 0) 96 (.var zZ0)<|sV (r0)<|sN<|gU Z<|sV (.d (ah.pd a0))<|sV (.d (ae.pd a1))<|sM Z<|bE h fun j h1 h=>cR (.tup [.d (.lst (j.1.map (fun l=>PD.lst (l.map aa.pd)))),rI j.2]) [] (ce h1)<|sM Z<|sV (.d (.lst (j.1.map (fun l=>PD.lst (l.map aa.pd))))) ?_
 refine sV (rI j.2)<|sA Z<|sA Z<|sN<|qS<|gU Z<|sM Z<|sF h ?_ ?_<;>intro h
 ·refine sN<|cT<|gU Z<|sG (.agg zZ0)<|sM Z<|sH 96 (.var zZ0)<|sA Z<|sN<|qR ?_
  cases oI h
  exact qG
 refine sN<|cF<|qK<|gU Z<|sV (.d (ah.pd a0))<|sV (.d (ae.pd a1))<|bE h fun g H h=>cR (.agg (ah.rc g.ba++[rM aj.pd g.cm.a8,.rm])) [] (mU H)<|sB (.ptr 160 0) 160 (.var zZ0)<|sH 160 (.var (ah.rc g.ba++[rM aj.pd g.cm.a8,.rm]))<|sN<|qS<|gU Z<|sM Z<|sE (rI (j.1.length:Int)) (sx _ _) ?_
 refine sV (r0)<|sN<|bE h fun D k h=>Fq (Fs (WL.rU k (fun s=>gI 0 13 6 [(3,.ptr 48 0),(4,.ptr 64 0),(6,.ptr 96 0),(10,.ptr 160 0),(29,.d (.lst (j.1.map (fun l=>PD.lst (l.map aa.pd))))),(30,rI (j.1.length:Int)),(31,rI s.1)] [(48,.var (ah.rc a0)),(64,.var [rM aj.pd a1.a8]),(96,.var zZ0),(160,.var (ah.rc g.ba++[rM aj.pd g.cm.a8,.ref 800 0])),(800,.arr 0 61 (s.2.map bq.pd))]) (fun o=>match o with| .inl y=>gX 0 0 13 13 [(6,.ptr 96 0),(10,.ptr 160 0)] [(96,.var zZ0),(160,.var (ah.rc g.ba++[rM aj.pd g.cm.a8,.ref 800 0])),(800,.arr 0 61 (y.map bq.pd))]| .inr r=>gF 13 Tryz.f13 0 (.tup [.d (av.pd r.1),rI r.2],[])) Z ?_ ?_))
 ·rintro⟨K,Q⟩ G F O C h
  refine gS Z C<|sF h ?_ ?_<;>intro h
  ·refine sN<|qS<|cT<|qK<|qS<|qB<|gU Z<|bE h fun T I h=>eG I Z<|sC Z<|sA Z<|sN<|gU Z<|sV (.d (ah.pd a0))<|sV (.d (ae.pd a1)) ?_
   refine sM Z<|bE h fun f q h=>cR (.tup [.d (bq.pd f.1),rI f.2]) [] (ce q)<|sM Z<|sV (.d (bq.pd f.1))<|sV (rI f.2)<|sB (.ptr 208 0) 208 (.var [.rm,.rm,.rm])<|sS 208 (.var (bq.rc f.1))<|sA Z<|sN<|qS<|gU Z<|sM Z<|sF h ?_ ?_<;>intro h
   ·refine sN<|cT<|gU Z<|sG (.agg zZ0)<|sM Z<|sH 96 (.var zZ0)<|sA Z<|sN<|qR ?_
    cases oI h
    exact⟨nofun,rfl,rfl⟩
   refine sN<|cF<|qK<|Fu Z Z<|sV (.ptr 160 21)<|sL Z<|sV (.d (bq.pd f.1))<|sV (.d (.lst ([f.1].map bq.pd)))<|bE h fun L u h=>aR u (fun _=>Z) Z<|sV (.ptr 160 21)<|sS 160 (.var (ah.rc g.ba++[rM aj.pd g.cm.a8,.ref 800 1]))<|sN<|Fu Z Z<|sV (rI (rW (K+(1:Int)))) ?_
   refine sM Z<|sN ?_
   cases oI h
   exact⟨rfl,rfl⟩
  refine sN<|qS<|cF<|qX ?_
  cases oI h
  exact⟨nofun,rfl,rfl⟩
 intro e G F he E
 rcases D with N|J
 ·obtain⟨rfl,C⟩:=E
  refine qE<|gS Z C<|sV (.agg (ah.rc g.ba++[rM aj.pd g.cm.a8,.ref 800 0]))<|sH 96 (.var (ah.rc g.ba++[rM aj.pd g.cm.a8,.ref 800 0]))<|sV (r0)<|sN<|qR ?_
  cases oI h
  exact qG
 obtain⟨rfl,hf⟩:=E
 cases oI h
 exact hf
section
attribute [local irreducible] HM HU HF HB WO WC QS QB tZ
instance {a0:bq}:CE prog bo ext (nB a0) 63 [.d (bq.pd a0)] [] fun r=>(rM aa.pd r,[]):=⟨fun h=>Ev.au h Tryz.func63⟩
instance {a0:av}:LI (fx a0) 3 (fun s=>[(11,rI s.1)]) (fun s=>[(304,.arr 0 70 (s.2.map aa.pd))]) (jX 7 (fun o=>[]) fun o=>[(304,.arr 0 70 (o.map aa.pd))]):=⟨⟩
instance {a0:av}:CE prog bo ext (kd a0) 61 [.d (av.pd a0),.d (.raw (.func (.func 63) #[] #[]))] [] fun r=>(rM aa.pd r,[]):=⟨fun h=>Ev.au h Tryz.func61⟩
instance {a0:av}:CE prog bo ext (gV a0) 26 [.d (av.pd a0)] [] fun r=>(rM aa.pd r,[]):=⟨fun h=>Ev.au h Tryz.func26⟩
instance {a0:(List Int)}{a1:(List Int)}:LI (eV a0 a1) 4 (fun s=>[(13,rI s)]) (fun s=>[]) (jY 9 (fun y=>[]) (fun y=>[]) Tryz.f134 fun r=>(rB r,[])):=⟨⟩
instance {a0:(List Int)}{a1:(List Int)}:CE prog bo ext (lq a0 a1) 134 [rL a0,rL a1] [] fun r=>(rB r,[]):=⟨fun h=>Ev.au h Tryz.func134⟩
instance {a0:bh}{a1:bh}:CE prog bo ext (jC a0 a1) 133 [.d (bh.pd a0),.d (bh.pd a1)] [] fun r=>(rB r,[]):=⟨fun h=>Ev.au h Tryz.func133⟩
instance {a0:(List bh)}{a1:(List bh)}:LI (cM a0 a1) 4 (fun s=>[(17,rI s)]) (fun s=>[]) (jY 10 (fun y=>[]) (fun y=>[]) Tryz.f132 fun r=>(rB r,[])):=⟨⟩
instance {a0:(List bh)}{a1:(List bh)}:CE prog bo ext (gd a0 a1) 132 [rM bh.pd a0,rM bh.pd a1,.d (.raw (.func (.func 133) #[] #[]))] [] fun r=>(rB r,[]):=⟨fun h=>Ev.au h Tryz.func132⟩
instance {a0:bv}{a1:bv}:CE prog bo ext (nr a0 a1) 93 [.d (bv.pd a0),.d (bv.pd a1)] [] fun r=>(rB r,[]):=⟨fun h=>Ev.au h Tryz.func93⟩
instance {a0:ae}{a1:ae}{a2:aa}:CE prog bo ext (jo a0 a1 a2) 48 [.d (ae.pd a0),.d (ae.pd a1),.d (aa.pd a2)] [] fun r=>(rB r,[]):=⟨fun h=>Ev.au h Tryz.func48⟩
end
theorem oK{a0:aa}{d1:Int}{d2:ae}{d3:ae}{d4:(List (aa×Int))}{r:Bool}(h:gG a0 d1 d2 d3 d4=some r):EvP prog bo ext 47 [.d (aa.pd a0),.ptr 0 0,.ptr 1 0,.ptr 2 0,.ptr 3 0] [.var [.ptr 4 0],.var [rI d1],.var [rM aj.pd d2.a8],.var [rM aj.pd d3.a8],.map 70 3 (d4.map fun e=>(aa.pd e.1,(PD.int .i64) e.2))] (rB r,[.var [.ptr 4 0],.var [rI d1],.var [rM aj.pd d2.a8],.var [rM aj.pd d3.a8],.map 70 3 (d4.map fun e=>(aa.pd e.1,(PD.int .i64) e.2))]):=by
 refine Ev.body Z Tryz.func47 Z Zk<|gU Z<|sB (.ptr 80 0) 80 (.var (aa.rc a0))<|sU<|sN<|Ft Z Z<|sL Z<|sV (.d (aa.pd a0))<|WO.look (gv:=(PD.int .i64)) (z:=(0:Int)) keyT_70 Z Z Z Z Z Z Z Z<|sL Z<|sF h ?_ ?_<;>intro h
 ·refine sM Z<|k3<|sK<|sT<|sA Z ?_
  refine sN<|sO<|qR ?_
  cases oI h
  exact qG
 refine sM Z<|sV (.d (ae.pd d2))<|sV (.d (ae.pd d3))<|sV (.d (aa.pd a0))<|bE h fun g f h=>cD (ce f)<|sV (rB g)<|sA Z ?_
 refine sN<|sO<|qR ?_
 cases oI h
 exact qG
instance {a0:aa}{d1:Int}{d2:ae}{d3:ae}{d4:(List (aa×Int))}:CE prog bo ext (gG a0 d1 d2 d3 d4) 47 [.d (aa.pd a0),.ptr 0 0,.ptr 1 0,.ptr 2 0,.ptr 3 0] [.var [.ptr 4 0],.var [rI d1],.var [rM aj.pd d2.a8],.var [rM aj.pd d3.a8],.map 70 3 (d4.map fun e=>(aa.pd e.1,(PD.int .i64) e.2))] fun r=>(rB r,[.var [.ptr 4 0],.var [rI d1],.var [rM aj.pd d2.a8],.var [rM aj.pd d3.a8],.map 70 3 (d4.map fun e=>(aa.pd e.1,(PD.int .i64) e.2))]):=⟨fun h=>oK h⟩
section
attribute [local irreducible] HM HU HF HB WO WC QS QB tZ
instance {a0:(List aa)}{d1:Int}{d2:ae}{d3:ae}{d4:(List (aa×Int))}:LI (cN a0 d1 d2 d3 d4) 2 (fun s=>[(8,rI s)]) (fun s=>[]) (jY 7 (fun y=>[]) (fun y=>[]) Tryz.f94 fun r=>(rI r,[.var [.ptr 4 0],.var [rI d1],.var [rM aj.pd d2.a8],.var [rM aj.pd d3.a8],.map 70 3 (d4.map fun e=>(aa.pd e.1,(PD.int .i64) e.2))])):=⟨⟩
instance {a0:(List aa)}{d1:Int}{d2:ae}{d3:ae}{d4:(List (aa×Int))}:CE prog bo ext (ge a0 d1 d2 d3 d4) 94 [rM aa.pd a0,.clo 47 [.ptr 0 0,.ptr 1 0,.ptr 2 0,.ptr 3 0]] [.var [.ptr 4 0],.var [rI d1],.var [rM aj.pd d2.a8],.var [rM aj.pd d3.a8],.map 70 3 (d4.map fun e=>(aa.pd e.1,(PD.int .i64) e.2))] fun r=>(rI r,[.var [.ptr 4 0],.var [rI d1],.var [rM aj.pd d2.a8],.var [rM aj.pd d3.a8],.map 70 3 (d4.map fun e=>(aa.pd e.1,(PD.int .i64) e.2))]):=⟨fun h=>Ev.au h Tryz.func94⟩
instance {a0:(List aa)}{d1:Int}{d2:ae}{d3:ae}{d4:(List (aa×Int))}:CE prog bo ext (dR a0 d1 d2 d3 d4) 49 [rM aa.pd a0,.clo 47 [.ptr 0 0,.ptr 1 0,.ptr 2 0,.ptr 3 0]] [.var [.ptr 4 0],.var [rI d1],.var [rM aj.pd d2.a8],.var [rM aj.pd d3.a8],.map 70 3 (d4.map fun e=>(aa.pd e.1,(PD.int .i64) e.2))] fun r=>(rB r,[.var [.ptr 4 0],.var [rI d1],.var [rM aj.pd d2.a8],.var [rM aj.pd d3.a8],.map 70 3 (d4.map fun e=>(aa.pd e.1,(PD.int .i64) e.2))]):=⟨fun h=>Ev.au h Tryz.func49⟩
end
end Go.Dw.Re
