
import Derived.Test.YtfmoipelhfkdkaaGreatDoorReEvB
set_option linter.unusedVariables false
set_option linter.unusedSimpArgs false
open Go.Dw.WC renaming block->F1, join->F7, loop->F2, py->F3, region->F4, sI->F6

set_option maxRecDepth 100000
set_option maxHeartbeats 4000000
namespace Go.Dw.Re
open Go.Proofs Go.Proofs.Tryz Go.Dw
theorem qr{a0:ak}{a1:Int}{r:(Option cm)×Int}(h:kq a0 a1=some r):EvP prog bj ext 143 [.d (ak.pd a0),rI a1] [] (match r.1 with|none=>(.tup [.d (.raw (.pointer none)),rI r.2],[])|some E=>(.tup [.ptr 0 0,rI r.2],[.var (cm.rc E)])):=by
 refine Ev.body Z Tryz.func143 Z Zk<|gU Z<|sB (.ptr 32 0) 32 (.var (ak.rc a0))<|sV (.d (.raw (.pointer none)))<|sV (r0)<|sN<|qS<|gU Z<|sV (.d (ak.pd a0))<|bE h fun U h1 h=>cD (ce h1)<|sA Z<|sN<|gU Z<|sM Z ?_
 refine sF h ?_ ?_<;>intro h
 ·refine sN<|cT<|gU Z<|sM Z<|sV (.d (.raw (.pointer none)))<|sA Z<|sN<|qR ?_
  cases oI h
  exact qG
 refine sN<|cF<|qK<|qS<|gU Z<|sM Z<|sF h ?_ ?_<;>intro h
 ·refine sN<|cT<|gU Z<|sV (.d (.raw (.pointer none)))<|sV (rI 2)<|sN<|qR ?_
  cases oI h
  exact qG
 refine sN<|cF<|qK<|gU Z<|sV (.d (ak.pd a0))<|sG (.agg (ak.rc a0++[.pY,r0,r0,rB false,r0,r0,r0,r0,r0,r0,r0,r0,r0,r0,r0,r0]))<|sB (.ptr 304 0) 304 (.var (ak.rc a0++[.pY,r0,r0,rB false,r0,r0,r0,r0,r0,r0,r0,r0,r0,r0,r0,r0]))<|sA Z<|sN<|qS<|gU Z<|sM Z<|sV (.ptr 32 0)<|sV (.d (al.pd a0.bn))<|bE h fun D I h=>?_
 refine cR (rI D.1) [(304,.var (ak.rc a0++[.ref 368 0,rI D.2.2,r0,rB false,r0,r0,r0,r0,r0,r0,r0,r0,r0,r0,r0,r0])),(368,.arr 0 249 (D.2.1.map aq.pd))] (ce I)<|sA Z<|sN<|gU Z<|sM Z<|sF h ?_ ?_<;>intro h
 ·refine sN<|cT<|gU Z<|sM Z<|sV (.d (.raw (.pointer none)))<|sA Z<|sN<|qR ?_
  cases oI h
  exact qG
 refine sN<|cF<|qK<|qS<|bE h fun u g h=>F1 (F2 (WL.rG g (fun s=>gI 0 143 10 [(1,rI a1),(7,.ptr 304 0)] [(304,.var (ak.rc a0++ .ref 368 0::rI s.1::rI s.2.1::rB s.2.2.1::ap.rc s.2.2.2.1)),(368,.arr 0 249 (s.2.2.2.2.map aq.pd))]) (fun o=>match o with| .inl y=>gX 0 0 143 14 [(7,.ptr 304 0)] [(304,.var (ak.rc a0++rM aq.pd y.1::rI y.2.1::rI y.2.2.1::rB y.2.2.2.1::ap.rc y.2.2.2.2))]| .inr r=>gF 143 Tryz.f143 0 (match r.1 with|none=>(.tup [.d (.raw (.pointer none)),rI r.2],[])|some E=>(.tup [.ptr 0 0,rI r.2],[.var (cm.rc E)]))) Z ?_ ?_))
 ·rintro⟨L,N,O,Q,B⟩ H G J q h
  unfold mu at h
  refine qS<|gS Z q<|mM Z<|bE h fun C j h=>cR (rB C) [(304,.var (ak.rc a0++ .ref 368 0::rI L::rI N::rB O::ap.rc Q)),(368,.arr 0 249 (B.map aq.pd))] (ce j)<|sF h ?_ ?_<;>intro h
  ·refine sN<|cT<|qK<|qB<|gU Z<|sM Z<|bE h fun f k h=>cR (rI f.1) [(304,.var (ak.rc a0++ .ref 368 1::rI f.2.1::rI f.2.2.1::rB f.2.2.2.1::ap.rc f.2.2.2.2.1)),(368,.arr 1 249 (f.2.2.2.2.2.map aq.pd))] (ce k)<|sA Z<|sN<|gU Z<|sM Z<|sF h ?_ ?_<;>intro h
   ·refine sN<|cT<|gU Z<|sM Z<|sV (.d (.raw (.pointer none)))<|sA Z<|sN<|qR ?_
    cases oI h
    exact⟨nofun,rfl,rfl⟩
   refine sN<|cF<|qK ?_
   cases oI h
   exact⟨rfl,rfl⟩
  refine sN<|cF<|qX ?_
  cases oI h
  exact⟨nofun,rfl,rfl⟩
 intro e H G he F
 rcases u with T|K
 ·obtain⟨rfl,q⟩:=F
  refine qE<|gS Z q<|sM Z<|sA Z<|sV (r0)<|sN<|qR ?_
  cases oI h
  exact qG
 obtain⟨rfl,hf⟩:=F
 cases oI h
 exact hf
theorem locate_run_evN{a0:ak}{a1:Int}{r:(Option cm)×Int}(h:kq a0 a1=some r)(ho:r.1=none):EvP prog bj ext 143 [.d (ak.pd a0),rI a1] [] (.tup [.d (.raw (.pointer none)),rI r.2],[]):=by
  have:=qr h;rw [ho]at this;exact this
theorem locate_run_evS{a0:ak}{a1:Int}{r:(Option cm)×Int}{f:cm}(h:kq a0 a1=some r)(ho:r.1=some f):EvP prog bj ext 143 [.d (ak.pd a0),rI a1] [] (.tup [.ptr 0 0,rI r.2],[.var (cm.rc f)]):=by
  have:=qr h;rw [ho]at this;exact this
section
attribute [local irreducible] HM HU HF HB WO WC QS QB tO
instance {a0:al}{a1:al}:CE prog bj ext (m9 a0 a1) 144 [.d (al.pd a0),.d (al.pd a1)] [] fun r=>(.d (al.pd r),[]):=⟨fun h=>Ev.au h Tryz.func144⟩
end
theorem oD{a0:ak}{a1:Int}{r:ap×Int}(h:dK a0 a1=some r):EvP prog bj ext 101 [.d (ak.pd a0),rI a1] [] (.tup [.d (ap.pd r.1),rI r.2],[]):=by
 refine Ev.body Z Tryz.func101 Z Zk<|gU Z<|sB (.ptr 32 0) 32 (.var (ak.rc a0))<|sB (.ptr 64 0) 64 (.var zZ1)<|sV (r0)<|sN<|gU Z<|sV (.d (ak.pd a0))<|sM Z<|bE h fun B h1 h=>opt_elim h (fun k h=>?_) (fun f k h=>?_)
 ·refine cR (.tup [.d (.raw (.pointer none)),rI B.2]) [] (locate_run_evN h1 k)<|sM Z<|sV (.d (.raw (.pointer none)))<|sV (rI B.2)<|sA Z<|sA Z<|sN<|qS<|gU Z<|sM Z<|sF h ?_ ?_<;>intro h
  ·refine sN<|cT<|gU Z<|sG (.d (ap.pd (ap.mk (ag.mk 0 0 0) 0 0 0 (al.mk (ag.mk 0 0 0) (ag.mk 0 0 0)))))<|sM Z<|sH 64 (.var zZ1)<|sA Z<|sN<|qR ?_
   cases oI h
   exact qG
  refine sN<|cF<|qK<|gU Z<|sM Z ?_
  cases h
 refine cR (.tup [.ptr 224 0,rI B.2]) [(224,.var (cm.rc f))] (locate_run_evS h1 k)<|sM Z<|sV (.ptr 224 0)<|sV (rI B.2)<|sA Z<|sA Z<|sN<|qS<|gU Z<|sM Z<|sF h ?_ ?_<;>intro h
 ·refine sN<|cT<|gU Z<|sG (.d (ap.pd (ap.mk (ag.mk 0 0 0) 0 0 0 (al.mk (ag.mk 0 0 0) (ag.mk 0 0 0)))))<|sM Z<|sH 64 (.var zZ1)<|sA Z<|sN<|qR ?_
  cases oI h
  exact qG
 refine sN<|cF<|qK<|gU Z<|sM Z<|sV (.ptr 224 0)<|sV (.ptr 224 15)<|sV (.d (ap.pd f.cu))<|sB (.ptr 128 0) 128 (.var zZ1)<|sH 128 (.var (ap.rc f.cu))<|sN<|gU Z<|sV (.ptr 128 4)<|sL Z<|sV (.ptr 128 0) ?_
 refine sV (.d (ag.pd f.cu.bM))<|sV (.ptr 128 0)<|sV (.d (ag.pd f.cu.bM))<|sG (.d (al.pd (al.mk f.cu.bM f.cu.bM)))<|sV (.ptr 128 5)<|sS 128 (.var (ag.rc f.cu.bM++rI f.cu.bS::rI f.cu.b8::rI f.cu.b8::al.rc f.cu.ch))<|sV (.ptr 128 6)<|sH 128 (.var (ag.rc f.cu.bM++rI f.cu.bS::rI f.cu.b8::rI f.cu.b8::ag.rc f.cu.bM++ag.rc f.cu.bM))<|sN<|qS<|gU Z<|sM Z<|sV (.ptr 224 0)<|sV (.ptr 224 11)<|sL Z ?_
 refine sE (rI (f.mp.length:Int)) (sb _ _)<|sV (r0)<|sN<|bE h fun g u h=>F1 (F2 (WL.rG u (fun s=>gI 0 101 7 [(4,.ptr 64 0),(8,.ptr 128 0),(37,rM aq.pd f.mp),(38,rI (f.mp.length:Int)),(39,rI s.1)] [(64,.var zZ1),(128,.var (ag.rc f.cu.bM++rI f.cu.bS::rI f.cu.b8::rI s.2.1::al.rc s.2.2))]) (fun o=>gX 0 0 101 13 [(4,.ptr 64 0),(8,.ptr 128 0)] [(64,.var zZ1),(128,.var (ag.rc f.cu.bM++rI f.cu.bS::rI f.cu.b8::rI o.1::al.rc o.2))]) Z ?_ ?_))
 ·rintro⟨G,q,H⟩ J I L E h
  refine gS Z E<|sF h ?_ ?_<;>intro h
  ·refine sN<|qS<|cT<|qK<|qS<|qB<|gU Z<|bE h fun j C h=>eG C Z<|sV (.d (aq.pd j))<|sB (.ptr 160 0) 160 (.var [r0,r0,r0,r0,r0,r0,r0,r0])<|sH 160 (.var (aq.rc j))<|sN<|gU Z<|sV (.ptr 128 5) ?_
   refine sL Z<|sV (.ptr 160 6)<|sL Z<|sV (rI (if j.dx<q then j.dx else q))<|sV (.ptr 128 5)<|sS 128 (.var (ag.rc f.cu.bM++rI f.cu.bS::rI f.cu.b8::rI (if j.dx<q then j.dx else q)::al.rc H))<|sN<|gU Z<|sV (.ptr 160 6)<|sL Z<|sV (.ptr 128 4)<|sL Z<|sF h ?_ ?_<;>intro h
   ·refine sN<|cT<|F4 Z Z<|sV (.ptr 128 6)<|sV (.d (al.pd H))<|sV (.ptr 160 0)<|sV (.d (al.pd j.mI))<|bE h fun F D h=>cD (ce D)<|sV (.ptr 128 6)<|sH 128 (.var (ag.rc f.cu.bM++rI f.cu.bS::rI f.cu.b8::rI (if j.dx<q then j.dx else q)::al.rc F))<|sN<|F4 Z Z<|sV (rI (rW (G+(1:Int))))<|sM Z ?_
    refine sN ?_
    cases oI h
    exact⟨rfl,rfl⟩
   refine sN<|cF<|qK<|F4 Z Z<|sV (rI (rW (G+(1:Int))))<|sM Z<|sN ?_
   cases oI h
   exact⟨rfl,rfl⟩
  refine sN<|qS<|cF<|qX ?_
  cases oI h
  exact⟨nofun,rfl,rfl⟩
 intro e J I he K
 obtain⟨rfl,E⟩:=K
 refine qE<|gS Z E<|sV (.d (ap.pd (ap.mk f.cu.bM f.cu.bS f.cu.b8 g.1 (al.mk (ag.mk g.2.bt.fX g.2.bt.fY g.2.bt.fZ) (ag.mk g.2.bd.fX g.2.bd.fY g.2.bd.fZ)))))<|sH 64 (.var (ag.rc f.cu.bM++rI f.cu.bS::rI f.cu.b8::rI g.1::al.rc g.2))<|sV (r0)<|sN<|qR ?_
 cases oI h
 exact qG
instance {a0:ak}{a1:Int}:CE prog bj ext (dK a0 a1) 101 [.d (ak.pd a0),rI a1] [] fun r=>(.tup [.d (ap.pd r.1),rI r.2],[]):=⟨fun h=>oD h⟩
section
attribute [local irreducible] HM HU HF HB WO WC QS QB tO
instance {f:(List bz)×Int}{a2:Int}:LI (hJ f a2) 8 (fun s=>[(35,rI s.1)]) (fun s=>[(512,.arr 0 3 (s.2.map (PD.int .i64)))]) (jX 12 (fun o=>[]) fun o=>[(512,.arr 0 3 (o.map (PD.int .i64)))]):=⟨⟩
instance {a0:ak}{a1:ag}{a2:Int}:CE prog bj ext (iJ a0 a1 a2) 103 [.d (ak.pd a0),.d (ag.pd a1),rI a2] [] fun r=>(.tup [rL r.1,rI r.2],[]):=⟨fun h=>Ev.au h Tryz.func103⟩
instance {a1:Int}{d0:(List Int)}{d1:(List Int)}:CE prog bj ext (mg a1 d0 d1) 104 [.agg [.ref 0 0,.ref 1 0],rI a1] [.arr 0 3 (d0.map (PD.int .i64)),.arr 0 3 (d1.map (PD.int .i64))] fun r=>(.tup [],[.arr 0 3 (r.1.map (PD.int .i64)),.arr 0 3 (r.2.map (PD.int .i64))]):=⟨fun h=>Ev.au h Tryz.func104⟩
end
theorem oO{a0:bh}{a1:(List aw)}{r:(List bB)×(List Int)×Int}(h:iu a0 a1=some r):EvP prog bj ext 52 [.d (bh.pd a0),rM aw.pd a1] [] (.tup [rM bB.pd r.1,rL r.2.1,rI r.2.2],[]):=by
 refine Ev.body Z Tryz.func52 Z Zk<|gU Z<|sB (.ptr 32 0) 32 (.var (bh.rc a0))<|sV .pY<|sV .pY<|sV (r0)<|sN<|WC.scope<|qS<|gU Z<|sV (.d (bh.pd a0))<|sM Z<|bE h fun x1 h1 h=>cD (ce h1)<|sA Z ?_
 refine sN<|gU Z<|sM Z<|sF h ?_ ?_<;>intro h
 ·refine sN<|cT<|gU Z<|sM Z<|sV .pY<|sV .pY<|sA Z<|sN<|qR ?_
  cases oI h
  exact qG
 refine sN<|cF<|qK<|gU Z<|sV .pY<|sN<|gU Z<|sV .pY<|sN<|gU Z<|sM Z<|bE h fun C h3 h=>cD (ce h3)<|sA Z<|sN ?_
 refine gU Z<|sM Z<|sE (rI (a1.length:Int)) (sb _ _)<|bE h fun x4 h4 h=>cR (.agg [.ref 560 0,.ref 561 0]) [(560,.arr 0 3 (x4.fnext.map (PD.int .i64))),(561,.arr 0 3 (x4.fback.map (PD.int .i64)))] (ce h4)<|sB (.ptr 176 0) 176 (.var [.pY,.pY])<|sS 176 (.var [.ref 560 0,.ref 561 0])<|sN<|qS<|WC.label<|qS<|bE h fun d4 H h=>F1 (F2 (WL.rG H (fun s=>gI 0 52 8 [(1,rM aw.pd a1),(2,.ptr 32 0),(8,.ref 2432 0),(9,.ref 2576 0),(10,rL C),(11,.ptr 176 0)] [(32,.var (bh.rc a0)),(176,.var [.ref 560 0,.ref 561 0]),(560,.arr 0 3 (s.2.2.1.map (PD.int .i64))),(561,.arr 0 3 (s.2.2.2.map (PD.int .i64))),(2432,.arr 0 132 (s.1.map bB.pd)),(2576,.arr 0 3 (s.2.1.map (PD.int .i64)))]) (fun o=>match o with| .inl y=>gX 0 0 52 42 [(8,.ref 2432 0),(9,.ref 2576 0)] [(2432,.arr 0 132 (y.1.map bB.pd)),(2576,.arr 0 3 (y.2.map (PD.int .i64)))]| .inr r=>gF 52 Tryz.f52 0 (.tup [rM bB.pd r.1,rL r.2.1,rI r.2.2],[])) Z ?_ ?_))
 ·rintro⟨s5,s6,s7,s8⟩ B u d5 k h
  unfold cy at h
  refine qS<|F3 k Z<|sV (.ptr 176 0)<|sL Z<|sV (.agg [.ref 560 0,.ref 561 0])<|bE h fun d8 Q h=>cR (rI d8) [ ] (ce Q)<|bE h fun g0 T h=>WO.tD T Z Z Z Z Z Z Z Z<|bE h fun g1 U h=>WO.sY U Z Z Z Z Z Z<|sV (.agg [.ref 560 0,.ref 561 0])<|bE h fun e0 W h=>cR (rI e0) [ ] (ce W)<|sF h ?_ ?_<;>intro h
  ·refine sN<|sO<|cT<|qK<|qB<|gU Z<|sV (.agg [.ref 560 0,.ref 561 0])<|sV (.d (bh.pd a0))<|mM Z<|bE h fun f X h=>cR (rL f.1) [(560,.arr 0 3 (f.2.1.map (PD.int .i64))),(561,.arr 0 3 (f.2.2.map (PD.int .i64)))] (chain_window_ev X)<|sA Z<|sN<|F7 (α:=(List bB)×(List Int)) (fun x B u=>ry prog 0 (A B u) (bj.at_ 52 0 40)=some (A [(1,rM aw.pd a1),(2,.ptr 32 0),(8,.ref 2432 0),(9,.ref 2576 0),(10,rL C),(11,.ptr 176 0),(12,rL f.1)] [(32,.var (bh.rc a0)),(176,.var [.ref 560 0,.ref 561 0]),(560,.arr 0 3 (f.2.1.map (PD.int .i64))),(561,.arr 0 3 (f.2.2.map (PD.int .i64))),(2432,.arr 0 132 (x.1.map bB.pd)),(2576,.arr 0 3 (x.2.map (PD.int .i64)))])) (fun x=>dc f C x.1 x.2=some d5) ?_ ?_
   ·refine gU Z<|sM Z<|sE (rI (f.1.length:Int)) (sb _ _)<|sV (.ptr 32 13)<|sL Z<|sF h ?_ ?_<;>intro h
    ·refine sN<|cT<|gU Z<|sV .pY<|sN<|qS<|gU Z<|sM Z<|sE (rI (f.1.length:Int)) (sb _ _)<|sV (r0)<|sN<|bE h fun j E h=>F1 (F2 (WL.rG E (fun s=>gI 0 52 13 [(1,rM aw.pd a1),(2,.ptr 32 0),(8,.ref 2432 0),(9,.ref 2576 0),(10,rL C),(11,.ptr 176 0),(12,rL f.1),(13,.ref 1120 0),(55,rL f.1),(56,rI (f.1.length:Int)),(57,rI s.1)] [(32,.var (bh.rc a0)),(176,.var [.ref 560 0,.ref 561 0]),(560,.arr 0 3 (f.2.1.map (PD.int .i64))),(561,.arr 0 3 (f.2.2.map (PD.int .i64))),(1120,.arr 0 180 (s.2.map aw.pd)),(2432,.arr 0 132 (s5.map bB.pd)),(2576,.arr 0 3 (s6.map (PD.int .i64)))]) (fun o=>gX 2 0 52 17 [(1,rM aw.pd a1),(2,.ptr 32 0),(8,.ref 2432 0),(9,.ref 2576 0),(10,rL C),(11,.ptr 176 0),(12,rL f.1),(13,rM aw.pd o.1)] [(32,.var (bh.rc a0)),(176,.var [.ref 560 0,.ref 561 0]),(560,.arr 0 3 (f.2.1.map (PD.int .i64))),(561,.arr 0 3 (f.2.2.map (PD.int .i64))),(2432,.arr 0 132 (o.2.1.map bB.pd)),(2576,.arr 0 3 (o.2.2.map (PD.int .i64)))]) Z ?_ ?_))
     ·rintro⟨d6,f2⟩ B u e8 k h
      refine gS Z k<|sF h ?_ ?_<;>intro h
      ·refine sN<|qS<|cT<|qK<|qS<|qB<|gU Z<|bE h fun g5 b1 h=>eG b1 Z<|sC Z<|sA Z<|sN<|F4 Z Z<|sM Z<|sM Z ?_
       refine mM Z<|bE h fun g6 b2 h=>eG b2 Z<|sC Z<|bE h fun L b3 h=>eG b3 Z<|sV (.d (aw.pd L))<|sV (.d (.lst ([L].map aw.pd)))<|bE h fun g7 b4 h=>aR b4 (fun _=>Z) Z<|sA Z<|sN<|F4 Z Z<|sV (rI (rW (d6+(1:Int)))) ?_
       refine sM Z<|sN ?_
       cases oI h
       exact⟨rfl,rfl⟩
      refine sN<|qS<|cF<|qX ?_
      cases oI h
      exact⟨nofun,rfl,rfl⟩
     intro e B u he D
     obtain⟨rfl,k⟩:=D
     refine qE<|F3 k Z<|sV (.d (bh.pd a0))<|sM Z<|bE h fun g8 b5 h=>cD (ce b5)<|sV (.ptr 32 10)<|sL Z<|bE h fun g b6 h=>cR (.tup [.d (ap.pd g.1),rI g.2]) [] (oD b6)<|sM Z<|sV (.d (ap.pd g.1))<|sV (rI g.2)<|sB (.ptr 256 0) 256 (.var zZ1)<|sH 256 (.var (ap.rc g.1)) ?_
     refine sA Z ?_
     refine sN<|sO<|qS<|gU Z<|sM Z<|sF h ?_ ?_<;>intro h
     ·refine sN<|cT<|gU Z<|sM Z<|sV .pY<|sV .pY<|sA Z<|sN<|qR ?_
      cases oI h
      exact⟨nofun,rfl,rfl⟩
     refine sN<|cF<|qK<|F3 Z Z<|sV (.d (bh.pd a0))<|sM Z<|bE h fun g9 c0 h=>cD (ce c0)<|sV (.ptr 256 0)<|sV (.d (ag.pd g.1.bM))<|sV (.ptr 256 3)<|sL Z<|bE h fun q c1 h=>cR (.tup [rL q.1,rI q.2]) [] (ce c1)<|sM Z ?_
     refine sV (rL q.1)<|sV (rI q.2)<|sA Z<|sA Z ?_
     refine sN<|sO<|qS<|gU Z<|sM Z<|sF h ?_ ?_<;>intro h
     ·refine sN<|cT<|gU Z<|sM Z<|sV .pY<|sV .pY<|sA Z<|sN<|qR ?_
      cases oI h
      exact⟨nofun,rfl,rfl⟩
     refine sN<|cF<|qK<|gU Z<|sV .pY<|sN<|qS<|gU Z<|sM Z<|sE (rI (f.1.length:Int)) (sb _ _)<|sV (r0)<|sN<|bE h fun I F h=>F1 (F2 (WL.rG F (fun s=>gI 0 52 25 [(1,rM aw.pd a1),(2,.ptr 32 0),(8,.ref 2432 0),(9,.ref 2576 0),(10,rL C),(11,.ptr 176 0),(12,rL f.1),(16,.ptr 256 0),(18,rL q.1),(19,.ref 1840 0),(98,rL f.1),(99,rI (f.1.length:Int)),(100,rI s.1)] [(32,.var (bh.rc a0)),(176,.var [.ref 560 0,.ref 561 0]),(256,.var (ap.rc g.1)),(560,.arr 0 3 (f.2.1.map (PD.int .i64))),(561,.arr 0 3 (f.2.2.map (PD.int .i64))),(1840,.arr 0 3 (s.2.map (PD.int .i64))),(2432,.arr 0 132 (j.2.1.map bB.pd)),(2576,.arr 0 3 (j.2.2.map (PD.int .i64)))]) (fun o=>gX 4 0 52 30 [(1,rM aw.pd a1),(2,.ptr 32 0),(8,.ref 2432 0),(9,.ref 2576 0),(10,rL C),(11,.ptr 176 0),(12,rL f.1),(16,.ptr 256 0),(19,.ref 1840 0)] [(32,.var (bh.rc a0)),(176,.var [.ref 560 0,.ref 561 0]),(256,.var (ap.rc g.1)),(560,.arr 0 3 (f.2.1.map (PD.int .i64))),(561,.arr 0 3 (f.2.2.map (PD.int .i64))),(1840,.arr 0 3 (o.map (PD.int .i64))),(2432,.arr 0 132 (j.2.1.map bB.pd)),(2576,.arr 0 3 (j.2.2.map (PD.int .i64)))]) Z ?_ ?_))
     ·rintro⟨J,f3⟩ B u e9 k h
      refine gS Z k<|sF h ?_ ?_<;>intro h
      ·refine sN<|qS<|cT<|qK<|qS<|qB<|gU Z<|sM Z<|bE h fun e2 c2 h=>eG c2 Z<|sC Z<|sA Z<|sA Z<|sN<|F3 Z Z ?_
       refine mM Z<|bE h fun h0 c3 h=>eG c3 Z<|sC Z<|sV (.ptr 32 12)<|sL Z<|sF h ?_ ?_<;>intro h
       ·refine sN<|sO<|cT<|F4 Z Z<|mM Z<|sV (.d (.lst ([e2].map (PD.int .i64))))<|bE h fun h2 c4 h=>aR c4 (fun _=>Z) Z<|sA Z<|sN<|F4 Z Z<|sV (rI (rW (J+(1:Int))))<|sM Z<|sN ?_
        cases oI h
        exact⟨rfl,rfl⟩
       refine sN<|sO<|cF<|qK<|F4 Z Z<|sV (rI (rW (J+(1:Int))))<|sM Z<|sN ?_
       cases oI h
       exact⟨rfl,rfl⟩
      refine sN<|qS<|cF<|qX ?_
      cases oI h
      exact⟨nofun,rfl,rfl⟩
     intro e B u he D
     obtain⟨rfl,k⟩:=D
     refine qE<|gS Z k<|sM Z<|WO.lenR Z Z Z Z Z Z Z Z Z<|sV (.ptr 32 13)<|sL Z<|sF h ?_ ?_<;>intro h
     ·refine sN<|cT<|gU Z<|sV (.ptr 256 0)<|sV (.d (ag.pd g.1.bM))<|sV (.ptr 256 3)<|sL Z<|sV (.agg (.pY::ag.rc g.1.bM++[rI g.1.bS]))<|sB (.ptr 352 0) 352 (.var [.pY,r0,r0,r0,r0])<|sS 352 (.var (.pY::ag.rc g.1.bM++[rI g.1.bS]))<|sN<|qS<|gU Z<|sM Z<|WO.lenR Z Z Z Z Z Z Z Z Z ?_
      refine sV (r0)<|sN<|bE h fun e7 G h=>F1 (F2 (WL.rG G (fun s=>gI 0 52 33 [(1,rM aw.pd a1),(2,.ptr 32 0),(8,.ref 2432 0),(9,.ref 2576 0),(10,rL C),(11,.ptr 176 0),(22,.ptr 352 0),(127,.ref 1840 0),(128,rI (I.length:Int)),(129,rI s.1)] [(32,.var (bh.rc a0)),(176,.var [.ref 560 0,.ref 561 0]),(352,.var (.ref 2288 0::ag.rc g.1.bM++[rI g.1.bS])),(560,.arr 0 3 (s.2.1.map (PD.int .i64))),(561,.arr 0 3 (s.2.2.1.map (PD.int .i64))),(1840,.arr 0 3 (I.map (PD.int .i64))),(2288,.arr 0 3 (s.2.2.2.map (PD.int .i64))),(2432,.arr 0 132 (j.2.1.map bB.pd)),(2576,.arr 0 3 (j.2.2.map (PD.int .i64)))]) (fun o=>gX 6 0 52 38 [(1,rM aw.pd a1),(2,.ptr 32 0),(8,.ref 2432 0),(9,.ref 2576 0),(10,rL C),(11,.ptr 176 0),(22,.ptr 352 0)] [(32,.var (bh.rc a0)),(176,.var [.ref 560 0,.ref 561 0]),(352,.var (.ref 2288 0::ag.rc g.1.bM++[rI g.1.bS])),(560,.arr 0 3 (o.1.map (PD.int .i64))),(561,.arr 0 3 (o.2.1.map (PD.int .i64))),(2288,.arr 0 3 (o.2.2.map (PD.int .i64))),(2432,.arr 0 132 (j.2.1.map bB.pd)),(2576,.arr 0 3 (j.2.2.map (PD.int .i64)))]) Z ?_ ?_))
      ·rintro⟨d7,f4,f5,f6⟩ B u f0 k h
       refine gS Z k<|sF h ?_ ?_<;>intro h
       ·refine sN<|qS<|cT<|qK<|qS<|qB<|gU Z<|bE h fun h5 c5 h=>WO.tD c5 Z Z Z Z Z Z Z Z<|bE h fun h6 c6 h=>WO.sY c6 Z Z Z Z Z Z<|sA Z<|sN<|gU Z<|sV (.agg [.ref 560 0,.ref 561 0]) ?_
        refine sM Z<|bE h fun N c7 h=>cR (.tup []) [(560,.arr 0 3 (N.1.map (PD.int .i64))),(561,.arr 0 3 (N.2.map (PD.int .i64)))] (ce c7)<|sN<|F6 Z Z<|sV (.ptr 352 0)<|sL Z<|mM Z<|bE h fun e3 c8 h=>eG c8 Z<|sC Z<|sV (.d (.lst ([e3].map (PD.int .i64))))<|bE h fun h7 d0 h=>aR d0 (fun _=>Z) Z ?_
        refine sV (.ptr 352 0)<|sS 352 (.var (.ref 2288 1::ag.rc g.1.bM++[rI g.1.bS])) ?_
        refine sN<|sO<|F4 Z Z<|sV (rI (rW (d7+(1:Int))))<|sM Z<|sN ?_
        cases oI h
        exact⟨rfl,rfl⟩
       refine sN<|qS<|cF<|qX ?_
       cases oI h
       exact⟨nofun,rfl,rfl⟩
      intro e B u he D
      obtain⟨rfl,k⟩:=D
      refine qE<|gS Z k<|sV (.ptr 352 0)<|sL Z<|bE h fun O d1 h=>cR (.tup []) [(2288,.arr 0 3 (O.map (PD.int .i64)))] (sortI_105 d1)<|sN<|gU Z<|sM Z<|sV (.agg (.ref 2288 0::ag.rc g.1.bM++[rI g.1.bS]))<|sB (.d (.lst [bB.pd (bB.mk O g.1.bM g.1.bS)])) 2288 .dead<|bE h fun h8 d2 h=>aR d2 (fun _=>Z) Z<|sA Z<|sN ?_
      refine qX<|qE ?_
      cases oI h
      exact⟨rfl,rfl⟩
     exact sN<|cF<|qK<|⟨(j.2.1,j.2.2),rfl,h⟩
    exact sN<|cF<|qK<|⟨(s5,s6),rfl,h⟩
   rintro⟨e5,e6⟩ B u k h
   refine gS Z k<|mM Z<|sM Z<|bE h fun g2 Y h=>eG Y Z<|sC Z<|bE h fun e1 a5 h=>eG a5 Z<|sC Z<|sV (.d (.lst ([e1].map (PD.int .i64))))<|bE h fun g3 a6 h=>aR a6 (fun _=>Z) Z<|sA Z<|sN ?_
   refine F6 Z Z<|sV (.agg [.ref 560 0,.ref 561 0])<|sM Z<|bE h fun g4 a9 h=>eG a9 Z<|sC Z<|bE h fun K b0 h=>cR (.tup []) [(560,.arr 0 3 (K.1.map (PD.int .i64))),(561,.arr 0 3 (K.2.map (PD.int .i64)))] (ce b0) ?_
   refine sN<|sO ?_
   cases oI h
   exact⟨rfl,rfl⟩
  refine sN<|sO<|cF<|qX ?_
  cases oI h
  exact⟨nofun,rfl,rfl⟩
 intro e B u he D
 rcases d4 with h9|f1
 ·obtain⟨rfl,k⟩:=D
  refine qE<|gS Z k<|sM Z<|bE h fun e4 d3 h=>cR (.tup []) [(2576,.arr 0 3 (e4.map (PD.int .i64)))] (sortI_105 d3)<|sN<|gU Z<|mM Z<|sA Z<|sA Z<|sV (r0)<|sN<|qR ?_
  exact oI h▸qD
 obtain⟨rfl,hf⟩:=D
 cases oI h
 exact hf
section
attribute [local irreducible] HM HU HF HB WO WC QS QB tO
instance {f:(List aa)}{a0:ah}{a1:ae}:LI (iB f a0 a1) 7 (fun s=>[(27,rI s.1)]) (fun s=>[(704,.arr 0 70 (s.2.1.map aa.pd)),(784,.arr 0 180 (s.2.2.1.map aw.pd)),(864,.arr 0 90 (s.2.2.2.map az.pd))]) (jX 13 (fun o=>[]) fun o=>[(704,.arr 0 70 (o.1.map aa.pd)),(784,.arr 0 180 (o.2.1.map aw.pd)),(864,.arr 0 90 (o.2.2.map az.pd))]):=⟨⟩
instance {a0:ah}{a1:ae}{a2:(List aa)}:CE prog bj ext (jG a0 a1 a2) 106 [.d (ah.pd a0),.d (ae.pd a1),rM aa.pd a2] [] fun r=>(.tup [.d (bD.pd r.1),rI r.2],[]):=⟨fun h=>Ev.au h Tryz.func106⟩
instance {a0:bD}{a1:ah}:CE prog bj ext (kX a0 a1) 107 [.d (bD.pd a0),.d (ah.pd a1)] [] fun r=>(.tup [.d (ak.pd r.1),rI r.2],[]):=⟨fun h=>Ev.au h Tryz.func107⟩
instance :LI (pO) 4 (fun s=>[(0,rI s.1)]) (fun s=>[(240,.arr 0 3 (s.2.map (PD.int .i64)))]) (jX 7 (fun o=>[]) fun o=>[(240,.arr 0 3 (o.map (PD.int .i64)))]):=⟨⟩
instance {a0:Int}:CE prog bj ext (re a0) 298 [rI a0] [] fun r=>(.tup [rL r.1,rI r.2],[]):=⟨fun h=>Ev.au h Tryz.func298⟩
instance {a0:Int}:CE prog bj ext (nW a0) 296 [rI a0] [] fun r=>(rB r,[]):=⟨fun h=>Ev.au h Tryz.func296⟩
instance {a0:(List Int)}:LI (fD a0) 2 (fun s=>[(8,rI s)]) (fun s=>[]) (jY 7 (fun y=>[]) (fun y=>[]) Tryz.f303 fun r=>(rI r,[])):=⟨⟩
instance {a0:(List Int)}:CE prog bj ext (gu a0) 303 [rL a0,.d (.raw (.func (.func 296) #[] #[]))] [] fun r=>(rI r,[]):=⟨fun h=>Ev.au h Tryz.func303⟩
instance {a0:(List Int)}:CE prog bj ext (di a0) 295 [rL a0,.d (.raw (.func (.func 296) #[] #[]))] [] fun r=>(rB r,[]):=⟨fun h=>Ev.au h Tryz.func295⟩
instance {a0:(List Int)}:CE prog bj ext (lX a0) 282 [rL a0] [] fun r=>(rB r,[]):=⟨fun h=>Ev.au h Tryz.func282⟩
instance {a0:(List Int)}{a1:(List Int)}:CE prog bj ext (pP a0 a1) 304 [rL a0,rL a1] [] fun r=>(rB r,[]):=⟨fun h=>Ev.au h Tryz.func304⟩
instance {a0:(List Int)}{a1:Int}:CE prog bj ext (nO a0 a1) 302 [rL a0,rI a1] [] fun r=>(rI r,[]):=⟨fun h=>Ev.au h Tryz.func302⟩
instance :LI (pR) 1 (fun s=>[(0,rL s)]) (fun s=>[]) (jX 3 (fun o=>[(0,rL o)]) fun o=>[]):=⟨⟩
instance {a0:(List Int)}:CE prog bj ext (pQ a0) 301 [rL a0] [] fun r=>(rL r,[]):=⟨fun h=>Ev.au h Tryz.func301⟩
instance {a0:(List Int)}{a1:(List Int)}:LI (mV a0 a1) 3 (fun s=>[(18,rI s.1)]) (fun s=>[(240,.arr 0 3 (s.2.map (PD.int .i64)))]) (jX 15 (fun o=>[]) fun o=>[(240,.arr 0 3 (o.map (PD.int .i64)))]):=⟨⟩
instance {a1:(List Int)}{s2:Int}{f:Int}:LI (mU a1 s2 f) 7 (fun s=>[(8,rI s.1),(26,rI s.2.1)]) (fun s=>[(240,.arr 0 3 (s.2.2.map (PD.int .i64)))]) (jX 14 (fun o=>[(18,rI o.1)]) fun o=>[(240,.arr 0 3 (o.2.map (PD.int .i64)))]):=⟨⟩
instance {a0:(List Int)}{a1:(List Int)}:CE prog bj ext (kZ a0 a1) 294 [rL a0,rL a1] [] fun r=>(rL r,[]):=⟨fun h=>Ev.au h Tryz.func294⟩
instance {a0:(List Int)}:CE prog bj ext (kx a0) 293 [rL a0] [] fun r=>(.tup [rL r.1,rI r.2],[]):=⟨fun h=>Ev.au h Tryz.func293⟩
instance {a0:(List Int)}{a1:(List Int)}:CE prog bj ext (nat_Mul a0 a1) 299 [rL a0,rL a1] [] fun r=>(.tup [rL r.1,rI r.2],[]):=⟨fun h=>Ev.au h Tryz.func299⟩
instance {a0:Int}:CE prog bj ext (d9 a0) 290 [rI a0] [] fun r=>(rL r,[]):=⟨fun h=>Ev.au h Tryz.func290⟩
instance {a1:(List Int)}{a0:(List Int)}:LI (pN a1 a0) 6 (fun s=>[(7,rI s.1),(19,rI s.2.1)]) (fun s=>[(560,.arr 0 3 (s.2.2.map (PD.int .i64)))]) (jX 12 (fun o=>[]) fun o=>[(560,.arr 0 3 (o.map (PD.int .i64)))]):=⟨⟩
instance {a0:(List Int)}{a1:(List Int)}:CE prog bj ext (nat_Add a0 a1) 300 [rL a0,rL a1] [] fun r=>(.tup [rL r.1,rI r.2],[]):=⟨fun h=>Ev.au h Tryz.func300⟩
instance {a0:bN}{a1:Int}{a2:Int}:CE prog bj ext (iW a0 a1 a2) 291 [.d (bN.pd a0),rI a1,rI a2] [] fun r=>(rL r,[]):=⟨fun h=>Ev.au h Tryz.func291⟩
instance {a0:bg}{a1:Int}{a2:Int}:CE prog bj ext (ng a0 a1 a2) 280 [.d (bg.pd a0),rI a1,rI a2] [] fun r=>(.tup [.d (bC.pd r.1),rB r.2],[]):=⟨fun h=>Ev.au h Tryz.func280⟩
instance {a0:bC}:CE prog bj ext (ib a0) 292 [.d (bC.pd a0)] [] fun r=>(rB r,[]):=⟨fun h=>Ev.au h Tryz.func292⟩
instance {a0:bC}{a1:bC}:CE prog bj ext (qk a0 a1) 281 [.d (bC.pd a0),.d (bC.pd a1)] [] fun r=>(.tup [.d (bC.pd r.1),rI r.2],[]):=⟨fun h=>Ev.au h Tryz.func281⟩
instance {a0:bu}{a1:Int}{a2:Int}:LI (mE a0 a1 a2) 7 (fun s=>[(33,rI s.1)]) (fun s=>[(128,.var [rL s.2.1,rL s.2.2])]) (jY 17 (fun y=>[]) (fun y=>[(128,.var [rL y.1,rL y.2])]) Tryz.f251 fun r=>(.tup [.d (bC.pd r.1),rI r.2],[])):=⟨⟩
instance {a0:bu}{a1:Int}{a2:Int}:CE prog bj ext (na a0 a1 a2) 251 [.d (bu.pd a0),rI a1,rI a2] [] fun r=>(.tup [.d (bC.pd r.1),rI r.2],[]):=⟨fun h=>Ev.au h Tryz.func251⟩
end
theorem qp{a0:Int}{a1:Int}{r:Int}(h:gi a0 a1=some r):EvP prog bj ext 283 [rI a0,rI a1] [] (rI r,[]):=by
 refine Ev.body Z Tryz.func283 Z Zk<|gU Z<|sV (r0)<|sN<|gU Z<|sV (r0)<|sN<|qS<|gU Z<|sV (r0)<|sN<|F1 (F2 ?_)
 refine WL.round<|gU Z<|sT<|sN<|qS<|cT<|qK<|F7 (α:=Int×Int) (fun x g f=>ry prog 0 (A g f) (bj.at_ 283 0 9)=some (A [(0,rI a0),(1,rI x.1),(5,rI x.2),(6,r0)] [])) (fun x=>fB a0 x.1 x.2=some r) ?_ ?_
 ·refine qB<|gU Z<|mM Z<|sV (rI (rW (a1*a1)))<|sV (rI (sc .i64 (rW (a1*a1)) (30:Int)))<|sA Z<|sN<|gU Z<|sM Z<|sV (r0)<|sA Z<|sN<|gU Z<|sM Z ?_
  refine sF h ?_ ?_<;>intro h
  ·exact sN<|cT<|gS rfl rfl<|sM rfl<|bE h fun b5 Y h=>WO.quoG Y rfl rfl rfl rfl rfl rfl<|sA rfl<|sN<|F4 rfl rfl<|sM rfl<|sV (rI 1)<|sA rfl<|sN<|⟨(b5,1),rfl,h⟩
  exact sN<|cF<|qK<|⟨((sc .i64 (rW (a1*a1)) (30:Int)),0),rfl,h⟩
 rintro⟨D,I⟩ g f j h
 refine F4 j Z<|sV (rI 1)<|sM Z<|sN<|WL.round<|gU Z<|sT<|sN<|qS<|cT<|qK<|F7 (α:=Int×Int) (fun x g f=>ry prog 0 (A g f) (bj.at_ 283 0 9)=some (A [(0,rI a0),(1,rI x.1),(5,rI x.2),(6,rI 1)] [])) (fun x=>fA a0 x.1 x.2=some r) ?_ ?_
 ·refine qB<|gU Z<|mM Z<|sV (rI (rW (D*D)))<|sV (rI (sc .i64 (rW (D*D)) (30:Int)))<|sA Z<|sN<|gU Z<|sM Z<|sV (rI (rW (I*(2:Int))))<|sA Z<|sN<|gU Z<|sM Z ?_
  refine sF h ?_ ?_<;>intro h
  ·exact sN<|cT<|gS rfl rfl<|sM rfl<|bE h fun b4 X h=>WO.quoG X rfl rfl rfl rfl rfl rfl<|sA rfl<|sN<|F4 rfl rfl<|sM rfl<|sV (rI (rW ((rW (I*(2:Int)))+(1:Int))))<|sA rfl<|sN<|⟨(b4,(rW ((rW (I*(2:Int)))+(1:Int)))),rfl,h⟩
  exact sN<|cF<|qK<|⟨((sc .i64 (rW (D*D)) (30:Int)),(rW (I*(2:Int)))),rfl,h⟩
 rintro⟨E,J⟩ g f j h
 refine F4 j Z<|sV (rI 2)<|sM Z<|sN<|WL.round<|gU Z<|sT<|sN<|qS<|cT<|qK<|F7 (α:=Int×Int) (fun x g f=>ry prog 0 (A g f) (bj.at_ 283 0 9)=some (A [(0,rI a0),(1,rI x.1),(5,rI x.2),(6,rI 2)] [])) (fun x=>fy a0 x.1 x.2=some r) ?_ ?_
 ·refine qB<|gU Z<|mM Z<|sV (rI (rW (E*E)))<|sV (rI (sc .i64 (rW (E*E)) (30:Int)))<|sA Z<|sN<|gU Z<|sM Z<|sV (rI (rW (J*(2:Int))))<|sA Z<|sN<|gU Z<|sM Z ?_
  refine sF h ?_ ?_<;>intro h
  ·exact sN<|cT<|gS rfl rfl<|sM rfl<|bE h fun b3 W h=>WO.quoG W rfl rfl rfl rfl rfl rfl<|sA rfl<|sN<|F4 rfl rfl<|sM rfl<|sV (rI (rW ((rW (J*(2:Int)))+(1:Int))))<|sA rfl<|sN<|⟨(b3,(rW ((rW (J*(2:Int)))+(1:Int)))),rfl,h⟩
  exact sN<|cF<|qK<|⟨((sc .i64 (rW (E*E)) (30:Int)),(rW (J*(2:Int)))),rfl,h⟩
 rintro⟨F,K⟩ g f j h
 refine F4 j Z<|sV (rI 3)<|sM Z<|sN<|WL.round<|gU Z<|sT<|sN<|qS<|cT<|qK<|F7 (α:=Int×Int) (fun x g f=>ry prog 0 (A g f) (bj.at_ 283 0 9)=some (A [(0,rI a0),(1,rI x.1),(5,rI x.2),(6,rI 3)] [])) (fun x=>fx a0 x.1 x.2=some r) ?_ ?_
 ·refine qB<|gU Z<|mM Z<|sV (rI (rW (F*F)))<|sV (rI (sc .i64 (rW (F*F)) (30:Int)))<|sA Z<|sN<|gU Z<|sM Z<|sV (rI (rW (K*(2:Int))))<|sA Z<|sN<|gU Z<|sM Z ?_
  refine sF h ?_ ?_<;>intro h
  ·exact sN<|cT<|gS rfl rfl<|sM rfl<|bE h fun b2 U h=>WO.quoG U rfl rfl rfl rfl rfl rfl<|sA rfl<|sN<|F4 rfl rfl<|sM rfl<|sV (rI (rW ((rW (K*(2:Int)))+(1:Int))))<|sA rfl<|sN<|⟨(b2,(rW ((rW (K*(2:Int)))+(1:Int)))),rfl,h⟩
  exact sN<|cF<|qK<|⟨((sc .i64 (rW (F*F)) (30:Int)),(rW (K*(2:Int)))),rfl,h⟩
 rintro⟨G,L⟩ g f j h
 refine F4 j Z<|sV (rI 4)<|sM Z<|sN<|WL.round<|gU Z<|sT<|sN<|qS<|cT<|qK<|F7 (α:=Int×Int) (fun x g f=>ry prog 0 (A g f) (bj.at_ 283 0 9)=some (A [(0,rI a0),(1,rI x.1),(5,rI x.2),(6,rI 4)] [])) (fun x=>fw a0 x.1 x.2=some r) ?_ ?_
 ·refine qB<|gU Z<|mM Z<|sV (rI (rW (G*G)))<|sV (rI (sc .i64 (rW (G*G)) (30:Int)))<|sA Z<|sN<|gU Z<|sM Z<|sV (rI (rW (L*(2:Int))))<|sA Z<|sN<|gU Z<|sM Z ?_
  refine sF h ?_ ?_<;>intro h
  ·exact sN<|cT<|gS rfl rfl<|sM rfl<|bE h fun b1 T h=>WO.quoG T rfl rfl rfl rfl rfl rfl<|sA rfl<|sN<|F4 rfl rfl<|sM rfl<|sV (rI (rW ((rW (L*(2:Int)))+(1:Int))))<|sA rfl<|sN<|⟨(b1,(rW ((rW (L*(2:Int)))+(1:Int)))),rfl,h⟩
  exact sN<|cF<|qK<|⟨((sc .i64 (rW (G*G)) (30:Int)),(rW (L*(2:Int)))),rfl,h⟩
 rintro⟨H,u⟩ g f j h
 refine F4 j Z<|sV (rI 5)<|sM Z<|sN<|WL.round<|gU Z<|sT<|sN<|qS<|cT<|qK<|F7 (α:=Int×Int) (fun x g f=>ry prog 0 (A g f) (bj.at_ 283 0 9)=some (A [(0,rI a0),(1,rI x.1),(5,rI x.2),(6,rI 5)] [])) (fun x=>fu a0 x.1 x.2=some r) ?_ ?_
 ·refine qB<|gU Z<|mM Z<|sV (rI (rW (H*H)))<|sV (rI (sc .i64 (rW (H*H)) (30:Int)))<|sA Z<|sN<|gU Z<|sM Z<|sV (rI (rW (u*(2:Int))))<|sA Z<|sN<|gU Z<|sM Z ?_
  refine sF h ?_ ?_<;>intro h
  ·exact sN<|cT<|gS rfl rfl<|sM rfl<|bE h fun b0 Q h=>WO.quoG Q rfl rfl rfl rfl rfl rfl<|sA rfl<|sN<|F4 rfl rfl<|sM rfl<|sV (rI (rW ((rW (u*(2:Int)))+(1:Int))))<|sA rfl<|sN<|⟨(b0,(rW ((rW (u*(2:Int)))+(1:Int)))),rfl,h⟩
  exact sN<|cF<|qK<|⟨((sc .i64 (rW (H*H)) (30:Int)),(rW (u*(2:Int)))),rfl,h⟩
 rintro⟨k,B⟩ g f j h
 refine F4 j Z<|sV (rI 6)<|sM Z<|sN<|WL.round<|gU Z<|sT<|sN<|qS<|cT<|qK<|F7 (α:=Int×Int) (fun x g f=>ry prog 0 (A g f) (bj.at_ 283 0 9)=some (A [(0,rI a0),(1,rI x.1),(5,rI x.2),(6,rI 6)] [])) (fun x=>fr a0 x.1 x.2=some r) ?_ ?_
 ·refine qB<|gU Z<|mM Z<|sV (rI (rW (k*k)))<|sV (rI (sc .i64 (rW (k*k)) (30:Int)))<|sA Z<|sN<|gU Z<|sM Z<|sV (rI (rW (B*(2:Int))))<|sA Z<|sN<|gU Z<|sM Z ?_
  refine sF h ?_ ?_<;>intro h
  ·exact sN<|cT<|gS rfl rfl<|sM rfl<|bE h fun a9 O h=>WO.quoG O rfl rfl rfl rfl rfl rfl<|sA rfl<|sN<|F4 rfl rfl<|sM rfl<|sV (rI (rW ((rW (B*(2:Int)))+(1:Int))))<|sA rfl<|sN<|⟨(a9,(rW ((rW (B*(2:Int)))+(1:Int)))),rfl,h⟩
  exact sN<|cF<|qK<|⟨((sc .i64 (rW (k*k)) (30:Int)),(rW (B*(2:Int)))),rfl,h⟩
 rintro⟨q,C⟩ g f j h
 refine F4 j Z<|sV (rI 7)<|sM Z<|sN<|WL.round<|gU Z<|sT<|sN<|qS<|cT<|qK<|F7 (α:=Int×Int) (fun x g f=>ry prog 0 (A g f) (bj.at_ 283 0 9)=some (A [(0,rI a0),(1,rI x.1),(5,rI x.2),(6,rI 7)] [])) (fun x=>fq a0 x.1 x.2=some r) ?_ ?_
 ·refine qB<|gU Z<|mM Z<|sV (rI (rW (q*q)))<|sV (rI (sc .i64 (rW (q*q)) (30:Int)))<|sA Z<|sN<|gU Z<|sM Z<|sV (rI (rW (C*(2:Int))))<|sA Z<|sN<|gU Z<|sM Z ?_
  refine sF h ?_ ?_<;>intro h
  ·exact sN<|cT<|gS rfl rfl<|sM rfl<|bE h fun a6 N h=>WO.quoG N rfl rfl rfl rfl rfl rfl<|sA rfl<|sN<|F4 rfl rfl<|sM rfl<|sV (rI (rW ((rW (C*(2:Int)))+(1:Int))))<|sA rfl<|sN<|⟨(a6,(rW ((rW (C*(2:Int)))+(1:Int)))),rfl,h⟩
  exact sN<|cF<|qK<|⟨((sc .i64 (rW (q*q)) (30:Int)),(rW (C*(2:Int)))),rfl,h⟩
 rintro⟨b6,a5⟩ g f j h
 refine F4 j Z<|sV (rI 8)<|sM Z<|sN<|WL.round<|gU Z<|sU<|sN<|qS<|cF<|qX<|qE<|gU Z<|sM Z<|sV (rI (rW ((256:Int)*a0))) ?_
 refine sM Z<|sV (rI (rW ((rW ((256:Int)*a0))+a5)))<|sA Z<|sN<|qR ?_
 exact oI h▸qD
instance {a0:Int}{a1:Int}:CE prog bj ext (gi a0 a1) 283 [rI a0,rI a1] [] fun r=>(rI r,[]):=⟨fun h=>qp h⟩
section
attribute [local irreducible] HM HU HF HB WO WC QS QB tO
instance {a0:Int}:CE prog bj ext (jJ a0) 253 [rI a0] [] fun r=>(.tup [rI r.1,rI r.2],[]):=⟨fun h=>Ev.au h Tryz.func253⟩
instance {a0:(List Int)}:CE prog bj ext (iI a0) 252 [rL a0] [] fun r=>(.tup [rI r.1,rI r.2],[]):=⟨fun h=>Ev.au h Tryz.func252⟩
instance {a0:bO}{a1:bu}{a2:Int}:CE prog bj ext (kV a0 a1 a2) 208 [.d (bO.pd a0),.d (bu.pd a1),rI a2] [] fun r=>(.tup [rI r.1,rI r.2],[]):=⟨fun h=>Ev.au h Tryz.func208⟩
instance {a0:Int}:CE prog bj ext (kr a0) 211 [rI a0] [] fun r=>(rI r,[]):=⟨fun h=>Ev.au h Tryz.func211⟩
instance {a0:Int}:CE prog bj ext (mT a0) 259 [rI a0] [] fun r=>(.tup [rI r.1,rB r.2],[]):=⟨fun h=>Ev.au h Tryz.func259⟩
instance {a0:Int}:CE prog bj ext (jy a0) 210 [rI a0] [] fun r=>(rI r,[]):=⟨fun h=>Ev.au h Tryz.func210⟩
instance {a0:Int}:CE prog bj ext (mw a0) 212 [rI a0] [] fun r=>(rI r,[]):=⟨fun h=>Ev.au h Tryz.func212⟩
instance {a0:bO}{a1:bu}{a2:Int}{a3:Int}{a4:Int}:CE prog bj ext (hC a0 a1 a2 a3 a4) 148 [.d (bO.pd a0),.d (bu.pd a1),rI a2,rI a3,rI a4] [] fun r=>(.tup [.d (bo.pd r.1),rI r.2],[]):=⟨fun h=>Ev.au h Tryz.func148⟩
instance {a0:bD}{a2:al}{a1:ah}:LI (dM a0 a2 a1) 3 (fun s=>[(15,rI s.1)]) (fun s=>[(816,.arr 0 118 (s.2.map bo.pd))]) (jX 9 (fun o=>[]) fun o=>[(816,.arr 0 118 (o.map bo.pd))]):=⟨⟩
instance {a0:bD}{a1:ah}{a2:al}:CE prog bj ext (dH a0 a1 a2) 108 [.d (bD.pd a0),.d (ah.pd a1),.d (al.pd a2)] [] fun r=>(rM bo.pd r,[]):=⟨fun h=>Ev.au h Tryz.func108⟩
instance {a0:bo}:CE prog bj ext (jo a0) 152 [.d (bo.pd a0)] [] fun r=>(rB r,[]):=⟨fun h=>Ev.au h Tryz.func152⟩
instance {a0:(List bo)}:LI (du a0) 2 (fun s=>[(8,rI s)]) (fun s=>[]) (jY 7 (fun y=>[]) (fun y=>[]) Tryz.f216 fun r=>(rI r,[])):=⟨⟩
instance {a0:(List bo)}:CE prog bj ext (fg a0) 216 [rM bo.pd a0,.d (.raw (.func (.func 152) #[] #[]))] [] fun r=>(rI r,[]):=⟨fun h=>Ev.au h Tryz.func216⟩
instance {a0:(List bo)}:CE prog bj ext (dt a0) 151 [rM bo.pd a0,.d (.raw (.func (.func 152) #[] #[]))] [] fun r=>(rB r,[]):=⟨fun h=>Ev.au h Tryz.func151⟩
instance {a0:bo}:CE prog bj ext (jp a0) 154 [.d (bo.pd a0)] [] fun r=>(rI r,[]):=⟨fun h=>Ev.au h Tryz.func154⟩
instance {a0:(List bo)}:LI (im a0) 3 (fun s=>[(10,rI s.1)]) (fun s=>[(304,.arr 0 3 (s.2.map (PD.int .i64)))]) (jX 7 (fun o=>[]) fun o=>[(304,.arr 0 3 (o.map (PD.int .i64)))]):=⟨⟩
instance {a0:(List bo)}:CE prog bj ext (gy a0) 153 [rM bo.pd a0,.d (.raw (.func (.func 154) #[] #[]))] [] fun r=>(rI r,[]):=⟨fun h=>Ev.au h Tryz.func153⟩
instance {a0:bo}:CE prog bj ext (jq a0) 155 [.d (bo.pd a0)] [] fun r=>(rI r,[]):=⟨fun h=>Ev.au h Tryz.func155⟩
instance {a0:(List bo)}:LI (io a0) 3 (fun s=>[(10,rI s.1)]) (fun s=>[(304,.arr 0 3 (s.2.map (PD.int .i64)))]) (jX 7 (fun o=>[]) fun o=>[(304,.arr 0 3 (o.map (PD.int .i64)))]):=⟨⟩
instance {a0:(List bo)}:CE prog bj ext (gz a0) 153 [rM bo.pd a0,.d (.raw (.func (.func 155) #[] #[]))] [] fun r=>(rI r,[]):=⟨fun h=>Ev.au h Tryz.func153⟩
instance {a0:(List bo)}:CE prog bj ext (gZ a0) 109 [rM bo.pd a0] [] fun r=>(.tup [.d (bo.pd r.1),rI r.2],[]):=⟨fun h=>Ev.au h Tryz.func109⟩
instance {a0:ah}{a1:ae}{a2:(List aa)}:CE prog bj ext (ja a0 a1 a2) 53 [.d (ah.pd a0),.d (ae.pd a1),rM aa.pd a2] [] fun r=>(.tup [.d (bH.pd r.1),rI r.2],[]):=⟨fun h=>Ev.au h Tryz.func53⟩
instance {a0:aa}{a1:aa}:CE prog bj ext (jI a0 a1) 60 [.d (aa.pd a0),.d (aa.pd a1)] [] fun r=>(rI r,[]):=⟨fun h=>Ev.au h Tryz.func60⟩
end
theorem m5{a0:(List aa)}{r:aa}(h:eu a0=some r):EvP prog bj ext 110 [rM aa.pd a0,.d (.raw (.func (.func 60) #[] #[]))] [] (.d (aa.pd r),[]):=by
 refine Ev.body Z Tryz.func110 Z Zk<|gU Z<|sB (.ptr 64 0) 64 (.var [rS [],rS [],rS [],rS [],r0,r0,r0,r0,r0])<|sN<|qS<|gU Z<|sM Z<|sE (rI (a0.length:Int)) (sb _ _)<|sF h ?_ ?_<;>intro h
 ·refine sN<|cT<|F4 Z Z<|sG (.ifc 9 (rS [115,108,105,99,101,115,46,77,105,110,70,117,110,99,58,32,101,109,112,116,121,32,108,105,115,116])) ?_
  cases h
 refine sN<|cF<|qK<|gU Z<|sM Z<|bE h fun H K h=>eG K Z<|sV (.d (aa.pd H))<|sB (.ptr 80 0) 80 (.var [rS [],rS [],rS [],rS [],r0,r0,r0,r0,r0])<|sH 80 (.var (aa.rc H))<|sN<|qS<|gU Z<|sV (rI 1)<|sN ?_
 refine bE h fun f g h=>F1 (F2 (WL.rG g (fun s=>gI 0 110 5 [(0,rM aa.pd a0),(1,.d (.raw (.func (.func 60) #[] #[]))),(4,.ptr 64 0),(5,.ptr 80 0),(6,rI s.1)] [(64,.var [rS [],rS [],rS [],rS [],r0,r0,r0,r0,r0]),(80,.var [rS s.2.1,rS s.2.2.1,rS s.2.2.2.1,rS s.2.2.2.2.1,rI s.2.2.2.2.2.1,rI s.2.2.2.2.2.2.1,rI s.2.2.2.2.2.2.2.1,rI s.2.2.2.2.2.2.2.2.1,rI s.2.2.2.2.2.2.2.2.2])]) (fun o=>gX 0 0 110 9 [(4,.ptr 64 0),(5,.ptr 80 0)] [(64,.var [rS [],rS [],rS [],rS [],r0,r0,r0,r0,r0]),(80,.var [rS o.1,rS o.2.1,rS o.2.2.1,rS o.2.2.2.1,rI o.2.2.2.2.1,rI o.2.2.2.2.2.1,rI o.2.2.2.2.2.2.1,rI o.2.2.2.2.2.2.2.1,rI o.2.2.2.2.2.2.2.2])]) Z ?_ ?_))
 ·rintro⟨G,O,Q,T,U,W,X,C,D,E⟩ J I N B h
  refine qS<|gS Z B<|mM Z<|sE (rI (a0.length:Int)) (sb _ _)<|sF h ?_ ?_<;>intro h
  ·refine sN<|cT<|qK<|qS<|qB<|F3 Z Z<|mM Z<|sM Z<|bE h fun F k h=>eG k Z<|sV (.d (aa.pd F))<|sV (.d (aa.pd (aa.mk (bi.mk O Q T U) W X C D E)))<|bE h fun Y q h=>cD (ce q) ?_
   refine sF h ?_ ?_<;>intro h
   ·refine sN<|sO<|cT<|F4 Z Z<|mM Z<|bE h fun j u h=>eG u Z<|sV (.d (aa.pd j))<|sH 80 (.var (aa.rc j))<|sN<|F4 Z Z<|sM Z<|sV (rI (rW (G+(1:Int))))<|sA Z<|sN ?_
    cases oI h
    exact⟨rfl,rfl⟩
   refine sN<|sO<|cF<|qK<|F4 Z Z<|sM Z<|sV (rI (rW (G+(1:Int))))<|sA Z<|sN ?_
   cases oI h
   exact⟨rfl,rfl⟩
  refine sN<|cF<|qX ?_
  cases oI h
  exact⟨nofun,rfl,rfl⟩
 intro e J I he L
 obtain⟨rfl,B⟩:=L
 refine qE<|gS Z B<|sV (.d (aa.pd (aa.mk (bi.mk f.1 f.2.1 f.2.2.1 f.2.2.2.1) f.2.2.2.2.1 f.2.2.2.2.2.1 f.2.2.2.2.2.2.1 f.2.2.2.2.2.2.2.1 f.2.2.2.2.2.2.2.2)))<|sH 64 (.var [rS f.1,rS f.2.1,rS f.2.2.1,rS f.2.2.2.1,rI f.2.2.2.2.1,rI f.2.2.2.2.2.1,rI f.2.2.2.2.2.2.1,rI f.2.2.2.2.2.2.2.1,rI f.2.2.2.2.2.2.2.2])<|sN<|qR ?_
 cases oI h
 exact qG
instance {a0:(List aa)}:CE prog bj ext (eu a0) 110 [rM aa.pd a0,.d (.raw (.func (.func 60) #[] #[]))] [] fun r=>(.d (aa.pd r),[]):=⟨fun h=>m5 h⟩
section
attribute [local irreducible] HM HU HF HB WO WC QS QB tO
instance {a0:(List aa)}:CE prog bj ext (oS a0) 54 [rM aa.pd a0] [] fun r=>(.d (aa.pd r),[]):=⟨fun h=>Ev.au h Tryz.func54⟩
instance {a0:ey}{a1:ar}{a2:ar}:CE prog bj ext (lw a0 a1 a2) 56 [.d (ey.pd a0),.d (ar.pd a1),.d (ar.pd a2)] [] fun r=>(rI r,[]):=⟨fun h=>Ev.au h Tryz.func56⟩
end
theorem iZ{a1:Int}{a2:Int}{d0:(List ar)}{r:(List ar)}(h:dp a1 a2 d0=some r):EvP prog bj ext 156 [.ref 0 0,rI a1,rI a2,.d (.raw (.func (.func 56) #[.agg #[]] #[]))] [.arr 0 122 (d0.map ar.pd)] (.tup [],[.arr 0 122 (r.map ar.pd)]):=by
 refine Ev.body Z Tryz.func156 Z Zk<|gU Z<|sM Z<|sV (rI (rW (a1+(1:Int))))<|sA Z<|sN<|bE h fun a5 q h=>?_
 cases oI h
 refine F1 (F2 (WL.uG q (fun s=>gI 1 156 1 [(0,.ref 0 0),(1,rI a1),(2,rI a2),(3,.d (.raw (.func (.func 56) #[.agg #[]] #[]))),(8,rI s.1)] [(0,.arr 0 122 (s.2.map ar.pd))]) Z ?_))
 rintro⟨s1,s2⟩ R' Y q3 j h
 refine qS<|gS Z j<|mM Z<|sF h ?_ ?_<;>intro h
 ·refine sN<|cT<|qK<|qS<|qB<|gU Z<|sM Z<|sA Z<|sN<|bE h fun T k h=>F1 (F2 (WL.rG k (fun s=>gI 1 156 4 [(0,.ref 0 0),(1,rI a1),(2,rI a2),(3,.d (.raw (.func (.func 56) #[.agg #[]] #[]))),(8,rI s1),(9,rI s.1)] [(0,.arr 0 122 (s.2.map ar.pd))]) (fun o=>gX 2 1 156 2 [(0,.ref 0 0),(1,rI a1),(2,rI a2),(3,.d (.raw (.func (.func 56) #[.agg #[]] #[]))),(8,rI o.1)] [(0,.arr 0 122 (o.2.map ar.pd))]) Z ?_ ?_))
  ·rintro⟨u,s6⟩ R' Y q9 j h
   refine qS<|F3 j Z<|mM Z<|sF h ?_ ?_<;>intro h
   ·refine mM Z<|mM Z<|bE h fun a6 B h=>WO.tD B Z Z Z Z Z Z Z Z<|bE h fun a9 C h=>WO.sY C Z Z Z Z Z Z<|mM Z<|sV (rI (rW (u-(1:Int))))<|bE h fun b0 D h=>WO.tD D Z Z Z Z Z Z Z Z<|bE h fun b1 E h=>WO.sY E Z Z Z Z Z Z ?_
    refine bE h fun U F h=>cD (ce F)<|sV (rB (decide (U<(0:Int))))<|sF h ?_ ?_<;>intro h
    ·refine sN<|sO<|cT<|qK<|qS<|qB<|F6 Z Z<|mM Z<|mM Z<|sV (rI (rW (u-(1:Int))))<|mM Z<|sV (rI (rW (u-(1:Int))))<|bE h fun b2 G h=>?_
     refine WO.tD G Z Z Z Z Z Z Z Z<|bE h fun W H h=>WO.sY H Z Z Z Z Z Z<|mM Z<|bE h fun b3 I h=>WO.tD I Z Z Z Z Z Z Z Z<|bE h fun X J h=>WO.sY J Z Z Z Z Z Z<|bE h fun b4 K h=>WO.tD K Z Z Z Z Z Z Z Z<|bE h fun b5 L h=>WO.vw (g:=ar.pd) (sz:=25) (p:=ar.pd W) L (by intro _;kernel_rfl) (by intro _;kernel_rfl) Z Z Z Z Z Z Z Z Z<|bE h fun b6 N h=>WO.tD N Z Z Z Z Z Z Z Z ?_
     refine bE h fun c0 O h=>WO.vw (g:=ar.pd) (sz:=25) (p:=ar.pd X) O (by intro _;kernel_rfl) (by intro _;kernel_rfl) Z Z Z Z Z Z Z Z Z ?_
     refine sN<|sO<|F4 Z Z<|sM Z<|sV (rI (rW (u-(1:Int))))<|sA Z<|sN ?_
     cases oI h
     exact⟨rfl,rfl⟩
    refine sN<|sO<|cF<|qX ?_
    cases oI h
    exact⟨nofun,rfl,rfl⟩
   refine sM Z<|k3<|k3<|k3<|k3<|sU ?_
   refine sN<|sO<|cF<|qX ?_
   cases oI h
   exact⟨nofun,rfl,rfl⟩
  intro e R' Y he hq
  obtain⟨rfl,j⟩:=hq
  refine qE<|F4 j Z<|sM Z<|sV (rI (rW (T.1+(1:Int))))<|sA Z<|sN ?_
  cases oI h
  exact⟨rfl,rfl⟩
 refine sN<|cF<|qX<|pe h (fun z33 f hz=>?_)
 obtain rfl:=Option.some.inj hz
 refine⟨(fun he=>by cases he),fun Q=>?_⟩
 subst Q
 have h:=f
 refine qE ?_
 exact oI h▸qD
theorem kd:∀(f:Nat){a1:Int}{a2:Int}{a3:Int}{d0:(List ar)}{r:(List ar)}(_:fP f a1 a2 a3 d0=some r),EvP prog bj ext 111 [.ref 0 0,rI a1,rI a2,rI a3,.d (.raw (.func (.func 56) #[.agg #[]] #[]))] [.arr 0 122 (d0.map ar.pd)] (.tup [],[.arr 0 122 (r.map ar.pd)])
  |0,_,_,_,_,_,h=>by cases h
  |f+1,a1,a2,a3,d0,r,h=>by
   refine Ev.body Z Tryz.func111 Z Zk<|gU Z<|sT<|sN<|gU Z<|sT<|sN<|bE h fun D g h=>F1 (F2 (WL.rG g (fun s=>gI 1 111 2 [(0,.ref 0 0),(1,rI a1),(2,rI a2),(3,rI a3),(4,.d (.raw (.func (.func 56) #[.agg #[]] #[]))),(10,rB true),(11,rB true)] [(0,.arr 0 122 (d0.map ar.pd))]) (fun o=>gF 111 Tryz.f111 1 (.tup [],[.arr 0 122 (o.map ar.pd)])) Z ?_ ?_))
   ·rintro⟨⟩ k j E u h
    refine qB<|gS Z u<|mM Z<|sV (rI (rW (a2-a1)))<|sA Z<|sN<|qS<|gU Z<|sM Z<|sF h ?_ ?_<;>intro h
    ·refine sN<|cT<|gU Z<|mM Z<|mM Z<|bE h fun C q h=>cR (.tup []) [(0,.arr 0 122 (C.map ar.pd))] (iZ q)<|sN<|qR ?_
     cases oI h
     exact⟨nofun,rfl,rfl⟩
    refine sN<|cF<|qK<|qS<|gU Z<|sM Z<|sF h ?_ ?_<;>intro h
    ·refine sN<|cT<|gU Z<|mM Z<|sM Z<|sM Z ?_
     cases h
    refine sN<|cF<|qK<|qS<|gU Z<|sM Z<|sU<|sN<|cF<|qK<|gU Z<|mM Z<|sM Z<|sM Z ?_
    cases h
   intro e k j he B
   obtain⟨rfl,hf⟩:=B
   cases oI h
   exact hf
theorem kG{a1:Int}{a2:Int}{a3:Int}{d0:(List ar)}{r:(List ar)}(h:cG a1 a2 a3 d0=some r):EvP prog bj ext 111 [.ref 0 0,rI a1,rI a2,rI a3,.d (.raw (.func (.func 56) #[.agg #[]] #[]))] [.arr 0 122 (d0.map ar.pd)] (.tup [],[.arr 0 122 (r.map ar.pd)]):=
  let⟨n,f⟩:=AX h;kd n f
instance {a1:Int}{a2:Int}{a3:Int}{d0:(List ar)}:CE prog bj ext (cG a1 a2 a3 d0) 111 [.ref 0 0,rI a1,rI a2,rI a3,.d (.raw (.func (.func 56) #[.agg #[]] #[]))] [.arr 0 122 (d0.map ar.pd)] fun r=>(.tup [],[.arr 0 122 (r.map ar.pd)]):=⟨fun h=>kG h⟩
section
attribute [local irreducible] HM HU HF HB WO WC QS QB tO
instance {d0:(List ar)}:CE prog bj ext (dW d0) 55 [.ref 0 0,.d (.raw (.func (.func 56) #[.agg #[]] #[]))] [.arr 0 122 (d0.map ar.pd)] fun r=>(.tup [],[.arr 0 122 (r.map ar.pd)]):=⟨fun h=>Ev.au h Tryz.func55⟩
end
theorem qq{a0:ah}{a1:ae}{a2:(List aa)}{r:(List ar)×(List aa)×Int}(h:kk a0 a1 a2=some r):EvP prog bj ext 22 [.d (ah.pd a0),.d (ae.pd a1),rM aa.pd a2] [] (.tup [rM ar.pd r.1,rM aa.pd r.2.1,rI r.2.2],[]):=by
 refine Ev.body Z Tryz.func22 Z Zk<|gU Z<|sB (.ptr 48 0) 48 (.var (ah.rc a0))<|sB (.ptr 64 0) 64 (.var [rM aj.pd a1.a8])<|sV .pY<|sV .pY<|sV (r0)<|sN<|gU Z<|sV (.d (ah.pd a0))<|sV (.d (ae.pd a1))<|sM Z<|bE h fun q h1 h=>cR (.tup [rM aa.pd q.1,rM aw.pd q.2.1,rI q.2.2]) [] (ce h1)<|sM Z ?_
 refine sV (rM aa.pd q.1)<|sV (rM aw.pd q.2.1)<|sV (rI q.2.2)<|sA Z<|sA Z<|sA Z<|sN<|qS<|gU Z<|sM Z<|sF h ?_ ?_<;>intro h
 ·refine sN<|cT<|gU Z<|sM Z<|sV .pY<|sV .pY<|sA Z<|sN<|qR ?_
  cases oI h
  exact qG
 refine sN<|cF<|qK<|gU Z<|sV (.ptr 48 0)<|sV (.d (bh.pd a0.ac))<|sM Z<|bE h fun j h3 h=>cR (.tup [rM bB.pd j.1,rL j.2.1,rI j.2.2]) [] (oO h3)<|sM Z<|sV (rM bB.pd j.1)<|sV (rL j.2.1)<|sV (rI j.2.2)<|sA Z<|sA Z ?_
 refine sA Z<|sN<|qS<|gU Z<|sM Z<|sF h ?_ ?_<;>intro h
 ·refine sN<|cT<|gU Z<|sM Z<|sV .pY<|sV .pY<|sA Z<|sN<|qR ?_
  cases oI h
  exact qG
 refine sN<|cF<|qK<|gU Z<|sV .pY<|sN<|qS<|gU Z<|sM Z<|sE (rI (j.1.length:Int)) (sb _ _)<|sV (r0)<|sN<|bE h fun a9 G h=>F1 (F2 (WL.rG G (fun s=>gI 0 22 9 [(3,.ptr 48 0),(4,.ptr 64 0),(9,rM aa.pd q.1),(13,rL j.2.1),(14,.ref 1360 0),(47,rM bB.pd j.1),(48,rI (j.1.length:Int)),(49,rI s.1)] [(48,.var (ah.rc a0)),(64,.var [rM aj.pd a1.a8]),(1360,.arr 0 122 (s.2.map ar.pd))]) (fun o=>match o with| .inl y=>gX 0 0 22 22 [(9,rM aa.pd q.1),(13,rL j.2.1),(14,.ref 1360 0)] [(1360,.arr 0 122 (y.map ar.pd))]| .inr r=>gF 22 Tryz.f22 0 (.tup [rM ar.pd r.1,rM aa.pd r.2.1,rI r.2.2],[])) Z ?_ ?_))
 ·rintro⟨s5,s6⟩ E D q8 k h
  refine gS Z k<|sF h ?_ ?_<;>intro h
  ·refine sN<|qS<|cT<|qK<|qS<|qB<|gU Z<|bE h fun u K h=>eG K Z<|sV (.d (bB.pd u))<|sB (.ptr 256 0) 256 (.var [.pY,r0,r0,r0,r0])<|sS 256 (.var (bB.rc u))<|sN<|gU Z<|sV .pY ?_
   refine sN<|qS<|gU Z<|sV (.ptr 256 0)<|sL Z<|sE (rI (u.dg.length:Int)) (sb _ _)<|sV (r0)<|sN<|bE h fun a6 F h=>F1 (F2 (WL.rG F (fun s=>gI 0 22 13 [(3,.ptr 48 0),(4,.ptr 64 0),(9,rM aa.pd q.1),(13,rL j.2.1),(14,.ref 1360 0),(17,.ref 1056 0),(47,rM bB.pd j.1),(48,rI (j.1.length:Int)),(49,rI s5),(54,rL u.dg),(55,rI (u.dg.length:Int)),(56,rI s.1)] [(48,.var (ah.rc a0)),(64,.var [rM aj.pd a1.a8]),(1056,.arr 0 70 (s.2.map aa.pd)),(1360,.arr 0 122 (s6.map ar.pd))]) (fun o=>gX 2 0 22 17 [(3,.ptr 48 0),(4,.ptr 64 0),(9,rM aa.pd q.1),(13,rL j.2.1),(14,.ref 1360 0),(17,.ref 1056 0),(47,rM bB.pd j.1),(48,rI (j.1.length:Int)),(49,rI o.1)] [(48,.var (ah.rc a0)),(64,.var [rM aj.pd a1.a8]),(1056,.arr 0 70 (o.2.2.map aa.pd)),(1360,.arr 0 122 (o.2.1.map ar.pd))]) Z ?_ ?_))
   ·rintro⟨b0,b6⟩ E D b3 k h
    refine gS Z k<|sF h ?_ ?_<;>intro h
    ·refine sN<|qS<|cT<|qK<|qS<|qB<|gU Z<|bE h fun c1 L h=>eG L Z<|sC Z<|sA Z<|sN<|F4 Z Z<|sM Z<|sM Z ?_
     refine sM Z<|bE h fun I N h=>eG N Z<|sV (.d (aa.pd I))<|sG (.d (.lst ([I].map aa.pd)))<|bE h fun c2 O h=>aR O (fun _=>Z) Z<|sA Z<|sN<|F4 Z Z<|sV (rI (rW (b0+(1:Int))))<|sM Z<|sN ?_
     cases oI h
     exact⟨rfl,rfl⟩
    refine sN<|qS<|cF<|qX ?_
    cases oI h
    exact⟨nofun,rfl,rfl⟩
   intro e E D he C
   obtain⟨rfl,k⟩:=C
   refine qE<|gS Z k<|sV (.d (ah.pd a0))<|sV (.d (ae.pd a1))<|sM Z<|bE h fun f Q h=>cR (.tup [.d (bH.pd f.1),rI f.2]) [(1056,.dead)] (ce Q)<|sM Z<|sV (.d (bH.pd f.1))<|sV (rI f.2)<|sB (.ptr 320 0) 320 (.var [.pY,r0,r0,r0,r0,r0,r0,r0,r0,r0,r0,r0,r0,r0,r0,r0])<|sH 320 (.var (bH.rc f.1))<|sA Z<|sN<|qS ?_
   refine gU Z<|sM Z<|sF h ?_ ?_<;>intro h
   ·refine sN<|cT<|gU Z<|sM Z<|sV .pY<|sV .pY<|sA Z<|sN<|qR ?_
    cases oI h
    exact⟨nofun,rfl,rfl⟩
   refine sN<|cF<|qK<|F6 Z Z<|sM Z<|sV (.ptr 320 0)<|sL Z<|bE h fun g T h=>cD (ce T)<|sV (.d (bH.pd f.1))<|sG (.d (.agg [.str g.a7.bI,.str g.a7.bw,.str g.a7.ba,.str g.a7.bL,.int .i64 g.bS,.int .i64 g.bv,.int .i64 g.cg,.int .i64 g.bG,.int .i64 g.bT,.lst (f.1.ew.map aa.pd),.int .i64 f.1.ba.bM.fX,.int .i64 f.1.ba.bM.fY,.int .i64 f.1.ba.bM.fZ,.int .i64 f.1.ba.bS,.int .i64 f.1.ba.b8,.int .i64 f.1.ba.mn,.int .i64 f.1.ba.ch.bt.fX,.int .i64 f.1.ba.ch.bt.fY,.int .i64 f.1.ba.ch.bt.fZ,.int .i64 f.1.ba.ch.bd.fX,.int .i64 f.1.ba.ch.bd.fY,.int .i64 f.1.ba.ch.bd.fZ,.int .i64 f.1.fc.bt,.int .i64 f.1.fc.bd,.int .i64 f.1.qA]))<|sG (.d (.lst ([(ar.mk g f.1)].map ar.pd)))<|bE h fun c3 U h=>aR U (fun _=>Z) Z<|sA Z ?_
   refine sN<|sO<|F4 Z Z<|sV (rI (rW (a6.1+(1:Int))))<|sM Z<|sN ?_
   cases oI h
   exact⟨rfl,rfl⟩
  refine sN<|qS<|cF<|qX ?_
  cases oI h
  exact⟨nofun,rfl,rfl⟩
 intro e E D he C
 rcases a9 with c6|b5
 ·obtain⟨rfl,k⟩:=C
  refine qE<|gS Z k<|sM Z<|sV (.d (ey.pd (ey.mk )))<|sV (.d (.raw (.func (.func 56) #[.agg #[]] #[])))<|bE h fun B W h=>cR (.tup []) [(1360,.arr 0 122 (B.map ar.pd))] (ce W)<|sN<|gU Z<|sV .pY<|sN<|qS<|gU Z<|sM Z<|sE (rI (j.2.1.length:Int)) (sb _ _) ?_
  refine sV (r0)<|sN<|bE h fun b2 H h=>F1 (F2 (WL.rG H (fun s=>gI 0 22 25 [(9,rM aa.pd q.1),(14,.ref 1360 0),(22,.ref 1648 0),(91,rL j.2.1),(92,rI (j.2.1.length:Int)),(93,rI s.1)] [(1360,.arr 0 122 (B.map ar.pd)),(1648,.arr 0 70 (s.2.map aa.pd))]) (fun o=>gX 4 0 22 29 [(14,.ref 1360 0),(22,.ref 1648 0)] [(1360,.arr 0 122 (B.map ar.pd)),(1648,.arr 0 70 (o.map aa.pd))]) Z ?_ ?_))
  ·rintro⟨b1,c0⟩ E D b4 k h
   refine gS Z k<|sF h ?_ ?_<;>intro h
   ·refine sN<|qS<|cT<|qK<|qS<|qB<|gU Z<|bE h fun c4 X h=>eG X Z<|sC Z<|sA Z<|sN<|F4 Z Z<|sM Z<|sM Z ?_
    refine sM Z<|bE h fun J Y h=>eG Y Z<|sV (.d (aa.pd J))<|sG (.d (.lst ([J].map aa.pd)))<|bE h fun c5 a5 h=>aR a5 (fun _=>Z) Z<|sA Z<|sN<|F4 Z Z<|sV (rI (rW (b1+(1:Int))))<|sM Z<|sN ?_
    cases oI h
    exact⟨rfl,rfl⟩
   refine sN<|qS<|cF<|qX ?_
   cases oI h
   exact⟨nofun,rfl,rfl⟩
  intro e E D he C
  obtain⟨rfl,k⟩:=C
  refine qE<|gS Z k<|mM Z<|sA Z<|sA Z<|sV (r0)<|sN<|qR ?_
  exact oI h▸qD
 obtain⟨rfl,hf⟩:=C
 cases oI h
 exact hf
instance {a0:ah}{a1:ae}{a2:(List aa)}:CE prog bj ext (kk a0 a1 a2) 22 [.d (ah.pd a0),.d (ae.pd a1),rM aa.pd a2] [] fun r=>(.tup [rM ar.pd r.1,rM aa.pd r.2.1,rI r.2.2],[]):=⟨fun h=>qq h⟩
section
attribute [local irreducible] HM HU HF HB WO WC QS QB tO
instance {a0:ah}{a1:ae}{a2:(List aa)}:CE prog bj ext (iV a0 a1 a2) 40 [.d (ah.pd a0),.d (ae.pd a1),rM aa.pd a2] [] fun r=>(.tup [.d (bq.pd r.1),rI r.2],[]):=⟨fun h=>Ev.au h Tryz.func40⟩
end
theorem iT{a0:ah}{a1:ae}{a2:(List aa)}{r:av×Int}(h:fk a0 a1 a2=some r):EvP prog bj ext 13 [.d (ah.pd a0),.d (ae.pd a1),rM aa.pd a2] [] (.tup [.d (av.pd r.1),rI r.2],[]):=by
 refine Ev.body Z Tryz.func13 Z Zk<|gU Z<|sB (.ptr 48 0) 48 (.var (ah.rc a0))<|sB (.ptr 64 0) 64 (.var [rM aj.pd a1.a8])<|sB (.ptr 96 0) 96 (.var zZ0)<|sV (r0)<|sN<|gU Z<|sV (.d (ah.pd a0))<|sV (.d (ae.pd a1))<|sM Z<|bE h fun j h1 h=>cR (.tup [.d (.lst (j.1.map (fun l=>PD.lst (l.map aa.pd)))),rI j.2]) [] (ce h1)<|sM Z<|sV (.d (.lst (j.1.map (fun l=>PD.lst (l.map aa.pd))))) ?_
 refine sV (rI j.2)<|sA Z<|sA Z<|sN<|qS<|gU Z<|sM Z<|sF h ?_ ?_<;>intro h
 ·refine sN<|cT<|gU Z<|sG (.agg zZ0)<|sM Z<|sH 96 (.var zZ0)<|sA Z<|sN<|qR ?_
  cases oI h
  exact qG
 refine sN<|cF<|qK<|gU Z<|sV (.d (ah.pd a0))<|sV (.d (ae.pd a1))<|bE h fun g G h=>cR (.agg (ah.rc g.bp++[rM aj.pd g.co.a8,.pY])) [] (mJ G)<|sB (.ptr 160 0) 160 (.var zZ0)<|sH 160 (.var (ah.rc g.bp++[rM aj.pd g.co.a8,.pY]))<|sN<|qS<|gU Z<|sM Z<|sE (rI (j.1.length:Int)) (sb _ _) ?_
 refine sV (r0)<|sN<|bE h fun C k h=>F1 (F2 (WL.rG k (fun s=>gI 0 13 6 [(3,.ptr 48 0),(4,.ptr 64 0),(6,.ptr 96 0),(10,.ptr 160 0),(29,.d (.lst (j.1.map (fun l=>PD.lst (l.map aa.pd))))),(30,rI (j.1.length:Int)),(31,rI s.1)] [(48,.var (ah.rc a0)),(64,.var [rM aj.pd a1.a8]),(96,.var zZ0),(160,.var (ah.rc g.bp++[rM aj.pd g.co.a8,.ref 800 0])),(800,.arr 0 61 (s.2.map bq.pd))]) (fun o=>match o with| .inl y=>gX 0 0 13 13 [(6,.ptr 96 0),(10,.ptr 160 0)] [(96,.var zZ0),(160,.var (ah.rc g.bp++[rM aj.pd g.co.a8,.ref 800 0])),(800,.arr 0 61 (y.map bq.pd))]| .inr r=>gF 13 Tryz.f13 0 (.tup [.d (av.pd r.1),rI r.2],[])) Z ?_ ?_))
 ·rintro⟨J,O⟩ F E N B h
  refine gS Z B<|sF h ?_ ?_<;>intro h
  ·refine sN<|qS<|cT<|qK<|qS<|qB<|gU Z<|bE h fun Q H h=>eG H Z<|sC Z<|sA Z<|sN<|gU Z<|sV (.d (ah.pd a0))<|sV (.d (ae.pd a1)) ?_
   refine sM Z<|bE h fun f q h=>cR (.tup [.d (bq.pd f.1),rI f.2]) [] (ce q)<|sM Z<|sV (.d (bq.pd f.1))<|sV (rI f.2)<|sB (.ptr 208 0) 208 (.var [.pY,.pY,.pY])<|sS 208 (.var (bq.rc f.1))<|sA Z<|sN<|qS<|gU Z<|sM Z<|sF h ?_ ?_<;>intro h
   ·refine sN<|cT<|gU Z<|sG (.agg zZ0)<|sM Z<|sH 96 (.var zZ0)<|sA Z<|sN<|qR ?_
    cases oI h
    exact⟨nofun,rfl,rfl⟩
   refine sN<|cF<|qK<|F4 Z Z<|sV (.ptr 160 21)<|sL Z<|sV (.d (bq.pd f.1))<|sV (.d (.lst ([f.1].map bq.pd)))<|bE h fun K u h=>aR u (fun _=>Z) Z<|sV (.ptr 160 21)<|sS 160 (.var (ah.rc g.bp++[rM aj.pd g.co.a8,.ref 800 1]))<|sN<|F4 Z Z<|sV (rI (rW (J+(1:Int)))) ?_
   refine sM Z<|sN ?_
   cases oI h
   exact⟨rfl,rfl⟩
  refine sN<|qS<|cF<|qX ?_
  cases oI h
  exact⟨nofun,rfl,rfl⟩
 intro e F E he D
 rcases C with L|I
 ·obtain⟨rfl,B⟩:=D
  refine qE<|gS Z B<|sV (.agg (ah.rc g.bp++[rM aj.pd g.co.a8,.ref 800 0]))<|sH 96 (.var (ah.rc g.bp++[rM aj.pd g.co.a8,.ref 800 0]))<|sV (r0)<|sN<|qR ?_
  cases oI h
  exact qG
 obtain⟨rfl,hf⟩:=D
 cases oI h
 exact hf
section
attribute [local irreducible] HM HU HF HB WO WC QS QB tO
instance {a0:bq}:CE prog bj ext (nn a0) 63 [.d (bq.pd a0)] [] fun r=>(rM aa.pd r,[]):=⟨fun h=>Ev.au h Tryz.func63⟩
instance {a0:av}:LI (fm a0) 3 (fun s=>[(11,rI s.1)]) (fun s=>[(304,.arr 0 70 (s.2.map aa.pd))]) (jX 7 (fun o=>[]) fun o=>[(304,.arr 0 70 (o.map aa.pd))]):=⟨⟩
instance {a0:av}:CE prog bj ext (jQ a0) 61 [.d (av.pd a0),.d (.raw (.func (.func 63) #[] #[]))] [] fun r=>(rM aa.pd r,[]):=⟨fun h=>Ev.au h Tryz.func61⟩
instance {a0:av}:CE prog bj ext (jD a0) 26 [.d (av.pd a0)] [] fun r=>(rM aa.pd r,[]):=⟨fun h=>Ev.au h Tryz.func26⟩
instance {a0:(List Int)}{a1:(List Int)}:LI (eO a0 a1) 4 (fun s=>[(13,rI s)]) (fun s=>[]) (jY 9 (fun y=>[]) (fun y=>[]) Tryz.f134 fun r=>(rB r,[])):=⟨⟩
instance {a0:(List Int)}{a1:(List Int)}:CE prog bj ext (k8 a0 a1) 134 [rL a0,rL a1] [] fun r=>(rB r,[]):=⟨fun h=>Ev.au h Tryz.func134⟩
instance {a0:bg}{a1:bg}:CE prog bj ext (ju a0 a1) 133 [.d (bg.pd a0),.d (bg.pd a1)] [] fun r=>(rB r,[]):=⟨fun h=>Ev.au h Tryz.func133⟩
instance {a0:(List bg)}{a1:(List bg)}:LI (cJ a0 a1) 4 (fun s=>[(17,rI s)]) (fun s=>[]) (jY 10 (fun y=>[]) (fun y=>[]) Tryz.f132 fun r=>(rB r,[])):=⟨⟩
instance {a0:(List bg)}{a1:(List bg)}:CE prog bj ext (fV a0 a1) 132 [rM bg.pd a0,rM bg.pd a1,.d (.raw (.func (.func 133) #[] #[]))] [] fun r=>(rB r,[]):=⟨fun h=>Ev.au h Tryz.func132⟩
instance {a0:bu}{a1:bu}:CE prog bj ext (nf a0 a1) 93 [.d (bu.pd a0),.d (bu.pd a1)] [] fun r=>(rB r,[]):=⟨fun h=>Ev.au h Tryz.func93⟩
instance {a0:ae}{a1:ae}{a2:aa}:CE prog bj ext (jf a0 a1 a2) 48 [.d (ae.pd a0),.d (ae.pd a1),.d (aa.pd a2)] [] fun r=>(rB r,[]):=⟨fun h=>Ev.au h Tryz.func48⟩
end
theorem oo{a0:aa}{d1:Int}{d2:ae}{d3:ae}{d4:(List (aa×Int))}{r:Bool}(h:gw a0 d1 d2 d3 d4=some r):EvP prog bj ext 47 [.d (aa.pd a0),.ptr 0 0,.ptr 1 0,.ptr 2 0,.ptr 3 0] [.var [.ptr 4 0],.var [rI d1],.var [rM aj.pd d2.a8],.var [rM aj.pd d3.a8],.map 70 3 (d4.map fun e=>(aa.pd e.1,(PD.int .i64) e.2))] (rB r,[.var [.ptr 4 0],.var [rI d1],.var [rM aj.pd d2.a8],.var [rM aj.pd d3.a8],.map 70 3 (d4.map fun e=>(aa.pd e.1,(PD.int .i64) e.2))]):=by
 refine Ev.body Z Tryz.func47 Z Zk<|gU Z<|sB (.ptr 80 0) 80 (.var (aa.rc a0))<|sU<|sN<|F3 Z Z<|sL Z<|sV (.d (aa.pd a0))<|WO.look (gv:=(PD.int .i64)) (z:=(0:Int)) keyT_70 Z Z Z Z Z Z Z Z<|sL Z<|sF h ?_ ?_<;>intro h
 ·refine sM Z<|k3<|sK<|sT<|sA Z ?_
  refine sN<|sO<|qR ?_
  cases oI h
  exact qG
 refine sM Z<|sV (.d (ae.pd d2))<|sV (.d (ae.pd d3))<|sV (.d (aa.pd a0))<|bE h fun g f h=>cD (ce f)<|sV (rB g)<|sA Z ?_
 refine sN<|sO<|qR ?_
 cases oI h
 exact qG
instance {a0:aa}{d1:Int}{d2:ae}{d3:ae}{d4:(List (aa×Int))}:CE prog bj ext (gw a0 d1 d2 d3 d4) 47 [.d (aa.pd a0),.ptr 0 0,.ptr 1 0,.ptr 2 0,.ptr 3 0] [.var [.ptr 4 0],.var [rI d1],.var [rM aj.pd d2.a8],.var [rM aj.pd d3.a8],.map 70 3 (d4.map fun e=>(aa.pd e.1,(PD.int .i64) e.2))] fun r=>(rB r,[.var [.ptr 4 0],.var [rI d1],.var [rM aj.pd d2.a8],.var [rM aj.pd d3.a8],.map 70 3 (d4.map fun e=>(aa.pd e.1,(PD.int .i64) e.2))]):=⟨fun h=>oo h⟩
section
attribute [local irreducible] HM HU HF HB WO WC QS QB tO
instance {a0:(List aa)}{d1:Int}{d2:ae}{d3:ae}{d4:(List (aa×Int))}:LI (cK a0 d1 d2 d3 d4) 2 (fun s=>[(8,rI s)]) (fun s=>[]) (jY 7 (fun y=>[]) (fun y=>[]) Tryz.f94 fun r=>(rI r,[.var [.ptr 4 0],.var [rI d1],.var [rM aj.pd d2.a8],.var [rM aj.pd d3.a8],.map 70 3 (d4.map fun e=>(aa.pd e.1,(PD.int .i64) e.2))])):=⟨⟩
instance {a0:(List aa)}{d1:Int}{d2:ae}{d3:ae}{d4:(List (aa×Int))}:CE prog bj ext (fW a0 d1 d2 d3 d4) 94 [rM aa.pd a0,.clo 47 [.ptr 0 0,.ptr 1 0,.ptr 2 0,.ptr 3 0]] [.var [.ptr 4 0],.var [rI d1],.var [rM aj.pd d2.a8],.var [rM aj.pd d3.a8],.map 70 3 (d4.map fun e=>(aa.pd e.1,(PD.int .i64) e.2))] fun r=>(rI r,[.var [.ptr 4 0],.var [rI d1],.var [rM aj.pd d2.a8],.var [rM aj.pd d3.a8],.map 70 3 (d4.map fun e=>(aa.pd e.1,(PD.int .i64) e.2))]):=⟨fun h=>Ev.au h Tryz.func94⟩
instance {a0:(List aa)}{d1:Int}{d2:ae}{d3:ae}{d4:(List (aa×Int))}:CE prog bj ext (dN a0 d1 d2 d3 d4) 49 [rM aa.pd a0,.clo 47 [.ptr 0 0,.ptr 1 0,.ptr 2 0,.ptr 3 0]] [.var [.ptr 4 0],.var [rI d1],.var [rM aj.pd d2.a8],.var [rM aj.pd d3.a8],.map 70 3 (d4.map fun e=>(aa.pd e.1,(PD.int .i64) e.2))] fun r=>(rB r,[.var [.ptr 4 0],.var [rI d1],.var [rM aj.pd d2.a8],.var [rM aj.pd d3.a8],.map 70 3 (d4.map fun e=>(aa.pd e.1,(PD.int .i64) e.2))]):=⟨fun h=>Ev.au h Tryz.func49⟩
end
end Go.Dw.Re
