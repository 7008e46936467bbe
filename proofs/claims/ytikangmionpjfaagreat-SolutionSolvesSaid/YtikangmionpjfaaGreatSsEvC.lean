
import Derived.Test.YtikangmionpjfaaGreatSsEvB
set_option linter.unusedVariables false
set_option linter.unusedSimpArgs false
open Go.Dw.WC renaming block->EI, join->EM, loop->EJ, pg->EK, region->EH

set_option maxRecDepth 100000
set_option maxHeartbeats 4000000
namespace Go.Dw.Ss
open Go.Proofs Go.Proofs.Tryz Go.Dw
section
attribute [local irreducible] HM HU HF HB WO WC QS QB sR
instance {a0:ai}{a1:ah}:CE prog bi ext (kf a0 a1) 221 [.d (ai.pd a0),.d (ah.pd a1)] [] fun r=>(.tup [rM bw.pd r.1,rI r.2],[]):=⟨fun h=>Ev.au h Tryz.func221⟩
instance {a0:bw}{a1:Int}:CE prog bi ext (jx a0 a1) 283 [.d (bw.pd a0),rI a1] [] fun r=>(rI r,[]):=⟨fun h=>Ev.au h Tryz.func283⟩
instance {a0:ai}{a1:(List bw)}{a2:Int}:LI (fe a0 a1 a2) 3 (fun s=>[(7,rI s.1),(13,rI s.2)]) (fun s=>[]) (jX 8 (fun o=>[(7,rI o)]) fun o=>[]):=⟨⟩
instance {a0:ai}{a1:(List bw)}{a2:Int}:CE prog bi ext (iq a0 a1 a2) 262 [.d (ai.pd a0),rM bw.pd a1,rI a2] [] fun r=>(rI r,[]):=⟨fun h=>Ev.au h Tryz.func262⟩
instance {a1:(List bw)}:LI (fT a1) 3 (fun s=>[(20,rI s.1)]) (fun s=>[(272,.arr 0 3 (s.2.map (PD.int .i64)))]) (jX 7 (fun o=>[]) fun o=>[(272,.arr 0 3 (o.map (PD.int .i64)))]):=⟨⟩
instance {c:Int}{a:(List Int)}{a0:ai}{a1:(List bw)}:LI (fd c a a0 a1) 11 (fun s=>[(9,rI s.1),(10,rI s.2.1),(47,rI s.2.2)]) (fun s=>[]) (jX 17 (fun o=>[(9,rI o.1),(10,rI o.2)]) fun o=>[]):=⟨⟩
instance {a0:ai}{a1:(List bw)}:CE prog bi ext (ll a0 a1) 222 [.d (ai.pd a0),rM bw.pd a1] [] fun r=>(.tup [rI r.1,rI r.2],[]):=⟨fun h=>Ev.au h Tryz.func222⟩
instance {a0:ai}{a1:ah}:CE prog bi ext (iP a0 a1) 172 [.d (ai.pd a0),.d (ah.pd a1)] [] fun r=>(.tup [rI r.1,rI r.2],[]):=⟨fun h=>Ev.au h Tryz.func172⟩
instance {a0:ap}{a:ai}{e2:Int}{c:Int}{f:Bool}{g:al}:CE prog bi ext (m7 a0 a e2 c f g) 315 [.ptr 0 11,.ifc 166 (.d (ap.pd a0))] [.var (ai.rc a++ .px::rI e2::rI c::rB f::al.rc g)] fun r=>(.tup [],[.var (ai.rc a++ .ref 1 0::rI e2::rI c::rB f::al.rc g),.arr 0 166 (r.map ap.pd)]):=⟨fun h=>Ev.au h Tryz.func315⟩
instance {a0:(List ap)}:CE prog bi ext (gR a0) 311 [rM ap.pd a0] [] fun r=>(rI r,[]):=⟨fun h=>Ev.au h Tryz.func311⟩
instance {a0:(List ap)}{a1:Int}{a2:Int}:CE prog bi ext (ir a0 a1 a2) 312 [rM ap.pd a0,rI a1,rI a2] [] fun r=>(rB r,[]):=⟨fun h=>Ev.au h Tryz.func312⟩
instance {a1:Int}{a2:Int}{d0:(List ap)}:CE prog bi ext (iu a1 a2 d0) 313 [.ref 0 0,rI a1,rI a2] [.arr 0 166 (d0.map ap.pd)] fun r=>(.tup [],[.arr 0 166 (r.map ap.pd)]):=⟨fun h=>Ev.au h Tryz.func313⟩
end
theorem heap_up_ev{a0:Int}{l:ai}{e2:Int}{p:Int}{q:Bool}{t:al}{d1:(List ap)}{r:(List ap)}(h:mZ a0 l e2 p q t d1=some r):EvP prog bi ext 223 [.ifc 228 (.ptr 0 11),rI a0] [.var (ai.rc l++ .ref 1 0::rI e2::rI p::rB q::al.rc t),.arr 0 166 (d1.map ap.pd)] (.tup [],[.var (ai.rc l++ .ref 1 0::rI e2::rI p::rB q::al.rc t),.arr 0 166 (r.map ap.pd)]):=by
 refine Ev.body Z Tryz.func223 Z Zk<|bE h fun G k h=>?_
 cases oI h
 refine EI (EJ (WL.BT k (fun s=>gI 2 223 0 [(0,.ifc 228 (.ptr 0 11)),(1,rI s.1)] [(0,.var (ai.rc l++ .ref 1 0::rI e2::rI p::rB q::al.rc t)),(1,.arr 0 166 (s.2.map ap.pd))]) Z ?_))
 rintro⟨s1,s2⟩ I H J F h
 unfold mo at h
 refine qB<|gS Z F<|sM Z<|sV (rI (rW (s1-(1:Int))))<|bE h fun B D h=>WO.quoG D Z Z Z Z Z Z<|sA Z<|sN<|qS<|gU Z<|mM Z<|sF h ?_ ?_<;>intro h
 ·refine sM Z<|k3<|sK<|sK<|sT<|sN<|cT<|qX<|⟨fun he=>(by cases he),fun _=>?_⟩
  refine pf h (fun K f y=>?_)
  obtain rfl:=Option.some.inj y
  refine⟨(fun he=>by cases he),fun a=>?_⟩
  subst a
  have h:=f
  refine qE ?_
  cases oI h
  exact qG
 refine mM Z<|mM Z<|bE h fun C E h=>WO.wE (e:=162) (c:= .ptr 0 11) (vl:= .ref 1 0) (g:=312) (args:=[rI s1,rI B]) (v:=rB C) (u:=[ ]) Z Z (by intro _;kernel_rfl) Z Z Z Z Z Z (ce E) Z Z Z Z<|sV (rB (!C))<|sF h ?_ ?_<;>intro h
 ·refine sN<|cT<|qX<|⟨fun he=>(by cases he),fun _=>?_⟩
  refine pf h (fun z9 j y=>?_)
  obtain rfl:=Option.some.inj y
  refine⟨(fun he=>by cases he),fun a=>?_⟩
  subst a
  have h:=j
  refine qE ?_
  cases oI h
  exact qG
 refine sN<|cF<|qK<|gU Z<|mM Z<|sM Z<|bE h fun z x h=>WO.wE (e:=162) (c:= .ptr 0 11) (vl:= .ref 1 0) (g:=313) (args:=[rI B,rI s1]) (v:= .tup []) (u:=[(1,.arr 0 166 (z.map ap.pd))]) Z Z (by intro _;kernel_rfl) Z Z Z Z Z Z (ce x) Z Z Z Z<|sN<|EH Z Z<|sM Z<|sA Z<|sN ?_
 cases oI h
 exact⟨rfl,rfl⟩
theorem heap_Push_ev{a0:ap}{a:ai}{e2:Int}{f:Int}{j:Bool}{k:al}{r:(List ap)}(h:jM a0 a e2 f j k=some r):EvP prog bi ext 173 [.ifc 228 (.ptr 0 11),.ifc 166 (.d (ap.pd a0))] [.var (ai.rc a++ .px::rI e2::rI f::rB j::al.rc k)] (.tup [],[.var (ai.rc a++ .ref 1 0::rI e2::rI f::rB j::al.rc k),.arr 0 166 (r.map ap.pd)]):=by
 refine Ev.body Z Tryz.func173 Z Zk<|gU Z<|mM Z<|bE h fun t h1 h=>WO.Ag (g:=315) (args:=[.ptr 0 11,.ifc 166 (.d (ap.pd a0))]) (v:= .tup []) (u:=[(0,.var (ai.rc a++ .ref 96 0::rI e2::rI f::rB j::al.rc k)),(96,.arr 0 166 (t.map ap.pd))]) Z Z (by intro _;kernel_rfl) Z Z Z Z Z (ce h1) Z Z Z Z<|sN<|EH Z Z<|mM Z<|bE h fun l p h=>WO.wE (e:=162) (c:= .ptr 0 11) (vl:= .ref 96 0) (g:=311) (args:=[]) (v:=rI l) (u:=[ ]) Z Z (by intro _;kernel_rfl) Z Z Z Z Z Z (ce p) Z Z Z Z<|sV (rI (rW (l-(1:Int))))<|bE h fun x q h=>cR (.tup []) [(0,.var (ai.rc a++ .ref 96 0::rI e2::rI f::rB j::al.rc k)),(96,.arr 0 166 (x.map ap.pd))] (heap_up_ev q) ?_
 refine sN ?_
 cases oI h
 exact qG
instance {a0:ap}{a:ai}{e2:Int}{c:Int}{f:Bool}{g:al}:CE prog bi ext (jM a0 a e2 c f g) 173 [.ifc 228 (.ptr 0 11),.ifc 166 (.d (ap.pd a0))] [.var (ai.rc a++ .px::rI e2::rI c::rB f::al.rc g)] fun r=>(.tup [],[.var (ai.rc a++ .ref 1 0::rI e2::rI c::rB f::al.rc g),.arr 0 166 (r.map ap.pd)]):=⟨fun h=>heap_Push_ev h⟩
section
attribute [local irreducible] HM HU HF HB WO WC QS QB sR
instance {a0:ah}{a:ai}{e2:Int}{c:Int}{f:Bool}{g:al}:CE prog bi ext (oC a0 a e2 c f g) 131 [.ptr 0 0,.d (ah.pd a0)] [.var (ai.rc a++ .px::rI e2::rI c::rB f::al.rc g)] fun r=>(rI r.1,[.var (ai.rc a++ .ref 1 0::rI r.2.2::rI c::rB f::al.rc g),.arr 0 166 (r.2.1.map ap.pd)]):=⟨fun h=>Ev.au h Tryz.func131⟩
instance {a0:Int}{a:ai}{e2:Int}{c:Int}{f:Bool}{g:al}{d1:(List ap)}:CE prog bi ext (kx a0 a e2 c f g d1) 132 [.ptr 0 0,rI a0] [.var (ai.rc a++ .ref 1 0::rI e2::rI c::rB f::al.rc g),.arr 0 166 (d1.map ap.pd)] fun r=>(rB r,[.var (ai.rc a++ .ref 1 0::rI e2::rI c::rB f::al.rc g),.arr 0 166 (d1.map ap.pd)]):=⟨fun h=>Ev.au h Tryz.func132⟩
end
theorem heap_down_ev{a0:Int}{a1:Int}{e2:ai}{a:Int}{f:Int}{j:Bool}{k:al}{d1:(List ap)}{r:Bool×(List ap)}(h:lP a0 a1 e2 a f j k d1=some r):EvP prog bi ext 224 [.ifc 228 (.ptr 0 11),rI a0,rI a1] [.var (ai.rc e2++ .ref 1 0::rI a::rI f::rB j::al.rc k),.arr 0 166 (d1.map ap.pd)] (rB r.1,[.var (ai.rc e2++ .ref 1 0::rI a::rI f::rB j::al.rc k),.arr 0 166 (r.2.map ap.pd)]):=by
 refine Ev.body Z Tryz.func224 Z Zk<|gU Z<|sU<|sN<|gU Z<|sM Z<|sA Z<|sN<|qS<|bE h fun B p h=>EI (EJ (WL.qz p (fun s=>gI 2 224 2 [(0,.ifc 228 (.ptr 0 11)),(1,rI a0),(2,rI a1),(7,rI s.1)] [(0,.var (ai.rc e2++ .ref 1 0::rI a::rI f::rB j::al.rc k)),(1,.arr 0 166 (s.2.map ap.pd))]) (fun o=>gX 0 2 224 11 [(1,rI a0),(7,rI o.1)] [(0,.var (ai.rc e2++ .ref 1 0::rI a::rI f::rB j::al.rc k)),(1,.arr 0 166 (o.2.map ap.pd))]) Z ?_ ?_))
 ·rintro⟨s1,s2⟩ t q H l h
  refine qB<|gS Z l<|sM Z<|sV (rI (rW ((2:Int)*s1)))<|sV (rI (rW ((rW ((2:Int)*s1))+(1:Int))))<|sA Z<|sN<|qS<|gU Z<|mM Z<|sF h ?_ ?_<;>intro h
  ·refine sM Z<|sK<|sK<|sT<|sN<|cT<|qX<|⟨fun he=>(by cases he),fun _=>?_⟩
   cases oI h
   exact⟨nofun,rfl,rfl⟩
  refine mM Z<|sV (rB (decide ((rW ((rW ((2:Int)*s1))+(1:Int)))<(0:Int))))<|sF h ?_ ?_<;>intro h
  ·refine sN<|cT<|qX<|⟨fun he=>(by cases he),fun _=>?_⟩
   cases oI h
   exact⟨nofun,rfl,rfl⟩
  refine sN<|cF<|qK<|gU Z<|sM Z<|sA Z<|sN<|EM (α:=Int) (fun x t q=>pK prog 2 (A t q) (bi.at_ 224 2 8)=some (A [(0,.ifc 228 (.ptr 0 11)),(1,rI a0),(2,rI a1),(7,rI s1),(9,rI x)] [(0,.var (ai.rc e2++ .ref 1 0::rI a::rI f::rB j::al.rc k)),(1,.arr 0 166 (s2.map ap.pd))])) (fun x=>eJ s2 s1 x=some H) ?_ ?_
  ·refine gU Z<|sM Z<|sV (rI (rW ((rW ((rW ((2:Int)*s1))+(1:Int)))+(1:Int))))<|sA Z<|sN<|gU Z<|mM Z<|sF h ?_ ?_<;>intro h
   ·refine mM Z<|mM Z<|bE h fun D z h=>WO.wE (e:=162) (c:= .ptr 0 11) (vl:= .ref 1 0) (g:=312) (args:=[rI (rW ((rW ((rW ((2:Int)*s1))+(1:Int)))+(1:Int))),rI (rW ((rW ((2:Int)*s1))+(1:Int)))]) (v:=rB D) (u:=[ ]) Z Z (by intro _;kernel_rfl) Z Z Z Z Z Z (ce z) Z Z Z Z<|sF h ?_ ?_<;>intro h
    ·exact sN<|cT<|EH rfl rfl<|sM rfl<|sA rfl<|sN<|⟨(rW ((rW ((rW ((2:Int)*s1))+(1:Int)))+(1:Int))),rfl,h⟩
    exact sN<|cF<|qK<|⟨(rW ((rW ((2:Int)*s1))+(1:Int))),rfl,h⟩
   exact sM rfl<|k3<|sK<|sU<|sN<|cF<|qK<|⟨(rW ((rW ((2:Int)*s1))+(1:Int))),rfl,h⟩
  rintro E t q l h
  refine qS<|gS Z l<|mM Z<|sM Z<|bE h fun I F h=>WO.wE (e:=162) (c:= .ptr 0 11) (vl:= .ref 1 0) (g:=312) (args:=[rI E,rI s1]) (v:=rB I) (u:=[ ]) Z Z (by intro _;kernel_rfl) Z Z Z Z Z Z (ce F) Z Z Z Z<|sF h ?_ ?_<;>intro h
  ·refine sN<|cT<|qX<|⟨fun he=>(by cases he),fun _=>?_⟩
   cases oI h
   exact⟨nofun,rfl,rfl⟩
  refine sN<|cF<|qK<|gU Z<|mM Z<|sM Z<|bE h fun C y h=>WO.wE (e:=162) (c:= .ptr 0 11) (vl:= .ref 1 0) (g:=313) (args:=[rI s1,rI E]) (v:= .tup []) (u:=[(1,.arr 0 166 (C.map ap.pd))]) Z Z (by intro _;kernel_rfl) Z Z Z Z Z Z (ce y) Z Z Z Z<|sN<|EH Z Z<|sM Z<|sA Z<|sN ?_
  cases oI h
  exact⟨rfl,rfl⟩
 intro e t q he G
 obtain⟨rfl,l⟩:=G
 refine qE<|gS Z l<|mM Z<|sV (rB (decide (B.1>a0)))<|sA Z<|sN<|qR ?_
 cases oI h
 exact qG
section
attribute [local irreducible] HM HU HF HB WO WC QS QB sR
instance {a:ai}{c:Int}{e2:Int}{f:Bool}{g:al}{d1:(List ap)}:CE prog bi ext (oa a c e2 f g d1) 314 [.ptr 0 11] [.var (ai.rc a++ .ref 1 0::rI c::rI e2::rB f::al.rc g),.arr 0 166 (d1.map ap.pd)] fun r=>(.ifc 166 (.d (ap.pd r.1)),[.var (ai.rc a++ .ref 1 1::rI c::rI e2::rB f::al.rc g),.arr 1 166 (r.2.map ap.pd)]):=⟨fun h=>Ev.au h Tryz.func314⟩
end
theorem heap_Pop_ev{a:ai}{f:Int}{e2:Int}{j:Bool}{k:al}{d1:(List ap)}{r:ap×(List ap)}(h:lW a f e2 j k d1=some r):EvP prog bi ext 174 [.ifc 228 (.ptr 0 11)] [.var (ai.rc a++ .ref 1 0::rI f::rI e2::rB j::al.rc k),.arr 0 166 (d1.map ap.pd)] (.ifc 166 (.d (ap.pd r.1)),[.var (ai.rc a++ .ref 1 1::rI f::rI e2::rB j::al.rc k),.arr 1 166 (r.2.map ap.pd)]):=by
 refine Ev.body Z Tryz.func174 Z Zk<|gU Z<|sV (.d (.raw .nilIface))<|sN<|gU Z<|sM Z<|bE h fun l h1 h=>WO.wE (e:=162) (c:= .ptr 0 11) (vl:= .ref 1 0) (g:=311) (args:=[]) (v:=rI l) (u:=[ ]) Z Z (by intro _;kernel_rfl) Z Z Z Z Z Z (ce h1) Z Z Z Z<|sV (rI (rW (l-(1:Int))))<|sA Z<|sN<|gU Z<|mM Z<|bE h fun z t h=>?_
 refine WO.wE (e:=162) (c:= .ptr 0 11) (vl:= .ref 1 0) (g:=313) (args:=[r0,rI (rW (l-(1:Int)))]) (v:= .tup []) (u:=[(1,.arr 0 166 (z.map ap.pd))]) Z Z (by intro _;kernel_rfl) Z Z Z Z Z Z (ce t) Z Z Z Z<|sN<|gU Z<|mM Z<|bE h fun p x h=>cR (rB p.1) [(0,.var (ai.rc a++ .ref 1 0::rI f::rI e2::rB j::al.rc k)),(1,.arr 0 166 (p.2.map ap.pd))] (heap_down_ev x)<|sN<|gU Z<|sM Z<|bE h fun q y h=>WO.Ag (g:=314) (args:=[.ptr 0 11]) (v:= .ifc 166 (.d (ap.pd q.1))) (u:=[(0,.var (ai.rc a++ .ref 1 1::rI f::rI e2::rB j::al.rc k)),(1,.arr 1 166 (q.2.map ap.pd))]) Z Z (by intro _;kernel_rfl) Z Z Z Z Z (ce y) Z Z Z Z<|sA Z<|sN<|qR ?_
 cases oI h
 exact qG
instance {a:ai}{c:Int}{e2:Int}{f:Bool}{g:al}{d1:(List ap)}:CE prog bi ext (lW a c e2 f g d1) 174 [.ifc 228 (.ptr 0 11)] [.var (ai.rc a++ .ref 1 0::rI c::rI e2::rB f::al.rc g),.arr 0 166 (d1.map ap.pd)] fun r=>(.ifc 166 (.d (ap.pd r.1)),[.var (ai.rc a++ .ref 1 1::rI c::rI e2::rB f::al.rc g),.arr 1 166 (r.2.map ap.pd)]):=⟨fun h=>heap_Pop_ev h⟩
section
attribute [local irreducible] HM HU HF HB WO WC QS QB sR
instance {a0:Int}{a1:Int}:CE prog bi ext (dh a0 a1) 229 [rI a0,rI a1] [] fun r=>(rI r,[]):=⟨fun h=>Ev.au h Tryz.func229⟩
instance {a0:bB}:CE prog bi ext (ca a0) 134 [.d (bB.pd a0)] [] fun r=>(.d (aa.pd r),[]):=⟨fun h=>Ev.au h Tryz.func134⟩
instance {a0:ah}:CE prog bi ext (js a0) 225 [.d (ah.pd a0)] [] fun r=>(.d (aa.pd r),[]):=⟨fun h=>Ev.au h Tryz.func225⟩
instance {a0:ai}{a1:aa}:CE prog bi ext (mQ a0 a1) 226 [.d (ai.pd a0),.d (aa.pd a1)] [] fun r=>(.tup [rI r.1,rI r.2.1,rI r.2.2],[]):=⟨fun h=>Ev.au h Tryz.func226⟩
instance {a0:aa}{a1:aa}:CE prog bi ext (fN a0 a1) 227 [.d (aa.pd a0),.d (aa.pd a1)] [] fun r=>(rI r,[]):=⟨fun h=>Ev.au h Tryz.func227⟩
instance {a0:ah}{a:ai}{e2:Int}{c:Int}{f:Bool}{g:al}{d1:(List ap)}:CE prog bi ext (lv a0 a e2 c f g d1) 175 [.ptr 0 0,.d (ah.pd a0)] [.var (ai.rc a++ .ref 1 0::rI e2::rI c::rB f::al.rc g),.arr 0 166 (d1.map ap.pd)] fun r=>(rI r.1,[.var (ai.rc a++ .ref 1 0::rI e2::rI c::rB r.2.1::al.rc r.2.2),.arr 0 166 (d1.map ap.pd)]):=⟨fun h=>Ev.au h Tryz.func175⟩
instance {a0:ah}:CE prog bi ext (jt a0) 228 [.d (ah.pd a0)] [] fun r=>(rI r,[]):=⟨fun h=>Ev.au h Tryz.func228⟩
end
theorem oN{a0:ah}{r:ah×ah×Bool}(h:fP a0=some r):EvP prog bi ext 176 [.d (ah.pd a0)] [] (.tup [.d (ah.pd r.1),.d (ah.pd r.2.1),rB r.2.2],[]):=by
 refine Ev.body Z Tryz.func176 Z Zk<|gU Z<|sB (.ptr 16 0) 16 (.var (ah.rc a0))<|sB (.ptr 32 0) 32 (.var [r0,r0,r0,r0,r0,r0])<|sB (.ptr 48 0) 48 (.var [r0,r0,r0,r0,r0,r0])<|sU<|sN<|qS<|gU Z<|sV (.d (ah.pd a0))<|bE h fun T h1 h=>cD (ce h1)<|sF h ?_ ?_<;>intro h
 ·refine sN<|cT<|gU Z<|sG (.d (ah.pd (ah.mk (aa.mk 0 0 0) (aa.mk 0 0 0))))<|sG (.d (ah.pd (ah.mk (aa.mk 0 0 0) (aa.mk 0 0 0))))<|sH 32 (.var [r0,r0,r0,r0,r0,r0])<|sH 48 (.var [r0,r0,r0,r0,r0,r0])<|sU<|sN<|qR ?_
  cases oI h
  exact qG
 refine sN<|cF<|qK<|EK Z Z<|sV (.ptr 16 0)<|sV (.d (aa.pd a0.bh))<|bE h fun a K h=>cD (ce K)<|sV (.ptr 16 3)<|sV (.d (aa.pd a0.av))<|bE h fun c L h=>cD (ce L)<|sB (.ptr 80 0) 80 (.var [r0,r0,r0])<|sB (.ptr 96 0) 96 (.var [r0,r0,r0])<|sS 80 (.var [rI a.a0,rI a.a1,rI a.a2]) ?_
 refine sS 96 (.var [rI c.a0,rI c.a1,rI c.a2]) ?_
 refine sN<|sO<|gU Z<|sV (r0)<|sN<|qS<|gU Z<|sV (r0)<|sN<|EI (EJ ?_)
 refine WL.round<|gU Z<|sT<|sN<|qS<|cT<|qK<|qS<|qB<|gU Z<|sM Z<|sA Z<|sN<|EK Z Z<|sM Z ?_
 refine sV (.ptr 96 0)<|sL Z<|sM Z<|sV (.ptr 80 0)<|sL Z<|sV (rI (rW (c.a0-a.a0)))<|sM Z<|sV (.ptr 96 0)<|sL Z<|sM Z<|sV (.ptr 80 0)<|sL Z<|sV (rI (rW (c.a0-a.a0)))<|WO.s0 (v':=rB false) Z Z (fun _=>Z) (congrArg (fun b=>RV.d (.bool b)) (decide_eq_false (Int.lt_irrefl _))) ?_
 refine sN<|sO<|cF<|qK<|EH Z Z<|sV (rI 1)<|sM Z<|sN<|WL.round<|gU Z<|sT<|sN<|qS<|cT<|qK<|qS ?_
 refine qB<|gU Z<|sM Z<|sA Z<|sN<|EK Z Z<|sM Z<|sV (.ptr 96 1)<|sL Z<|sM Z<|sV (.ptr 80 1)<|sL Z<|sV (rI (rW (c.a1-a.a1)))<|sM Z<|sV (.ptr 96 0) ?_
 refine sL Z<|sM Z<|sV (.ptr 80 0)<|sL Z<|sV (rI (rW (c.a0-a.a0)))<|sF h ?_ ?_<;>intro h
 ·refine sN<|sO<|cT<|EH Z Z<|sM Z<|sA Z<|sN<|EH Z Z<|sV (rI 2)<|sM Z<|sN<|WL.round<|gU Z<|sT<|sN<|qS ?_
  refine cT<|qK<|qS<|qB<|gU Z<|sM Z<|sA Z<|sN<|EK Z Z<|sM Z<|sV (.ptr 96 2)<|sL Z<|sM Z<|sV (.ptr 80 2)<|sL Z ?_
  refine sV (rI (rW (c.a2-a.a2)))<|sM Z<|sV (.ptr 96 1)<|sL Z<|sM Z<|sV (.ptr 80 1)<|sL Z<|sV (rI (rW (c.a1-a.a1)))<|sF h ?_ ?_<;>intro h
  ·refine sN<|sO<|cT<|EH Z Z<|sM Z<|sA Z<|sN<|EH Z Z<|sV (rI 3)<|sM Z<|sN<|WL.round<|gU Z<|sU<|sN<|qS ?_
   refine cF<|qX<|qE<|EK Z Z<|sV (.d (bB.pd c))<|sV (.d (bB.pd a))<|sB (.ptr 144 0) 144 (.var [r0,r0,r0])<|sB (.ptr 160 0) 160 (.var [r0,r0,r0])<|sS 144 (.var [rI c.a0,rI c.a1,rI c.a2])<|sS 160 (.var [rI a.a0,rI a.a1,rI a.a2]) ?_
   refine sN<|sO<|EK Z Z<|mM Z<|sV (.ptr 80 2)<|sL Z<|sM Z<|sV (.ptr 96 2)<|sL Z<|bE h fun x N h=>cD (ce N)<|sV (.ptr 144 2)<|sS 144 (.var [rI c.a0,rI c.a1,rI x]) ?_
   refine sN<|sO<|gU Z<|mM Z<|sV (.ptr 144 2)<|sL Z<|sV (rI (rW (x+(1:Int))))<|sV (.ptr 160 2)<|sS 160 (.var [rI a.a0,rI a.a1,rI (rW (x+(1:Int)))])<|sN<|EK Z Z<|sV (.ptr 16 0)<|sV (.d (aa.pd a0.bh))<|sV (.d (bB.pd (bB.mk c.a0 c.a1 x)))<|bE h fun I O h=>?_
   refine cD (ce O)<|sG (.d (ah.pd (ah.mk a0.bh I)))<|sV (.d (bB.pd (bB.mk a.a0 a.a1 (rW (x+(1:Int))))))<|bE h fun J Q h=>cD (ce Q)<|sV (.ptr 16 3)<|sV (.d (aa.pd a0.av))<|sG (.d (ah.pd (ah.mk J a0.av)))<|sH 32 (.var (aa.rc a0.bh++aa.rc I))<|sH 48 (.var (aa.rc J++aa.rc a0.av))<|sT ?_
   refine sN<|sO<|qR ?_
   cases oI h
   exact qG
  refine sN<|sO<|cF<|qK<|EH Z Z<|sV (rI 3)<|sM Z<|sN<|WL.round<|gU Z<|sU<|sN<|qS<|cF<|qX<|qE ?_
  refine EK Z Z<|sV (.d (bB.pd c))<|sV (.d (bB.pd a))<|sB (.ptr 144 0) 144 (.var [r0,r0,r0])<|sB (.ptr 160 0) 160 (.var [r0,r0,r0])<|sS 144 (.var [rI c.a0,rI c.a1,rI c.a2])<|sS 160 (.var [rI a.a0,rI a.a1,rI a.a2]) ?_
  refine sN<|sO<|EK Z Z<|mM Z<|sV (.ptr 80 1)<|sL Z<|sM Z<|sV (.ptr 96 1)<|sL Z<|bE h fun f y h=>cD (ce y)<|sV (.ptr 144 1)<|sS 144 (.var [rI c.a0,rI f,rI c.a2]) ?_
  refine sN<|sO<|gU Z<|mM Z<|sV (.ptr 144 1)<|sL Z<|sV (rI (rW (f+(1:Int))))<|sV (.ptr 160 1)<|sS 160 (.var [rI a.a0,rI (rW (f+(1:Int))),rI a.a2])<|sN<|EK Z Z<|sV (.ptr 16 0)<|sV (.d (aa.pd a0.bh))<|sV (.d (bB.pd (bB.mk c.a0 f c.a2)))<|bE h fun k z h=>?_
  refine cD (ce z)<|sG (.d (ah.pd (ah.mk a0.bh k)))<|sV (.d (bB.pd (bB.mk a.a0 (rW (f+(1:Int))) a.a2)))<|bE h fun l B h=>cD (ce B)<|sV (.ptr 16 3)<|sV (.d (aa.pd a0.av))<|sG (.d (ah.pd (ah.mk l a0.av)))<|sH 32 (.var (aa.rc a0.bh++aa.rc k))<|sH 48 (.var (aa.rc l++aa.rc a0.av))<|sT ?_
  refine sN<|sO<|qR ?_
  cases oI h
  exact qG
 refine sN<|sO<|cF<|qK<|EH Z Z<|sV (rI 2)<|sM Z<|sN<|WL.round<|gU Z<|sT<|sN<|qS<|cT<|qK<|qS ?_
 refine qB<|gU Z<|sM Z<|sA Z<|sN<|EK Z Z<|sM Z<|sV (.ptr 96 2)<|sL Z<|sM Z<|sV (.ptr 80 2)<|sL Z<|sV (rI (rW (c.a2-a.a2)))<|sM Z<|sV (.ptr 96 0) ?_
 refine sL Z<|sM Z<|sV (.ptr 80 0)<|sL Z<|sV (rI (rW (c.a0-a.a0)))<|sF h ?_ ?_<;>intro h
 ·refine sN<|sO<|cT<|EH Z Z<|sM Z<|sA Z<|sN<|EH Z Z<|sV (rI 3)<|sM Z<|sN<|WL.round<|gU Z<|sU<|sN<|qS ?_
  refine cF<|qX<|qE<|EK Z Z<|sV (.d (bB.pd c))<|sV (.d (bB.pd a))<|sB (.ptr 144 0) 144 (.var [r0,r0,r0])<|sB (.ptr 160 0) 160 (.var [r0,r0,r0])<|sS 144 (.var [rI c.a0,rI c.a1,rI c.a2])<|sS 160 (.var [rI a.a0,rI a.a1,rI a.a2]) ?_
  refine sN<|sO<|EK Z Z<|mM Z<|sV (.ptr 80 2)<|sL Z<|sM Z<|sV (.ptr 96 2)<|sL Z<|bE h fun g C h=>cD (ce C)<|sV (.ptr 144 2)<|sS 144 (.var [rI c.a0,rI c.a1,rI g]) ?_
  refine sN<|sO<|gU Z<|mM Z<|sV (.ptr 144 2)<|sL Z<|sV (rI (rW (g+(1:Int))))<|sV (.ptr 160 2)<|sS 160 (.var [rI a.a0,rI a.a1,rI (rW (g+(1:Int)))])<|sN<|EK Z Z<|sV (.ptr 16 0)<|sV (.d (aa.pd a0.bh))<|sV (.d (bB.pd (bB.mk c.a0 c.a1 g)))<|bE h fun p D h=>?_
  refine cD (ce D)<|sG (.d (ah.pd (ah.mk a0.bh p)))<|sV (.d (bB.pd (bB.mk a.a0 a.a1 (rW (g+(1:Int))))))<|bE h fun q E h=>cD (ce E)<|sV (.ptr 16 3)<|sV (.d (aa.pd a0.av))<|sG (.d (ah.pd (ah.mk q a0.av)))<|sH 32 (.var (aa.rc a0.bh++aa.rc p))<|sH 48 (.var (aa.rc q++aa.rc a0.av))<|sT ?_
  refine sN<|sO<|qR ?_
  cases oI h
  exact qG
 refine sN<|sO<|cF<|qK<|EH Z Z<|sV (rI 3)<|sM Z<|sN<|WL.round<|gU Z<|sU<|sN<|qS<|cF<|qX<|qE ?_
 refine EK Z Z<|sV (.d (bB.pd c))<|sV (.d (bB.pd a))<|sB (.ptr 144 0) 144 (.var [r0,r0,r0])<|sB (.ptr 160 0) 160 (.var [r0,r0,r0])<|sS 144 (.var [rI c.a0,rI c.a1,rI c.a2])<|sS 160 (.var [rI a.a0,rI a.a1,rI a.a2]) ?_
 refine sN<|sO<|EK Z Z<|mM Z<|sV (.ptr 80 0)<|sL Z<|sM Z<|sV (.ptr 96 0)<|sL Z<|bE h fun j F h=>cD (ce F)<|sV (.ptr 144 0)<|sS 144 (.var [rI j,rI c.a1,rI c.a2]) ?_
 refine sN<|sO<|gU Z<|mM Z<|sV (.ptr 144 0)<|sL Z<|sV (rI (rW (j+(1:Int))))<|sV (.ptr 160 0)<|sS 160 (.var [rI (rW (j+(1:Int))),rI a.a1,rI a.a2])<|sN<|EK Z Z<|sV (.ptr 16 0)<|sV (.d (aa.pd a0.bh))<|sV (.d (bB.pd (bB.mk j c.a1 c.a2)))<|bE h fun t G h=>?_
 refine cD (ce G)<|sG (.d (ah.pd (ah.mk a0.bh t)))<|sV (.d (bB.pd (bB.mk (rW (j+(1:Int))) a.a1 a.a2)))<|bE h fun u H h=>cD (ce H)<|sV (.ptr 16 3)<|sV (.d (aa.pd a0.av))<|sG (.d (ah.pd (ah.mk u a0.av)))<|sH 32 (.var (aa.rc a0.bh++aa.rc t))<|sH 48 (.var (aa.rc u++aa.rc a0.av))<|sT ?_
 refine sN<|sO<|qR ?_
 cases oI h
 exact qG
instance {a0:ah}:CE prog bi ext (fP a0) 176 [.d (ah.pd a0)] [] fun r=>(.tup [.d (ah.pd r.1),.d (ah.pd r.2.1),rB r.2.2],[]):=⟨fun h=>oN h⟩
section
attribute [local irreducible] HM HU HF HB WO WC QS QB sR
instance {a0:ap}{a:ai}{e2:Int}{c:Int}{f:Bool}{g:al}{d1:(List ap)}:CE prog bi ext (mq a0 a e2 c f g d1) 315 [.ptr 0 11,.ifc 166 (.d (ap.pd a0))] [.var (ai.rc a++ .ref 1 0::rI e2::rI c::rB f::al.rc g),.arr 0 166 (d1.map ap.pd)] fun r=>(.tup [],[.var (ai.rc a++ .ref 1 1::rI e2::rI c::rB f::al.rc g),.arr 1 166 (r.map ap.pd)]):=⟨fun h=>Ev.au h Tryz.func315⟩
end
theorem heap_Pushq_ev{a0:ap}{a:ai}{e2:Int}{f:Int}{j:Bool}{k:al}{d1:(List ap)}{r:(List ap)}(h:jJ a0 a e2 f j k d1=some r):EvP prog bi ext 173 [.ifc 228 (.ptr 0 11),.ifc 166 (.d (ap.pd a0))] [.var (ai.rc a++ .ref 1 0::rI e2::rI f::rB j::al.rc k),.arr 0 166 (d1.map ap.pd)] (.tup [],[.var (ai.rc a++ .ref 1 1::rI e2::rI f::rB j::al.rc k),.arr 1 166 (r.map ap.pd)]):=by
 refine Ev.body Z Tryz.func173 Z Zk<|gU Z<|mM Z<|bE h fun t h1 h=>WO.Ag (g:=315) (args:=[.ptr 0 11,.ifc 166 (.d (ap.pd a0))]) (v:= .tup []) (u:=[(0,.var (ai.rc a++ .ref 1 1::rI e2::rI f::rB j::al.rc k)),(1,.arr 1 166 (t.map ap.pd))]) Z Z (by intro _;kernel_rfl) Z Z Z Z Z (ce h1) Z Z Z Z<|sN<|EH Z Z<|mM Z<|bE h fun l p h=>WO.wE (e:=162) (c:= .ptr 0 11) (vl:= .ref 1 1) (g:=311) (args:=[]) (v:=rI l) (u:=[ ]) Z Z (by intro _;kernel_rfl) Z Z Z Z Z Z (ce p) Z Z Z Z<|sV (rI (rW (l-(1:Int))))<|bE h fun x q h=>cR (.tup []) [(0,.var (ai.rc a++ .ref 1 1::rI e2::rI f::rB j::al.rc k)),(1,.arr 1 166 (x.map ap.pd))] (heap_up_ev q) ?_
 refine sN ?_
 cases oI h
 exact qG
instance {a0:ap}{a:ai}{e2:Int}{c:Int}{f:Bool}{g:al}{d1:(List ap)}:CE prog bi ext (jJ a0 a e2 c f g d1) 173 [.ifc 228 (.ptr 0 11),.ifc 166 (.d (ap.pd a0))] [.var (ai.rc a++ .ref 1 0::rI e2::rI c::rB f::al.rc g),.arr 0 166 (d1.map ap.pd)] fun r=>(.tup [],[.var (ai.rc a++ .ref 1 1::rI e2::rI c::rB f::al.rc g),.arr 1 166 (r.map ap.pd)]):=⟨fun h=>heap_Pushq_ev h⟩
section
attribute [local irreducible] HM HU HF HB WO WC QS QB sR
instance {a0:ah}{a:ai}{e2:Int}{c:Int}{f:Bool}{g:al}{d1:(List ap)}:CE prog bi ext (iE a0 a e2 c f g d1) 131 [.ptr 0 0,.d (ah.pd a0)] [.var (ai.rc a++ .ref 1 0::rI e2::rI c::rB f::al.rc g),.arr 0 166 (d1.map ap.pd)] fun r=>(rI r.1,[.var (ai.rc a++ .ref 1 1::rI r.2.1::rI c::rB f::al.rc g),.arr 1 166 (r.2.2.map ap.pd)]):=⟨fun h=>Ev.au h Tryz.func131⟩
instance {a:ai}{c:Int}{e2:Int}{f:Bool}{g:al}{d1:(List ap)}:CE prog bi ext (fw a c e2 f g d1) 133 [.ptr 0 0] [.var (ai.rc a++ .ref 1 0::rI c::rI e2::rB f::al.rc g),.arr 0 166 (d1.map ap.pd)] fun r=>(rI r.1,[.var (ai.rc a++ .ref 1 1::rI r.2.1::rI r.2.2.1::rB r.2.2.2.1::al.rc r.2.2.2.2.1),.arr 1 166 (r.2.2.2.2.2.map ap.pd)]):=⟨fun h=>Ev.au h Tryz.func133⟩
end
theorem ol{a0:ai}{a1:Int}{r:(Option bZ)×Int}(h:lZ a0 a1=some r):EvP prog bi ext 87 [.d (ai.pd a0),rI a1] [] (match r.1 with|none=>(.tup [.d (.raw (.pointer none)),rI r.2],[])|some t=>(.tup [.ptr 0 0,rI r.2],[.var (bZ.rc t)])):=by
 refine Ev.body Z Tryz.func87 Z Zk<|gU Z<|sB (.ptr 32 0) 32 (.var (ai.rc a0))<|sV (.d (.raw (.pointer none)))<|sV (r0)<|sN<|qS<|gU Z<|sV (.d (ai.pd a0))<|bE h fun J h1 h=>cD (ce h1)<|sA Z<|sN<|gU Z<|sM Z ?_
 refine sF h ?_ ?_<;>intro h
 ·refine sN<|cT<|gU Z<|sM Z<|sV (.d (.raw (.pointer none)))<|sA Z<|sN<|qR ?_
  cases oI h
  exact qG
 refine sN<|cF<|qK<|qS<|gU Z<|sM Z<|sF h ?_ ?_<;>intro h
 ·refine sN<|cT<|gU Z<|sV (.d (.raw (.pointer none)))<|sV (rI 2)<|sN<|qR ?_
  cases oI h
  exact qG
 refine sN<|cF<|qK<|gU Z<|sV (.d (ai.pd a0))<|sG (.agg (ai.rc a0++[.px,r0,r0,rB false,r0,r0,r0,r0,r0,r0,r0,r0,r0,r0,r0,r0]))<|sB (.ptr 304 0) 304 (.var (ai.rc a0++[.px,r0,r0,rB false,r0,r0,r0,r0,r0,r0,r0,r0,r0,r0,r0,r0]))<|sA Z<|sN<|qS<|gU Z<|sM Z<|sV (.ptr 32 0)<|sV (.d (ah.pd a0.bk))<|bE h fun q B h=>?_
 refine cR (rI q.1) [(304,.var (ai.rc a0++[.ref 368 0,rI q.2.2,r0,rB false,r0,r0,r0,r0,r0,r0,r0,r0,r0,r0,r0,r0])),(368,.arr 0 166 (q.2.1.map ap.pd))] (ce B)<|sA Z<|sN<|gU Z<|sM Z<|sF h ?_ ?_<;>intro h
 ·refine sN<|cT<|gU Z<|sM Z<|sV (.d (.raw (.pointer none)))<|sA Z<|sN<|qR ?_
  cases oI h
  exact qG
 refine sN<|cF<|qK<|qS<|bE h fun k c h=>EI (EJ (WL.qz c (fun s=>gI 0 87 10 [(1,rI a1),(7,.ptr 304 0)] [(304,.var (ai.rc a0++ .ref 368 0::rI s.1::rI s.2.1::rB s.2.2.1::al.rc s.2.2.2.1)),(368,.arr 0 166 (s.2.2.2.2.map ap.pd))]) (fun o=>match o with| .inl y=>gX 0 0 87 14 [(7,.ptr 304 0)] [(304,.var (ai.rc a0++rM ap.pd y.1::rI y.2.1::rI y.2.2.1::rB y.2.2.2.1::al.rc y.2.2.2.2))]| .inr r=>gF 87 Tryz.f87 0 (match r.1 with|none=>(.tup [.d (.raw (.pointer none)),rI r.2],[])|some t=>(.tup [.ptr 0 0,rI r.2],[.var (bZ.rc t)]))) Z ?_ ?_))
 ·rintro⟨E,F,G,H,l⟩ z x C j h
  unfold cu at h
  refine qS<|gS Z j<|mM Z<|bE h fun p f h=>cR (rB p) [(304,.var (ai.rc a0++ .ref 368 0::rI E::rI F::rB G::al.rc H)),(368,.arr 0 166 (l.map ap.pd))] (ce f)<|sF h ?_ ?_<;>intro h
  ·refine sN<|cT<|qK<|qB<|gU Z<|sM Z<|bE h fun a g h=>cR (rI a.1) [(304,.var (ai.rc a0++ .ref 368 1::rI a.2.1::rI a.2.2.1::rB a.2.2.2.1::al.rc a.2.2.2.2.1)),(368,.arr 1 166 (a.2.2.2.2.2.map ap.pd))] (ce g)<|sA Z<|sN<|gU Z<|sM Z<|sF h ?_ ?_<;>intro h
   ·refine sN<|cT<|gU Z<|sM Z<|sV (.d (.raw (.pointer none)))<|sA Z<|sN<|qR ?_
    cases oI h
    exact⟨nofun,rfl,rfl⟩
   refine sN<|cF<|qK ?_
   cases oI h
   exact⟨rfl,rfl⟩
  refine sN<|cF<|qX ?_
  cases oI h
  exact⟨nofun,rfl,rfl⟩
 intro e z x he u
 rcases k with I|D
 ·obtain⟨rfl,j⟩:=u
  refine qE<|gS Z j<|sM Z<|sA Z<|sV (r0)<|sN<|qR ?_
  cases oI h
  exact qG
 obtain⟨rfl,hf⟩:=u
 cases oI h
 exact hf
theorem locate_run_evN{a0:ai}{a1:Int}{r:(Option bZ)×Int}(h:lZ a0 a1=some r)(ho:r.1=none):EvP prog bi ext 87 [.d (ai.pd a0),rI a1] [] (.tup [.d (.raw (.pointer none)),rI r.2],[]):=by
  have:=ol h;rw [ho]at this;exact this
theorem locate_run_evS{a0:ai}{a1:Int}{r:(Option bZ)×Int}{a:bZ}(h:lZ a0 a1=some r)(ho:r.1=some a):EvP prog bi ext 87 [.d (ai.pd a0),rI a1] [] (.tup [.ptr 0 0,rI r.2],[.var (bZ.rc a)]):=by
  have:=ol h;rw [ho]at this;exact this
section
attribute [local irreducible] HM HU HF HB WO WC QS QB sR
instance {a0:ah}{a1:ah}:CE prog bi ext (kZ a0 a1) 88 [.d (ah.pd a0),.d (ah.pd a1)] [] fun r=>(.d (ah.pd r),[]):=⟨fun h=>Ev.au h Tryz.func88⟩
end
theorem locate_Locate_ev{a0:ai}{a1:Int}{r:al×Int}(h:jj a0 a1=some r):EvP prog bi ext 51 [.d (ai.pd a0),rI a1] [] (.tup [.d (al.pd r.1),rI r.2],[]):=by
 refine Ev.body Z Tryz.func51 Z Zk<|gU Z<|sB (.ptr 32 0) 32 (.var (ai.rc a0))<|sB (.ptr 64 0) 64 (.var zZ0)<|sV (r0)<|sN<|gU Z<|sV (.d (ai.pd a0))<|sM Z<|bE h fun l h1 h=>opt_elim h (fun g h=>?_) (fun a g h=>?_)
 ·refine cR (.tup [.d (.raw (.pointer none)),rI l.2]) [] (locate_run_evN h1 g)<|sM Z<|sV (.d (.raw (.pointer none)))<|sV (rI l.2)<|sA Z<|sA Z<|sN<|qS<|gU Z<|sM Z<|sF h ?_ ?_<;>intro h
  ·refine sN<|cT<|gU Z<|sG (.d (al.pd (al.mk (aa.mk 0 0 0) 0 0 0 (ah.mk (aa.mk 0 0 0) (aa.mk 0 0 0)))))<|sM Z<|sH 64 (.var zZ0)<|sA Z<|sN<|qR ?_
   cases oI h
   exact qG
  refine sN<|cF<|qK<|gU Z<|sM Z ?_
  cases h
 refine cR (.tup [.ptr 224 0,rI l.2]) [(224,.var (bZ.rc a))] (locate_run_evS h1 g)<|sM Z<|sV (.ptr 224 0)<|sV (rI l.2)<|sA Z<|sA Z<|sN<|qS<|gU Z<|sM Z<|sF h ?_ ?_<;>intro h
 ·refine sN<|cT<|gU Z<|sG (.d (al.pd (al.mk (aa.mk 0 0 0) 0 0 0 (ah.mk (aa.mk 0 0 0) (aa.mk 0 0 0)))))<|sM Z<|sH 64 (.var zZ0)<|sA Z<|sN<|qR ?_
  cases oI h
  exact qG
 refine sN<|cF<|qK<|gU Z<|sM Z<|sV (.ptr 224 0)<|sV (.ptr 224 15)<|sV (.d (al.pd a.cg))<|sB (.ptr 128 0) 128 (.var zZ0)<|sH 128 (.var (al.rc a.cg))<|sN<|gU Z<|sV (.ptr 128 4)<|sL Z<|sV (.ptr 128 0) ?_
 refine sV (.d (aa.pd a.cg.b7))<|sV (.ptr 128 0)<|sV (.d (aa.pd a.cg.b7))<|sG (.d (ah.pd (ah.mk a.cg.b7 a.cg.b7)))<|sV (.ptr 128 5)<|sS 128 (.var (aa.rc a.cg.b7++rI a.cg.cb::rI a.cg.ci::rI a.cg.ci::ah.rc a.cg.bX))<|sV (.ptr 128 6)<|sH 128 (.var (aa.rc a.cg.b7++rI a.cg.cb::rI a.cg.ci::rI a.cg.ci::aa.rc a.cg.b7++aa.rc a.cg.b7))<|sN<|qS<|gU Z<|sM Z<|sV (.ptr 224 0)<|sV (.ptr 224 11)<|sL Z ?_
 refine sE (rI (a.lV.length:Int)) (qy _ _)<|sV (r0)<|sN<|bE h fun c k h=>EI (EJ (WL.qz k (fun s=>gI 0 51 7 [(4,.ptr 64 0),(8,.ptr 128 0),(37,rM ap.pd a.lV),(38,rI (a.lV.length:Int)),(39,rI s.1)] [(64,.var zZ0),(128,.var (aa.rc a.cg.b7++rI a.cg.cb::rI a.cg.ci::rI s.2.1::ah.rc s.2.2))]) (fun o=>gX 0 0 51 13 [(4,.ptr 64 0),(8,.ptr 128 0)] [(64,.var zZ0),(128,.var (aa.rc a.cg.b7++rI a.cg.cb::rI a.cg.ci::rI o.1::ah.rc o.2))]) Z ?_ ?_))
 ·rintro⟨x,j,y⟩ B z D t h
  refine gS Z t<|sF h ?_ ?_<;>intro h
  ·refine sN<|qS<|cT<|qK<|qS<|qB<|gU Z<|bE h fun f p h=>eG p Z<|sV (.d (ap.pd f))<|sB (.ptr 160 0) 160 (.var [r0,r0,r0,r0,r0,r0,r0,r0])<|sH 160 (.var (ap.rc f))<|sN<|gU Z<|sV (.ptr 128 5) ?_
   refine sL Z<|sV (.ptr 160 6)<|sL Z<|sV (rI (if f.bY<j then f.bY else j))<|sV (.ptr 128 5)<|sS 128 (.var (aa.rc a.cg.b7++rI a.cg.cb::rI a.cg.ci::rI (if f.bY<j then f.bY else j)::ah.rc y))<|sN<|gU Z<|sV (.ptr 160 6)<|sL Z<|sV (.ptr 128 4)<|sL Z<|sF h ?_ ?_<;>intro h
   ·refine sN<|cT<|EH Z Z<|sV (.ptr 128 6)<|sV (.d (ah.pd y))<|sV (.ptr 160 0)<|sV (.d (ah.pd f.dC))<|bE h fun u q h=>cD (ce q)<|sV (.ptr 128 6)<|sH 128 (.var (aa.rc a.cg.b7++rI a.cg.cb::rI a.cg.ci::rI (if f.bY<j then f.bY else j)::ah.rc u))<|sN<|EH Z Z<|sV (rI (rW (x+(1:Int))))<|sM Z ?_
    refine sN ?_
    cases oI h
    exact⟨rfl,rfl⟩
   refine sN<|cF<|qK<|EH Z Z<|sV (rI (rW (x+(1:Int))))<|sM Z<|sN ?_
   cases oI h
   exact⟨rfl,rfl⟩
  refine sN<|qS<|cF<|qX ?_
  cases oI h
  exact⟨nofun,rfl,rfl⟩
 intro e B z he C
 obtain⟨rfl,t⟩:=C
 refine qE<|gS Z t<|sV (.d (al.pd (al.mk a.cg.b7 a.cg.cb a.cg.ci c.1 (ah.mk (aa.mk c.2.bh.fX c.2.bh.fY c.2.bh.fZ) (aa.mk c.2.av.fX c.2.av.fY c.2.av.fZ)))))<|sH 64 (.var (aa.rc a.cg.b7++rI a.cg.cb::rI a.cg.ci::rI c.1::ah.rc c.2))<|sV (r0)<|sN<|qR ?_
 cases oI h
 exact qG
instance {a0:ai}{a1:Int}:CE prog bi ext (jj a0 a1) 51 [.d (ai.pd a0),rI a1] [] fun r=>(.tup [.d (al.pd r.1),rI r.2],[]):=⟨fun h=>locate_Locate_ev h⟩
section
attribute [local irreducible] HM HU HF HB WO WC QS QB sR
instance :LI (eL) 4 (fun s=>[(0,rI s.1)]) (fun s=>[(240,.arr 0 3 (s.2.map (PD.int .i64)))]) (jX 7 (fun o=>[]) fun o=>[(240,.arr 0 3 (o.map (PD.int .i64)))]):=⟨⟩
instance {a0:Int}:CE prog bi ext (oS a0) 284 [rI a0] [] fun r=>(.tup [rL r.1,rI r.2],[]):=⟨fun h=>Ev.au h Tryz.func284⟩
instance {a0:Int}:CE prog bi ext (l5 a0) 269 [rI a0] [] fun r=>(rB r,[]):=⟨fun h=>Ev.au h Tryz.func269⟩
instance {a0:(List Int)}:LI (ej a0) 2 (fun s=>[(8,rI s)]) (fun s=>[]) (jY 7 (fun y=>[]) (fun y=>[]) Tryz.f289 fun r=>(rI r,[])):=⟨⟩
instance {a0:(List Int)}:CE prog bi ext (eX a0) 289 [rL a0,.d (.raw (.func (.func 269) #[] #[]))] [] fun r=>(rI r,[]):=⟨fun h=>Ev.au h Tryz.func289⟩
instance {a0:(List Int)}:CE prog bi ext (cQ a0) 268 [rL a0,.d (.raw (.func (.func 269) #[] #[]))] [] fun r=>(rB r,[]):=⟨fun h=>Ev.au h Tryz.func268⟩
instance {a0:(List Int)}:CE prog bi ext (jN a0) 233 [rL a0] [] fun r=>(rB r,[]):=⟨fun h=>Ev.au h Tryz.func233⟩
instance {a0:(List Int)}{a1:(List Int)}:CE prog bi ext (nH a0 a1) 293 [rL a0,rL a1] [] fun r=>(rB r,[]):=⟨fun h=>Ev.au h Tryz.func293⟩
instance {a0:(List Int)}{a1:Int}:CE prog bi ext (iR a0 a1) 288 [rL a0,rI a1] [] fun r=>(rI r,[]):=⟨fun h=>Ev.au h Tryz.func288⟩
instance :LI (lm) 1 (fun s=>[(0,rL s)]) (fun s=>[]) (jX 3 (fun o=>[(0,rL o)]) fun o=>[]):=⟨⟩
instance {a0:(List Int)}:CE prog bi ext (gJ a0) 287 [rL a0] [] fun r=>(rL r,[]):=⟨fun h=>Ev.au h Tryz.func287⟩
instance {a0:(List Int)}{a1:(List Int)}:LI (dG a0 a1) 3 (fun s=>[(18,rI s.1)]) (fun s=>[(240,.arr 0 3 (s.2.map (PD.int .i64)))]) (jX 15 (fun o=>[]) fun o=>[(240,.arr 0 3 (o.map (PD.int .i64)))]):=⟨⟩
instance {a1:(List Int)}{s2:Int}{a:Int}:LI (dm a1 s2 a) 7 (fun s=>[(8,rI s.1),(26,rI s.2.1)]) (fun s=>[(240,.arr 0 3 (s.2.2.map (PD.int .i64)))]) (jX 14 (fun o=>[(18,rI o.1)]) fun o=>[(240,.arr 0 3 (o.2.map (PD.int .i64)))]):=⟨⟩
instance {a0:(List Int)}{a1:(List Int)}:CE prog bi ext (gB a0 a1) 267 [rL a0,rL a1] [] fun r=>(rL r,[]):=⟨fun h=>Ev.au h Tryz.func267⟩
instance {a0:(List Int)}:CE prog bi ext (fq a0) 266 [rL a0] [] fun r=>(.tup [rL r.1,rI r.2],[]):=⟨fun h=>Ev.au h Tryz.func266⟩
instance {a0:(List Int)}{a1:(List Int)}:CE prog bi ext (nat_Mul a0 a1) 285 [rL a0,rL a1] [] fun r=>(.tup [rL r.1,rI r.2],[]):=⟨fun h=>Ev.au h Tryz.func285⟩
instance {a0:Int}:CE prog bi ext (dz a0) 263 [rI a0] [] fun r=>(rL r,[]):=⟨fun h=>Ev.au h Tryz.func263⟩
instance {a1:(List Int)}{a0:(List Int)}:LI (fm a1 a0) 6 (fun s=>[(7,rI s.1),(19,rI s.2.1)]) (fun s=>[(560,.arr 0 3 (s.2.2.map (PD.int .i64)))]) (jX 12 (fun o=>[]) fun o=>[(560,.arr 0 3 (o.map (PD.int .i64)))]):=⟨⟩
instance {a0:(List Int)}{a1:(List Int)}:CE prog bi ext (nat_Add a0 a1) 286 [rL a0,rL a1] [] fun r=>(.tup [rL r.1,rI r.2],[]):=⟨fun h=>Ev.au h Tryz.func286⟩
instance {a0:bB}{a1:Int}{a2:Int}:CE prog bi ext (gd a0 a1 a2) 264 [.d (bB.pd a0),rI a1,rI a2] [] fun r=>(rL r,[]):=⟨fun h=>Ev.au h Tryz.func264⟩
instance {a0:bq}{a1:Int}{a2:Int}:CE prog bi ext (lf a0 a1 a2) 231 [.d (bq.pd a0),rI a1,rI a2] [] fun r=>(.tup [.d (bo.pd r.1),rB r.2],[]):=⟨fun h=>Ev.au h Tryz.func231⟩
instance {a0:bo}:CE prog bi ext (fo a0) 265 [.d (bo.pd a0)] [] fun r=>(rB r,[]):=⟨fun h=>Ev.au h Tryz.func265⟩
instance {a0:bo}{a1:bo}:CE prog bi ext (n9 a0 a1) 232 [.d (bo.pd a0),.d (bo.pd a1)] [] fun r=>(.tup [.d (bo.pd r.1),rI r.2],[]):=⟨fun h=>Ev.au h Tryz.func232⟩
instance {a0:bp}{a1:Int}{a2:Int}:LI (dv a0 a1 a2) 7 (fun s=>[(33,rI s.1)]) (fun s=>[(128,.var [rL s.2.1,rL s.2.2])]) (jY 17 (fun y=>[]) (fun y=>[(128,.var [rL y.1,rL y.2])]) Tryz.f177 fun r=>(.tup [.d (bo.pd r.1),rI r.2],[])):=⟨⟩
instance {a0:bp}{a1:Int}{a2:Int}:CE prog bi ext (ld a0 a1 a2) 177 [.d (bp.pd a0),rI a1,rI a2] [] fun r=>(.tup [.d (bo.pd r.1),rI r.2],[]):=⟨fun h=>Ev.au h Tryz.func177⟩
end
theorem og{a0:Int}{a1:Int}{r:Int}(h:dj a0 a1=some r):EvP prog bi ext 234 [rI a0,rI a1] [] (rI r,[]):=by
 refine Ev.body Z Tryz.func234 Z Zk<|gU Z<|sV (r0)<|sN<|gU Z<|sV (r0)<|sN<|qS<|gU Z<|sV (r0)<|sN<|EI (EJ ?_)
 refine WL.round<|gU Z<|sT<|sN<|qS<|cT<|qK<|EM (α:=Int×Int) (fun x c a=>pK prog 0 (A c a) (bi.at_ 234 0 9)=some (A [(0,rI a0),(1,rI x.1),(5,rI x.2),(6,r0)] [])) (fun x=>cO a0 x.1 x.2=some r) ?_ ?_
 ·refine qB<|gU Z<|mM Z<|sV (rI (rW (a1*a1)))<|sV (rI (pJ .i64 (rW (a1*a1)) (30:Int)))<|sA Z<|sN<|gU Z<|sM Z<|sV (r0)<|sA Z<|sN<|gU Z<|sM Z ?_
  refine sF h ?_ ?_<;>intro h
  ·exact sN<|cT<|gS rfl rfl<|sM rfl<|bE h fun a7 N h=>WO.quoG N rfl rfl rfl rfl rfl rfl<|sA rfl<|sN<|EH rfl rfl<|sM rfl<|sV (rI 1)<|sA rfl<|sN<|⟨(a7,1),rfl,h⟩
  exact sN<|cF<|qK<|⟨((pJ .i64 (rW (a1*a1)) (30:Int)),0),rfl,h⟩
 rintro⟨q,B⟩ c a f h
 refine EH f Z<|sV (rI 1)<|sM Z<|sN<|WL.round<|gU Z<|sT<|sN<|qS<|cT<|qK<|EM (α:=Int×Int) (fun x c a=>pK prog 0 (A c a) (bi.at_ 234 0 9)=some (A [(0,rI a0),(1,rI x.1),(5,rI x.2),(6,rI 1)] [])) (fun x=>cN a0 x.1 x.2=some r) ?_ ?_
 ·refine qB<|gU Z<|mM Z<|sV (rI (rW (q*q)))<|sV (rI (pJ .i64 (rW (q*q)) (30:Int)))<|sA Z<|sN<|gU Z<|sM Z<|sV (rI (rW (B*(2:Int))))<|sA Z<|sN<|gU Z<|sM Z ?_
  refine sF h ?_ ?_<;>intro h
  ·exact sN<|cT<|gS rfl rfl<|sM rfl<|bE h fun a6 L h=>WO.quoG L rfl rfl rfl rfl rfl rfl<|sA rfl<|sN<|EH rfl rfl<|sM rfl<|sV (rI (rW ((rW (B*(2:Int)))+(1:Int))))<|sA rfl<|sN<|⟨(a6,(rW ((rW (B*(2:Int)))+(1:Int)))),rfl,h⟩
  exact sN<|cF<|qK<|⟨((pJ .i64 (rW (q*q)) (30:Int)),(rW (B*(2:Int)))),rfl,h⟩
 rintro⟨t,C⟩ c a f h
 refine EH f Z<|sV (rI 2)<|sM Z<|sN<|WL.round<|gU Z<|sT<|sN<|qS<|cT<|qK<|EM (α:=Int×Int) (fun x c a=>pK prog 0 (A c a) (bi.at_ 234 0 9)=some (A [(0,rI a0),(1,rI x.1),(5,rI x.2),(6,rI 2)] [])) (fun x=>cM a0 x.1 x.2=some r) ?_ ?_
 ·refine qB<|gU Z<|mM Z<|sV (rI (rW (t*t)))<|sV (rI (pJ .i64 (rW (t*t)) (30:Int)))<|sA Z<|sN<|gU Z<|sM Z<|sV (rI (rW (C*(2:Int))))<|sA Z<|sN<|gU Z<|sM Z ?_
  refine sF h ?_ ?_<;>intro h
  ·exact sN<|cT<|gS rfl rfl<|sM rfl<|bE h fun a5 K h=>WO.quoG K rfl rfl rfl rfl rfl rfl<|sA rfl<|sN<|EH rfl rfl<|sM rfl<|sV (rI (rW ((rW (C*(2:Int)))+(1:Int))))<|sA rfl<|sN<|⟨(a5,(rW ((rW (C*(2:Int)))+(1:Int)))),rfl,h⟩
  exact sN<|cF<|qK<|⟨((pJ .i64 (rW (t*t)) (30:Int)),(rW (C*(2:Int)))),rfl,h⟩
 rintro⟨u,D⟩ c a f h
 refine EH f Z<|sV (rI 3)<|sM Z<|sN<|WL.round<|gU Z<|sT<|sN<|qS<|cT<|qK<|EM (α:=Int×Int) (fun x c a=>pK prog 0 (A c a) (bi.at_ 234 0 9)=some (A [(0,rI a0),(1,rI x.1),(5,rI x.2),(6,rI 3)] [])) (fun x=>cL a0 x.1 x.2=some r) ?_ ?_
 ·refine qB<|gU Z<|mM Z<|sV (rI (rW (u*u)))<|sV (rI (pJ .i64 (rW (u*u)) (30:Int)))<|sA Z<|sN<|gU Z<|sM Z<|sV (rI (rW (D*(2:Int))))<|sA Z<|sN<|gU Z<|sM Z ?_
  refine sF h ?_ ?_<;>intro h
  ·exact sN<|cT<|gS rfl rfl<|sM rfl<|bE h fun Y J h=>WO.quoG J rfl rfl rfl rfl rfl rfl<|sA rfl<|sN<|EH rfl rfl<|sM rfl<|sV (rI (rW ((rW (D*(2:Int)))+(1:Int))))<|sA rfl<|sN<|⟨(Y,(rW ((rW (D*(2:Int)))+(1:Int)))),rfl,h⟩
  exact sN<|cF<|qK<|⟨((pJ .i64 (rW (u*u)) (30:Int)),(rW (D*(2:Int)))),rfl,h⟩
 rintro⟨y,E⟩ c a f h
 refine EH f Z<|sV (rI 4)<|sM Z<|sN<|WL.round<|gU Z<|sT<|sN<|qS<|cT<|qK<|EM (α:=Int×Int) (fun x c a=>pK prog 0 (A c a) (bi.at_ 234 0 9)=some (A [(0,rI a0),(1,rI x.1),(5,rI x.2),(6,rI 4)] [])) (fun x=>cK a0 x.1 x.2=some r) ?_ ?_
 ·refine qB<|gU Z<|mM Z<|sV (rI (rW (y*y)))<|sV (rI (pJ .i64 (rW (y*y)) (30:Int)))<|sA Z<|sN<|gU Z<|sM Z<|sV (rI (rW (E*(2:Int))))<|sA Z<|sN<|gU Z<|sM Z ?_
  refine sF h ?_ ?_<;>intro h
  ·exact sN<|cT<|gS rfl rfl<|sM rfl<|bE h fun X I h=>WO.quoG I rfl rfl rfl rfl rfl rfl<|sA rfl<|sN<|EH rfl rfl<|sM rfl<|sV (rI (rW ((rW (E*(2:Int)))+(1:Int))))<|sA rfl<|sN<|⟨(X,(rW ((rW (E*(2:Int)))+(1:Int)))),rfl,h⟩
  exact sN<|cF<|qK<|⟨((pJ .i64 (rW (y*y)) (30:Int)),(rW (E*(2:Int)))),rfl,h⟩
 rintro⟨z,k⟩ c a f h
 refine EH f Z<|sV (rI 5)<|sM Z<|sN<|WL.round<|gU Z<|sT<|sN<|qS<|cT<|qK<|EM (α:=Int×Int) (fun x c a=>pK prog 0 (A c a) (bi.at_ 234 0 9)=some (A [(0,rI a0),(1,rI x.1),(5,rI x.2),(6,rI 5)] [])) (fun x=>cJ a0 x.1 x.2=some r) ?_ ?_
 ·refine qB<|gU Z<|mM Z<|sV (rI (rW (z*z)))<|sV (rI (pJ .i64 (rW (z*z)) (30:Int)))<|sA Z<|sN<|gU Z<|sM Z<|sV (rI (rW (k*(2:Int))))<|sA Z<|sN<|gU Z<|sM Z ?_
  refine sF h ?_ ?_<;>intro h
  ·exact sN<|cT<|gS rfl rfl<|sM rfl<|bE h fun W H h=>WO.quoG H rfl rfl rfl rfl rfl rfl<|sA rfl<|sN<|EH rfl rfl<|sM rfl<|sV (rI (rW ((rW (k*(2:Int)))+(1:Int))))<|sA rfl<|sN<|⟨(W,(rW ((rW (k*(2:Int)))+(1:Int)))),rfl,h⟩
  exact sN<|cF<|qK<|⟨((pJ .i64 (rW (z*z)) (30:Int)),(rW (k*(2:Int)))),rfl,h⟩
 rintro⟨g,l⟩ c a f h
 refine EH f Z<|sV (rI 6)<|sM Z<|sN<|WL.round<|gU Z<|sT<|sN<|qS<|cT<|qK<|EM (α:=Int×Int) (fun x c a=>pK prog 0 (A c a) (bi.at_ 234 0 9)=some (A [(0,rI a0),(1,rI x.1),(5,rI x.2),(6,rI 6)] [])) (fun x=>cH a0 x.1 x.2=some r) ?_ ?_
 ·refine qB<|gU Z<|mM Z<|sV (rI (rW (g*g)))<|sV (rI (pJ .i64 (rW (g*g)) (30:Int)))<|sA Z<|sN<|gU Z<|sM Z<|sV (rI (rW (l*(2:Int))))<|sA Z<|sN<|gU Z<|sM Z ?_
  refine sF h ?_ ?_<;>intro h
  ·exact sN<|cT<|gS rfl rfl<|sM rfl<|bE h fun T G h=>WO.quoG G rfl rfl rfl rfl rfl rfl<|sA rfl<|sN<|EH rfl rfl<|sM rfl<|sV (rI (rW ((rW (l*(2:Int)))+(1:Int))))<|sA rfl<|sN<|⟨(T,(rW ((rW (l*(2:Int)))+(1:Int)))),rfl,h⟩
  exact sN<|cF<|qK<|⟨((pJ .i64 (rW (g*g)) (30:Int)),(rW (l*(2:Int)))),rfl,h⟩
 rintro⟨j,p⟩ c a f h
 refine EH f Z<|sV (rI 7)<|sM Z<|sN<|WL.round<|gU Z<|sT<|sN<|qS<|cT<|qK<|EM (α:=Int×Int) (fun x c a=>pK prog 0 (A c a) (bi.at_ 234 0 9)=some (A [(0,rI a0),(1,rI x.1),(5,rI x.2),(6,rI 7)] [])) (fun x=>df a0 x.1 x.2=some r) ?_ ?_
 ·refine qB<|gU Z<|mM Z<|sV (rI (rW (j*j)))<|sV (rI (pJ .i64 (rW (j*j)) (30:Int)))<|sA Z<|sN<|gU Z<|sM Z<|sV (rI (rW (p*(2:Int))))<|sA Z<|sN<|gU Z<|sM Z ?_
  refine sF h ?_ ?_<;>intro h
  ·exact sN<|cT<|gS rfl rfl<|sM rfl<|bE h fun Q F h=>WO.quoG F rfl rfl rfl rfl rfl rfl<|sA rfl<|sN<|EH rfl rfl<|sM rfl<|sV (rI (rW ((rW (p*(2:Int)))+(1:Int))))<|sA rfl<|sN<|⟨(Q,(rW ((rW (p*(2:Int)))+(1:Int)))),rfl,h⟩
  exact sN<|cF<|qK<|⟨((pJ .i64 (rW (j*j)) (30:Int)),(rW (p*(2:Int)))),rfl,h⟩
 rintro⟨a8,O⟩ c a f h
 refine EH f Z<|sV (rI 8)<|sM Z<|sN<|WL.round<|gU Z<|sU<|sN<|qS<|cF<|qX<|qE<|gU Z<|sM Z<|sV (rI (rW ((256:Int)*a0))) ?_
 refine sM Z<|sV (rI (rW ((rW ((256:Int)*a0))+O)))<|sA Z<|sN<|qR ?_
 exact oI h▸qD
instance {a0:Int}{a1:Int}:CE prog bi ext (dj a0 a1) 234 [rI a0,rI a1] [] fun r=>(rI r,[]):=⟨fun h=>og h⟩
section
attribute [local irreducible] HM HU HF HB WO WC QS QB sR
instance {a0:Int}:CE prog bi ext (eK a0) 179 [rI a0] [] fun r=>(.tup [rI r.1,rI r.2],[]):=⟨fun h=>Ev.au h Tryz.func179⟩
instance {a0:(List Int)}:CE prog bi ext (dV a0) 178 [rL a0] [] fun r=>(.tup [rI r.1,rI r.2],[]):=⟨fun h=>Ev.au h Tryz.func178⟩
instance {a0:bC}{a1:bp}{a2:Int}:CE prog bi ext (kF a0 a1 a2) 135 [.d (bC.pd a0),.d (bp.pd a1),rI a2] [] fun r=>(.tup [rI r.1,rI r.2],[]):=⟨fun h=>Ev.au h Tryz.func135⟩
instance {a0:Int}:CE prog bi ext (ip a0) 138 [rI a0] [] fun r=>(rI r,[]):=⟨fun h=>Ev.au h Tryz.func138⟩
instance {a0:Int}:CE prog bi ext (kD a0) 185 [rI a0] [] fun r=>(.tup [rI r.1,rB r.2],[]):=⟨fun h=>Ev.au h Tryz.func185⟩
instance {a0:Int}:CE prog bi ext (gG a0) 137 [rI a0] [] fun r=>(rI r,[]):=⟨fun h=>Ev.au h Tryz.func137⟩
instance {a0:Int}:CE prog bi ext (kc a0) 139 [rI a0] [] fun r=>(rI r,[]):=⟨fun h=>Ev.au h Tryz.func139⟩
instance {a0:bC}{a1:bp}{a2:Int}{a3:Int}{a4:Int}:CE prog bi ext (ib a0 a1 a2 a3 a4) 89 [.d (bC.pd a0),.d (bp.pd a1),rI a2,rI a3,rI a4] [] fun r=>(.tup [.d (az.pd r.1),rI r.2],[]):=⟨fun h=>Ev.au h Tryz.func89⟩
instance {a0:bP}{a2:ah}{a1:aj}:LI (dl a0 a2 a1) 3 (fun s=>[(15,rI s.1)]) (fun s=>[(816,.arr 0 52 (s.2.map az.pd))]) (jX 9 (fun o=>[]) fun o=>[(816,.arr 0 52 (o.map az.pd))]):=⟨⟩
instance {a0:bP}{a1:aj}{a2:ah}:CE prog bi ext (gA a0 a1 a2) 52 [.d (bP.pd a0),.d (aj.pd a1),.d (ah.pd a2)] [] fun r=>(rM az.pd r,[]):=⟨fun h=>Ev.au h Tryz.func52⟩
instance {a0:az}:CE prog bi ext (gz a0) 93 [.d (az.pd a0)] [] fun r=>(rB r,[]):=⟨fun h=>Ev.au h Tryz.func93⟩
instance {a0:(List az)}:LI (cX a0) 2 (fun s=>[(8,rI s)]) (fun s=>[]) (jY 7 (fun y=>[]) (fun y=>[]) Tryz.f143 fun r=>(rI r,[])):=⟨⟩
instance {a0:(List az)}:CE prog bi ext (d6 a0) 143 [rM az.pd a0,.d (.raw (.func (.func 93) #[] #[]))] [] fun r=>(rI r,[]):=⟨fun h=>Ev.au h Tryz.func143⟩
instance {a0:(List az)}:CE prog bi ext (cW a0) 92 [rM az.pd a0,.d (.raw (.func (.func 93) #[] #[]))] [] fun r=>(rB r,[]):=⟨fun h=>Ev.au h Tryz.func92⟩
instance {a0:az}:CE prog bi ext (kd a0) 95 [.d (az.pd a0)] [] fun r=>(rI r,[]):=⟨fun h=>Ev.au h Tryz.func95⟩
instance {a0:(List az)}:LI (d8 a0) 3 (fun s=>[(10,rI s.1)]) (fun s=>[(304,.arr 0 3 (s.2.map (PD.int .i64)))]) (jX 7 (fun o=>[]) fun o=>[(304,.arr 0 3 (o.map (PD.int .i64)))]):=⟨⟩
instance {a0:(List az)}:CE prog bi ext (hJ a0) 94 [rM az.pd a0,.d (.raw (.func (.func 95) #[] #[]))] [] fun r=>(rI r,[]):=⟨fun h=>Ev.au h Tryz.func94⟩
instance {a0:az}:CE prog bi ext (ke a0) 96 [.d (az.pd a0)] [] fun r=>(rI r,[]):=⟨fun h=>Ev.au h Tryz.func96⟩
instance {a0:(List az)}:LI (d9 a0) 3 (fun s=>[(10,rI s.1)]) (fun s=>[(304,.arr 0 3 (s.2.map (PD.int .i64)))]) (jX 7 (fun o=>[]) fun o=>[(304,.arr 0 3 (o.map (PD.int .i64)))]):=⟨⟩
instance {a0:(List az)}:CE prog bi ext (hM a0) 94 [rM az.pd a0,.d (.raw (.func (.func 96) #[] #[]))] [] fun r=>(rI r,[]):=⟨fun h=>Ev.au h Tryz.func94⟩
instance {a0:(List az)}:CE prog bi ext (hZ a0) 53 [rM az.pd a0] [] fun r=>(.tup [.d (az.pd r.1),rI r.2],[]):=⟨fun h=>Ev.au h Tryz.func53⟩
instance {a0:aj}{a1:ac}{a2:(List ak)}:CE prog bi ext (ky a0 a1 a2) 19 [.d (aj.pd a0),.d (ac.pd a1),rM ak.pd a2] [] fun r=>(.tup [.d (bu.pd r.1),rI r.2],[]):=⟨fun h=>Ev.au h Tryz.func19⟩
end
end Go.Dw.Ss
