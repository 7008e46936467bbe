
import Derived.Test.YtikangmionpjfaaGreatDwOp
set_option linter.unusedVariables false
set_option linter.unusedSimpArgs false
open Option.some renaming injEq->B7
open Prod.mk renaming injEq->B9
open List renaming cons_append->D6, getD_eq_getElem?_getD->D7, getElem?_append_left->CM, length_append->DA, length_singleton->D8, map_cons->DW
open Array renaming mem_append->D9

namespace Go.Dw
def Lc{α:Type}(m:M α):Prop:=∀b b' a r c,m b=some (a,r,c)->(∀id∈r,b' id=b id)->m b'=some (a,r,c)
theorem Lc.pure{α:Type}(a:α):Lc (M.pure a):=fun _ _ _ _ _ h _=>h
theorem Lc.py{α:Type}(k:Bool)(a:α):Lc (M.py k a):=fun _ _ _ _ _ h _=>h
theorem Lc.fail{α:Type}:Lc (M.fail:M α):=fun _ _ _ _ _ h _=>h
theorem Lc.get(id:Nat):Lc (M.get id):=by
 intro b b' a r c h j
 obtain⟨h1,f,g⟩:=M.get_some h
 subst f;subst g
 simp [M.get,j id sm,h1]
theorem Lc.pS(id:Nat):Lc (M.pS id):=by
 intro b b' a r c h j
 obtain⟨h1,f,g⟩:=M.qj h
 subst f;subst g
 simp [M.pS,j id sm,h1]
theorem Lc.bind{α β:Type}{m:M α}{f:α->M β}(hm:Lc m)(hf:∀a,Lc (f a)):Lc (M.bind m f):=by
 intro b b' x r c h k
 unfold M.bind at h⊢
 rcases h1:m b with _|⟨a,q,l⟩
 ·simp [h1]at h
 simp only [h1]at h
 rcases j:f a b with _|⟨y,t,p⟩
 ·simp [j]at h
 simp only [j,B7,B9]at h
 obtain⟨rfl,rfl,rfl⟩:=h
 rw [hm b b' a q l h1 (fun id g=>k id (List.mem_append.2 (.inl g)))]
 simp only [hf a b b' y t p j (fun id g=>k id (List.mem_append.2 (.inr g)))]
theorem Lc.qe(v:RV):Lc (qe v):=Lc.pure _
theorem Lc.pT(k:Bool)(v:RV):Lc (pT k v):=Lc.py _ _
theorem Lc.uU(o:Option (PD×Bool)):Lc (uU o):=by unfold Dw.uU;split<;>first|exact Lc.py _ _|exact Lc.fail
theorem Lc.vZ(v:RV):Lc (vZ v):=by
 unfold Dw.vZ
 split<;>first|exact Lc.pure _|exact Lc.fail|skip
 all_goals refine Lc.bind (Lc.get _) fun a=>?_
 all_goals (split<;>first|exact Lc.fail|skip)
 all_goals (split<;>first|exact Lc.pure _|exact Lc.py _ _|exact Lc.fail)
theorem Lc.tP:∀(cs:List RV),Lc (tP cs)
 | []=>Lc.pure _
 |c::cs=>Lc.bind (Lc.vZ c) fun _=>Lc.bind (Lc.tP cs) fun _=>Lc.pure _
theorem Lc.rQ(v:RV):Lc (rQ v):=by
 unfold Dw.rQ
 split
 ·exact Lc.bind (Lc.tP _) fun _=>Lc.pure _
 ·exact Lc.vZ _
section
variable (P:Program)
theorem Lc.sa(t:TypeId)(cs:List PD):Lc (sa P t cs):=by
 unfold Dw.sa
 split<;>first|exact Lc.fail|exact Lc.pT _ _|skip
 split<;>first|exact Lc.fail|exact Lc.qe _
theorem Lc.sd(t:TypeId)(cs:List RV)(o:Nat):Lc (sd P t cs o):=by
 unfold Dw.sd
 split<;>first|exact Lc.fail|exact Lc.pT _ _|skip
 split<;>first|exact Lc.fail|exact Lc.qe _
theorem Lc.si(t:TypeId)(a:RV):Lc (si P t a):=by
 unfold Dw.si
 split
 ·exact Lc.sa P t _
 ·split<;>first|exact Lc.fail|exact Lc.qe _
 ·refine Lc.bind (Lc.get _) fun c=>?_
  split<;>first|exact Lc.sd P t _ _|exact Lc.fail
 ·refine Lc.bind (Lc.get _) fun c=>?_
  split<;>first|exact Lc.fail|skip
  ·split<;>first|exact Lc.fail|skip
   split<;>first|exact Lc.fail|exact Lc.sa P t _
  ·split<;>first|exact Lc.fail|skip
   split<;>first|exact Lc.fail|exact Lc.qe _
  ·split<;>first|exact Lc.fail|skip
   split<;>first|exact Lc.fail|exact Lc.qe _
 ·exact Lc.fail
theorem Lc.uO(t:TypeId)(a v:RV):Lc (uO P t a v):=by
 unfold Dw.uO
 split<;>first|exact Lc.fail|skip
 split
 ·refine Lc.bind (Lc.get _) fun c=>?_
  split<;>first|exact Lc.py _ _|exact Lc.fail|skip
 ·refine Lc.bind (Lc.get _) fun c=>?_
  split<;>first|exact Lc.fail|skip
  ·split<;>first|exact Lc.fail|skip
   refine Lc.bind (Lc.rQ _) fun p=>?_
   obtain⟨p,u⟩:=p
   dsimp only
   split<;>first|exact Lc.fail|skip
   split<;>first|exact Lc.fail|exact Lc.py _ _
  ·exact iteInduction (motive:=Lc) (fun _=>Lc.py _ _) (fun _=>Lc.fail)
  ·exact iteInduction (motive:=Lc) (fun _=>Lc.py _ _) (fun _=>Lc.fail)
 ·exact Lc.fail
theorem Lc.vY(off:Nat)(x:RV):Lc (vY off x):=by
 unfold Dw.vY
 split
 ·refine Lc.bind (Lc.get _) fun a=>?_
  split<;>first|exact Lc.qe _|exact Lc.fail
 ·refine Lc.bind (Lc.get _) fun a=>?_
  split<;>first|exact Lc.fail|skip
  all_goals (split<;>first|exact Lc.qe _|exact Lc.fail)
 ·exact Lc.qe _
 ·exact Lc.fail
theorem Lc.rG(t:TypeId)(x:RV)(f:Nat):Lc (rG P t x f):=by
 unfold Dw.rG
 split<;>first|exact Lc.fail|skip
 split<;>first|exact Lc.fail|exact Lc.vY _ _
theorem Lc.wb(t:TypeId)(x:RV)(f:Nat):Lc (wb P t x f):=by
 unfold Dw.wb
 split<;>first|exact Lc.fail|exact Lc.sd P _ _ _
theorem Lc.we(x i:RV):Lc (we x i):=by
 unfold Dw.we
 repeat' split
 all_goals first|exact Lc.pT _ _|exact Lc.fail
theorem Lc.w6(len:Nat)(e:TypeId)(x i:RV):Lc (w6 P len e x i):=by
 unfold Dw.w6
 repeat' split
 all_goals first|exact Lc.bind (Lc.py _ _) fun _=>Lc.sd _ _ _ _|exact Lc.fail
theorem Lc.vp(t:TypeId)(x i:RV):Lc (vp P t x i):=by
 unfold Dw.vp
 repeat' split
 all_goals first|exact Lc.we _ _|exact Lc.w6 _ _ _ _ _|exact Lc.fail
theorem Lc.qw(t:TypeId)(x i:RV):Lc (qw P t x i):=by
 unfold Dw.qw
 split
 ·split<;>first|exact Lc.fail|skip
  split<;>first|exact Lc.fail|exact Lc.pT _ _|skip
  all_goals refine Lc.bind (Lc.get _) fun a=>?_
  all_goals (split<;>first|exact Lc.fail|exact Lc.pT _ _|skip)
  all_goals (split<;>first|exact Lc.fail|exact Lc.pT _ _)
 ·split<;>first|exact Lc.fail|skip
  exact Lc.bind (Lc.py _ _) fun _=>Lc.vY _ _
 ·exact Lc.fail
theorem Lc.sliceB(e:TypeId)(id ver a b:Nat)(lo hi:Option RV):Lc (sliceB P e id ver a b lo hi):=by
 unfold Dw.sliceB
 split<;>first|exact Lc.fail|skip
 refine Lc.bind (Lc.get _) fun c=>?_
 split<;>first|exact Lc.fail|skip
 split<;>first|exact Lc.fail|exact Lc.pT _ _
theorem Lc.xg(a:Nat)(e:TypeId)(n:Nat)(lo hi mx:Option RV):Lc (xg P a e n lo hi mx):=by
 unfold Dw.xg
 split<;>first|exact Lc.fail|skip
 split<;>first|exact Lc.fail|exact Lc.bind (Lc.pS _) fun _=>Lc.py _ _
theorem Lc.wq(id:Nat)(a:TypeId):Lc (wq P id a):=by
 unfold Dw.wq
 split<;>first|exact Lc.fail|skip
 split<;>first|exact Lc.fail|skip
 refine Lc.bind (Lc.get _) fun c=>?_
 split<;>first|exact Lc.fail|skip
 split<;>first|exact Lc.fail|skip
 split<;>first|exact Lc.fail|exact Lc.py _ _
theorem Lc.wv(e:TypeId)(id ver:Nat)(lo hi:Option RV)(mx:RV):Lc (wv P e id ver lo hi mx):=by
 unfold Dw.wv
 split<;>first|exact Lc.fail|skip
 split<;>first|exact Lc.fail|skip
 refine Lc.bind (Lc.get _) fun a=>?_
 split<;>first|exact Lc.fail|skip
 split<;>first|exact Lc.fail|exact Lc.py _ _
theorem Lc.wu(a:TypeId)(cs:List PD):Lc (wu P a cs):=by
 unfold Dw.wu
 split<;>first|exact Lc.fail|skip
 split<;>first|exact Lc.fail|skip
 split<;>first|exact Lc.fail|exact Lc.py _ _
theorem Lc.yn(e:TypeId)(es:List PD)(h m:Int):Lc (yn P e es h m):=by
 unfold Dw.yn
 split<;>first|exact Lc.fail|skip
 split<;>first|exact Lc.fail|exact Lc.py _ _
theorem Lc.xC(t:TypeId)(x:RV)(lo hi mx:Option RV):Lc (xC P t x lo hi mx):=by
 unfold Dw.xC
 split<;>first|exact Lc.fail|exact Lc.yn P _ _ _ _|skip
 split<;>first|exact Lc.fail|skip
 refine Lc.bind (Lc.get _) fun a=>?_
 split<;>first|exact Lc.fail|skip
 split<;>first|exact Lc.fail|exact Lc.py _ _
theorem Lc.qF(a:Nat)(t:TypeId)(x:RV)(lo hi mx:Option RV):Lc (qF P a t x lo hi mx):=by
 unfold Dw.qF
 split
 ·refine Lc.bind (Lc.get _) fun c=>?_
  split<;>first|exact Lc.fail|exact Lc.sliceB P _ _ _ _ _ _ _
 ·exact Lc.sliceB P _ _ _ _ _ _ _
 ·split<;>first|exact Lc.fail|exact Lc.wq P _ _
 ·split<;>first|exact Lc.fail|exact Lc.wu P _ _
 ·split<;>first|exact Lc.fail|(split<;>first|exact Lc.pure _|exact Lc.fail)
 ·exact Lc.xg P _ _ _ _ _ _
 ·exact Lc.wv P _ _ _ _ _ _
 all_goals first|exact Lc.fail|(split<;>first|exact Lc.fail|exact Lc.pT _ _)
theorem Lc.vg(t:TypeId)(l:List (Nat×RV)):Lc (vg P t l):=by
 unfold Dw.vg
 split
 ·split<;>first|exact Lc.fail|skip
  split<;>first|exact Lc.fail|exact Lc.pT _ _
 ·split<;>first|exact Lc.fail|skip
  split<;>first|exact Lc.fail|exact Lc.pT _ _
 ·exact Lc.fail
theorem Lc.wh(mt:Bool)(cs:List RV):Lc (wh mt cs):=by
 unfold Dw.wh
 split
 ·exact Lc.pure _
 ·exact Lc.tP _
theorem Lc.q8(mt:Bool)(id:Nat)(t:TypeId)(len:Nat)(l:List (Nat×RV)):Lc (q8 P mt id t len l):=by
 unfold Dw.q8
 split<;>first|exact Lc.fail|skip
 split<;>first|exact Lc.fail|skip
 split<;>first|exact Lc.fail|skip
 split<;>first|exact Lc.fail|skip
 refine iteInduction (motive:=Lc) (fun _=>Lc.py _ _) (fun _=>?_)
 refine Lc.bind (Lc.wh _ _) fun p=>?_
 obtain⟨a,u⟩:=p
 dsimp only
 split
 ·exact Lc.bind (Lc.pS _) fun _=>Lc.py _ _
 ·exact Lc.py _ _
theorem Lc.v8(id:Nat)(t:TypeId):Lc (v8 P id t):=by
 unfold Dw.v8
 split<;>first|exact Lc.fail|exact Lc.bind (Lc.pS _) fun _=>Lc.pure _
theorem Lc.boxD(id:Nat)(v:RV):Lc (boxD id v):=Lc.bind (Lc.pS _) fun _=>Lc.py _ _
theorem Lc.yq(t:TypeId)(x:RV):Lc (yq P t x):=by
 unfold Dw.yq
 split<;>first|exact Lc.fail|exact Lc.qe _|skip
 all_goals refine Lc.bind (Lc.get _) fun a=>?_
 all_goals (split<;>first|exact Lc.fail|exact Lc.qe _|skip)
 all_goals (split<;>first|exact Lc.fail|exact Lc.qe _|exact Lc.pT _ _)
theorem Lc.p7(x:RV):Lc (p7 x):=by
 unfold Dw.p7
 split<;>first|exact Lc.fail|exact Lc.pure _|skip
 all_goals refine Lc.bind (Lc.get _) fun a=>?_
 all_goals (split<;>first|exact Lc.fail|skip)
 all_goals (split<;>first|exact Lc.fail|exact Lc.pure _|exact Lc.py _ _)
theorem Lc.qu(id:Nat)(t t':TypeId)(s x:RV):Lc (qu P id t t' s x):=by
 unfold Dw.qu
 split<;>first|exact Lc.fail|skip
 split<;>first|exact Lc.fail|skip
 split<;>first|exact Lc.fail|skip
 refine Lc.bind (Lc.p7 _) fun xs=>?_
 split
 ·exact Lc.bind (Lc.pS _) fun _=>Lc.py _ _
 ·refine Lc.bind (Lc.get _) fun a=>?_
  split<;>first|exact Lc.fail|skip
  all_goals (split<;>first|exact Lc.fail|exact Lc.py _ _)
 ·refine Lc.bind (Lc.get _) fun a=>?_
  split<;>first|exact Lc.fail|skip
  split<;>first|exact Lc.fail|exact Lc.py _ _
 ·exact Lc.py _ _
 ·exact Lc.fail
theorem Lc.wI(x:RV):Lc (wI x):=by
 unfold Dw.wI
 split<;>first|exact Lc.fail|skip
 all_goals refine Lc.bind (Lc.get _) fun a=>?_
 all_goals (split<;>first|exact Lc.fail|skip)
 all_goals (split<;>first|exact Lc.fail|exact Lc.pure _|exact Lc.py _ _)
theorem Lc.vV(t:TypeId)(x y:RV):Lc (vV P t x y):=by
 unfold Dw.vV
 split<;>first|exact Lc.fail|skip
 split<;>first|exact Lc.fail|skip
 exact Lc.bind (Lc.wI _) fun _=>Lc.bind (Lc.p7 _) fun _=>Lc.py _ _
theorem Lc.tU(t:TypeId)(x:RV):Lc (tU P t x):=by
 unfold Dw.tU
 split<;>first|exact Lc.fail|skip
 split<;>first|exact Lc.fail|skip
 exact Lc.bind (Lc.wI _) fun _=>Lc.py _ _
theorem Lc.minD(l:List RV):Lc (minD l):=by
 unfold Dw.minD
 split<;>first|exact Lc.fail|skip
 split<;>first|exact Lc.fail|exact Lc.pure _
theorem Lc.maxD(l:List RV):Lc (maxD l):=by
 unfold Dw.maxD
 split<;>first|exact Lc.fail|skip
 split<;>first|exact Lc.fail|exact Lc.pure _
theorem Lc.argD(by_:Bool)(v:RV):Lc (argD by_ v):=by
 unfold Dw.argD
 split<;>first|exact Lc.pure _|exact Lc.bind (Lc.rQ _) fun _=>Lc.py _ _|(split<;>first|exact Lc.pure _|exact Lc.bind (Lc.rQ _) fun _=>Lc.pure _|exact Lc.bind (Lc.rQ _) fun _=>Lc.py _ _)
theorem Lc.uc(by_:Nat->Bool):∀(i:Nat)(l:List RV),Lc (uc by_ i l)
 |_,[]=>Lc.pure _
 |i,v::r=>Lc.bind (Lc.argD _ v) fun _=>Lc.bind (Lc.uc by_ (i+1) r) fun _=>Lc.pure _
theorem Lc.rH:∀(n:Nat)(done todo:List Nat),Lc (rH n done todo)
 |0,_,_=>Lc.fail
 |_+1,_,[]=>Lc.pure _
 |n+1,done,i::todo=>by
  unfold Dw.rH
  split
  ·exact Lc.rH n _ _
  ·exact Lc.bind (Lc.get _) fun _=>Lc.rH n _ _
theorem Lc.ui:∀(l:List Nat),Lc (ui l)
 | []=>Lc.pure _
 |_::r=>Lc.bind (Lc.get _) fun _=>Lc.bind (Lc.ui r) fun _=>Lc.pure _
theorem Lc.rj:∀(l:List Nat),Lc (rj l)
 | []=>Lc.pure _
 |_::r=>Lc.bind (Lc.pS _) fun _=>Lc.rj r
theorem Lc.rn(by_:FuncId->Nat->Bool)(call:pA)(f:FuncId)(base:Nat)(l:List RV):Lc (rn by_ call f base l):=by
 unfold Dw.rn
 refine Lc.bind (Lc.uc _ _ _) fun x=>Lc.bind (Lc.rH _ _ _) fun ids=>Lc.bind (Lc.ui _) fun a=>?_
 split<;>first|exact Lc.fail|skip
 split<;>first|exact Lc.fail|exact Lc.bind (Lc.rj _) fun _=>Lc.pure _
theorem Lc.uS(id:Nat)(src dst:TypeId)(x:RV):Lc (uS P id src dst x):=by
 unfold Dw.uS
 split
 ·split<;>first|exact Lc.fail|exact Lc.bind (Lc.pS _) fun _=>Lc.py _ _
 ·split<;>first|exact Lc.fail|skip
  refine Lc.bind (Lc.get _) fun a=>?_
  split<;>first|exact Lc.fail|skip
  refine iteInduction (motive:=Lc) (fun _=>?_) (fun _=>Lc.fail)
  split<;>first|exact Lc.fail|exact Lc.qe _
 ·split<;>first|exact Lc.fail|skip
  split<;>first|exact Lc.fail|exact Lc.qe _
 ·exact Lc.uU _
theorem Lc.tD(id:Nat)(t:TypeId):Lc (tD P id t):=by
 unfold Dw.tD
 split<;>first|exact Lc.fail|exact Lc.bind (Lc.pS _) fun _=>Lc.pure _
theorem Lc.te(t:TypeId)(x k:RV)(ok:Bool):Lc (te P t x k ok):=by
 unfold Dw.te
 split<;>first|exact Lc.fail|skip
 refine Lc.bind (Lc.get _) fun a=>?_
 split<;>first|exact Lc.fail|skip
 split<;>first|exact Lc.fail|skip
 split<;>first|exact Lc.fail|(split<;>exact Lc.qe _)
theorem Lc.uI(t:TypeId)(x k v:RV):Lc (uI P t x k v):=by
 unfold Dw.uI
 split<;>first|exact Lc.fail|skip
 refine Lc.bind (Lc.get _) fun a=>?_
 split<;>first|exact Lc.fail|skip
 split<;>first|exact Lc.fail|skip
 refine Lc.bind (Lc.rQ _) fun p=>?_
 obtain⟨p,u⟩:=p
 dsimp only
 split<;>first|exact Lc.fail|(split<;>first|exact Lc.fail|exact Lc.py _ _|exact Lc.pure _)
theorem Lc.qL(id:Nat)(t:TypeId)(l c:RV):Lc (qL P id t l c):=by
 unfold Dw.qL
 split<;>first|exact Lc.fail|skip
 split<;>first|exact Lc.fail|exact Lc.bind (Lc.pS _) fun _=>Lc.py _ _
theorem Lc.xm(id:Nat)(t t':TypeId)(a x:RV):Lc (xm P id t t' a x):=by
 unfold Dw.xm
 split<;>first|exact Lc.fail|skip
 split<;>first|exact Lc.fail|exact Lc.bind (Lc.pS _) fun _=>Lc.py _ _
theorem Lc.capD(t:TypeId)(x:RV):Lc (capD P t x):=by
 unfold Dw.capD
 split<;>first|exact Lc.fail|exact Lc.qe _
theorem Lc.ifcD(t:TypeId)(x:RV):Lc (ifcD P t x):=by
 unfold Dw.ifcD
 split<;>first|exact Lc.fail|exact Lc.qe _
theorem Lc.uv(x:RV)(t:TypeId)(ok:Bool):Lc (uv P x t ok):=by
 unfold Dw.uv
 split<;>first|exact Lc.fail|skip
 exact iteInduction (motive:=Lc) (fun _=>Lc.qe _) (fun _=>Lc.fail)
theorem Lc.uF(mt:Hf)(call:pA)(base:Nat)(x:RV)(name:String)(as:List RV):Lc (uF P mt call base x name as):=by
 unfold Dw.uF
 split<;>first|exact Lc.fail|skip
 split<;>first|exact Lc.fail|exact Lc.rn _ _ _ _ _|skip
 exact Lc.bind (Lc.si P _ _) fun _=>Lc.rn _ _ _ _ _
theorem Lc.pE(mt:Hf)(call:pA)(s:St)(o:Oper):Lc (pE P mt call s o):=by
 unfold Dw.pE
 split
 all_goals (try exact Lc.fail)
 all_goals (try exact Lc.v8 P _ _)
 all_goals (split<;>first|exact Lc.fail|exact Lc.qe _|exact Lc.ifcD P _ _|exact Lc.uv P _ _ _|exact Lc.boxD _ _|exact Lc.vg P _ _|exact Lc.q8 P _ _ _ _ _|exact Lc.si P _ _|exact Lc.uO P _ _ _|exact Lc.vY _ _|exact Lc.uU _|exact Lc.qF P _ _ _ _ _ _|exact Lc.rG P _ _ _|exact Lc.wb P _ _ _|exact Lc.qw P _ _ _|exact Lc.vp P _ _ _|exact Lc.minD _|exact Lc.maxD _|exact Lc.te P _ _ _ _|exact Lc.uI P _ _ _ _|exact Lc.tD P _ _|exact Lc.qL P _ _ _ _|exact Lc.uS P _ _ _ _|skip)
 all_goals (split<;>first|exact Lc.fail|exact Lc.qe _|exact Lc.uF P _ _ _ _ _ _|exact Lc.yq P _ _|exact Lc.capD P _ _|exact Lc.qu P _ _ _ _ _|exact Lc.vV P _ _ _|exact Lc.tU P _ _|exact Lc.xC P _ _ _ _ _|exact Lc.qF P _ _ _ _ _ _|exact Lc.rn _ _ _ _ _|(split<;>first|exact Lc.fail|exact Lc.qe _|exact Lc.qu P _ _ _ _ _|exact Lc.xm P _ _ _ _ _))
end
theorem wm{s s':St}:∀{xs:List Operand},(∀x∈xs,s.opd x=s'.opd x)->rm s xs=rm s' xs
 | [],_=>rfl
 |x::xs,h=>by simp only [rm];rw [h x sm,wm fun y a=>h y (by simp [a])]
theorem tE{s s':St}:∀{xs:List (Nat×Operand)},(∀x∈xs.map (·.2),s.opd x=s'.opd x)->qA s xs=qA s' xs
 | [],_=>rfl
 |(i,x)::xs,h=>by simp only [qA];rw [h x sm,tE fun y a=>h y (by simp only [DW,List.mem_cons];exact .inr a)]
theorem tg{s s':St}{x:Option Operand}(h:∀y∈x.toArray,s.opd y=s'.opd y):pH s x=pH s' x:=by
 cases x with
 |none=>rfl
 |some y=>simp only [pH];rw [h y sm]
theorem A5{P:Program}{mt:Hf}{call:pA}{s s':St}(o:Oper)(h:∀x∈o.op.operands,s.opd x=s'.opd x):pE P mt call s o=pE P mt call s' o:=by
 unfold pE
 rcases p:o.op with x|x|⟨c,x,y⟩|t|⟨t,x⟩|⟨t,parts⟩|⟨t,len,parts⟩|⟨t,m,k,x⟩|⟨t,x⟩|⟨t,x,y⟩|g|g|x|⟨op,t,x,y,t2⟩|⟨op,t,x⟩|⟨t,t2,x⟩|⟨t,x⟩|⟨t,x⟩|⟨fn,x,y⟩|⟨t,x⟩|⟨t,x⟩|⟨t,x,y⟩|⟨t,x,lo,hi,mx⟩|⟨t,x,f⟩|⟨t,x,f⟩|⟨t,x,y⟩|⟨t,x,y⟩|⟨t,x,y,c⟩|⟨t,x,y,c⟩|⟨t,x,y⟩|⟨t,x,y,c⟩|⟨t,x⟩|⟨x,b⟩|x|⟨x,t,t2,b⟩|⟨x,i⟩|c|c|c|x|⟨x,y⟩|⟨t,x,b⟩|⟨cs,b⟩
 all_goals (simp only [p,Op.operands]at h)
 all_goals (try simp only)
 all_goals (try rw [h x sm])
 all_goals (try rw [h y sm])
 ·rw [h c sm]
 ·rw [tE fun x a=>h x (by simpa using a)]
 ·rw [tE fun x a=>h x (by simpa using a)]
 ·cases op<;>(try simp only)<;>rw [h x sm]
 ·rw [wm (s:=s) (s':=s') (xs:=y.toList) fun x a=>h x (by simp only [D9];exact .inr (by simpa using a))]
  cases rm s' y.toList with
  |none=>rfl
  |some l=>
  rcases a:x.toList with _|⟨q,_|⟨B,xs⟩⟩
  ·cases fn<;>rfl
  ·have r:s.opd q=s'.opd q:=h q (by simp only [D9];exact .inl (by rw [<-Array.mem_toList_iff,a];exact List.mem_singleton.2 rfl))
   cases fn<;>first|rfl|(simp only [];rw [r])
  ·cases fn<;>rfl
 ·rw [tg (x:=x) fun y j=>h y (by simpa using j)]
 ·rw [tg (x:=lo) fun y j=>h y (by simp only [D9];exact .inl (.inl (.inr j))),tg (x:=hi) fun y j=>h y (by simp only [D9];exact .inl (.inr j)),tg (x:=mx) fun y j=>h y (by simp only [D9];exact .inr j)]
 ·rw [h c sm]
 ·have u:rm s c.args.toList=rm s' c.args.toList:=wm fun x a=>h x (by simp only [Call.operands,D9];exact .inr (by simpa using a))
  rw [u]
  cases hc:c.callee with
  |value f=>
   have hf:s.opd f=s'.opd f:=h f (by simp [Call.operands,hc])
   cases rm s' c.args.toList with
   |none=>rfl
   |some l=>simp only [hf]
  |invoke rc m=>
   have hf:s.opd rc=s'.opd rc:=h rc (by simp [Call.operands,hc])
   cases rm s' c.args.toList with
   |none=>rfl
   |some l=>simp only [hf]
  |builtin b=>
   cases rm s' c.args.toList with
   |none=>cases b<;>rfl
   |some l=>rcases l with _|⟨x,_|⟨y,_|⟨z,l⟩⟩⟩<;>cases b<;>rfl
end Go.Dw
namespace Go.Dw
theorem Bo:∀(u:Ups)(s s':St)(id:Nat),id∈u.map (·.1)->(s.ups u).boxes id=(s'.ups u).boxes id
 | [],_,_,_,h=>by simp at h
 |(i,b)::r,s,s',id,h=>by
  rw [rf,rf]
  by_cases a:id∈r.map (·.1)
  ·exact Bo r _ _ id a
  ·rw [qY _ _ _ a,qY _ _ _ a]
   have:id=i:=by simpa [a]using h
   subst this
   show upd s.boxes id b id=upd s'.boxes id b id
   rw [pz,pz]
theorem rP(s:St)(d:Option Nat)(v:RV):(s.put d v).boxes=s.boxes:=by cases d<;>rfl
theorem St.ext'{s s':St}(h1:s.pI=s'.pI)(f:s.boxes=s'.boxes):s=s':=by
 obtain⟨a,b⟩:=s
 obtain⟨c,d⟩:=s'
 simp only at h1 f
 subst h1;subst f
 rfl
theorem yJ{s:St}{u1 u2:Ups}{d1 d2:Option Nat}{v1 v2:RV}(hu:ye (u1.map (·.1)) (u2.map (·.1))=true)(f:∀d,d1=some d->d2≠some d):
  ((((s.ups u1).put d1 v1).ups u2).put d2 v2)=((((s.ups u2).put d2 v2).ups u1).put d1 v1):=by
 have hu:=vJ hu
 refine St.ext' ?_ ?_
 ·cases d1 with
  |none=>
   cases d2 with
   |none=>simp only [St.put,rC]
   |some e=>simp only [St.put,rC]
  |some d=>
   cases d2 with
   |none=>simp only [St.put,rC]
   |some e=>
    have c:d≠e:=fun he=>f d rfl (he▸rfl)
    simp only [St.put,rC]
    funext t
    by_cases h1:t=d
    ·subst h1;simp [c]
    ·by_cases a:t=e
     ·subst a;simp [h1]
     ·simp [h1,a]
 ·rw [rP,rP]
  funext id
  by_cases h1:id∈u1.map (·.1)
  ·have a:id∉u2.map (·.1):=hu id h1
   rw [qY _ _ _ a,rP]
   rw [Bo u1 _ ((s.ups u2).put d2 v2) id h1]
  ·by_cases a:id∈u2.map (·.1)
   ·rw [qY u1 _ _ h1,rP]
    rw [Bo u2 _ s id a]
   ·rw [qY _ _ _ a,rP,qY _ _ _ h1,qY _ _ _ h1,rP,qY _ _ _ a]
section
variable {P:Program}{mt:Hf}{call:pA}{ops:Array Oper}
theorem tO{o:Oper}{s s':St}{t:Tr}(h:rA P mt call ops o s=some (s',t)):
  (pc ops s o=some true∧∃v u,pE P mt call s o s.boxes=some ((v,u),t.rd,true)∧s'=(s.ups u).put o.dst v∧t.wr=u.map (·.1))∨
  (pc ops s o=some false∧s'=s.put o.dst .undef∧t.rd=[]∧t.wr=[]):=by
 unfold rA at h
 rcases hw:pc ops s o with _|w
 ·simp [hw]at h
 simp only [hw]at h
 cases w with
 |true=>
  simp only [if_true]at h
  rcases he:pE P mt call s o s.boxes with _|⟨⟨v,u⟩,rd,c⟩
  ·simp [he]at h
  simp only [he]at h
  cases c with
  |true=>
   simp only [if_true,B7,B9]at h
   obtain⟨rfl,rfl⟩:=h
   exact .inl ⟨rfl,v,u,rfl,rfl,rfl⟩
  |false=>simp at h
 |false=>
  simp only [Bool.false_eq_true,if_false,B7,B9]at h
  obtain⟨rfl,rfl⟩:=h
  exact .inr ⟨rfl,rfl,rfl,rfl⟩
theorem wR{o:Oper}{s:St}{v:RV}{u:Ups}{rd:List Nat}(hw:pc ops s o=some true)(he:pE P mt call s o s.boxes=some ((v,u),rd,true)):
  rA P mt call ops o s=some ((s.ups u).put o.dst v,⟨rd,u.map (·.1)⟩):=by
 unfold rA;simp [hw,he]
theorem wy{o:Oper}{s:St}(hw:pc ops s o=some false):rA P mt call ops o s=some (s.put o.dst .undef,⟨[],[]⟩):=by
 unfold rA;simp [hw]
theorem tQ{o:Oper}{s s':St}(h:∀t∈o.looksAt ops,s.pI t=s'.pI t):pc ops s o=pc ops s' o:=by
 unfold pc
 cases a:o.guard with
 |none=>rfl
 |some g=>
  obtain⟨j,want⟩:=g
  simp only
  cases c:(ops[j]?).bind (·.dst)with
  |none=>rfl
  |some t=>
   simp only
   rw [h t (by simp [Oper.looksAt,a,c])]
theorem yj{o:Oper}{s s':St}(h:∀t∈o.looksAt ops,s.pI t=s'.pI t):pE P mt call s o=pE P mt call s' o:=by
 refine A5 o fun x a=>?_
 cases x with
 |tmp t=>exact h t (List.mem_append_left _ (List.mem_filterMap.2 ⟨.tmp t,by simpa using a,rfl⟩))
 |const v=>rfl
 |global g=>rfl
 |func f=>rfl
theorem AN{o:Oper}{s s1 s':St}{t:Tr}{d:Option Nat}{u:Ups}{v:RV}(h:rA P mt call ops o s1=some (s',t))(hs:s1=(s.ups u).put d v)
  (p:∀e,d=some e->e∉o.looksAt ops) (hu:ye (u.map (·.1)) t.rd=true):
  ∃v' g,t.wr=g.map (·.1)∧s'=(s1.ups g).put o.dst v'∧rA P mt call ops o s=some ((s.ups g).put o.dst v',t):=by
 have a:∀t∈o.looksAt ops,s1.pI t=s.pI t:=by
  intro t q
  subst hs
  cases d with
  |none=>simp only [St.put,rC]
  |some e=>
   have:t≠e:=fun he=>p e rfl (he▸q)
   simp only [St.put,rC,this,if_false]
 have hu:=vJ hu
 rcases tO h with⟨hw,v',g,he,h1,f⟩|⟨hw,h1,f,j⟩
 ·have c:pc ops s o=some true:=by rw [<-tQ a];exact hw
  have k:pE P mt call s o s.boxes=some ((v',g),t.rd,true):=by
   rw [<-yj (P:=P) (mt:=mt) (call:=call) a]
   refine Lc.pE P mt call s1 o _ _ _ _ _ he fun id l=>?_
   subst hs
   rw [rP,qY _ _ _ (fun hm=>hu id hm l)]
  refine⟨v',g,f,h1,?_⟩
  rw [wR c k]
  obtain⟨rd,wr⟩:=t
  simp only at f
  rw [f]
 ·have c:pc ops s o=some false:=by rw [<-tQ a];exact hw
  refine⟨.undef,[],by rw [j];rfl,h1,?_⟩
  rw [wy c]
  obtain⟨rd,wr⟩:=t
  simp only at f j
  rw [f,j]
  rfl
theorem commute{x y:Oper}{s s1 s2:St}{k ty:Tr}(h1:rA P mt call ops x s=some (s1,k))(J:rA P mt call ops y s1=some (s2,ty))(hp:xc ops (x,k) (y,ty)=true):
  ∃s3,rA P mt call ops y s=some (s3,ty)∧rA P mt call ops x s3=some (s2,k):=by
 simp only [xc,Bool.and_eq_true]at hp
 obtain⟨⟨⟨z,B⟩,g⟩,C⟩:=hp
 obtain⟨a1,a2,a3⟩:=Oper.apart_spec z
 have L:∃v u,s1=(s.ups u).put x.dst v∧k.wr=u.map (·.1):=by
  rcases tO h1 with⟨_,v,u,_,f,c⟩|⟨_,f,_,c⟩
  ·exact⟨v,u,f,c⟩
  ·exact⟨.undef,[],f,by rw [c];rfl⟩
 obtain⟨Q,O,G,H⟩:=L
 obtain⟨p,l,r,q,N⟩:=AN J G a1 (by rw [<-H];exact B)
 refine⟨_,N,?_⟩
 have a:∀t∈x.looksAt ops,((s.ups l).put y.dst p).pI t=s.pI t:=by
  intro t K
  cases D:y.dst with
  |none=>simp only [St.put,rC]
  |some e=>
   have:t≠e:=fun he=>a3 e D (he▸K)
   simp only [St.put,rC,this,if_false]
 have g:=vJ g
 rcases tO h1 with⟨hw,v,u,he,f,c⟩|⟨hw,f,c,I⟩
 ·have j:pc ops ((s.ups l).put y.dst p) x=some true:=by rw [tQ a];exact hw
  have E:pE P mt call ((s.ups l).put y.dst p) x ((s.ups l).put y.dst p).boxes=some ((v,u),k.rd,true):=by
   rw [yj (P:=P) (mt:=mt) (call:=call) a]
   refine Lc.pE P mt call s x _ _ _ _ _ he fun id F=>?_
   rw [rP,qY _ _ _ (fun hm=>g id (by rw [r];exact hm) F)]
  rw [wR j E,q,f]
  rw [yJ (by rw [<-c, <-r];exact C) a2]
  obtain⟨rd,wr⟩:=k
  simp only at c
  rw [c]
 ·have j:pc ops ((s.ups l).put y.dst p) x=some false:=by rw [tQ a];exact hw
  rw [wy j,q,f]
  have:=yJ (s:=s) (u1:=[]) (u2:=l) (d1:=x.dst) (d2:=y.dst) (v1:= .undef) (v2:=p) (by rfl) a2
  simp only [St.ups]at this
  rw [this]
  obtain⟨rd,wr⟩:=k
  simp only at c I
  rw [c,I]
theorem uA{o:Oper}{r:List Oper}{s sF:St}{ts:List Tr}(h:qZ P mt call ops (o::r) s=some (sF,ts)):
  ∃s1 t a,rA P mt call ops o s=some (s1,t)∧qZ P mt call ops r s1=some (sF,a)∧ts=t::a:=by
 unfold qZ at h
 rcases h1:rA P mt call ops o s with _|⟨s1,t⟩
 ·simp [h1]at h
 simp only [h1]at h
 rcases c:qZ P mt call ops r s1 with _|⟨s2,a⟩
 ·simp [c]at h
 simp only [c,B7,B9]at h
 exact⟨s1,t,a,rfl,by rw [c,h.1],h.2.symm⟩
theorem evOps_mk{o:Oper}{r:List Oper}{s s1 sF:St}{t:Tr}{ts:List Tr}(h1:rA P mt call ops o s=some (s1,t))(a:qZ P mt call ops r s1=some (sF,ts)):
  qZ P mt call ops (o::r) s=some (sF,t::ts):=by
 unfold qZ;simp [h1,a]
theorem xv:∀(a:List (Oper×Tr)){o:Oper}{t:Tr}{c:List (Oper×Tr)}{s sF:St},
  qZ P mt call ops ((a++(o,t)::c).map (·.1)) s=some (sF,(a++(o,t)::c).map (·.2))->(∀x∈a,xc ops x (o,t)=true)->
  ∃s1,rA P mt call ops o s=some (s1,t)∧qZ P mt call ops ((a++c).map (·.1)) s1=some (sF,(a++c).map (·.2))
 | [],o,t,c,s,sF,h,_=>by
  simp only [List.nil_append,DW]at h
  obtain⟨s1,t',j,h1,f,g⟩:=uA h
  cases g
  exact⟨s1,h1,f⟩
 |(x,u)::a,o,t,c,s,sF,h,hp=>by
  simp only [D6,DW]at h
  obtain⟨s1,t',j,h1,f,g⟩:=uA h
  cases g
  obtain⟨s2,k,l⟩:=xv a f (fun y r=>hp y (by simp [r]))
  obtain⟨s3,p,q⟩:=commute h1 k (hp (x,u) sm)
  exact⟨s3,p,by simp only [D6,DW];exact evOps_mk q l⟩
theorem xQ:∀(l:List Oper)(acc:List Nat)(i:Nat),i<acc.length->(xP l acc).getD i 0=acc.getD i 0
 | [],acc,i,_=>rfl
 |o::r,acc,i,h=>by
  rw [xP,xQ r _ i so]
  simp only [D7]
  rw [CM h]
theorem ym(acc:List Nat):∀(es:List Edge)(b j:Nat),(es.foldl (fun b e=>if Region.binds .any e then b ||| (2 ^ e.on ||| acc.getD e.on 0)else b) b).testBit j=true->
  b.testBit j=true∨∃e∈es,Region.binds .any e=true∧(e.on=j∨(acc.getD e.on 0).testBit j=true)
 | [],b,j,h=>.inl h
 |e::es,b,j,h=>by
  simp only [List.foldl_cons]at h
  rcases ym acc es _ j h with h1|⟨c,h1,f,g⟩
  ·by_cases a:Region.binds .any e=true
   ·simp only [a,if_true,Nat.testBit_or,Bool.or_eq_true,Nat.testBit_two_pow,decide_eq_true_eq]at h1
    rcases h1 with h1|h1|h1
    ·exact .inl h1
    ·exact .inr ⟨e,sm,a,.inl h1⟩
    ·exact .inr ⟨e,sm,a,.inr h1⟩
   ·simp only [a]at h1;exact .inl h1
  ·exact .inr ⟨c,by simp [h1],f,g⟩
theorem wY:∀(l:List Oper)(acc:List Nat)(i:Nat)(o:Oper),l[i]? =some o->∀j,((xP l acc).getD (acc.length+i) 0).testBit j=true->
  ∃e∈o.after,Region.binds .any e=true∧(e.on=j∨(e.on<acc.length+i∧((xP l acc).getD e.on 0).testBit j=true))
 | [],acc,i,o,h,_,_=>by simp at h
 |x::r,acc,0,o,h,j,c=>by
  simp only [List.getElem?_cons_zero,B7]at h
  subst h
  rw [xP,Nat.add_zero,xQ r _ acc.length sm]at c
  simp only [D7,List.getElem?_concat_length,Option.getD_some]at c
  rcases ym acc x.after.toList 0 j c with h1|⟨e,h1,g,a⟩
  ·simp at h1
  ·refine⟨e,by simpa using h1,g,?_⟩
   rcases a with a|a
   ·exact .inl a
   ·by_cases f:e.on<acc.length
    ·refine .inr ⟨za,?_⟩
     rw [xP,xQ r _ e.on so]
     simp only [D7]at a⊢
     rw [CM f]
     exact a
    ·rw [D7,List.getElem?_eq_none za]at a
     simp at a
 |x::r,acc,i+1,o,h,j,c=>by
  simp only [List.getElem?_cons_succ]at h
  rw [xP]at c⊢
  have := wY r (acc ++ [x.after.toList.foldl (fun b e => if Region.binds .any e then b ||| (2 ^ e.on ||| acc.getD e.on 0) else b) 0]) i o h j (by
   simp only [DA,D8]
   rw [show acc.length+1+i=acc.length+(i+1)by omega]
   exact c)
  simp only [DA,D8]at this
  rw [show acc.length+1+i=acc.length+(i+1)by omega]at this
  exact this
theorem AR{a:Array Bool}(c:∀(i:Nat)o,ops[i]? =some o->a.getD i false=true->∀e∈o.after,Region.binds .any e=true->a.getD e.on false=true)(u:a.size=ops.size):
  ∀(n i:Nat)(o:Oper),i<=n->ops[i]? =some o->(∀e∈o.after,Region.binds .any e=true->a.getD e.on false=true)->∀j,((xP ops.toList []).getD i 0).testBit j=true->a.getD j false=true:=by
 intro n
 induction n with
 |zero=>
  intro i o hi ho he j l
  have r:i=0:=by omega
  subst r
  obtain⟨e,h1,k,f⟩:=wY ops.toList [] 0 o (by simpa using ho) j (by simpa using l)
  rcases f with rfl|⟨f,_⟩
  ·exact he e h1 k
  ·simp at f
 |succ n x=>
  intro i o hi ho he j l
  obtain⟨e,h1,k,f⟩:=wY ops.toList [] i o (by simpa using ho) j (by simpa using l)
  rcases f with rfl|⟨f,t⟩
  ·exact he e h1 k
  ·simp only [List.length_nil,Nat.zero_add]at f
   have q:=he e h1 k
   have p:e.on<ops.size:=by
    rcases Nat.lt_or_ge e.on a.size with h|h
    ·omega
    ·simp [Array.getElem?_eq_none h]at q
   have g:ops[e.on]? =some ops[e.on]:=Array.getElem?_eq_getElem p
   exact x e.on _ za g (c e.on _ g q) j t
end
end Go.Dw
