
import Derived.Test.YtfmoipelhfkdkaaGreatDoorDwOp
set_option linter.unusedVariables false
set_option linter.unusedSimpArgs false
open Option.some renaming injEq->DB
open Prod.mk renaming injEq->DD
open List renaming cons_append->En, getD_eq_getElem?_getD->Eo, getElem?_append_left->DP, length_append->ET, length_singleton->Ep, map_cons->Ed
open Array renaming mem_append->Er

namespace Go.Dw
def Lc{α:Type}(m:M α):Prop:=∀b b' a r c,m b=some (a,r,c)->(∀id∈r,b' id=b id)->m b'=some (a,r,c)
theorem Lc.pure{α:Type}(a:α):Lc (M.pure a):=fun _ _ _ _ _ h _=>h
theorem Lc.rq{α:Type}(k:Bool)(a:α):Lc (M.rq k a):=fun _ _ _ _ _ h _=>h
theorem Lc.fail{α:Type}:Lc (M.fail:M α):=fun _ _ _ _ _ h _=>h
theorem Lc.get(id:Nat):Lc (M.get id):=by
 intro b b' a r c h j
 obtain⟨h1,f,g⟩:=M.get_some h
 subst f;subst g
 simp [M.get,j id zc,h1]
theorem Lc.rX(id:Nat):Lc (M.rX id):=by
 intro b b' a r c h j
 obtain⟨h1,f,g⟩:=M.su h
 subst f;subst g
 simp [M.rX,j id zc,h1]
theorem Lc.bind{α β:Type}{m:M α}{f:α->M β}(hm:Lc m)(hf:∀a,Lc (f a)):Lc (M.bind m f):=by
 intro b b' x r c h j
 unfold M.bind at h⊢
 rcases h1:m b with _|⟨a,u,k⟩
 ·simp [h1]at h
 simp only [h1]at h
 rcases g:f a b with _|⟨y,B,q⟩
 ·simp [g]at h
 simp only [g,DB,DD]at h
 obtain⟨rfl,rfl,rfl⟩:=h
 rw [hm b b' a u k h1 (fun id hid=>j id (List.mem_append.2 (.inl hid)))]
 simp only [hf a b b' y B q g (fun id hid=>j id (List.mem_append.2 (.inr hid)))]
theorem Lc.sn(v:RV):Lc (sn v):=Lc.pure _
theorem Lc.rT(k:Bool)(v:RV):Lc (rT k v):=Lc.rq _ _
theorem Lc.wN(o:Option (PD×Bool)):Lc (wN o):=by unfold Dw.wN;split<;>first|exact Lc.rq _ _|exact Lc.fail
theorem Lc.yp(v:RV):Lc (yp v):=by
 unfold Dw.yp
 split<;>first|exact Lc.pure _|exact Lc.fail|skip
 all_goals refine Lc.bind (Lc.get _) fun f=>?_
 all_goals (split<;>first|exact Lc.fail|skip)
 all_goals (split<;>first|exact Lc.pure _|exact Lc.rq _ _|exact Lc.fail)
theorem Lc.vI:∀(cs:List RV),Lc (vI cs)
 | []=>Lc.pure _
 |c::cs=>Lc.bind (Lc.yp c) fun _=>Lc.bind (Lc.vI cs) fun _=>Lc.pure _
theorem Lc.uB(v:RV):Lc (uB v):=by
 unfold Dw.uB
 split
 ·exact Lc.bind (Lc.vI _) fun _=>Lc.pure _
 ·exact Lc.yp _
section
variable (P:Program)
theorem Lc.uu(t:TypeId)(cs:List PD):Lc (uu P t cs):=by
 unfold Dw.uu
 split<;>first|exact Lc.fail|exact Lc.rT _ _|skip
 split<;>first|exact Lc.fail|exact Lc.sn _
theorem Lc.uv(t:TypeId)(cs:List RV)(o:Nat):Lc (uv P t cs o):=by
 unfold Dw.uv
 split<;>first|exact Lc.fail|exact Lc.rT _ _|skip
 split<;>first|exact Lc.fail|exact Lc.sn _
theorem Lc.uf(t:TypeId)(a:RV):Lc (uf P t a):=by
 unfold Dw.uf
 split
 ·exact Lc.uu P t _
 ·split<;>first|exact Lc.fail|exact Lc.sn _
 ·refine Lc.bind (Lc.get _) fun f=>?_
  split<;>first|exact Lc.uv P t _ _|exact Lc.fail
 ·refine Lc.bind (Lc.get _) fun f=>?_
  split<;>first|exact Lc.fail|skip
  ·split<;>first|exact Lc.fail|skip
   split<;>first|exact Lc.fail|exact Lc.uu P t _
  ·split<;>first|exact Lc.fail|skip
   split<;>first|exact Lc.fail|exact Lc.sn _
  ·split<;>first|exact Lc.fail|skip
   split<;>first|exact Lc.fail|exact Lc.sn _
 ·exact Lc.fail
theorem Lc.vv(t:TypeId)(a v:RV):Lc (vv P t a v):=by
 unfold Dw.vv
 split<;>first|exact Lc.fail|skip
 split
 ·refine Lc.bind (Lc.get _) fun f=>?_
  split<;>first|exact Lc.rq _ _|exact Lc.fail|skip
 ·refine Lc.bind (Lc.get _) fun f=>?_
  split<;>first|exact Lc.fail|skip
  ·split<;>first|exact Lc.fail|skip
   refine Lc.bind (Lc.uB _) fun p=>?_
   obtain⟨p,u⟩:=p
   dsimp only
   split<;>first|exact Lc.fail|skip
   split<;>first|exact Lc.fail|exact Lc.rq _ _
  ·exact iteInduction (motive:=Lc) (fun _=>Lc.rq _ _) (fun _=>Lc.fail)
  ·exact iteInduction (motive:=Lc) (fun _=>Lc.rq _ _) (fun _=>Lc.fail)
 ·exact Lc.fail
theorem Lc.xD(off:Nat)(x:RV):Lc (xD off x):=by
 unfold Dw.xD
 split
 ·refine Lc.bind (Lc.get _) fun f=>?_
  split<;>first|exact Lc.sn _|exact Lc.fail
 ·refine Lc.bind (Lc.get _) fun f=>?_
  split<;>first|exact Lc.fail|skip
  all_goals (split<;>first|exact Lc.sn _|exact Lc.fail)
 ·exact Lc.sn _
 ·exact Lc.fail
theorem Lc.ud(t:TypeId)(x:RV)(f:Nat):Lc (ud P t x f):=by
 unfold Dw.ud
 split<;>first|exact Lc.fail|skip
 split<;>first|exact Lc.fail|exact Lc.xD _ _
theorem Lc.xJ(t:TypeId)(x:RV)(f:Nat):Lc (xJ P t x f):=by
 unfold Dw.xJ
 split<;>first|exact Lc.fail|exact Lc.uv P _ _ _
theorem Lc.xL(x i:RV):Lc (xL x i):=by
 unfold Dw.xL
 repeat' split
 all_goals first|exact Lc.rT _ _|exact Lc.fail
theorem Lc.yC(len:Nat)(e:TypeId)(x i:RV):Lc (yC P len e x i):=by
 unfold Dw.yC
 repeat' split
 all_goals first|exact Lc.bind (Lc.rq _ _) fun _=>Lc.uv _ _ _ _|exact Lc.fail
theorem Lc.w5(t:TypeId)(x i:RV):Lc (w5 P t x i):=by
 unfold Dw.w5
 repeat' split
 all_goals first|exact Lc.xL _ _|exact Lc.yC _ _ _ _ _|exact Lc.fail
theorem Lc.sx(t:TypeId)(x i:RV):Lc (sx P t x i):=by
 unfold Dw.sx
 split
 ·split<;>first|exact Lc.fail|skip
  split<;>first|exact Lc.fail|exact Lc.rT _ _|skip
  all_goals refine Lc.bind (Lc.get _) fun f=>?_
  all_goals (split<;>first|exact Lc.fail|exact Lc.rT _ _|skip)
  all_goals (split<;>first|exact Lc.fail|exact Lc.rT _ _)
 ·split<;>first|exact Lc.fail|skip
  exact Lc.bind (Lc.rq _ _) fun _=>Lc.xD _ _
 ·exact Lc.fail
theorem Lc.sliceB(e:TypeId)(id ver a b:Nat)(lo hi:Option RV):Lc (sliceB P e id ver a b lo hi):=by
 unfold Dw.sliceB
 split<;>first|exact Lc.fail|skip
 refine Lc.bind (Lc.get _) fun f=>?_
 split<;>first|exact Lc.fail|skip
 split<;>first|exact Lc.fail|exact Lc.rT _ _
theorem Lc.yO(f:Nat)(e:TypeId)(n:Nat)(lo hi g:Option RV):Lc (yO P f e n lo hi g):=by
 unfold Dw.yO
 split<;>first|exact Lc.fail|skip
 split<;>first|exact Lc.fail|exact Lc.bind (Lc.rX _) fun _=>Lc.rq _ _
theorem Lc.xT(id:Nat)(a:TypeId):Lc (xT P id a):=by
 unfold Dw.xT
 split<;>first|exact Lc.fail|skip
 split<;>first|exact Lc.fail|skip
 refine Lc.bind (Lc.get _) fun f=>?_
 split<;>first|exact Lc.fail|skip
 split<;>first|exact Lc.fail|skip
 split<;>first|exact Lc.fail|exact Lc.rq _ _
theorem Lc.xV(e:TypeId)(id ver:Nat)(lo hi:Option RV)(f:RV):Lc (xV P e id ver lo hi f):=by
 unfold Dw.xV
 split<;>first|exact Lc.fail|skip
 split<;>first|exact Lc.fail|skip
 refine Lc.bind (Lc.get _) fun g=>?_
 split<;>first|exact Lc.fail|skip
 split<;>first|exact Lc.fail|exact Lc.rq _ _
theorem Lc.xU(a:TypeId)(cs:List PD):Lc (xU P a cs):=by
 unfold Dw.xU
 split<;>first|exact Lc.fail|skip
 split<;>first|exact Lc.fail|skip
 split<;>first|exact Lc.fail|exact Lc.rq _ _
theorem Lc.Ab(e:TypeId)(es:List PD)(h m:Int):Lc (Ab P e es h m):=by
 unfold Dw.Ab
 split<;>first|exact Lc.fail|skip
 split<;>first|exact Lc.fail|exact Lc.rq _ _
theorem Lc.zl(t:TypeId)(x:RV)(lo hi f:Option RV):Lc (zl P t x lo hi f):=by
 unfold Dw.zl
 split<;>first|exact Lc.fail|exact Lc.Ab P _ _ _ _|skip
 split<;>first|exact Lc.fail|skip
 refine Lc.bind (Lc.get _) fun g=>?_
 split<;>first|exact Lc.fail|skip
 split<;>first|exact Lc.fail|exact Lc.rq _ _
theorem Lc.tk(f:Nat)(t:TypeId)(x:RV)(lo hi g:Option RV):Lc (tk P f t x lo hi g):=by
 unfold Dw.tk
 split
 ·refine Lc.bind (Lc.get _) fun j=>?_
  split<;>first|exact Lc.fail|exact Lc.sliceB P _ _ _ _ _ _ _
 ·exact Lc.sliceB P _ _ _ _ _ _ _
 ·split<;>first|exact Lc.fail|exact Lc.xT P _ _
 ·split<;>first|exact Lc.fail|exact Lc.xU P _ _
 ·split<;>first|exact Lc.fail|(split<;>first|exact Lc.pure _|exact Lc.fail)
 ·exact Lc.yO P _ _ _ _ _ _
 ·exact Lc.xV P _ _ _ _ _ _
 all_goals first|exact Lc.fail|(split<;>first|exact Lc.fail|exact Lc.rT _ _)
theorem Lc.wW(t:TypeId)(l:List (Nat×RV)):Lc (wW P t l):=by
 unfold Dw.wW
 split
 ·split<;>first|exact Lc.fail|skip
  split<;>first|exact Lc.fail|exact Lc.rT _ _
 ·split<;>first|exact Lc.fail|skip
  split<;>first|exact Lc.fail|exact Lc.rT _ _
 ·exact Lc.fail
theorem Lc.xN(mt:Bool)(cs:List RV):Lc (xN mt cs):=by
 unfold Dw.xN
 split
 ·exact Lc.pure _
 ·exact Lc.vI _
theorem Lc.tG(mt:Bool)(id:Nat)(t:TypeId)(len:Nat)(l:List (Nat×RV)):Lc (tG P mt id t len l):=by
 unfold Dw.tG
 split<;>first|exact Lc.fail|skip
 split<;>first|exact Lc.fail|skip
 split<;>first|exact Lc.fail|skip
 split<;>first|exact Lc.fail|skip
 refine iteInduction (motive:=Lc) (fun _=>Lc.rq _ _) (fun _=>?_)
 refine Lc.bind (Lc.xN _ _) fun p=>?_
 obtain⟨ps,u⟩:=p
 dsimp only
 split
 ·exact Lc.bind (Lc.rX _) fun _=>Lc.rq _ _
 ·exact Lc.rq _ _
theorem Lc.xG(id:Nat)(t:TypeId):Lc (xG P id t):=by
 unfold Dw.xG
 split<;>first|exact Lc.fail|exact Lc.bind (Lc.rX _) fun _=>Lc.pure _
theorem Lc.boxD(id:Nat)(v:RV):Lc (boxD id v):=Lc.bind (Lc.rX _) fun _=>Lc.rq _ _
theorem Lc.yH(t:TypeId)(x:RV):Lc (yH P t x):=by
 unfold Dw.yH
 split<;>first|exact Lc.fail|exact Lc.sn _|skip
 all_goals refine Lc.bind (Lc.get _) fun f=>?_
 all_goals (split<;>first|exact Lc.fail|exact Lc.sn _|skip)
 all_goals (split<;>first|exact Lc.fail|exact Lc.sn _|exact Lc.rT _ _)
theorem Lc.sP(x:RV):Lc (sP x):=by
 unfold Dw.sP
 split<;>first|exact Lc.fail|exact Lc.pure _|skip
 all_goals refine Lc.bind (Lc.get _) fun f=>?_
 all_goals (split<;>first|exact Lc.fail|skip)
 all_goals (split<;>first|exact Lc.fail|exact Lc.pure _|exact Lc.rq _ _)
theorem Lc.sy(id:Nat)(t g:TypeId)(s x:RV):Lc (sy P id t g s x):=by
 unfold Dw.sy
 split<;>first|exact Lc.fail|skip
 split<;>first|exact Lc.fail|skip
 split<;>first|exact Lc.fail|skip
 refine Lc.bind (Lc.sP _) fun xs=>?_
 split
 ·exact Lc.bind (Lc.rX _) fun _=>Lc.rq _ _
 ·refine Lc.bind (Lc.get _) fun f=>?_
  split<;>first|exact Lc.fail|skip
  all_goals (split<;>first|exact Lc.fail|exact Lc.rq _ _)
 ·refine Lc.bind (Lc.get _) fun f=>?_
  split<;>first|exact Lc.fail|skip
  split<;>first|exact Lc.fail|exact Lc.rq _ _
 ·exact Lc.rq _ _
 ·exact Lc.fail
theorem Lc.dstM(x:RV):Lc (dstM x):=by
 unfold Dw.dstM
 split<;>first|exact Lc.fail|skip
 all_goals refine Lc.bind (Lc.get _) fun f=>?_
 all_goals (split<;>first|exact Lc.fail|skip)
 all_goals (split<;>first|exact Lc.fail|exact Lc.pure _|exact Lc.rq _ _)
theorem Lc.vM(t:TypeId)(x:RV):Lc (vM P t x):=by
 unfold Dw.vM
 split<;>first|exact Lc.fail|skip
 split<;>first|exact Lc.fail|skip
 exact Lc.bind (Lc.dstM _) fun _=>Lc.rq _ _
theorem Lc.minD(l:List RV):Lc (minD l):=by
 unfold Dw.minD
 split<;>first|exact Lc.fail|skip
 split<;>first|exact Lc.fail|exact Lc.pure _
theorem Lc.maxD(l:List RV):Lc (maxD l):=by
 unfold Dw.maxD
 split<;>first|exact Lc.fail|skip
 split<;>first|exact Lc.fail|exact Lc.pure _
theorem Lc.argD(by_:Bool)(v:RV):Lc (argD by_ v):=by
 unfold Dw.argD
 split<;>first|exact Lc.pure _|exact Lc.bind (Lc.uB _) fun _=>Lc.rq _ _|(split<;>first|exact Lc.pure _|exact Lc.bind (Lc.uB _) fun _=>Lc.pure _|exact Lc.bind (Lc.uB _) fun _=>Lc.rq _ _)
theorem Lc.vU(by_:Nat->Bool):∀(i:Nat)(l:List RV),Lc (vU by_ i l)
 |_,[]=>Lc.pure _
 |i,v::r=>Lc.bind (Lc.argD _ v) fun _=>Lc.bind (Lc.vU by_ (i+1) r) fun _=>Lc.pure _
theorem Lc.uz:∀(n:Nat)(done todo:List Nat),Lc (uz n done todo)
 |0,_,_=>Lc.fail
 |_+1,_,[]=>Lc.pure _
 |n+1,done,i::todo=>by
  unfold Dw.uz
  split
  ·exact Lc.uz n _ _
  ·exact Lc.bind (Lc.get _) fun _=>Lc.uz n _ _
theorem Lc.wM:∀(l:List Nat),Lc (wM l)
 | []=>Lc.pure _
 |_::r=>Lc.bind (Lc.get _) fun _=>Lc.bind (Lc.wM r) fun _=>Lc.pure _
theorem Lc.tM:∀(l:List Nat),Lc (tM l)
 | []=>Lc.pure _
 |_::r=>Lc.bind (Lc.rX _) fun _=>Lc.tM r
theorem Lc.tQ(by_:FuncId->Nat->Bool)(call:rA)(f:FuncId)(base:Nat)(l:List RV):Lc (tQ by_ call f base l):=by
 unfold Dw.tQ
 refine Lc.bind (Lc.vU _ _ _) fun x=>Lc.bind (Lc.uz _ _ _) fun ids=>Lc.bind (Lc.wM _) fun g=>?_
 split<;>first|exact Lc.fail|skip
 split<;>first|exact Lc.fail|exact Lc.bind (Lc.tM _) fun _=>Lc.pure _
theorem Lc.wL(id:Nat)(src dst:TypeId)(x:RV):Lc (wL P id src dst x):=by
 unfold Dw.wL
 split
 ·split<;>first|exact Lc.fail|exact Lc.bind (Lc.rX _) fun _=>Lc.rq _ _
 ·split<;>first|exact Lc.fail|skip
  refine Lc.bind (Lc.get _) fun f=>?_
  split<;>first|exact Lc.fail|skip
  refine iteInduction (motive:=Lc) (fun _=>?_) (fun _=>Lc.fail)
  split<;>first|exact Lc.fail|exact Lc.sn _
 ·split<;>first|exact Lc.fail|skip
  split<;>first|exact Lc.fail|exact Lc.sn _
 ·exact Lc.wN _
theorem Lc.vr(id:Nat)(t:TypeId):Lc (vr P id t):=by
 unfold Dw.vr
 split<;>first|exact Lc.fail|exact Lc.bind (Lc.rX _) fun _=>Lc.pure _
theorem Lc.uX(t:TypeId)(x k:RV)(ok:Bool):Lc (uX P t x k ok):=by
 unfold Dw.uX
 split<;>first|exact Lc.fail|skip
 refine Lc.bind (Lc.get _) fun f=>?_
 split<;>first|exact Lc.fail|skip
 split<;>first|exact Lc.fail|skip
 split<;>first|exact Lc.fail|(split<;>exact Lc.sn _)
theorem Lc.uY(t:TypeId)(x k v:RV):Lc (uY P t x k v):=by
 unfold Dw.uY
 split<;>first|exact Lc.fail|skip
 refine Lc.bind (Lc.get _) fun f=>?_
 split<;>first|exact Lc.fail|skip
 split<;>first|exact Lc.fail|skip
 refine Lc.bind (Lc.uB _) fun p=>?_
 obtain⟨p,u⟩:=p
 dsimp only
 split<;>first|exact Lc.fail|(split<;>first|exact Lc.fail|exact Lc.rq _ _|exact Lc.pure _)
theorem Lc.tq(id:Nat)(t:TypeId)(l c:RV):Lc (tq P id t l c):=by
 unfold Dw.tq
 split<;>first|exact Lc.fail|skip
 split<;>first|exact Lc.fail|exact Lc.bind (Lc.rX _) fun _=>Lc.rq _ _
theorem Lc.yT(id:Nat)(t f:TypeId)(a x:RV):Lc (yT P id t f a x):=by
 unfold Dw.yT
 split<;>first|exact Lc.fail|skip
 split<;>first|exact Lc.fail|exact Lc.bind (Lc.rX _) fun _=>Lc.rq _ _
theorem Lc.capD(t:TypeId)(x:RV):Lc (capD P t x):=by
 unfold Dw.capD
 split<;>first|exact Lc.fail|exact Lc.sn _
theorem Lc.ifcD(t:TypeId)(x:RV):Lc (ifcD P t x):=by
 unfold Dw.ifcD
 split<;>first|exact Lc.fail|exact Lc.sn _
theorem Lc.we(x:RV)(t:TypeId)(ok:Bool):Lc (we P x t ok):=by
 unfold Dw.we
 split<;>first|exact Lc.fail|skip
 exact iteInduction (motive:=Lc) (fun _=>Lc.sn _) (fun _=>Lc.fail)
theorem Lc.wz(mt:Hf)(call:rA)(base:Nat)(x:RV)(name:String)(as:List RV):Lc (wz P mt call base x name as):=by
 unfold Dw.wz
 split<;>first|exact Lc.fail|skip
 split<;>first|exact Lc.fail|exact Lc.tQ _ _ _ _ _|skip
 exact Lc.bind (Lc.uf P _ _) fun _=>Lc.tQ _ _ _ _ _
theorem Lc.rz(mt:Hf)(call:rA)(s:St)(o:Oper):Lc (rz P mt call s o):=by
 unfold Dw.rz
 split
 all_goals (try exact Lc.fail)
 all_goals (try exact Lc.xG P _ _)
 all_goals (split<;>first|exact Lc.fail|exact Lc.sn _|exact Lc.ifcD P _ _|exact Lc.we P _ _ _|exact Lc.boxD _ _|exact Lc.wW P _ _|exact Lc.tG P _ _ _ _ _|exact Lc.uf P _ _|exact Lc.vv P _ _ _|exact Lc.xD _ _|exact Lc.wN _|exact Lc.tk P _ _ _ _ _ _|exact Lc.ud P _ _ _|exact Lc.xJ P _ _ _|exact Lc.sx P _ _ _|exact Lc.w5 P _ _ _|exact Lc.minD _|exact Lc.maxD _|exact Lc.uX P _ _ _ _|exact Lc.uY P _ _ _ _|exact Lc.vr P _ _|exact Lc.tq P _ _ _ _|exact Lc.wL P _ _ _ _|skip)
 all_goals (split<;>first|exact Lc.fail|exact Lc.sn _|exact Lc.wz P _ _ _ _ _ _|exact Lc.yH P _ _|exact Lc.capD P _ _|exact Lc.sy P _ _ _ _ _|exact Lc.vM P _ _|exact Lc.zl P _ _ _ _ _|exact Lc.tk P _ _ _ _ _ _|exact Lc.tQ _ _ _ _ _|(split<;>first|exact Lc.fail|exact Lc.sn _|exact Lc.sy P _ _ _ _ _|exact Lc.yT P _ _ _ _ _))
end
theorem xR{s s':St}:∀{xs:List Operand},(∀x∈xs,s.opd x=s'.opd x)->tE s xs=tE s' xs
 | [],_=>rfl
 |x::xs,h=>by simp only [tE];rw [h x zc,xR fun y f=>h y (by simp [f])]
theorem vu{s s':St}:∀{xs:List (Nat×Operand)},(∀x∈xs.map (·.2),s.opd x=s'.opd x)->tj s xs=tj s' xs
 | [],_=>rfl
 |(i,x)::xs,h=>by simp only [tj];rw [h x zc,vu fun y f=>h y (by simp only [Ed,List.mem_cons];exact .inr f)]
theorem u4{s s':St}{x:Option Operand}(h:∀y∈x.toArray,s.opd y=s'.opd y):rH s x=rH s' x:=by
 cases x with
 |none=>rfl
 |some y=>simp only [rH];rw [h y zc]
theorem Co{P:Program}{mt:Hf}{call:rA}{s s':St}(o:Oper)(h:∀x∈o.op.operands,s.opd x=s'.opd x):rz P mt call s o=rz P mt call s' o:=by
 unfold rz
 rcases r:o.op with x|x|⟨c,x,y⟩|t|⟨t,x⟩|⟨t,parts⟩|⟨t,len,parts⟩|⟨t,m,k,x⟩|⟨t,x⟩|⟨t,x,y⟩|g|g|x|⟨op,t,x,y,t2⟩|⟨op,t,x⟩|⟨t,t2,x⟩|⟨t,x⟩|⟨t,x⟩|⟨fn,x,y⟩|⟨t,x⟩|⟨t,x⟩|⟨t,x,y⟩|⟨t,x,lo,hi,D⟩|⟨t,x,f⟩|⟨t,x,f⟩|⟨t,x,y⟩|⟨t,x,y⟩|⟨t,x,y,c⟩|⟨t,x,y,c⟩|⟨t,x,y⟩|⟨t,x,y,c⟩|⟨t,x⟩|⟨x,b⟩|x|⟨x,t,t2,b⟩|⟨x,i⟩|c|c|c|x|⟨x,y⟩|⟨t,x,b⟩|⟨cs,b⟩
 all_goals (simp only [r,Op.operands]at h)
 all_goals (try simp only)
 all_goals (try rw [h x zc])
 all_goals (try rw [h y zc])
 ·rw [h c zc]
 ·rw [vu fun x j=>h x (by simpa using j)]
 ·rw [vu fun x j=>h x (by simpa using j)]
 ·cases op<;>(try simp only)<;>rw [h x zc]
 ·rw [xR (s:=s) (s':=s') (xs:=y.toList) fun x j=>h x (by simp only [Er];exact .inr (by simpa using j))]
  cases tE s' y.toList with
  |none=>rfl
  |some l=>
  rcases j:x.toList with _|⟨u,_|⟨E,xs⟩⟩
  ·cases fn<;>rfl
  ·have B:s.opd u=s'.opd u:=h u (by simp only [Er];exact .inl (by rw [<-Array.mem_toList_iff,j];exact List.mem_singleton.2 rfl))
   cases fn<;>first|rfl|(simp only [];rw [B])
  ·cases fn<;>rfl
 ·rw [u4 (x:=x) fun y q=>h y (by simpa using q)]
 ·rw [u4 (x:=lo) fun y q=>h y (by simp only [Er];exact .inl (.inl (.inr q))),u4 (x:=hi) fun y q=>h y (by simp only [Er];exact .inl (.inr q)),u4 (x:=D) fun y q=>h y (by simp only [Er];exact .inr q)]
 ·rw [h c zc]
 ·have C:tE s c.args.toList=tE s' c.args.toList:=xR fun x j=>h x (by simp only [Call.operands,Er];exact .inr (by simpa using j))
  rw [C]
  cases hc:c.callee with
  |value f=>
   have hf:s.opd f=s'.opd f:=h f (by simp [Call.operands,hc])
   cases tE s' c.args.toList with
   |none=>rfl
   |some l=>simp only [hf]
  |invoke rc m=>
   have hf:s.opd rc=s'.opd rc:=h rc (by simp [Call.operands,hc])
   cases tE s' c.args.toList with
   |none=>rfl
   |some l=>simp only [hf]
  |builtin b=>
   cases tE s' c.args.toList with
   |none=>cases b<;>rfl
   |some l=>rcases l with _|⟨x,_|⟨y,_|⟨z,l⟩⟩⟩<;>cases b<;>rfl
end Go.Dw
namespace Go.Dw
theorem CM:∀(u:Ups)(s s':St)(id:Nat),id∈u.map (·.1)->(s.ups u).boxes id=(s'.ups u).boxes id
 | [],_,_,_,h=>by simp at h
 |(i,b)::r,s,s',id,h=>by
  rw [tL,tL]
  by_cases f:id∈r.map (·.1)
  ·exact CM r _ _ id f
  ·rw [tB _ _ _ f,tB _ _ _ f]
   have:id=i:=by simpa [f]using h
   subst this
   show upd s.boxes id b id=upd s'.boxes id b id
   rw [ru,ru]
theorem uh(s:St)(d:Option Nat)(v:RV):(s.put d v).boxes=s.boxes:=by cases d<;>rfl
theorem St.ext'{s s':St}(h1:s.rJ=s'.rJ)(f:s.boxes=s'.boxes):s=s':=by
 obtain⟨a,b⟩:=s
 obtain⟨c,d⟩:=s'
 simp only at h1 f
 subst h1;subst f
 rfl
theorem Az{s:St}{u1 u2:Ups}{d1 d2:Option Nat}{v1 v2:RV}(hu:zT (u1.map (·.1)) (u2.map (·.1))=true)(j:∀d,d1=some d->d2≠some d):
  ((((s.ups u1).put d1 v1).ups u2).put d2 v2)=((((s.ups u2).put d2 v2).ups u1).put d1 v1):=by
 have hu:=xl hu
 refine St.ext' ?_ ?_
 ·cases d1 with
  |none=>
   cases d2 with
   |none=>simp only [St.put,tY]
   |some e=>simp only [St.put,tY]
  |some d=>
   cases d2 with
   |none=>simp only [St.put,tY]
   |some e=>
    have g:d≠e:=fun he=>j d rfl (he▸rfl)
    simp only [St.put,tY]
    funext t
    by_cases h1:t=d
    ·subst h1;simp [g]
    ·by_cases f:t=e
     ·subst f;simp [h1]
     ·simp [h1,f]
 ·rw [uh,uh]
  funext id
  by_cases h1:id∈u1.map (·.1)
  ·have f:id∉u2.map (·.1):=hu id h1
   rw [tB _ _ _ f,uh]
   rw [CM u1 _ ((s.ups u2).put d2 v2) id h1]
  ·by_cases f:id∈u2.map (·.1)
   ·rw [tB u1 _ _ h1,uh]
    rw [CM u2 _ s id f]
   ·rw [tB _ _ _ f,uh,tB _ _ _ h1,tB _ _ _ h1,uh,tB _ _ _ f]
section
variable {P:Program}{mt:Hf}{call:rA}{ops:Array Oper}
theorem vH{o:Oper}{s s':St}{t:Tr}(h:step1 P mt call ops o s=some (s',t)):
  (ou ops s o=some true∧∃v u,rz P mt call s o s.boxes=some ((v,u),t.rd,true)∧s'=(s.ups u).put o.dst v∧t.wr=u.map (·.1))∨
  (ou ops s o=some false∧s'=s.put o.dst .undef∧t.rd=[]∧t.wr=[]):=by
 unfold step1 at h
 rcases hw:ou ops s o with _|w
 ·simp [hw]at h
 simp only [hw]at h
 cases w with
 |true=>
  simp only [if_true]at h
  rcases he:rz P mt call s o s.boxes with _|⟨⟨v,u⟩,rd,c⟩
  ·simp [he]at h
  simp only [he]at h
  cases c with
  |true=>
   simp only [if_true,DB,DD]at h
   obtain⟨rfl,rfl⟩:=h
   exact .inl ⟨rfl,v,u,rfl,rfl,rfl⟩
  |false=>simp at h
 |false=>
  simp only [Bool.false_eq_true,if_false,DB,DD]at h
  obtain⟨rfl,rfl⟩:=h
  exact .inr ⟨rfl,rfl,rfl,rfl⟩
theorem yo{o:Oper}{s:St}{v:RV}{u:Ups}{rd:List Nat}(hw:ou ops s o=some true)(he:rz P mt call s o s.boxes=some ((v,u),rd,true)):
  step1 P mt call ops o s=some ((s.ups u).put o.dst v,⟨rd,u.map (·.1)⟩):=by
 unfold step1;simp [hw,he]
theorem xX{o:Oper}{s:St}(hw:ou ops s o=some false):step1 P mt call ops o s=some (s.put o.dst .undef,⟨[],[]⟩):=by
 unfold step1;simp [hw]
theorem vJ{o:Oper}{s s':St}(h:∀t∈o.looksAt ops,s.rJ t=s'.rJ t):ou ops s o=ou ops s' o:=by
 unfold ou
 cases f:o.guard with
 |none=>rfl
 |some g=>
  obtain⟨j,want⟩:=g
  simp only
  cases k:(ops[j]?).bind (·.dst)with
  |none=>rfl
  |some t=>
   simp only
   rw [h t (by simp [Oper.looksAt,f,k])]
theorem zX{o:Oper}{s s':St}(h:∀t∈o.looksAt ops,s.rJ t=s'.rJ t):rz P mt call s o=rz P mt call s' o:=by
 refine Co o fun x j=>?_
 cases x with
 |tmp t=>exact h t (List.mem_append_left _ (List.mem_filterMap.2 ⟨.tmp t,by simpa using j,rfl⟩))
 |const v=>rfl
 |global g=>rfl
 |func f=>rfl
theorem B7{o:Oper}{s s1 s':St}{t:Tr}{d:Option Nat}{u:Ups}{v:RV}(h:step1 P mt call ops o s1=some (s',t))(hs:s1=(s.ups u).put d v)
  (B:∀e,d=some e->e∉o.looksAt ops) (hu:zT (u.map (·.1)) t.rd=true):
  ∃v' k,t.wr=k.map (·.1)∧s'=(s1.ups k).put o.dst v'∧step1 P mt call ops o s=some ((s.ups k).put o.dst v',t):=by
 have f:∀t∈o.looksAt ops,s1.rJ t=s.rJ t:=by
  intro t C
  subst hs
  cases d with
  |none=>simp only [St.put,tY]
  |some e=>
   have:t≠e:=fun he=>B e rfl (he▸C)
   simp only [St.put,tY,this,if_false]
 have hu:=xl hu
 rcases vH h with⟨hw,v',k,he,h1,j⟩|⟨hw,h1,j,q⟩
 ·have g:ou ops s o=some true:=by rw [<-vJ f];exact hw
  have r:rz P mt call s o s.boxes=some ((v',k),t.rd,true):=by
   rw [<-zX (P:=P) (mt:=mt) (call:=call) f]
   refine Lc.rz P mt call s1 o _ _ _ _ _ he fun id hid=>?_
   subst hs
   rw [uh,tB _ _ _ (fun hm=>hu id hm hid)]
  refine⟨v',k,j,h1,?_⟩
  rw [yo g r]
  obtain⟨rd,wr⟩:=t
  simp only at j
  rw [j]
 ·have g:ou ops s o=some false:=by rw [<-vJ f];exact hw
  refine⟨.undef,[],by rw [q];rfl,h1,?_⟩
  rw [xX g]
  obtain⟨rd,wr⟩:=t
  simp only at j q
  rw [j,q]
  rfl
theorem commute{x y:Oper}{s s1 s2:St}{r ty:Tr}(h1:step1 P mt call ops x s=some (s1,r))(Q:step1 P mt call ops y s1=some (s2,ty))(hp:yL ops (x,r) (y,ty)=true):
  ∃O,step1 P mt call ops y s=some (O,ty)∧step1 P mt call ops x O=some (s2,r):=by
 simp only [yL,Bool.and_eq_true]at hp
 obtain⟨⟨⟨F,G⟩,k⟩,H⟩:=hp
 obtain⟨a1,a2,a3⟩:=Oper.apart_spec F
 have U:∃v u,s1=(s.ups u).put x.dst v∧r.wr=u.map (·.1):=by
  rcases vH h1 with⟨_,v,u,_,j,g⟩|⟨_,j,_,g⟩
  ·exact⟨v,u,j,g⟩
  ·exact⟨.undef,[],j,by rw [g];rfl⟩
 obtain⟨Y,X,K,L⟩:=U
 obtain⟨C,B,E,D,W⟩:=B7 Q K a1 (by rw [<-L];exact G)
 refine⟨_,W,?_⟩
 have f:∀t∈x.looksAt ops,((s.ups B).put y.dst C).rJ t=s.rJ t:=by
  intro t T
  cases I:y.dst with
  |none=>simp only [St.put,tY]
  |some e=>
   have:t≠e:=fun he=>a3 e I (he▸T)
   simp only [St.put,tY,this,if_false]
 have k:=xl k
 rcases vH h1 with⟨hw,v,u,he,j,g⟩|⟨hw,j,g,N⟩
 ·have q:ou ops ((s.ups B).put y.dst C) x=some true:=by rw [vJ f];exact hw
  have J:rz P mt call ((s.ups B).put y.dst C) x ((s.ups B).put y.dst C).boxes=some ((v,u),r.rd,true):=by
   rw [zX (P:=P) (mt:=mt) (call:=call) f]
   refine Lc.rz P mt call s x _ _ _ _ _ he fun id hid=>?_
   rw [uh,tB _ _ _ (fun hm=>k id (by rw [E];exact hm) hid)]
  rw [yo q J,D,j]
  rw [Az (by rw [<-g, <-E];exact H) a2]
  obtain⟨rd,wr⟩:=r
  simp only at g
  rw [g]
 ·have q:ou ops ((s.ups B).put y.dst C) x=some false:=by rw [vJ f];exact hw
  rw [xX q,D,j]
  have:=Az (s:=s) (u1:=[]) (u2:=B) (d1:=x.dst) (d2:=y.dst) (v1:= .undef) (v2:=C) (by rfl) a2
  simp only [St.ups]at this
  rw [this]
  obtain⟨rd,wr⟩:=r
  simp only at g N
  rw [g,N]
theorem wm{o:Oper}{r:List Oper}{s sF:St}{ts:List Tr}(h:tC P mt call ops (o::r) s=some (sF,ts)):
  ∃s1 t f,step1 P mt call ops o s=some (s1,t)∧tC P mt call ops r s1=some (sF,f)∧ts=t::f:=by
 unfold tC at h
 rcases h1:step1 P mt call ops o s with _|⟨s1,t⟩
 ·simp [h1]at h
 simp only [h1]at h
 rcases g:tC P mt call ops r s1 with _|⟨s2,f⟩
 ·simp [g]at h
 simp only [g,DB,DD]at h
 exact⟨s1,t,f,rfl,by rw [g,h.1],h.2.symm⟩
theorem evOps_mk{o:Oper}{r:List Oper}{s s1 sF:St}{t:Tr}{ts:List Tr}(h1:step1 P mt call ops o s=some (s1,t))(f:tC P mt call ops r s1=some (sF,ts)):
  tC P mt call ops (o::r) s=some (sF,t::ts):=by
 unfold tC;simp [h1,f]
theorem yY:∀(f:List (Oper×Tr)){o:Oper}{t:Tr}{g:List (Oper×Tr)}{s sF:St},
  tC P mt call ops ((f++(o,t)::g).map (·.1)) s=some (sF,(f++(o,t)::g).map (·.2))->(∀x∈f,yL ops x (o,t)=true)->
  ∃s1,step1 P mt call ops o s=some (s1,t)∧tC P mt call ops ((f++g).map (·.1)) s1=some (sF,(f++g).map (·.2))
 | [],o,t,g,s,sF,h,_=>by
  simp only [List.nil_append,Ed]at h
  obtain⟨s1,F,q,h1,j,k⟩:=wm h
  cases k
  exact⟨s1,h1,j⟩
 |(x,G)::f,o,t,g,s,sF,h,hp=>by
  simp only [En,Ed]at h
  obtain⟨s1,F,q,h1,j,k⟩:=wm h
  cases k
  obtain⟨s2,r,u⟩:=yY f j (fun y D=>hp y (by simp [D]))
  obtain⟨E,B,C⟩:=commute h1 r (hp (x,G) zc)
  exact⟨E,B,by simp only [En,Ed];exact evOps_mk C u⟩
theorem zC:∀(l:List Oper)(acc:List Nat)(i:Nat),i<acc.length->(zB l acc).getD i 0=acc.getD i 0
 | [],acc,i,_=>rfl
 |o::r,acc,i,h=>by
  rw [zB,zC r _ i so]
  simp only [Eo]
  rw [DP h]
theorem Aa(acc:List Nat):∀(es:List Edge)(b j:Nat),(es.foldl (fun b e=>if Region.binds .any e then b ||| (2 ^ e.on ||| acc.getD e.on 0)else b) b).testBit j=true->
  b.testBit j=true∨∃e∈es,Region.binds .any e=true∧(e.on=j∨(acc.getD e.on 0).testBit j=true)
 | [],b,j,h=>.inl h
 |e::es,b,j,h=>by
  simp only [List.foldl_cons]at h
  rcases Aa acc es _ j h with h1|⟨g,h1,k,q⟩
  ·by_cases f:Region.binds .any e=true
   ·simp only [f,if_true,Nat.testBit_or,Bool.or_eq_true,Nat.testBit_two_pow,decide_eq_true_eq]at h1
    rcases h1 with h1|h1|h1
    ·exact .inl h1
    ·exact .inr ⟨e,zc,f,.inl h1⟩
    ·exact .inr ⟨e,zc,f,.inr h1⟩
   ·simp only [f]at h1;exact .inl h1
  ·exact .inr ⟨g,by simp [h1],k,q⟩
theorem yx:∀(l:List Oper)(acc:List Nat)(i:Nat)(o:Oper),l[i]? =some o->∀j,((zB l acc).getD (acc.length+i) 0).testBit j=true->
  ∃e∈o.after,Region.binds .any e=true∧(e.on=j∨(e.on<acc.length+i∧((zB l acc).getD e.on 0).testBit j=true))
 | [],acc,i,o,h,_,_=>by simp at h
 |x::r,acc,0,o,h,j,g=>by
  simp only [List.getElem?_cons_zero,DB]at h
  subst h
  rw [zB,Nat.add_zero,zC r _ acc.length zc]at g
  simp only [Eo,List.getElem?_concat_length,Option.getD_some]at g
  rcases Aa acc x.after.toList 0 j g with h1|⟨e,h1,q,f⟩
  ·simp at h1
  ·refine⟨e,by simpa using h1,q,?_⟩
   rcases f with f|f
   ·exact .inl f
   ·by_cases k:e.on<acc.length
    ·refine .inr ⟨za,?_⟩
     rw [zB,zC r _ e.on so]
     simp only [Eo]at f⊢
     rw [DP k]
     exact f
    ·rw [Eo,List.getElem?_eq_none za]at f
     simp at f
 |x::r,acc,i+1,o,h,j,g=>by
  simp only [List.getElem?_cons_succ]at h
  rw [zB]at g⊢
  have := yx r (acc ++ [x.after.toList.foldl (fun b e => if Region.binds .any e then b ||| (2 ^ e.on ||| acc.getD e.on 0) else b) 0]) i o h j (by
   simp only [ET,Ep]
   rw [show acc.length+1+i=acc.length+(i+1)by omega]
   exact g)
  simp only [ET,Ep]at this
  rw [show acc.length+1+i=acc.length+(i+1)by omega]at this
  exact this
theorem Ca{listed:Array Bool}(f:∀(i:Nat)o,ops[i]? =some o->listed.getD i false=true->∀e∈o.after,Region.binds .any e=true->listed.getD e.on false=true)(D:listed.size=ops.size):
  ∀(n i:Nat)(o:Oper),i<=n->ops[i]? =some o->(∀e∈o.after,Region.binds .any e=true->listed.getD e.on false=true)->∀j,((zB ops.toList []).getD i 0).testBit j=true->listed.getD j false=true:=by
 intro n
 induction n with
 |zero=>
  intro i o hi ho he j r
  have B:i=0:=by omega
  subst B
  obtain⟨e,h1,q,g⟩:=yx ops.toList [] 0 o (by simpa using ho) j (by simpa using r)
  rcases g with rfl|⟨g,_⟩
  ·exact he e h1 q
  ·simp at g
 |succ n E=>
  intro i o hi ho he j r
  obtain⟨e,h1,q,g⟩:=yx ops.toList [] i o (by simpa using ho) j (by simpa using r)
  rcases g with rfl|⟨g,C⟩
  ·exact he e h1 q
  ·simp only [List.length_nil,Nat.zero_add]at g
   have hl:=he e h1 q
   have u:e.on<ops.size:=by
    rcases Nat.lt_or_ge e.on listed.size with h|h
    ·omega
    ·simp [Array.getElem?_eq_none h]at hl
   have k:ops[e.on]? =some ops[e.on]:=Array.getElem?_eq_getElem u
   exact E e.on _ za k (f e.on _ k hl) j C
end
end Go.Dw
