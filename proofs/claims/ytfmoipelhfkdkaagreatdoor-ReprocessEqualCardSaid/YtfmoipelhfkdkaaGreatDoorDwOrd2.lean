
import Derived.Test.YtfmoipelhfkdkaaGreatDoorDwOp
set_option linter.unusedVariables false
set_option linter.unusedSimpArgs false
open Option.some renaming injEq->DJ
open Prod.mk renaming injEq->DL
open List renaming cons_append->FN, getD_eq_getElem?_getD->FO, getElem?_append_left->DX, length_append->Ec, length_singleton->FP, map_cons->FC
open Array renaming mem_append->FQ

namespace Go.Dw
def Lc{α:Type}(m:M α):Prop:=∀b b' a r c,m b=some (a,r,c)->(∀id∈r,b' id=b id)->m b'=some (a,r,c)
theorem Lc.pure{α:Type}(a:α):Lc (M.pure a):=fun _ _ _ _ _ h _=>h
theorem Lc.rG{α:Type}(k:Bool)(a:α):Lc (M.rG k a):=fun _ _ _ _ _ h _=>h
theorem Lc.fail{α:Type}:Lc (M.fail:M α):=fun _ _ _ _ _ h _=>h
theorem Lc.get(id:Nat):Lc (M.get id):=by
 intro b b' a r c h j
 obtain⟨h1,f,g⟩:=M.get_some h
 subst f;subst g
 simp [M.get,j id zc,h1]
theorem Lc.si(id:Nat):Lc (M.si id):=by
 intro b b' a r c h j
 obtain⟨h1,f,g⟩:=M.sZ h
 subst f;subst g
 simp [M.si,j id zc,h1]
theorem Lc.bind{α β:Type}{m:M α}{f:α->M β}(hm:Lc m)(hf:∀a,Lc (f a)):Lc (M.bind m f):=by
 intro b b' x r c h j
 unfold M.bind at h⊢
 rcases h1:m b with _|⟨a,u,k⟩
 ·simp [h1]at h
 simp only [h1]at h
 rcases g:f a b with _|⟨y,C,q⟩
 ·simp [g]at h
 simp only [g,DJ,DL]at h
 obtain⟨rfl,rfl,rfl⟩:=h
 rw [hm b b' a u k h1 (fun id hid=>j id (List.mem_append.2 (.inl hid)))]
 simp only [hf a b b' y C q g (fun id hid=>j id (List.mem_append.2 (.inr hid)))]
theorem Lc.sQ(v:RV):Lc (sQ v):=Lc.pure _
theorem Lc.se(k:Bool)(v:RV):Lc (se k v):=Lc.rG _ _
theorem Lc.wZ(o:Option (PD×Bool)):Lc (wZ o):=by unfold Dw.wZ;split<;>first|exact Lc.rG _ _|exact Lc.fail
theorem Lc.yH(v:RV):Lc (yH v):=by
 unfold Dw.yH
 split<;>first|exact Lc.pure _|exact Lc.fail|skip
 all_goals refine Lc.bind (Lc.get _) fun f=>?_
 all_goals (split<;>first|exact Lc.fail|skip)
 all_goals (split<;>first|exact Lc.pure _|exact Lc.rG _ _|exact Lc.fail)
theorem Lc.vU:∀(cs:List RV),Lc (vU cs)
 | []=>Lc.pure _
 |c::cs=>Lc.bind (Lc.yH c) fun _=>Lc.bind (Lc.vU cs) fun _=>Lc.pure _
theorem Lc.uL(v:RV):Lc (uL v):=by
 unfold Dw.uL
 split
 ·exact Lc.bind (Lc.vU _) fun _=>Lc.pure _
 ·exact Lc.yH _
section
variable (P:Program)
theorem Lc.uG(t:TypeId)(cs:List PD):Lc (uG P t cs):=by
 unfold Dw.uG
 split<;>first|exact Lc.fail|exact Lc.se _ _|skip
 split<;>first|exact Lc.fail|exact Lc.sQ _
theorem Lc.uH(t:TypeId)(cs:List RV)(o:Nat):Lc (uH P t cs o):=by
 unfold Dw.uH
 split<;>first|exact Lc.fail|exact Lc.se _ _|skip
 split<;>first|exact Lc.fail|exact Lc.sQ _
theorem Lc.uw(t:TypeId)(a:RV):Lc (uw P t a):=by
 unfold Dw.uw
 split
 ·exact Lc.uG P t _
 ·split<;>first|exact Lc.fail|exact Lc.sQ _
 ·refine Lc.bind (Lc.get _) fun f=>?_
  split<;>first|exact Lc.uH P t _ _|exact Lc.fail
 ·refine Lc.bind (Lc.get _) fun f=>?_
  split<;>first|exact Lc.fail|skip
  ·split<;>first|exact Lc.fail|skip
   split<;>first|exact Lc.fail|exact Lc.uG P t _
  ·split<;>first|exact Lc.fail|skip
   split<;>first|exact Lc.fail|exact Lc.sQ _
  ·split<;>first|exact Lc.fail|skip
   split<;>first|exact Lc.fail|exact Lc.sQ _
 ·exact Lc.fail
theorem Lc.vL(t:TypeId)(a v:RV):Lc (vL P t a v):=by
 unfold Dw.vL
 split<;>first|exact Lc.fail|skip
 split
 ·refine Lc.bind (Lc.get _) fun f=>?_
  split<;>first|exact Lc.rG _ _|exact Lc.fail|skip
 ·refine Lc.bind (Lc.get _) fun f=>?_
  split<;>first|exact Lc.fail|skip
  ·split<;>first|exact Lc.fail|skip
   refine Lc.bind (Lc.uL _) fun p=>?_
   obtain⟨p,u⟩:=p
   dsimp only
   split<;>first|exact Lc.fail|skip
   split<;>first|exact Lc.fail|exact Lc.rG _ _
  ·exact iteInduction (motive:=Lc) (fun _=>Lc.rG _ _) (fun _=>Lc.fail)
  ·exact iteInduction (motive:=Lc) (fun _=>Lc.rG _ _) (fun _=>Lc.fail)
 ·exact Lc.fail
theorem Lc.xR(off:Nat)(x:RV):Lc (xR off x):=by
 unfold Dw.xR
 split
 ·refine Lc.bind (Lc.get _) fun f=>?_
  split<;>first|exact Lc.sQ _|exact Lc.fail
 ·refine Lc.bind (Lc.get _) fun f=>?_
  split<;>first|exact Lc.fail|skip
  all_goals (split<;>first|exact Lc.sQ _|exact Lc.fail)
 ·exact Lc.sQ _
 ·exact Lc.fail
theorem Lc.uu(t:TypeId)(x:RV)(f:Nat):Lc (uu P t x f):=by
 unfold Dw.uu
 split<;>first|exact Lc.fail|skip
 split<;>first|exact Lc.fail|exact Lc.xR _ _
theorem Lc.xX(t:TypeId)(x:RV)(f:Nat):Lc (xX P t x f):=by
 unfold Dw.xX
 split<;>first|exact Lc.fail|exact Lc.uH P _ _ _
theorem Lc.xZ(x i:RV):Lc (xZ x i):=by
 unfold Dw.xZ
 repeat' split
 all_goals first|exact Lc.se _ _|exact Lc.fail
theorem Lc.yS(len:Nat)(e:TypeId)(x i:RV):Lc (yS P len e x i):=by
 unfold Dw.yS
 repeat' split
 all_goals first|exact Lc.bind (Lc.rG _ _) fun _=>Lc.uH _ _ _ _|exact Lc.fail
theorem Lc.xi(t:TypeId)(x i:RV):Lc (xi P t x i):=by
 unfold Dw.xi
 repeat' split
 all_goals first|exact Lc.xZ _ _|exact Lc.yS _ _ _ _ _|exact Lc.fail
theorem Lc.tc(t:TypeId)(x i:RV):Lc (tc P t x i):=by
 unfold Dw.tc
 split
 ·split<;>first|exact Lc.fail|skip
  split<;>first|exact Lc.fail|exact Lc.se _ _|skip
  all_goals refine Lc.bind (Lc.get _) fun f=>?_
  all_goals (split<;>first|exact Lc.fail|exact Lc.se _ _|skip)
  all_goals (split<;>first|exact Lc.fail|exact Lc.se _ _)
 ·split<;>first|exact Lc.fail|skip
  exact Lc.bind (Lc.rG _ _) fun _=>Lc.xR _ _
 ·exact Lc.fail
theorem Lc.sliceB(e:TypeId)(id ver a b:Nat)(lo hi:Option RV):Lc (sliceB P e id ver a b lo hi):=by
 unfold Dw.sliceB
 split<;>first|exact Lc.fail|skip
 refine Lc.bind (Lc.get _) fun f=>?_
 split<;>first|exact Lc.fail|skip
 split<;>first|exact Lc.fail|exact Lc.se _ _
theorem Lc.zj(f:Nat)(e:TypeId)(n:Nat)(lo hi g:Option RV):Lc (zj P f e n lo hi g):=by
 unfold Dw.zj
 split<;>first|exact Lc.fail|skip
 split<;>first|exact Lc.fail|exact Lc.bind (Lc.si _) fun _=>Lc.rG _ _
theorem Lc.yh(id:Nat)(a:TypeId):Lc (yh P id a):=by
 unfold Dw.yh
 split<;>first|exact Lc.fail|skip
 split<;>first|exact Lc.fail|skip
 refine Lc.bind (Lc.get _) fun f=>?_
 split<;>first|exact Lc.fail|skip
 split<;>first|exact Lc.fail|skip
 split<;>first|exact Lc.fail|exact Lc.rG _ _
theorem Lc.yj(e:TypeId)(id ver:Nat)(lo hi:Option RV)(f:RV):Lc (yj P e id ver lo hi f):=by
 unfold Dw.yj
 split<;>first|exact Lc.fail|skip
 split<;>first|exact Lc.fail|skip
 refine Lc.bind (Lc.get _) fun g=>?_
 split<;>first|exact Lc.fail|skip
 split<;>first|exact Lc.fail|exact Lc.rG _ _
theorem Lc.yi(a:TypeId)(cs:List PD):Lc (yi P a cs):=by
 unfold Dw.yi
 split<;>first|exact Lc.fail|skip
 split<;>first|exact Lc.fail|skip
 split<;>first|exact Lc.fail|exact Lc.rG _ _
theorem Lc.Au(e:TypeId)(es:List PD)(h m:Int):Lc (Au P e es h m):=by
 unfold Dw.Au
 split<;>first|exact Lc.fail|skip
 split<;>first|exact Lc.fail|exact Lc.rG _ _
theorem Lc.zF(t:TypeId)(x:RV)(lo hi f:Option RV):Lc (zF P t x lo hi f):=by
 unfold Dw.zF
 split<;>first|exact Lc.fail|exact Lc.Au P _ _ _ _|skip
 split<;>first|exact Lc.fail|skip
 refine Lc.bind (Lc.get _) fun g=>?_
 split<;>first|exact Lc.fail|skip
 split<;>first|exact Lc.fail|exact Lc.rG _ _
theorem Lc.tC(f:Nat)(t:TypeId)(x:RV)(lo hi g:Option RV):Lc (tC P f t x lo hi g):=by
 unfold Dw.tC
 split
 ·refine Lc.bind (Lc.get _) fun j=>?_
  split<;>first|exact Lc.fail|exact Lc.sliceB P _ _ _ _ _ _ _
 ·exact Lc.sliceB P _ _ _ _ _ _ _
 ·split<;>first|exact Lc.fail|exact Lc.yh P _ _
 ·split<;>first|exact Lc.fail|exact Lc.yi P _ _
 ·split<;>first|exact Lc.fail|(split<;>first|exact Lc.pure _|exact Lc.fail)
 ·exact Lc.zj P _ _ _ _ _ _
 ·exact Lc.yj P _ _ _ _ _ _
 all_goals first|exact Lc.fail|(split<;>first|exact Lc.fail|exact Lc.se _ _)
theorem Lc.xc(t:TypeId)(l:List (Nat×RV)):Lc (xc P t l):=by
 unfold Dw.xc
 split
 ·split<;>first|exact Lc.fail|skip
  split<;>first|exact Lc.fail|exact Lc.se _ _
 ·split<;>first|exact Lc.fail|skip
  split<;>first|exact Lc.fail|exact Lc.se _ _
 ·exact Lc.fail
theorem Lc.yb(mt:Bool)(cs:List RV):Lc (yb mt cs):=by
 unfold Dw.yb
 split
 ·exact Lc.pure _
 ·exact Lc.vU _
theorem Lc.tR(mt:Bool)(id:Nat)(t:TypeId)(len:Nat)(l:List (Nat×RV)):Lc (tR P mt id t len l):=by
 unfold Dw.tR
 split<;>first|exact Lc.fail|skip
 split<;>first|exact Lc.fail|skip
 split<;>first|exact Lc.fail|skip
 split<;>first|exact Lc.fail|skip
 refine iteInduction (motive:=Lc) (fun _=>Lc.rG _ _) (fun _=>?_)
 refine Lc.bind (Lc.yb _ _) fun p=>?_
 obtain⟨ps,u⟩:=p
 dsimp only
 split
 ·exact Lc.bind (Lc.si _) fun _=>Lc.rG _ _
 ·exact Lc.rG _ _
theorem Lc.xU(id:Nat)(t:TypeId):Lc (xU P id t):=by
 unfold Dw.xU
 split<;>first|exact Lc.fail|exact Lc.bind (Lc.si _) fun _=>Lc.pure _
theorem Lc.boxD(id:Nat)(v:RV):Lc (boxD id v):=Lc.bind (Lc.si _) fun _=>Lc.rG _ _
theorem Lc.yW(t:TypeId)(x:RV):Lc (yW P t x):=by
 unfold Dw.yW
 split<;>first|exact Lc.fail|exact Lc.sQ _|skip
 all_goals refine Lc.bind (Lc.get _) fun f=>?_
 all_goals (split<;>first|exact Lc.fail|exact Lc.sQ _|skip)
 all_goals (split<;>first|exact Lc.fail|exact Lc.sQ _|exact Lc.se _ _)
theorem Lc.sq(x:RV):Lc (sq x):=by
 unfold Dw.sq
 split<;>first|exact Lc.fail|exact Lc.pure _|skip
 all_goals refine Lc.bind (Lc.get _) fun f=>?_
 all_goals (split<;>first|exact Lc.fail|skip)
 all_goals (split<;>first|exact Lc.fail|exact Lc.pure _|exact Lc.rG _ _)
theorem Lc.te(id:Nat)(t t':TypeId)(s x:RV):Lc (te P id t t' s x):=by
 unfold Dw.te
 split<;>first|exact Lc.fail|skip
 split<;>first|exact Lc.fail|skip
 split<;>first|exact Lc.fail|skip
 refine Lc.bind (Lc.sq _) fun xs=>?_
 split
 ·exact Lc.bind (Lc.si _) fun _=>Lc.rG _ _
 ·refine Lc.bind (Lc.get _) fun f=>?_
  split<;>first|exact Lc.fail|skip
  all_goals (split<;>first|exact Lc.fail|exact Lc.rG _ _)
 ·refine Lc.bind (Lc.get _) fun f=>?_
  split<;>first|exact Lc.fail|skip
  split<;>first|exact Lc.fail|exact Lc.rG _ _
 ·exact Lc.rG _ _
 ·exact Lc.fail
theorem Lc.yw(x:RV):Lc (yw x):=by
 unfold Dw.yw
 split<;>first|exact Lc.fail|skip
 all_goals refine Lc.bind (Lc.get _) fun f=>?_
 all_goals (split<;>first|exact Lc.fail|skip)
 all_goals (split<;>first|exact Lc.fail|exact Lc.pure _|exact Lc.rG _ _)
theorem Lc.xO(t:TypeId)(x y:RV):Lc (xO P t x y):=by
 unfold Dw.xO
 split<;>first|exact Lc.fail|skip
 split<;>first|exact Lc.fail|skip
 exact Lc.bind (Lc.yw _) fun _=>Lc.bind (Lc.sq _) fun _=>Lc.rG _ _
theorem Lc.vY(t:TypeId)(x:RV):Lc (vY P t x):=by
 unfold Dw.vY
 split<;>first|exact Lc.fail|skip
 split<;>first|exact Lc.fail|skip
 exact Lc.bind (Lc.yw _) fun _=>Lc.rG _ _
theorem Lc.minD(l:List RV):Lc (minD l):=by
 unfold Dw.minD
 split<;>first|exact Lc.fail|skip
 split<;>first|exact Lc.fail|exact Lc.pure _
theorem Lc.maxD(l:List RV):Lc (maxD l):=by
 unfold Dw.maxD
 split<;>first|exact Lc.fail|skip
 split<;>first|exact Lc.fail|exact Lc.pure _
theorem Lc.argD(by_:Bool)(v:RV):Lc (argD by_ v):=by
 unfold Dw.argD
 split<;>first|exact Lc.pure _|exact Lc.bind (Lc.uL _) fun _=>Lc.rG _ _|(split<;>first|exact Lc.pure _|exact Lc.bind (Lc.uL _) fun _=>Lc.pure _|exact Lc.bind (Lc.uL _) fun _=>Lc.rG _ _)
theorem Lc.wi(by_:Nat->Bool):∀(i:Nat)(l:List RV),Lc (wi by_ i l)
 |_,[]=>Lc.pure _
 |i,v::r=>Lc.bind (Lc.argD _ v) fun _=>Lc.bind (Lc.wi by_ (i+1) r) fun _=>Lc.pure _
theorem Lc.uJ:∀(n:Nat)(done todo:List Nat),Lc (uJ n done todo)
 |0,_,_=>Lc.fail
 |_+1,_,[]=>Lc.pure _
 |n+1,done,i::todo=>by
  unfold Dw.uJ
  split
  ·exact Lc.uJ n _ _
  ·exact Lc.bind (Lc.get _) fun _=>Lc.uJ n _ _
theorem Lc.wY:∀(l:List Nat),Lc (wY l)
 | []=>Lc.pure _
 |_::r=>Lc.bind (Lc.get _) fun _=>Lc.bind (Lc.wY r) fun _=>Lc.pure _
theorem Lc.tX:∀(l:List Nat),Lc (tX l)
 | []=>Lc.pure _
 |_::r=>Lc.bind (Lc.si _) fun _=>Lc.tX r
theorem Lc.uc(by_:FuncId->Nat->Bool)(call:rO)(f:FuncId)(base:Nat)(l:List RV):Lc (uc by_ call f base l):=by
 unfold Dw.uc
 refine Lc.bind (Lc.wi _ _ _) fun x=>Lc.bind (Lc.uJ _ _ _) fun ids=>Lc.bind (Lc.wY _) fun g=>?_
 split<;>first|exact Lc.fail|skip
 split<;>first|exact Lc.fail|exact Lc.bind (Lc.tX _) fun _=>Lc.pure _
theorem Lc.wX(id:Nat)(src dst:TypeId)(x:RV):Lc (wX P id src dst x):=by
 unfold Dw.wX
 split
 ·split<;>first|exact Lc.fail|exact Lc.bind (Lc.si _) fun _=>Lc.rG _ _
 ·split<;>first|exact Lc.fail|skip
  refine Lc.bind (Lc.get _) fun f=>?_
  split<;>first|exact Lc.fail|skip
  refine iteInduction (motive:=Lc) (fun _=>?_) (fun _=>Lc.fail)
  split<;>first|exact Lc.fail|exact Lc.sQ _
 ·split<;>first|exact Lc.fail|skip
  split<;>first|exact Lc.fail|exact Lc.sQ _
 ·exact Lc.wZ _
theorem Lc.vJ(id:Nat)(t:TypeId):Lc (vJ P id t):=by
 unfold Dw.vJ
 split<;>first|exact Lc.fail|exact Lc.bind (Lc.si _) fun _=>Lc.pure _
theorem Lc.vr(t:TypeId)(x k:RV)(ok:Bool):Lc (vr P t x k ok):=by
 unfold Dw.vr
 split<;>first|exact Lc.fail|skip
 refine Lc.bind (Lc.get _) fun f=>?_
 split<;>first|exact Lc.fail|skip
 split<;>first|exact Lc.fail|skip
 split<;>first|exact Lc.fail|(split<;>exact Lc.sQ _)
theorem Lc.vu(t:TypeId)(x k v:RV):Lc (vu P t x k v):=by
 unfold Dw.vu
 split<;>first|exact Lc.fail|skip
 refine Lc.bind (Lc.get _) fun f=>?_
 split<;>first|exact Lc.fail|skip
 split<;>first|exact Lc.fail|skip
 refine Lc.bind (Lc.uL _) fun p=>?_
 obtain⟨p,u⟩:=p
 dsimp only
 split<;>first|exact Lc.fail|(split<;>first|exact Lc.fail|exact Lc.rG _ _|exact Lc.pure _)
theorem Lc.tH(id:Nat)(t:TypeId)(l c:RV):Lc (tH P id t l c):=by
 unfold Dw.tH
 split<;>first|exact Lc.fail|skip
 split<;>first|exact Lc.fail|exact Lc.bind (Lc.si _) fun _=>Lc.rG _ _
theorem Lc.zp(id:Nat)(t t':TypeId)(a x:RV):Lc (zp P id t t' a x):=by
 unfold Dw.zp
 split<;>first|exact Lc.fail|skip
 split<;>first|exact Lc.fail|exact Lc.bind (Lc.si _) fun _=>Lc.rG _ _
theorem Lc.capD(t:TypeId)(x:RV):Lc (capD P t x):=by
 unfold Dw.capD
 split<;>first|exact Lc.fail|exact Lc.sQ _
theorem Lc.ifcD(t:TypeId)(x:RV):Lc (ifcD P t x):=by
 unfold Dw.ifcD
 split<;>first|exact Lc.fail|exact Lc.sQ _
theorem Lc.wz(x:RV)(t:TypeId)(ok:Bool):Lc (wz P x t ok):=by
 unfold Dw.wz
 split<;>first|exact Lc.fail|skip
 exact iteInduction (motive:=Lc) (fun _=>Lc.sQ _) (fun _=>Lc.fail)
theorem Lc.wK(mt:Hf)(call:rO)(base:Nat)(x:RV)(name:String)(as:List RV):Lc (wK P mt call base x name as):=by
 unfold Dw.wK
 split<;>first|exact Lc.fail|skip
 split<;>first|exact Lc.fail|exact Lc.uc _ _ _ _ _|skip
 exact Lc.bind (Lc.uw P _ _) fun _=>Lc.uc _ _ _ _ _
theorem Lc.rN(mt:Hf)(call:rO)(s:St)(o:Oper):Lc (rN P mt call s o):=by
 unfold Dw.rN
 split
 all_goals (try exact Lc.fail)
 all_goals (try exact Lc.xU P _ _)
 all_goals (split<;>first|exact Lc.fail|exact Lc.sQ _|exact Lc.ifcD P _ _|exact Lc.wz P _ _ _|exact Lc.boxD _ _|exact Lc.xc P _ _|exact Lc.tR P _ _ _ _ _|exact Lc.uw P _ _|exact Lc.vL P _ _ _|exact Lc.xR _ _|exact Lc.wZ _|exact Lc.tC P _ _ _ _ _ _|exact Lc.uu P _ _ _|exact Lc.xX P _ _ _|exact Lc.tc P _ _ _|exact Lc.xi P _ _ _|exact Lc.minD _|exact Lc.maxD _|exact Lc.vr P _ _ _ _|exact Lc.vu P _ _ _ _|exact Lc.vJ P _ _|exact Lc.tH P _ _ _ _|exact Lc.wX P _ _ _ _|skip)
 all_goals (split<;>first|exact Lc.fail|exact Lc.sQ _|exact Lc.wK P _ _ _ _ _ _|exact Lc.yW P _ _|exact Lc.capD P _ _|exact Lc.te P _ _ _ _ _|exact Lc.xO P _ _ _|exact Lc.vY P _ _|exact Lc.zF P _ _ _ _ _|exact Lc.tC P _ _ _ _ _ _|exact Lc.uc _ _ _ _ _|(split<;>first|exact Lc.fail|exact Lc.sQ _|exact Lc.te P _ _ _ _ _|exact Lc.zp P _ _ _ _ _))
end
theorem yf{s s':St}:∀{xs:List Operand},(∀x∈xs,s.opd x=s'.opd x)->tK s xs=tK s' xs
 | [],_=>rfl
 |x::xs,h=>by simp only [tK];rw [h x zc,yf fun y f=>h y (by simp [f])]
theorem vK{s s':St}:∀{xs:List (Nat×Operand)},(∀x∈xs.map (·.2),s.opd x=s'.opd x)->tB s xs=tB s' xs
 | [],_=>rfl
 |(i,x)::xs,h=>by simp only [tB];rw [h x zc,vK fun y f=>h y (by simp only [FC,List.mem_cons];exact .inr f)]
theorem vw{s s':St}{x:Option Operand}(h:∀y∈x.toArray,s.opd y=s'.opd y):rV s x=rV s' x:=by
 cases x with
 |none=>rfl
 |some y=>simp only [rV];rw [h y zc]
theorem CJ{P:Program}{mt:Hf}{call:rO}{s s':St}(o:Oper)(h:∀x∈o.op.operands,s.opd x=s'.opd x):rN P mt call s o=rN P mt call s' o:=by
 unfold rN
 rcases r:o.op with x|x|⟨c,x,y⟩|t|⟨t,x⟩|⟨t,parts⟩|⟨t,len,parts⟩|⟨t,m,k,x⟩|⟨t,x⟩|⟨t,x,y⟩|g|g|x|⟨op,t,x,y,t2⟩|⟨op,t,x⟩|⟨t,t2,x⟩|⟨t,x⟩|⟨t,x⟩|⟨fn,x,y⟩|⟨t,x⟩|⟨t,x⟩|⟨t,x,y⟩|⟨t,x,lo,hi,E⟩|⟨t,x,f⟩|⟨t,x,f⟩|⟨t,x,y⟩|⟨t,x,y⟩|⟨t,x,y,c⟩|⟨t,x,y,c⟩|⟨t,x,y⟩|⟨t,x,y,c⟩|⟨t,x⟩|⟨x,b⟩|x|⟨x,t,t2,b⟩|⟨x,i⟩|c|c|c|x|⟨x,y⟩|⟨t,x,b⟩|⟨cs,b⟩
 all_goals (simp only [r,Op.operands]at h)
 all_goals (try simp only)
 all_goals (try rw [h x zc])
 all_goals (try rw [h y zc])
 ·rw [h c zc]
 ·rw [vK fun x j=>h x (by simpa using j)]
 ·rw [vK fun x j=>h x (by simpa using j)]
 ·cases op<;>(try simp only)<;>rw [h x zc]
 ·rw [yf (s:=s) (s':=s') (xs:=y.toList) fun x j=>h x (by simp only [FQ];exact .inr (by simpa using j))]
  cases tK s' y.toList with
  |none=>rfl
  |some l=>
  rcases j:x.toList with _|⟨u,_|⟨F,xs⟩⟩
  ·cases fn<;>rfl
  ·have C:s.opd u=s'.opd u:=h u (by simp only [FQ];exact .inl (by rw [<-Array.mem_toList_iff,j];exact List.mem_singleton.2 rfl))
   cases fn<;>first|rfl|(simp only [];rw [C])
  ·cases fn<;>rfl
 ·rw [vw (x:=x) fun y q=>h y (by simpa using q)]
 ·rw [vw (x:=lo) fun y q=>h y (by simp only [FQ];exact .inl (.inl (.inr q))),vw (x:=hi) fun y q=>h y (by simp only [FQ];exact .inl (.inr q)),vw (x:=E) fun y q=>h y (by simp only [FQ];exact .inr q)]
 ·rw [h c zc]
 ·have D:tK s c.args.toList=tK s' c.args.toList:=yf fun x j=>h x (by simp only [Call.operands,FQ];exact .inr (by simpa using j))
  rw [D]
  cases hc:c.callee with
  |value f=>
   have hf:s.opd f=s'.opd f:=h f (by simp [Call.operands,hc])
   cases tK s' c.args.toList with
   |none=>rfl
   |some l=>simp only [hf]
  |invoke rc m=>
   have hf:s.opd rc=s'.opd rc:=h rc (by simp [Call.operands,hc])
   cases tK s' c.args.toList with
   |none=>rfl
   |some l=>simp only [hf]
  |builtin b=>
   cases tK s' c.args.toList with
   |none=>cases b<;>rfl
   |some l=>rcases l with _|⟨x,_|⟨y,_|⟨z,l⟩⟩⟩<;>cases b<;>rfl
end Go.Dw
namespace Go.Dw
theorem C5:∀(u:Ups)(s s':St)(id:Nat),id∈u.map (·.1)->(s.ups u).boxes id=(s'.ups u).boxes id
 | [],_,_,_,h=>by simp at h
 |(i,b)::r,s,s',id,h=>by
  rw [tW,tW]
  by_cases f:id∈r.map (·.1)
  ·exact C5 r _ _ id f
  ·rw [tP _ _ _ f,tP _ _ _ f]
   have:id=i:=by simpa [f]using h
   subst this
   show upd s.boxes id b id=upd s'.boxes id b id
   rw [rK,rK]
theorem uA(s:St)(d:Option Nat)(v:RV):(s.put d v).boxes=s.boxes:=by cases d<;>rfl
theorem St.ext'{s s':St}(h1:s.rX=s'.rX)(f:s.boxes=s'.boxes):s=s':=by
 obtain⟨a,b⟩:=s
 obtain⟨c,d⟩:=s'
 simp only at h1 f
 subst h1;subst f
 rfl
theorem AP{s:St}{u1 u2:Ups}{d1 d2:Option Nat}{v1 v2:RV}(hu:Ak (u1.map (·.1)) (u2.map (·.1))=true)(j:∀d,d1=some d->d2≠some d):
  ((((s.ups u1).put d1 v1).ups u2).put d2 v2)=((((s.ups u2).put d2 v2).ups u1).put d1 v1):=by
 have hu:=xD hu
 refine St.ext' ?_ ?_
 ·cases d1 with
  |none=>
   cases d2 with
   |none=>simp only [St.put,uj]
   |some e=>simp only [St.put,uj]
  |some d=>
   cases d2 with
   |none=>simp only [St.put,uj]
   |some e=>
    have g:d≠e:=fun he=>j d rfl (he▸rfl)
    simp only [St.put,uj]
    funext t
    by_cases h1:t=d
    ·subst h1;simp [g]
    ·by_cases f:t=e
     ·subst f;simp [h1]
     ·simp [h1,f]
 ·rw [uA,uA]
  funext id
  by_cases h1:id∈u1.map (·.1)
  ·have f:id∉u2.map (·.1):=hu id h1
   rw [tP _ _ _ f,uA]
   rw [C5 u1 _ ((s.ups u2).put d2 v2) id h1]
  ·by_cases f:id∈u2.map (·.1)
   ·rw [tP u1 _ _ h1,uA]
    rw [C5 u2 _ s id f]
   ·rw [tP _ _ _ f,uA,tP _ _ _ h1,tP _ _ _ h1,uA,tP _ _ _ f]
section
variable {P:Program}{mt:Hf}{call:rO}{ops:Array Oper}
theorem vT{o:Oper}{s s':St}{t:Tr}(h:step1 P mt call ops o s=some (s',t)):
  (og ops s o=some true∧∃v u,rN P mt call s o s.boxes=some ((v,u),t.rd,true)∧s'=(s.ups u).put o.dst v∧t.wr=u.map (·.1))∨
  (og ops s o=some false∧s'=s.put o.dst .undef∧t.rd=[]∧t.wr=[]):=by
 unfold step1 at h
 rcases hw:og ops s o with _|w
 ·simp [hw]at h
 simp only [hw]at h
 cases w with
 |true=>
  simp only [if_true]at h
  rcases he:rN P mt call s o s.boxes with _|⟨⟨v,u⟩,rd,c⟩
  ·simp [he]at h
  simp only [he]at h
  cases c with
  |true=>
   simp only [if_true,DJ,DL]at h
   obtain⟨rfl,rfl⟩:=h
   exact .inl ⟨rfl,v,u,rfl,rfl,rfl⟩
  |false=>simp at h
 |false=>
  simp only [Bool.false_eq_true,if_false,DJ,DL]at h
  obtain⟨rfl,rfl⟩:=h
  exact .inr ⟨rfl,rfl,rfl,rfl⟩
theorem yG{o:Oper}{s:St}{v:RV}{u:Ups}{rd:List Nat}(hw:og ops s o=some true)(he:rN P mt call s o s.boxes=some ((v,u),rd,true)):
  step1 P mt call ops o s=some ((s.ups u).put o.dst v,⟨rd,u.map (·.1)⟩):=by
 unfold step1;simp [hw,he]
theorem yl{o:Oper}{s:St}(hw:og ops s o=some false):step1 P mt call ops o s=some (s.put o.dst .undef,⟨[],[]⟩):=by
 unfold step1;simp [hw]
theorem vV{o:Oper}{s s':St}(h:∀t∈o.looksAt ops,s.rX t=s'.rX t):og ops s o=og ops s' o:=by
 unfold og
 cases f:o.guard with
 |none=>rfl
 |some g=>
  obtain⟨j,want⟩:=g
  simp only
  cases k:(ops[j]?).bind (·.dst)with
  |none=>rfl
  |some t=>
   simp only
   rw [h t (by simp [Oper.looksAt,f,k])]
theorem Ao{o:Oper}{s s':St}(h:∀t∈o.looksAt ops,s.rX t=s'.rX t):rN P mt call s o=rN P mt call s' o:=by
 refine CJ o fun x j=>?_
 cases x with
 |tmp t=>exact h t (List.mem_append_left _ (List.mem_filterMap.2 ⟨.tmp t,by simpa using j,rfl⟩))
 |const v=>rfl
 |global g=>rfl
 |func f=>rfl
theorem Cq{o:Oper}{s s1 s':St}{t:Tr}{d:Option Nat}{u:Ups}{v:RV}(h:step1 P mt call ops o s1=some (s',t))(hs:s1=(s.ups u).put d v)
  (C:∀e,d=some e->e∉o.looksAt ops) (hu:Ak (u.map (·.1)) t.rd=true):
  ∃v' k,t.wr=k.map (·.1)∧s'=(s1.ups k).put o.dst v'∧step1 P mt call ops o s=some ((s.ups k).put o.dst v',t):=by
 have f:∀t∈o.looksAt ops,s1.rX t=s.rX t:=by
  intro t D
  subst hs
  cases d with
  |none=>simp only [St.put,uj]
  |some e=>
   have:t≠e:=fun he=>C e rfl (he▸D)
   simp only [St.put,uj,this,if_false]
 have hu:=xD hu
 rcases vT h with⟨hw,v',k,he,h1,j⟩|⟨hw,h1,j,q⟩
 ·have g:og ops s o=some true:=by rw [<-vV f];exact hw
  have r:rN P mt call s o s.boxes=some ((v',k),t.rd,true):=by
   rw [<-Ao (P:=P) (mt:=mt) (call:=call) f]
   refine Lc.rN P mt call s1 o _ _ _ _ _ he fun id hid=>?_
   subst hs
   rw [uA,tP _ _ _ (fun hm=>hu id hm hid)]
  refine⟨v',k,j,h1,?_⟩
  rw [yG g r]
  obtain⟨rd,wr⟩:=t
  simp only at j
  rw [j]
 ·have g:og ops s o=some false:=by rw [<-vV f];exact hw
  refine⟨.undef,[],by rw [q];rfl,h1,?_⟩
  rw [yl g]
  obtain⟨rd,wr⟩:=t
  simp only at j q
  rw [j,q]
  rfl
theorem commute{x y:Oper}{s s1 s2:St}{r ty:Tr}(h1:step1 P mt call ops x s=some (s1,r))(T:step1 P mt call ops y s1=some (s2,ty))(hp:zg ops (x,r) (y,ty)=true):
  ∃Q,step1 P mt call ops y s=some (Q,ty)∧step1 P mt call ops x Q=some (s2,r):=by
 simp only [zg,Bool.and_eq_true]at hp
 obtain⟨⟨⟨G,H⟩,k⟩,I⟩:=hp
 obtain⟨a1,a2,a3⟩:=Oper.apart_spec G
 have W:∃v u,s1=(s.ups u).put x.dst v∧r.wr=u.map (·.1):=by
  rcases vT h1 with⟨_,v,u,_,j,g⟩|⟨_,j,_,g⟩
  ·exact⟨v,u,j,g⟩
  ·exact⟨.undef,[],j,by rw [g];rfl⟩
 obtain⟨vx,Y,L,N⟩:=W
 obtain⟨D,C,F,E,X⟩:=Cq T L a1 (by rw [<-N];exact H)
 refine⟨_,X,?_⟩
 have f:∀t∈x.looksAt ops,((s.ups C).put y.dst D).rX t=s.rX t:=by
  intro t U
  cases J:y.dst with
  |none=>simp only [St.put,uj]
  |some e=>
   have:t≠e:=fun he=>a3 e J (he▸U)
   simp only [St.put,uj,this,if_false]
 have k:=xD k
 rcases vT h1 with⟨hw,v,u,he,j,g⟩|⟨hw,j,g,O⟩
 ·have q:og ops ((s.ups C).put y.dst D) x=some true:=by rw [vV f];exact hw
  have K:rN P mt call ((s.ups C).put y.dst D) x ((s.ups C).put y.dst D).boxes=some ((v,u),r.rd,true):=by
   rw [Ao (P:=P) (mt:=mt) (call:=call) f]
   refine Lc.rN P mt call s x _ _ _ _ _ he fun id hid=>?_
   rw [uA,tP _ _ _ (fun hm=>k id (by rw [F];exact hm) hid)]
  rw [yG q K,E,j]
  rw [AP (by rw [<-g, <-F];exact I) a2]
  obtain⟨rd,wr⟩:=r
  simp only at g
  rw [g]
 ·have q:og ops ((s.ups C).put y.dst D) x=some false:=by rw [vV f];exact hw
  rw [yl q,E,j]
  have:=AP (s:=s) (u1:=[]) (u2:=C) (d1:=x.dst) (d2:=y.dst) (v1:= .undef) (v2:=D) (by rfl) a2
  simp only [St.ups]at this
  rw [this]
  obtain⟨rd,wr⟩:=r
  simp only at g O
  rw [g,O]
theorem wE{o:Oper}{r:List Oper}{s sF:St}{ts:List Tr}(h:tQ P mt call ops (o::r) s=some (sF,ts)):
  ∃s1 t f,step1 P mt call ops o s=some (s1,t)∧tQ P mt call ops r s1=some (sF,f)∧ts=t::f:=by
 unfold tQ at h
 rcases h1:step1 P mt call ops o s with _|⟨s1,t⟩
 ·simp [h1]at h
 simp only [h1]at h
 rcases g:tQ P mt call ops r s1 with _|⟨s2,f⟩
 ·simp [g]at h
 simp only [g,DJ,DL]at h
 exact⟨s1,t,f,rfl,by rw [g,h.1],h.2.symm⟩
theorem evOps_mk{o:Oper}{r:List Oper}{s s1 sF:St}{t:Tr}{ts:List Tr}(h1:step1 P mt call ops o s=some (s1,t))(f:tQ P mt call ops r s1=some (sF,ts)):
  tQ P mt call ops (o::r) s=some (sF,t::ts):=by
 unfold tQ;simp [h1,f]
theorem zw:∀(f:List (Oper×Tr)){o:Oper}{t:Tr}{g:List (Oper×Tr)}{s sF:St},
  tQ P mt call ops ((f++(o,t)::g).map (·.1)) s=some (sF,(f++(o,t)::g).map (·.2))->(∀x∈f,zg ops x (o,t)=true)->
  ∃s1,step1 P mt call ops o s=some (s1,t)∧tQ P mt call ops ((f++g).map (·.1)) s1=some (sF,(f++g).map (·.2))
 | [],o,t,g,s,sF,h,_=>by
  simp only [List.nil_append,FC]at h
  obtain⟨s1,t',q,h1,j,k⟩:=wE h
  cases k
  exact⟨s1,h1,j⟩
 |(x,G)::f,o,t,g,s,sF,h,hp=>by
  simp only [FN,FC]at h
  obtain⟨s1,t',q,h1,j,k⟩:=wE h
  cases k
  obtain⟨s2,r,u⟩:=zw f j (fun y E=>hp y (by simp [E]))
  obtain⟨F,C,D⟩:=commute h1 r (hp (x,G) zc)
  exact⟨F,C,by simp only [FN,FC];exact evOps_mk D u⟩
theorem zU:∀(l:List Oper)(acc:List Nat)(i:Nat),i<acc.length->(zT l acc).getD i 0=acc.getD i 0
 | [],acc,i,_=>rfl
 |o::r,acc,i,h=>by
  rw [zT,zU r _ i so]
  simp only [FO]
  rw [DX h]
theorem Ar(acc:List Nat):∀(es:List Edge)(b j:Nat),(es.foldl (fun b e=>if Region.binds .any e then b ||| (2 ^ e.on ||| acc.getD e.on 0)else b) b).testBit j=true->
  b.testBit j=true∨∃e∈es,Region.binds .any e=true∧(e.on=j∨(acc.getD e.on 0).testBit j=true)
 | [],b,j,h=>.inl h
 |e::es,b,j,h=>by
  simp only [List.foldl_cons]at h
  rcases Ar acc es _ j h with h1|⟨g,h1,k,q⟩
  ·by_cases f:Region.binds .any e=true
   ·simp only [f,if_true,Nat.testBit_or,Bool.or_eq_true,Nat.testBit_two_pow,decide_eq_true_eq]at h1
    rcases h1 with h1|h1|h1
    ·exact .inl h1
    ·exact .inr ⟨e,zc,f,.inl h1⟩
    ·exact .inr ⟨e,zc,f,.inr h1⟩
   ·simp only [f]at h1;exact .inl h1
  ·exact .inr ⟨g,by simp [h1],k,q⟩
theorem yN:∀(l:List Oper)(acc:List Nat)(i:Nat)(o:Oper),l[i]? =some o->∀j,((zT l acc).getD (acc.length+i) 0).testBit j=true->
  ∃e∈o.after,Region.binds .any e=true∧(e.on=j∨(e.on<acc.length+i∧((zT l acc).getD e.on 0).testBit j=true))
 | [],acc,i,o,h,_,_=>by simp at h
 |x::r,acc,0,o,h,j,g=>by
  simp only [List.getElem?_cons_zero,DJ]at h
  subst h
  rw [zT,Nat.add_zero,zU r _ acc.length zc]at g
  simp only [FO,List.getElem?_concat_length,Option.getD_some]at g
  rcases Ar acc x.after.toList 0 j g with h1|⟨e,h1,q,f⟩
  ·simp at h1
  ·refine⟨e,by simpa using h1,q,?_⟩
   rcases f with f|f
   ·exact .inl f
   ·by_cases k:e.on<acc.length
    ·refine .inr ⟨za,?_⟩
     rw [zT,zU r _ e.on so]
     simp only [FO]at f⊢
     rw [DX k]
     exact f
    ·rw [FO,List.getElem?_eq_none za]at f
     simp at f
 |x::r,acc,i+1,o,h,j,g=>by
  simp only [List.getElem?_cons_succ]at h
  rw [zT]at g⊢
  have := yN r (acc ++ [x.after.toList.foldl (fun b e => if Region.binds .any e then b ||| (2 ^ e.on ||| acc.getD e.on 0) else b) 0]) i o h j (by
   simp only [Ec,FP]
   rw [show acc.length+1+i=acc.length+(i+1)by omega]
   exact g)
  simp only [Ec,FP]at this
  rw [show acc.length+1+i=acc.length+(i+1)by omega]at this
  exact this
theorem Cu{listed:Array Bool}(f:∀(i:Nat)o,ops[i]? =some o->listed.getD i false=true->∀e∈o.after,Region.binds .any e=true->listed.getD e.on false=true)(E:listed.size=ops.size):
  ∀(n i:Nat)(o:Oper),i<=n->ops[i]? =some o->(∀e∈o.after,Region.binds .any e=true->listed.getD e.on false=true)->∀j,((zT ops.toList []).getD i 0).testBit j=true->listed.getD j false=true:=by
 intro n
 induction n with
 |zero=>
  intro i o hi ho he j r
  have C:i=0:=by omega
  subst C
  obtain⟨e,h1,q,g⟩:=yN ops.toList [] 0 o (by simpa using ho) j (by simpa using r)
  rcases g with rfl|⟨g,_⟩
  ·exact he e h1 q
  ·simp at g
 |succ n F=>
  intro i o hi ho he j r
  obtain⟨e,h1,q,g⟩:=yN ops.toList [] i o (by simpa using ho) j (by simpa using r)
  rcases g with rfl|⟨g,D⟩
  ·exact he e h1 q
  ·simp only [List.length_nil,Nat.zero_add]at g
   have hl:=he e h1 q
   have u:e.on<ops.size:=by
    rcases Nat.lt_or_ge e.on listed.size with h|h
    ·omega
    ·simp [Array.getElem?_eq_none h]at hl
   have k:ops[e.on]? =some ops[e.on]:=Array.getElem?_eq_getElem u
   exact F e.on _ za k (f e.on _ k hl) j D
end
end Go.Dw
