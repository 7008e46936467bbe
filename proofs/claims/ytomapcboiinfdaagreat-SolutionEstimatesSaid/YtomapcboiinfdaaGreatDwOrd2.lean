
import Derived.Test.YtomapcboiinfdaaGreatDwOp
set_option linter.unusedVariables false
set_option linter.unusedSimpArgs false
open Option.some renaming injEq->AD
open Prod.mk renaming injEq->AF
open List renaming cons_append->Bc, getD_eq_getElem?_getD->Bd, getElem?_append_left->AQ, length_append->BE, length_singleton->Be, map_cons->B2
open Array renaming mem_append->Bf

namespace Go.Dw
def Lc{α:Type}(m:M α):Prop:=∀b b' a r c,m b=some (a,r,c)->(∀id∈r,b' id=b id)->m b'=some (a,r,c)
theorem Lc.pure{α:Type}(a:α):Lc (M.pure a):=fun _ _ _ _ _ h _=>h
theorem Lc.mS{α:Type}(k:Bool)(a:α):Lc (M.mS k a):=fun _ _ _ _ _ h _=>h
theorem Lc.fail{α:Type}:Lc (M.fail:M α):=fun _ _ _ _ _ h _=>h
theorem Lc.get(id:Nat):Lc (M.get id):=by
 intro b b' a r c h g
 obtain⟨h1,e,f⟩:=M.get_some h
 subst e;subst f
 simp [M.get,g id sm,h1]
theorem Lc.nu(id:Nat):Lc (M.nu id):=by
 intro b b' a r c h g
 obtain⟨h1,e,f⟩:=M.nJ h
 subst e;subst f
 simp [M.nu,g id sm,h1]
theorem Lc.bind{α β:Type}{m:M α}{f:α->M β}(hm:Lc m)(hf:∀a,Lc (f a)):Lc (M.bind m f):=by
 intro b b' x r c h i
 unfold M.bind at h⊢
 rcases h1:m b with _|⟨a,l,j⟩
 ·simp [h1]at h
 simp only [h1]at h
 rcases g:f a b with _|⟨y,n,k⟩
 ·simp [g]at h
 simp only [g,AD,AF]at h
 obtain⟨rfl,rfl,rfl⟩:=h
 rw [hm b b' a l j h1 (fun id e=>i id (List.mem_append.2 (.inl e)))]
 simp only [hf a b b' y n k g (fun id e=>i id (List.mem_append.2 (.inr e)))]
theorem Lc.nG(v:RV):Lc (nG v):=Lc.pure _
theorem Lc.nr(k:Bool)(v:RV):Lc (nr k v):=Lc.mS _ _
theorem Lc.rJ(o:Option (PD×Bool)):Lc (rJ o):=by unfold Dw.rJ;split<;>first|exact Lc.mS _ _|exact Lc.fail
theorem Lc.sZ(v:RV):Lc (sZ v):=by
 unfold Dw.sZ
 split<;>first|exact Lc.pure _|exact Lc.fail|skip
 all_goals refine Lc.bind (Lc.get _) fun a=>?_
 all_goals (split<;>first|exact Lc.fail|skip)
 all_goals (split<;>first|exact Lc.pure _|exact Lc.mS _ _|exact Lc.fail)
theorem Lc.qp:∀(cs:List RV),Lc (qp cs)
 | []=>Lc.pure _
 |c::cs=>Lc.bind (Lc.sZ c) fun _=>Lc.bind (Lc.qp cs) fun _=>Lc.pure _
theorem Lc.pf(v:RV):Lc (pf v):=by
 unfold Dw.pf
 split
 ·exact Lc.bind (Lc.qp _) fun _=>Lc.pure _
 ·exact Lc.sZ _
section
variable (P:Program)
theorem Lc.pK(t:TypeId)(cs:List PD):Lc (pK P t cs):=by
 unfold Dw.pK
 split<;>first|exact Lc.fail|exact Lc.nr _ _|skip
 split<;>first|exact Lc.fail|exact Lc.nG _
theorem Lc.oZ(t:TypeId)(cs:List RV)(o:Nat):Lc (oZ P t cs o):=by
 unfold Dw.oZ
 split<;>first|exact Lc.fail|exact Lc.nr _ _|skip
 split<;>first|exact Lc.fail|exact Lc.nG _
theorem Lc.pN(t:TypeId)(a:RV):Lc (pN P t a):=by
 unfold Dw.pN
 split
 ·exact Lc.pK P t _
 ·split<;>first|exact Lc.fail|exact Lc.nG _
 ·refine Lc.bind (Lc.get _) fun b=>?_
  split<;>first|exact Lc.oZ P t _ _|exact Lc.fail
 ·refine Lc.bind (Lc.get _) fun b=>?_
  split<;>first|exact Lc.fail|skip
  ·split<;>first|exact Lc.fail|skip
   split<;>first|exact Lc.fail|exact Lc.pK P t _
  ·split<;>first|exact Lc.fail|skip
   split<;>first|exact Lc.fail|exact Lc.nG _
  ·split<;>first|exact Lc.fail|skip
   split<;>first|exact Lc.fail|exact Lc.nG _
 ·exact Lc.fail
theorem Lc.rz(t:TypeId)(a v:RV):Lc (rz P t a v):=by
 unfold Dw.rz
 split<;>first|exact Lc.fail|skip
 split
 ·refine Lc.bind (Lc.get _) fun b=>?_
  split<;>first|exact Lc.mS _ _|exact Lc.fail|skip
 ·refine Lc.bind (Lc.get _) fun b=>?_
  split<;>first|exact Lc.fail|skip
  ·split<;>first|exact Lc.fail|skip
   refine Lc.bind (Lc.pf _) fun p=>?_
   obtain⟨p,u⟩:=p
   dsimp only
   split<;>first|exact Lc.fail|skip
   split<;>first|exact Lc.fail|exact Lc.mS _ _
  ·exact iteInduction (motive:=Lc) (fun _=>Lc.mS _ _) (fun _=>Lc.fail)
  ·exact iteInduction (motive:=Lc) (fun _=>Lc.mS _ _) (fun _=>Lc.fail)
 ·exact Lc.fail
theorem Lc.sX(off:Nat)(x:RV):Lc (sX off x):=by
 unfold Dw.sX
 split
 ·refine Lc.bind (Lc.get _) fun a=>?_
  split<;>first|exact Lc.nG _|exact Lc.fail
 ·refine Lc.bind (Lc.get _) fun a=>?_
  split<;>first|exact Lc.fail|skip
  all_goals (split<;>first|exact Lc.nG _|exact Lc.fail)
 ·exact Lc.nG _
 ·exact Lc.fail
theorem Lc.oN(t:TypeId)(x:RV)(f:Nat):Lc (oN P t x f):=by
 unfold Dw.oN
 split<;>first|exact Lc.fail|skip
 split<;>first|exact Lc.fail|exact Lc.sX _ _
theorem Lc.tg(t:TypeId)(x:RV)(f:Nat):Lc (tg P t x f):=by
 unfold Dw.tg
 split<;>first|exact Lc.fail|exact Lc.oZ P _ _ _
theorem Lc.ti(x i:RV):Lc (ti x i):=by
 unfold Dw.ti
 repeat' split
 all_goals first|exact Lc.nr _ _|exact Lc.fail
theorem Lc.ug(len:Nat)(e:TypeId)(x i:RV):Lc (ug P len e x i):=by
 unfold Dw.ug
 repeat' split
 all_goals first|exact Lc.bind (Lc.mS _ _) fun _=>Lc.oZ _ _ _ _|exact Lc.fail
theorem Lc.rX(t:TypeId)(x i:RV):Lc (rX P t x i):=by
 unfold Dw.rX
 repeat' split
 all_goals first|exact Lc.ti _ _|exact Lc.ug _ _ _ _ _|exact Lc.fail
theorem Lc.nX(t:TypeId)(x i:RV):Lc (nX P t x i):=by
 unfold Dw.nX
 split
 ·split<;>first|exact Lc.fail|skip
  split<;>first|exact Lc.fail|exact Lc.nr _ _|skip
  all_goals refine Lc.bind (Lc.get _) fun a=>?_
  all_goals (split<;>first|exact Lc.fail|exact Lc.nr _ _|skip)
  all_goals (split<;>first|exact Lc.fail|exact Lc.nr _ _)
 ·split<;>first|exact Lc.fail|skip
  exact Lc.bind (Lc.mS _ _) fun _=>Lc.sX _ _
 ·exact Lc.fail
theorem Lc.sliceB(e:TypeId)(id ver a b:Nat)(lo hi:Option RV):Lc (sliceB P e id ver a b lo hi):=by
 unfold Dw.sliceB
 split<;>first|exact Lc.fail|skip
 refine Lc.bind (Lc.get _) fun c=>?_
 split<;>first|exact Lc.fail|skip
 split<;>first|exact Lc.fail|exact Lc.nr _ _
theorem Lc.uv(a:Nat)(e:TypeId)(n:Nat)(lo hi b:Option RV):Lc (uv P a e n lo hi b):=by
 unfold Dw.uv
 split<;>first|exact Lc.fail|skip
 split<;>first|exact Lc.fail|exact Lc.bind (Lc.nu _) fun _=>Lc.mS _ _
theorem Lc.tv(id:Nat)(a:TypeId):Lc (tv P id a):=by
 unfold Dw.tv
 split<;>first|exact Lc.fail|skip
 split<;>first|exact Lc.fail|skip
 refine Lc.bind (Lc.get _) fun b=>?_
 split<;>first|exact Lc.fail|skip
 split<;>first|exact Lc.fail|skip
 split<;>first|exact Lc.fail|exact Lc.mS _ _
theorem Lc.tz(e:TypeId)(id ver:Nat)(lo hi:Option RV)(a:RV):Lc (tz P e id ver lo hi a):=by
 unfold Dw.tz
 split<;>first|exact Lc.fail|skip
 split<;>first|exact Lc.fail|skip
 refine Lc.bind (Lc.get _) fun b=>?_
 split<;>first|exact Lc.fail|skip
 split<;>first|exact Lc.fail|exact Lc.mS _ _
theorem Lc.tw(a:TypeId)(cs:List PD):Lc (tw P a cs):=by
 unfold Dw.tw
 split<;>first|exact Lc.fail|skip
 split<;>first|exact Lc.fail|skip
 split<;>first|exact Lc.fail|exact Lc.mS _ _
theorem Lc.vF(e:TypeId)(es:List PD)(h m:Int):Lc (vF P e es h m):=by
 unfold Dw.vF
 split<;>first|exact Lc.fail|skip
 split<;>first|exact Lc.fail|exact Lc.mS _ _
theorem Lc.v8(t:TypeId)(x:RV)(lo hi a:Option RV):Lc (v8 P t x lo hi a):=by
 unfold Dw.v8
 split<;>first|exact Lc.fail|exact Lc.vF P _ _ _ _|skip
 split<;>first|exact Lc.fail|skip
 refine Lc.bind (Lc.get _) fun b=>?_
 split<;>first|exact Lc.fail|skip
 split<;>first|exact Lc.fail|exact Lc.mS _ _
theorem Lc.oa(a:Nat)(t:TypeId)(x:RV)(lo hi b:Option RV):Lc (oa P a t x lo hi b):=by
 unfold Dw.oa
 split
 ·refine Lc.bind (Lc.get _) fun c=>?_
  split<;>first|exact Lc.fail|exact Lc.sliceB P _ _ _ _ _ _ _
 ·exact Lc.sliceB P _ _ _ _ _ _ _
 ·split<;>first|exact Lc.fail|exact Lc.tv P _ _
 ·split<;>first|exact Lc.fail|exact Lc.tw P _ _
 ·split<;>first|exact Lc.fail|(split<;>first|exact Lc.pure _|exact Lc.fail)
 ·exact Lc.uv P _ _ _ _ _ _
 ·exact Lc.tz P _ _ _ _ _ _
 all_goals first|exact Lc.fail|(split<;>first|exact Lc.fail|exact Lc.nr _ _)
theorem Lc.tf(t:TypeId)(l:List (Nat×RV)):Lc (tf P t l):=by
 unfold Dw.tf
 split
 ·split<;>first|exact Lc.fail|skip
  split<;>first|exact Lc.fail|exact Lc.nr _ _
 ·split<;>first|exact Lc.fail|skip
  split<;>first|exact Lc.fail|exact Lc.nr _ _
 ·exact Lc.fail
theorem Lc.tk(mt:Bool)(cs:List RV):Lc (tk mt cs):=by
 unfold Dw.tk
 split
 ·exact Lc.pure _
 ·exact Lc.qp _
theorem Lc.oq(mt:Bool)(id:Nat)(t:TypeId)(len:Nat)(l:List (Nat×RV)):Lc (oq P mt id t len l):=by
 unfold Dw.oq
 split<;>first|exact Lc.fail|skip
 split<;>first|exact Lc.fail|skip
 split<;>first|exact Lc.fail|skip
 split<;>first|exact Lc.fail|skip
 refine iteInduction (motive:=Lc) (fun _=>Lc.mS _ _) (fun _=>?_)
 refine Lc.bind (Lc.tk _ _) fun p=>?_
 obtain⟨a,u⟩:=p
 dsimp only
 split
 ·exact Lc.bind (Lc.nu _) fun _=>Lc.mS _ _
 ·exact Lc.mS _ _
theorem Lc.tc(id:Nat)(t:TypeId):Lc (tc P id t):=by
 unfold Dw.tc
 split<;>first|exact Lc.fail|exact Lc.bind (Lc.nu _) fun _=>Lc.pure _
theorem Lc.boxD(id:Nat)(v:RV):Lc (boxD id v):=Lc.bind (Lc.nu _) fun _=>Lc.mS _ _
theorem Lc.vJ(t:TypeId)(x:RV):Lc (vJ P t x):=by
 unfold Dw.vJ
 split<;>first|exact Lc.fail|exact Lc.nG _|skip
 all_goals refine Lc.bind (Lc.get _) fun a=>?_
 all_goals (split<;>first|exact Lc.fail|exact Lc.nG _|skip)
 all_goals (split<;>first|exact Lc.fail|exact Lc.nG _|exact Lc.nr _ _)
theorem Lc.nV(x:RV):Lc (nV x):=by
 unfold Dw.nV
 split<;>first|exact Lc.fail|exact Lc.pure _|skip
 all_goals refine Lc.bind (Lc.get _) fun a=>?_
 all_goals (split<;>first|exact Lc.fail|skip)
 all_goals (split<;>first|exact Lc.fail|exact Lc.pure _|exact Lc.mS _ _)
theorem Lc.oC(id:Nat)(t t':TypeId)(s x:RV):Lc (oC P id t t' s x):=by
 unfold Dw.oC
 split<;>first|exact Lc.fail|skip
 split<;>first|exact Lc.fail|skip
 split<;>first|exact Lc.fail|skip
 refine Lc.bind (Lc.nV _) fun xs=>?_
 split
 ·exact Lc.bind (Lc.nu _) fun _=>Lc.mS _ _
 ·refine Lc.bind (Lc.get _) fun a=>?_
  split<;>first|exact Lc.fail|skip
  all_goals (split<;>first|exact Lc.fail|exact Lc.mS _ _)
 ·refine Lc.bind (Lc.get _) fun a=>?_
  split<;>first|exact Lc.fail|skip
  split<;>first|exact Lc.fail|exact Lc.mS _ _
 ·exact Lc.mS _ _
 ·exact Lc.fail
theorem Lc.tN(x:RV):Lc (tN x):=by
 unfold Dw.tN
 split<;>first|exact Lc.fail|skip
 all_goals refine Lc.bind (Lc.get _) fun a=>?_
 all_goals (split<;>first|exact Lc.fail|skip)
 all_goals (split<;>first|exact Lc.fail|exact Lc.pure _|exact Lc.mS _ _)
theorem Lc.sQ(t:TypeId)(x y:RV):Lc (sQ P t x y):=by
 unfold Dw.sQ
 split<;>first|exact Lc.fail|skip
 split<;>first|exact Lc.fail|skip
 exact Lc.bind (Lc.tN _) fun _=>Lc.bind (Lc.nV _) fun _=>Lc.mS _ _
theorem Lc.qv(t:TypeId)(x:RV):Lc (qv P t x):=by
 unfold Dw.qv
 split<;>first|exact Lc.fail|skip
 split<;>first|exact Lc.fail|skip
 exact Lc.bind (Lc.tN _) fun _=>Lc.mS _ _
theorem Lc.minD(l:List RV):Lc (minD l):=by
 unfold Dw.minD
 split<;>first|exact Lc.fail|skip
 split<;>first|exact Lc.fail|exact Lc.pure _
theorem Lc.maxD(l:List RV):Lc (maxD l):=by
 unfold Dw.maxD
 split<;>first|exact Lc.fail|skip
 split<;>first|exact Lc.fail|exact Lc.pure _
theorem Lc.argD(by_:Bool)(v:RV):Lc (argD by_ v):=by
 unfold Dw.argD
 split<;>first|exact Lc.pure _|exact Lc.bind (Lc.pf _) fun _=>Lc.mS _ _|(split<;>first|exact Lc.pure _|exact Lc.bind (Lc.pf _) fun _=>Lc.pure _|exact Lc.bind (Lc.pf _) fun _=>Lc.mS _ _)
theorem Lc.sP(by_:Nat->Bool):∀(i:Nat)(l:List RV),Lc (sP by_ i l)
 |_,[]=>Lc.pure _
 |i,v::r=>Lc.bind (Lc.argD _ v) fun _=>Lc.bind (Lc.sP by_ (i+1) r) fun _=>Lc.pure _
theorem Lc.pq:∀(n:Nat)(done todo:List Nat),Lc (pq n done todo)
 |0,_,_=>Lc.fail
 |_+1,_,[]=>Lc.pure _
 |n+1,done,i::todo=>by
  unfold Dw.pq
  split
  ·exact Lc.pq n _ _
  ·exact Lc.bind (Lc.get _) fun _=>Lc.pq n _ _
theorem Lc.rV:∀(l:List Nat),Lc (rV l)
 | []=>Lc.pure _
 |_::r=>Lc.bind (Lc.get _) fun _=>Lc.bind (Lc.rV r) fun _=>Lc.pure _
theorem Lc.pb:∀(l:List Nat),Lc (pb l)
 | []=>Lc.pure _
 |_::r=>Lc.bind (Lc.nu _) fun _=>Lc.pb r
theorem Lc.pj(by_:FuncId->Nat->Bool)(call:ng)(f:FuncId)(base:Nat)(l:List RV):Lc (pj by_ call f base l):=by
 unfold Dw.pj
 refine Lc.bind (Lc.sP _ _ _) fun x=>Lc.bind (Lc.pq _ _ _) fun ids=>Lc.bind (Lc.rV _) fun a=>?_
 split<;>first|exact Lc.fail|skip
 split<;>first|exact Lc.fail|exact Lc.bind (Lc.pb _) fun _=>Lc.pure _
theorem Lc.rF(id:Nat)(src dst:TypeId)(x:RV):Lc (rF P id src dst x):=by
 unfold Dw.rF
 split
 ·split<;>first|exact Lc.fail|exact Lc.bind (Lc.nu _) fun _=>Lc.mS _ _
 ·split<;>first|exact Lc.fail|skip
  refine Lc.bind (Lc.get _) fun a=>?_
  split<;>first|exact Lc.fail|skip
  refine iteInduction (motive:=Lc) (fun _=>?_) (fun _=>Lc.fail)
  split<;>first|exact Lc.fail|exact Lc.nG _
 ·split<;>first|exact Lc.fail|skip
  split<;>first|exact Lc.fail|exact Lc.nG _
 ·exact Lc.rJ _
theorem Lc.qd(id:Nat)(t:TypeId):Lc (qd P id t):=by
 unfold Dw.qd
 split<;>first|exact Lc.fail|exact Lc.bind (Lc.nu _) fun _=>Lc.pure _
theorem Lc.pQ(t:TypeId)(x k:RV)(ok:Bool):Lc (pQ P t x k ok):=by
 unfold Dw.pQ
 split<;>first|exact Lc.fail|skip
 refine Lc.bind (Lc.get _) fun a=>?_
 split<;>first|exact Lc.fail|skip
 split<;>first|exact Lc.fail|skip
 split<;>first|exact Lc.fail|(split<;>exact Lc.nG _)
theorem Lc.rq(t:TypeId)(x k v:RV):Lc (rq P t x k v):=by
 unfold Dw.rq
 split<;>first|exact Lc.fail|skip
 refine Lc.bind (Lc.get _) fun a=>?_
 split<;>first|exact Lc.fail|skip
 split<;>first|exact Lc.fail|skip
 refine Lc.bind (Lc.pf _) fun p=>?_
 obtain⟨p,u⟩:=p
 dsimp only
 split<;>first|exact Lc.fail|(split<;>first|exact Lc.fail|exact Lc.mS _ _|exact Lc.pure _)
theorem Lc.ou(id:Nat)(t:TypeId)(l c:RV):Lc (ou P id t l c):=by
 unfold Dw.ou
 split<;>first|exact Lc.fail|skip
 split<;>first|exact Lc.fail|exact Lc.bind (Lc.nu _) fun _=>Lc.mS _ _
theorem Lc.uD(id:Nat)(t t':TypeId)(a x:RV):Lc (uD P id t t' a x):=by
 unfold Dw.uD
 split<;>first|exact Lc.fail|skip
 split<;>first|exact Lc.fail|exact Lc.bind (Lc.nu _) fun _=>Lc.mS _ _
theorem Lc.capD(t:TypeId)(x:RV):Lc (capD P t x):=by
 unfold Dw.capD
 split<;>first|exact Lc.fail|exact Lc.nG _
theorem Lc.ifcD(t:TypeId)(x:RV):Lc (ifcD P t x):=by
 unfold Dw.ifcD
 split<;>first|exact Lc.fail|exact Lc.nG _
theorem Lc.qW(x:RV)(t:TypeId)(ok:Bool):Lc (qW P x t ok):=by
 unfold Dw.qW
 split<;>first|exact Lc.fail|skip
 exact iteInduction (motive:=Lc) (fun _=>Lc.nG _) (fun _=>Lc.fail)
theorem Lc.rm(mt:Hf)(call:ng)(base:Nat)(x:RV)(name:String)(as:List RV):Lc (rm P mt call base x name as):=by
 unfold Dw.rm
 split<;>first|exact Lc.fail|skip
 split<;>first|exact Lc.fail|exact Lc.pj _ _ _ _ _|skip
 exact Lc.bind (Lc.pN P _ _) fun _=>Lc.pj _ _ _ _ _
theorem Lc.nw(mt:Hf)(call:ng)(s:St)(o:Oper):Lc (nw P mt call s o):=by
 unfold Dw.nw
 split
 all_goals (try exact Lc.fail)
 all_goals (try exact Lc.tc P _ _)
 all_goals (split<;>first|exact Lc.fail|exact Lc.nG _|exact Lc.ifcD P _ _|exact Lc.qW P _ _ _|exact Lc.boxD _ _|exact Lc.tf P _ _|exact Lc.oq P _ _ _ _ _|exact Lc.pN P _ _|exact Lc.rz P _ _ _|exact Lc.sX _ _|exact Lc.rJ _|exact Lc.oa P _ _ _ _ _ _|exact Lc.oN P _ _ _|exact Lc.tg P _ _ _|exact Lc.nX P _ _ _|exact Lc.rX P _ _ _|exact Lc.minD _|exact Lc.maxD _|exact Lc.pQ P _ _ _ _|exact Lc.rq P _ _ _ _|exact Lc.qd P _ _|exact Lc.ou P _ _ _ _|exact Lc.rF P _ _ _ _|skip)
 all_goals (split<;>first|exact Lc.fail|exact Lc.nG _|exact Lc.rm P _ _ _ _ _ _|exact Lc.vJ P _ _|exact Lc.capD P _ _|exact Lc.oC P _ _ _ _ _|exact Lc.sQ P _ _ _|exact Lc.qv P _ _|exact Lc.v8 P _ _ _ _ _|exact Lc.oa P _ _ _ _ _ _|exact Lc.pj _ _ _ _ _|(split<;>first|exact Lc.fail|exact Lc.nG _|exact Lc.oC P _ _ _ _ _|exact Lc.uD P _ _ _ _ _))
end
theorem tq{s s':St}:∀{xs:List Operand},(∀x∈xs,s.opd x=s'.opd x)->oR s xs=oR s' xs
 | [],_=>rfl
 |x::xs,h=>by simp only [oR];rw [h x sm,tq fun y a=>h y (by simp [a])]
theorem qf{s s':St}:∀{xs:List (Nat×Operand)},(∀x∈xs.map (·.2),s.opd x=s'.opd x)->oe s xs=oe s' xs
 | [],_=>rfl
 |(i,x)::xs,h=>by simp only [oe];rw [h x sm,qf fun y a=>h y (by simp only [B2,List.mem_cons];exact .inr a)]
theorem pS{s s':St}{x:Option Operand}(h:∀y∈x.toArray,s.opd y=s'.opd y):nY s x=nY s' x:=by
 cases x with
 |none=>rfl
 |some y=>simp only [nY];rw [h y sm]
theorem yt{P:Program}{mt:Hf}{call:ng}{s s':St}(o:Oper)(h:∀x∈o.op.operands,s.opd x=s'.opd x):nw P mt call s o=nw P mt call s' o:=by
 unfold nw
 rcases j:o.op with x|x|⟨c,x,y⟩|t|⟨t,x⟩|⟨t,parts⟩|⟨t,len,parts⟩|⟨t,m,k,x⟩|⟨t,x⟩|⟨t,x,y⟩|g|g|x|⟨op,t,x,y,t2⟩|⟨op,t,x⟩|⟨t,t2,x⟩|⟨t,x⟩|⟨t,x⟩|⟨fn,x,y⟩|⟨t,x⟩|⟨t,x⟩|⟨t,x,y⟩|⟨t,x,lo,hi,u⟩|⟨t,x,f⟩|⟨t,x,f⟩|⟨t,x,y⟩|⟨t,x,y⟩|⟨t,x,y,c⟩|⟨t,x,y,c⟩|⟨t,x,y⟩|⟨t,x,y,c⟩|⟨t,x⟩|⟨x,b⟩|x|⟨x,t,t2,b⟩|⟨x,i⟩|c|c|c|x|⟨x,y⟩|⟨t,x,b⟩|⟨cs,b⟩
 all_goals (simp only [j,Op.operands]at h)
 all_goals (try simp only)
 all_goals (try rw [h x sm])
 all_goals (try rw [h y sm])
 ·rw [h c sm]
 ·rw [qf fun x a=>h x (by simpa using a)]
 ·rw [qf fun x a=>h x (by simpa using a)]
 ·cases op<;>(try simp only)<;>rw [h x sm]
 ·rw [tq (s:=s) (s':=s') (xs:=y.toList) fun x a=>h x (by simp only [Bf];exact .inr (by simpa using a))]
  cases oR s' y.toList with
  |none=>rfl
  |some l=>
  rcases a:x.toList with _|⟨n,_|⟨v,xs⟩⟩
  ·cases fn<;>rfl
  ·have q:s.opd n=s'.opd n:=h n (by simp only [Bf];exact .inl (by rw [<-Array.mem_toList_iff,a];exact List.mem_singleton.2 rfl))
   cases fn<;>first|rfl|(simp only [];rw [q])
  ·cases fn<;>rfl
 ·rw [pS (x:=x) fun y e=>h y (by simpa using e)]
 ·rw [pS (x:=lo) fun y e=>h y (by simp only [Bf];exact .inl (.inl (.inr e))),pS (x:=hi) fun y e=>h y (by simp only [Bf];exact .inl (.inr e)),pS (x:=u) fun y e=>h y (by simp only [Bf];exact .inr e)]
 ·rw [h c sm]
 ·have r:oR s c.args.toList=oR s' c.args.toList:=tq fun x a=>h x (by simp only [Call.operands,Bf];exact .inr (by simpa using a))
  rw [r]
  cases p:c.callee with
  |value f=>
   have hf:s.opd f=s'.opd f:=h f (by simp [Call.operands,p])
   cases oR s' c.args.toList with
   |none=>rfl
   |some l=>simp only [hf]
  |invoke rc m=>
   have hf:s.opd rc=s'.opd rc:=h rc (by simp [Call.operands,p])
   cases oR s' c.args.toList with
   |none=>rfl
   |some l=>simp only [hf]
  |builtin b=>
   cases oR s' c.args.toList with
   |none=>cases b<;>rfl
   |some l=>rcases l with _|⟨x,_|⟨y,_|⟨z,l⟩⟩⟩<;>cases b<;>rfl
end Go.Dw
namespace Go.Dw
theorem yO:∀(u:Ups)(s s':St)(id:Nat),id∈u.map (·.1)->(s.ups u).boxes id=(s'.ups u).boxes id
 | [],_,_,_,h=>by simp at h
 |(i,b)::r,s,s',id,h=>by
  rw [oz,oz]
  by_cases a:id∈r.map (·.1)
  ·exact yO r _ _ id a
  ·rw [oj _ _ _ a,oj _ _ _ a]
   have:id=i:=by simpa [a]using h
   subst this
   show upd s.boxes id b id=upd s'.boxes id b id
   rw [mU,mU]
theorem oQ(s:St)(d:Option Nat)(v:RV):(s.put d v).boxes=s.boxes:=by cases d<;>rfl
theorem St.ext'{s s':St}(h1:s.nd=s'.nd)(e:s.boxes=s'.boxes):s=s':=by
 obtain⟨a,b⟩:=s
 obtain⟨c,d⟩:=s'
 simp only at h1 e
 subst h1;subst e
 rfl
theorem wc{s:St}{u1 u2:Ups}{d1 d2:Option Nat}{v1 v2:RV}(hu:disj (u1.map (·.1)) (u2.map (·.1))=true)(c:∀d,d1=some d->d2≠some d):
  ((((s.ups u1).put d1 v1).ups u2).put d2 v2)=((((s.ups u2).put d2 v2).ups u1).put d1 v1):=by
 have hu:=sj hu
 refine St.ext' ?_ ?_
 ·cases d1 with
  |none=>
   cases d2 with
   |none=>simp only [St.put,oJ]
   |some e=>simp only [St.put,oJ]
  |some d=>
   cases d2 with
   |none=>simp only [St.put,oJ]
   |some e=>
    have b:d≠e:=fun he=>c d rfl (he▸rfl)
    simp only [St.put,oJ]
    funext t
    by_cases h1:t=d
    ·subst h1;simp [b]
    ·by_cases a:t=e
     ·subst a;simp [h1]
     ·simp [h1,a]
 ·rw [oQ,oQ]
  funext id
  by_cases h1:id∈u1.map (·.1)
  ·have a:id∉u2.map (·.1):=hu id h1
   rw [oj _ _ _ a,oQ]
   rw [yO u1 _ ((s.ups u2).put d2 v2) id h1]
  ·by_cases a:id∈u2.map (·.1)
   ·rw [oj u1 _ _ h1,oQ]
    rw [yO u2 _ s id a]
   ·rw [oj _ _ _ a,oQ,oj _ _ _ h1,oj _ _ _ h1,oQ,oj _ _ _ a]
section
variable {P:Program}{mt:Hf}{call:ng}{ops:Array Oper}
theorem qo{o:Oper}{s s':St}{t:Tr}(h:oH P mt call ops o s=some (s',t)):
  (mR ops s o=some true∧∃v u,nw P mt call s o s.boxes=some ((v,u),t.rd,true)∧s'=(s.ups u).put o.dst v∧t.wr=u.map (·.1))∨
  (mR ops s o=some false∧s'=s.put o.dst .undef∧t.rd=[]∧t.wr=[]):=by
 unfold oH at h
 rcases hw:mR ops s o with _|w
 ·simp [hw]at h
 simp only [hw]at h
 cases w with
 |true=>
  simp only [if_true]at h
  rcases he:nw P mt call s o s.boxes with _|⟨⟨v,u⟩,rd,c⟩
  ·simp [he]at h
  simp only [he]at h
  cases c with
  |true=>
   simp only [if_true,AD,AF]at h
   obtain⟨rfl,rfl⟩:=h
   exact .inl ⟨rfl,v,u,rfl,rfl,rfl⟩
  |false=>simp at h
 |false=>
  simp only [Bool.false_eq_true,if_false,AD,AF]at h
  obtain⟨rfl,rfl⟩:=h
  exact .inr ⟨rfl,rfl,rfl,rfl⟩
theorem tX{o:Oper}{s:St}{v:RV}{u:Ups}{rd:List Nat}(hw:mR ops s o=some true)(he:nw P mt call s o s.boxes=some ((v,u),rd,true)):
  oH P mt call ops o s=some ((s.ups u).put o.dst v,⟨rd,u.map (·.1)⟩):=by
 unfold oH;simp [hw,he]
theorem tB{o:Oper}{s:St}(hw:mR ops s o=some false):oH P mt call ops o s=some (s.put o.dst .undef,⟨[],[]⟩):=by
 unfold oH;simp [hw]
theorem qq{o:Oper}{s s':St}(h:∀t∈o.looksAt ops,s.nd t=s'.nd t):mR ops s o=mR ops s' o:=by
 unfold mR
 cases a:o.guard with
 |none=>rfl
 |some g=>
  obtain⟨j,want⟩:=g
  simp only
  cases b:(ops[j]?).bind (·.dst)with
  |none=>rfl
  |some t=>
   simp only
   rw [h t (by simp [Oper.looksAt,a,b])]
theorem vB{o:Oper}{s s':St}(h:∀t∈o.looksAt ops,s.nd t=s'.nd t):nw P mt call s o=nw P mt call s' o:=by
 refine yt o fun x a=>?_
 cases x with
 |tmp t=>exact h t (List.mem_append_left _ (List.mem_filterMap.2 ⟨.tmp t,by simpa using a,rfl⟩))
 |const v=>rfl
 |global g=>rfl
 |func f=>rfl
theorem ya{o:Oper}{s s1 s':St}{t:Tr}{d:Option Nat}{u:Ups}{v:RV}(h:oH P mt call ops o s1=some (s',t))(k:s1=(s.ups u).put d v)
  (l:∀e,d=some e->e∉o.looksAt ops) (hu:disj (u.map (·.1)) t.rd=true):
  ∃v' f,t.wr=f.map (·.1)∧s'=(s1.ups f).put o.dst v'∧oH P mt call ops o s=some ((s.ups f).put o.dst v',t):=by
 have a:∀t∈o.looksAt ops,s1.nd t=s.nd t:=by
  intro t m
  subst k
  cases d with
  |none=>simp only [St.put,oJ]
  |some e=>
   have:t≠e:=fun he=>l e rfl (he▸m)
   simp only [St.put,oJ,this,if_false]
 have hu:=sj hu
 rcases qo h with⟨hw,v',f,he,h1,c⟩|⟨hw,h1,c,g⟩
 ·have b:mR ops s o=some true:=by rw [<-qq a];exact hw
  have i:nw P mt call s o s.boxes=some ((v',f),t.rd,true):=by
   rw [<-vB (P:=P) (mt:=mt) (call:=call) a]
   refine Lc.nw P mt call s1 o _ _ _ _ _ he fun id j=>?_
   subst k
   rw [oQ,oj _ _ _ (fun hm=>hu id hm j)]
  refine⟨v',f,c,h1,?_⟩
  rw [tX b i]
  obtain⟨rd,wr⟩:=t
  simp only at c
  rw [c]
 ·have b:mR ops s o=some false:=by rw [<-qq a];exact hw
  refine⟨.undef,[],by rw [g];rfl,h1,?_⟩
  rw [tB b]
  obtain⟨rd,wr⟩:=t
  simp only at c g
  rw [c,g]
  rfl
theorem commute{x y:Oper}{s s1 s2:St}{i ty:Tr}(h1:oH P mt call ops x s=some (s1,i))(G:oH P mt call ops y s1=some (s2,ty))(E:uo ops (x,i) (y,ty)=true):
  ∃F,oH P mt call ops y s=some (F,ty)∧oH P mt call ops x F=some (s2,i):=by
 simp only [uo,Bool.and_eq_true]at E
 obtain⟨⟨⟨n,o⟩,f⟩,p⟩:=E
 obtain⟨a1,a2,a3⟩:=Oper.apart_spec n
 have I:∃v u,s1=(s.ups u).put x.dst v∧i.wr=u.map (·.1):=by
  rcases qo h1 with⟨_,v,u,_,c,b⟩|⟨_,c,_,b⟩
  ·exact⟨v,u,c,b⟩
  ·exact⟨.undef,[],c,by rw [b];rfl⟩
 obtain⟨L,K,B,C⟩:=I
 obtain⟨k,j,m,l,J⟩:=ya G B a1 (by rw [<-C];exact o)
 refine⟨_,J,?_⟩
 have a:∀t∈x.looksAt ops,((s.ups j).put y.dst k).nd t=s.nd t:=by
  intro t H
  cases q:y.dst with
  |none=>simp only [St.put,oJ]
  |some e=>
   have:t≠e:=fun he=>a3 e q (he▸H)
   simp only [St.put,oJ,this,if_false]
 have f:=sj f
 rcases qo h1 with⟨hw,v,u,he,c,b⟩|⟨hw,c,b,D⟩
 ·have g:mR ops ((s.ups j).put y.dst k) x=some true:=by rw [qq a];exact hw
  have r:nw P mt call ((s.ups j).put y.dst k) x ((s.ups j).put y.dst k).boxes=some ((v,u),i.rd,true):=by
   rw [vB (P:=P) (mt:=mt) (call:=call) a]
   refine Lc.nw P mt call s x _ _ _ _ _ he fun id z=>?_
   rw [oQ,oj _ _ _ (fun hm=>f id (by rw [m];exact hm) z)]
  rw [tX g r,l,c]
  rw [wc (by rw [<-b, <-m];exact p) a2]
  obtain⟨rd,wr⟩:=i
  simp only at b
  rw [b]
 ·have g:mR ops ((s.ups j).put y.dst k) x=some false:=by rw [qq a];exact hw
  rw [tB g,l,c]
  have:=wc (s:=s) (u1:=[]) (u2:=j) (d1:=x.dst) (d2:=y.dst) (v1:= .undef) (v2:=k) (by rfl) a2
  simp only [St.ups]at this
  rw [this]
  obtain⟨rd,wr⟩:=i
  simp only at b D
  rw [b,D]
theorem rb{o:Oper}{r:List Oper}{s sF:St}{ts:List Tr}(h:oo P mt call ops (o::r) s=some (sF,ts)):
  ∃s1 t a,oH P mt call ops o s=some (s1,t)∧oo P mt call ops r s1=some (sF,a)∧ts=t::a:=by
 unfold oo at h
 rcases h1:oH P mt call ops o s with _|⟨s1,t⟩
 ·simp [h1]at h
 simp only [h1]at h
 rcases b:oo P mt call ops r s1 with _|⟨s2,a⟩
 ·simp [b]at h
 simp only [b,AD,AF]at h
 exact⟨s1,t,a,rfl,by rw [b,h.1],h.2.symm⟩
theorem evOps_mk{o:Oper}{r:List Oper}{s s1 sF:St}{t:Tr}{ts:List Tr}(h1:oH P mt call ops o s=some (s1,t))(a:oo P mt call ops r s1=some (sF,ts)):
  oo P mt call ops (o::r) s=some (sF,t::ts):=by
 unfold oo;simp [h1,a]
theorem uJ:∀(a:List (Oper×Tr)){o:Oper}{t:Tr}{b:List (Oper×Tr)}{s sF:St},
  oo P mt call ops ((a++(o,t)::b).map (·.1)) s=some (sF,(a++(o,t)::b).map (·.2))->(∀x∈a,uo ops x (o,t)=true)->
  ∃s1,oH P mt call ops o s=some (s1,t)∧oo P mt call ops ((a++b).map (·.1)) s1=some (sF,(a++b).map (·.2))
 | [],o,t,b,s,sF,h,_=>by
  simp only [List.nil_append,B2]at h
  obtain⟨s1,t',f,h1,c,e⟩:=rb h
  cases e
  exact⟨s1,h1,c⟩
 |(x,p)::a,o,t,b,s,sF,h,g=>by
  simp only [Bc,B2]at h
  obtain⟨s1,t',f,h1,c,e⟩:=rb h
  cases e
  obtain⟨s2,i,j⟩:=uJ a c (fun y m=>g y (by simp [m]))
  obtain⟨n,k,l⟩:=commute h1 i (g (x,p) sm)
  exact⟨n,k,by simp only [Bc,B2];exact evOps_mk l j⟩
theorem u6:∀(l:List Oper)(acc:List Nat)(i:Nat),i<acc.length->(uZ l acc).getD i 0=acc.getD i 0
 | [],acc,i,_=>rfl
 |o::r,acc,i,h=>by
  rw [uZ,u6 r _ i so]
  simp only [Bd]
  rw [AQ h]
theorem vD(acc:List Nat):∀(es:List Edge)(b j:Nat),(es.foldl (fun b e=>if Region.binds .any e then b ||| (2 ^ e.on ||| acc.getD e.on 0)else b) b).testBit j=true->
  b.testBit j=true∨∃e∈es,Region.binds .any e=true∧(e.on=j∨(acc.getD e.on 0).testBit j=true)
 | [],b,j,h=>.inl h
 |e::es,b,j,h=>by
  simp only [List.foldl_cons]at h
  rcases vD acc es _ j h with h1|⟨c,h1,f,g⟩
  ·by_cases a:Region.binds .any e=true
   ·simp only [a,if_true,Nat.testBit_or,Bool.or_eq_true,Nat.testBit_two_pow,decide_eq_true_eq]at h1
    rcases h1 with h1|h1|h1
    ·exact .inl h1
    ·exact .inr ⟨e,sm,a,.inl h1⟩
    ·exact .inr ⟨e,sm,a,.inr h1⟩
   ·simp only [a]at h1;exact .inl h1
  ·exact .inr ⟨c,by simp [h1],f,g⟩
theorem uc:∀(l:List Oper)(acc:List Nat)(i:Nat)(o:Oper),l[i]? =some o->∀j,((uZ l acc).getD (acc.length+i) 0).testBit j=true->
  ∃e∈o.after,Region.binds .any e=true∧(e.on=j∨(e.on<acc.length+i∧((uZ l acc).getD e.on 0).testBit j=true))
 | [],acc,i,o,h,_,_=>by simp at h
 |x::r,acc,0,o,h,j,c=>by
  simp only [List.getElem?_cons_zero,AD]at h
  subst h
  rw [uZ,Nat.add_zero,u6 r _ acc.length sm]at c
  simp only [Bd,List.getElem?_concat_length,Option.getD_some]at c
  rcases vD acc x.after.toList 0 j c with h1|⟨e,h1,g,a⟩
  ·simp at h1
  ·refine⟨e,by simpa using h1,g,?_⟩
   rcases a with a|a
   ·exact .inl a
   ·by_cases f:e.on<acc.length
    ·refine .inr ⟨om,?_⟩
     rw [uZ,u6 r _ e.on so]
     simp only [Bd]at a⊢
     rw [AQ f]
     exact a
    ·rw [Bd,List.getElem?_eq_none om]at a
     simp at a
 |x::r,acc,i+1,o,h,j,c=>by
  simp only [List.getElem?_cons_succ]at h
  rw [uZ]at c⊢
  have := uc r (acc ++ [x.after.toList.foldl (fun b e => if Region.binds .any e then b ||| (2 ^ e.on ||| acc.getD e.on 0) else b) 0]) i o h j (by
   simp only [BE,Be]
   rw [show acc.length+1+i=acc.length+(i+1)by omega]
   exact c)
  simp only [BE,Be]at this
  rw [show acc.length+1+i=acc.length+(i+1)by omega]at this
  exact this
theorem ye{a:Array Bool}(b:∀(i:Nat)o,ops[i]? =some o->a.getD i false=true->∀e∈o.after,Region.binds .any e=true->a.getD e.on false=true)(s:a.size=ops.size):
  ∀(n i:Nat)(o:Oper),i<=n->ops[i]? =some o->(∀e∈o.after,Region.binds .any e=true->a.getD e.on false=true)->∀j,((uZ ops.toList []).getD i 0).testBit j=true->a.getD j false=true:=by
 intro n
 induction n with
 |zero=>
  intro i o hi m he j k
  have q:i=0:=by omega
  subst q
  obtain⟨e,h1,g,c⟩:=uc ops.toList [] 0 o (by simpa using m) j (by simpa using k)
  rcases c with rfl|⟨c,_⟩
  ·exact he e h1 g
  ·simp at c
 |succ n t=>
  intro i o hi m he j k
  obtain⟨e,h1,g,c⟩:=uc ops.toList [] i o (by simpa using m) j (by simpa using k)
  rcases c with rfl|⟨c,r⟩
  ·exact he e h1 g
  ·simp only [List.length_nil,Nat.zero_add]at c
   have p:=he e h1 g
   have l:e.on<ops.size:=by
    rcases Nat.lt_or_ge e.on a.size with h|h
    ·omega
    ·simp [Array.getElem?_eq_none h]at p
   have f:ops[e.on]? =some ops[e.on]:=Array.getElem?_eq_getElem l
   exact t e.on _ om f (b e.on _ f p) j r
end
end Go.Dw
