
import Derived.Test.YtmmgjlgoggielaaGreatDwOp

namespace Go.Dw
def Lc{α:Type}(m:M α):Prop:=∀b b' a r c,m b=some (a,r,c)->(∀id∈r,b' id=b id)->m b'=some (a,r,c)
theorem Lc.pure{α:Type}(a:α):Lc (M.pure a):=fun _ _ _ _ _ h _=>h
theorem Lc.ko{α:Type}(k:Bool)(a:α):Lc (M.ko k a):=fun _ _ _ _ _ h _=>h
theorem Lc.fail{α:Type}:Lc (M.fail:M α):=fun _ _ _ _ _ h _=>h
theorem Lc.get(id:Nat):Lc (M.get id):=by
 intro b b' a r c h hb
 obtain⟨h1,h2,h3⟩:=M.get_some h
 subst h2;subst h3
 simp [M.get,hb id sm,h1]
theorem Lc.nH(id:Nat):Lc (M.nH id):=by
 intro b b' a r c h hb
 obtain⟨h1,h2,h3⟩:=M.pQ h
 subst h2;subst h3
 simp [M.nH,hb id sm,h1]
theorem Lc.bind{α β:Type}{m:M α}{f:α->M β}(hm:Lc m)(hf:∀a,Lc (f a)):Lc (M.bind m f):=by
 intro b b' x r c h hb
 unfold M.bind at h⊢
 rcases h1:m b with _|⟨a,r1,c1⟩
 ·simp [h1]at h
 simp only [h1]at h
 rcases h2:f a b with _|⟨y,r2,c2⟩
 ·simp [h2]at h
 simp only [h2,Option.some.injEq,Prod.mk.injEq]at h
 obtain⟨rfl,rfl,rfl⟩:=h
 rw [hm b b' a r1 c1 h1 (fun id hid=>hb id (List.mem_append.2 (.inl hid)))]
 simp only [hf a b b' y r2 c2 h2 (fun id hid=>hb id (List.mem_append.2 (.inr hid)))]
theorem Lc.qy(v:RV):Lc (qy v):=Lc.pure _
theorem Lc.pA(k:Bool)(v:RV):Lc (pA k v):=Lc.ko _ _
theorem Lc.vM(o:Option (PD×Bool)):Lc (vM o):=by unfold Dw.vM;split<;>first|exact Lc.ko _ _|exact Lc.fail
theorem Lc.wF(v:RV):Lc (wF v):=by
 unfold Dw.wF
 split<;>first|exact Lc.pure _|exact Lc.fail|skip
 all_goals refine Lc.bind (Lc.get _) fun bx=>?_
 all_goals (split<;>first|exact Lc.fail|skip)
 all_goals (split<;>first|exact Lc.pure _|exact Lc.ko _ _|exact Lc.fail)
theorem Lc.uG:∀(cs:List RV),Lc (uG cs)
 | []=>Lc.pure _
 |c::cs=>Lc.bind (Lc.wF c) fun _=>Lc.bind (Lc.uG cs) fun _=>Lc.pure _
theorem Lc.tB(v:RV):Lc (tB v):=by
 unfold Dw.tB
 split
 ·exact Lc.bind (Lc.uG _) fun _=>Lc.pure _
 ·exact Lc.wF _
section
variable (P:Program)
theorem Lc.tT(t:TypeId)(cs:List PD):Lc (tT P t cs):=by
 unfold Dw.tT
 split<;>first|exact Lc.fail|exact Lc.pA _ _|skip
 split<;>first|exact Lc.fail|exact Lc.qy _
theorem Lc.tq(t:TypeId)(cs:List RV)(o:Nat):Lc (tq P t cs o):=by
 unfold Dw.tq
 split<;>first|exact Lc.fail|exact Lc.pA _ _|skip
 split<;>first|exact Lc.fail|exact Lc.qy _
theorem Lc.uk(t:TypeId)(a:RV):Lc (uk P t a):=by
 unfold Dw.uk
 split
 ·exact Lc.tT P t _
 ·refine Lc.bind (Lc.get _) fun bx=>?_
  split<;>first|exact Lc.tq P t _ _|exact Lc.fail
 ·refine Lc.bind (Lc.get _) fun bx=>?_
  split<;>first|exact Lc.fail|skip
  ·split<;>first|exact Lc.fail|skip
   split<;>first|exact Lc.fail|exact Lc.tT P t _
  ·split<;>first|exact Lc.fail|skip
   split<;>first|exact Lc.fail|exact Lc.qy _
 ·exact Lc.fail
theorem Lc.vF(t:TypeId)(a v:RV):Lc (vF P t a v):=by
 unfold Dw.vF
 split<;>first|exact Lc.fail|skip
 split
 ·refine Lc.bind (Lc.get _) fun bx=>?_
  split<;>first|exact Lc.ko _ _|exact Lc.fail|skip
 ·refine Lc.bind (Lc.get _) fun bx=>?_
  split<;>first|exact Lc.fail|skip
  ·split<;>first|exact Lc.fail|skip
   refine Lc.bind (Lc.tB _) fun p=>?_
   obtain⟨p,u⟩:=p
   dsimp only
   split<;>first|exact Lc.fail|skip
   split<;>first|exact Lc.fail|exact Lc.ko _ _
  ·exact iteInduction (motive:=Lc) (fun _=>Lc.ko _ _) (fun _=>Lc.fail)
 ·exact Lc.fail
theorem Lc.wD(off:Nat)(x:RV):Lc (wD off x):=by
 unfold Dw.wD
 split
 ·refine Lc.bind (Lc.get _) fun bx=>?_
  split<;>first|exact Lc.qy _|exact Lc.fail
 ·refine Lc.bind (Lc.get _) fun bx=>?_
  split<;>first|exact Lc.fail|skip
  split<;>first|exact Lc.qy _|exact Lc.fail
 ·exact Lc.qy _
 ·exact Lc.fail
theorem Lc.ta(t:TypeId)(x:RV)(f:Nat):Lc (ta P t x f):=by
 unfold Dw.ta
 split<;>first|exact Lc.fail|skip
 split<;>first|exact Lc.fail|exact Lc.wD _ _
theorem Lc.wL(t:TypeId)(x:RV)(f:Nat):Lc (wL P t x f):=by
 unfold Dw.wL
 split<;>first|exact Lc.fail|exact Lc.tq P _ _ _
theorem Lc.wN(x i:RV):Lc (wN x i):=by
 unfold Dw.wN
 repeat' split
 all_goals first|exact Lc.pA _ _|exact Lc.fail
theorem Lc.xG(len:Nat)(e:TypeId)(x i:RV):Lc (xG P len e x i):=by
 unfold Dw.xG
 repeat' split
 all_goals first|exact Lc.bind (Lc.ko _ _) fun _=>Lc.tq _ _ _ _|exact Lc.fail
theorem Lc.vX(t:TypeId)(x i:RV):Lc (vX P t x i):=by
 unfold Dw.vX
 repeat' split
 all_goals first|exact Lc.wN _ _|exact Lc.xG _ _ _ _ _|exact Lc.fail
theorem Lc.rk(t:TypeId)(x i:RV):Lc (rk P t x i):=by
 unfold Dw.rk
 split
 ·split<;>first|exact Lc.fail|skip
  split<;>first|exact Lc.fail|exact Lc.pA _ _|skip
  all_goals refine Lc.bind (Lc.get _) fun bx=>?_
  all_goals (split<;>first|exact Lc.fail|exact Lc.pA _ _|skip)
  all_goals (split<;>first|exact Lc.fail|exact Lc.pA _ _)
 ·split<;>first|exact Lc.fail|skip
  exact Lc.bind (Lc.ko _ _) fun _=>Lc.wD _ _
 ·exact Lc.fail
theorem Lc.sliceB(e:TypeId)(id ver a b:Nat)(lo hi:Option RV):Lc (sliceB P e id ver a b lo hi):=by
 unfold Dw.sliceB
 split<;>first|exact Lc.fail|skip
 refine Lc.bind (Lc.get _) fun bx=>?_
 split<;>first|exact Lc.fail|skip
 split<;>first|exact Lc.fail|exact Lc.pA _ _
theorem Lc.xQ(nid:Nat)(e:TypeId)(n:Nat)(lo hi mx:Option RV):Lc (xQ P nid e n lo hi mx):=by
 unfold Dw.xQ
 split<;>first|exact Lc.fail|skip
 split<;>first|exact Lc.fail|exact Lc.bind (Lc.nH _) fun _=>Lc.ko _ _
theorem Lc.wU(id:Nat)(a:TypeId):Lc (wU P id a):=by
 unfold Dw.wU
 split<;>first|exact Lc.fail|skip
 split<;>first|exact Lc.fail|skip
 refine Lc.bind (Lc.get _) fun bx=>?_
 split<;>first|exact Lc.fail|skip
 split<;>first|exact Lc.fail|skip
 split<;>first|exact Lc.fail|exact Lc.ko _ _
theorem Lc.wW(e:TypeId)(id ver:Nat)(lo hi:Option RV)(mx:RV):Lc (wW P e id ver lo hi mx):=by
 unfold Dw.wW
 split<;>first|exact Lc.fail|skip
 split<;>first|exact Lc.fail|skip
 refine Lc.bind (Lc.get _) fun bx=>?_
 split<;>first|exact Lc.fail|skip
 split<;>first|exact Lc.fail|exact Lc.ko _ _
theorem Lc.wV(a:TypeId)(cs:List PD):Lc (wV P a cs):=by
 unfold Dw.wV
 split<;>first|exact Lc.fail|skip
 split<;>first|exact Lc.fail|skip
 split<;>first|exact Lc.fail|exact Lc.ko _ _
theorem Lc.yX(e:TypeId)(es:List PD)(h m:Int):Lc (yX P e es h m):=by
 unfold Dw.yX
 split<;>first|exact Lc.fail|skip
 split<;>first|exact Lc.fail|exact Lc.ko _ _
theorem Lc.yk(t:TypeId)(x:RV)(lo hi mx:Option RV):Lc (yk P t x lo hi mx):=by
 unfold Dw.yk
 split<;>first|exact Lc.fail|exact Lc.yX P _ _ _ _|skip
 split<;>first|exact Lc.fail|skip
 refine Lc.bind (Lc.get _) fun bx=>?_
 split<;>first|exact Lc.fail|skip
 split<;>first|exact Lc.fail|exact Lc.ko _ _
theorem Lc.sb(nid:Nat)(t:TypeId)(x:RV)(lo hi mx:Option RV):Lc (sb P nid t x lo hi mx):=by
 unfold Dw.sb
 split
 ·refine Lc.bind (Lc.get _) fun bx=>?_
  split<;>first|exact Lc.fail|exact Lc.sliceB P _ _ _ _ _ _ _
 ·exact Lc.sliceB P _ _ _ _ _ _ _
 ·split<;>first|exact Lc.fail|exact Lc.wU P _ _
 ·split<;>first|exact Lc.fail|exact Lc.wV P _ _
 ·split<;>first|exact Lc.fail|(split<;>first|exact Lc.pure _|exact Lc.fail)
 ·exact Lc.xQ P _ _ _ _ _ _
 ·exact Lc.wW P _ _ _ _ _ _
 all_goals first|exact Lc.fail|(split<;>first|exact Lc.fail|exact Lc.pA _ _)
theorem Lc.wK(t:TypeId)(l:List (Nat×RV)):Lc (wK P t l):=by
 unfold Dw.wK
 split
 ·split<;>first|exact Lc.fail|skip
  split<;>first|exact Lc.fail|exact Lc.pA _ _
 ·split<;>first|exact Lc.fail|skip
  split<;>first|exact Lc.fail|exact Lc.pA _ _
 ·exact Lc.fail
theorem Lc.wO(mt:Bool)(cs:List RV):Lc (wO mt cs):=by
 unfold Dw.wO
 split
 ·exact Lc.pure _
 ·exact Lc.uG _
theorem Lc.sk(mt:Bool)(id:Nat)(t:TypeId)(len:Nat)(l:List (Nat×RV)):Lc (sk P mt id t len l):=by
 unfold Dw.sk
 split<;>first|exact Lc.fail|skip
 split<;>first|exact Lc.fail|skip
 split<;>first|exact Lc.fail|skip
 split<;>first|exact Lc.fail|skip
 refine Lc.bind (Lc.wO _ _) fun p=>?_
 obtain⟨ps,u⟩:=p
 dsimp only
 split
 ·exact Lc.bind (Lc.nH _) fun _=>Lc.ko _ _
 ·exact Lc.ko _ _
theorem Lc.wH(id:Nat)(t:TypeId):Lc (wH P id t):=by
 unfold Dw.wH
 split<;>first|exact Lc.fail|exact Lc.bind (Lc.nH _) fun _=>Lc.pure _
theorem Lc.boxD(id:Nat)(v:RV):Lc (boxD id v):=Lc.bind (Lc.nH _) fun _=>Lc.ko _ _
theorem Lc.yY(t:TypeId)(x:RV):Lc (yY P t x):=by
 unfold Dw.yY
 split<;>first|exact Lc.fail|exact Lc.qy _|skip
 all_goals refine Lc.bind (Lc.get _) fun bx=>?_
 all_goals (split<;>first|exact Lc.fail|exact Lc.qy _|skip)
 all_goals (split<;>first|exact Lc.fail|exact Lc.qy _|exact Lc.pA _ _)
theorem Lc.sJ(x:RV):Lc (sJ x):=by
 unfold Dw.sJ
 split<;>first|exact Lc.fail|exact Lc.pure _|skip
 all_goals refine Lc.bind (Lc.get _) fun bx=>?_
 all_goals (split<;>first|exact Lc.fail|skip)
 all_goals (split<;>first|exact Lc.fail|exact Lc.pure _|exact Lc.ko _ _)
theorem Lc.sw(id:Nat)(t t':TypeId)(s x:RV):Lc (sw P id t t' s x):=by
 unfold Dw.sw
 split<;>first|exact Lc.fail|skip
 split<;>first|exact Lc.fail|skip
 split<;>first|exact Lc.fail|skip
 refine Lc.bind (Lc.sJ _) fun xs=>?_
 split
 ·exact Lc.bind (Lc.nH _) fun _=>Lc.ko _ _
 ·refine Lc.bind (Lc.get _) fun bx=>?_
  split<;>first|exact Lc.fail|skip
  all_goals (split<;>first|exact Lc.fail|exact Lc.ko _ _)
 ·refine Lc.bind (Lc.get _) fun bx=>?_
  split<;>first|exact Lc.fail|skip
  split<;>first|exact Lc.fail|exact Lc.ko _ _
 ·exact Lc.ko _ _
 ·exact Lc.fail
theorem Lc.ym(x:RV):Lc (ym x):=by
 unfold Dw.ym
 split<;>first|exact Lc.fail|skip
 all_goals refine Lc.bind (Lc.get _) fun bx=>?_
 all_goals (split<;>first|exact Lc.fail|skip)
 all_goals (split<;>first|exact Lc.fail|exact Lc.pure _|exact Lc.ko _ _)
theorem Lc.xU(t:TypeId)(x y:RV):Lc (xU P t x y):=by
 unfold Dw.xU
 split<;>first|exact Lc.fail|skip
 split<;>first|exact Lc.fail|skip
 exact Lc.bind (Lc.ym _) fun _=>Lc.bind (Lc.sJ _) fun _=>Lc.ko _ _
theorem Lc.uL(t:TypeId)(x:RV):Lc (uL P t x):=by
 unfold Dw.uL
 split<;>first|exact Lc.fail|skip
 split<;>first|exact Lc.fail|skip
 exact Lc.bind (Lc.ym _) fun _=>Lc.ko _ _
theorem Lc.minD(l:List RV):Lc (minD l):=by
 unfold Dw.minD
 split<;>first|exact Lc.fail|skip
 split<;>first|exact Lc.fail|exact Lc.pure _
theorem Lc.maxD(l:List RV):Lc (maxD l):=by
 unfold Dw.maxD
 split<;>first|exact Lc.fail|skip
 split<;>first|exact Lc.fail|exact Lc.pure _
theorem Lc.argD(by_:Bool)(v:RV):Lc (argD by_ v):=by
 unfold Dw.argD
 split<;>first|exact Lc.pure _|exact Lc.bind (Lc.tB _) fun _=>Lc.ko _ _|(split<;>first|exact Lc.pure _|exact Lc.bind (Lc.tB _) fun _=>Lc.pure _|exact Lc.bind (Lc.tB _) fun _=>Lc.ko _ _)
theorem Lc.vS(by_:Nat->Bool):∀(i:Nat)(l:List RV),Lc (vS by_ i l)
 |_,[]=>Lc.pure _
 |i,v::r=>Lc.bind (Lc.argD _ v) fun _=>Lc.bind (Lc.vS by_ (i+1) r) fun _=>Lc.pure _
theorem Lc.tu:∀(n:Nat)(done todo:List Nat),Lc (tu n done todo)
 |0,_,_=>Lc.fail
 |_+1,_,[]=>Lc.pure _
 |n+1,done,i::todo=>by
  unfold Dw.tu
  split
  ·exact Lc.tu n _ _
  ·exact Lc.bind (Lc.get _) fun _=>Lc.tu n _ _
theorem Lc.vL:∀(l:List Nat),Lc (vL l)
 | []=>Lc.pure _
 |_::r=>Lc.bind (Lc.get _) fun _=>Lc.bind (Lc.vL r) fun _=>Lc.pure _
theorem Lc.sX:∀(l:List Nat),Lc (sX l)
 | []=>Lc.pure _
 |_::r=>Lc.bind (Lc.nH _) fun _=>Lc.sX r
theorem Lc.tf(by_:FuncId->Nat->Bool)(call:n5)(f:FuncId)(base:Nat)(l:List RV):Lc (tf by_ call f base l):=by
 unfold Dw.tf
 refine Lc.bind (Lc.vS _ _ _) fun x=>Lc.bind (Lc.tu _ _ _) fun ids=>Lc.bind (Lc.vL _) fun bxs=>?_
 split<;>first|exact Lc.fail|skip
 split<;>first|exact Lc.fail|exact Lc.bind (Lc.sX _) fun _=>Lc.pure _
theorem Lc.vK(id:Nat)(src dst:TypeId)(x:RV):Lc (vK P id src dst x):=by
 unfold Dw.vK
 split
 ·split<;>first|exact Lc.fail|exact Lc.bind (Lc.nH _) fun _=>Lc.ko _ _
 ·split<;>first|exact Lc.fail|skip
  refine Lc.bind (Lc.get _) fun bx=>?_
  split<;>first|exact Lc.fail|skip
  refine iteInduction (motive:=Lc) (fun _=>?_) (fun _=>Lc.fail)
  split<;>first|exact Lc.fail|exact Lc.qy _
 ·split<;>first|exact Lc.fail|skip
  split<;>first|exact Lc.fail|exact Lc.qy _
 ·exact Lc.vM _
theorem Lc.tP(id:Nat)(t:TypeId):Lc (tP P id t):=by
 unfold Dw.tP
 split<;>first|exact Lc.fail|exact Lc.bind (Lc.nH _) fun _=>Lc.pure _
theorem Lc.um(id:Nat)(t:TypeId):Lc (um P id t):=by
 unfold Dw.um
 split<;>first|exact Lc.fail|skip
 split<;>first|exact Lc.fail|exact Lc.bind (Lc.nH _) fun _=>Lc.pure _
theorem Lc.tG(nid:Nat)(t:TypeId)(x k:RV):Lc (tG P nid t x k):=by
 unfold Dw.tG
 split<;>first|exact Lc.fail|skip
 refine Lc.bind (Lc.get _) fun bx=>?_
 split<;>first|exact Lc.fail|skip
 refine iteInduction (motive:=Lc) (fun _=>?_) (fun _=>Lc.fail)
 refine Lc.bind (Lc.nH _) fun _=>?_
 split
 ·exact Lc.ko _ _
 ·exact iteInduction (motive:=Lc) (fun _=>Lc.pure _) (fun _=>Lc.fail)
 ·exact Lc.fail
theorem Lc.sl(x n v:RV):Lc (sl x n v):=by
 unfold Dw.sl
 split<;>first|exact Lc.fail|skip
 refine Lc.bind (Lc.get _) fun bx=>?_
 split<;>first|exact Lc.fail|skip
 refine Lc.bind (Lc.get _) fun bx=>?_
 split<;>first|exact Lc.fail|skip
 refine iteInduction (motive:=Lc) (fun _=>?_) (fun _=>Lc.fail)
 split<;>first|exact Lc.fail|exact Lc.pure _
theorem Lc.ub(t:TypeId)(x k:RV)(ok:Bool):Lc (ub P t x k ok):=by
 unfold Dw.ub
 split<;>first|exact Lc.fail|skip
 refine Lc.bind (Lc.get _) fun bx=>?_
 split<;>first|exact Lc.fail|skip
 split<;>first|exact Lc.fail|skip
 split<;>first|exact Lc.fail|(split<;>exact Lc.qy _)
theorem Lc.vA(t:TypeId)(x k v:RV):Lc (vA P t x k v):=by
 unfold Dw.vA
 split<;>first|exact Lc.fail|skip
 refine Lc.bind (Lc.get _) fun bx=>?_
 split<;>first|exact Lc.fail|skip
 split<;>first|exact Lc.fail|skip
 refine Lc.bind (Lc.tB _) fun p=>?_
 obtain⟨p,u⟩:=p
 dsimp only
 split<;>first|exact Lc.fail|(split<;>first|exact Lc.fail|exact Lc.ko _ _|exact Lc.pure _)
theorem Lc.sa(id:Nat)(t:TypeId)(l c:RV):Lc (sa P id t l c):=by
 unfold Dw.sa
 split<;>first|exact Lc.fail|skip
 split<;>first|exact Lc.fail|exact Lc.bind (Lc.nH _) fun _=>Lc.ko _ _
theorem Lc.xT(id:Nat)(t t':TypeId)(a x:RV):Lc (xT P id t t' a x):=by
 unfold Dw.xT
 split<;>first|exact Lc.fail|skip
 split<;>first|exact Lc.fail|exact Lc.bind (Lc.nH _) fun _=>Lc.ko _ _
theorem Lc.capD(t:TypeId)(x:RV):Lc (capD P t x):=by
 unfold Dw.capD
 split<;>first|exact Lc.fail|exact Lc.qy _
theorem Lc.ifcD(t:TypeId)(x:RV):Lc (ifcD P t x):=by
 unfold Dw.ifcD
 split<;>first|exact Lc.fail|exact Lc.qy _
theorem Lc.u4(x:RV)(t:TypeId)(ok:Bool):Lc (u4 P x t ok):=by
 unfold Dw.u4
 split<;>first|exact Lc.fail|skip
 exact iteInduction (motive:=Lc) (fun _=>Lc.qy _) (fun _=>Lc.fail)
theorem Lc.vr(mt:Hf)(call:n5)(base:Nat)(x:RV)(name:String)(as:List RV):Lc (vr P mt call base x name as):=by
 unfold Dw.vr
 split<;>first|exact Lc.fail|skip
 split<;>first|exact Lc.fail|exact Lc.tf _ _ _ _ _|skip
 exact Lc.bind (Lc.uk P _ _) fun _=>Lc.tf _ _ _ _ _
theorem Lc.oU(mt:Hf)(call:n5)(s:St)(o:Oper):Lc (oU P mt call s o):=by
 unfold Dw.oU
 split
 all_goals (try exact Lc.fail)
 all_goals (try exact Lc.wH P _ _)
 all_goals (split<;>first|exact Lc.fail|exact Lc.qy _|exact Lc.ifcD P _ _|exact Lc.u4 P _ _ _|exact Lc.boxD _ _|exact Lc.wK P _ _|exact Lc.sk P _ _ _ _ _|exact Lc.uk P _ _|exact Lc.vF P _ _ _|exact Lc.wD _ _|exact Lc.vM _|exact Lc.sb P _ _ _ _ _ _|exact Lc.ta P _ _ _|exact Lc.wL P _ _ _|exact Lc.rk P _ _ _|exact Lc.vX P _ _ _|exact Lc.minD _|exact Lc.maxD _|exact Lc.ub P _ _ _ _|exact Lc.vA P _ _ _ _|exact Lc.tP P _ _|exact iteInduction (motive:=Lc) (fun _=>Lc.um P _ _) (fun _=>Lc.tP P _ _)|exact Lc.tG P _ _ _ _|exact Lc.sl _ _ _|exact Lc.sa P _ _ _ _|exact Lc.vK P _ _ _ _|skip)
 all_goals (split<;>first|exact Lc.fail|exact Lc.qy _|exact Lc.vr P _ _ _ _ _ _|exact Lc.yY P _ _|exact Lc.capD P _ _|exact Lc.sw P _ _ _ _ _|exact Lc.xU P _ _ _|exact Lc.uL P _ _|exact Lc.yk P _ _ _ _ _|exact Lc.sb P _ _ _ _ _ _|exact Lc.tf _ _ _ _ _|(split<;>first|exact Lc.fail|exact Lc.qy _|exact Lc.sw P _ _ _ _ _|exact Lc.xT P _ _ _ _ _))
end
theorem wR{s s':St}:∀{xs:List Operand},(∀x∈xs,s.opd x=s'.opd x)->tw s xs=tw s' xs
 | [],_=>rfl
 |x::xs,h=>by simp only [tw];rw [h x sm,wR fun y hy=>h y (by simp [hy])]
theorem ur{s s':St}:∀{xs:List (Nat×Operand)},(∀x∈xs.map (·.2),s.opd x=s'.opd x)->sg s xs=sg s' xs
 | [],_=>rfl
 |(i,x)::xs,h=>by simp only [sg];rw [h x sm,ur fun y hy=>h y (by simp only [List.map_cons,List.mem_cons];exact .inr hy)]
theorem uc{s s':St}{x:Option Operand}(h:∀y∈x.toArray,s.opd y=s'.opd y):qz s x=qz s' x:=by
 cases x with
 |none=>rfl
 |some y=>simp only [qz];rw [h y sm]
theorem Bx{P:Program}{mt:Hf}{call:n5}{s s':St}(o:Oper)(h:∀x∈o.op.operands,s.opd x=s'.opd x):oU P mt call s o=oU P mt call s' o:=by
 unfold oU
 rcases hop:o.op with x|x|⟨c,x,y⟩|t|⟨t,x⟩|⟨t,parts⟩|⟨t,len,parts⟩|⟨t,m,k,x⟩|⟨t,x⟩|⟨t,x,y⟩|g|g|x|⟨op,t,x,y,t2⟩|⟨op,t,x⟩|⟨t,t2,x⟩|⟨t,x⟩|⟨t,x⟩|⟨fn,x,y⟩|⟨t,x⟩|⟨t,x⟩|⟨t,x,y⟩|⟨t,x,lo,hi,mx⟩|⟨t,x,f⟩|⟨t,x,f⟩|⟨t,x,y⟩|⟨t,x,y⟩|⟨t,x,y,c⟩|⟨t,x,y,c⟩|⟨t,x,y⟩|⟨t,x,y,c⟩|⟨t,x⟩|⟨x,b⟩|x|⟨x,t,t2,b⟩|⟨x,i⟩|c|c|c|x|⟨x,y⟩|⟨t,x,b⟩|⟨cs,b⟩
 all_goals (simp only [hop,Op.operands]at h)
 all_goals (try simp only)
 all_goals (try rw [h x sm])
 all_goals (try rw [h y sm])
 ·rw [h c sm]
 ·rw [ur fun x hx=>h x (by simpa using hx)]
 ·rw [ur fun x hx=>h x (by simpa using hx)]
 ·cases op<;>(try simp only)<;>rw [h x sm]
 ·rw [wR (s:=s) (s':=s') (xs:=y.toList) fun x hx=>h x (by simp only [Array.mem_append];exact .inr (by simpa using hx))]
  cases tw s' y.toList with
  |none=>rfl
  |some l=>
  rcases hx:x.toList with _|⟨x0,_|⟨x1,xs⟩⟩
  ·cases fn<;>rfl
  ·have h0:s.opd x0=s'.opd x0:=h x0 (by simp only [Array.mem_append];exact .inl (by rw [<-Array.mem_toList_iff,hx];exact List.mem_singleton.2 rfl))
   cases fn<;>first|rfl|(simp only [];rw [h0])
  ·cases fn<;>rfl
 ·rw [uc (x:=x) fun y hy=>h y (by simpa using hy)]
 ·rw [uc (x:=lo) fun y hy=>h y (by simp only [Array.mem_append];exact .inl (.inl (.inr hy))),uc (x:=hi) fun y hy=>h y (by simp only [Array.mem_append];exact .inl (.inr hy)),uc (x:=mx) fun y hy=>h y (by simp only [Array.mem_append];exact .inr hy)]
 ·rw [h c sm]
 ·rw [h c sm]
 ·have ha:tw s c.args.toList=tw s' c.args.toList:=wR fun x hx=>h x (by simp only [Call.operands,Array.mem_append];exact .inr (by simpa using hx))
  rw [ha]
  cases hc:c.callee with
  |value f=>
   have hf:s.opd f=s'.opd f:=h f (by simp [Call.operands,hc])
   cases tw s' c.args.toList with
   |none=>rfl
   |some l=>simp only [hf]
  |invoke rc m=>
   have hf:s.opd rc=s'.opd rc:=h rc (by simp [Call.operands,hc])
   cases tw s' c.args.toList with
   |none=>rfl
   |some l=>simp only [hf]
  |builtin b=>
   cases tw s' c.args.toList with
   |none=>cases b<;>rfl
   |some l=>rcases l with _|⟨x,_|⟨y,_|⟨z,l⟩⟩⟩<;>cases b<;>rfl
end Go.Dw
namespace Go.Dw
theorem BT:∀(u:Ups)(s s':St)(id:Nat),id∈u.map (·.1)->(s.ups u).boxes id=(s'.ups u).boxes id
 | [],_,_,_,h=>by simp at h
 |(i,b)::r,s,s',id,h=>by
  rw [ss,ss]
  by_cases hr:id∈r.map (·.1)
  ·exact BT r _ _ id hr
  ·rw [sh _ _ _ hr,sh _ _ _ hr]
   have:id=i:=by simpa [hr]using h
   subst this
   show upd s.boxes id b id=upd s'.boxes id b id
   rw [iU,iU]
theorem th(s:St)(d:Option Nat)(v:RV):(s.put d v).boxes=s.boxes:=by cases d<;>rfl
theorem St.ext'{s s':St}(h1:s.nF=s'.nF)(h2:s.boxes=s'.boxes):s=s':=by
 obtain⟨a,b⟩:=s
 obtain⟨c,d⟩:=s'
 simp only at h1 h2
 subst h1;subst h2
 rfl
theorem zt{s:St}{u1 u2:Ups}{d1 d2:Option Nat}{v1 v2:RV}(hu:disj (u1.map (·.1)) (u2.map (·.1))=true)(hd:∀d,d1=some d->d2≠some d):
  ((((s.ups u1).put d1 v1).ups u2).put d2 v2)=((((s.ups u2).put d2 v2).ups u1).put d1 v1):=by
 have hu:=wi hu
 refine St.ext' ?_ ?_
 ·cases d1 with
  |none=>
   cases d2 with
   |none=>simp only [St.put,sW]
   |some e=>simp only [St.put,sW]
  |some d=>
   cases d2 with
   |none=>simp only [St.put,sW]
   |some e=>
    have hne:d≠e:=fun he=>hd d rfl (he▸rfl)
    simp only [St.put,sW]
    funext t
    by_cases h1:t=d
    ·subst h1;simp [hne]
    ·by_cases h2:t=e
     ·subst h2;simp [h1]
     ·simp [h1,h2]
 ·rw [th,th]
  funext id
  by_cases h1:id∈u1.map (·.1)
  ·have h2:id∉u2.map (·.1):=hu id h1
   rw [sh _ _ _ h2,th]
   rw [BT u1 _ ((s.ups u2).put d2 v2) id h1]
  ·by_cases h2:id∈u2.map (·.1)
   ·rw [sh u1 _ _ h1,th]
    rw [BT u2 _ s id h2]
   ·rw [sh _ _ _ h2,th,sh _ _ _ h1,sh _ _ _ h1,th,sh _ _ _ h2]
section
variable {P:Program}{mt:Hf}{call:n5}{ops:Array Oper}
theorem uF{o:Oper}{s s':St}{t:Tr}(h:sR P mt call ops o s=some (s',t)):
  (jL ops s o=some true∧∃v u,oU P mt call s o s.boxes=some ((v,u),t.rd,true)∧s'=(s.ups u).put o.dst v∧t.wr=u.map (·.1))∨
  (jL ops s o=some false∧s'=s.put o.dst .undef∧t.rd=[]∧t.wr=[]):=by
 unfold sR at h
 rcases hw:jL ops s o with _|w
 ·simp [hw]at h
 simp only [hw]at h
 cases w with
 |true=>
  simp only [if_true]at h
  rcases he:oU P mt call s o s.boxes with _|⟨⟨v,u⟩,rd,c⟩
  ·simp [he]at h
  simp only [he]at h
  cases c with
  |true=>
   simp only [if_true,Option.some.injEq,Prod.mk.injEq]at h
   obtain⟨rfl,rfl⟩:=h
   exact .inl ⟨rfl,v,u,rfl,rfl,rfl⟩
  |false=>simp at h
 |false=>
  simp only [Bool.false_eq_true,if_false,Option.some.injEq,Prod.mk.injEq]at h
  obtain⟨rfl,rfl⟩:=h
  exact .inr ⟨rfl,rfl,rfl,rfl⟩
theorem xv{o:Oper}{s:St}{v:RV}{u:Ups}{rd:List Nat}(hw:jL ops s o=some true)(he:oU P mt call s o s.boxes=some ((v,u),rd,true)):
  sR P mt call ops o s=some ((s.ups u).put o.dst v,⟨rd,u.map (·.1)⟩):=by
 unfold sR;simp [hw,he]
theorem wY{o:Oper}{s:St}(hw:jL ops s o=some false):sR P mt call ops o s=some (s.put o.dst .undef,⟨[],[]⟩):=by
 unfold sR;simp [hw]
theorem uH{o:Oper}{s s':St}(h:∀t∈o.looksAt ops,s.nF t=s'.nF t):jL ops s o=jL ops s' o:=by
 unfold jL
 cases hg:o.guard with
 |none=>rfl
 |some g=>
  obtain⟨j,want⟩:=g
  simp only
  cases ht:(ops[j]?).bind (·.dst)with
  |none=>rfl
  |some t=>
   simp only
   rw [h t (by simp [Oper.looksAt,hg,ht])]
theorem yU{o:Oper}{s s':St}(h:∀t∈o.looksAt ops,s.nF t=s'.nF t):oU P mt call s o=oU P mt call s' o:=by
 refine Bx o fun x hx=>?_
 cases x with
 |tmp t=>exact h t (List.mem_append_left _ (List.mem_filterMap.2 ⟨.tmp t,by simpa using hx,rfl⟩))
 |const v=>rfl
 |global g=>rfl
 |func f=>rfl
theorem Bg{o:Oper}{s s1 s':St}{t:Tr}{d:Option Nat}{u:Ups}{v:RV}(h:sR P mt call ops o s1=some (s',t))(hs:s1=(s.ups u).put d v)
  (hd:∀e,d=some e->e∉o.looksAt ops) (hu:disj (u.map (·.1)) t.rd=true):
  ∃v' u',t.wr=u'.map (·.1)∧s'=(s1.ups u').put o.dst v'∧sR P mt call ops o s=some ((s.ups u').put o.dst v',t):=by
 have hregs:∀t∈o.looksAt ops,s1.nF t=s.nF t:=by
  intro t ht
  subst hs
  cases d with
  |none=>simp only [St.put,sW]
  |some e=>
   have:t≠e:=fun he=>hd e rfl (he▸ht)
   simp only [St.put,sW,this,if_false]
 have hu:=wi hu
 rcases uF h with⟨hw,v',u',he,h1,h2⟩|⟨hw,h1,h2,h3⟩
 ·have hw':jL ops s o=some true:=by rw [<-uH hregs];exact hw
  have he':oU P mt call s o s.boxes=some ((v',u'),t.rd,true):=by
   rw [<-yU (P:=P) (mt:=mt) (call:=call) hregs]
   refine Lc.oU P mt call s1 o _ _ _ _ _ he fun id hid=>?_
   subst hs
   rw [th,sh _ _ _ (fun hm=>hu id hm hid)]
  refine⟨v',u',h2,h1,?_⟩
  rw [xv hw' he']
  obtain⟨rd,wr⟩:=t
  simp only at h2
  rw [h2]
 ·have hw':jL ops s o=some false:=by rw [<-uH hregs];exact hw
  refine⟨.undef,[],by rw [h3];rfl,h1,?_⟩
  rw [wY hw']
  obtain⟨rd,wr⟩:=t
  simp only at h2 h3
  rw [h2,h3]
  rfl
theorem commute{x y:Oper}{s s1 s2:St}{tx ty:Tr}(h1:sR P mt call ops x s=some (s1,tx))(h2:sR P mt call ops y s1=some (s2,ty))(hp:xN ops (x,tx) (y,ty)=true):
  ∃s3,sR P mt call ops y s=some (s3,ty)∧sR P mt call ops x s3=some (s2,tx):=by
 simp only [xN,Bool.and_eq_true]at hp
 obtain⟨⟨⟨hap,hd1⟩,hd2⟩,hd3⟩:=hp
 obtain⟨a1,a2,a3⟩:=Oper.apart_spec hap
 have hx:∃v u,s1=(s.ups u).put x.dst v∧tx.wr=u.map (·.1):=by
  rcases uF h1 with⟨_,v,u,_,h3,h4⟩|⟨_,h3,_,h4⟩
  ·exact⟨v,u,h3,h4⟩
  ·exact⟨.undef,[],h3,by rw [h4];rfl⟩
 obtain⟨vx,ux,hs1,hwx⟩:=hx
 obtain⟨vy,uy,hwy,hs2,hy⟩:=Bg h2 hs1 a1 (by rw [<-hwx];exact hd1)
 refine⟨_,hy,?_⟩
 have hregs:∀t∈x.looksAt ops,((s.ups uy).put y.dst vy).nF t=s.nF t:=by
  intro t ht
  cases hdy:y.dst with
  |none=>simp only [St.put,sW]
  |some e=>
   have:t≠e:=fun he=>a3 e hdy (he▸ht)
   simp only [St.put,sW,this,if_false]
 have hd2:=wi hd2
 rcases uF h1 with⟨hw,v,u,he,h3,h4⟩|⟨hw,h3,h4,h5⟩
 ·have hw':jL ops ((s.ups uy).put y.dst vy) x=some true:=by rw [uH hregs];exact hw
  have he':oU P mt call ((s.ups uy).put y.dst vy) x ((s.ups uy).put y.dst vy).boxes=some ((v,u),tx.rd,true):=by
   rw [yU (P:=P) (mt:=mt) (call:=call) hregs]
   refine Lc.oU P mt call s x _ _ _ _ _ he fun id hid=>?_
   rw [th,sh _ _ _ (fun hm=>hd2 id (by rw [hwy];exact hm) hid)]
  rw [xv hw' he',hs2,h3]
  rw [zt (by rw [<-h4, <-hwy];exact hd3) a2]
  obtain⟨rd,wr⟩:=tx
  simp only at h4
  rw [h4]
 ·have hw':jL ops ((s.ups uy).put y.dst vy) x=some false:=by rw [uH hregs];exact hw
  rw [wY hw',hs2,h3]
  have:=zt (s:=s) (u1:=[]) (u2:=uy) (d1:=x.dst) (d2:=y.dst) (v1:= .undef) (v2:=vy) (by rfl) a2
  simp only [St.ups]at this
  rw [this]
  obtain⟨rd,wr⟩:=tx
  simp only at h4 h5
  rw [h4,h5]
theorem u9{o:Oper}{r:List Oper}{s sF:St}{ts:List Tr}(h:sj P mt call ops (o::r) s=some (sF,ts)):
  ∃s1 t ts',sR P mt call ops o s=some (s1,t)∧sj P mt call ops r s1=some (sF,ts')∧ts=t::ts':=by
 unfold sj at h
 rcases h1:sR P mt call ops o s with _|⟨s1,t⟩
 ·simp [h1]at h
 simp only [h1]at h
 rcases h2:sj P mt call ops r s1 with _|⟨s2,ts'⟩
 ·simp [h2]at h
 simp only [h2,Option.some.injEq,Prod.mk.injEq]at h
 exact⟨s1,t,ts',rfl,by rw [h2,h.1],h.2.symm⟩
theorem evOps_mk{o:Oper}{r:List Oper}{s s1 sF:St}{t:Tr}{ts:List Tr}(h1:sR P mt call ops o s=some (s1,t))(h2:sj P mt call ops r s1=some (sF,ts)):
  sj P mt call ops (o::r) s=some (sF,t::ts):=by
 unfold sj;simp [h1,h2]
theorem yb:∀(l1:List (Oper×Tr)){o:Oper}{t:Tr}{l2:List (Oper×Tr)}{s sF:St},
  sj P mt call ops ((l1++(o,t)::l2).map (·.1)) s=some (sF,(l1++(o,t)::l2).map (·.2))->(∀x∈l1,xN ops x (o,t)=true)->
  ∃s1,sR P mt call ops o s=some (s1,t)∧sj P mt call ops ((l1++l2).map (·.1)) s1=some (sF,(l1++l2).map (·.2))
 | [],o,t,l2,s,sF,h,_=>by
  simp only [List.nil_append,List.map_cons]at h
  obtain⟨s1,t',ts',h1,h2,h3⟩:=u9 h
  cases h3
  exact⟨s1,h1,h2⟩
 |(x,tx)::l1,o,t,l2,s,sF,h,hp=>by
  simp only [List.cons_append,List.map_cons]at h
  obtain⟨s1,t',ts',h1,h2,h3⟩:=u9 h
  cases h3
  obtain⟨s2,h4,h5⟩:=yb l1 h2 (fun y hy=>hp y (by simp [hy]))
  obtain⟨s3,h6,h7⟩:=commute h1 h4 (hp (x,tx) sm)
  exact⟨s3,h6,by simp only [List.cons_append,List.map_cons];exact evOps_mk h7 h5⟩
theorem yF:∀(l:List Oper)(acc:List Nat)(i:Nat),i<acc.length->(yE l acc).getD i 0=acc.getD i 0
 | [],acc,i,_=>rfl
 |o::r,acc,i,h=>by
  rw [yE,yF r _ i so]
  simp only [List.getD_eq_getElem?_getD]
  rw [List.getElem?_append_left h]
theorem yW(acc:List Nat):∀(es:List Edge)(b j:Nat),(es.foldl (fun b e=>if Region.binds .any e then b ||| (2 ^ e.on ||| acc.getD e.on 0)else b) b).testBit j=true->
  b.testBit j=true∨∃e∈es,Region.binds .any e=true∧(e.on=j∨(acc.getD e.on 0).testBit j=true)
 | [],b,j,h=>.inl h
 |e::es,b,j,h=>by
  simp only [List.foldl_cons]at h
  rcases yW acc es _ j h with h1|⟨e',h1,h2,h3⟩
  ·by_cases hb:Region.binds .any e=true
   ·simp only [hb,if_true,Nat.testBit_or,Bool.or_eq_true,Nat.testBit_two_pow,decide_eq_true_eq]at h1
    rcases h1 with h1|h1|h1
    ·exact .inl h1
    ·exact .inr ⟨e,sm,hb,.inl h1⟩
    ·exact .inr ⟨e,sm,hb,.inr h1⟩
   ·simp only [hb]at h1;exact .inl h1
  ·exact .inr ⟨e',by simp [h1],h2,h3⟩
theorem xC:∀(l:List Oper)(acc:List Nat)(i:Nat)(o:Oper),l[i]? =some o->∀j,((yE l acc).getD (acc.length+i) 0).testBit j=true->
  ∃e∈o.after,Region.binds .any e=true∧(e.on=j∨(e.on<acc.length+i∧((yE l acc).getD e.on 0).testBit j=true))
 | [],acc,i,o,h,_,_=>by simp at h
 |x::r,acc,0,o,h,j,hj=>by
  simp only [List.getElem?_cons_zero,Option.some.injEq]at h
  subst h
  rw [yE,Nat.add_zero,yF r _ acc.length sm]at hj
  simp only [List.getD_eq_getElem?_getD,List.getElem?_concat_length,Option.getD_some]at hj
  rcases yW acc x.after.toList 0 j hj with h1|⟨e,h1,h2,h3⟩
  ·simp at h1
  ·refine⟨e,by simpa using h1,h2,?_⟩
   rcases h3 with h3|h3
   ·exact .inl h3
   ·by_cases hlt:e.on<acc.length
    ·refine .inr ⟨za,?_⟩
     rw [yE,yF r _ e.on so]
     simp only [List.getD_eq_getElem?_getD]at h3⊢
     rw [List.getElem?_append_left hlt]
     exact h3
    ·rw [List.getD_eq_getElem?_getD,List.getElem?_eq_none za]at h3
     simp at h3
 |x::r,acc,i+1,o,h,j,hj=>by
  simp only [List.getElem?_cons_succ]at h
  rw [yE]at hj⊢
  have := xC r (acc ++ [x.after.toList.foldl (fun b e => if Region.binds .any e then b ||| (2 ^ e.on ||| acc.getD e.on 0) else b) 0]) i o h j (by
   simp only [List.length_append,List.length_singleton]
   rw [show acc.length+1+i=acc.length+(i+1)by omega]
   exact hj)
  simp only [List.length_append,List.length_singleton]at this
  rw [show acc.length+1+i=acc.length+(i+1)by omega]at this
  exact this
theorem Bk{listed:Array Bool}(hclosed:∀(i:Nat)o,ops[i]? =some o->listed.getD i false=true->∀e∈o.after,Region.binds .any e=true->listed.getD e.on false=true)(hsz:listed.size=ops.size):
  ∀(n i:Nat)(o:Oper),i<=n->ops[i]? =some o->(∀e∈o.after,Region.binds .any e=true->listed.getD e.on false=true)->∀j,((yE ops.toList []).getD i 0).testBit j=true->listed.getD j false=true:=by
 intro n
 induction n with
 |zero=>
  intro i o hi ho he j hj
  have h0:i=0:=by omega
  subst h0
  obtain⟨e,h1,h2,h3⟩:=xC ops.toList [] 0 o (by simpa using ho) j (by simpa using hj)
  rcases h3 with rfl|⟨h3,_⟩
  ·exact he e h1 h2
  ·simp at h3
 |succ n ih=>
  intro i o hi ho he j hj
  obtain⟨e,h1,h2,h3⟩:=xC ops.toList [] i o (by simpa using ho) j (by simpa using hj)
  rcases h3 with rfl|⟨h3,h4⟩
  ·exact he e h1 h2
  ·simp only [List.length_nil,Nat.zero_add]at h3
   have hl:=he e h1 h2
   have hlt:e.on<ops.size:=by
    rcases Nat.lt_or_ge e.on listed.size with h|h
    ·omega
    ·simp [Array.getElem?_eq_none h]at hl
   have ho2:ops[e.on]? =some ops[e.on]:=Array.getElem?_eq_getElem hlt
   exact ih e.on _ za ho2 (hclosed e.on _ ho2 hl) j h4
end
end Go.Dw
