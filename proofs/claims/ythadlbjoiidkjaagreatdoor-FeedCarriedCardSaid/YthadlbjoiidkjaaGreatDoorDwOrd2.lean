
import Derived.Test.YthadlbjoiidkjaaGreatDoorDwOp

namespace Go.Dw
def Lc{α:Type}(m:M α):Prop:=∀b b' a r c,m b=some (a,r,c)->(∀id∈r,b' id=b id)->m b'=some (a,r,c)
theorem Lc.pure{α:Type}(a:α):Lc (M.pure a):=fun _ _ _ _ _ h _=>h
theorem Lc.pO{α:Type}(k:Bool)(a:α):Lc (M.pO k a):=fun _ _ _ _ _ h _=>h
theorem Lc.fail{α:Type}:Lc (M.fail:M α):=fun _ _ _ _ _ h _=>h
theorem Lc.get(id:Nat):Lc (M.get id):=by
 intro b b' a r c h hb
 obtain⟨h1,h2,h3⟩:=M.get_some h
 subst h2;subst h3
 simp [M.get,hb id sm,h1]
theorem Lc.qf(id:Nat):Lc (M.qf id):=by
 intro b b' a r c h hb
 obtain⟨h1,h2,h3⟩:=M.qo h
 subst h2;subst h3
 simp [M.qf,hb id sm,h1]
theorem Lc.bind{α β:Type}{m:M α}{f:α->M β}(hm:Lc m)(hf:∀a,Lc (f a)):Lc (M.bind m f):=by
 intro b b' x r c h hb
 unfold M.bind at h⊢
 rcases h1:m b with _|⟨a,r1,c1⟩
 ·simp [h1]at h
 simp only [h1]at h
 rcases h2:f a b with _|⟨y,r2,c2⟩
 ·simp [h2]at h
 simp only [h2,Option.some.injEq,Prod.mk.injEq]at h
 obtain⟨rfl,rfl,rfl⟩:=h
 rw [hm b b' a r1 c1 h1 (fun id hid=>hb id (List.mem_append.2 (.inl hid)))]
 simp only [hf a b b' y r2 c2 h2 (fun id hid=>hb id (List.mem_append.2 (.inr hid)))]
theorem Lc.qu(v:RV):Lc (qu v):=Lc.pure _
theorem Lc.qj(k:Bool)(v:RV):Lc (qj k v):=Lc.pO _ _
theorem Lc.uQ(o:Option (PD×Bool)):Lc (uQ o):=by unfold Dw.uQ;split<;>first|exact Lc.pO _ _|exact Lc.fail
theorem Lc.wO(v:RV):Lc (wO v):=by
 unfold Dw.wO
 split<;>first|exact Lc.pure _|exact Lc.fail|skip
 all_goals refine Lc.bind (Lc.get _) fun bx=>?_
 all_goals (split<;>first|exact Lc.fail|skip)
 all_goals (split<;>first|exact Lc.pure _|exact Lc.pO _ _|exact Lc.fail)
theorem Lc.tS:∀(cs:List RV),Lc (tS cs)
 | []=>Lc.pure _
 |c::cs=>Lc.bind (Lc.wO c) fun _=>Lc.bind (Lc.tS cs) fun _=>Lc.pure _
theorem Lc.sD(v:RV):Lc (sD v):=by
 unfold Dw.sD
 split
 ·exact Lc.bind (Lc.tS _) fun _=>Lc.pure _
 ·exact Lc.wO _
section
variable (P:Program)
theorem Lc.ti(t:TypeId)(cs:List PD):Lc (ti P t cs):=by
 unfold Dw.ti
 split<;>first|exact Lc.fail|exact Lc.qj _ _|skip
 split<;>first|exact Lc.fail|exact Lc.qu _
theorem Lc.rD(t:TypeId)(cs:List RV)(o:Nat):Lc (rD P t cs o):=by
 unfold Dw.rD
 split<;>first|exact Lc.fail|exact Lc.qj _ _|skip
 split<;>first|exact Lc.fail|exact Lc.qu _
theorem Lc.tp(t:TypeId)(a:RV):Lc (tp P t a):=by
 unfold Dw.tp
 split
 ·exact Lc.ti P t _
 ·refine Lc.bind (Lc.get _) fun bx=>?_
  split<;>first|exact Lc.rD P t _ _|exact Lc.fail
 ·refine Lc.bind (Lc.get _) fun bx=>?_
  split<;>first|exact Lc.fail|skip
  ·split<;>first|exact Lc.fail|skip
   split<;>first|exact Lc.fail|exact Lc.ti P t _
 ·exact Lc.fail
theorem Lc.tK(t:TypeId)(a v:RV):Lc (tK P t a v):=by
 unfold Dw.tK
 split<;>first|exact Lc.fail|skip
 split
 ·refine Lc.bind (Lc.get _) fun bx=>?_
  split<;>first|exact Lc.pO _ _|exact Lc.fail|skip
 ·refine Lc.bind (Lc.get _) fun bx=>?_
  split<;>first|exact Lc.fail|skip
  ·split<;>first|exact Lc.fail|skip
   refine Lc.bind (Lc.sD _) fun p=>?_
   obtain⟨p,u⟩:=p
   dsimp only
   split<;>first|exact Lc.fail|skip
   split<;>first|exact Lc.fail|exact Lc.pO _ _
 ·exact Lc.fail
theorem Lc.vg(off:Nat)(x:RV):Lc (vg off x):=by
 unfold Dw.vg
 split
 ·refine Lc.bind (Lc.get _) fun bx=>?_
  split<;>first|exact Lc.qu _|exact Lc.fail
 ·refine Lc.bind (Lc.get _) fun bx=>?_
  split<;>first|exact Lc.fail|skip
  split<;>first|exact Lc.qu _|exact Lc.fail
 ·exact Lc.qu _
 ·exact Lc.fail
theorem Lc.rN(t:TypeId)(x:RV)(f:Nat):Lc (rN P t x f):=by
 unfold Dw.rN
 split<;>first|exact Lc.fail|skip
 split<;>first|exact Lc.fail|exact Lc.vg _ _
theorem Lc.vU(t:TypeId)(x:RV)(f:Nat):Lc (vU P t x f):=by
 unfold Dw.vU
 split<;>first|exact Lc.fail|exact Lc.rD P _ _ _
theorem Lc.vW(x i:RV):Lc (vW x i):=by
 unfold Dw.vW
 repeat' split
 all_goals first|exact Lc.qj _ _|exact Lc.fail
theorem Lc.wZ(len:Nat)(e:TypeId)(x i:RV):Lc (wZ P len e x i):=by
 unfold Dw.wZ
 repeat' split
 all_goals first|exact Lc.bind (Lc.pO _ _) fun _=>Lc.rD _ _ _ _|exact Lc.fail
theorem Lc.u6(t:TypeId)(x i:RV):Lc (u6 P t x i):=by
 unfold Dw.u6
 repeat' split
 all_goals first|exact Lc.vW _ _|exact Lc.wZ _ _ _ _ _|exact Lc.fail
theorem Lc.qI(t:TypeId)(x i:RV):Lc (qI P t x i):=by
 unfold Dw.qI
 split
 ·split<;>first|exact Lc.fail|skip
  split<;>first|exact Lc.fail|exact Lc.qj _ _|skip
  all_goals refine Lc.bind (Lc.get _) fun bx=>?_
  all_goals (split<;>first|exact Lc.fail|exact Lc.qj _ _|skip)
  all_goals (split<;>first|exact Lc.fail|exact Lc.qj _ _)
 ·split<;>first|exact Lc.fail|skip
  exact Lc.bind (Lc.pO _ _) fun _=>Lc.vg _ _
 ·exact Lc.fail
theorem Lc.sliceB(e:TypeId)(id ver a b:Nat)(lo hi:Option RV):Lc (sliceB P e id ver a b lo hi):=by
 unfold Dw.sliceB
 split<;>first|exact Lc.fail|skip
 refine Lc.bind (Lc.get _) fun bx=>?_
 split<;>first|exact Lc.fail|skip
 split<;>first|exact Lc.fail|exact Lc.qj _ _
theorem Lc.xh(nid:Nat)(e:TypeId)(n:Nat)(lo hi mx:Option RV):Lc (xh P nid e n lo hi mx):=by
 unfold Dw.xh
 split<;>first|exact Lc.fail|skip
 split<;>first|exact Lc.fail|exact Lc.bind (Lc.qf _) fun _=>Lc.pO _ _
theorem Lc.wc(id:Nat)(a:TypeId):Lc (wc P id a):=by
 unfold Dw.wc
 split<;>first|exact Lc.fail|skip
 split<;>first|exact Lc.fail|skip
 refine Lc.bind (Lc.get _) fun bx=>?_
 split<;>first|exact Lc.fail|skip
 split<;>first|exact Lc.fail|skip
 split<;>first|exact Lc.fail|exact Lc.pO _ _
theorem Lc.wg(e:TypeId)(id ver:Nat)(lo hi:Option RV)(mx:RV):Lc (wg P e id ver lo hi mx):=by
 unfold Dw.wg
 split<;>first|exact Lc.fail|skip
 split<;>first|exact Lc.fail|skip
 refine Lc.bind (Lc.get _) fun bx=>?_
 split<;>first|exact Lc.fail|skip
 split<;>first|exact Lc.fail|exact Lc.pO _ _
theorem Lc.we(a:TypeId)(cs:List PD):Lc (we P a cs):=by
 unfold Dw.we
 split<;>first|exact Lc.fail|skip
 split<;>first|exact Lc.fail|skip
 split<;>first|exact Lc.fail|exact Lc.pO _ _
theorem Lc.xz(e:TypeId)(es:List PD)(h m:Int):Lc (xz P e es h m):=by
 unfold Dw.xz
 split<;>first|exact Lc.fail|skip
 split<;>first|exact Lc.fail|exact Lc.pO _ _
theorem Lc.wH(t:TypeId)(x:RV)(lo hi mx:Option RV):Lc (wH P t x lo hi mx):=by
 unfold Dw.wH
 split<;>first|exact Lc.fail|exact Lc.xz P _ _ _ _|skip
 split<;>first|exact Lc.fail|skip
 refine Lc.bind (Lc.get _) fun bx=>?_
 split<;>first|exact Lc.fail|skip
 split<;>first|exact Lc.fail|exact Lc.pO _ _
theorem Lc.qP(nid:Nat)(t:TypeId)(x:RV)(lo hi mx:Option RV):Lc (qP P nid t x lo hi mx):=by
 unfold Dw.qP
 split
 ·refine Lc.bind (Lc.get _) fun bx=>?_
  split<;>first|exact Lc.fail|exact Lc.sliceB P _ _ _ _ _ _ _
 ·exact Lc.sliceB P _ _ _ _ _ _ _
 ·split<;>first|exact Lc.fail|exact Lc.wc P _ _
 ·split<;>first|exact Lc.fail|exact Lc.we P _ _
 ·split<;>first|exact Lc.fail|(split<;>first|exact Lc.pure _|exact Lc.fail)
 ·exact Lc.xh P _ _ _ _ _ _
 ·exact Lc.wg P _ _ _ _ _ _
 all_goals first|exact Lc.fail|(split<;>first|exact Lc.fail|exact Lc.qj _ _)
theorem Lc.vT(t:TypeId)(l:List (Nat×RV)):Lc (vT P t l):=by
 unfold Dw.vT
 split
 ·split<;>first|exact Lc.fail|skip
  split<;>first|exact Lc.fail|exact Lc.qj _ _
 ·split<;>first|exact Lc.fail|skip
  split<;>first|exact Lc.fail|exact Lc.qj _ _
 ·exact Lc.fail
theorem Lc.vY(mt:Bool)(cs:List RV):Lc (vY mt cs):=by
 unfold Dw.vY
 split
 ·exact Lc.pure _
 ·exact Lc.tS _
theorem Lc.rp(mt:Bool)(id:Nat)(t:TypeId)(len:Nat)(l:List (Nat×RV)):Lc (rp P mt id t len l):=by
 unfold Dw.rp
 split<;>first|exact Lc.fail|skip
 split<;>first|exact Lc.fail|skip
 split<;>first|exact Lc.fail|skip
 split<;>first|exact Lc.fail|skip
 refine Lc.bind (Lc.vY _ _) fun p=>?_
 obtain⟨ps,u⟩:=p
 dsimp only
 split
 ·exact Lc.bind (Lc.qf _) fun _=>Lc.pO _ _
 ·exact Lc.pO _ _
theorem Lc.vR(id:Nat)(t:TypeId):Lc (vR P id t):=by
 unfold Dw.vR
 split<;>first|exact Lc.fail|exact Lc.bind (Lc.qf _) fun _=>Lc.pure _
theorem Lc.boxD(id:Nat)(v:RV):Lc (boxD id v):=Lc.bind (Lc.qf _) fun _=>Lc.pO _ _
theorem Lc.lenD(t:TypeId)(x:RV):Lc (lenD P t x):=by
 unfold Dw.lenD
 split<;>first|exact Lc.fail|exact Lc.qu _|skip
 all_goals refine Lc.bind (Lc.get _) fun bx=>?_
 all_goals (split<;>first|exact Lc.fail|exact Lc.qu _|skip)
 all_goals (split<;>first|exact Lc.fail|exact Lc.qu _|exact Lc.qj _ _)
theorem Lc.qA(x:RV):Lc (qA x):=by
 unfold Dw.qA
 split<;>first|exact Lc.fail|exact Lc.pure _|skip
 all_goals refine Lc.bind (Lc.get _) fun bx=>?_
 all_goals (split<;>first|exact Lc.fail|skip)
 all_goals (split<;>first|exact Lc.fail|exact Lc.pure _|exact Lc.pO _ _)
theorem Lc.rz(id:Nat)(t t':TypeId)(s x:RV):Lc (rz P id t t' s x):=by
 unfold Dw.rz
 split<;>first|exact Lc.fail|skip
 split<;>first|exact Lc.fail|skip
 split<;>first|exact Lc.fail|skip
 refine Lc.bind (Lc.qA _) fun xs=>?_
 split
 ·exact Lc.bind (Lc.qf _) fun _=>Lc.pO _ _
 ·refine Lc.bind (Lc.get _) fun bx=>?_
  split<;>first|exact Lc.fail|skip
  all_goals (split<;>first|exact Lc.fail|exact Lc.pO _ _)
 ·refine Lc.bind (Lc.get _) fun bx=>?_
  split<;>first|exact Lc.fail|skip
  split<;>first|exact Lc.fail|exact Lc.pO _ _
 ·exact Lc.pO _ _
 ·exact Lc.fail
theorem Lc.wy(x:RV):Lc (wy x):=by
 unfold Dw.wy
 split<;>first|exact Lc.fail|skip
 all_goals refine Lc.bind (Lc.get _) fun bx=>?_
 all_goals (split<;>first|exact Lc.fail|skip)
 all_goals (split<;>first|exact Lc.fail|exact Lc.pure _|exact Lc.pO _ _)
theorem Lc.vK(t:TypeId)(x y:RV):Lc (vK P t x y):=by
 unfold Dw.vK
 split<;>first|exact Lc.fail|skip
 split<;>first|exact Lc.fail|skip
 exact Lc.bind (Lc.wy _) fun _=>Lc.bind (Lc.qA _) fun _=>Lc.pO _ _
theorem Lc.tX(t:TypeId)(x:RV):Lc (tX P t x):=by
 unfold Dw.tX
 split<;>first|exact Lc.fail|skip
 split<;>first|exact Lc.fail|skip
 exact Lc.bind (Lc.wy _) fun _=>Lc.pO _ _
theorem Lc.minD(l:List RV):Lc (minD l):=by
 unfold Dw.minD
 split<;>first|exact Lc.fail|skip
 split<;>first|exact Lc.fail|exact Lc.pure _
theorem Lc.maxD(l:List RV):Lc (maxD l):=by
 unfold Dw.maxD
 split<;>first|exact Lc.fail|skip
 split<;>first|exact Lc.fail|exact Lc.pure _
theorem Lc.argD(by_:Bool)(v:RV):Lc (argD by_ v):=by
 unfold Dw.argD
 split<;>first|exact Lc.pure _|exact Lc.bind (Lc.sD _) fun _=>Lc.pO _ _|(split<;>first|exact Lc.pure _|exact Lc.bind (Lc.sD _) fun _=>Lc.pure _|exact Lc.bind (Lc.sD _) fun _=>Lc.pO _ _)
theorem Lc.vJ(by_:Nat->Bool):∀(i:Nat)(l:List RV),Lc (vJ by_ i l)
 |_,[]=>Lc.pure _
 |i,v::r=>Lc.bind (Lc.argD _ v) fun _=>Lc.bind (Lc.vJ by_ (i+1) r) fun _=>Lc.pure _
theorem Lc.tj:∀(n:Nat)(done todo:List Nat),Lc (tj n done todo)
 |0,_,_=>Lc.fail
 |_+1,_,[]=>Lc.pure _
 |n+1,done,i::todo=>by
  unfold Dw.tj
  split
  ·exact Lc.tj n _ _
  ·exact Lc.bind (Lc.get _) fun _=>Lc.tj n _ _
theorem Lc.vP:∀(l:List Nat),Lc (vP l)
 | []=>Lc.pure _
 |_::r=>Lc.bind (Lc.get _) fun _=>Lc.bind (Lc.vP r) fun _=>Lc.pure _
theorem Lc.sh:∀(l:List Nat),Lc (sh l)
 | []=>Lc.pure _
 |_::r=>Lc.bind (Lc.qf _) fun _=>Lc.sh r
theorem Lc.sk(by_:FuncId->Nat->Bool)(call:pT)(f:FuncId)(base:Nat)(l:List RV):Lc (sk by_ call f base l):=by
 unfold Dw.sk
 refine Lc.bind (Lc.vJ _ _ _) fun x=>Lc.bind (Lc.tj _ _ _) fun ids=>Lc.bind (Lc.vP _) fun bxs=>?_
 split<;>first|exact Lc.fail|skip
 split<;>first|exact Lc.fail|exact Lc.bind (Lc.sh _) fun _=>Lc.pure _
theorem Lc.tM(id:Nat)(src dst:TypeId)(x:RV):Lc (tM P id src dst x):=by
 unfold Dw.tM
 split
 ·split<;>first|exact Lc.fail|exact Lc.bind (Lc.qf _) fun _=>Lc.pO _ _
 ·split<;>first|exact Lc.fail|skip
  refine Lc.bind (Lc.get _) fun bx=>?_
  split<;>first|exact Lc.fail|skip
  refine iteInduction (motive:=Lc) (fun _=>?_) (fun _=>Lc.fail)
  split<;>first|exact Lc.fail|exact Lc.qu _
 ·split<;>first|exact Lc.fail|skip
  split<;>first|exact Lc.fail|exact Lc.qu _
 ·exact Lc.uQ _
theorem Lc.tE(id:Nat)(t:TypeId):Lc (tE P id t):=by
 unfold Dw.tE
 split<;>first|exact Lc.fail|exact Lc.bind (Lc.qf _) fun _=>Lc.pure _
theorem Lc.se(t:TypeId)(x k:RV)(ok:Bool):Lc (se P t x k ok):=by
 unfold Dw.se
 split<;>first|exact Lc.fail|skip
 refine Lc.bind (Lc.get _) fun bx=>?_
 split<;>first|exact Lc.fail|skip
 split<;>first|exact Lc.fail|skip
 split<;>first|exact Lc.fail|(split<;>exact Lc.qu _)
theorem Lc.tq(t:TypeId)(x k v:RV):Lc (tq P t x k v):=by
 unfold Dw.tq
 split<;>first|exact Lc.fail|skip
 refine Lc.bind (Lc.get _) fun bx=>?_
 split<;>first|exact Lc.fail|skip
 split<;>first|exact Lc.fail|skip
 refine Lc.bind (Lc.sD _) fun p=>?_
 obtain⟨p,u⟩:=p
 dsimp only
 split<;>first|exact Lc.fail|(split<;>first|exact Lc.fail|exact Lc.pO _ _|exact Lc.pure _)
theorem Lc.rP(id:Nat)(t:TypeId)(l c:RV):Lc (rP P id t l c):=by
 unfold Dw.rP
 split<;>first|exact Lc.fail|skip
 split<;>first|exact Lc.fail|exact Lc.bind (Lc.qf _) fun _=>Lc.pO _ _
theorem Lc.vI(id:Nat)(t t':TypeId)(a x:RV):Lc (vI P id t t' a x):=by
 unfold Dw.vI
 split<;>first|exact Lc.fail|skip
 split<;>first|exact Lc.fail|exact Lc.bind (Lc.qf _) fun _=>Lc.pO _ _
theorem Lc.capD(t:TypeId)(x:RV):Lc (capD P t x):=by
 unfold Dw.capD
 split<;>first|exact Lc.fail|exact Lc.qu _
theorem Lc.ifcD(t:TypeId)(x:RV):Lc (ifcD P t x):=by
 unfold Dw.ifcD
 split<;>first|exact Lc.fail|exact Lc.qu _
theorem Lc.ur(x:RV)(t:TypeId)(ok:Bool):Lc (ur P x t ok):=by
 unfold Dw.ur
 split<;>first|exact Lc.fail|skip
 exact iteInduction (motive:=Lc) (fun _=>Lc.qu _) (fun _=>Lc.fail)
theorem Lc.uD(mt:Hf)(call:pT)(base:Nat)(x:RV)(name:String)(as:List RV):Lc (uD P mt call base x name as):=by
 unfold Dw.uD
 split<;>first|exact Lc.fail|skip
 split<;>first|exact Lc.fail|exact Lc.sk _ _ _ _ _|skip
 exact Lc.bind (Lc.tp P _ _) fun _=>Lc.sk _ _ _ _ _
theorem Lc.pX(mt:Hf)(call:pT)(s:St)(o:Oper):Lc (pX P mt call s o):=by
 unfold Dw.pX
 split
 all_goals (try exact Lc.fail)
 all_goals (try exact Lc.vR P _ _)
 all_goals (split<;>first|exact Lc.fail|exact Lc.qu _|exact Lc.ifcD P _ _|exact Lc.ur P _ _ _|exact Lc.boxD _ _|exact Lc.vT P _ _|exact Lc.rp P _ _ _ _ _|exact Lc.tp P _ _|exact Lc.tK P _ _ _|exact Lc.vg _ _|exact Lc.uQ _|exact Lc.qP P _ _ _ _ _ _|exact Lc.rN P _ _ _|exact Lc.vU P _ _ _|exact Lc.qI P _ _ _|exact Lc.u6 P _ _ _|exact Lc.minD _|exact Lc.maxD _|exact Lc.se P _ _ _ _|exact Lc.tq P _ _ _ _|exact Lc.tE P _ _|exact Lc.rP P _ _ _ _|exact Lc.tM P _ _ _ _|skip)
 all_goals (split<;>first|exact Lc.fail|exact Lc.qu _|exact Lc.uD P _ _ _ _ _ _|exact Lc.lenD P _ _|exact Lc.capD P _ _|exact Lc.rz P _ _ _ _ _|exact Lc.vK P _ _ _|exact Lc.tX P _ _|exact Lc.wH P _ _ _ _ _|exact Lc.qP P _ _ _ _ _ _|exact Lc.sk _ _ _ _ _|(split<;>first|exact Lc.fail|exact Lc.qu _|exact Lc.rz P _ _ _ _ _|exact Lc.vI P _ _ _ _ _))
end
theorem v8{s s':St}:∀{xs:List Operand},(∀x∈xs,s.opd x=s'.opd x)->rV s xs=rV s' xs
 | [],_=>rfl
 |x::xs,h=>by simp only [rV];rw [h x sm,v8 fun y hy=>h y (by simp [hy])]
theorem tG{s s':St}:∀{xs:List (Nat×Operand)},(∀x∈xs.map (·.2),s.opd x=s'.opd x)->qZ s xs=qZ s' xs
 | [],_=>rfl
 |(i,x)::xs,h=>by simp only [qZ];rw [h x sm,tG fun y hy=>h y (by simp only [List.map_cons,List.mem_cons];exact .inr hy)]
theorem tu{s s':St}{x:Option Operand}(h:∀y∈x.toArray,s.opd y=s'.opd y):qk s x=qk s' x:=by
 cases x with
 |none=>rfl
 |some y=>simp only [qk];rw [h y sm]
theorem AW{P:Program}{mt:Hf}{call:pT}{s s':St}(o:Oper)(h:∀x∈o.op.operands,s.opd x=s'.opd x):pX P mt call s o=pX P mt call s' o:=by
 unfold pX
 rcases hop:o.op with x|x|⟨c,x,y⟩|t|⟨t,x⟩|⟨t,parts⟩|⟨t,len,parts⟩|⟨t,m,k,x⟩|⟨t,x⟩|⟨t,x,y⟩|g|g|x|⟨op,t,x,y,t2⟩|⟨op,t,x⟩|⟨t,t2,x⟩|⟨t,x⟩|⟨t,x⟩|⟨fn,x,y⟩|⟨t,x⟩|⟨t,x⟩|⟨t,x,y⟩|⟨t,x,lo,hi,mx⟩|⟨t,x,f⟩|⟨t,x,f⟩|⟨t,x,y⟩|⟨t,x,y⟩|⟨t,x,y,c⟩|⟨t,x,y,c⟩|⟨t,x,y⟩|⟨t,x,y,c⟩|⟨t,x⟩|⟨x,b⟩|x|⟨x,t,t2,b⟩|⟨x,i⟩|c|c|c|x|⟨x,y⟩|⟨t,x,b⟩|⟨cs,b⟩
 all_goals (simp only [hop,Op.operands]at h)
 all_goals (try simp only)
 all_goals (try rw [h x sm])
 all_goals (try rw [h y sm])
 ·rw [h c sm]
 ·rw [tG fun x hx=>h x (by simpa using hx)]
 ·rw [tG fun x hx=>h x (by simpa using hx)]
 ·cases op<;>(try simp only)<;>rw [h x sm]
 ·rw [v8 (s:=s) (s':=s') (xs:=y.toList) fun x hx=>h x (by simp only [Array.mem_append];exact .inr (by simpa using hx))]
  cases rV s' y.toList with
  |none=>rfl
  |some l=>
  rcases hx:x.toList with _|⟨x0,_|⟨x1,xs⟩⟩
  ·cases fn<;>rfl
  ·have h0:s.opd x0=s'.opd x0:=h x0 (by simp only [Array.mem_append];exact .inl (by rw [<-Array.mem_toList_iff,hx];exact List.mem_singleton.2 rfl))
   cases fn<;>first|rfl|(simp only [];rw [h0])
  ·cases fn<;>rfl
 ·rw [tu (x:=x) fun y hy=>h y (by simpa using hy)]
 ·rw [tu (x:=lo) fun y hy=>h y (by simp only [Array.mem_append];exact .inl (.inl (.inr hy))),tu (x:=hi) fun y hy=>h y (by simp only [Array.mem_append];exact .inl (.inr hy)),tu (x:=mx) fun y hy=>h y (by simp only [Array.mem_append];exact .inr hy)]
 ·rw [h c sm]
 ·have ha:rV s c.args.toList=rV s' c.args.toList:=v8 fun x hx=>h x (by simp only [Call.operands,Array.mem_append];exact .inr (by simpa using hx))
  rw [ha]
  cases hc:c.callee with
  |value f=>
   have hf:s.opd f=s'.opd f:=h f (by simp [Call.operands,hc])
   cases rV s' c.args.toList with
   |none=>rfl
   |some l=>simp only [hf]
  |invoke rc m=>
   have hf:s.opd rc=s'.opd rc:=h rc (by simp [Call.operands,hc])
   cases rV s' c.args.toList with
   |none=>rfl
   |some l=>simp only [hf]
  |builtin b=>
   cases rV s' c.args.toList with
   |none=>cases b<;>rfl
   |some l=>rcases l with _|⟨x,_|⟨y,_|⟨z,l⟩⟩⟩<;>cases b<;>rfl
end Go.Dw
namespace Go.Dw
theorem Bf:∀(u:Ups)(s s':St)(id:Nat),id∈u.map (·.1)->(s.ups u).boxes id=(s'.ups u).boxes id
 | [],_,_,_,h=>by simp at h
 |(i,b)::r,s,s',id,h=>by
  rw [rr,rr]
  by_cases hr:id∈r.map (·.1)
  ·exact Bf r _ _ id hr
  ·rw [re _ _ _ hr,re _ _ _ hr]
   have:id=i:=by simpa [hr]using h
   subst this
   show upd s.boxes id b id=upd s'.boxes id b id
   rw [pW,pW]
theorem rU(s:St)(d:Option Nat)(v:RV):(s.put d v).boxes=s.boxes:=by cases d<;>rfl
theorem St.ext'{s s':St}(h1:s.pU=s'.pU)(h2:s.boxes=s'.boxes):s=s':=by
 obtain⟨a,b⟩:=s
 obtain⟨c,d⟩:=s'
 simp only at h1 h2
 subst h1;subst h2
 rfl
theorem yE{s:St}{u1 u2:Ups}{d1 d2:Option Nat}{v1 v2:RV}(hu:disj (u1.map (·.1)) (u2.map (·.1))=true)(hd:∀d,d1=some d->d2≠some d):
  ((((s.ups u1).put d1 v1).ups u2).put d2 v2)=((((s.ups u2).put d2 v2).ups u1).put d1 v1):=by
 have hu:=vu hu
 refine St.ext' ?_ ?_
 ·cases d1 with
  |none=>
   cases d2 with
   |none=>simp only [St.put,rF]
   |some e=>simp only [St.put,rF]
  |some d=>
   cases d2 with
   |none=>simp only [St.put,rF]
   |some e=>
    have hne:d≠e:=fun he=>hd d rfl (he▸rfl)
    simp only [St.put,rF]
    funext t
    by_cases h1:t=d
    ·subst h1;simp [hne]
    ·by_cases h2:t=e
     ·subst h2;simp [h1]
     ·simp [h1,h2]
 ·rw [rU,rU]
  funext id
  by_cases h1:id∈u1.map (·.1)
  ·have h2:id∉u2.map (·.1):=hu id h1
   rw [re _ _ _ h2,rU]
   rw [Bf u1 _ ((s.ups u2).put d2 v2) id h1]
  ·by_cases h2:id∈u2.map (·.1)
   ·rw [re u1 _ _ h1,rU]
    rw [Bf u2 _ s id h2]
   ·rw [re _ _ _ h2,rU,re _ _ _ h1,re _ _ _ h1,rU,re _ _ _ h2]
section
variable {P:Program}{mt:Hf}{call:pT}{ops:Array Oper}
theorem tR{o:Oper}{s s':St}{t:Tr}(h:step1 P mt call ops o s=some (s',t)):
  (pL ops s o=some true∧∃v u,pX P mt call s o s.boxes=some ((v,u),t.rd,true)∧s'=(s.ups u).put o.dst v∧t.wr=u.map (·.1))∨
  (pL ops s o=some false∧s'=s.put o.dst .undef∧t.rd=[]∧t.wr=[]):=by
 unfold step1 at h
 rcases hw:pL ops s o with _|w
 ·simp [hw]at h
 simp only [hw]at h
 cases w with
 |true=>
  simp only [if_true]at h
  rcases he:pX P mt call s o s.boxes with _|⟨⟨v,u⟩,rd,c⟩
  ·simp [he]at h
  simp only [he]at h
  cases c with
  |true=>
   simp only [if_true,Option.some.injEq,Prod.mk.injEq]at h
   obtain⟨rfl,rfl⟩:=h
   exact .inl ⟨rfl,v,u,rfl,rfl,rfl⟩
  |false=>simp at h
 |false=>
  simp only [Bool.false_eq_true,if_false,Option.some.injEq,Prod.mk.injEq]at h
  obtain⟨rfl,rfl⟩:=h
  exact .inr ⟨rfl,rfl,rfl,rfl⟩
theorem wL{o:Oper}{s:St}{v:RV}{u:Ups}{rd:List Nat}(hw:pL ops s o=some true)(he:pX P mt call s o s.boxes=some ((v,u),rd,true)):
  step1 P mt call ops o s=some ((s.ups u).put o.dst v,⟨rd,u.map (·.1)⟩):=by
 unfold step1;simp [hw,he]
theorem wi{o:Oper}{s:St}(hw:pL ops s o=some false):step1 P mt call ops o s=some (s.put o.dst .undef,⟨[],[]⟩):=by
 unfold step1;simp [hw]
theorem tT{o:Oper}{s s':St}(h:∀t∈o.looksAt ops,s.pU t=s'.pU t):pL ops s o=pL ops s' o:=by
 unfold pL
 cases hg:o.guard with
 |none=>rfl
 |some g=>
  obtain⟨j,want⟩:=g
  simp only
  cases ht:(ops[j]?).bind (·.dst)with
  |none=>rfl
  |some t=>
   simp only
   rw [h t (by simp [Oper.looksAt,hg,ht])]
theorem yg{o:Oper}{s s':St}(h:∀t∈o.looksAt ops,s.pU t=s'.pU t):pX P mt call s o=pX P mt call s' o:=by
 refine AW o fun x hx=>?_
 cases x with
 |tmp t=>exact h t (List.mem_append_left _ (List.mem_filterMap.2 ⟨.tmp t,by simpa using hx,rfl⟩))
 |const v=>rfl
 |global g=>rfl
 |func f=>rfl
theorem AB{o:Oper}{s s1 s':St}{t:Tr}{d:Option Nat}{u:Ups}{v:RV}(h:step1 P mt call ops o s1=some (s',t))(hs:s1=(s.ups u).put d v)
  (hd:∀e,d=some e->e∉o.looksAt ops) (hu:disj (u.map (·.1)) t.rd=true):
  ∃v' u',t.wr=u'.map (·.1)∧s'=(s1.ups u').put o.dst v'∧step1 P mt call ops o s=some ((s.ups u').put o.dst v',t):=by
 have hregs:∀t∈o.looksAt ops,s1.pU t=s.pU t:=by
  intro t ht
  subst hs
  cases d with
  |none=>simp only [St.put,rF]
  |some e=>
   have:t≠e:=fun he=>hd e rfl (he▸ht)
   simp only [St.put,rF,this,if_false]
 have hu:=vu hu
 rcases tR h with⟨hw,v',u',he,h1,h2⟩|⟨hw,h1,h2,h3⟩
 ·have hw':pL ops s o=some true:=by rw [<-tT hregs];exact hw
  have he':pX P mt call s o s.boxes=some ((v',u'),t.rd,true):=by
   rw [<-yg (P:=P) (mt:=mt) (call:=call) hregs]
   refine Lc.pX P mt call s1 o _ _ _ _ _ he fun id hid=>?_
   subst hs
   rw [rU,re _ _ _ (fun hm=>hu id hm hid)]
  refine⟨v',u',h2,h1,?_⟩
  rw [wL hw' he']
  obtain⟨rd,wr⟩:=t
  simp only at h2
  rw [h2]
 ·have hw':pL ops s o=some false:=by rw [<-tT hregs];exact hw
  refine⟨.undef,[],by rw [h3];rfl,h1,?_⟩
  rw [wi hw']
  obtain⟨rd,wr⟩:=t
  simp only at h2 h3
  rw [h2,h3]
  rfl
theorem commute{x y:Oper}{s s1 s2:St}{tx ty:Tr}(h1:step1 P mt call ops x s=some (s1,tx))(h2:step1 P mt call ops y s1=some (s2,ty))(hp:xd ops (x,tx) (y,ty)=true):
  ∃s3,step1 P mt call ops y s=some (s3,ty)∧step1 P mt call ops x s3=some (s2,tx):=by
 simp only [xd,Bool.and_eq_true]at hp
 obtain⟨⟨⟨hap,hd1⟩,hd2⟩,hd3⟩:=hp
 obtain⟨a1,a2,a3⟩:=Oper.apart_spec hap
 have hx:∃v u,s1=(s.ups u).put x.dst v∧tx.wr=u.map (·.1):=by
  rcases tR h1 with⟨_,v,u,_,h3,h4⟩|⟨_,h3,_,h4⟩
  ·exact⟨v,u,h3,h4⟩
  ·exact⟨.undef,[],h3,by rw [h4];rfl⟩
 obtain⟨vx,ux,hs1,hwx⟩:=hx
 obtain⟨vy,uy,hwy,hs2,hy⟩:=AB h2 hs1 a1 (by rw [<-hwx];exact hd1)
 refine⟨_,hy,?_⟩
 have hregs:∀t∈x.looksAt ops,((s.ups uy).put y.dst vy).pU t=s.pU t:=by
  intro t ht
  cases hdy:y.dst with
  |none=>simp only [St.put,rF]
  |some e=>
   have:t≠e:=fun he=>a3 e hdy (he▸ht)
   simp only [St.put,rF,this,if_false]
 have hd2:=vu hd2
 rcases tR h1 with⟨hw,v,u,he,h3,h4⟩|⟨hw,h3,h4,h5⟩
 ·have hw':pL ops ((s.ups uy).put y.dst vy) x=some true:=by rw [tT hregs];exact hw
  have he':pX P mt call ((s.ups uy).put y.dst vy) x ((s.ups uy).put y.dst vy).boxes=some ((v,u),tx.rd,true):=by
   rw [yg (P:=P) (mt:=mt) (call:=call) hregs]
   refine Lc.pX P mt call s x _ _ _ _ _ he fun id hid=>?_
   rw [rU,re _ _ _ (fun hm=>hd2 id (by rw [hwy];exact hm) hid)]
  rw [wL hw' he',hs2,h3]
  rw [yE (by rw [<-h4, <-hwy];exact hd3) a2]
  obtain⟨rd,wr⟩:=tx
  simp only at h4
  rw [h4]
 ·have hw':pL ops ((s.ups uy).put y.dst vy) x=some false:=by rw [tT hregs];exact hw
  rw [wi hw',hs2,h3]
  have:=yE (s:=s) (u1:=[]) (u2:=uy) (d1:=x.dst) (d2:=y.dst) (v1:= .undef) (v2:=vy) (by rfl) a2
  simp only [St.ups]at this
  rw [this]
  obtain⟨rd,wr⟩:=tx
  simp only at h4 h5
  rw [h4,h5]
theorem uw{o:Oper}{r:List Oper}{s sF:St}{ts:List Tr}(h:rj P mt call ops (o::r) s=some (sF,ts)):
  ∃s1 t ts',step1 P mt call ops o s=some (s1,t)∧rj P mt call ops r s1=some (sF,ts')∧ts=t::ts':=by
 unfold rj at h
 rcases h1:step1 P mt call ops o s with _|⟨s1,t⟩
 ·simp [h1]at h
 simp only [h1]at h
 rcases h2:rj P mt call ops r s1 with _|⟨s2,ts'⟩
 ·simp [h2]at h
 simp only [h2,Option.some.injEq,Prod.mk.injEq]at h
 exact⟨s1,t,ts',rfl,by rw [h2,h.1],h.2.symm⟩
theorem evOps_mk{o:Oper}{r:List Oper}{s s1 sF:St}{t:Tr}{ts:List Tr}(h1:step1 P mt call ops o s=some (s1,t))(h2:rj P mt call ops r s1=some (sF,ts)):
  rj P mt call ops (o::r) s=some (sF,t::ts):=by
 unfold rj;simp [h1,h2]
theorem xw:∀(l1:List (Oper×Tr)){o:Oper}{t:Tr}{l2:List (Oper×Tr)}{s sF:St},
  rj P mt call ops ((l1++(o,t)::l2).map (·.1)) s=some (sF,(l1++(o,t)::l2).map (·.2))->(∀x∈l1,xd ops x (o,t)=true)->
  ∃s1,step1 P mt call ops o s=some (s1,t)∧rj P mt call ops ((l1++l2).map (·.1)) s1=some (sF,(l1++l2).map (·.2))
 | [],o,t,l2,s,sF,h,_=>by
  simp only [List.nil_append,List.map_cons]at h
  obtain⟨s1,t',ts',h1,h2,h3⟩:=uw h
  cases h3
  exact⟨s1,h1,h2⟩
 |(x,tx)::l1,o,t,l2,s,sF,h,hp=>by
  simp only [List.cons_append,List.map_cons]at h
  obtain⟨s1,t',ts',h1,h2,h3⟩:=uw h
  cases h3
  obtain⟨s2,h4,h5⟩:=xw l1 h2 (fun y hy=>hp y (by simp [hy]))
  obtain⟨s3,h6,h7⟩:=commute h1 h4 (hp (x,tx) sm)
  exact⟨s3,h6,by simp only [List.cons_append,List.map_cons];exact evOps_mk h7 h5⟩
theorem xS:∀(l:List Oper)(acc:List Nat)(i:Nat),i<acc.length->(xR l acc).getD i 0=acc.getD i 0
 | [],acc,i,_=>rfl
 |o::r,acc,i,h=>by
  rw [xR,xS r _ i so]
  simp only [List.getD_eq_getElem?_getD]
  rw [List.getElem?_append_left h]
theorem yi(acc:List Nat):∀(es:List Edge)(b j:Nat),(es.foldl (fun b e=>if Region.binds .any e then b ||| (2 ^ e.on ||| acc.getD e.on 0)else b) b).testBit j=true->
  b.testBit j=true∨∃e∈es,Region.binds .any e=true∧(e.on=j∨(acc.getD e.on 0).testBit j=true)
 | [],b,j,h=>.inl h
 |e::es,b,j,h=>by
  simp only [List.foldl_cons]at h
  rcases yi acc es _ j h with h1|⟨e',h1,h2,h3⟩
  ·by_cases hb:Region.binds .any e=true
   ·simp only [hb,if_true,Nat.testBit_or,Bool.or_eq_true,Nat.testBit_two_pow,decide_eq_true_eq]at h1
    rcases h1 with h1|h1|h1
    ·exact .inl h1
    ·exact .inr ⟨e,sm,hb,.inl h1⟩
    ·exact .inr ⟨e,sm,hb,.inr h1⟩
   ·simp only [hb]at h1;exact .inl h1
  ·exact .inr ⟨e',by simp [h1],h2,h3⟩
theorem wU:∀(l:List Oper)(acc:List Nat)(i:Nat)(o:Oper),l[i]? =some o->∀j,((xR l acc).getD (acc.length+i) 0).testBit j=true->
  ∃e∈o.after,Region.binds .any e=true∧(e.on=j∨(e.on<acc.length+i∧((xR l acc).getD e.on 0).testBit j=true))
 | [],acc,i,o,h,_,_=>by simp at h
 |x::r,acc,0,o,h,j,hj=>by
  simp only [List.getElem?_cons_zero,Option.some.injEq]at h
  subst h
  rw [xR,Nat.add_zero,xS r _ acc.length sm]at hj
  simp only [List.getD_eq_getElem?_getD,List.getElem?_concat_length,Option.getD_some]at hj
  rcases yi acc x.after.toList 0 j hj with h1|⟨e,h1,h2,h3⟩
  ·simp at h1
  ·refine⟨e,by simpa using h1,h2,?_⟩
   rcases h3 with h3|h3
   ·exact .inl h3
   ·by_cases hlt:e.on<acc.length
    ·refine .inr ⟨za,?_⟩
     rw [xR,xS r _ e.on so]
     simp only [List.getD_eq_getElem?_getD]at h3⊢
     rw [List.getElem?_append_left hlt]
     exact h3
    ·rw [List.getD_eq_getElem?_getD,List.getElem?_eq_none za]at h3
     simp at h3
 |x::r,acc,i+1,o,h,j,hj=>by
  simp only [List.getElem?_cons_succ]at h
  rw [xR]at hj⊢
  have := wU r (acc ++ [x.after.toList.foldl (fun b e => if Region.binds .any e then b ||| (2 ^ e.on ||| acc.getD e.on 0) else b) 0]) i o h j (by
   simp only [List.length_append,List.length_singleton]
   rw [show acc.length+1+i=acc.length+(i+1)by omega]
   exact hj)
  simp only [List.length_append,List.length_singleton]at this
  rw [show acc.length+1+i=acc.length+(i+1)by omega]at this
  exact this
theorem AJ{listed:Array Bool}(hclosed:∀(i:Nat)o,ops[i]? =some o->listed.getD i false=true->∀e∈o.after,Region.binds .any e=true->listed.getD e.on false=true)(hsz:listed.size=ops.size):
  ∀(n i:Nat)(o:Oper),i<=n->ops[i]? =some o->(∀e∈o.after,Region.binds .any e=true->listed.getD e.on false=true)->∀j,((xR ops.toList []).getD i 0).testBit j=true->listed.getD j false=true:=by
 intro n
 induction n with
 |zero=>
  intro i o hi ho he j hj
  have h0:i=0:=by omega
  subst h0
  obtain⟨e,h1,h2,h3⟩:=wU ops.toList [] 0 o (by simpa using ho) j (by simpa using hj)
  rcases h3 with rfl|⟨h3,_⟩
  ·exact he e h1 h2
  ·simp at h3
 |succ n ih=>
  intro i o hi ho he j hj
  obtain⟨e,h1,h2,h3⟩:=wU ops.toList [] i o (by simpa using ho) j (by simpa using hj)
  rcases h3 with rfl|⟨h3,h4⟩
  ·exact he e h1 h2
  ·simp only [List.length_nil,Nat.zero_add]at h3
   have hl:=he e h1 h2
   have hlt:e.on<ops.size:=by
    rcases Nat.lt_or_ge e.on listed.size with h|h
    ·omega
    ·simp [Array.getElem?_eq_none h]at hl
   have ho2:ops[e.on]? =some ops[e.on]:=Array.getElem?_eq_getElem hlt
   exact ih e.on _ za ho2 (hclosed e.on _ ho2 hl) j h4
end
end Go.Dw
