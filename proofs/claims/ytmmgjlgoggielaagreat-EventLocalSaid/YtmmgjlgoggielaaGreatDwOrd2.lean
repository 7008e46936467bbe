
import Derived.Test.YtmmgjlgoggielaaGreatDwOp

namespace Go.Dw
def Lc{α:Type}(m:M α):Prop:=∀b b' a r c,m b=some (a,r,c)->(∀id∈r,b' id=b id)->m b'=some (a,r,c)
theorem Lc.pure{α:Type}(a:α):Lc (M.pure a):=fun _ _ _ _ _ h _=>h
theorem Lc.qJ{α:Type}(k:Bool)(a:α):Lc (M.qJ k a):=fun _ _ _ _ _ h _=>h
theorem Lc.fail{α:Type}:Lc (M.fail:M α):=fun _ _ _ _ _ h _=>h
theorem Lc.get(id:Nat):Lc (M.get id):=by
 intro b b' a r c h hb
 obtain⟨h1,h2,h3⟩:=M.get_some h
 subst h2;subst h3
 simp [M.get,hb id sm,h1]
theorem Lc.rp(id:Nat):Lc (M.rp id):=by
 intro b b' a r c h hb
 obtain⟨h1,h2,h3⟩:=M.rO h
 subst h2;subst h3
 simp [M.rp,hb id sm,h1]
theorem Lc.bind{α β:Type}{m:M α}{f:α->M β}(hm:Lc m)(hf:∀a,Lc (f a)):Lc (M.bind m f):=by
 intro b b' x r c h hb
 unfold M.bind at h⊢
 rcases h1:m b with _|⟨a,r1,c1⟩
 ·simp [h1]at h
 simp only [h1]at h
 rcases h2:f a b with _|⟨y,r2,c2⟩
 ·simp [h2]at h
 simp only [h2,Option.some.injEq,Prod.mk.injEq]at h
 obtain⟨rfl,rfl,rfl⟩:=h
 rw [hm b b' a r1 c1 h1 (fun id hid=>hb id (List.mem_append.2 (.inl hid)))]
 simp only [hf a b b' y r2 c2 h2 (fun id hid=>hb id (List.mem_append.2 (.inr hid)))]
theorem Lc.rT(v:RV):Lc (rT v):=Lc.pure _
theorem Lc.ru(k:Bool)(v:RV):Lc (ru k v):=Lc.qJ _ _
theorem Lc.vQ(o:Option (PD×Bool)):Lc (vQ o):=by unfold Dw.vQ;split<;>first|exact Lc.qJ _ _|exact Lc.fail
theorem Lc.wL(v:RV):Lc (wL v):=by
 unfold Dw.wL
 split<;>first|exact Lc.pure _|exact Lc.fail|skip
 all_goals refine Lc.bind (Lc.get _) fun bx=>?_
 all_goals (split<;>first|exact Lc.fail|skip)
 all_goals (split<;>first|exact Lc.pure _|exact Lc.qJ _ _|exact Lc.fail)
theorem Lc.uJ:∀(cs:List RV),Lc (uJ cs)
 | []=>Lc.pure _
 |c::cs=>Lc.bind (Lc.wL c) fun _=>Lc.bind (Lc.uJ cs) fun _=>Lc.pure _
theorem Lc.tN(v:RV):Lc (tN v):=by
 unfold Dw.tN
 split
 ·exact Lc.bind (Lc.uJ _) fun _=>Lc.pure _
 ·exact Lc.wL _
section
variable (P:Program)
theorem Lc.uc(t:TypeId)(cs:List PD):Lc (uc P t cs):=by
 unfold Dw.uc
 split<;>first|exact Lc.fail|exact Lc.ru _ _|skip
 split<;>first|exact Lc.fail|exact Lc.rT _
theorem Lc.tJ(t:TypeId)(cs:List RV)(o:Nat):Lc (tJ P t cs o):=by
 unfold Dw.tJ
 split<;>first|exact Lc.fail|exact Lc.ru _ _|skip
 split<;>first|exact Lc.fail|exact Lc.rT _
theorem Lc.uv(t:TypeId)(a:RV):Lc (uv P t a):=by
 unfold Dw.uv
 split
 ·exact Lc.uc P t _
 ·refine Lc.bind (Lc.get _) fun bx=>?_
  split<;>first|exact Lc.tJ P t _ _|exact Lc.fail
 ·refine Lc.bind (Lc.get _) fun bx=>?_
  split<;>first|exact Lc.fail|skip
  ·split<;>first|exact Lc.fail|skip
   split<;>first|exact Lc.fail|exact Lc.uc P t _
 ·exact Lc.fail
theorem Lc.vK(t:TypeId)(a v:RV):Lc (vK P t a v):=by
 unfold Dw.vK
 split<;>first|exact Lc.fail|skip
 split
 ·refine Lc.bind (Lc.get _) fun bx=>?_
  split<;>first|exact Lc.qJ _ _|exact Lc.fail|skip
 ·refine Lc.bind (Lc.get _) fun bx=>?_
  split<;>first|exact Lc.fail|skip
  ·split<;>first|exact Lc.fail|skip
   refine Lc.bind (Lc.tN _) fun p=>?_
   obtain⟨p,u⟩:=p
   dsimp only
   split<;>first|exact Lc.fail|skip
   split<;>first|exact Lc.fail|exact Lc.qJ _ _
 ·exact Lc.fail
theorem Lc.wJ(off:Nat)(x:RV):Lc (wJ off x):=by
 unfold Dw.wJ
 split
 ·refine Lc.bind (Lc.get _) fun bx=>?_
  split<;>first|exact Lc.rT _|exact Lc.fail
 ·refine Lc.bind (Lc.get _) fun bx=>?_
  split<;>first|exact Lc.fail|skip
  split<;>first|exact Lc.rT _|exact Lc.fail
 ·exact Lc.rT _
 ·exact Lc.fail
theorem Lc.tk(t:TypeId)(x:RV)(f:Nat):Lc (tk P t x f):=by
 unfold Dw.tk
 split<;>first|exact Lc.fail|skip
 split<;>first|exact Lc.fail|exact Lc.wJ _ _
theorem Lc.wS(t:TypeId)(x:RV)(f:Nat):Lc (wS P t x f):=by
 unfold Dw.wS
 split<;>first|exact Lc.fail|exact Lc.tJ P _ _ _
theorem Lc.wU(x i:RV):Lc (wU x i):=by
 unfold Dw.wU
 repeat' split
 all_goals first|exact Lc.ru _ _|exact Lc.fail
theorem Lc.xJ(len:Nat)(e:TypeId)(x i:RV):Lc (xJ P len e x i):=by
 unfold Dw.xJ
 repeat' split
 all_goals first|exact Lc.bind (Lc.qJ _ _) fun _=>Lc.tJ _ _ _ _|exact Lc.fail
theorem Lc.wb(t:TypeId)(x i:RV):Lc (wb P t x i):=by
 unfold Dw.wb
 repeat' split
 all_goals first|exact Lc.wU _ _|exact Lc.xJ _ _ _ _ _|exact Lc.fail
theorem Lc.sc(t:TypeId)(x i:RV):Lc (sc P t x i):=by
 unfold Dw.sc
 split
 ·split<;>first|exact Lc.fail|skip
  split<;>first|exact Lc.fail|exact Lc.ru _ _|skip
  all_goals refine Lc.bind (Lc.get _) fun bx=>?_
  all_goals (split<;>first|exact Lc.fail|exact Lc.ru _ _|skip)
  all_goals (split<;>first|exact Lc.fail|exact Lc.ru _ _)
 ·split<;>first|exact Lc.fail|skip
  exact Lc.bind (Lc.qJ _ _) fun _=>Lc.wJ _ _
 ·exact Lc.fail
theorem Lc.sliceB(e:TypeId)(id ver a b:Nat)(lo hi:Option RV):Lc (sliceB P e id ver a b lo hi):=by
 unfold Dw.sliceB
 split<;>first|exact Lc.fail|skip
 refine Lc.bind (Lc.get _) fun bx=>?_
 split<;>first|exact Lc.fail|skip
 split<;>first|exact Lc.fail|exact Lc.ru _ _
theorem Lc.xW(nid:Nat)(e:TypeId)(n:Nat)(lo hi mx:Option RV):Lc (xW P nid e n lo hi mx):=by
 unfold Dw.xW
 split<;>first|exact Lc.fail|skip
 split<;>first|exact Lc.fail|exact Lc.bind (Lc.rp _) fun _=>Lc.qJ _ _
theorem Lc.w3(id:Nat)(a:TypeId):Lc (w3 P id a):=by
 unfold Dw.w3
 split<;>first|exact Lc.fail|skip
 split<;>first|exact Lc.fail|skip
 refine Lc.bind (Lc.get _) fun bx=>?_
 split<;>first|exact Lc.fail|skip
 split<;>first|exact Lc.fail|skip
 split<;>first|exact Lc.fail|exact Lc.qJ _ _
theorem Lc.w5(e:TypeId)(id ver:Nat)(lo hi:Option RV)(mx:RV):Lc (w5 P e id ver lo hi mx):=by
 unfold Dw.w5
 split<;>first|exact Lc.fail|skip
 split<;>first|exact Lc.fail|skip
 refine Lc.bind (Lc.get _) fun bx=>?_
 split<;>first|exact Lc.fail|skip
 split<;>first|exact Lc.fail|exact Lc.qJ _ _
theorem Lc.w4(a:TypeId)(cs:List PD):Lc (w4 P a cs):=by
 unfold Dw.w4
 split<;>first|exact Lc.fail|skip
 split<;>first|exact Lc.fail|skip
 split<;>first|exact Lc.fail|exact Lc.qJ _ _
theorem Lc.yl(e:TypeId)(es:List PD)(h m:Int):Lc (yl P e es h m):=by
 unfold Dw.yl
 split<;>first|exact Lc.fail|skip
 split<;>first|exact Lc.fail|exact Lc.qJ _ _
theorem Lc.xv(t:TypeId)(x:RV)(lo hi mx:Option RV):Lc (xv P t x lo hi mx):=by
 unfold Dw.xv
 split<;>first|exact Lc.fail|exact Lc.yl P _ _ _ _|skip
 split<;>first|exact Lc.fail|skip
 refine Lc.bind (Lc.get _) fun bx=>?_
 split<;>first|exact Lc.fail|skip
 split<;>first|exact Lc.fail|exact Lc.qJ _ _
theorem Lc.sq(nid:Nat)(t:TypeId)(x:RV)(lo hi mx:Option RV):Lc (sq P nid t x lo hi mx):=by
 unfold Dw.sq
 split
 ·refine Lc.bind (Lc.get _) fun bx=>?_
  split<;>first|exact Lc.fail|exact Lc.sliceB P _ _ _ _ _ _ _
 ·exact Lc.sliceB P _ _ _ _ _ _ _
 ·split<;>first|exact Lc.fail|exact Lc.w3 P _ _
 ·split<;>first|exact Lc.fail|exact Lc.w4 P _ _
 ·split<;>first|exact Lc.fail|(split<;>first|exact Lc.pure _|exact Lc.fail)
 ·exact Lc.xW P _ _ _ _ _ _
 ·exact Lc.w5 P _ _ _ _ _ _
 all_goals first|exact Lc.fail|(split<;>first|exact Lc.fail|exact Lc.ru _ _)
theorem Lc.wR(t:TypeId)(l:List (Nat×RV)):Lc (wR P t l):=by
 unfold Dw.wR
 split
 ·split<;>first|exact Lc.fail|skip
  split<;>first|exact Lc.fail|exact Lc.ru _ _
 ·split<;>first|exact Lc.fail|skip
  split<;>first|exact Lc.fail|exact Lc.ru _ _
 ·exact Lc.fail
theorem Lc.wW(mt:Bool)(cs:List RV):Lc (wW mt cs):=by
 unfold Dw.wW
 split
 ·exact Lc.pure _
 ·exact Lc.uJ _
theorem Lc.sI(mt:Bool)(id:Nat)(t:TypeId)(len:Nat)(l:List (Nat×RV)):Lc (sI P mt id t len l):=by
 unfold Dw.sI
 split<;>first|exact Lc.fail|skip
 split<;>first|exact Lc.fail|skip
 split<;>first|exact Lc.fail|skip
 split<;>first|exact Lc.fail|skip
 refine Lc.bind (Lc.wW _ _) fun p=>?_
 obtain⟨ps,u⟩:=p
 dsimp only
 split
 ·exact Lc.bind (Lc.rp _) fun _=>Lc.qJ _ _
 ·exact Lc.qJ _ _
theorem Lc.wO(id:Nat)(t:TypeId):Lc (wO P id t):=by
 unfold Dw.wO
 split<;>first|exact Lc.fail|exact Lc.bind (Lc.rp _) fun _=>Lc.pure _
theorem Lc.boxD(id:Nat)(v:RV):Lc (boxD id v):=Lc.bind (Lc.rp _) fun _=>Lc.qJ _ _
theorem Lc.zi(t:TypeId)(x:RV):Lc (zi P t x):=by
 unfold Dw.zi
 split<;>first|exact Lc.fail|exact Lc.rT _|skip
 all_goals refine Lc.bind (Lc.get _) fun bx=>?_
 all_goals (split<;>first|exact Lc.fail|exact Lc.rT _|skip)
 all_goals (split<;>first|exact Lc.fail|exact Lc.rT _|exact Lc.ru _ _)
theorem Lc.sD(x:RV):Lc (sD x):=by
 unfold Dw.sD
 split<;>first|exact Lc.fail|exact Lc.pure _|skip
 all_goals refine Lc.bind (Lc.get _) fun bx=>?_
 all_goals (split<;>first|exact Lc.fail|skip)
 all_goals (split<;>first|exact Lc.fail|exact Lc.pure _|exact Lc.qJ _ _)
theorem Lc.sk(id:Nat)(t t':TypeId)(s x:RV):Lc (sk P id t t' s x):=by
 unfold Dw.sk
 split<;>first|exact Lc.fail|skip
 split<;>first|exact Lc.fail|skip
 split<;>first|exact Lc.fail|skip
 refine Lc.bind (Lc.sD _) fun xs=>?_
 split
 ·exact Lc.bind (Lc.rp _) fun _=>Lc.qJ _ _
 ·refine Lc.bind (Lc.get _) fun bx=>?_
  split<;>first|exact Lc.fail|skip
  all_goals (split<;>first|exact Lc.fail|exact Lc.qJ _ _)
 ·refine Lc.bind (Lc.get _) fun bx=>?_
  split<;>first|exact Lc.fail|skip
  split<;>first|exact Lc.fail|exact Lc.qJ _ _
 ·exact Lc.qJ _ _
 ·exact Lc.fail
theorem Lc.yt(x:RV):Lc (yt x):=by
 unfold Dw.yt
 split<;>first|exact Lc.fail|skip
 all_goals refine Lc.bind (Lc.get _) fun bx=>?_
 all_goals (split<;>first|exact Lc.fail|skip)
 all_goals (split<;>first|exact Lc.fail|exact Lc.pure _|exact Lc.qJ _ _)
theorem Lc.yc(t:TypeId)(x y:RV):Lc (yc P t x y):=by
 unfold Dw.yc
 split<;>first|exact Lc.fail|skip
 split<;>first|exact Lc.fail|skip
 exact Lc.bind (Lc.yt _) fun _=>Lc.bind (Lc.sD _) fun _=>Lc.qJ _ _
theorem Lc.uO(t:TypeId)(x:RV):Lc (uO P t x):=by
 unfold Dw.uO
 split<;>first|exact Lc.fail|skip
 split<;>first|exact Lc.fail|skip
 exact Lc.bind (Lc.yt _) fun _=>Lc.qJ _ _
theorem Lc.minD(l:List RV):Lc (minD l):=by
 unfold Dw.minD
 split<;>first|exact Lc.fail|skip
 split<;>first|exact Lc.fail|exact Lc.pure _
theorem Lc.maxD(l:List RV):Lc (maxD l):=by
 unfold Dw.maxD
 split<;>first|exact Lc.fail|skip
 split<;>first|exact Lc.fail|exact Lc.pure _
theorem Lc.argD(by_:Bool)(v:RV):Lc (argD by_ v):=by
 unfold Dw.argD
 split<;>first|exact Lc.pure _|exact Lc.bind (Lc.tN _) fun _=>Lc.qJ _ _|(split<;>first|exact Lc.pure _|exact Lc.bind (Lc.tN _) fun _=>Lc.pure _|exact Lc.bind (Lc.tN _) fun _=>Lc.qJ _ _)
theorem Lc.vX(by_:Nat->Bool):∀(i:Nat)(l:List RV),Lc (vX by_ i l)
 |_,[]=>Lc.pure _
 |i,v::r=>Lc.bind (Lc.argD _ v) fun _=>Lc.bind (Lc.vX by_ (i+1) r) fun _=>Lc.pure _
theorem Lc.tK:∀(n:Nat)(done todo:List Nat),Lc (tK n done todo)
 |0,_,_=>Lc.fail
 |_+1,_,[]=>Lc.pure _
 |n+1,done,i::todo=>by
  unfold Dw.tK
  split
  ·exact Lc.tK n _ _
  ·exact Lc.bind (Lc.get _) fun _=>Lc.tK n _ _
theorem Lc.vP:∀(l:List Nat),Lc (vP l)
 | []=>Lc.pure _
 |_::r=>Lc.bind (Lc.get _) fun _=>Lc.bind (Lc.vP r) fun _=>Lc.pure _
theorem Lc.tg:∀(l:List Nat),Lc (tg l)
 | []=>Lc.pure _
 |_::r=>Lc.bind (Lc.rp _) fun _=>Lc.tg r
theorem Lc.tu(by_:FuncId->Nat->Bool)(call:qU)(f:FuncId)(base:Nat)(l:List RV):Lc (tu by_ call f base l):=by
 unfold Dw.tu
 refine Lc.bind (Lc.vX _ _ _) fun x=>Lc.bind (Lc.tK _ _ _) fun ids=>Lc.bind (Lc.vP _) fun bxs=>?_
 split<;>first|exact Lc.fail|skip
 split<;>first|exact Lc.fail|exact Lc.bind (Lc.tg _) fun _=>Lc.pure _
theorem Lc.vO(id:Nat)(src dst:TypeId)(x:RV):Lc (vO P id src dst x):=by
 unfold Dw.vO
 split
 ·split<;>first|exact Lc.fail|exact Lc.bind (Lc.rp _) fun _=>Lc.qJ _ _
 ·split<;>first|exact Lc.fail|skip
  refine Lc.bind (Lc.get _) fun bx=>?_
  split<;>first|exact Lc.fail|skip
  refine iteInduction (motive:=Lc) (fun _=>?_) (fun _=>Lc.fail)
  split<;>first|exact Lc.fail|exact Lc.rT _
 ·split<;>first|exact Lc.fail|skip
  split<;>first|exact Lc.fail|exact Lc.rT _
 ·exact Lc.vQ _
theorem Lc.uw(id:Nat)(t:TypeId):Lc (uw P id t):=by
 unfold Dw.uw
 split<;>first|exact Lc.fail|exact Lc.bind (Lc.rp _) fun _=>Lc.pure _
theorem Lc.ug(t:TypeId)(x k:RV)(ok:Bool):Lc (ug P t x k ok):=by
 unfold Dw.ug
 split<;>first|exact Lc.fail|skip
 refine Lc.bind (Lc.get _) fun bx=>?_
 split<;>first|exact Lc.fail|skip
 split<;>first|exact Lc.fail|skip
 split<;>first|exact Lc.fail|(split<;>exact Lc.rT _)
theorem Lc.vE(t:TypeId)(x k v:RV):Lc (vE P t x k v):=by
 unfold Dw.vE
 split<;>first|exact Lc.fail|skip
 refine Lc.bind (Lc.get _) fun bx=>?_
 split<;>first|exact Lc.fail|skip
 split<;>first|exact Lc.fail|skip
 refine Lc.bind (Lc.tN _) fun p=>?_
 obtain⟨p,u⟩:=p
 dsimp only
 split<;>first|exact Lc.fail|(split<;>first|exact Lc.fail|exact Lc.qJ _ _|exact Lc.pure _)
theorem Lc.sn(id:Nat)(t:TypeId)(l c:RV):Lc (sn P id t l c):=by
 unfold Dw.sn
 split<;>first|exact Lc.fail|skip
 split<;>first|exact Lc.fail|exact Lc.bind (Lc.rp _) fun _=>Lc.qJ _ _
theorem Lc.yb(id:Nat)(t t':TypeId)(a x:RV):Lc (yb P id t t' a x):=by
 unfold Dw.yb
 split<;>first|exact Lc.fail|skip
 split<;>first|exact Lc.fail|exact Lc.bind (Lc.rp _) fun _=>Lc.qJ _ _
theorem Lc.capD(t:TypeId)(x:RV):Lc (capD P t x):=by
 unfold Dw.capD
 split<;>first|exact Lc.fail|exact Lc.rT _
theorem Lc.ifcD(t:TypeId)(x:RV):Lc (ifcD P t x):=by
 unfold Dw.ifcD
 split<;>first|exact Lc.fail|exact Lc.rT _
theorem Lc.vj(x:RV)(t:TypeId)(ok:Bool):Lc (vj P x t ok):=by
 unfold Dw.vj
 split<;>first|exact Lc.fail|skip
 exact iteInduction (motive:=Lc) (fun _=>Lc.rT _) (fun _=>Lc.fail)
theorem Lc.vA(mt:Hf)(call:qU)(base:Nat)(x:RV)(name:String)(as:List RV):Lc (vA P mt call base x name as):=by
 unfold Dw.vA
 split<;>first|exact Lc.fail|skip
 split<;>first|exact Lc.fail|exact Lc.tu _ _ _ _ _|skip
 exact Lc.bind (Lc.uv P _ _) fun _=>Lc.tu _ _ _ _ _
theorem Lc.rf(mt:Hf)(call:qU)(s:St)(o:Oper):Lc (rf P mt call s o):=by
 unfold Dw.rf
 split
 all_goals (try exact Lc.fail)
 all_goals (try exact Lc.wO P _ _)
 all_goals (split<;>first|exact Lc.fail|exact Lc.rT _|exact Lc.ifcD P _ _|exact Lc.vj P _ _ _|exact Lc.boxD _ _|exact Lc.wR P _ _|exact Lc.sI P _ _ _ _ _|exact Lc.uv P _ _|exact Lc.vK P _ _ _|exact Lc.wJ _ _|exact Lc.vQ _|exact Lc.sq P _ _ _ _ _ _|exact Lc.tk P _ _ _|exact Lc.wS P _ _ _|exact Lc.sc P _ _ _|exact Lc.wb P _ _ _|exact Lc.minD _|exact Lc.maxD _|exact Lc.ug P _ _ _ _|exact Lc.vE P _ _ _ _|exact Lc.uw P _ _|exact Lc.sn P _ _ _ _|exact Lc.vO P _ _ _ _|skip)
 all_goals (split<;>first|exact Lc.fail|exact Lc.rT _|exact Lc.vA P _ _ _ _ _ _|exact Lc.zi P _ _|exact Lc.capD P _ _|exact Lc.sk P _ _ _ _ _|exact Lc.yc P _ _ _|exact Lc.uO P _ _|exact Lc.xv P _ _ _ _ _|exact Lc.sq P _ _ _ _ _ _|exact Lc.tu _ _ _ _ _|(split<;>first|exact Lc.fail|exact Lc.rT _|exact Lc.sk P _ _ _ _ _|exact Lc.yb P _ _ _ _ _))
end
theorem wZ{s s':St}:∀{xs:List Operand},(∀x∈xs,s.opd x=s'.opd x)->tA s xs=tA s' xs
 | [],_=>rfl
 |x::xs,h=>by simp only [tA];rw [h x sm,wZ fun y hy=>h y (by simp [hy])]
theorem uz{s s':St}:∀{xs:List (Nat×Operand)},(∀x∈xs.map (·.2),s.opd x=s'.opd x)->sr s xs=sr s' xs
 | [],_=>rfl
 |(i,x)::xs,h=>by simp only [sr];rw [h x sm,uz fun y hy=>h y (by simp only [List.map_cons,List.mem_cons];exact .inr hy)]
theorem uh{s s':St}{x:Option Operand}(h:∀y∈x.toArray,s.opd y=s'.opd y):rH s x=rH s' x:=by
 cases x with
 |none=>rfl
 |some y=>simp only [rH];rw [h y sm]
theorem Br{P:Program}{mt:Hf}{call:qU}{s s':St}(o:Oper)(h:∀x∈o.op.operands,s.opd x=s'.opd x):rf P mt call s o=rf P mt call s' o:=by
 unfold rf
 rcases hop:o.op with x|x|⟨c,x,y⟩|t|⟨t,x⟩|⟨t,parts⟩|⟨t,len,parts⟩|⟨t,m,k,x⟩|⟨t,x⟩|⟨t,x,y⟩|g|g|x|⟨op,t,x,y,t2⟩|⟨op,t,x⟩|⟨t,t2,x⟩|⟨t,x⟩|⟨t,x⟩|⟨fn,x,y⟩|⟨t,x⟩|⟨t,x⟩|⟨t,x,y⟩|⟨t,x,lo,hi,mx⟩|⟨t,x,f⟩|⟨t,x,f⟩|⟨t,x,y⟩|⟨t,x,y⟩|⟨t,x,y,c⟩|⟨t,x,y,c⟩|⟨t,x,y⟩|⟨t,x,y,c⟩|⟨t,x⟩|⟨x,b⟩|x|⟨x,t,t2,b⟩|⟨x,i⟩|c|c|c|x|⟨x,y⟩|⟨t,x,b⟩|⟨cs,b⟩
 all_goals (simp only [hop,Op.operands]at h)
 all_goals (try simp only)
 all_goals (try rw [h x sm])
 all_goals (try rw [h y sm])
 ·rw [h c sm]
 ·rw [uz fun x hx=>h x (by simpa using hx)]
 ·rw [uz fun x hx=>h x (by simpa using hx)]
 ·cases op<;>(try simp only)<;>rw [h x sm]
 ·rw [wZ (s:=s) (s':=s') (xs:=y.toList) fun x hx=>h x (by simp only [Array.mem_append];exact .inr (by simpa using hx))]
  cases tA s' y.toList with
  |none=>rfl
  |some l=>
  rcases hx:x.toList with _|⟨x0,_|⟨x1,xs⟩⟩
  ·cases fn<;>rfl
  ·have h0:s.opd x0=s'.opd x0:=h x0 (by simp only [Array.mem_append];exact .inl (by rw [<-Array.mem_toList_iff,hx];exact List.mem_singleton.2 rfl))
   cases fn<;>first|rfl|(simp only [];rw [h0])
  ·cases fn<;>rfl
 ·rw [uh (x:=x) fun y hy=>h y (by simpa using hy)]
 ·rw [uh (x:=lo) fun y hy=>h y (by simp only [Array.mem_append];exact .inl (.inl (.inr hy))),uh (x:=hi) fun y hy=>h y (by simp only [Array.mem_append];exact .inl (.inr hy)),uh (x:=mx) fun y hy=>h y (by simp only [Array.mem_append];exact .inr hy)]
 ·rw [h c sm]
 ·have ha:tA s c.args.toList=tA s' c.args.toList:=wZ fun x hx=>h x (by simp only [Call.operands,Array.mem_append];exact .inr (by simpa using hx))
  rw [ha]
  cases hc:c.callee with
  |value f=>
   have hf:s.opd f=s'.opd f:=h f (by simp [Call.operands,hc])
   cases tA s' c.args.toList with
   |none=>rfl
   |some l=>simp only [hf]
  |invoke rc m=>
   have hf:s.opd rc=s'.opd rc:=h rc (by simp [Call.operands,hc])
   cases tA s' c.args.toList with
   |none=>rfl
   |some l=>simp only [hf]
  |builtin b=>
   cases tA s' c.args.toList with
   |none=>cases b<;>rfl
   |some l=>rcases l with _|⟨x,_|⟨y,_|⟨z,l⟩⟩⟩<;>cases b<;>rfl
end Go.Dw
namespace Go.Dw
theorem BK:∀(u:Ups)(s s':St)(id:Nat),id∈u.map (·.1)->(s.ups u).boxes id=(s'.ups u).boxes id
 | [],_,_,_,h=>by simp at h
 |(i,b)::r,s,s',id,h=>by
  rw [sJ,sJ]
  by_cases hr:id∈r.map (·.1)
  ·exact BK r _ _ id hr
  ·rw [ss _ _ _ hr,ss _ _ _ hr]
   have:id=i:=by simpa [hr]using h
   subst this
   show upd s.boxes id b id=upd s'.boxes id b id
   rw [qT,qT]
theorem tw(s:St)(d:Option Nat)(v:RV):(s.put d v).boxes=s.boxes:=by cases d<;>rfl
theorem St.ext'{s s':St}(h1:s.qQ=s'.qQ)(h2:s.boxes=s'.boxes):s=s':=by
 obtain⟨a,b⟩:=s
 obtain⟨c,d⟩:=s'
 simp only at h1 h2
 subst h1;subst h2
 rfl
theorem zz{s:St}{u1 u2:Ups}{d1 d2:Option Nat}{v1 v2:RV}(hu:disj (u1.map (·.1)) (u2.map (·.1))=true)(hd:∀d,d1=some d->d2≠some d):
  ((((s.ups u1).put d1 v1).ups u2).put d2 v2)=((((s.ups u2).put d2 v2).ups u1).put d1 v1):=by
 have hu:=wq hu
 refine St.ext' ?_ ?_
 ·cases d1 with
  |none=>
   cases d2 with
   |none=>simp only [St.put,tf]
   |some e=>simp only [St.put,tf]
  |some d=>
   cases d2 with
   |none=>simp only [St.put,tf]
   |some e=>
    have hne:d≠e:=fun he=>hd d rfl (he▸rfl)
    simp only [St.put,tf]
    funext t
    by_cases h1:t=d
    ·subst h1;simp [hne]
    ·by_cases h2:t=e
     ·subst h2;simp [h1]
     ·simp [h1,h2]
 ·rw [tw,tw]
  funext id
  by_cases h1:id∈u1.map (·.1)
  ·have h2:id∉u2.map (·.1):=hu id h1
   rw [ss _ _ _ h2,tw]
   rw [BK u1 _ ((s.ups u2).put d2 v2) id h1]
  ·by_cases h2:id∈u2.map (·.1)
   ·rw [ss u1 _ _ h1,tw]
    rw [BK u2 _ s id h2]
   ·rw [ss _ _ _ h2,tw,ss _ _ _ h1,ss _ _ _ h1,tw,ss _ _ _ h2]
section
variable {P:Program}{mt:Hf}{call:qU}{ops:Array Oper}
theorem uI{o:Oper}{s s':St}{t:Tr}(h:te P mt call ops o s=some (s',t)):
  (qC ops s o=some true∧∃v u,rf P mt call s o s.boxes=some ((v,u),t.rd,true)∧s'=(s.ups u).put o.dst v∧t.wr=u.map (·.1))∨
  (qC ops s o=some false∧s'=s.put o.dst .undef∧t.rd=[]∧t.wr=[]):=by
 unfold te at h
 rcases hw:qC ops s o with _|w
 ·simp [hw]at h
 simp only [hw]at h
 cases w with
 |true=>
  simp only [if_true]at h
  rcases he:rf P mt call s o s.boxes with _|⟨⟨v,u⟩,rd,c⟩
  ·simp [he]at h
  simp only [he]at h
  cases c with
  |true=>
   simp only [if_true,Option.some.injEq,Prod.mk.injEq]at h
   obtain⟨rfl,rfl⟩:=h
   exact .inl ⟨rfl,v,u,rfl,rfl,rfl⟩
  |false=>simp at h
 |false=>
  simp only [Bool.false_eq_true,if_false,Option.some.injEq,Prod.mk.injEq]at h
  obtain⟨rfl,rfl⟩:=h
  exact .inr ⟨rfl,rfl,rfl,rfl⟩
theorem xy{o:Oper}{s:St}{v:RV}{u:Ups}{rd:List Nat}(hw:qC ops s o=some true)(he:rf P mt call s o s.boxes=some ((v,u),rd,true)):
  te P mt call ops o s=some ((s.ups u).put o.dst v,⟨rd,u.map (·.1)⟩):=by
 unfold te;simp [hw,he]
theorem w7{o:Oper}{s:St}(hw:qC ops s o=some false):te P mt call ops o s=some (s.put o.dst .undef,⟨[],[]⟩):=by
 unfold te;simp [hw]
theorem uK{o:Oper}{s s':St}(h:∀t∈o.looksAt ops,s.qQ t=s'.qQ t):qC ops s o=qC ops s' o:=by
 unfold qC
 cases hg:o.guard with
 |none=>rfl
 |some g=>
  obtain⟨j,want⟩:=g
  simp only
  cases ht:(ops[j]?).bind (·.dst)with
  |none=>rfl
  |some t=>
   simp only
   rw [h t (by simp [Oper.looksAt,hg,ht])]
theorem yX{o:Oper}{s s':St}(h:∀t∈o.looksAt ops,s.qQ t=s'.qQ t):rf P mt call s o=rf P mt call s' o:=by
 refine Br o fun x hx=>?_
 cases x with
 |tmp t=>exact h t (List.mem_append_left _ (List.mem_filterMap.2 ⟨.tmp t,by simpa using hx,rfl⟩))
 |const v=>rfl
 |global g=>rfl
 |func f=>rfl
theorem A9{o:Oper}{s s1 s':St}{t:Tr}{d:Option Nat}{u:Ups}{v:RV}(h:te P mt call ops o s1=some (s',t))(hs:s1=(s.ups u).put d v)
  (hd:∀e,d=some e->e∉o.looksAt ops) (hu:disj (u.map (·.1)) t.rd=true):
  ∃v' u',t.wr=u'.map (·.1)∧s'=(s1.ups u').put o.dst v'∧te P mt call ops o s=some ((s.ups u').put o.dst v',t):=by
 have hregs:∀t∈o.looksAt ops,s1.qQ t=s.qQ t:=by
  intro t ht
  subst hs
  cases d with
  |none=>simp only [St.put,tf]
  |some e=>
   have:t≠e:=fun he=>hd e rfl (he▸ht)
   simp only [St.put,tf,this,if_false]
 have hu:=wq hu
 rcases uI h with⟨hw,v',u',he,h1,h2⟩|⟨hw,h1,h2,h3⟩
 ·have hw':qC ops s o=some true:=by rw [<-uK hregs];exact hw
  have he':rf P mt call s o s.boxes=some ((v',u'),t.rd,true):=by
   rw [<-yX (P:=P) (mt:=mt) (call:=call) hregs]
   refine Lc.rf P mt call s1 o _ _ _ _ _ he fun id hid=>?_
   subst hs
   rw [tw,ss _ _ _ (fun hm=>hu id hm hid)]
  refine⟨v',u',h2,h1,?_⟩
  rw [xy hw' he']
  obtain⟨rd,wr⟩:=t
  simp only at h2
  rw [h2]
 ·have hw':qC ops s o=some false:=by rw [<-uK hregs];exact hw
  refine⟨.undef,[],by rw [h3];rfl,h1,?_⟩
  rw [w7 hw']
  obtain⟨rd,wr⟩:=t
  simp only at h2 h3
  rw [h2,h3]
  rfl
theorem commute{x y:Oper}{s s1 s2:St}{tx ty:Tr}(h1:te P mt call ops x s=some (s1,tx))(h2:te P mt call ops y s1=some (s2,ty))(hp:xR ops (x,tx) (y,ty)=true):
  ∃s3,te P mt call ops y s=some (s3,ty)∧te P mt call ops x s3=some (s2,tx):=by
 simp only [xR,Bool.and_eq_true]at hp
 obtain⟨⟨⟨hap,hd1⟩,hd2⟩,hd3⟩:=hp
 obtain⟨a1,a2,a3⟩:=Oper.apart_spec hap
 have hx:∃v u,s1=(s.ups u).put x.dst v∧tx.wr=u.map (·.1):=by
  rcases uI h1 with⟨_,v,u,_,h3,h4⟩|⟨_,h3,_,h4⟩
  ·exact⟨v,u,h3,h4⟩
  ·exact⟨.undef,[],h3,by rw [h4];rfl⟩
 obtain⟨vx,ux,hs1,hwx⟩:=hx
 obtain⟨vy,uy,hwy,hs2,hy⟩:=A9 h2 hs1 a1 (by rw [<-hwx];exact hd1)
 refine⟨_,hy,?_⟩
 have hregs:∀t∈x.looksAt ops,((s.ups uy).put y.dst vy).qQ t=s.qQ t:=by
  intro t ht
  cases hdy:y.dst with
  |none=>simp only [St.put,tf]
  |some e=>
   have:t≠e:=fun he=>a3 e hdy (he▸ht)
   simp only [St.put,tf,this,if_false]
 have hd2:=wq hd2
 rcases uI h1 with⟨hw,v,u,he,h3,h4⟩|⟨hw,h3,h4,h5⟩
 ·have hw':qC ops ((s.ups uy).put y.dst vy) x=some true:=by rw [uK hregs];exact hw
  have he':rf P mt call ((s.ups uy).put y.dst vy) x ((s.ups uy).put y.dst vy).boxes=some ((v,u),tx.rd,true):=by
   rw [yX (P:=P) (mt:=mt) (call:=call) hregs]
   refine Lc.rf P mt call s x _ _ _ _ _ he fun id hid=>?_
   rw [tw,ss _ _ _ (fun hm=>hd2 id (by rw [hwy];exact hm) hid)]
  rw [xy hw' he',hs2,h3]
  rw [zz (by rw [<-h4, <-hwy];exact hd3) a2]
  obtain⟨rd,wr⟩:=tx
  simp only at h4
  rw [h4]
 ·have hw':qC ops ((s.ups uy).put y.dst vy) x=some false:=by rw [uK hregs];exact hw
  rw [w7 hw',hs2,h3]
  have:=zz (s:=s) (u1:=[]) (u2:=uy) (d1:=x.dst) (d2:=y.dst) (v1:= .undef) (v2:=vy) (by rfl) a2
  simp only [St.ups]at this
  rw [this]
  obtain⟨rd,wr⟩:=tx
  simp only at h4 h5
  rw [h4,h5]
theorem vr{o:Oper}{r:List Oper}{s sF:St}{ts:List Tr}(h:sx P mt call ops (o::r) s=some (sF,ts)):
  ∃s1 t ts',te P mt call ops o s=some (s1,t)∧sx P mt call ops r s1=some (sF,ts')∧ts=t::ts':=by
 unfold sx at h
 rcases h1:te P mt call ops o s with _|⟨s1,t⟩
 ·simp [h1]at h
 simp only [h1]at h
 rcases h2:sx P mt call ops r s1 with _|⟨s2,ts'⟩
 ·simp [h2]at h
 simp only [h2,Option.some.injEq,Prod.mk.injEq]at h
 exact⟨s1,t,ts',rfl,by rw [h2,h.1],h.2.symm⟩
theorem evOps_mk{o:Oper}{r:List Oper}{s s1 sF:St}{t:Tr}{ts:List Tr}(h1:te P mt call ops o s=some (s1,t))(h2:sx P mt call ops r s1=some (sF,ts)):
  sx P mt call ops (o::r) s=some (sF,t::ts):=by
 unfold sx;simp [h1,h2]
theorem yi:∀(l1:List (Oper×Tr)){o:Oper}{t:Tr}{l2:List (Oper×Tr)}{s sF:St},
  sx P mt call ops ((l1++(o,t)::l2).map (·.1)) s=some (sF,(l1++(o,t)::l2).map (·.2))->(∀x∈l1,xR ops x (o,t)=true)->
  ∃s1,te P mt call ops o s=some (s1,t)∧sx P mt call ops ((l1++l2).map (·.1)) s1=some (sF,(l1++l2).map (·.2))
 | [],o,t,l2,s,sF,h,_=>by
  simp only [List.nil_append,List.map_cons]at h
  obtain⟨s1,t',ts',h1,h2,h3⟩:=vr h
  cases h3
  exact⟨s1,h1,h2⟩
 |(x,tx)::l1,o,t,l2,s,sF,h,hp=>by
  simp only [List.cons_append,List.map_cons]at h
  obtain⟨s1,t',ts',h1,h2,h3⟩:=vr h
  cases h3
  obtain⟨s2,h4,h5⟩:=yi l1 h2 (fun y hy=>hp y (by simp [hy]))
  obtain⟨s3,h6,h7⟩:=commute h1 h4 (hp (x,tx) sm)
  exact⟨s3,h6,by simp only [List.cons_append,List.map_cons];exact evOps_mk h7 h5⟩
theorem yH:∀(l:List Oper)(acc:List Nat)(i:Nat),i<acc.length->(yG l acc).getD i 0=acc.getD i 0
 | [],acc,i,_=>rfl
 |o::r,acc,i,h=>by
  rw [yG,yH r _ i so]
  simp only [List.getD_eq_getElem?_getD]
  rw [List.getElem?_append_left h]
theorem zf(acc:List Nat):∀(es:List Edge)(b j:Nat),(es.foldl (fun b e=>if Region.binds .any e then b ||| (2 ^ e.on ||| acc.getD e.on 0)else b) b).testBit j=true->
  b.testBit j=true∨∃e∈es,Region.binds .any e=true∧(e.on=j∨(acc.getD e.on 0).testBit j=true)
 | [],b,j,h=>.inl h
 |e::es,b,j,h=>by
  simp only [List.foldl_cons]at h
  rcases zf acc es _ j h with h1|⟨e',h1,h2,h3⟩
  ·by_cases hb:Region.binds .any e=true
   ·simp only [hb,if_true,Nat.testBit_or,Bool.or_eq_true,Nat.testBit_two_pow,decide_eq_true_eq]at h1
    rcases h1 with h1|h1|h1
    ·exact .inl h1
    ·exact .inr ⟨e,sm,hb,.inl h1⟩
    ·exact .inr ⟨e,sm,hb,.inr h1⟩
   ·simp only [hb]at h1;exact .inl h1
  ·exact .inr ⟨e',by simp [h1],h2,h3⟩
theorem xE:∀(l:List Oper)(acc:List Nat)(i:Nat)(o:Oper),l[i]? =some o->∀j,((yG l acc).getD (acc.length+i) 0).testBit j=true->
  ∃e∈o.after,Region.binds .any e=true∧(e.on=j∨(e.on<acc.length+i∧((yG l acc).getD e.on 0).testBit j=true))
 | [],acc,i,o,h,_,_=>by simp at h
 |x::r,acc,0,o,h,j,hj=>by
  simp only [List.getElem?_cons_zero,Option.some.injEq]at h
  subst h
  rw [yG,Nat.add_zero,yH r _ acc.length sm]at hj
  simp only [List.getD_eq_getElem?_getD,List.getElem?_concat_length,Option.getD_some]at hj
  rcases zf acc x.after.toList 0 j hj with h1|⟨e,h1,h2,h3⟩
  ·simp at h1
  ·refine⟨e,by simpa using h1,h2,?_⟩
   rcases h3 with h3|h3
   ·exact .inl h3
   ·by_cases hlt:e.on<acc.length
    ·refine .inr ⟨za,?_⟩
     rw [yG,yH r _ e.on so]
     simp only [List.getD_eq_getElem?_getD]at h3⊢
     rw [List.getElem?_append_left hlt]
     exact h3
    ·rw [List.getD_eq_getElem?_getD,List.getElem?_eq_none za]at h3
     simp at h3
 |x::r,acc,i+1,o,h,j,hj=>by
  simp only [List.getElem?_cons_succ]at h
  rw [yG]at hj⊢
  have := xE r (acc ++ [x.after.toList.foldl (fun b e => if Region.binds .any e then b ||| (2 ^ e.on ||| acc.getD e.on 0) else b) 0]) i o h j (by
   simp only [List.length_append,List.length_singleton]
   rw [show acc.length+1+i=acc.length+(i+1)by omega]
   exact hj)
  simp only [List.length_append,List.length_singleton]at this
  rw [show acc.length+1+i=acc.length+(i+1)by omega]at this
  exact this
theorem Be{listed:Array Bool}(hclosed:∀(i:Nat)o,ops[i]? =some o->listed.getD i false=true->∀e∈o.after,Region.binds .any e=true->listed.getD e.on false=true)(hsz:listed.size=ops.size):
  ∀(n i:Nat)(o:Oper),i<=n->ops[i]? =some o->(∀e∈o.after,Region.binds .any e=true->listed.getD e.on false=true)->∀j,((yG ops.toList []).getD i 0).testBit j=true->listed.getD j false=true:=by
 intro n
 induction n with
 |zero=>
  intro i o hi ho he j hj
  have h0:i=0:=by omega
  subst h0
  obtain⟨e,h1,h2,h3⟩:=xE ops.toList [] 0 o (by simpa using ho) j (by simpa using hj)
  rcases h3 with rfl|⟨h3,_⟩
  ·exact he e h1 h2
  ·simp at h3
 |succ n ih=>
  intro i o hi ho he j hj
  obtain⟨e,h1,h2,h3⟩:=xE ops.toList [] i o (by simpa using ho) j (by simpa using hj)
  rcases h3 with rfl|⟨h3,h4⟩
  ·exact he e h1 h2
  ·simp only [List.length_nil,Nat.zero_add]at h3
   have hl:=he e h1 h2
   have hlt:e.on<ops.size:=by
    rcases Nat.lt_or_ge e.on listed.size with h|h
    ·omega
    ·simp [Array.getElem?_eq_none h]at hl
   have ho2:ops[e.on]? =some ops[e.on]:=Array.getElem?_eq_getElem hlt
   exact ih e.on _ za ho2 (hclosed e.on _ ho2 hl) j h4
end
end Go.Dw
