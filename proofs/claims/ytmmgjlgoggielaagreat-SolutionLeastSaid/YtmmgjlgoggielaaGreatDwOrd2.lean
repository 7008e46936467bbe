
import Derived.Test.YtmmgjlgoggielaaGreatDwOp

namespace Go.Dw
def Lc{α:Type}(m:M α):Prop:=∀b b' a r c,m b=some (a,r,c)->(∀id∈r,b' id=b id)->m b'=some (a,r,c)
theorem Lc.pure{α:Type}(a:α):Lc (M.pure a):=fun _ _ _ _ _ h _=>h
theorem Lc.oa{α:Type}(k:Bool)(a:α):Lc (M.oa k a):=fun _ _ _ _ _ h _=>h
theorem Lc.fail{α:Type}:Lc (M.fail:M α):=fun _ _ _ _ _ h _=>h
theorem Lc.get(id:Nat):Lc (M.get id):=by
 intro b b' a r c h hb
 obtain⟨h1,h2,h3⟩:=M.get_some h
 subst h2;subst h3
 simp [M.get,hb id sm,h1]
theorem Lc.ov(id:Nat):Lc (M.ov id):=by
 intro b b' a r c h hb
 obtain⟨h1,h2,h3⟩:=M.oO h
 subst h2;subst h3
 simp [M.ov,hb id sm,h1]
theorem Lc.bind{α β:Type}{m:M α}{f:α->M β}(hm:Lc m)(hf:∀a,Lc (f a)):Lc (M.bind m f):=by
 intro b b' x r c h hb
 unfold M.bind at h⊢
 rcases h1:m b with _|⟨a,r1,c1⟩
 ·simp [h1]at h
 simp only [h1]at h
 rcases h2:f a b with _|⟨y,r2,c2⟩
 ·simp [h2]at h
 simp only [h2,Option.some.injEq,Prod.mk.injEq]at h
 obtain⟨rfl,rfl,rfl⟩:=h
 rw [hm b b' a r1 c1 h1 (fun id hid=>hb id (List.mem_append.2 (.inl hid)))]
 simp only [hf a b b' y r2 c2 h2 (fun id hid=>hb id (List.mem_append.2 (.inr hid)))]
theorem Lc.oZ(v:RV):Lc (oZ v):=Lc.pure _
theorem Lc.oJ(k:Bool)(v:RV):Lc (oJ k v):=Lc.oa _ _
theorem Lc.tq(o:Option (PD×Bool)):Lc (tq o):=by unfold Dw.tq;split<;>first|exact Lc.oa _ _|exact Lc.fail
theorem Lc.uh(v:RV):Lc (uh v):=by
 unfold Dw.uh
 split<;>first|exact Lc.pure _|exact Lc.fail|skip
 all_goals refine Lc.bind (Lc.get _) fun bx=>?_
 all_goals (split<;>first|exact Lc.fail|skip)
 all_goals (split<;>first|exact Lc.pure _|exact Lc.oa _ _|exact Lc.fail)
theorem Lc.rK:∀(cs:List RV),Lc (rK cs)
 | []=>Lc.pure _
 |c::cs=>Lc.bind (Lc.uh c) fun _=>Lc.bind (Lc.rK cs) fun _=>Lc.pure _
theorem Lc.qu(v:RV):Lc (qu v):=by
 unfold Dw.qu
 split
 ·exact Lc.bind (Lc.rK _) fun _=>Lc.pure _
 ·exact Lc.uh _
section
variable (P:Program)
theorem Lc.qP(t:TypeId)(cs:List PD):Lc (qP P t cs):=by
 unfold Dw.qP
 split<;>first|exact Lc.fail|exact Lc.oJ _ _|skip
 split<;>first|exact Lc.fail|exact Lc.oZ _
theorem Lc.qo(t:TypeId)(cs:List RV)(o:Nat):Lc (qo P t cs o):=by
 unfold Dw.qo
 split<;>first|exact Lc.fail|exact Lc.oJ _ _|skip
 split<;>first|exact Lc.fail|exact Lc.oZ _
theorem Lc.rp(t:TypeId)(a:RV):Lc (rp P t a):=by
 unfold Dw.rp
 split
 ·exact Lc.qP P t _
 ·refine Lc.bind (Lc.get _) fun bx=>?_
  split<;>first|exact Lc.qo P t _ _|exact Lc.fail
 ·refine Lc.bind (Lc.get _) fun bx=>?_
  split<;>first|exact Lc.fail|skip
  ·split<;>first|exact Lc.fail|skip
   split<;>first|exact Lc.fail|exact Lc.qP P t _
  ·split<;>first|exact Lc.fail|skip
   split<;>first|exact Lc.fail|exact Lc.oZ _
 ·exact Lc.fail
theorem Lc.tf(t:TypeId)(a v:RV):Lc (tf P t a v):=by
 unfold Dw.tf
 split<;>first|exact Lc.fail|skip
 split
 ·refine Lc.bind (Lc.get _) fun bx=>?_
  split<;>first|exact Lc.oa _ _|exact Lc.fail|skip
 ·refine Lc.bind (Lc.get _) fun bx=>?_
  split<;>first|exact Lc.fail|skip
  ·split<;>first|exact Lc.fail|skip
   refine Lc.bind (Lc.qu _) fun p=>?_
   obtain⟨p,u⟩:=p
   dsimp only
   split<;>first|exact Lc.fail|skip
   split<;>first|exact Lc.fail|exact Lc.oa _ _
  ·exact iteInduction (motive:=Lc) (fun _=>Lc.oa _ _) (fun _=>Lc.fail)
 ·exact Lc.fail
theorem Lc.uf(off:Nat)(x:RV):Lc (uf off x):=by
 unfold Dw.uf
 split
 ·refine Lc.bind (Lc.get _) fun bx=>?_
  split<;>first|exact Lc.oZ _|exact Lc.fail
 ·refine Lc.bind (Lc.get _) fun bx=>?_
  split<;>first|exact Lc.fail|skip
  split<;>first|exact Lc.oZ _|exact Lc.fail
 ·exact Lc.oZ _
 ·exact Lc.fail
theorem Lc.qd(t:TypeId)(x:RV)(f:Nat):Lc (qd P t x f):=by
 unfold Dw.qd
 split<;>first|exact Lc.fail|skip
 split<;>first|exact Lc.fail|exact Lc.uf _ _
theorem Lc.uq(t:TypeId)(x:RV)(f:Nat):Lc (uq P t x f):=by
 unfold Dw.uq
 split<;>first|exact Lc.fail|exact Lc.qo P _ _ _
theorem Lc.uu(x i:RV):Lc (uu x i):=by
 unfold Dw.uu
 repeat' split
 all_goals first|exact Lc.oJ _ _|exact Lc.fail
theorem Lc.vG(len:Nat)(e:TypeId)(x i:RV):Lc (vG P len e x i):=by
 unfold Dw.vG
 repeat' split
 all_goals first|exact Lc.bind (Lc.oa _ _) fun _=>Lc.qo _ _ _ _|exact Lc.fail
theorem Lc.tG(t:TypeId)(x i:RV):Lc (tG P t x i):=by
 unfold Dw.tG
 repeat' split
 all_goals first|exact Lc.uu _ _|exact Lc.vG _ _ _ _ _|exact Lc.fail
theorem Lc.pk(t:TypeId)(x i:RV):Lc (pk P t x i):=by
 unfold Dw.pk
 split
 ·split<;>first|exact Lc.fail|skip
  split<;>first|exact Lc.fail|exact Lc.oJ _ _|skip
  all_goals refine Lc.bind (Lc.get _) fun bx=>?_
  all_goals (split<;>first|exact Lc.fail|exact Lc.oJ _ _|skip)
  all_goals (split<;>first|exact Lc.fail|exact Lc.oJ _ _)
 ·split<;>first|exact Lc.fail|skip
  exact Lc.bind (Lc.oa _ _) fun _=>Lc.uf _ _
 ·exact Lc.fail
theorem Lc.sliceB(e:TypeId)(id ver a b:Nat)(lo hi:Option RV):Lc (sliceB P e id ver a b lo hi):=by
 unfold Dw.sliceB
 split<;>first|exact Lc.fail|skip
 refine Lc.bind (Lc.get _) fun bx=>?_
 split<;>first|exact Lc.fail|skip
 split<;>first|exact Lc.fail|exact Lc.oJ _ _
theorem Lc.vR(nid:Nat)(e:TypeId)(n:Nat)(lo hi mx:Option RV):Lc (vR P nid e n lo hi mx):=by
 unfold Dw.vR
 split<;>first|exact Lc.fail|skip
 split<;>first|exact Lc.fail|exact Lc.bind (Lc.ov _) fun _=>Lc.oa _ _
theorem Lc.uD(id:Nat)(a:TypeId):Lc (uD P id a):=by
 unfold Dw.uD
 split<;>first|exact Lc.fail|skip
 split<;>first|exact Lc.fail|skip
 refine Lc.bind (Lc.get _) fun bx=>?_
 split<;>first|exact Lc.fail|skip
 split<;>first|exact Lc.fail|skip
 split<;>first|exact Lc.fail|exact Lc.oa _ _
theorem Lc.uF(e:TypeId)(id ver:Nat)(lo hi:Option RV)(mx:RV):Lc (uF P e id ver lo hi mx):=by
 unfold Dw.uF
 split<;>first|exact Lc.fail|skip
 split<;>first|exact Lc.fail|skip
 refine Lc.bind (Lc.get _) fun bx=>?_
 split<;>first|exact Lc.fail|skip
 split<;>first|exact Lc.fail|exact Lc.oa _ _
theorem Lc.uE(a:TypeId)(cs:List PD):Lc (uE P a cs):=by
 unfold Dw.uE
 split<;>first|exact Lc.fail|skip
 split<;>first|exact Lc.fail|skip
 split<;>first|exact Lc.fail|exact Lc.oa _ _
theorem Lc.w3(e:TypeId)(es:List PD)(h m:Int):Lc (w3 P e es h m):=by
 unfold Dw.w3
 split<;>first|exact Lc.fail|skip
 split<;>first|exact Lc.fail|exact Lc.oa _ _
theorem Lc.wk(t:TypeId)(x:RV)(lo hi mx:Option RV):Lc (wk P t x lo hi mx):=by
 unfold Dw.wk
 split<;>first|exact Lc.fail|exact Lc.w3 P _ _ _ _|skip
 split<;>first|exact Lc.fail|skip
 refine Lc.bind (Lc.get _) fun bx=>?_
 split<;>first|exact Lc.fail|skip
 split<;>first|exact Lc.fail|exact Lc.oa _ _
theorem Lc.pE(nid:Nat)(t:TypeId)(x:RV)(lo hi mx:Option RV):Lc (pE P nid t x lo hi mx):=by
 unfold Dw.pE
 split
 ·refine Lc.bind (Lc.get _) fun bx=>?_
  split<;>first|exact Lc.fail|exact Lc.sliceB P _ _ _ _ _ _ _
 ·exact Lc.sliceB P _ _ _ _ _ _ _
 ·split<;>first|exact Lc.fail|exact Lc.uD P _ _
 ·split<;>first|exact Lc.fail|exact Lc.uE P _ _
 ·split<;>first|exact Lc.fail|(split<;>first|exact Lc.pure _|exact Lc.fail)
 ·exact Lc.vR P _ _ _ _ _ _
 ·exact Lc.uF P _ _ _ _ _ _
 all_goals first|exact Lc.fail|(split<;>first|exact Lc.fail|exact Lc.oJ _ _)
theorem Lc.um(t:TypeId)(l:List (Nat×RV)):Lc (um P t l):=by
 unfold Dw.um
 split
 ·split<;>first|exact Lc.fail|skip
  split<;>first|exact Lc.fail|exact Lc.oJ _ _
 ·split<;>first|exact Lc.fail|skip
  split<;>first|exact Lc.fail|exact Lc.oJ _ _
 ·exact Lc.fail
theorem Lc.uv(mt:Bool)(cs:List RV):Lc (uv mt cs):=by
 unfold Dw.uv
 split
 ·exact Lc.pure _
 ·exact Lc.rK _
theorem Lc.pM(mt:Bool)(id:Nat)(t:TypeId)(len:Nat)(l:List (Nat×RV)):Lc (pM P mt id t len l):=by
 unfold Dw.pM
 split<;>first|exact Lc.fail|skip
 split<;>first|exact Lc.fail|skip
 split<;>first|exact Lc.fail|skip
 split<;>first|exact Lc.fail|skip
 refine Lc.bind (Lc.uv _ _) fun p=>?_
 obtain⟨ps,u⟩:=p
 dsimp only
 split
 ·exact Lc.bind (Lc.ov _) fun _=>Lc.oa _ _
 ·exact Lc.oa _ _
theorem Lc.uj(id:Nat)(t:TypeId):Lc (uj P id t):=by
 unfold Dw.uj
 split<;>first|exact Lc.fail|exact Lc.bind (Lc.ov _) fun _=>Lc.pure _
theorem Lc.boxD(id:Nat)(v:RV):Lc (boxD id v):=Lc.bind (Lc.ov _) fun _=>Lc.oa _ _
theorem Lc.w5(t:TypeId)(x:RV):Lc (w5 P t x):=by
 unfold Dw.w5
 split<;>first|exact Lc.fail|exact Lc.oZ _|skip
 all_goals refine Lc.bind (Lc.get _) fun bx=>?_
 all_goals (split<;>first|exact Lc.fail|exact Lc.oZ _|skip)
 all_goals (split<;>first|exact Lc.fail|exact Lc.oZ _|exact Lc.oJ _ _)
theorem Lc.pY(x:RV):Lc (pY x):=by
 unfold Dw.pY
 split<;>first|exact Lc.fail|exact Lc.pure _|skip
 all_goals refine Lc.bind (Lc.get _) fun bx=>?_
 all_goals (split<;>first|exact Lc.fail|skip)
 all_goals (split<;>first|exact Lc.fail|exact Lc.pure _|exact Lc.oa _ _)
theorem Lc.pS(id:Nat)(t t':TypeId)(s x:RV):Lc (pS P id t t' s x):=by
 unfold Dw.pS
 split<;>first|exact Lc.fail|skip
 split<;>first|exact Lc.fail|skip
 split<;>first|exact Lc.fail|skip
 refine Lc.bind (Lc.pY _) fun xs=>?_
 split
 ·exact Lc.bind (Lc.ov _) fun _=>Lc.oa _ _
 ·refine Lc.bind (Lc.get _) fun bx=>?_
  split<;>first|exact Lc.fail|skip
  all_goals (split<;>first|exact Lc.fail|exact Lc.oa _ _)
 ·refine Lc.bind (Lc.get _) fun bx=>?_
  split<;>first|exact Lc.fail|skip
  split<;>first|exact Lc.fail|exact Lc.oa _ _
 ·exact Lc.oa _ _
 ·exact Lc.fail
theorem Lc.wo(x:RV):Lc (wo x):=by
 unfold Dw.wo
 split<;>first|exact Lc.fail|skip
 all_goals refine Lc.bind (Lc.get _) fun bx=>?_
 all_goals (split<;>first|exact Lc.fail|skip)
 all_goals (split<;>first|exact Lc.fail|exact Lc.pure _|exact Lc.oa _ _)
theorem Lc.vV(t:TypeId)(x y:RV):Lc (vV P t x y):=by
 unfold Dw.vV
 split<;>first|exact Lc.fail|skip
 split<;>first|exact Lc.fail|skip
 exact Lc.bind (Lc.wo _) fun _=>Lc.bind (Lc.pY _) fun _=>Lc.oa _ _
theorem Lc.rU(t:TypeId)(x:RV):Lc (rU P t x):=by
 unfold Dw.rU
 split<;>first|exact Lc.fail|skip
 split<;>first|exact Lc.fail|skip
 exact Lc.bind (Lc.wo _) fun _=>Lc.oa _ _
theorem Lc.minD(l:List RV):Lc (minD l):=by
 unfold Dw.minD
 split<;>first|exact Lc.fail|skip
 split<;>first|exact Lc.fail|exact Lc.pure _
theorem Lc.maxD(l:List RV):Lc (maxD l):=by
 unfold Dw.maxD
 split<;>first|exact Lc.fail|skip
 split<;>first|exact Lc.fail|exact Lc.pure _
theorem Lc.argD(by_:Bool)(v:RV):Lc (argD by_ v):=by
 unfold Dw.argD
 split<;>first|exact Lc.pure _|exact Lc.bind (Lc.qu _) fun _=>Lc.oa _ _|(split<;>first|exact Lc.pure _|exact Lc.bind (Lc.qu _) fun _=>Lc.pure _|exact Lc.bind (Lc.qu _) fun _=>Lc.oa _ _)
theorem Lc.tA(by_:Nat->Bool):∀(i:Nat)(l:List RV),Lc (tA by_ i l)
 |_,[]=>Lc.pure _
 |i,v::r=>Lc.bind (Lc.argD _ v) fun _=>Lc.bind (Lc.tA by_ (i+1) r) fun _=>Lc.pure _
theorem Lc.qp:∀(n:Nat)(done todo:List Nat),Lc (qp n done todo)
 |0,_,_=>Lc.fail
 |_+1,_,[]=>Lc.pure _
 |n+1,done,i::todo=>by
  unfold Dw.qp
  split
  ·exact Lc.qp n _ _
  ·exact Lc.bind (Lc.get _) fun _=>Lc.qp n _ _
theorem Lc.tp:∀(l:List Nat),Lc (tp l)
 | []=>Lc.pure _
 |_::r=>Lc.bind (Lc.get _) fun _=>Lc.bind (Lc.tp r) fun _=>Lc.pure _
theorem Lc.qa:∀(l:List Nat),Lc (qa l)
 | []=>Lc.pure _
 |_::r=>Lc.bind (Lc.ov _) fun _=>Lc.qa r
theorem Lc.ql(by_:FuncId->Nat->Bool)(call:oB)(f:FuncId)(base:Nat)(l:List RV):Lc (ql by_ call f base l):=by
 unfold Dw.ql
 refine Lc.bind (Lc.tA _ _ _) fun x=>Lc.bind (Lc.qp _ _ _) fun ids=>Lc.bind (Lc.tp _) fun bxs=>?_
 split<;>first|exact Lc.fail|skip
 split<;>first|exact Lc.fail|exact Lc.bind (Lc.qa _) fun _=>Lc.pure _
theorem Lc.tn(id:Nat)(src dst:TypeId)(x:RV):Lc (tn P id src dst x):=by
 unfold Dw.tn
 split
 ·split<;>first|exact Lc.fail|exact Lc.bind (Lc.ov _) fun _=>Lc.oa _ _
 ·split<;>first|exact Lc.fail|skip
  refine Lc.bind (Lc.get _) fun bx=>?_
  split<;>first|exact Lc.fail|skip
  refine iteInduction (motive:=Lc) (fun _=>?_) (fun _=>Lc.fail)
  split<;>first|exact Lc.fail|exact Lc.oZ _
 ·split<;>first|exact Lc.fail|skip
  split<;>first|exact Lc.fail|exact Lc.oZ _
 ·exact Lc.tq _
theorem Lc.qL(id:Nat)(t:TypeId):Lc (qL P id t):=by
 unfold Dw.qL
 split<;>first|exact Lc.fail|exact Lc.bind (Lc.ov _) fun _=>Lc.pure _
theorem Lc.rq(id:Nat)(t:TypeId):Lc (rq P id t):=by
 unfold Dw.rq
 split<;>first|exact Lc.fail|skip
 split<;>first|exact Lc.fail|exact Lc.bind (Lc.ov _) fun _=>Lc.pure _
theorem Lc.qy(nid:Nat)(t:TypeId)(x k:RV):Lc (qy P nid t x k):=by
 unfold Dw.qy
 split<;>first|exact Lc.fail|skip
 refine Lc.bind (Lc.get _) fun bx=>?_
 split<;>first|exact Lc.fail|skip
 refine iteInduction (motive:=Lc) (fun _=>?_) (fun _=>Lc.fail)
 refine Lc.bind (Lc.ov _) fun _=>?_
 split
 ·exact Lc.oa _ _
 ·exact iteInduction (motive:=Lc) (fun _=>Lc.pure _) (fun _=>Lc.fail)
 ·exact Lc.fail
theorem Lc.pN(x n v:RV):Lc (pN x n v):=by
 unfold Dw.pN
 split<;>first|exact Lc.fail|skip
 refine Lc.bind (Lc.get _) fun bx=>?_
 split<;>first|exact Lc.fail|skip
 refine Lc.bind (Lc.get _) fun bx=>?_
 split<;>first|exact Lc.fail|skip
 refine iteInduction (motive:=Lc) (fun _=>?_) (fun _=>Lc.fail)
 split<;>first|exact Lc.fail|exact Lc.pure _
theorem Lc.qW(t:TypeId)(x k:RV)(ok:Bool):Lc (qW P t x k ok):=by
 unfold Dw.qW
 split<;>first|exact Lc.fail|skip
 refine Lc.bind (Lc.get _) fun bx=>?_
 split<;>first|exact Lc.fail|skip
 split<;>first|exact Lc.fail|skip
 split<;>first|exact Lc.fail|(split<;>exact Lc.oZ _)
theorem Lc.sX(t:TypeId)(x k v:RV):Lc (sX P t x k v):=by
 unfold Dw.sX
 split<;>first|exact Lc.fail|skip
 refine Lc.bind (Lc.get _) fun bx=>?_
 split<;>first|exact Lc.fail|skip
 split<;>first|exact Lc.fail|skip
 refine Lc.bind (Lc.qu _) fun p=>?_
 obtain⟨p,u⟩:=p
 dsimp only
 split<;>first|exact Lc.fail|(split<;>first|exact Lc.fail|exact Lc.oa _ _|exact Lc.pure _)
theorem Lc.pD(id:Nat)(t:TypeId)(l c:RV):Lc (pD P id t l c):=by
 unfold Dw.pD
 split<;>first|exact Lc.fail|skip
 split<;>first|exact Lc.fail|exact Lc.bind (Lc.ov _) fun _=>Lc.oa _ _
theorem Lc.vU(id:Nat)(t t':TypeId)(a x:RV):Lc (vU P id t t' a x):=by
 unfold Dw.vU
 split<;>first|exact Lc.fail|skip
 split<;>first|exact Lc.fail|exact Lc.bind (Lc.ov _) fun _=>Lc.oa _ _
theorem Lc.capD(t:TypeId)(x:RV):Lc (capD P t x):=by
 unfold Dw.capD
 split<;>first|exact Lc.fail|exact Lc.oZ _
theorem Lc.ifcD(t:TypeId)(x:RV):Lc (ifcD P t x):=by
 unfold Dw.ifcD
 split<;>first|exact Lc.fail|exact Lc.oZ _
theorem Lc.sk(x:RV)(t:TypeId)(ok:Bool):Lc (sk P x t ok):=by
 unfold Dw.sk
 split<;>first|exact Lc.fail|skip
 exact iteInduction (motive:=Lc) (fun _=>Lc.oZ _) (fun _=>Lc.fail)
theorem Lc.sJ(mt:Hf)(call:oB)(base:Nat)(x:RV)(name:String)(as:List RV):Lc (sJ P mt call base x name as):=by
 unfold Dw.sJ
 split<;>first|exact Lc.fail|skip
 split<;>first|exact Lc.fail|exact Lc.ql _ _ _ _ _|skip
 exact Lc.bind (Lc.rp P _ _) fun _=>Lc.ql _ _ _ _ _
theorem Lc.oE(mt:Hf)(call:oB)(s:St)(o:Oper):Lc (oE P mt call s o):=by
 unfold Dw.oE
 split
 all_goals (try exact Lc.fail)
 all_goals (try exact Lc.uj P _ _)
 all_goals (split<;>first|exact Lc.fail|exact Lc.oZ _|exact Lc.ifcD P _ _|exact Lc.sk P _ _ _|exact Lc.boxD _ _|exact Lc.um P _ _|exact Lc.pM P _ _ _ _ _|exact Lc.rp P _ _|exact Lc.tf P _ _ _|exact Lc.uf _ _|exact Lc.tq _|exact Lc.pE P _ _ _ _ _ _|exact Lc.qd P _ _ _|exact Lc.uq P _ _ _|exact Lc.pk P _ _ _|exact Lc.tG P _ _ _|exact Lc.minD _|exact Lc.maxD _|exact Lc.qW P _ _ _ _|exact Lc.sX P _ _ _ _|exact Lc.qL P _ _|exact iteInduction (motive:=Lc) (fun _=>Lc.rq P _ _) (fun _=>Lc.qL P _ _)|exact Lc.qy P _ _ _ _|exact Lc.pN _ _ _|exact Lc.pD P _ _ _ _|exact Lc.tn P _ _ _ _|skip)
 all_goals (split<;>first|exact Lc.fail|exact Lc.oZ _|exact Lc.sJ P _ _ _ _ _ _|exact Lc.w5 P _ _|exact Lc.capD P _ _|exact Lc.pS P _ _ _ _ _|exact Lc.vV P _ _ _|exact Lc.rU P _ _|exact Lc.wk P _ _ _ _ _|exact Lc.pE P _ _ _ _ _ _|exact Lc.ql _ _ _ _ _|(split<;>first|exact Lc.pS P _ _ _ _ _|exact Lc.vU P _ _ _ _ _))
end
theorem uA{s s':St}:∀{xs:List Operand},(∀x∈xs,s.opd x=s'.opd x)->qz s xs=qz s' xs
 | [],_=>rfl
 |x::xs,h=>by simp only [qz];rw [h x sm,uA fun y hy=>h y (by simp [hy])]
theorem rr{s s':St}:∀{xs:List (Nat×Operand)},(∀x∈xs.map (·.2),s.opd x=s'.opd x)->pH s xs=pH s' xs
 | [],_=>rfl
 |(i,x)::xs,h=>by simp only [pH];rw [h x sm,rr fun y hy=>h y (by simp only [List.map_cons,List.mem_cons];exact .inr hy)]
theorem qY{s s':St}{x:Option Operand}(h:∀y∈x.toArray,s.opd y=s'.opd y):o0 s x=o0 s' x:=by
 cases x with
 |none=>rfl
 |some y=>simp only [o0];rw [h y sm]
theorem zF{P:Program}{mt:Hf}{call:oB}{s s':St}(o:Oper)(h:∀x∈o.op.operands,s.opd x=s'.opd x):oE P mt call s o=oE P mt call s' o:=by
 unfold oE
 rcases hop:o.op with x|x|⟨c,x,y⟩|t|⟨t,x⟩|⟨t,parts⟩|⟨t,len,parts⟩|⟨t,m,k,x⟩|⟨t,x⟩|⟨t,x,y⟩|g|g|x|⟨op,t,x,y,t2⟩|⟨op,t,x⟩|⟨t,t2,x⟩|⟨t,x⟩|⟨t,x⟩|⟨fn,x,y⟩|⟨t,x⟩|⟨t,x⟩|⟨t,x,y⟩|⟨t,x,lo,hi,mx⟩|⟨t,x,f⟩|⟨t,x,f⟩|⟨t,x,y⟩|⟨t,x,y⟩|⟨t,x,y,c⟩|⟨t,x,y,c⟩|⟨t,x,y⟩|⟨t,x,y,c⟩|⟨t,x⟩|⟨x,b⟩|x|⟨x,t,t2,b⟩|⟨x,i⟩|c|c|c|x|⟨x,y⟩|⟨t,x,b⟩|⟨cs,b⟩
 all_goals (simp only [hop,Op.operands]at h)
 all_goals (try simp only)
 all_goals (try rw [h x sm])
 all_goals (try rw [h y sm])
 ·rw [h c sm]
 ·rw [rr fun x hx=>h x (by simpa using hx)]
 ·rw [rr fun x hx=>h x (by simpa using hx)]
 ·cases op<;>(try simp only)<;>rw [h x sm]
 ·rw [uA (s:=s) (s':=s') (xs:=y.toList) fun x hx=>h x (by simp only [Array.mem_append];exact .inr (by simpa using hx))]
 ·rw [qY (x:=x) fun y hy=>h y (by simpa using hy)]
 ·rw [qY (x:=lo) fun y hy=>h y (by simp only [Array.mem_append];exact .inl (.inl (.inr hy))),qY (x:=hi) fun y hy=>h y (by simp only [Array.mem_append];exact .inl (.inr hy)),qY (x:=mx) fun y hy=>h y (by simp only [Array.mem_append];exact .inr hy)]
 ·rw [h c sm]
 ·rw [h c sm]
 ·have ha:qz s c.args.toList=qz s' c.args.toList:=uA fun x hx=>h x (by simp only [Call.operands,Array.mem_append];exact .inr (by simpa using hx))
  rw [ha]
  cases hc:c.callee with
  |value f=>
   have hf:s.opd f=s'.opd f:=h f (by simp [Call.operands,hc])
   cases qz s' c.args.toList with
   |none=>rfl
   |some l=>simp only [hf]
  |invoke rc m=>
   have hf:s.opd rc=s'.opd rc:=h rc (by simp [Call.operands,hc])
   cases qz s' c.args.toList with
   |none=>rfl
   |some l=>simp only [hf]
  |builtin b=>
   cases qz s' c.args.toList with
   |none=>cases b<;>rfl
   |some l=>rcases l with _|⟨x,_|⟨y,_|⟨z,l⟩⟩⟩<;>cases b<;>rfl
end Go.Dw
namespace Go.Dw
theorem Ab:∀(u:Ups)(s s':St)(id:Nat),id∈u.map (·.1)->(s.ups u).boxes id=(s'.ups u).boxes id
 | [],_,_,_,h=>by simp at h
 |(i,b)::r,s,s',id,h=>by
  rw [pQ,pQ]
  by_cases hr:id∈r.map (·.1)
  ·exact Ab r _ _ id hr
  ·rw [pI _ _ _ hr,pI _ _ _ hr]
   have:id=i:=by simpa [hr]using h
   subst this
   show upd s.boxes id b id=upd s'.boxes id b id
   rw [nY,nY]
theorem qi(s:St)(d:Option Nat)(v:RV):(s.put d v).boxes=s.boxes:=by cases d<;>rfl
theorem St.ext'{s s':St}(h1:s.ou=s'.ou)(h2:s.boxes=s'.boxes):s=s':=by
 obtain⟨a,b⟩:=s
 obtain⟨c,d⟩:=s'
 simp only at h1 h2
 subst h1;subst h2
 rfl
theorem xk{s:St}{u1 u2:Ups}{d1 d2:Option Nat}{v1 v2:RV}(hu:disj (u1.map (·.1)) (u2.map (·.1))=true)(hd:∀d,d1=some d->d2≠some d):
  ((((s.ups u1).put d1 v1).ups u2).put d2 v2)=((((s.ups u2).put d2 v2).ups u1).put d1 v1):=by
 have hu:=tQ hu
 refine St.ext' ?_ ?_
 ·cases d1 with
  |none=>
   cases d2 with
   |none=>simp only [St.put,p9]
   |some e=>simp only [St.put,p9]
  |some d=>
   cases d2 with
   |none=>simp only [St.put,p9]
   |some e=>
    have hne:d≠e:=fun he=>hd d rfl (he▸rfl)
    simp only [St.put,p9]
    funext t
    by_cases h1:t=d
    ·subst h1;simp [hne]
    ·by_cases h2:t=e
     ·subst h2;simp [h1]
     ·simp [h1,h2]
 ·rw [qi,qi]
  funext id
  by_cases h1:id∈u1.map (·.1)
  ·have h2:id∉u2.map (·.1):=hu id h1
   rw [pI _ _ _ h2,qi]
   rw [Ab u1 _ ((s.ups u2).put d2 v2) id h1]
  ·by_cases h2:id∈u2.map (·.1)
   ·rw [pI u1 _ _ h1,qi]
    rw [Ab u2 _ s id h2]
   ·rw [pI _ _ _ h2,qi,pI _ _ _ h1,pI _ _ _ h1,qi,pI _ _ _ h2]
section
variable {P:Program}{mt:Hf}{call:oB}{ops:Array Oper}
theorem rJ{o:Oper}{s s':St}{t:Tr}(h:p8 P mt call ops o s=some (s',t)):
  (n9 ops s o=some true∧∃v u,oE P mt call s o s.boxes=some ((v,u),t.rd,true)∧s'=(s.ups u).put o.dst v∧t.wr=u.map (·.1))∨
  (n9 ops s o=some false∧s'=s.put o.dst .undef∧t.rd=[]∧t.wr=[]):=by
 unfold p8 at h
 rcases hw:n9 ops s o with _|w
 ·simp [hw]at h
 simp only [hw]at h
 cases w with
 |true=>
  simp only [if_true]at h
  rcases he:oE P mt call s o s.boxes with _|⟨⟨v,u⟩,rd,c⟩
  ·simp [he]at h
  simp only [he]at h
  cases c with
  |true=>
   simp only [if_true,Option.some.injEq,Prod.mk.injEq]at h
   obtain⟨rfl,rfl⟩:=h
   exact .inl ⟨rfl,v,u,rfl,rfl,rfl⟩
  |false=>simp at h
 |false=>
  simp only [Bool.false_eq_true,if_false,Option.some.injEq,Prod.mk.injEq]at h
  obtain⟨rfl,rfl⟩:=h
  exact .inr ⟨rfl,rfl,rfl,rfl⟩
theorem vr{o:Oper}{s:St}{v:RV}{u:Ups}{rd:List Nat}(hw:n9 ops s o=some true)(he:oE P mt call s o s.boxes=some ((v,u),rd,true)):
  p8 P mt call ops o s=some ((s.ups u).put o.dst v,⟨rd,u.map (·.1)⟩):=by
 unfold p8;simp [hw,he]
theorem uH{o:Oper}{s:St}(hw:n9 ops s o=some false):p8 P mt call ops o s=some (s.put o.dst .undef,⟨[],[]⟩):=by
 unfold p8;simp [hw]
theorem rN{o:Oper}{s s':St}(h:∀t∈o.looksAt ops,s.ou t=s'.ou t):n9 ops s o=n9 ops s' o:=by
 unfold n9
 cases hg:o.guard with
 |none=>rfl
 |some g=>
  obtain⟨j,want⟩:=g
  simp only
  cases ht:(ops[j]?).bind (·.dst)with
  |none=>rfl
  |some t=>
   simp only
   rw [h t (by simp [Oper.looksAt,hg,ht])]
theorem wY{o:Oper}{s s':St}(h:∀t∈o.looksAt ops,s.ou t=s'.ou t):oE P mt call s o=oE P mt call s' o:=by
 refine zF o fun x hx=>?_
 cases x with
 |tmp t=>exact h t (List.mem_append_left _ (List.mem_filterMap.2 ⟨.tmp t,by simpa using hx,rfl⟩))
 |const v=>rfl
 |global g=>rfl
 |func f=>rfl
theorem zk{o:Oper}{s s1 s':St}{t:Tr}{d:Option Nat}{u:Ups}{v:RV}(h:p8 P mt call ops o s1=some (s',t))(hs:s1=(s.ups u).put d v)
  (hd:∀e,d=some e->e∉o.looksAt ops) (hu:disj (u.map (·.1)) t.rd=true):
  ∃v' u',t.wr=u'.map (·.1)∧s'=(s1.ups u').put o.dst v'∧p8 P mt call ops o s=some ((s.ups u').put o.dst v',t):=by
 have hregs:∀t∈o.looksAt ops,s1.ou t=s.ou t:=by
  intro t ht
  subst hs
  cases d with
  |none=>simp only [St.put,p9]
  |some e=>
   have:t≠e:=fun he=>hd e rfl (he▸ht)
   simp only [St.put,p9,this,if_false]
 have hu:=tQ hu
 rcases rJ h with⟨hw,v',u',he,h1,h2⟩|⟨hw,h1,h2,h3⟩
 ·have hw':n9 ops s o=some true:=by rw [<-rN hregs];exact hw
  have he':oE P mt call s o s.boxes=some ((v',u'),t.rd,true):=by
   rw [<-wY (P:=P) (mt:=mt) (call:=call) hregs]
   refine Lc.oE P mt call s1 o _ _ _ _ _ he fun id hid=>?_
   subst hs
   rw [qi,pI _ _ _ (fun hm=>hu id hm hid)]
  refine⟨v',u',h2,h1,?_⟩
  rw [vr hw' he']
  obtain⟨rd,wr⟩:=t
  simp only at h2
  rw [h2]
 ·have hw':n9 ops s o=some false:=by rw [<-rN hregs];exact hw
  refine⟨.undef,[],by rw [h3];rfl,h1,?_⟩
  rw [uH hw']
  obtain⟨rd,wr⟩:=t
  simp only at h2 h3
  rw [h2,h3]
  rfl
theorem commute{x y:Oper}{s s1 s2:St}{tx ty:Tr}(h1:p8 P mt call ops x s=some (s1,tx))(h2:p8 P mt call ops y s1=some (s2,ty))(hp:vN ops (x,tx) (y,ty)=true):
  ∃s3,p8 P mt call ops y s=some (s3,ty)∧p8 P mt call ops x s3=some (s2,tx):=by
 simp only [vN,Bool.and_eq_true]at hp
 obtain⟨⟨⟨hap,hd1⟩,hd2⟩,hd3⟩:=hp
 obtain⟨a1,a2,a3⟩:=Oper.apart_spec hap
 have hx:∃v u,s1=(s.ups u).put x.dst v∧tx.wr=u.map (·.1):=by
  rcases rJ h1 with⟨_,v,u,_,h3,h4⟩|⟨_,h3,_,h4⟩
  ·exact⟨v,u,h3,h4⟩
  ·exact⟨.undef,[],h3,by rw [h4];rfl⟩
 obtain⟨vx,ux,hs1,hwx⟩:=hx
 obtain⟨vy,uy,hwy,hs2,hy⟩:=zk h2 hs1 a1 (by rw [<-hwx];exact hd1)
 refine⟨_,hy,?_⟩
 have hregs:∀t∈x.looksAt ops,((s.ups uy).put y.dst vy).ou t=s.ou t:=by
  intro t ht
  cases hdy:y.dst with
  |none=>simp only [St.put,p9]
  |some e=>
   have:t≠e:=fun he=>a3 e hdy (he▸ht)
   simp only [St.put,p9,this,if_false]
 have hd2:=tQ hd2
 rcases rJ h1 with⟨hw,v,u,he,h3,h4⟩|⟨hw,h3,h4,h5⟩
 ·have hw':n9 ops ((s.ups uy).put y.dst vy) x=some true:=by rw [rN hregs];exact hw
  have he':oE P mt call ((s.ups uy).put y.dst vy) x ((s.ups uy).put y.dst vy).boxes=some ((v,u),tx.rd,true):=by
   rw [wY (P:=P) (mt:=mt) (call:=call) hregs]
   refine Lc.oE P mt call s x _ _ _ _ _ he fun id hid=>?_
   rw [qi,pI _ _ _ (fun hm=>hd2 id (by rw [hwy];exact hm) hid)]
  rw [vr hw' he',hs2,h3]
  rw [xk (by rw [<-h4, <-hwy];exact hd3) a2]
  obtain⟨rd,wr⟩:=tx
  simp only at h4
  rw [h4]
 ·have hw':n9 ops ((s.ups uy).put y.dst vy) x=some false:=by rw [rN hregs];exact hw
  rw [uH hw',hs2,h3]
  have:=xk (s:=s) (u1:=[]) (u2:=uy) (d1:=x.dst) (d2:=y.dst) (v1:= .undef) (v2:=vy) (by rfl) a2
  simp only [St.ups]at this
  rw [this]
  obtain⟨rd,wr⟩:=tx
  simp only at h4 h5
  rw [h4,h5]
theorem sr{o:Oper}{r:List Oper}{s sF:St}{ts:List Tr}(h:pK P mt call ops (o::r) s=some (sF,ts)):
  ∃s1 t ts',p8 P mt call ops o s=some (s1,t)∧pK P mt call ops r s1=some (sF,ts')∧ts=t::ts':=by
 unfold pK at h
 rcases h1:p8 P mt call ops o s with _|⟨s1,t⟩
 ·simp [h1]at h
 simp only [h1]at h
 rcases h2:pK P mt call ops r s1 with _|⟨s2,ts'⟩
 ·simp [h2]at h
 simp only [h2,Option.some.injEq,Prod.mk.injEq]at h
 exact⟨s1,t,ts',rfl,by rw [h2,h.1],h.2.symm⟩
theorem evOps_mk{o:Oper}{r:List Oper}{s s1 sF:St}{t:Tr}{ts:List Tr}(h1:p8 P mt call ops o s=some (s1,t))(h2:pK P mt call ops r s1=some (sF,ts)):
  pK P mt call ops (o::r) s=some (sF,t::ts):=by
 unfold pK;simp [h1,h2]
theorem wa:∀(l1:List (Oper×Tr)){o:Oper}{t:Tr}{l2:List (Oper×Tr)}{s sF:St},
  pK P mt call ops ((l1++(o,t)::l2).map (·.1)) s=some (sF,(l1++(o,t)::l2).map (·.2))->(∀x∈l1,vN ops x (o,t)=true)->
  ∃s1,p8 P mt call ops o s=some (s1,t)∧pK P mt call ops ((l1++l2).map (·.1)) s1=some (sF,(l1++l2).map (·.2))
 | [],o,t,l2,s,sF,h,_=>by
  simp only [List.nil_append,List.map_cons]at h
  obtain⟨s1,t',ts',h1,h2,h3⟩:=sr h
  cases h3
  exact⟨s1,h1,h2⟩
 |(x,tx)::l1,o,t,l2,s,sF,h,hp=>by
  simp only [List.cons_append,List.map_cons]at h
  obtain⟨s1,t',ts',h1,h2,h3⟩:=sr h
  cases h3
  obtain⟨s2,h4,h5⟩:=wa l1 h2 (fun y hy=>hp y (by simp [hy]))
  obtain⟨s3,h6,h7⟩:=commute h1 h4 (hp (x,tx) sm)
  exact⟨s3,h6,by simp only [List.cons_append,List.map_cons];exact evOps_mk h7 h5⟩
theorem wJ:∀(l:List Oper)(acc:List Nat)(i:Nat),i<acc.length->(wI l acc).getD i 0=acc.getD i 0
 | [],acc,i,_=>rfl
 |o::r,acc,i,h=>by
  rw [wI,wJ r _ i so]
  simp only [List.getD_eq_getElem?_getD]
  rw [List.getElem?_append_left h]
theorem w2(acc:List Nat):∀(es:List Edge)(b j:Nat),(es.foldl (fun b e=>if Region.binds .any e then b ||| (2 ^ e.on ||| acc.getD e.on 0)else b) b).testBit j=true->
  b.testBit j=true∨∃e∈es,Region.binds .any e=true∧(e.on=j∨(acc.getD e.on 0).testBit j=true)
 | [],b,j,h=>.inl h
 |e::es,b,j,h=>by
  simp only [List.foldl_cons]at h
  rcases w2 acc es _ j h with h1|⟨e',h1,h2,h3⟩
  ·by_cases hb:Region.binds .any e=true
   ·simp only [hb,if_true,Nat.testBit_or,Bool.or_eq_true,Nat.testBit_two_pow,decide_eq_true_eq]at h1
    rcases h1 with h1|h1|h1
    ·exact .inl h1
    ·exact .inr ⟨e,sm,hb,.inl h1⟩
    ·exact .inr ⟨e,sm,hb,.inr h1⟩
   ·simp only [hb]at h1;exact .inl h1
  ·exact .inr ⟨e',by simp [h1],h2,h3⟩
theorem vC:∀(l:List Oper)(acc:List Nat)(i:Nat)(o:Oper),l[i]? =some o->∀j,((wI l acc).getD (acc.length+i) 0).testBit j=true->
  ∃e∈o.after,Region.binds .any e=true∧(e.on=j∨(e.on<acc.length+i∧((wI l acc).getD e.on 0).testBit j=true))
 | [],acc,i,o,h,_,_=>by simp at h
 |x::r,acc,0,o,h,j,hj=>by
  simp only [List.getElem?_cons_zero,Option.some.injEq]at h
  subst h
  rw [wI,Nat.add_zero,wJ r _ acc.length sm]at hj
  simp only [List.getD_eq_getElem?_getD,List.getElem?_concat_length,Option.getD_some]at hj
  rcases w2 acc x.after.toList 0 j hj with h1|⟨e,h1,h2,h3⟩
  ·simp at h1
  ·refine⟨e,by simpa using h1,h2,?_⟩
   rcases h3 with h3|h3
   ·exact .inl h3
   ·by_cases hlt:e.on<acc.length
    ·refine .inr ⟨om,?_⟩
     rw [wI,wJ r _ e.on so]
     simp only [List.getD_eq_getElem?_getD]at h3⊢
     rw [List.getElem?_append_left hlt]
     exact h3
    ·rw [List.getD_eq_getElem?_getD,List.getElem?_eq_none om]at h3
     simp at h3
 |x::r,acc,i+1,o,h,j,hj=>by
  simp only [List.getElem?_cons_succ]at h
  rw [wI]at hj⊢
  have := vC r (acc ++ [x.after.toList.foldl (fun b e => if Region.binds .any e then b ||| (2 ^ e.on ||| acc.getD e.on 0) else b) 0]) i o h j (by
   simp only [List.length_append,List.length_singleton]
   rw [show acc.length+1+i=acc.length+(i+1)by omega]
   exact hj)
  simp only [List.length_append,List.length_singleton]at this
  rw [show acc.length+1+i=acc.length+(i+1)by omega]at this
  exact this
theorem zp{listed:Array Bool}(hclosed:∀(i:Nat)o,ops[i]? =some o->listed.getD i false=true->∀e∈o.after,Region.binds .any e=true->listed.getD e.on false=true)(hsz:listed.size=ops.size):
  ∀(n i:Nat)(o:Oper),i<=n->ops[i]? =some o->(∀e∈o.after,Region.binds .any e=true->listed.getD e.on false=true)->∀j,((wI ops.toList []).getD i 0).testBit j=true->listed.getD j false=true:=by
 intro n
 induction n with
 |zero=>
  intro i o hi ho he j hj
  have h0:i=0:=by omega
  subst h0
  obtain⟨e,h1,h2,h3⟩:=vC ops.toList [] 0 o (by simpa using ho) j (by simpa using hj)
  rcases h3 with rfl|⟨h3,_⟩
  ·exact he e h1 h2
  ·simp at h3
 |succ n ih=>
  intro i o hi ho he j hj
  obtain⟨e,h1,h2,h3⟩:=vC ops.toList [] i o (by simpa using ho) j (by simpa using hj)
  rcases h3 with rfl|⟨h3,h4⟩
  ·exact he e h1 h2
  ·simp only [List.length_nil,Nat.zero_add]at h3
   have hl:=he e h1 h2
   have hlt:e.on<ops.size:=by
    rcases Nat.lt_or_ge e.on listed.size with h|h
    ·omega
    ·simp [Array.getElem?_eq_none h]at hl
   have ho2:ops[e.on]? =some ops[e.on]:=Array.getElem?_eq_getElem hlt
   exact ih e.on _ om ho2 (hclosed e.on _ ho2 hl) j h4
end
end Go.Dw
