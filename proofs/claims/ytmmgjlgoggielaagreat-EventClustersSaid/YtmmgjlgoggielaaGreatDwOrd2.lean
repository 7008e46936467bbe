
import Derived.Test.YtmmgjlgoggielaaGreatDwOp

namespace Go.Dw
def Lc{α:Type}(m:M α):Prop:=∀b b' a r c,m b=some (a,r,c)->(∀id∈r,b' id=b id)->m b'=some (a,r,c)
theorem Lc.pure{α:Type}(a:α):Lc (M.pure a):=fun _ _ _ _ _ h _=>h
theorem Lc.hX{α:Type}(k:Bool)(a:α):Lc (M.hX k a):=fun _ _ _ _ _ h _=>h
theorem Lc.fail{α:Type}:Lc (M.fail:M α):=fun _ _ _ _ _ h _=>h
theorem Lc.get(id:Nat):Lc (M.get id):=by
 intro b b' a r c h hb
 obtain⟨h1,h2,h3⟩:=M.get_some h
 subst h2;subst h3
 simp [M.get,hb id sm,h1]
theorem Lc.nj(id:Nat):Lc (M.nj id):=by
 intro b b' a r c h hb
 obtain⟨h1,h2,h3⟩:=M.qH h
 subst h2;subst h3
 simp [M.nj,hb id sm,h1]
theorem Lc.bind{α β:Type}{m:M α}{f:α->M β}(hm:Lc m)(hf:∀a,Lc (f a)):Lc (M.bind m f):=by
 intro b b' x r c h hb
 unfold M.bind at h⊢
 rcases h1:m b with _|⟨a,r1,c1⟩
 ·simp [h1]at h
 simp only [h1]at h
 rcases h2:f a b with _|⟨y,r2,c2⟩
 ·simp [h2]at h
 simp only [h2,Option.some.injEq,Prod.mk.injEq]at h
 obtain⟨rfl,rfl,rfl⟩:=h
 rw [hm b b' a r1 c1 h1 (fun id hid=>hb id (List.mem_append.2 (.inl hid)))]
 simp only [hf a b b' y r2 c2 h2 (fun id hid=>hb id (List.mem_append.2 (.inr hid)))]
theorem Lc.qN(v:RV):Lc (qN v):=Lc.pure _
theorem Lc.lD(k:Bool)(v:RV):Lc (lD k v):=Lc.hX _ _
theorem Lc.uQ(o:Option (PD×Bool)):Lc (uQ o):=by unfold Dw.uQ;split<;>first|exact Lc.hX _ _|exact Lc.fail
theorem Lc.vT(v:RV):Lc (vT v):=by
 unfold Dw.vT
 split<;>first|exact Lc.pure _|exact Lc.fail|skip
 all_goals refine Lc.bind (Lc.get _) fun bx=>?_
 all_goals (split<;>first|exact Lc.fail|skip)
 all_goals (split<;>first|exact Lc.pure _|exact Lc.hX _ _|exact Lc.fail)
theorem Lc.tM:∀(cs:List RV),Lc (tM cs)
 | []=>Lc.pure _
 |c::cs=>Lc.bind (Lc.vT c) fun _=>Lc.bind (Lc.tM cs) fun _=>Lc.pure _
theorem Lc.tf(v:RV):Lc (tf v):=by
 unfold Dw.tf
 split
 ·exact Lc.bind (Lc.tM _) fun _=>Lc.pure _
 ·exact Lc.vT _
section
variable (P:Program)
theorem Lc.th(t:TypeId)(cs:List PD):Lc (th P t cs):=by
 unfold Dw.th
 split<;>first|exact Lc.fail|exact Lc.lD _ _|skip
 split<;>first|exact Lc.fail|exact Lc.qN _
theorem Lc.sq(t:TypeId)(cs:List RV)(o:Nat):Lc (sq P t cs o):=by
 unfold Dw.sq
 split<;>first|exact Lc.fail|exact Lc.lD _ _|skip
 split<;>first|exact Lc.fail|exact Lc.qN _
theorem Lc.tl(t:TypeId)(a:RV):Lc (tl P t a):=by
 unfold Dw.tl
 split
 ·exact Lc.th P t _
 ·refine Lc.bind (Lc.get _) fun bx=>?_
  split<;>first|exact Lc.sq P t _ _|exact Lc.fail
 ·refine Lc.bind (Lc.get _) fun bx=>?_
  split<;>first|exact Lc.fail|skip
  ·split<;>first|exact Lc.fail|skip
   split<;>first|exact Lc.fail|exact Lc.th P t _
  ·split<;>first|exact Lc.fail|skip
   split<;>first|exact Lc.fail|exact Lc.qN _
 ·exact Lc.fail
theorem Lc.tW(t:TypeId)(a v:RV):Lc (tW P t a v):=by
 unfold Dw.tW
 split<;>first|exact Lc.fail|skip
 split
 ·refine Lc.bind (Lc.get _) fun bx=>?_
  split<;>first|exact Lc.hX _ _|exact Lc.fail|skip
 ·refine Lc.bind (Lc.get _) fun bx=>?_
  split<;>first|exact Lc.fail|skip
  ·split<;>first|exact Lc.fail|skip
   refine Lc.bind (Lc.tf _) fun p=>?_
   obtain⟨p,u⟩:=p
   dsimp only
   split<;>first|exact Lc.fail|skip
   split<;>first|exact Lc.fail|exact Lc.hX _ _
  ·exact iteInduction (motive:=Lc) (fun _=>Lc.hX _ _) (fun _=>Lc.fail)
 ·exact Lc.fail
theorem Lc.vS(off:Nat)(x:RV):Lc (vS off x):=by
 unfold Dw.vS
 split
 ·refine Lc.bind (Lc.get _) fun bx=>?_
  split<;>first|exact Lc.qN _|exact Lc.fail
 ·refine Lc.bind (Lc.get _) fun bx=>?_
  split<;>first|exact Lc.fail|skip
  split<;>first|exact Lc.qN _|exact Lc.fail
 ·exact Lc.qN _
 ·exact Lc.fail
theorem Lc.sa(t:TypeId)(x:RV)(f:Nat):Lc (sa P t x f):=by
 unfold Dw.sa
 split<;>first|exact Lc.fail|skip
 split<;>first|exact Lc.fail|exact Lc.vS _ _
theorem Lc.v7(t:TypeId)(x:RV)(f:Nat):Lc (v7 P t x f):=by
 unfold Dw.v7
 split<;>first|exact Lc.fail|exact Lc.sq P _ _ _
theorem Lc.wa(x i:RV):Lc (wa x i):=by
 unfold Dw.wa
 repeat' split
 all_goals first|exact Lc.lD _ _|exact Lc.fail
theorem Lc.w3(len:Nat)(e:TypeId)(x i:RV):Lc (w3 P len e x i):=by
 unfold Dw.w3
 repeat' split
 all_goals first|exact Lc.bind (Lc.hX _ _) fun _=>Lc.sq _ _ _ _|exact Lc.fail
theorem Lc.u9(t:TypeId)(x i:RV):Lc (u9 P t x i):=by
 unfold Dw.u9
 repeat' split
 all_goals first|exact Lc.wa _ _|exact Lc.w3 _ _ _ _ _|exact Lc.fail
theorem Lc.qM(t:TypeId)(x i:RV):Lc (qM P t x i):=by
 unfold Dw.qM
 split
 ·split<;>first|exact Lc.fail|skip
  split<;>first|exact Lc.fail|exact Lc.lD _ _|skip
  all_goals refine Lc.bind (Lc.get _) fun bx=>?_
  all_goals (split<;>first|exact Lc.fail|exact Lc.lD _ _|skip)
  all_goals (split<;>first|exact Lc.fail|exact Lc.lD _ _)
 ·split<;>first|exact Lc.fail|skip
  exact Lc.bind (Lc.hX _ _) fun _=>Lc.vS _ _
 ·exact Lc.fail
theorem Lc.sliceB(e:TypeId)(id ver a b:Nat)(lo hi:Option RV):Lc (sliceB P e id ver a b lo hi):=by
 unfold Dw.sliceB
 split<;>first|exact Lc.fail|skip
 refine Lc.bind (Lc.get _) fun bx=>?_
 split<;>first|exact Lc.fail|skip
 split<;>first|exact Lc.fail|exact Lc.lD _ _
theorem Lc.xi(nid:Nat)(e:TypeId)(n:Nat)(lo hi mx:Option RV):Lc (xi P nid e n lo hi mx):=by
 unfold Dw.xi
 split<;>first|exact Lc.fail|skip
 split<;>first|exact Lc.fail|exact Lc.bind (Lc.nj _) fun _=>Lc.hX _ _
theorem Lc.wi(id:Nat)(a:TypeId):Lc (wi P id a):=by
 unfold Dw.wi
 split<;>first|exact Lc.fail|skip
 split<;>first|exact Lc.fail|skip
 refine Lc.bind (Lc.get _) fun bx=>?_
 split<;>first|exact Lc.fail|skip
 split<;>first|exact Lc.fail|skip
 split<;>first|exact Lc.fail|exact Lc.hX _ _
theorem Lc.wk(e:TypeId)(id ver:Nat)(lo hi:Option RV)(mx:RV):Lc (wk P e id ver lo hi mx):=by
 unfold Dw.wk
 split<;>first|exact Lc.fail|skip
 split<;>first|exact Lc.fail|skip
 refine Lc.bind (Lc.get _) fun bx=>?_
 split<;>first|exact Lc.fail|skip
 split<;>first|exact Lc.fail|exact Lc.hX _ _
theorem Lc.wj(a:TypeId)(cs:List PD):Lc (wj P a cs):=by
 unfold Dw.wj
 split<;>first|exact Lc.fail|skip
 split<;>first|exact Lc.fail|skip
 split<;>first|exact Lc.fail|exact Lc.hX _ _
theorem Lc.yh(e:TypeId)(es:List PD)(h m:Int):Lc (yh P e es h m):=by
 unfold Dw.yh
 split<;>first|exact Lc.fail|skip
 split<;>first|exact Lc.fail|exact Lc.hX _ _
theorem Lc.xB(t:TypeId)(x:RV)(lo hi mx:Option RV):Lc (xB P t x lo hi mx):=by
 unfold Dw.xB
 split<;>first|exact Lc.fail|exact Lc.yh P _ _ _ _|skip
 split<;>first|exact Lc.fail|skip
 refine Lc.bind (Lc.get _) fun bx=>?_
 split<;>first|exact Lc.fail|skip
 split<;>first|exact Lc.fail|exact Lc.hX _ _
theorem Lc.rp(nid:Nat)(t:TypeId)(x:RV)(lo hi mx:Option RV):Lc (rp P nid t x lo hi mx):=by
 unfold Dw.rp
 split
 ·refine Lc.bind (Lc.get _) fun bx=>?_
  split<;>first|exact Lc.fail|exact Lc.sliceB P _ _ _ _ _ _ _
 ·exact Lc.sliceB P _ _ _ _ _ _ _
 ·split<;>first|exact Lc.fail|exact Lc.wi P _ _
 ·split<;>first|exact Lc.fail|exact Lc.wj P _ _
 ·split<;>first|exact Lc.fail|(split<;>first|exact Lc.pure _|exact Lc.fail)
 ·exact Lc.xi P _ _ _ _ _ _
 ·exact Lc.wk P _ _ _ _ _ _
 all_goals first|exact Lc.fail|(split<;>first|exact Lc.fail|exact Lc.lD _ _)
theorem Lc.vZ(t:TypeId)(l:List (Nat×RV)):Lc (vZ P t l):=by
 unfold Dw.vZ
 split
 ·split<;>first|exact Lc.fail|skip
  split<;>first|exact Lc.fail|exact Lc.lD _ _
 ·split<;>first|exact Lc.fail|skip
  split<;>first|exact Lc.fail|exact Lc.lD _ _
 ·exact Lc.fail
theorem Lc.wb(mt:Bool)(cs:List RV):Lc (wb mt cs):=by
 unfold Dw.wb
 split
 ·exact Lc.pure _
 ·exact Lc.tM _
theorem Lc.rA(mt:Bool)(id:Nat)(t:TypeId)(len:Nat)(l:List (Nat×RV)):Lc (rA P mt id t len l):=by
 unfold Dw.rA
 split<;>first|exact Lc.fail|skip
 split<;>first|exact Lc.fail|skip
 split<;>first|exact Lc.fail|skip
 split<;>first|exact Lc.fail|skip
 refine Lc.bind (Lc.wb _ _) fun p=>?_
 obtain⟨ps,u⟩:=p
 dsimp only
 split
 ·exact Lc.bind (Lc.nj _) fun _=>Lc.hX _ _
 ·exact Lc.hX _ _
theorem Lc.vW(id:Nat)(t:TypeId):Lc (vW P id t):=by
 unfold Dw.vW
 split<;>first|exact Lc.fail|exact Lc.bind (Lc.nj _) fun _=>Lc.pure _
theorem Lc.boxD(id:Nat)(v:RV):Lc (boxD id v):=Lc.bind (Lc.nj _) fun _=>Lc.hX _ _
theorem Lc.w7(t:TypeId)(x:RV):Lc (w7 P t x):=by
 unfold Dw.w7
 split<;>first|exact Lc.fail|exact Lc.qN _|skip
 all_goals refine Lc.bind (Lc.get _) fun bx=>?_
 all_goals (split<;>first|exact Lc.fail|exact Lc.qN _|skip)
 all_goals (split<;>first|exact Lc.fail|exact Lc.qN _|exact Lc.lD _ _)
theorem Lc.qI(x:RV):Lc (qI x):=by
 unfold Dw.qI
 split<;>first|exact Lc.fail|exact Lc.pure _|skip
 all_goals refine Lc.bind (Lc.get _) fun bx=>?_
 all_goals (split<;>first|exact Lc.fail|skip)
 all_goals (split<;>first|exact Lc.fail|exact Lc.pure _|exact Lc.hX _ _)
theorem Lc.rm(id:Nat)(t t':TypeId)(s x:RV):Lc (rm P id t t' s x):=by
 unfold Dw.rm
 split<;>first|exact Lc.fail|skip
 split<;>first|exact Lc.fail|skip
 split<;>first|exact Lc.fail|skip
 refine Lc.bind (Lc.qI _) fun xs=>?_
 split
 ·exact Lc.bind (Lc.nj _) fun _=>Lc.hX _ _
 ·refine Lc.bind (Lc.get _) fun bx=>?_
  split<;>first|exact Lc.fail|skip
  all_goals (split<;>first|exact Lc.fail|exact Lc.hX _ _)
 ·refine Lc.bind (Lc.get _) fun bx=>?_
  split<;>first|exact Lc.fail|skip
  split<;>first|exact Lc.fail|exact Lc.hX _ _
 ·exact Lc.hX _ _
 ·exact Lc.fail
theorem Lc.wE(x:RV):Lc (wE x):=by
 unfold Dw.wE
 split<;>first|exact Lc.fail|skip
 all_goals refine Lc.bind (Lc.get _) fun bx=>?_
 all_goals (split<;>first|exact Lc.fail|skip)
 all_goals (split<;>first|exact Lc.fail|exact Lc.pure _|exact Lc.hX _ _)
theorem Lc.vO(t:TypeId)(x y:RV):Lc (vO P t x y):=by
 unfold Dw.vO
 split<;>first|exact Lc.fail|skip
 split<;>first|exact Lc.fail|skip
 exact Lc.bind (Lc.wE _) fun _=>Lc.bind (Lc.qI _) fun _=>Lc.hX _ _
theorem Lc.tR(t:TypeId)(x:RV):Lc (tR P t x):=by
 unfold Dw.tR
 split<;>first|exact Lc.fail|skip
 split<;>first|exact Lc.fail|skip
 exact Lc.bind (Lc.wE _) fun _=>Lc.hX _ _
theorem Lc.minD(l:List RV):Lc (minD l):=by
 unfold Dw.minD
 split<;>first|exact Lc.fail|skip
 split<;>first|exact Lc.fail|exact Lc.pure _
theorem Lc.maxD(l:List RV):Lc (maxD l):=by
 unfold Dw.maxD
 split<;>first|exact Lc.fail|skip
 split<;>first|exact Lc.fail|exact Lc.pure _
theorem Lc.argD(by_:Bool)(v:RV):Lc (argD by_ v):=by
 unfold Dw.argD
 split<;>first|exact Lc.pure _|exact Lc.bind (Lc.tf _) fun _=>Lc.hX _ _|(split<;>first|exact Lc.pure _|exact Lc.bind (Lc.tf _) fun _=>Lc.pure _|exact Lc.bind (Lc.tf _) fun _=>Lc.hX _ _)
theorem Lc.uY(by_:Nat->Bool):∀(i:Nat)(l:List RV),Lc (uY by_ i l)
 |_,[]=>Lc.pure _
 |i,v::r=>Lc.bind (Lc.argD _ v) fun _=>Lc.bind (Lc.uY by_ (i+1) r) fun _=>Lc.pure _
theorem Lc.ss:∀(n:Nat)(done todo:List Nat),Lc (ss n done todo)
 |0,_,_=>Lc.fail
 |_+1,_,[]=>Lc.pure _
 |n+1,done,i::todo=>by
  unfold Dw.ss
  split
  ·exact Lc.ss n _ _
  ·exact Lc.bind (Lc.get _) fun _=>Lc.ss n _ _
theorem Lc.uP:∀(l:List Nat),Lc (uP l)
 | []=>Lc.pure _
 |_::r=>Lc.bind (Lc.get _) fun _=>Lc.bind (Lc.uP r) fun _=>Lc.pure _
theorem Lc.rY:∀(l:List Nat),Lc (rY l)
 | []=>Lc.pure _
 |_::r=>Lc.bind (Lc.nj _) fun _=>Lc.rY r
theorem Lc.sf(by_:FuncId->Nat->Bool)(call:kp)(f:FuncId)(base:Nat)(l:List RV):Lc (sf by_ call f base l):=by
 unfold Dw.sf
 refine Lc.bind (Lc.uY _ _ _) fun x=>Lc.bind (Lc.ss _ _ _) fun ids=>Lc.bind (Lc.uP _) fun bxs=>?_
 split<;>first|exact Lc.fail|skip
 split<;>first|exact Lc.fail|exact Lc.bind (Lc.rY _) fun _=>Lc.pure _
theorem Lc.uO(id:Nat)(src dst:TypeId)(x:RV):Lc (uO P id src dst x):=by
 unfold Dw.uO
 split
 ·split<;>first|exact Lc.fail|exact Lc.bind (Lc.nj _) fun _=>Lc.hX _ _
 ·split<;>first|exact Lc.fail|skip
  refine Lc.bind (Lc.get _) fun bx=>?_
  split<;>first|exact Lc.fail|skip
  refine iteInduction (motive:=Lc) (fun _=>?_) (fun _=>Lc.fail)
  split<;>first|exact Lc.fail|exact Lc.qN _
 ·split<;>first|exact Lc.fail|skip
  split<;>first|exact Lc.fail|exact Lc.qN _
 ·exact Lc.uQ _
theorem Lc.rn(id:Nat)(t:TypeId)(l c:RV):Lc (rn P id t l c):=by
 unfold Dw.rn
 split<;>first|exact Lc.fail|skip
 split<;>first|exact Lc.fail|exact Lc.bind (Lc.nj _) fun _=>Lc.hX _ _
theorem Lc.xl(id:Nat)(t t':TypeId)(a x:RV):Lc (xl P id t t' a x):=by
 unfold Dw.xl
 split<;>first|exact Lc.fail|skip
 split<;>first|exact Lc.fail|exact Lc.bind (Lc.nj _) fun _=>Lc.hX _ _
theorem Lc.capD(t:TypeId)(x:RV):Lc (capD P t x):=by
 unfold Dw.capD
 split<;>first|exact Lc.fail|exact Lc.qN _
theorem Lc.ifcD(t:TypeId)(x:RV):Lc (ifcD P t x):=by
 unfold Dw.ifcD
 split<;>first|exact Lc.fail|exact Lc.qN _
theorem Lc.uh(x:RV)(t:TypeId)(ok:Bool):Lc (uh P x t ok):=by
 unfold Dw.uh
 split<;>first|exact Lc.fail|skip
 exact iteInduction (motive:=Lc) (fun _=>Lc.qN _) (fun _=>Lc.fail)
theorem Lc.uz(mt:Hf)(call:kp)(base:Nat)(x:RV)(name:String)(as:List RV):Lc (uz P mt call base x name as):=by
 unfold Dw.uz
 split<;>first|exact Lc.fail|skip
 split<;>first|exact Lc.fail|exact Lc.sf _ _ _ _ _|skip
 exact Lc.bind (Lc.tl P _ _) fun _=>Lc.sf _ _ _ _ _
theorem Lc.kZ(mt:Hf)(call:kp)(s:St)(o:Oper):Lc (kZ P mt call s o):=by
 unfold Dw.kZ
 split
 all_goals (try exact Lc.fail)
 all_goals (try exact Lc.vW P _ _)
 all_goals (split<;>first|exact Lc.fail|exact Lc.qN _|exact Lc.ifcD P _ _|exact Lc.uh P _ _ _|exact Lc.boxD _ _|exact Lc.vZ P _ _|exact Lc.rA P _ _ _ _ _|exact Lc.tl P _ _|exact Lc.tW P _ _ _|exact Lc.vS _ _|exact Lc.uQ _|exact Lc.rp P _ _ _ _ _ _|exact Lc.sa P _ _ _|exact Lc.v7 P _ _ _|exact Lc.qM P _ _ _|exact Lc.u9 P _ _ _|exact Lc.minD _|exact Lc.maxD _|exact Lc.rn P _ _ _ _|exact Lc.uO P _ _ _ _|skip)
 all_goals (split<;>first|exact Lc.fail|exact Lc.qN _|exact Lc.uz P _ _ _ _ _ _|exact Lc.w7 P _ _|exact Lc.capD P _ _|exact Lc.rm P _ _ _ _ _|exact Lc.vO P _ _ _|exact Lc.tR P _ _|exact Lc.xB P _ _ _ _ _|exact Lc.rp P _ _ _ _ _ _|exact Lc.sf _ _ _ _ _|(split<;>first|exact Lc.fail|exact Lc.qN _|exact Lc.rm P _ _ _ _ _|exact Lc.xl P _ _ _ _ _))
end
theorem wg{s s':St}:∀{xs:List Operand},(∀x∈xs,s.opd x=s'.opd x)->rH s xs=rH s' xs
 | [],_=>rfl
 |x::xs,h=>by simp only [rH];rw [h x sm,wg fun y hy=>h y (by simp [hy])]
theorem tA{s s':St}:∀{xs:List (Nat×Operand)},(∀x∈xs.map (·.2),s.opd x=s'.opd x)->rq s xs=rq s' xs
 | [],_=>rfl
 |(i,x)::xs,h=>by simp only [rq];rw [h x sm,tA fun y hy=>h y (by simp only [List.map_cons,List.mem_cons];exact .inr hy)]
theorem uE{s s':St}{x:Option Operand}(h:∀y∈x.toArray,s.opd y=s'.opd y):qZ s x=qZ s' x:=by
 cases x with
 |none=>rfl
 |some y=>simp only [qZ];rw [h y sm]
theorem AL{P:Program}{mt:Hf}{call:kp}{s s':St}(o:Oper)(h:∀x∈o.op.operands,s.opd x=s'.opd x):kZ P mt call s o=kZ P mt call s' o:=by
 unfold kZ
 rcases hop:o.op with x|x|⟨c,x,y⟩|t|⟨t,x⟩|⟨t,parts⟩|⟨t,len,parts⟩|⟨t,m,k,x⟩|⟨t,x⟩|⟨t,x,y⟩|g|g|x|⟨op,t,x,y,t2⟩|⟨op,t,x⟩|⟨t,t2,x⟩|⟨t,x⟩|⟨t,x⟩|⟨fn,x,y⟩|⟨t,x⟩|⟨t,x⟩|⟨t,x,y⟩|⟨t,x,lo,hi,mx⟩|⟨t,x,f⟩|⟨t,x,f⟩|⟨t,x,y⟩|⟨t,x,y⟩|⟨t,x,y,c⟩|⟨t,x,y,c⟩|⟨t,x,y⟩|⟨t,x,y,c⟩|⟨t,x⟩|⟨x,b⟩|x|⟨x,t,t2,b⟩|⟨x,i⟩|c|c|c|x|⟨x,y⟩|⟨t,x,b⟩|⟨cs,b⟩
 all_goals (simp only [hop,Op.operands]at h)
 all_goals (try simp only)
 all_goals (try rw [h x sm])
 all_goals (try rw [h y sm])
 ·rw [h c sm]
 ·rw [tA fun x hx=>h x (by simpa using hx)]
 ·rw [tA fun x hx=>h x (by simpa using hx)]
 ·cases op<;>(try simp only)<;>rw [h x sm]
 ·rw [wg (s:=s) (s':=s') (xs:=y.toList) fun x hx=>h x (by simp only [Array.mem_append];exact .inr (by simpa using hx))]
  cases rH s' y.toList with
  |none=>rfl
  |some l=>
  rcases hx:x.toList with _|⟨x0,_|⟨x1,xs⟩⟩
  ·cases fn<;>rfl
  ·have h0:s.opd x0=s'.opd x0:=h x0 (by simp only [Array.mem_append];exact .inl (by rw [<-Array.mem_toList_iff,hx];exact List.mem_singleton.2 rfl))
   cases fn<;>first|rfl|(simp only [];rw [h0])
  ·cases fn<;>rfl
 ·rw [uE (x:=lo) fun y hy=>h y (by simp only [Array.mem_append];exact .inl (.inl (.inr hy))),uE (x:=hi) fun y hy=>h y (by simp only [Array.mem_append];exact .inl (.inr hy)),uE (x:=mx) fun y hy=>h y (by simp only [Array.mem_append];exact .inr hy)]
 ·have ha:rH s c.args.toList=rH s' c.args.toList:=wg fun x hx=>h x (by simp only [Call.operands,Array.mem_append];exact .inr (by simpa using hx))
  rw [ha]
  cases hc:c.callee with
  |value f=>
   have hf:s.opd f=s'.opd f:=h f (by simp [Call.operands,hc])
   cases rH s' c.args.toList with
   |none=>rfl
   |some l=>simp only [hf]
  |invoke rc m=>
   have hf:s.opd rc=s'.opd rc:=h rc (by simp [Call.operands,hc])
   cases rH s' c.args.toList with
   |none=>rfl
   |some l=>simp only [hf]
  |builtin b=>
   cases rH s' c.args.toList with
   |none=>cases b<;>rfl
   |some l=>rcases l with _|⟨x,_|⟨y,_|⟨z,l⟩⟩⟩<;>cases b<;>rfl
end Go.Dw
namespace Go.Dw
theorem A8:∀(u:Ups)(s s':St)(id:Nat),id∈u.map (·.1)->(s.ups u).boxes id=(s'.ups u).boxes id
 | [],_,_,_,h=>by simp at h
 |(i,b)::r,s,s',id,h=>by
  rw [rV,rV]
  by_cases hr:id∈r.map (·.1)
  ·exact A8 r _ _ id hr
  ·rw [rE _ _ _ hr,rE _ _ _ hr]
   have:id=i:=by simpa [hr]using h
   subst this
   show upd s.boxes id b id=upd s'.boxes id b id
   rw [ia,ia]
theorem sh(s:St)(d:Option Nat)(v:RV):(s.put d v).boxes=s.boxes:=by cases d<;>rfl
theorem St.ext'{s s':St}(h1:s.jD=s'.jD)(h2:s.boxes=s'.boxes):s=s':=by
 obtain⟨a,b⟩:=s
 obtain⟨c,d⟩:=s'
 simp only at h1 h2
 subst h1;subst h2
 rfl
theorem yx{s:St}{u1 u2:Ups}{d1 d2:Option Nat}{v1 v2:RV}(hu:disj (u1.map (·.1)) (u2.map (·.1))=true)(hd:∀d,d1=some d->d2≠some d):
  ((((s.ups u1).put d1 v1).ups u2).put d2 v2)=((((s.ups u2).put d2 v2).ups u1).put d1 v1):=by
 have hu:=vD hu
 refine St.ext' ?_ ?_
 ·cases d1 with
  |none=>
   cases d2 with
   |none=>simp only [St.put,rX]
   |some e=>simp only [St.put,rX]
  |some d=>
   cases d2 with
   |none=>simp only [St.put,rX]
   |some e=>
    have hne:d≠e:=fun he=>hd d rfl (he▸rfl)
    simp only [St.put,rX]
    funext t
    by_cases h1:t=d
    ·subst h1;simp [hne]
    ·by_cases h2:t=e
     ·subst h2;simp [h1]
     ·simp [h1,h2]
 ·rw [sh,sh]
  funext id
  by_cases h1:id∈u1.map (·.1)
  ·have h2:id∉u2.map (·.1):=hu id h1
   rw [rE _ _ _ h2,sh]
   rw [A8 u1 _ ((s.ups u2).put d2 v2) id h1]
  ·by_cases h2:id∈u2.map (·.1)
   ·rw [rE u1 _ _ h1,sh]
    rw [A8 u2 _ s id h2]
   ·rw [rE _ _ _ h2,sh,rE _ _ _ h1,rE _ _ _ h1,sh,rE _ _ _ h2]
section
variable {P:Program}{mt:Hf}{call:kp}{ops:Array Oper}
theorem tL{o:Oper}{s s':St}{t:Tr}(h:rU P mt call ops o s=some (s',t)):
  (gY ops s o=some true∧∃v u,kZ P mt call s o s.boxes=some ((v,u),t.rd,true)∧s'=(s.ups u).put o.dst v∧t.wr=u.map (·.1))∨
  (gY ops s o=some false∧s'=s.put o.dst .undef∧t.rd=[]∧t.wr=[]):=by
 unfold rU at h
 rcases hw:gY ops s o with _|w
 ·simp [hw]at h
 simp only [hw]at h
 cases w with
 |true=>
  simp only [if_true]at h
  rcases he:kZ P mt call s o s.boxes with _|⟨⟨v,u⟩,rd,c⟩
  ·simp [he]at h
  simp only [he]at h
  cases c with
  |true=>
   simp only [if_true,Option.some.injEq,Prod.mk.injEq]at h
   obtain⟨rfl,rfl⟩:=h
   exact .inl ⟨rfl,v,u,rfl,rfl,rfl⟩
  |false=>simp at h
 |false=>
  simp only [Bool.false_eq_true,if_false,Option.some.injEq,Prod.mk.injEq]at h
  obtain⟨rfl,rfl⟩:=h
  exact .inr ⟨rfl,rfl,rfl,rfl⟩
theorem wN{o:Oper}{s:St}{v:RV}{u:Ups}{rd:List Nat}(hw:gY ops s o=some true)(he:kZ P mt call s o s.boxes=some ((v,u),rd,true)):
  rU P mt call ops o s=some ((s.ups u).put o.dst v,⟨rd,u.map (·.1)⟩):=by
 unfold rU;simp [hw,he]
theorem wo{o:Oper}{s:St}(hw:gY ops s o=some false):rU P mt call ops o s=some (s.put o.dst .undef,⟨[],[]⟩):=by
 unfold rU;simp [hw]
theorem tN{o:Oper}{s s':St}(h:∀t∈o.looksAt ops,s.jD t=s'.jD t):gY ops s o=gY ops s' o:=by
 unfold gY
 cases hg:o.guard with
 |none=>rfl
 |some g=>
  obtain⟨j,want⟩:=g
  simp only
  cases ht:(ops[j]?).bind (·.dst)with
  |none=>rfl
  |some t=>
   simp only
   rw [h t (by simp [Oper.looksAt,hg,ht])]
theorem ye{o:Oper}{s s':St}(h:∀t∈o.looksAt ops,s.jD t=s'.jD t):kZ P mt call s o=kZ P mt call s' o:=by
 refine AL o fun x hx=>?_
 cases x with
 |tmp t=>exact h t (List.mem_append_left _ (List.mem_filterMap.2 ⟨.tmp t,by simpa using hx,rfl⟩))
 |const v=>rfl
 |global g=>rfl
 |func f=>rfl
theorem Aq{o:Oper}{s s1 s':St}{t:Tr}{d:Option Nat}{u:Ups}{v:RV}(h:rU P mt call ops o s1=some (s',t))(hs:s1=(s.ups u).put d v)
  (hd:∀e,d=some e->e∉o.looksAt ops) (hu:disj (u.map (·.1)) t.rd=true):
  ∃v' u',t.wr=u'.map (·.1)∧s'=(s1.ups u').put o.dst v'∧rU P mt call ops o s=some ((s.ups u').put o.dst v',t):=by
 have hregs:∀t∈o.looksAt ops,s1.jD t=s.jD t:=by
  intro t ht
  subst hs
  cases d with
  |none=>simp only [St.put,rX]
  |some e=>
   have:t≠e:=fun he=>hd e rfl (he▸ht)
   simp only [St.put,rX,this,if_false]
 have hu:=vD hu
 rcases tL h with⟨hw,v',u',he,h1,h2⟩|⟨hw,h1,h2,h3⟩
 ·have hw':gY ops s o=some true:=by rw [<-tN hregs];exact hw
  have he':kZ P mt call s o s.boxes=some ((v',u'),t.rd,true):=by
   rw [<-ye (P:=P) (mt:=mt) (call:=call) hregs]
   refine Lc.kZ P mt call s1 o _ _ _ _ _ he fun id hid=>?_
   subst hs
   rw [sh,rE _ _ _ (fun hm=>hu id hm hid)]
  refine⟨v',u',h2,h1,?_⟩
  rw [wN hw' he']
  obtain⟨rd,wr⟩:=t
  simp only at h2
  rw [h2]
 ·have hw':gY ops s o=some false:=by rw [<-tN hregs];exact hw
  refine⟨.undef,[],by rw [h3];rfl,h1,?_⟩
  rw [wo hw']
  obtain⟨rd,wr⟩:=t
  simp only at h2 h3
  rw [h2,h3]
  rfl
theorem commute{x y:Oper}{s s1 s2:St}{tx ty:Tr}(h1:rU P mt call ops x s=some (s1,tx))(h2:rU P mt call ops y s1=some (s2,ty))(hp:xe ops (x,tx) (y,ty)=true):
  ∃s3,rU P mt call ops y s=some (s3,ty)∧rU P mt call ops x s3=some (s2,tx):=by
 simp only [xe,Bool.and_eq_true]at hp
 obtain⟨⟨⟨hap,hd1⟩,hd2⟩,hd3⟩:=hp
 obtain⟨a1,a2,a3⟩:=Oper.apart_spec hap
 have hx:∃v u,s1=(s.ups u).put x.dst v∧tx.wr=u.map (·.1):=by
  rcases tL h1 with⟨_,v,u,_,h3,h4⟩|⟨_,h3,_,h4⟩
  ·exact⟨v,u,h3,h4⟩
  ·exact⟨.undef,[],h3,by rw [h4];rfl⟩
 obtain⟨vx,ux,hs1,hwx⟩:=hx
 obtain⟨vy,uy,hwy,hs2,hy⟩:=Aq h2 hs1 a1 (by rw [<-hwx];exact hd1)
 refine⟨_,hy,?_⟩
 have hregs:∀t∈x.looksAt ops,((s.ups uy).put y.dst vy).jD t=s.jD t:=by
  intro t ht
  cases hdy:y.dst with
  |none=>simp only [St.put,rX]
  |some e=>
   have:t≠e:=fun he=>a3 e hdy (he▸ht)
   simp only [St.put,rX,this,if_false]
 have hd2:=vD hd2
 rcases tL h1 with⟨hw,v,u,he,h3,h4⟩|⟨hw,h3,h4,h5⟩
 ·have hw':gY ops ((s.ups uy).put y.dst vy) x=some true:=by rw [tN hregs];exact hw
  have he':kZ P mt call ((s.ups uy).put y.dst vy) x ((s.ups uy).put y.dst vy).boxes=some ((v,u),tx.rd,true):=by
   rw [ye (P:=P) (mt:=mt) (call:=call) hregs]
   refine Lc.kZ P mt call s x _ _ _ _ _ he fun id hid=>?_
   rw [sh,rE _ _ _ (fun hm=>hd2 id (by rw [hwy];exact hm) hid)]
  rw [wN hw' he',hs2,h3]
  rw [yx (by rw [<-h4, <-hwy];exact hd3) a2]
  obtain⟨rd,wr⟩:=tx
  simp only at h4
  rw [h4]
 ·have hw':gY ops ((s.ups uy).put y.dst vy) x=some false:=by rw [tN hregs];exact hw
  rw [wo hw',hs2,h3]
  have:=yx (s:=s) (u1:=[]) (u2:=uy) (d1:=x.dst) (d2:=y.dst) (v1:= .undef) (v2:=vy) (by rfl) a2
  simp only [St.ups]at this
  rw [this]
  obtain⟨rd,wr⟩:=tx
  simp only at h4 h5
  rw [h4,h5]
theorem uk{o:Oper}{r:List Oper}{s sF:St}{ts:List Tr}(h:ry P mt call ops (o::r) s=some (sF,ts)):
  ∃s1 t ts',rU P mt call ops o s=some (s1,t)∧ry P mt call ops r s1=some (sF,ts')∧ts=t::ts':=by
 unfold ry at h
 rcases h1:rU P mt call ops o s with _|⟨s1,t⟩
 ·simp [h1]at h
 simp only [h1]at h
 rcases h2:ry P mt call ops r s1 with _|⟨s2,ts'⟩
 ·simp [h2]at h
 simp only [h2,Option.some.injEq,Prod.mk.injEq]at h
 exact⟨s1,t,ts',rfl,by rw [h2,h.1],h.2.symm⟩
theorem evOps_mk{o:Oper}{r:List Oper}{s s1 sF:St}{t:Tr}{ts:List Tr}(h1:rU P mt call ops o s=some (s1,t))(h2:ry P mt call ops r s1=some (sF,ts)):
  ry P mt call ops (o::r) s=some (sF,t::ts):=by
 unfold ry;simp [h1,h2]
theorem xv:∀(l1:List (Oper×Tr)){o:Oper}{t:Tr}{l2:List (Oper×Tr)}{s sF:St},
  ry P mt call ops ((l1++(o,t)::l2).map (·.1)) s=some (sF,(l1++(o,t)::l2).map (·.2))->(∀x∈l1,xe ops x (o,t)=true)->
  ∃s1,rU P mt call ops o s=some (s1,t)∧ry P mt call ops ((l1++l2).map (·.1)) s1=some (sF,(l1++l2).map (·.2))
 | [],o,t,l2,s,sF,h,_=>by
  simp only [List.nil_append,List.map_cons]at h
  obtain⟨s1,t',ts',h1,h2,h3⟩:=uk h
  cases h3
  exact⟨s1,h1,h2⟩
 |(x,tx)::l1,o,t,l2,s,sF,h,hp=>by
  simp only [List.cons_append,List.map_cons]at h
  obtain⟨s1,t',ts',h1,h2,h3⟩:=uk h
  cases h3
  obtain⟨s2,h4,h5⟩:=xv l1 h2 (fun y hy=>hp y (by simp [hy]))
  obtain⟨s3,h6,h7⟩:=commute h1 h4 (hp (x,tx) sm)
  exact⟨s3,h6,by simp only [List.cons_append,List.map_cons];exact evOps_mk h7 h5⟩
theorem xP:∀(l:List Oper)(acc:List Nat)(i:Nat),i<acc.length->(xO l acc).getD i 0=acc.getD i 0
 | [],acc,i,_=>rfl
 |o::r,acc,i,h=>by
  rw [xO,xP r _ i so]
  simp only [List.getD_eq_getElem?_getD]
  rw [List.getElem?_append_left h]
theorem yg(acc:List Nat):∀(es:List Edge)(b j:Nat),(es.foldl (fun b e=>if Region.binds .any e then b ||| (2 ^ e.on ||| acc.getD e.on 0)else b) b).testBit j=true->
  b.testBit j=true∨∃e∈es,Region.binds .any e=true∧(e.on=j∨(acc.getD e.on 0).testBit j=true)
 | [],b,j,h=>.inl h
 |e::es,b,j,h=>by
  simp only [List.foldl_cons]at h
  rcases yg acc es _ j h with h1|⟨e',h1,h2,h3⟩
  ·by_cases hb:Region.binds .any e=true
   ·simp only [hb,if_true,Nat.testBit_or,Bool.or_eq_true,Nat.testBit_two_pow,decide_eq_true_eq]at h1
    rcases h1 with h1|h1|h1
    ·exact .inl h1
    ·exact .inr ⟨e,sm,hb,.inl h1⟩
    ·exact .inr ⟨e,sm,hb,.inr h1⟩
   ·simp only [hb]at h1;exact .inl h1
  ·exact .inr ⟨e',by simp [h1],h2,h3⟩
theorem wT:∀(l:List Oper)(acc:List Nat)(i:Nat)(o:Oper),l[i]? =some o->∀j,((xO l acc).getD (acc.length+i) 0).testBit j=true->
  ∃e∈o.after,Region.binds .any e=true∧(e.on=j∨(e.on<acc.length+i∧((xO l acc).getD e.on 0).testBit j=true))
 | [],acc,i,o,h,_,_=>by simp at h
 |x::r,acc,0,o,h,j,hj=>by
  simp only [List.getElem?_cons_zero,Option.some.injEq]at h
  subst h
  rw [xO,Nat.add_zero,xP r _ acc.length sm]at hj
  simp only [List.getD_eq_getElem?_getD,List.getElem?_concat_length,Option.getD_some]at hj
  rcases yg acc x.after.toList 0 j hj with h1|⟨e,h1,h2,h3⟩
  ·simp at h1
  ·refine⟨e,by simpa using h1,h2,?_⟩
   rcases h3 with h3|h3
   ·exact .inl h3
   ·by_cases hlt:e.on<acc.length
    ·refine .inr ⟨za,?_⟩
     rw [xO,xP r _ e.on so]
     simp only [List.getD_eq_getElem?_getD]at h3⊢
     rw [List.getElem?_append_left hlt]
     exact h3
    ·rw [List.getD_eq_getElem?_getD,List.getElem?_eq_none za]at h3
     simp at h3
 |x::r,acc,i+1,o,h,j,hj=>by
  simp only [List.getElem?_cons_succ]at h
  rw [xO]at hj⊢
  have := wT r (acc ++ [x.after.toList.foldl (fun b e => if Region.binds .any e then b ||| (2 ^ e.on ||| acc.getD e.on 0) else b) 0]) i o h j (by
   simp only [List.length_append,List.length_singleton]
   rw [show acc.length+1+i=acc.length+(i+1)by omega]
   exact hj)
  simp only [List.length_append,List.length_singleton]at this
  rw [show acc.length+1+i=acc.length+(i+1)by omega]at this
  exact this
theorem Ax{listed:Array Bool}(hclosed:∀(i:Nat)o,ops[i]? =some o->listed.getD i false=true->∀e∈o.after,Region.binds .any e=true->listed.getD e.on false=true)(hsz:listed.size=ops.size):
  ∀(n i:Nat)(o:Oper),i<=n->ops[i]? =some o->(∀e∈o.after,Region.binds .any e=true->listed.getD e.on false=true)->∀j,((xO ops.toList []).getD i 0).testBit j=true->listed.getD j false=true:=by
 intro n
 induction n with
 |zero=>
  intro i o hi ho he j hj
  have h0:i=0:=by omega
  subst h0
  obtain⟨e,h1,h2,h3⟩:=wT ops.toList [] 0 o (by simpa using ho) j (by simpa using hj)
  rcases h3 with rfl|⟨h3,_⟩
  ·exact he e h1 h2
  ·simp at h3
 |succ n ih=>
  intro i o hi ho he j hj
  obtain⟨e,h1,h2,h3⟩:=wT ops.toList [] i o (by simpa using ho) j (by simpa using hj)
  rcases h3 with rfl|⟨h3,h4⟩
  ·exact he e h1 h2
  ·simp only [List.length_nil,Nat.zero_add]at h3
   have hl:=he e h1 h2
   have hlt:e.on<ops.size:=by
    rcases Nat.lt_or_ge e.on listed.size with h|h
    ·omega
    ·simp [Array.getElem?_eq_none h]at hl
   have ho2:ops[e.on]? =some ops[e.on]:=Array.getElem?_eq_getElem hlt
   exact ih e.on _ za ho2 (hclosed e.on _ ho2 hl) j h4
end
end Go.Dw
