
import Derived.Test.YthkfkgoddhehcaaGreatDwOp
set_option linter.unusedVariables false
set_option linter.unusedSimpArgs false
open Option.some renaming injEq->EC
open Prod.mk renaming injEq->EE
open List renaming cons_append->Fw, getD_eq_getElem?_getD->Fx, getElem?_append_left->ES, length_append->F0, length_singleton->Fy, map_cons->Fk
open Array renaming mem_append->Fz

namespace Go.Dw
def Lc{α:Type}(m:M α):Prop:=∀b b' a r c,m b=some (a,r,c)->(∀id∈r,b' id=b id)->m b'=some (a,r,c)
theorem Lc.pure{α:Type}(a:α):Lc (M.pure a):=λ_ _ _ _ _ h _=>h
theorem Lc.tL{α:Type}(k:Bool)(a:α):Lc (M.tL k a):=λ_ _ _ _ _ h _=>h
theorem Lc.fail{α:Type}:Lc (M.fail:M α):=λ_ _ _ _ _ h _=>h
theorem Lc.get(id:Nat):Lc (M.get id):=by
 intro b b' a r c h j
 obtain⟨h1,f,g⟩:=M.get_some h
 subst f;subst g
 simp [M.get,j id zb,h1]
theorem Lc.uj(id:Nat):Lc (M.uj id):=by
 intro b b' a r c h j
 obtain⟨h1,f,g⟩:=M.uD h
 subst f;subst g
 simp [M.uj,j id zb,h1]
theorem Lc.bind{α β:Type}{m:M α}{f:α->M β}(hm:Lc m)(hf:∀a,Lc (f a)):Lc (M.bind m f):=by
 intro b b' x r c h k
 unfold M.bind at h⊢
 rcases h1:m b with _|⟨a,q,l⟩
 ·simp [h1]at h
 simp only [h1]at h
 rcases j:f a b with _|⟨y,t,p⟩
 ·simp [j]at h
 simp only [j,EC,EE]at h
 obtain⟨rfl,rfl,rfl⟩:=h
 rw [hm b b' a q l h1 (λid g=>k id (List.mem_append.2 (.inl g)))]
 simp only [hf a b b' y t p j (λid g=>k id (List.mem_append.2 (.inr g)))]
theorem Lc.uB(v:RV):Lc (uB v):=Lc.pure _
theorem Lc.tZ(k:Bool)(v:RV):Lc (tZ k v):=Lc.tL _ _
theorem Lc.yg(o:Option (PD×Bool)):Lc (yg o):=by unfold Dw.yg;split<;>first|exact Lc.tL _ _|exact Lc.fail
theorem Lc.zf(v:RV):Lc (zf v):=by
 unfold Dw.zf
 split<;>first|exact Lc.pure _|exact Lc.fail|skip
 all_goals refine Lc.bind (Lc.get _) λa=>?_
 all_goals (split<;>first|exact Lc.fail|skip)
 all_goals (split<;>first|exact Lc.pure _|exact Lc.tL _ _|exact Lc.fail)
theorem Lc.xj:∀(cs:List RV),Lc (xj cs)
 | []=>Lc.pure _
 |c::cs=>Lc.bind (Lc.zf c) λ_=>Lc.bind (Lc.xj cs) λ_=>Lc.pure _
theorem Lc.wv(v:RV):Lc (wv v):=by
 unfold Dw.wv
 split
 ·exact Lc.bind (Lc.xj _) λ_=>Lc.pure _
 ·exact Lc.zf _
section
variable (P:Program)
theorem Lc.wC(t:TypeId)(cs:List PD):Lc (wC P t cs):=by
 unfold Dw.wC
 split<;>first|exact Lc.fail|exact Lc.tZ _ _|skip
 split<;>first|exact Lc.fail|exact Lc.uB _
theorem Lc.wk(t:TypeId)(cs:List RV)(o:Nat):Lc (wk P t cs o):=by
 unfold Dw.wk
 split<;>first|exact Lc.fail|exact Lc.tZ _ _|skip
 split<;>first|exact Lc.fail|exact Lc.uB _
theorem Lc.wg(t:TypeId)(a:RV):Lc (wg P t a):=by
 unfold Dw.wg
 split
 ·exact Lc.wC P t _
 ·split<;>first|exact Lc.fail|exact Lc.uB _
 ·refine Lc.bind (Lc.get _) λc=>?_
  split<;>first|exact Lc.wk P t _ _|exact Lc.fail
 ·refine Lc.bind (Lc.get _) λc=>?_
  split<;>first|exact Lc.fail|skip
  ·split<;>first|exact Lc.fail|skip
   split<;>first|exact Lc.fail|exact Lc.wC P t _
  ·split<;>first|exact Lc.fail|skip
   split<;>first|exact Lc.fail|exact Lc.uB _
 ·exact Lc.fail
theorem Lc.xr(t:TypeId)(a v:RV):Lc (xr P t a v):=by
 unfold Dw.xr
 split<;>first|exact Lc.fail|skip
 split
 ·refine Lc.bind (Lc.get _) λc=>?_
  split<;>first|exact Lc.tL _ _|exact Lc.fail|skip
 ·refine Lc.bind (Lc.get _) λc=>?_
  split<;>first|exact Lc.fail|skip
  ·split<;>first|exact Lc.fail|skip
   refine Lc.bind (Lc.wv _) λp=>?_
   obtain⟨p,u⟩:=p
   dsimp only
   split<;>first|exact Lc.fail|skip
   split<;>first|exact Lc.fail|exact Lc.tL _ _
  ·exact iteInduction (motive:=Lc) (λ_=>Lc.tL _ _) (λ_=>Lc.fail)
 ·exact Lc.fail
theorem Lc.yZ(off:Nat)(x:RV):Lc (yZ off x):=by
 unfold Dw.yZ
 split
 ·refine Lc.bind (Lc.get _) λa=>?_
  split<;>first|exact Lc.uB _|exact Lc.fail
 ·refine Lc.bind (Lc.get _) λa=>?_
  split<;>first|exact Lc.fail|skip
  all_goals (split<;>first|exact Lc.uB _|exact Lc.fail)
 ·exact Lc.uB _
 ·exact Lc.fail
theorem Lc.vQ(t:TypeId)(x:RV)(f:Nat):Lc (vQ P t x f):=by
 unfold Dw.vQ
 split<;>first|exact Lc.fail|skip
 split<;>first|exact Lc.fail|exact Lc.yZ _ _
theorem Lc.zk(t:TypeId)(x:RV)(f:Nat):Lc (zk P t x f):=by
 unfold Dw.zk
 split<;>first|exact Lc.fail|exact Lc.wk P _ _ _
theorem Lc.zn(x i:RV):Lc (zn x i):=by
 unfold Dw.zn
 repeat' split
 all_goals first|exact Lc.tZ _ _|exact Lc.fail
theorem Lc.Ao(len:Nat)(e:TypeId)(x i:RV):Lc (Ao P len e x i):=by
 unfold Dw.Ao
 repeat' split
 all_goals first|exact Lc.bind (Lc.tL _ _) λ_=>Lc.wk _ _ _ _|exact Lc.fail
theorem Lc.yu(t:TypeId)(x i:RV):Lc (yu P t x i):=by
 unfold Dw.yu
 repeat' split
 all_goals first|exact Lc.zn _ _|exact Lc.Ao _ _ _ _ _|exact Lc.fail
theorem Lc.uG(t:TypeId)(x i:RV):Lc (uG P t x i):=by
 unfold Dw.uG
 split
 ·split<;>first|exact Lc.fail|skip
  split<;>first|exact Lc.fail|exact Lc.tZ _ _|skip
  all_goals refine Lc.bind (Lc.get _) λa=>?_
  all_goals (split<;>first|exact Lc.fail|exact Lc.tZ _ _|skip)
  all_goals (split<;>first|exact Lc.fail|exact Lc.tZ _ _)
 ·split<;>first|exact Lc.fail|skip
  exact Lc.bind (Lc.tL _ _) λ_=>Lc.yZ _ _
 ·exact Lc.fail
theorem Lc.sliceB(e:TypeId)(id ver a b:Nat)(lo hi:Option RV):Lc (sliceB P e id ver a b lo hi):=by
 unfold Dw.sliceB
 split<;>first|exact Lc.fail|skip
 refine Lc.bind (Lc.get _) λc=>?_
 split<;>first|exact Lc.fail|skip
 split<;>first|exact Lc.fail|exact Lc.tZ _ _
theorem Lc.AB(a:Nat)(e:TypeId)(n:Nat)(lo hi mx:Option RV):Lc (AB P a e n lo hi mx):=by
 unfold Dw.AB
 split<;>first|exact Lc.fail|skip
 split<;>first|exact Lc.fail|exact Lc.bind (Lc.uj _) λ_=>Lc.tL _ _
theorem Lc.zx(id:Nat)(a:TypeId):Lc (zx P id a):=by
 unfold Dw.zx
 split<;>first|exact Lc.fail|skip
 split<;>first|exact Lc.fail|skip
 refine Lc.bind (Lc.get _) λc=>?_
 split<;>first|exact Lc.fail|skip
 split<;>first|exact Lc.fail|skip
 split<;>first|exact Lc.fail|exact Lc.tL _ _
theorem Lc.zz(a:TypeId)(cs:List PD):Lc (zz P a cs):=by
 unfold Dw.zz
 split<;>first|exact Lc.fail|skip
 split<;>first|exact Lc.fail|skip
 split<;>first|exact Lc.fail|exact Lc.tL _ _
theorem Lc.AS(t:TypeId)(x:RV)(lo hi mx:Option RV):Lc (AS P t x lo hi mx):=by
 unfold Dw.AS
 split<;>first|exact Lc.fail|skip
 split<;>first|exact Lc.fail|skip
 refine Lc.bind (Lc.get _) λa=>?_
 split<;>first|exact Lc.fail|skip
 split<;>first|exact Lc.fail|exact Lc.tL _ _
theorem Lc.u6(a:Nat)(t:TypeId)(x:RV)(lo hi mx:Option RV):Lc (u6 P a t x lo hi mx):=by
 unfold Dw.u6
 split
 ·refine Lc.bind (Lc.get _) λc=>?_
  split<;>first|exact Lc.fail|exact Lc.sliceB P _ _ _ _ _ _ _
 ·exact Lc.sliceB P _ _ _ _ _ _ _
 ·split<;>first|exact Lc.fail|exact Lc.zx P _ _
 ·split<;>first|exact Lc.fail|exact Lc.zz P _ _
 ·split<;>first|exact Lc.fail|(split<;>first|exact Lc.pure _|exact Lc.fail)
 ·exact Lc.AB P _ _ _ _ _ _
 all_goals first|exact Lc.fail|(split<;>first|exact Lc.fail|exact Lc.tZ _ _)
theorem Lc.yp(t:TypeId)(l:List (Nat×RV)):Lc (yp P t l):=by
 unfold Dw.yp
 split
 ·split<;>first|exact Lc.fail|skip
  split<;>first|exact Lc.fail|exact Lc.tZ _ _
 ·split<;>first|exact Lc.fail|skip
  split<;>first|exact Lc.fail|exact Lc.tZ _ _
 ·exact Lc.fail
theorem Lc.zo(mt:Bool)(cs:List RV):Lc (zo mt cs):=by
 unfold Dw.zo
 split
 ·exact Lc.pure _
 ·exact Lc.xj _
theorem Lc.vj(mt:Bool)(id:Nat)(t:TypeId)(len:Nat)(l:List (Nat×RV)):Lc (vj P mt id t len l):=by
 unfold Dw.vj
 split<;>first|exact Lc.fail|skip
 split<;>first|exact Lc.fail|skip
 split<;>first|exact Lc.fail|skip
 split<;>first|exact Lc.fail|skip
 refine iteInduction (motive:=Lc) (λ_=>Lc.tL _ _) (λ_=>?_)
 refine Lc.bind (Lc.zo _ _) λp=>?_
 obtain⟨a,u⟩:=p
 dsimp only
 split
 ·exact Lc.bind (Lc.uj _) λ_=>Lc.tL _ _
 ·exact Lc.tL _ _
theorem Lc.zh(id:Nat)(t:TypeId):Lc (zh P id t):=by
 unfold Dw.zh
 split<;>first|exact Lc.fail|exact Lc.bind (Lc.uj _) λ_=>Lc.pure _
theorem Lc.boxD(id:Nat)(v:RV):Lc (boxD id v):=Lc.bind (Lc.uj _) λ_=>Lc.tL _ _
theorem Lc.Ar(t:TypeId)(x:RV):Lc (Ar P t x):=by
 unfold Dw.Ar
 split<;>first|exact Lc.fail|exact Lc.uB _|skip
 all_goals refine Lc.bind (Lc.get _) λa=>?_
 all_goals (split<;>first|exact Lc.fail|exact Lc.uB _|skip)
 all_goals (split<;>first|exact Lc.fail|exact Lc.uB _|exact Lc.tZ _ _)
theorem Lc.uF(x:RV):Lc (uF x):=by
 unfold Dw.uF
 split<;>first|exact Lc.fail|exact Lc.pure _|skip
 all_goals refine Lc.bind (Lc.get _) λa=>?_
 all_goals (split<;>first|exact Lc.fail|skip)
 all_goals (split<;>first|exact Lc.fail|exact Lc.pure _|exact Lc.tL _ _)
theorem Lc.uV(id:Nat)(t t':TypeId)(s x:RV):Lc (uV P id t t' s x):=by
 unfold Dw.uV
 split<;>first|exact Lc.fail|skip
 split<;>first|exact Lc.fail|skip
 split<;>first|exact Lc.fail|skip
 refine Lc.bind (Lc.uF _) λxs=>?_
 split
 ·exact Lc.bind (Lc.uj _) λ_=>Lc.tL _ _
 ·refine Lc.bind (Lc.get _) λa=>?_
  split<;>first|exact Lc.fail|skip
  all_goals (split<;>first|exact Lc.fail|exact Lc.tL _ _)
 ·exact Lc.fail
theorem Lc.zR(x:RV):Lc (zR x):=by
 unfold Dw.zR
 split<;>first|exact Lc.fail|skip
 all_goals refine Lc.bind (Lc.get _) λa=>?_
 all_goals (split<;>first|exact Lc.fail|skip)
 all_goals (split<;>first|exact Lc.fail|exact Lc.pure _|exact Lc.tL _ _)
theorem Lc.yW(t:TypeId)(x y:RV):Lc (yW P t x y):=by
 unfold Dw.yW
 split<;>first|exact Lc.fail|skip
 split<;>first|exact Lc.fail|skip
 exact Lc.bind (Lc.zR _) λ_=>Lc.bind (Lc.uF _) λ_=>Lc.tL _ _
theorem Lc.xn(t:TypeId)(x:RV):Lc (xn P t x):=by
 unfold Dw.xn
 split<;>first|exact Lc.fail|skip
 split<;>first|exact Lc.fail|skip
 exact Lc.bind (Lc.zR _) λ_=>Lc.tL _ _
theorem Lc.minD(l:List RV):Lc (minD l):=by
 unfold Dw.minD
 split<;>first|exact Lc.fail|skip
 split<;>first|exact Lc.fail|exact Lc.pure _
theorem Lc.maxD(l:List RV):Lc (maxD l):=by
 unfold Dw.maxD
 split<;>first|exact Lc.fail|skip
 split<;>first|exact Lc.fail|exact Lc.pure _
theorem Lc.argD(by_:Bool)(v:RV):Lc (argD by_ v):=by
 unfold Dw.argD
 split<;>first|exact Lc.pure _|exact Lc.bind (Lc.wv _) λ_=>Lc.tL _ _|(split<;>first|exact Lc.pure _|exact Lc.bind (Lc.wv _) λ_=>Lc.pure _|exact Lc.bind (Lc.wv _) λ_=>Lc.tL _ _)
theorem Lc.xx(by_:Nat->Bool):∀(i:Nat)(l:List RV),Lc (xx by_ i l)
 |_,[]=>Lc.pure _
 |i,v::r=>Lc.bind (Lc.argD _ v) λ_=>Lc.bind (Lc.xx by_ (i+1) r) λ_=>Lc.pure _
theorem Lc.vT:∀(n:Nat)(done todo:List Nat),Lc (vT n done todo)
 |0,_,_=>Lc.fail
 |_+1,_,[]=>Lc.pure _
 |n+1,done,i::todo=>by
  unfold Dw.vT
  split
  ·exact Lc.vT n _ _
  ·exact Lc.bind (Lc.get _) λ_=>Lc.vT n _ _
theorem Lc.xB:∀(l:List Nat),Lc (xB l)
 | []=>Lc.pure _
 |_::r=>Lc.bind (Lc.get _) λ_=>Lc.bind (Lc.xB r) λ_=>Lc.pure _
theorem Lc.vr:∀(l:List Nat),Lc (vr l)
 | []=>Lc.pure _
 |_::r=>Lc.bind (Lc.uj _) λ_=>Lc.vr r
theorem Lc.vA(by_:FuncId->Nat->Bool)(call:tI)(f:FuncId)(base:Nat)(l:List RV):Lc (vA by_ call f base l):=by
 unfold Dw.vA
 refine Lc.bind (Lc.xx _ _ _) λx=>Lc.bind (Lc.vT _ _ _) λids=>Lc.bind (Lc.xB _) λa=>?_
 split<;>first|exact Lc.fail|skip
 split<;>first|exact Lc.fail|exact Lc.bind (Lc.vr _) λ_=>Lc.pure _
theorem Lc.yd(id:Nat)(src dst:TypeId)(x:RV):Lc (yd P id src dst x):=by
 unfold Dw.yd
 split
 ·split<;>first|exact Lc.fail|exact Lc.bind (Lc.uj _) λ_=>Lc.tL _ _
 ·split<;>first|exact Lc.fail|skip
  refine Lc.bind (Lc.get _) λa=>?_
  split<;>first|exact Lc.fail|skip
  refine iteInduction (motive:=Lc) (λ_=>?_) (λ_=>Lc.fail)
  split<;>first|exact Lc.fail|exact Lc.uB _
 ·split<;>first|exact Lc.fail|skip
  split<;>first|exact Lc.fail|exact Lc.uB _
 ·exact Lc.yg _
theorem Lc.uX(id:Nat)(t:TypeId)(l c:RV):Lc (uX P id t l c):=by
 unfold Dw.uX
 split<;>first|exact Lc.fail|skip
 split<;>first|exact Lc.fail|exact Lc.bind (Lc.uj _) λ_=>Lc.tL _ _
theorem Lc.AE(id:Nat)(t t':TypeId)(a x:RV):Lc (AE P id t t' a x):=by
 unfold Dw.AE
 split<;>first|exact Lc.fail|skip
 split<;>first|exact Lc.fail|exact Lc.bind (Lc.uj _) λ_=>Lc.tL _ _
theorem Lc.capD(t:TypeId)(x:RV):Lc (capD P t x):=by
 unfold Dw.capD
 split<;>first|exact Lc.fail|exact Lc.uB _
theorem Lc.ifcD(t:TypeId)(x:RV):Lc (ifcD P t x):=by
 unfold Dw.ifcD
 split<;>first|exact Lc.fail|exact Lc.uB _
theorem Lc.xL(x:RV)(t:TypeId)(ok:Bool):Lc (xL P x t ok):=by
 unfold Dw.xL
 split<;>first|exact Lc.fail|skip
 exact iteInduction (motive:=Lc) (λ_=>Lc.uB _) (λ_=>Lc.fail)
theorem Lc.xR(mt:Hf)(call:tI)(base:Nat)(x:RV)(name:String)(as:List RV):Lc (xR P mt call base x name as):=by
 unfold Dw.xR
 split<;>first|exact Lc.fail|skip
 split<;>first|exact Lc.fail|exact Lc.vA _ _ _ _ _|skip
 exact Lc.bind (Lc.wg P _ _) λ_=>Lc.vA _ _ _ _ _
theorem Lc.tP(mt:Hf)(call:tI)(s:St)(o:Oper):Lc (tP P mt call s o):=by
 unfold Dw.tP
 split
 all_goals (try exact Lc.fail)
 all_goals (try exact Lc.zh P _ _)
 all_goals (split<;>first|exact Lc.fail|exact Lc.uB _|exact Lc.ifcD P _ _|exact Lc.xL P _ _ _|exact Lc.boxD _ _|exact Lc.yp P _ _|exact Lc.vj P _ _ _ _ _|exact Lc.wg P _ _|exact Lc.xr P _ _ _|exact Lc.yZ _ _|exact Lc.yg _|exact Lc.u6 P _ _ _ _ _ _|exact Lc.vQ P _ _ _|exact Lc.zk P _ _ _|exact Lc.uG P _ _ _|exact Lc.yu P _ _ _|exact Lc.minD _|exact Lc.maxD _|exact Lc.uX P _ _ _ _|exact Lc.yd P _ _ _ _|skip)
 all_goals (split<;>first|exact Lc.fail|exact Lc.uB _|exact Lc.xR P _ _ _ _ _ _|exact Lc.Ar P _ _|exact Lc.capD P _ _|exact Lc.uV P _ _ _ _ _|exact Lc.yW P _ _ _|exact Lc.xn P _ _|exact Lc.AS P _ _ _ _ _|exact Lc.u6 P _ _ _ _ _ _|exact Lc.vA _ _ _ _ _|(split<;>first|exact Lc.fail|exact Lc.uB _|exact Lc.uV P _ _ _ _ _|exact Lc.AE P _ _ _ _ _))
end
theorem zu{s s':St}:∀{xs:List Operand},(∀x∈xs,s.opd x=s'.opd x)->vw s xs=vw s' xs
 | [],_=>rfl
 |x::xs,h=>by simp only [vw];rw [h x zb,zu λy a=>h y (by simp [a])]
theorem w9{s s':St}:∀{xs:List (Nat×Operand)},(∀x∈xs.map (·.2),s.opd x=s'.opd x)->uQ s xs=uQ s' xs
 | [],_=>rfl
 |(i,x)::xs,h=>by simp only [uQ];rw [h x zb,w9 λy a=>h y (by simp only [Fk,List.mem_cons];exact .inr a)]
theorem xV{s s':St}{x:Option Operand}(h:∀y∈x.toArray,s.opd y=s'.opd y):ur s x=ur s' x:=by
 cases x with
 |none=>rfl
 |some y=>simp only [ur];rw [h y zb]
theorem Dx{P:Program}{mt:Hf}{call:tI}{s s':St}(o:Oper)(h:∀x∈o.op.operands,s.opd x=s'.opd x):tP P mt call s o=tP P mt call s' o:=by
 unfold tP
 rcases p:o.op with x|x|⟨c,x,y⟩|t|⟨t,x⟩|⟨t,parts⟩|⟨t,len,parts⟩|⟨t,m,k,x⟩|⟨t,x⟩|⟨t,x,y⟩|g|g|x|⟨op,t,x,y,t2⟩|⟨op,t,x⟩|⟨t,t2,x⟩|⟨t,x⟩|⟨t,x⟩|⟨fn,x,y⟩|⟨t,x⟩|⟨t,x⟩|⟨t,x,y⟩|⟨t,x,lo,hi,mx⟩|⟨t,x,f⟩|⟨t,x,f⟩|⟨t,x,y⟩|⟨t,x,y⟩|⟨t,x,y,c⟩|⟨t,x,y,c⟩|⟨t,x,y⟩|⟨t,x,y,c⟩|⟨t,x⟩|⟨x,b⟩|x|⟨x,t,t2,b⟩|⟨x,i⟩|c|c|c|x|⟨x,y⟩|⟨t,x,b⟩|⟨cs,b⟩
 all_goals (simp only [p,Op.operands]at h)
 all_goals (try simp only)
 all_goals (try rw [h x zb])
 all_goals (try rw [h y zb])
 ·rw [h c zb]
 ·rw [w9 λx a=>h x (by simpa using a)]
 ·rw [w9 λx a=>h x (by simpa using a)]
 ·cases op<;>(try simp only)<;>rw [h x zb]
 ·rw [zu (s:=s) (s':=s') (xs:=y.toList) λx a=>h x (by simp only [Fz];exact .inr (by simpa using a))]
  cases vw s' y.toList with
  |none=>rfl
  |some l=>
  rcases a:x.toList with _|⟨q,_|⟨B,xs⟩⟩
  ·cases fn<;>rfl
  ·have r:s.opd q=s'.opd q:=h q (by simp only [Fz];exact .inl (by rw [<-Array.mem_toList_iff,a];exact List.mem_singleton.2 rfl))
   cases fn<;>first|rfl|(simp only [];rw [r])
  ·cases fn<;>rfl
 ·rw [xV (x:=lo) λy j=>h y (by simp only [Fz];exact .inl (.inl (.inr j))),xV (x:=hi) λy j=>h y (by simp only [Fz];exact .inl (.inr j)),xV (x:=mx) λy j=>h y (by simp only [Fz];exact .inr j)]
 ·have u:vw s c.args.toList=vw s' c.args.toList:=zu λx a=>h x (by simp only [Call.operands,Fz];exact .inr (by simpa using a))
  rw [u]
  cases hc:c.callee with
  |value f=>
   have hf:s.opd f=s'.opd f:=h f (by simp [Call.operands,hc])
   cases vw s' c.args.toList with
   |none=>rfl
   |some l=>simp only [hf]
  |invoke rc m=>
   have hf:s.opd rc=s'.opd rc:=h rc (by simp [Call.operands,hc])
   cases vw s' c.args.toList with
   |none=>rfl
   |some l=>simp only [hf]
  |builtin b=>
   cases vw s' c.args.toList with
   |none=>cases b<;>rfl
   |some l=>rcases l with _|⟨x,_|⟨y,_|⟨z,l⟩⟩⟩<;>cases b<;>rfl
end Go.Dw
namespace Go.Dw
theorem DS:∀(u:Ups)(s s':St)(id:Nat),id∈u.map (·.1)->(s.ups u).boxes id=(s'.ups u).boxes id
 | [],_,_,_,h=>by simp at h
 |(i,b)::r,s,s',id,h=>by
  rw [vJ,vJ]
  by_cases a:id∈r.map (·.1)
  ·exact DS r _ _ id a
  ·rw [vq _ _ _ a,vq _ _ _ a]
   have:id=i:=by simpa [a]using h
   subst this
   show upd s.boxes id b id=upd s'.boxes id b id
   rw [tJ,tJ]
theorem v8(s:St)(d:Option Nat)(v:RV):(s.put d v).boxes=s.boxes:=by cases d<;>rfl
theorem St.ext'{s s':St}(h1:s.tT=s'.tT)(f:s.boxes=s'.boxes):s=s':=by
 obtain⟨a,b⟩:=s
 obtain⟨c,d⟩:=s'
 simp only at h1 f
 subst h1;subst f
 rfl
theorem BE{s:St}{u1 u2:Ups}{d1 d2:Option Nat}{v1 v2:RV}(hu:Bj (u1.map (·.1)) (u2.map (·.1))=true)(f:∀d,d1=some d->d2≠some d):
  ((((s.ups u1).put d1 v1).ups u2).put d2 v2)=((((s.ups u2).put d2 v2).ups u1).put d1 v1):=by
 have hu:=yO hu
 refine St.ext' ?_ ?_
 ·cases d1 with
  |none=>
   cases d2 with
   |none=>simp only [St.put,vK]
   |some e=>simp only [St.put,vK]
  |some d=>
   cases d2 with
   |none=>simp only [St.put,vK]
   |some e=>
    have c:d≠e:=λhe=>f d rfl (he▸rfl)
    simp only [St.put,vK]
    funext t
    by_cases h1:t=d
    ·subst h1;simp [c]
    ·by_cases a:t=e
     ·subst a;simp [h1]
     ·simp [h1,a]
 ·rw [v8,v8]
  funext id
  by_cases h1:id∈u1.map (·.1)
  ·have a:id∉u2.map (·.1):=hu id h1
   rw [vq _ _ _ a,v8]
   rw [DS u1 _ ((s.ups u2).put d2 v2) id h1]
  ·by_cases a:id∈u2.map (·.1)
   ·rw [vq u1 _ _ h1,v8]
    rw [DS u2 _ s id a]
   ·rw [vq _ _ _ a,v8,vq _ _ _ h1,vq _ _ _ h1,v8,vq _ _ _ a]
section
variable {P:Program}{mt:Hf}{call:tI}{ops:Array Oper}
theorem xi{o:Oper}{s s':St}{t:Tr}(h:vH P mt call ops o s=some (s',t)):
  (tz ops s o=some true∧∃v u,tP P mt call s o s.boxes=some ((v,u),t.rd,true)∧s'=(s.ups u).put o.dst v∧t.wr=u.map (·.1))∨
  (tz ops s o=some false∧s'=s.put o.dst .undef∧t.rd=[]∧t.wr=[]):=by
 unfold vH at h
 rcases hw:tz ops s o with _|w
 ·simp [hw]at h
 simp only [hw]at h
 cases w with
 |true=>
  simp only [if_true]at h
  rcases he:tP P mt call s o s.boxes with _|⟨⟨v,u⟩,rd,c⟩
  ·simp [he]at h
  simp only [he]at h
  cases c with
  |true=>
   simp only [if_true,EC,EE]at h
   obtain⟨rfl,rfl⟩:=h
   exact .inl ⟨rfl,v,u,rfl,rfl,rfl⟩
  |false=>simp at h
 |false=>
  simp only [Bool.false_eq_true,if_false,EC,EE]at h
  obtain⟨rfl,rfl⟩:=h
  exact .inr ⟨rfl,rfl,rfl,rfl⟩
theorem Ac{o:Oper}{s:St}{v:RV}{u:Ups}{rd:List Nat}(hw:tz ops s o=some true)(he:tP P mt call s o s.boxes=some ((v,u),rd,true)):
  vH P mt call ops o s=some ((s.ups u).put o.dst v,⟨rd,u.map (·.1)⟩):=by
 unfold vH;simp [hw,he]
theorem zD{o:Oper}{s:St}(hw:tz ops s o=some false):vH P mt call ops o s=some (s.put o.dst .undef,⟨[],[]⟩):=by
 unfold vH;simp [hw]
theorem xl{o:Oper}{s s':St}(h:∀t∈o.looksAt ops,s.tT t=s'.tT t):tz ops s o=tz ops s' o:=by
 unfold tz
 cases a:o.guard with
 |none=>rfl
 |some g=>
  obtain⟨j,want⟩:=g
  simp only
  cases c:(ops[j]?).bind (·.dst)with
  |none=>rfl
  |some t=>
   simp only
   rw [h t (by simp [Oper.looksAt,a,c])]
theorem Bn{o:Oper}{s s':St}(h:∀t∈o.looksAt ops,s.tT t=s'.tT t):tP P mt call s o=tP P mt call s' o:=by
 refine Dx o λx a=>?_
 cases x with
 |tmp t=>exact h t (List.mem_append_left _ (List.mem_filterMap.2 ⟨.tmp t,by simpa using a,rfl⟩))
 |const v=>rfl
 |global g=>rfl
 |func f=>rfl
theorem Db{o:Oper}{s s1 s':St}{t:Tr}{d:Option Nat}{u:Ups}{v:RV}(h:vH P mt call ops o s1=some (s',t))(hs:s1=(s.ups u).put d v)
  (p:∀e,d=some e->e∉o.looksAt ops) (hu:Bj (u.map (·.1)) t.rd=true):
  ∃v' g,t.wr=g.map (·.1)∧s'=(s1.ups g).put o.dst v'∧vH P mt call ops o s=some ((s.ups g).put o.dst v',t):=by
 have a:∀t∈o.looksAt ops,s1.tT t=s.tT t:=by
  intro t q
  subst hs
  cases d with
  |none=>simp only [St.put,vK]
  |some e=>
   have:t≠e:=λhe=>p e rfl (he▸q)
   simp only [St.put,vK,this,if_false]
 have hu:=yO hu
 rcases xi h with⟨hw,v',g,he,h1,f⟩|⟨hw,h1,f,j⟩
 ·have c:tz ops s o=some true:=by rw [<-xl a];exact hw
  have k:tP P mt call s o s.boxes=some ((v',g),t.rd,true):=by
   rw [<-Bn (P:=P) (mt:=mt) (call:=call) a]
   refine Lc.tP P mt call s1 o _ _ _ _ _ he λid l=>?_
   subst hs
   rw [v8,vq _ _ _ (λhm=>hu id hm l)]
  refine⟨v',g,f,h1,?_⟩
  rw [Ac c k]
  obtain⟨rd,wr⟩:=t
  simp only at f
  rw [f]
 ·have c:tz ops s o=some false:=by rw [<-xl a];exact hw
  refine⟨.undef,[],by rw [j];rfl,h1,?_⟩
  rw [zD c]
  obtain⟨rd,wr⟩:=t
  simp only at f j
  rw [f,j]
  rfl
theorem commute{x y:Oper}{s s1 s2:St}{k ty:Tr}(h1:vH P mt call ops x s=some (s1,k))(J:vH P mt call ops y s1=some (s2,ty))(hp:Ay ops (x,k) (y,ty)=true):
  ∃s3,vH P mt call ops y s=some (s3,ty)∧vH P mt call ops x s3=some (s2,k):=by
 simp only [Ay,Bool.and_eq_true]at hp
 obtain⟨⟨⟨z,B⟩,g⟩,C⟩:=hp
 obtain⟨a1,a2,a3⟩:=Oper.apart_spec z
 have L:∃v u,s1=(s.ups u).put x.dst v∧k.wr=u.map (·.1):=by
  rcases xi h1 with⟨_,v,u,_,f,c⟩|⟨_,f,_,c⟩
  ·exact⟨v,u,f,c⟩
  ·exact⟨.undef,[],f,by rw [c];rfl⟩
 obtain⟨Q,O,G,H⟩:=L
 obtain⟨p,l,r,q,N⟩:=Db J G a1 (by rw [<-H];exact B)
 refine⟨_,N,?_⟩
 have a:∀t∈x.looksAt ops,((s.ups l).put y.dst p).tT t=s.tT t:=by
  intro t K
  cases D:y.dst with
  |none=>simp only [St.put,vK]
  |some e=>
   have:t≠e:=λhe=>a3 e D (he▸K)
   simp only [St.put,vK,this,if_false]
 have g:=yO g
 rcases xi h1 with⟨hw,v,u,he,f,c⟩|⟨hw,f,c,I⟩
 ·have j:tz ops ((s.ups l).put y.dst p) x=some true:=by rw [xl a];exact hw
  have E:tP P mt call ((s.ups l).put y.dst p) x ((s.ups l).put y.dst p).boxes=some ((v,u),k.rd,true):=by
   rw [Bn (P:=P) (mt:=mt) (call:=call) a]
   refine Lc.tP P mt call s x _ _ _ _ _ he λid F=>?_
   rw [v8,vq _ _ _ (λhm=>g id (by rw [r];exact hm) F)]
  rw [Ac j E,q,f]
  rw [BE (by rw [<-c, <-r];exact C) a2]
  obtain⟨rd,wr⟩:=k
  simp only at c
  rw [c]
 ·have j:tz ops ((s.ups l).put y.dst p) x=some false:=by rw [xl a];exact hw
  rw [zD j,q,f]
  have:=BE (s:=s) (u1:=[]) (u2:=l) (d1:=x.dst) (d2:=y.dst) (v1:= .undef) (v2:=p) (by rfl) a2
  simp only [St.ups]at this
  rw [this]
  obtain⟨rd,wr⟩:=k
  simp only at c I
  rw [c,I]
theorem xO{o:Oper}{r:List Oper}{s sF:St}{ts:List Tr}(h:ve P mt call ops (o::r) s=some (sF,ts)):
  ∃s1 t a,vH P mt call ops o s=some (s1,t)∧ve P mt call ops r s1=some (sF,a)∧ts=t::a:=by
 unfold ve at h
 rcases h1:vH P mt call ops o s with _|⟨s1,t⟩
 ·simp [h1]at h
 simp only [h1]at h
 rcases c:ve P mt call ops r s1 with _|⟨s2,a⟩
 ·simp [c]at h
 simp only [c,EC,EE]at h
 exact⟨s1,t,a,rfl,by rw [c,h.1],h.2.symm⟩
theorem evOps_mk{o:Oper}{r:List Oper}{s s1 sF:St}{t:Tr}{ts:List Tr}(h1:vH P mt call ops o s=some (s1,t))(a:ve P mt call ops r s1=some (sF,ts)):
  ve P mt call ops (o::r) s=some (sF,t::ts):=by
 unfold ve;simp [h1,a]
theorem AK:∀(a:List (Oper×Tr)){o:Oper}{t:Tr}{c:List (Oper×Tr)}{s sF:St},
  ve P mt call ops ((a++(o,t)::c).map (·.1)) s=some (sF,(a++(o,t)::c).map (·.2))->(∀x∈a,Ay ops x (o,t)=true)->
  ∃s1,vH P mt call ops o s=some (s1,t)∧ve P mt call ops ((a++c).map (·.1)) s1=some (sF,(a++c).map (·.2))
 | [],o,t,c,s,sF,h,_=>by
  simp only [List.nil_append,Fk]at h
  obtain⟨s1,t',j,h1,f,g⟩:=xO h
  cases g
  exact⟨s1,h1,f⟩
 |(x,u)::a,o,t,c,s,sF,h,hp=>by
  simp only [Fw,Fk]at h
  obtain⟨s1,t',j,h1,f,g⟩:=xO h
  cases g
  obtain⟨s2,k,l⟩:=AK a f (λy r=>hp y (by simp [r]))
  obtain⟨s3,p,q⟩:=commute h1 k (hp (x,u) zb)
  exact⟨s3,p,by simp only [Fw,Fk];exact evOps_mk q l⟩
theorem A6:∀(l:List Oper)(acc:List Nat)(i:Nat),i<acc.length->(A5 l acc).getD i 0=acc.getD i 0
 | [],acc,i,_=>rfl
 |o::r,acc,i,h=>by
  rw [A5,A6 r _ i so]
  simp only [Fx]
  rw [ES h]
theorem Bp(acc:List Nat):∀(es:List Edge)(b j:Nat),(es.foldl (λb e=>if Region.binds .any e then b ||| (2 ^ e.on ||| acc.getD e.on 0)else b) b).testBit j=true->
  b.testBit j=true∨∃e∈es,Region.binds .any e=true∧(e.on=j∨(acc.getD e.on 0).testBit j=true)
 | [],b,j,h=>.inl h
 |e::es,b,j,h=>by
  simp only [List.foldl_cons]at h
  rcases Bp acc es _ j h with h1|⟨c,h1,f,g⟩
  ·by_cases a:Region.binds .any e=true
   ·simp only [a,if_true,Nat.testBit_or,Bool.or_eq_true,Nat.testBit_two_pow,decide_eq_true_eq]at h1
    rcases h1 with h1|h1|h1
    ·exact .inl h1
    ·exact .inr ⟨e,zb,a,.inl h1⟩
    ·exact .inr ⟨e,zb,a,.inr h1⟩
   ·simp only [a]at h1;exact .inl h1
  ·exact .inr ⟨c,by simp [h1],f,g⟩
theorem Ai:∀(l:List Oper)(acc:List Nat)(i:Nat)(o:Oper),l[i]? =some o->∀j,((A5 l acc).getD (acc.length+i) 0).testBit j=true->
  ∃e∈o.after,Region.binds .any e=true∧(e.on=j∨(e.on<acc.length+i∧((A5 l acc).getD e.on 0).testBit j=true))
 | [],acc,i,o,h,_,_=>by simp at h
 |x::r,acc,0,o,h,j,c=>by
  simp only [List.getElem?_cons_zero,EC]at h
  subst h
  rw [A5,Nat.add_zero,A6 r _ acc.length zb]at c
  simp only [Fx,List.getElem?_concat_length,Option.getD_some]at c
  rcases Bp acc x.after.toList 0 j c with h1|⟨e,h1,g,a⟩
  ·simp at h1
  ·refine⟨e,by simpa using h1,g,?_⟩
   rcases a with a|a
   ·exact .inl a
   ·by_cases f:e.on<acc.length
    ·refine .inr ⟨za,?_⟩
     rw [A5,A6 r _ e.on so]
     simp only [Fx]at a⊢
     rw [ES f]
     exact a
    ·rw [Fx,List.getElem?_eq_none za]at a
     simp at a
 |x::r,acc,i+1,o,h,j,c=>by
  simp only [List.getElem?_cons_succ]at h
  rw [A5]at c⊢
  have := Ai r (acc ++ [x.after.toList.foldl (λb e => if Region.binds .any e then b ||| (2 ^ e.on ||| acc.getD e.on 0) else b) 0]) i o h j (by
   simp only [F0,Fy]
   rw [show acc.length+1+i=acc.length+(i+1)by omega]
   exact c)
  simp only [F0,Fy]at this
  rw [show acc.length+1+i=acc.length+(i+1)by omega]at this
  exact this
theorem Dh{a:Array Bool}(c:∀(i:Nat)o,ops[i]? =some o->a.getD i false=true->∀e∈o.after,Region.binds .any e=true->a.getD e.on false=true)(u:a.size=ops.size):
  ∀(n i:Nat)(o:Oper),i<=n->ops[i]? =some o->(∀e∈o.after,Region.binds .any e=true->a.getD e.on false=true)->∀j,((A5 ops.toList []).getD i 0).testBit j=true->a.getD j false=true:=by
 intro n
 induction n with
 |zero=>
  intro i o hi ho he j l
  have r:i=0:=by omega
  subst r
  obtain⟨e,h1,k,f⟩:=Ai ops.toList [] 0 o (by simpa using ho) j (by simpa using l)
  rcases f with rfl|⟨f,_⟩
  ·exact he e h1 k
  ·simp at f
 |succ n x=>
  intro i o hi ho he j l
  obtain⟨e,h1,k,f⟩:=Ai ops.toList [] i o (by simpa using ho) j (by simpa using l)
  rcases f with rfl|⟨f,t⟩
  ·exact he e h1 k
  ·simp only [List.length_nil,Nat.zero_add]at f
   have q:=he e h1 k
   have p:e.on<ops.size:=by
    rcases Nat.lt_or_ge e.on a.size with h|h
    ·omega
    ·simp [Array.getElem?_eq_none h]at q
   have g:ops[e.on]? =some ops[e.on]:=Array.getElem?_eq_getElem p
   exact x e.on _ za g (c e.on _ g q) j t
end
end Go.Dw
