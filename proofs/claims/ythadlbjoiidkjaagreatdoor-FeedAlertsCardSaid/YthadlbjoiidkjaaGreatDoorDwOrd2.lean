
import Derived.Test.YthadlbjoiidkjaaGreatDoorDwOp

namespace Go.Dw
def Lc{α:Type}(m:M α):Prop:=∀b b' a r c,m b=some (a,r,c)->(∀id∈r,b' id=b id)->m b'=some (a,r,c)
theorem Lc.pure{α:Type}(a:α):Lc (M.pure a):=fun _ _ _ _ _ h _=>h
theorem Lc.jb{α:Type}(k:Bool)(a:α):Lc (M.jb k a):=fun _ _ _ _ _ h _=>h
theorem Lc.fail{α:Type}:Lc (M.fail:M α):=fun _ _ _ _ _ h _=>h
theorem Lc.get(id:Nat):Lc (M.get id):=by
 intro b b' a r c h hb
 obtain⟨h1,h2,h3⟩:=M.get_some h
 subst h2;subst h3
 simp [M.get,hb id sm,h1]
theorem Lc.js(id:Nat):Lc (M.js id):=by
 intro b b' a r c h hb
 obtain⟨h1,h2,h3⟩:=M.jD h
 subst h2;subst h3
 simp [M.js,hb id sm,h1]
theorem Lc.bind{α β:Type}{m:M α}{f:α->M β}(hm:Lc m)(hf:∀a,Lc (f a)):Lc (M.bind m f):=by
 intro b b' x r c h hb
 unfold M.bind at h⊢
 rcases h1:m b with _|⟨a,r1,c1⟩
 ·simp [h1]at h
 simp only [h1]at h
 rcases h2:f a b with _|⟨y,r2,c2⟩
 ·simp [h2]at h
 simp only [h2,Option.some.injEq,Prod.mk.injEq]at h
 obtain⟨rfl,rfl,rfl⟩:=h
 rw [hm b b' a r1 c1 h1 (fun id hid=>hb id (List.mem_append.2 (.inl hid)))]
 simp only [hf a b b' y r2 c2 h2 (fun id hid=>hb id (List.mem_append.2 (.inr hid)))]
theorem Lc.jH(v:RV):Lc (jH v):=Lc.pure _
theorem Lc.jz(k:Bool)(v:RV):Lc (jz k v):=Lc.jb _ _
theorem Lc.mK(o:Option (PD×Bool)):Lc (mK o):=by unfold Dw.mK;split<;>first|exact Lc.jb _ _|exact Lc.fail
theorem Lc.nG(v:RV):Lc (nG v):=by
 unfold Dw.nG
 split<;>first|exact Lc.pure _|exact Lc.fail|skip
 all_goals refine Lc.bind (Lc.get _) fun bx=>?_
 all_goals (split<;>first|exact Lc.fail|skip)
 all_goals (split<;>first|exact Lc.pure _|exact Lc.jb _ _|exact Lc.fail)
theorem Lc.lM:∀(cs:List RV),Lc (lM cs)
 | []=>Lc.pure _
 |c::cs=>Lc.bind (Lc.nG c) fun _=>Lc.bind (Lc.lM cs) fun _=>Lc.pure _
theorem Lc.kP(v:RV):Lc (kP v):=by
 unfold Dw.kP
 split
 ·exact Lc.bind (Lc.lM _) fun _=>Lc.pure _
 ·exact Lc.nG _
section
variable (P:Program)
theorem Lc.lk(t:TypeId)(cs:List PD):Lc (lk P t cs):=by
 unfold Dw.lk
 split<;>first|exact Lc.fail|exact Lc.jz _ _|skip
 split<;>first|exact Lc.fail|exact Lc.jH _
theorem Lc.kJ(t:TypeId)(cs:List RV)(o:Nat):Lc (kJ P t cs o):=by
 unfold Dw.kJ
 split<;>first|exact Lc.fail|exact Lc.jz _ _|skip
 split<;>first|exact Lc.fail|exact Lc.jH _
theorem Lc.l7(t:TypeId)(a:RV):Lc (l7 P t a):=by
 unfold Dw.l7
 split
 ·exact Lc.lk P t _
 ·refine Lc.bind (Lc.get _) fun bx=>?_
  split<;>first|exact Lc.kJ P t _ _|exact Lc.fail
 ·refine Lc.bind (Lc.get _) fun bx=>?_
  split<;>first|exact Lc.fail|skip
  ·split<;>first|exact Lc.fail|skip
   split<;>first|exact Lc.fail|exact Lc.lk P t _
 ·exact Lc.fail
theorem Lc.mE(t:TypeId)(a v:RV):Lc (mE P t a v):=by
 unfold Dw.mE
 split<;>first|exact Lc.fail|skip
 split
 ·refine Lc.bind (Lc.get _) fun bx=>?_
  split<;>first|exact Lc.jb _ _|exact Lc.fail|skip
 ·refine Lc.bind (Lc.get _) fun bx=>?_
  split<;>first|exact Lc.fail|skip
  ·split<;>first|exact Lc.fail|skip
   refine Lc.bind (Lc.kP _) fun p=>?_
   obtain⟨p,u⟩:=p
   dsimp only
   split<;>first|exact Lc.fail|skip
   split<;>first|exact Lc.fail|exact Lc.jb _ _
 ·exact Lc.fail
theorem Lc.nF(off:Nat)(x:RV):Lc (nF off x):=by
 unfold Dw.nF
 split
 ·refine Lc.bind (Lc.get _) fun bx=>?_
  split<;>first|exact Lc.jH _|exact Lc.fail
 ·refine Lc.bind (Lc.get _) fun bx=>?_
  split<;>first|exact Lc.fail|skip
  split<;>first|exact Lc.jH _|exact Lc.fail
 ·exact Lc.jH _
 ·exact Lc.fail
theorem Lc.kx(t:TypeId)(x:RV)(f:Nat):Lc (kx P t x f):=by
 unfold Dw.kx
 split<;>first|exact Lc.fail|skip
 split<;>first|exact Lc.fail|exact Lc.nF _ _
theorem Lc.nL(t:TypeId)(x:RV)(f:Nat):Lc (nL P t x f):=by
 unfold Dw.nL
 split<;>first|exact Lc.fail|exact Lc.kJ P _ _ _
theorem Lc.nN(x i:RV):Lc (nN x i):=by
 unfold Dw.nN
 repeat' split
 all_goals first|exact Lc.jz _ _|exact Lc.fail
theorem Lc.oF(len:Nat)(e:TypeId)(x i:RV):Lc (oF P len e x i):=by
 unfold Dw.oF
 repeat' split
 all_goals first|exact Lc.bind (Lc.jb _ _) fun _=>Lc.kJ _ _ _ _|exact Lc.fail
theorem Lc.mW(t:TypeId)(x i:RV):Lc (mW P t x i):=by
 unfold Dw.mW
 repeat' split
 all_goals first|exact Lc.nN _ _|exact Lc.oF _ _ _ _ _|exact Lc.fail
theorem Lc.jU(t:TypeId)(x i:RV):Lc (jU P t x i):=by
 unfold Dw.jU
 split
 ·split<;>first|exact Lc.fail|skip
  split<;>first|exact Lc.fail|exact Lc.jz _ _|skip
  all_goals refine Lc.bind (Lc.get _) fun bx=>?_
  all_goals (split<;>first|exact Lc.fail|exact Lc.jz _ _|skip)
  all_goals (split<;>first|exact Lc.fail|exact Lc.jz _ _)
 ·split<;>first|exact Lc.fail|skip
  exact Lc.bind (Lc.jb _ _) fun _=>Lc.nF _ _
 ·exact Lc.fail
theorem Lc.sliceB(e:TypeId)(id ver a b:Nat)(lo hi:Option RV):Lc (sliceB P e id ver a b lo hi):=by
 unfold Dw.sliceB
 split<;>first|exact Lc.fail|skip
 refine Lc.bind (Lc.get _) fun bx=>?_
 split<;>first|exact Lc.fail|skip
 split<;>first|exact Lc.fail|exact Lc.jz _ _
theorem Lc.oQ(nid:Nat)(e:TypeId)(n:Nat)(lo hi mx:Option RV):Lc (oQ P nid e n lo hi mx):=by
 unfold Dw.oQ
 split<;>first|exact Lc.fail|skip
 split<;>first|exact Lc.fail|exact Lc.bind (Lc.js _) fun _=>Lc.jb _ _
theorem Lc.nT(id:Nat)(a:TypeId):Lc (nT P id a):=by
 unfold Dw.nT
 split<;>first|exact Lc.fail|skip
 split<;>first|exact Lc.fail|skip
 refine Lc.bind (Lc.get _) fun bx=>?_
 split<;>first|exact Lc.fail|skip
 split<;>first|exact Lc.fail|skip
 split<;>first|exact Lc.fail|exact Lc.jb _ _
theorem Lc.nV(e:TypeId)(id ver:Nat)(lo hi:Option RV)(mx:RV):Lc (nV P e id ver lo hi mx):=by
 unfold Dw.nV
 split<;>first|exact Lc.fail|skip
 split<;>first|exact Lc.fail|skip
 refine Lc.bind (Lc.get _) fun bx=>?_
 split<;>first|exact Lc.fail|skip
 split<;>first|exact Lc.fail|exact Lc.jb _ _
theorem Lc.nU(a:TypeId)(cs:List PD):Lc (nU P a cs):=by
 unfold Dw.nU
 split<;>first|exact Lc.fail|skip
 split<;>first|exact Lc.fail|skip
 split<;>first|exact Lc.fail|exact Lc.jb _ _
theorem Lc.pS(e:TypeId)(es:List PD)(h m:Int):Lc (pS P e es h m):=by
 unfold Dw.pS
 split<;>first|exact Lc.fail|skip
 split<;>first|exact Lc.fail|exact Lc.jb _ _
theorem Lc.pk(t:TypeId)(x:RV)(lo hi mx:Option RV):Lc (pk P t x lo hi mx):=by
 unfold Dw.pk
 split<;>first|exact Lc.fail|exact Lc.pS P _ _ _ _|skip
 split<;>first|exact Lc.fail|skip
 refine Lc.bind (Lc.get _) fun bx=>?_
 split<;>first|exact Lc.fail|skip
 split<;>first|exact Lc.fail|exact Lc.jb _ _
theorem Lc.jV(nid:Nat)(t:TypeId)(x:RV)(lo hi mx:Option RV):Lc (jV P nid t x lo hi mx):=by
 unfold Dw.jV
 split
 ·refine Lc.bind (Lc.get _) fun bx=>?_
  split<;>first|exact Lc.fail|exact Lc.sliceB P _ _ _ _ _ _ _
 ·exact Lc.sliceB P _ _ _ _ _ _ _
 ·split<;>first|exact Lc.fail|exact Lc.nT P _ _
 ·split<;>first|exact Lc.fail|exact Lc.nU P _ _
 ·split<;>first|exact Lc.fail|(split<;>first|exact Lc.pure _|exact Lc.fail)
 ·exact Lc.oQ P _ _ _ _ _ _
 ·exact Lc.nV P _ _ _ _ _ _
 all_goals first|exact Lc.fail|(split<;>first|exact Lc.fail|exact Lc.jz _ _)
theorem Lc.nK(t:TypeId)(l:List (Nat×RV)):Lc (nK P t l):=by
 unfold Dw.nK
 split
 ·split<;>first|exact Lc.fail|skip
  split<;>first|exact Lc.fail|exact Lc.jz _ _
 ·split<;>first|exact Lc.fail|skip
  split<;>first|exact Lc.fail|exact Lc.jz _ _
 ·exact Lc.fail
theorem Lc.nP(mt:Bool)(cs:List RV):Lc (nP mt cs):=by
 unfold Dw.nP
 split
 ·exact Lc.pure _
 ·exact Lc.lM _
theorem Lc.j7(mt:Bool)(id:Nat)(t:TypeId)(len:Nat)(l:List (Nat×RV)):Lc (j7 P mt id t len l):=by
 unfold Dw.j7
 split<;>first|exact Lc.fail|skip
 split<;>first|exact Lc.fail|skip
 split<;>first|exact Lc.fail|skip
 split<;>first|exact Lc.fail|skip
 refine Lc.bind (Lc.nP _ _) fun p=>?_
 obtain⟨ps,u⟩:=p
 dsimp only
 split
 ·exact Lc.bind (Lc.js _) fun _=>Lc.jb _ _
 ·exact Lc.jb _ _
theorem Lc.nI(id:Nat)(t:TypeId):Lc (nI P id t):=by
 unfold Dw.nI
 split<;>first|exact Lc.fail|exact Lc.bind (Lc.js _) fun _=>Lc.pure _
theorem Lc.boxD(id:Nat)(v:RV):Lc (boxD id v):=Lc.bind (Lc.js _) fun _=>Lc.jb _ _
theorem Lc.lenD(t:TypeId)(x:RV):Lc (lenD P t x):=by
 unfold Dw.lenD
 split<;>first|exact Lc.fail|exact Lc.jH _|skip
 all_goals refine Lc.bind (Lc.get _) fun bx=>?_
 all_goals (split<;>first|exact Lc.fail|exact Lc.jH _|skip)
 all_goals (split<;>first|exact Lc.fail|exact Lc.jH _|exact Lc.jz _ _)
theorem Lc.kF(x:RV):Lc (kF x):=by
 unfold Dw.kF
 split<;>first|exact Lc.fail|exact Lc.pure _|skip
 all_goals refine Lc.bind (Lc.get _) fun bx=>?_
 all_goals (split<;>first|exact Lc.fail|skip)
 all_goals (split<;>first|exact Lc.fail|exact Lc.pure _|exact Lc.jb _ _)
theorem Lc.kE(id:Nat)(t t':TypeId)(s x:RV):Lc (kE P id t t' s x):=by
 unfold Dw.kE
 split<;>first|exact Lc.fail|skip
 split<;>first|exact Lc.fail|skip
 split<;>first|exact Lc.fail|skip
 refine Lc.bind (Lc.kF _) fun xs=>?_
 split
 ·exact Lc.bind (Lc.js _) fun _=>Lc.jb _ _
 ·refine Lc.bind (Lc.get _) fun bx=>?_
  split<;>first|exact Lc.fail|skip
  all_goals (split<;>first|exact Lc.fail|exact Lc.jb _ _)
 ·refine Lc.bind (Lc.get _) fun bx=>?_
  split<;>first|exact Lc.fail|skip
  split<;>first|exact Lc.fail|exact Lc.jb _ _
 ·exact Lc.jb _ _
 ·exact Lc.fail
theorem Lc.pr(x:RV):Lc (pr x):=by
 unfold Dw.pr
 split<;>first|exact Lc.fail|skip
 all_goals refine Lc.bind (Lc.get _) fun bx=>?_
 all_goals (split<;>first|exact Lc.fail|skip)
 all_goals (split<;>first|exact Lc.fail|exact Lc.pure _|exact Lc.jb _ _)
theorem Lc.oU(t:TypeId)(x y:RV):Lc (oU P t x y):=by
 unfold Dw.oU
 split<;>first|exact Lc.fail|skip
 split<;>first|exact Lc.fail|skip
 exact Lc.bind (Lc.pr _) fun _=>Lc.bind (Lc.kF _) fun _=>Lc.jb _ _
theorem Lc.lR(t:TypeId)(x:RV):Lc (lR P t x):=by
 unfold Dw.lR
 split<;>first|exact Lc.fail|skip
 split<;>first|exact Lc.fail|skip
 exact Lc.bind (Lc.pr _) fun _=>Lc.jb _ _
theorem Lc.minD(l:List RV):Lc (minD l):=by
 unfold Dw.minD
 split<;>first|exact Lc.fail|skip
 split<;>first|exact Lc.fail|exact Lc.pure _
theorem Lc.maxD(l:List RV):Lc (maxD l):=by
 unfold Dw.maxD
 split<;>first|exact Lc.fail|skip
 split<;>first|exact Lc.fail|exact Lc.pure _
theorem Lc.argD(by_:Bool)(v:RV):Lc (argD by_ v):=by
 unfold Dw.argD
 split<;>first|exact Lc.pure _|exact Lc.bind (Lc.kP _) fun _=>Lc.jb _ _|(split<;>first|exact Lc.pure _|exact Lc.bind (Lc.kP _) fun _=>Lc.pure _|exact Lc.bind (Lc.kP _) fun _=>Lc.jb _ _)
theorem Lc.nB(by_:Nat->Bool):∀(i:Nat)(l:List RV),Lc (nB by_ i l)
 |_,[]=>Lc.pure _
 |i,v::r=>Lc.bind (Lc.argD _ v) fun _=>Lc.bind (Lc.nB by_ (i+1) r) fun _=>Lc.pure _
theorem Lc.kW:∀(n:Nat)(done todo:List Nat),Lc (kW n done todo)
 |0,_,_=>Lc.fail
 |_+1,_,[]=>Lc.pure _
 |n+1,done,i::todo=>by
  unfold Dw.kW
  split
  ·exact Lc.kW n _ _
  ·exact Lc.bind (Lc.get _) fun _=>Lc.kW n _ _
theorem Lc.mV:∀(l:List Nat),Lc (mV l)
 | []=>Lc.pure _
 |_::r=>Lc.bind (Lc.get _) fun _=>Lc.bind (Lc.mV r) fun _=>Lc.pure _
theorem Lc.kQ:∀(l:List Nat),Lc (kQ l)
 | []=>Lc.pure _
 |_::r=>Lc.bind (Lc.js _) fun _=>Lc.kQ r
theorem Lc.kR(by_:FuncId->Nat->Bool)(call:jd)(f:FuncId)(base:Nat)(l:List RV):Lc (kR by_ call f base l):=by
 unfold Dw.kR
 refine Lc.bind (Lc.nB _ _ _) fun x=>Lc.bind (Lc.kW _ _ _) fun ids=>Lc.bind (Lc.mV _) fun bxs=>?_
 split<;>first|exact Lc.fail|skip
 split<;>first|exact Lc.fail|exact Lc.bind (Lc.kQ _) fun _=>Lc.pure _
theorem Lc.mI(id:Nat)(src dst:TypeId)(x:RV):Lc (mI P id src dst x):=by
 unfold Dw.mI
 split
 ·split<;>first|exact Lc.fail|exact Lc.bind (Lc.js _) fun _=>Lc.jb _ _
 ·split<;>first|exact Lc.fail|skip
  refine Lc.bind (Lc.get _) fun bx=>?_
  split<;>first|exact Lc.fail|skip
  refine iteInduction (motive:=Lc) (fun _=>?_) (fun _=>Lc.fail)
  split<;>first|exact Lc.fail|exact Lc.jH _
 ·split<;>first|exact Lc.fail|skip
  split<;>first|exact Lc.fail|exact Lc.jH _
 ·exact Lc.mK _
theorem Lc.lz(id:Nat)(t:TypeId):Lc (lz P id t):=by
 unfold Dw.lz
 split<;>first|exact Lc.fail|exact Lc.bind (Lc.js _) fun _=>Lc.pure _
theorem Lc.kI(t:TypeId)(x k:RV)(ok:Bool):Lc (kI P t x k ok):=by
 unfold Dw.kI
 split<;>first|exact Lc.fail|skip
 refine Lc.bind (Lc.get _) fun bx=>?_
 split<;>first|exact Lc.fail|skip
 split<;>first|exact Lc.fail|skip
 split<;>first|exact Lc.fail|(split<;>exact Lc.jH _)
theorem Lc.lq(t:TypeId)(x k v:RV):Lc (lq P t x k v):=by
 unfold Dw.lq
 split<;>first|exact Lc.fail|skip
 refine Lc.bind (Lc.get _) fun bx=>?_
 split<;>first|exact Lc.fail|skip
 split<;>first|exact Lc.fail|skip
 refine Lc.bind (Lc.kP _) fun p=>?_
 obtain⟨p,u⟩:=p
 dsimp only
 split<;>first|exact Lc.fail|(split<;>first|exact Lc.fail|exact Lc.jb _ _|exact Lc.pure _)
theorem Lc.j8(id:Nat)(t:TypeId)(l c:RV):Lc (j8 P id t l c):=by
 unfold Dw.j8
 split<;>first|exact Lc.fail|skip
 split<;>first|exact Lc.fail|exact Lc.bind (Lc.js _) fun _=>Lc.jb _ _
theorem Lc.nA(id:Nat)(t t':TypeId)(a x:RV):Lc (nA P id t t' a x):=by
 unfold Dw.nA
 split<;>first|exact Lc.fail|skip
 split<;>first|exact Lc.fail|exact Lc.bind (Lc.js _) fun _=>Lc.jb _ _
theorem Lc.capD(t:TypeId)(x:RV):Lc (capD P t x):=by
 unfold Dw.capD
 split<;>first|exact Lc.fail|exact Lc.jH _
theorem Lc.ifcD(t:TypeId)(x:RV):Lc (ifcD P t x):=by
 unfold Dw.ifcD
 split<;>first|exact Lc.fail|exact Lc.jH _
theorem Lc.mc(x:RV)(t:TypeId)(ok:Bool):Lc (mc P x t ok):=by
 unfold Dw.mc
 split<;>first|exact Lc.fail|skip
 exact iteInduction (motive:=Lc) (fun _=>Lc.jH _) (fun _=>Lc.fail)
theorem Lc.mn(mt:Hf)(call:jd)(base:Nat)(x:RV)(name:String)(as:List RV):Lc (mn P mt call base x name as):=by
 unfold Dw.mn
 split<;>first|exact Lc.fail|skip
 split<;>first|exact Lc.fail|exact Lc.kR _ _ _ _ _|skip
 exact Lc.bind (Lc.l7 P _ _) fun _=>Lc.kR _ _ _ _ _
theorem Lc.jr(mt:Hf)(call:jd)(s:St)(o:Oper):Lc (jr P mt call s o):=by
 unfold Dw.jr
 split
 all_goals (try exact Lc.fail)
 all_goals (try exact Lc.nI P _ _)
 all_goals (split<;>first|exact Lc.fail|exact Lc.jH _|exact Lc.ifcD P _ _|exact Lc.mc P _ _ _|exact Lc.boxD _ _|exact Lc.nK P _ _|exact Lc.j7 P _ _ _ _ _|exact Lc.l7 P _ _|exact Lc.mE P _ _ _|exact Lc.nF _ _|exact Lc.mK _|exact Lc.jV P _ _ _ _ _ _|exact Lc.kx P _ _ _|exact Lc.nL P _ _ _|exact Lc.jU P _ _ _|exact Lc.mW P _ _ _|exact Lc.minD _|exact Lc.maxD _|exact Lc.kI P _ _ _ _|exact Lc.lq P _ _ _ _|exact Lc.lz P _ _|exact Lc.j8 P _ _ _ _|exact Lc.mI P _ _ _ _|skip)
 all_goals (split<;>first|exact Lc.fail|exact Lc.jH _|exact Lc.mn P _ _ _ _ _ _|exact Lc.lenD P _ _|exact Lc.capD P _ _|exact Lc.kE P _ _ _ _ _|exact Lc.oU P _ _ _|exact Lc.lR P _ _|exact Lc.pk P _ _ _ _ _|exact Lc.jV P _ _ _ _ _ _|exact Lc.kR _ _ _ _ _|(split<;>first|exact Lc.fail|exact Lc.jH _|exact Lc.kE P _ _ _ _ _|exact Lc.nA P _ _ _ _ _))
end
theorem nS{s s':St}:∀{xs:List Operand},(∀x∈xs,s.opd x=s'.opd x)->k9 s xs=k9 s' xs
 | [],_=>rfl
 |x::xs,h=>by simp only [k9];rw [h x sm,nS fun y hy=>h y (by simp [hy])]
theorem lB{s s':St}:∀{xs:List (Nat×Operand)},(∀x∈xs.map (·.2),s.opd x=s'.opd x)->jX s xs=jX s' xs
 | [],_=>rfl
 |(i,x)::xs,h=>by simp only [jX];rw [h x sm,lB fun y hy=>h y (by simp only [List.map_cons,List.mem_cons];exact .inr hy)]
theorem lr{s s':St}{x:Option Operand}(h:∀y∈x.toArray,s.opd y=s'.opd y):jG s x=jG s' x:=by
 cases x with
 |none=>rfl
 |some y=>simp only [jG];rw [h y sm]
theorem tB{P:Program}{mt:Hf}{call:jd}{s s':St}(o:Oper)(h:∀x∈o.op.operands,s.opd x=s'.opd x):jr P mt call s o=jr P mt call s' o:=by
 unfold jr
 rcases hop:o.op with x|x|⟨c,x,y⟩|t|⟨t,x⟩|⟨t,parts⟩|⟨t,len,parts⟩|⟨t,m,k,x⟩|⟨t,x⟩|⟨t,x,y⟩|g|g|x|⟨op,t,x,y,t2⟩|⟨op,t,x⟩|⟨t,t2,x⟩|⟨t,x⟩|⟨t,x⟩|⟨fn,x,y⟩|⟨t,x⟩|⟨t,x⟩|⟨t,x,y⟩|⟨t,x,lo,hi,mx⟩|⟨t,x,f⟩|⟨t,x,f⟩|⟨t,x,y⟩|⟨t,x,y⟩|⟨t,x,y,c⟩|⟨t,x,y,c⟩|⟨t,x,y⟩|⟨t,x,y,c⟩|⟨t,x⟩|⟨x,b⟩|x|⟨x,t,t2,b⟩|⟨x,i⟩|c|c|c|x|⟨x,y⟩|⟨t,x,b⟩|⟨cs,b⟩
 all_goals (simp only [hop,Op.operands]at h)
 all_goals (try simp only)
 all_goals (try rw [h x sm])
 all_goals (try rw [h y sm])
 ·rw [h c sm]
 ·rw [lB fun x hx=>h x (by simpa using hx)]
 ·rw [lB fun x hx=>h x (by simpa using hx)]
 ·cases op<;>(try simp only)<;>rw [h x sm]
 ·rw [nS (s:=s) (s':=s') (xs:=y.toList) fun x hx=>h x (by simp only [Array.mem_append];exact .inr (by simpa using hx))]
  cases k9 s' y.toList with
  |none=>rfl
  |some l=>
  rcases hx:x.toList with _|⟨x0,_|⟨x1,xs⟩⟩
  ·cases fn<;>rfl
  ·have h0:s.opd x0=s'.opd x0:=h x0 (by simp only [Array.mem_append];exact .inl (by rw [<-Array.mem_toList_iff,hx];exact List.mem_singleton.2 rfl))
   cases fn<;>first|rfl|(simp only [];rw [h0])
  ·cases fn<;>rfl
 ·rw [lr (x:=x) fun y hy=>h y (by simpa using hy)]
 ·rw [lr (x:=lo) fun y hy=>h y (by simp only [Array.mem_append];exact .inl (.inl (.inr hy))),lr (x:=hi) fun y hy=>h y (by simp only [Array.mem_append];exact .inl (.inr hy)),lr (x:=mx) fun y hy=>h y (by simp only [Array.mem_append];exact .inr hy)]
 ·rw [h c sm]
 ·have ha:k9 s c.args.toList=k9 s' c.args.toList:=nS fun x hx=>h x (by simp only [Call.operands,Array.mem_append];exact .inr (by simpa using hx))
  rw [ha]
  cases hc:c.callee with
  |value f=>
   have hf:s.opd f=s'.opd f:=h f (by simp [Call.operands,hc])
   cases k9 s' c.args.toList with
   |none=>rfl
   |some l=>simp only [hf]
  |invoke rc m=>
   have hf:s.opd rc=s'.opd rc:=h rc (by simp [Call.operands,hc])
   cases k9 s' c.args.toList with
   |none=>rfl
   |some l=>simp only [hf]
  |builtin b=>
   cases k9 s' c.args.toList with
   |none=>cases b<;>rfl
   |some l=>rcases l with _|⟨x,_|⟨y,_|⟨z,l⟩⟩⟩<;>cases b<;>rfl
end Go.Dw
namespace Go.Dw
theorem tT:∀(u:Ups)(s s':St)(id:Nat),id∈u.map (·.1)->(s.ups u).boxes id=(s'.ups u).boxes id
 | [],_,_,_,h=>by simp at h
 |(i,b)::r,s,s',id,h=>by
  rw [j9,j9]
  by_cases hr:id∈r.map (·.1)
  ·exact tT r _ _ id hr
  ·rw [j0 _ _ _ hr,j0 _ _ _ hr]
   have:id=i:=by simpa [hr]using h
   subst this
   show upd s.boxes id b id=upd s'.boxes id b id
   rw [ji,ji]
theorem kC(s:St)(d:Option Nat)(v:RV):(s.put d v).boxes=s.boxes:=by cases d<;>rfl
theorem St.ext'{s s':St}(h1:s.jh=s'.jh)(h2:s.boxes=s'.boxes):s=s':=by
 obtain⟨a,b⟩:=s
 obtain⟨c,d⟩:=s'
 simp only at h1 h2
 subst h1;subst h2
 rfl
theorem qi{s:St}{u1 u2:Ups}{d1 d2:Option Nat}{v1 v2:RV}(hu:disj (u1.map (·.1)) (u2.map (·.1))=true)(hd:∀d,d1=some d->d2≠some d):
  ((((s.ups u1).put d1 v1).ups u2).put d2 v2)=((((s.ups u2).put d2 v2).ups u1).put d1 v1):=by
 have hu:=nj hu
 refine St.ext' ?_ ?_
 ·cases d1 with
  |none=>
   cases d2 with
   |none=>simp only [St.put,ko]
   |some e=>simp only [St.put,ko]
  |some d=>
   cases d2 with
   |none=>simp only [St.put,ko]
   |some e=>
    have hne:d≠e:=fun he=>hd d rfl (he▸rfl)
    simp only [St.put,ko]
    funext t
    by_cases h1:t=d
    ·subst h1;simp [hne]
    ·by_cases h2:t=e
     ·subst h2;simp [h1]
     ·simp [h1,h2]
 ·rw [kC,kC]
  funext id
  by_cases h1:id∈u1.map (·.1)
  ·have h2:id∉u2.map (·.1):=hu id h1
   rw [j0 _ _ _ h2,kC]
   rw [tT u1 _ ((s.ups u2).put d2 v2) id h1]
  ·by_cases h2:id∈u2.map (·.1)
   ·rw [j0 u1 _ _ h1,kC]
    rw [tT u2 _ s id h2]
   ·rw [j0 _ _ _ h2,kC,j0 _ _ _ h1,j0 _ _ _ h1,kC,j0 _ _ _ h2]
section
variable {P:Program}{mt:Hf}{call:jd}{ops:Array Oper}
theorem lL{o:Oper}{s s':St}{t:Tr}(h:step1 P mt call ops o s=some (s',t)):
  (iV ops s o=some true∧∃v u,jr P mt call s o s.boxes=some ((v,u),t.rd,true)∧s'=(s.ups u).put o.dst v∧t.wr=u.map (·.1))∨
  (iV ops s o=some false∧s'=s.put o.dst .undef∧t.rd=[]∧t.wr=[]):=by
 unfold step1 at h
 rcases hw:iV ops s o with _|w
 ·simp [hw]at h
 simp only [hw]at h
 cases w with
 |true=>
  simp only [if_true]at h
  rcases he:jr P mt call s o s.boxes with _|⟨⟨v,u⟩,rd,c⟩
  ·simp [he]at h
  simp only [he]at h
  cases c with
  |true=>
   simp only [if_true,Option.some.injEq,Prod.mk.injEq]at h
   obtain⟨rfl,rfl⟩:=h
   exact .inl ⟨rfl,v,u,rfl,rfl,rfl⟩
  |false=>simp at h
 |false=>
  simp only [Bool.false_eq_true,if_false,Option.some.injEq,Prod.mk.injEq]at h
  obtain⟨rfl,rfl⟩:=h
  exact .inr ⟨rfl,rfl,rfl,rfl⟩
theorem oq{o:Oper}{s:St}{v:RV}{u:Ups}{rd:List Nat}(hw:iV ops s o=some true)(he:jr P mt call s o s.boxes=some ((v,u),rd,true)):
  step1 P mt call ops o s=some ((s.ups u).put o.dst v,⟨rd,u.map (·.1)⟩):=by
 unfold step1;simp [hw,he]
theorem nX{o:Oper}{s:St}(hw:iV ops s o=some false):step1 P mt call ops o s=some (s.put o.dst .undef,⟨[],[]⟩):=by
 unfold step1;simp [hw]
theorem lN{o:Oper}{s s':St}(h:∀t∈o.looksAt ops,s.jh t=s'.jh t):iV ops s o=iV ops s' o:=by
 unfold iV
 cases hg:o.guard with
 |none=>rfl
 |some g=>
  obtain⟨j,want⟩:=g
  simp only
  cases ht:(ops[j]?).bind (·.dst)with
  |none=>rfl
  |some t=>
   simp only
   rw [h t (by simp [Oper.looksAt,hg,ht])]
theorem pP{o:Oper}{s s':St}(h:∀t∈o.looksAt ops,s.jh t=s'.jh t):jr P mt call s o=jr P mt call s' o:=by
 refine tB o fun x hx=>?_
 cases x with
 |tmp t=>exact h t (List.mem_append_left _ (List.mem_filterMap.2 ⟨.tmp t,by simpa using hx,rfl⟩))
 |const v=>rfl
 |global g=>rfl
 |func f=>rfl
theorem sY{o:Oper}{s s1 s':St}{t:Tr}{d:Option Nat}{u:Ups}{v:RV}(h:step1 P mt call ops o s1=some (s',t))(hs:s1=(s.ups u).put d v)
  (hd:∀e,d=some e->e∉o.looksAt ops) (hu:disj (u.map (·.1)) t.rd=true):
  ∃v' u',t.wr=u'.map (·.1)∧s'=(s1.ups u').put o.dst v'∧step1 P mt call ops o s=some ((s.ups u').put o.dst v',t):=by
 have hregs:∀t∈o.looksAt ops,s1.jh t=s.jh t:=by
  intro t ht
  subst hs
  cases d with
  |none=>simp only [St.put,ko]
  |some e=>
   have:t≠e:=fun he=>hd e rfl (he▸ht)
   simp only [St.put,ko,this,if_false]
 have hu:=nj hu
 rcases lL h with⟨hw,v',u',he,h1,h2⟩|⟨hw,h1,h2,h3⟩
 ·have hw':iV ops s o=some true:=by rw [<-lN hregs];exact hw
  have he':jr P mt call s o s.boxes=some ((v',u'),t.rd,true):=by
   rw [<-pP (P:=P) (mt:=mt) (call:=call) hregs]
   refine Lc.jr P mt call s1 o _ _ _ _ _ he fun id hid=>?_
   subst hs
   rw [kC,j0 _ _ _ (fun hm=>hu id hm hid)]
  refine⟨v',u',h2,h1,?_⟩
  rw [oq hw' he']
  obtain⟨rd,wr⟩:=t
  simp only at h2
  rw [h2]
 ·have hw':iV ops s o=some false:=by rw [<-lN hregs];exact hw
  refine⟨.undef,[],by rw [h3];rfl,h1,?_⟩
  rw [nX hw']
  obtain⟨rd,wr⟩:=t
  simp only at h2 h3
  rw [h2,h3]
  rfl
theorem commute{x y:Oper}{s s1 s2:St}{tx ty:Tr}(h1:step1 P mt call ops x s=some (s1,tx))(h2:step1 P mt call ops y s1=some (s2,ty))(hp:oM ops (x,tx) (y,ty)=true):
  ∃s3,step1 P mt call ops y s=some (s3,ty)∧step1 P mt call ops x s3=some (s2,tx):=by
 simp only [oM,Bool.and_eq_true]at hp
 obtain⟨⟨⟨hap,hd1⟩,hd2⟩,hd3⟩:=hp
 obtain⟨a1,a2,a3⟩:=Oper.apart_spec hap
 have hx:∃v u,s1=(s.ups u).put x.dst v∧tx.wr=u.map (·.1):=by
  rcases lL h1 with⟨_,v,u,_,h3,h4⟩|⟨_,h3,_,h4⟩
  ·exact⟨v,u,h3,h4⟩
  ·exact⟨.undef,[],h3,by rw [h4];rfl⟩
 obtain⟨vx,ux,hs1,hwx⟩:=hx
 obtain⟨vy,uy,hwy,hs2,hy⟩:=sY h2 hs1 a1 (by rw [<-hwx];exact hd1)
 refine⟨_,hy,?_⟩
 have hregs:∀t∈x.looksAt ops,((s.ups uy).put y.dst vy).jh t=s.jh t:=by
  intro t ht
  cases hdy:y.dst with
  |none=>simp only [St.put,ko]
  |some e=>
   have:t≠e:=fun he=>a3 e hdy (he▸ht)
   simp only [St.put,ko,this,if_false]
 have hd2:=nj hd2
 rcases lL h1 with⟨hw,v,u,he,h3,h4⟩|⟨hw,h3,h4,h5⟩
 ·have hw':iV ops ((s.ups uy).put y.dst vy) x=some true:=by rw [lN hregs];exact hw
  have he':jr P mt call ((s.ups uy).put y.dst vy) x ((s.ups uy).put y.dst vy).boxes=some ((v,u),tx.rd,true):=by
   rw [pP (P:=P) (mt:=mt) (call:=call) hregs]
   refine Lc.jr P mt call s x _ _ _ _ _ he fun id hid=>?_
   rw [kC,j0 _ _ _ (fun hm=>hd2 id (by rw [hwy];exact hm) hid)]
  rw [oq hw' he',hs2,h3]
  rw [qi (by rw [<-h4, <-hwy];exact hd3) a2]
  obtain⟨rd,wr⟩:=tx
  simp only at h4
  rw [h4]
 ·have hw':iV ops ((s.ups uy).put y.dst vy) x=some false:=by rw [lN hregs];exact hw
  rw [nX hw',hs2,h3]
  have:=qi (s:=s) (u1:=[]) (u2:=uy) (d1:=x.dst) (d2:=y.dst) (v1:= .undef) (v2:=vy) (by rfl) a2
  simp only [St.ups]at this
  rw [this]
  obtain⟨rd,wr⟩:=tx
  simp only at h4 h5
  rw [h4,h5]
theorem mg{o:Oper}{r:List Oper}{s sF:St}{ts:List Tr}(h:j5 P mt call ops (o::r) s=some (sF,ts)):
  ∃s1 t ts',step1 P mt call ops o s=some (s1,t)∧j5 P mt call ops r s1=some (sF,ts')∧ts=t::ts':=by
 unfold j5 at h
 rcases h1:step1 P mt call ops o s with _|⟨s1,t⟩
 ·simp [h1]at h
 simp only [h1]at h
 rcases h2:j5 P mt call ops r s1 with _|⟨s2,ts'⟩
 ·simp [h2]at h
 simp only [h2,Option.some.injEq,Prod.mk.injEq]at h
 exact⟨s1,t,ts',rfl,by rw [h2,h.1],h.2.symm⟩
theorem evOps_mk{o:Oper}{r:List Oper}{s s1 sF:St}{t:Tr}{ts:List Tr}(h1:step1 P mt call ops o s=some (s1,t))(h2:j5 P mt call ops r s1=some (sF,ts)):
  j5 P mt call ops (o::r) s=some (sF,t::ts):=by
 unfold j5;simp [h1,h2]
theorem o4:∀(l1:List (Oper×Tr)){o:Oper}{t:Tr}{l2:List (Oper×Tr)}{s sF:St},
  j5 P mt call ops ((l1++(o,t)::l2).map (·.1)) s=some (sF,(l1++(o,t)::l2).map (·.2))->(∀x∈l1,oM ops x (o,t)=true)->
  ∃s1,step1 P mt call ops o s=some (s1,t)∧j5 P mt call ops ((l1++l2).map (·.1)) s1=some (sF,(l1++l2).map (·.2))
 | [],o,t,l2,s,sF,h,_=>by
  simp only [List.nil_append,List.map_cons]at h
  obtain⟨s1,t',ts',h1,h2,h3⟩:=mg h
  cases h3
  exact⟨s1,h1,h2⟩
 |(x,tx)::l1,o,t,l2,s,sF,h,hp=>by
  simp only [List.cons_append,List.map_cons]at h
  obtain⟨s1,t',ts',h1,h2,h3⟩:=mg h
  cases h3
  obtain⟨s2,h4,h5⟩:=o4 l1 h2 (fun y hy=>hp y (by simp [hy]))
  obtain⟨s3,h6,h7⟩:=commute h1 h4 (hp (x,tx) sm)
  exact⟨s3,h6,by simp only [List.cons_append,List.map_cons];exact evOps_mk h7 h5⟩
theorem pE:∀(l:List Oper)(acc:List Nat)(i:Nat),i<acc.length->(pD l acc).getD i 0=acc.getD i 0
 | [],acc,i,_=>rfl
 |o::r,acc,i,h=>by
  rw [pD,pE r _ i so]
  simp only [List.getD_eq_getElem?_getD]
  rw [List.getElem?_append_left h]
theorem pR(acc:List Nat):∀(es:List Edge)(b j:Nat),(es.foldl (fun b e=>if Region.binds .any e then b ||| (2 ^ e.on ||| acc.getD e.on 0)else b) b).testBit j=true->
  b.testBit j=true∨∃e∈es,Region.binds .any e=true∧(e.on=j∨(acc.getD e.on 0).testBit j=true)
 | [],b,j,h=>.inl h
 |e::es,b,j,h=>by
  simp only [List.foldl_cons]at h
  rcases pR acc es _ j h with h1|⟨e',h1,h2,h3⟩
  ·by_cases hb:Region.binds .any e=true
   ·simp only [hb,if_true,Nat.testBit_or,Bool.or_eq_true,Nat.testBit_two_pow,decide_eq_true_eq]at h1
    rcases h1 with h1|h1|h1
    ·exact .inl h1
    ·exact .inr ⟨e,sm,hb,.inl h1⟩
    ·exact .inr ⟨e,sm,hb,.inr h1⟩
   ·simp only [hb]at h1;exact .inl h1
  ·exact .inr ⟨e',by simp [h1],h2,h3⟩
theorem oA:∀(l:List Oper)(acc:List Nat)(i:Nat)(o:Oper),l[i]? =some o->∀j,((pD l acc).getD (acc.length+i) 0).testBit j=true->
  ∃e∈o.after,Region.binds .any e=true∧(e.on=j∨(e.on<acc.length+i∧((pD l acc).getD e.on 0).testBit j=true))
 | [],acc,i,o,h,_,_=>by simp at h
 |x::r,acc,0,o,h,j,hj=>by
  simp only [List.getElem?_cons_zero,Option.some.injEq]at h
  subst h
  rw [pD,Nat.add_zero,pE r _ acc.length sm]at hj
  simp only [List.getD_eq_getElem?_getD,List.getElem?_concat_length,Option.getD_some]at hj
  rcases pR acc x.after.toList 0 j hj with h1|⟨e,h1,h2,h3⟩
  ·simp at h1
  ·refine⟨e,by simpa using h1,h2,?_⟩
   rcases h3 with h3|h3
   ·exact .inl h3
   ·by_cases hlt:e.on<acc.length
    ·refine .inr ⟨om,?_⟩
     rw [pD,pE r _ e.on so]
     simp only [List.getD_eq_getElem?_getD]at h3⊢
     rw [List.getElem?_append_left hlt]
     exact h3
    ·rw [List.getD_eq_getElem?_getD,List.getElem?_eq_none om]at h3
     simp at h3
 |x::r,acc,i+1,o,h,j,hj=>by
  simp only [List.getElem?_cons_succ]at h
  rw [pD]at hj⊢
  have := oA r (acc ++ [x.after.toList.foldl (fun b e => if Region.binds .any e then b ||| (2 ^ e.on ||| acc.getD e.on 0) else b) 0]) i o h j (by
   simp only [List.length_append,List.length_singleton]
   rw [show acc.length+1+i=acc.length+(i+1)by omega]
   exact hj)
  simp only [List.length_append,List.length_singleton]at this
  rw [show acc.length+1+i=acc.length+(i+1)by omega]at this
  exact this
theorem th{listed:Array Bool}(hclosed:∀(i:Nat)o,ops[i]? =some o->listed.getD i false=true->∀e∈o.after,Region.binds .any e=true->listed.getD e.on false=true)(hsz:listed.size=ops.size):
  ∀(n i:Nat)(o:Oper),i<=n->ops[i]? =some o->(∀e∈o.after,Region.binds .any e=true->listed.getD e.on false=true)->∀j,((pD ops.toList []).getD i 0).testBit j=true->listed.getD j false=true:=by
 intro n
 induction n with
 |zero=>
  intro i o hi ho he j hj
  have h0:i=0:=by omega
  subst h0
  obtain⟨e,h1,h2,h3⟩:=oA ops.toList [] 0 o (by simpa using ho) j (by simpa using hj)
  rcases h3 with rfl|⟨h3,_⟩
  ·exact he e h1 h2
  ·simp at h3
 |succ n ih=>
  intro i o hi ho he j hj
  obtain⟨e,h1,h2,h3⟩:=oA ops.toList [] i o (by simpa using ho) j (by simpa using hj)
  rcases h3 with rfl|⟨h3,h4⟩
  ·exact he e h1 h2
  ·simp only [List.length_nil,Nat.zero_add]at h3
   have hl:=he e h1 h2
   have hlt:e.on<ops.size:=by
    rcases Nat.lt_or_ge e.on listed.size with h|h
    ·omega
    ·simp [Array.getElem?_eq_none h]at hl
   have ho2:ops[e.on]? =some ops[e.on]:=Array.getElem?_eq_getElem hlt
   exact ih e.on _ om ho2 (hclosed e.on _ ho2 hl) j h4
end
end Go.Dw
