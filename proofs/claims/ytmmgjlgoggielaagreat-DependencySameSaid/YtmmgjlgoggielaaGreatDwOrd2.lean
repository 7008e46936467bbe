
import Derived.Test.YtmmgjlgoggielaaGreatDwOp

namespace Go.Dw
def Lc{α:Type}(m:M α):Prop:=∀b b' a r c,m b=some (a,r,c)->(∀id∈r,b' id=b id)->m b'=some (a,r,c)
theorem Lc.pure{α:Type}(a:α):Lc (M.pure a):=fun _ _ _ _ _ h _=>h
theorem Lc.pR{α:Type}(k:Bool)(a:α):Lc (M.pR k a):=fun _ _ _ _ _ h _=>h
theorem Lc.fail{α:Type}:Lc (M.fail:M α):=fun _ _ _ _ _ h _=>h
theorem Lc.get(id:Nat):Lc (M.get id):=by
 intro b b' a r c h hb
 obtain⟨h1,h2,h3⟩:=M.get_some h
 subst h2;subst h3
 simp [M.get,hb id sm,h1]
theorem Lc.qc(id:Nat):Lc (M.qc id):=by
 intro b b' a r c h hb
 obtain⟨h1,h2,h3⟩:=M.qx h
 subst h2;subst h3
 simp [M.qc,hb id sm,h1]
theorem Lc.bind{α β:Type}{m:M α}{f:α->M β}(hm:Lc m)(hf:∀a,Lc (f a)):Lc (M.bind m f):=by
 intro b b' x r c h hb
 unfold M.bind at h⊢
 rcases h1:m b with _|⟨a,r1,c1⟩
 ·simp [h1]at h
 simp only [h1]at h
 rcases h2:f a b with _|⟨y,r2,c2⟩
 ·simp [h2]at h
 simp only [h2,Option.some.injEq,Prod.mk.injEq]at h
 obtain⟨rfl,rfl,rfl⟩:=h
 rw [hm b b' a r1 c1 h1 (fun id hid=>hb id (List.mem_append.2 (.inl hid)))]
 simp only [hf a b b' y r2 c2 h2 (fun id hid=>hb id (List.mem_append.2 (.inr hid)))]
theorem Lc.qI(v:RV):Lc (qI v):=Lc.pure _
theorem Lc.ql(k:Bool)(v:RV):Lc (ql k v):=Lc.pR _ _
theorem Lc.ve(o:Option (PD×Bool)):Lc (ve o):=by unfold Dw.ve;split<;>first|exact Lc.pR _ _|exact Lc.fail
theorem Lc.w9(v:RV):Lc (w9 v):=by
 unfold Dw.w9
 split<;>first|exact Lc.pure _|exact Lc.fail|skip
 all_goals refine Lc.bind (Lc.get _) fun bx=>?_
 all_goals (split<;>first|exact Lc.fail|skip)
 all_goals (split<;>first|exact Lc.pure _|exact Lc.pR _ _|exact Lc.fail)
theorem Lc.ud:∀(cs:List RV),Lc (ud cs)
 | []=>Lc.pure _
 |c::cs=>Lc.bind (Lc.w9 c) fun _=>Lc.bind (Lc.ud cs) fun _=>Lc.pure _
theorem Lc.tv(v:RV):Lc (tv v):=by
 unfold Dw.tv
 split
 ·exact Lc.bind (Lc.ud _) fun _=>Lc.pure _
 ·exact Lc.w9 _
section
variable (P:Program)
theorem Lc.tw(t:TypeId)(cs:List PD):Lc (tw P t cs):=by
 unfold Dw.tw
 split<;>first|exact Lc.fail|exact Lc.ql _ _|skip
 split<;>first|exact Lc.fail|exact Lc.qI _
theorem Lc.sI(t:TypeId)(cs:List RV)(o:Nat):Lc (sI P t cs o):=by
 unfold Dw.sI
 split<;>first|exact Lc.fail|exact Lc.ql _ _|skip
 split<;>first|exact Lc.fail|exact Lc.qI _
theorem Lc.tC(t:TypeId)(a:RV):Lc (tC P t a):=by
 unfold Dw.tC
 split
 ·exact Lc.tw P t _
 ·refine Lc.bind (Lc.get _) fun bx=>?_
  split<;>first|exact Lc.sI P t _ _|exact Lc.fail
 ·refine Lc.bind (Lc.get _) fun bx=>?_
  split<;>first|exact Lc.fail|skip
  ·split<;>first|exact Lc.fail|skip
   split<;>first|exact Lc.fail|exact Lc.tw P t _
  ·split<;>first|exact Lc.fail|skip
   split<;>first|exact Lc.fail|exact Lc.qI _
 ·exact Lc.fail
theorem Lc.uq(t:TypeId)(a v:RV):Lc (uq P t a v):=by
 unfold Dw.uq
 split<;>first|exact Lc.fail|skip
 split
 ·refine Lc.bind (Lc.get _) fun bx=>?_
  split<;>first|exact Lc.pR _ _|exact Lc.fail|skip
 ·refine Lc.bind (Lc.get _) fun bx=>?_
  split<;>first|exact Lc.fail|skip
  ·split<;>first|exact Lc.fail|skip
   refine Lc.bind (Lc.tv _) fun p=>?_
   obtain⟨p,u⟩:=p
   dsimp only
   split<;>first|exact Lc.fail|skip
   split<;>first|exact Lc.fail|exact Lc.pR _ _
  ·exact iteInduction (motive:=Lc) (fun _=>Lc.pR _ _) (fun _=>Lc.fail)
 ·exact Lc.fail
theorem Lc.wj(off:Nat)(x:RV):Lc (wj off x):=by
 unfold Dw.wj
 split
 ·refine Lc.bind (Lc.get _) fun bx=>?_
  split<;>first|exact Lc.qI _|exact Lc.fail
 ·refine Lc.bind (Lc.get _) fun bx=>?_
  split<;>first|exact Lc.fail|skip
  split<;>first|exact Lc.qI _|exact Lc.fail
 ·exact Lc.qI _
 ·exact Lc.fail
theorem Lc.sg(t:TypeId)(x:RV)(f:Nat):Lc (sg P t x f):=by
 unfold Dw.sg
 split<;>first|exact Lc.fail|skip
 split<;>first|exact Lc.fail|exact Lc.wj _ _
theorem Lc.wu(t:TypeId)(x:RV)(f:Nat):Lc (wu P t x f):=by
 unfold Dw.wu
 split<;>first|exact Lc.fail|exact Lc.sI P _ _ _
theorem Lc.wy(x i:RV):Lc (wy x i):=by
 unfold Dw.wy
 repeat' split
 all_goals first|exact Lc.ql _ _|exact Lc.fail
theorem Lc.xn(len:Nat)(e:TypeId)(x i:RV):Lc (xn P len e x i):=by
 unfold Dw.xn
 repeat' split
 all_goals first|exact Lc.bind (Lc.pR _ _) fun _=>Lc.sI _ _ _ _|exact Lc.fail
theorem Lc.vF(t:TypeId)(x i:RV):Lc (vF P t x i):=by
 unfold Dw.vF
 repeat' split
 all_goals first|exact Lc.wy _ _|exact Lc.xn _ _ _ _ _|exact Lc.fail
theorem Lc.qN(t:TypeId)(x i:RV):Lc (qN P t x i):=by
 unfold Dw.qN
 split
 ·split<;>first|exact Lc.fail|skip
  split<;>first|exact Lc.fail|exact Lc.ql _ _|skip
  all_goals refine Lc.bind (Lc.get _) fun bx=>?_
  all_goals (split<;>first|exact Lc.fail|exact Lc.ql _ _|skip)
  all_goals (split<;>first|exact Lc.fail|exact Lc.ql _ _)
 ·split<;>first|exact Lc.fail|skip
  exact Lc.bind (Lc.pR _ _) fun _=>Lc.wj _ _
 ·exact Lc.fail
theorem Lc.sliceB(e:TypeId)(id ver a b:Nat)(lo hi:Option RV):Lc (sliceB P e id ver a b lo hi):=by
 unfold Dw.sliceB
 split<;>first|exact Lc.fail|skip
 refine Lc.bind (Lc.get _) fun bx=>?_
 split<;>first|exact Lc.fail|skip
 split<;>first|exact Lc.fail|exact Lc.ql _ _
theorem Lc.xE(nid:Nat)(e:TypeId)(n:Nat)(lo hi mx:Option RV):Lc (xE P nid e n lo hi mx):=by
 unfold Dw.xE
 split<;>first|exact Lc.fail|skip
 split<;>first|exact Lc.fail|exact Lc.bind (Lc.qc _) fun _=>Lc.pR _ _
theorem Lc.wF(id:Nat)(a:TypeId):Lc (wF P id a):=by
 unfold Dw.wF
 split<;>first|exact Lc.fail|skip
 split<;>first|exact Lc.fail|skip
 refine Lc.bind (Lc.get _) fun bx=>?_
 split<;>first|exact Lc.fail|skip
 split<;>first|exact Lc.fail|skip
 split<;>first|exact Lc.fail|exact Lc.pR _ _
theorem Lc.wH(e:TypeId)(id ver:Nat)(lo hi:Option RV)(mx:RV):Lc (wH P e id ver lo hi mx):=by
 unfold Dw.wH
 split<;>first|exact Lc.fail|skip
 split<;>first|exact Lc.fail|skip
 refine Lc.bind (Lc.get _) fun bx=>?_
 split<;>first|exact Lc.fail|skip
 split<;>first|exact Lc.fail|exact Lc.pR _ _
theorem Lc.wG(a:TypeId)(cs:List PD):Lc (wG P a cs):=by
 unfold Dw.wG
 split<;>first|exact Lc.fail|skip
 split<;>first|exact Lc.fail|skip
 split<;>first|exact Lc.fail|exact Lc.pR _ _
theorem Lc.yH(e:TypeId)(es:List PD)(h m:Int):Lc (yH P e es h m):=by
 unfold Dw.yH
 split<;>first|exact Lc.fail|skip
 split<;>first|exact Lc.fail|exact Lc.pR _ _
theorem Lc.xX(t:TypeId)(x:RV)(lo hi mx:Option RV):Lc (xX P t x lo hi mx):=by
 unfold Dw.xX
 split<;>first|exact Lc.fail|exact Lc.yH P _ _ _ _|skip
 split<;>first|exact Lc.fail|skip
 refine Lc.bind (Lc.get _) fun bx=>?_
 split<;>first|exact Lc.fail|skip
 split<;>first|exact Lc.fail|exact Lc.pR _ _
theorem Lc.rp(nid:Nat)(t:TypeId)(x:RV)(lo hi mx:Option RV):Lc (rp P nid t x lo hi mx):=by
 unfold Dw.rp
 split
 ·refine Lc.bind (Lc.get _) fun bx=>?_
  split<;>first|exact Lc.fail|exact Lc.sliceB P _ _ _ _ _ _ _
 ·exact Lc.sliceB P _ _ _ _ _ _ _
 ·split<;>first|exact Lc.fail|exact Lc.wF P _ _
 ·split<;>first|exact Lc.fail|exact Lc.wG P _ _
 ·split<;>first|exact Lc.fail|(split<;>first|exact Lc.pure _|exact Lc.fail)
 ·exact Lc.xE P _ _ _ _ _ _
 ·exact Lc.wH P _ _ _ _ _ _
 all_goals first|exact Lc.fail|(split<;>first|exact Lc.fail|exact Lc.ql _ _)
theorem Lc.wq(t:TypeId)(l:List (Nat×RV)):Lc (wq P t l):=by
 unfold Dw.wq
 split
 ·split<;>first|exact Lc.fail|skip
  split<;>first|exact Lc.fail|exact Lc.ql _ _
 ·split<;>first|exact Lc.fail|skip
  split<;>first|exact Lc.fail|exact Lc.ql _ _
 ·exact Lc.fail
theorem Lc.wz(mt:Bool)(cs:List RV):Lc (wz mt cs):=by
 unfold Dw.wz
 split
 ·exact Lc.pure _
 ·exact Lc.ud _
theorem Lc.rH(mt:Bool)(id:Nat)(t:TypeId)(len:Nat)(l:List (Nat×RV)):Lc (rH P mt id t len l):=by
 unfold Dw.rH
 split<;>first|exact Lc.fail|skip
 split<;>first|exact Lc.fail|skip
 split<;>first|exact Lc.fail|skip
 split<;>first|exact Lc.fail|skip
 refine Lc.bind (Lc.wz _ _) fun p=>?_
 obtain⟨ps,u⟩:=p
 dsimp only
 split
 ·exact Lc.bind (Lc.qc _) fun _=>Lc.pR _ _
 ·exact Lc.pR _ _
theorem Lc.wm(id:Nat)(t:TypeId):Lc (wm P id t):=by
 unfold Dw.wm
 split<;>first|exact Lc.fail|exact Lc.bind (Lc.qc _) fun _=>Lc.pure _
theorem Lc.boxD(id:Nat)(v:RV):Lc (boxD id v):=Lc.bind (Lc.qc _) fun _=>Lc.pR _ _
theorem Lc.xu(t:TypeId)(x:RV):Lc (xu P t x):=by
 unfold Dw.xu
 split<;>first|exact Lc.fail|exact Lc.qI _|skip
 all_goals refine Lc.bind (Lc.get _) fun bx=>?_
 all_goals (split<;>first|exact Lc.fail|exact Lc.qI _|skip)
 all_goals (split<;>first|exact Lc.fail|exact Lc.qI _|exact Lc.ql _ _)
theorem Lc.su(x:RV):Lc (su x):=by
 unfold Dw.su
 split<;>first|exact Lc.fail|exact Lc.pure _|skip
 all_goals refine Lc.bind (Lc.get _) fun bx=>?_
 all_goals (split<;>first|exact Lc.fail|skip)
 all_goals (split<;>first|exact Lc.fail|exact Lc.pure _|exact Lc.pR _ _)
theorem Lc.rm(id:Nat)(t t':TypeId)(s x:RV):Lc (rm P id t t' s x):=by
 unfold Dw.rm
 split<;>first|exact Lc.fail|skip
 split<;>first|exact Lc.fail|skip
 split<;>first|exact Lc.fail|skip
 refine Lc.bind (Lc.su _) fun xs=>?_
 split
 ·exact Lc.bind (Lc.qc _) fun _=>Lc.pR _ _
 ·refine Lc.bind (Lc.get _) fun bx=>?_
  split<;>first|exact Lc.fail|skip
  all_goals (split<;>first|exact Lc.fail|exact Lc.pR _ _)
 ·refine Lc.bind (Lc.get _) fun bx=>?_
  split<;>first|exact Lc.fail|skip
  split<;>first|exact Lc.fail|exact Lc.pR _ _
 ·exact Lc.pR _ _
 ·exact Lc.fail
theorem Lc.dstM(x:RV):Lc (dstM x):=by
 unfold Dw.dstM
 split<;>first|exact Lc.fail|skip
 all_goals refine Lc.bind (Lc.get _) fun bx=>?_
 all_goals (split<;>first|exact Lc.fail|skip)
 all_goals (split<;>first|exact Lc.fail|exact Lc.pure _|exact Lc.pR _ _)
theorem Lc.uh(t:TypeId)(x:RV):Lc (uh P t x):=by
 unfold Dw.uh
 split<;>first|exact Lc.fail|skip
 split<;>first|exact Lc.fail|skip
 exact Lc.bind (Lc.dstM _) fun _=>Lc.pR _ _
theorem Lc.minD(l:List RV):Lc (minD l):=by
 unfold Dw.minD
 split<;>first|exact Lc.fail|skip
 split<;>first|exact Lc.fail|exact Lc.pure _
theorem Lc.maxD(l:List RV):Lc (maxD l):=by
 unfold Dw.maxD
 split<;>first|exact Lc.fail|skip
 split<;>first|exact Lc.fail|exact Lc.pure _
theorem Lc.argD(by_:Bool)(v:RV):Lc (argD by_ v):=by
 unfold Dw.argD
 split<;>first|exact Lc.pure _|exact Lc.bind (Lc.tv _) fun _=>Lc.pR _ _|(split<;>first|exact Lc.pure _|exact Lc.bind (Lc.tv _) fun _=>Lc.pure _|exact Lc.bind (Lc.tv _) fun _=>Lc.pR _ _)
theorem Lc.vz(by_:Nat->Bool):∀(i:Nat)(l:List RV),Lc (vz by_ i l)
 |_,[]=>Lc.pure _
 |i,v::r=>Lc.bind (Lc.argD _ v) fun _=>Lc.bind (Lc.vz by_ (i+1) r) fun _=>Lc.pure _
theorem Lc.ta:∀(n:Nat)(done todo:List Nat),Lc (ta n done todo)
 |0,_,_=>Lc.fail
 |_+1,_,[]=>Lc.pure _
 |n+1,done,i::todo=>by
  unfold Dw.ta
  split
  ·exact Lc.ta n _ _
  ·exact Lc.bind (Lc.get _) fun _=>Lc.ta n _ _
theorem Lc.vE:∀(l:List Nat),Lc (vE l)
 | []=>Lc.pure _
 |_::r=>Lc.bind (Lc.get _) fun _=>Lc.bind (Lc.vE r) fun _=>Lc.pure _
theorem Lc.se:∀(l:List Nat),Lc (se l)
 | []=>Lc.pure _
 |_::r=>Lc.bind (Lc.qc _) fun _=>Lc.se r
theorem Lc.sl(by_:FuncId->Nat->Bool)(call:qa)(f:FuncId)(base:Nat)(l:List RV):Lc (sl by_ call f base l):=by
 unfold Dw.sl
 refine Lc.bind (Lc.vz _ _ _) fun x=>Lc.bind (Lc.ta _ _ _) fun ids=>Lc.bind (Lc.vE _) fun bxs=>?_
 split<;>first|exact Lc.fail|skip
 split<;>first|exact Lc.fail|exact Lc.bind (Lc.se _) fun _=>Lc.pure _
theorem Lc.vd(id:Nat)(src dst:TypeId)(x:RV):Lc (vd P id src dst x):=by
 unfold Dw.vd
 split
 ·split<;>first|exact Lc.fail|exact Lc.bind (Lc.qc _) fun _=>Lc.pR _ _
 ·split<;>first|exact Lc.fail|skip
  refine Lc.bind (Lc.get _) fun bx=>?_
  split<;>first|exact Lc.fail|skip
  refine iteInduction (motive:=Lc) (fun _=>?_) (fun _=>Lc.fail)
  split<;>first|exact Lc.fail|exact Lc.qI _
 ·split<;>first|exact Lc.fail|skip
  split<;>first|exact Lc.fail|exact Lc.qI _
 ·exact Lc.ve _
theorem Lc.tp(id:Nat)(t:TypeId):Lc (tp P id t):=by
 unfold Dw.tp
 split<;>first|exact Lc.fail|exact Lc.bind (Lc.qc _) fun _=>Lc.pure _
theorem Lc.tO(id:Nat)(t:TypeId):Lc (tO P id t):=by
 unfold Dw.tO
 split<;>first|exact Lc.fail|skip
 split<;>first|exact Lc.fail|exact Lc.bind (Lc.qc _) fun _=>Lc.pure _
theorem Lc.sZ(nid:Nat)(t:TypeId)(x k:RV):Lc (sZ P nid t x k):=by
 unfold Dw.sZ
 split<;>first|exact Lc.fail|skip
 refine Lc.bind (Lc.get _) fun bx=>?_
 split<;>first|exact Lc.fail|skip
 refine iteInduction (motive:=Lc) (fun _=>?_) (fun _=>Lc.fail)
 refine Lc.bind (Lc.qc _) fun _=>?_
 split
 ·exact Lc.pR _ _
 ·exact iteInduction (motive:=Lc) (fun _=>Lc.pure _) (fun _=>Lc.fail)
 ·exact Lc.fail
theorem Lc.rJ(x n v:RV):Lc (rJ x n v):=by
 unfold Dw.rJ
 split<;>first|exact Lc.fail|skip
 refine Lc.bind (Lc.get _) fun bx=>?_
 split<;>first|exact Lc.fail|skip
 refine Lc.bind (Lc.get _) fun bx=>?_
 split<;>first|exact Lc.fail|skip
 refine iteInduction (motive:=Lc) (fun _=>?_) (fun _=>Lc.fail)
 split<;>first|exact Lc.fail|exact Lc.pure _
theorem Lc.tF(t:TypeId)(x k:RV)(ok:Bool):Lc (tF P t x k ok):=by
 unfold Dw.tF
 split<;>first|exact Lc.fail|skip
 refine Lc.bind (Lc.get _) fun bx=>?_
 split<;>first|exact Lc.fail|skip
 split<;>first|exact Lc.fail|skip
 split<;>first|exact Lc.fail|(split<;>exact Lc.qI _)
theorem Lc.uX(t:TypeId)(x k v:RV):Lc (uX P t x k v):=by
 unfold Dw.uX
 split<;>first|exact Lc.fail|skip
 refine Lc.bind (Lc.get _) fun bx=>?_
 split<;>first|exact Lc.fail|skip
 split<;>first|exact Lc.fail|skip
 refine Lc.bind (Lc.tv _) fun p=>?_
 obtain⟨p,u⟩:=p
 dsimp only
 split<;>first|exact Lc.fail|(split<;>first|exact Lc.fail|exact Lc.pR _ _|exact Lc.pure _)
theorem Lc.rn(id:Nat)(t:TypeId)(l c:RV):Lc (rn P id t l c):=by
 unfold Dw.rn
 split<;>first|exact Lc.fail|skip
 split<;>first|exact Lc.fail|exact Lc.bind (Lc.qc _) fun _=>Lc.pR _ _
theorem Lc.xI(id:Nat)(t t':TypeId)(a x:RV):Lc (xI P id t t' a x):=by
 unfold Dw.xI
 split<;>first|exact Lc.fail|skip
 split<;>first|exact Lc.fail|exact Lc.bind (Lc.qc _) fun _=>Lc.pR _ _
theorem Lc.capD(t:TypeId)(x:RV):Lc (capD P t x):=by
 unfold Dw.capD
 split<;>first|exact Lc.fail|exact Lc.qI _
theorem Lc.ifcD(t:TypeId)(x:RV):Lc (ifcD P t x):=by
 unfold Dw.ifcD
 split<;>first|exact Lc.fail|exact Lc.qI _
theorem Lc.uH(x:RV)(t:TypeId)(ok:Bool):Lc (uH P x t ok):=by
 unfold Dw.uH
 split<;>first|exact Lc.fail|skip
 exact iteInduction (motive:=Lc) (fun _=>Lc.qI _) (fun _=>Lc.fail)
theorem Lc.uS(mt:Hf)(call:qa)(base:Nat)(x:RV)(name:String)(as:List RV):Lc (uS P mt call base x name as):=by
 unfold Dw.uS
 split<;>first|exact Lc.fail|skip
 split<;>first|exact Lc.fail|exact Lc.sl _ _ _ _ _|skip
 exact Lc.bind (Lc.tC P _ _) fun _=>Lc.sl _ _ _ _ _
theorem Lc.qg(mt:Hf)(call:qa)(s:St)(o:Oper):Lc (qg P mt call s o):=by
 unfold Dw.qg
 split
 all_goals (try exact Lc.fail)
 all_goals (try exact Lc.wm P _ _)
 all_goals (split<;>first|exact Lc.fail|exact Lc.qI _|exact Lc.ifcD P _ _|exact Lc.uH P _ _ _|exact Lc.boxD _ _|exact Lc.wq P _ _|exact Lc.rH P _ _ _ _ _|exact Lc.tC P _ _|exact Lc.uq P _ _ _|exact Lc.wj _ _|exact Lc.ve _|exact Lc.rp P _ _ _ _ _ _|exact Lc.sg P _ _ _|exact Lc.wu P _ _ _|exact Lc.qN P _ _ _|exact Lc.vF P _ _ _|exact Lc.minD _|exact Lc.maxD _|exact Lc.tF P _ _ _ _|exact Lc.uX P _ _ _ _|exact Lc.tp P _ _|exact iteInduction (motive:=Lc) (fun _=>Lc.tO P _ _) (fun _=>Lc.tp P _ _)|exact Lc.sZ P _ _ _ _|exact Lc.rJ _ _ _|exact Lc.rn P _ _ _ _|exact Lc.vd P _ _ _ _|skip)
 all_goals (split<;>first|exact Lc.fail|exact Lc.qI _|exact Lc.uS P _ _ _ _ _ _|exact Lc.xu P _ _|exact Lc.capD P _ _|exact Lc.rm P _ _ _ _ _|exact Lc.uh P _ _|exact Lc.xX P _ _ _ _ _|exact Lc.rp P _ _ _ _ _ _|exact Lc.sl _ _ _ _ _|(split<;>first|exact Lc.fail|exact Lc.qI _|exact Lc.rm P _ _ _ _ _|exact Lc.xI P _ _ _ _ _))
end
theorem wC{s s':St}:∀{xs:List Operand},(∀x∈xs,s.opd x=s'.opd x)->sa s xs=sa s' xs
 | [],_=>rfl
 |x::xs,h=>by simp only [sa];rw [h x sm,wC fun y hy=>h y (by simp [hy])]
theorem tP{s s':St}:∀{xs:List (Nat×Operand)},(∀x∈xs.map (·.2),s.opd x=s'.opd x)->rr s xs=rr s' xs
 | [],_=>rfl
 |(i,x)::xs,h=>by simp only [rr];rw [h x sm,tP fun y hy=>h y (by simp only [List.map_cons,List.mem_cons];exact .inr hy)]
theorem tG{s s':St}{x:Option Operand}(h:∀y∈x.toArray,s.opd y=s'.opd y):qL s x=qL s' x:=by
 cases x with
 |none=>rfl
 |some y=>simp only [qL];rw [h y sm]
theorem Bd{P:Program}{mt:Hf}{call:qa}{s s':St}(o:Oper)(h:∀x∈o.op.operands,s.opd x=s'.opd x):qg P mt call s o=qg P mt call s' o:=by
 unfold qg
 rcases hop:o.op with x|x|⟨c,x,y⟩|t|⟨t,x⟩|⟨t,parts⟩|⟨t,len,parts⟩|⟨t,m,k,x⟩|⟨t,x⟩|⟨t,x,y⟩|g|g|x|⟨op,t,x,y,t2⟩|⟨op,t,x⟩|⟨t,t2,x⟩|⟨t,x⟩|⟨t,x⟩|⟨fn,x,y⟩|⟨t,x⟩|⟨t,x⟩|⟨t,x,y⟩|⟨t,x,lo,hi,mx⟩|⟨t,x,f⟩|⟨t,x,f⟩|⟨t,x,y⟩|⟨t,x,y⟩|⟨t,x,y,c⟩|⟨t,x,y,c⟩|⟨t,x,y⟩|⟨t,x,y,c⟩|⟨t,x⟩|⟨x,b⟩|x|⟨x,t,t2,b⟩|⟨x,i⟩|c|c|c|x|⟨x,y⟩|⟨t,x,b⟩|⟨cs,b⟩
 all_goals (simp only [hop,Op.operands]at h)
 all_goals (try simp only)
 all_goals (try rw [h x sm])
 all_goals (try rw [h y sm])
 ·rw [h c sm]
 ·rw [tP fun x hx=>h x (by simpa using hx)]
 ·rw [tP fun x hx=>h x (by simpa using hx)]
 ·cases op<;>(try simp only)<;>rw [h x sm]
 ·rw [wC (s:=s) (s':=s') (xs:=y.toList) fun x hx=>h x (by simp only [Array.mem_append];exact .inr (by simpa using hx))]
  cases sa s' y.toList with
  |none=>rfl
  |some l=>
  rcases hx:x.toList with _|⟨x0,_|⟨x1,xs⟩⟩
  ·cases fn<;>rfl
  ·have h0:s.opd x0=s'.opd x0:=h x0 (by simp only [Array.mem_append];exact .inl (by rw [<-Array.mem_toList_iff,hx];exact List.mem_singleton.2 rfl))
   cases fn<;>first|rfl|(simp only [];rw [h0])
  ·cases fn<;>rfl
 ·rw [tG (x:=x) fun y hy=>h y (by simpa using hy)]
 ·rw [tG (x:=lo) fun y hy=>h y (by simp only [Array.mem_append];exact .inl (.inl (.inr hy))),tG (x:=hi) fun y hy=>h y (by simp only [Array.mem_append];exact .inl (.inr hy)),tG (x:=mx) fun y hy=>h y (by simp only [Array.mem_append];exact .inr hy)]
 ·rw [h c sm]
 ·rw [h c sm]
 ·have ha:sa s c.args.toList=sa s' c.args.toList:=wC fun x hx=>h x (by simp only [Call.operands,Array.mem_append];exact .inr (by simpa using hx))
  rw [ha]
  cases hc:c.callee with
  |value f=>
   have hf:s.opd f=s'.opd f:=h f (by simp [Call.operands,hc])
   cases sa s' c.args.toList with
   |none=>rfl
   |some l=>simp only [hf]
  |invoke rc m=>
   have hf:s.opd rc=s'.opd rc:=h rc (by simp [Call.operands,hc])
   cases sa s' c.args.toList with
   |none=>rfl
   |some l=>simp only [hf]
  |builtin b=>
   cases sa s' c.args.toList with
   |none=>cases b<;>rfl
   |some l=>rcases l with _|⟨x,_|⟨y,_|⟨z,l⟩⟩⟩<;>cases b<;>rfl
end Go.Dw
namespace Go.Dw
theorem Bz:∀(u:Ups)(s s':St)(id:Nat),id∈u.map (·.1)->(s.ups u).boxes id=(s'.ups u).boxes id
 | [],_,_,_,h=>by simp at h
 |(i,b)::r,s,s',id,h=>by
  rw [rO,rO]
  by_cases hr:id∈r.map (·.1)
  ·exact Bz r _ _ id hr
  ·rw [rC _ _ _ hr,rC _ _ _ hr]
   have:id=i:=by simpa [hr]using h
   subst this
   show upd s.boxes id b id=upd s'.boxes id b id
   rw [pM,pM]
theorem sq(s:St)(d:Option Nat)(v:RV):(s.put d v).boxes=s.boxes:=by cases d<;>rfl
theorem St.ext'{s s':St}(h1:s.p8=s'.p8)(h2:s.boxes=s'.boxes):s=s':=by
 obtain⟨a,b⟩:=s
 obtain⟨c,d⟩:=s'
 simp only at h1 h2
 subst h1;subst h2
 rfl
theorem yZ{s:St}{u1 u2:Ups}{d1 d2:Option Nat}{v1 v2:RV}(hu:disj (u1.map (·.1)) (u2.map (·.1))=true)(hd:∀d,d1=some d->d2≠some d):
  ((((s.ups u1).put d1 v1).ups u2).put d2 v2)=((((s.ups u2).put d2 v2).ups u1).put d1 v1):=by
 have hu:=vU hu
 refine St.ext' ?_ ?_
 ·cases d1 with
  |none=>
   cases d2 with
   |none=>simp only [St.put,sd]
   |some e=>simp only [St.put,sd]
  |some d=>
   cases d2 with
   |none=>simp only [St.put,sd]
   |some e=>
    have hne:d≠e:=fun he=>hd d rfl (he▸rfl)
    simp only [St.put,sd]
    funext t
    by_cases h1:t=d
    ·subst h1;simp [hne]
    ·by_cases h2:t=e
     ·subst h2;simp [h1]
     ·simp [h1,h2]
 ·rw [sq,sq]
  funext id
  by_cases h1:id∈u1.map (·.1)
  ·have h2:id∉u2.map (·.1):=hu id h1
   rw [rC _ _ _ h2,sq]
   rw [Bz u1 _ ((s.ups u2).put d2 v2) id h1]
  ·by_cases h2:id∈u2.map (·.1)
   ·rw [rC u1 _ _ h1,sq]
    rw [Bz u2 _ s id h2]
   ·rw [rC _ _ _ h2,sq,rC _ _ _ h1,rC _ _ _ h1,sq,rC _ _ _ h2]
section
variable {P:Program}{mt:Hf}{call:qa}{ops:Array Oper}
theorem uc{o:Oper}{s s':St}{t:Tr}(h:sc P mt call ops o s=some (s',t)):
  (pO ops s o=some true∧∃v u,qg P mt call s o s.boxes=some ((v,u),t.rd,true)∧s'=(s.ups u).put o.dst v∧t.wr=u.map (·.1))∨
  (pO ops s o=some false∧s'=s.put o.dst .undef∧t.rd=[]∧t.wr=[]):=by
 unfold sc at h
 rcases hw:pO ops s o with _|w
 ·simp [hw]at h
 simp only [hw]at h
 cases w with
 |true=>
  simp only [if_true]at h
  rcases he:qg P mt call s o s.boxes with _|⟨⟨v,u⟩,rd,c⟩
  ·simp [he]at h
  simp only [he]at h
  cases c with
  |true=>
   simp only [if_true,Option.some.injEq,Prod.mk.injEq]at h
   obtain⟨rfl,rfl⟩:=h
   exact .inl ⟨rfl,v,u,rfl,rfl,rfl⟩
  |false=>simp at h
 |false=>
  simp only [Bool.false_eq_true,if_false,Option.some.injEq,Prod.mk.injEq]at h
  obtain⟨rfl,rfl⟩:=h
  exact .inr ⟨rfl,rfl,rfl,rfl⟩
theorem w8{o:Oper}{s:St}{v:RV}{u:Ups}{rd:List Nat}(hw:pO ops s o=some true)(he:qg P mt call s o s.boxes=some ((v,u),rd,true)):
  sc P mt call ops o s=some ((s.ups u).put o.dst v,⟨rd,u.map (·.1)⟩):=by
 unfold sc;simp [hw,he]
theorem wJ{o:Oper}{s:St}(hw:pO ops s o=some false):sc P mt call ops o s=some (s.put o.dst .undef,⟨[],[]⟩):=by
 unfold sc;simp [hw]
theorem ue{o:Oper}{s s':St}(h:∀t∈o.looksAt ops,s.p8 t=s'.p8 t):pO ops s o=pO ops s' o:=by
 unfold pO
 cases hg:o.guard with
 |none=>rfl
 |some g=>
  obtain⟨j,want⟩:=g
  simp only
  cases ht:(ops[j]?).bind (·.dst)with
  |none=>rfl
  |some t=>
   simp only
   rw [h t (by simp [Oper.looksAt,hg,ht])]
theorem yE{o:Oper}{s s':St}(h:∀t∈o.looksAt ops,s.p8 t=s'.p8 t):qg P mt call s o=qg P mt call s' o:=by
 refine Bd o fun x hx=>?_
 cases x with
 |tmp t=>exact h t (List.mem_append_left _ (List.mem_filterMap.2 ⟨.tmp t,by simpa using hx,rfl⟩))
 |const v=>rfl
 |global g=>rfl
 |func f=>rfl
theorem AX{o:Oper}{s s1 s':St}{t:Tr}{d:Option Nat}{u:Ups}{v:RV}(h:sc P mt call ops o s1=some (s',t))(hs:s1=(s.ups u).put d v)
  (hd:∀e,d=some e->e∉o.looksAt ops) (hu:disj (u.map (·.1)) t.rd=true):
  ∃v' u',t.wr=u'.map (·.1)∧s'=(s1.ups u').put o.dst v'∧sc P mt call ops o s=some ((s.ups u').put o.dst v',t):=by
 have hregs:∀t∈o.looksAt ops,s1.p8 t=s.p8 t:=by
  intro t ht
  subst hs
  cases d with
  |none=>simp only [St.put,sd]
  |some e=>
   have:t≠e:=fun he=>hd e rfl (he▸ht)
   simp only [St.put,sd,this,if_false]
 have hu:=vU hu
 rcases uc h with⟨hw,v',u',he,h1,h2⟩|⟨hw,h1,h2,h3⟩
 ·have hw':pO ops s o=some true:=by rw [<-ue hregs];exact hw
  have he':qg P mt call s o s.boxes=some ((v',u'),t.rd,true):=by
   rw [<-yE (P:=P) (mt:=mt) (call:=call) hregs]
   refine Lc.qg P mt call s1 o _ _ _ _ _ he fun id hid=>?_
   subst hs
   rw [sq,rC _ _ _ (fun hm=>hu id hm hid)]
  refine⟨v',u',h2,h1,?_⟩
  rw [w8 hw' he']
  obtain⟨rd,wr⟩:=t
  simp only at h2
  rw [h2]
 ·have hw':pO ops s o=some false:=by rw [<-ue hregs];exact hw
  refine⟨.undef,[],by rw [h3];rfl,h1,?_⟩
  rw [wJ hw']
  obtain⟨rd,wr⟩:=t
  simp only at h2 h3
  rw [h2,h3]
  rfl
theorem commute{x y:Oper}{s s1 s2:St}{tx ty:Tr}(h1:sc P mt call ops x s=some (s1,tx))(h2:sc P mt call ops y s1=some (s2,ty))(hp:xA ops (x,tx) (y,ty)=true):
  ∃s3,sc P mt call ops y s=some (s3,ty)∧sc P mt call ops x s3=some (s2,tx):=by
 simp only [xA,Bool.and_eq_true]at hp
 obtain⟨⟨⟨hap,hd1⟩,hd2⟩,hd3⟩:=hp
 obtain⟨a1,a2,a3⟩:=Oper.apart_spec hap
 have hx:∃v u,s1=(s.ups u).put x.dst v∧tx.wr=u.map (·.1):=by
  rcases uc h1 with⟨_,v,u,_,h3,h4⟩|⟨_,h3,_,h4⟩
  ·exact⟨v,u,h3,h4⟩
  ·exact⟨.undef,[],h3,by rw [h4];rfl⟩
 obtain⟨vx,ux,hs1,hwx⟩:=hx
 obtain⟨vy,uy,hwy,hs2,hy⟩:=AX h2 hs1 a1 (by rw [<-hwx];exact hd1)
 refine⟨_,hy,?_⟩
 have hregs:∀t∈x.looksAt ops,((s.ups uy).put y.dst vy).p8 t=s.p8 t:=by
  intro t ht
  cases hdy:y.dst with
  |none=>simp only [St.put,sd]
  |some e=>
   have:t≠e:=fun he=>a3 e hdy (he▸ht)
   simp only [St.put,sd,this,if_false]
 have hd2:=vU hd2
 rcases uc h1 with⟨hw,v,u,he,h3,h4⟩|⟨hw,h3,h4,h5⟩
 ·have hw':pO ops ((s.ups uy).put y.dst vy) x=some true:=by rw [ue hregs];exact hw
  have he':qg P mt call ((s.ups uy).put y.dst vy) x ((s.ups uy).put y.dst vy).boxes=some ((v,u),tx.rd,true):=by
   rw [yE (P:=P) (mt:=mt) (call:=call) hregs]
   refine Lc.qg P mt call s x _ _ _ _ _ he fun id hid=>?_
   rw [sq,rC _ _ _ (fun hm=>hd2 id (by rw [hwy];exact hm) hid)]
  rw [w8 hw' he',hs2,h3]
  rw [yZ (by rw [<-h4, <-hwy];exact hd3) a2]
  obtain⟨rd,wr⟩:=tx
  simp only at h4
  rw [h4]
 ·have hw':pO ops ((s.ups uy).put y.dst vy) x=some false:=by rw [ue hregs];exact hw
  rw [wJ hw',hs2,h3]
  have:=yZ (s:=s) (u1:=[]) (u2:=uy) (d1:=x.dst) (d2:=y.dst) (v1:= .undef) (v2:=vy) (by rfl) a2
  simp only [St.ups]at this
  rw [this]
  obtain⟨rd,wr⟩:=tx
  simp only at h4 h5
  rw [h4,h5]
theorem uL{o:Oper}{r:List Oper}{s sF:St}{ts:List Tr}(h:rE P mt call ops (o::r) s=some (sF,ts)):
  ∃s1 t ts',sc P mt call ops o s=some (s1,t)∧rE P mt call ops r s1=some (sF,ts')∧ts=t::ts':=by
 unfold rE at h
 rcases h1:sc P mt call ops o s with _|⟨s1,t⟩
 ·simp [h1]at h
 simp only [h1]at h
 rcases h2:rE P mt call ops r s1 with _|⟨s2,ts'⟩
 ·simp [h2]at h
 simp only [h2,Option.some.injEq,Prod.mk.injEq]at h
 exact⟨s1,t,ts',rfl,by rw [h2,h.1],h.2.symm⟩
theorem evOps_mk{o:Oper}{r:List Oper}{s s1 sF:St}{t:Tr}{ts:List Tr}(h1:sc P mt call ops o s=some (s1,t))(h2:rE P mt call ops r s1=some (sF,ts)):
  rE P mt call ops (o::r) s=some (sF,t::ts):=by
 unfold rE;simp [h1,h2]
theorem xO:∀(l1:List (Oper×Tr)){o:Oper}{t:Tr}{l2:List (Oper×Tr)}{s sF:St},
  rE P mt call ops ((l1++(o,t)::l2).map (·.1)) s=some (sF,(l1++(o,t)::l2).map (·.2))->(∀x∈l1,xA ops x (o,t)=true)->
  ∃s1,sc P mt call ops o s=some (s1,t)∧rE P mt call ops ((l1++l2).map (·.1)) s1=some (sF,(l1++l2).map (·.2))
 | [],o,t,l2,s,sF,h,_=>by
  simp only [List.nil_append,List.map_cons]at h
  obtain⟨s1,t',ts',h1,h2,h3⟩:=uL h
  cases h3
  exact⟨s1,h1,h2⟩
 |(x,tx)::l1,o,t,l2,s,sF,h,hp=>by
  simp only [List.cons_append,List.map_cons]at h
  obtain⟨s1,t',ts',h1,h2,h3⟩:=uL h
  cases h3
  obtain⟨s2,h4,h5⟩:=xO l1 h2 (fun y hy=>hp y (by simp [hy]))
  obtain⟨s3,h6,h7⟩:=commute h1 h4 (hp (x,tx) sm)
  exact⟨s3,h6,by simp only [List.cons_append,List.map_cons];exact evOps_mk h7 h5⟩
theorem yn:∀(l:List Oper)(acc:List Nat)(i:Nat),i<acc.length->(ym l acc).getD i 0=acc.getD i 0
 | [],acc,i,_=>rfl
 |o::r,acc,i,h=>by
  rw [ym,yn r _ i so]
  simp only [List.getD_eq_getElem?_getD]
  rw [List.getElem?_append_left h]
theorem yG(acc:List Nat):∀(es:List Edge)(b j:Nat),(es.foldl (fun b e=>if Region.binds .any e then b ||| (2 ^ e.on ||| acc.getD e.on 0)else b) b).testBit j=true->
  b.testBit j=true∨∃e∈es,Region.binds .any e=true∧(e.on=j∨(acc.getD e.on 0).testBit j=true)
 | [],b,j,h=>.inl h
 |e::es,b,j,h=>by
  simp only [List.foldl_cons]at h
  rcases yG acc es _ j h with h1|⟨e',h1,h2,h3⟩
  ·by_cases hb:Region.binds .any e=true
   ·simp only [hb,if_true,Nat.testBit_or,Bool.or_eq_true,Nat.testBit_two_pow,decide_eq_true_eq]at h1
    rcases h1 with h1|h1|h1
    ·exact .inl h1
    ·exact .inr ⟨e,sm,hb,.inl h1⟩
    ·exact .inr ⟨e,sm,hb,.inr h1⟩
   ·simp only [hb]at h1;exact .inl h1
  ·exact .inr ⟨e',by simp [h1],h2,h3⟩
theorem xh:∀(l:List Oper)(acc:List Nat)(i:Nat)(o:Oper),l[i]? =some o->∀j,((ym l acc).getD (acc.length+i) 0).testBit j=true->
  ∃e∈o.after,Region.binds .any e=true∧(e.on=j∨(e.on<acc.length+i∧((ym l acc).getD e.on 0).testBit j=true))
 | [],acc,i,o,h,_,_=>by simp at h
 |x::r,acc,0,o,h,j,hj=>by
  simp only [List.getElem?_cons_zero,Option.some.injEq]at h
  subst h
  rw [ym,Nat.add_zero,yn r _ acc.length sm]at hj
  simp only [List.getD_eq_getElem?_getD,List.getElem?_concat_length,Option.getD_some]at hj
  rcases yG acc x.after.toList 0 j hj with h1|⟨e,h1,h2,h3⟩
  ·simp at h1
  ·refine⟨e,by simpa using h1,h2,?_⟩
   rcases h3 with h3|h3
   ·exact .inl h3
   ·by_cases hlt:e.on<acc.length
    ·refine .inr ⟨za,?_⟩
     rw [ym,yn r _ e.on so]
     simp only [List.getD_eq_getElem?_getD]at h3⊢
     rw [List.getElem?_append_left hlt]
     exact h3
    ·rw [List.getD_eq_getElem?_getD,List.getElem?_eq_none za]at h3
     simp at h3
 |x::r,acc,i+1,o,h,j,hj=>by
  simp only [List.getElem?_cons_succ]at h
  rw [ym]at hj⊢
  have := xh r (acc ++ [x.after.toList.foldl (fun b e => if Region.binds .any e then b ||| (2 ^ e.on ||| acc.getD e.on 0) else b) 0]) i o h j (by
   simp only [List.length_append,List.length_singleton]
   rw [show acc.length+1+i=acc.length+(i+1)by omega]
   exact hj)
  simp only [List.length_append,List.length_singleton]at this
  rw [show acc.length+1+i=acc.length+(i+1)by omega]at this
  exact this
theorem A0{listed:Array Bool}(hclosed:∀(i:Nat)o,ops[i]? =some o->listed.getD i false=true->∀e∈o.after,Region.binds .any e=true->listed.getD e.on false=true)(hsz:listed.size=ops.size):
  ∀(n i:Nat)(o:Oper),i<=n->ops[i]? =some o->(∀e∈o.after,Region.binds .any e=true->listed.getD e.on false=true)->∀j,((ym ops.toList []).getD i 0).testBit j=true->listed.getD j false=true:=by
 intro n
 induction n with
 |zero=>
  intro i o hi ho he j hj
  have h0:i=0:=by omega
  subst h0
  obtain⟨e,h1,h2,h3⟩:=xh ops.toList [] 0 o (by simpa using ho) j (by simpa using hj)
  rcases h3 with rfl|⟨h3,_⟩
  ·exact he e h1 h2
  ·simp at h3
 |succ n ih=>
  intro i o hi ho he j hj
  obtain⟨e,h1,h2,h3⟩:=xh ops.toList [] i o (by simpa using ho) j (by simpa using hj)
  rcases h3 with rfl|⟨h3,h4⟩
  ·exact he e h1 h2
  ·simp only [List.length_nil,Nat.zero_add]at h3
   have hl:=he e h1 h2
   have hlt:e.on<ops.size:=by
    rcases Nat.lt_or_ge e.on listed.size with h|h
    ·omega
    ·simp [Array.getElem?_eq_none h]at hl
   have ho2:ops[e.on]? =some ops[e.on]:=Array.getElem?_eq_getElem hlt
   exact ih e.on _ za ho2 (hclosed e.on _ ho2 hl) j h4
end
end Go.Dw
