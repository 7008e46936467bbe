
import Derived.Test.YtmmgjlgoggielaaGreatDwOp

namespace Go.Dw
def Lc{α:Type}(m:M α):Prop:=∀b b' a r c,m b=some (a,r,c)->(∀id∈r,b' id=b id)->m b'=some (a,r,c)
theorem Lc.pure{α:Type}(a:α):Lc (M.pure a):=fun _ _ _ _ _ h _=>h
theorem Lc.iv{α:Type}(k:Bool)(a:α):Lc (M.iv k a):=fun _ _ _ _ _ h _=>h
theorem Lc.fail{α:Type}:Lc (M.fail:M α):=fun _ _ _ _ _ h _=>h
theorem Lc.get(id:Nat):Lc (M.get id):=by
 intro b b' a r c h hb
 obtain⟨h1,h2,h3⟩:=M.get_some h
 subst h2;subst h3
 simp [M.get,hb id sm,h1]
theorem Lc.oz(id:Nat):Lc (M.oz id):=by
 intro b b' a r c h hb
 obtain⟨h1,h2,h3⟩:=M.sd h
 subst h2;subst h3
 simp [M.oz,hb id sm,h1]
theorem Lc.bind{α β:Type}{m:M α}{f:α->M β}(hm:Lc m)(hf:∀a,Lc (f a)):Lc (M.bind m f):=by
 intro b b' x r c h hb
 unfold M.bind at h⊢
 rcases h1:m b with _|⟨a,r1,c1⟩
 ·simp [h1]at h
 simp only [h1]at h
 rcases h2:f a b with _|⟨y,r2,c2⟩
 ·simp [h2]at h
 simp only [h2,Option.some.injEq,Prod.mk.injEq]at h
 obtain⟨rfl,rfl,rfl⟩:=h
 rw [hm b b' a r1 c1 h1 (fun id hid=>hb id (List.mem_append.2 (.inl hid)))]
 simp only [hf a b b' y r2 c2 h2 (fun id hid=>hb id (List.mem_append.2 (.inr hid)))]
theorem Lc.sn(v:RV):Lc (sn v):=Lc.pure _
theorem Lc.mn(k:Bool)(v:RV):Lc (mn k v):=Lc.iv _ _
theorem Lc.v8(o:Option (PD×Bool)):Lc (v8 o):=by unfold Dw.v8;split<;>first|exact Lc.iv _ _|exact Lc.fail
theorem Lc.wU(v:RV):Lc (wU v):=by
 unfold Dw.wU
 split<;>first|exact Lc.pure _|exact Lc.fail|skip
 all_goals refine Lc.bind (Lc.get _) fun bx=>?_
 all_goals (split<;>first|exact Lc.fail|skip)
 all_goals (split<;>first|exact Lc.pure _|exact Lc.iv _ _|exact Lc.fail)
theorem Lc.uU:∀(cs:List RV),Lc (uU cs)
 | []=>Lc.pure _
 |c::cs=>Lc.bind (Lc.wU c) fun _=>Lc.bind (Lc.uU cs) fun _=>Lc.pure _
theorem Lc.uk(v:RV):Lc (uk v):=by
 unfold Dw.uk
 split
 ·exact Lc.bind (Lc.uU _) fun _=>Lc.pure _
 ·exact Lc.wU _
section
variable (P:Program)
theorem Lc.ur(t:TypeId)(cs:List PD):Lc (ur P t cs):=by
 unfold Dw.ur
 split<;>first|exact Lc.fail|exact Lc.mn _ _|skip
 split<;>first|exact Lc.fail|exact Lc.sn _
theorem Lc.tQ(t:TypeId)(cs:List RV)(o:Nat):Lc (tQ P t cs o):=by
 unfold Dw.tQ
 split<;>first|exact Lc.fail|exact Lc.mn _ _|skip
 split<;>first|exact Lc.fail|exact Lc.sn _
theorem Lc.uH(t:TypeId)(a:RV):Lc (uH P t a):=by
 unfold Dw.uH
 split
 ·exact Lc.ur P t _
 ·refine Lc.bind (Lc.get _) fun bx=>?_
  split<;>first|exact Lc.tQ P t _ _|exact Lc.fail
 ·refine Lc.bind (Lc.get _) fun bx=>?_
  split<;>first|exact Lc.fail|skip
  ·split<;>first|exact Lc.fail|skip
   split<;>first|exact Lc.fail|exact Lc.ur P t _
 ·exact Lc.fail
theorem Lc.vU(t:TypeId)(a v:RV):Lc (vU P t a v):=by
 unfold Dw.vU
 split<;>first|exact Lc.fail|skip
 split
 ·refine Lc.bind (Lc.get _) fun bx=>?_
  split<;>first|exact Lc.iv _ _|exact Lc.fail|skip
 ·refine Lc.bind (Lc.get _) fun bx=>?_
  split<;>first|exact Lc.fail|skip
  ·split<;>first|exact Lc.fail|skip
   refine Lc.bind (Lc.uk _) fun p=>?_
   obtain⟨p,u⟩:=p
   dsimp only
   split<;>first|exact Lc.fail|skip
   split<;>first|exact Lc.fail|exact Lc.iv _ _
 ·exact Lc.fail
theorem Lc.wS(off:Nat)(x:RV):Lc (wS off x):=by
 unfold Dw.wS
 split
 ·refine Lc.bind (Lc.get _) fun bx=>?_
  split<;>first|exact Lc.sn _|exact Lc.fail
 ·refine Lc.bind (Lc.get _) fun bx=>?_
  split<;>first|exact Lc.fail|skip
  split<;>first|exact Lc.sn _|exact Lc.fail
 ·exact Lc.sn _
 ·exact Lc.fail
theorem Lc.tA(t:TypeId)(x:RV)(f:Nat):Lc (tA P t x f):=by
 unfold Dw.tA
 split<;>first|exact Lc.fail|skip
 split<;>first|exact Lc.fail|exact Lc.wS _ _
theorem Lc.w3(t:TypeId)(x:RV)(f:Nat):Lc (w3 P t x f):=by
 unfold Dw.w3
 split<;>first|exact Lc.fail|exact Lc.tQ P _ _ _
theorem Lc.w5(x i:RV):Lc (w5 x i):=by
 unfold Dw.w5
 repeat' split
 all_goals first|exact Lc.mn _ _|exact Lc.fail
theorem Lc.xO(len:Nat)(e:TypeId)(x i:RV):Lc (xO P len e x i):=by
 unfold Dw.xO
 repeat' split
 all_goals first|exact Lc.bind (Lc.iv _ _) fun _=>Lc.tQ _ _ _ _|exact Lc.fail
theorem Lc.wq(t:TypeId)(x i:RV):Lc (wq P t x i):=by
 unfold Dw.wq
 repeat' split
 all_goals first|exact Lc.w5 _ _|exact Lc.xO _ _ _ _ _|exact Lc.fail
theorem Lc.sj(t:TypeId)(x i:RV):Lc (sj P t x i):=by
 unfold Dw.sj
 split
 ·split<;>first|exact Lc.fail|skip
  split<;>first|exact Lc.fail|exact Lc.mn _ _|skip
  all_goals refine Lc.bind (Lc.get _) fun bx=>?_
  all_goals (split<;>first|exact Lc.fail|exact Lc.mn _ _|skip)
  all_goals (split<;>first|exact Lc.fail|exact Lc.mn _ _)
 ·split<;>first|exact Lc.fail|skip
  exact Lc.bind (Lc.iv _ _) fun _=>Lc.wS _ _
 ·exact Lc.fail
theorem Lc.sliceB(e:TypeId)(id ver a b:Nat)(lo hi:Option RV):Lc (sliceB P e id ver a b lo hi):=by
 unfold Dw.sliceB
 split<;>first|exact Lc.fail|skip
 refine Lc.bind (Lc.get _) fun bx=>?_
 split<;>first|exact Lc.fail|skip
 split<;>first|exact Lc.fail|exact Lc.mn _ _
theorem Lc.yc(nid:Nat)(e:TypeId)(n:Nat)(lo hi mx:Option RV):Lc (yc P nid e n lo hi mx):=by
 unfold Dw.yc
 split<;>first|exact Lc.fail|skip
 split<;>first|exact Lc.fail|exact Lc.bind (Lc.oz _) fun _=>Lc.iv _ _
theorem Lc.xb(id:Nat)(a:TypeId):Lc (xb P id a):=by
 unfold Dw.xb
 split<;>first|exact Lc.fail|skip
 split<;>first|exact Lc.fail|skip
 refine Lc.bind (Lc.get _) fun bx=>?_
 split<;>first|exact Lc.fail|skip
 split<;>first|exact Lc.fail|skip
 split<;>first|exact Lc.fail|exact Lc.iv _ _
theorem Lc.xd(e:TypeId)(id ver:Nat)(lo hi:Option RV)(mx:RV):Lc (xd P e id ver lo hi mx):=by
 unfold Dw.xd
 split<;>first|exact Lc.fail|skip
 split<;>first|exact Lc.fail|skip
 refine Lc.bind (Lc.get _) fun bx=>?_
 split<;>first|exact Lc.fail|skip
 split<;>first|exact Lc.fail|exact Lc.iv _ _
theorem Lc.xc(a:TypeId)(cs:List PD):Lc (xc P a cs):=by
 unfold Dw.xc
 split<;>first|exact Lc.fail|skip
 split<;>first|exact Lc.fail|skip
 split<;>first|exact Lc.fail|exact Lc.iv _ _
theorem Lc.zh(e:TypeId)(es:List PD)(h m:Int):Lc (zh P e es h m):=by
 unfold Dw.zh
 split<;>first|exact Lc.fail|skip
 split<;>first|exact Lc.fail|exact Lc.iv _ _
theorem Lc.yt(t:TypeId)(x:RV)(lo hi mx:Option RV):Lc (yt P t x lo hi mx):=by
 unfold Dw.yt
 split<;>first|exact Lc.fail|exact Lc.zh P _ _ _ _|skip
 split<;>first|exact Lc.fail|skip
 refine Lc.bind (Lc.get _) fun bx=>?_
 split<;>first|exact Lc.fail|skip
 split<;>first|exact Lc.fail|exact Lc.iv _ _
theorem Lc.sJ(nid:Nat)(t:TypeId)(x:RV)(lo hi mx:Option RV):Lc (sJ P nid t x lo hi mx):=by
 unfold Dw.sJ
 split
 ·refine Lc.bind (Lc.get _) fun bx=>?_
  split<;>first|exact Lc.fail|exact Lc.sliceB P _ _ _ _ _ _ _
 ·exact Lc.sliceB P _ _ _ _ _ _ _
 ·split<;>first|exact Lc.fail|exact Lc.xb P _ _
 ·split<;>first|exact Lc.fail|exact Lc.xc P _ _
 ·split<;>first|exact Lc.fail|(split<;>first|exact Lc.pure _|exact Lc.fail)
 ·exact Lc.yc P _ _ _ _ _ _
 ·exact Lc.xd P _ _ _ _ _ _
 all_goals first|exact Lc.fail|(split<;>first|exact Lc.fail|exact Lc.mn _ _)
theorem Lc.wZ(t:TypeId)(l:List (Nat×RV)):Lc (wZ P t l):=by
 unfold Dw.wZ
 split
 ·split<;>first|exact Lc.fail|skip
  split<;>first|exact Lc.fail|exact Lc.mn _ _
 ·split<;>first|exact Lc.fail|skip
  split<;>first|exact Lc.fail|exact Lc.mn _ _
 ·exact Lc.fail
theorem Lc.w6(mt:Bool)(cs:List RV):Lc (w6 mt cs):=by
 unfold Dw.w6
 split
 ·exact Lc.pure _
 ·exact Lc.uU _
theorem Lc.sY(mt:Bool)(id:Nat)(t:TypeId)(len:Nat)(l:List (Nat×RV)):Lc (sY P mt id t len l):=by
 unfold Dw.sY
 split<;>first|exact Lc.fail|skip
 split<;>first|exact Lc.fail|skip
 split<;>first|exact Lc.fail|skip
 split<;>first|exact Lc.fail|skip
 refine Lc.bind (Lc.w6 _ _) fun p=>?_
 obtain⟨ps,u⟩:=p
 dsimp only
 split
 ·exact Lc.bind (Lc.oz _) fun _=>Lc.iv _ _
 ·exact Lc.iv _ _
theorem Lc.wX(id:Nat)(t:TypeId):Lc (wX P id t):=by
 unfold Dw.wX
 split<;>first|exact Lc.fail|exact Lc.bind (Lc.oz _) fun _=>Lc.pure _
theorem Lc.boxD(id:Nat)(v:RV):Lc (boxD id v):=Lc.bind (Lc.oz _) fun _=>Lc.iv _ _
theorem Lc.zi(t:TypeId)(x:RV):Lc (zi P t x):=by
 unfold Dw.zi
 split<;>first|exact Lc.fail|exact Lc.sn _|skip
 all_goals refine Lc.bind (Lc.get _) fun bx=>?_
 all_goals (split<;>first|exact Lc.fail|exact Lc.sn _|skip)
 all_goals (split<;>first|exact Lc.fail|exact Lc.sn _|exact Lc.mn _ _)
theorem Lc.ue(x:RV):Lc (ue x):=by
 unfold Dw.ue
 split<;>first|exact Lc.fail|exact Lc.pure _|skip
 all_goals refine Lc.bind (Lc.get _) fun bx=>?_
 all_goals (split<;>first|exact Lc.fail|skip)
 all_goals (split<;>first|exact Lc.fail|exact Lc.pure _|exact Lc.iv _ _)
theorem Lc.te(id:Nat)(t t':TypeId)(s x:RV):Lc (te P id t t' s x):=by
 unfold Dw.te
 split<;>first|exact Lc.fail|skip
 split<;>first|exact Lc.fail|skip
 split<;>first|exact Lc.fail|skip
 refine Lc.bind (Lc.ue _) fun xs=>?_
 split
 ·exact Lc.bind (Lc.oz _) fun _=>Lc.iv _ _
 ·refine Lc.bind (Lc.get _) fun bx=>?_
  split<;>first|exact Lc.fail|skip
  all_goals (split<;>first|exact Lc.fail|exact Lc.iv _ _)
 ·refine Lc.bind (Lc.get _) fun bx=>?_
  split<;>first|exact Lc.fail|skip
  split<;>first|exact Lc.fail|exact Lc.iv _ _
 ·exact Lc.iv _ _
 ·exact Lc.fail
theorem Lc.dstM(x:RV):Lc (dstM x):=by
 unfold Dw.dstM
 split<;>first|exact Lc.fail|skip
 all_goals refine Lc.bind (Lc.get _) fun bx=>?_
 all_goals (split<;>first|exact Lc.fail|skip)
 all_goals (split<;>first|exact Lc.fail|exact Lc.pure _|exact Lc.iv _ _)
theorem Lc.uY(t:TypeId)(x:RV):Lc (uY P t x):=by
 unfold Dw.uY
 split<;>first|exact Lc.fail|skip
 split<;>first|exact Lc.fail|skip
 exact Lc.bind (Lc.dstM _) fun _=>Lc.iv _ _
theorem Lc.minD(l:List RV):Lc (minD l):=by
 unfold Dw.minD
 split<;>first|exact Lc.fail|skip
 split<;>first|exact Lc.fail|exact Lc.pure _
theorem Lc.maxD(l:List RV):Lc (maxD l):=by
 unfold Dw.maxD
 split<;>first|exact Lc.fail|skip
 split<;>first|exact Lc.fail|exact Lc.pure _
theorem Lc.argD(by_:Bool)(v:RV):Lc (argD by_ v):=by
 unfold Dw.argD
 split<;>first|exact Lc.pure _|exact Lc.bind (Lc.uk _) fun _=>Lc.iv _ _|(split<;>first|exact Lc.pure _|exact Lc.bind (Lc.uk _) fun _=>Lc.pure _|exact Lc.bind (Lc.uk _) fun _=>Lc.iv _ _)
theorem Lc.wi(by_:Nat->Bool):∀(i:Nat)(l:List RV),Lc (wi by_ i l)
 |_,[]=>Lc.pure _
 |i,v::r=>Lc.bind (Lc.argD _ v) fun _=>Lc.bind (Lc.wi by_ (i+1) r) fun _=>Lc.pure _
theorem Lc.tR:∀(n:Nat)(done todo:List Nat),Lc (tR n done todo)
 |0,_,_=>Lc.fail
 |_+1,_,[]=>Lc.pure _
 |n+1,done,i::todo=>by
  unfold Dw.tR
  split
  ·exact Lc.tR n _ _
  ·exact Lc.bind (Lc.get _) fun _=>Lc.tR n _ _
theorem Lc.v7:∀(l:List Nat),Lc (v7 l)
 | []=>Lc.pure _
 |_::r=>Lc.bind (Lc.get _) fun _=>Lc.bind (Lc.v7 r) fun _=>Lc.pure _
theorem Lc.tu:∀(l:List Nat),Lc (tu l)
 | []=>Lc.pure _
 |_::r=>Lc.bind (Lc.oz _) fun _=>Lc.tu r
theorem Lc.tF(by_:FuncId->Nat->Bool)(call:kb)(f:FuncId)(base:Nat)(l:List RV):Lc (tF by_ call f base l):=by
 unfold Dw.tF
 refine Lc.bind (Lc.wi _ _ _) fun x=>Lc.bind (Lc.tR _ _ _) fun ids=>Lc.bind (Lc.v7 _) fun bxs=>?_
 split<;>first|exact Lc.fail|skip
 split<;>first|exact Lc.fail|exact Lc.bind (Lc.tu _) fun _=>Lc.pure _
theorem Lc.vZ(id:Nat)(src dst:TypeId)(x:RV):Lc (vZ P id src dst x):=by
 unfold Dw.vZ
 split
 ·split<;>first|exact Lc.fail|exact Lc.bind (Lc.oz _) fun _=>Lc.iv _ _
 ·split<;>first|exact Lc.fail|skip
  refine Lc.bind (Lc.get _) fun bx=>?_
  split<;>first|exact Lc.fail|skip
  refine iteInduction (motive:=Lc) (fun _=>?_) (fun _=>Lc.fail)
  split<;>first|exact Lc.fail|exact Lc.sn _
 ·split<;>first|exact Lc.fail|skip
  split<;>first|exact Lc.fail|exact Lc.sn _
 ·exact Lc.v8 _
theorem Lc.sI(id:Nat)(t:TypeId)(l c:RV):Lc (sI P id t l c):=by
 unfold Dw.sI
 split<;>first|exact Lc.fail|skip
 split<;>first|exact Lc.fail|exact Lc.bind (Lc.oz _) fun _=>Lc.iv _ _
theorem Lc.ye(id:Nat)(t t':TypeId)(a x:RV):Lc (ye P id t t' a x):=by
 unfold Dw.ye
 split<;>first|exact Lc.fail|skip
 split<;>first|exact Lc.fail|exact Lc.bind (Lc.oz _) fun _=>Lc.iv _ _
theorem Lc.capD(t:TypeId)(x:RV):Lc (capD P t x):=by
 unfold Dw.capD
 split<;>first|exact Lc.fail|exact Lc.sn _
theorem Lc.ifcD(t:TypeId)(x:RV):Lc (ifcD P t x):=by
 unfold Dw.ifcD
 split<;>first|exact Lc.fail|exact Lc.sn _
theorem Lc.vu(x:RV)(t:TypeId)(ok:Bool):Lc (vu P x t ok):=by
 unfold Dw.vu
 split<;>first|exact Lc.fail|skip
 exact iteInduction (motive:=Lc) (fun _=>Lc.sn _) (fun _=>Lc.fail)
theorem Lc.vD(mt:Hf)(call:kb)(base:Nat)(x:RV)(name:String)(as:List RV):Lc (vD P mt call base x name as):=by
 unfold Dw.vD
 split<;>first|exact Lc.fail|skip
 split<;>first|exact Lc.fail|exact Lc.tF _ _ _ _ _|skip
 exact Lc.bind (Lc.uH P _ _) fun _=>Lc.tF _ _ _ _ _
theorem Lc.lD(mt:Hf)(call:kb)(s:St)(o:Oper):Lc (lD P mt call s o):=by
 unfold Dw.lD
 split
 all_goals (try exact Lc.fail)
 all_goals (try exact Lc.wX P _ _)
 all_goals (split<;>first|exact Lc.fail|exact Lc.sn _|exact Lc.ifcD P _ _|exact Lc.vu P _ _ _|exact Lc.boxD _ _|exact Lc.wZ P _ _|exact Lc.sY P _ _ _ _ _|exact Lc.uH P _ _|exact Lc.vU P _ _ _|exact Lc.wS _ _|exact Lc.v8 _|exact Lc.sJ P _ _ _ _ _ _|exact Lc.tA P _ _ _|exact Lc.w3 P _ _ _|exact Lc.sj P _ _ _|exact Lc.wq P _ _ _|exact Lc.minD _|exact Lc.maxD _|exact Lc.sI P _ _ _ _|exact Lc.vZ P _ _ _ _|skip)
 all_goals (split<;>first|exact Lc.fail|exact Lc.sn _|exact Lc.vD P _ _ _ _ _ _|exact Lc.zi P _ _|exact Lc.capD P _ _|exact Lc.te P _ _ _ _ _|exact Lc.uY P _ _|exact Lc.yt P _ _ _ _ _|exact Lc.sJ P _ _ _ _ _ _|exact Lc.tF _ _ _ _ _|(split<;>first|exact Lc.fail|exact Lc.sn _|exact Lc.te P _ _ _ _ _|exact Lc.ye P _ _ _ _ _))
end
theorem w9{s s':St}:∀{xs:List Operand},(∀x∈xs,s.opd x=s'.opd x)->tV s xs=tV s' xs
 | [],_=>rfl
 |x::xs,h=>by simp only [tV];rw [h x sm,w9 fun y hy=>h y (by simp [hy])]
theorem uJ{s s':St}:∀{xs:List (Nat×Operand)},(∀x∈xs.map (·.2),s.opd x=s'.opd x)->sP s xs=sP s' xs
 | [],_=>rfl
 |(i,x)::xs,h=>by simp only [sP];rw [h x sm,uJ fun y hy=>h y (by simp only [List.map_cons,List.mem_cons];exact .inr hy)]
theorem vM{s s':St}{x:Option Operand}(h:∀y∈x.toArray,s.opd y=s'.opd y):sk s x=sk s' x:=by
 cases x with
 |none=>rfl
 |some y=>simp only [sk];rw [h y sm]
theorem Bl{P:Program}{mt:Hf}{call:kb}{s s':St}(o:Oper)(h:∀x∈o.op.operands,s.opd x=s'.opd x):lD P mt call s o=lD P mt call s' o:=by
 unfold lD
 rcases hop:o.op with x|x|⟨c,x,y⟩|t|⟨t,x⟩|⟨t,parts⟩|⟨t,len,parts⟩|⟨t,m,k,x⟩|⟨t,x⟩|⟨t,x,y⟩|g|g|x|⟨op,t,x,y,t2⟩|⟨op,t,x⟩|⟨t,t2,x⟩|⟨t,x⟩|⟨t,x⟩|⟨fn,x,y⟩|⟨t,x⟩|⟨t,x⟩|⟨t,x,y⟩|⟨t,x,lo,hi,mx⟩|⟨t,x,f⟩|⟨t,x,f⟩|⟨t,x,y⟩|⟨t,x,y⟩|⟨t,x,y,c⟩|⟨t,x,y,c⟩|⟨t,x,y⟩|⟨t,x,y,c⟩|⟨t,x⟩|⟨x,b⟩|x|⟨x,t,t2,b⟩|⟨x,i⟩|c|c|c|x|⟨x,y⟩|⟨t,x,b⟩|⟨cs,b⟩
 all_goals (simp only [hop,Op.operands]at h)
 all_goals (try simp only)
 all_goals (try rw [h x sm])
 all_goals (try rw [h y sm])
 ·rw [h c sm]
 ·rw [uJ fun x hx=>h x (by simpa using hx)]
 ·rw [uJ fun x hx=>h x (by simpa using hx)]
 ·cases op<;>(try simp only)<;>rw [h x sm]
 ·rw [w9 (s:=s) (s':=s') (xs:=y.toList) fun x hx=>h x (by simp only [Array.mem_append];exact .inr (by simpa using hx))]
  cases tV s' y.toList with
  |none=>rfl
  |some l=>
  rcases hx:x.toList with _|⟨x0,_|⟨x1,xs⟩⟩
  ·cases fn<;>rfl
  ·have h0:s.opd x0=s'.opd x0:=h x0 (by simp only [Array.mem_append];exact .inl (by rw [<-Array.mem_toList_iff,hx];exact List.mem_singleton.2 rfl))
   cases fn<;>first|rfl|(simp only [];rw [h0])
  ·cases fn<;>rfl
 ·rw [vM (x:=lo) fun y hy=>h y (by simp only [Array.mem_append];exact .inl (.inl (.inr hy))),vM (x:=hi) fun y hy=>h y (by simp only [Array.mem_append];exact .inl (.inr hy)),vM (x:=mx) fun y hy=>h y (by simp only [Array.mem_append];exact .inr hy)]
 ·have ha:tV s c.args.toList=tV s' c.args.toList:=w9 fun x hx=>h x (by simp only [Call.operands,Array.mem_append];exact .inr (by simpa using hx))
  rw [ha]
  cases hc:c.callee with
  |value f=>
   have hf:s.opd f=s'.opd f:=h f (by simp [Call.operands,hc])
   cases tV s' c.args.toList with
   |none=>rfl
   |some l=>simp only [hf]
  |invoke rc m=>
   have hf:s.opd rc=s'.opd rc:=h rc (by simp [Call.operands,hc])
   cases tV s' c.args.toList with
   |none=>rfl
   |some l=>simp only [hf]
  |builtin b=>
   cases tV s' c.args.toList with
   |none=>cases b<;>rfl
   |some l=>rcases l with _|⟨x,_|⟨y,_|⟨z,l⟩⟩⟩<;>cases b<;>rfl
end Go.Dw
namespace Go.Dw
theorem BF:∀(u:Ups)(s s':St)(id:Nat),id∈u.map (·.1)->(s.ups u).boxes id=(s'.ups u).boxes id
 | [],_,_,_,h=>by simp at h
 |(i,b)::r,s,s',id,h=>by
  rw [tp,tp]
  by_cases hr:id∈r.map (·.1)
  ·exact BF r _ _ id hr
  ·rw [sZ _ _ _ hr,sZ _ _ _ hr]
   have:id=i:=by simpa [hr]using h
   subst this
   show upd s.boxes id b id=upd s'.boxes id b id
   rw [kx,kx]
theorem tH(s:St)(d:Option Nat)(v:RV):(s.put d v).boxes=s.boxes:=by cases d<;>rfl
theorem St.ext'{s s':St}(h1:s.jX=s'.jX)(h2:s.boxes=s'.boxes):s=s':=by
 obtain⟨a,b⟩:=s
 obtain⟨c,d⟩:=s'
 simp only at h1 h2
 subst h1;subst h2
 rfl
theorem zt{s:St}{u1 u2:Ups}{d1 d2:Option Nat}{v1 v2:RV}(hu:disj (u1.map (·.1)) (u2.map (·.1))=true)(hd:∀d,d1=some d->d2≠some d):
  ((((s.ups u1).put d1 v1).ups u2).put d2 v2)=((((s.ups u2).put d2 v2).ups u1).put d1 v1):=by
 have hu:=wE hu
 refine St.ext' ?_ ?_
 ·cases d1 with
  |none=>
   cases d2 with
   |none=>simp only [St.put,tq]
   |some e=>simp only [St.put,tq]
  |some d=>
   cases d2 with
   |none=>simp only [St.put,tq]
   |some e=>
    have hne:d≠e:=fun he=>hd d rfl (he▸rfl)
    simp only [St.put,tq]
    funext t
    by_cases h1:t=d
    ·subst h1;simp [hne]
    ·by_cases h2:t=e
     ·subst h2;simp [h1]
     ·simp [h1,h2]
 ·rw [tH,tH]
  funext id
  by_cases h1:id∈u1.map (·.1)
  ·have h2:id∉u2.map (·.1):=hu id h1
   rw [sZ _ _ _ h2,tH]
   rw [BF u1 _ ((s.ups u2).put d2 v2) id h1]
  ·by_cases h2:id∈u2.map (·.1)
   ·rw [sZ u1 _ _ h1,tH]
    rw [BF u2 _ s id h2]
   ·rw [sZ _ _ _ h2,tH,sZ _ _ _ h1,sZ _ _ _ h1,tH,sZ _ _ _ h2]
section
variable {P:Program}{mt:Hf}{call:kb}{ops:Array Oper}
theorem uT{o:Oper}{s s':St}{t:Tr}(h:tn P mt call ops o s=some (s',t)):
  (im ops s o=some true∧∃v u,lD P mt call s o s.boxes=some ((v,u),t.rd,true)∧s'=(s.ups u).put o.dst v∧t.wr=u.map (·.1))∨
  (im ops s o=some false∧s'=s.put o.dst .undef∧t.rd=[]∧t.wr=[]):=by
 unfold tn at h
 rcases hw:im ops s o with _|w
 ·simp [hw]at h
 simp only [hw]at h
 cases w with
 |true=>
  simp only [if_true]at h
  rcases he:lD P mt call s o s.boxes with _|⟨⟨v,u⟩,rd,c⟩
  ·simp [he]at h
  simp only [he]at h
  cases c with
  |true=>
   simp only [if_true,Option.some.injEq,Prod.mk.injEq]at h
   obtain⟨rfl,rfl⟩:=h
   exact .inl ⟨rfl,v,u,rfl,rfl,rfl⟩
  |false=>simp at h
 |false=>
  simp only [Bool.false_eq_true,if_false,Option.some.injEq,Prod.mk.injEq]at h
  obtain⟨rfl,rfl⟩:=h
  exact .inr ⟨rfl,rfl,rfl,rfl⟩
theorem xD{o:Oper}{s:St}{v:RV}{u:Ups}{rd:List Nat}(hw:im ops s o=some true)(he:lD P mt call s o s.boxes=some ((v,u),rd,true)):
  tn P mt call ops o s=some ((s.ups u).put o.dst v,⟨rd,u.map (·.1)⟩):=by
 unfold tn;simp [hw,he]
theorem xf{o:Oper}{s:St}(hw:im ops s o=some false):tn P mt call ops o s=some (s.put o.dst .undef,⟨[],[]⟩):=by
 unfold tn;simp [hw]
theorem uV{o:Oper}{s s':St}(h:∀t∈o.looksAt ops,s.jX t=s'.jX t):im ops s o=im ops s' o:=by
 unfold im
 cases hg:o.guard with
 |none=>rfl
 |some g=>
  obtain⟨j,want⟩:=g
  simp only
  cases ht:(ops[j]?).bind (·.dst)with
  |none=>rfl
  |some t=>
   simp only
   rw [h t (by simp [Oper.looksAt,hg,ht])]
theorem yZ{o:Oper}{s s':St}(h:∀t∈o.looksAt ops,s.jX t=s'.jX t):lD P mt call s o=lD P mt call s' o:=by
 refine Bl o fun x hx=>?_
 cases x with
 |tmp t=>exact h t (List.mem_append_left _ (List.mem_filterMap.2 ⟨.tmp t,by simpa using hx,rfl⟩))
 |const v=>rfl
 |global g=>rfl
 |func f=>rfl
theorem A4{o:Oper}{s s1 s':St}{t:Tr}{d:Option Nat}{u:Ups}{v:RV}(h:tn P mt call ops o s1=some (s',t))(hs:s1=(s.ups u).put d v)
  (hd:∀e,d=some e->e∉o.looksAt ops) (hu:disj (u.map (·.1)) t.rd=true):
  ∃v' u',t.wr=u'.map (·.1)∧s'=(s1.ups u').put o.dst v'∧tn P mt call ops o s=some ((s.ups u').put o.dst v',t):=by
 have hregs:∀t∈o.looksAt ops,s1.jX t=s.jX t:=by
  intro t ht
  subst hs
  cases d with
  |none=>simp only [St.put,tq]
  |some e=>
   have:t≠e:=fun he=>hd e rfl (he▸ht)
   simp only [St.put,tq,this,if_false]
 have hu:=wE hu
 rcases uT h with⟨hw,v',u',he,h1,h2⟩|⟨hw,h1,h2,h3⟩
 ·have hw':im ops s o=some true:=by rw [<-uV hregs];exact hw
  have he':lD P mt call s o s.boxes=some ((v',u'),t.rd,true):=by
   rw [<-yZ (P:=P) (mt:=mt) (call:=call) hregs]
   refine Lc.lD P mt call s1 o _ _ _ _ _ he fun id hid=>?_
   subst hs
   rw [tH,sZ _ _ _ (fun hm=>hu id hm hid)]
  refine⟨v',u',h2,h1,?_⟩
  rw [xD hw' he']
  obtain⟨rd,wr⟩:=t
  simp only at h2
  rw [h2]
 ·have hw':im ops s o=some false:=by rw [<-uV hregs];exact hw
  refine⟨.undef,[],by rw [h3];rfl,h1,?_⟩
  rw [xf hw']
  obtain⟨rd,wr⟩:=t
  simp only at h2 h3
  rw [h2,h3]
  rfl
theorem commute{x y:Oper}{s s1 s2:St}{tx ty:Tr}(h1:tn P mt call ops x s=some (s1,tx))(h2:tn P mt call ops y s1=some (s2,ty))(hp:xX ops (x,tx) (y,ty)=true):
  ∃s3,tn P mt call ops y s=some (s3,ty)∧tn P mt call ops x s3=some (s2,tx):=by
 simp only [xX,Bool.and_eq_true]at hp
 obtain⟨⟨⟨hap,hd1⟩,hd2⟩,hd3⟩:=hp
 obtain⟨a1,a2,a3⟩:=Oper.apart_spec hap
 have hx:∃v u,s1=(s.ups u).put x.dst v∧tx.wr=u.map (·.1):=by
  rcases uT h1 with⟨_,v,u,_,h3,h4⟩|⟨_,h3,_,h4⟩
  ·exact⟨v,u,h3,h4⟩
  ·exact⟨.undef,[],h3,by rw [h4];rfl⟩
 obtain⟨vx,ux,hs1,hwx⟩:=hx
 obtain⟨vy,uy,hwy,hs2,hy⟩:=A4 h2 hs1 a1 (by rw [<-hwx];exact hd1)
 refine⟨_,hy,?_⟩
 have hregs:∀t∈x.looksAt ops,((s.ups uy).put y.dst vy).jX t=s.jX t:=by
  intro t ht
  cases hdy:y.dst with
  |none=>simp only [St.put,tq]
  |some e=>
   have:t≠e:=fun he=>a3 e hdy (he▸ht)
   simp only [St.put,tq,this,if_false]
 have hd2:=wE hd2
 rcases uT h1 with⟨hw,v,u,he,h3,h4⟩|⟨hw,h3,h4,h5⟩
 ·have hw':im ops ((s.ups uy).put y.dst vy) x=some true:=by rw [uV hregs];exact hw
  have he':lD P mt call ((s.ups uy).put y.dst vy) x ((s.ups uy).put y.dst vy).boxes=some ((v,u),tx.rd,true):=by
   rw [yZ (P:=P) (mt:=mt) (call:=call) hregs]
   refine Lc.lD P mt call s x _ _ _ _ _ he fun id hid=>?_
   rw [tH,sZ _ _ _ (fun hm=>hd2 id (by rw [hwy];exact hm) hid)]
  rw [xD hw' he',hs2,h3]
  rw [zt (by rw [<-h4, <-hwy];exact hd3) a2]
  obtain⟨rd,wr⟩:=tx
  simp only at h4
  rw [h4]
 ·have hw':im ops ((s.ups uy).put y.dst vy) x=some false:=by rw [uV hregs];exact hw
  rw [xf hw',hs2,h3]
  have:=zt (s:=s) (u1:=[]) (u2:=uy) (d1:=x.dst) (d2:=y.dst) (v1:= .undef) (v2:=vy) (by rfl) a2
  simp only [St.ups]at this
  rw [this]
  obtain⟨rd,wr⟩:=tx
  simp only at h4 h5
  rw [h4,h5]
theorem vz{o:Oper}{r:List Oper}{s sF:St}{ts:List Tr}(h:sR P mt call ops (o::r) s=some (sF,ts)):
  ∃s1 t ts',tn P mt call ops o s=some (s1,t)∧sR P mt call ops r s1=some (sF,ts')∧ts=t::ts':=by
 unfold sR at h
 rcases h1:tn P mt call ops o s with _|⟨s1,t⟩
 ·simp [h1]at h
 simp only [h1]at h
 rcases h2:sR P mt call ops r s1 with _|⟨s2,ts'⟩
 ·simp [h2]at h
 simp only [h2,Option.some.injEq,Prod.mk.injEq]at h
 exact⟨s1,t,ts',rfl,by rw [h2,h.1],h.2.symm⟩
theorem evOps_mk{o:Oper}{r:List Oper}{s s1 sF:St}{t:Tr}{ts:List Tr}(h1:tn P mt call ops o s=some (s1,t))(h2:sR P mt call ops r s1=some (sF,ts)):
  sR P mt call ops (o::r) s=some (sF,t::ts):=by
 unfold sR;simp [h1,h2]
theorem yk:∀(l1:List (Oper×Tr)){o:Oper}{t:Tr}{l2:List (Oper×Tr)}{s sF:St},
  sR P mt call ops ((l1++(o,t)::l2).map (·.1)) s=some (sF,(l1++(o,t)::l2).map (·.2))->(∀x∈l1,xX ops x (o,t)=true)->
  ∃s1,tn P mt call ops o s=some (s1,t)∧sR P mt call ops ((l1++l2).map (·.1)) s1=some (sF,(l1++l2).map (·.2))
 | [],o,t,l2,s,sF,h,_=>by
  simp only [List.nil_append,List.map_cons]at h
  obtain⟨s1,t',ts',h1,h2,h3⟩:=vz h
  cases h3
  exact⟨s1,h1,h2⟩
 |(x,tx)::l1,o,t,l2,s,sF,h,hp=>by
  simp only [List.cons_append,List.map_cons]at h
  obtain⟨s1,t',ts',h1,h2,h3⟩:=vz h
  cases h3
  obtain⟨s2,h4,h5⟩:=yk l1 h2 (fun y hy=>hp y (by simp [hy]))
  obtain⟨s3,h6,h7⟩:=commute h1 h4 (hp (x,tx) sm)
  exact⟨s3,h6,by simp only [List.cons_append,List.map_cons];exact evOps_mk h7 h5⟩
theorem yJ:∀(l:List Oper)(acc:List Nat)(i:Nat),i<acc.length->(yI l acc).getD i 0=acc.getD i 0
 | [],acc,i,_=>rfl
 |o::r,acc,i,h=>by
  rw [yI,yJ r _ i so]
  simp only [List.getD_eq_getElem?_getD]
  rw [List.getElem?_append_left h]
theorem zg(acc:List Nat):∀(es:List Edge)(b j:Nat),(es.foldl (fun b e=>if Region.binds .any e then b ||| (2 ^ e.on ||| acc.getD e.on 0)else b) b).testBit j=true->
  b.testBit j=true∨∃e∈es,Region.binds .any e=true∧(e.on=j∨(acc.getD e.on 0).testBit j=true)
 | [],b,j,h=>.inl h
 |e::es,b,j,h=>by
  simp only [List.foldl_cons]at h
  rcases zg acc es _ j h with h1|⟨e',h1,h2,h3⟩
  ·by_cases hb:Region.binds .any e=true
   ·simp only [hb,if_true,Nat.testBit_or,Bool.or_eq_true,Nat.testBit_two_pow,decide_eq_true_eq]at h1
    rcases h1 with h1|h1|h1
    ·exact .inl h1
    ·exact .inr ⟨e,sm,hb,.inl h1⟩
    ·exact .inr ⟨e,sm,hb,.inr h1⟩
   ·simp only [hb]at h1;exact .inl h1
  ·exact .inr ⟨e',by simp [h1],h2,h3⟩
theorem xK:∀(l:List Oper)(acc:List Nat)(i:Nat)(o:Oper),l[i]? =some o->∀j,((yI l acc).getD (acc.length+i) 0).testBit j=true->
  ∃e∈o.after,Region.binds .any e=true∧(e.on=j∨(e.on<acc.length+i∧((yI l acc).getD e.on 0).testBit j=true))
 | [],acc,i,o,h,_,_=>by simp at h
 |x::r,acc,0,o,h,j,hj=>by
  simp only [List.getElem?_cons_zero,Option.some.injEq]at h
  subst h
  rw [yI,Nat.add_zero,yJ r _ acc.length sm]at hj
  simp only [List.getD_eq_getElem?_getD,List.getElem?_concat_length,Option.getD_some]at hj
  rcases zg acc x.after.toList 0 j hj with h1|⟨e,h1,h2,h3⟩
  ·simp at h1
  ·refine⟨e,by simpa using h1,h2,?_⟩
   rcases h3 with h3|h3
   ·exact .inl h3
   ·by_cases hlt:e.on<acc.length
    ·refine .inr ⟨za,?_⟩
     rw [yI,yJ r _ e.on so]
     simp only [List.getD_eq_getElem?_getD]at h3⊢
     rw [List.getElem?_append_left hlt]
     exact h3
    ·rw [List.getD_eq_getElem?_getD,List.getElem?_eq_none za]at h3
     simp at h3
 |x::r,acc,i+1,o,h,j,hj=>by
  simp only [List.getElem?_cons_succ]at h
  rw [yI]at hj⊢
  have := xK r (acc ++ [x.after.toList.foldl (fun b e => if Region.binds .any e then b ||| (2 ^ e.on ||| acc.getD e.on 0) else b) 0]) i o h j (by
   simp only [List.length_append,List.length_singleton]
   rw [show acc.length+1+i=acc.length+(i+1)by omega]
   exact hj)
  simp only [List.length_append,List.length_singleton]at this
  rw [show acc.length+1+i=acc.length+(i+1)by omega]at this
  exact this
theorem A7{listed:Array Bool}(hclosed:∀(i:Nat)o,ops[i]? =some o->listed.getD i false=true->∀e∈o.after,Region.binds .any e=true->listed.getD e.on false=true)(hsz:listed.size=ops.size):
  ∀(n i:Nat)(o:Oper),i<=n->ops[i]? =some o->(∀e∈o.after,Region.binds .any e=true->listed.getD e.on false=true)->∀j,((yI ops.toList []).getD i 0).testBit j=true->listed.getD j false=true:=by
 intro n
 induction n with
 |zero=>
  intro i o hi ho he j hj
  have h0:i=0:=by omega
  subst h0
  obtain⟨e,h1,h2,h3⟩:=xK ops.toList [] 0 o (by simpa using ho) j (by simpa using hj)
  rcases h3 with rfl|⟨h3,_⟩
  ·exact he e h1 h2
  ·simp at h3
 |succ n ih=>
  intro i o hi ho he j hj
  obtain⟨e,h1,h2,h3⟩:=xK ops.toList [] i o (by simpa using ho) j (by simpa using hj)
  rcases h3 with rfl|⟨h3,h4⟩
  ·exact he e h1 h2
  ·simp only [List.length_nil,Nat.zero_add]at h3
   have hl:=he e h1 h2
   have hlt:e.on<ops.size:=by
    rcases Nat.lt_or_ge e.on listed.size with h|h
    ·omega
    ·simp [Array.getElem?_eq_none h]at hl
   have ho2:ops[e.on]? =some ops[e.on]:=Array.getElem?_eq_getElem hlt
   exact ih e.on _ za ho2 (hclosed e.on _ ho2 hl) j h4
end
end Go.Dw
