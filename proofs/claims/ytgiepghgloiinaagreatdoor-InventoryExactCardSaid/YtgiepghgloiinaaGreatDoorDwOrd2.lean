
import Derived.Test.YtgiepghgloiinaaGreatDoorDwOp
set_option linter.unusedVariables false
set_option linter.unusedSimpArgs false
open Option.some renaming injEq->AD
open Prod.mk renaming injEq->AF
open List renaming cons_append->Bt, getD_eq_getElem?_getD->Bu, getElem?_append_left->AR, length_append->BH, length_singleton->BN, map_cons->Bj
open Array renaming mem_append->Bv

namespace Go.Dw
def Lc{α:Type}(m:M α):Prop:=∀b b' a r c,m b=some (a,r,c)->(∀id∈r,b' id=b id)->m b'=some (a,r,c)
theorem Lc.pure{α:Type}(a:α):Lc (M.pure a):=fun _ _ _ _ _ h _=>h
theorem Lc.j6{α:Type}(k:Bool)(a:α):Lc (M.j6 k a):=fun _ _ _ _ _ h _=>h
theorem Lc.fail{α:Type}:Lc (M.fail:M α):=fun _ _ _ _ _ h _=>h
theorem Lc.get(id:Nat):Lc (M.get id):=by
 intro b b' a r c h hb
 obtain⟨h1,e,f⟩:=M.get_some h
 subst e;subst f
 simp [M.get,hb id sm,h1]
theorem Lc.ky(id:Nat):Lc (M.ky id):=by
 intro b b' a r c h hb
 obtain⟨h1,e,f⟩:=M.kQ h
 subst e;subst f
 simp [M.ky,hb id sm,h1]
theorem Lc.bind{α β:Type}{m:M α}{f:α->M β}(hm:Lc m)(hf:∀a,Lc (f a)):Lc (M.bind m f):=by
 intro b b' x r c h hb
 unfold M.bind at h⊢
 rcases h1:m b with _|⟨a,j,g⟩
 ·simp [h1]at h
 simp only [h1]at h
 rcases e:f a b with _|⟨y,k,i⟩
 ·simp [e]at h
 simp only [e,AD,AF]at h
 obtain⟨rfl,rfl,rfl⟩:=h
 rw [hm b b' a j g h1 (fun id hid=>hb id (List.mem_append.2 (.inl hid)))]
 simp only [hf a b b' y k i e (fun id hid=>hb id (List.mem_append.2 (.inr hid)))]
theorem Lc.kO(v:RV):Lc (kO v):=Lc.pure _
theorem Lc.kJ(k:Bool)(v:RV):Lc (kJ k v):=Lc.j6 _ _
theorem Lc.oR(o:Option (PD×Bool)):Lc (oR o):=by unfold Dw.oR;split<;>first|exact Lc.j6 _ _|exact Lc.fail
theorem Lc.qA(v:RV):Lc (qA v):=by
 unfold Dw.qA
 split<;>first|exact Lc.pure _|exact Lc.fail|skip
 all_goals refine Lc.bind (Lc.get _) fun a=>?_
 all_goals (split<;>first|exact Lc.fail|skip)
 all_goals (split<;>first|exact Lc.pure _|exact Lc.j6 _ _|exact Lc.fail)
theorem Lc.nT:∀(cs:List RV),Lc (nT cs)
 | []=>Lc.pure _
 |c::cs=>Lc.bind (Lc.qA c) fun _=>Lc.bind (Lc.nT cs) fun _=>Lc.pure _
theorem Lc.ni(v:RV):Lc (ni v):=by
 unfold Dw.ni
 split
 ·exact Lc.bind (Lc.nT _) fun _=>Lc.pure _
 ·exact Lc.qA _
section
variable (P:Program)
theorem Lc.mi(t:TypeId)(cs:List PD):Lc (mi P t cs):=by
 unfold Dw.mi
 split<;>first|exact Lc.fail|exact Lc.kJ _ _|skip
 split<;>first|exact Lc.fail|exact Lc.kO _
theorem Lc.mB(t:TypeId)(cs:List RV)(o:Nat):Lc (mB P t cs o):=by
 unfold Dw.mB
 split<;>first|exact Lc.fail|exact Lc.kJ _ _|skip
 split<;>first|exact Lc.fail|exact Lc.kO _
theorem Lc.ite{α:Type}{c:Prop} [Decidable c] {a b:M α}(h1:Lc a)(e:Lc b):Lc (if c then a else b):=by split<;>assumption
theorem Lc.o4(t:TypeId)(es:List PD)(i o q:Nat)(h:Option (Nat×RV)):Lc (o4 P t es i o q h):=by
 unfold Dw.o4
 split
 ·refine Lc.ite ?_ (Lc.ite ?_ Lc.fail)
  ·split
   ·exact Lc.ite (Lc.kO _) Lc.fail
   ·exact Lc.fail
  ·split
   ·exact Lc.mi P t _
   ·exact Lc.fail
 ·exact Lc.fail
theorem Lc.mK(t:TypeId)(a:RV):Lc (mK P t a):=by
 unfold Dw.mK
 split
 ·exact Lc.mi P t _
 ·split<;>first|exact Lc.fail|exact Lc.kO _
 ·refine Lc.bind (Lc.get _) fun b=>?_
  split<;>first|exact Lc.mB P t _ _|exact Lc.fail
 ·refine Lc.bind (Lc.get _) fun b=>?_
  split<;>first|exact Lc.fail|skip
  ·split<;>first|exact Lc.fail|skip
   split<;>first|exact Lc.fail|exact Lc.mi P t _
  ·split<;>first|exact Lc.fail|skip
   split<;>first|exact Lc.fail|exact Lc.kO _
  ·split<;>first|exact Lc.fail|skip
   split<;>first|exact Lc.fail|exact Lc.kO _
  ·exact Lc.ite (Lc.o4 P t _ _ _ _ _) Lc.fail
 ·exact Lc.fail
theorem Lc.nI(t:TypeId)(a v:RV):Lc (nI P t a v):=by
 unfold Dw.nI
 split<;>first|exact Lc.fail|skip
 split
 ·refine Lc.bind (Lc.get _) fun b=>?_
  split<;>first|exact Lc.j6 _ _|exact Lc.fail|skip
 ·refine Lc.bind (Lc.get _) fun b=>?_
  split<;>first|exact Lc.fail|skip
  ·split<;>first|exact Lc.fail|skip
   refine Lc.bind (Lc.ni _) fun p=>?_
   obtain⟨p,u⟩:=p
   dsimp only
   split<;>first|exact Lc.fail|skip
   split<;>first|exact Lc.fail|exact Lc.j6 _ _
  ·exact iteInduction (motive:=Lc) (fun _=>Lc.j6 _ _) (fun _=>Lc.fail)
  ·exact iteInduction (motive:=Lc) (fun _=>Lc.j6 _ _) (fun _=>Lc.fail)
  ·refine Lc.ite (Lc.ite ?_ (Lc.ite ?_ Lc.fail)) Lc.fail
   ·split
    ·exact Lc.ite (Lc.j6 _ _) Lc.fail
    ·exact Lc.fail
   ·split
    ·exact Lc.j6 _ _
    ·exact Lc.fail
 ·exact Lc.fail
theorem Lc.pI(off:Nat)(x:RV):Lc (pI off x):=by
 unfold Dw.pI
 split
 ·refine Lc.bind (Lc.get _) fun a=>?_
  split<;>first|exact Lc.kO _|exact Lc.fail
 ·refine Lc.bind (Lc.get _) fun a=>?_
  split<;>first|exact Lc.fail|skip
  all_goals (split<;>first|exact Lc.kO _|exact Lc.fail)
 ·exact Lc.kO _
 ·exact Lc.fail
theorem Lc.mg(t:TypeId)(x:RV)(f:Nat):Lc (mg P t x f):=by
 unfold Dw.mg
 split<;>first|exact Lc.fail|skip
 split<;>first|exact Lc.fail|exact Lc.pI _ _
theorem Lc.pQ(t:TypeId)(x:RV)(f:Nat):Lc (pQ P t x f):=by
 unfold Dw.pQ
 split<;>first|exact Lc.fail|exact Lc.mB P _ _ _
theorem Lc.pS(x i:RV):Lc (pS x i):=by
 unfold Dw.pS
 repeat' split
 all_goals first|exact Lc.kJ _ _|exact Lc.fail
theorem Lc.qT(len:Nat)(e:TypeId)(x i:RV):Lc (qT P len e x i):=by
 unfold Dw.qT
 repeat' split
 all_goals first|exact Lc.bind (Lc.j6 _ _) fun _=>Lc.mB _ _ _ _|exact Lc.fail
theorem Lc.o5(t:TypeId)(x i:RV):Lc (o5 P t x i):=by
 unfold Dw.o5
 repeat' split
 all_goals first|exact Lc.pS _ _|exact Lc.qT _ _ _ _ _|exact Lc.fail
theorem Lc.lz(t:TypeId)(x i:RV):Lc (lz P t x i):=by
 unfold Dw.lz
 split
 ·split<;>first|exact Lc.fail|skip
  split<;>first|exact Lc.fail|exact Lc.kJ _ _|skip
  all_goals refine Lc.bind (Lc.get _) fun a=>?_
  all_goals (split<;>first|exact Lc.fail|exact Lc.kJ _ _|skip)
  all_goals (split<;>first|exact Lc.fail|exact Lc.kJ _ _)
 ·split<;>first|exact Lc.fail|skip
  exact Lc.bind (Lc.j6 _ _) fun _=>Lc.pI _ _
 ·exact Lc.fail
theorem Lc.sliceB(e:TypeId)(id ver a b:Nat)(c hi:Option RV):Lc (sliceB P e id ver a b c hi):=by
 unfold Dw.sliceB
 split<;>first|exact Lc.fail|skip
 refine Lc.bind (Lc.get _) fun f=>?_
 split<;>first|exact Lc.fail|skip
 split<;>first|exact Lc.fail|exact Lc.kJ _ _
theorem Lc.rj(a:Nat)(e:TypeId)(n:Nat)(b hi c:Option RV):Lc (rj P a e n b hi c):=by
 unfold Dw.rj
 split<;>first|exact Lc.fail|skip
 split<;>first|exact Lc.fail|exact Lc.bind (Lc.ky _) fun _=>Lc.j6 _ _
theorem Lc.p7(id:Nat)(a:TypeId):Lc (p7 P id a):=by
 unfold Dw.p7
 split<;>first|exact Lc.fail|skip
 split<;>first|exact Lc.fail|skip
 refine Lc.bind (Lc.get _) fun b=>?_
 split<;>first|exact Lc.fail|skip
 split<;>first|exact Lc.fail|skip
 split<;>first|exact Lc.fail|exact Lc.j6 _ _
theorem Lc.pe(e:TypeId)(id ver:Nat)(a hi:Option RV)(b:RV):Lc (pe P e id ver a hi b):=by
 unfold Dw.pe
 split<;>first|exact Lc.fail|skip
 split<;>first|exact Lc.fail|skip
 refine Lc.bind (Lc.get _) fun c=>?_
 split<;>first|exact Lc.fail|skip
 split<;>first|exact Lc.fail|exact Lc.j6 _ _
theorem Lc.p8(a:TypeId)(cs:List PD):Lc (p8 P a cs):=by
 unfold Dw.p8
 split<;>first|exact Lc.fail|skip
 split<;>first|exact Lc.fail|skip
 split<;>first|exact Lc.fail|exact Lc.j6 _ _
theorem Lc.ta(e:TypeId)(es:List PD)(h m:Int):Lc (ta P e es h m):=by
 unfold Dw.ta
 split<;>first|exact Lc.fail|skip
 split<;>first|exact Lc.fail|exact Lc.j6 _ _
theorem Lc.rT(t:TypeId)(x:RV)(a hi b:Option RV):Lc (rT P t x a hi b):=by
 unfold Dw.rT
 split<;>first|exact Lc.fail|exact Lc.ta P _ _ _ _|skip
 split<;>first|exact Lc.fail|skip
 refine Lc.bind (Lc.get _) fun c=>?_
 split<;>first|exact Lc.fail|skip
 split<;>first|exact Lc.fail|exact Lc.j6 _ _
theorem Lc.lB(a:Nat)(t:TypeId)(x:RV)(b hi c:Option RV):Lc (lB P a t x b hi c):=by
 unfold Dw.lB
 split
 ·refine Lc.bind (Lc.get _) fun e=>?_
  split<;>first|exact Lc.fail|exact Lc.sliceB P _ _ _ _ _ _ _
 ·exact Lc.sliceB P _ _ _ _ _ _ _
 ·split<;>first|exact Lc.fail|exact Lc.p7 P _ _
 ·split<;>first|exact Lc.fail|exact Lc.p8 P _ _
 ·split<;>first|exact Lc.fail|(split<;>first|exact Lc.pure _|exact Lc.fail)
 ·exact Lc.rj P _ _ _ _ _ _
 ·exact Lc.pe P _ _ _ _ _ _
 all_goals first|exact Lc.fail|(split<;>first|exact Lc.fail|exact Lc.kJ _ _)
theorem Lc.pP(t:TypeId)(l:List (Nat×RV)):Lc (pP P t l):=by
 unfold Dw.pP
 split
 ·split<;>first|exact Lc.fail|skip
  split<;>first|exact Lc.fail|exact Lc.kJ _ _
 ·split<;>first|exact Lc.fail|skip
  split<;>first|exact Lc.fail|exact Lc.kJ _ _
 ·exact Lc.fail
theorem Lc.pT(mt:Bool)(cs:List RV):Lc (pT mt cs):=by
 unfold Dw.pT
 split
 ·exact Lc.pure _
 ·exact Lc.nT _
theorem Lc.lO(mt:Bool)(id:Nat)(t:TypeId)(len:Nat)(l:List (Nat×RV)):Lc (lO P mt id t len l):=by
 unfold Dw.lO
 split<;>first|exact Lc.fail|skip
 split<;>first|exact Lc.fail|skip
 split<;>first|exact Lc.fail|skip
 split<;>first|exact Lc.fail|skip
 refine iteInduction (motive:=Lc) (fun _=>Lc.j6 _ _) (fun _=>?_)
 refine Lc.bind (Lc.pT _ _) fun p=>?_
 obtain⟨a,u⟩:=p
 dsimp only
 split
 ·exact Lc.bind (Lc.ky _) fun _=>Lc.j6 _ _
 ·exact Lc.j6 _ _
theorem Lc.pM(id:Nat)(t:TypeId):Lc (pM P id t):=by
 unfold Dw.pM
 split<;>first|exact Lc.fail|exact Lc.bind (Lc.ky _) fun _=>Lc.pure _
theorem Lc.boxD(id:Nat)(v:RV):Lc (boxD id v):=Lc.bind (Lc.ky _) fun _=>Lc.j6 _ _
theorem Lc.tc(t:TypeId)(x:RV):Lc (tc P t x):=by
 unfold Dw.tc
 split<;>first|exact Lc.fail|exact Lc.kO _|skip
 all_goals refine Lc.bind (Lc.get _) fun a=>?_
 all_goals (split<;>first|exact Lc.fail|exact Lc.kO _|skip)
 all_goals (split<;>first|exact Lc.fail|exact Lc.kO _|exact Lc.kJ _ _)
theorem Lc.kT(x:RV):Lc (kT x):=by
 unfold Dw.kT
 split<;>first|exact Lc.fail|exact Lc.pure _|skip
 all_goals refine Lc.bind (Lc.get _) fun a=>?_
 all_goals (split<;>first|exact Lc.fail|skip)
 all_goals (split<;>first|exact Lc.fail|exact Lc.pure _|exact Lc.j6 _ _)
theorem Lc.lW(id:Nat)(t t':TypeId)(s x:RV):Lc (lW P id t t' s x):=by
 unfold Dw.lW
 split<;>first|exact Lc.fail|skip
 split<;>first|exact Lc.fail|skip
 split<;>first|exact Lc.fail|skip
 refine Lc.bind (Lc.kT _) fun xs=>?_
 split
 ·exact Lc.bind (Lc.ky _) fun _=>Lc.j6 _ _
 ·refine Lc.bind (Lc.get _) fun a=>?_
  split<;>first|exact Lc.fail|skip
  all_goals (split<;>first|exact Lc.fail|exact Lc.j6 _ _)
 ·refine Lc.bind (Lc.get _) fun a=>?_
  split<;>first|exact Lc.fail|skip
  split<;>first|exact Lc.fail|exact Lc.j6 _ _
 ·exact Lc.j6 _ _
 ·exact Lc.fail
theorem Lc.qj(x:RV):Lc (qj x):=by
 unfold Dw.qj
 split<;>first|exact Lc.fail|skip
 all_goals refine Lc.bind (Lc.get _) fun a=>?_
 all_goals (split<;>first|exact Lc.fail|skip)
 all_goals (split<;>first|exact Lc.fail|exact Lc.pure _|exact Lc.j6 _ _)
theorem Lc.pE(t:TypeId)(x y:RV):Lc (pE P t x y):=by
 unfold Dw.pE
 split<;>first|exact Lc.fail|skip
 split<;>first|exact Lc.fail|skip
 exact Lc.bind (Lc.qj _) fun _=>Lc.bind (Lc.kT _) fun _=>Lc.j6 _ _
theorem Lc.nY(t:TypeId)(x:RV):Lc (nY P t x):=by
 unfold Dw.nY
 split<;>first|exact Lc.fail|skip
 split<;>first|exact Lc.fail|skip
 exact Lc.bind (Lc.qj _) fun _=>Lc.j6 _ _
theorem Lc.minD(l:List RV):Lc (minD l):=by
 unfold Dw.minD
 split<;>first|exact Lc.fail|skip
 split<;>first|exact Lc.fail|exact Lc.pure _
theorem Lc.maxD(l:List RV):Lc (maxD l):=by
 unfold Dw.maxD
 split<;>first|exact Lc.fail|skip
 split<;>first|exact Lc.fail|exact Lc.pure _
theorem Lc.argD(by_:Bool)(v:RV):Lc (argD by_ v):=by
 unfold Dw.argD
 split<;>first|exact Lc.pure _|exact Lc.bind (Lc.ni _) fun _=>Lc.j6 _ _|(split<;>first|exact Lc.pure _|exact Lc.bind (Lc.ni _) fun _=>Lc.pure _|exact Lc.bind (Lc.ni _) fun _=>Lc.j6 _ _)
theorem Lc.pD(by_:Nat->Bool):∀(i:Nat)(l:List RV),Lc (pD by_ i l)
 |_,[]=>Lc.pure _
 |i,v::r=>Lc.bind (Lc.argD _ v) fun _=>Lc.bind (Lc.pD by_ (i+1) r) fun _=>Lc.pure _
theorem Lc.nn:∀(n:Nat)(done todo:List Nat),Lc (nn n done todo)
 |0,_,_=>Lc.fail
 |_+1,_,[]=>Lc.pure _
 |n+1,done,i::todo=>by
  unfold Dw.nn
  split
  ·exact Lc.nn n _ _
  ·exact Lc.bind (Lc.get _) fun _=>Lc.nn n _ _
theorem Lc.pH:∀(l:List Nat),Lc (pH l)
 | []=>Lc.pure _
 |_::r=>Lc.bind (Lc.get _) fun _=>Lc.bind (Lc.pH r) fun _=>Lc.pure _
theorem Lc.mH:∀(l:List Nat),Lc (mH l)
 | []=>Lc.pure _
 |_::r=>Lc.bind (Lc.ky _) fun _=>Lc.mH r
theorem Lc.mJ(by_:FuncId->Nat->Bool)(call:ko)(f:FuncId)(base:Nat)(l:List RV):Lc (mJ by_ call f base l):=by
 unfold Dw.mJ
 refine Lc.bind (Lc.pD _ _ _) fun x=>Lc.bind (Lc.nn _ _ _) fun ids=>Lc.bind (Lc.pH _) fun a=>?_
 split<;>first|exact Lc.fail|skip
 split<;>first|exact Lc.fail|exact Lc.bind (Lc.mH _) fun _=>Lc.pure _
theorem Lc.oO(id:Nat)(src dst:TypeId)(x:RV):Lc (oO P id src dst x):=by
 unfold Dw.oO
 split
 ·split<;>first|exact Lc.fail|exact Lc.bind (Lc.ky _) fun _=>Lc.j6 _ _
 ·split<;>first|exact Lc.fail|skip
  refine Lc.bind (Lc.get _) fun a=>?_
  split<;>first|exact Lc.fail|skip
  refine iteInduction (motive:=Lc) (fun _=>?_) (fun _=>Lc.fail)
  split<;>first|exact Lc.fail|exact Lc.kO _
 ·split<;>first|exact Lc.fail|skip
  split<;>first|exact Lc.fail|exact Lc.kO _
 ·exact Lc.oR _
theorem Lc.ng(id:Nat)(t:TypeId):Lc (ng P id t):=by
 unfold Dw.ng
 split<;>first|exact Lc.fail|exact Lc.bind (Lc.ky _) fun _=>Lc.pure _
theorem Lc.nF(id:Nat)(t:TypeId):Lc (nF P id t):=by
 unfold Dw.nF
 split<;>first|exact Lc.fail|skip
 split<;>first|exact Lc.fail|exact Lc.bind (Lc.ky _) fun _=>Lc.pure _
theorem Lc.mQ(a:Nat)(t:TypeId)(x k:RV):Lc (mQ P a t x k):=by
 unfold Dw.mQ
 split<;>first|exact Lc.fail|skip
 refine Lc.bind (Lc.get _) fun b=>?_
 split<;>first|exact Lc.fail|skip
 refine iteInduction (motive:=Lc) (fun _=>?_) (fun _=>Lc.fail)
 refine Lc.bind (Lc.ky _) fun _=>?_
 split
 ·exact Lc.j6 _ _
 ·exact iteInduction (motive:=Lc) (fun _=>Lc.pure _) (fun _=>Lc.fail)
 ·exact Lc.fail
theorem Lc.lQ(x n v:RV):Lc (lQ x n v):=by
 unfold Dw.lQ
 split<;>first|exact Lc.fail|skip
 refine Lc.bind (Lc.get _) fun a=>?_
 split<;>first|exact Lc.fail|skip
 refine Lc.bind (Lc.get _) fun a=>?_
 split<;>first|exact Lc.fail|skip
 refine iteInduction (motive:=Lc) (fun _=>?_) (fun _=>Lc.fail)
 split<;>first|exact Lc.fail|exact Lc.pure _
theorem Lc.nv(t:TypeId)(x k:RV)(ok:Bool):Lc (nv P t x k ok):=by
 unfold Dw.nv
 split<;>first|exact Lc.fail|skip
 refine Lc.bind (Lc.get _) fun a=>?_
 split<;>first|exact Lc.fail|skip
 split<;>first|exact Lc.fail|skip
 split<;>first|exact Lc.fail|(split<;>exact Lc.kO _)
theorem Lc.oC(t:TypeId)(x k v:RV):Lc (oC P t x k v):=by
 unfold Dw.oC
 split<;>first|exact Lc.fail|skip
 refine Lc.bind (Lc.get _) fun a=>?_
 split<;>first|exact Lc.fail|skip
 split<;>first|exact Lc.fail|skip
 refine Lc.bind (Lc.ni _) fun p=>?_
 obtain⟨p,u⟩:=p
 dsimp only
 split<;>first|exact Lc.fail|(split<;>first|exact Lc.fail|exact Lc.j6 _ _|exact Lc.pure _)
theorem Lc.mh(id:Nat)(t:TypeId)(l c:RV):Lc (mh P id t l c):=by
 unfold Dw.mh
 split<;>first|exact Lc.fail|skip
 split<;>first|exact Lc.fail|exact Lc.bind (Lc.ky _) fun _=>Lc.j6 _ _
theorem Lc.ru(id:Nat)(t t':TypeId)(a x:RV):Lc (ru P id t t' a x):=by
 unfold Dw.ru
 split<;>first|exact Lc.fail|skip
 split<;>first|exact Lc.fail|exact Lc.bind (Lc.ky _) fun _=>Lc.j6 _ _
theorem Lc.capD(t:TypeId)(x:RV):Lc (capD P t x):=by
 unfold Dw.capD
 split<;>first|exact Lc.fail|exact Lc.kO _
theorem Lc.ifcD(t:TypeId)(x:RV):Lc (ifcD P t x):=by
 unfold Dw.ifcD
 split<;>first|exact Lc.fail|exact Lc.kO _
theorem Lc.oi(x:RV)(t:TypeId)(ok:Bool):Lc (oi P x t ok):=by
 unfold Dw.oi
 split<;>first|exact Lc.fail|skip
 exact iteInduction (motive:=Lc) (fun _=>Lc.kO _) (fun _=>Lc.fail)
theorem Lc.ov(mt:Hf)(call:ko)(base:Nat)(x:RV)(name:String)(as:List RV):Lc (ov P mt call base x name as):=by
 unfold Dw.ov
 split<;>first|exact Lc.fail|skip
 split<;>first|exact Lc.fail|exact Lc.mJ _ _ _ _ _|skip
 exact Lc.bind (Lc.mK P _ _) fun _=>Lc.mJ _ _ _ _ _
theorem Lc.tA(t:TypeId)(len:Nat)(parts:List (Nat×RV)):Lc (tA P t len parts):=by
 unfold Dw.tA
 split<;>first|exact Lc.fail|skip
 split<;>first|exact Lc.fail|skip
 refine Lc.ite ?_ Lc.fail
 split<;>first|exact Lc.fail|exact Lc.j6 _ _
theorem Lc.tB(a:Nat)(e2:TypeId)(ts:List (Nat×TypeId))(c:Option RV):Lc (tB a e2 ts c):=by
 unfold Dw.tB
 split
 ·exact Lc.pure _
 ·refine Lc.bind (Lc.get _) fun b=>?_
  split
  ·exact Lc.ite (Lc.pure _) Lc.fail
  ·exact Lc.fail
 ·exact Lc.fail
theorem Lc.mz(t t':TypeId)(s:RV)(cs:List RV):Lc (mz P t t' s cs):=by
 unfold Dw.mz
 split<;>first|exact Lc.fail|skip
 split<;>first|exact Lc.fail|skip
 refine Lc.ite (Lc.bind (Lc.get _) fun a=>?_) Lc.fail
 split<;>first|exact Lc.fail|skip
 refine Lc.ite (Lc.bind (Lc.tB _ _ _ _) fun p=>?_) Lc.fail
 obtain⟨p,u⟩:=p
 dsimp only
 split<;>first|exact Lc.fail|exact Lc.j6 _ _
theorem Lc.lF(id:Nat)(t t':TypeId)(s x:RV):Lc (lF P id t t' s x):=by
 unfold Dw.lF
 split
 ·exact Lc.mz P _ _ _ _
 ·exact Lc.lW P _ _ _ _ _
theorem Lc.kF(mt:Hf)(call:ko)(s:St)(o:Oper):Lc (kF P mt call s o):=by
 unfold Dw.kF
 split
 all_goals (try exact Lc.fail)
 all_goals (try exact Lc.pM P _ _)
 all_goals (split<;>first|exact Lc.fail|exact Lc.kO _|exact Lc.ifcD P _ _|exact Lc.oi P _ _ _|exact Lc.boxD _ _|exact Lc.pP P _ _|exact Lc.ite (Lc.tA P _ _ _) (Lc.lO P _ _ _ _ _)|exact Lc.mK P _ _|exact Lc.nI P _ _ _|exact Lc.pI _ _|exact Lc.oR _|exact Lc.lB P _ _ _ _ _ _|exact Lc.mg P _ _ _|exact Lc.pQ P _ _ _|exact Lc.lz P _ _ _|exact Lc.o5 P _ _ _|exact Lc.minD _|exact Lc.maxD _|exact Lc.nv P _ _ _ _|exact Lc.oC P _ _ _ _|exact Lc.ng P _ _|exact iteInduction (motive:=Lc) (fun _=>Lc.nF P _ _) (fun _=>Lc.ng P _ _)|exact Lc.mQ P _ _ _ _|exact Lc.lQ _ _ _|exact Lc.mh P _ _ _ _|exact Lc.oO P _ _ _ _|skip)
 all_goals (split<;>first|exact Lc.fail|exact Lc.kO _|exact Lc.ov P _ _ _ _ _ _|exact Lc.tc P _ _|exact Lc.capD P _ _|exact Lc.lF P _ _ _ _ _|exact Lc.pE P _ _ _|exact Lc.nY P _ _|exact Lc.rT P _ _ _ _ _|exact Lc.lB P _ _ _ _ _ _|exact Lc.mJ _ _ _ _ _|(split<;>first|exact Lc.fail|exact Lc.kO _|exact Lc.lF P _ _ _ _ _|exact Lc.ru P _ _ _ _ _))
end
theorem pW{s s':St}:∀{xs:List Operand},(∀x∈xs,s.opd x=s'.opd x)->lN s xs=lN s' xs
 | [],_=>rfl
 |x::xs,h=>by simp only [lN];rw [h x sm,pW fun y a=>h y (by simp [a])]
theorem nH{s s':St}:∀{xs:List (Nat×Operand)},(∀x∈xs.map (·.2),s.opd x=s'.opd x)->lH s xs=lH s' xs
 | [],_=>rfl
 |(i,x)::xs,h=>by simp only [lH];rw [h x sm,nH fun y a=>h y (by simp only [Bj,List.mem_cons];exact .inr a)]
theorem nx{s s':St}{x:Option Operand}(h:∀y∈x.toArray,s.opd y=s'.opd y):kR s x=kR s' x:=by
 cases x with
 |none=>rfl
 |some y=>simp only [kR];rw [h y sm]
theorem wN{P:Program}{mt:Hf}{call:ko}{s s':St}(o:Oper)(h:∀x∈o.op.operands,s.opd x=s'.opd x):kF P mt call s o=kF P mt call s' o:=by
 unfold kF
 rcases j:o.op with x|x|⟨c,x,y⟩|t|⟨t,x⟩|⟨t,parts⟩|⟨t,len,parts⟩|⟨t,m,k,x⟩|⟨t,x⟩|⟨t,x,y⟩|g|g|x|⟨op,t,x,y,t2⟩|⟨op,t,x⟩|⟨t,t2,x⟩|⟨t,x⟩|⟨t,x⟩|⟨fn,x,y⟩|⟨t,x⟩|⟨t,x⟩|⟨t,x,y⟩|⟨t,x,r,hi,u⟩|⟨t,x,f⟩|⟨t,x,f⟩|⟨t,x,y⟩|⟨t,x,y⟩|⟨t,x,y,c⟩|⟨t,x,y,c⟩|⟨t,x,y⟩|⟨t,x,y,c⟩|⟨t,x⟩|⟨x,b⟩|x|⟨x,t,t2,b⟩|⟨x,i⟩|c|c|c|x|⟨x,y⟩|⟨t,x,b⟩|⟨cs,b⟩
 all_goals (simp only [j,Op.operands]at h)
 all_goals (try simp only)
 all_goals (try rw [h x sm])
 all_goals (try rw [h y sm])
 ·rw [h c sm]
 ·rw [nH fun x a=>h x (by simpa using a)]
 ·rw [nH fun x a=>h x (by simpa using a)]
 ·cases op<;>(try simp only)<;>rw [h x sm]
 ·rw [pW (s:=s) (s':=s') (xs:=y.toList) fun x a=>h x (by simp only [Bv];exact .inr (by simpa using a))]
  cases lN s' y.toList with
  |none=>rfl
  |some l=>
  rcases a:x.toList with _|⟨n,_|⟨v,xs⟩⟩
  ·cases fn<;>rfl
  ·have p:s.opd n=s'.opd n:=h n (by simp only [Bv];exact .inl (by rw [<-Array.mem_toList_iff,a];exact List.mem_singleton.2 rfl))
   cases fn<;>first|rfl|(simp only [];rw [p])
  ·cases fn<;>rfl
 ·rw [nx (x:=x) fun y e=>h y (by simpa using e)]
 ·rw [nx (x:=r) fun y e=>h y (by simp only [Bv];exact .inl (.inl (.inr e))),nx (x:=hi) fun y e=>h y (by simp only [Bv];exact .inl (.inr e)),nx (x:=u) fun y e=>h y (by simp only [Bv];exact .inr e)]
 ·rw [h c sm]
 ·rw [h c sm]
 ·have q:lN s c.args.toList=lN s' c.args.toList:=pW fun x a=>h x (by simp only [Call.operands,Bv];exact .inr (by simpa using a))
  rw [q]
  cases hc:c.callee with
  |value f=>
   have hf:s.opd f=s'.opd f:=h f (by simp [Call.operands,hc])
   cases lN s' c.args.toList with
   |none=>rfl
   |some l=>simp only [hf]
  |invoke rc m=>
   have hf:s.opd rc=s'.opd rc:=h rc (by simp [Call.operands,hc])
   cases lN s' c.args.toList with
   |none=>rfl
   |some l=>simp only [hf]
  |builtin b=>
   cases lN s' c.args.toList with
   |none=>cases b<;>rfl
   |some l=>rcases l with _|⟨x,_|⟨y,_|⟨z,l⟩⟩⟩<;>cases b<;>rfl
end Go.Dw
namespace Go.Dw
theorem w9:∀(u:Ups)(s s':St)(id:Nat),id∈u.map (·.1)->(s.ups u).boxes id=(s'.ups u).boxes id
 | [],_,_,_,h=>by simp at h
 |(i,b)::r,s,s',id,h=>by
  rw [lI,lI]
  by_cases a:id∈r.map (·.1)
  ·exact w9 r _ _ id a
  ·rw [lL _ _ _ a,lL _ _ _ a]
   have:id=i:=by simpa [a]using h
   subst this
   show upd s.boxes id b id=upd s'.boxes id b id
   rw [jQ,jQ]
theorem mo(s:St)(d:Option Nat)(v:RV):(s.put d v).boxes=s.boxes:=by cases d<;>rfl
theorem St.ext'{s s':St}(h1:s.kr=s'.kr)(e:s.boxes=s'.boxes):s=s':=by
 obtain⟨a,b⟩:=s
 obtain⟨c,d⟩:=s'
 simp only at h1 e
 subst h1;subst e
 rfl
theorem tF{s:St}{u1 u2:Ups}{d1 d2:Option Nat}{v1 v2:RV}(hu:disj (u1.map (·.1)) (u2.map (·.1))=true)(hd:∀d,d1=some d->d2≠some d):
  ((((s.ups u1).put d1 v1).ups u2).put d2 v2)=((((s.ups u2).put d2 v2).ups u1).put d1 v1):=by
 have hu:=pn hu
 refine St.ext' ?_ ?_
 ·cases d1 with
  |none=>
   cases d2 with
   |none=>simp only [St.put,me]
   |some e=>simp only [St.put,me]
  |some d=>
   cases d2 with
   |none=>simp only [St.put,me]
   |some e=>
    have b:d≠e:=fun he=>hd d rfl (he▸rfl)
    simp only [St.put,me]
    funext t
    by_cases h1:t=d
    ·subst h1;simp [b]
    ·by_cases a:t=e
     ·subst a;simp [h1]
     ·simp [h1,a]
 ·rw [mo,mo]
  funext id
  by_cases h1:id∈u1.map (·.1)
  ·have a:id∉u2.map (·.1):=hu id h1
   rw [lL _ _ _ a,mo]
   rw [w9 u1 _ ((s.ups u2).put d2 v2) id h1]
  ·by_cases a:id∈u2.map (·.1)
   ·rw [lL u1 _ _ h1,mo]
    rw [w9 u2 _ s id a]
   ·rw [lL _ _ _ a,mo,lL _ _ _ h1,lL _ _ _ h1,mo,lL _ _ _ a]
section
variable {P:Program}{mt:Hf}{call:ko}{ops:Array Oper}
theorem nS{o:Oper}{s s':St}{t:Tr}(h:mc P mt call ops o s=some (s',t)):
  (j9 ops s o=some true∧∃v u,kF P mt call s o s.boxes=some ((v,u),t.rd,true)∧s'=(s.ups u).put o.dst v∧t.wr=u.map (·.1))∨
  (j9 ops s o=some false∧s'=s.put o.dst .undef∧t.rd=[]∧t.wr=[]):=by
 unfold mc at h
 rcases hw:j9 ops s o with _|w
 ·simp [hw]at h
 simp only [hw]at h
 cases w with
 |true=>
  simp only [if_true]at h
  rcases he:kF P mt call s o s.boxes with _|⟨⟨v,u⟩,rd,c⟩
  ·simp [he]at h
  simp only [he]at h
  cases c with
  |true=>
   simp only [if_true,AD,AF]at h
   obtain⟨rfl,rfl⟩:=h
   exact .inl ⟨rfl,v,u,rfl,rfl,rfl⟩
  |false=>simp at h
 |false=>
  simp only [Bool.false_eq_true,if_false,AD,AF]at h
  obtain⟨rfl,rfl⟩:=h
  exact .inr ⟨rfl,rfl,rfl,rfl⟩
theorem qz{o:Oper}{s:St}{v:RV}{u:Ups}{rd:List Nat}(hw:j9 ops s o=some true)(he:kF P mt call s o s.boxes=some ((v,u),rd,true)):
  mc P mt call ops o s=some ((s.ups u).put o.dst v,⟨rd,u.map (·.1)⟩):=by
 unfold mc;simp [hw,he]
theorem p9{o:Oper}{s:St}(hw:j9 ops s o=some false):mc P mt call ops o s=some (s.put o.dst .undef,⟨[],[]⟩):=by
 unfold mc;simp [hw]
theorem nU{o:Oper}{s s':St}(h:∀t∈o.looksAt ops,s.kr t=s'.kr t):j9 ops s o=j9 ops s' o:=by
 unfold j9
 cases a:o.guard with
 |none=>rfl
 |some g=>
  obtain⟨j,want⟩:=g
  simp only
  cases ht:(ops[j]?).bind (·.dst)with
  |none=>rfl
  |some t=>
   simp only
   rw [h t (by simp [Oper.looksAt,a,ht])]
theorem sW{o:Oper}{s s':St}(h:∀t∈o.looksAt ops,s.kr t=s'.kr t):kF P mt call s o=kF P mt call s' o:=by
 refine wN o fun x a=>?_
 cases x with
 |tmp t=>exact h t (List.mem_append_left _ (List.mem_filterMap.2 ⟨.tmp t,by simpa using a,rfl⟩))
 |const v=>rfl
 |global g=>rfl
 |func f=>rfl
theorem wu{o:Oper}{s s1 s':St}{t:Tr}{d:Option Nat}{u:Ups}{v:RV}(h:mc P mt call ops o s1=some (s',t))(j:s1=(s.ups u).put d v)
  (hd:∀e,d=some e->e∉o.looksAt ops) (hu:disj (u.map (·.1)) t.rd=true):
  ∃v' f,t.wr=f.map (·.1)∧s'=(s1.ups f).put o.dst v'∧mc P mt call ops o s=some ((s.ups f).put o.dst v',t):=by
 have a:∀t∈o.looksAt ops,s1.kr t=s.kr t:=by
  intro t ht
  subst j
  cases d with
  |none=>simp only [St.put,me]
  |some e=>
   have:t≠e:=fun he=>hd e rfl (he▸ht)
   simp only [St.put,me,this,if_false]
 have hu:=pn hu
 rcases nS h with⟨hw,v',f,he,h1,c⟩|⟨hw,h1,c,g⟩
 ·have b:j9 ops s o=some true:=by rw [<-nU a];exact hw
  have i:kF P mt call s o s.boxes=some ((v',f),t.rd,true):=by
   rw [<-sW (P:=P) (mt:=mt) (call:=call) a]
   refine Lc.kF P mt call s1 o _ _ _ _ _ he fun id hid=>?_
   subst j
   rw [mo,lL _ _ _ (fun hm=>hu id hm hid)]
  refine⟨v',f,c,h1,?_⟩
  rw [qz b i]
  obtain⟨rd,wr⟩:=t
  simp only at c
  rw [c]
 ·have b:j9 ops s o=some false:=by rw [<-nU a];exact hw
  refine⟨.undef,[],by rw [g];rfl,h1,?_⟩
  rw [p9 b]
  obtain⟨rd,wr⟩:=t
  simp only at c g
  rw [c,g]
  rfl
theorem commute{x y:Oper}{s s1 s2:St}{i ty:Tr}(h1:mc P mt call ops x s=some (s1,i))(F:mc P mt call ops y s1=some (s2,ty))(D:qZ ops (x,i) (y,ty)=true):
  ∃E,mc P mt call ops y s=some (E,ty)∧mc P mt call ops x E=some (s2,i):=by
 simp only [qZ,Bool.and_eq_true]at D
 obtain⟨⟨⟨n,o⟩,f⟩,p⟩:=D
 obtain⟨a1,a2,a3⟩:=Oper.apart_spec n
 have G:∃v u,s1=(s.ups u).put x.dst v∧i.wr=u.map (·.1):=by
  rcases nS h1 with⟨_,v,u,_,c,b⟩|⟨_,c,_,b⟩
  ·exact⟨v,u,c,b⟩
  ·exact⟨.undef,[],c,by rw [b];rfl⟩
 obtain⟨J,I,z,B⟩:=G
 obtain⟨k,j,m,l,H⟩:=wu F z a1 (by rw [<-B];exact o)
 refine⟨_,H,?_⟩
 have a:∀t∈x.looksAt ops,((s.ups j).put y.dst k).kr t=s.kr t:=by
  intro t ht
  cases q:y.dst with
  |none=>simp only [St.put,me]
  |some e=>
   have:t≠e:=fun he=>a3 e q (he▸ht)
   simp only [St.put,me,this,if_false]
 have f:=pn f
 rcases nS h1 with⟨hw,v,u,he,c,b⟩|⟨hw,c,b,C⟩
 ·have g:j9 ops ((s.ups j).put y.dst k) x=some true:=by rw [nU a];exact hw
  have r:kF P mt call ((s.ups j).put y.dst k) x ((s.ups j).put y.dst k).boxes=some ((v,u),i.rd,true):=by
   rw [sW (P:=P) (mt:=mt) (call:=call) a]
   refine Lc.kF P mt call s x _ _ _ _ _ he fun id hid=>?_
   rw [mo,lL _ _ _ (fun hm=>f id (by rw [m];exact hm) hid)]
  rw [qz g r,l,c]
  rw [tF (by rw [<-b, <-m];exact p) a2]
  obtain⟨rd,wr⟩:=i
  simp only at b
  rw [b]
 ·have g:j9 ops ((s.ups j).put y.dst k) x=some false:=by rw [nU a];exact hw
  rw [p9 g,l,c]
  have:=tF (s:=s) (u1:=[]) (u2:=j) (d1:=x.dst) (d2:=y.dst) (v1:= .undef) (v2:=k) (by rfl) a2
  simp only [St.ups]at this
  rw [this]
  obtain⟨rd,wr⟩:=i
  simp only at b C
  rw [b,C]
theorem oo{o:Oper}{r:List Oper}{s sF:St}{ts:List Tr}(h:lM P mt call ops (o::r) s=some (sF,ts)):
  ∃s1 t a,mc P mt call ops o s=some (s1,t)∧lM P mt call ops r s1=some (sF,a)∧ts=t::a:=by
 unfold lM at h
 rcases h1:mc P mt call ops o s with _|⟨s1,t⟩
 ·simp [h1]at h
 simp only [h1]at h
 rcases b:lM P mt call ops r s1 with _|⟨s2,a⟩
 ·simp [b]at h
 simp only [b,AD,AF]at h
 exact⟨s1,t,a,rfl,by rw [b,h.1],h.2.symm⟩
theorem evOps_mk{o:Oper}{r:List Oper}{s s1 sF:St}{t:Tr}{ts:List Tr}(h1:mc P mt call ops o s=some (s1,t))(a:lM P mt call ops r s1=some (sF,ts)):
  lM P mt call ops (o::r) s=some (sF,t::ts):=by
 unfold lM;simp [h1,a]
theorem rH:∀(a:List (Oper×Tr)){o:Oper}{t:Tr}{b:List (Oper×Tr)}{s sF:St},
  lM P mt call ops ((a++(o,t)::b).map (·.1)) s=some (sF,(a++(o,t)::b).map (·.2))->(∀x∈a,qZ ops x (o,t)=true)->
  ∃s1,mc P mt call ops o s=some (s1,t)∧lM P mt call ops ((a++b).map (·.1)) s1=some (sF,(a++b).map (·.2))
 | [],o,t,b,s,sF,h,_=>by
  simp only [List.nil_append,Bj]at h
  obtain⟨s1,t',f,h1,c,e⟩:=oo h
  cases e
  exact⟨s1,h1,c⟩
 |(x,p)::a,o,t,b,s,sF,h,g=>by
  simp only [Bt,Bj]at h
  obtain⟨s1,t',f,h1,c,e⟩:=oo h
  cases e
  obtain⟨s2,i,j⟩:=rH a c (fun y m=>g y (by simp [m]))
  obtain⟨n,k,l⟩:=commute h1 i (g (x,p) sm)
  exact⟨n,k,by simp only [Bt,Bj];exact evOps_mk l j⟩
theorem si:∀(l:List Oper)(acc:List Nat)(i:Nat),i<acc.length->(sh l acc).getD i 0=acc.getD i 0
 | [],acc,i,_=>rfl
 |o::r,acc,i,h=>by
  rw [sh,si r _ i so]
  simp only [Bu]
  rw [AR h]
theorem sZ(acc:List Nat):∀(es:List Edge)(b j:Nat),(es.foldl (fun b e=>if Region.binds .any e then b ||| (2 ^ e.on ||| acc.getD e.on 0)else b) b).testBit j=true->
  b.testBit j=true∨∃e∈es,Region.binds .any e=true∧(e.on=j∨(acc.getD e.on 0).testBit j=true)
 | [],b,j,h=>.inl h
 |e::es,b,j,h=>by
  simp only [List.foldl_cons]at h
  rcases sZ acc es _ j h with h1|⟨a,h1,c,f⟩
  ·by_cases hb:Region.binds .any e=true
   ·simp only [hb,if_true,Nat.testBit_or,Bool.or_eq_true,Nat.testBit_two_pow,decide_eq_true_eq]at h1
    rcases h1 with h1|h1|h1
    ·exact .inl h1
    ·exact .inr ⟨e,sm,hb,.inl h1⟩
    ·exact .inr ⟨e,sm,hb,.inr h1⟩
   ·simp only [hb]at h1;exact .inl h1
  ·exact .inr ⟨a,by simp [h1],c,f⟩
theorem qN:∀(l:List Oper)(acc:List Nat)(i:Nat)(o:Oper),l[i]? =some o->∀j,((sh l acc).getD (acc.length+i) 0).testBit j=true->
  ∃e∈o.after,Region.binds .any e=true∧(e.on=j∨(e.on<acc.length+i∧((sh l acc).getD e.on 0).testBit j=true))
 | [],acc,i,o,h,_,_=>by simp at h
 |x::r,acc,0,o,h,j,c=>by
  simp only [List.getElem?_cons_zero,AD]at h
  subst h
  rw [sh,Nat.add_zero,si r _ acc.length sm]at c
  simp only [Bu,List.getElem?_concat_length,Option.getD_some]at c
  rcases sZ acc x.after.toList 0 j c with h1|⟨e,h1,g,a⟩
  ·simp at h1
  ·refine⟨e,by simpa using h1,g,?_⟩
   rcases a with a|a
   ·exact .inl a
   ·by_cases f:e.on<acc.length
    ·refine .inr ⟨om,?_⟩
     rw [sh,si r _ e.on so]
     simp only [Bu]at a⊢
     rw [AR f]
     exact a
    ·rw [Bu,List.getElem?_eq_none om]at a
     simp at a
 |x::r,acc,i+1,o,h,j,c=>by
  simp only [List.getElem?_cons_succ]at h
  rw [sh]at c⊢
  have := qN r (acc ++ [x.after.toList.foldl (fun b e => if Region.binds .any e then b ||| (2 ^ e.on ||| acc.getD e.on 0) else b) 0]) i o h j (by
   simp only [BH,BN]
   rw [show acc.length+1+i=acc.length+(i+1)by omega]
   exact c)
  simp only [BH,BN]at this
  rw [show acc.length+1+i=acc.length+(i+1)by omega]at this
  exact this
theorem wA{listed:Array Bool}(a:∀(i:Nat)o,ops[i]? =some o->listed.getD i false=true->∀e∈o.after,Region.binds .any e=true->listed.getD e.on false=true)(hsz:listed.size=ops.size):
  ∀(n i:Nat)(o:Oper),i<=n->ops[i]? =some o->(∀e∈o.after,Region.binds .any e=true->listed.getD e.on false=true)->∀j,((sh ops.toList []).getD i 0).testBit j=true->listed.getD j false=true:=by
 intro n
 induction n with
 |zero=>
  intro i o hi ho he j g
  have l:i=0:=by omega
  subst l
  obtain⟨e,h1,f,b⟩:=qN ops.toList [] 0 o (by simpa using ho) j (by simpa using g)
  rcases b with rfl|⟨b,_⟩
  ·exact he e h1 f
  ·simp at b
 |succ n p=>
  intro i o hi ho he j g
  obtain⟨e,h1,f,b⟩:=qN ops.toList [] i o (by simpa using ho) j (by simpa using g)
  rcases b with rfl|⟨b,m⟩
  ·exact he e h1 f
  ·simp only [List.length_nil,Nat.zero_add]at b
   have hl:=he e h1 f
   have k:e.on<ops.size:=by
    rcases Nat.lt_or_ge e.on listed.size with h|h
    ·omega
    ·simp [Array.getElem?_eq_none h]at hl
   have c:ops[e.on]? =some ops[e.on]:=Array.getElem?_eq_getElem k
   exact p e.on _ om c (a e.on _ c hl) j m
end
end Go.Dw
