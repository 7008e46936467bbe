
import Derived.Test.YtgdhcacjeppglaaGreatDwOp
set_option linter.unusedVariables false
set_option linter.unusedSimpArgs false
open Option.some renaming injEq->AD
open Prod.mk renaming injEq->AF
open List renaming cons_append->Bt, getD_eq_getElem?_getD->Bu, getElem?_append_left->AR, length_append->BH, length_singleton->BN, map_cons->Bj
open Array renaming mem_append->Bv

namespace Go.Dw
def Lc{α:Type}(m:M α):Prop:=∀b b' a r c,m b=some (a,r,c)->(∀id∈r,b' id=b id)->m b'=some (a,r,c)
theorem Lc.pure{α:Type}(a:α):Lc (M.pure a):=fun _ _ _ _ _ h _=>h
theorem Lc.cr{α:Type}(k:Bool)(a:α):Lc (M.cr k a):=fun _ _ _ _ _ h _=>h
theorem Lc.fail{α:Type}:Lc (M.fail:M α):=fun _ _ _ _ _ h _=>h
theorem Lc.get(id:Nat):Lc (M.get id):=by
 intro b b' a r c h hb
 obtain⟨h1,e,f⟩:=M.get_some h
 subst e;subst f
 simp [M.get,hb id sm,h1]
theorem Lc.cE(id:Nat):Lc (M.cE id):=by
 intro b b' a r c h hb
 obtain⟨h1,e,f⟩:=M.cU h
 subst e;subst f
 simp [M.cE,hb id sm,h1]
theorem Lc.bind{α β:Type}{m:M α}{f:α->M β}(hm:Lc m)(hf:∀a,Lc (f a)):Lc (M.bind m f):=by
 intro b b' x r c h hb
 unfold M.bind at h⊢
 rcases h1:m b with _|⟨a,k,i⟩
 ·simp [h1]at h
 simp only [h1]at h
 rcases g:f a b with _|⟨y,l,j⟩
 ·simp [g]at h
 simp only [g,AD,AF]at h
 obtain⟨rfl,rfl,rfl⟩:=h
 rw [hm b b' a k i h1 (fun id e=>hb id (List.mem_append.2 (.inl e)))]
 simp only [hf a b b' y l j g (fun id e=>hb id (List.mem_append.2 (.inr e)))]
theorem Lc.cQ(v:RV):Lc (cQ v):=Lc.pure _
theorem Lc.cK(k:Bool)(v:RV):Lc (cK k v):=Lc.cr _ _
theorem Lc.gD(o:Option (PD×Bool)):Lc (gD o):=by unfold Dw.gD;split<;>first|exact Lc.cr _ _|exact Lc.fail
theorem Lc.iU(v:RV):Lc (iU v):=by
 unfold Dw.iU
 split<;>first|exact Lc.pure _|exact Lc.fail|skip
 all_goals refine Lc.bind (Lc.get _) fun a=>?_
 all_goals (split<;>first|exact Lc.fail|skip)
 all_goals (split<;>first|exact Lc.pure _|exact Lc.cr _ _|exact Lc.fail)
theorem Lc.fH:∀(cs:List RV),Lc (fH cs)
 | []=>Lc.pure _
 |c::cs=>Lc.bind (Lc.iU c) fun _=>Lc.bind (Lc.fH cs) fun _=>Lc.pure _
theorem Lc.eX(v:RV):Lc (eX v):=by
 unfold Dw.eX
 split
 ·exact Lc.bind (Lc.fH _) fun _=>Lc.pure _
 ·exact Lc.iU _
section
variable (P:Program)
theorem Lc.ep(t:TypeId)(cs:List PD):Lc (ep P t cs):=by
 unfold Dw.ep
 split<;>first|exact Lc.fail|exact Lc.cK _ _|skip
 split<;>first|exact Lc.fail|exact Lc.cQ _
theorem Lc.er(t:TypeId)(cs:List RV)(o:Nat):Lc (er P t cs o):=by
 unfold Dw.er
 split<;>first|exact Lc.fail|exact Lc.cK _ _|skip
 split<;>first|exact Lc.fail|exact Lc.cQ _
theorem Lc.ite{α:Type}{c:Prop} [Decidable c] {a b:M α}(h1:Lc a)(e:Lc b):Lc (if c then a else b):=by split<;>assumption
theorem Lc.jc(t:TypeId)(es:List PD)(i o q:Nat)(h:Option (Nat×RV)):Lc (jc P t es i o q h):=by
 unfold Dw.jc
 split
 ·refine Lc.ite ?_ (Lc.ite ?_ Lc.fail)
  ·split
   ·exact Lc.ite (Lc.cQ _) Lc.fail
   ·exact Lc.fail
  ·split
   ·exact Lc.ep P t _
   ·exact Lc.fail
 ·exact Lc.fail
theorem Lc.e7(t:TypeId)(a:RV):Lc (e7 P t a):=by
 unfold Dw.e7
 split
 ·exact Lc.ep P t _
 ·split<;>first|exact Lc.fail|exact Lc.cQ _
 ·refine Lc.bind (Lc.get _) fun b=>?_
  split<;>first|exact Lc.er P t _ _|exact Lc.fail
 ·refine Lc.bind (Lc.get _) fun b=>?_
  split<;>first|exact Lc.fail|skip
  ·split<;>first|exact Lc.fail|skip
   split<;>first|exact Lc.fail|exact Lc.ep P t _
  ·split<;>first|exact Lc.fail|skip
   split<;>first|exact Lc.fail|exact Lc.cQ _
  ·split<;>first|exact Lc.fail|skip
   split<;>first|exact Lc.fail|exact Lc.cQ _
  ·exact Lc.ite (Lc.jc P t _ _ _ _ _) Lc.fail
 ·exact Lc.fail
theorem Lc.gT(t:TypeId)(a v:RV):Lc (gT P t a v):=by
 unfold Dw.gT
 split<;>first|exact Lc.fail|skip
 split
 ·refine Lc.bind (Lc.get _) fun b=>?_
  split<;>first|exact Lc.cr _ _|exact Lc.fail|skip
 ·refine Lc.bind (Lc.get _) fun b=>?_
  split<;>first|exact Lc.fail|skip
  ·split<;>first|exact Lc.fail|skip
   refine Lc.bind (Lc.eX _) fun p=>?_
   obtain⟨p,u⟩:=p
   dsimp only
   split<;>first|exact Lc.fail|skip
   split<;>first|exact Lc.fail|exact Lc.cr _ _
  ·exact iteInduction (motive:=Lc) (fun _=>Lc.cr _ _) (fun _=>Lc.fail)
  ·exact iteInduction (motive:=Lc) (fun _=>Lc.cr _ _) (fun _=>Lc.fail)
  ·refine Lc.ite (Lc.ite ?_ (Lc.ite ?_ Lc.fail)) Lc.fail
   ·split
    ·exact Lc.ite (Lc.cr _ _) Lc.fail
    ·exact Lc.fail
   ·split
    ·exact Lc.cr _ _
    ·exact Lc.fail
 ·exact Lc.fail
theorem Lc.hZ(off:Nat)(x:RV):Lc (hZ off x):=by
 unfold Dw.hZ
 split
 ·refine Lc.bind (Lc.get _) fun a=>?_
  split<;>first|exact Lc.cQ _|exact Lc.fail
 ·refine Lc.bind (Lc.get _) fun a=>?_
  split<;>first|exact Lc.fail|skip
  all_goals (split<;>first|exact Lc.cQ _|exact Lc.fail)
 ·exact Lc.cQ _
 ·exact Lc.fail
theorem Lc.dX(t:TypeId)(x:RV)(f:Nat):Lc (dX P t x f):=by
 unfold Dw.dX
 split<;>first|exact Lc.fail|skip
 split<;>first|exact Lc.fail|exact Lc.hZ _ _
theorem Lc.ij(t:TypeId)(x:RV)(f:Nat):Lc (ij P t x f):=by
 unfold Dw.ij
 split<;>first|exact Lc.fail|exact Lc.er P _ _ _
theorem Lc.jh(x i:RV):Lc (jh x i):=by
 unfold Dw.jh
 repeat' split
 all_goals first|exact Lc.cK _ _|exact Lc.fail
theorem Lc.jf(len:Nat)(e:TypeId)(x i:RV):Lc (jf P len e x i):=by
 unfold Dw.jf
 repeat' split
 all_goals first|exact Lc.bind (Lc.cr _ _) fun _=>Lc.er _ _ _ _|exact Lc.fail
theorem Lc.im(t:TypeId)(x i:RV):Lc (im P t x i):=by
 unfold Dw.im
 repeat' split
 all_goals first|exact Lc.jh _ _|exact Lc.jf _ _ _ _ _|exact Lc.fail
theorem Lc.dn(t:TypeId)(x i:RV):Lc (dn P t x i):=by
 unfold Dw.dn
 split
 ·split<;>first|exact Lc.fail|skip
  split<;>first|exact Lc.fail|exact Lc.cK _ _|skip
  all_goals refine Lc.bind (Lc.get _) fun a=>?_
  all_goals (split<;>first|exact Lc.fail|exact Lc.cK _ _|skip)
  all_goals (split<;>first|exact Lc.fail|exact Lc.cK _ _)
 ·split<;>first|exact Lc.fail|skip
  exact Lc.bind (Lc.cr _ _) fun _=>Lc.hZ _ _
 ·exact Lc.fail
theorem Lc.sliceB(e:TypeId)(id ver a b:Nat)(f c:Option RV):Lc (sliceB P e id ver a b f c):=by
 unfold Dw.sliceB
 split<;>first|exact Lc.fail|skip
 refine Lc.bind (Lc.get _) fun g=>?_
 split<;>first|exact Lc.fail|skip
 split<;>first|exact Lc.fail|exact Lc.cK _ _
theorem Lc.jo(a:Nat)(e:TypeId)(n:Nat)(c b f:Option RV):Lc (jo P a e n c b f):=by
 unfold Dw.jo
 split<;>first|exact Lc.fail|skip
 split<;>first|exact Lc.fail|exact Lc.bind (Lc.cE _) fun _=>Lc.cr _ _
theorem Lc.iz(id:Nat)(a:TypeId):Lc (iz P id a):=by
 unfold Dw.iz
 split<;>first|exact Lc.fail|skip
 split<;>first|exact Lc.fail|skip
 refine Lc.bind (Lc.get _) fun b=>?_
 split<;>first|exact Lc.fail|skip
 split<;>first|exact Lc.fail|skip
 split<;>first|exact Lc.fail|exact Lc.cr _ _
theorem Lc.iB(e:TypeId)(id ver:Nat)(b a:Option RV)(c:RV):Lc (iB P e id ver b a c):=by
 unfold Dw.iB
 split<;>first|exact Lc.fail|skip
 split<;>first|exact Lc.fail|skip
 refine Lc.bind (Lc.get _) fun f=>?_
 split<;>first|exact Lc.fail|skip
 split<;>first|exact Lc.fail|exact Lc.cr _ _
theorem Lc.iA(a:TypeId)(cs:List PD):Lc (iA P a cs):=by
 unfold Dw.iA
 split<;>first|exact Lc.fail|skip
 split<;>first|exact Lc.fail|skip
 split<;>first|exact Lc.fail|exact Lc.cr _ _
theorem Lc.kj(e:TypeId)(es:List PD)(h m:Int):Lc (kj P e es h m):=by
 unfold Dw.kj
 split<;>first|exact Lc.fail|skip
 split<;>first|exact Lc.fail|exact Lc.cr _ _
theorem Lc.j9(e:TypeId)(es:List PD)(l h m:Int):Lc (j9 P e es l h m):=by
 unfold Dw.j9
 split<;>first|exact Lc.fail|skip
 split<;>first|exact Lc.fail|exact Lc.cK _ _
theorem Lc.kE(t:TypeId)(x:RV)(b a c:Option RV):Lc (kE P t x b a c):=by
 unfold Dw.kE
 split<;>first|exact Lc.fail|exact Lc.kj P _ _ _ _|exact Lc.j9 P _ _ _ _ _|skip
 split<;>first|exact Lc.fail|skip
 refine Lc.bind (Lc.get _) fun e=>?_
 split<;>first|exact Lc.fail|skip
 split<;>first|exact Lc.fail|exact Lc.cr _ _
theorem Lc.dx(a:Nat)(t:TypeId)(x:RV)(c b e:Option RV):Lc (dx P a t x c b e):=by
 unfold Dw.dx
 split
 ·refine Lc.bind (Lc.get _) fun f=>?_
  split<;>first|exact Lc.fail|exact Lc.sliceB P _ _ _ _ _ _ _
 ·exact Lc.sliceB P _ _ _ _ _ _ _
 ·split<;>first|exact Lc.fail|exact Lc.iz P _ _
 ·split<;>first|exact Lc.fail|exact Lc.iA P _ _
 ·split<;>first|exact Lc.fail|(split<;>first|exact Lc.pure _|exact Lc.fail)
 ·exact Lc.jo P _ _ _ _ _ _
 ·exact Lc.iB P _ _ _ _ _ _
 all_goals first|exact Lc.fail|(split<;>first|exact Lc.fail|exact Lc.cK _ _)
theorem Lc.ig(t:TypeId)(l:List (Nat×RV)):Lc (ig P t l):=by
 unfold Dw.ig
 split
 ·split<;>first|exact Lc.fail|skip
  split<;>first|exact Lc.fail|exact Lc.cK _ _
 ·split<;>first|exact Lc.fail|skip
  split<;>first|exact Lc.fail|exact Lc.cK _ _
 ·exact Lc.fail
theorem Lc.iq(mt:Bool)(cs:List RV):Lc (iq mt cs):=by
 unfold Dw.iq
 split
 ·exact Lc.pure _
 ·exact Lc.fH _
theorem Lc.dC(mt:Bool)(id:Nat)(t:TypeId)(len:Nat)(l:List (Nat×RV)):Lc (dC P mt id t len l):=by
 unfold Dw.dC
 split<;>first|exact Lc.fail|skip
 split<;>first|exact Lc.fail|skip
 split<;>first|exact Lc.fail|skip
 split<;>first|exact Lc.fail|skip
 refine iteInduction (motive:=Lc) (fun _=>Lc.cr _ _) (fun _=>?_)
 refine Lc.bind (Lc.iq _ _) fun p=>?_
 obtain⟨a,u⟩:=p
 dsimp only
 split
 ·exact Lc.bind (Lc.cE _) fun _=>Lc.cr _ _
 ·exact Lc.cr _ _
theorem Lc.ib(id:Nat)(t:TypeId):Lc (ib P id t):=by
 unfold Dw.ib
 split<;>first|exact Lc.fail|exact Lc.bind (Lc.cE _) fun _=>Lc.pure _
theorem Lc.boxD(id:Nat)(v:RV):Lc (boxD id v):=Lc.bind (Lc.cE _) fun _=>Lc.cr _ _
theorem Lc.lenD(t:TypeId)(x:RV):Lc (lenD P t x):=by
 unfold Dw.lenD
 split<;>first|exact Lc.fail|exact Lc.cQ _|skip
 all_goals refine Lc.bind (Lc.get _) fun a=>?_
 all_goals (split<;>first|exact Lc.fail|exact Lc.cQ _|skip)
 all_goals (split<;>first|exact Lc.fail|exact Lc.cQ _|exact Lc.cK _ _)
theorem Lc.dB(x:RV):Lc (dB x):=by
 unfold Dw.dB
 split<;>first|exact Lc.fail|exact Lc.pure _|skip
 all_goals refine Lc.bind (Lc.get _) fun a=>?_
 all_goals (split<;>first|exact Lc.fail|skip)
 all_goals (split<;>first|exact Lc.fail|exact Lc.pure _|exact Lc.cr _ _)
theorem Lc.dU(id:Nat)(t t':TypeId)(s x:RV):Lc (dU P id t t' s x):=by
 unfold Dw.dU
 split<;>first|exact Lc.fail|skip
 split<;>first|exact Lc.fail|skip
 split<;>first|exact Lc.fail|skip
 refine Lc.bind (Lc.dB _) fun xs=>?_
 split
 ·exact Lc.bind (Lc.cE _) fun _=>Lc.cr _ _
 ·refine Lc.bind (Lc.get _) fun a=>?_
  split<;>first|exact Lc.fail|skip
  all_goals (split<;>first|exact Lc.fail|exact Lc.cr _ _)
 ·refine Lc.bind (Lc.get _) fun a=>?_
  split<;>first|exact Lc.fail|skip
  split<;>first|exact Lc.fail|exact Lc.cr _ _
 ·exact Lc.cr _ _
 ·exact Lc.fail
theorem Lc.dstM(x:RV):Lc (dstM x):=by
 unfold Dw.dstM
 split<;>first|exact Lc.fail|skip
 all_goals refine Lc.bind (Lc.get _) fun a=>?_
 all_goals (split<;>first|exact Lc.fail|skip)
 all_goals (split<;>first|exact Lc.fail|exact Lc.pure _|exact Lc.cr _ _)
theorem Lc.jy(t:TypeId)(x y:RV):Lc (jy P t x y):=by
 unfold Dw.jy
 split<;>first|exact Lc.fail|skip
 split<;>first|exact Lc.fail|skip
 exact Lc.bind (Lc.dstM _) fun _=>Lc.bind (Lc.dB _) fun _=>Lc.cr _ _
theorem Lc.gM(t:TypeId)(x:RV):Lc (gM P t x):=by
 unfold Dw.gM
 split<;>first|exact Lc.fail|skip
 split<;>first|exact Lc.fail|skip
 exact Lc.bind (Lc.dstM _) fun _=>Lc.cr _ _
theorem Lc.minD(l:List RV):Lc (minD l):=by
 unfold Dw.minD
 split<;>first|exact Lc.fail|skip
 split<;>first|exact Lc.fail|exact Lc.pure _
theorem Lc.maxD(l:List RV):Lc (maxD l):=by
 unfold Dw.maxD
 split<;>first|exact Lc.fail|skip
 split<;>first|exact Lc.fail|exact Lc.pure _
theorem Lc.argD(by_:Bool)(v:RV):Lc (argD by_ v):=by
 unfold Dw.argD
 split<;>first|exact Lc.pure _|exact Lc.bind (Lc.eX _) fun _=>Lc.cr _ _|(split<;>first|exact Lc.pure _|exact Lc.bind (Lc.eX _) fun _=>Lc.pure _|exact Lc.bind (Lc.eX _) fun _=>Lc.cr _ _)
theorem Lc.hT(by_:Nat->Bool):∀(i:Nat)(l:List RV),Lc (hT by_ i l)
 |_,[]=>Lc.pure _
 |i,v::r=>Lc.bind (Lc.argD _ v) fun _=>Lc.bind (Lc.hT by_ (i+1) r) fun _=>Lc.pure _
theorem Lc.eV:∀(n:Nat)(done todo:List Nat),Lc (eV n done todo)
 |0,_,_=>Lc.fail
 |_+1,_,[]=>Lc.pure _
 |n+1,done,i::todo=>by
  unfold Dw.eV
  split
  ·exact Lc.eV n _ _
  ·exact Lc.bind (Lc.get _) fun _=>Lc.eV n _ _
theorem Lc.hY:∀(l:List Nat),Lc (hY l)
 | []=>Lc.pure _
 |_::r=>Lc.bind (Lc.get _) fun _=>Lc.bind (Lc.hY r) fun _=>Lc.pure _
theorem Lc.ew:∀(l:List Nat),Lc (ew l)
 | []=>Lc.pure _
 |_::r=>Lc.bind (Lc.cE _) fun _=>Lc.ew r
theorem Lc.dN(by_:FuncId->Nat->Bool)(call:cB)(f:FuncId)(base:Nat)(l:List RV):Lc (dN by_ call f base l):=by
 unfold Dw.dN
 refine Lc.bind (Lc.hT _ _ _) fun x=>Lc.bind (Lc.eV _ _ _) fun ids=>Lc.bind (Lc.hY _) fun a=>?_
 split<;>first|exact Lc.fail|skip
 split<;>first|exact Lc.fail|exact Lc.bind (Lc.ew _) fun _=>Lc.pure _
theorem Lc.gA(id:Nat)(src dst:TypeId)(x:RV):Lc (gA P id src dst x):=by
 unfold Dw.gA
 split
 ·split<;>first|exact Lc.fail|exact Lc.bind (Lc.cE _) fun _=>Lc.cr _ _
 ·split<;>first|exact Lc.fail|skip
  refine Lc.bind (Lc.get _) fun a=>?_
  split<;>first|exact Lc.fail|skip
  refine iteInduction (motive:=Lc) (fun _=>?_) (fun _=>Lc.fail)
  split<;>first|exact Lc.fail|exact Lc.cQ _
 ·split<;>first|exact Lc.fail|skip
  split<;>first|exact Lc.fail|exact Lc.cQ _
 ·exact Lc.gD _
theorem Lc.eS(id:Nat)(t:TypeId):Lc (eS P id t):=by
 unfold Dw.eS
 split<;>first|exact Lc.fail|exact Lc.bind (Lc.cE _) fun _=>Lc.pure _
theorem Lc.fq(id:Nat)(t:TypeId):Lc (fq P id t):=by
 unfold Dw.fq
 split<;>first|exact Lc.fail|skip
 split<;>first|exact Lc.fail|exact Lc.bind (Lc.cE _) fun _=>Lc.pure _
theorem Lc.eE(a:Nat)(t:TypeId)(x k:RV):Lc (eE P a t x k):=by
 unfold Dw.eE
 split<;>first|exact Lc.fail|skip
 refine Lc.bind (Lc.get _) fun b=>?_
 split<;>first|exact Lc.fail|skip
 refine iteInduction (motive:=Lc) (fun _=>?_) (fun _=>Lc.fail)
 refine Lc.bind (Lc.cE _) fun _=>?_
 split
 ·exact Lc.cr _ _
 ·exact iteInduction (motive:=Lc) (fun _=>Lc.pure _) (fun _=>Lc.fail)
 ·exact Lc.fail
theorem Lc.dE(x n v:RV):Lc (dE x n v):=by
 unfold Dw.dE
 split<;>first|exact Lc.fail|skip
 refine Lc.bind (Lc.get _) fun a=>?_
 split<;>first|exact Lc.fail|skip
 refine Lc.bind (Lc.get _) fun a=>?_
 split<;>first|exact Lc.fail|skip
 refine iteInduction (motive:=Lc) (fun _=>?_) (fun _=>Lc.fail)
 split<;>first|exact Lc.fail|exact Lc.pure _
theorem Lc.fb(t:TypeId)(x k:RV)(ok:Bool):Lc (fb P t x k ok):=by
 unfold Dw.fb
 split<;>first|exact Lc.fail|skip
 refine Lc.bind (Lc.get _) fun a=>?_
 split<;>first|exact Lc.fail|skip
 split<;>first|exact Lc.fail|skip
 split<;>first|exact Lc.fail|(split<;>exact Lc.cQ _)
theorem Lc.gp(t:TypeId)(x k v:RV):Lc (gp P t x k v):=by
 unfold Dw.gp
 split<;>first|exact Lc.fail|skip
 refine Lc.bind (Lc.get _) fun a=>?_
 split<;>first|exact Lc.fail|skip
 split<;>first|exact Lc.fail|skip
 refine Lc.bind (Lc.eX _) fun p=>?_
 obtain⟨p,u⟩:=p
 dsimp only
 split<;>first|exact Lc.fail|(split<;>first|exact Lc.fail|exact Lc.cr _ _|exact Lc.pure _)
theorem Lc.dZ(id:Nat)(t:TypeId)(l c:RV):Lc (dZ P id t l c):=by
 unfold Dw.dZ
 split<;>first|exact Lc.fail|skip
 split<;>first|exact Lc.fail|exact Lc.bind (Lc.cE _) fun _=>Lc.cr _ _
theorem Lc.jv(id:Nat)(t t':TypeId)(a x:RV):Lc (jv P id t t' a x):=by
 unfold Dw.jv
 split<;>first|exact Lc.fail|skip
 split<;>first|exact Lc.fail|exact Lc.bind (Lc.cE _) fun _=>Lc.cr _ _
theorem Lc.capD(t:TypeId)(x:RV):Lc (capD P t x):=by
 unfold Dw.capD
 split<;>first|exact Lc.fail|exact Lc.cQ _
theorem Lc.ifcD(t:TypeId)(x:RV):Lc (ifcD P t x):=by
 unfold Dw.ifcD
 split<;>first|exact Lc.fail|exact Lc.cQ _
theorem Lc.ga(x:RV)(t:TypeId)(ok:Bool):Lc (ga P x t ok):=by
 unfold Dw.ga
 split<;>first|exact Lc.fail|skip
 exact iteInduction (motive:=Lc) (fun _=>Lc.cQ _) (fun _=>Lc.fail)
theorem Lc.gi(mt:Hf)(call:cB)(base:Nat)(x:RV)(name:String)(as:List RV):Lc (gi P mt call base x name as):=by
 unfold Dw.gi
 split<;>first|exact Lc.fail|skip
 split<;>first|exact Lc.fail|exact Lc.dN _ _ _ _ _|skip
 exact Lc.bind (Lc.e7 P _ _) fun _=>Lc.dN _ _ _ _ _
theorem Lc.kF(t:TypeId)(len:Nat)(parts:List (Nat×RV)):Lc (kF P t len parts):=by
 unfold Dw.kF
 split<;>first|exact Lc.fail|skip
 split<;>first|exact Lc.fail|skip
 refine Lc.ite ?_ Lc.fail
 split<;>first|exact Lc.fail|exact Lc.cr _ _
theorem Lc.lj(a:Nat)(e2:TypeId)(ts:List (Nat×TypeId))(c:Option RV):Lc (lj a e2 ts c):=by
 unfold Dw.lj
 split
 ·exact Lc.pure _
 ·refine Lc.bind (Lc.get _) fun b=>?_
  split
  ·exact Lc.ite (Lc.pure _) Lc.fail
  ·exact Lc.fail
 ·exact Lc.fail
theorem Lc.fk(t t':TypeId)(s:RV)(cs:List RV):Lc (fk P t t' s cs):=by
 unfold Dw.fk
 split<;>first|exact Lc.fail|skip
 split<;>first|exact Lc.fail|skip
 refine Lc.ite (Lc.bind (Lc.get _) fun a=>?_) Lc.fail
 split<;>first|exact Lc.fail|skip
 refine Lc.ite (Lc.bind (Lc.lj _ _ _ _) fun p=>?_) Lc.fail
 obtain⟨p,u⟩:=p
 dsimp only
 split<;>first|exact Lc.fail|exact Lc.cr _ _
theorem Lc.mg(by_:FuncId->Nat->Bool)(call:cB)(f:FuncId)(base:Nat)(l:List RV):Lc (mg by_ call f base l):=Lc.bind (Lc.dN by_ call f base l) fun _=>Lc.pure _
theorem Lc.iG(c:Bool)(by_:FuncId->Nat->Bool)(call:cB)(f:FuncId)(base:Nat)(l:List RV):Lc (iG c by_ call f base l):=by
 cases c
 ·exact Lc.dN by_ call f base l
 ·exact Lc.mg by_ call f base l
theorem Lc.dI(id:Nat)(t t':TypeId)(s x:RV):Lc (dI P id t t' s x):=by
 unfold Dw.dI
 split
 ·exact Lc.fk P _ _ _ _
 ·split<;>exact Lc.dU P _ _ _ _ _
theorem Lc.cX(mt:Hf)(call:cB)(s:St)(o:Oper):Lc (cX P mt call s o):=by
 unfold Dw.cX
 split
 all_goals (try exact Lc.fail)
 all_goals (try exact Lc.ib P _ _)
 all_goals (split<;>first|exact Lc.fail|exact Lc.cQ _|exact Lc.ifcD P _ _|exact Lc.ga P _ _ _|exact Lc.boxD _ _|exact Lc.ig P _ _|exact Lc.ite (Lc.kF P _ _ _) (Lc.dC P _ _ _ _ _)|exact Lc.e7 P _ _|exact Lc.gT P _ _ _|exact Lc.hZ _ _|exact Lc.gD _|exact Lc.dx P _ _ _ _ _ _|exact Lc.dX P _ _ _|exact Lc.ij P _ _ _|exact Lc.dn P _ _ _|exact Lc.im P _ _ _|exact Lc.minD _|exact Lc.maxD _|exact Lc.fb P _ _ _ _|exact Lc.gp P _ _ _ _|exact Lc.eS P _ _|exact iteInduction (motive:=Lc) (fun _=>Lc.fq P _ _) (fun _=>Lc.eS P _ _)|exact Lc.eE P _ _ _ _|exact Lc.dE _ _ _|exact Lc.dZ P _ _ _ _|exact Lc.gA P _ _ _ _|skip)
 all_goals (split<;>first|exact Lc.fail|exact Lc.cQ _|exact Lc.gi P _ _ _ _ _ _|exact Lc.lenD P _ _|exact Lc.capD P _ _|exact Lc.dI P _ _ _ _ _|exact Lc.jy P _ _ _|exact Lc.gM P _ _|exact Lc.kE P _ _ _ _ _|exact Lc.dx P _ _ _ _ _ _|exact Lc.dN _ _ _ _ _|exact Lc.iG _ _ _ _ _ _|(split<;>first|exact Lc.fail|exact Lc.cQ _|exact Lc.dI P _ _ _ _ _|exact Lc.jv P _ _ _ _ _))
end
theorem iw{s s':St}:∀{xs:List Operand},(∀x∈xs,s.opd x=s'.opd x)->fe s xs=fe s' xs
 | [],_=>rfl
 |x::xs,h=>by simp only [fe];rw [h x sm,iw fun y a=>h y (by simp [a])]
theorem fu{s s':St}:∀{xs:List (Nat×Operand)},(∀x∈xs.map (·.2),s.opd x=s'.opd x)->dt s xs=dt s' xs
 | [],_=>rfl
 |(i,x)::xs,h=>by simp only [dt];rw [h x sm,fu fun y a=>h y (by simp only [Bj,List.mem_cons];exact .inr a)]
theorem fc{s s':St}{x:Option Operand}(h:∀y∈x.toArray,s.opd y=s'.opd y):dv s x=dv s' x:=by
 cases x with
 |none=>rfl
 |some y=>simp only [dv];rw [h y sm]
theorem np{P:Program}{mt:Hf}{call:cB}{s s':St}(o:Oper)(h:∀x∈o.op.operands,s.opd x=s'.opd x):cX P mt call s o=cX P mt call s' o:=by
 unfold cX
 rcases j:o.op with x|x|⟨c,x,y⟩|t|⟨t,x⟩|⟨t,parts⟩|⟨t,len,parts⟩|⟨t,m,k,x⟩|⟨t,x⟩|⟨t,x,y⟩|g|g|x|⟨op,t,x,y,t2⟩|⟨op,t,x⟩|⟨t,t2,x⟩|⟨t,x⟩|⟨t,x⟩|⟨fn,x,y⟩|⟨t,x⟩|⟨t,x⟩|⟨t,x,y⟩|⟨t,x,u,r,v⟩|⟨t,x,f⟩|⟨t,x,f⟩|⟨t,x,y⟩|⟨t,x,y⟩|⟨t,x,y,c⟩|⟨t,x,y,c⟩|⟨t,x,y⟩|⟨t,x,y,c⟩|⟨t,x⟩|⟨x,b⟩|x|⟨x,t,t2,b⟩|⟨x,i⟩|c|c|c|x|⟨x,y⟩|⟨t,x,b⟩|⟨cs,b⟩
 all_goals (simp only [j,Op.operands]at h)
 all_goals (try simp only)
 all_goals (try rw [h x sm])
 all_goals (try rw [h y sm])
 ·rw [h c sm]
 ·rw [fu fun x a=>h x (by simpa using a)]
 ·rw [fu fun x a=>h x (by simpa using a)]
 ·cases op<;>(try simp only)<;>rw [h x sm]
 ·rw [iw (s:=s) (s':=s') (xs:=y.toList) fun x a=>h x (by simp only [Bv];exact .inr (by simpa using a))]
  cases fe s' y.toList with
  |none=>rfl
  |some l=>
  rcases a:x.toList with _|⟨n,_|⟨B,xs⟩⟩
  ·cases fn<;>rfl
  ·have p:s.opd n=s'.opd n:=h n (by simp only [Bv];exact .inl (by rw [<-Array.mem_toList_iff,a];exact List.mem_singleton.2 rfl))
   cases fn<;>first|rfl|(simp only [];rw [p])
  ·cases fn<;>rfl
 ·rw [fc (x:=x) fun y e=>h y (by simpa using e)]
 ·rw [fc (x:=u) fun y e=>h y (by simp only [Bv];exact .inl (.inl (.inr e))),fc (x:=r) fun y e=>h y (by simp only [Bv];exact .inl (.inr e)),fc (x:=v) fun y e=>h y (by simp only [Bv];exact .inr e)]
 ·rw [h c sm]
 ·rw [h c sm]
 ·have q:fe s c.args.toList=fe s' c.args.toList:=iw fun x a=>h x (by simp only [Call.operands,Bv];exact .inr (by simpa using a))
  rw [q]
  cases hc:c.callee with
  |value f=>
   have hf:s.opd f=s'.opd f:=h f (by simp [Call.operands,hc])
   cases fe s' c.args.toList with
   |none=>rfl
   |some l=>simp only [hf]
  |invoke rc m=>
   have hf:s.opd rc=s'.opd rc:=h rc (by simp [Call.operands,hc])
   cases fe s' c.args.toList with
   |none=>rfl
   |some l=>simp only [hf]
  |builtin b=>
   cases fe s' c.args.toList with
   |none=>cases b<;>rfl
   |some l=>rcases l with _|⟨x,_|⟨y,_|⟨z,l⟩⟩⟩<;>cases b<;>rfl
end Go.Dw
namespace Go.Dw
theorem nM:∀(u:Ups)(s s':St)(id:Nat),id∈u.map (·.1)->(s.ups u).boxes id=(s'.ups u).boxes id
 | [],_,_,_,h=>by simp at h
 |(i,b)::r,s,s',id,h=>by
  rw [du,du]
  by_cases a:id∈r.map (·.1)
  ·exact nM r _ _ id a
  ·rw [dy _ _ _ a,dy _ _ _ a]
   have:id=i:=by simpa [a]using h
   subst this
   show upd s.boxes id b id=upd s'.boxes id b id
   rw [cf,cf]
theorem eg(s:St)(d:Option Nat)(v:RV):(s.put d v).boxes=s.boxes:=by cases d<;>rfl
theorem St.ext'{s s':St}(h1:s.cv=s'.cv)(e:s.boxes=s'.boxes):s=s':=by
 obtain⟨a,b⟩:=s
 obtain⟨c,d⟩:=s'
 simp only at h1 e
 subst h1;subst e
 rfl
theorem kG{s:St}{u1 u2:Ups}{d1 d2:Option Nat}{v1 v2:RV}(hu:disj (u1.map (·.1)) (u2.map (·.1))=true)(hd:∀d,d1=some d->d2≠some d):
  ((((s.ups u1).put d1 v1).ups u2).put d2 v2)=((((s.ups u2).put d2 v2).ups u1).put d1 v1):=by
 have hu:=gW hu
 refine St.ext' ?_ ?_
 ·cases d1 with
  |none=>
   cases d2 with
   |none=>simp only [St.put,dT]
   |some e=>simp only [St.put,dT]
  |some d=>
   cases d2 with
   |none=>simp only [St.put,dT]
   |some e=>
    have b:d≠e:=fun he=>hd d rfl (he▸rfl)
    simp only [St.put,dT]
    funext t
    by_cases h1:t=d
    ·subst h1;simp [b]
    ·by_cases a:t=e
     ·subst a;simp [h1]
     ·simp [h1,a]
 ·rw [eg,eg]
  funext id
  by_cases h1:id∈u1.map (·.1)
  ·have a:id∉u2.map (·.1):=hu id h1
   rw [dy _ _ _ a,eg]
   rw [nM u1 _ ((s.ups u2).put d2 v2) id h1]
  ·by_cases a:id∈u2.map (·.1)
   ·rw [dy u1 _ _ h1,eg]
    rw [nM u2 _ s id a]
   ·rw [dy _ _ _ a,eg,dy _ _ _ h1,dy _ _ _ h1,eg,dy _ _ _ a]
section
variable {P:Program}{mt:Hf}{call:cB}{ops:Array Oper}
theorem fG{o:Oper}{s s':St}{t:Tr}(h:dS P mt call ops o s=some (s',t)):
  (cu ops s o=some true∧∃v u,cX P mt call s o s.boxes=some ((v,u),t.rd,true)∧s'=(s.ups u).put o.dst v∧t.wr=u.map (·.1))∨
  (cu ops s o=some false∧s'=s.put o.dst .undef∧t.rd=[]∧t.wr=[]):=by
 unfold dS at h
 rcases hw:cu ops s o with _|w
 ·simp [hw]at h
 simp only [hw]at h
 cases w with
 |true=>
  simp only [if_true]at h
  rcases he:cX P mt call s o s.boxes with _|⟨⟨v,u⟩,rd,c⟩
  ·simp [he]at h
  simp only [he]at h
  cases c with
  |true=>
   simp only [if_true,AD,AF]at h
   obtain⟨rfl,rfl⟩:=h
   exact .inl ⟨rfl,v,u,rfl,rfl,rfl⟩
  |false=>simp at h
 |false=>
  simp only [Bool.false_eq_true,if_false,AD,AF]at h
  obtain⟨rfl,rfl⟩:=h
  exact .inr ⟨rfl,rfl,rfl,rfl⟩
theorem iT{o:Oper}{s:St}{v:RV}{u:Ups}{rd:List Nat}(hw:cu ops s o=some true)(he:cX P mt call s o s.boxes=some ((v,u),rd,true)):
  dS P mt call ops o s=some ((s.ups u).put o.dst v,⟨rd,u.map (·.1)⟩):=by
 unfold dS;simp [hw,he]
theorem iC{o:Oper}{s:St}(hw:cu ops s o=some false):dS P mt call ops o s=some (s.put o.dst .undef,⟨[],[]⟩):=by
 unfold dS;simp [hw]
theorem fI{o:Oper}{s s':St}(h:∀t∈o.looksAt ops,s.cv t=s'.cv t):cu ops s o=cu ops s' o:=by
 unfold cu
 cases a:o.guard with
 |none=>rfl
 |some g=>
  obtain⟨j,want⟩:=g
  simp only
  cases ht:(ops[j]?).bind (·.dst)with
  |none=>rfl
  |some t=>
   simp only
   rw [h t (by simp [Oper.looksAt,a,ht])]
theorem ke{o:Oper}{s s':St}(h:∀t∈o.looksAt ops,s.cv t=s'.cv t):cX P mt call s o=cX P mt call s' o:=by
 refine np o fun x a=>?_
 cases x with
 |tmp t=>exact h t (List.mem_append_left _ (List.mem_filterMap.2 ⟨.tmp t,by simpa using a,rfl⟩))
 |const v=>rfl
 |global g=>rfl
 |func f=>rfl
theorem mT{o:Oper}{s s1 s':St}{t:Tr}{d:Option Nat}{u:Ups}{v:RV}(h:dS P mt call ops o s1=some (s',t))(k:s1=(s.ups u).put d v)
  (hd:∀e,d=some e->e∉o.looksAt ops) (hu:disj (u.map (·.1)) t.rd=true):
  ∃v' f,t.wr=f.map (·.1)∧s'=(s1.ups f).put o.dst v'∧dS P mt call ops o s=some ((s.ups f).put o.dst v',t):=by
 have a:∀t∈o.looksAt ops,s1.cv t=s.cv t:=by
  intro t ht
  subst k
  cases d with
  |none=>simp only [St.put,dT]
  |some e=>
   have:t≠e:=fun he=>hd e rfl (he▸ht)
   simp only [St.put,dT,this,if_false]
 have hu:=gW hu
 rcases fG h with⟨hw,v',f,he,h1,c⟩|⟨hw,h1,c,g⟩
 ·have b:cu ops s o=some true:=by rw [<-fI a];exact hw
  have i:cX P mt call s o s.boxes=some ((v',f),t.rd,true):=by
   rw [<-ke (P:=P) (mt:=mt) (call:=call) a]
   refine Lc.cX P mt call s1 o _ _ _ _ _ he fun id j=>?_
   subst k
   rw [eg,dy _ _ _ (fun hm=>hu id hm j)]
  refine⟨v',f,c,h1,?_⟩
  rw [iT b i]
  obtain⟨rd,wr⟩:=t
  simp only at c
  rw [c]
 ·have b:cu ops s o=some false:=by rw [<-fI a];exact hw
  refine⟨.undef,[],by rw [g];rfl,h1,?_⟩
  rw [iC b]
  obtain⟨rd,wr⟩:=t
  simp only at c g
  rw [c,g]
  rfl
theorem commute{x y:Oper}{s s1 s2:St}{i ty:Tr}(h1:dS P mt call ops x s=some (s1,i))(H:dS P mt call ops y s1=some (s2,ty))(E:jk ops (x,i) (y,ty)=true):
  ∃F,dS P mt call ops y s=some (F,ty)∧dS P mt call ops x F=some (s2,i):=by
 simp only [jk,Bool.and_eq_true]at E
 obtain⟨⟨⟨n,o⟩,f⟩,p⟩:=E
 obtain⟨G,a2,a3⟩:=Oper.apart_spec n
 have I:∃v u,s1=(s.ups u).put x.dst v∧i.wr=u.map (·.1):=by
  rcases fG h1 with⟨_,v,u,_,c,b⟩|⟨_,c,_,b⟩
  ·exact⟨v,u,c,b⟩
  ·exact⟨.undef,[],c,by rw [b];rfl⟩
 obtain⟨L,K,B,C⟩:=I
 obtain⟨k,j,m,l,J⟩:=mT H B G (by rw [<-C];exact o)
 refine⟨_,J,?_⟩
 have a:∀t∈x.looksAt ops,((s.ups j).put y.dst k).cv t=s.cv t:=by
  intro t ht
  cases q:y.dst with
  |none=>simp only [St.put,dT]
  |some e=>
   have:t≠e:=fun he=>a3 e q (he▸ht)
   simp only [St.put,dT,this,if_false]
 have f:=gW f
 rcases fG h1 with⟨hw,v,u,he,c,b⟩|⟨hw,c,b,D⟩
 ·have g:cu ops ((s.ups j).put y.dst k) x=some true:=by rw [fI a];exact hw
  have r:cX P mt call ((s.ups j).put y.dst k) x ((s.ups j).put y.dst k).boxes=some ((v,u),i.rd,true):=by
   rw [ke (P:=P) (mt:=mt) (call:=call) a]
   refine Lc.cX P mt call s x _ _ _ _ _ he fun id z=>?_
   rw [eg,dy _ _ _ (fun hm=>f id (by rw [m];exact hm) z)]
  rw [iT g r,l,c]
  rw [kG (by rw [<-b, <-m];exact p) a2]
  obtain⟨rd,wr⟩:=i
  simp only at b
  rw [b]
 ·have g:cu ops ((s.ups j).put y.dst k) x=some false:=by rw [fI a];exact hw
  rw [iC g,l,c]
  have:=kG (s:=s) (u1:=[]) (u2:=j) (d1:=x.dst) (d2:=y.dst) (v1:= .undef) (v2:=k) (by rfl) a2
  simp only [St.ups]at this
  rw [this]
  obtain⟨rd,wr⟩:=i
  simp only at b D
  rw [b,D]
theorem gd{o:Oper}{r:List Oper}{s sF:St}{ts:List Tr}(h:dz P mt call ops (o::r) s=some (sF,ts)):
  ∃s1 t a,dS P mt call ops o s=some (s1,t)∧dz P mt call ops r s1=some (sF,a)∧ts=t::a:=by
 unfold dz at h
 rcases h1:dS P mt call ops o s with _|⟨s1,t⟩
 ·simp [h1]at h
 simp only [h1]at h
 rcases b:dz P mt call ops r s1 with _|⟨s2,a⟩
 ·simp [b]at h
 simp only [b,AD,AF]at h
 exact⟨s1,t,a,rfl,by rw [b,h.1],h.2.symm⟩
theorem evOps_mk{o:Oper}{r:List Oper}{s s1 sF:St}{t:Tr}{ts:List Tr}(h1:dS P mt call ops o s=some (s1,t))(a:dz P mt call ops r s1=some (sF,ts)):
  dz P mt call ops (o::r) s=some (sF,t::ts):=by
 unfold dz;simp [h1,a]
theorem jE:∀(a:List (Oper×Tr)){o:Oper}{t:Tr}{b:List (Oper×Tr)}{s sF:St},
  dz P mt call ops ((a++(o,t)::b).map (·.1)) s=some (sF,(a++(o,t)::b).map (·.2))->(∀x∈a,jk ops x (o,t)=true)->
  ∃s1,dS P mt call ops o s=some (s1,t)∧dz P mt call ops ((a++b).map (·.1)) s1=some (sF,(a++b).map (·.2))
 | [],o,t,b,s,sF,h,_=>by
  simp only [List.nil_append,Bj]at h
  obtain⟨s1,t',f,h1,c,e⟩:=gd h
  cases e
  exact⟨s1,h1,c⟩
 |(x,p)::a,o,t,b,s,sF,h,g=>by
  simp only [Bt,Bj]at h
  obtain⟨s1,t',f,h1,c,e⟩:=gd h
  cases e
  obtain⟨s2,i,j⟩:=jE a c (fun y m=>g y (by simp [m]))
  obtain⟨n,k,l⟩:=commute h1 i (g (x,p) sm)
  exact⟨n,k,by simp only [Bt,Bj];exact evOps_mk l j⟩
theorem jV:∀(l:List Oper)(acc:List Nat)(i:Nat),i<acc.length->(jU l acc).getD i 0=acc.getD i 0
 | [],acc,i,_=>rfl
 |o::r,acc,i,h=>by
  rw [jU,jV r _ i so]
  simp only [Bu]
  rw [AR h]
theorem kg(acc:List Nat):∀(es:List Edge)(b j:Nat),(es.foldl (fun b e=>if Region.binds .any e then b ||| (2 ^ e.on ||| acc.getD e.on 0)else b) b).testBit j=true->
  b.testBit j=true∨∃e∈es,Region.binds .any e=true∧(e.on=j∨(acc.getD e.on 0).testBit j=true)
 | [],b,j,h=>.inl h
 |e::es,b,j,h=>by
  simp only [List.foldl_cons]at h
  rcases kg acc es _ j h with h1|⟨a,h1,c,f⟩
  ·by_cases hb:Region.binds .any e=true
   ·simp only [hb,if_true,Nat.testBit_or,Bool.or_eq_true,Nat.testBit_two_pow,decide_eq_true_eq]at h1
    rcases h1 with h1|h1|h1
    ·exact .inl h1
    ·exact .inr ⟨e,sm,hb,.inl h1⟩
    ·exact .inr ⟨e,sm,hb,.inr h1⟩
   ·simp only [hb]at h1;exact .inl h1
  ·exact .inr ⟨a,by simp [h1],c,f⟩
theorem jb:∀(l:List Oper)(acc:List Nat)(i:Nat)(o:Oper),l[i]? =some o->∀j,((jU l acc).getD (acc.length+i) 0).testBit j=true->
  ∃e∈o.after,Region.binds .any e=true∧(e.on=j∨(e.on<acc.length+i∧((jU l acc).getD e.on 0).testBit j=true))
 | [],acc,i,o,h,_,_=>by simp at h
 |x::r,acc,0,o,h,j,c=>by
  simp only [List.getElem?_cons_zero,AD]at h
  subst h
  rw [jU,Nat.add_zero,jV r _ acc.length sm]at c
  simp only [Bu,List.getElem?_concat_length,Option.getD_some]at c
  rcases kg acc x.after.toList 0 j c with h1|⟨e,h1,g,a⟩
  ·simp at h1
  ·refine⟨e,by simpa using h1,g,?_⟩
   rcases a with a|a
   ·exact .inl a
   ·by_cases f:e.on<acc.length
    ·refine .inr ⟨om,?_⟩
     rw [jU,jV r _ e.on so]
     simp only [Bu]at a⊢
     rw [AR f]
     exact a
    ·rw [Bu,List.getElem?_eq_none om]at a
     simp at a
 |x::r,acc,i+1,o,h,j,c=>by
  simp only [List.getElem?_cons_succ]at h
  rw [jU]at c⊢
  have := jb r (acc ++ [x.after.toList.foldl (fun b e => if Region.binds .any e then b ||| (2 ^ e.on ||| acc.getD e.on 0) else b) 0]) i o h j (by
   simp only [BH,BN]
   rw [show acc.length+1+i=acc.length+(i+1)by omega]
   exact c)
  simp only [BH,BN]at this
  rw [show acc.length+1+i=acc.length+(i+1)by omega]at this
  exact this
theorem mW{a:Array Bool}(b:∀(i:Nat)o,ops[i]? =some o->a.getD i false=true->∀e∈o.after,Region.binds .any e=true->a.getD e.on false=true)(hsz:a.size=ops.size):
  ∀(n i:Nat)(o:Oper),i<=n->ops[i]? =some o->(∀e∈o.after,Region.binds .any e=true->a.getD e.on false=true)->∀j,((jU ops.toList []).getD i 0).testBit j=true->a.getD j false=true:=by
 intro n
 induction n with
 |zero=>
  intro i o q ho he j k
  have m:i=0:=by omega
  subst m
  obtain⟨e,h1,g,c⟩:=jb ops.toList [] 0 o (by simpa using ho) j (by simpa using k)
  rcases c with rfl|⟨c,_⟩
  ·exact he e h1 g
  ·simp at c
 |succ n r=>
  intro i o q ho he j k
  obtain⟨e,h1,g,c⟩:=jb ops.toList [] i o (by simpa using ho) j (by simpa using k)
  rcases c with rfl|⟨c,p⟩
  ·exact he e h1 g
  ·simp only [List.length_nil,Nat.zero_add]at c
   have hl:=he e h1 g
   have l:e.on<ops.size:=by
    rcases Nat.lt_or_ge e.on a.size with h|h
    ·omega
    ·simp [Array.getElem?_eq_none h]at hl
   have f:ops[e.on]? =some ops[e.on]:=Array.getElem?_eq_getElem l
   exact r e.on _ om f (b e.on _ f hl) j p
end
end Go.Dw
