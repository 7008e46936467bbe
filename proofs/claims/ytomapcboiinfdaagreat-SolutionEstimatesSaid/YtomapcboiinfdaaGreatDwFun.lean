
import Derived.Test.YtomapcboiinfdaaGreatDwGhost
open Go.Sem renaming run_bind->Ai, run_pure->Ak
open Go.Result renaming andThen_ok->A8
open Array renaming getElem?_eq_getElem->Ad, replicate->Bp

namespace Go.Dw
section
variable {P:Program}{X:Ctx}{S:mW}{loc:nB}{s:St}{tm:Array Value}{w:World}
theorem zx{own:Bool}{c x:RV}{b:nn}{u:Ups}{r:List Nat}(h:outV own c b=some ((x,u),r,true)):
  pM u∧(∀y∈u,∃ver e es,b y.1=some (.arr ver e es))∧
  ∀S loc S' loc' v,Sub S S'->mZ loc loc'->(∀y∈u,Frz b S loc S' y.1)->R S loc c v->R S' loc' x v:=by
 have same:∀{r:List Nat},M.pure (c,([]:Ups)) b=some ((x,u),r,true)->pM u∧(∀y∈u,∃ver e es,b y.1=some (.arr ver e es))∧
   ∀S loc S' loc' v,Sub S S'->mZ loc loc'->(∀y∈u,Frz b S loc S' y.1)->R S loc c v->R S' loc' x v:=by
  intro r h
  obtain⟨h1, -, -⟩:=M.mJ h
  cases h1
  exact⟨(fun y g=>by cases g),(fun y g=>by cases g),fun S loc S' loc' v i n _ f=>f.mono i n⟩
 have a:(if own then M.pure (c,([]:Ups))else M.bind (pf c) fun(p,u)=>M.pure ((RV.d p,u):RV×Ups)) b=some ((x,u),r,true)->pM u∧(∀y∈u,∃ver e es,b y.1=some (.arr ver e es))∧
   ∀S loc S' loc' v,Sub S S'->mZ loc loc'->(∀y∈u,Frz b S loc S' y.1)->R S loc c v->R S' loc' x v:=by
  intro h
  cases own with
  |true=>exact same h
  |false=>
   simp only [Bool.false_eq_true,if_false]at h
   obtain⟨⟨p,u1⟩,o,q,h1,j,_⟩:=M.bind_some h
   obtain⟨k, -, -⟩:=M.mJ j
   cases k
   obtain⟨a1,a2,a3⟩:=qU h1
   exact⟨a1,a2,fun S loc S' loc' v i _ hf f=>.d (a3 S loc S' v f i hf)⟩
 cases c with
 |agg cs=>
  by_cases how:own=true
  ·subst how;exact same h
  have l:own=false:=by cases own<;>simp_all
  subst l
  replace h:(M.bind (qp cs) fun(m,u)=>M.pure (RV.d (.agg m),u)) b=some ((x,u),r,true):=h
  obtain⟨⟨m,u1⟩,o,q,h1,j,_⟩:=M.bind_some h
  obtain⟨k, -, -⟩:=M.mJ j
  cases k
  obtain⟨a1,a2,a3⟩:=qU (rv:= .agg cs) (p:= .agg m) (u:=u) (r:=o++[]) (b:=b) (by simp only [pf,M.bind,h1,M.pure,Bool.and_true])
  exact⟨a1,a2,fun S loc S' loc' v i _ hf f=>.d (a3 S loc S' v f i hf)⟩
 |cI=>
  obtain⟨h1, -, -⟩:=M.mJ (b:=b) h
  cases h1
  refine⟨(fun y g=>by cases g),(fun y g=>by cases g),fun S loc S' loc' v i n _ f=>?_⟩
  cases f with|cI=>exact .d (.nil none 0)
 |tup cs=>exact fE b h
 |d _=>exact same h
 |undef=>exact same h
 |junk=>exact same h
 |ref _ _=>exact a h
 |ptr _ _=>exact same h
 |elt _ _ _ _=>exact same h
 |cptr _=>exact same h
 |view _ _ _ _=>exact a h
 |clo _ _=>exact same h
 |fview _ _ _=>exact same h
 |err _=>exact same h
 |dfull _=>exact same h
 |ifc _ _=>exact same h
 |plit _=>exact same h
 |pcp _=>exact same h
def ur(tm:Array Value)(x:ResultVar):Sem Value:=
 match x with
 | .tmp t=>pure (tm.getD t Go.undef)
 | .cell a t=>do loadVar t (<-asAddr (tm.getD a Go.undef))
theorem xV{fn:Func}{vs:List Value}(h:(fn.results.toList.mapM (ur tm)).run P w= .ok vs w):
  (results fn tm).run P w= .ok (if h:vs.toArray.size=1 then vs.toArray[0]else .tuple vs.toArray) w:=by
 have he:results fn tm=(do let vs<-fn.results.mapM (ur tm);pure (if h:vs.size=1 then vs[0]else .tuple vs)):=rfl
 rw [he,Array.mapM_eq_mapM_toList]
 simp only [Ai,Sem.run_map,h,A8,Ak]
theorem yH(h:Sim P X S loc s tm w){x:ResultVar}{rv:RV}{r:List Nat}(c:resV P s x s.boxes=some (rv,r,true)):
  ∃v,(ur tm x).run P w= .ok v w∧R S loc rv v:=by
 cases x with
 |tmp t=>
  simp only [resV]at c
  rcases h1:s.nd t with _|v1
  ·simp only [h1]at c;exact fE s.boxes c
  simp only [h1]at c
  obtain⟨e, -, -⟩:=M.mJ (b:=s.boxes) c
  subst e
  obtain⟨v,j,i⟩:=h.nd t _ h1
  exact⟨v,by simp [ur,j],i⟩
 |cell t ty=>
  simp only [resV]at c
  obtain⟨⟨y,u⟩,o,p,h1,e,_⟩:=M.bind_some c
  obtain⟨k, -, -⟩:=M.mJ (b:=s.boxes) e
  subst k
  rcases f:s.nd t with _|v1
  ·simp only [f]at h1;exact fE s.boxes h1
  simp only [f]at h1
  obtain⟨v,j,i⟩:=h.nd t _ f
  obtain⟨v',g,l,_⟩:=rY h h1 i
  refine⟨v',?_,l⟩
  have n:∃ad,v= .pointer (some ad):=by
   cases v with
   |pointer a=>cases a with
    |some ad=>exact⟨ad,rfl⟩
    |none=>simp [Instr.loadAt,Instr.sureAddr]at g
   |_=>simp [Instr.loadAt,Instr.sureAddr]at g
  obtain⟨ad,rfl⟩:=n
  have m:tm.getD t Go.undef= .pointer (some ad):=by simp [j]
  simp only [ur,m,asAddr,Ai,Ak,A8]
  simpa [Instr.loadAt,Instr.sureAddr]using g
theorem v7{own:Nat->Bool}(h:Sim P X S loc s tm w):∀{xs:List ResultVar}{i:Nat}{g:List RV}{us:Ups}{r:List Nat},resD P own s i xs s.boxes=some ((g,us),r,true)->
  ∃vs,(xs.mapM (ur tm)).run P w= .ok vs w∧vs.length=g.length∧
   pM us∧(∀x∈us,∃ver e es,s.boxes x.1=some (.arr ver e es))∧
   ∀S' loc',Sub S S'->mZ loc loc'->(∀x∈us,Frz s.boxes S loc S' x.1)->∀(i:Nat)y v,g[i]? =some y->vs[i]? =some v->R S' loc' y v
 | [],i,g,us,r,j=>by
  obtain⟨h1, -, -⟩:=M.mJ (b:=s.boxes) j
  cases h1
  exact⟨[],rfl,rfl,(fun x l=>by cases l),(fun x l=>by cases l),fun S' loc' _ _ _ i y v c=>by simp at c⟩
 |x::xs,i,g,us,r,j=>by
  simp only [resD]at j
  obtain⟨rv,I,J,h1,B,_⟩:=M.bind_some j
  obtain⟨⟨y,u⟩,K,L,C,D,_⟩:=M.bind_some B
  obtain⟨⟨Q,u2⟩,N,O,E,F,_⟩:=M.bind_some D
  obtain⟨G, -, -⟩:=M.mJ F
  cases G
  obtain⟨v,g1,g2⟩:=yH h h1
  obtain⟨a1,a2,a3⟩:=zx C
  obtain⟨f,n,o,p,q,t⟩:=v7 h E
  refine⟨v::f,?_,by simp [o],fun z a=>(List.mem_append.1 a).elim (a1 z) (p z),fun z a=>(List.mem_append.1 a).elim (a2 z) (q z),fun S' loc' m hle hf i H v' c k=>?_⟩
  ·rw [List.mapM_cons]
   simp only [Ai,g1,A8,n,Ak]
  ·cases i with
   |zero=>
    simp only [List.getElem?_cons_zero,Option.some.injEq]at c k
    subst c;subst k
    exact a3 S loc S' loc' v m hle (fun z a=>hf z (List.mem_append.2 (.inl a))) g2
   |succ i=>
    simp only [List.getElem?_cons_succ]at c k
    exact t S' loc' m hle (fun z a=>hf z (List.mem_append.2 (.inr a))) i H v' c k
theorem one_R{a:List RV}{vs:List Value}(b:vs.length=a.length)(h:∀(i:Nat)y v,a[i]? =some y->vs[i]? =some v->R S loc y v):
  R S loc (one a) (if h:vs.toArray.size=1 then vs.toArray[0]else .tuple vs.toArray):=by
 have tup:a.length≠1->R S loc (.tup a) (if h:vs.toArray.size=1 then vs.toArray[0]else .tuple vs.toArray):=fun e=>by
  rw [dif_neg (by simpa [b]using e)]
  exact .tup a vs.toArray (by simpa using b) fun i c v f g=>h i c v f (by simpa using g)
 cases a with
 |nil=>exact tup sm
 |cons y a=>
  cases a with
  |nil=>
   obtain⟨v,rfl⟩:=List.length_eq_one_iff.1 (show vs.length=1 from b)
   exact h 0 y v rfl rfl
  |cons j a=>exact tup sm
theorem tD:∀(u:Ups)(s:St),rD s.boxes u=(s.ups u).boxes
 | [],_=>rfl
 |(id,b)::r,s=>by
  rw [oz, <-tD r]
  rfl
theorem wW{own:Nat->Bool}{ls:List Loc}{fn:Func}{g:Nat}{r:RV}{o:List Box}(B:X.par=look ls)(j:X.B0=vn ls)(N:ls.length=g)(Q:∀k n,look ls k=some n->∀ver e sz hdr,n.Row ver e sz hdr->ver=0)(h:Sim P X S loc s tm w)(c:finish P own fn g s=some (r,o)):
  ∃v S' m,(results fn tm).run P w= .ok v w∧wx P X.base.mono X.S0 X.w0 ls g r o v w S' m:=by
 unfold finish at c
 split at c
 rotate_left
 ·cases c
 rename_i rs u rd D
 simp only at c
 split at c
 rotate_left
 ·cases c
 rename_i ids p a9 i
 split at c
 rotate_left
 ·cases c
 rename_i l
 obtain⟨t,J⟩:=l
 simp only [Option.some.injEq,Prod.mk.injEq]at c
 obtain⟨rfl,rfl⟩:=c
 obtain⟨a6,q1,q2,a8,T,_⟩:=M.bind_some i
 obtain⟨a5,q3,q4,C,W,_⟩:=M.bind_some T
 obtain⟨Y, -, -⟩:=M.mJ W
 cases Y
 rw [tD]at C
 obtain⟨g1,g2⟩:=th C
 have hn:=tp J
 obtain⟨vs,b1,b2,b3,b4,b5⟩:=v7 h D
 obtain⟨S1,F,a,E,hle,K⟩:=h.re u b3 (fun x hx=>.inl (b4 x hx))
 have hR:=one_R b2 (b5 S1 F E hle K)
 obtain⟨m,k1,k2,k3,k4⟩:=xS a (f:=nq g) (b:=rD s.boxes u) (bs2:=(ids.zip p).map fun x=>o0 ⟨idxOf ids,nN (rD s.boxes u) (nq g)⟩ (nq g x.1) x.2) hn g1 g2
  (fun id bx q => by rw [tD] at q; exact q) rfl (by simp [g1]) (fun k id bx hk I => by
   have hz:(ids.zip p)[k]? =some (id,bx):=List.getElem?_zip_eq_some.2 ⟨hk,I⟩
   rw [List.getElem?_map,hz]
   rfl)
 have a7:g<=ids.length:=by
  have:=congrArg List.length t
  rw [List.length_take,List.length_range]at this
  omega
 have y:∀k,k<g->ids[k]? =some k:=fun k hk=>by
  have h1:(ids.take g)[k]? =some k:=by rw [t,List.getElem?_range hk]
  rwa [List.getElem?_take,if_pos hk]at h1
 refine⟨_,S1,m,xV b1,⟨by rw [k1];simp [g1],by simp [g1];omega,a.s0,k4,fun ad v hv=>?_,?_,?_,?_,R.ov k3 hR⟩⟩
 ·rw [<-j];exact a.sJ ad v hv
 ·intro k n hk
  have z:k<g:=by rw [nF]at hk;rw [<-N];exact(List.getElem?_eq_some_iff.1 hk).1
  obtain⟨L,h1,h2⟩:=a.par k n (by rw [B];exact hk)
  obtain⟨L',G,H⟩:=k2 k k (y k z)
  rw [h1]at G
  cases G
  refine⟨_,by rw [nF,H],ze z (Q k n hk) h2⟩
 ·intro k L b hk q
  rw [nF]at hk
  have O:k<ids.length:=by rw [<-k1];exact(List.getElem?_eq_some_iff.1 hk).1
  obtain⟨L',G,H⟩:=k2 k _ (zc O)
  rw [hk]at H
  cases H
  rw [pw]at q
  rw [<-j]
  exact a.own _ L' b G q
 ·rw [<-j];exact a.frame
end
def wy(P:Program)(base:tE)(ext:FuncId->Option ng):Prop:=∀f g,ext f=some g->∀args bs r a,g f args bs=some (r,a)->pk P base f args bs r a
theorem rT{P:Program}{base:tE}{H:Hints}{ext:FuncId->Option ng}(N:wy P base ext)(hm:P.follows .mixedOrders=true):∀n,oO P base (nR P H ext n):=by
 intro n
 induction n with
 |zero=>intro f args bs r q h;simp [nR]at h
 |succ n ih=>
  intro f args bs r q h
  unfold nR at h
  rcases he:ext f with _|g
  rotate_left
  ·simp only [he]at h;exact N f g he args bs r q h
  simp only [he]at h
  rcases u:P.funcs[f]? with _|fn
  ·simp [u]at h
  simp only [u]at h
  rcases i:fn.body with _|c
  ·simp [i]at h
  simp only [i]at h
  split at h
  rotate_left
  ·cases h
  rename_i m
  simp only [Bool.and_eq_true,bne_iff_ne,ne_eq,decide_eq_true_eq]at m
  obtain⟨⟨⟨K,F⟩,a7⟩,y⟩:=m
  have G:∀C∈bs,verB C=0:=fun C l=>by simpa using List.all_eq_true.1 y C l
  intro S w ls vs a hlen E Q a6 J
  refine .inl ⟨⟨fn,u,F,by rw [i];rfl⟩,calls_of_wp u i ?_⟩
  let X:Ctx:={ w0:=w,B0:=vn ls,S0:=S,par:=look ls,nt:=fn.ntmps,base:=base }
  have O:∀k b,X.par k=some b->k<bs.length∧∀ver e sz hdr,b.Row ver e sz hdr->ver=0:=fun k b hk=>by
   have x:look ls k=some b:=hk
   refine⟨?_,fun ver e sz hdr z=>?_⟩
   ·rw [<-hlen]
    rw [nF]at x
    exact(List.getElem?_eq_some_iff.1 x).1
   ·obtain⟨C,l⟩:=a.dom k _ x
    obtain⟨L,h1,h2⟩:=a.boxes k C l
    rw [x]at h1
    cases h1
    have hm:C∈bs:=by rw [nF]at l;exact List.mem_of_getElem? l
    have:=G C hm
    cases h2 with
    |arr _ _ es _ _ xs _ _ _=>cases z;exact this
    |nest=>cases z;exact this
    |dead _ hd=>subst hd;cases z
    |var=>cases z
    |map=>cases z
    |hole=>cases z;exact this
  have T:Sim P X S (look ls) { nd:=look args,boxes:=look bs } (vs++Bp (fn.ntmps-vs.size) undef) w:=by
   refine⟨?_,?_,a.boxes,a.dom,a.imm,a.qT,a.pH,a.inj,?_,Frame.refl _ _ w,Sub.refl S,?_,fun ad v h=>.inl h,E,Q⟩
   ·show(vs++Bp (fn.ntmps-vs.size) undef).size=fn.ntmps
    simp;omega
   ·intro t rv W
    replace W:look args t=some rv:=W
    rw [nF]at W
    have p:t<vs.size:=by rw [<-a6];exact(List.getElem?_eq_some_iff.1 W).1
    exact⟨vs[t],by rw [Array.getElem?_append_left p,Ad p],J t rv vs[t] W (Ad p)⟩
   ·intro id L b hL z
    exact .inl (tG.2 ⟨id,L,hL,z⟩)
   ·intro k Y hk
    exact⟨Y,hk,.same _⟩
  have a5:qt P X { nd:=look args,boxes:=look bs } { tmps:=vs++Bp (fn.ntmps-vs.size) undef,defers:=[] } w:=⟨rfl,S,_,T⟩
  rcases j:nh P H f bs.length (nR P H ext n) n c { nd:=look args,boxes:=look bs }with _|⟨e,s'⟩
  ·simp [j]at h
  rw [j]at h
  have B:finish P (H.own f) fn bs.length s'=some (r,q)∧(e= .normal∨e= .ret):=by
   cases e with
   |normal=>exact⟨h,.inl rfl⟩
   |ret=>exact⟨h,.inr rfl⟩
   |exit id=>cases h
  refine nI ih hm O c K j a5 fun a' w' D=>?_
  obtain⟨a8,S',loc',D⟩:=D
  obtain⟨v,S2,I,k1,k2⟩:=wW (ls:=ls) rfl rfl hlen (fun k Y hk=>(O k Y hk).2) D B.1
  have o:a'.defers=[]∧∃v,(results fn a'.tmps).run P w'= .ok v w'∧∃v_1,Ending.returned v= .returned v_1∧∃S' I,wx P base.mono S w ls bs.length r q v_1 w' S' I:=⟨a8,v,k1,v,rfl,S2,I,k2⟩
  rcases B.2 with rfl|rfl
  ·exact o
  ·exact o
theorem wM.calls{P:Program}{f:FuncId}{vs:Array Value}{w:World}{R:Value->World->Prop}(h:wM P f vs w R)(he:Enters P f):Calls P f vs w fun e w'=>∃v,e= .returned v∧R v w':=by
 rcases h with⟨_,h⟩|⟨v,w',i,_⟩
 ·exact h
 ·obtain⟨fn,g,b,a⟩:=he
  have c:(callFunc f vs).run P w= .ok (.enter f vs) w:=by
   have : (fn.name == "runtime.NumGoroutine") = false := by simpa using b
   simp only [callFunc,Ai,run_program,A8,g,this,a,Bool.false_eq_true,if_false,Ak]
  rw [c]at i
  cases i
end Go.Dw
