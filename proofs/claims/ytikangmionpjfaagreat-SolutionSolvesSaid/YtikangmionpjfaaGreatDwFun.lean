
import Derived.Test.YtikangmionpjfaaGreatDwGhost
open Go.Sem renaming run_bind->Ch, run_pure->Cj
open Go.Result renaming andThen_ok->C7
open Array renaming getElem?_eq_getElem->Cc, replicate->Dk

namespace Go.Dw
section
variable {P:Program}{X:Ctx}{S:pr}{loc:pY}{s:St}{tm:Array Value}{w:World}
theorem BU{own:Bool}{c x:RV}{b:pP}{u:Ups}{r:List Nat}(h:outV own c b=some ((x,u),r,true)):
  sZ u∧(∀y∈u,∃ver e es,b y.1=some (.arr ver e es))∧
  ∀S loc S' loc' v,Sub S S'->pD loc loc'->(∀y∈u,Frz b S loc S' y.1)->R S loc c v->R S' loc' x v:=by
 have same:∀{r:List Nat},M.pure (c,([]:Ups)) b=some ((x,u),r,true)->sZ u∧(∀y∈u,∃ver e es,b y.1=some (.arr ver e es))∧
   ∀S loc S' loc' v,Sub S S'->pD loc loc'->(∀y∈u,Frz b S loc S' y.1)->R S loc c v->R S' loc' x v:=by
  intro r h
  obtain⟨h1, -, -⟩:=M.pj h
  cases h1
  exact⟨(fun y g=>by cases g),(fun y g=>by cases g),fun S loc S' loc' v hs t _ f=>f.mono hs t⟩
 have a:(if own then M.pure (c,([]:Ups))else M.bind (rQ c) fun(p,u)=>M.pure ((RV.d p,u):RV×Ups)) b=some ((x,u),r,true)->sZ u∧(∀y∈u,∃ver e es,b y.1=some (.arr ver e es))∧
   ∀S loc S' loc' v,Sub S S'->pD loc loc'->(∀y∈u,Frz b S loc S' y.1)->R S loc c v->R S' loc' x v:=by
  intro h
  cases own with
  |true=>exact same h
  |false=>
   simp only [Bool.false_eq_true,if_false]at h
   obtain⟨⟨p,u1⟩,z,B,h1,j,_⟩:=M.bind_some h
   obtain⟨k, -, -⟩:=M.pj j
   cases k
   obtain⟨a1,a2,a3⟩:=ur h1
   exact⟨a1,a2,fun S loc S' loc' v hs _ hf f=>.d (a3 S loc S' v f hs hf)⟩
 cases c with
 |agg cs=>
  by_cases how:own=true
  ·subst how;exact same h
  have l:own=false:=by cases own<;>simp_all
  subst l
  replace h:(M.bind (tP cs) fun(q,u)=>M.pure (RV.d (.agg q),u)) b=some ((x,u),r,true):=h
  obtain⟨⟨q,u1⟩,z,B,h1,j,_⟩:=M.bind_some h
  obtain⟨k, -, -⟩:=M.pj j
  cases k
  obtain⟨a1,a2,a3⟩:=ur (rv:= .agg cs) (p:= .agg q) (u:=u) (r:=z++[]) (b:=b) (by simp only [rQ,M.bind,h1,M.pure,Bool.and_true])
  exact⟨a1,a2,fun S loc S' loc' v hs _ hf f=>.d (a3 S loc S' v f hs hf)⟩
 |px=>
  obtain⟨h1, -, -⟩:=M.pj (b:=b) h
  cases h1
  refine⟨(fun y g=>by cases g),(fun y g=>by cases g),fun S loc S' loc' v hs t _ f=>?_⟩
  cases f with|px=>exact .d (.nil none 0)
 |tup cs=>exact fE b h
 |d _=>exact same h
 |undef=>exact same h
 |junk=>exact same h
 |ref _ _=>exact a h
 |ptr _ _=>exact same h
 |elt _ _ _ _=>exact same h
 |cptr _=>exact same h
 |view _ _ _ _=>exact a h
 |clo _ _=>exact same h
 |fview _ _ _=>exact same h
 |err _=>exact same h
 |dfull _=>exact same h
 |ifc _ _=>exact same h
 |plit _=>exact same h
 |pcp _=>exact same h
def xe(tm:Array Value)(x:ResultVar):Sem Value:=
 match x with
 | .tmp t=>pure (tm.getD t Go.undef)
 | .cell a t=>do loadVar t (<-asAddr (tm.getD a Go.undef))
theorem AH{fn:Func}{vs:List Value}(h:(fn.results.toList.mapM (xe tm)).run P w= .ok vs w):
  (results fn tm).run P w= .ok (if h:vs.toArray.size=1 then vs.toArray[0]else .tuple vs.toArray) w:=by
 have he:results fn tm=(do let vs<-fn.results.mapM (xe tm);pure (if h:vs.size=1 then vs[0]else .tuple vs)):=rfl
 rw [he,Array.mapM_eq_mapM_toList]
 simp only [Ch,Sem.run_map,h,C7,Cj]
theorem Bj(h:Sim P X S loc s tm w){x:ResultVar}{rv:RV}{r:List Nat}(c:resV P s x s.boxes=some (rv,r,true)):
  ∃v,(xe tm x).run P w= .ok v w∧R S loc rv v:=by
 cases x with
 |tmp t=>
  simp only [resV]at c
  rcases h1:s.pI t with _|v1
  ·simp only [h1]at c;exact fE s.boxes c
  simp only [h1]at c
  obtain⟨f, -, -⟩:=M.pj (b:=s.boxes) c
  subst f
  obtain⟨v,l,k⟩:=h.pI t _ h1
  exact⟨v,by simp [xe,l],k⟩
 |cell t ty=>
  simp only [resV]at c
  obtain⟨⟨y,u⟩,B,C,h1,f,_⟩:=M.bind_some c
  obtain⟨p, -, -⟩:=M.pj (b:=s.boxes) f
  subst p
  rcases g:s.pI t with _|v1
  ·simp only [g]at h1;exact fE s.boxes h1
  simp only [g]at h1
  obtain⟨v,l,k⟩:=h.pI t _ g
  obtain⟨v',j,q,_⟩:=vq h h1 k
  refine⟨v',?_,q⟩
  have hp:∃ad,v= .pointer (some ad):=by
   cases v with
   |pointer a=>cases a with
    |some ad=>exact⟨ad,rfl⟩
    |none=>simp [Instr.loadAt,Instr.sureAddr]at j
   |_=>simp [Instr.loadAt,Instr.sureAddr]at j
  obtain⟨ad,rfl⟩:=hp
  have z:tm.getD t Go.undef= .pointer (some ad):=by simp [l]
  simp only [xe,z,asAddr,Ch,Cj,C7]
  simpa [Instr.loadAt,Instr.sureAddr]using j
theorem yD{own:Nat->Bool}(h:Sim P X S loc s tm w):∀{xs:List ResultVar}{i:Nat}{ys:List RV}{us:Ups}{r:List Nat},resD P own s i xs s.boxes=some ((ys,us),r,true)->
  ∃vs,(xs.mapM (xe tm)).run P w= .ok vs w∧vs.length=ys.length∧
   sZ us∧(∀x∈us,∃ver e es,s.boxes x.1=some (.arr ver e es))∧
   ∀S' loc',Sub S S'->pD loc loc'->(∀x∈us,Frz s.boxes S loc S' x.1)->∀(i:Nat)y v,ys[i]? =some y->vs[i]? =some v->R S' loc' y v
 | [],i,ys,us,r,g=>by
  obtain⟨h1, -, -⟩:=M.pj (b:=s.boxes) g
  cases h1
  exact⟨[],rfl,rfl,(fun x k=>by cases k),(fun x k=>by cases k),fun S' loc' _ _ _ i y v c=>by simp at c⟩
 |x::xs,i,ys,us,r,g=>by
  simp only [resD]at g
  obtain⟨rv,H,I,h1,t,_⟩:=M.bind_some g
  obtain⟨⟨y,u⟩,J,K,B,C,_⟩:=M.bind_some t
  obtain⟨⟨zs,u2⟩,L,N,D,E,_⟩:=M.bind_some C
  obtain⟨F, -, -⟩:=M.pj E
  cases F
  obtain⟨v,g1,g2⟩:=Bj h h1
  obtain⟨a1,a2,a3⟩:=BU B
  obtain⟨f,b1,b2,l,p,q⟩:=yD h D
  refine⟨v::f,?_,by simp [b2],fun z a=>(List.mem_append.1 a).elim (a1 z) (l z),fun z a=>(List.mem_append.1 a).elim (a2 z) (p z),fun S' loc' hs hle hf i G v' c j=>?_⟩
  ·rw [List.mapM_cons]
   simp only [Ch,g1,C7,b1,Cj]
  ·cases i with
   |zero=>
    simp only [List.getElem?_cons_zero,Option.some.injEq]at c j
    subst c;subst j
    exact a3 S loc S' loc' v hs hle (fun z a=>hf z (List.mem_append.2 (.inl a))) g2
   |succ i=>
    simp only [List.getElem?_cons_succ]at c j
    exact q S' loc' hs hle (fun z a=>hf z (List.mem_append.2 (.inr a))) i G v' c j
theorem one_R{ys:List RV}{vs:List Value}(a:vs.length=ys.length)(h:∀(i:Nat)y v,ys[i]? =some y->vs[i]? =some v->R S loc y v):
  R S loc (one ys) (if h:vs.toArray.size=1 then vs.toArray[0]else .tuple vs.toArray):=by
 have tup:ys.length≠1->R S loc (.tup ys) (if h:vs.toArray.size=1 then vs.toArray[0]else .tuple vs.toArray):=fun f=>by
  rw [dif_neg (by simpa [a]using f)]
  exact .tup ys vs.toArray (by simpa using a) fun i c v hc g=>h i c v hc (by simpa using g)
 cases ys with
 |nil=>exact tup sm
 |cons y ys=>
  cases ys with
  |nil=>
   obtain⟨v,rfl⟩:=List.length_eq_one_iff.1 (show vs.length=1 from a)
   exact h 0 y v rfl rfl
  |cons j ys=>exact tup sm
theorem wA:∀(u:Ups)(s:St),uQ s.boxes u=(s.ups u).boxes
 | [],_=>rfl
 |(id,b)::r,s=>by
  rw [rf, <-wA r]
  rfl
theorem zz{own:Nat->Bool}{ls:List Loc}{fn:Func}{g:Nat}{r:RV}{y:List Box}(F:X.par=look ls)(l:X.B0=xF ls)(W:ls.length=g)(a5:∀k t,look ls k=some t->∀ver e sz hdr,t.Row ver e sz hdr->ver=0)(h:Sim P X S loc s tm w)(c:finish P own fn g s=some (r,y)):
  ∃v S' q,(results fn tm).run P w= .ok v w∧uZ P X.base.mono X.S0 X.w0 ls g r y v w S' q:=by
 unfold finish at c
 split at c
 rotate_left
 ·cases c
 rename_i rs u rd H
 simp only at c
 split at c
 rotate_left
 ·cases c
 rename_i ids z c1 j
 split at c
 rotate_left
 ·cases c
 rename_i p
 obtain⟨C,Q⟩:=p
 simp only [Option.some.injEq,Prod.mk.injEq]at c
 obtain⟨rfl,rfl⟩:=c
 obtain⟨b0,q1,q2,c0,a6,_⟩:=M.bind_some j
 obtain⟨a9,q3,q4,G,a7,_⟩:=M.bind_some a6
 obtain⟨a8, -, -⟩:=M.pj a7
 cases a8
 rw [wA]at G
 obtain⟨g1,g2⟩:=wc G
 have hn:=wk Q
 obtain⟨vs,b1,b2,b3,b4,b5⟩:=yD h H
 obtain⟨S1,J,a,I,hle,T⟩:=h.uB u b3 (fun x hx=>.inl (b4 x hx))
 have hR:=one_R b2 (b5 S1 J I hle T)
 obtain⟨q,k1,k2,k3,k4⟩:=AE a (f:=pV g) (b:=uQ s.boxes u) (bs2:=(ids.zip z).map fun x=>rJ ⟨idxOf ids,qk (uQ s.boxes u) (pV g)⟩ (pV g x.1) x.2) hn g1 g2
  (fun id bx B => by rw [wA] at B; exact B) rfl (by simp [g1]) (fun k id bx hk O => by
   have hz:(ids.zip z)[k]? =some (id,bx):=List.getElem?_zip_eq_some.2 ⟨hk,O⟩
   rw [List.getElem?_map,hz]
   rfl)
 have b6:g<=ids.length:=by
  have:=congrArg List.length C
  rw [List.length_take,List.length_range]at this
  omega
 have D:∀k,k<g->ids[k]? =some k:=fun k hk=>by
  have h1:(ids.take g)[k]? =some k:=by rw [C,List.getElem?_range hk]
  rwa [List.getElem?_take,if_pos hk]at h1
 refine⟨_,S1,q,AH b1,⟨by rw [k1];simp [g1],by simp [g1];omega,a.s0,k4,fun ad v hv=>?_,?_,?_,?_,R.qC k3 hR⟩⟩
 ·rw [<-l];exact a.uY ad v hv
 ·intro k t hk
  have E:k<g:=by rw [p9]at hk;rw [<-W];exact(List.getElem?_eq_some_iff.1 hk).1
  obtain⟨L,h1,h2⟩:=a.par k t (by rw [F];exact hk)
  obtain⟨L',K,N⟩:=k2 k k (D k E)
  rw [h1]at K
  cases K
  refine⟨_,by rw [p9,N],BC E (a5 k t hk) h2⟩
 ·intro k L b hk B
  rw [p9]at hk
  have Y:k<ids.length:=by rw [<-k1];exact(List.getElem?_eq_some_iff.1 hk).1
  obtain⟨L',K,N⟩:=k2 k _ (zd Y)
  rw [hk]at N
  cases N
  rw [sl]at B
  rw [<-l]
  exact a.own _ L' b K B
 ·rw [<-l];exact a.frame
end
def xO(P:Program)(base:tR)(ext:FuncId->Option pA):Prop:=∀f g,ext f=some g->∀args bs r a,g f args bs=some (r,a)->qI P base f args bs r a
theorem tK{P:Program}{base:tR}{H:Hints}{ext:FuncId->Option pA}(T:xO P base ext)(hm:P.follows .mixedOrders=true):∀n,rN P base (p8 P H ext n):=by
 intro n
 induction n with
 |zero=>intro f args bs r y h;simp [p8]at h
 |succ n ih=>
  intro f args bs r y h
  unfold p8 at h
  rcases he:ext f with _|g
  rotate_left
  ·simp only [he]at h;exact T f g he args bs r y h
  simp only [he]at h
  rcases z:P.funcs[f]? with _|fn
  ·simp [z]at h
  simp only [z]at h
  rcases j:fn.body with _|c
  ·simp [j]at h
  simp only [j]at h
  split at h
  rotate_left
  ·cases h
  rename_i q
  simp only [Bool.and_eq_true,bne_iff_ne,ne_eq,decide_eq_true_eq]at q
  obtain⟨⟨⟨Q,J⟩,a8⟩,C⟩:=q
  have K:∀F∈bs,verB F=0:=fun F p=>by simpa using List.all_eq_true.1 C F p
  intro S w ls vs a hlen I Y a7 O
  refine .inl ⟨⟨fn,z,J,by rw [j];rfl⟩,calls_of_wp z j ?_⟩
  let X:Ctx:={ w0:=w,B0:=xF ls,S0:=S,par:=look ls,nt:=fn.ntmps,base:=base }
  have W:∀k b,X.par k=some b->k<bs.length∧∀ver e sz hdr,b.Row ver e sz hdr->ver=0:=fun k b hk=>by
   have B:look ls k=some b:=hk
   refine⟨?_,fun ver e sz hdr D=>?_⟩
   ·rw [<-hlen]
    rw [p9]at B
    exact(List.getElem?_eq_some_iff.1 B).1
   ·obtain⟨F,p⟩:=a.dom k _ B
    obtain⟨L,h1,h2⟩:=a.boxes k F p
    rw [B]at h1
    cases h1
    have hm:F∈bs:=by rw [p9]at p;exact List.mem_of_getElem? p
    have:=K F hm
    cases h2 with
    |arr _ _ es _ _ xs _ _ _=>cases D;exact this
    |nest=>cases D;exact this
    |dead _ hd=>subst hd;cases D
    |var=>cases D
    |map=>cases D
    |hole=>cases D;exact this
  have a5:Sim P X S (look ls) { pI:=look args,boxes:=look bs } (vs++Dk (fn.ntmps-vs.size) undef) w:=by
   refine⟨?_,?_,a.boxes,a.dom,a.imm,a.ti,a.rK,a.inj,?_,Frame.refl _ _ w,Sub.refl S,?_,fun ad v h=>.inl h,I,Y⟩
   ·show(vs++Dk (fn.ntmps-vs.size) undef).size=fn.ntmps
    simp;omega
   ·intro t rv ht
    replace ht:look args t=some rv:=ht
    rw [p9]at ht
    have x:t<vs.size:=by rw [<-a7];exact(List.getElem?_eq_some_iff.1 ht).1
    exact⟨vs[t],by rw [Array.getElem?_append_left x,Cc x],O t rv vs[t] ht (Cc x)⟩
   ·intro id L b hL D
    exact .inl (tw.2 ⟨id,L,hL,D⟩)
   ·intro k L0 hk
    exact⟨L0,hk,.same _⟩
  have a6:tS P X { pI:=look args,boxes:=look bs } { tmps:=vs++Dk (fn.ntmps-vs.size) undef,defers:=[] } w:=⟨rfl,S,_,a5⟩
  rcases l:pM P H f bs.length (p8 P H ext n) n c { pI:=look args,boxes:=look bs }with _|⟨e,s'⟩
  ·simp [l]at h
  rw [l]at h
  have E:finish P (H.own f) fn bs.length s'=some (r,y)∧(e= .normal∨e= .ret):=by
   cases e with
   |normal=>exact⟨h,.inl rfl⟩
   |ret=>exact⟨h,.inr rfl⟩
   |exit id=>cases h
  refine qi ih hm W c Q l a6 fun a' w' G=>?_
  obtain⟨a9,S',loc',G⟩:=G
  obtain⟨v,S2,N,k1,k2⟩:=zz (ls:=ls) rfl rfl hlen (fun k L0 hk=>(W k L0 hk).2) G E.1
  have u:a'.defers=[]∧∃v,(results fn a'.tmps).run P w'= .ok v w'∧∃v_1,Ending.returned v= .returned v_1∧∃S' N,uZ P base.mono S w ls bs.length r y v_1 w' S' N:=⟨a9,v,k1,v,rfl,S2,N,k2⟩
  rcases E.2 with rfl|rfl
  ·exact u
  ·exact u
theorem zl.calls{P:Program}{f:FuncId}{vs:Array Value}{w:World}{R:Value->World->Prop}(h:zl P f vs w R)(he:Enters P f):Calls P f vs w fun e w'=>∃v,e= .returned v∧R v w':=by
 rcases h with⟨_,h⟩|⟨v,w',k,_⟩
 ·exact h
 ·obtain⟨fn,j,c,a⟩:=he
  have g:(callFunc f vs).run P w= .ok (.enter f vs) w:=by
   have : (fn.name == "runtime.NumGoroutine") = false := by simpa using c
   simp only [callFunc,Ch,run_program,C7,j,this,a,Bool.false_eq_true,if_false,Cj]
  rw [g]at k
  cases k
end Go.Dw
