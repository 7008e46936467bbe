
import Derived.Test.YtgdhcacjeppglaaGreatDwGhost
open Go.Sem renaming run_bind->Ap, run_pure->Ar
open Go.Result renaming andThen_ok->Af
open Array renaming getElem?_eq_getElem->Ak, replicate->Bz

namespace Go.Dw
section
variable {P:Program}{X:Ctx}{S:cp}{loc:cJ}{s:St}{tm:Array Value}{w:World}
theorem ou{own:Bool}{c x:RV}{b:cI}{u:Ups}{r:List Nat}(h:outV own c b=some ((x,u),r,true)):
  eY u∧(∀y∈u,∃ver e es,b y.1=some (.arr ver e es))∧
  ∀S loc S' loc' v,Sub S S'->cm loc loc'->(∀y∈u,Frz b S loc S' y.1)->R S loc c v->R S' loc' x v:=by
 have same:∀{r:List Nat},M.pure (c,([]:Ups)) b=some ((x,u),r,true)->eY u∧(∀y∈u,∃ver e es,b y.1=some (.arr ver e es))∧
   ∀S loc S' loc' v,Sub S S'->cm loc loc'->(∀y∈u,Frz b S loc S' y.1)->R S loc c v->R S' loc' x v:=by
  intro r h
  obtain⟨h1, -, -⟩:=M.cd h
  cases h1
  exact⟨(fun y g=>by cases g),(fun y g=>by cases g),fun S loc S' loc' v i hl _ f=>f.mono i hl⟩
 have a:(if own then M.pure (c,([]:Ups))else M.bind (eX c) fun(p,u)=>M.pure ((RV.d p,u):RV×Ups)) b=some ((x,u),r,true)->eY u∧(∀y∈u,∃ver e es,b y.1=some (.arr ver e es))∧
   ∀S loc S' loc' v,Sub S S'->cm loc loc'->(∀y∈u,Frz b S loc S' y.1)->R S loc c v->R S' loc' x v:=by
  intro h
  cases own with
  |true=>exact same h
  |false=>
   simp only [Bool.false_eq_true,if_false]at h
   obtain⟨⟨p,u1⟩,o,q,h1,k,_⟩:=M.bind_some h
   obtain⟨l, -, -⟩:=M.cd k
   cases l
   obtain⟨j,a2,a3⟩:=fW h1
   exact⟨j,a2,fun S loc S' loc' v i _ hf f=>.d (a3 S loc S' v f i hf)⟩
 cases c with
 |agg cs=>
  by_cases how:own=true
  ·subst how;exact same h
  have m:own=false:=by cases own<;>simp_all
  subst m
  replace h:(M.bind (fH cs) fun(n,u)=>M.pure (RV.d (.agg n),u)) b=some ((x,u),r,true):=h
  obtain⟨⟨n,u1⟩,o,q,h1,k,_⟩:=M.bind_some h
  obtain⟨l, -, -⟩:=M.cd k
  cases l
  obtain⟨j,a2,a3⟩:=fW (rv:= .agg cs) (p:= .agg n) (u:=u) (r:=o++[]) (b:=b) (by simp only [eX,M.bind,h1,M.pure,Bool.and_true])
  exact⟨j,a2,fun S loc S' loc' v i _ hf f=>.d (a3 S loc S' v f i hf)⟩
 |cL=>
  obtain⟨h1, -, -⟩:=M.cd (b:=b) h
  cases h1
  refine⟨(fun y g=>by cases g),(fun y g=>by cases g),fun S loc S' loc' v i hl _ f=>?_⟩
  cases f with|cL=>exact .d (.nil none 0)
 |tup cs=>exact fE b h
 |d _=>exact same h
 |undef=>exact same h
 |junk=>exact same h
 |ref _ _=>exact a h
 |ptr _ _=>exact same h
 |elt _ _ _ _=>exact same h
 |cptr _=>exact same h
 |view _ _ _ _=>exact a h
 |clo _ _=>exact same h
 |fview _ _ _=>exact same h
 |err _=>exact same h
 |dfull _=>exact same h
 |ifc _ _=>exact same h
 |plit _=>exact same h
 |rlit _=>exact same h
 |pcp _=>exact same h
 |bnd _ _=>exact same h
 |rfn _ _ _=>exact same h
def jl(tm:Array Value)(x:ResultVar):Sem Value:=
 match x with
 | .tmp t=>pure (tm.getD t Go.undef)
 | .cell a t=>do loadVar t (<-asAddr (tm.getD a Go.undef))
theorem mJ{fn:Func}{vs:List Value}(h:(fn.results.toList.mapM (jl tm)).run P w= .ok vs w):
  (results fn tm).run P w= .ok (if h:vs.toArray.size=1 then vs.toArray[0]else .tuple vs.toArray) w:=by
 have he:results fn tm=(do let vs<-fn.results.mapM (jl tm);pure (if h:vs.size=1 then vs[0]else .tuple vs)):=rfl
 rw [he,Array.mapM_eq_mapM_toList]
 simp only [Ap,Sem.run_map,h,Af,Ar]
theorem nI(h:Sim P X S loc s tm w){x:ResultVar}{rv:RV}{r:List Nat}(hl:resV P s x s.boxes=some (rv,r,true)):
  ∃v,(jl tm x).run P w= .ok v w∧R S loc rv v:=by
 cases x with
 |tmp t=>
  simp only [resV]at hl
  rcases h1:s.cv t with _|v1
  ·simp only [h1]at hl;exact fE s.boxes hl
  simp only [h1]at hl
  obtain⟨c, -, -⟩:=M.cd (b:=s.boxes) hl
  subst c
  obtain⟨v,i,g⟩:=h.cv t _ h1
  exact⟨v,by simp [jl,i],g⟩
 |cell t ty=>
  simp only [resV]at hl
  obtain⟨⟨y,u⟩,n,o,h1,c,_⟩:=M.bind_some hl
  obtain⟨j, -, -⟩:=M.cd (b:=s.boxes) c
  subst j
  rcases e:s.cv t with _|v1
  ·simp only [e]at h1;exact fE s.boxes h1
  simp only [e]at h1
  obtain⟨v,i,g⟩:=h.cv t _ e
  obtain⟨v',f,k,_⟩:=gO h h1 g
  refine⟨v',?_,k⟩
  have m:∃ad,v= .pointer (some ad):=by
   cases v with
   |pointer a=>cases a with
    |some ad=>exact⟨ad,rfl⟩
    |none=>simp [Instr.loadAt,Instr.sureAddr]at f
   |_=>simp [Instr.loadAt,Instr.sureAddr]at f
  obtain⟨ad,rfl⟩:=m
  have l:tm.getD t Go.undef= .pointer (some ad):=by simp [i]
  simp only [jl,l,asAddr,Ap,Ar,Af]
  simpa [Instr.loadAt,Instr.sureAddr]using f
theorem kD{own:Nat->Bool}(h:Sim P X S loc s tm w):∀{xs:List ResultVar}{i:Nat}{ys:List RV}{us:Ups}{r:List Nat},resD P own s i xs s.boxes=some ((ys,us),r,true)->
  ∃vs,(xs.mapM (jl tm)).run P w= .ok vs w∧vs.length=ys.length∧
   eY us∧(∀x∈us,∃ver e es,s.boxes x.1=some (.arr ver e es))∧
   ∀S' loc',Sub S S'->cm loc loc'->(∀x∈us,Frz s.boxes S loc S' x.1)->∀(i:Nat)y v,ys[i]? =some y->vs[i]? =some v->R S' loc' y v
 | [],i,ys,us,r,hl=>by
  obtain⟨h1, -, -⟩:=M.cd (b:=s.boxes) hl
  cases h1
  exact⟨[],rfl,rfl,(fun x j=>by cases j),(fun x j=>by cases j),fun S' loc' _ _ _ i y v c=>by simp at c⟩
 |x::xs,i,ys,us,r,hl=>by
  simp only [resD]at hl
  obtain⟨rv,H,I,h1,t,_⟩:=M.bind_some hl
  obtain⟨⟨y,u⟩,J,K,B,C,_⟩:=M.bind_some t
  obtain⟨⟨O,u2⟩,L,N,D,E,_⟩:=M.bind_some C
  obtain⟨F, -, -⟩:=M.cd E
  cases F
  obtain⟨v,g1,g2⟩:=nI h h1
  obtain⟨l,a2,a3⟩:=ou B
  obtain⟨f,m,n,o,p,q⟩:=kD h D
  refine⟨v::f,?_,by simp [n],fun z a=>(List.mem_append.1 a).elim (l z) (o z),fun z a=>(List.mem_append.1 a).elim (a2 z) (p z),fun S' loc' k hle hf i G v' c g=>?_⟩
  ·rw [List.mapM_cons]
   simp only [Ap,g1,Af,m,Ar]
  ·cases i with
   |zero=>
    simp only [List.getElem?_cons_zero,Option.some.injEq]at c g
    subst c;subst g
    exact a3 S loc S' loc' v k hle (fun z a=>hf z (List.mem_append.2 (.inl a))) g2
   |succ i=>
    simp only [List.getElem?_cons_succ]at c g
    exact q S' loc' k hle (fun z a=>hf z (List.mem_append.2 (.inr a))) i G v' c g
theorem one_R{ys:List RV}{vs:List Value}(hl:vs.length=ys.length)(h:∀(i:Nat)y v,ys[i]? =some y->vs[i]? =some v->R S loc y v):
  R S loc (one ys) (if h:vs.toArray.size=1 then vs.toArray[0]else .tuple vs.toArray):=by
 have tup:ys.length≠1->R S loc (.tup ys) (if h:vs.toArray.size=1 then vs.toArray[0]else .tuple vs.toArray):=fun a=>by
  rw [dif_neg (by simpa [hl]using a)]
  exact .tup ys vs.toArray (by simpa using hl) fun i c v hc b=>h i c v hc (by simpa using b)
 cases ys with
 |nil=>exact tup sm
 |cons y ys=>
  cases ys with
  |nil=>
   obtain⟨v,rfl⟩:=List.length_eq_one_iff.1 (show vs.length=1 from hl)
   exact h 0 y v rfl rfl
  |cons e ys=>exact tup sm
theorem iE:∀(u:Ups)(s:St),ev s.boxes u=(s.ups u).boxes
 | [],_=>rfl
 |(id,b)::r,s=>by
  rw [du, <-iE r]
  rfl
theorem lH{own:Nat->Bool}{ls:List Loc}{fn:Func}{c:Nat}{r:RV}{n:List Box}(y:X.par=look ls)(i:X.B0=j3 ls)(J:ls.length=c)(N:∀k m,look ls k=some m->∀ver e sz hdr,m.Row ver e sz hdr->ver=0)(h:Sim P X S loc s tm w)(hl:finish P own fn c s=some (r,n)):
  ∃v S' l,(results fn tm).run P w= .ok v w∧kR P X.base.mono X.S0 X.w0 ls c r n v w S' l:=by
 unfold finish at hl
 split at hl
 rotate_left
 ·cases hl
 rename_i rs u rd B
 simp only at hl
 split at hl
 rotate_left
 ·cases hl
 rename_i ids o a4 g
 split at hl
 rotate_left
 ·cases hl
 rename_i j
 obtain⟨p,H⟩:=j
 simp only [Option.some.injEq,Prod.mk.injEq]at hl
 obtain⟨rfl,rfl⟩:=hl
 obtain⟨a1,q1,q2,a3,O,_⟩:=M.bind_some g
 obtain⟨a0,q3,q4,z,Q,_⟩:=M.bind_some O
 obtain⟨T, -, -⟩:=M.cd Q
 cases T
 rw [iE]at z
 obtain⟨g1,g2⟩:=ik z
 have hn:=iv H
 obtain⟨vs,b1,b2,b3,b4,b5⟩:=kD h B
 obtain⟨W,D,a,C,hle,I⟩:=h.gf u b3 (fun x hx=>.inl (b4 x hx))
 have hR:=one_R b2 (b5 W D C hle I)
 obtain⟨l,k1,k2,k3,k4⟩:=mG a (f:=cN c) (b:=ev s.boxes u) (bs2:=(ids.zip o).map fun x=>ez ⟨idxOf ids,da (ev s.boxes u) (cN c)⟩ (cN c x.1) x.2) hn g1 g2
  (fun id Y hb => by rw [iE] at hb; exact hb) rfl (by simp [g1]) (fun k id Y hk G => by
   have hz:(ids.zip o)[k]? =some (id,Y):=List.getElem?_zip_eq_some.2 ⟨hk,G⟩
   rw [List.getElem?_map,hz]
   rfl)
 have a2:c<=ids.length:=by
  have:=congrArg List.length p
  rw [List.length_take,List.length_range]at this
  omega
 have q:∀k,k<c->ids[k]? =some k:=fun k hk=>by
  have h1:(ids.take c)[k]? =some k:=by rw [p,List.getElem?_range hk]
  rwa [List.getElem?_take,if_pos hk]at h1
 refine⟨_,W,l,mJ b1,⟨by rw [k1];simp [g1],by simp [g1];omega,a.s0,k4,fun ad v hv=>?_,?_,?_,?_,R.dw k3 hR⟩⟩
 ·rw [<-i];exact a.gE ad v hv
 ·intro k m hk
  have t:k<c:=by rw [cS]at hk;rw [<-J];exact(List.getElem?_eq_some_iff.1 hk).1
  obtain⟨L,h1,h2⟩:=a.par k m (by rw [y];exact hk)
  obtain⟨U,E,F⟩:=k2 k k (q k t)
  rw [h1]at E
  cases E
  refine⟨_,by rw [cS,F],nY t (N k m hk) h2⟩
 ·intro k L b hk hb
  rw [cS]at hk
  have K:k<ids.length:=by rw [<-k1];exact(List.getElem?_eq_some_iff.1 hk).1
  obtain⟨U,E,F⟩:=k2 k _ (zc K)
  rw [hk]at F
  cases F
  rw [eK]at hb
  rw [<-i]
  exact a.own _ U b E hb
 ·rw [<-i];exact a.frame
end
def jT(P:Program)(base:iZ)(ext:FuncId->Option cB):Prop:=∀f g,ext f=some g->∀args bs r a,g f args bs=some (r,a)->fJ P base f args bs r a
theorem eQ{P:Program}{base:iZ}{H:Hints}{ext:FuncId->Option cB}(K:jT P base ext)(hm:P.follows .mixedOrders=true):∀n,ea P base (c7 P H ext n):=by
 intro n
 induction n with
 |zero=>intro f args bs r q h;simp [c7]at h
 |succ n ih=>
  intro f args bs r q h
  unfold c7 at h
  rcases he:ext f with _|g
  rotate_left
  ·simp only [he]at h;exact K f g he args bs r q h
  simp only [he]at h
  rcases u:P.funcs[f]? with _|fn
  ·simp [u]at h
  simp only [u]at h
  rcases i:fn.body with _|c
  ·simp [i]at h
  simp only [i]at h
  split at h
  rotate_left
  ·cases h
  rename_i m
  simp only [Bool.and_eq_true,bne_iff_ne,ne_eq,decide_eq_true_eq]at m
  obtain⟨⟨⟨J,E⟩,Y⟩,y⟩:=m
  have F:∀B∈bs,verB B=0:=fun B l=>by simpa using List.all_eq_true.1 y B l
  intro S w ls vs a hlen D O W I
  refine .inl ⟨⟨fn,u,E,by rw [i];rfl⟩,calls_of_wp u i ?_⟩
  let X:Ctx:={ w0:=w,B0:=j3 ls,S0:=S,par:=look ls,nt:=fn.ntmps,base:=base }
  have N:∀k b,X.par k=some b->k<bs.length∧∀ver e sz hdr,b.Row ver e sz hdr->ver=0:=fun k b hk=>by
   have x:look ls k=some b:=hk
   refine⟨?_,fun ver e sz hdr hb=>?_⟩
   ·rw [<-hlen]
    rw [cS]at x
    exact(List.getElem?_eq_some_iff.1 x).1
   ·obtain⟨B,l⟩:=a.dom k _ x
    obtain⟨L,h1,h2⟩:=a.boxes k B l
    rw [x]at h1
    cases h1
    have hm:B∈bs:=by rw [cS]at l;exact List.mem_of_getElem? l
    have:=F B hm
    cases h2 with
    |arr _ _ es _ _ xs _ _ _=>cases hb;exact this
    |nest=>cases hb;exact this
    |dead _ hd=>subst hd;cases hb
    |var=>cases hb
    |map=>cases hb
    |mapn=>cases hb
    |hole=>cases hb;exact this
    |deep=>cases hb;exact this
  have Q:Sim P X S (look ls) { cv:=look args,boxes:=look bs } (vs++Bz (fn.ntmps-vs.size) undef) w:=by
   refine⟨?_,?_,a.boxes,a.dom,a.imm,a.fy,a.eA,a.inj,?_,Frame.refl _ _ w,Sub.refl S,?_,fun ad v h=>.inl h,D,O⟩
   ·show(vs++Bz (fn.ntmps-vs.size) undef).size=fn.ntmps
    simp;omega
   ·intro t rv ht
    replace ht:look args t=some rv:=ht
    rw [cS]at ht
    have p:t<vs.size:=by rw [<-W];exact(List.getElem?_eq_some_iff.1 ht).1
    exact⟨vs[t],by rw [Array.getElem?_append_left p,Ak p],I t rv vs[t] ht (Ak p)⟩
   ·intro id L b hL hb
    exact .inl (mf.2 ⟨id,L,hL,hb⟩)
   ·intro k T hk
    exact⟨T,hk,.same _⟩
  have U:eN P X { cv:=look args,boxes:=look bs } { tmps:=vs++Bz (fn.ntmps-vs.size) undef,defers:=[] } w:=⟨rfl,S,_,Q⟩
  rcases j:cG P H f bs.length (c7 P H ext n) n c { cv:=look args,boxes:=look bs }with _|⟨e,s'⟩
  ·simp [j]at h
  rw [j]at h
  have z:finish P (H.own f) fn bs.length s'=some (r,q)∧(e= .normal∨e= .ret):=by
   cases e with
   |normal=>exact⟨h,.inl rfl⟩
   |ret=>exact⟨h,.inr rfl⟩
   |exit id=>cases h
  refine cZ ih hm N c J j U fun a' w' C=>?_
  obtain⟨a0,S',loc',C⟩:=C
  obtain⟨v,S2,G,k1,k2⟩:=lH (ls:=ls) rfl rfl hlen (fun k T hk=>(N k T hk).2) C z.1
  have o:a'.defers=[]∧∃v,(results fn a'.tmps).run P w'= .ok v w'∧∃v_1,Ending.returned v= .returned v_1∧∃S' G,kR P base.mono S w ls bs.length r q v_1 w' S' G:=⟨a0,v,k1,v,rfl,S2,G,k2⟩
  rcases z.2 with rfl|rfl
  ·exact o
  ·exact o
theorem lp.calls{P:Program}{f:FuncId}{vs:Array Value}{w:World}{R:Value->World->Prop}(h:lp P f vs w R)(he:Enters P f):Calls P f vs w fun e w'=>∃v,e= .returned v∧R v w':=by
 rcases h with⟨_,h⟩|⟨v,w',i,_⟩
 ·exact h
 ·obtain⟨fn,g,b,a⟩:=he
  have c:(callFunc f vs).run P w= .ok (.enter f vs) w:=by
   have : (fn.name == "runtime.NumGoroutine") = false := by simpa using b
   simp only [callFunc,Ap,run_program,Af,g,this,a,Bool.false_eq_true,if_false,Ar]
  rw [c]at i
  cases i
end Go.Dw
