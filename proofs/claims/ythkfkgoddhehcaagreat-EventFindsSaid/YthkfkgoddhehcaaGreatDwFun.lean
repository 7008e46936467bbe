
import Derived.Test.YthkfkgoddhehcaaGreatDwGhost
open Go.Sem renaming run_bind->FJ, run_pure->FL
open Go.Result renaming andThen_ok->Ez
open Array renaming getElem?_eq_getElem->FE, replicate->GK

namespace Go.Dw
section
variable {P:Program}{X:Ctx}{S:tG}{loc:ui}{s:St}{tm:Array Value}{w:World}
theorem En{own:Bool}{c x:RV}{b:tY}{u:Ups}{r:List Nat}(h:outV own c b=some ((x,u),r,true)):
  wR u∧(∀y∈u,∃ver e es,b y.1=some (.arr ver e es))∧
  ∀S loc S' loc' v,Sub S S'->tO loc loc'->(∀y∈u,Frz b S loc S' y.1)->R S loc c v->R S' loc' x v:=by
 have same:∀{r:List Nat},M.pure (c,([]:Ups)) b=some ((x,u),r,true)->wR u∧(∀y∈u,∃ver e es,b y.1=some (.arr ver e es))∧
   ∀S loc S' loc' v,Sub S S'->tO loc loc'->(∀y∈u,Frz b S loc S' y.1)->R S loc c v->R S' loc' x v:=by
  intro r h
  obtain⟨h1, -, -⟩:=M.tB h
  cases h1
  exact⟨(λy g=>by cases g),(λy g=>by cases g),λS loc S' loc' v hs t _ f=>f.mono hs t⟩
 have a:(if own then M.pure (c,([]:Ups))else M.bind (wv c) fun(p,u)=>M.pure ((RV.d p,u):RV×Ups)) b=some ((x,u),r,true)->wR u∧(∀y∈u,∃ver e es,b y.1=some (.arr ver e es))∧
   ∀S loc S' loc' v,Sub S S'->tO loc loc'->(∀y∈u,Frz b S loc S' y.1)->R S loc c v->R S' loc' x v:=by
  intro h
  cases own with
  |true=>exact same h
  |false=>
   simp only [Bool.false_eq_true,if_false]at h
   obtain⟨⟨p,u1⟩,z,B,h1,j,_⟩:=M.bind_some h
   obtain⟨k, -, -⟩:=M.tB j
   cases k
   obtain⟨a1,a2,a3⟩:=yU h1
   exact⟨a1,a2,λS loc S' loc' v hs _ hf f=>.d (a3 S loc S' v f hs hf)⟩
 cases c with
 |agg cs=>
  by_cases how:own=true
  ·subst how;exact same h
  have l:own=false:=by cases own<;>simp_all
  subst l
  replace h:(M.bind (xj cs) fun(q,u)=>M.pure (RV.d (.agg q),u)) b=some ((x,u),r,true):=h
  obtain⟨⟨q,u1⟩,z,B,h1,j,_⟩:=M.bind_some h
  obtain⟨k, -, -⟩:=M.tB j
  cases k
  obtain⟨a1,a2,a3⟩:=yU (rv:= .agg cs) (p:= .agg q) (u:=u) (r:=z++[]) (b:=b) (by simp only [wv,M.bind,h1,M.pure,Bool.and_true])
  exact⟨a1,a2,λS loc S' loc' v hs _ hf f=>.d (a3 S loc S' v f hs hf)⟩
 |tC=>
  obtain⟨h1, -, -⟩:=M.tB (b:=b) h
  cases h1
  refine⟨(λy g=>by cases g),(λy g=>by cases g),λS loc S' loc' v hs t _ f=>?_⟩
  cases f with|tC=>exact .d (.nil none 0)
 |tup cs=>exact fE b h
 |d _=>exact same h
 |undef=>exact same h
 |junk=>exact same h
 |ref _ _=>exact a h
 |ptr _ _=>exact same h
 |elt _ _ _ _=>exact same h
 |cptr _=>exact same h
 |view _ _ _ _=>exact a h
 |clo _ _=>exact same h
 |err _=>exact same h
 |ifc _ _=>exact same h
 |plit _=>exact same h
 |pcp _=>exact same h
def Az(tm:Array Value)(x:ResultVar):Sem Value:=
 match x with
 | .tmp t=>pure (tm.getD t Go.undef)
 | .cell a t=>do loadVar t (<-asAddr (tm.getD a Go.undef))
theorem C2{fn:Func}{vs:List Value}(h:(fn.results.toList.mapM (Az tm)).run P w= .ok vs w):
  (results fn tm).run P w= .ok (if h:vs.toArray.size=1 then vs.toArray[0]else .tuple vs.toArray) w:=by
 have he:results fn tm=(do let vs<-fn.results.mapM (Az tm);pure (if h:vs.size=1 then vs[0]else .tuple vs)):=rfl
 rw [he,Array.mapM_eq_mapM_toList]
 simp only [FJ,Sem.run_map,h,Ez,FL]
theorem DL(h:Sim P X S loc s tm w){x:ResultVar}{rv:RV}{r:List Nat}(c:resV P s x s.boxes=some (rv,r,true)):
  ∃v,(Az tm x).run P w= .ok v w∧R S loc rv v:=by
 cases x with
 |tmp t=>
  simp only [resV]at c
  rcases h1:s.tT t with _|v1
  ·simp only [h1]at c;exact fE s.boxes c
  simp only [h1]at c
  obtain⟨f, -, -⟩:=M.tB (b:=s.boxes) c
  subst f
  obtain⟨v,l,k⟩:=h.tT t _ h1
  exact⟨v,by simp [Az,l],k⟩
 |cell t ty=>
  simp only [resV]at c
  obtain⟨⟨y,u⟩,B,C,h1,f,_⟩:=M.bind_some c
  obtain⟨p, -, -⟩:=M.tB (b:=s.boxes) f
  subst p
  rcases g:s.tT t with _|v1
  ·simp only [g]at h1;exact fE s.boxes h1
  simp only [g]at h1
  obtain⟨v,l,k⟩:=h.tT t _ g
  obtain⟨v',j,q,_⟩:=yy h h1 k
  refine⟨v',?_,q⟩
  have hp:∃ad,v= .pointer (some ad):=by
   cases v with
   |pointer a=>cases a with
    |some ad=>exact⟨ad,rfl⟩
    |none=>simp [Instr.loadAt,Instr.sureAddr]at j
   |_=>simp [Instr.loadAt,Instr.sureAddr]at j
  obtain⟨ad,rfl⟩:=hp
  have z:tm.getD t Go.undef= .pointer (some ad):=by simp [l]
  simp only [Az,z,asAddr,FJ,FL,Ez]
  simpa [Instr.loadAt,Instr.sureAddr]using j
theorem Bz{own:Nat->Bool}(h:Sim P X S loc s tm w):∀{xs:List ResultVar}{i:Nat}{ys:List RV}{us:Ups}{r:List Nat},resD P own s i xs s.boxes=some ((ys,us),r,true)->
  ∃vs,(xs.mapM (Az tm)).run P w= .ok vs w∧vs.length=ys.length∧
   wR us∧(∀x∈us,∃ver e es,s.boxes x.1=some (.arr ver e es))∧
   ∀S' loc',Sub S S'->tO loc loc'->(∀x∈us,Frz s.boxes S loc S' x.1)->∀(i:Nat)y v,ys[i]? =some y->vs[i]? =some v->R S' loc' y v
 | [],i,ys,us,r,g=>by
  obtain⟨h1, -, -⟩:=M.tB (b:=s.boxes) g
  cases h1
  exact⟨[],rfl,rfl,(λx k=>by cases k),(λx k=>by cases k),λS' loc' _ _ _ i y v c=>by simp at c⟩
 |x::xs,i,ys,us,r,g=>by
  simp only [resD]at g
  obtain⟨rv,H,I,h1,t,_⟩:=M.bind_some g
  obtain⟨⟨y,u⟩,J,K,B,C,_⟩:=M.bind_some t
  obtain⟨⟨zs,u2⟩,L,N,D,E,_⟩:=M.bind_some C
  obtain⟨F, -, -⟩:=M.tB E
  cases F
  obtain⟨v,g1,g2⟩:=DL h h1
  obtain⟨a1,a2,a3⟩:=En B
  obtain⟨f,b1,b2,l,p,q⟩:=Bz h D
  refine⟨v::f,?_,by simp [b2],λz a=>(List.mem_append.1 a).elim (a1 z) (l z),λz a=>(List.mem_append.1 a).elim (a2 z) (p z),λS' loc' hs hle hf i G v' c j=>?_⟩
  ·rw [List.mapM_cons]
   simp only [FJ,g1,Ez,b1,FL]
  ·cases i with
   |zero=>
    simp only [List.getElem?_cons_zero,Option.some.injEq]at c j
    subst c;subst j
    exact a3 S loc S' loc' v hs hle (λz a=>hf z (List.mem_append.2 (.inl a))) g2
   |succ i=>
    simp only [List.getElem?_cons_succ]at c j
    exact q S' loc' hs hle (λz a=>hf z (List.mem_append.2 (.inr a))) i G v' c j
theorem one_R{ys:List RV}{vs:List Value}(a:vs.length=ys.length)(h:∀(i:Nat)y v,ys[i]? =some y->vs[i]? =some v->R S loc y v):
  R S loc (one ys) (if h:vs.toArray.size=1 then vs.toArray[0]else .tuple vs.toArray):=by
 have tup:ys.length≠1->R S loc (.tup ys) (if h:vs.toArray.size=1 then vs.toArray[0]else .tuple vs.toArray):=λf=>by
  rw [dif_neg (by simpa [a]using f)]
  exact .tup ys vs.toArray (by simpa using a) λi c v hc g=>h i c v hc (by simpa using g)
 cases ys with
 |nil=>exact tup zb
 |cons y ys=>
  cases ys with
  |nil=>
   obtain⟨v,rfl⟩:=List.length_eq_one_iff.1 (show vs.length=1 from a)
   exact h 0 y v rfl rfl
  |cons j ys=>exact tup zb
theorem zH:∀(u:Ups)(s:St),ya s.boxes u=(s.ups u).boxes
 | [],_=>rfl
 |(id,b)::r,s=>by
  rw [vJ, <-zH r]
  rfl
theorem Cd{own:Nat->Bool}{ls:List Loc}{fn:Func}{g:Nat}{r:RV}{y:List Box}(F:X.par=look ls)(l:X.B0=AV ls)(T:ls.length=g)(Y:∀k t,look ls k=some t->∀ver e sz hdr,t.Row ver e sz hdr->ver=0)(h:Sim P X S loc s tm w)(c:finish P own fn g s=some (r,y)):
  ∃v S' q,(results fn tm).run P w= .ok v w∧yj P X.base.mono X.S0 X.w0 ls g r y v w S' q:=by
 unfold finish at c
 split at c
 rotate_left
 ·cases c
 rename_i rs u rd H
 simp only at c
 split at c
 rotate_left
 ·cases c
 rename_i ids z c0 j
 split at c
 rotate_left
 ·cases c
 rename_i p
 obtain⟨C,O⟩:=p
 simp only [Option.some.injEq,Prod.mk.injEq]at c
 obtain⟨rfl,rfl⟩:=c
 obtain⟨a9,q1,q2,b6,a5,_⟩:=M.bind_some j
 obtain⟨a8,q3,q4,G,a6,_⟩:=M.bind_some a5
 obtain⟨a7, -, -⟩:=M.tB a6
 cases a7
 rw [zH]at G
 obtain⟨g1,g2⟩:=zl G
 have hn:=zt O
 obtain⟨vs,b1,b2,b3,b4,b5⟩:=Bz h H
 obtain⟨S1,loc1,a,I,hle,Q⟩:=h.yQ u b3 (λx hx=>.inl (b4 x hx))
 have hR:=one_R b2 (b5 S1 loc1 I hle Q)
 obtain⟨q,k1,k2,k3,k4⟩:=CZ a (f:=ud g) (b:=ya s.boxes u) (bs2:=(ids.zip z).map λx=>vU ⟨idxOf ids,uz (ya s.boxes u) (ud g)⟩ (ud g x.1) x.2) hn g1 g2
  (λid bx B => by rw [zH] at B; exact B) rfl (by simp [g1]) (λk id bx hk N => by
   have hz:(ids.zip z)[k]? =some (id,bx):=List.getElem?_zip_eq_some.2 ⟨hk,N⟩
   rw [List.getElem?_map,hz]
   rfl)
 have b0:g<=ids.length:=by
  have:=congrArg List.length C
  rw [List.length_take,List.length_range]at this
  omega
 have D:∀k,k<g->ids[k]? =some k:=λk hk=>by
  have h1:(ids.take g)[k]? =some k:=by rw [C,List.getElem?_range hk]
  rwa [List.getElem?_take,if_pos hk]at h1
 refine⟨_,S1,q,C2 b1,⟨by rw [k1];simp [g1],by simp [g1];omega,a.s0,k4,λad v hv=>?_,?_,?_,?_,R.uZ k3 hR⟩⟩
 ·rw [<-l];exact a.yi ad v hv
 ·intro k t hk
  have E:k<g:=by rw [uk]at hk;rw [<-T];exact(List.getElem?_eq_some_iff.1 hk).1
  obtain⟨L,h1,h2⟩:=a.par k t (by rw [F];exact hk)
  obtain⟨L',J,K⟩:=k2 k k (D k E)
  rw [h1]at J
  cases J
  refine⟨_,by rw [uk,K],D4 E (Y k t hk) h2⟩
 ·intro k L b hk B
  rw [uk]at hk
  have W:k<ids.length:=by rw [<-k1];exact(List.getElem?_eq_some_iff.1 hk).1
  obtain⟨L',J,K⟩:=k2 k _ (ze W)
  rw [hk]at K
  cases K
  rw [wE]at B
  rw [<-l]
  exact a.own _ L' b J B
 ·rw [<-l];exact a.frame
end
def zJ(P:Program)(base:wX)(ext:FuncId->Option tI):Prop:=∀f g,ext f=some g->∀args bs r a,g f args bs=some (r,a)->uM P base f args bs r a
theorem uL{P:Program}{base:wX}{H:Hints}{ext:FuncId->Option tI}(T:zJ P base ext)(hm:P.follows .mixedOrders=true):∀n,vX P base (ub P H ext n):=by
 intro n
 induction n with
 |zero=>intro f args bs r y h;simp [ub]at h
 |succ n ih=>
  intro f args bs r y h
  unfold ub at h
  rcases he:ext f with _|g
  rotate_left
  ·simp only [he]at h;exact T f g he args bs r y h
  simp only [he]at h
  rcases z:P.funcs[f]? with _|fn
  ·simp [z]at h
  simp only [z]at h
  rcases j:fn.body with _|c
  ·simp [j]at h
  simp only [j]at h
  split at h
  rotate_left
  ·cases h
  rename_i q
  simp only [Bool.and_eq_true,bne_iff_ne,ne_eq,decide_eq_true_eq]at q
  obtain⟨⟨⟨Q,I⟩,a8⟩,C⟩:=q
  have J:∀E∈bs,verB E=0:=λE p=>by simpa using List.all_eq_true.1 C E p
  intro S w ls vs a hlen G Y a7 O
  refine .inl ⟨⟨fn,z,I,by rw [j];rfl⟩,calls_of_wp z j ?_⟩
  let X:Ctx:={ w0:=w,B0:=AV ls,S0:=S,par:=look ls,nt:=fn.ntmps,base:=base }
  have W:∀k b,X.par k=some b->k<bs.length∧∀ver e sz hdr,b.Row ver e sz hdr->ver=0:=λk b hk=>by
   have B:look ls k=some b:=hk
   refine⟨?_,λver e sz hdr N=>?_⟩
   ·rw [<-hlen]
    rw [uk]at B
    exact(List.getElem?_eq_some_iff.1 B).1
   ·obtain⟨E,p⟩:=a.dom k _ B
    obtain⟨L,h1,h2⟩:=a.boxes k E p
    rw [B]at h1
    cases h1
    have hm:E∈bs:=by rw [uk]at p;exact List.mem_of_getElem? p
    have:=J E hm
    cases h2 with
    |arr _ _ es _ _ xs _ _ _=>cases N;exact this
    |nest=>cases N;exact this
    |dead _ hd=>subst hd;cases N
    |var=>cases N
  have a5:Sim P X S (look ls) { tT:=look args,boxes:=look bs } (vs++GK (fn.ntmps-vs.size) undef) w:=by
   refine⟨?_,?_,a.boxes,a.dom,a.imm,a.wU,a.vV,a.inj,?_,Frame.refl _ _ w,Sub.refl S,?_,λad v h=>.inl h,G,Y⟩
   ·show(vs++GK (fn.ntmps-vs.size) undef).size=fn.ntmps
    simp;omega
   ·intro t rv ht
    replace ht:look args t=some rv:=ht
    rw [uk]at ht
    have x:t<vs.size:=by rw [<-a7];exact(List.getElem?_eq_some_iff.1 ht).1
    exact⟨vs[t],by rw [Array.getElem?_append_left x,FE x],O t rv vs[t] ht (FE x)⟩
   ·intro id L b hL N
    exact .inl (w4.2 ⟨id,L,hL,N⟩)
   ·intro k L0 hk
    exact⟨L0,hk,.same _⟩
  have a6:xm P X { tT:=look args,boxes:=look bs } { tmps:=vs++GK (fn.ntmps-vs.size) undef,defers:=[] } w:=⟨rfl,S,_,a5⟩
  rcases l:tW P H f bs.length (ub P H ext n) n c { tT:=look args,boxes:=look bs }with _|⟨e,s'⟩
  ·simp [l]at h
  rw [l]at h
  have D:finish P (H.own f) fn bs.length s'=some (r,y)∧(e= .normal∨e= .ret):=by
   cases e with
   |normal=>exact⟨h,.inl rfl⟩
   |ret=>exact⟨h,.inr rfl⟩
   |exit id=>cases h
  refine uv ih hm W c Q l a6 λa' w' F=>?_
  obtain⟨a9,S',loc',F⟩:=F
  obtain⟨v,S2,K,k1,k2⟩:=Cd (ls:=ls) rfl rfl hlen (λk L0 hk=>(W k L0 hk).2) F D.1
  have u:a'.defers=[]∧∃v,(results fn a'.tmps).run P w'= .ok v w'∧∃v_1,Ending.returned v= .returned v_1∧∃S' K,yj P base.mono S w ls bs.length r y v_1 w' S' K:=⟨a9,v,k1,v,rfl,S2,K,k2⟩
  rcases D.2 with rfl|rfl
  ·exact u
  ·exact u
theorem B3.calls{P:Program}{f:FuncId}{vs:Array Value}{w:World}{R:Value->World->Prop}(h:B3 P f vs w R)(he:Enters P f):Calls P f vs w λe w'=>∃v,e= .returned v∧R v w':=by
 rcases h with⟨_,h⟩|⟨v,w',k,_⟩
 ·exact h
 ·obtain⟨fn,j,c,a⟩:=he
  have g:(callFunc f vs).run P w= .ok (.enter f vs) w:=by
   have : (fn.name == "runtime.NumGoroutine") = false := by simpa using c
   simp only [callFunc,FJ,run_program,Ez,j,this,a,Bool.false_eq_true,if_false,FL]
  rw [g]at k
  cases k
end Go.Dw
