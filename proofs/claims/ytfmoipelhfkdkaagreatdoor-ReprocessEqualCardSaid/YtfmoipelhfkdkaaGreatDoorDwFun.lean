
import Derived.Test.YtfmoipelhfkdkaaGreatDoorDwGhost
open Go.Sem renaming run_bind->ET, run_pure->EV
open Go.Result renaming andThen_ok->EH
open Array renaming getElem?_eq_getElem->EM, replicate->F1

namespace Go.Dw
section
variable {P:Program}{X:Ctx}{S:rP}{loc:ss}{s:St}{tm:Array Value}{w:World}
theorem DC{own:Bool}{c x:RV}{b:sj}{u:Ups}{r:List Nat}(h:outV own c b=some ((x,u),r,true)):
  vn u∧(∀y∈u,∃ver e es,b y.1=some (.arr ver e es))∧
  ∀S loc S' loc' v,Sub S S'->rT loc loc'->(∀y∈u,Frz b S loc S' y.1)->R S loc c v->R S' loc' x v:=by
 have same:∀{r:List Nat},M.pure (c,([]:Ups)) b=some ((x,u),r,true)->vn u∧(∀y∈u,∃ver e es,b y.1=some (.arr ver e es))∧
   ∀S loc S' loc' v,Sub S S'->rT loc loc'->(∀y∈u,Frz b S loc S' y.1)->R S loc c v->R S' loc' x v:=by
  intro r h
  obtain⟨h1, -, -⟩:=M.pZ h
  cases h1
  exact⟨(fun y j=>by cases j),(fun y j=>by cases j),fun S loc S' loc' v hs hl _ g=>g.mono hs hl⟩
 have f:(if own then M.pure (c,([]:Ups))else M.bind (uL c) fun(p,u)=>M.pure ((RV.d p,u):RV×Ups)) b=some ((x,u),r,true)->vn u∧(∀y∈u,∃ver e es,b y.1=some (.arr ver e es))∧
   ∀S loc S' loc' v,Sub S S'->rT loc loc'->(∀y∈u,Frz b S loc S' y.1)->R S loc c v->R S' loc' x v:=by
  intro h
  cases own with
  |true=>exact same h
  |false=>
   simp only [Bool.false_eq_true,if_false]at h
   obtain⟨⟨p,u1⟩,D,E,h1,k,_⟩:=M.bind_some h
   obtain⟨q, -, -⟩:=M.pZ k
   cases q
   obtain⟨a1,a2,a3⟩:=wx h1
   exact⟨a1,a2,fun S loc S' loc' v hs _ hf g=>.d (a3 S loc S' v g hs hf)⟩
 cases c with
 |agg cs=>
  by_cases how:own=true
  ·subst how;exact same h
  have C:own=false:=by cases own<;>simp_all
  subst C
  replace h:(M.bind (vU cs) fun(ps,u)=>M.pure (RV.d (.agg ps),u)) b=some ((x,u),r,true):=h
  obtain⟨⟨ps,u1⟩,D,E,h1,k,_⟩:=M.bind_some h
  obtain⟨q, -, -⟩:=M.pZ k
  cases q
  obtain⟨a1,a2,a3⟩:=wx (rv:= .agg cs) (p:= .agg ps) (u:=u) (r:=D++[]) (b:=b) (by simp only [uL,M.bind,h1,M.pure,Bool.and_true])
  exact⟨a1,a2,fun S loc S' loc' v hs _ hf g=>.d (a3 S loc S' v g hs hf)⟩
 |rm=>
  obtain⟨h1, -, -⟩:=M.pZ (b:=b) h
  cases h1
  refine⟨(fun y j=>by cases j),(fun y j=>by cases j),fun S loc S' loc' v hs hl _ g=>?_⟩
  cases g with|rm=>exact .d (.nil none 0)
 |tup cs=>exact fE b h
 |d _=>exact same h
 |undef=>exact same h
 |junk=>exact same h
 |ref _ _=>exact f h
 |ptr _ _=>exact same h
 |elt _ _ _ _=>exact same h
 |cptr _=>exact same h
 |view _ _ _ _=>exact f h
 |clo _ _=>exact same h
 |fview _ _ _=>exact same h
 |err _=>exact same h
 |dfull _=>exact same h
 |ifc _ _=>exact same h
 |plit _=>exact same h
 |pcp _=>exact same h
def zh(tm:Array Value)(x:ResultVar):Sem Value:=
 match x with
 | .tmp t=>pure (tm.getD t Go.undef)
 | .cell a t=>do loadVar t (<-asAddr (tm.getD a Go.undef))
theorem Cm{fn:Func}{vs:List Value}(h:(fn.results.toList.mapM (zh tm)).run P w= .ok vs w):
  (results fn tm).run P w= .ok (if h:vs.toArray.size=1 then vs.toArray[0]else .tuple vs.toArray) w:=by
 have he:results fn tm=(do let vs<-fn.results.mapM (zh tm);pure (if h:vs.size=1 then vs[0]else .tuple vs)):=rfl
 rw [he,Array.mapM_eq_mapM_toList]
 simp only [ET,Sem.run_map,h,EH,EV]
theorem CY(h:Sim P X S loc s tm w){x:ResultVar}{rv:RV}{r:List Nat}(hl:resV P s x s.boxes=some (rv,r,true)):
  ∃v,(zh tm x).run P w= .ok v w∧R S loc rv v:=by
 cases x with
 |tmp t=>
  simp only [resV]at hl
  rcases h1:s.rX t with _|v1
  ·simp only [h1]at hl;exact fE s.boxes hl
  simp only [h1]at hl
  obtain⟨f, -, -⟩:=M.pZ (b:=s.boxes) hl
  subst f
  obtain⟨v,q,k⟩:=h.rX t _ h1
  exact⟨v,by simp [zh,q],k⟩
 |cell t ty=>
  simp only [resV]at hl
  obtain⟨⟨y,u⟩,F,G,h1,f,_⟩:=M.bind_some hl
  obtain⟨C, -, -⟩:=M.pZ (b:=s.boxes) f
  subst C
  rcases g:s.rX t with _|v1
  ·simp only [g]at h1;exact fE s.boxes h1
  simp only [g]at h1
  obtain⟨v,q,k⟩:=h.rX t _ g
  obtain⟨v',j,D,_⟩:=xl h h1 k
  refine⟨v',?_,D⟩
  have hp:∃ad,v= .pointer (some ad):=by
   cases v with
   |pointer a=>cases a with
    |some ad=>exact⟨ad,rfl⟩
    |none=>simp [Instr.loadAt,Instr.sureAddr]at j
   |_=>simp [Instr.loadAt,Instr.sureAddr]at j
  obtain⟨ad,rfl⟩:=hp
  have E:tm.getD t Go.undef= .pointer (some ad):=by simp [q]
  simp only [zh,E,asAddr,ET,EV,EH]
  simpa [Instr.loadAt,Instr.sureAddr]using j
theorem AM{own:Nat->Bool}(h:Sim P X S loc s tm w):∀{xs:List ResultVar}{i:Nat}{k:List RV}{us:Ups}{r:List Nat},resD P own s i xs s.boxes=some ((k,us),r,true)->
  ∃vs,(xs.mapM (zh tm)).run P w= .ok vs w∧vs.length=k.length∧
   vn us∧(∀x∈us,∃ver e es,s.boxes x.1=some (.arr ver e es))∧
   ∀S' loc',Sub S S'->rT loc loc'->(∀x∈us,Frz s.boxes S loc S' x.1)->∀(i:Nat)y v,k[i]? =some y->vs[i]? =some v->R S' loc' y v
 | [],i,k,us,r,hl=>by
  obtain⟨h1, -, -⟩:=M.pZ (b:=s.boxes) hl
  cases h1
  exact⟨[],rfl,rfl,(fun x C=>by cases C),(fun x C=>by cases C),fun S' loc' _ _ _ i y v g=>by simp at g⟩
 |x::xs,i,k,us,r,hl=>by
  simp only [resD]at hl
  obtain⟨rv,T,U,h1,I,_⟩:=M.bind_some hl
  obtain⟨⟨y,u⟩,W,Y,J,K,_⟩:=M.bind_some I
  obtain⟨⟨zs,u2⟩,r5,r6,L,N,_⟩:=M.bind_some K
  obtain⟨O, -, -⟩:=M.pZ N
  cases O
  obtain⟨v,g1,g2⟩:=CY h h1
  obtain⟨a1,a2,a3⟩:=DC J
  obtain⟨j,D,E,F,G,H⟩:=AM h L
  refine⟨v::j,?_,by simp [E],fun z f=>(List.mem_append.1 f).elim (a1 z) (F z),fun z f=>(List.mem_append.1 f).elim (a2 z) (G z),fun S' loc' hs hle hf i Q v' g q=>?_⟩
  ·rw [List.mapM_cons]
   simp only [ET,g1,EH,D,EV]
  ·cases i with
   |zero=>
    simp only [List.getElem?_cons_zero,Option.some.injEq]at g q
    subst g;subst q
    exact a3 S loc S' loc' v hs hle (fun z f=>hf z (List.mem_append.2 (.inl f))) g2
   |succ i=>
    simp only [List.getElem?_cons_succ]at g q
    exact H S' loc' hs hle (fun z f=>hf z (List.mem_append.2 (.inr f))) i Q v' g q
theorem one_R{f:List RV}{vs:List Value}(hl:vs.length=f.length)(h:∀(i:Nat)y v,f[i]? =some y->vs[i]? =some v->R S loc y v):
  R S loc (one f) (if h:vs.toArray.size=1 then vs.toArray[0]else .tuple vs.toArray):=by
 have tup:f.length≠1->R S loc (.tup f) (if h:vs.toArray.size=1 then vs.toArray[0]else .tuple vs.toArray):=fun g=>by
  rw [dif_neg (by simpa [hl]using g)]
  exact .tup f vs.toArray (by simpa using hl) fun i c v hc j=>h i c v hc (by simpa using j)
 cases f with
 |nil=>exact tup zc
 |cons y f=>
  cases f with
  |nil=>
   obtain⟨v,rfl⟩:=List.length_eq_one_iff.1 (show vs.length=1 from hl)
   exact h 0 y v rfl rfl
  |cons k f=>exact tup zc
theorem yn:∀(u:Ups)(s:St),yJ s.boxes u=(s.ups u).boxes
 | [],_=>rfl
 |(id,b)::r,s=>by
  rw [tW, <-yn r]
  rfl
theorem Bp{own:Nat->Bool}{ls:List Loc}{fn:Func}{j:Nat}{r:RV}{G:List Box}(O:X.par=look ls)(C:X.B0=Ac ls)(b0:ls.length=j)(c0:∀k F,look ls k=some F->∀ver e sz hdr,F.Row ver e sz hdr->ver=0)(h:Sim P X S loc s tm w)(hl:finish P own fn j s=some (r,G)):
  ∃v S' E,(results fn tm).run P w= .ok v w∧zS P X.base.mono X.S0 X.w0 ls j r G v w S' E:=by
 unfold finish at hl
 split at hl
 rotate_left
 ·cases hl
 rename_i rs u rd T
 simp only at hl
 split at hl
 rotate_left
 ·cases hl
 rename_i ids H c8 q
 split at hl
 rotate_left
 ·cases hl
 rename_i D
 obtain⟨J,a6⟩:=D
 simp only [Option.some.injEq,Prod.mk.injEq]at hl
 obtain⟨rfl,rfl⟩:=hl
 obtain⟨c5,q1,q2,c7,c1,_⟩:=M.bind_some q
 obtain⟨c4,q3,q4,Q,c2,_⟩:=M.bind_some c1
 obtain⟨c3, -, -⟩:=M.pZ c2
 cases c3
 rw [yn]at Q
 obtain⟨g1,g2⟩:=xY Q
 have hn:=ye a6
 obtain⟨vs,b1,b2,b3,b4,b5⟩:=AM h T
 obtain⟨S1,W,g,U,hle,a9⟩:=h.wF u b3 (fun x hx=>.inl (b4 x hx))
 have hR:=one_R b2 (b5 S1 W U hle a9)
 obtain⟨E,k1,k2,k3,k4⟩:=Cj g (f:=su j) (b:=yJ s.boxes u) (bs2:=(ids.zip H).map fun x=>uB ⟨idxOf ids,tf (yJ s.boxes u) (su j)⟩ (su j x.1) x.2) hn g1 g2
  (fun id bx I => by rw [yn] at I; exact I) rfl (by simp [g1]) (fun k id bx hk a5 => by
   have hz:(ids.zip H)[k]? =some (id,bx):=List.getElem?_zip_eq_some.2 ⟨hk,a5⟩
   rw [List.getElem?_map,hz]
   rfl)
 have c6:j<=ids.length:=by
  have:=congrArg List.length J
  rw [List.length_take,List.length_range]at this
  omega
 have K:∀k,k<j->ids[k]? =some k:=fun k hk=>by
  have h1:(ids.take j)[k]? =some k:=by rw [J,List.getElem?_range hk]
  rwa [List.getElem?_take,if_pos hk]at h1
 refine⟨_,S1,E,Cm b1,⟨by rw [k1];simp [g1],by simp [g1];omega,g.s0,k4,fun ad v hv=>?_,?_,?_,?_,R.tD k3 hR⟩⟩
 ·rw [<-C];exact g.xM ad v hv
 ·intro k F hk
  have N:k<j:=by rw [sJ]at hk;rw [<-b0];exact(List.getElem?_eq_some_iff.1 hk).1
  obtain⟨L,h1,h2⟩:=g.par k F (by rw [O];exact hk)
  obtain⟨L',Y,h4⟩:=k2 k k (K k N)
  rw [h1]at Y
  cases Y
  refine⟨_,by rw [sJ,h4],Dk N (c0 k F hk) h2⟩
 ·intro k L b hk I
  rw [sJ]at hk
  have b6:k<ids.length:=by rw [<-k1];exact(List.getElem?_eq_some_iff.1 hk).1
  obtain⟨L',Y,h4⟩:=k2 k _ (zf b6)
  rw [hk]at h4
  cases h4
  rw [uS]at I
  rw [<-C]
  exact g.own _ L' b Y I
 ·rw [<-C];exact g.frame
end
def ExtOk(P:Program)(base:xT)(ext:FuncId->Option rO):Prop:=∀f g,ext f=some g->∀args bs r j,g f args bs=some (r,j)->uC P base f args bs r j
theorem xh{P:Program}{base:xT}{H:Hints}{ext:FuncId->Option rO}(b0:ExtOk P base ext)(hm:P.follows .mixedOrders=true):∀n,uv P base (sI P H ext n):=by
 intro n
 induction n with
 |zero=>intro f args bs r G h;simp [sI]at h
 |succ n ih=>
  intro f args bs r G h
  unfold sI at h
  rcases he:ext f with _|g
  rotate_left
  ·simp only [he]at h;exact b0 f g he args bs r G h
  simp only [he]at h
  rcases I:P.funcs[f]? with _|fn
  ·simp [I]at h
  simp only [I]at h
  rcases q:fn.body with _|c
  ·simp [q]at h
  simp only [q]at h
  split at h
  rotate_left
  ·cases h
  rename_i D
  simp only [Bool.and_eq_true,bne_iff_ne,ne_eq,decide_eq_true_eq]at D
  obtain⟨⟨⟨a9,W⟩,b6⟩,K⟩:=D
  have Y:∀Q∈bs,verB Q=0:=fun Q C=>by simpa using List.all_eq_true.1 K Q C
  intro S w ls vs j hlen U b2 b5 a6
  refine .inl ⟨⟨fn,I,W,by rw [q];rfl⟩,calls_of_wp I q ?_⟩
  let X:Ctx:={ w0:=w,B0:=Ac ls,S0:=S,par:=look ls,nt:=fn.ntmps,base:=base }
  have b1:∀k b,X.par k=some b->k<bs.length∧∀ver e sz hdr,b.Row ver e sz hdr->ver=0:=fun k b hk=>by
   have J:look ls k=some b:=hk
   refine⟨?_,fun ver e sz hdr N=>?_⟩
   ·rw [<-hlen]
    rw [sJ]at J
    exact(List.getElem?_eq_some_iff.1 J).1
   ·obtain⟨Q,C⟩:=j.dom k _ J
    obtain⟨L,h1,h2⟩:=j.boxes k Q C
    rw [J]at h1
    cases h1
    have hm:Q∈bs:=by rw [sJ]at C;exact List.mem_of_getElem? C
    have:=Y Q hm
    cases h2 with
    |arr _ _ es _ _ xs _ _ _=>cases N;exact this
    |nest=>cases N;exact this
    |dead _ hd=>subst hd;cases N
    |var=>cases N
    |map=>cases N
    |hole=>cases N;exact this
  have b3:Sim P X S (look ls) { rX:=look args,boxes:=look bs } (vs++F1 (fn.ntmps-vs.size) undef) w:=by
   refine⟨?_,?_,j.boxes,j.dom,j.imm,j.vN,j.uM,j.inj,?_,Frame.refl _ _ w,Sub.refl S,?_,fun ad v h=>.inl h,U,b2⟩
   ·show(vs++F1 (fn.ntmps-vs.size) undef).size=fn.ntmps
    simp;omega
   ·intro t rv ht
    replace ht:look args t=some rv:=ht
    rw [sJ]at ht
    have F:t<vs.size:=by rw [<-b5];exact(List.getElem?_eq_some_iff.1 ht).1
    exact⟨vs[t],by rw [Array.getElem?_append_left F,EM F],a6 t rv vs[t] ht (EM F)⟩
   ·intro id L b hL N
    exact .inl (wj.2 ⟨id,L,hL,N⟩)
   ·intro k L0 hk
    exact⟨L0,hk,.same _⟩
  have b4:vW P X { rX:=look args,boxes:=look bs } { tmps:=vs++F1 (fn.ntmps-vs.size) undef,defers:=[] } w:=⟨rfl,S,_,b3⟩
  rcases u:sa P H f bs.length (sI P H ext n) n c { rX:=look args,boxes:=look bs }with _|⟨e,s'⟩
  ·simp [u]at h
  rw [u]at h
  have O:finish P (H.own f) fn bs.length s'=some (r,G)∧(e= .normal∨e= .ret):=by
   cases e with
   |normal=>exact⟨h,.inl rfl⟩
   |ret=>exact⟨h,.inr rfl⟩
   |exit id=>cases h
  refine sY ih hm b1 c a9 u b4 fun a' w' T=>?_
  obtain⟨c0,S',loc',T⟩:=T
  obtain⟨v,S2,a5,k1,k2⟩:=Bp (ls:=ls) rfl rfl hlen (fun k L0 hk=>(b1 k L0 hk).2) T O.1
  have E:a'.defers=[]∧∃v,(results fn a'.tmps).run P w'= .ok v w'∧∃v_1,Ending.returned v= .returned v_1∧∃S' a5,zS P base.mono S w ls bs.length r G v_1 w' S' a5:=⟨c0,v,k1,v,rfl,S2,a5,k2⟩
  rcases O.2 with rfl|rfl
  ·exact E
  ·exact E
theorem Bg.calls{P:Program}{f:FuncId}{vs:Array Value}{w:World}{R:Value->World->Prop}(h:Bg P f vs w R)(he:Enters P f):Calls P f vs w fun e w'=>∃v,e= .returned v∧R v w':=by
 rcases h with⟨_,h⟩|⟨v,w',r,_⟩
 ·exact h
 ·obtain⟨fn,q,j,g⟩:=he
  have k:(callFunc f vs).run P w= .ok (.enter f vs) w:=by
   have : (fn.name == "runtime.NumGoroutine") = false := by simpa using j
   simp only [callFunc,ET,run_program,EH,q,this,g,Bool.false_eq_true,if_false,EV]
  rw [k]at r
  cases r
end Go.Dw
