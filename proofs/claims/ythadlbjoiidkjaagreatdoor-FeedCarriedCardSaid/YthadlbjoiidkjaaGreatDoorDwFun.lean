
import Derived.Test.YthadlbjoiidkjaaGreatDoorDwGhost

namespace Go.Dw
section
variable {P:Program}{X:Ctx}{S:pR}{loc:qe}{s:St}{tm:Array Value}{w:World}
theorem BK{own:Bool}{c x:RV}{b:p8}{u:Ups}{r:List Nat}(h:outV own c b=some ((x,u),r,true)):
  tn u∧(∀y∈u,∃ver e es,b y.1=some (.arr ver e es))∧
  ∀S loc S' loc' v,Sub S S'->qa loc loc'->(∀y∈u,Frz b S loc S' y.1)->R S loc c v->R S' loc' x v:=by
 have same:∀{r:List Nat},M.pure (c,([]:Ups)) b=some ((x,u),r,true)->tn u∧(∀y∈u,∃ver e es,b y.1=some (.arr ver e es))∧
   ∀S loc S' loc' v,Sub S S'->qa loc loc'->(∀y∈u,Frz b S loc S' y.1)->R S loc c v->R S' loc' x v:=by
  intro r h
  obtain⟨h1, -, -⟩:=M.pK h
  cases h1
  exact⟨(fun y hy=>by cases hy),(fun y hy=>by cases hy),fun S loc S' loc' v hs hl _ hr=>hr.mono hs hl⟩
 have byown:(if own then M.pure (c,([]:Ups))else M.bind (sD c) fun(p,u)=>M.pure ((RV.d p,u):RV×Ups)) b=some ((x,u),r,true)->tn u∧(∀y∈u,∃ver e es,b y.1=some (.arr ver e es))∧
   ∀S loc S' loc' v,Sub S S'->qa loc loc'->(∀y∈u,Frz b S loc S' y.1)->R S loc c v->R S' loc' x v:=by
  intro h
  cases own with
  |true=>exact same h
  |false=>
   simp only [Bool.false_eq_true,if_false]at h
   obtain⟨⟨p,u1⟩,r1,r2,h1,h2,_⟩:=M.bind_some h
   obtain⟨h3, -, -⟩:=M.pK h2
   cases h3
   obtain⟨a1,a2,a3⟩:=uo h1
   exact⟨a1,a2,fun S loc S' loc' v hs _ hf hr=>.d (a3 S loc S' v hr hs hf)⟩
 cases c with
 |agg cs=>
  by_cases how:own=true
  ·subst how;exact same h
  have hof:own=false:=by cases own<;>simp_all
  subst hof
  replace h:(M.bind (tS cs) fun(ps,u)=>M.pure (RV.d (.agg ps),u)) b=some ((x,u),r,true):=h
  obtain⟨⟨ps,u1⟩,r1,r2,h1,h2,_⟩:=M.bind_some h
  obtain⟨h3, -, -⟩:=M.pK h2
  cases h3
  obtain⟨a1,a2,a3⟩:=uo (rv:= .agg cs) (p:= .agg ps) (u:=u) (r:=r1++[]) (b:=b) (by simp only [sD,M.bind,h1,M.pure,Bool.and_true])
  exact⟨a1,a2,fun S loc S' loc' v hs _ hf hr=>.d (a3 S loc S' v hr hs hf)⟩
 |mo=>
  obtain⟨h1, -, -⟩:=M.pK (b:=b) h
  cases h1
  refine⟨(fun y hy=>by cases hy),(fun y hy=>by cases hy),fun S loc S' loc' v hs hl _ hr=>?_⟩
  cases hr with|mo=>exact .d (.nil none 0)
 |tup cs=>exact fE b h
 |d _=>exact same h
 |undef=>exact same h
 |junk=>exact same h
 |ref _ _=>exact byown h
 |ptr _ _=>exact same h
 |elt _ _ _ _=>exact same h
 |cptr _=>exact same h
 |view _ _ _ _=>exact byown h
 |clo _ _=>exact same h
 |fview _ _ _=>exact same h
 |err _=>exact same h
 |dfull _=>exact same h
 |ifc _ _=>exact same h
def xf(tm:Array Value)(x:ResultVar):Sem Value:=
 match x with
 | .tmp t=>pure (tm.getD t Go.undef)
 | .cell a t=>do loadVar t (<-asAddr (tm.getD a Go.undef))
theorem Av{fn:Func}{vs:List Value}(h:(fn.results.toList.mapM (xf tm)).run P w= .ok vs w):
  (results fn tm).run P w= .ok (if h:vs.toArray.size=1 then vs.toArray[0]else .tuple vs.toArray) w:=by
 have he:results fn tm=(do let vs<-fn.results.mapM (xf tm);pure (if h:vs.size=1 then vs[0]else .tuple vs)):=rfl
 rw [he,Array.mapM_eq_mapM_toList]
 simp only [Sem.run_bind,Sem.run_map,h,Result.andThen_ok,Sem.run_pure]
theorem Ba(h:Sim P X S loc s tm w){x:ResultVar}{rv:RV}{r:List Nat}(hl:resV P s x s.boxes=some (rv,r,true)):
  ∃v,(xf tm x).run P w= .ok v w∧R S loc rv v:=by
 cases x with
 |tmp t=>
  simp only [resV]at hl
  rcases h1:s.pU t with _|v1
  ·simp only [h1]at hl;exact fE s.boxes hl
  simp only [h1]at hl
  obtain⟨h2, -, -⟩:=M.pK (b:=s.boxes) hl
  subst h2
  obtain⟨v,hv,hr⟩:=h.pU t _ h1
  exact⟨v,by simp [xf,hv],hr⟩
 |cell t ty=>
  simp only [resV]at hl
  obtain⟨⟨y,u⟩,r1,r2,h1,h2,_⟩:=M.bind_some hl
  obtain⟨h3, -, -⟩:=M.pK (b:=s.boxes) h2
  subst h3
  rcases h4:s.pU t with _|v1
  ·simp only [h4]at h1;exact fE s.boxes h1
  simp only [h4]at h1
  obtain⟨v,hv,hr⟩:=h.pU t _ h4
  obtain⟨v',h5,h6,_⟩:=ve h h1 hr
  refine⟨v',?_,h6⟩
  have hp:∃ad,v= .pointer (some ad):=by
   cases v with
   |pointer a=>cases a with
    |some ad=>exact⟨ad,rfl⟩
    |none=>simp [Instr.loadAt,Instr.sureAddr]at h5
   |_=>simp [Instr.loadAt,Instr.sureAddr]at h5
  obtain⟨ad,rfl⟩:=hp
  have hg:tm.getD t Go.undef= .pointer (some ad):=by simp [hv]
  simp only [xf,hg,asAddr,Sem.run_bind,Sem.run_pure,Result.andThen_ok]
  simpa [Instr.loadAt,Instr.sureAddr]using h5
theorem yv{own:Nat->Bool}(h:Sim P X S loc s tm w):∀{xs:List ResultVar}{i:Nat}{ys:List RV}{us:Ups}{r:List Nat},resD P own s i xs s.boxes=some ((ys,us),r,true)->
  ∃vs,(xs.mapM (xf tm)).run P w= .ok vs w∧vs.length=ys.length∧
   tn us∧(∀x∈us,∃ver e es,s.boxes x.1=some (.arr ver e es))∧
   ∀S' loc',Sub S S'->qa loc loc'->(∀x∈us,Frz s.boxes S loc S' x.1)->∀(i:Nat)y v,ys[i]? =some y->vs[i]? =some v->R S' loc' y v
 | [],i,ys,us,r,hl=>by
  obtain⟨h1, -, -⟩:=M.pK (b:=s.boxes) hl
  cases h1
  exact⟨[],rfl,rfl,(fun x hx=>by cases hx),(fun x hx=>by cases hx),fun S' loc' _ _ _ i y v hy=>by simp at hy⟩
 |x::xs,i,ys,us,r,hl=>by
  simp only [resD]at hl
  obtain⟨rv,r1,r2,h1,h2,_⟩:=M.bind_some hl
  obtain⟨⟨y,u⟩,r3,r4,h3,h4,_⟩:=M.bind_some h2
  obtain⟨⟨zs,u2⟩,r5,r6,h5,h6,_⟩:=M.bind_some h4
  obtain⟨h7, -, -⟩:=M.pK h6
  cases h7
  obtain⟨v,g1,g2⟩:=Ba h h1
  obtain⟨a1,a2,a3⟩:=BK h3
  obtain⟨vals,b1,b2,b3,b4,b5⟩:=yv h h5
  refine⟨v::vals,?_,by simp [b2],fun z hz=>(List.mem_append.1 hz).elim (a1 z) (b3 z),fun z hz=>(List.mem_append.1 hz).elim (a2 z) (b4 z),fun S' loc' hs hle hf i y' v' hy hv=>?_⟩
  ·rw [List.mapM_cons]
   simp only [Sem.run_bind,g1,Result.andThen_ok,b1,Sem.run_pure]
  ·cases i with
   |zero=>
    simp only [List.getElem?_cons_zero,Option.some.injEq]at hy hv
    subst hy;subst hv
    exact a3 S loc S' loc' v hs hle (fun z hz=>hf z (List.mem_append.2 (.inl hz))) g2
   |succ i=>
    simp only [List.getElem?_cons_succ]at hy hv
    exact b5 S' loc' hs hle (fun z hz=>hf z (List.mem_append.2 (.inr hz))) i y' v' hy hv
theorem one_R{ys:List RV}{vs:List Value}(hl:vs.length=ys.length)(h:∀(i:Nat)y v,ys[i]? =some y->vs[i]? =some v->R S loc y v):
  R S loc (one ys) (if h:vs.toArray.size=1 then vs.toArray[0]else .tuple vs.toArray):=by
 have tup:ys.length≠1->R S loc (.tup ys) (if h:vs.toArray.size=1 then vs.toArray[0]else .tuple vs.toArray):=fun hne=>by
  rw [dif_neg (by simpa [hl]using hne)]
  exact .tup ys vs.toArray (by simpa using hl) fun i c v hc hv=>h i c v hc (by simpa using hv)
 cases ys with
 |nil=>exact tup sm
 |cons y ys=>
  cases ys with
  |nil=>
   obtain⟨v,rfl⟩:=List.length_eq_one_iff.1 (show vs.length=1 from hl)
   exact h 0 y v rfl rfl
  |cons y2 ys=>exact tup sm
theorem wk:∀(u:Ups)(s:St),wQ s.boxes u=(s.ups u).boxes
 | [],_=>rfl
 |(id,b)::r,s=>by
  rw [rr, <-wk r]
  rfl
theorem zp{own:Nat->Bool}{ls:List Loc}{fn:Func}{nb:Nat}{r:RV}{bs':List Box}(hpar:X.par=look ls)(hB0:X.B0=xY ls)(hls:ls.length=nb)(hp0:∀k L0,look ls k=some L0->∀ver e sz hdr,L0.Row ver e sz hdr->ver=0)(h:Sim P X S loc s tm w)(hl:finish P own fn nb s=some (r,bs')):
  ∃v S' ls',(results fn tm).run P w= .ok v w∧xl P X.base.mono X.S0 X.w0 ls nb r bs' v w S' ls':=by
 unfold finish at hl
 split at hl
 rotate_left
 ·cases hl
 rename_i rs u rd hres
 simp only at hl
 split at hl
 rotate_left
 ·cases hl
 rename_i ids bxs rd2 hreach
 split at hl
 rotate_left
 ·cases hl
 rename_i hcond
 obtain⟨hc1,hc2⟩:=hcond
 simp only [Option.some.injEq,Prod.mk.injEq]at hl
 obtain⟨rfl,rfl⟩:=hl
 obtain⟨ids',q1,q2,hr1,hr2,_⟩:=M.bind_some hreach
 obtain⟨bxs',q3,q4,hr3,hr4,_⟩:=M.bind_some hr2
 obtain⟨hr5, -, -⟩:=M.pK hr4
 cases hr5
 rw [wk]at hr3
 obtain⟨g1,g2⟩:=vV hr3
 have hn:=v7 hc2
 obtain⟨vs,b1,b2,b3,b4,b5⟩:=yv h hres
 obtain⟨S1,loc1,hS1,hsub,hle,hfz⟩:=h.uA u b3 (fun x hx=>.inl (b4 x hx))
 have hR:=one_R b2 (b5 S1 loc1 hsub hle hfz)
 obtain⟨ls',k1,k2,k3,k4⟩:=Ar hS1 (f:=ql nb) (b:=wQ s.boxes u) (bs2:=(ids.zip bxs).map fun x=>sj ⟨idxOf ids,qt (wQ s.boxes u) (ql nb)⟩ (ql nb x.1) x.2) hn g1 g2
  (fun id bx hb => by rw [wk] at hb; exact hb) rfl (by simp [g1]) (fun k id bx hk hbx => by
   have hz:(ids.zip bxs)[k]? =some (id,bx):=List.getElem?_zip_eq_some.2 ⟨hk,hbx⟩
   rw [List.getElem?_map,hz]
   rfl)
 have hnb:nb<=ids.length:=by
  have:=congrArg List.length hc1
  rw [List.length_take,List.length_range]at this
  omega
 have hidk:∀k,k<nb->ids[k]? =some k:=fun k hk=>by
  have h1:(ids.take nb)[k]? =some k:=by rw [hc1,List.getElem?_range hk]
  rwa [List.getElem?_take,if_pos hk]at h1
 refine⟨_,S1,ls',Av b1,⟨by rw [k1];simp [g1],by simp [g1];omega,hS1.s0,k4,fun ad v hv=>?_,?_,?_,?_,R.rX k3 hR⟩⟩
 ·rw [<-hB0];exact hS1.vG ad v hv
 ·intro k L0 hk
  have hkn:k<nb:=by rw [qh]at hk;rw [<-hls];exact(List.getElem?_eq_some_iff.1 hk).1
  obtain⟨L,h1,h2⟩:=hS1.par k L0 (by rw [hpar];exact hk)
  obtain⟨L',h3,h4⟩:=k2 k k (hidk k hkn)
  rw [h1]at h3
  cases h3
  refine⟨_,by rw [qh,h4],Bs hkn (hp0 k L0 hk) h2⟩
 ·intro k L b hk hb
  rw [qh]at hk
  have hlt:k<ids.length:=by rw [<-k1];exact(List.getElem?_eq_some_iff.1 hk).1
  obtain⟨L',h3,h4⟩:=k2 k _ (zd hlt)
  rw [hk]at h4
  cases h4
  rw [sw]at hb
  rw [<-hB0]
  exact hS1.own _ L' b h3 hb
 ·rw [<-hB0];exact hS1.frame
end
def ExtOk(P:Program)(base:uT)(ext:FuncId->Option pT):Prop:=∀f g,ext f=some g->∀args bs r bs',g f args bs=some (r,bs')->rG P base f args bs r bs'
theorem xu{P:Program}{base:uT}{H:Hints}{ext:FuncId->Option pT}(hext:ExtOk P base ext)(hm:P.follows .mixedOrders=true):∀n,rQ P base (qw P H ext n):=by
 intro n
 induction n with
 |zero=>intro f args bs r bs' h;simp [qw]at h
 |succ n ih=>
  intro f args bs r bs' h
  unfold qw at h
  rcases he:ext f with _|g
  rotate_left
  ·simp only [he]at h;exact hext f g he args bs r bs' h
  simp only [he]at h
  rcases hfn:P.funcs[f]? with _|fn
  ·simp [hfn]at h
  simp only [hfn]at h
  rcases hbody:fn.body with _|c
  ·simp [hbody]at h
  simp only [hbody]at h
  split at h
  rotate_left
  ·cases h
  rename_i hcond
  simp only [Bool.and_eq_true,bne_iff_ne,ne_eq,decide_eq_true_eq]at hcond
  obtain⟨⟨⟨hdst,hname⟩,hargs⟩,hvers0⟩:=hcond
  have hvers:∀bx∈bs,verB bx=0:=fun bx hbx=>by simpa using List.all_eq_true.1 hvers0 bx hbx
  intro S w ls vs hmem hlen hbase hobj hal harg
  refine .inl ⟨⟨fn,hfn,hname,by rw [hbody];rfl⟩,calls_of_wp hfn hbody ?_⟩
  let X:Ctx:={ w0:=w,B0:=xY ls,S0:=S,par:=look ls,nt:=fn.ntmps,base:=base }
  have hnb:∀k b,X.par k=some b->k<bs.length∧∀ver e sz hdr,b.Row ver e sz hdr->ver=0:=fun k b hk=>by
   have hk':look ls k=some b:=hk
   refine⟨?_,fun ver e sz hdr hb=>?_⟩
   ·rw [<-hlen]
    rw [qh]at hk'
    exact(List.getElem?_eq_some_iff.1 hk').1
   ·obtain⟨bx,hbx⟩:=hmem.dom k _ hk'
    obtain⟨L,h1,h2⟩:=hmem.boxes k bx hbx
    rw [hk']at h1
    cases h1
    have hm:bx∈bs:=by rw [qh]at hbx;exact List.mem_of_getElem? hbx
    have:=hvers bx hm
    cases h2 with
    |arr _ _ es _ _ xs _ _ _=>cases hb;exact this
    |dead _ hd=>subst hd;cases hb
    |var=>cases hb
    |map=>cases hb
  have hsim:Sim P X S (look ls) { pU:=look args,boxes:=look bs } (vs++Array.replicate (fn.ntmps-vs.size) undef) w:=by
   refine⟨?_,?_,hmem.boxes,hmem.dom,hmem.imm,hmem.tJ,hmem.ss,hmem.inj,?_,Frame.refl _ _ w,Sub.refl S,?_,fun ad v h=>.inl h,hbase,hobj⟩
   ·show(vs++Array.replicate (fn.ntmps-vs.size) undef).size=fn.ntmps
    simp;omega
   ·intro t rv ht
    replace ht:look args t=some rv:=ht
    rw [qh]at ht
    have hlt':t<vs.size:=by rw [<-hal];exact(List.getElem?_eq_some_iff.1 ht).1
    exact⟨vs[t],by rw [Array.getElem?_append_left hlt',Array.getElem?_eq_getElem hlt'],harg t rv vs[t] ht (Array.getElem?_eq_getElem hlt')⟩
   ·intro id L b hL hb
    exact .inl (ui.2 ⟨id,L,hL,hb⟩)
   ·intro k L0 hk
    exact⟨L0,hk,.same _⟩
  have hSX:tV P X { pU:=look args,boxes:=look bs } { tmps:=vs++Array.replicate (fn.ntmps-vs.size) undef,defers:=[] } w:=⟨rfl,S,_,hsim⟩
  rcases hcode:pZ P H f bs.length (qw P H ext n) n c { pU:=look args,boxes:=look bs }with _|⟨e,s'⟩
  ·simp [hcode]at h
  rw [hcode]at h
  have hfin:finish P (H.own f) fn bs.length s'=some (r,bs')∧(e= .normal∨e= .ret):=by
   cases e with
   |normal=>exact⟨h,.inl rfl⟩
   |ret=>exact⟨h,.inr rfl⟩
   |exit id=>cases h
  refine qn ih hm hnb c hdst hcode hSX fun a' w' hS'=>?_
  obtain⟨hdf,S',loc',hS'⟩:=hS'
  obtain⟨v,S2,ls',k1,k2⟩:=zp (ls:=ls) rfl rfl hlen (fun k L0 hk=>(hnb k L0 hk).2) hS' hfin.1
  have hgoal:a'.defers=[]∧∃v,(results fn a'.tmps).run P w'= .ok v w'∧∃v_1,Ending.returned v= .returned v_1∧∃S' ls',xl P base.mono S w ls bs.length r bs' v_1 w' S' ls':=⟨hdf,v,k1,v,rfl,S2,ls',k2⟩
  rcases hfin.2 with rfl|rfl
  ·exact hgoal
  ·exact hgoal
theorem zh.calls{P:Program}{f:FuncId}{vs:Array Value}{w:World}{R:Value->World->Prop}(h:zh P f vs w R)(he:Enters P f):Calls P f vs w fun e w'=>∃v,e= .returned v∧R v w':=by
 rcases h with⟨_,h⟩|⟨v,w',hr,_⟩
 ·exact h
 ·obtain⟨fn,hfn,hname,hbody⟩:=he
  have hrun':(callFunc f vs).run P w= .ok (.enter f vs) w:=by
   have : (fn.name == "runtime.NumGoroutine") = false := by simpa using hname
   simp only [callFunc,Sem.run_bind,run_program,Result.andThen_ok,hfn,this,hbody,Bool.false_eq_true,if_false,Sem.run_pure]
  rw [hrun']at hr
  cases hr
end Go.Dw
