
import Derived.Test.YtfmoipelhfkdkaaGreatDoorDwGhost
open Go.Sem renaming run_bind->Dy, run_pure->EA
open Go.Result renaming andThen_ok->D9
open Array renaming getElem?_eq_getElem->Ds, replicate->FE

namespace Go.Dw
section
variable {P:Program}{X:Ctx}{S:rC}{loc:sf}{s:St}{tm:Array Value}{w:World}
theorem Dh{own:Bool}{c x:RV}{b:rY}{u:Ups}{r:List Nat}(h:outV own c b=some ((x,u),r,true)):
  uV u∧(∀y∈u,∃ver e es,b y.1=some (.arr ver e es))∧
  ∀S loc S' loc' v,Sub S S'->rF loc loc'->(∀y∈u,Frz b S loc S' y.1)->R S loc c v->R S' loc' x v:=by
 have same:∀{r:List Nat},M.pure (c,([]:Ups)) b=some ((x,u),r,true)->uV u∧(∀y∈u,∃ver e es,b y.1=some (.arr ver e es))∧
   ∀S loc S' loc' v,Sub S S'->rF loc loc'->(∀y∈u,Frz b S loc S' y.1)->R S loc c v->R S' loc' x v:=by
  intro r h
  obtain⟨h1, -, -⟩:=M.qw h
  cases h1
  exact⟨(fun y j=>by cases j),(fun y j=>by cases j),fun S loc S' loc' v hs hl _ g=>g.mono hs hl⟩
 have f:(if own then M.pure (c,([]:Ups))else M.bind (uB c) fun(p,u)=>M.pure ((RV.d p,u):RV×Ups)) b=some ((x,u),r,true)->uV u∧(∀y∈u,∃ver e es,b y.1=some (.arr ver e es))∧
   ∀S loc S' loc' v,Sub S S'->rF loc loc'->(∀y∈u,Frz b S loc S' y.1)->R S loc c v->R S' loc' x v:=by
  intro h
  cases own with
  |true=>exact same h
  |false=>
   simp only [Bool.false_eq_true,if_false]at h
   obtain⟨⟨p,u1⟩,C,D,h1,k,_⟩:=M.bind_some h
   obtain⟨q, -, -⟩:=M.qw k
   cases q
   obtain⟨a1,a2,a3⟩:=v8 h1
   exact⟨a1,a2,fun S loc S' loc' v hs _ hf g=>.d (a3 S loc S' v g hs hf)⟩
 cases c with
 |agg cs=>
  by_cases how:own=true
  ·subst how;exact same h
  have B:own=false:=by cases own<;>simp_all
  subst B
  replace h:(M.bind (vI cs) fun(ps,u)=>M.pure (RV.d (.agg ps),u)) b=some ((x,u),r,true):=h
  obtain⟨⟨ps,u1⟩,C,D,h1,k,_⟩:=M.bind_some h
  obtain⟨q, -, -⟩:=M.qw k
  cases q
  obtain⟨a1,a2,a3⟩:=v8 (rv:= .agg cs) (p:= .agg ps) (u:=u) (r:=C++[]) (b:=b) (by simp only [uB,M.bind,h1,M.pure,Bool.and_true])
  exact⟨a1,a2,fun S loc S' loc' v hs _ hf g=>.d (a3 S loc S' v g hs hf)⟩
 |pY=>
  obtain⟨h1, -, -⟩:=M.qw (b:=b) h
  cases h1
  refine⟨(fun y j=>by cases j),(fun y j=>by cases j),fun S loc S' loc' v hs hl _ g=>?_⟩
  cases g with|pY=>exact .d (.nil none 0)
 |tup cs=>exact fE b h
 |d _=>exact same h
 |undef=>exact same h
 |junk=>exact same h
 |ref _ _=>exact f h
 |ptr _ _=>exact same h
 |elt _ _ _ _=>exact same h
 |cptr _=>exact same h
 |view _ _ _ _=>exact f h
 |clo _ _=>exact same h
 |fview _ _ _=>exact same h
 |err _=>exact same h
 |dfull _=>exact same h
 |ifc _ _=>exact same h
 |plit _=>exact same h
 |pcp _=>exact same h
def yM(tm:Array Value)(x:ResultVar):Sem Value:=
 match x with
 | .tmp t=>pure (tm.getD t Go.undef)
 | .cell a t=>do loadVar t (<-asAddr (tm.getD a Go.undef))
theorem B3{fn:Func}{vs:List Value}(h:(fn.results.toList.mapM (yM tm)).run P w= .ok vs w):
  (results fn tm).run P w= .ok (if h:vs.toArray.size=1 then vs.toArray[0]else .tuple vs.toArray) w:=by
 have he:results fn tm=(do let vs<-fn.results.mapM (yM tm);pure (if h:vs.size=1 then vs[0]else .tuple vs)):=rfl
 rw [he,Array.mapM_eq_mapM_toList]
 simp only [Dy,Sem.run_map,h,D9,EA]
theorem CF(h:Sim P X S loc s tm w){x:ResultVar}{rv:RV}{r:List Nat}(hl:resV P s x s.boxes=some (rv,r,true)):
  ∃v,(yM tm x).run P w= .ok v w∧R S loc rv v:=by
 cases x with
 |tmp t=>
  simp only [resV]at hl
  rcases h1:s.rJ t with _|v1
  ·simp only [h1]at hl;exact fE s.boxes hl
  simp only [h1]at hl
  obtain⟨f, -, -⟩:=M.qw (b:=s.boxes) hl
  subst f
  obtain⟨v,q,k⟩:=h.rJ t _ h1
  exact⟨v,by simp [yM,q],k⟩
 |cell t ty=>
  simp only [resV]at hl
  obtain⟨⟨y,u⟩,E,F,h1,f,_⟩:=M.bind_some hl
  obtain⟨B, -, -⟩:=M.qw (b:=s.boxes) f
  subst B
  rcases g:s.rJ t with _|v1
  ·simp only [g]at h1;exact fE s.boxes h1
  simp only [g]at h1
  obtain⟨v,q,k⟩:=h.rJ t _ g
  obtain⟨v',j,C,_⟩:=w7 h h1 k
  refine⟨v',?_,C⟩
  have hp:∃ad,v= .pointer (some ad):=by
   cases v with
   |pointer a=>cases a with
    |some ad=>exact⟨ad,rfl⟩
    |none=>simp [Instr.loadAt,Instr.sureAddr]at j
   |_=>simp [Instr.loadAt,Instr.sureAddr]at j
  obtain⟨ad,rfl⟩:=hp
  have D:tm.getD t Go.undef= .pointer (some ad):=by simp [q]
  simp only [yM,D,asAddr,Dy,EA,D9]
  simpa [Instr.loadAt,Instr.sureAddr]using j
theorem Aw{own:Nat->Bool}(h:Sim P X S loc s tm w):∀{xs:List ResultVar}{i:Nat}{k:List RV}{us:Ups}{r:List Nat},resD P own s i xs s.boxes=some ((k,us),r,true)->
  ∃vs,(xs.mapM (yM tm)).run P w= .ok vs w∧vs.length=k.length∧
   uV us∧(∀x∈us,∃ver e es,s.boxes x.1=some (.arr ver e es))∧
   ∀S' loc',Sub S S'->rF loc loc'->(∀x∈us,Frz s.boxes S loc S' x.1)->∀(i:Nat)y v,k[i]? =some y->vs[i]? =some v->R S' loc' y v
 | [],i,k,us,r,hl=>by
  obtain⟨h1, -, -⟩:=M.qw (b:=s.boxes) hl
  cases h1
  exact⟨[],rfl,rfl,(fun x B=>by cases B),(fun x B=>by cases B),fun S' loc' _ _ _ i y v g=>by simp at g⟩
 |x::xs,i,k,us,r,hl=>by
  simp only [resD]at hl
  obtain⟨rv,Q,T,h1,H,_⟩:=M.bind_some hl
  obtain⟨⟨y,u⟩,U,W,I,J,_⟩:=M.bind_some H
  obtain⟨⟨zs,u2⟩,Y,r6,K,L,_⟩:=M.bind_some J
  obtain⟨N, -, -⟩:=M.qw L
  cases N
  obtain⟨v,g1,g2⟩:=CF h h1
  obtain⟨a1,a2,a3⟩:=Dh I
  obtain⟨j,C,D,E,F,G⟩:=Aw h K
  refine⟨v::j,?_,by simp [D],fun z f=>(List.mem_append.1 f).elim (a1 z) (E z),fun z f=>(List.mem_append.1 f).elim (a2 z) (F z),fun S' loc' hs hle hf i O v' g q=>?_⟩
  ·rw [List.mapM_cons]
   simp only [Dy,g1,D9,C,EA]
  ·cases i with
   |zero=>
    simp only [List.getElem?_cons_zero,Option.some.injEq]at g q
    subst g;subst q
    exact a3 S loc S' loc' v hs hle (fun z f=>hf z (List.mem_append.2 (.inl f))) g2
   |succ i=>
    simp only [List.getElem?_cons_succ]at g q
    exact G S' loc' hs hle (fun z f=>hf z (List.mem_append.2 (.inr f))) i O v' g q
theorem one_R{f:List RV}{vs:List Value}(hl:vs.length=f.length)(h:∀(i:Nat)y v,f[i]? =some y->vs[i]? =some v->R S loc y v):
  R S loc (one f) (if h:vs.toArray.size=1 then vs.toArray[0]else .tuple vs.toArray):=by
 have tup:f.length≠1->R S loc (.tup f) (if h:vs.toArray.size=1 then vs.toArray[0]else .tuple vs.toArray):=fun g=>by
  rw [dif_neg (by simpa [hl]using g)]
  exact .tup f vs.toArray (by simpa using hl) fun i c v hc j=>h i c v hc (by simpa using j)
 cases f with
 |nil=>exact tup zc
 |cons y f=>
  cases f with
  |nil=>
   obtain⟨v,rfl⟩:=List.length_eq_one_iff.1 (show vs.length=1 from hl)
   exact h 0 y v rfl rfl
  |cons k f=>exact tup zc
theorem xZ:∀(u:Ups)(s:St),yr s.boxes u=(s.ups u).boxes
 | [],_=>rfl
 |(id,b)::r,s=>by
  rw [tL, <-xZ r]
  rfl
theorem Ba{own:Nat->Bool}{ls:List Loc}{fn:Func}{j:Nat}{r:RV}{F:List Box}(N:X.par=look ls)(B:X.B0=zL ls)(b0:ls.length=j)(c0:∀k E,look ls k=some E->∀ver e sz hdr,E.Row ver e sz hdr->ver=0)(h:Sim P X S loc s tm w)(hl:finish P own fn j s=some (r,F)):
  ∃v S' D,(results fn tm).run P w= .ok v w∧zA P X.base.mono X.S0 X.w0 ls j r F v w S' D:=by
 unfold finish at hl
 split at hl
 rotate_left
 ·cases hl
 rename_i rs u rd Q
 simp only at hl
 split at hl
 rotate_left
 ·cases hl
 rename_i ids G c8 q
 split at hl
 rotate_left
 ·cases hl
 rename_i C
 obtain⟨I,a6⟩:=C
 simp only [Option.some.injEq,Prod.mk.injEq]at hl
 obtain⟨rfl,rfl⟩:=hl
 obtain⟨c5,q1,q2,c7,c1,_⟩:=M.bind_some q
 obtain⟨c4,q3,q4,O,c2,_⟩:=M.bind_some c1
 obtain⟨c3, -, -⟩:=M.qw c2
 cases c3
 rw [xZ]at O
 obtain⟨g1,g2⟩:=xK O
 have hn:=xQ a6
 obtain⟨vs,b1,b2,b3,b4,b5⟩:=Aw h Q
 obtain⟨S1,U,g,T,hle,a9⟩:=h.wo u b3 (fun x hx=>.inl (b4 x hx))
 have hR:=one_R b2 (b5 S1 U T hle a9)
 obtain⟨D,k1,k2,k3,k4⟩:=BX g (f:=sg j) (b:=yr s.boxes u) (bs2:=(ids.zip G).map fun x=>ui ⟨idxOf ids,sD (yr s.boxes u) (sg j)⟩ (sg j x.1) x.2) hn g1 g2
  (fun id bx H => by rw [xZ] at H; exact H) rfl (by simp [g1]) (fun k id bx hk a5 => by
   have hz:(ids.zip G)[k]? =some (id,bx):=List.getElem?_zip_eq_some.2 ⟨hk,a5⟩
   rw [List.getElem?_map,hz]
   rfl)
 have c6:j<=ids.length:=by
  have:=congrArg List.length I
  rw [List.length_take,List.length_range]at this
  omega
 have J:∀k,k<j->ids[k]? =some k:=fun k hk=>by
  have h1:(ids.take j)[k]? =some k:=by rw [I,List.getElem?_range hk]
  rwa [List.getElem?_take,if_pos hk]at h1
 refine⟨_,S1,D,B3 b1,⟨by rw [k1];simp [g1],by simp [g1];omega,g.s0,k4,fun ad v hv=>?_,?_,?_,?_,R.tl k3 hR⟩⟩
 ·rw [<-B];exact g.xz ad v hv
 ·intro k E hk
  have K:k<j:=by rw [sk]at hk;rw [<-b0];exact(List.getElem?_eq_some_iff.1 hk).1
  obtain⟨L,h1,h2⟩:=g.par k E (by rw [N];exact hk)
  obtain⟨L',W,Y⟩:=k2 k k (J k K)
  rw [h1]at W
  cases W
  refine⟨_,by rw [sk,Y],C1 K (c0 k E hk) h2⟩
 ·intro k L b hk H
  rw [sk]at hk
  have b6:k<ids.length:=by rw [<-k1];exact(List.getElem?_eq_some_iff.1 hk).1
  obtain⟨L',W,Y⟩:=k2 k _ (zf b6)
  rw [hk]at Y
  cases Y
  rw [uI]at H
  rw [<-B]
  exact g.own _ L' b W H
 ·rw [<-B];exact g.frame
end
def ExtOk(P:Program)(base:xF)(ext:FuncId->Option rA):Prop:=∀f g,ext f=some g->∀args bs r j,g f args bs=some (r,j)->uj P base f args bs r j
theorem w4{P:Program}{base:xF}{H:Hints}{ext:FuncId->Option rA}(a9:ExtOk P base ext)(hm:P.follows .mixedOrders=true):∀n,ue P base (sj P H ext n):=by
 intro n
 induction n with
 |zero=>intro f args bs r F h;simp [sj]at h
 |succ n ih=>
  intro f args bs r F h
  unfold sj at h
  rcases he:ext f with _|g
  rotate_left
  ·simp only [he]at h;exact a9 f g he args bs r F h
  simp only [he]at h
  rcases G:P.funcs[f]? with _|fn
  ·simp [G]at h
  simp only [G]at h
  rcases q:fn.body with _|c
  ·simp [q]at h
  simp only [q]at h
  split at h
  rotate_left
  ·cases h
  rename_i C
  simp only [Bool.and_eq_true,bne_iff_ne,ne_eq,decide_eq_true_eq]at C
  obtain⟨⟨⟨a6,U⟩,b5⟩,J⟩:=C
  have W:∀O∈bs,verB O=0:=fun O B=>by simpa using List.all_eq_true.1 J O B
  intro S w ls vs j hlen T b1 b4 a5
  refine .inl ⟨⟨fn,G,U,by rw [q];rfl⟩,calls_of_wp G q ?_⟩
  let X:Ctx:={ w0:=w,B0:=zL ls,S0:=S,par:=look ls,nt:=fn.ntmps,base:=base }
  have b0:∀k b,X.par k=some b->k<bs.length∧∀ver e sz hdr,b.Row ver e sz hdr->ver=0:=fun k b hk=>by
   have I:look ls k=some b:=hk
   refine⟨?_,fun ver e sz hdr K=>?_⟩
   ·rw [<-hlen]
    rw [sk]at I
    exact(List.getElem?_eq_some_iff.1 I).1
   ·obtain⟨O,B⟩:=j.dom k _ I
    obtain⟨L,h1,h2⟩:=j.boxes k O B
    rw [I]at h1
    cases h1
    have hm:O∈bs:=by rw [sk]at B;exact List.mem_of_getElem? B
    have:=W O hm
    cases h2 with
    |arr _ _ es _ _ xs _ _ _=>cases K;exact this
    |nest=>cases K;exact this
    |dead _ hd=>subst hd;cases K
    |var=>cases K
    |map=>cases K
    |hole=>cases K;exact this
  have b2:Sim P X S (look ls) { rJ:=look args,boxes:=look bs } (vs++FE (fn.ntmps-vs.size) undef) w:=by
   refine⟨?_,?_,j.boxes,j.dom,j.imm,j.vA,j.uC,j.inj,?_,Frame.refl _ _ w,Sub.refl S,?_,fun ad v h=>.inl h,T,b1⟩
   ·show(vs++FE (fn.ntmps-vs.size) undef).size=fn.ntmps
    simp;omega
   ·intro t rv ht
    replace ht:look args t=some rv:=ht
    rw [sk]at ht
    have E:t<vs.size:=by rw [<-b4];exact(List.getElem?_eq_some_iff.1 ht).1
    exact⟨vs[t],by rw [Array.getElem?_append_left E,Ds E],a5 t rv vs[t] ht (Ds E)⟩
   ·intro id L b hL K
    exact .inl (vV.2 ⟨id,L,hL,K⟩)
   ·intro k L0 hk
    exact⟨L0,hk,.same _⟩
  have b3:vK P X { rJ:=look args,boxes:=look bs } { tmps:=vs++FE (fn.ntmps-vs.size) undef,defers:=[] } w:=⟨rfl,S,_,b2⟩
  rcases u:rO P H f bs.length (sj P H ext n) n c { rJ:=look args,boxes:=look bs }with _|⟨e,s'⟩
  ·simp [u]at h
  rw [u]at h
  have N:finish P (H.own f) fn bs.length s'=some (r,F)∧(e= .normal∨e= .ret):=by
   cases e with
   |normal=>exact⟨h,.inl rfl⟩
   |ret=>exact⟨h,.inr rfl⟩
   |exit id=>cases h
  refine sr ih hm b0 c a6 u b3 fun a' w' Q=>?_
  obtain⟨b6,S',loc',Q⟩:=Q
  obtain⟨v,S2,Y,k1,k2⟩:=Ba (ls:=ls) rfl rfl hlen (fun k L0 hk=>(b0 k L0 hk).2) Q N.1
  have D:a'.defers=[]∧∃v,(results fn a'.tmps).run P w'= .ok v w'∧∃v_1,Ending.returned v= .returned v_1∧∃S' Y,zA P base.mono S w ls bs.length r F v_1 w' S' Y:=⟨b6,v,k1,v,rfl,S2,Y,k2⟩
  rcases N.2 with rfl|rfl
  ·exact D
  ·exact D
theorem A1.calls{P:Program}{f:FuncId}{vs:Array Value}{w:World}{R:Value->World->Prop}(h:A1 P f vs w R)(he:Enters P f):Calls P f vs w fun e w'=>∃v,e= .returned v∧R v w':=by
 rcases h with⟨_,h⟩|⟨v,w',r,_⟩
 ·exact h
 ·obtain⟨fn,q,j,g⟩:=he
  have k:(callFunc f vs).run P w= .ok (.enter f vs) w:=by
   have : (fn.name == "runtime.NumGoroutine") = false := by simpa using j
   simp only [callFunc,Dy,run_program,D9,q,this,g,Bool.false_eq_true,if_false,EA]
  rw [k]at r
  cases r
end Go.Dw
