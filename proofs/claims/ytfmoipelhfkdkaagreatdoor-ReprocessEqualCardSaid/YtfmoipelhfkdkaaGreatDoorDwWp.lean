
import Derived.Test.YtfmoipelhfkdkaaGreatDoorDwFun
import Derived.IntWalk

namespace Go.Dw
abbrev A(R:List (Nat×RV))(B:List (Nat×Box)):St:=⟨assoc R,assoc B⟩
def Ev(P:Program)(H:Hints)(ext:FuncId->Option rO)(f:FuncId)(args:List RV)(bs:List Box)(r:RV)(g:List Box):Prop:=
 ∃N,∀n,N<=n->sI P H ext n f args bs=some (r,g)
def WO(P:Program)(H:Hints)(ext:FuncId->Option rO)(mt:Hf)(ops:Array Oper)(l:List Oper)(R:List (Nat×RV))(B:List (Nat×Box))(K:List (Nat×RV)->List (Nat×Box)->List Tr->Prop):Prop:=
 ∃j g ts,(∃N,∀n,N<=n->tQ P mt (sI P H ext n) ops l (A R B)=some (A j g,ts))∧K j g ts
def WC(P:Program)(H:Hints)(ext:FuncId->Option rO)(f:FuncId)(nb:Nat)(c:Code)(R:List (Nat×RV))(B:List (Nat×Box))(Q:Ex->List (Nat×RV)->List (Nat×Box)->Prop):Prop:=
 ∃e j g,(∃N,∀n,N<=n->sa P H f nb (sI P H ext n) n c (A R B)=some (e,A j g))∧Q e j g
def putR(d:Option Nat)(v:RV)(R:List (Nat×RV)):List (Nat×RV):=match d with|some d=>(d,v)::R|none=>R
def xN:Ups->List (Nat×Box)->List (Nat×Box)
 | [],B=>B
 |x::u,B=>xN u (x::B)
theorem put_A(d:Option Nat)(v:RV)(R:List (Nat×RV))(B:List (Nat×Box)):(A R B).put d v=A (putR d v R) B:=by cases d<;>rfl
theorem ups_A:∀(u:Ups)(R:List (Nat×RV))(B:List (Nat×Box)),(A R B).ups u=A R (xN u B)
 | [],_,_=>rfl
 |(id,b)::u,R,B=>ups_A u R ((id,b)::B)
section
variable {P:Program}{H:Hints}{ext:FuncId->Option rO}{mt:Hf}{ops:Array Oper}{l:List Oper}{R:List (Nat×RV)}{B:List (Nat×Box)}{K:List (Nat×RV)->List (Nat×Box)->List Tr->Prop}{o:Oper}{d:Nat}
theorem WO.nil(h:K R B []):WO P H ext mt ops [] R B K:=⟨R,B,[],⟨0,fun _ _=>rfl⟩,h⟩
theorem WO.step'{v:RV}{u:Ups}{rd:List Nat}(hw:og ops (A R B) o=some true)(C:o.dst=some d)(he:∃N,∀n,N<=n->rN P mt (sI P H ext n) (A R B) o (assoc B)=some ((v,u),rd,true))
  (h:WO P H ext mt ops l ((d,v)::R) (xN u B) fun j g ts=>K j g (⟨rd,u.map (·.1)⟩::ts)):WO P H ext mt ops (o::l) R B K:=by
 obtain⟨j,g,ts,⟨N,r⟩,q⟩:=h
 obtain⟨k,he⟩:=he
 refine⟨j,g,_,⟨N+k,fun n D=>?_⟩,q⟩
 have hs:step1 P mt (sI P H ext n) ops o (A R B)=some (A ((d,v)::R) (xN u B),⟨rd,u.map (·.1)⟩):=by
  rw [yG hw (he n za),ups_A,put_A,C];rfl
 simp only [tQ,hs,r n za]
theorem WO.step{v:RV}{u:Ups}{rd:List Nat}{c:Bool}(hw:og ops (A R B) o=some true)(k:o.dst=some d)(he:∀n,rN P mt (sI P H ext n) (A R B) o (assoc B)=some ((v,u),rd,c))(hc:c=true)
  (h:WO P H ext mt ops l ((d,v)::R) (xN u B) fun j g ts=>K j g (⟨rd,u.map (·.1)⟩::ts)):WO P H ext mt ops (o::l) R B K:=by
 subst hc
 exact WO.step' hw k ⟨0,fun n _=>he n⟩ h
theorem WO.skip(hw:og ops (A R B) o=some false)(r:o.dst=some d)(h:WO P H ext mt ops l ((d,.undef)::R) B fun j g ts=>K j g (⟨[],[]⟩::ts)):WO P H ext mt ops (o::l) R B K:=by
 obtain⟨j,g,ts,⟨N,q⟩,k⟩:=h
 refine⟨j,g,_,⟨N,fun n u=>?_⟩,k⟩
 have hs:step1 P mt (sI P H ext n) ops o (A R B)=some (A ((d,.undef)::R) B,⟨[],[]⟩):=by
  rw [yl hw,put_A,r];rfl
 simp only [tQ,hs,q n u]
theorem WO.zH{v:RV}{u:Ups}{rd:List Nat}{c:Bool}(hw:og ops (A R B) o=some true)(r:o.dst=none)(he:∀n,rN P mt (sI P H ext n) (A R B) o (assoc B)=some ((v,u),rd,c))(hc:c=true)
  (h:WO P H ext mt ops l R (xN u B) fun j g ts=>K j g (⟨rd,u.map (·.1)⟩::ts)):WO P H ext mt ops (o::l) R B K:=by
 subst hc
 obtain⟨j,g,ts,⟨N,q⟩,k⟩:=h
 refine⟨j,g,_,⟨N,fun n C=>?_⟩,k⟩
 have hs:step1 P mt (sI P H ext n) ops o (A R B)=some (A R (xN u B),⟨rd,u.map (·.1)⟩):=by
  rw [yG hw (he n),ups_A,put_A,r];rfl
 simp only [tQ,hs,q n C]
theorem WO.BS{g:FuncId}{args as:List RV}{ids I J rg D:List Nat}{G:Ups}{k C j:List Box}{r v:RV}{u:Ups}{q:List RV}
  (hw:og ops (A R B) o=some true) (hd:o.dst=some d)
  (he:∀call,rN P mt call (A R B) o (assoc B)=uc mt.by_ call g (d*16) args (assoc B))
  (T:wi (mt.by_ g) 0 args (assoc B)=some ((as,G),I,true)) (X:uJ 64 [] (as.flatMap Ay) (assoc B)=some (ids,J,true)) (W:wY ids (assoc B)=some (k,rg,true))
  (has:as.map (tD (uZ ids k))=q) (E:k.map (uB (uZ ids k) fun _=>0)=C)
  (U:Ev P H ext g q C r j)
  (hc:(decide (ids.length<=j.length)&&(nodup ids&&Ak ids (G.map (·.1))))=true)
  (hV:tX (tT (d*16) (j.length-ids.length)) (assoc B)=some ((),D,true))
  (hr:tD (xw (ids++tT (d*16) (j.length-ids.length)) k j) r=v)
  (hu:Ae G ids j r (xu (ids++tT (d*16) (j.length-ids.length)) k j)=u)
  (h:WO P H ext mt ops l ((d,v)::R) (xN u B) fun O L ts=>K O L (⟨I++(J++(rg++(D++[]))),u.map (·.1)⟩::ts)):WO P H ext mt ops (o::l) R B K:=by
 obtain⟨N,Y⟩:=U
 simp only [Bool.and_eq_true,decide_eq_true_eq]at hc
 refine WO.step' hw hd ⟨N,fun n F=>?_⟩ h
 rw [he]
 subst has E hr hu
 simp only [uc,M.bind,T,X,W,Y n F,hc,and_self,if_true,hV,M.pure,Bool.and_true]
theorem WO.yq{e:TypeId}{c vl:RV}{ul:Ups}{L:List Nat}{g:FuncId}{args as:List RV}{ids I J rg D:List Nat}{G:Ups}{k C j:List Box}{r v:RV}{u:Ups}{q:List RV}
  (hw:og ops (A R B) o=some true) (hd:o.dst=some d)
  (he:∀call,rN P mt call (A R B) o (assoc B)=M.bind (uw P e c) (fun x=>uc mt.by_ call g (d*16) (x.1::args)) (assoc B))
  (hl:uw P e c (assoc B)=some ((vl,ul),L,true))
  (U:wi (mt.by_ g) 0 (vl::args) (assoc B)=some ((as,G),I,true)) (Y:uJ 64 [] (as.flatMap Ay) (assoc B)=some (ids,J,true)) (X:wY ids (assoc B)=some (k,rg,true))
  (has:as.map (tD (uZ ids k))=q) (E:k.map (uB (uZ ids k) fun _=>0)=C)
  (W:Ev P H ext g q C r j)
  (hc:(decide (ids.length<=j.length)&&(nodup ids&&Ak ids (G.map (·.1))))=true)
  (hV:tX (tT (d*16) (j.length-ids.length)) (assoc B)=some ((),D,true))
  (hr:tD (xw (ids++tT (d*16) (j.length-ids.length)) k j) r=v)
  (hu:Ae G ids j r (xu (ids++tT (d*16) (j.length-ids.length)) k j)=u)
  (h:WO P H ext mt ops l ((d,v)::R) (xN u B) fun T O ts=>K T O (⟨L++(I++(J++(rg++(D++[])))),u.map (·.1)⟩::ts)):WO P H ext mt ops (o::l) R B K:=by
 obtain⟨N,hN⟩:=W
 simp only [Bool.and_eq_true,decide_eq_true_eq]at hc
 refine WO.step' hw hd ⟨N,fun n F=>?_⟩ h
 rw [he]
 subst has E hr hu
 simp only [uc,M.bind,hl,U,Y,X,hN n F,hc,and_self,if_true,hV,M.pure,Bool.and_true]
end
section
variable {P:Program}{H:Hints}{ext:FuncId->Option rO}{f:FuncId}{nb:Nat}{R:List (Nat×RV)}{B:List (Nat×Box)}{Q:Ex->List (Nat×RV)->List (Nat×Box)->Prop}
theorem WC.skip(h:Q .normal R B):WC P H ext f nb .skip R B Q:=⟨_,R,B,⟨0,fun _ _=>rfl⟩,h⟩
theorem WC.ret(h:Q .ret R B):WC P H ext f nb .ret R B Q:=⟨_,R,B,⟨0,fun _ _=>rfl⟩,h⟩
theorem WC.exit{id:Nat}(h:Q (.exit id) R B):WC P H ext f nb (.exit id) R B Q:=⟨_,R,B,⟨0,fun _ _=>rfl⟩,h⟩
theorem WC.Bd{id:Nat}{ops:Array Oper}{k:Bool}{R0:List (Nat×RV)}{B0:List (Nat×Box)}(u:rJ P nb (A R B) (H.at_ f nb id)=some (A R0 B0))
  (h:WO P H ext (H.hf f) ops ops.toList R0 B0 fun j g ts=>(k=true->u9 ops ts=true)∧Q .normal j g):WC P H ext f nb (.region id ops k) R B Q:=by
 obtain⟨j,g,ts,⟨N,q⟩,ho,r⟩:=h
 refine⟨_,j,g,⟨N,fun n C=>?_⟩,r⟩
 simp only [sa,yz,u,q n C]
 cases k with
 |false=>simp
 |true=>simp [ho rfl]
theorem WC.region{id:Nat}{ops:Array Oper}{l:List Oper}{R0:List (Nat×RV)}{B0:List (Nat×Box)}(r:rJ P nb (A R B) (H.at_ f nb id)=some (A R0 B0))(hl:ops.toList=l)
  (h:WO P H ext (H.hf f) ops l R0 B0 fun j g _=>Q .normal j g):WC P H ext f nb (.region id ops false) R B Q:=by
 subst hl
 obtain⟨j,g,ts,k,q⟩:=h
 exact WC.Bd r ⟨j,g,ts,k,⟨(fun h=>by cases h),q⟩⟩
theorem WC.tn{id:Nat}{ops:Array Oper}{l:List Oper}{R0:List (Nat×RV)}{B0:List (Nat×Box)}(r:rJ P nb (A R B) (H.at_ f nb id)=some (A R0 B0))(hl:ops.toList=l)
  (h:WO P H ext (H.hf f) ops l R0 B0 fun j g ts=>u9 ops ts=true∧Q .normal j g):WC P H ext f nb (.region id ops true) R B Q:=by
 subst hl
 obtain⟨j,g,ts,k,h1,q⟩:=h
 exact WC.Bd r ⟨j,g,ts,k,⟨(fun _=>h1),q⟩⟩
theorem WC.seq{a b:Code}(h:WC P H ext f nb a R B fun e j g=>match e with| .normal=>WC P H ext f nb b j g Q|e=>Q e j g):WC P H ext f nb (.seq a b) R B Q:=by
 obtain⟨e,j,g,⟨N,u⟩,h⟩:=h
 cases e with
 |normal=>
  obtain⟨e,r,q,⟨D,C⟩,h⟩:=h
  exact⟨e,r,q,⟨N+D,fun n k=>by simp only [sa,u n za,C n za]⟩,h⟩
 |exit id=>exact⟨_,j,g,⟨N,fun n k=>by simp only [sa,u n k]⟩,h⟩
 |ret=>exact⟨_,j,g,⟨N,fun n k=>by simp only [sa,u n k]⟩,h⟩
theorem WC.tu{id:Nat}{ops:Array Oper}{l:List Oper}{R0:List (Nat×RV)}{B0:List (Nat×Box)}{b:Code}(k:rJ P nb (A R B) (H.at_ f nb id)=some (A R0 B0))(hl:ops.toList=l)
  (h:WO P H ext (H.hf f) ops l R0 B0 fun j g _=>WC P H ext f nb b j g Q):WC P H ext f nb (.seq (.region id ops false) b) R B Q:=WC.seq (WC.region k hl h)
theorem WC.pe{id:Nat}{ops:Array Oper}{l:List Oper}{R0:List (Nat×RV)}{B0:List (Nat×Box)}{b:Code}(k:rJ P nb (A R B) (H.at_ f nb id)=some (A R0 B0))(hl:ops.toList=l)
  (h:WO P H ext (H.hf f) ops l R0 B0 fun j g ts=>u9 ops ts=true∧WC P H ext f nb b j g Q):WC P H ext f nb (.seq (.region id ops true) b) R B Q:=WC.seq (WC.tn k hl h)
theorem WC.cond{c:Operand}{a b:Code}{t:Bool}(hc:(A R B).opd c=some (.d (.bool t)))(h1:t=true->WC P H ext f nb a R B Q)(r:t=false->WC P H ext f nb b R B Q):WC P H ext f nb (.cond c a b) R B Q:=by
 cases t with
 |true=>
  obtain⟨e,j,g,⟨N,k⟩,h⟩:=h1 rfl
  exact⟨e,j,g,⟨N,fun n q=>by simp only [sa,hc,if_true,k n q]⟩,h⟩
 |false=>
  obtain⟨e,j,g,⟨N,k⟩,h⟩:=r rfl
  exact⟨e,j,g,⟨N,fun n q=>by simp only [sa,hc,Bool.false_eq_true,if_false,k n q]⟩,h⟩
theorem WC.condT{c:Operand}{a b:Code}(hc:(A R B).opd c=some (.d (.bool true)))(h1:WC P H ext f nb a R B Q):WC P H ext f nb (.cond c a b) R B Q:=WC.cond hc (fun _=>h1) (fun h=>by cases h)
theorem WC.condF{c:Operand}{a b:Code}(hc:(A R B).opd c=some (.d (.bool false)))(h1:WC P H ext f nb b R B Q):WC P H ext f nb (.cond c a b) R B Q:=WC.cond hc (fun h=>by cases h) (fun _=>h1)
theorem WC.scope{b:Code}(h:WC P H ext f nb b R B Q):WC P H ext f nb (.scope b) R B Q:=h
theorem WC.label{l:Nat}(h:Q .normal R B):WC P H ext f nb (.label l) R B Q:=⟨.normal,R,B,⟨0,fun _ _=>rfl⟩,h⟩
theorem WC.block{id:Nat}{b:Code}(h:WC P H ext f nb b R B fun e k j=>match e with| .exit g=>(g=id->Q .normal k j)∧(g≠id->Q (.exit g) k j)|e=>Q e k j):WC P H ext f nb (.block id b) R B Q:=by
 obtain⟨e,k,j,⟨N,r⟩,h⟩:=h
 cases e with
 |exit g=>
  by_cases hid:g=id
  ·exact⟨.normal,k,j,⟨N,fun n q=>by simp only [sa,r n q,hid,if_true]⟩,h.1 hid⟩
  ·exact⟨.exit g,k,j,⟨N,fun n q=>by simp only [sa,r n q,hid,if_false]⟩,h.2 hid⟩
 |normal=>exact⟨_,k,j,⟨N,fun n q=>by simp only [sa,r n q]⟩,h⟩
 |ret=>exact⟨_,k,j,⟨N,fun n q=>by simp only [sa,r n q]⟩,h⟩
def WL(P:Program)(H:Hints)(ext:FuncId->Option rO)(f:FuncId)(nb:Nat)(c:Code)(R:List (Nat×RV))(B:List (Nat×Box))(Q:Ex->List (Nat×RV)->List (Nat×Box)->Prop):Prop:=
 ∃e j g,(∃N,∀n m,N<=n->N<=m->wD (sa P H f nb (sI P H ext n) n c) m (A R B)=some (e,A j g))∧Q e j g
theorem WL.round{b:Code}(h:WC P H ext f nb b R B fun e j g=>match e with| .normal=>WL P H ext f nb b j g Q|e=>Q e j g):WL P H ext f nb b R B Q:=by
 obtain⟨e,j,g,⟨N,u⟩,h⟩:=h
 cases e with
 |normal=>
  obtain⟨e,r,q,⟨E,C⟩,h⟩:=h
  refine⟨e,r,q,⟨N+E+1,fun n m D hm=>?_⟩,h⟩
  obtain⟨m,rfl⟩:∃k,m=k+1:=⟨m-1,za⟩
  simp only [wD,u n za,C n m za za]
 |exit id=>
  refine⟨_,j,g,⟨N+1,fun n m D hm=>?_⟩,h⟩
  obtain⟨m,rfl⟩:∃k,m=k+1:=⟨m-1,za⟩
  simp only [wD,u n za]
 |ret=>
  refine⟨_,j,g,⟨N+1,fun n m D hm=>?_⟩,h⟩
  obtain⟨m,rfl⟩:∃k,m=k+1:=⟨m-1,za⟩
  simp only [wD,u n za]
theorem WC.loop{b:Code}(h:WL P H ext f nb b R B Q):WC P H ext f nb (.loop b) R B Q:=by
 obtain⟨e,k,j,⟨N,q⟩,h⟩:=h
 exact⟨e,k,j,⟨N,fun n g=>by simp only [sa];exact q n n g g⟩,h⟩
theorem WL.ind{b:Code}(I:Nat->List (Nat×RV)->List (Nat×Box)->Prop)(k:Nat)(u:I k R B)
  (g:∀k R B,I k R B->(∀k' q j,k'<k->I k' q j->WL P H ext f nb b q j Q)->WL P H ext f nb b R B Q):WL P H ext f nb b R B Q:=by
 induction k using Nat.strongRecOn generalizing R B with
 |ind k C=>exact g k R B u fun k' q j hk r=>C k' hk r
def tZ(P:Program)(own:Nat->Bool)(fn:Func)(nb:Nat)(r:RV)(g:List Box):Ex->List (Nat×RV)->List (Nat×Box)->Prop
 | .exit _,_,_=>False
 |_,R,B=>finish P own fn nb (A R B)=some (r,g)
theorem WC.done{own:Nat->Bool}{fn:Func}{r:RV}{g:List Box}{x:RV×List Box}{e:Ex}(he:(match e with| .exit _=>false|_=>true)=true)(hf:finish P own fn nb (A R B)=some x)(j:x=(r,g)):tZ P own fn nb r g e R B:=by
 subst j
 cases e with
 |exit id=>cases he
 |normal=>exact hf
 |ret=>exact hf
def xg{α:Type}:Nat->List α->List (Nat×α)
 |_,[]=>[]
 |k,a::l=>(k,a)::xg (k+1) l
theorem zW{α:Type}:∀(l:List α)(k i:Nat),assoc (xg k l) (k+i)=look l i
 | [],_,_=>rfl
 |a::l,k,0=>by simp [xg,assoc,look]
 |a::l,k,i+1=>by
  have h:¬k+(i+1)=k:=by omega
  simp only [xg,assoc,h,if_false,look]
  rw [<-zW l (k+1) i,Nat.add_right_comm];rfl
theorem look_A(args:List RV)(bs:List Box):(⟨look args,look bs⟩:St)=A (xg 0 args) (xg 0 bs):=by
 have h:∀{α:Type}(l:List α),look l=assoc (xg 0 l):=fun l=>funext fun i=>by rw [<-zW l 0 i,Nat.zero_add]
 rw [h args,h bs]
theorem Ev.body {args : List RV} {bs g : List Box} {r : RV} {fn : Func} {c : Code} (C : ext f = none) (hf : P.funcs[f]? = some fn) (q : fn.body = some c) (u : (yx fn.ntmps c && (fn.name != "runtime.NumGoroutine") && decide (args.length ≤ fn.ntmps) && bs.all (fun b => verB b == 0)) = true)
  (h:WC P H ext f bs.length c (xg 0 args) (xg 0 bs) (tZ P (H.own f) fn bs.length r g)):Ev P H ext f args bs r g:=by
 obtain⟨e,E,D,⟨N,j⟩,h⟩:=h
 refine⟨N+1,fun n F=>?_⟩
 obtain⟨n,rfl⟩:∃k,n=k+1:=⟨n-1,za⟩
 simp only [sI,C,hf,q,u,if_true,look_A,j n za]
 cases e with
 |exit id=>cases h
 |normal=>exact h
 |ret=>exact h
theorem Ev.lib{args:List RV}{bs j:List Box}{r:RV}{g:rO}(u:ext f=some g)(q:g f args bs=some (r,j)):Ev P H ext f args bs r j:=by
 refine⟨1,fun n C=>?_⟩
 obtain⟨n,rfl⟩:∃k,n=k+1:=⟨n-1,za⟩
 simp only [sI,u,q]
theorem Ev.callOk{base:xT}{args:List RV}{bs g:List Box}{r:RV}(j:ExtOk P base ext)(hm:P.follows .mixedOrders=true)(h:Ev P H ext f args bs r g):uC P base f args bs r g:=by
 obtain⟨N,h⟩:=h
 exact xh j hm N f args bs r g (h N (Nat.le_refl _))
end
end Go.Dw
