
import Derived.Test.YtikangmionpjfaaGreatDwFun
import Derived.IntWalk

namespace Go.Dw
abbrev A(R:List (Nat×RV))(B:List (Nat×Box)):St:=⟨assoc R,assoc B⟩
def Ev(P:Program)(H:Hints)(ext:FuncId->Option pA)(f:FuncId)(args:List RV)(bs:List Box)(r:RV)(a:List Box):Prop:=
 ∃N,∀n,N<=n->p8 P H ext n f args bs=some (r,a)
def WO(P:Program)(H:Hints)(ext:FuncId->Option pA)(mt:Hf)(ops:Array Oper)(l:List Oper)(R:List (Nat×RV))(B:List (Nat×Box))(K:List (Nat×RV)->List (Nat×Box)->List Tr->Prop):Prop:=
 ∃c a ts,(∃N,∀n,N<=n->qZ P mt (p8 P H ext n) ops l (A R B)=some (A c a,ts))∧K c a ts
def WC(P:Program)(H:Hints)(ext:FuncId->Option pA)(f:FuncId)(nb:Nat)(c:Code)(R:List (Nat×RV))(B:List (Nat×Box))(Q:Ex->List (Nat×RV)->List (Nat×Box)->Prop):Prop:=
 ∃e g a,(∃N,∀n,N<=n->pM P H f nb (p8 P H ext n) n c (A R B)=some (e,A g a))∧Q e g a
def putR(d:Option Nat)(v:RV)(R:List (Nat×RV)):List (Nat×RV):=match d with|some d=>(d,v)::R|none=>R
def wB:Ups->List (Nat×Box)->List (Nat×Box)
 | [],B=>B
 |x::u,B=>wB u (x::B)
theorem put_A(d:Option Nat)(v:RV)(R:List (Nat×RV))(B:List (Nat×Box)):(A R B).put d v=A (putR d v R) B:=by cases d<;>rfl
theorem ups_A:∀(u:Ups)(R:List (Nat×RV))(B:List (Nat×Box)),(A R B).ups u=A R (wB u B)
 | [],_,_=>rfl
 |(id,b)::u,R,B=>ups_A u R ((id,b)::B)
section
variable {P:Program}{H:Hints}{ext:FuncId->Option pA}{mt:Hf}{ops:Array Oper}{l:List Oper}{R:List (Nat×RV)}{B:List (Nat×Box)}{K:List (Nat×RV)->List (Nat×Box)->List Tr->Prop}{o:Oper}{d:Nat}
theorem WO.nil(h:K R B []):WO P H ext mt ops [] R B K:=⟨R,B,[],⟨0,fun _ _=>rfl⟩,h⟩
theorem WO.step'{v:RV}{u:Ups}{rd:List Nat}(hw:pc ops (A R B) o=some true)(p:o.dst=some d)(he:∃N,∀n,N<=n->pE P mt (p8 P H ext n) (A R B) o (assoc B)=some ((v,u),rd,true))
  (h:WO P H ext mt ops l ((d,v)::R) (wB u B) fun c a ts=>K c a (⟨rd,u.map (·.1)⟩::ts)):WO P H ext mt ops (o::l) R B K:=by
 obtain⟨c,a,ts,⟨N,k⟩,j⟩:=h
 obtain⟨g,he⟩:=he
 refine⟨c,a,_,⟨N+g,fun n q=>?_⟩,j⟩
 have hs:rA P mt (p8 P H ext n) ops o (A R B)=some (A ((d,v)::R) (wB u B),⟨rd,u.map (·.1)⟩):=by
  rw [wR hw (he n za),ups_A,put_A,p];rfl
 simp only [qZ,hs,k n za]
theorem WO.step{v:RV}{u:Ups}{rd:List Nat}{c:Bool}(hw:pc ops (A R B) o=some true)(j:o.dst=some d)(he:∀n,pE P mt (p8 P H ext n) (A R B) o (assoc B)=some ((v,u),rd,c))(hc:c=true)
  (h:WO P H ext mt ops l ((d,v)::R) (wB u B) fun g a ts=>K g a (⟨rd,u.map (·.1)⟩::ts)):WO P H ext mt ops (o::l) R B K:=by
 subst hc
 exact WO.step' hw j ⟨0,fun n _=>he n⟩ h
theorem WO.skip(hw:pc ops (A R B) o=some false)(k:o.dst=some d)(h:WO P H ext mt ops l ((d,.undef)::R) B fun c a ts=>K c a (⟨[],[]⟩::ts)):WO P H ext mt ops (o::l) R B K:=by
 obtain⟨c,a,ts,⟨N,j⟩,g⟩:=h
 refine⟨c,a,_,⟨N,fun n p=>?_⟩,g⟩
 have hs:rA P mt (p8 P H ext n) ops o (A R B)=some (A ((d,.undef)::R) B,⟨[],[]⟩):=by
  rw [wy hw,put_A,k];rfl
 simp only [qZ,hs,j n p]
theorem WO.stepN{v:RV}{u:Ups}{rd:List Nat}{c:Bool}(hw:pc ops (A R B) o=some true)(p:o.dst=none)(he:∀n,pE P mt (p8 P H ext n) (A R B) o (assoc B)=some ((v,u),rd,c))(hc:c=true)
  (h:WO P H ext mt ops l R (wB u B) fun g a ts=>K g a (⟨rd,u.map (·.1)⟩::ts)):WO P H ext mt ops (o::l) R B K:=by
 subst hc
 obtain⟨g,a,ts,⟨N,k⟩,j⟩:=h
 refine⟨g,a,_,⟨N,fun n q=>?_⟩,j⟩
 have hs:rA P mt (p8 P H ext n) ops o (A R B)=some (A R (wB u B),⟨rd,u.map (·.1)⟩):=by
  rw [wR hw (he n),ups_A,put_A,p];rfl
 simp only [qZ,hs,k n q]
theorem WO.Ag{g:FuncId}{args as:List RV}{ids y z rg p:List Nat}{x:Ups}{c k a:List Box}{r v:RV}{u:Ups}{j:List RV}
  (hw:pc ops (A R B) o=some true) (L:o.dst=some d)
  (he:∀call,pE P mt call (A R B) o (assoc B)=rn mt.by_ call g (d*16) args (assoc B))
  (E:uc (mt.by_ g) 0 args (assoc B)=some ((as,x),y,true)) (I:rH 64 [] (as.flatMap xG) (assoc B)=some (ids,z,true)) (G:ui ids (assoc B)=some (c,rg,true))
  (has:as.map (qC (sD ids c))=j) (q:c.map (rJ (sD ids c) fun _=>0)=k)
  (F:Ev P H ext g j k r a)
  (hc:(decide (ids.length<=a.length)&&(nodup ids&&ye ids (x.map (·.1))))=true)
  (hV:rj (q9 (d*16) (a.length-ids.length)) (assoc B)=some ((),p,true))
  (O:qC (vz (ids++q9 (d*16) (a.length-ids.length)) c a) r=v)
  (hu:xY x ids a r (vw (ids++q9 (d*16) (a.length-ids.length)) c a)=u)
  (h:WO P H ext mt ops l ((d,v)::R) (wB u B) fun D C ts=>K D C (⟨y++(z++(rg++(p++[]))),u.map (·.1)⟩::ts)):WO P H ext mt ops (o::l) R B K:=by
 obtain⟨N,J⟩:=F
 simp only [Bool.and_eq_true,decide_eq_true_eq]at hc
 refine WO.step' hw L ⟨N,fun n t=>?_⟩ h
 rw [he]
 subst has q O hu
 simp only [rn,M.bind,E,I,G,J n t,hc,and_self,if_true,hV,M.pure,Bool.and_true]
theorem WO.wE{e:TypeId}{c vl:RV}{ul:Ups}{E:List Nat}{g:FuncId}{args as:List RV}{ids C D rg q:List Nat}{z:Ups}{j p a:List Box}{r v:RV}{u:Ups}{k:List RV}
  (hw:pc ops (A R B) o=some true) (W:o.dst=some d)
  (he:∀call,pE P mt call (A R B) o (assoc B)=M.bind (si P e c) (fun x=>rn mt.by_ call g (d*16) (x.1::args)) (assoc B))
  (X:si P e c (assoc B)=some ((vl,ul),E,true))
  (I:uc (mt.by_ g) 0 (vl::args) (assoc B)=some ((as,z),C,true)) (O:rH 64 [] (as.flatMap xG) (assoc B)=some (ids,D,true)) (L:ui ids (assoc B)=some (j,rg,true))
  (has:as.map (qC (sD ids j))=k) (t:j.map (rJ (sD ids j) fun _=>0)=p)
  (J:Ev P H ext g k p r a)
  (hc:(decide (ids.length<=a.length)&&(nodup ids&&ye ids (z.map (·.1))))=true)
  (hV:rj (q9 (d*16) (a.length-ids.length)) (assoc B)=some ((),q,true))
  (Y:qC (vz (ids++q9 (d*16) (a.length-ids.length)) j a) r=v)
  (hu:xY z ids a r (vw (ids++q9 (d*16) (a.length-ids.length)) j a)=u)
  (h:WO P H ext mt ops l ((d,v)::R) (wB u B) fun G F ts=>K G F (⟨E++(C++(D++(rg++(q++[])))),u.map (·.1)⟩::ts)):WO P H ext mt ops (o::l) R B K:=by
 obtain⟨N,T⟩:=J
 simp only [Bool.and_eq_true,decide_eq_true_eq]at hc
 refine WO.step' hw W ⟨N,fun n y=>?_⟩ h
 rw [he]
 subst has t Y hu
 simp only [rn,M.bind,X,I,O,L,T n y,hc,and_self,if_true,hV,M.pure,Bool.and_true]
end
section
variable {P:Program}{H:Hints}{ext:FuncId->Option pA}{f:FuncId}{nb:Nat}{R:List (Nat×RV)}{B:List (Nat×Box)}{Q:Ex->List (Nat×RV)->List (Nat×Box)->Prop}
theorem WC.skip(h:Q .normal R B):WC P H ext f nb .skip R B Q:=⟨_,R,B,⟨0,fun _ _=>rfl⟩,h⟩
theorem WC.ret(h:Q .ret R B):WC P H ext f nb .ret R B Q:=⟨_,R,B,⟨0,fun _ _=>rfl⟩,h⟩
theorem WC.exit{id:Nat}(h:Q (.exit id) R B):WC P H ext f nb (.exit id) R B Q:=⟨_,R,B,⟨0,fun _ _=>rfl⟩,h⟩
theorem WC.zj{id:Nat}{ops:Array Oper}{g:Bool}{R0:List (Nat×RV)}{B0:List (Nat×Box)}(p:pK P nb (A R B) (H.at_ f nb id)=some (A R0 B0))
  (h:WO P H ext (H.hf f) ops ops.toList R0 B0 fun c a ts=>(g=true->sJ ops ts=true)∧Q .normal c a):WC P H ext f nb (.region id ops g) R B Q:=by
 obtain⟨c,a,ts,⟨N,j⟩,ho,k⟩:=h
 refine⟨_,c,a,⟨N,fun n q=>?_⟩,k⟩
 simp only [pM,wL,p,j n q]
 cases g with
 |false=>simp
 |true=>simp [ho rfl]
theorem WC.region{id:Nat}{ops:Array Oper}{l:List Oper}{R0:List (Nat×RV)}{B0:List (Nat×Box)}(k:pK P nb (A R B) (H.at_ f nb id)=some (A R0 B0))(p:ops.toList=l)
  (h:WO P H ext (H.hf f) ops l R0 B0 fun c a _=>Q .normal c a):WC P H ext f nb (.region id ops false) R B Q:=by
 subst p
 obtain⟨c,a,ts,g,j⟩:=h
 exact WC.zj k ⟨c,a,ts,g,⟨(fun h=>by cases h),j⟩⟩
theorem WC.uK{id:Nat}{ops:Array Oper}{l:List Oper}{R0:List (Nat×RV)}{B0:List (Nat×Box)}(k:pK P nb (A R B) (H.at_ f nb id)=some (A R0 B0))(p:ops.toList=l)
  (h:WO P H ext (H.hf f) ops l R0 B0 fun c a ts=>sJ ops ts=true∧Q .normal c a):WC P H ext f nb (.region id ops true) R B Q:=by
 subst p
 obtain⟨c,a,ts,g,h1,j⟩:=h
 exact WC.zj k ⟨c,a,ts,g,⟨(fun _=>h1),j⟩⟩
theorem WC.seq{a b:Code}(h:WC P H ext f nb a R B fun e g c=>match e with| .normal=>WC P H ext f nb b g c Q|e=>Q e g c):WC P H ext f nb (.seq a b) R B Q:=by
 obtain⟨e,g,c,⟨N,q⟩,h⟩:=h
 cases e with
 |normal=>
  obtain⟨e,p,k,⟨t,r⟩,h⟩:=h
  exact⟨e,p,k,⟨N+t,fun n j=>by simp only [pM,q n za,r n za]⟩,h⟩
 |exit id=>exact⟨_,g,c,⟨N,fun n j=>by simp only [pM,q n j]⟩,h⟩
 |ret=>exact⟨_,g,c,⟨N,fun n j=>by simp only [pM,q n j]⟩,h⟩
theorem WC.qT{id:Nat}{ops:Array Oper}{l:List Oper}{R0:List (Nat×RV)}{B0:List (Nat×Box)}{b:Code}(g:pK P nb (A R B) (H.at_ f nb id)=some (A R0 B0))(j:ops.toList=l)
  (h:WO P H ext (H.hf f) ops l R0 B0 fun c a _=>WC P H ext f nb b c a Q):WC P H ext f nb (.seq (.region id ops false) b) R B Q:=WC.seq (WC.region g j h)
theorem WC.pg{id:Nat}{ops:Array Oper}{l:List Oper}{R0:List (Nat×RV)}{B0:List (Nat×Box)}{b:Code}(g:pK P nb (A R B) (H.at_ f nb id)=some (A R0 B0))(j:ops.toList=l)
  (h:WO P H ext (H.hf f) ops l R0 B0 fun c a ts=>sJ ops ts=true∧WC P H ext f nb b c a Q):WC P H ext f nb (.seq (.region id ops true) b) R B Q:=WC.seq (WC.uK g j h)
theorem WC.cond{c:Operand}{a b:Code}{t:Bool}(hc:(A R B).opd c=some (.d (.bool t)))(h1:t=true->WC P H ext f nb a R B Q)(q:t=false->WC P H ext f nb b R B Q):WC P H ext f nb (.cond c a b) R B Q:=by
 cases t with
 |true=>
  obtain⟨e,j,g,⟨N,k⟩,h⟩:=h1 rfl
  exact⟨e,j,g,⟨N,fun n p=>by simp only [pM,hc,if_true,k n p]⟩,h⟩
 |false=>
  obtain⟨e,j,g,⟨N,k⟩,h⟩:=q rfl
  exact⟨e,j,g,⟨N,fun n p=>by simp only [pM,hc,Bool.false_eq_true,if_false,k n p]⟩,h⟩
theorem WC.condT{c:Operand}{a b:Code}(hc:(A R B).opd c=some (.d (.bool true)))(h1:WC P H ext f nb a R B Q):WC P H ext f nb (.cond c a b) R B Q:=WC.cond hc (fun _=>h1) (fun h=>by cases h)
theorem WC.condF{c:Operand}{a b:Code}(hc:(A R B).opd c=some (.d (.bool false)))(h1:WC P H ext f nb b R B Q):WC P H ext f nb (.cond c a b) R B Q:=WC.cond hc (fun h=>by cases h) (fun _=>h1)
theorem WC.scope{b:Code}(h:WC P H ext f nb b R B Q):WC P H ext f nb (.scope b) R B Q:=h
theorem WC.label{l:Nat}(h:Q .normal R B):WC P H ext f nb (.label l) R B Q:=⟨.normal,R,B,⟨0,fun _ _=>rfl⟩,h⟩
theorem WC.block{id:Nat}{b:Code}(h:WC P H ext f nb b R B fun e j g=>match e with| .exit a=>(a=id->Q .normal j g)∧(a≠id->Q (.exit a) j g)|e=>Q e j g):WC P H ext f nb (.block id b) R B Q:=by
 obtain⟨e,j,g,⟨N,p⟩,h⟩:=h
 cases e with
 |exit a=>
  by_cases c:a=id
  ·exact⟨.normal,j,g,⟨N,fun n k=>by simp only [pM,p n k,c,if_true]⟩,h.1 c⟩
  ·exact⟨.exit a,j,g,⟨N,fun n k=>by simp only [pM,p n k,c,if_false]⟩,h.2 c⟩
 |normal=>exact⟨_,j,g,⟨N,fun n k=>by simp only [pM,p n k]⟩,h⟩
 |ret=>exact⟨_,j,g,⟨N,fun n k=>by simp only [pM,p n k]⟩,h⟩
def WL(P:Program)(H:Hints)(ext:FuncId->Option pA)(f:FuncId)(nb:Nat)(c:Code)(R:List (Nat×RV))(B:List (Nat×Box))(Q:Ex->List (Nat×RV)->List (Nat×Box)->Prop):Prop:=
 ∃e g a,(∃N,∀n m,N<=n->N<=m->uz (pM P H f nb (p8 P H ext n) n c) m (A R B)=some (e,A g a))∧Q e g a
theorem WL.round{b:Code}(h:WC P H ext f nb b R B fun e c a=>match e with| .normal=>WL P H ext f nb b c a Q|e=>Q e c a):WL P H ext f nb b R B Q:=by
 obtain⟨e,c,a,⟨N,p⟩,h⟩:=h
 cases e with
 |normal=>
  obtain⟨e,j,g,⟨t,q⟩,h⟩:=h
  refine⟨e,j,g,⟨N+t+1,fun n m r hm=>?_⟩,h⟩
  obtain⟨m,rfl⟩:∃k,m=k+1:=⟨m-1,za⟩
  simp only [uz,p n za,q n m za za]
 |exit id=>
  refine⟨_,c,a,⟨N+1,fun n m r hm=>?_⟩,h⟩
  obtain⟨m,rfl⟩:∃k,m=k+1:=⟨m-1,za⟩
  simp only [uz,p n za]
 |ret=>
  refine⟨_,c,a,⟨N+1,fun n m r hm=>?_⟩,h⟩
  obtain⟨m,rfl⟩:∃k,m=k+1:=⟨m-1,za⟩
  simp only [uz,p n za]
theorem WC.loop{b:Code}(h:WL P H ext f nb b R B Q):WC P H ext f nb (.loop b) R B Q:=by
 obtain⟨e,g,c,⟨N,j⟩,h⟩:=h
 exact⟨e,g,c,⟨N,fun n a=>by simp only [pM];exact j n n a a⟩,h⟩
def sR(P:Program)(own:Nat->Bool)(fn:Func)(nb:Nat)(r:RV)(a:List Box):Ex->List (Nat×RV)->List (Nat×Box)->Prop
 | .exit _,_,_=>False
 |_,R,B=>finish P own fn nb (A R B)=some (r,a)
theorem WC.done{own:Nat->Bool}{fn:Func}{r:RV}{a:List Box}{x:RV×List Box}{e:Ex}(he:(match e with| .exit _=>false|_=>true)=true)(hf:finish P own fn nb (A R B)=some x)(c:x=(r,a)):sR P own fn nb r a e R B:=by
 subst c
 cases e with
 |exit id=>cases he
 |normal=>exact hf
 |ret=>exact hf
def vo{α:Type}:Nat->List α->List (Nat×α)
 |_,[]=>[]
 |k,a::l=>(k,a)::vo (k+1) l
theorem xS{α:Type}:∀(l:List α)(k i:Nat),assoc (vo k l) (k+i)=look l i
 | [],_,_=>rfl
 |a::l,k,0=>by simp [vo,assoc,look]
 |a::l,k,i+1=>by
  have h:¬k+(i+1)=k:=by omega
  simp only [vo,assoc,h,if_false,look]
  rw [<-xS l (k+1) i,Nat.add_right_comm];rfl
theorem look_A(args:List RV)(bs:List Box):(⟨look args,look bs⟩:St)=A (vo 0 args) (vo 0 bs):=by
 have h:∀{α:Type}(l:List α),look l=assoc (vo 0 l):=fun l=>funext fun i=>by rw [<-xS l 0 i,Nat.zero_add]
 rw [h args,h bs]
theorem Ev.body {args : List RV} {bs a : List Box} {r : RV} {fn : Func} {c : Code} (q : ext f = none) (hf : P.funcs[f]? = some fn) (j : fn.body = some c) (p : (wJ fn.ntmps c && (fn.name != "runtime.NumGoroutine") && decide (args.length ≤ fn.ntmps) && bs.all (fun b => verB b == 0)) = true)
  (h:WC P H ext f bs.length c (vo 0 args) (vo 0 bs) (sR P (H.own f) fn bs.length r a)):Ev P H ext f args bs r a:=by
 obtain⟨e,u,t,⟨N,g⟩,h⟩:=h
 refine⟨N+1,fun n x=>?_⟩
 obtain⟨n,rfl⟩:∃k,n=k+1:=⟨n-1,za⟩
 simp only [p8,q,hf,j,p,if_true,look_A,g n za]
 cases e with
 |exit id=>cases h
 |normal=>exact h
 |ret=>exact h
theorem Ev.lib{args:List RV}{bs a:List Box}{r:RV}{g:pA}(j:ext f=some g)(c:g f args bs=some (r,a)):Ev P H ext f args bs r a:=by
 refine⟨1,fun n p=>?_⟩
 obtain⟨n,rfl⟩:∃k,n=k+1:=⟨n-1,za⟩
 simp only [p8,j,c]
theorem Ev.zr{base:tR}{args:List RV}{bs a:List Box}{r:RV}(c:xO P base ext)(hm:P.follows .mixedOrders=true)(h:Ev P H ext f args bs r a):qI P base f args bs r a:=by
 obtain⟨N,h⟩:=h
 exact tK c hm N f args bs r a (h N (Nat.le_refl _))
end
end Go.Dw
