
import Derived.Test.YtgdhcacjeppglaaGreatDwFun
import Derived.IntWalk

namespace Go.Dw
abbrev A(R:List (Nat×RV))(B:List (Nat×Box)):St:=⟨assoc R,assoc B⟩
def Ev(P:Program)(H:Hints)(ext:FuncId->Option cB)(f:FuncId)(args:List RV)(bs:List Box)(r:RV)(a:List Box):Prop:=
 ∃N,∀n,N<=n->c7 P H ext n f args bs=some (r,a)
def WO(P:Program)(H:Hints)(ext:FuncId->Option cB)(mt:Hf)(ops:Array Oper)(l:List Oper)(R:List (Nat×RV))(B:List (Nat×Box))(K:List (Nat×RV)->List (Nat×Box)->List Tr->Prop):Prop:=
 ∃b a ts,(∃N,∀n,N<=n->dz P mt (c7 P H ext n) ops l (A R B)=some (A b a,ts))∧K b a ts
def WC(P:Program)(H:Hints)(ext:FuncId->Option cB)(f:FuncId)(nb:Nat)(c:Code)(R:List (Nat×RV))(B:List (Nat×Box))(Q:Ex->List (Nat×RV)->List (Nat×Box)->Prop):Prop:=
 ∃e b a,(∃N,∀n,N<=n->cG P H f nb (c7 P H ext n) n c (A R B)=some (e,A b a))∧Q e b a
def putR(d:Option Nat)(v:RV)(R:List (Nat×RV)):List (Nat×RV):=match d with|some d=>(d,v)::R|none=>R
def kJ:Ups->List (Nat×Box)->List (Nat×Box)
 | [],B=>B
 |x::u,B=>kJ u (x::B)
theorem put_A(d:Option Nat)(v:RV)(R:List (Nat×RV))(B:List (Nat×Box)):(A R B).put d v=A (putR d v R) B:=by cases d<;>rfl
theorem ups_A:∀(u:Ups)(R:List (Nat×RV))(B:List (Nat×Box)),(A R B).ups u=A R (kJ u B)
 | [],_,_=>rfl
 |(id,b)::u,R,B=>ups_A u R ((id,b)::B)
section
variable {P:Program}{H:Hints}{ext:FuncId->Option cB}{mt:Hf}{ops:Array Oper}{l:List Oper}{R:List (Nat×RV)}{B:List (Nat×Box)}{K:List (Nat×RV)->List (Nat×Box)->List Tr->Prop}{o:Oper}{d:Nat}
theorem WO.nil(h:K R B []):WO P H ext mt ops [] R B K:=⟨R,B,[],⟨0,fun _ _=>rfl⟩,h⟩
theorem WO.step'{v:RV}{u:Ups}{rd:List Nat}(hw:cu ops (A R B) o=some true)(hd:o.dst=some d)(he:∃N,∀n,N<=n->cX P mt (c7 P H ext n) (A R B) o (assoc B)=some ((v,u),rd,true))
  (h:WO P H ext mt ops l ((d,v)::R) (kJ u B) fun b a ts=>K b a (⟨rd,u.map (·.1)⟩::ts)):WO P H ext mt ops (o::l) R B K:=by
 obtain⟨b,a,ts,⟨N,g⟩,e⟩:=h
 obtain⟨c,he⟩:=he
 refine⟨b,a,_,⟨N+c,fun n j=>?_⟩,e⟩
 have i:dS P mt (c7 P H ext n) ops o (A R B)=some (A ((d,v)::R) (kJ u B),⟨rd,u.map (·.1)⟩):=by
  rw [iT hw (he n om),ups_A,put_A,hd];rfl
 simp only [dz,i,g n om]
theorem WO.step{v:RV}{u:Ups}{rd:List Nat}{c:Bool}(hw:cu ops (A R B) o=some true)(hd:o.dst=some d)(he:∀n,cX P mt (c7 P H ext n) (A R B) o (assoc B)=some ((v,u),rd,c))(hc:c=true)
  (h:WO P H ext mt ops l ((d,v)::R) (kJ u B) fun b a ts=>K b a (⟨rd,u.map (·.1)⟩::ts)):WO P H ext mt ops (o::l) R B K:=by
 subst hc
 exact WO.step' hw hd ⟨0,fun n _=>he n⟩ h
theorem WO.skip(hw:cu ops (A R B) o=some false)(hd:o.dst=some d)(h:WO P H ext mt ops l ((d,.undef)::R) B fun b a ts=>K b a (⟨[],[]⟩::ts)):WO P H ext mt ops (o::l) R B K:=by
 obtain⟨b,a,ts,⟨N,e⟩,c⟩:=h
 refine⟨b,a,_,⟨N,fun n g=>?_⟩,c⟩
 have i:dS P mt (c7 P H ext n) ops o (A R B)=some (A ((d,.undef)::R) B,⟨[],[]⟩):=by
  rw [iC hw,put_A,hd];rfl
 simp only [dz,i,e n g]
theorem WO.stepN{v:RV}{u:Ups}{rd:List Nat}{c:Bool}(hw:cu ops (A R B) o=some true)(hd:o.dst=none)(he:∀n,cX P mt (c7 P H ext n) (A R B) o (assoc B)=some ((v,u),rd,c))(hc:c=true)
  (h:WO P H ext mt ops l R (kJ u B) fun b a ts=>K b a (⟨rd,u.map (·.1)⟩::ts)):WO P H ext mt ops (o::l) R B K:=by
 subst hc
 obtain⟨b,a,ts,⟨N,g⟩,e⟩:=h
 refine⟨b,a,_,⟨N,fun n i=>?_⟩,e⟩
 have j:dS P mt (c7 P H ext n) ops o (A R B)=some (A R (kJ u B),⟨rd,u.map (·.1)⟩):=by
  rw [iT hw (he n),ups_A,put_A,hd];rfl
 simp only [dz,j,g n i]
theorem WO.kW{g:FuncId}{args as:List RV}{ids p q rg i:List Nat}{m:Ups}{b e a:List Box}{r v:RV}{u:Ups}{c:List RV}
  (hw:cu ops (A R B) o=some true) (hd:o.dst=some d)
  (he:∀call,cX P mt call (A R B) o (assoc B)=iG (mt.lit (d+2097152)) mt.by_ call g (d*16) args (assoc B))
  (x:hT (mt.by_ g) 0 args (assoc B)=some ((as,m),p,true)) (C:eV 64 [] (as.flatMap idsV) (assoc B)=some (ids,q,true)) (z:hY ids (assoc B)=some (b,rg,true))
  (has:as.map (dw (gB ids b))=c) (j:b.map (ez (gB ids b) fun _=>0)=e)
  (y:Ev P H ext g c e r a)
  (hc:(decide (ids.length<=a.length)&&(nodup ids&&disj ids (m.map (·.1))))=true)
  (hV:ew (fr (d*16) (a.length-ids.length)) (assoc B)=some ((),i,true))
  (E:dw (kA (ids++fr (d*16) (a.length-ids.length)) b a) r=v)
  (hu:mi m ids a r (kz (ids++fr (d*16) (a.length-ids.length)) b a)=u)
  (h:WO P H ext mt ops l ((d,v)::R) (kJ u B) fun t s ts=>K t s (⟨p++(q++(rg++(i++[]))),u.map (·.1)⟩::ts)) (F:mt.lit (d+2097152)=false:=by exact rfl):WO P H ext mt ops (o::l) R B K:=by
 obtain⟨N,D⟩:=y
 simp only [Bool.and_eq_true,decide_eq_true_eq]at hc
 refine WO.step' hw hd ⟨N,fun n k=>?_⟩ h
 rw [he,F]
 subst has j E hu
 show dN _ _ _ _ _ _=_
 simp only [dN,M.bind,x,C,z,D n k,hc,and_self,if_true,hV,M.pure,Bool.and_true]
end
section
variable {P:Program}{H:Hints}{ext:FuncId->Option cB}{f:FuncId}{nb:Nat}{R:List (Nat×RV)}{B:List (Nat×Box)}{Q:Ex->List (Nat×RV)->List (Nat×Box)->Prop}
theorem WC.skip(h:Q .normal R B):WC P H ext f nb .skip R B Q:=⟨_,R,B,⟨0,fun _ _=>rfl⟩,h⟩
theorem WC.ret(h:Q .ret R B):WC P H ext f nb .ret R B Q:=⟨_,R,B,⟨0,fun _ _=>rfl⟩,h⟩
theorem WC.exit{id:Nat}(h:Q (.exit id) R B):WC P H ext f nb (.exit id) R B Q:=⟨_,R,B,⟨0,fun _ _=>rfl⟩,h⟩
theorem WC.lh{id:Nat}{ops:Array Oper}{c:Bool}{e:List (Nat×RV)}{B0:List (Nat×Box)}(j:dY P nb (A R B) (H.at_ f nb id)=some (A e B0))
  (h:WO P H ext (H.hf f) ops ops.toList e B0 fun b a ts=>(c=true->iR ops ts=true)∧Q .normal b a):WC P H ext f nb (.region id ops c) R B Q:=by
 obtain⟨b,a,ts,⟨N,g⟩,ho,i⟩:=h
 refine⟨_,b,a,⟨N,fun n k=>?_⟩,i⟩
 simp only [cG,iK,j,g n k]
 cases c with
 |false=>simp
 |true=>simp [ho rfl]
theorem WC.region{id:Nat}{ops:Array Oper}{l:List Oper}{c:List (Nat×RV)}{B0:List (Nat×Box)}(i:dY P nb (A R B) (H.at_ f nb id)=some (A c B0))(hl:ops.toList=l)
  (h:WO P H ext (H.hf f) ops l c B0 fun b a _=>Q .normal b a):WC P H ext f nb (.region id ops false) R B Q:=by
 subst hl
 obtain⟨b,a,ts,e,g⟩:=h
 exact WC.lh i ⟨b,a,ts,e,⟨(fun h=>by cases h),g⟩⟩
theorem WC.lV{id:Nat}{ops:Array Oper}{l:List Oper}{c:List (Nat×RV)}{B0:List (Nat×Box)}(i:dY P nb (A R B) (H.at_ f nb id)=some (A c B0))(hl:ops.toList=l)
  (h:WO P H ext (H.hf f) ops l c B0 fun b a ts=>iR ops ts=true∧Q .normal b a):WC P H ext f nb (.region id ops true) R B Q:=by
 subst hl
 obtain⟨b,a,ts,e,h1,g⟩:=h
 exact WC.lh i ⟨b,a,ts,e,⟨(fun _=>h1),g⟩⟩
theorem WC.seq{a b:Code}(h:WC P H ext f nb a R B fun e g c=>match e with| .normal=>WC P H ext f nb b g c Q|e=>Q e g c):WC P H ext f nb (.seq a b) R B Q:=by
 obtain⟨e,g,c,⟨N,m⟩,h⟩:=h
 cases e with
 |normal=>
  obtain⟨e,k,j,⟨q,p⟩,h⟩:=h
  exact⟨e,k,j,⟨N+q,fun n i=>by simp only [cG,m n om,p n om]⟩,h⟩
 |exit id=>exact⟨_,g,c,⟨N,fun n i=>by simp only [cG,m n i]⟩,h⟩
 |ret=>exact⟨_,g,c,⟨N,fun n i=>by simp only [cG,m n i]⟩,h⟩
theorem WC.ov{id:Nat}{ops:Array Oper}{l:List Oper}{a:List (Nat×RV)}{B0:List (Nat×Box)}{b:Code}(g:dY P nb (A R B) (H.at_ f nb id)=some (A a B0))(hl:ops.toList=l)
  (h:WO P H ext (H.hf f) ops l a B0 fun e c _=>WC P H ext f nb b e c Q):WC P H ext f nb (.seq (.region id ops false) b) R B Q:=WC.seq (WC.region g hl h)
theorem WC.eI{id:Nat}{ops:Array Oper}{l:List Oper}{a:List (Nat×RV)}{B0:List (Nat×Box)}{b:Code}(g:dY P nb (A R B) (H.at_ f nb id)=some (A a B0))(hl:ops.toList=l)
  (h:WO P H ext (H.hf f) ops l a B0 fun e c ts=>iR ops ts=true∧WC P H ext f nb b e c Q):WC P H ext f nb (.seq (.region id ops true) b) R B Q:=WC.seq (WC.lV g hl h)
theorem WC.cond{c:Operand}{a b:Code}{t:Bool}(hc:(A R B).opd c=some (.d (.bool t)))(h1:t=true->WC P H ext f nb a R B Q)(m:t=false->WC P H ext f nb b R B Q):WC P H ext f nb (.cond c a b) R B Q:=by
 cases t with
 |true=>
  obtain⟨e,i,g,⟨N,j⟩,h⟩:=h1 rfl
  exact⟨e,i,g,⟨N,fun n k=>by simp only [cG,hc,if_true,j n k]⟩,h⟩
 |false=>
  obtain⟨e,i,g,⟨N,j⟩,h⟩:=m rfl
  exact⟨e,i,g,⟨N,fun n k=>by simp only [cG,hc,Bool.false_eq_true,if_false,j n k]⟩,h⟩
theorem WC.condT{c:Operand}{a b:Code}(hc:(A R B).opd c=some (.d (.bool true)))(h1:WC P H ext f nb a R B Q):WC P H ext f nb (.cond c a b) R B Q:=WC.cond hc (fun _=>h1) (fun h=>by cases h)
theorem WC.condF{c:Operand}{a b:Code}(hc:(A R B).opd c=some (.d (.bool false)))(h1:WC P H ext f nb b R B Q):WC P H ext f nb (.cond c a b) R B Q:=WC.cond hc (fun h=>by cases h) (fun _=>h1)
theorem WC.scope{b:Code}(h:WC P H ext f nb b R B Q):WC P H ext f nb (.scope b) R B Q:=h
theorem WC.label{l:Nat}(h:Q .normal R B):WC P H ext f nb (.label l) R B Q:=⟨.normal,R,B,⟨0,fun _ _=>rfl⟩,h⟩
theorem WC.block{id:Nat}{b:Code}(h:WC P H ext f nb b R B fun e i g=>match e with| .exit a=>(a=id->Q .normal i g)∧(a≠id->Q (.exit a) i g)|e=>Q e i g):WC P H ext f nb (.block id b) R B Q:=by
 obtain⟨e,i,g,⟨N,k⟩,h⟩:=h
 cases e with
 |exit a=>
  by_cases c:a=id
  ·exact⟨.normal,i,g,⟨N,fun n j=>by simp only [cG,k n j,c,if_true]⟩,h.1 c⟩
  ·exact⟨.exit a,i,g,⟨N,fun n j=>by simp only [cG,k n j,c,if_false]⟩,h.2 c⟩
 |normal=>exact⟨_,i,g,⟨N,fun n j=>by simp only [cG,k n j]⟩,h⟩
 |ret=>exact⟨_,i,g,⟨N,fun n j=>by simp only [cG,k n j]⟩,h⟩
def WL(P:Program)(H:Hints)(ext:FuncId->Option cB)(f:FuncId)(nb:Nat)(c:Code)(R:List (Nat×RV))(B:List (Nat×Box))(Q:Ex->List (Nat×RV)->List (Nat×Box)->Prop):Prop:=
 ∃e b a,(∃N,∀n m,N<=n->N<=m->gb (cG P H f nb (c7 P H ext n) n c) m (A R B)=some (e,A b a))∧Q e b a
theorem WL.round{b:Code}(h:WC P H ext f nb b R B fun e c a=>match e with| .normal=>WL P H ext f nb b c a Q|e=>Q e c a):WL P H ext f nb b R B Q:=by
 obtain⟨e,c,a,⟨N,j⟩,h⟩:=h
 cases e with
 |normal=>
  obtain⟨e,i,g,⟨r,p⟩,h⟩:=h
  refine⟨e,i,g,⟨N+r+1,fun n m q hm=>?_⟩,h⟩
  obtain⟨m,rfl⟩:∃k,m=k+1:=⟨m-1,om⟩
  simp only [gb,j n om,p n m om om]
 |exit id=>
  refine⟨_,c,a,⟨N+1,fun n m q hm=>?_⟩,h⟩
  obtain⟨m,rfl⟩:∃k,m=k+1:=⟨m-1,om⟩
  simp only [gb,j n om]
 |ret=>
  refine⟨_,c,a,⟨N+1,fun n m q hm=>?_⟩,h⟩
  obtain⟨m,rfl⟩:∃k,m=k+1:=⟨m-1,om⟩
  simp only [gb,j n om]
theorem WC.loop{b:Code}(h:WL P H ext f nb b R B Q):WC P H ext f nb (.loop b) R B Q:=by
 obtain⟨e,g,c,⟨N,i⟩,h⟩:=h
 exact⟨e,g,c,⟨N,fun n a=>by simp only [cG];exact i n n a a⟩,h⟩
def Done(P:Program)(own:Nat->Bool)(fn:Func)(nb:Nat)(r:RV)(a:List Box):Ex->List (Nat×RV)->List (Nat×Box)->Prop
 | .exit _,_,_=>False
 |_,R,B=>finish P own fn nb (A R B)=some (r,a)
theorem WC.done{own:Nat->Bool}{fn:Func}{r:RV}{a:List Box}{x:RV×List Box}{e:Ex}(he:(match e with| .exit _=>false|_=>true)=true)(hf:finish P own fn nb (A R B)=some x)(b:x=(r,a)):Done P own fn nb r a e R B:=by
 subst b
 cases e with
 |exit id=>cases he
 |normal=>exact hf
 |ret=>exact hf
def iI{α:Type}:Nat->List α->List (Nat×α)
 |_,[]=>[]
 |k,a::l=>(k,a)::iI (k+1) l
theorem jY{α:Type}:∀(l:List α)(k i:Nat),assoc (iI k l) (k+i)=look l i
 | [],_,_=>rfl
 |a::l,k,0=>by simp [iI,assoc,look]
 |a::l,k,i+1=>by
  have h:¬k+(i+1)=k:=by omega
  simp only [iI,assoc,h,if_false,look]
  rw [<-jY l (k+1) i,Nat.add_right_comm];rfl
theorem look_A(args:List RV)(bs:List Box):(⟨look args,look bs⟩:St)=A (iI 0 args) (iI 0 bs):=by
 have h:∀{α:Type}(l:List α),look l=assoc (iI 0 l):=fun l=>funext fun i=>by rw [<-jY l 0 i,Nat.zero_add]
 rw [h args,h bs]
theorem Ev.body {args : List RV} {bs a : List Box} {r : RV} {fn : Func} {c : Code} (i : ext f = none) (hf : P.funcs[f]? = some fn) (hb : fn.body = some c) (hd : (jz fn.ntmps c && (fn.name != "runtime.NumGoroutine") && decide (args.length ≤ fn.ntmps) && bs.all (fun b => verB b == 0)) = true)
  (h:WC P H ext f bs.length c (iI 0 args) (iI 0 bs) (Done P (H.own f) fn bs.length r a)):Ev P H ext f args bs r a:=by
 obtain⟨e,m,j,⟨N,g⟩,h⟩:=h
 refine⟨N+1,fun n p=>?_⟩
 obtain⟨n,rfl⟩:∃k,n=k+1:=⟨n-1,om⟩
 simp only [c7,i,hf,hb,hd,if_true,look_A,g n om]
 cases e with
 |exit id=>cases h
 |normal=>exact h
 |ret=>exact h
theorem Ev.lib{args:List RV}{bs a:List Box}{r:RV}{g:cB}(c:ext f=some g)(b:g f args bs=some (r,a)):Ev P H ext f args bs r a:=by
 refine⟨1,fun n e=>?_⟩
 obtain⟨n,rfl⟩:∃k,n=k+1:=⟨n-1,om⟩
 simp only [c7,c,b]
theorem Ev.callOk{base:iZ}{args:List RV}{bs a:List Box}{r:RV}(b:jT P base ext)(hm:P.follows .mixedOrders=true)(h:Ev P H ext f args bs r a):fJ P base f args bs r a:=by
 obtain⟨N,h⟩:=h
 exact eQ b hm N f args bs r a (h N (Nat.le_refl _))
end
end Go.Dw
