
import Derived.Test.YthkfkgoddhehcaaGreatDwFun
import Derived.IntWalk

namespace Go.Dw
abbrev A(R:List (Nat×RV))(B:List (Nat×Box)):St:=⟨assoc R,assoc B⟩
def Ev(P:Program)(H:Hints)(ext:FuncId->Option tI)(f:FuncId)(args:List RV)(bs:List Box)(r:RV)(a:List Box):Prop:=
 ∃N,∀n,N<=n->ub P H ext n f args bs=some (r,a)
def WO(P:Program)(H:Hints)(ext:FuncId->Option tI)(mt:Hf)(ops:Array Oper)(l:List Oper)(R:List (Nat×RV))(B:List (Nat×Box))(K:List (Nat×RV)->List (Nat×Box)->List Tr->Prop):Prop:=
 ∃c a ts,(∃N,∀n,N<=n->ve P mt (ub P H ext n) ops l (A R B)=some (A c a,ts))∧K c a ts
def WC(P:Program)(H:Hints)(ext:FuncId->Option tI)(f:FuncId)(nb:Nat)(c:Code)(R:List (Nat×RV))(B:List (Nat×Box))(Q:Ex->List (Nat×RV)->List (Nat×Box)->Prop):Prop:=
 ∃e g a,(∃N,∀n,N<=n->tW P H f nb (ub P H ext n) n c (A R B)=some (e,A g a))∧Q e g a
def putR(d:Option Nat)(v:RV)(R:List (Nat×RV)):List (Nat×RV):=match d with|some d=>(d,v)::R|none=>R
def zI:Ups->List (Nat×Box)->List (Nat×Box)
 | [],B=>B
 |x::u,B=>zI u (x::B)
theorem put_A(d:Option Nat)(v:RV)(R:List (Nat×RV))(B:List (Nat×Box)):(A R B).put d v=A (putR d v R) B:=by cases d<;>rfl
theorem ups_A:∀(u:Ups)(R:List (Nat×RV))(B:List (Nat×Box)),(A R B).ups u=A R (zI u B)
 | [],_,_=>rfl
 |(id,b)::u,R,B=>ups_A u R ((id,b)::B)
section
variable {P:Program}{H:Hints}{ext:FuncId->Option tI}{mt:Hf}{ops:Array Oper}{l:List Oper}{R:List (Nat×RV)}{B:List (Nat×Box)}{K:List (Nat×RV)->List (Nat×Box)->List Tr->Prop}{o:Oper}{d:Nat}
theorem WO.nil(h:K R B []):WO P H ext mt ops [] R B K:=⟨R,B,[],⟨0,λ_ _=>rfl⟩,h⟩
theorem WO.step'{v:RV}{u:Ups}{rd:List Nat}(hw:tz ops (A R B) o=some true)(p:o.dst=some d)(he:∃N,∀n,N<=n->tP P mt (ub P H ext n) (A R B) o (assoc B)=some ((v,u),rd,true))
  (h:WO P H ext mt ops l ((d,v)::R) (zI u B) λc a ts=>K c a (⟨rd,u.map (·.1)⟩::ts)):WO P H ext mt ops (o::l) R B K:=by
 obtain⟨c,a,ts,⟨N,k⟩,j⟩:=h
 obtain⟨g,he⟩:=he
 refine⟨c,a,_,⟨N+g,λn q=>?_⟩,j⟩
 have hs:vH P mt (ub P H ext n) ops o (A R B)=some (A ((d,v)::R) (zI u B),⟨rd,u.map (·.1)⟩):=by
  rw [Ac hw (he n za),ups_A,put_A,p];rfl
 simp only [ve,hs,k n za]
theorem WO.step{v:RV}{u:Ups}{rd:List Nat}{c:Bool}(hw:tz ops (A R B) o=some true)(j:o.dst=some d)(he:∀n,tP P mt (ub P H ext n) (A R B) o (assoc B)=some ((v,u),rd,c))(hc:c=true)
  (h:WO P H ext mt ops l ((d,v)::R) (zI u B) λg a ts=>K g a (⟨rd,u.map (·.1)⟩::ts)):WO P H ext mt ops (o::l) R B K:=by
 subst hc
 exact WO.step' hw j ⟨0,λn _=>he n⟩ h
theorem WO.skip(hw:tz ops (A R B) o=some false)(k:o.dst=some d)(h:WO P H ext mt ops l ((d,.undef)::R) B λc a ts=>K c a (⟨[],[]⟩::ts)):WO P H ext mt ops (o::l) R B K:=by
 obtain⟨c,a,ts,⟨N,j⟩,g⟩:=h
 refine⟨c,a,_,⟨N,λn p=>?_⟩,g⟩
 have hs:vH P mt (ub P H ext n) ops o (A R B)=some (A ((d,.undef)::R) B,⟨[],[]⟩):=by
  rw [zD hw,put_A,k];rfl
 simp only [ve,hs,j n p]
theorem WO.Dc{v:RV}{u:Ups}{rd:List Nat}{c:Bool}(hw:tz ops (A R B) o=some true)(p:o.dst=none)(he:∀n,tP P mt (ub P H ext n) (A R B) o (assoc B)=some ((v,u),rd,c))(hc:c=true)
  (h:WO P H ext mt ops l R (zI u B) λg a ts=>K g a (⟨rd,u.map (·.1)⟩::ts)):WO P H ext mt ops (o::l) R B K:=by
 subst hc
 obtain⟨g,a,ts,⟨N,k⟩,j⟩:=h
 refine⟨g,a,_,⟨N,λn q=>?_⟩,j⟩
 have hs:vH P mt (ub P H ext n) ops o (A R B)=some (A R (zI u B),⟨rd,u.map (·.1)⟩):=by
  rw [Ac hw (he n),ups_A,put_A,p];rfl
 simp only [ve,hs,k n q]
theorem WO.CG{g:FuncId}{args as:List RV}{ids x y rg p:List Nat}{u0:Ups}{c k a:List Box}{r v:RV}{u:Ups}{j:List RV}
  (hw:tz ops (A R B) o=some true) (J:o.dst=some d)
  (he:∀call,tP P mt call (A R B) o (assoc B)=vA mt.by_ call g (d*16) args (assoc B))
  (D:xx (mt.by_ g) 0 args (assoc B)=some ((as,u0),x,true)) (G:vT 64 [] (as.flatMap Br) (assoc B)=some (ids,y,true)) (F:xB ids (assoc B)=some (c,rg,true))
  (has:as.map (uZ (wL ids c))=j) (q:c.map (vU (wL ids c) λ_=>0)=k)
  (E:Ev P H ext g j k r a)
  (hc:(decide (ids.length<=a.length)&&(nodup ids&&Bj ids (u0.map (·.1))))=true)
  (hV:vr (vn (d*16) (a.length-ids.length)) (assoc B)=some ((),p,true))
  (L:uZ (yD (ids++vn (d*16) (a.length-ids.length)) c a) r=v)
  (hu:Bd u0 ids a r (yC (ids++vn (d*16) (a.length-ids.length)) c a)=u)
  (h:WO P H ext mt ops l ((d,v)::R) (zI u B) λC z ts=>K C z (⟨x++(y++(rg++(p++[]))),u.map (·.1)⟩::ts)):WO P H ext mt ops (o::l) R B K:=by
 obtain⟨N,I⟩:=E
 simp only [Bool.and_eq_true,decide_eq_true_eq]at hc
 refine WO.step' hw J ⟨N,λn t=>?_⟩ h
 rw [he]
 subst has q L hu
 simp only [vA,M.bind,D,G,F,I n t,hc,and_self,if_true,hV,M.pure,Bool.and_true]
theorem WO.zN{e:TypeId}{c vl:RV}{ul:Ups}{D:List Nat}{g:FuncId}{args as:List RV}{ids z C rg q:List Nat}{u0:Ups}{j p a:List Box}{r v:RV}{u:Ups}{k:List RV}
  (hw:tz ops (A R B) o=some true) (T:o.dst=some d)
  (he:∀call,tP P mt call (A R B) o (assoc B)=M.bind (wg P e c) (λx=>vA mt.by_ call g (d*16) (x.1::args)) (assoc B))
  (W:wg P e c (assoc B)=some ((vl,ul),D,true))
  (G:xx (mt.by_ g) 0 (vl::args) (assoc B)=some ((as,u0),z,true)) (L:vT 64 [] (as.flatMap Br) (assoc B)=some (ids,C,true)) (J:xB ids (assoc B)=some (j,rg,true))
  (has:as.map (uZ (wL ids j))=k) (t:j.map (vU (wL ids j) λ_=>0)=p)
  (I:Ev P H ext g k p r a)
  (hc:(decide (ids.length<=a.length)&&(nodup ids&&Bj ids (u0.map (·.1))))=true)
  (hV:vr (vn (d*16) (a.length-ids.length)) (assoc B)=some ((),q,true))
  (X:uZ (yD (ids++vn (d*16) (a.length-ids.length)) j a) r=v)
  (hu:Bd u0 ids a r (yC (ids++vn (d*16) (a.length-ids.length)) j a)=u)
  (h:WO P H ext mt ops l ((d,v)::R) (zI u B) λF E ts=>K F E (⟨D++(z++(C++(rg++(q++[])))),u.map (·.1)⟩::ts)):WO P H ext mt ops (o::l) R B K:=by
 obtain⟨N,O⟩:=I
 simp only [Bool.and_eq_true,decide_eq_true_eq]at hc
 refine WO.step' hw T ⟨N,λn y=>?_⟩ h
 rw [he]
 subst has t X hu
 simp only [vA,M.bind,W,G,L,J,O n y,hc,and_self,if_true,hV,M.pure,Bool.and_true]
end
section
variable {P:Program}{H:Hints}{ext:FuncId->Option tI}{f:FuncId}{nb:Nat}{R:List (Nat×RV)}{B:List (Nat×Box)}{Q:Ex->List (Nat×RV)->List (Nat×Box)->Prop}
theorem WC.skip(h:Q .normal R B):WC P H ext f nb .skip R B Q:=⟨_,R,B,⟨0,λ_ _=>rfl⟩,h⟩
theorem WC.ret(h:Q .ret R B):WC P H ext f nb .ret R B Q:=⟨_,R,B,⟨0,λ_ _=>rfl⟩,h⟩
theorem WC.exit{id:Nat}(h:Q (.exit id) R B):WC P H ext f nb (.exit id) R B Q:=⟨_,R,B,⟨0,λ_ _=>rfl⟩,h⟩
theorem WC.BV{id:Nat}{ops:Array Oper}{g:Bool}{R0:List (Nat×RV)}{B0:List (Nat×Box)}(p:tH P nb (A R B) (H.at_ f nb id)=some (A R0 B0))
  (h:WO P H ext (H.hf f) ops ops.toList R0 B0 λc a ts=>(g=true->wM ops ts=true)∧Q .normal c a):WC P H ext f nb (.region id ops g) R B Q:=by
 obtain⟨c,a,ts,⟨N,j⟩,ho,k⟩:=h
 refine⟨_,c,a,⟨N,λn q=>?_⟩,k⟩
 simp only [tW,zU,p,j n q]
 cases g with
 |false=>simp
 |true=>simp [ho rfl]
theorem WC.region{id:Nat}{ops:Array Oper}{l:List Oper}{R0:List (Nat×RV)}{B0:List (Nat×Box)}(k:tH P nb (A R B) (H.at_ f nb id)=some (A R0 B0))(p:ops.toList=l)
  (h:WO P H ext (H.hf f) ops l R0 B0 λc a _=>Q .normal c a):WC P H ext f nb (.region id ops false) R B Q:=by
 subst p
 obtain⟨c,a,ts,g,j⟩:=h
 exact WC.BV k ⟨c,a,ts,g,⟨(λh=>by cases h),j⟩⟩
theorem WC.uI{id:Nat}{ops:Array Oper}{l:List Oper}{R0:List (Nat×RV)}{B0:List (Nat×Box)}(k:tH P nb (A R B) (H.at_ f nb id)=some (A R0 B0))(p:ops.toList=l)
  (h:WO P H ext (H.hf f) ops l R0 B0 λc a ts=>wM ops ts=true∧Q .normal c a):WC P H ext f nb (.region id ops true) R B Q:=by
 subst p
 obtain⟨c,a,ts,g,h1,j⟩:=h
 exact WC.BV k ⟨c,a,ts,g,⟨(λ_=>h1),j⟩⟩
theorem WC.seq{a b:Code}(h:WC P H ext f nb a R B λe g c=>match e with| .normal=>WC P H ext f nb b g c Q|e=>Q e g c):WC P H ext f nb (.seq a b) R B Q:=by
 obtain⟨e,g,c,⟨N,q⟩,h⟩:=h
 cases e with
 |normal=>
  obtain⟨e,p,k,⟨t,r⟩,h⟩:=h
  exact⟨e,p,k,⟨N+t,λn j=>by simp only [tW,q n za,r n za]⟩,h⟩
 |exit id=>exact⟨_,g,c,⟨N,λn j=>by simp only [tW,q n j]⟩,h⟩
 |ret=>exact⟨_,g,c,⟨N,λn j=>by simp only [tW,q n j]⟩,h⟩
theorem WC.uR{id:Nat}{ops:Array Oper}{l:List Oper}{R0:List (Nat×RV)}{B0:List (Nat×Box)}{b:Code}(g:tH P nb (A R B) (H.at_ f nb id)=some (A R0 B0))(j:ops.toList=l)
  (h:WO P H ext (H.hf f) ops l R0 B0 λc a _=>WC P H ext f nb b c a Q):WC P H ext f nb (.seq (.region id ops false) b) R B Q:=WC.seq (WC.region g j h)
theorem WC.tw{id:Nat}{ops:Array Oper}{l:List Oper}{R0:List (Nat×RV)}{B0:List (Nat×Box)}{b:Code}(g:tH P nb (A R B) (H.at_ f nb id)=some (A R0 B0))(j:ops.toList=l)
  (h:WO P H ext (H.hf f) ops l R0 B0 λc a ts=>wM ops ts=true∧WC P H ext f nb b c a Q):WC P H ext f nb (.seq (.region id ops true) b) R B Q:=WC.seq (WC.uI g j h)
theorem WC.cond{c:Operand}{a b:Code}{t:Bool}(hc:(A R B).opd c=some (.d (.bool t)))(h1:t=true->WC P H ext f nb a R B Q)(q:t=false->WC P H ext f nb b R B Q):WC P H ext f nb (.cond c a b) R B Q:=by
 cases t with
 |true=>
  obtain⟨e,j,g,⟨N,k⟩,h⟩:=h1 rfl
  exact⟨e,j,g,⟨N,λn p=>by simp only [tW,hc,if_true,k n p]⟩,h⟩
 |false=>
  obtain⟨e,j,g,⟨N,k⟩,h⟩:=q rfl
  exact⟨e,j,g,⟨N,λn p=>by simp only [tW,hc,Bool.false_eq_true,if_false,k n p]⟩,h⟩
theorem WC.condT{c:Operand}{a b:Code}(hc:(A R B).opd c=some (.d (.bool true)))(h1:WC P H ext f nb a R B Q):WC P H ext f nb (.cond c a b) R B Q:=WC.cond hc (λ_=>h1) (λh=>by cases h)
theorem WC.condF{c:Operand}{a b:Code}(hc:(A R B).opd c=some (.d (.bool false)))(h1:WC P H ext f nb b R B Q):WC P H ext f nb (.cond c a b) R B Q:=WC.cond hc (λh=>by cases h) (λ_=>h1)
theorem WC.scope{b:Code}(h:WC P H ext f nb b R B Q):WC P H ext f nb (.scope b) R B Q:=h
theorem WC.label{l:Nat}(h:Q .normal R B):WC P H ext f nb (.label l) R B Q:=⟨.normal,R,B,⟨0,λ_ _=>rfl⟩,h⟩
theorem WC.block{id:Nat}{b:Code}(h:WC P H ext f nb b R B λe j g=>match e with| .exit a=>(a=id->Q .normal j g)∧(a≠id->Q (.exit a) j g)|e=>Q e j g):WC P H ext f nb (.block id b) R B Q:=by
 obtain⟨e,j,g,⟨N,p⟩,h⟩:=h
 cases e with
 |exit a=>
  by_cases c:a=id
  ·exact⟨.normal,j,g,⟨N,λn k=>by simp only [tW,p n k,c,if_true]⟩,h.1 c⟩
  ·exact⟨.exit a,j,g,⟨N,λn k=>by simp only [tW,p n k,c,if_false]⟩,h.2 c⟩
 |normal=>exact⟨_,j,g,⟨N,λn k=>by simp only [tW,p n k]⟩,h⟩
 |ret=>exact⟨_,j,g,⟨N,λn k=>by simp only [tW,p n k]⟩,h⟩
def WL(P:Program)(H:Hints)(ext:FuncId->Option tI)(f:FuncId)(nb:Nat)(c:Code)(R:List (Nat×RV))(B:List (Nat×Box))(Q:Ex->List (Nat×RV)->List (Nat×Box)->Prop):Prop:=
 ∃e g a,(∃N,∀n m,N<=n->N<=m->xN (tW P H f nb (ub P H ext n) n c) m (A R B)=some (e,A g a))∧Q e g a
theorem WL.round{b:Code}(h:WC P H ext f nb b R B λe c a=>match e with| .normal=>WL P H ext f nb b c a Q|e=>Q e c a):WL P H ext f nb b R B Q:=by
 obtain⟨e,c,a,⟨N,p⟩,h⟩:=h
 cases e with
 |normal=>
  obtain⟨e,j,g,⟨t,q⟩,h⟩:=h
  refine⟨e,j,g,⟨N+t+1,λn m r hm=>?_⟩,h⟩
  obtain⟨m,rfl⟩:∃k,m=k+1:=⟨m-1,za⟩
  simp only [xN,p n za,q n m za za]
 |exit id=>
  refine⟨_,c,a,⟨N+1,λn m r hm=>?_⟩,h⟩
  obtain⟨m,rfl⟩:∃k,m=k+1:=⟨m-1,za⟩
  simp only [xN,p n za]
 |ret=>
  refine⟨_,c,a,⟨N+1,λn m r hm=>?_⟩,h⟩
  obtain⟨m,rfl⟩:∃k,m=k+1:=⟨m-1,za⟩
  simp only [xN,p n za]
theorem WC.loop{b:Code}(h:WL P H ext f nb b R B Q):WC P H ext f nb (.loop b) R B Q:=by
 obtain⟨e,g,c,⟨N,j⟩,h⟩:=h
 exact⟨e,g,c,⟨N,λn a=>by simp only [tW];exact j n n a a⟩,h⟩
def vh(P:Program)(own:Nat->Bool)(fn:Func)(nb:Nat)(r:RV)(a:List Box):Ex->List (Nat×RV)->List (Nat×Box)->Prop
 | .exit _,_,_=>False
 |_,R,B=>finish P own fn nb (A R B)=some (r,a)
theorem WC.done{own:Nat->Bool}{fn:Func}{r:RV}{a:List Box}{x:RV×List Box}{e:Ex}(he:(match e with| .exit _=>false|_=>true)=true)(hf:finish P own fn nb (A R B)=some x)(c:x=(r,a)):vh P own fn nb r a e R B:=by
 subst c
 cases e with
 |exit id=>cases he
 |normal=>exact hf
 |ret=>exact hf
def yt{α:Type}:Nat->List α->List (Nat×α)
 |_,[]=>[]
 |k,a::l=>(k,a)::yt (k+1) l
theorem A8{α:Type}:∀(l:List α)(k i:Nat),assoc (yt k l) (k+i)=look l i
 | [],_,_=>rfl
 |a::l,k,0=>by simp [yt,assoc,look]
 |a::l,k,i+1=>by
  have h:¬k+(i+1)=k:=by omega
  simp only [yt,assoc,h,if_false,look]
  rw [<-A8 l (k+1) i,Nat.add_right_comm];rfl
theorem look_A(args:List RV)(bs:List Box):(⟨look args,look bs⟩:St)=A (yt 0 args) (yt 0 bs):=by
 have h:∀{α:Type}(l:List α),look l=assoc (yt 0 l):=λl=>funext λi=>by rw [<-A8 l 0 i,Nat.zero_add]
 rw [h args,h bs]
theorem Ev.body {args : List RV} {bs a : List Box} {r : RV} {fn : Func} {c : Code} (q : ext f = none) (hf : P.funcs[f]? = some fn) (j : fn.body = some c) (p : (zS fn.ntmps c && (fn.name != "runtime.NumGoroutine") && decide (args.length ≤ fn.ntmps) && bs.all (λb => verB b == 0)) = true)
  (h:WC P H ext f bs.length c (yt 0 args) (yt 0 bs) (vh P (H.own f) fn bs.length r a)):Ev P H ext f args bs r a:=by
 obtain⟨e,u,t,⟨N,g⟩,h⟩:=h
 refine⟨N+1,λn x=>?_⟩
 obtain⟨n,rfl⟩:∃k,n=k+1:=⟨n-1,za⟩
 simp only [ub,q,hf,j,p,if_true,look_A,g n za]
 cases e with
 |exit id=>cases h
 |normal=>exact h
 |ret=>exact h
theorem Ev.lib{args:List RV}{bs a:List Box}{r:RV}{g:tI}(j:ext f=some g)(c:g f args bs=some (r,a)):Ev P H ext f args bs r a:=by
 refine⟨1,λn p=>?_⟩
 obtain⟨n,rfl⟩:∃k,n=k+1:=⟨n-1,za⟩
 simp only [ub,j,c]
theorem Ev.B8{base:wX}{args:List RV}{bs a:List Box}{r:RV}(c:zJ P base ext)(hm:P.follows .mixedOrders=true)(h:Ev P H ext f args bs r a):uM P base f args bs r a:=by
 obtain⟨N,h⟩:=h
 exact uL c hm N f args bs r a (h N (Nat.le_refl _))
end
end Go.Dw
