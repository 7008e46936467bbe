
import Derived.Test.YthadlbjoiidkjaaGreatDoorDwFun
import Derived.IntWalk

namespace Go.Dw
abbrev A(R:List (Nat×RV))(B:List (Nat×Box)):St:=⟨assoc R,assoc B⟩
def Ev(P:Program)(H:Hints)(ext:FuncId->Option pT)(f:FuncId)(args:List RV)(bs:List Box)(r:RV)(bs':List Box):Prop:=
 ∃N,∀n,N<=n->qw P H ext n f args bs=some (r,bs')
def WO(P:Program)(H:Hints)(ext:FuncId->Option pT)(mt:Hf)(ops:Array Oper)(l:List Oper)(R:List (Nat×RV))(B:List (Nat×Box))(K:List (Nat×RV)->List (Nat×Box)->List Tr->Prop):Prop:=
 ∃R' B' ts,(∃N,∀n,N<=n->rj P mt (qw P H ext n) ops l (A R B)=some (A R' B',ts))∧K R' B' ts
def WC(P:Program)(H:Hints)(ext:FuncId->Option pT)(f:FuncId)(nb:Nat)(c:Code)(R:List (Nat×RV))(B:List (Nat×Box))(Q:Ex->List (Nat×RV)->List (Nat×Box)->Prop):Prop:=
 ∃e R' B',(∃N,∀n,N<=n->pZ P H f nb (qw P H ext n) n c (A R B)=some (e,A R' B'))∧Q e R' B'
def putR(d:Option Nat)(v:RV)(R:List (Nat×RV)):List (Nat×RV):=match d with|some d=>(d,v)::R|none=>R
def xK:Ups->List (Nat×Box)->List (Nat×Box)
 | [],B=>B
 |x::u,B=>xK u (x::B)
theorem put_A(d:Option Nat)(v:RV)(R:List (Nat×RV))(B:List (Nat×Box)):(A R B).put d v=A (putR d v R) B:=by cases d<;>rfl
theorem ups_A:∀(u:Ups)(R:List (Nat×RV))(B:List (Nat×Box)),(A R B).ups u=A R (xK u B)
 | [],_,_=>rfl
 |(id,b)::u,R,B=>ups_A u R ((id,b)::B)
section
variable {P:Program}{H:Hints}{ext:FuncId->Option pT}{mt:Hf}{ops:Array Oper}{l:List Oper}{R:List (Nat×RV)}{B:List (Nat×Box)}{K:List (Nat×RV)->List (Nat×Box)->List Tr->Prop}{o:Oper}{d:Nat}
theorem WO.nil(h:K R B []):WO P H ext mt ops [] R B K:=⟨R,B,[],⟨0,fun _ _=>rfl⟩,h⟩
theorem WO.step'{v:RV}{u:Ups}{rd:List Nat}(hw:pL ops (A R B) o=some true)(hd:o.dst=some d)(he:∃N,∀n,N<=n->pX P mt (qw P H ext n) (A R B) o (assoc B)=some ((v,u),rd,true))
  (h:WO P H ext mt ops l ((d,v)::R) (xK u B) fun R' B' ts=>K R' B' (⟨rd,u.map (·.1)⟩::ts)):WO P H ext mt ops (o::l) R B K:=by
 obtain⟨R',B',ts,⟨N,hN⟩,hK⟩:=h
 obtain⟨N',he⟩:=he
 refine⟨R',B',_,⟨N+N',fun n hn=>?_⟩,hK⟩
 have hs:step1 P mt (qw P H ext n) ops o (A R B)=some (A ((d,v)::R) (xK u B),⟨rd,u.map (·.1)⟩):=by
  rw [wL hw (he n za),ups_A,put_A,hd];rfl
 simp only [rj,hs,hN n za]
theorem WO.step{v:RV}{u:Ups}{rd:List Nat}{c:Bool}(hw:pL ops (A R B) o=some true)(hd:o.dst=some d)(he:∀n,pX P mt (qw P H ext n) (A R B) o (assoc B)=some ((v,u),rd,c))(hc:c=true)
  (h:WO P H ext mt ops l ((d,v)::R) (xK u B) fun R' B' ts=>K R' B' (⟨rd,u.map (·.1)⟩::ts)):WO P H ext mt ops (o::l) R B K:=by
 subst hc
 exact WO.step' hw hd ⟨0,fun n _=>he n⟩ h
theorem WO.skip(hw:pL ops (A R B) o=some false)(hd:o.dst=some d)(h:WO P H ext mt ops l ((d,.undef)::R) B fun R' B' ts=>K R' B' (⟨[],[]⟩::ts)):WO P H ext mt ops (o::l) R B K:=by
 obtain⟨R',B',ts,⟨N,hN⟩,hK⟩:=h
 refine⟨R',B',_,⟨N,fun n hn=>?_⟩,hK⟩
 have hs:step1 P mt (qw P H ext n) ops o (A R B)=some (A ((d,.undef)::R) B,⟨[],[]⟩):=by
  rw [wi hw,put_A,hd];rfl
 simp only [rj,hs,hN n hn]
theorem WO.zf{v:RV}{u:Ups}{rd:List Nat}{c:Bool}(hw:pL ops (A R B) o=some true)(hd:o.dst=none)(he:∀n,pX P mt (qw P H ext n) (A R B) o (assoc B)=some ((v,u),rd,c))(hc:c=true)
  (h:WO P H ext mt ops l R (xK u B) fun R' B' ts=>K R' B' (⟨rd,u.map (·.1)⟩::ts)):WO P H ext mt ops (o::l) R B K:=by
 subst hc
 obtain⟨R',B',ts,⟨N,hN⟩,hK⟩:=h
 refine⟨R',B',_,⟨N,fun n hn=>?_⟩,hK⟩
 have hs:step1 P mt (qw P H ext n) ops o (A R B)=some (A R (xK u B),⟨rd,u.map (·.1)⟩):=by
  rw [wL hw (he n),ups_A,put_A,hd];rfl
 simp only [rj,hs,hN n hn]
theorem WO.pV{g:FuncId}{args as:List RV}{ids ra ri rg rv':List Nat}{u0:Ups}{bxs bs0 bs':List Box}{r v:RV}{u:Ups}{as':List RV}
  (hw:pL ops (A R B) o=some true) (hd:o.dst=some d)
  (he:∀call,pX P mt call (A R B) o (assoc B)=sk mt.by_ call g (d*16) args (assoc B))
  (hA:vJ (mt.by_ g) 0 args (assoc B)=some ((as,u0),ra,true)) (hI:tj 64 [] (as.flatMap idsV) (assoc B)=some (ids,ri,true)) (hG:vP ids (assoc B)=some (bxs,rg,true))
  (has:as.map (rX (uO ids bxs))=as') (hbs:bxs.map (sj (uO ids bxs) fun _=>0)=bs0)
  (hE:Ev P H ext g as' bs0 r bs')
  (hc:(decide (ids.length<=bs'.length)&&(nodup ids&&disj ids (u0.map (·.1))))=true)
  (hV:sh (tF (d*16) (bs'.length-ids.length)) (assoc B)=some ((),rv',true))
  (hr:rX (yr (ids++tF (d*16) (bs'.length-ids.length)) bxs bs') r=v)
  (hu:zX u0 ids bs' r (yq (ids++tF (d*16) (bs'.length-ids.length)) bxs bs')=u)
  (h:WO P H ext mt ops l ((d,v)::R) (xK u B) fun R' B' ts=>K R' B' (⟨ra++(ri++(rg++(rv'++[]))),u.map (·.1)⟩::ts)):WO P H ext mt ops (o::l) R B K:=by
 obtain⟨N,hN⟩:=hE
 simp only [Bool.and_eq_true,decide_eq_true_eq]at hc
 refine WO.step' hw hd ⟨N,fun n hn'=>?_⟩ h
 rw [he]
 subst has hbs hr hu
 simp only [sk,M.bind,hA,hI,hG,hN n hn',hc,and_self,if_true,hV,M.pure,Bool.and_true]
end
section
variable {P:Program}{H:Hints}{ext:FuncId->Option pT}{f:FuncId}{nb:Nat}{R:List (Nat×RV)}{B:List (Nat×Box)}{Q:Ex->List (Nat×RV)->List (Nat×Box)->Prop}
theorem WC.skip(h:Q .normal R B):WC P H ext f nb .skip R B Q:=⟨_,R,B,⟨0,fun _ _=>rfl⟩,h⟩
theorem WC.ret(h:Q .ret R B):WC P H ext f nb .ret R B Q:=⟨_,R,B,⟨0,fun _ _=>rfl⟩,h⟩
theorem WC.exit{id:Nat}(h:Q (.exit id) R B):WC P H ext f nb (.exit id) R B Q:=⟨_,R,B,⟨0,fun _ _=>rfl⟩,h⟩
theorem WC.y7{id:Nat}{ops:Array Oper}{dr:Bool}{R0:List (Nat×RV)}{B0:List (Nat×Box)}(hg:p6 P nb (A R B) (H.at_ f nb id)=some (A R0 B0))
  (h:WO P H ext (H.hf f) ops ops.toList R0 B0 fun R' B' ts=>(dr=true->wF ops ts=true)∧Q .normal R' B'):WC P H ext f nb (.region id ops dr) R B Q:=by
 obtain⟨R',B',ts,⟨N,hN⟩,ho,hQ⟩:=h
 refine⟨_,R',B',⟨N,fun n hn=>?_⟩,hQ⟩
 simp only [pZ,wB,hg,hN n hn]
 cases dr with
 |false=>simp
 |true=>simp [ho rfl]
theorem WC.region{id:Nat}{ops:Array Oper}{l:List Oper}{R0:List (Nat×RV)}{B0:List (Nat×Box)}(hg:p6 P nb (A R B) (H.at_ f nb id)=some (A R0 B0))(hl:ops.toList=l)
  (h:WO P H ext (H.hf f) ops l R0 B0 fun R' B' _=>Q .normal R' B'):WC P H ext f nb (.region id ops false) R B Q:=by
 subst hl
 obtain⟨R',B',ts,hN,hQ⟩:=h
 exact WC.y7 hg ⟨R',B',ts,hN,⟨(fun h=>by cases h),hQ⟩⟩
theorem WC.rC{id:Nat}{ops:Array Oper}{l:List Oper}{R0:List (Nat×RV)}{B0:List (Nat×Box)}(hg:p6 P nb (A R B) (H.at_ f nb id)=some (A R0 B0))(hl:ops.toList=l)
  (h:WO P H ext (H.hf f) ops l R0 B0 fun R' B' ts=>wF ops ts=true∧Q .normal R' B'):WC P H ext f nb (.region id ops true) R B Q:=by
 subst hl
 obtain⟨R',B',ts,hN,h1,hQ⟩:=h
 exact WC.y7 hg ⟨R',B',ts,hN,⟨(fun _=>h1),hQ⟩⟩
theorem WC.seq{a b:Code}(h:WC P H ext f nb a R B fun e R' B'=>match e with| .normal=>WC P H ext f nb b R' B' Q|e=>Q e R' B'):WC P H ext f nb (.seq a b) R B Q:=by
 obtain⟨e,R',B',⟨N,hN⟩,h⟩:=h
 cases e with
 |normal=>
  obtain⟨e,R'',B'',⟨N',hN'⟩,h⟩:=h
  exact⟨e,R'',B'',⟨N+N',fun n hn=>by simp only [pZ,hN n za,hN' n za]⟩,h⟩
 |exit id=>exact⟨_,R',B',⟨N,fun n hn=>by simp only [pZ,hN n hn]⟩,h⟩
 |ret=>exact⟨_,R',B',⟨N,fun n hn=>by simp only [pZ,hN n hn]⟩,h⟩
theorem WC.qv{id:Nat}{ops:Array Oper}{l:List Oper}{R0:List (Nat×RV)}{B0:List (Nat×Box)}{b:Code}(hg:p6 P nb (A R B) (H.at_ f nb id)=some (A R0 B0))(hl:ops.toList=l)
  (h:WO P H ext (H.hf f) ops l R0 B0 fun R' B' _=>WC P H ext f nb b R' B' Q):WC P H ext f nb (.seq (.region id ops false) b) R B Q:=WC.seq (WC.region hg hl h)
theorem WC.lU{id:Nat}{ops:Array Oper}{l:List Oper}{R0:List (Nat×RV)}{B0:List (Nat×Box)}{b:Code}(hg:p6 P nb (A R B) (H.at_ f nb id)=some (A R0 B0))(hl:ops.toList=l)
  (h:WO P H ext (H.hf f) ops l R0 B0 fun R' B' ts=>wF ops ts=true∧WC P H ext f nb b R' B' Q):WC P H ext f nb (.seq (.region id ops true) b) R B Q:=WC.seq (WC.rC hg hl h)
theorem WC.cond{c:Operand}{a b:Code}{t:Bool}(hc:(A R B).opd c=some (.d (.bool t)))(h1:t=true->WC P H ext f nb a R B Q)(h2:t=false->WC P H ext f nb b R B Q):WC P H ext f nb (.cond c a b) R B Q:=by
 cases t with
 |true=>
  obtain⟨e,R',B',⟨N,hN⟩,h⟩:=h1 rfl
  exact⟨e,R',B',⟨N,fun n hn=>by simp only [pZ,hc,if_true,hN n hn]⟩,h⟩
 |false=>
  obtain⟨e,R',B',⟨N,hN⟩,h⟩:=h2 rfl
  exact⟨e,R',B',⟨N,fun n hn=>by simp only [pZ,hc,Bool.false_eq_true,if_false,hN n hn]⟩,h⟩
theorem WC.condT{c:Operand}{a b:Code}(hc:(A R B).opd c=some (.d (.bool true)))(h1:WC P H ext f nb a R B Q):WC P H ext f nb (.cond c a b) R B Q:=WC.cond hc (fun _=>h1) (fun h=>by cases h)
theorem WC.condF{c:Operand}{a b:Code}(hc:(A R B).opd c=some (.d (.bool false)))(h1:WC P H ext f nb b R B Q):WC P H ext f nb (.cond c a b) R B Q:=WC.cond hc (fun h=>by cases h) (fun _=>h1)
theorem WC.scope{b:Code}(h:WC P H ext f nb b R B Q):WC P H ext f nb (.scope b) R B Q:=h
theorem WC.label{l:Nat}(h:Q .normal R B):WC P H ext f nb (.label l) R B Q:=⟨.normal,R,B,⟨0,fun _ _=>rfl⟩,h⟩
theorem WC.block{id:Nat}{b:Code}(h:WC P H ext f nb b R B fun e R' B'=>match e with| .exit id'=>(id'=id->Q .normal R' B')∧(id'≠id->Q (.exit id') R' B')|e=>Q e R' B'):WC P H ext f nb (.block id b) R B Q:=by
 obtain⟨e,R',B',⟨N,hN⟩,h⟩:=h
 cases e with
 |exit id'=>
  by_cases hid:id'=id
  ·exact⟨.normal,R',B',⟨N,fun n hn=>by simp only [pZ,hN n hn,hid,if_true]⟩,h.1 hid⟩
  ·exact⟨.exit id',R',B',⟨N,fun n hn=>by simp only [pZ,hN n hn,hid,if_false]⟩,h.2 hid⟩
 |normal=>exact⟨_,R',B',⟨N,fun n hn=>by simp only [pZ,hN n hn]⟩,h⟩
 |ret=>exact⟨_,R',B',⟨N,fun n hn=>by simp only [pZ,hN n hn]⟩,h⟩
def WL(P:Program)(H:Hints)(ext:FuncId->Option pT)(f:FuncId)(nb:Nat)(c:Code)(R:List (Nat×RV))(B:List (Nat×Box))(Q:Ex->List (Nat×RV)->List (Nat×Box)->Prop):Prop:=
 ∃e R' B',(∃N,∀n m,N<=n->N<=m->uv (pZ P H f nb (qw P H ext n) n c) m (A R B)=some (e,A R' B'))∧Q e R' B'
theorem WL.round{b:Code}(h:WC P H ext f nb b R B fun e R' B'=>match e with| .normal=>WL P H ext f nb b R' B' Q|e=>Q e R' B'):WL P H ext f nb b R B Q:=by
 obtain⟨e,R',B',⟨N,hN⟩,h⟩:=h
 cases e with
 |normal=>
  obtain⟨e,R'',B'',⟨N',hN'⟩,h⟩:=h
  refine⟨e,R'',B'',⟨N+N'+1,fun n m hn hm=>?_⟩,h⟩
  obtain⟨m,rfl⟩:∃k,m=k+1:=⟨m-1,za⟩
  simp only [uv,hN n za,hN' n m za za]
 |exit id=>
  refine⟨_,R',B',⟨N+1,fun n m hn hm=>?_⟩,h⟩
  obtain⟨m,rfl⟩:∃k,m=k+1:=⟨m-1,za⟩
  simp only [uv,hN n za]
 |ret=>
  refine⟨_,R',B',⟨N+1,fun n m hn hm=>?_⟩,h⟩
  obtain⟨m,rfl⟩:∃k,m=k+1:=⟨m-1,za⟩
  simp only [uv,hN n za]
theorem WC.loop{b:Code}(h:WL P H ext f nb b R B Q):WC P H ext f nb (.loop b) R B Q:=by
 obtain⟨e,R',B',⟨N,hN⟩,h⟩:=h
 exact⟨e,R',B',⟨N,fun n hn=>by simp only [pZ];exact hN n n hn hn⟩,h⟩
def Done(P:Program)(own:Nat->Bool)(fn:Func)(nb:Nat)(r:RV)(bs':List Box):Ex->List (Nat×RV)->List (Nat×Box)->Prop
 | .exit _,_,_=>False
 |_,R,B=>finish P own fn nb (A R B)=some (r,bs')
theorem WC.done{own:Nat->Bool}{fn:Func}{r:RV}{bs':List Box}{x:RV×List Box}{e:Ex}(he:(match e with| .exit _=>false|_=>true)=true)(hf:finish P own fn nb (A R B)=some x)(hx:x=(r,bs')):Done P own fn nb r bs' e R B:=by
 subst hx
 cases e with
 |exit id=>cases he
 |normal=>exact hf
 |ret=>exact hf
def wz{α:Type}:Nat->List α->List (Nat×α)
 |_,[]=>[]
 |k,a::l=>(k,a)::wz (k+1) l
theorem xU{α:Type}:∀(l:List α)(k i:Nat),assoc (wz k l) (k+i)=look l i
 | [],_,_=>rfl
 |a::l,k,0=>by simp [wz,assoc,look]
 |a::l,k,i+1=>by
  have h:¬k+(i+1)=k:=by omega
  simp only [wz,assoc,h,if_false,look]
  rw [<-xU l (k+1) i,Nat.add_right_comm];rfl
theorem look_A(args:List RV)(bs:List Box):(⟨look args,look bs⟩:St)=A (wz 0 args) (wz 0 bs):=by
 have h:∀{α:Type}(l:List α),look l=assoc (wz 0 l):=fun l=>funext fun i=>by rw [<-xU l 0 i,Nat.zero_add]
 rw [h args,h bs]
theorem Ev.body {args : List RV} {bs bs' : List Box} {r : RV} {fn : Func} {c : Code} (hx : ext f = none) (hf : P.funcs[f]? = some fn) (hb : fn.body = some c) (hd : (xn fn.ntmps c && (fn.name != "runtime.NumGoroutine") && decide (args.length ≤ fn.ntmps) && bs.all (fun b => verB b == 0)) = true)
  (h:WC P H ext f bs.length c (wz 0 args) (wz 0 bs) (Done P (H.own f) fn bs.length r bs')):Ev P H ext f args bs r bs':=by
 obtain⟨e,R',B',⟨N,hN⟩,h⟩:=h
 refine⟨N+1,fun n hn=>?_⟩
 obtain⟨n,rfl⟩:∃k,n=k+1:=⟨n-1,za⟩
 simp only [qw,hx,hf,hb,hd,if_true,look_A,hN n za]
 cases e with
 |exit id=>cases h
 |normal=>exact h
 |ret=>exact h
theorem Ev.lib{args:List RV}{bs bs':List Box}{r:RV}{g:pT}(hx:ext f=some g)(hg:g f args bs=some (r,bs')):Ev P H ext f args bs r bs':=by
 refine⟨1,fun n hn=>?_⟩
 obtain⟨n,rfl⟩:∃k,n=k+1:=⟨n-1,za⟩
 simp only [qw,hx,hg]
theorem Ev.callOk{base:uT}{args:List RV}{bs bs':List Box}{r:RV}(hext:ExtOk P base ext)(hm:P.follows .mixedOrders=true)(h:Ev P H ext f args bs r bs'):rG P base f args bs r bs':=by
 obtain⟨N,h⟩:=h
 exact xu hext hm N f args bs r bs' (h N (Nat.le_refl _))
end
end Go.Dw
