
import Derived.Test.YtikangmionpjfaaGreatDwWp
set_option linter.unusedVariables false
set_option linter.unusedSimpArgs false
open List renaming length_map->DT, map_append->Dl, map_drop->Dm, map_replicate->Dn, map_set->Dp, map_take->Dq, nil_append->CY, range->CC, replicate->B5
open Bool renaming and_eq_true->C4, and_self->Dr, false_eq_true->Cb
open Option renaming getD_some->Ds

namespace Go.Dw
abbrev EvP(P:Program)(H:Hints)(ext:FuncId->Option pA)(f:FuncId)(args:List RV)(bs:List Box)(p:RV×List Box):Prop:=Ev P H ext f args bs p.1 p.2
def pb{α:Type}(l:List α)(n:Int):Option α:=if 0<=n then l[n.toNat]? else none
def rT(s:List UInt8)(n:Int):Option Int:=if 0<=n∧n<s.length then some ((s.getD n.toNat 0).toNat:Nat)else none
def ue{α:Type}(l:List α)(lo hi:Int):Option (List α):=if 0<=lo∧lo<=hi∧hi<=l.length then some ((l.drop lo.toNat).take (hi.toNat-lo.toNat))else none
def pG{α:Type}(l m:List α)(bytes:Nat):Option (List α):=if(l.length+m.length)*bytes<=140737488355328 then some (l++m)else none
def catO(a b:List UInt8):Option (List UInt8):=if((a.length+b.length:Nat):Int)<=9223372036854775807 then some (a++b)else none
def vB(k:IntKind)(x y:Int):Option Int:=if y<0 then none else some (uq k x y)
def yG(k:IntKind)(x y:Int):Option Int:=if y<0 then none else some (pJ k x y)
def qa(k:IntKind)(x y:Int):Option Int:=if y=0 then none else some (k.wrap (x.tdiv y))
def tX(x y:Int):Option Int:=if y=0 then none else some (x.tmod y)
def tH{α:Type}(l:List α)(n:Int)(y:α):Option (List α):=if 0<=n∧n<l.length then some (l.set n.toNat y)else none
def inO{α:Type}(l:List α)(n:Int):Option Unit:=if 0<=n∧n<l.length then some ()else none
theorem zf{α:Type}{l:List α}{n:Int}{x:α}(h:pb l n=some x):0<=n∧n<l.length∧l[n.toNat]? =some x:=by
 unfold pb at h
 split at h
 ·rename_i a
  have:=(List.getElem?_eq_some_iff.1 h).1
  exact⟨a,za,h⟩
 ·cases h
theorem AV{s:List UInt8}{n c:Int}(h:rT s n=some c):(0<=n∧n<s.length)∧c=((s.getD n.toNat 0).toNat:Nat):=by
 unfold rT at h;split at h
 ·cases h;exact⟨by assumption,rfl⟩
 ·cases h
theorem yW{α:Type}{l r:List α}{lo hi:Int}(h:ue l lo hi=some r):(0<=lo∧lo<=hi∧hi<=l.length)∧r=(l.drop lo.toNat).take (hi.toNat-lo.toNat):=by
 unfold ue at h;split at h
 ·cases h;exact⟨by assumption,rfl⟩
 ·cases h
theorem vF{α:Type}{l m r:List α}{b:Nat}(h:pG l m b=some r):(l.length+m.length)*b<=140737488355328∧r=l++m:=by
 unfold pG at h;split at h
 ·cases h;exact⟨by assumption,rfl⟩
 ·cases h
theorem BG{a b r:List UInt8}(h:catO a b=some r):((a.length+b.length:Nat):Int)<=9223372036854775807∧r=a++b:=by
 unfold catO at h;split at h
 ·cases h;exact⟨by assumption,rfl⟩
 ·cases h
theorem BW{α:Type}{l r:List α}{n:Int}{y:α}(h:tH l n y=some r):(0<=n∧n<l.length)∧r=l.set n.toNat y:=by
 unfold tH at h;split at h
 ·cases h;exact⟨by assumption,rfl⟩
 ·cases h
def optC{α β:Type}(o:Option α)(a:Option β)(k:α->Option β):Option β:=match o with|none=>a|some y=>k y
theorem opt_elim{α β:Type}{o:Option α}{a:Option β}{k:α->Option β}{r:β}(h:optC o a k=some r){G:Prop}(h1:o=none->a=some r->G)(c:∀y,o=some y->k y=some r->G):G:=by
 cases o with
 |none=>exact h1 rfl h
 |some y=>exact c y rfl h
theorem pf{α β:Type}{m:Option α}{k:α->Option β}{r:β}(h:m.bind k=some r){G:Prop}(hk:∀x,m=some x->k x=some r->G):G:=by
 cases m with
 |none=>cases h
 |some x=>exact hk x rfl h
theorem qO{β:Type}{t:Bool}{a b:Option β}{r:β}(h:(if t=true then a else b)=some r){G:Prop}(h1:t=true->a=some r->G)(c:t=false->b=some r->G):G:=by
 cases t with
 |true=>exact h1 rfl h
 |false=>exact c rfl h
theorem qy{α:Type}(g:α->PD)(l:List α):RV.d (.int .i64 ((l.map g).length:Nat))=RV.d (.int .i64 (l.length:Nat)):=by rw [DT]
inductive pa(σ ω:Type)where
 |next (s:σ)
 |stop (o:ω)
def uT{σ ω:Type}(body:σ->Option (pa σ ω)):Nat->σ->Option ω
 |0,_=>none
 |n+1,s=>
  match body s with
  |some (.next s')=>uT body n s'
  |some (.stop o)=>some o
  |none=>none
theorem wi{σ ω:Type}{body:σ->Option (pa σ ω)}:∀{n m:Nat}{s:σ}{o:ω},uT body n s=some o->n<=m->uT body m s=some o
 |0,_,_,_,h,_=>by cases h
 |n+1,0,_,_,_,hm=>by omega
 |n+1,m+1,s,o,h,hm=>by
  simp only [uT]at h⊢
  rcases a:body s with _|(s'|c)
  ·simp [a]at h
  ·simp only [a]at h⊢;exact wi h za
  ·simp only [a]at h⊢;exact h
open Classical in
noncomputable def dE {σ ω:Type} (body:σ->Option (pa σ ω)) (s:σ):Option ω:=if h:∃n o,uT body n s=some o then some h.choose_spec.choose else none
theorem uj{σ ω:Type}{body:σ->Option (pa σ ω)}{n:Nat}{s:σ}{o:ω}(h:uT body n s=some o):dE body s=some o:=by
 have he:∃n o,uT body n s=some o:=⟨n,o,h⟩
 unfold dE
 rw [dif_pos he]
 have c:=he.choose_spec.choose_spec
 have g:=wi h (Nat.le_max_left n he.choose)
 have a:=wi c (Nat.le_max_right n he.choose)
 rw [g]at a
 exact a.symm
theorem wj{σ ω:Type}{body:σ->Option (pa σ ω)}{s:σ}{o:ω}(h:dE body s=some o):∃n,uT body n s=some o:=by
 unfold dE at h
 split at h
 ·rename_i he
  cases h
  exact⟨_,he.choose_spec.choose_spec⟩
 ·cases h
theorem pe{σ ω:Type}{body:σ->Option (pa σ ω)}{s s':σ}(h:body s=some (.next s')):dE body s=dE body s':=by
 cases h1:dE body s' with
 |some o=>
  obtain⟨n,a⟩:=wj h1
  exact uj (n:=n+1) (by simp only [uT,h];exact a)
 |none=>
  cases c:dE body s with
  |none=>rfl
  |some o=>
   obtain⟨n,a⟩:=wj c
   cases n with
   |zero=>cases a
   |succ n=>
    simp only [uT,h]at a
    rw [uj a]at h1
    cases h1
theorem o0{σ ω:Type}{body:σ->Option (pa σ ω)}{s:σ}{o:ω}(h:body s=some (.stop o)):dE body s=some o:=
 uj (n:=1) (by simp only [uT,h])
open Classical in
section
variable {P:Program}{H:Hints}{ext:FuncId->Option pA}{f:FuncId}{nb:Nat}{R:List (Nat×RV)}{B:List (Nat×Box)}{Q:Ex->List (Nat×RV)->List (Nat×Box)->Prop}
theorem WL.qz{σ ω:Type}{body:σ->Option (pa σ ω)}{b:Code}{s0:σ}{o:ω}(h:dE body s0=some o)(I:σ->List (Nat×RV)->List (Nat×Box)->Prop)(q:ω->Ex->List (Nat×RV)->List (Nat×Box)->Prop)(r:I s0 R B)
  (a:∀s R B x,I s R B->body s=some x->WC P H ext f nb b R B fun e g c=>match x with| .next s'=>e= .normal∧I s' g c| .stop t=>e≠ .normal∧q t e g c)
  (y:∀e g c,e≠ .normal->q o e g c->Q e g c):WL P H ext f nb b R B Q:=by
 obtain⟨n,j⟩:=wj h
 clear h
 induction n generalizing s0 R B with
 |zero=>cases j
 |succ n C=>
  simp only [uT]at j
  rcases k:body s0 with _|(s'|t)
  ·simp [k]at j
  ·simp only [k]at j
   obtain⟨e,g,c,p,he,u⟩:=a s0 R B _ r k
   subst he
   exact WL.round ⟨.normal,g,c,p,C u j⟩
  ·simp only [k,Option.some.injEq]at j
   subst j
   obtain⟨e,g,c,p,he,z⟩:=a s0 R B _ r k
   refine WL.round ⟨e,g,c,p,?_⟩
   have:=y e g c he z
   cases e with
   |normal=>exact(he rfl).elim
   |exit id=>exact this
   |ret=>exact this
theorem WC.condT'{c:Operand}{a b:Code}{t:Bool}(g:t=true)(hc:(A R B).opd c=some (.d (.bool t)))(h1:WC P H ext f nb a R B Q):WC P H ext f nb (.cond c a b) R B Q:=by subst g;exact WC.condT hc h1
theorem WC.condF'{c:Operand}{a b:Code}{t:Bool}(g:t=false)(hc:(A R B).opd c=some (.d (.bool t)))(h1:WC P H ext f nb b R B Q):WC P H ext f nb (.cond c a b) R B Q:=by subst g;exact WC.condF hc h1
theorem WC.join{α:Type}{a b:Code}(I:α->List (Nat×RV)->List (Nat×Box)->Prop)(G:α->Prop)(h1:WC P H ext f nb a R B fun e g c=>match e with| .normal=>∃x,I x g c∧G x|e=>Q e g c)
  (j:∀x g c,I x g c->G x->WC P H ext f nb b g c Q):WC P H ext f nb (.seq a b) R B Q:=by
 refine WC.seq ?_
 obtain⟨e,g,c,q,h⟩:=h1
 refine⟨e,g,c,q,?_⟩
 cases e with
 |normal=>obtain⟨x,p,k⟩:=h;exact j x g c p k
 |exit id=>exact h
 |ret=>exact h
end
section
variable {P:Program}{H:Hints}{ext:FuncId->Option pA}{mt:Hf}{ops:Array Oper}{l:List Oper}{R:List (Nat×RV)}{B:List (Nat×Box)}{K:List (Nat×RV)->List (Nat×Box)->List Tr->Prop}{o:Oper}{d:Nat}
theorem WO.s0{v v':RV}{rd:List Nat}(hw:pc ops (A R B) o=some true)(g:o.dst=some d)(he:∀n,pE P mt (p8 P H ext n) (A R B) o (assoc B)=some ((v,[]),rd,true))(j:v=v')
  (h:WO P H ext mt ops l ((d,v')::R) B fun c a ts=>K c a (⟨rd,[]⟩::ts)):WO P H ext mt ops (o::l) R B K:=by
 subst j
 exact WO.step (u:=[]) hw g he rfl h
theorem WO.s1{v:RV}{id:Nat}{a:Box}{rd:List Nat}(hw:pc ops (A R B) o=some true)(j:o.dst=some d)(he:∀n,pE P mt (p8 P H ext n) (A R B) o (assoc B)=some ((v,[(id,a)]),rd,true))
  (h:WO P H ext mt ops l ((d,v)::R) ((id,a)::B) fun g c ts=>K g c (⟨rd,[id]⟩::ts)):WO P H ext mt ops (o::l) R B K:=
 WO.step (u:=[(id,a)]) hw j he rfl h
theorem WO.n1{v:RV}{id:Nat}{a:Box}{rd:List Nat}(hw:pc ops (A R B) o=some true)(j:o.dst=none)(he:∀n,pE P mt (p8 P H ext n) (A R B) o (assoc B)=some ((v,[(id,a)]),rd,true))
  (h:WO P H ext mt ops l R ((id,a)::B) fun g c ts=>K g c (⟨rd,[id]⟩::ts)):WO P H ext mt ops (o::l) R B K:=
 WO.stepN (u:=[(id,a)]) hw j he rfl h
theorem WO.bin{op:BinOp}{t t':TypeId}{x y:Operand}{a c:RV}{p:PD}(he:vd P op t a c=some (p,true))(hw:pc ops (A R B) o=some true)(k:o.dst=some d)(ho:o.op= .binOp op t x y t')(q:(A R B).opd x=some a)(r:(A R B).opd y=some c)
  (h:WO P H ext mt ops l ((d,.d p)::R) B fun j g ts=>K j g (⟨[],[]⟩::ts)):WO P H ext mt ops (o::l) R B K:=by
 refine WO.s0 (rd:=[]) hw k (fun n=>?_) rfl h
 simp only [pE,ho,q,r,xV,he]
 rfl
theorem WO.ud{op:BinOp}{t t':TypeId}{x y:Operand}{a c:RV}{b b':Bool}(he:vd P op t a c=some (.bool b,true))(k:b=b')(hw:pc ops (A R B) o=some true)(p:o.dst=some d)(ho:o.op= .binOp op t x y t')(q:(A R B).opd x=some a)(r:(A R B).opd y=some c)
  (h:WO P H ext mt ops l ((d,.d (.bool b'))::R) B fun j g ts=>K j g (⟨[],[]⟩::ts)):WO P H ext mt ops (o::l) R B K:=by
 subst k
 exact WO.bin he hw p ho q r h
theorem WO.split{b:Bool}{rd:List Nat}(hw:pc ops (A R B) o=some true)(g:o.dst=some d)(he:∀n,pE P mt (p8 P H ext n) (A R B) o (assoc B)=some ((.d (.bool b),[]),rd,true))
  (h:WO P H ext mt ops l ((d,.d (.bool b))::R) B fun c a ts=>K c a (⟨rd,[]⟩::ts)):WO P H ext mt ops (o::l) R B K:=
 WO.step (u:=[]) hw g he rfl h
theorem WO.xn{α:Type}{g:α->PD}{li:List α}{t e:TypeId}{x i:Operand}{k:IntKind}{n:Int}{sz:Nat}{y:α}{cs:List PD}(E:pb li n=some y)(hw:pc ops (A R B) o=some true)(D:o.dst=some d)(ho:o.op= .indexAddr t x i)(G:(A R B).opd x=some (.d (.lst (li.map g))))(hi:(A R B).opd i=some (.d (.int k n)))
  (F:P.underlying t=some (.slice e)) (I:szT P e=some sz) (hc:(g y).cells=cs) (a:cs.length=sz)
  (h:WO P H ext mt ops l ((d,.cptr cs)::R) B fun r q ts=>K r q (⟨[],[]⟩::ts)):WO P H ext mt ops (o::l) R B K:=by
 subst hc
 obtain⟨z,h1,C⟩:=zf E
 have j:(li.map g).getD n.toNat default=g y:=by simp [C]
 have p:0<=n∧n<(li.map g).length:=by simpa using⟨z,h1⟩
 refine WO.step (u:=[]) (rd:=[]) (c:=true) hw D (fun m=>?_) rfl h
 simp only [pE,ho,G,hi,qw,F,I,j,p,a,and_self,decide_true,beq_self_eq_true,Bool.and_true]
 rfl
theorem WO.byteG{t:TypeId}{x i:Operand}{s:List UInt8}{k:IntKind}{n c:Int}(p:rT s n=some c)(hw:pc ops (A R B) o=some true)(j:o.dst=some d)(ho:o.op= .index t x i)(r:(A R B).opd x=some (.d (.str s)))(hi:(A R B).opd i=some (.d (.int k n)))(q:P.underlying t=some .string)
  (h:WO P H ext mt ops l ((d,.d (.int .u8 c))::R) B fun g a ts=>K g a (⟨[],[]⟩::ts)):WO P H ext mt ops (o::l) R B K:=by
 obtain⟨h1,rfl⟩:=AV p
 refine WO.step (u:=[]) (rd:=[]) (c:=decide (0<=n∧n<s.length)) hw j (fun m=>?_) (by simpa using h1) h
 simp only [pE,ho,r,hi,vp,we,q]
 rfl
theorem WO.cutG{t:TypeId}{x:Operand}{lo hi:Option Operand}{s r:List UInt8}{p j:Option RV}{a b:Int}(E:ue s a b=some r)(g:mt.lit (o.dst.getD 0)=false)(hw:pc ops (A R B) o=some true)(D:o.dst=some d)(ho:o.op= .slice t x lo hi none)(J:(A R B).opd x=some (.d (.str s)))(I:P.underlying t=some .string)
  (G:pH (A R B) lo=some p) (F:pH (A R B) hi=some j) (C:bnd p 0=some a) (k:bnd j s.length=some b)
  (h:WO P H ext mt ops l ((d,.d (.str r))::R) B fun y q ts=>K y q (⟨[],[]⟩::ts)):WO P H ext mt ops (o::l) R B K:=by
 obtain⟨h1,rfl⟩:=yW E
 rw [<-sr s j a b k h1]at h
 refine WO.step (u:=[]) (rd:=[]) (c:=decide (0<=a∧a<=b∧b<=s.length)) hw D (fun m=>?_) (by simpa using h1) h
 have z:pH (A R B) none=some none:=rfl
 simp only [pE,ho,J,G,F,z,g,Cb,if_false,qF,I,C,k]
 rfl
theorem WO.cutL{α:Type}{g:α->PD}{t e:TypeId}{x:Operand}{lo hi:Option Operand}{li r:List α}{y k:Option RV}{a b:Int}{sz:Nat}(I:ue li a b=some r)(q:∀x,(g x).cells.length=sz)(p:mt.lit (o.dst.getD 0)=false)(hw:pc ops (A R B) o=some true)(G:o.dst=some d)(ho:o.op= .slice t x lo hi none)(O:(A R B).opd x=some (.d (.lst (li.map g))))(N:P.underlying t=some (.slice e))(T:szT P e=some sz)
  (L:pH (A R B) lo=some y) (J:pH (A R B) hi=some k) (E:bnd y 0=some a) (F:bnd k li.length=some b)
  (h:WO P H ext mt ops l ((d,.d (.lst (r.map g)))::R) B fun C z ts=>K C z (⟨[],[]⟩::ts)):WO P H ext mt ops (o::l) R B K:=by
 obtain⟨h1,rfl⟩:=yW I
 have j:bnd k ((li.map g).length:Nat)=some b:=by simpa using F
 have he:(((li.drop a.toNat).take (b.toNat-a.toNat)).map g)=cut (li.map g) a.toNat (hiOf k b):=by
  rw [sr (li.map g) k a b j (by simpa using h1)];simp
 rw [he]at h
 refine WO.step (u:=[]) (rd:=[]) (c:=decide (0<=a∧a<=b∧b<=(li.map g).length)&&(li.map g).all (fun e=>e.cells.length==sz)) hw G (fun m=>?_) ?_ h
 ·have D:pH (A R B) none=some none:=rfl
  simp only [pE,ho,O,L,J,D,p,Cb,if_false,qF,N,E,j,T]
  rfl
 ·simp only [C4,decide_eq_true_eq]
  refine⟨by simpa using h1,?_⟩
  simp [q]
theorem WO.catG{t t':TypeId}{x y:Operand}{a b r:List UInt8}(p:catO a b=some r)(hw:pc ops (A R B) o=some true)(k:o.dst=some d)(ho:o.op= .binOp .add t x y t')(q:(A R B).opd x=some (.d (.str a)))(z:(A R B).opd y=some (.d (.str b)))
  (h:WO P H ext mt ops l ((d,.d (.str r))::R) B fun j g ts=>K j g (⟨[],[]⟩::ts)):WO P H ext mt ops (o::l) R B K:=by
 obtain⟨h1,rfl⟩:=BG p
 refine WO.step (u:=[]) (rd:=[]) (c:=decide (((a.length+b.length:Nat):Int)<=IntKind.i64.max)) hw k (fun n=>?_) ?_ h
 ·simp only [pE,ho,q,z,xV,vd,wC,zV]
  rfl
 ·have:IntKind.i64.max=9223372036854775807:=by decide
  rw [this]
  exact decide_eq_true h1
theorem WO.quoG{t t':TypeId}{x y:Operand}{k k':IntKind}{a b r:Int}(g:qa k a b=some r)(hw:pc ops (A R B) o=some true)(z:o.dst=some d)(ho:o.op= .binOp .quo t x y t')(C:(A R B).opd x=some (.d (.int k a)))(D:(A R B).opd y=some (.d (.int k' b)))(hk:k=k')
  (h:WO P H ext mt ops l ((d,.d (.int k r))::R) B fun p j ts=>K p j (⟨[],[]⟩::ts)):WO P H ext mt ops (o::l) R B K:=by
 subst hk
 unfold qa at g
 split at g
 ·cases g
 ·rename_i q
  cases g
  refine WO.step (u:=[]) (rd:=[]) (c:=b != 0) hw z (fun n=>?_) (by simpa using q) h
  simp only [pE,ho,C,D,xV,vd,wC,if_true,w8]
  rfl
theorem WO.shlG{t t':TypeId}{x y:Operand}{k k':IntKind}{a b r:Int}(g:vB k a b=some r)(hw:pc ops (A R B) o=some true)(z:o.dst=some d)(ho:o.op= .binOp .shl t x y t')(C:(A R B).opd x=some (.d (.int k a)))(D:(A R B).opd y=some (.d (.int k' b)))
  (h:WO P H ext mt ops l ((d,.d (.int k r))::R) B fun p j ts=>K p j (⟨[],[]⟩::ts)):WO P H ext mt ops (o::l) R B K:=by
 unfold vB at g
 split at g
 ·cases g
 ·rename_i q
  cases g
  refine WO.step (u:=[]) (rd:=[]) (c:=decide (0<=b)) hw z (fun n=>?_) (by simpa using q) h
  simp only [pE,ho,C,D,xV,vd,wC]
  rfl
theorem WO.shrG{t t':TypeId}{x y:Operand}{k k':IntKind}{a b r:Int}(g:yG k a b=some r)(hw:pc ops (A R B) o=some true)(z:o.dst=some d)(ho:o.op= .binOp .shr t x y t')(C:(A R B).opd x=some (.d (.int k a)))(D:(A R B).opd y=some (.d (.int k' b)))
  (h:WO P H ext mt ops l ((d,.d (.int k r))::R) B fun p j ts=>K p j (⟨[],[]⟩::ts)):WO P H ext mt ops (o::l) R B K:=by
 unfold yG at g
 split at g
 ·cases g
 ·rename_i q
  cases g
  refine WO.step (u:=[]) (rd:=[]) (c:=decide (0<=b)) hw z (fun n=>?_) (by simpa using q) h
  simp only [pE,ho,C,D,xV,vd,wC]
  rfl
theorem WO.remG{t t':TypeId}{x y:Operand}{k k':IntKind}{a b r:Int}(g:tX a b=some r)(hw:pc ops (A R B) o=some true)(z:o.dst=some d)(ho:o.op= .binOp .rem t x y t')(C:(A R B).opd x=some (.d (.int k a)))(D:(A R B).opd y=some (.d (.int k' b)))(hk:k=k')
  (h:WO P H ext mt ops l ((d,.d (.int k r))::R) B fun p j ts=>K p j (⟨[],[]⟩::ts)):WO P H ext mt ops (o::l) R B K:=by
 subst hk
 unfold tX at g
 split at g
 ·cases g
 ·rename_i q
  cases g
  refine WO.step (u:=[]) (rd:=[]) (c:=b != 0) hw z (fun n=>?_) (by simpa using q) h
  simp only [pE,ho,C,D,xV,vd,wC,if_true,w8]
  rfl
theorem WO.appR{α:Type}{g:α->PD}{li m r:List α}{t e:TypeId}{x y:Operand}{c:Call}{id ver sz by_:Nat}{z:Value}(L:pG li m (by_+1)=some r)(q:∀x,(g x).cells.length=sz+1)(hw:pc ops (A R B) o=some true)(J:o.dst=some d)(ho:o.op= .call c)
  (hc:c.callee= .builtin .append) (G:c.args.toList=[x,y]) (a:c.argTypes= #[t,t]) (O:(A R B).opd x=some (.ref id ver)) (T:(A R B).opd y=some (.d (.lst (m.map g))))
  (I:assoc B id=some (.arr ver e (li.map g))) (N:qc P t=some e) (W:szT P e=some (sz+1)) (j:qd P e=some (by_+1)) (D:pZ P e=some z) (C:z.cells.size=sz+1)
  (h:WO P H ext mt ops l ((d,.ref id (ver+1))::R) ((id,.arr (ver+1) e (r.map g))::B) fun F E ts=>K F E (⟨[id],[id]⟩::ts)):WO P H ext mt ops (o::l) R B K:=by
 obtain⟨h1,rfl⟩:=vF L
 rw [Dl]at h
 refine WO.step (u:=[(id,.arr (ver+1) e (li.map g++m.map g))]) (rd:=[id]) (c:=decide (((li.map g).length+(m.map g).length)*(by_+1)<=140737488355328)&&(m.map g).all (fun e=>e.cells.length==sz+1)) hw J (fun n=>?_) ?_ h
 ·have p:rm (A R B) c.args.toList=some [.ref id ver,.d (.lst (m.map g))]:=by simp only [G,rm,O,T]
  simp only [pE,ho,hc,p,a]
  have k:∀(m X:M (RV×Ups)),(if(#[t,t]:Array TypeId).size=2 then m else X)=m:=fun _ _=>if_pos rfl
  rw [k,if_pos (show(#[t,t]:Array TypeId).getD 0 0=(#[t,t]:Array TypeId).getD 1 0 from rfl)]
  show qu P _ t t _ _ _=_
  simp only [qu,N,W,j,D,C,and_self,if_true,M.bind,p7,M.pure,M.get,I,M.py]
  simp
 ·simp only [C4,decide_eq_true_eq]
  exact⟨by simpa using h1,by simp [q]⟩
theorem WO.appN{α:Type}{g:α->PD}{m r:List α}{t e:TypeId}{x y:Operand}{c:Call}{sz by_:Nat}{z:Value}(N:pG [] m (by_+1)=some r)(q:∀x,(g x).cells.length=sz+1)(hw:pc ops (A R B) o=some true)(E:o.dst=some d)(ho:o.op= .call c)
  (hc:c.callee= .builtin .append) (J:c.args.toList=[x,y]) (a:c.argTypes= #[t,t]) (T:(A R B).opd x=some .px) (W:(A R B).opd y=some (.d (.lst (m.map g))))
  (L:assoc B (d*16)=none) (O:qc P t=some e) (X:szT P e=some (sz+1)) (j:qd P e=some (by_+1)) (D:pZ P e=some z) (C:z.cells.size=sz+1)
  (h:WO P H ext mt ops l ((d,.ref (d*16) 0)::R) ((d*16,.arr 0 e (r.map g))::B) fun I G ts=>K I G (⟨[d*16],[d*16]⟩::ts)):WO P H ext mt ops (o::l) R B K:=by
 obtain⟨h1,F⟩:=vF N
 rw [CY]at F
 subst F
 refine WO.step (u:=[(d*16,.arr 0 e (r.map g))]) (rd:=[d*16]) (c:=decide ((r.map g).length*(by_+1)<=140737488355328)&&(r.map g).all (fun e=>e.cells.length==sz+1)) hw E (fun n=>?_) ?_ h
 ·have p:rm (A R B) c.args.toList=some [.px,.d (.lst (r.map g))]:=by simp only [J,rm,T,W]
  simp only [pE,ho,hc,p,a,E,Ds]
  have k:∀(m Y:M (RV×Ups)),(if(#[t,t]:Array TypeId).size=2 then m else Y)=m:=fun _ _=>if_pos rfl
  rw [k,if_pos (show(#[t,t]:Array TypeId).getD 0 0=(#[t,t]:Array TypeId).getD 1 0 from rfl)]
  show qu P _ t t _ _ _=_
  simp only [qu,O,X,j,D,C,and_self,if_true,M.bind,p7,M.pure,M.pS,L,M.py]
  simp
 ·simp only [C4,decide_eq_true_eq]
  exact⟨by simpa using h1,by simp [q]⟩
theorem WO.lenR{α:Type}{g:α->PD}{li:List α}{t e:TypeId}{x:Operand}{c:Call}{id ver:Nat}(hw:pc ops (A R B) o=some true)(y:o.dst=some d)(ho:o.op= .call c)
  (hc:c.callee= .builtin .len) (q:c.args.toList=[x]) (a:c.argTypes= #[t]) (C:(A R B).opd x=some (.ref id ver)) (r:assoc B id=some (.arr ver e (li.map g))) (z:P.underlying t=some (.slice e))
  (h:WO P H ext mt ops l ((d,.d (.int .i64 (li.length:Int)))::R) B fun p k ts=>K p k (⟨[id],[]⟩::ts)):WO P H ext mt ops (o::l) R B K:=by
 refine WO.step (u:=[]) (rd:=[id]) (c:=true) hw y (fun n=>?_) rfl h
 have j:rm (A R B) c.args.toList=some [.ref id ver]:=by simp only [q,rm,C]
 simp only [pE,ho,hc,j,a]
 show yq P t _ _=_
 simp [yq,z,M.bind,M.get,r,qe,M.pure]
theorem WO.uf{α:Type}{g:α->PD}{li:List α}{t e:TypeId}{x i:Operand}{k:IntKind}{n:Int}{id ver sz:Nat}{y:Unit}(a:inO li n=some y)(hw:pc ops (A R B) o=some true)(r:o.dst=some d)(ho:o.op= .indexAddr t x i)(D:(A R B).opd x=some (.ref id ver))(hi:(A R B).opd i=some (.d (.int k n)))
  (q:assoc B id=some (.arr ver e (li.map g))) (C:P.underlying t=some (.slice e)) (E:szT P e=some sz)
  (h:WO P H ext mt ops l ((d,.elt id ver n.toNat 0)::R) B fun p j ts=>K p j (⟨[id],[]⟩::ts)):WO P H ext mt ops (o::l) R B K:=by
 have z:0<=n∧n<li.length:=by unfold inO at a;split at a<;>first|assumption|cases a
 refine WO.step (u:=[]) (rd:=[id]) (c:=decide (0<=n∧n<(li.map g).length)) hw r (fun m=>?_) (by simpa using z) h
 simp only [pE,ho,D,hi,qw,C,E,M.bind,M.get,q,and_self,if_true,pT,M.py]
 simp
theorem WO.ry{α:Type}{g:α->PD}{li:List α}{t e:TypeId}{a:Operand}{n:Int}{id ver off:Nat}{y:α}{v:RV}(C:pb li n=some y)(hw:pc ops (A R B) o=some true)(z:o.dst=some d)(ho:o.op= .load t a)(r:(A R B).opd a=some (.elt id ver n.toNat off))
  (x:assoc B id=some (.arr ver e (li.map g))) (D:sa P t ((g y).cells.drop off) (assoc B)=some ((v,[]),[],true))
  (h:WO P H ext mt ops l ((d,v)::R) B fun k j ts=>K k j (⟨[id],[]⟩::ts)):WO P H ext mt ops (o::l) R B K:=by
 obtain⟨E,h1,p⟩:=zf C
 refine WO.step (u:=[]) (rd:=[id]) (c:=true) hw z (fun m=>?_) rfl h
 have q:(li.map g)[n.toNat]? =some (g y):=by simp [p]
 simp only [pE,ho,r,si,M.bind,M.get,x,if_true,q,D]
 simp
theorem WO.yH{α:Type}{g:α->PD}{li r:List α}{t e:TypeId}{a x:Operand}{n:Int}{id ver sz:Nat}{y:α}{p:PD}(L:tH li n y=some r)(z:∀x,(g x).cells.length=sz)(q:∀x,(g x).put 0 p.cells=g y)(hw:pc ops (A R B) o=some true)(J:o.dst=none)(ho:o.op= .store t a x)(G:(A R B).opd a=some (.elt id ver n.toNat 0))(N:(A R B).opd x=some (.d p))
  (I:assoc B id=some (.arr ver e (li.map g))) (O:szT P t=some sz) (hs:(RV.d p).sized=true) (k:p.cells.length=sz)
  (h:WO P H ext mt ops l R ((id,.arr ver e (r.map g))::B) fun E D ts=>K E D (⟨[id],[id]⟩::ts)):WO P H ext mt ops (o::l) R B K:=by
 obtain⟨h1,rfl⟩:=BW L
 have j:n.toNat<li.length:=by omega
 have F:(li.map g)[n.toNat]? =some (g li[n.toNat]):=by simp [j]
 rw [Dp, <-q li[n.toNat]]at h
 refine WO.stepN (v:= .undef) (u:=[(id,.arr ver e ((li.map g).set n.toNat ((g li[n.toNat]).put 0 p.cells)))]) (rd:=[id]) (c:=(RV.d p).sized&&decide (p.cells.length=sz∧0+sz<=(g li[n.toNat]).cells.length)) hw J (fun m=>?_) ?_ h
 ·have C:rQ (.d p)=M.pure (p,[]):=rfl
  simp only [pE,ho,G,N,uO,O,M.bind,M.get,I,if_true,C,M.pure,F,M.py]
  simp [M.py]
 ·simp [hs,k,z]
end
end Go.Dw
attribute [irreducible] Go.Dw.qa Go.Dw.tX Go.Dw.vB Go.Dw.yG
namespace Go.Dw
def neO{α:Type}(l:List α):Option Unit:=if l.isEmpty=true then none else some ()
def tF(n:Nat)(lo hi:Int):Option Unit:=if 0<=lo∧lo<=hi∧hi<=n then some ()else none
def inV(len lo hi:Nat)(n:Int):Option Unit:=if 0<=n∧n<(hi:Int)-lo∧hi<=len then some ()else none
def lenV(len lo hi:Nat):Option Int:=if lo<=hi∧hi<=len then some ((hi:Int)-lo)else none
def wT(len lo hi:Nat):Option Unit:=if lo<=hi∧hi<=len then some ()else none
def uV{α:Type}(li:List α)(lo hi:Nat):Option (List α):=if lo<=hi∧hi<=li.length then some ((li.drop lo).take (hi-lo))else none
def tI{α:Type}(li:List α)(off m:Nat)(ys:List α):List α:=li.take off++ys.take (Nat.min ys.length m)++li.drop (off+Nat.min ys.length m)
def tz{α:Type}(li:List α)(off m:Nat)(z:α):List α:=li.take off++B5 m z++li.drop (off+m)
section
variable {P:Program}{H:Hints}{ext:FuncId->Option pA}{mt:Hf}{ops:Array Oper}{l:List Oper}{R:List (Nat×RV)}{B:List (Nat×Box)}{K:List (Nat×RV)->List (Nat×Box)->List Tr->Prop}{o:Oper}{d:Nat}
theorem neO_some{α:Type}{l:List α}{y:Unit}(h:neO l=some y):l.isEmpty=false:=by
 unfold neO at h
 split at h
 ·cases h
 ·simpa using ‹¬l.isEmpty=true›
theorem WO.nilE{α:Type}{g:α->PD}{li:List α}{t t' e:TypeId}{x y:Operand}{u:Unit}(p:neO li=some u)(hw:pc ops (A R B) o=some true)(k:o.dst=some d)(ho:o.op= .binOp .eql t x y t')(r:(A R B).opd x=some (.d (.lst (li.map g))))(z:(A R B).opd y=some .px)
  (q:P.underlying t=some (.slice e)) (h:WO P H ext mt ops l ((d,.d (.bool false))::R) B fun j a ts=>K j a (⟨[],[]⟩::ts)):WO P H ext mt ops (o::l) R B K:=by
 refine WO.step (u:=[]) (rd:=[]) (c:= !(li.map g).isEmpty) hw k (fun m=>?_) (by simpa using neO_some p) h
 simp only [pE,ho,r,z,xV,vd,wC,eqOp,q]
 rfl
theorem WO.subR{α:Type}{g:α->PD}{li:List α}{t e:TypeId}{x:Operand}{lo hi:Option Operand}{C z:Option RV}{a b:Int}{id ver sz:Nat}{y:Unit}(k:tF li.length a b=some y)(p:mt.lit (o.dst.getD 0)=false)(hw:pc ops (A R B) o=some true)(I:o.dst=some d)(ho:o.op= .slice t x lo hi none)(O:(A R B).opd x=some (.ref id ver))
  (G:assoc B id=some (.arr ver e (li.map g))) (N:P.underlying t=some (.slice e)) (T:szT P e=some (sz+1)) (L:pH (A R B) lo=some C) (J:pH (A R B) hi=some z) (F:bnd C 0=some a) (j:bnd z (li.length:Int)=some b)
  (h:WO P H ext mt ops l ((d,.view id ver (0+a.toNat) (0+b.toNat))::R) B fun E D ts=>K E D (⟨[id,id],[]⟩::ts)):WO P H ext mt ops (o::l) R B K:=by
 have hc:0<=a∧a<=b∧b<=li.length:=by unfold tF at k;split at k<;>first|assumption|cases k
 have r:(((li.map g).length:Nat):Int)-((0:Nat):Int)=(li.length:Int):=by simp
 refine WO.step (u:=[]) (rd:=[id,id]) (c:=decide (0<=(li.map g).length∧(li.map g).length<=(li.map g).length∧0<=a∧a<=b∧b<=(((li.map g).length:Nat):Int)-((0:Nat):Int))) hw I (fun m=>?_) (by rw [r];simpa using hc) h
 have q:pH (A R B) none=some none:=rfl
 simp only [pE,ho,O,L,J,q,p,Cb,if_false,qF,N,M.bind,M.get,G,sliceB,F,r,j,T,and_self,if_true,pT,M.py]
 simp
theorem WO.lenVw{α:Type}{g:α->PD}{li:List α}{t e:TypeId}{x:Operand}{c:Call}{id ver lo hi:Nat}{n:Int}(a:lenV li.length lo hi=some n)(hw:pc ops (A R B) o=some true)(C:o.dst=some d)(ho:o.op= .call c)
  (hc:c.callee= .builtin .len) (y:c.args.toList=[x]) (j:c.argTypes= #[t]) (E:(A R B).opd x=some (.view id ver lo hi)) (z:assoc B id=some (.arr ver e (li.map g))) (D:P.underlying t=some (.slice e))
  (h:WO P H ext mt ops l ((d,.d (.int .i64 n))::R) B fun r q ts=>K r q (⟨[id],[]⟩::ts)):WO P H ext mt ops (o::l) R B K:=by
 unfold lenV at a
 split at a
 rotate_left
 ·cases a
 rename_i k
 cases a
 refine WO.step (u:=[]) (rd:=[id]) (c:=decide (lo<=hi∧hi<=(li.map g).length)) hw C (fun n=>?_) (by simpa using k) h
 have p:rm (A R B) c.args.toList=some [.view id ver lo hi]:=by simp only [y,rm,E]
 simp only [pE,ho,hc,p,j]
 show yq P t _ _=_
 simp [yq,D,M.bind,M.get,z,pT,M.py]
theorem WO.eltV{α:Type}{g:α->PD}{li:List α}{t e:TypeId}{x i:Operand}{k:IntKind}{n:Int}{id ver lo hi sz:Nat}{y:Unit}(a:inV li.length lo hi n=some y)(hw:pc ops (A R B) o=some true)(z:o.dst=some d)(ho:o.op= .indexAddr t x i)(E:(A R B).opd x=some (.view id ver lo hi))(j:(A R B).opd i=some (.d (.int k n)))
  (r:assoc B id=some (.arr ver e (li.map g))) (D:P.underlying t=some (.slice e)) (F:szT P e=some sz)
  (h:WO P H ext mt ops l ((d,.elt id ver (lo+n.toNat) 0)::R) B fun q p ts=>K q p (⟨[id],[]⟩::ts)):WO P H ext mt ops (o::l) R B K:=by
 have C:0<=n∧n<(hi:Int)-lo∧hi<=li.length:=by unfold inV at a;split at a<;>first|assumption|cases a
 refine WO.step (u:=[]) (rd:=[id]) (c:=decide (0<=n∧n<(hi:Int)-lo∧hi<=(li.map g).length)) hw z (fun m=>?_) (by simpa using C) h
 simp only [pE,ho,E,j,qw,D,F,M.bind,M.get,r,and_self,if_true,pT,M.py]
 simp
theorem yf{α:Type}{g:α->PD}{li:List α}{e:TypeId}{id ver lo hi:Nat}{y:Unit}(a:wT li.length lo hi=some y)(c:assoc B id=some (.arr ver e (li.map g))):wI (.view id ver lo hi) (assoc B)=some ((id,ver,e,li.map g,lo,hi-lo),[id],true):=by
 have hc:lo<=hi∧hi<=li.length:=by unfold wT at a;split at a<;>first|assumption|cases a
 simp [wI,M.bind,M.get,c,M.py,hc]
theorem AM{α:Type}{g:α->PD}{li ys:List α}{e:TypeId}{id ver lo hi:Nat}(a:uV li lo hi=some ys)(c:assoc B id=some (.arr ver e (li.map g))):p7 (.view id ver lo hi) (assoc B)=some (ys.map g,[id],true):=by
 unfold uV at a
 split at a
 ·rename_i hc
  cases a
  simp [p7,M.bind,M.get,c,M.py,hc,Dq,Dm]
 ·cases a
theorem copyD_of{α:Type}{g:α->PD}{li ys:List α}{t e:TypeId}{id ver off m sz:Nat}{p q:RV}{a j:List Nat}(r:wI p (assoc B)=some ((id,ver,e,li.map g,off,m),a,true))(u:p7 q (assoc B)=some (ys.map g,j,true))
  (z:P.underlying t=some (.slice e)) (C:szT P e=some (sz+1)) (k:∀x,(g x).cells.length=sz+1):
  vV P t p q (assoc B)=some ((.d (.int .i64 (Nat.min ys.length m:Nat)),[(id,.arr ver e ((tI li off m ys).map g))]),a++(j++[]),true):=by
 have he:qc P t=some e:=by simp [qc,z]
 have y:((ys.map g).all fun c=>c.cells.length==sz+1)=true:=by simp [k]
 simp only [vV,he,C,M.bind,r,u,M.py,y,decide_true,Dr,DT,tI,Dl,Dq,Dm]
theorem WO.copyG{α:Type}{g:α->PD}{li ys:List α}{t t2 e:TypeId}{x y:Operand}{c:Call}{id ver off m sz:Nat}{r z:RV}{a j:List Nat}(hw:pc ops (A R B) o=some true)(I:o.dst=some d)(ho:o.op= .call c)
  (hc:c.callee= .builtin .copy) (G:c.args.toList=[x,y]) (k:c.argTypes= #[t,t2]) (L:(A R B).opd x=some r) (N:(A R B).opd y=some z)
  (E:wI r (assoc B)=some ((id,ver,e,li.map g,off,m),a,true)) (F:p7 z (assoc B)=some (ys.map g,j,true))
  (J:P.underlying t=some (.slice e)) (O:szT P e=some (sz+1)) (q:∀x,(g x).cells.length=sz+1)
  (h:WO P H ext mt ops l ((d,.d (.int .i64 (Nat.min ys.length m:Nat)))::R) ((id,.arr ver e ((tI li off m ys).map g))::B) fun D C ts=>K D C (⟨a++(j++[]),[id]⟩::ts)):WO P H ext mt ops (o::l) R B K:=by
 refine WO.step (u:=[(id,.arr ver e ((tI li off m ys).map g))]) (rd:=a++(j++[])) (c:=true) hw I (fun n=>?_) rfl h
 have p:rm (A R B) c.args.toList=some [r,z]:=by simp only [G,rm,L,N]
 simp only [pE,ho,hc,p,k]
 exact copyD_of E F J O q
theorem BH{α:Type}{g:α->PD}{li:List α}{z:α}{t e:TypeId}{id ver off m sz:Nat}{j:RV}{a:List Nat}(p:wI j (assoc B)=some ((id,ver,e,li.map g,off,m),a,true))
  (q:P.underlying t=some (.slice e)) (r:szT P e=some (sz+1)) (k:(pZ P e).bind qt=some (g z)) (c:(g z).cells.length=sz+1):
  tU P t j (assoc B)=some ((.tup [],[(id,.arr ver e ((tz li off m z).map g))]),a++[],true):=by
 have he:qc P t=some e:=by simp [qc,q]
 simp only [tU,he,r,k,M.bind,p,M.py,c,decide_true,beq_self_eq_true,Dr,tz,Dl,Dq,Dm,Dn]
theorem WO.clearN{α:Type}{g:α->PD}{li:List α}{z:α}{t e:TypeId}{x:Operand}{c:Call}{id ver off m sz:Nat}{q:RV}{a:List Nat}(hw:pc ops (A R B) o=some true)(F:o.dst=none)(ho:o.op= .call c)
  (hc:c.callee= .builtin .clear) (E:c.args.toList=[x]) (j:c.argTypes= #[t]) (I:(A R B).opd x=some q)
  (D:wI q (assoc B)=some ((id,ver,e,li.map g,off,m),a,true))
  (G:P.underlying t=some (.slice e)) (J:szT P e=some (sz+1)) (C:(pZ P e).bind qt=some (g z)) (p:(g z).cells.length=sz+1)
  (h:WO P H ext mt ops l R ((id,.arr ver e ((tz li off m z).map g))::B) fun y r ts=>K y r (⟨a++[],[id]⟩::ts)):WO P H ext mt ops (o::l) R B K:=by
 refine WO.stepN (v:= .tup []) (u:=[(id,.arr ver e ((tz li off m z).map g))]) (rd:=a++[]) (c:=true) hw F (fun n=>?_) rfl h
 have k:rm (A R B) c.args.toList=some [q]:=by simp only [E,rm,I]
 simp only [pE,ho,hc,k,j]
 exact BH D G J C p
theorem B3{α:Type}{g:α->PD}{li z:List α}{e:TypeId}{id ver lo hi:Nat}(a:uV li lo hi=some z)(c:assoc B id=some (.arr ver e (li.map g))):rQ (.view id ver lo hi) (assoc B)=some ((.lst (z.map g),[(id,.dead)]),[id],true):=by
 unfold uV at a
 split at a
 ·rename_i hc
  cases a
  simp [rQ,vZ,M.bind,M.get,c,M.py,hc,Dq,Dm]
 ·cases a
def Bu(nb:Nat)(rs:List RV)(b1:pP):Option (RV×List Box):=
 match M.bind (rH 64 [] (CC nb++rs.flatMap xG)) (fun ids=>M.bind (ui ids) fun a=>M.pure (ids,a)) b1 with
 |some ((ids,a),_,true)=>
  if ids.take nb=CC nb∧nodup ids=true then
   let ρ:Ren:=⟨idxOf ids,qk b1 (pV nb)⟩
   some (qC ρ (one rs),(ids.zip a).map fun x=>rJ ρ (pV nb x.1) x.2)
  else none
 |_=>none
theorem BN{own:Nat->Bool}{fn:Func}{nb:Nat}{rs:List RV}{u:Ups}{rd:List Nat}{x:RV×List Box}(h:resD P own (A R B) 0 fn.results.toList (assoc B)=some ((rs,u),rd,true))(a:Bu nb rs (uQ (assoc B) u)=some x):finish P own fn nb (A R B)=some x:=by
 simp only [finish,h]
 exact a
theorem Av{α:Type}{g:α->PD}{li z:List α}{e:TypeId}{own:Nat->Bool}{fn:Func}{nb t id ver lo hi:Nat}{x:RV×List Box}{rd:List Nat}(k:uV li lo hi=some z)(a:fn.results.toList=[.tmp t])(ho:own 0=false)
  (p:resV P (A R B) (.tmp t) (assoc B)=some (.view id ver lo hi,rd,true)) (j:assoc B id=some (.arr ver e (li.map g))) (q:Bu nb [.d (.lst (z.map g))] (uQ (assoc B) [(id,.dead)])=some x):finish P own fn nb (A R B)=some x:=by
 refine BN (rs:=[.d (.lst (z.map g))]) (u:=[(id,.dead)]) (rd:=rd++([id]++[])) ?_ q
 have c:=B3 (B:=B) k j
 simp [a,resD,M.bind,p,outV,ho,c,M.pure,M.py,RV.sized]
end
end Go.Dw
namespace Go.Dw
section
variable {P:Program}{H:Hints}{ext:FuncId->Option pA}{f:FuncId}{nb:Nat}{R:List (Nat×RV)}{B:List (Nat×Box)}{Q:Ex->List (Nat×RV)->List (Nat×Box)->Prop}
theorem WL.BT{σ ω:Type}{body:σ->Option (pa σ ω)}{b:Code}{s0:σ}{o:ω}(h:dE body s0=some o)(I:σ->List (Nat×RV)->List (Nat×Box)->Prop)(k:I s0 R B)
  (a:∀s R B x,I s R B->body s=some x->WC P H ext f nb b R B fun e g c=>match x with| .next s'=>e= .normal∧I s' g c| .stop j=>e≠ .normal∧(j=o->Q e g c)):WL P H ext f nb b R B Q:=
 WL.qz h I (fun j e g c=>j=o->Q e g c) k a (fun _ _ _ _ p=>p rfl)
end
end Go.Dw
namespace Go.Dw
def uX{α:Type}(l:List α)(n:Int)(f:α->α):Option (List α):=
 if 0<=n then(match l[n.toNat]? with|some x=>some (l.set n.toNat (f x))|none=>none)else none
theorem BS{α:Type}{l r:List α}{n:Int}{f:α->α}(h:uX l n f=some r):0<=n∧∃g:n.toNat<l.length,r=l.set n.toNat (f l[n.toNat]):=by
 unfold uX at h
 split at h
 ·rename_i a
  split at h
  ·rename_i x c
   cases h
   obtain⟨h1,rfl⟩:=List.getElem?_eq_some_iff.1 c
   exact⟨a,h1,rfl⟩
  ·cases h
 ·cases h
section
variable {P:Program}{H:Hints}{ext:FuncId->Option pA}{mt:Hf}{ops:Array Oper}{l:List Oper}{R:List (Nat×RV)}{B:List (Nat×Box)}{K:List (Nat×RV)->List (Nat×Box)->List Tr->Prop}{o:Oper}
theorem WO.yI{α:Type}{g:α->PD}{f:α->α}{li r:List α}{t e:TypeId}{a x:Operand}{n:Int}{id ver off sz:Nat}{v:RV}{p:PD}{u:Ups}{rd:List Nat}(L:uX li n f=some r)(z:∀x,(g x).put off p.cells=g (f x))
  (j:∀x,off+sz<=(g x).cells.length) (hw:pc ops (A R B) o=some true) (J:o.dst=none) (ho:o.op= .store t a x) (G:(A R B).opd a=some (.elt id ver n.toNat off)) (N:(A R B).opd x=some v)
  (I:assoc B id=some (.arr ver e (li.map g))) (O:szT P t=some sz) (hs:v.sized=true) (C:rQ v (assoc B)=some ((p,u),rd,true)) (q:(u.map (·.1)).contains id=false) (y:p.cells.length=sz)
  (h:WO P H ext mt ops l R (wB (u++[(id,Box.arr ver e (r.map g))]) B) fun E D ts=>K E D (⟨[id]++rd,(u++[(id,Box.arr ver e (r.map g))]).map (·.1)⟩::ts)):WO P H ext mt ops (o::l) R B K:=by
 obtain⟨h1,k,rfl⟩:=BS L
 have F:(li.map g)[n.toNat]? =some (g li[n.toNat]):=by simp [k]
 rw [Dp, <-z li[n.toNat]]at h
 refine WO.stepN (v:= .undef) (u:=u++[(id,.arr ver e ((li.map g).set n.toNat ((g li[n.toNat]).put off p.cells)))]) (rd:=[id]++rd) (c:=v.sized&&decide (p.cells.length=sz∧off+sz<=(g li[n.toNat]).cells.length)) hw J (fun m=>?_) ?_ h
 ·simp only [pE,ho,G,N,uO,O,M.bind,M.get,I,if_true,C,F,q,M.py]
  simp [M.py]
 ·simp [hs,y,j]
theorem WO.appRG{F:RV}{rd:List Nat}{α:Type}{g:α->PD}{li m r:List α}{t e:TypeId}{x y:Operand}{c:Call}{id ver sz by_ d:Nat}{z:Value}(O:pG li m (by_+1)=some r)(q:∀x,(g x).cells.length=sz+1)(hw:pc ops (A R B) o=some true)(N:o.dst=some d)(ho:o.op= .call c)
  (hc:c.callee= .builtin .append) (J:c.args.toList=[x,y]) (a:c.argTypes= #[t,t]) (W:(A R B).opd x=some (.ref id ver)) (X:(A R B).opd y=some F) (C:p7 F (assoc B)=some (m.map g,rd,true))
  (L:assoc B id=some (.arr ver e (li.map g))) (T:qc P t=some e) (Y:szT P e=some (sz+1)) (j:qd P e=some (by_+1)) (E:pZ P e=some z) (D:z.cells.size=sz+1)
  (h:WO P H ext mt ops l ((d,.ref id (ver+1))::R) ((id,.arr (ver+1) e (r.map g))::B) fun I G ts=>K I G (⟨rd++[id],[id]⟩::ts)):WO P H ext mt ops (o::l) R B K:=by
 obtain⟨h1,rfl⟩:=vF O
 rw [Dl]at h
 refine WO.step (u:=[(id,.arr (ver+1) e (li.map g++m.map g))]) (rd:=rd++[id]) (c:=decide (((li.map g).length+(m.map g).length)*(by_+1)<=140737488355328)&&(m.map g).all (fun e=>e.cells.length==sz+1)) hw N (fun n=>?_) ?_ h
 ·have p:rm (A R B) c.args.toList=some [.ref id ver,F]:=by simp only [J,rm,W,X]
  simp only [pE,ho,hc,p,a]
  have k:∀(m m':M (RV×Ups)),(if(#[t,t]:Array TypeId).size=2 then m else m')=m:=fun _ _=>if_pos rfl
  rw [k,if_pos (show(#[t,t]:Array TypeId).getD 0 0=(#[t,t]:Array TypeId).getD 1 0 from rfl)]
  show qu P _ t t _ _ _=_
  simp only [qu,T,Y,j,E,D,and_self,if_true,M.bind,C,M.pure,M.get,L,M.py]
  simp
 ·simp only [C4,decide_eq_true_eq]
  exact⟨by simpa using h1,by simp [q]⟩
theorem WO.appNG{F:RV}{rd:List Nat}{α:Type}{g:α->PD}{m r:List α}{t e:TypeId}{x y:Operand}{c:Call}{sz by_ d:Nat}{z:Value}(T:pG [] m (by_+1)=some r)(q:∀x,(g x).cells.length=sz+1)(hw:pc ops (A R B) o=some true)(G:o.dst=some d)(ho:o.op= .call c)
  (hc:c.callee= .builtin .append) (N:c.args.toList=[x,y]) (a:c.argTypes= #[t,t]) (X:(A R B).opd x=some .px) (Y:(A R B).opd y=some F) (C:p7 F (assoc B)=some (m.map g,rd,true))
  (O:assoc B (d*16)=none) (W:qc P t=some e) (hz:szT P e=some (sz+1)) (j:qd P e=some (by_+1)) (E:pZ P e=some z) (D:z.cells.size=sz+1)
  (h:WO P H ext mt ops l ((d,.ref (d*16) 0)::R) ((d*16,.arr 0 e (r.map g))::B) fun L J ts=>K L J (⟨rd++[d*16],[d*16]⟩::ts)):WO P H ext mt ops (o::l) R B K:=by
 obtain⟨h1,I⟩:=vF T
 rw [CY]at I
 subst I
 refine WO.step (u:=[(d*16,.arr 0 e (r.map g))]) (rd:=rd++[d*16]) (c:=decide ((r.map g).length*(by_+1)<=140737488355328)&&(r.map g).all (fun e=>e.cells.length==sz+1)) hw G (fun n=>?_) ?_ h
 ·have p:rm (A R B) c.args.toList=some [.px,F]:=by simp only [N,rm,X,Y]
  simp only [pE,ho,hc,p,a,G,Ds]
  have k:∀(m m':M (RV×Ups)),(if(#[t,t]:Array TypeId).size=2 then m else m')=m:=fun _ _=>if_pos rfl
  rw [k,if_pos (show(#[t,t]:Array TypeId).getD 0 0=(#[t,t]:Array TypeId).getD 1 0 from rfl)]
  show qu P _ t t _ _ _=_
  simp only [qu,W,hz,j,E,D,and_self,if_true,M.bind,C,M.pure,M.pS,O,M.py]
  simp
 ·simp only [C4,decide_eq_true_eq]
  exact⟨by simpa using h1,by simp [q]⟩
theorem WO.resl{α:Type}{g:α->PD}{li:List α}{t e:TypeId}{x:Operand}{lo hi:Option Operand}{k:IntKind}{b:Int}{id ver sz d:Nat}{y:Unit}(a:tF li.length 0 b=some y)(j:mt.lit (o.dst.getD 0)=true)(hw:pc ops (A R B) o=some true)(G:o.dst=some d)(ho:o.op= .slice t x lo hi none)
  (N:(A R B).opd x=some (.ref id ver)) (F:assoc B id=some (.arr ver e (li.map g))) (L:P.underlying t=some (.slice e)) (O:szT P e=some (sz+1)) {C z:Option RV} (J:pH (A R B) lo=some C) (I:pH (A R B) hi=some z) (r:C=none) (q:z=some (.d (.int k b)))
  (h:WO P H ext mt ops l ((d,.ref id (ver+1))::R) ((id,.arr (ver+1) e ((li.take b.toNat).map g))::B) fun E D ts=>K E D (⟨[id],[id]⟩::ts)):WO P H ext mt ops (o::l) R B K:=by
 subst r q
 have hc:0<=b∧b<=li.length:=by unfold tF at a;split at a<;>first|(rename_i h;exact⟨h.2.1,h.2.2⟩)|cases a
 rw [Dq]at h
 refine WO.step (v:= .ref id (ver+1)) (u:=[(id,.arr (ver+1) e ((li.map g).take b.toNat))]) (rd:=[id]) (c:=decide (0<=b∧b<=(li.map g).length)) hw G (fun m=>?_) (by simpa using hc) h
 have p:pH (A R B) none=some none:=rfl
 simp only [pE,ho,N,J,I,p,j,if_true,xC,L,O,M.bind,M.get,F,and_self,M.py]
 simp
end
end Go.Dw
namespace Go.Dw
def mGet{κ β:Type}(eq:κ->κ->Bool)(k:κ)(z:β):List (κ×β)->β
 | []=>z
 |e::r=>if eq k e.1=true then e.2 else mGet eq k z r
def mHas{κ β:Type}(eq:κ->κ->Bool)(k:κ):List (κ×β)->Bool
 | []=>false
 |e::r=>if eq k e.1=true then true else mHas eq k r
def mPut{κ β:Type}(eq:κ->κ->Bool)(k:κ)(v:β):List (κ×β)->List (κ×β)
 | []=>[(k,v)]
 |e::r=>if eq k e.1=true then(k,v)::r else e::mPut eq k v r
def qq{α:Type}(bytes:Nat)(l:List α):Option (List α):=if l.length*bytes<=140737488355328 then some l else none
def xH{α:Type}(n m:Int)(z:α)(bytes:Nat):Option (List α):=if n<=m∧0<=n∧m.toNat*bytes<=140737488355328∧m.toNat<=140737488355328 then some (B5 n.toNat z)else none
def mkO{α:Type}(n:Int)(z:α)(bytes:Nat):Option (List α):=if 0<=n∧n.toNat*bytes<=140737488355328∧n.toNat<=140737488355328 then some (B5 n.toNat z)else none
section
variable {P:Program}
theorem yt{κ β:Type}{g:κ->PD}{gv:β->PD}{eq:κ->κ->Bool}{C:TypeId}(p:∀a b,yp P C (g a) (g b)=some (eq a b))(k:κ)(z:β):∀(li:List (κ×β))(i:Nat),
  (mHas eq k li=false∧mGet eq k z li=z∧qv P C (g k) (li.map fun e=>(g e.1,gv e.2)) i=some none∧∀v,mPut eq k v li=li++[(k,v)])∨
  ∃j x,mHas eq k li=true∧eq k x=true∧qv P C (g k) (li.map fun e=>(g e.1,gv e.2)) i=some (some (i+j,g x,gv (mGet eq k z li)))∧∀v,mPut eq k v li=li.set j (k,v)
 | [],i=>.inl ⟨rfl,rfl,rfl,fun _=>rfl⟩
 |(x,v)::r,i=>by
  cases c:eq k x with
  |true=>exact .inr ⟨0,x,by simp [mHas,c],c,by simp [qv,p,c,mGet],fun v'=>by simp [mPut,c]⟩
  |false=>
   rcases yt p k z r (i+1)with⟨h1,q,t,u⟩|⟨j,y,h1,q,t,u⟩
   ·exact .inl ⟨by simp [mHas,c,h1],by simp [mGet,c,q],by simp [qv,p,c];exact t,fun v'=>by simp [mPut,c,u]⟩
   ·refine .inr ⟨j+1,y,by simp [mHas,c,h1],q,?_,fun v'=>by simp [mPut,c,u]⟩
    simp only [List.map_cons,qv,p,c]
    rw [t,show i+1+j=i+(j+1)by omega]
    simp [mGet,c]
end
section
variable {P:Program}{H:Hints}{ext:FuncId->Option pA}{mt:Hf}{ops:Array Oper}{l:List Oper}{R:List (Nat×RV)}{B:List (Nat×Box)}{K:List (Nat×RV)->List (Nat×Box)->List Tr->Prop}{o:Oper}{d:Nat}
structure KeyT(P:Program)(kt:TypeId){κ:Type}(gk:κ->PD)(eq:κ->κ->Bool):Prop where
 feq:∀a b,yp P kt (gk a) (gk b)=some (eq a b)
 kind:∀a,rX P kt (gk a)=true
 same:∀a b,eq a b=true->xd (gk a) (gk b)=true
theorem WO.sU{v:RV}{u:Ups}{rd:List Nat}(hw:pc ops (A R B) o=some true)(g:o.dst=some d)(he:∀n,pE P mt (p8 P H ext n) (A R B) o (assoc B)=some ((v,u),rd,true))
  (h:WO P H ext mt ops l ((d,v)::R) (wB u B) fun c a ts=>K c a (⟨rd,u.map (·.1)⟩::ts)):WO P H ext mt ops (o::l) R B K:=WO.step hw g he rfl h
theorem WO.strU{li:List Int}{src dst e:TypeId}{x:Operand}(hw:pc ops (A R B) o=some true)(g:o.dst=some d)(ho:o.op= .convert src dst x)(k:(A R B).opd x=some (.d (.lst (li.map (.int .u8)))))(hs:P.underlying src=some (.slice e))(j:P.underlying dst=some .string)(he:P.underlying e=some (.int .u8))
  (h:WO P H ext mt ops l ((d,.d (.str (Dw.strU li)))::R) B fun c a ts=>K c a (⟨[],[]⟩::ts)):WO P H ext mt ops (o::l) R B K:=by
 refine WO.s0 (rd:=[]) hw g (fun m=>?_) rfl h
 simp only [pE,ho,k,uS,hs,j,he,u8s_map]
 rfl
theorem WO.look{κ β:Type}{a:κ->PD}{gv:β->PD}{eq:κ->κ->Bool}{k:κ}{z:β}{li:List (κ×β)}{t p q:TypeId}{x y:Operand}{id:Nat}(g:KeyT P p a eq)(J:(pZ P q).bind qt=some (gv z))(hw:pc ops (A R B) o=some true)(I:o.dst=some d)(ho:o.op= .lookup t x y false)(C:(A R B).opd x=some (.ptr id 0))(D:(A R B).opd y=some (.d (a k)))
  (r:assoc B id=some (.map p q (li.map fun e=>(a e.1,gv e.2)))) (u:P.underlying t=some (.map p q))
  (h:WO P H ext mt ops l ((d,.d (gv (mGet eq k z li)))::R) B fun F E ts=>K F E (⟨[id],[]⟩::ts)):WO P H ext mt ops (o::l) R B K:=by
 refine WO.s0 (rd:=[id]) hw I (fun n=>?_) rfl h
 rcases yt (gv:=gv) g.feq k z li 0 with⟨-,G,c, -⟩|⟨j,L, -, -,c, -⟩
 ·simp only [pE,ho,C,D,te,u,M.bind,M.get,r,true_and,g.kind,if_true,c,J,G,Cb,if_false]
  rfl
 ·simp only [pE,ho,C,D,te,u,M.bind,M.get,r,true_and,g.kind,if_true,c,Cb,if_false]
  rfl
theorem WO.mkS{α:Type}{g:α->PD}{z:α}{n:Int}{r:List α}{t e:TypeId}{x y:Operand}{k k':IntKind}{sz by_:Nat}(a:mkO n z by_=some r)(q:(g z).cells.length=sz+1)(hw:pc ops (A R B) o=some true)(C:o.dst=some d)(ho:o.op= .makeSlice t x y)(I:(A R B).opd x=some (.d (.int k n)))(J:(A R B).opd y=some (.d (.int k' n)))
  (F:assoc B (d*16)=none) (G:qc P t=some e) (p:szT P e=some (sz+1)) (j:qd P e=some by_) (L:(pZ P e).bind qt=some (g z))
  (h:WO P H ext mt ops l ((d,.ref (d*16) 0)::R) ((d*16,.arr 0 e (r.map g))::B) fun E D ts=>K E D (⟨[d*16],[d*16]⟩::ts)):WO P H ext mt ops (o::l) R B K:=by
 unfold mkO at a
 split at a
 rotate_left
 ·cases a
 rename_i hc
 cases a
 rw [Dn]at h
 refine WO.step (u:=[(d*16,.arr 0 e (B5 n.toNat (g z)))]) (rd:=[d*16]) (c:=decide (n<=n∧0<=n∧n.toNat*by_<=140737488355328∧n.toNat<=140737488355328)&&((g z).cells.length==sz+1)) hw C (fun m=>?_) ?_ h
 ·simp only [pE,ho,I,J,C,Ds,qL,G,p,j,L,M.bind,M.pS,F,M.py]
  rfl
 ·simp [hc,q]
theorem WO.mkC{α:Type}{g:α->PD}{z:α}{n m:Int}{r:List α}{t e:TypeId}{x y:Operand}{k k':IntKind}{sz by_:Nat}(a:xH n m z by_=some r)(q:(g z).cells.length=sz+1)(hw:pc ops (A R B) o=some true)(C:o.dst=some d)(ho:o.op= .makeSlice t x y)(I:(A R B).opd x=some (.d (.int k n)))(J:(A R B).opd y=some (.d (.int k' m)))
  (F:assoc B (d*16)=none) (G:qc P t=some e) (p:szT P e=some (sz+1)) (j:qd P e=some by_) (L:(pZ P e).bind qt=some (g z))
  (h:WO P H ext mt ops l ((d,.ref (d*16) 0)::R) ((d*16,.arr 0 e (r.map g))::B) fun E D ts=>K E D (⟨[d*16],[d*16]⟩::ts)):WO P H ext mt ops (o::l) R B K:=by
 unfold xH at a
 split at a
 rotate_left
 ·cases a
 rename_i hc
 cases a
 rw [Dn]at h
 refine WO.step (u:=[(d*16,.arr 0 e (B5 n.toNat (g z)))]) (rd:=[d*16]) (c:=decide (n<=m∧0<=n∧m.toNat*by_<=140737488355328∧m.toNat<=140737488355328)&&((g z).cells.length==sz+1)) hw C (fun m=>?_) ?_ h
 ·simp only [pE,ho,I,J,C,Ds,qL,G,p,j,L,M.bind,M.pS,F,M.py]
  rfl
 ·simp [hc,q]
theorem KeyT.int{g:TypeId}{q:IntKind}(h:P.underlying g=some (.int q)):KeyT P g (PD.int q) (fun a b=>a==b):=
 ⟨fun a b=>by simp [yp,tV,tL],fun a=>by simp [rX,tC,h],fun a b c=>by simpa [xd,vO]using c⟩
theorem KeyT.str{g:TypeId}(h:P.underlying g=some .string):KeyT P g PD.str (fun a b=>a==b):=
 ⟨fun a b=>by simp [yp,tV,tL],fun a=>by simp [rX,tC,h],fun a b c=>by simpa [xd,vO]using c⟩
end
section
variable {P:Program}{H:Hints}{ext:FuncId->Option pA}{mt:Hf}{ops:Array Oper}{l:List Oper}{R:List (Nat×RV)}{B:List (Nat×Box)}{K:List (Nat×RV)->List (Nat×Box)->List Tr->Prop}{o:Oper}
end
section
variable {P:Program}{H:Hints}{ext:FuncId->Option pA}{mt:Hf}{ops:Array Oper}{l:List Oper}{R:List (Nat×RV)}{B:List (Nat×Box)}{K:List (Nat×RV)->List (Nat×Box)->List Tr->Prop}{o:Oper}{d:Nat}
end
end Go.Dw
