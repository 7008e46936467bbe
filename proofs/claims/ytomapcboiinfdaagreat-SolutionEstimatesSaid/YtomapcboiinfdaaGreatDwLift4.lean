
import Derived.Test.YtomapcboiinfdaaGreatDwWp
set_option linter.unusedVariables false
set_option linter.unusedSimpArgs false
open List renaming length_map->BY, map_append->Bq, map_drop->Br, map_replicate->Bs, map_set->Bt, map_take->Bu, range->AI, replicate->AA
open Bool renaming and_eq_true->A5, and_self->Bv, false_eq_true->Ac

namespace Go.Dw
abbrev EvP(P:Program)(H:Hints)(ext:FuncId->Option ng)(f:FuncId)(args:List RV)(bs:List Box)(p:RV×List Box):Prop:=Ev P H ext f args bs p.1 p.2
def mO{α:Type}(l:List α)(n:Int):Option α:=if 0<=n then l[n.toNat]? else none
def pg(s:List UInt8)(n:Int):Option Int:=if 0<=n∧n<s.length then some ((s.getD n.toNat 0).toNat:Nat)else none
def sD{α:Type}(l:List α)(lo hi:Int):Option (List α):=if 0<=lo∧lo<=hi∧hi<=l.length then some ((l.drop lo.toNat).take (hi.toNat-lo.toNat))else none
def nK{α:Type}(l m:List α)(bytes:Nat):Option (List α):=if(l.length+m.length)*bytes<=140737488355328 then some (l++m)else none
def sI(k:IntKind)(x y:Int):Option Int:=if y<0 then none else some (pI k x y)
def shrO(k:IntKind)(x y:Int):Option Int:=if y<0 then none else some (mT k x y)
def nU(k:IntKind)(x y:Int):Option Int:=if y=0 then none else some (k.wrap (x.tdiv y))
def qQ(x y:Int):Option Int:=if y=0 then none else some (x.tmod y)
def se{α:Type}(l:List α)(n:Int)(y:α):Option (List α):=if 0<=n∧n<l.length then some (l.set n.toNat y)else none
def inO{α:Type}(l:List α)(n:Int):Option Unit:=if 0<=n∧n<l.length then some ()else none
theorem wH{α:Type}{l:List α}{n:Int}{x:α}(h:mO l n=some x):0<=n∧n<l.length∧l[n.toNat]? =some x:=by
 unfold mO at h
 split at h
 ·rename_i a
  have:=(List.getElem?_eq_some_iff.1 h).1
  exact⟨a,om,h⟩
 ·cases h
theorem yi{s:List UInt8}{n c:Int}(h:pg s n=some c):(0<=n∧n<s.length)∧c=((s.getD n.toNat 0).toNat:Nat):=by
 unfold pg at h;split at h
 ·cases h;exact⟨by assumption,rfl⟩
 ·cases h
theorem zl{α:Type}{l r:List α}{lo hi:Int}(h:sD l lo hi=some r):(0<=lo∧lo<=hi∧hi<=l.length)∧r=(l.drop lo.toNat).take (hi.toNat-lo.toNat):=by
 unfold sD at h;split at h
 ·cases h;exact⟨by assumption,rfl⟩
 ·cases h
theorem wA{α:Type}{l m r:List α}{b:Nat}(h:nK l m b=some r):(l.length+m.length)*b<=140737488355328∧r=l++m:=by
 unfold nK at h;split at h
 ·cases h;exact⟨by assumption,rfl⟩
 ·cases h
theorem zA{α:Type}{l r:List α}{n:Int}{y:α}(h:se l n y=some r):(0<=n∧n<l.length)∧r=l.set n.toNat y:=by
 unfold se at h;split at h
 ·cases h;exact⟨by assumption,rfl⟩
 ·cases h
theorem zi{α β:Type}{m:Option α}{k:α->Option β}{r:β}(h:m.bind k=some r){G:Prop}(hk:∀x,m=some x->k x=some r->G):G:=by
 cases m with
 |none=>cases h
 |some x=>exact hk x rfl h
theorem na{β:Type}{t:Bool}{a b:Option β}{r:β}(h:(if t=true then a else b)=some r){G:Prop}(h1:t=true->a=some r->G)(c:t=false->b=some r->G):G:=by
 cases t with
 |true=>exact h1 rfl h
 |false=>exact c rfl h
theorem mE{α:Type}(g:α->PD)(l:List α):RV.d (.int .i64 ((l.map g).length:Nat))=RV.d (.int .i64 (l.length:Nat)):=by rw [BY]
inductive mI(σ ω:Type)where
 |next (s:σ)
 |stop (o:ω)
def rH{σ ω:Type}(body:σ->Option (mI σ ω)):Nat->σ->Option ω
 |0,_=>none
 |n+1,s=>
  match body s with
  |some (.next s')=>rH body n s'
  |some (.stop o)=>some o
  |none=>none
theorem tl{σ ω:Type}{body:σ->Option (mI σ ω)}:∀{n m:Nat}{s:σ}{o:ω},rH body n s=some o->n<=m->rH body m s=some o
 |0,_,_,_,h,_=>by cases h
 |n+1,0,_,_,_,hm=>by omega
 |n+1,m+1,s,o,h,hm=>by
  simp only [rH]at h⊢
  rcases a:body s with _|(s'|b)
  ·simp [a]at h
  ·simp only [a]at h⊢;exact tl h om
  ·simp only [a]at h⊢;exact h
open Classical in
noncomputable def mF {σ ω:Type} (body:σ->Option (mI σ ω)) (s:σ):Option ω:=if h:∃n o,rH body n s=some o then some h.choose_spec.choose else none
theorem qL{σ ω:Type}{body:σ->Option (mI σ ω)}{n:Nat}{s:σ}{o:ω}(h:rH body n s=some o):mF body s=some o:=by
 have he:∃n o,rH body n s=some o:=⟨n,o,h⟩
 unfold mF
 rw [dif_pos he]
 have b:=he.choose_spec.choose_spec
 have c:=tl h (Nat.le_max_left n he.choose)
 have a:=tl b (Nat.le_max_right n he.choose)
 rw [c]at a
 exact a.symm
theorem tn{σ ω:Type}{body:σ->Option (mI σ ω)}{s:σ}{o:ω}(h:mF body s=some o):∃n,rH body n s=some o:=by
 unfold mF at h
 split at h
 ·rename_i he
  cases h
  exact⟨_,he.choose_spec.choose_spec⟩
 ·cases h
theorem mK{σ ω:Type}{body:σ->Option (mI σ ω)}{s s':σ}(h:body s=some (.next s')):mF body s=mF body s':=by
 cases h1:mF body s' with
 |some o=>
  obtain⟨n,a⟩:=tn h1
  exact qL (n:=n+1) (by simp only [rH,h];exact a)
 |none=>
  cases b:mF body s with
  |none=>rfl
  |some o=>
   obtain⟨n,a⟩:=tn b
   cases n with
   |zero=>cases a
   |succ n=>
    simp only [rH,h]at a
    rw [qL a]at h1
    cases h1
theorem mG{σ ω:Type}{body:σ->Option (mI σ ω)}{s:σ}{o:ω}(h:body s=some (.stop o)):mF body s=some o:=
 qL (n:=1) (by simp only [rH,h])
open Classical in
section
variable {P:Program}{H:Hints}{ext:FuncId->Option ng}{f:FuncId}{nb:Nat}{R:List (Nat×RV)}{B:List (Nat×Box)}{Q:Ex->List (Nat×RV)->List (Nat×Box)->Prop}
theorem WL.mL{σ ω:Type}{body:σ->Option (mI σ ω)}{b:Code}{s0:σ}{o:ω}(h:mF body s0=some o)(I:σ->List (Nat×RV)->List (Nat×Box)->Prop)(m:ω->Ex->List (Nat×RV)->List (Nat×Box)->Prop)(p:I s0 R B)
  (a:∀s R B x,I s R B->body s=some x->WC P H ext f nb b R B fun e g c=>match x with| .next s'=>e= .normal∧I s' g c| .stop q=>e≠ .normal∧m q e g c)
  (t:∀e g c,e≠ .normal->m o e g c->Q e g c):WL P H ext f nb b R B Q:=by
 obtain⟨n,i⟩:=tn h
 clear h
 induction n generalizing s0 R B with
 |zero=>cases i
 |succ n v=>
  simp only [rH]at i
  rcases j:body s0 with _|(s'|q)
  ·simp [j]at i
  ·simp only [j]at i
   obtain⟨e,g,c,k,he,r⟩:=a s0 R B _ p j
   subst he
   exact WL.round ⟨.normal,g,c,k,v r i⟩
  ·simp only [j,Option.some.injEq]at i
   subst i
   obtain⟨e,g,c,k,he,u⟩:=a s0 R B _ p j
   refine WL.round ⟨e,g,c,k,?_⟩
   have:=t e g c he u
   cases e with
   |normal=>exact(he rfl).elim
   |exit id=>exact this
   |ret=>exact this
theorem WC.join{α:Type}{a b:Code}(I:α->List (Nat×RV)->List (Nat×Box)->Prop)(G:α->Prop)(h1:WC P H ext f nb a R B fun e g c=>match e with| .normal=>∃x,I x g c∧G x|e=>Q e g c)
  (i:∀x g c,I x g c->G x->WC P H ext f nb b g c Q):WC P H ext f nb (.seq a b) R B Q:=by
 refine WC.seq ?_
 obtain⟨e,g,c,m,h⟩:=h1
 refine⟨e,g,c,m,?_⟩
 cases e with
 |normal=>obtain⟨x,k,j⟩:=h;exact i x g c k j
 |exit id=>exact h
 |ret=>exact h
end
section
variable {P:Program}{H:Hints}{ext:FuncId->Option ng}{mt:Hf}{ops:Array Oper}{l:List Oper}{R:List (Nat×RV)}{B:List (Nat×Box)}{K:List (Nat×RV)->List (Nat×Box)->List Tr->Prop}{o:Oper}{d:Nat}
theorem WO.s0{v v':RV}{rd:List Nat}(hw:mR ops (A R B) o=some true)(c:o.dst=some d)(he:∀n,nw P mt (nR P H ext n) (A R B) o (assoc B)=some ((v,[]),rd,true))(e:v=v')
  (h:WO P H ext mt ops l ((d,v')::R) B fun b a ts=>K b a (⟨rd,[]⟩::ts)):WO P H ext mt ops (o::l) R B K:=by
 subst e
 exact WO.step (u:=[]) hw c he rfl h
theorem WO.s1{v:RV}{id:Nat}{a:Box}{rd:List Nat}(hw:mR ops (A R B) o=some true)(e:o.dst=some d)(he:∀n,nw P mt (nR P H ext n) (A R B) o (assoc B)=some ((v,[(id,a)]),rd,true))
  (h:WO P H ext mt ops l ((d,v)::R) ((id,a)::B) fun c b ts=>K c b (⟨rd,[id]⟩::ts)):WO P H ext mt ops (o::l) R B K:=
 WO.step (u:=[(id,a)]) hw e he rfl h
theorem WO.n1{v:RV}{id:Nat}{a:Box}{rd:List Nat}(hw:mR ops (A R B) o=some true)(e:o.dst=none)(he:∀n,nw P mt (nR P H ext n) (A R B) o (assoc B)=some ((v,[(id,a)]),rd,true))
  (h:WO P H ext mt ops l R ((id,a)::B) fun c b ts=>K c b (⟨rd,[id]⟩::ts)):WO P H ext mt ops (o::l) R B K:=
 WO.stepN (u:=[(id,a)]) hw e he rfl h
theorem WO.bin{op:BinOp}{t t':TypeId}{x y:Operand}{a b:RV}{p:PD}(he:tF P op t a b=some (p,true))(hw:mR ops (A R B) o=some true)(g:o.dst=some d)(i:o.op= .binOp op t x y t')(j:(A R B).opd x=some a)(k:(A R B).opd y=some b)
  (h:WO P H ext mt ops l ((d,.d p)::R) B fun e c ts=>K e c (⟨[],[]⟩::ts)):WO P H ext mt ops (o::l) R B K:=by
 refine WO.s0 (rd:=[]) hw g (fun n=>?_) rfl h
 simp only [nw,i,j,k,binX,he]
 rfl
theorem WO.pO{op:BinOp}{t t':TypeId}{x y:Operand}{a c:RV}{b b':Bool}(he:tF P op t a c=some (.bool b,true))(i:b=b')(hw:mR ops (A R B) o=some true)(j:o.dst=some d)(k:o.op= .binOp op t x y t')(m:(A R B).opd x=some a)(n:(A R B).opd y=some c)
  (h:WO P H ext mt ops l ((d,.d (.bool b'))::R) B fun g e ts=>K g e (⟨[],[]⟩::ts)):WO P H ext mt ops (o::l) R B K:=by
 subst i
 exact WO.bin he hw j k m n h
theorem WO.split{b:Bool}{rd:List Nat}(hw:mR ops (A R B) o=some true)(e:o.dst=some d)(he:∀n,nw P mt (nR P H ext n) (A R B) o (assoc B)=some ((.d (.bool b),[]),rd,true))
  (h:WO P H ext mt ops l ((d,.d (.bool b))::R) B fun c a ts=>K c a (⟨rd,[]⟩::ts)):WO P H ext mt ops (o::l) R B K:=
 WO.step (u:=[]) hw e he rfl h
theorem WO.elemG{α:Type}{g:α->PD}{li:List α}{t e:TypeId}{x i:Operand}{k:IntKind}{n:Int}{sz:Nat}{y:α}{cs:List PD}(C:mO li n=some y)(hw:mR ops (A R B) o=some true)(z:o.dst=some d)(D:o.op= .indexAddr t x i)(F:(A R B).opd x=some (.d (.lst (li.map g))))(hi:(A R B).opd i=some (.d (.int k n)))
  (E:P.underlying t=some (.slice e)) (G:szT P e=some sz) (v:(g y).cells=cs) (a:cs.length=sz)
  (h:WO P H ext mt ops l ((d,.cptr cs)::R) B fun q p ts=>K q p (⟨[],[]⟩::ts)):WO P H ext mt ops (o::l) R B K:=by
 subst v
 obtain⟨r,h1,s⟩:=wH C
 have b:(li.map g).getD n.toNat default=g y:=by simp [s]
 have j:0<=n∧n<(li.map g).length:=by simpa using⟨r,h1⟩
 refine WO.step (u:=[]) (rd:=[]) (c:=true) hw z (fun m=>?_) rfl h
 simp only [nw,D,F,hi,nX,E,G,b,j,a,and_self,decide_true,beq_self_eq_true,Bool.and_true]
 rfl
theorem WO.tI{t:TypeId}{x i:Operand}{s:List UInt8}{k:IntKind}{n c:Int}(g:pg s n=some c)(hw:mR ops (A R B) o=some true)(e:o.dst=some d)(j:o.op= .index t x i)(q:(A R B).opd x=some (.d (.str s)))(hi:(A R B).opd i=some (.d (.int k n)))(p:P.underlying t=some .string)
  (h:WO P H ext mt ops l ((d,.d (.int .u8 c))::R) B fun b a ts=>K b a (⟨[],[]⟩::ts)):WO P H ext mt ops (o::l) R B K:=by
 obtain⟨h1,rfl⟩:=yi g
 refine WO.step (u:=[]) (rd:=[]) (c:=decide (0<=n∧n<s.length)) hw e (fun m=>?_) (by simpa using h1) h
 simp only [nw,j,q,hi,rX,ti,p]
 rfl
theorem WO.cutL{α:Type}{g:α->PD}{t e:TypeId}{x:Operand}{lo hi:Option Operand}{li r:List α}{p j:Option RV}{a b:Int}{sz:Nat}(D:sD li a b=some r)(n:∀x,(g x).cells.length=sz)(k:mt.lit (o.dst.getD 0)=false)(hw:mR ops (A R B) o=some true)(C:o.dst=some d)(G:o.op= .slice t x lo hi none)(J:(A R B).opd x=some (.d (.lst (li.map g))))(I:P.underlying t=some (.slice e))(L:szT P e=some sz)
  (F:nY (A R B) lo=some p) (E:nY (A R B) hi=some j) (y:bnd p 0=some a) (z:bnd j li.length=some b)
  (h:WO P H ext mt ops l ((d,.d (.lst (r.map g)))::R) B fun s q ts=>K s q (⟨[],[]⟩::ts)):WO P H ext mt ops (o::l) R B K:=by
 obtain⟨h1,rfl⟩:=zl D
 have i:bnd j ((li.map g).length:Nat)=some b:=by simpa using z
 have he:(((li.drop a.toNat).take (b.toNat-a.toNat)).map g)=cut (li.map g) a.toNat (hiOf j b):=by
  rw [qw (li.map g) j a b i (by simpa using h1)];simp
 rw [he]at h
 refine WO.step (u:=[]) (rd:=[]) (c:=decide (0<=a∧a<=b∧b<=(li.map g).length)&&(li.map g).all (fun e=>e.cells.length==sz)) hw C (fun m=>?_) ?_ h
 ·have v:nY (A R B) none=some none:=rfl
  simp only [nw,G,J,F,E,v,k,Ac,if_false,oa,I,y,i,L]
  rfl
 ·simp only [A5,decide_eq_true_eq]
  refine⟨by simpa using h1,?_⟩
  simp [n]
theorem WO.pU{t t':TypeId}{x y:Operand}{k k':IntKind}{a b r:Int}(e:nU k a b=some r)(hw:mR ops (A R B) o=some true)(m:o.dst=some d)(p:o.op= .binOp .quo t x y t')(q:(A R B).opd x=some (.d (.int k a)))(s:(A R B).opd y=some (.d (.int k' b)))(hk:k=k')
  (h:WO P H ext mt ops l ((d,.d (.int k r))::R) B fun i g ts=>K i g (⟨[],[]⟩::ts)):WO P H ext mt ops (o::l) R B K:=by
 subst hk
 unfold nU at e
 split at e
 ·cases e
 ·rename_i j
  cases e
  refine WO.step (u:=[]) (rd:=[]) (c:=b != 0) hw m (fun n=>?_) (by simpa using j) h
  simp only [nw,p,q,s,binX,tF,vg,if_true,ui]
  rfl
theorem WO.shlG{t t':TypeId}{x y:Operand}{k k':IntKind}{a b r:Int}(e:sI k a b=some r)(hw:mR ops (A R B) o=some true)(m:o.dst=some d)(p:o.op= .binOp .shl t x y t')(q:(A R B).opd x=some (.d (.int k a)))(s:(A R B).opd y=some (.d (.int k' b)))
  (h:WO P H ext mt ops l ((d,.d (.int k r))::R) B fun i g ts=>K i g (⟨[],[]⟩::ts)):WO P H ext mt ops (o::l) R B K:=by
 unfold sI at e
 split at e
 ·cases e
 ·rename_i j
  cases e
  refine WO.step (u:=[]) (rd:=[]) (c:=decide (0<=b)) hw m (fun n=>?_) (by simpa using j) h
  simp only [nw,p,q,s,binX,tF,vg]
  rfl
theorem WO.shrG{t t':TypeId}{x y:Operand}{k k':IntKind}{a b r:Int}(e:shrO k a b=some r)(hw:mR ops (A R B) o=some true)(m:o.dst=some d)(p:o.op= .binOp .shr t x y t')(q:(A R B).opd x=some (.d (.int k a)))(s:(A R B).opd y=some (.d (.int k' b)))
  (h:WO P H ext mt ops l ((d,.d (.int k r))::R) B fun i g ts=>K i g (⟨[],[]⟩::ts)):WO P H ext mt ops (o::l) R B K:=by
 unfold shrO at e
 split at e
 ·cases e
 ·rename_i j
  cases e
  refine WO.step (u:=[]) (rd:=[]) (c:=decide (0<=b)) hw m (fun n=>?_) (by simpa using j) h
  simp only [nw,p,q,s,binX,tF,vg]
  rfl
theorem WO.remG{t t':TypeId}{x y:Operand}{k k':IntKind}{a b r:Int}(e:qQ a b=some r)(hw:mR ops (A R B) o=some true)(m:o.dst=some d)(p:o.op= .binOp .rem t x y t')(q:(A R B).opd x=some (.d (.int k a)))(s:(A R B).opd y=some (.d (.int k' b)))(hk:k=k')
  (h:WO P H ext mt ops l ((d,.d (.int k r))::R) B fun i g ts=>K i g (⟨[],[]⟩::ts)):WO P H ext mt ops (o::l) R B K:=by
 subst hk
 unfold qQ at e
 split at e
 ·cases e
 ·rename_i j
  cases e
  refine WO.step (u:=[]) (rd:=[]) (c:=b != 0) hw m (fun n=>?_) (by simpa using j) h
  simp only [nw,p,q,s,binX,tF,vg,if_true,ui]
  rfl
theorem WO.appR{α:Type}{g:α->PD}{li m r:List α}{t e:TypeId}{x y:Operand}{c:Call}{id ver sz by_:Nat}{z:Value}(G:nK li m (by_+1)=some r)(k:∀x,(g x).cells.length=sz+1)(hw:mR ops (A R B) o=some true)(F:o.dst=some d)(I:o.op= .call c)
  (E:c.callee= .builtin .append) (C:c.args.toList=[x,y]) (a:c.argTypes= #[t,t]) (L:(A R B).opd x=some (.ref id ver)) (N:(A R B).opd y=some (.d (.lst (m.map g))))
  (D:assoc B id=some (.arr ver e (li.map g))) (J:od P t=some e) (O:szT P e=some (sz+1)) (b:oT P e=some (by_+1)) (q:n0 P e=some z) (p:z.cells.size=sz+1)
  (h:WO P H ext mt ops l ((d,.ref id (ver+1))::R) ((id,.arr (ver+1) e (r.map g))::B) fun v s ts=>K v s (⟨[id],[id]⟩::ts)):WO P H ext mt ops (o::l) R B K:=by
 obtain⟨h1,rfl⟩:=wA G
 rw [Bq]at h
 refine WO.step (u:=[(id,.arr (ver+1) e (li.map g++m.map g))]) (rd:=[id]) (c:=decide (((li.map g).length+(m.map g).length)*(by_+1)<=140737488355328)&&(m.map g).all (fun e=>e.cells.length==sz+1)) hw F (fun n=>?_) ?_ h
 ·have j:oR (A R B) c.args.toList=some [.ref id ver,.d (.lst (m.map g))]:=by simp only [C,oR,L,N]
  simp only [nw,I,E,j,a]
  have i:∀(m T:M (RV×Ups)),(if(#[t,t]:Array TypeId).size=2 then m else T)=m:=fun _ _=>if_pos rfl
  rw [i,if_pos (show(#[t,t]:Array TypeId).getD 0 0=(#[t,t]:Array TypeId).getD 1 0 from rfl)]
  show oC P _ t t _ _ _=_
  simp only [oC,J,O,b,q,p,and_self,if_true,M.bind,nV,M.pure,M.get,D,M.mS]
  simp
 ·simp only [A5,decide_eq_true_eq]
  exact⟨by simpa using h1,by simp [k]⟩
theorem WO.appN{α:Type}{g:α->PD}{m r:List α}{t e:TypeId}{x y:Operand}{c:Call}{sz by_:Nat}{z:Value}(I:nK [] m (by_+1)=some r)(k:∀x,(g x).cells.length=sz+1)(hw:mR ops (A R B) o=some true)(s:o.dst=some d)(J:o.op= .call c)
  (G:c.callee= .builtin .append) (E:c.args.toList=[x,y]) (a:c.argTypes= #[t,t]) (N:(A R B).opd x=some .cI) (O:(A R B).opd y=some (.d (.lst (m.map g))))
  (F:assoc B (d*16)=none) (L:od P t=some e) (T:szT P e=some (sz+1)) (b:oT P e=some (by_+1)) (q:n0 P e=some z) (p:z.cells.size=sz+1)
  (h:WO P H ext mt ops l ((d,.ref (d*16) 0)::R) ((d*16,.arr 0 e (r.map g))::B) fun D C ts=>K D C (⟨[d*16],[d*16]⟩::ts)):WO P H ext mt ops (o::l) R B K:=by
 obtain⟨h1,v⟩:=wA I
 rw [List.nil_append]at v
 subst v
 refine WO.step (u:=[(d*16,.arr 0 e (r.map g))]) (rd:=[d*16]) (c:=decide ((r.map g).length*(by_+1)<=140737488355328)&&(r.map g).all (fun e=>e.cells.length==sz+1)) hw s (fun n=>?_) ?_ h
 ·have j:oR (A R B) c.args.toList=some [.cI,.d (.lst (r.map g))]:=by simp only [E,oR,N,O]
  simp only [nw,J,G,j,a,s,Option.getD_some]
  have i:∀(m W:M (RV×Ups)),(if(#[t,t]:Array TypeId).size=2 then m else W)=m:=fun _ _=>if_pos rfl
  rw [i,if_pos (show(#[t,t]:Array TypeId).getD 0 0=(#[t,t]:Array TypeId).getD 1 0 from rfl)]
  show oC P _ t t _ _ _=_
  simp only [oC,L,T,b,q,p,and_self,if_true,M.bind,nV,M.pure,M.nu,F,M.mS]
  simp
 ·simp only [A5,decide_eq_true_eq]
  exact⟨by simpa using h1,by simp [k]⟩
theorem WO.vK{α:Type}{g:α->PD}{li:List α}{t e:TypeId}{x:Operand}{c:Call}{id ver:Nat}(hw:mR ops (A R B) o=some true)(q:o.dst=some d)(r:o.op= .call c)
  (p:c.callee= .builtin .len) (k:c.args.toList=[x]) (a:c.argTypes= #[t]) (v:(A R B).opd x=some (.ref id ver)) (m:assoc B id=some (.arr ver e (li.map g))) (s:P.underlying t=some (.slice e))
  (h:WO P H ext mt ops l ((d,.d (.int .i64 (li.length:Int)))::R) B fun j i ts=>K j i (⟨[id],[]⟩::ts)):WO P H ext mt ops (o::l) R B K:=by
 refine WO.step (u:=[]) (rd:=[id]) (c:=true) hw q (fun n=>?_) rfl h
 have b:oR (A R B) c.args.toList=some [.ref id ver]:=by simp only [k,oR,v]
 simp only [nw,r,p,b,a]
 show vJ P t _ _=_
 simp [vJ,s,M.bind,M.get,m,nG,M.pure]
theorem WO.qi{α:Type}{g:α->PD}{li:List α}{t e:TypeId}{x i:Operand}{k:IntKind}{n:Int}{id ver sz:Nat}{y:Unit}(a:inO li n=some y)(hw:mR ops (A R B) o=some true)(q:o.dst=some d)(s:o.op= .indexAddr t x i)(z:(A R B).opd x=some (.ref id ver))(hi:(A R B).opd i=some (.d (.int k n)))
  (p:assoc B id=some (.arr ver e (li.map g))) (v:P.underlying t=some (.slice e)) (C:szT P e=some sz)
  (h:WO P H ext mt ops l ((d,.elt id ver n.toNat 0)::R) B fun j b ts=>K j b (⟨[id],[]⟩::ts)):WO P H ext mt ops (o::l) R B K:=by
 have r:0<=n∧n<li.length:=by unfold inO at a;split at a<;>first|assumption|cases a
 refine WO.step (u:=[]) (rd:=[id]) (c:=decide (0<=n∧n<(li.map g).length)) hw q (fun m=>?_) (by simpa using r) h
 simp only [nw,s,z,hi,nX,v,C,M.bind,M.get,p,and_self,if_true,nr,M.mS]
 simp
theorem WO.qJ{α:Type}{g:α->PD}{li:List α}{t e:TypeId}{a:Operand}{n:Int}{id ver off:Nat}{y:α}{v:RV}(s:mO li n=some y)(hw:mR ops (A R B) o=some true)(r:o.dst=some d)(x:o.op= .load t a)(p:(A R B).opd a=some (.elt id ver n.toNat off))
  (q:assoc B id=some (.arr ver e (li.map g))) (z:pK P t ((g y).cells.drop off) (assoc B)=some ((v,[]),[],true))
  (h:WO P H ext mt ops l ((d,v)::R) B fun i b ts=>K i b (⟨[id],[]⟩::ts)):WO P H ext mt ops (o::l) R B K:=by
 obtain⟨C,h1,j⟩:=wH s
 refine WO.step (u:=[]) (rd:=[id]) (c:=true) hw r (fun m=>?_) rfl h
 have k:(li.map g)[n.toNat]? =some (g y):=by simp [j]
 simp only [nw,x,p,pN,M.bind,M.get,q,if_true,k,z]
 simp
theorem WO.rA{α:Type}{g:α->PD}{li r:List α}{t e:TypeId}{a x:Operand}{n:Int}{id ver sz:Nat}{y:α}{p:PD}(G:se li n y=some r)(k:∀x,(g x).cells.length=sz)(j:∀x,(g x).put 0 p.cells=g y)(hw:mR ops (A R B) o=some true)(F:o.dst=none)(I:o.op= .store t a x)(D:(A R B).opd a=some (.elt id ver n.toNat 0))(L:(A R B).opd x=some (.d p))
  (E:assoc B id=some (.arr ver e (li.map g))) (N:szT P t=some sz) (J:(RV.d p).sized=true) (i:p.cells.length=sz)
  (h:WO P H ext mt ops l R ((id,.arr ver e (r.map g))::B) fun z s ts=>K z s (⟨[id],[id]⟩::ts)):WO P H ext mt ops (o::l) R B K:=by
 obtain⟨h1,rfl⟩:=zA G
 have b:n.toNat<li.length:=by omega
 have C:(li.map g)[n.toNat]? =some (g li[n.toNat]):=by simp [b]
 rw [Bt, <-j li[n.toNat]]at h
 refine WO.stepN (v:= .undef) (u:=[(id,.arr ver e ((li.map g).set n.toNat ((g li[n.toNat]).put 0 p.cells)))]) (rd:=[id]) (c:=(RV.d p).sized&&decide (p.cells.length=sz∧0+sz<=(g li[n.toNat]).cells.length)) hw F (fun m=>?_) ?_ h
 ·have q:pf (.d p)=M.pure (p,[]):=rfl
  simp only [nw,I,D,L,rz,N,M.bind,M.get,E,if_true,q,M.pure,C,M.mS]
  simp [M.mS]
 ·simp [J,i,k]
end
end Go.Dw
attribute [irreducible] Go.Dw.nU Go.Dw.qQ Go.Dw.sI Go.Dw.shrO
namespace Go.Dw
def uw(n:Nat)(lo hi:Int):Option Unit:=if 0<=lo∧lo<=hi∧hi<=n then some ()else none
def inV(len lo hi:Nat)(n:Int):Option Unit:=if 0<=n∧n<(hi:Int)-lo∧hi<=len then some ()else none
def lenV(len lo hi:Nat):Option Int:=if lo<=hi∧hi<=len then some ((hi:Int)-lo)else none
def uQ(len lo hi:Nat):Option Unit:=if lo<=hi∧hi<=len then some ()else none
def sd{α:Type}(li:List α)(lo hi:Nat):Option (List α):=if lo<=hi∧hi<=li.length then some ((li.drop lo).take (hi-lo))else none
def tM{α:Type}(li:List α)(off m:Nat)(a:List α):List α:=li.take off++a.take (Nat.min a.length m)++li.drop (off+Nat.min a.length m)
def p9{α:Type}(li:List α)(off m:Nat)(z:α):List α:=li.take off++AA m z++li.drop (off+m)
section
variable {P:Program}{H:Hints}{ext:FuncId->Option ng}{mt:Hf}{ops:Array Oper}{l:List Oper}{R:List (Nat×RV)}{B:List (Nat×Box)}{K:List (Nat×RV)->List (Nat×Box)->List Tr->Prop}{o:Oper}{d:Nat}
theorem WO.subR{α:Type}{g:α->PD}{li:List α}{t e:TypeId}{x:Operand}{lo hi:Option Operand}{r q:Option RV}{a b:Int}{id ver sz:Nat}{y:Unit}(j:uw li.length a b=some y)(k:mt.lit (o.dst.getD 0)=false)(hw:mR ops (A R B) o=some true)(E:o.dst=some d)(I:o.op= .slice t x lo hi none)(L:(A R B).opd x=some (.ref id ver))
  (C:assoc B id=some (.arr ver e (li.map g))) (J:P.underlying t=some (.slice e)) (N:szT P e=some (sz+1)) (G:nY (A R B) lo=some r) (F:nY (A R B) hi=some q) (z:bnd r 0=some a) (i:bnd q (li.length:Int)=some b)
  (h:WO P H ext mt ops l ((d,.view id ver (0+a.toNat) (0+b.toNat))::R) B fun v s ts=>K v s (⟨[id,id],[]⟩::ts)):WO P H ext mt ops (o::l) R B K:=by
 have D:0<=a∧a<=b∧b<=li.length:=by unfold uw at j;split at j<;>first|assumption|cases j
 have p:(((li.map g).length:Nat):Int)-((0:Nat):Int)=(li.length:Int):=by simp
 refine WO.step (u:=[]) (rd:=[id,id]) (c:=decide (0<=(li.map g).length∧(li.map g).length<=(li.map g).length∧0<=a∧a<=b∧b<=(((li.map g).length:Nat):Int)-((0:Nat):Int))) hw E (fun m=>?_) (by rw [p];simpa using D) h
 have n:nY (A R B) none=some none:=rfl
 simp only [nw,I,L,G,F,n,k,Ac,if_false,oa,J,M.bind,M.get,C,sliceB,z,p,i,N,and_self,if_true,nr,M.mS]
 simp
theorem WO.lenVw{α:Type}{g:α->PD}{li:List α}{t e:TypeId}{x:Operand}{c:Call}{id ver lo hi:Nat}{n:Int}(a:lenV li.length lo hi=some n)(hw:mR ops (A R B) o=some true)(s:o.dst=some d)(v:o.op= .call c)
  (r:c.callee= .builtin .len) (p:c.args.toList=[x]) (b:c.argTypes= #[t]) (z:(A R B).opd x=some (.view id ver lo hi)) (q:assoc B id=some (.arr ver e (li.map g))) (y:P.underlying t=some (.slice e))
  (h:WO P H ext mt ops l ((d,.d (.int .i64 n))::R) B fun m k ts=>K m k (⟨[id],[]⟩::ts)):WO P H ext mt ops (o::l) R B K:=by
 unfold lenV at a
 split at a
 rotate_left
 ·cases a
 rename_i i
 cases a
 refine WO.step (u:=[]) (rd:=[id]) (c:=decide (lo<=hi∧hi<=(li.map g).length)) hw s (fun n=>?_) (by simpa using i) h
 have j:oR (A R B) c.args.toList=some [.view id ver lo hi]:=by simp only [p,oR,z]
 simp only [nw,v,r,j,b]
 show vJ P t _ _=_
 simp [vJ,y,M.bind,M.get,q,nr,M.mS]
theorem WO.eltV{α:Type}{g:α->PD}{li:List α}{t e:TypeId}{x i:Operand}{k:IntKind}{n:Int}{id ver lo hi sz:Nat}{y:Unit}(a:inV li.length lo hi n=some y)(hw:mR ops (A R B) o=some true)(r:o.dst=some d)(v:o.op= .indexAddr t x i)(C:(A R B).opd x=some (.view id ver lo hi))(b:(A R B).opd i=some (.d (.int k n)))
  (q:assoc B id=some (.arr ver e (li.map g))) (z:P.underlying t=some (.slice e)) (D:szT P e=some sz)
  (h:WO P H ext mt ops l ((d,.elt id ver (lo+n.toNat) 0)::R) B fun p j ts=>K p j (⟨[id],[]⟩::ts)):WO P H ext mt ops (o::l) R B K:=by
 have s:0<=n∧n<(hi:Int)-lo∧hi<=li.length:=by unfold inV at a;split at a<;>first|assumption|cases a
 refine WO.step (u:=[]) (rd:=[id]) (c:=decide (0<=n∧n<(hi:Int)-lo∧hi<=(li.map g).length)) hw r (fun m=>?_) (by simpa using s) h
 simp only [nw,v,C,b,nX,z,D,M.bind,M.get,q,and_self,if_true,nr,M.mS]
 simp
theorem xD{α:Type}{g:α->PD}{li:List α}{e:TypeId}{id ver lo hi:Nat}{y:Unit}(a:uQ li.length lo hi=some y)(b:assoc B id=some (.arr ver e (li.map g))):tN (.view id ver lo hi) (assoc B)=some ((id,ver,e,li.map g,lo,hi-lo),[id],true):=by
 have c:lo<=hi∧hi<=li.length:=by unfold uQ at a;split at a<;>first|assumption|cases a
 simp [tN,M.bind,M.get,b,M.mS,c]
theorem src_view{α:Type}{g:α->PD}{li b:List α}{e:TypeId}{id ver lo hi:Nat}(a:sd li lo hi=some b)(c:assoc B id=some (.arr ver e (li.map g))):nV (.view id ver lo hi) (assoc B)=some (b.map g,[id],true):=by
 unfold sd at a
 split at a
 ·rename_i i
  cases a
  simp [nV,M.bind,M.get,c,M.mS,i,Bu,Br]
 ·cases a
theorem copyD_of{α:Type}{g:α->PD}{li i:List α}{t e:TypeId}{id ver off m sz:Nat}{k n:RV}{a b:List Nat}(p:tN k (assoc B)=some ((id,ver,e,li.map g,off,m),a,true))(q:nV n (assoc B)=some (i.map g,b,true))
  (s:P.underlying t=some (.slice e)) (u:szT P e=some (sz+1)) (j:∀x,(g x).cells.length=sz+1):
  sQ P t k n (assoc B)=some ((.d (.int .i64 (Nat.min i.length m:Nat)),[(id,.arr ver e ((tM li off m i).map g))]),a++(b++[]),true):=by
 have he:od P t=some e:=by simp [od,s]
 have r:((i.map g).all fun c=>c.cells.length==sz+1)=true:=by simp [j]
 simp only [sQ,he,u,M.bind,p,q,M.mS,r,decide_true,Bv,BY,tM,Bq,Bu,Br]
theorem WO.copyG{α:Type}{g:α->PD}{li i:List α}{t t2 e:TypeId}{x y:Operand}{c:Call}{id ver off m sz:Nat}{q r:RV}{a b:List Nat}(hw:mR ops (A R B) o=some true)(F:o.dst=some d)(G:o.op= .call c)
  (E:c.callee= .builtin .copy) (D:c.args.toList=[x,y]) (j:c.argTypes= #[t,t2]) (J:(A R B).opd x=some q) (L:(A R B).opd y=some r)
  (z:tN q (assoc B)=some ((id,ver,e,li.map g,off,m),a,true)) (C:nV r (assoc B)=some (i.map g,b,true))
  (I:P.underlying t=some (.slice e)) (N:szT P e=some (sz+1)) (p:∀x,(g x).cells.length=sz+1)
  (h:WO P H ext mt ops l ((d,.d (.int .i64 (Nat.min i.length m:Nat)))::R) ((id,.arr ver e ((tM li off m i).map g))::B) fun v s ts=>K v s (⟨a++(b++[]),[id]⟩::ts)):WO P H ext mt ops (o::l) R B K:=by
 refine WO.step (u:=[(id,.arr ver e ((tM li off m i).map g))]) (rd:=a++(b++[])) (c:=true) hw F (fun n=>?_) rfl h
 have k:oR (A R B) c.args.toList=some [q,r]:=by simp only [D,oR,J,L]
 simp only [nw,G,E,k,j]
 exact copyD_of z C I N p
theorem zj{α:Type}{g:α->PD}{li:List α}{z:α}{t e:TypeId}{id ver off m sz:Nat}{c:RV}{a:List Nat}(j:tN c (assoc B)=some ((id,ver,e,li.map g,off,m),a,true))
  (k:P.underlying t=some (.slice e)) (n:szT P e=some (sz+1)) (i:(n0 P e).bind oB=some (g z)) (b:(g z).cells.length=sz+1):
  qv P t c (assoc B)=some ((.tup [],[(id,.arr ver e ((p9 li off m z).map g))]),a++[],true):=by
 have he:od P t=some e:=by simp [od,k]
 simp only [qv,he,n,i,M.bind,j,M.mS,b,decide_true,beq_self_eq_true,Bv,p9,Bq,Bu,Br,Bs]
theorem WO.clearN{α:Type}{g:α->PD}{li:List α}{z:α}{t e:TypeId}{x:Operand}{c:Call}{id ver off m sz:Nat}{k:RV}{a:List Nat}(hw:mR ops (A R B) o=some true)(D:o.dst=none)(E:o.op= .call c)
  (C:c.callee= .builtin .clear) (y:c.args.toList=[x]) (b:c.argTypes= #[t]) (G:(A R B).opd x=some k)
  (s:tN k (assoc B)=some ((id,ver,e,li.map g,off,m),a,true))
  (F:P.underlying t=some (.slice e)) (I:szT P e=some (sz+1)) (r:(n0 P e).bind oB=some (g z)) (j:(g z).cells.length=sz+1)
  (h:WO P H ext mt ops l R ((id,.arr ver e ((p9 li off m z).map g))::B) fun q p ts=>K q p (⟨a++[],[id]⟩::ts)):WO P H ext mt ops (o::l) R B K:=by
 refine WO.stepN (v:= .tup []) (u:=[(id,.arr ver e ((p9 li off m z).map g))]) (rd:=a++[]) (c:=true) hw D (fun n=>?_) rfl h
 have i:oR (A R B) c.args.toList=some [k]:=by simp only [y,oR,G]
 simp only [nw,E,C,i,b]
 exact zj s F I r j
theorem zC{α:Type}{g:α->PD}{li z:List α}{e:TypeId}{id ver lo hi:Nat}(a:sd li lo hi=some z)(b:assoc B id=some (.arr ver e (li.map g))):pf (.view id ver lo hi) (assoc B)=some ((.lst (z.map g),[(id,.dead)]),[id],true):=by
 unfold sd at a
 split at a
 ·rename_i c
  cases a
  simp [pf,sZ,M.bind,M.get,b,M.mS,c,Bu,Br]
 ·cases a
def yU(nb:Nat)(rs:List RV)(b:nn):Option (RV×List Box):=
 match M.bind (pq 64 [] (AI nb++rs.flatMap idsV)) (fun ids=>M.bind (rV ids) fun a=>M.pure (ids,a)) b with
 |some ((ids,a),_,true)=>
  if ids.take nb=AI nb∧nodup ids=true then
   let ρ:Ren:=⟨idxOf ids,nN b (nq nb)⟩
   some (ov ρ (one rs),(ids.zip a).map fun x=>o0 ρ (nq nb x.1) x.2)
  else none
 |_=>none
theorem zp{own:Nat->Bool}{fn:Func}{nb:Nat}{rs:List RV}{u:Ups}{rd:List Nat}{x:RV×List Box}(h:resD P own (A R B) 0 fn.results.toList (assoc B)=some ((rs,u),rd,true))(a:yU nb rs (rD (assoc B) u)=some x):finish P own fn nb (A R B)=some x:=by
 simp only [finish,h]
 exact a
theorem xJ{α:Type}{g:α->PD}{li z:List α}{e:TypeId}{own:Nat->Bool}{fn:Func}{nb t id ver lo hi:Nat}{x:RV×List Box}{rd:List Nat}(i:sd li lo hi=some z)(a:fn.results.toList=[.tmp t])(j:own 0=false)
  (k:resV P (A R B) (.tmp t) (assoc B)=some (.view id ver lo hi,rd,true)) (c:assoc B id=some (.arr ver e (li.map g))) (m:yU nb [.d (.lst (z.map g))] (rD (assoc B) [(id,.dead)])=some x):finish P own fn nb (A R B)=some x:=by
 refine zp (rs:=[.d (.lst (z.map g))]) (u:=[(id,.dead)]) (rd:=rd++([id]++[])) ?_ m
 have b:=zC (B:=B) i c
 simp [a,resD,M.bind,k,outV,j,b,M.pure,M.mS,RV.sized]
end
end Go.Dw
namespace Go.Dw
section
variable {P:Program}{H:Hints}{ext:FuncId->Option ng}{f:FuncId}{nb:Nat}{R:List (Nat×RV)}{B:List (Nat×Box)}{Q:Ex->List (Nat×RV)->List (Nat×Box)->Prop}
end
end Go.Dw
namespace Go.Dw
def modO{α:Type}(l:List α)(n:Int)(f:α->α):Option (List α):=
 if 0<=n then(match l[n.toNat]? with|some x=>some (l.set n.toNat (f x))|none=>none)else none
theorem zw{α:Type}{l r:List α}{n:Int}{f:α->α}(h:modO l n f=some r):0<=n∧∃c:n.toNat<l.length,r=l.set n.toNat (f l[n.toNat]):=by
 unfold modO at h
 split at h
 ·rename_i a
  split at h
  ·rename_i x b
   cases h
   obtain⟨h1,rfl⟩:=List.getElem?_eq_some_iff.1 b
   exact⟨a,h1,rfl⟩
  ·cases h
 ·cases h
section
variable {P:Program}{H:Hints}{ext:FuncId->Option ng}{mt:Hf}{ops:Array Oper}{l:List Oper}{R:List (Nat×RV)}{B:List (Nat×Box)}{K:List (Nat×RV)->List (Nat×Box)->List Tr->Prop}{o:Oper}
theorem WO.yL{α:Type}{g:α->PD}{f:α->α}{li r:List α}{t e:TypeId}{a x:Operand}{n:Int}{id ver off sz:Nat}{v:RV}{p:PD}{u:Ups}{rd:List Nat}(G:modO li n f=some r)(q:∀x,(g x).put off p.cells=g (f x))
  (b:∀x,off+sz<=(g x).cells.length) (hw:mR ops (A R B) o=some true) (F:o.dst=none) (I:o.op= .store t a x) (D:(A R B).opd a=some (.elt id ver n.toNat off)) (L:(A R B).opd x=some v)
  (E:assoc B id=some (.arr ver e (li.map g))) (N:szT P t=some sz) (J:v.sized=true) (s:pf v (assoc B)=some ((p,u),rd,true)) (j:(u.map (·.1)).contains id=false) (k:p.cells.length=sz)
  (h:WO P H ext mt ops l R (wg (u++[(id,Box.arr ver e (r.map g))]) B) fun z y ts=>K z y (⟨[id]++rd,(u++[(id,Box.arr ver e (r.map g))]).map (·.1)⟩::ts)):WO P H ext mt ops (o::l) R B K:=by
 obtain⟨h1,i,rfl⟩:=zw G
 have C:(li.map g)[n.toNat]? =some (g li[n.toNat]):=by simp [i]
 rw [Bt, <-q li[n.toNat]]at h
 refine WO.stepN (v:= .undef) (u:=u++[(id,.arr ver e ((li.map g).set n.toNat ((g li[n.toNat]).put off p.cells)))]) (rd:=[id]++rd) (c:=v.sized&&decide (p.cells.length=sz∧off+sz<=(g li[n.toNat]).cells.length)) hw F (fun m=>?_) ?_ h
 ·simp only [nw,I,D,L,rz,N,M.bind,M.get,E,if_true,s,C,j,M.mS]
  simp [M.mS]
 ·simp [J,k,b]
end
end Go.Dw
namespace Go.Dw
def mGet{κ β:Type}(eq:κ->κ->Bool)(k:κ)(z:β):List (κ×β)->β
 | []=>z
 |e::r=>if eq k e.1=true then e.2 else mGet eq k z r
def mHas{κ β:Type}(eq:κ->κ->Bool)(k:κ):List (κ×β)->Bool
 | []=>false
 |e::r=>if eq k e.1=true then true else mHas eq k r
def mPut{κ β:Type}(eq:κ->κ->Bool)(k:κ)(v:β):List (κ×β)->List (κ×β)
 | []=>[(k,v)]
 |e::r=>if eq k e.1=true then(k,v)::r else e::mPut eq k v r
def oU{α:Type}(bytes:Nat)(l:List α):Option (List α):=if l.length*bytes<=140737488355328 then some l else none
def mkO{α:Type}(n:Int)(z:α)(bytes:Nat):Option (List α):=if 0<=n∧n.toNat*bytes<=140737488355328∧n.toNat<=140737488355328 then some (AA n.toNat z)else none
section
variable {P:Program}
theorem vM{κ β:Type}{g:κ->PD}{gv:β->PD}{eq:κ->κ->Bool}{s:TypeId}(m:∀a b,vH P s (g a) (g b)=some (eq a b))(k:κ)(z:β):∀(li:List (κ×β))(i:Nat),
  (mHas eq k li=false∧mGet eq k z li=z∧nW P s (g k) (li.map fun e=>(g e.1,gv e.2)) i=some none∧∀v,mPut eq k v li=li++[(k,v)])∨
  ∃j x,mHas eq k li=true∧eq k x=true∧nW P s (g k) (li.map fun e=>(g e.1,gv e.2)) i=some (some (i+j,g x,gv (mGet eq k z li)))∧∀v,mPut eq k v li=li.set j (k,v)
 | [],i=>.inl ⟨rfl,rfl,rfl,fun _=>rfl⟩
 |(x,v)::r,i=>by
  cases c:eq k x with
  |true=>exact .inr ⟨0,x,by simp [mHas,c],c,by simp [nW,m,c,mGet],fun v'=>by simp [mPut,c]⟩
  |false=>
   rcases vM m k z r (i+1)with⟨h1,n,p,q⟩|⟨j,y,h1,n,p,q⟩
   ·exact .inl ⟨by simp [mHas,c,h1],by simp [mGet,c,n],by simp [nW,m,c];exact p,fun v'=>by simp [mPut,c,q]⟩
   ·refine .inr ⟨j+1,y,by simp [mHas,c,h1],n,?_,fun v'=>by simp [mPut,c,q]⟩
    simp only [List.map_cons,nW,m,c]
    rw [p,show i+1+j=i+(j+1)by omega]
    simp [mGet,c]
end
section
variable {P:Program}{H:Hints}{ext:FuncId->Option ng}{mt:Hf}{ops:Array Oper}{l:List Oper}{R:List (Nat×RV)}{B:List (Nat×Box)}{K:List (Nat×RV)->List (Nat×Box)->List Tr->Prop}{o:Oper}{d:Nat}
structure KeyT(P:Program)(kt:TypeId){κ:Type}(gk:κ->PD)(eq:κ->κ->Bool):Prop where
 feq:∀a b,vH P kt (gk a) (gk b)=some (eq a b)
 kind:∀a,oW P kt (gk a)=true
 same:∀a b,eq a b=true->uq (gk a) (gk b)=true
theorem WO.sU{v:RV}{u:Ups}{rd:List Nat}(hw:mR ops (A R B) o=some true)(c:o.dst=some d)(he:∀n,nw P mt (nR P H ext n) (A R B) o (assoc B)=some ((v,u),rd,true))
  (h:WO P H ext mt ops l ((d,v)::R) (wg u B) fun b a ts=>K b a (⟨rd,u.map (·.1)⟩::ts)):WO P H ext mt ops (o::l) R B K:=WO.step hw c he rfl h
theorem WO.strU{li:List Int}{src dst e:TypeId}{x:Operand}(hw:mR ops (A R B) o=some true)(c:o.dst=some d)(g:o.op= .convert src dst x)(k:(A R B).opd x=some (.d (.lst (li.map (.int .u8)))))(i:P.underlying src=some (.slice e))(j:P.underlying dst=some .string)(he:P.underlying e=some (.int .u8))
  (h:WO P H ext mt ops l ((d,.d (.str (Dw.strU li)))::R) B fun b a ts=>K b a (⟨[],[]⟩::ts)):WO P H ext mt ops (o::l) R B K:=by
 refine WO.s0 (rd:=[]) hw c (fun m=>?_) rfl h
 simp only [nw,g,k,rF,i,j,he,u8s_map]
 rfl
theorem WO.look{κ β:Type}{a:κ->PD}{gv:β->PD}{eq:κ->κ->Bool}{k:κ}{z:β}{li:List (κ×β)}{t g i:TypeId}{x y:Operand}{id:Nat}(c:KeyT P g a eq)(E:(n0 P i).bind oB=some (gv z))(hw:mR ops (A R B) o=some true)(D:o.dst=some d)(p:o.op= .lookup t x y false)(r:(A R B).opd x=some (.ptr id 0))(s:(A R B).opd y=some (.d (a k)))
  (m:assoc B id=some (.map g i (li.map fun e=>(a e.1,gv e.2)))) (q:P.underlying t=some (.map g i))
  (h:WO P H ext mt ops l ((d,.d (gv (mGet eq k z li)))::R) B fun v u ts=>K v u (⟨[id],[]⟩::ts)):WO P H ext mt ops (o::l) R B K:=by
 refine WO.s0 (rd:=[id]) hw D (fun n=>?_) rfl h
 rcases vM (gv:=gv) c.feq k z li 0 with⟨-,C,b, -⟩|⟨j,F, -, -,b, -⟩
 ·simp only [nw,p,r,s,pQ,q,M.bind,M.get,m,true_and,c.kind,if_true,b,E,C,Ac,if_false]
  rfl
 ·simp only [nw,p,r,s,pQ,q,M.bind,M.get,m,true_and,c.kind,if_true,b,Ac,if_false]
  rfl
theorem WO.mkS{α:Type}{g:α->PD}{z:α}{n:Int}{r:List α}{t e:TypeId}{x y:Operand}{k k':IntKind}{sz by_:Nat}(a:mkO n z by_=some r)(j:(g z).cells.length=sz+1)(hw:mR ops (A R B) o=some true)(p:o.dst=some d)(D:o.op= .makeSlice t x y)(F:(A R B).opd x=some (.d (.int k n)))(G:(A R B).opd y=some (.d (.int k' n)))
  (v:assoc B (d*16)=none) (E:od P t=some e) (i:szT P e=some (sz+1)) (b:oT P e=some by_) (I:(n0 P e).bind oB=some (g z))
  (h:WO P H ext mt ops l ((d,.ref (d*16) 0)::R) ((d*16,.arr 0 e (r.map g))::B) fun s q ts=>K s q (⟨[d*16],[d*16]⟩::ts)):WO P H ext mt ops (o::l) R B K:=by
 unfold mkO at a
 split at a
 rotate_left
 ·cases a
 rename_i C
 cases a
 rw [Bs]at h
 refine WO.step (u:=[(d*16,.arr 0 e (AA n.toNat (g z)))]) (rd:=[d*16]) (c:=decide (n<=n∧0<=n∧n.toNat*by_<=140737488355328∧n.toNat<=140737488355328)&&((g z).cells.length==sz+1)) hw p (fun m=>?_) ?_ h
 ·simp only [nw,D,F,G,p,Option.getD_some,ou,E,i,b,I,M.bind,M.nu,v,M.mS]
  rfl
 ·simp [C,j]
theorem KeyT.int{e:TypeId}{q:IntKind}(h:P.underlying e=some (.int q)):KeyT P e (PD.int q) (fun a b=>a==b):=
 ⟨fun a b=>by simp [vH,qx,qk],fun a=>by simp [oW,qc,h],fun a b c=>by simpa [uq,sq]using c⟩
theorem KeyT.str{e:TypeId}(h:P.underlying e=some .string):KeyT P e PD.str (fun a b=>a==b):=
 ⟨fun a b=>by simp [vH,qx,qk],fun a=>by simp [oW,qc,h],fun a b c=>by simpa [uq,sq]using c⟩
end
section
variable {P:Program}{H:Hints}{ext:FuncId->Option ng}{mt:Hf}{ops:Array Oper}{l:List Oper}{R:List (Nat×RV)}{B:List (Nat×Box)}{K:List (Nat×RV)->List (Nat×Box)->List Tr->Prop}{o:Oper}
end
section
variable {P:Program}{H:Hints}{ext:FuncId->Option ng}{mt:Hf}{ops:Array Oper}{l:List Oper}{R:List (Nat×RV)}{B:List (Nat×Box)}{K:List (Nat×RV)->List (Nat×Box)->List Tr->Prop}{o:Oper}{d:Nat}
end
end Go.Dw
