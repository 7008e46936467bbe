
import Derived.Test.YthkfkgoddhehcaaGreatDwWp
set_option linter.unusedVariables false
set_option linter.unusedSimpArgs false
open List renaming length_map->Fh, map_append->GL, map_drop->GM, map_replicate->GN, map_set->GO, map_take->GP, range->EH, replicate->EA
open Bool renaming and_eq_true->E8, and_self->GQ, false_eq_true->FD
open Option renaming getD_some->GS

namespace Go.Dw
abbrev EvP(P:Program)(H:Hints)(ext:FuncId->Option tI)(f:FuncId)(args:List RV)(bs:List Box)(p:RV×List Box):Prop:=Ev P H ext f args bs p.1 p.2
def py{α:Type}(l:List α)(n:Int):Option α:=if 0<=n then l[n.toNat]? else none
def wb(s:List UInt8)(n:Int):Option Int:=if 0<=n∧n<s.length then some ((s.getD n.toNat 0).toNat:Nat)else none
def w6{α:Type}(l:List α)(lo hi:Int):Option (List α):=if 0<=lo∧lo<=hi∧hi<=l.length then some ((l.drop lo.toNat).take (hi.toNat-lo.toNat))else none
def tE{α:Type}(l m:List α)(bytes:Nat):Option (List α):=if(l.length+m.length)*bytes<=140737488355328 then some (l++m)else none
def yI(k:IntKind)(x y:Int):Option Int:=if y<0 then none else some (xG k x y)
def BC(k:IntKind)(x y:Int):Option Int:=if y<0 then none else some (tU k x y)
def um(k:IntKind)(x y:Int):Option Int:=if y=0 then none else some (k.wrap (x.tdiv y))
def wO(x y:Int):Option Int:=if y=0 then none else some (x.tmod y)
def vd{α:Type}(l:List α)(n:Int)(y:α):Option (List α):=if 0<=n∧n<l.length then some (l.set n.toNat y)else none
def inO{α:Type}(l:List α)(n:Int):Option Unit:=if 0<=n∧n<l.length then some ()else none
theorem Am{α:Type}{l:List α}{n:Int}{x:α}(h:py l n=some x):0<=n∧n<l.length∧l[n.toNat]? =some x:=by
 unfold py at h
 split at h
 ·rename_i a
  have:=(List.getElem?_eq_some_iff.1 h).1
  exact⟨a,za,h⟩
 ·cases h
theorem Dl{s:List UInt8}{n c:Int}(h:wb s n=some c):(0<=n∧n<s.length)∧c=((s.getD n.toNat 0).toNat:Nat):=by
 unfold wb at h;split at h
 ·cases h;exact⟨by assumption,rfl⟩
 ·cases h
theorem Ea{α:Type}{l r:List α}{lo hi:Int}(h:w6 l lo hi=some r):(0<=lo∧lo<=hi∧hi<=l.length)∧r=(l.drop lo.toNat).take (hi.toNat-lo.toNat):=by
 unfold w6 at h;split at h
 ·cases h;exact⟨by assumption,rfl⟩
 ·cases h
theorem Aj{α:Type}{l m r:List α}{b:Nat}(h:tE l m b=some r):(l.length+m.length)*b<=140737488355328∧r=l++m:=by
 unfold tE at h;split at h
 ·cases h;exact⟨by assumption,rfl⟩
 ·cases h
theorem Er{α:Type}{l r:List α}{n:Int}{y:α}(h:vd l n y=some r):(0<=n∧n<l.length)∧r=l.set n.toNat y:=by
 unfold vd at h;split at h
 ·cases h;exact⟨by assumption,rfl⟩
 ·cases h
def optC{α β:Type}(o:Option α)(a:Option β)(k:α->Option β):Option β:=match o with|none=>a|some y=>k y
theorem opt_elim{α β:Type}{o:Option α}{a:Option β}{k:α->Option β}{r:β}(h:optC o a k=some r){G:Prop}(h1:o=none->a=some r->G)(c:∀y,o=some y->k y=some r->G):G:=by
 cases o with
 |none=>exact h1 rfl h
 |some y=>exact c y rfl h
theorem tF{α β:Type}{m:Option α}{k:α->Option β}{r:β}(h:m.bind k=some r){G:Prop}(hk:∀x,m=some x->k x=some r->G):G:=by
 cases m with
 |none=>cases h
 |some x=>exact hk x rfl h
theorem vG{β:Type}{t:Bool}{a b:Option β}{r:β}(h:(if t=true then a else b)=some r){G:Prop}(h1:t=true->a=some r->G)(c:t=false->b=some r->G):G:=by
 cases t with
 |true=>exact h1 rfl h
 |false=>exact c rfl h
theorem uf{α:Type}(g:α->PD)(l:List α):RV.d (.int .i64 ((l.map g).length:Nat))=RV.d (.int .i64 (l.length:Nat)):=by rw [Fh]
inductive pH(σ ω:Type)where
 |next (s:σ)
 |stop (o:ω)
def yf{σ ω:Type}(body:σ->Option (pH σ ω)):Nat->σ->Option ω
 |0,_=>none
 |n+1,s=>
  match body s with
  |some (.next s')=>yf body n s'
  |some (.stop o)=>some o
  |none=>none
theorem zp{σ ω:Type}{body:σ->Option (pH σ ω)}:∀{n m:Nat}{s:σ}{o:ω},yf body n s=some o->n<=m->yf body m s=some o
 |0,_,_,_,h,_=>by cases h
 |n+1,0,_,_,_,hm=>by omega
 |n+1,m+1,s,o,h,hm=>by
  simp only [yf]at h⊢
  rcases a:body s with _|(s'|c)
  ·simp [a]at h
  ·simp only [a]at h⊢;exact zp h za
  ·simp only [a]at h⊢;exact h
open Classical in
noncomputable def cI {σ ω:Type} (body:σ->Option (pH σ ω)) (s:σ):Option ω:=if h:∃n o,yf body n s=some o then some h.choose_spec.choose else none
theorem xC{σ ω:Type}{body:σ->Option (pH σ ω)}{n:Nat}{s:σ}{o:ω}(h:yf body n s=some o):cI body s=some o:=by
 have he:∃n o,yf body n s=some o:=⟨n,o,h⟩
 unfold cI
 rw [dif_pos he]
 have c:=he.choose_spec.choose_spec
 have g:=zp h (Nat.le_max_left n he.choose)
 have a:=zp c (Nat.le_max_right n he.choose)
 rw [g]at a
 exact a.symm
theorem zq{σ ω:Type}{body:σ->Option (pH σ ω)}{s:σ}{o:ω}(h:cI body s=some o):∃n,yf body n s=some o:=by
 unfold cI at h
 split at h
 ·rename_i he
  cases h
  exact⟨_,he.choose_spec.choose_spec⟩
 ·cases h
theorem tv{σ ω:Type}{body:σ->Option (pH σ ω)}{s s':σ}(h:body s=some (.next s')):cI body s=cI body s':=by
 cases h1:cI body s' with
 |some o=>
  obtain⟨n,a⟩:=zq h1
  exact xC (n:=n+1) (by simp only [yf,h];exact a)
 |none=>
  cases c:cI body s with
  |none=>rfl
  |some o=>
   obtain⟨n,a⟩:=zq c
   cases n with
   |zero=>cases a
   |succ n=>
    simp only [yf,h]at a
    rw [xC a]at h1
    cases h1
theorem dE{σ ω:Type}{body:σ->Option (pH σ ω)}{s:σ}{o:ω}(h:body s=some (.stop o)):cI body s=some o:=
 xC (n:=1) (by simp only [yf,h])
open Classical in
noncomputable def recO {β:Type} (g:Nat->Option β):Option β:=if h:∃n r,g n=some r then some h.choose_spec.choose else none
theorem Ep{β:Type}{g:Nat->Option β}{r:β}(h:recO g=some r):∃n,g n=some r:=by
 unfold recO at h
 split at h
 ·rename_i he;cases h;exact⟨_,he.choose_spec.choose_spec⟩
 ·cases h
theorem recO_of{β:Type}{g:Nat->Option β}{r:β}(h:∃n,g n=some r)(hu:∀n s,g n=some s->s=r):recO g=some r:=by
 obtain⟨n,a⟩:=h
 have he:∃n r,g n=some r:=⟨n,r,a⟩
 unfold recO
 rw [dif_pos he]
 exact congrArg some (hu _ _ he.choose_spec.choose_spec)
section
variable {P:Program}{H:Hints}{ext:FuncId->Option tI}{f:FuncId}{nb:Nat}{R:List (Nat×RV)}{B:List (Nat×Box)}{Q:Ex->List (Nat×RV)->List (Nat×Box)->Prop}
theorem WL.tS{σ ω:Type}{body:σ->Option (pH σ ω)}{b:Code}{s0:σ}{o:ω}(h:cI body s0=some o)(I:σ->List (Nat×RV)->List (Nat×Box)->Prop)(q:ω->Ex->List (Nat×RV)->List (Nat×Box)->Prop)(r:I s0 R B)
  (a:∀s R B x,I s R B->body s=some x->WC P H ext f nb b R B λe g c=>match x with| .next s'=>e= .normal∧I s' g c| .stop t=>e≠ .normal∧q t e g c)
  (y:∀e g c,e≠ .normal->q o e g c->Q e g c):WL P H ext f nb b R B Q:=by
 obtain⟨n,j⟩:=zq h
 clear h
 induction n generalizing s0 R B with
 |zero=>cases j
 |succ n C=>
  simp only [yf]at j
  rcases k:body s0 with _|(s'|t)
  ·simp [k]at j
  ·simp only [k]at j
   obtain⟨e,g,c,p,he,u⟩:=a s0 R B _ r k
   subst he
   exact WL.round ⟨.normal,g,c,p,C u j⟩
  ·simp only [k,Option.some.injEq]at j
   subst j
   obtain⟨e,g,c,p,he,z⟩:=a s0 R B _ r k
   refine WL.round ⟨e,g,c,p,?_⟩
   have:=y e g c he z
   cases e with
   |normal=>exact(he rfl).elim
   |exit id=>exact this
   |ret=>exact this
theorem WC.condT'{c:Operand}{a b:Code}{t:Bool}(g:t=true)(hc:(A R B).opd c=some (.d (.bool t)))(h1:WC P H ext f nb a R B Q):WC P H ext f nb (.cond c a b) R B Q:=by subst g;exact WC.condT hc h1
theorem WC.condF'{c:Operand}{a b:Code}{t:Bool}(g:t=false)(hc:(A R B).opd c=some (.d (.bool t)))(h1:WC P H ext f nb b R B Q):WC P H ext f nb (.cond c a b) R B Q:=by subst g;exact WC.condF hc h1
theorem WC.join{α:Type}{a b:Code}(I:α->List (Nat×RV)->List (Nat×Box)->Prop)(G:α->Prop)(h1:WC P H ext f nb a R B λe g c=>match e with| .normal=>∃x,I x g c∧G x|e=>Q e g c)
  (j:∀x g c,I x g c->G x->WC P H ext f nb b g c Q):WC P H ext f nb (.seq a b) R B Q:=by
 refine WC.seq ?_
 obtain⟨e,g,c,q,h⟩:=h1
 refine⟨e,g,c,q,?_⟩
 cases e with
 |normal=>obtain⟨x,p,k⟩:=h;exact j x g c p k
 |exit id=>exact h
 |ret=>exact h
end
section
variable {P:Program}{H:Hints}{ext:FuncId->Option tI}{mt:Hf}{ops:Array Oper}{l:List Oper}{R:List (Nat×RV)}{B:List (Nat×Box)}{K:List (Nat×RV)->List (Nat×Box)->List Tr->Prop}{o:Oper}{d:Nat}
theorem WO.s0{v v':RV}{rd:List Nat}(hw:tz ops (A R B) o=some true)(g:o.dst=some d)(he:∀n,tP P mt (ub P H ext n) (A R B) o (assoc B)=some ((v,[]),rd,true))(j:v=v')
  (h:WO P H ext mt ops l ((d,v')::R) B λc a ts=>K c a (⟨rd,[]⟩::ts)):WO P H ext mt ops (o::l) R B K:=by
 subst j
 exact WO.step (u:=[]) hw g he rfl h
theorem WO.s1{v:RV}{id:Nat}{a:Box}{rd:List Nat}(hw:tz ops (A R B) o=some true)(j:o.dst=some d)(he:∀n,tP P mt (ub P H ext n) (A R B) o (assoc B)=some ((v,[(id,a)]),rd,true))
  (h:WO P H ext mt ops l ((d,v)::R) ((id,a)::B) λg c ts=>K g c (⟨rd,[id]⟩::ts)):WO P H ext mt ops (o::l) R B K:=
 WO.step (u:=[(id,a)]) hw j he rfl h
theorem WO.n1{v:RV}{id:Nat}{a:Box}{rd:List Nat}(hw:tz ops (A R B) o=some true)(j:o.dst=none)(he:∀n,tP P mt (ub P H ext n) (A R B) o (assoc B)=some ((v,[(id,a)]),rd,true))
  (h:WO P H ext mt ops l R ((id,a)::B) λg c ts=>K g c (⟨rd,[id]⟩::ts)):WO P H ext mt ops (o::l) R B K:=
 WO.Dc (u:=[(id,a)]) hw j he rfl h
theorem WO.bin{op:BinOp}{t t':TypeId}{x y:Operand}{a c:RV}{p:PD}(he:zK P op t a c=some (p,true))(hw:tz ops (A R B) o=some true)(k:o.dst=some d)(ho:o.op= .binOp op t x y t')(q:(A R B).opd x=some a)(r:(A R B).opd y=some c)
  (h:WO P H ext mt ops l ((d,.d p)::R) B λj g ts=>K j g (⟨[],[]⟩::ts)):WO P H ext mt ops (o::l) R B K:=by
 refine WO.s0 (rd:=[]) hw k (λn=>?_) rfl h
 simp only [tP,ho,q,r,binX,he]
 rfl
theorem WO.yV{op:BinOp}{t t':TypeId}{x y:Operand}{a c:RV}{b b':Bool}(he:zK P op t a c=some (.bool b,true))(k:b=b')(hw:tz ops (A R B) o=some true)(p:o.dst=some d)(ho:o.op= .binOp op t x y t')(q:(A R B).opd x=some a)(r:(A R B).opd y=some c)
  (h:WO P H ext mt ops l ((d,.d (.bool b'))::R) B λj g ts=>K j g (⟨[],[]⟩::ts)):WO P H ext mt ops (o::l) R B K:=by
 subst k
 exact WO.bin he hw p ho q r h
theorem WO.split{b:Bool}{rd:List Nat}(hw:tz ops (A R B) o=some true)(g:o.dst=some d)(he:∀n,tP P mt (ub P H ext n) (A R B) o (assoc B)=some ((.d (.bool b),[]),rd,true))
  (h:WO P H ext mt ops l ((d,.d (.bool b))::R) B λc a ts=>K c a (⟨rd,[]⟩::ts)):WO P H ext mt ops (o::l) R B K:=
 WO.step (u:=[]) hw g he rfl h
theorem WO.Bk{α:Type}{g:α->PD}{li:List α}{t e:TypeId}{x i:Operand}{k:IntKind}{n:Int}{sz:Nat}{y:α}{cs:List PD}(E:py li n=some y)(hw:tz ops (A R B) o=some true)(D:o.dst=some d)(ho:o.op= .indexAddr t x i)(G:(A R B).opd x=some (.d (.lst (li.map g))))(hi:(A R B).opd i=some (.d (.int k n)))
  (F:P.underlying t=some (.slice e)) (I:szT P e=some sz) (hc:(g y).cells=cs) (a:cs.length=sz)
  (h:WO P H ext mt ops l ((d,.cptr cs)::R) B λr q ts=>K r q (⟨[],[]⟩::ts)):WO P H ext mt ops (o::l) R B K:=by
 subst hc
 obtain⟨z,h1,C⟩:=Am E
 have j:(li.map g).getD n.toNat default=g y:=by simp [C]
 have p:0<=n∧n<(li.map g).length:=by simpa using⟨z,h1⟩
 refine WO.step (u:=[]) (rd:=[]) (c:=true) hw D (λm=>?_) rfl h
 simp only [tP,ho,G,hi,uG,F,I,j,p,a,and_self,decide_true,beq_self_eq_true,Bool.and_true]
 rfl
theorem WO.byteG{t:TypeId}{x i:Operand}{s:List UInt8}{k:IntKind}{n c:Int}(p:wb s n=some c)(hw:tz ops (A R B) o=some true)(j:o.dst=some d)(ho:o.op= .index t x i)(r:(A R B).opd x=some (.d (.str s)))(hi:(A R B).opd i=some (.d (.int k n)))(q:P.underlying t=some .string)
  (h:WO P H ext mt ops l ((d,.d (.int .u8 c))::R) B λg a ts=>K g a (⟨[],[]⟩::ts)):WO P H ext mt ops (o::l) R B K:=by
 obtain⟨h1,rfl⟩:=Dl p
 refine WO.step (u:=[]) (rd:=[]) (c:=decide (0<=n∧n<s.length)) hw j (λm=>?_) (by simpa using h1) h
 simp only [tP,ho,r,hi,yu,zn,q]
 rfl
theorem WO.cutL{α:Type}{g:α->PD}{t e:TypeId}{x:Operand}{lo hi:Option Operand}{li r:List α}{y k:Option RV}{a b:Int}{sz:Nat}(I:w6 li a b=some r)(q:∀x,(g x).cells.length=sz)(p:mt.lit (o.dst.getD 0)=false)(hw:tz ops (A R B) o=some true)(G:o.dst=some d)(ho:o.op= .slice t x lo hi none)(O:(A R B).opd x=some (.d (.lst (li.map g))))(N:P.underlying t=some (.slice e))(T:szT P e=some sz)
  (L:ur (A R B) lo=some y) (J:ur (A R B) hi=some k) (E:bnd y 0=some a) (F:bnd k li.length=some b)
  (h:WO P H ext mt ops l ((d,.d (.lst (r.map g)))::R) B λC z ts=>K C z (⟨[],[]⟩::ts)):WO P H ext mt ops (o::l) R B K:=by
 obtain⟨h1,rfl⟩:=Ea I
 have j:bnd k ((li.map g).length:Nat)=some b:=by simpa using F
 have he:(((li.drop a.toNat).take (b.toNat-a.toNat)).map g)=cut (li.map g) a.toNat (hiOf k b):=by
  rw [xo (li.map g) k a b j (by simpa using h1)];simp
 rw [he]at h
 refine WO.step (u:=[]) (rd:=[]) (c:=decide (0<=a∧a<=b∧b<=(li.map g).length)&&(li.map g).all (λe=>e.cells.length==sz)) hw G (λm=>?_) ?_ h
 ·have D:ur (A R B) none=some none:=rfl
  simp only [tP,ho,O,L,J,D,p,FD,if_false,u6,N,E,j,T]
  rfl
 ·simp only [E8,decide_eq_true_eq]
  refine⟨by simpa using h1,?_⟩
  simp [q]
theorem WO.quoG{t t':TypeId}{x y:Operand}{k k':IntKind}{a b r:Int}(g:um k a b=some r)(hw:tz ops (A R B) o=some true)(z:o.dst=some d)(ho:o.op= .binOp .quo t x y t')(C:(A R B).opd x=some (.d (.int k a)))(D:(A R B).opd y=some (.d (.int k' b)))(hk:k=k')
  (h:WO P H ext mt ops l ((d,.d (.int k r))::R) B λp j ts=>K p j (⟨[],[]⟩::ts)):WO P H ext mt ops (o::l) R B K:=by
 subst hk
 unfold um at g
 split at g
 ·cases g
 ·rename_i q
  cases g
  refine WO.step (u:=[]) (rd:=[]) (c:=b != 0) hw z (λn=>?_) (by simpa using q) h
  simp only [tP,ho,C,D,binX,zK,AF,if_true,Aq]
  rfl
theorem WO.shlG{t t':TypeId}{x y:Operand}{k k':IntKind}{a b r:Int}(g:yI k a b=some r)(hw:tz ops (A R B) o=some true)(z:o.dst=some d)(ho:o.op= .binOp .shl t x y t')(C:(A R B).opd x=some (.d (.int k a)))(D:(A R B).opd y=some (.d (.int k' b)))
  (h:WO P H ext mt ops l ((d,.d (.int k r))::R) B λp j ts=>K p j (⟨[],[]⟩::ts)):WO P H ext mt ops (o::l) R B K:=by
 unfold yI at g
 split at g
 ·cases g
 ·rename_i q
  cases g
  refine WO.step (u:=[]) (rd:=[]) (c:=decide (0<=b)) hw z (λn=>?_) (by simpa using q) h
  simp only [tP,ho,C,D,binX,zK,AF]
  rfl
theorem WO.shrG{t t':TypeId}{x y:Operand}{k k':IntKind}{a b r:Int}(g:BC k a b=some r)(hw:tz ops (A R B) o=some true)(z:o.dst=some d)(ho:o.op= .binOp .shr t x y t')(C:(A R B).opd x=some (.d (.int k a)))(D:(A R B).opd y=some (.d (.int k' b)))
  (h:WO P H ext mt ops l ((d,.d (.int k r))::R) B λp j ts=>K p j (⟨[],[]⟩::ts)):WO P H ext mt ops (o::l) R B K:=by
 unfold BC at g
 split at g
 ·cases g
 ·rename_i q
  cases g
  refine WO.step (u:=[]) (rd:=[]) (c:=decide (0<=b)) hw z (λn=>?_) (by simpa using q) h
  simp only [tP,ho,C,D,binX,zK,AF]
  rfl
theorem WO.remG{t t':TypeId}{x y:Operand}{k k':IntKind}{a b r:Int}(g:wO a b=some r)(hw:tz ops (A R B) o=some true)(z:o.dst=some d)(ho:o.op= .binOp .rem t x y t')(C:(A R B).opd x=some (.d (.int k a)))(D:(A R B).opd y=some (.d (.int k' b)))(hk:k=k')
  (h:WO P H ext mt ops l ((d,.d (.int k r))::R) B λp j ts=>K p j (⟨[],[]⟩::ts)):WO P H ext mt ops (o::l) R B K:=by
 subst hk
 unfold wO at g
 split at g
 ·cases g
 ·rename_i q
  cases g
  refine WO.step (u:=[]) (rd:=[]) (c:=b != 0) hw z (λn=>?_) (by simpa using q) h
  simp only [tP,ho,C,D,binX,zK,AF,if_true,Aq]
  rfl
theorem WO.appR{α:Type}{g:α->PD}{li m r:List α}{t e:TypeId}{x y:Operand}{c:Call}{id ver sz by_:Nat}{z:Value}(L:tE li m (by_+1)=some r)(q:∀x,(g x).cells.length=sz+1)(hw:tz ops (A R B) o=some true)(J:o.dst=some d)(ho:o.op= .call c)
  (hc:c.callee= .builtin .append) (G:c.args.toList=[x,y]) (a:c.argTypes= #[t,t]) (O:(A R B).opd x=some (.ref id ver)) (T:(A R B).opd y=some (.d (.lst (m.map g))))
  (I:assoc B id=some (.arr ver e (li.map g))) (N:uA P t=some e) (W:szT P e=some (sz+1)) (j:uJ P e=some (by_+1)) (D:uE P e=some z) (C:z.cells.size=sz+1)
  (h:WO P H ext mt ops l ((d,.ref id (ver+1))::R) ((id,.arr (ver+1) e (r.map g))::B) λF E ts=>K F E (⟨[id],[id]⟩::ts)):WO P H ext mt ops (o::l) R B K:=by
 obtain⟨h1,rfl⟩:=Aj L
 rw [GL]at h
 refine WO.step (u:=[(id,.arr (ver+1) e (li.map g++m.map g))]) (rd:=[id]) (c:=decide (((li.map g).length+(m.map g).length)*(by_+1)<=140737488355328)&&(m.map g).all (λe=>e.cells.length==sz+1)) hw J (λn=>?_) ?_ h
 ·have p:vw (A R B) c.args.toList=some [.ref id ver,.d (.lst (m.map g))]:=by simp only [G,vw,O,T]
  simp only [tP,ho,hc,p,a]
  have k:∀(m X:M (RV×Ups)),(if(#[t,t]:Array TypeId).size=2 then m else X)=m:=λ_ _=>if_pos rfl
  rw [k,if_pos (show(#[t,t]:Array TypeId).getD 0 0=(#[t,t]:Array TypeId).getD 1 0 from rfl)]
  show uV P _ t t _ _ _=_
  simp only [uV,N,W,j,D,C,and_self,if_true,M.bind,uF,M.pure,M.get,I,M.tL]
  simp
 ·simp only [E8,decide_eq_true_eq]
  exact⟨by simpa using h1,by simp [q]⟩
theorem WO.appN{α:Type}{g:α->PD}{m r:List α}{t e:TypeId}{x y:Operand}{c:Call}{sz by_:Nat}{z:Value}(N:tE [] m (by_+1)=some r)(q:∀x,(g x).cells.length=sz+1)(hw:tz ops (A R B) o=some true)(E:o.dst=some d)(ho:o.op= .call c)
  (hc:c.callee= .builtin .append) (J:c.args.toList=[x,y]) (a:c.argTypes= #[t,t]) (T:(A R B).opd x=some .tC) (W:(A R B).opd y=some (.d (.lst (m.map g))))
  (L:assoc B (d*16)=none) (O:uA P t=some e) (X:szT P e=some (sz+1)) (j:uJ P e=some (by_+1)) (D:uE P e=some z) (C:z.cells.size=sz+1)
  (h:WO P H ext mt ops l ((d,.ref (d*16) 0)::R) ((d*16,.arr 0 e (r.map g))::B) λI G ts=>K I G (⟨[d*16],[d*16]⟩::ts)):WO P H ext mt ops (o::l) R B K:=by
 obtain⟨h1,F⟩:=Aj N
 rw [List.nil_append]at F
 subst F
 refine WO.step (u:=[(d*16,.arr 0 e (r.map g))]) (rd:=[d*16]) (c:=decide ((r.map g).length*(by_+1)<=140737488355328)&&(r.map g).all (λe=>e.cells.length==sz+1)) hw E (λn=>?_) ?_ h
 ·have p:vw (A R B) c.args.toList=some [.tC,.d (.lst (r.map g))]:=by simp only [J,vw,T,W]
  simp only [tP,ho,hc,p,a,E,GS]
  have k:∀(m Y:M (RV×Ups)),(if(#[t,t]:Array TypeId).size=2 then m else Y)=m:=λ_ _=>if_pos rfl
  rw [k,if_pos (show(#[t,t]:Array TypeId).getD 0 0=(#[t,t]:Array TypeId).getD 1 0 from rfl)]
  show uV P _ t t _ _ _=_
  simp only [uV,O,X,j,D,C,and_self,if_true,M.bind,uF,M.pure,M.uj,L,M.tL]
  simp
 ·simp only [E8,decide_eq_true_eq]
  exact⟨by simpa using h1,by simp [q]⟩
theorem WO.Au{α:Type}{g:α->PD}{li:List α}{t e:TypeId}{x:Operand}{c:Call}{id ver:Nat}(hw:tz ops (A R B) o=some true)(y:o.dst=some d)(ho:o.op= .call c)
  (hc:c.callee= .builtin .len) (q:c.args.toList=[x]) (a:c.argTypes= #[t]) (C:(A R B).opd x=some (.ref id ver)) (r:assoc B id=some (.arr ver e (li.map g))) (z:P.underlying t=some (.slice e))
  (h:WO P H ext mt ops l ((d,.d (.int .i64 (li.length:Int)))::R) B λp k ts=>K p k (⟨[id],[]⟩::ts)):WO P H ext mt ops (o::l) R B K:=by
 refine WO.step (u:=[]) (rd:=[id]) (c:=true) hw y (λn=>?_) rfl h
 have j:vw (A R B) c.args.toList=some [.ref id ver]:=by simp only [q,vw,C]
 simp only [tP,ho,hc,j,a]
 show Ar P t _ _=_
 simp [Ar,z,M.bind,M.get,r,uB,M.pure]
theorem WO.uS{α:Type}{g:α->PD}{li:List α}{t e:TypeId}{x i:Operand}{k:IntKind}{n:Int}{id ver sz:Nat}{y:Unit}(a:inO li n=some y)(hw:tz ops (A R B) o=some true)(r:o.dst=some d)(ho:o.op= .indexAddr t x i)(D:(A R B).opd x=some (.ref id ver))(hi:(A R B).opd i=some (.d (.int k n)))
  (q:assoc B id=some (.arr ver e (li.map g))) (C:P.underlying t=some (.slice e)) (E:szT P e=some sz)
  (h:WO P H ext mt ops l ((d,.elt id ver n.toNat 0)::R) B λp j ts=>K p j (⟨[id],[]⟩::ts)):WO P H ext mt ops (o::l) R B K:=by
 have z:0<=n∧n<li.length:=by unfold inO at a;split at a<;>first|assumption|cases a
 refine WO.step (u:=[]) (rd:=[id]) (c:=decide (0<=n∧n<(li.map g).length)) hw r (λm=>?_) (by simpa using z) h
 simp only [tP,ho,D,hi,uG,C,E,M.bind,M.get,q,and_self,if_true,tZ,M.tL]
 simp
theorem WO.uw{α:Type}{g:α->PD}{li:List α}{t e:TypeId}{a:Operand}{n:Int}{id ver off:Nat}{y:α}{v:RV}(C:py li n=some y)(hw:tz ops (A R B) o=some true)(z:o.dst=some d)(ho:o.op= .load t a)(r:(A R B).opd a=some (.elt id ver n.toNat off))
  (x:assoc B id=some (.arr ver e (li.map g))) (D:wC P t ((g y).cells.drop off) (assoc B)=some ((v,[]),[],true))
  (h:WO P H ext mt ops l ((d,v)::R) B λk j ts=>K k j (⟨[id],[]⟩::ts)):WO P H ext mt ops (o::l) R B K:=by
 obtain⟨E,h1,p⟩:=Am C
 refine WO.step (u:=[]) (rd:=[id]) (c:=true) hw z (λm=>?_) rfl h
 have q:(li.map g)[n.toNat]? =some (g y):=by simp [p]
 simp only [tP,ho,r,wg,M.bind,M.get,x,if_true,q,D]
 simp
theorem WO.xu{α:Type}{g:α->PD}{li r:List α}{t e:TypeId}{a x:Operand}{n:Int}{id ver sz:Nat}{y:α}{p:PD}(L:vd li n y=some r)(z:∀x,(g x).cells.length=sz)(q:∀x,(g x).put 0 p.cells=g y)(hw:tz ops (A R B) o=some true)(J:o.dst=none)(ho:o.op= .store t a x)(G:(A R B).opd a=some (.elt id ver n.toNat 0))(N:(A R B).opd x=some (.d p))
  (I:assoc B id=some (.arr ver e (li.map g))) (O:szT P t=some sz) (hs:(RV.d p).sized=true) (k:p.cells.length=sz)
  (h:WO P H ext mt ops l R ((id,.arr ver e (r.map g))::B) λE D ts=>K E D (⟨[id],[id]⟩::ts)):WO P H ext mt ops (o::l) R B K:=by
 obtain⟨h1,rfl⟩:=Er L
 have j:n.toNat<li.length:=by omega
 have F:(li.map g)[n.toNat]? =some (g li[n.toNat]):=by simp [j]
 rw [GO, <-q li[n.toNat]]at h
 refine WO.Dc (v:= .undef) (u:=[(id,.arr ver e ((li.map g).set n.toNat ((g li[n.toNat]).put 0 p.cells)))]) (rd:=[id]) (c:=(RV.d p).sized&&decide (p.cells.length=sz∧0+sz<=(g li[n.toNat]).cells.length)) hw J (λm=>?_) ?_ h
 ·have C:wv (.d p)=M.pure (p,[]):=rfl
  simp only [tP,ho,G,N,xr,O,M.bind,M.get,I,if_true,C,M.pure,F,M.tL]
  simp [M.tL]
 ·simp [hs,k,z]
end
end Go.Dw
attribute [irreducible] Go.Dw.um Go.Dw.wO Go.Dw.yI Go.Dw.BC
namespace Go.Dw
def neO{α:Type}(l:List α):Option Unit:=if l.isEmpty=true then none else some ()
def wQ(n:Nat)(lo hi:Int):Option Unit:=if 0<=lo∧lo<=hi∧hi<=n then some ()else none
def inV(len lo hi:Nat)(n:Int):Option Unit:=if 0<=n∧n<(hi:Int)-lo∧hi<=len then some ()else none
def lenV(len lo hi:Nat):Option Int:=if lo<=hi∧hi<=len then some ((hi:Int)-lo)else none
def yK(len lo hi:Nat):Option Unit:=if lo<=hi∧hi<=len then some ()else none
def xg{α:Type}(li:List α)(lo hi:Nat):Option (List α):=if lo<=hi∧hi<=li.length then some ((li.drop lo).take (hi-lo))else none
def we{α:Type}(li:List α)(off m:Nat)(ys:List α):List α:=li.take off++ys.take (Nat.min ys.length m)++li.drop (off+Nat.min ys.length m)
def w5{α:Type}(li:List α)(off m:Nat)(z:α):List α:=li.take off++EA m z++li.drop (off+m)
section
variable {P:Program}{H:Hints}{ext:FuncId->Option tI}{mt:Hf}{ops:Array Oper}{l:List Oper}{R:List (Nat×RV)}{B:List (Nat×Box)}{K:List (Nat×RV)->List (Nat×Box)->List Tr->Prop}{o:Oper}{d:Nat}
theorem neO_some{α:Type}{l:List α}{y:Unit}(h:neO l=some y):l.isEmpty=false:=by
 unfold neO at h
 split at h
 ·cases h
 ·simpa using ‹¬l.isEmpty=true›
theorem WO.nilE{α:Type}{g:α->PD}{li:List α}{t t' e:TypeId}{x y:Operand}{u:Unit}(p:neO li=some u)(hw:tz ops (A R B) o=some true)(k:o.dst=some d)(ho:o.op= .binOp .eql t x y t')(r:(A R B).opd x=some (.d (.lst (li.map g))))(z:(A R B).opd y=some .tC)
  (q:P.underlying t=some (.slice e)) (h:WO P H ext mt ops l ((d,.d (.bool false))::R) B λj a ts=>K j a (⟨[],[]⟩::ts)):WO P H ext mt ops (o::l) R B K:=by
 refine WO.step (u:=[]) (rd:=[]) (c:= !(li.map g).isEmpty) hw k (λm=>?_) (by simpa using neO_some p) h
 simp only [tP,ho,r,z,binX,zK,AF,eqOp,q]
 rfl
theorem WO.AY{α:Type}{g:α->PD}{li:List α}{t e:TypeId}{x:Operand}{lo hi:Option Operand}{C z:Option RV}{a b:Int}{id ver sz:Nat}{y:Unit}(k:wQ li.length a b=some y)(p:mt.lit (o.dst.getD 0)=false)(hw:tz ops (A R B) o=some true)(I:o.dst=some d)(ho:o.op= .slice t x lo hi none)(O:(A R B).opd x=some (.ref id ver))
  (G:assoc B id=some (.arr ver e (li.map g))) (N:P.underlying t=some (.slice e)) (T:szT P e=some (sz+1)) (L:ur (A R B) lo=some C) (J:ur (A R B) hi=some z) (F:bnd C 0=some a) (j:bnd z (li.length:Int)=some b)
  (h:WO P H ext mt ops l ((d,.view id ver (0+a.toNat) (0+b.toNat))::R) B λE D ts=>K E D (⟨[id,id],[]⟩::ts)):WO P H ext mt ops (o::l) R B K:=by
 have hc:0<=a∧a<=b∧b<=li.length:=by unfold wQ at k;split at k<;>first|assumption|cases k
 have r:(((li.map g).length:Nat):Int)-((0:Nat):Int)=(li.length:Int):=by simp
 refine WO.step (u:=[]) (rd:=[id,id]) (c:=decide (0<=(li.map g).length∧(li.map g).length<=(li.map g).length∧0<=a∧a<=b∧b<=(((li.map g).length:Nat):Int)-((0:Nat):Int))) hw I (λm=>?_) (by rw [r];simpa using hc) h
 have q:ur (A R B) none=some none:=rfl
 simp only [tP,ho,O,L,J,q,p,FD,if_false,u6,N,M.bind,M.get,G,sliceB,F,r,j,T,and_self,if_true,tZ,M.tL]
 simp
theorem WO.lenVw{α:Type}{g:α->PD}{li:List α}{t e:TypeId}{x:Operand}{c:Call}{id ver lo hi:Nat}{n:Int}(a:lenV li.length lo hi=some n)(hw:tz ops (A R B) o=some true)(C:o.dst=some d)(ho:o.op= .call c)
  (hc:c.callee= .builtin .len) (y:c.args.toList=[x]) (j:c.argTypes= #[t]) (E:(A R B).opd x=some (.view id ver lo hi)) (z:assoc B id=some (.arr ver e (li.map g))) (D:P.underlying t=some (.slice e))
  (h:WO P H ext mt ops l ((d,.d (.int .i64 n))::R) B λr q ts=>K r q (⟨[id],[]⟩::ts)):WO P H ext mt ops (o::l) R B K:=by
 unfold lenV at a
 split at a
 rotate_left
 ·cases a
 rename_i k
 cases a
 refine WO.step (u:=[]) (rd:=[id]) (c:=decide (lo<=hi∧hi<=(li.map g).length)) hw C (λn=>?_) (by simpa using k) h
 have p:vw (A R B) c.args.toList=some [.view id ver lo hi]:=by simp only [y,vw,E]
 simp only [tP,ho,hc,p,j]
 show Ar P t _ _=_
 simp [Ar,D,M.bind,M.get,z,tZ,M.tL]
theorem WO.eltV{α:Type}{g:α->PD}{li:List α}{t e:TypeId}{x i:Operand}{k:IntKind}{n:Int}{id ver lo hi sz:Nat}{y:Unit}(a:inV li.length lo hi n=some y)(hw:tz ops (A R B) o=some true)(z:o.dst=some d)(ho:o.op= .indexAddr t x i)(E:(A R B).opd x=some (.view id ver lo hi))(j:(A R B).opd i=some (.d (.int k n)))
  (r:assoc B id=some (.arr ver e (li.map g))) (D:P.underlying t=some (.slice e)) (F:szT P e=some sz)
  (h:WO P H ext mt ops l ((d,.elt id ver (lo+n.toNat) 0)::R) B λq p ts=>K q p (⟨[id],[]⟩::ts)):WO P H ext mt ops (o::l) R B K:=by
 have C:0<=n∧n<(hi:Int)-lo∧hi<=li.length:=by unfold inV at a;split at a<;>first|assumption|cases a
 refine WO.step (u:=[]) (rd:=[id]) (c:=decide (0<=n∧n<(hi:Int)-lo∧hi<=(li.map g).length)) hw z (λm=>?_) (by simpa using C) h
 simp only [tP,ho,E,j,uG,D,F,M.bind,M.get,r,and_self,if_true,tZ,M.tL]
 simp
theorem yr{α:Type}{g:α->PD}{li:List α}{e:TypeId}{id ver lo hi:Nat}{y:Unit}(a:yK li.length lo hi=some y)(c:assoc B id=some (.arr ver e (li.map g))):zR (.view id ver lo hi) (assoc B)=some ((id,ver,e,li.map g,lo,hi-lo),[id],true):=by
 have hc:lo<=hi∧hi<=li.length:=by unfold yK at a;split at a<;>first|assumption|cases a
 simp [zR,M.bind,M.get,c,M.tL,hc]
theorem Ab{α:Type}{g:α->PD}{li ys:List α}{e:TypeId}{id ver lo hi:Nat}(a:xg li lo hi=some ys)(c:assoc B id=some (.arr ver e (li.map g))):uF (.view id ver lo hi) (assoc B)=some (ys.map g,[id],true):=by
 unfold xg at a
 split at a
 ·rename_i hc
  cases a
  simp [uF,M.bind,M.get,c,M.tL,hc,GP,GM]
 ·cases a
theorem copyD_of{α:Type}{g:α->PD}{li ys:List α}{t e:TypeId}{id ver off m sz:Nat}{p q:RV}{a j:List Nat}(r:zR p (assoc B)=some ((id,ver,e,li.map g,off,m),a,true))(u:uF q (assoc B)=some (ys.map g,j,true))
  (z:P.underlying t=some (.slice e)) (C:szT P e=some (sz+1)) (k:∀x,(g x).cells.length=sz+1):
  yW P t p q (assoc B)=some ((.d (.int .i64 (Nat.min ys.length m:Nat)),[(id,.arr ver e ((we li off m ys).map g))]),a++(j++[]),true):=by
 have he:uA P t=some e:=by simp [uA,z]
 have y:((ys.map g).all λc=>c.cells.length==sz+1)=true:=by simp [k]
 simp only [yW,he,C,M.bind,r,u,M.tL,y,decide_true,GQ,Fh,we,GL,GP,GM]
theorem WO.copyG{α:Type}{g:α->PD}{li ys:List α}{t t2 e:TypeId}{x y:Operand}{c:Call}{id ver off m sz:Nat}{r z:RV}{a j:List Nat}(hw:tz ops (A R B) o=some true)(I:o.dst=some d)(ho:o.op= .call c)
  (hc:c.callee= .builtin .copy) (G:c.args.toList=[x,y]) (k:c.argTypes= #[t,t2]) (L:(A R B).opd x=some r) (N:(A R B).opd y=some z)
  (E:zR r (assoc B)=some ((id,ver,e,li.map g,off,m),a,true)) (F:uF z (assoc B)=some (ys.map g,j,true))
  (J:P.underlying t=some (.slice e)) (O:szT P e=some (sz+1)) (q:∀x,(g x).cells.length=sz+1)
  (h:WO P H ext mt ops l ((d,.d (.int .i64 (Nat.min ys.length m:Nat)))::R) ((id,.arr ver e ((we li off m ys).map g))::B) λD C ts=>K D C (⟨a++(j++[]),[id]⟩::ts)):WO P H ext mt ops (o::l) R B K:=by
 refine WO.step (u:=[(id,.arr ver e ((we li off m ys).map g))]) (rd:=a++(j++[])) (c:=true) hw I (λn=>?_) rfl h
 have p:vw (A R B) c.args.toList=some [r,z]:=by simp only [G,vw,L,N]
 simp only [tP,ho,hc,p,k]
 exact copyD_of E F J O q
theorem D9{α:Type}{g:α->PD}{li:List α}{z:α}{t e:TypeId}{id ver off m sz:Nat}{j:RV}{a:List Nat}(p:zR j (assoc B)=some ((id,ver,e,li.map g,off,m),a,true))
  (q:P.underlying t=some (.slice e)) (r:szT P e=some (sz+1)) (k:(uE P e).bind vB=some (g z)) (c:(g z).cells.length=sz+1):
  xn P t j (assoc B)=some ((.tup [],[(id,.arr ver e ((w5 li off m z).map g))]),a++[],true):=by
 have he:uA P t=some e:=by simp [uA,q]
 simp only [xn,he,r,k,M.bind,p,M.tL,c,decide_true,beq_self_eq_true,GQ,w5,GL,GP,GM,GN]
theorem WO.clearN{α:Type}{g:α->PD}{li:List α}{z:α}{t e:TypeId}{x:Operand}{c:Call}{id ver off m sz:Nat}{q:RV}{a:List Nat}(hw:tz ops (A R B) o=some true)(F:o.dst=none)(ho:o.op= .call c)
  (hc:c.callee= .builtin .clear) (E:c.args.toList=[x]) (j:c.argTypes= #[t]) (I:(A R B).opd x=some q)
  (D:zR q (assoc B)=some ((id,ver,e,li.map g,off,m),a,true))
  (G:P.underlying t=some (.slice e)) (J:szT P e=some (sz+1)) (C:(uE P e).bind vB=some (g z)) (p:(g z).cells.length=sz+1)
  (h:WO P H ext mt ops l R ((id,.arr ver e ((w5 li off m z).map g))::B) λy r ts=>K y r (⟨a++[],[id]⟩::ts)):WO P H ext mt ops (o::l) R B K:=by
 refine WO.Dc (v:= .tup []) (u:=[(id,.arr ver e ((w5 li off m z).map g))]) (rd:=a++[]) (c:=true) hw F (λn=>?_) rfl h
 have k:vw (A R B) c.args.toList=some [q]:=by simp only [E,vw,I]
 simp only [tP,ho,hc,k,j]
 exact D9 D G J C p
theorem Eu{α:Type}{g:α->PD}{li z:List α}{e:TypeId}{id ver lo hi:Nat}(a:xg li lo hi=some z)(c:assoc B id=some (.arr ver e (li.map g))):wv (.view id ver lo hi) (assoc B)=some ((.lst (z.map g),[(id,.dead)]),[id],true):=by
 unfold xg at a
 split at a
 ·rename_i hc
  cases a
  simp [wv,zf,M.bind,M.get,c,M.tL,hc,GP,GM]
 ·cases a
def DX(nb:Nat)(rs:List RV)(b1:tY):Option (RV×List Box):=
 match M.bind (vT 64 [] (EH nb++rs.flatMap Br)) (λids=>M.bind (xB ids) λa=>M.pure (ids,a)) b1 with
 |some ((ids,a),_,true)=>
  if ids.take nb=EH nb∧nodup ids=true then
   let ρ:Ren:=⟨idxOf ids,uz b1 (ud nb)⟩
   some (uZ ρ (one rs),(ids.zip a).map λx=>vU ρ (ud nb x.1) x.2)
  else none
 |_=>none
theorem Eh{own:Nat->Bool}{fn:Func}{nb:Nat}{rs:List RV}{u:Ups}{rd:List Nat}{x:RV×List Box}(h:resD P own (A R B) 0 fn.results.toList (assoc B)=some ((rs,u),rd,true))(a:DX nb rs (ya (assoc B) u)=some x):finish P own fn nb (A R B)=some x:=by
 simp only [finish,h]
 exact a
theorem CS{α:Type}{g:α->PD}{li z:List α}{e:TypeId}{own:Nat->Bool}{fn:Func}{nb t id ver lo hi:Nat}{x:RV×List Box}{rd:List Nat}(k:xg li lo hi=some z)(a:fn.results.toList=[.tmp t])(ho:own 0=false)
  (p:resV P (A R B) (.tmp t) (assoc B)=some (.view id ver lo hi,rd,true)) (j:assoc B id=some (.arr ver e (li.map g))) (q:DX nb [.d (.lst (z.map g))] (ya (assoc B) [(id,.dead)])=some x):finish P own fn nb (A R B)=some x:=by
 refine Eh (rs:=[.d (.lst (z.map g))]) (u:=[(id,.dead)]) (rd:=rd++([id]++[])) ?_ q
 have c:=Eu (B:=B) k j
 simp [a,resD,M.bind,p,outV,ho,c,M.pure,M.tL,RV.sized]
end
end Go.Dw
namespace Go.Dw
section
variable {P:Program}{H:Hints}{ext:FuncId->Option tI}{f:FuncId}{nb:Nat}{R:List (Nat×RV)}{B:List (Nat×Box)}{Q:Ex->List (Nat×RV)->List (Nat×Box)->Prop}
theorem WL.yS{σ ω:Type}{body:σ->Option (pH σ ω)}{b:Code}{s0:σ}{o:ω}(h:cI body s0=some o)(I:σ->List (Nat×RV)->List (Nat×Box)->Prop)(k:I s0 R B)
  (a:∀s R B x,I s R B->body s=some x->WC P H ext f nb b R B λe g c=>match x with| .next s'=>e= .normal∧I s' g c| .stop j=>e≠ .normal∧(j=o->Q e g c)):WL P H ext f nb b R B Q:=
 WL.tS h I (λj e g c=>j=o->Q e g c) k a (λ_ _ _ _ p=>p rfl)
end
end Go.Dw
namespace Go.Dw
def yh{α:Type}(l:List α)(n:Int)(f:α->α):Option (List α):=
 if 0<=n then(match l[n.toNat]? with|some x=>some (l.set n.toNat (f x))|none=>none)else none
theorem Em{α:Type}{l r:List α}{n:Int}{f:α->α}(h:yh l n f=some r):0<=n∧∃g:n.toNat<l.length,r=l.set n.toNat (f l[n.toNat]):=by
 unfold yh at h
 split at h
 ·rename_i a
  split at h
  ·rename_i x c
   cases h
   obtain⟨h1,rfl⟩:=List.getElem?_eq_some_iff.1 c
   exact⟨a,h1,rfl⟩
  ·cases h
 ·cases h
section
variable {P:Program}{H:Hints}{ext:FuncId->Option tI}{mt:Hf}{ops:Array Oper}{l:List Oper}{R:List (Nat×RV)}{B:List (Nat×Box)}{K:List (Nat×RV)->List (Nat×Box)->List Tr->Prop}{o:Oper}
theorem WO.BD{α:Type}{g:α->PD}{f:α->α}{li r:List α}{t e:TypeId}{a x:Operand}{n:Int}{id ver off sz:Nat}{v:RV}{p:PD}{u:Ups}{rd:List Nat}(L:yh li n f=some r)(z:∀x,(g x).put off p.cells=g (f x))
  (j:∀x,off+sz<=(g x).cells.length) (hw:tz ops (A R B) o=some true) (J:o.dst=none) (ho:o.op= .store t a x) (G:(A R B).opd a=some (.elt id ver n.toNat off)) (N:(A R B).opd x=some v)
  (I:assoc B id=some (.arr ver e (li.map g))) (O:szT P t=some sz) (hs:v.sized=true) (C:wv v (assoc B)=some ((p,u),rd,true)) (q:(u.map (·.1)).contains id=false) (y:p.cells.length=sz)
  (h:WO P H ext mt ops l R (zI (u++[(id,Box.arr ver e (r.map g))]) B) λE D ts=>K E D (⟨[id]++rd,(u++[(id,Box.arr ver e (r.map g))]).map (·.1)⟩::ts)):WO P H ext mt ops (o::l) R B K:=by
 obtain⟨h1,k,rfl⟩:=Em L
 have F:(li.map g)[n.toNat]? =some (g li[n.toNat]):=by simp [k]
 rw [GO, <-z li[n.toNat]]at h
 refine WO.Dc (v:= .undef) (u:=u++[(id,.arr ver e ((li.map g).set n.toNat ((g li[n.toNat]).put off p.cells)))]) (rd:=[id]++rd) (c:=v.sized&&decide (p.cells.length=sz∧off+sz<=(g li[n.toNat]).cells.length)) hw J (λm=>?_) ?_ h
 ·simp only [tP,ho,G,N,xr,O,M.bind,M.get,I,if_true,C,F,q,M.tL]
  simp [M.tL]
 ·simp [hs,y,j]
theorem WO.resl{α:Type}{g:α->PD}{li:List α}{t e:TypeId}{x:Operand}{lo hi:Option Operand}{k:IntKind}{b:Int}{id ver sz d:Nat}{y:Unit}(a:wQ li.length 0 b=some y)(j:mt.lit (o.dst.getD 0)=true)(hw:tz ops (A R B) o=some true)(G:o.dst=some d)(ho:o.op= .slice t x lo hi none)
  (N:(A R B).opd x=some (.ref id ver)) (F:assoc B id=some (.arr ver e (li.map g))) (L:P.underlying t=some (.slice e)) (O:szT P e=some (sz+1)) {C z:Option RV} (J:ur (A R B) lo=some C) (I:ur (A R B) hi=some z) (r:C=none) (q:z=some (.d (.int k b)))
  (h:WO P H ext mt ops l ((d,.ref id (ver+1))::R) ((id,.arr (ver+1) e ((li.take b.toNat).map g))::B) λE D ts=>K E D (⟨[id],[id]⟩::ts)):WO P H ext mt ops (o::l) R B K:=by
 subst r q
 have hc:0<=b∧b<=li.length:=by unfold wQ at a;split at a<;>first|(rename_i h;exact⟨h.2.1,h.2.2⟩)|cases a
 rw [GP]at h
 refine WO.step (v:= .ref id (ver+1)) (u:=[(id,.arr (ver+1) e ((li.map g).take b.toNat))]) (rd:=[id]) (c:=decide (0<=b∧b<=(li.map g).length)) hw G (λm=>?_) (by simpa using hc) h
 have p:ur (A R B) none=some none:=rfl
 simp only [tP,ho,N,J,I,p,j,if_true,AS,L,O,M.bind,M.get,F,and_self,M.tL]
 simp
end
end Go.Dw
namespace Go.Dw
def uK{α:Type}(bytes:Nat)(l:List α):Option (List α):=if l.length*bytes<=140737488355328 then some l else none
def zr{α:Type}(n m:Int)(z:α)(bytes:Nat):Option (List α):=if n<=m∧0<=n∧m.toNat*bytes<=140737488355328∧m.toNat<=140737488355328 then some (EA n.toNat z)else none
def mkO{α:Type}(n:Int)(z:α)(bytes:Nat):Option (List α):=if 0<=n∧n.toNat*bytes<=140737488355328∧n.toNat<=140737488355328 then some (EA n.toNat z)else none
section
variable {P:Program}
end
section
variable {P:Program}{H:Hints}{ext:FuncId->Option tI}{mt:Hf}{ops:Array Oper}{l:List Oper}{R:List (Nat×RV)}{B:List (Nat×Box)}{K:List (Nat×RV)->List (Nat×Box)->List Tr->Prop}{o:Oper}{d:Nat}
structure KeyT(P:Program)(kt:TypeId){κ:Type}(gk:κ->PD)(eq:κ->κ->Bool):Prop where
 feq:∀a b,keyEq P kt (gk a) (gk b)=some (eq a b)
 kind:∀a,Co P kt (gk a)=true
 same:∀a b,eq a b=true->DI (gk a) (gk b)=true
theorem WO.sU{v:RV}{u:Ups}{rd:List Nat}(hw:tz ops (A R B) o=some true)(g:o.dst=some d)(he:∀n,tP P mt (ub P H ext n) (A R B) o (assoc B)=some ((v,u),rd,true))
  (h:WO P H ext mt ops l ((d,v)::R) (zI u B) λc a ts=>K c a (⟨rd,u.map (·.1)⟩::ts)):WO P H ext mt ops (o::l) R B K:=WO.step hw g he rfl h
theorem WO.strU{li:List Int}{src dst e:TypeId}{x:Operand}(hw:tz ops (A R B) o=some true)(g:o.dst=some d)(ho:o.op= .convert src dst x)(k:(A R B).opd x=some (.d (.lst (li.map (.int .u8)))))(hs:P.underlying src=some (.slice e))(j:P.underlying dst=some .string)(he:P.underlying e=some (.int .u8))
  (h:WO P H ext mt ops l ((d,.d (.str (Dw.strU li)))::R) B λc a ts=>K c a (⟨[],[]⟩::ts)):WO P H ext mt ops (o::l) R B K:=by
 refine WO.s0 (rd:=[]) hw g (λm=>?_) rfl h
 simp only [tP,ho,k,yd,hs,j,he,u8s_map]
 rfl
theorem WO.mkS{α:Type}{g:α->PD}{z:α}{n:Int}{r:List α}{t e:TypeId}{x y:Operand}{k k':IntKind}{sz by_:Nat}(a:mkO n z by_=some r)(q:(g z).cells.length=sz+1)(hw:tz ops (A R B) o=some true)(C:o.dst=some d)(ho:o.op= .makeSlice t x y)(I:(A R B).opd x=some (.d (.int k n)))(J:(A R B).opd y=some (.d (.int k' n)))
  (F:assoc B (d*16)=none) (G:uA P t=some e) (p:szT P e=some (sz+1)) (j:uJ P e=some by_) (L:(uE P e).bind vB=some (g z))
  (h:WO P H ext mt ops l ((d,.ref (d*16) 0)::R) ((d*16,.arr 0 e (r.map g))::B) λE D ts=>K E D (⟨[d*16],[d*16]⟩::ts)):WO P H ext mt ops (o::l) R B K:=by
 unfold mkO at a
 split at a
 rotate_left
 ·cases a
 rename_i hc
 cases a
 rw [GN]at h
 refine WO.step (u:=[(d*16,.arr 0 e (EA n.toNat (g z)))]) (rd:=[d*16]) (c:=decide (n<=n∧0<=n∧n.toNat*by_<=140737488355328∧n.toNat<=140737488355328)&&((g z).cells.length==sz+1)) hw C (λm=>?_) ?_ h
 ·simp only [tP,ho,I,J,C,GS,uX,G,p,j,L,M.bind,M.uj,F,M.tL]
  rfl
 ·simp [hc,q]
theorem WO.mkC{α:Type}{g:α->PD}{z:α}{n m:Int}{r:List α}{t e:TypeId}{x y:Operand}{k k':IntKind}{sz by_:Nat}(a:zr n m z by_=some r)(q:(g z).cells.length=sz+1)(hw:tz ops (A R B) o=some true)(C:o.dst=some d)(ho:o.op= .makeSlice t x y)(I:(A R B).opd x=some (.d (.int k n)))(J:(A R B).opd y=some (.d (.int k' m)))
  (F:assoc B (d*16)=none) (G:uA P t=some e) (p:szT P e=some (sz+1)) (j:uJ P e=some by_) (L:(uE P e).bind vB=some (g z))
  (h:WO P H ext mt ops l ((d,.ref (d*16) 0)::R) ((d*16,.arr 0 e (r.map g))::B) λE D ts=>K E D (⟨[d*16],[d*16]⟩::ts)):WO P H ext mt ops (o::l) R B K:=by
 unfold zr at a
 split at a
 rotate_left
 ·cases a
 rename_i hc
 cases a
 rw [GN]at h
 refine WO.step (u:=[(d*16,.arr 0 e (EA n.toNat (g z)))]) (rd:=[d*16]) (c:=decide (n<=m∧0<=n∧m.toNat*by_<=140737488355328∧m.toNat<=140737488355328)&&((g z).cells.length==sz+1)) hw C (λm=>?_) ?_ h
 ·simp only [tP,ho,I,J,C,GS,uX,G,p,j,L,M.bind,M.uj,F,M.tL]
  rfl
 ·simp [hc,q]
theorem KeyT.int{g:TypeId}{q:IntKind}(h:P.underlying g=some (.int q)):KeyT P g (PD.int q) (λa b=>a==b):=
 ⟨λa b=>by simp [keyEq,Cm,Cp],λa=>by simp [Co,Cn,h],λa b c=>by simpa [DI,A3]using c⟩
theorem KeyT.str{g:TypeId}(h:P.underlying g=some .string):KeyT P g PD.str (λa b=>a==b):=
 ⟨λa b=>by simp [keyEq,Cm,Cp],λa=>by simp [Co,Cn,h],λa b c=>by simpa [DI,A3]using c⟩
end
section
variable {P:Program}{H:Hints}{ext:FuncId->Option tI}{mt:Hf}{ops:Array Oper}{l:List Oper}{R:List (Nat×RV)}{B:List (Nat×Box)}{K:List (Nat×RV)->List (Nat×Box)->List Tr->Prop}{o:Oper}
end
section
variable {P:Program}{H:Hints}{ext:FuncId->Option tI}{mt:Hf}{ops:Array Oper}{l:List Oper}{R:List (Nat×RV)}{B:List (Nat×Box)}{K:List (Nat×RV)->List (Nat×Box)->List Tr->Prop}{o:Oper}{d:Nat}
end
end Go.Dw
