
import Derived.Test.YtgiepghgloiinaaGreatDoorDwWp
set_option linter.unusedVariables false
set_option linter.unusedSimpArgs false
open List renaming length_map->B7, map_append->CA, map_drop->CB, map_set->CC, map_take->CD, replicate->AA
open Bool renaming and_eq_true->Ac, and_self->CE, false_eq_true->Aj

namespace Go.Dw
abbrev EvP(P:Program)(H:Hints)(ext:FuncId->Option ko)(f:FuncId)(args:List RV)(bs:List Box)(p:RV×List Box):Prop:=Ev P H ext f args bs p.1 p.2
def jB{α:Type}(l:List α)(n:Int):Option α:=if 0<=n then l[n.toNat]? else none
def lr(s:List UInt8)(n:Int):Option Int:=if 0<=n∧n<s.length then some ((s.getD n.toNat 0).toNat:Nat)else none
def lP{α:Type}(l:List α)(a hi:Int):Option (List α):=if 0<=a∧a<=hi∧hi<=l.length then some ((l.drop a.toNat).take (hi.toNat-a.toNat))else none
def lu{α:Type}(l m:List α)(bytes:Nat):Option (List α):=if(l.length+m.length)*bytes<=140737488355328 then some (l++m)else none
def rY(a b:List UInt8):Option (List UInt8):=if((a.length+b.length:Nat):Int)<=9223372036854775807 then some (a++b)else none
def shlO(k:IntKind)(x y:Int):Option Int:=if y<0 then none else some (shlI k x y)
def shrO(k:IntKind)(x y:Int):Option Int:=if y<0 then none else some (shrI k x y)
def quoO(k:IntKind)(x y:Int):Option Int:=if y=0 then none else some (k.wrap (x.tdiv y))
def rb(x y:Int):Option Int:=if y=0 then none else some (x.tmod y)
def tC{α:Type}(l:List α)(n:Int)(y:α):Option (List α):=if 0<=n∧n<l.length then some (l.set n.toNat y)else none
def inO{α:Type}(l:List α)(n:Int):Option Unit:=if 0<=n∧n<l.length then some ()else none
theorem pr{α:Type}{l:List α}{n:Int}{x:α}(h:jB l n=some x):0<=n∧n<l.length∧l[n.toNat]? =some x:=by
 unfold jB at h
 split at h
 ·rename_i a
  have:=(List.getElem?_eq_some_iff.1 h).1
  exact⟨a,om,h⟩
 ·cases h
theorem wE{s:List UInt8}{n c:Int}(h:lr s n=some c):(0<=n∧n<s.length)∧c=((s.getD n.toNat 0).toNat:Nat):=by
 unfold lr at h;split at h
 ·cases h;exact⟨by assumption,rfl⟩
 ·cases h
theorem ua{α:Type}{l r:List α}{a hi:Int}(h:lP l a hi=some r):(0<=a∧a<=hi∧hi<=l.length)∧r=(l.drop a.toNat).take (hi.toNat-a.toNat):=by
 unfold lP at h;split at h
 ·cases h;exact⟨by assumption,rfl⟩
 ·cases h
theorem n5{α:Type}{l m r:List α}{b:Nat}(h:lu l m b=some r):(l.length+m.length)*b<=140737488355328∧r=l++m:=by
 unfold lu at h;split at h
 ·cases h;exact⟨by assumption,rfl⟩
 ·cases h
theorem xr{a b r:List UInt8}(h:rY a b=some r):((a.length+b.length:Nat):Int)<=9223372036854775807∧r=a++b:=by
 unfold rY at h;split at h
 ·cases h;exact⟨by assumption,rfl⟩
 ·cases h
theorem xE{α:Type}{l r:List α}{n:Int}{y:α}(h:tC l n y=some r):(0<=n∧n<l.length)∧r=l.set n.toNat y:=by
 unfold tC at h;split at h
 ·cases h;exact⟨by assumption,rfl⟩
 ·cases h
theorem xq{α β:Type}{m:Option α}{k:α->Option β}{r:β}(h:m.bind k=some r){G:Prop}(hk:∀x,m=some x->k x=some r->G):G:=by
 cases m with
 |none=>cases h
 |some x=>exact hk x rfl h
theorem kq{β:Type}{t:Bool}{a b:Option β}{r:β}(h:(if t=true then a else b)=some r){G:Prop}(h1:t=true->a=some r->G)(c:t=false->b=some r->G):G:=by
 cases t with
 |true=>exact h1 rfl h
 |false=>exact c rfl h
theorem ik{α:Type}(g:α->PD)(l:List α):RV.d (.int .i64 ((l.map g).length:Nat))=RV.d (.int .i64 (l.length:Nat)):=by rw [B7]
inductive jY(σ ω:Type)where
 |next (s:σ)
 |stop (o:ω)
def lv{σ ω:Type}(body:σ->Option (jY σ ω)):Nat->σ->Option ω
 |0,_=>none
 |n+1,s=>
  match body s with
  |some (.next s')=>lv body n s'
  |some (.stop o)=>some o
  |none=>none
theorem pU{σ ω:Type}{body:σ->Option (jY σ ω)}:∀{n m:Nat}{s:σ}{o:ω},lv body n s=some o->n<=m->lv body m s=some o
 |0,_,_,_,h,_=>by cases h
 |n+1,0,_,_,_,hm=>by omega
 |n+1,m+1,s,o,h,hm=>by
  simp only [lv]at h⊢
  rcases hb:body s with _|(s'|a)
  ·simp [hb]at h
  ·simp only [hb]at h⊢;exact pU h om
  ·simp only [hb]at h⊢;exact h
open Classical in
noncomputable def cI {σ ω:Type} (body:σ->Option (jY σ ω)) (s:σ):Option ω:=if h:∃n o,lv body n s=some o then some h.choose_spec.choose else none
theorem qu{σ ω:Type}{body:σ->Option (jY σ ω)}{n:Nat}{s:σ}{o:ω}(h:lv body n s=some o):cI body s=some o:=by
 have he:∃n o,lv body n s=some o:=⟨n,o,h⟩
 unfold cI
 rw [dif_pos he]
 have b:=he.choose_spec.choose_spec
 have c:=pU h (Nat.le_max_left n he.choose)
 have a:=pU b (Nat.le_max_right n he.choose)
 rw [c]at a
 exact a.symm
theorem oA{σ ω:Type}{body:σ->Option (jY σ ω)}{s:σ}{o:ω}(h:cI body s=some o):∃n,lv body n s=some o:=by
 unfold cI at h
 split at h
 ·rename_i he
  cases h
  exact⟨_,he.choose_spec.choose_spec⟩
 ·cases h
theorem kI{σ ω:Type}{body:σ->Option (jY σ ω)}{s s':σ}(h:body s=some (.next s')):cI body s=cI body s':=by
 cases h1:cI body s' with
 |some o=>
  obtain⟨n,a⟩:=oA h1
  exact qu (n:=n+1) (by simp only [lv,h];exact a)
 |none=>
  cases b:cI body s with
  |none=>rfl
  |some o=>
   obtain⟨n,a⟩:=oA b
   cases n with
   |zero=>cases a
   |succ n=>
    simp only [lv,h]at a
    rw [qu a]at h1
    cases h1
theorem kf{σ ω:Type}{body:σ->Option (jY σ ω)}{s:σ}{o:ω}(h:body s=some (.stop o)):cI body s=some o:=
 qu (n:=1) (by simp only [lv,h])
open Classical in
noncomputable def tw {β:Type} (g:Nat->Option β):Option β:=if h:∃n r,g n=some r then some h.choose_spec.choose else none
theorem uj{β:Type}{g:Nat->Option β}{r:β}(h:tw g=some r):∃n,g n=some r:=by
 unfold tw at h
 split at h
 ·rename_i he;cases h;exact⟨_,he.choose_spec.choose_spec⟩
 ·cases h
theorem recO_of{β:Type}{g:Nat->Option β}{r:β}(h:∃n,g n=some r)(hu:∀n s,g n=some s->s=r):tw g=some r:=by
 obtain⟨n,a⟩:=h
 have he:∃n r,g n=some r:=⟨n,r,a⟩
 unfold tw
 rw [dif_pos he]
 exact congrArg some (hu _ _ he.choose_spec.choose_spec)
section
variable {P:Program}{H:Hints}{ext:FuncId->Option ko}{f:FuncId}{nb:Nat}{R:List (Nat×RV)}{B:List (Nat×Box)}{Q:Ex->List (Nat×RV)->List (Nat×Box)->Prop}
theorem WL.jZ{σ ω:Type}{body:σ->Option (jY σ ω)}{b:Code}{s0:σ}{o:ω}(h:cI body s0=some o)(I:σ->List (Nat×RV)->List (Nat×Box)->Prop)(k:ω->Ex->List (Nat×RV)->List (Nat×Box)->Prop)(m:I s0 R B)
  (a:∀s R B x,I s R B->body s=some x->WC P H ext f nb b R B fun e g c=>match x with| .next s'=>e= .normal∧I s' g c| .stop p=>e≠ .normal∧k p e g c)
  (r:∀e g c,e≠ .normal->k o e g c->Q e g c):WL P H ext f nb b R B Q:=by
 obtain⟨n,i⟩:=oA h
 clear h
 induction n generalizing s0 R B with
 |zero=>cases i
 |succ n u=>
  simp only [lv]at i
  rcases hb:body s0 with _|(s'|p)
  ·simp [hb]at i
  ·simp only [hb]at i
   obtain⟨e,g,c,j,he,q⟩:=a s0 R B _ m hb
   subst he
   exact WL.round ⟨.normal,g,c,j,u q i⟩
  ·simp only [hb,Option.some.injEq]at i
   subst i
   obtain⟨e,g,c,j,he,t⟩:=a s0 R B _ m hb
   refine WL.round ⟨e,g,c,j,?_⟩
   have:=r e g c he t
   cases e with
   |normal=>exact(he rfl).elim
   |exit id=>exact this
   |ret=>exact this
theorem WC.join{α:Type}{a b:Code}(I:α->List (Nat×RV)->List (Nat×Box)->Prop)(G:α->Prop)(h1:WC P H ext f nb a R B fun e g c=>match e with| .normal=>∃x,I x g c∧G x|e=>Q e g c)
  (i:∀x g c,I x g c->G x->WC P H ext f nb b g c Q):WC P H ext f nb (.seq a b) R B Q:=by
 refine WC.seq ?_
 obtain⟨e,g,c,m,h⟩:=h1
 refine⟨e,g,c,m,?_⟩
 cases e with
 |normal=>obtain⟨x,k,j⟩:=h;exact i x g c k j
 |exit id=>exact h
 |ret=>exact h
end
section
variable {P:Program}{H:Hints}{ext:FuncId->Option ko}{mt:Hf}{ops:Array Oper}{l:List Oper}{R:List (Nat×RV)}{B:List (Nat×Box)}{K:List (Nat×RV)->List (Nat×Box)->List Tr->Prop}{o:Oper}{d:Nat}
theorem WO.s0{v v':RV}{rd:List Nat}(hw:j9 ops (A R B) o=some true)(hd:o.dst=some d)(he:∀n,kF P mt (ln P H ext n) (A R B) o (assoc B)=some ((v,[]),rd,true))(c:v=v')
  (h:WO P H ext mt ops l ((d,v')::R) B fun b a ts=>K b a (⟨rd,[]⟩::ts)):WO P H ext mt ops (o::l) R B K:=by
 subst c
 exact WO.step (u:=[]) hw hd he rfl h
theorem WO.s1{v:RV}{id:Nat}{a:Box}{rd:List Nat}(hw:j9 ops (A R B) o=some true)(hd:o.dst=some d)(he:∀n,kF P mt (ln P H ext n) (A R B) o (assoc B)=some ((v,[(id,a)]),rd,true))
  (h:WO P H ext mt ops l ((d,v)::R) ((id,a)::B) fun c b ts=>K c b (⟨rd,[id]⟩::ts)):WO P H ext mt ops (o::l) R B K:=
 WO.step (u:=[(id,a)]) hw hd he rfl h
theorem WO.n1{v:RV}{id:Nat}{a:Box}{rd:List Nat}(hw:j9 ops (A R B) o=some true)(hd:o.dst=none)(he:∀n,kF P mt (ln P H ext n) (A R B) o (assoc B)=some ((v,[(id,a)]),rd,true))
  (h:WO P H ext mt ops l R ((id,a)::B) fun c b ts=>K c b (⟨rd,[id]⟩::ts)):WO P H ext mt ops (o::l) R B K:=
 WO.uo (u:=[(id,a)]) hw hd he rfl h
theorem WO.bin{op:BinOp}{t t':TypeId}{x y:Operand}{a b:RV}{p:PD}(he:pN P op t a b=some (p,true))(hw:j9 ops (A R B) o=some true)(hd:o.dst=some d)(ho:o.op= .binOp op t x y t')(g:(A R B).opd x=some a)(i:(A R B).opd y=some b)
  (h:WO P H ext mt ops l ((d,.d p)::R) B fun e c ts=>K e c (⟨[],[]⟩::ts)):WO P H ext mt ops (o::l) R B K:=by
 refine WO.s0 (rd:=[]) hw hd (fun n=>?_) rfl h
 simp only [kF,ho,g,i,binX,he]
 rfl
theorem WO.mX{op:BinOp}{t t':TypeId}{x y:Operand}{a c:RV}{b b':Bool}(he:pN P op t a c=some (.bool b,true))(hb:b=b')(hw:j9 ops (A R B) o=some true)(hd:o.dst=some d)(ho:o.op= .binOp op t x y t')(i:(A R B).opd x=some a)(j:(A R B).opd y=some c)
  (h:WO P H ext mt ops l ((d,.d (.bool b'))::R) B fun g e ts=>K g e (⟨[],[]⟩::ts)):WO P H ext mt ops (o::l) R B K:=by
 subst hb
 exact WO.bin he hw hd ho i j h
theorem WO.split{b:Bool}{rd:List Nat}(hw:j9 ops (A R B) o=some true)(hd:o.dst=some d)(he:∀n,kF P mt (ln P H ext n) (A R B) o (assoc B)=some ((.d (.bool b),[]),rd,true))
  (h:WO P H ext mt ops l ((d,.d (.bool b))::R) B fun c a ts=>K c a (⟨rd,[]⟩::ts)):WO P H ext mt ops (o::l) R B K:=
 WO.step (u:=[]) hw hd he rfl h
theorem WO.oP{α:Type}{g:α->PD}{li:List α}{t e:TypeId}{x i:Operand}{k:IntKind}{n:Int}{sz:Nat}{y:α}{cs:List PD}(v:jB li n=some y)(hw:j9 ops (A R B) o=some true)(hd:o.dst=some d)(ho:o.op= .indexAddr t x i)(z:(A R B).opd x=some (.d (.lst (li.map g))))(hi:(A R B).opd i=some (.d (.int k n)))
  (ht:P.underlying t=some (.slice e)) (C:szT P e=some sz) (hc:(g y).cells=cs) (a:cs.length=sz)
  (h:WO P H ext mt ops l ((d,.cptr cs)::R) B fun q p ts=>K q p (⟨[],[]⟩::ts)):WO P H ext mt ops (o::l) R B K:=by
 subst hc
 obtain⟨r,h1,s⟩:=pr v
 have b:(li.map g).getD n.toNat default=g y:=by simp [s]
 have j:0<=n∧n<(li.map g).length:=by simpa using⟨r,h1⟩
 refine WO.step (u:=[]) (rd:=[]) (c:=true) hw hd (fun m=>?_) rfl h
 simp only [kF,ho,z,hi,lz,ht,C,b,j,a,and_self,decide_true,beq_self_eq_true,Bool.and_true]
 rfl
theorem WO.l8{t:TypeId}{x i:Operand}{s:List UInt8}{k:IntKind}{n c:Int}(e:lr s n=some c)(hw:j9 ops (A R B) o=some true)(hd:o.dst=some d)(ho:o.op= .index t x i)(g:(A R B).opd x=some (.d (.str s)))(hi:(A R B).opd i=some (.d (.int k n)))(ht:P.underlying t=some .string)
  (h:WO P H ext mt ops l ((d,.d (.int .u8 c))::R) B fun b a ts=>K b a (⟨[],[]⟩::ts)):WO P H ext mt ops (o::l) R B K:=by
 obtain⟨h1,rfl⟩:=wE e
 refine WO.step (u:=[]) (rd:=[]) (c:=decide (0<=n∧n<s.length)) hw hd (fun m=>?_) (by simpa using h1) h
 simp only [kF,ho,g,hi,o5,pS,ht]
 rfl
theorem WO.qi{t:TypeId}{x:Operand}{i hi:Option Operand}{s r:List UInt8}{j g:Option RV}{a b:Int}(v:lP s a b=some r)(e:mt.lit (o.dst.getD 0)=false)(hw:j9 ops (A R B) o=some true)(hd:o.dst=some d)(ho:o.op= .slice t x i hi none)(z:(A R B).opd x=some (.d (.str s)))(ht:P.underlying t=some .string)
  (hl:kR (A R B) i=some j) (y:kR (A R B) hi=some g) (q:bnd j 0=some a) (hb:bnd g s.length=some b)
  (h:WO P H ext mt ops l ((d,.d (.str r))::R) B fun n k ts=>K n k (⟨[],[]⟩::ts)):WO P H ext mt ops (o::l) R B K:=by
 obtain⟨h1,rfl⟩:=ua v
 rw [<-mW s g a b hb h1]at h
 refine WO.step (u:=[]) (rd:=[]) (c:=decide (0<=a∧a<=b∧b<=s.length)) hw hd (fun m=>?_) (by simpa using h1) h
 have p:kR (A R B) none=some none:=rfl
 simp only [kF,ho,z,hl,y,p,e,Aj,if_false,lB,ht,q,hb]
 rfl
theorem WO.cutL{α:Type}{g:α->PD}{t e:TypeId}{x:Operand}{n hi:Option Operand}{li r:List α}{p j:Option RV}{a b:Int}{sz:Nat}(z:lP li a b=some r)(hsz:∀x,(g x).cells.length=sz)(k:mt.lit (o.dst.getD 0)=false)(hw:j9 ops (A R B) o=some true)(hd:o.dst=some d)(ho:o.op= .slice t x n hi none)(D:(A R B).opd x=some (.d (.lst (li.map g))))(ht:P.underlying t=some (.slice e))(E:szT P e=some sz)
  (hl:kR (A R B) n=some p) (C:kR (A R B) hi=some j) (y:bnd p 0=some a) (hb:bnd j li.length=some b)
  (h:WO P H ext mt ops l ((d,.d (.lst (r.map g)))::R) B fun s q ts=>K s q (⟨[],[]⟩::ts)):WO P H ext mt ops (o::l) R B K:=by
 obtain⟨h1,rfl⟩:=ua z
 have i:bnd j ((li.map g).length:Nat)=some b:=by simpa using hb
 have he:(((li.drop a.toNat).take (b.toNat-a.toNat)).map g)=cut (li.map g) a.toNat (hiOf j b):=by
  rw [mW (li.map g) j a b i (by simpa using h1)];simp
 rw [he]at h
 refine WO.step (u:=[]) (rd:=[]) (c:=decide (0<=a∧a<=b∧b<=(li.map g).length)&&(li.map g).all (fun e=>e.cells.length==sz)) hw hd (fun m=>?_) ?_ h
 ·have v:kR (A R B) none=some none:=rfl
  simp only [kF,ho,D,hl,C,v,k,Aj,if_false,lB,ht,y,i,E]
  rfl
 ·simp only [Ac,decide_eq_true_eq]
  refine⟨by simpa using h1,?_⟩
  simp [hsz]
theorem WO.catG{t t':TypeId}{x y:Operand}{a b r:List UInt8}(i:rY a b=some r)(hw:j9 ops (A R B) o=some true)(hd:o.dst=some d)(ho:o.op= .binOp .add t x y t')(j:(A R B).opd x=some (.d (.str a)))(k:(A R B).opd y=some (.d (.str b)))
  (h:WO P H ext mt ops l ((d,.d (.str r))::R) B fun g e ts=>K g e (⟨[],[]⟩::ts)):WO P H ext mt ops (o::l) R B K:=by
 obtain⟨h1,rfl⟩:=xr i
 refine WO.step (u:=[]) (rd:=[]) (c:=decide (((a.length+b.length:Nat):Int)<=IntKind.i64.max)) hw hd (fun n=>?_) ?_ h
 ·simp only [kF,ho,j,k,binX,pN,tY,vg]
  rfl
 ·have:IntKind.i64.max=9223372036854775807:=by decide
  rw [this]
  exact decide_eq_true h1
theorem WO.quoG{t t':TypeId}{x y:Operand}{k k':IntKind}{a b r:Int}(e:quoO k a b=some r)(hw:j9 ops (A R B) o=some true)(hd:o.dst=some d)(ho:o.op= .binOp .quo t x y t')(j:(A R B).opd x=some (.d (.int k a)))(m:(A R B).opd y=some (.d (.int k' b)))(hk:k=k')
  (h:WO P H ext mt ops l ((d,.d (.int k r))::R) B fun i g ts=>K i g (⟨[],[]⟩::ts)):WO P H ext mt ops (o::l) R B K:=by
 subst hk
 unfold quoO at e
 split at e
 ·cases e
 ·rename_i hb
  cases e
  refine WO.step (u:=[]) (rd:=[]) (c:=b != 0) hw hd (fun n=>?_) (by simpa using hb) h
  simp only [kF,ho,j,m,binX,pN,tY,if_true,qV]
  rfl
theorem WO.remG{t t':TypeId}{x y:Operand}{k k':IntKind}{a b r:Int}(e:rb a b=some r)(hw:j9 ops (A R B) o=some true)(hd:o.dst=some d)(ho:o.op= .binOp .rem t x y t')(j:(A R B).opd x=some (.d (.int k a)))(m:(A R B).opd y=some (.d (.int k' b)))(hk:k=k')
  (h:WO P H ext mt ops l ((d,.d (.int k r))::R) B fun i g ts=>K i g (⟨[],[]⟩::ts)):WO P H ext mt ops (o::l) R B K:=by
 subst hk
 unfold rb at e
 split at e
 ·cases e
 ·rename_i hb
  cases e
  refine WO.step (u:=[]) (rd:=[]) (c:=b != 0) hw hd (fun n=>?_) (by simpa using hb) h
  simp only [kF,ho,j,m,binX,pN,tY,if_true,qV]
  rfl
theorem sk{P:Program}{id:Nat}{t t':TypeId}{s y:RV}{b:kE}{r:List PD×List Nat×Bool}(h:kT y b=some r):lF P id t t' s y b=lW P id t t' s y b:=by
 cases y<;>first|rfl|cases h
theorem tW{P:Program}{id:Nat}{t t':TypeId}{s:RV}{p:PD}{b:kE}:lF P id t t' s (.d p) b=lW P id t t' s (.d p) b:=rfl
theorem WO.appR{α:Type}{g:α->PD}{li m r:List α}{t e:TypeId}{x y:Operand}{c:Call}{id ver sz by_:Nat}{z:Value}(C:lu li m (by_+1)=some r)(hsz:∀x,(g x).cells.length=sz+1)(hw:j9 ops (A R B) o=some true)(hd:o.dst=some d)(ho:o.op= .call c)
  (hc:c.callee= .builtin .append) (v:c.args.toList=[x,y]) (a:c.argTypes= #[t,t]) (D:(A R B).opd x=some (.ref id ver)) (E:(A R B).opd y=some (.d (.lst (m.map g))))
  (hb:assoc B id=some (.arr ver e (li.map g))) (ht:k9 P t=some e) (F:szT P e=some (sz+1)) (b:lJ P e=some (by_+1)) (p:kZ P e=some z) (k:z.cells.size=sz+1)
  (h:WO P H ext mt ops l ((d,.ref id (ver+1))::R) ((id,.arr (ver+1) e (r.map g))::B) fun s q ts=>K s q (⟨[id],[id]⟩::ts)):WO P H ext mt ops (o::l) R B K:=by
 obtain⟨h1,rfl⟩:=n5 C
 rw [CA]at h
 refine WO.step (u:=[(id,.arr (ver+1) e (li.map g++m.map g))]) (rd:=[id]) (c:=decide (((li.map g).length+(m.map g).length)*(by_+1)<=140737488355328)&&(m.map g).all (fun e=>e.cells.length==sz+1)) hw hd (fun n=>?_) ?_ h
 ·have j:lN (A R B) c.args.toList=some [.ref id ver,.d (.lst (m.map g))]:=by simp only [v,lN,D,E]
  simp only [kF,ho,hc,j,a]
  have i:∀(m G:M (RV×Ups)),(if(#[t,t]:Array TypeId).size=2 then m else G)=m:=fun _ _=>if_pos rfl
  rw [i,if_pos (show(#[t,t]:Array TypeId).getD 0 0=(#[t,t]:Array TypeId).getD 1 0 from rfl)]
  show lF P _ t t _ _ _=_
  rw [tW]
  simp only [lW,ht,F,b,p,k,and_self,if_true,M.bind,kT,M.pure,M.get,hb,M.j6]
  simp
 ·simp only [Ac,decide_eq_true_eq]
  exact⟨by simpa using h1,by simp [hsz]⟩
theorem WO.appN{α:Type}{g:α->PD}{m r:List α}{t e:TypeId}{x y:Operand}{c:Call}{sz by_:Nat}{z:Value}(D:lu [] m (by_+1)=some r)(hsz:∀x,(g x).cells.length=sz+1)(hw:j9 ops (A R B) o=some true)(hd:o.dst=some d)(ho:o.op= .call c)
  (hc:c.callee= .builtin .append) (C:c.args.toList=[x,y]) (a:c.argTypes= #[t,t]) (E:(A R B).opd x=some .jt) (F:(A R B).opd y=some (.d (.lst (m.map g))))
  (hb:assoc B (d*16)=none) (ht:k9 P t=some e) (G:szT P e=some (sz+1)) (b:lJ P e=some (by_+1)) (p:kZ P e=some z) (k:z.cells.size=sz+1)
  (h:WO P H ext mt ops l ((d,.ref (d*16) 0)::R) ((d*16,.arr 0 e (r.map g))::B) fun v s ts=>K v s (⟨[d*16],[d*16]⟩::ts)):WO P H ext mt ops (o::l) R B K:=by
 obtain⟨h1,q⟩:=n5 D
 rw [List.nil_append]at q
 subst q
 refine WO.step (u:=[(d*16,.arr 0 e (r.map g))]) (rd:=[d*16]) (c:=decide ((r.map g).length*(by_+1)<=140737488355328)&&(r.map g).all (fun e=>e.cells.length==sz+1)) hw hd (fun n=>?_) ?_ h
 ·have j:lN (A R B) c.args.toList=some [.jt,.d (.lst (r.map g))]:=by simp only [C,lN,E,F]
  simp only [kF,ho,hc,j,a,hd,Option.getD_some]
  have i:∀(m I:M (RV×Ups)),(if(#[t,t]:Array TypeId).size=2 then m else I)=m:=fun _ _=>if_pos rfl
  rw [i,if_pos (show(#[t,t]:Array TypeId).getD 0 0=(#[t,t]:Array TypeId).getD 1 0 from rfl)]
  show lF P _ t t _ _ _=_
  rw [tW]
  simp only [lW,ht,G,b,p,k,and_self,if_true,M.bind,kT,M.pure,M.ky,hb,M.j6]
  simp
 ·simp only [Ac,decide_eq_true_eq]
  exact⟨by simpa using h1,by simp [hsz]⟩
theorem WO.te{α:Type}{g:α->PD}{li:List α}{t e:TypeId}{x:Operand}{c:Call}{id ver:Nat}(hw:j9 ops (A R B) o=some true)(hd:o.dst=some d)(ho:o.op= .call c)
  (hc:c.callee= .builtin .len) (k:c.args.toList=[x]) (a:c.argTypes= #[t]) (m:(A R B).opd x=some (.ref id ver)) (hb:assoc B id=some (.arr ver e (li.map g))) (ht:P.underlying t=some (.slice e))
  (h:WO P H ext mt ops l ((d,.d (.int .i64 (li.length:Int)))::R) B fun j i ts=>K j i (⟨[id],[]⟩::ts)):WO P H ext mt ops (o::l) R B K:=by
 refine WO.step (u:=[]) (rd:=[id]) (c:=true) hw hd (fun n=>?_) rfl h
 have b:lN (A R B) c.args.toList=some [.ref id ver]:=by simp only [k,lN,m]
 simp only [kF,ho,hc,b,a]
 show tc P t _ _=_
 simp [tc,ht,M.bind,M.get,hb,kO,M.pure]
theorem WO.ma{α:Type}{g:α->PD}{li:List α}{t e:TypeId}{x i:Operand}{k:IntKind}{n:Int}{id ver sz:Nat}{y:Unit}(a:inO li n=some y)(hw:j9 ops (A R B) o=some true)(hd:o.dst=some d)(ho:o.op= .indexAddr t x i)(q:(A R B).opd x=some (.ref id ver))(hi:(A R B).opd i=some (.d (.int k n)))
  (hb:assoc B id=some (.arr ver e (li.map g))) (ht:P.underlying t=some (.slice e)) (r:szT P e=some sz)
  (h:WO P H ext mt ops l ((d,.elt id ver n.toNat 0)::R) B fun j b ts=>K j b (⟨[id],[]⟩::ts)):WO P H ext mt ops (o::l) R B K:=by
 have p:0<=n∧n<li.length:=by unfold inO at a;split at a<;>first|assumption|cases a
 refine WO.step (u:=[]) (rd:=[id]) (c:=decide (0<=n∧n<(li.map g).length)) hw hd (fun m=>?_) (by simpa using p) h
 simp only [kF,ho,q,hi,lz,ht,r,M.bind,M.get,hb,and_self,if_true,kJ,M.j6]
 simp
theorem WO.lT{α:Type}{g:α->PD}{li:List α}{t e:TypeId}{a:Operand}{n:Int}{id ver off:Nat}{y:α}{v:RV}(q:jB li n=some y)(hw:j9 ops (A R B) o=some true)(hd:o.dst=some d)(ho:o.op= .load t a)(p:(A R B).opd a=some (.elt id ver n.toNat off))
  (hb:assoc B id=some (.arr ver e (li.map g))) (r:mi P t ((g y).cells.drop off) (assoc B)=some ((v,[]),[],true))
  (h:WO P H ext mt ops l ((d,v)::R) B fun i b ts=>K i b (⟨[id],[]⟩::ts)):WO P H ext mt ops (o::l) R B K:=by
 obtain⟨s,h1,j⟩:=pr q
 refine WO.step (u:=[]) (rd:=[id]) (c:=true) hw hd (fun m=>?_) rfl h
 have k:(li.map g)[n.toNat]? =some (g y):=by simp [j]
 simp only [kF,ho,p,mK,M.bind,M.get,hb,if_true,k,r]
 simp
theorem WO.vd{α:Type}{g:α->PD}{li r:List α}{t e:TypeId}{a x:Operand}{n:Int}{id ver sz:Nat}{y:α}{p:PD}(D:tC li n y=some r)(hsz:∀x,(g x).cells.length=sz)(j:∀x,(g x).put 0 p.cells=g y)(hw:j9 ops (A R B) o=some true)(hd:o.dst=none)(ho:o.op= .store t a x)(C:(A R B).opd a=some (.elt id ver n.toNat 0))(F:(A R B).opd x=some (.d p))
  (hb:assoc B id=some (.arr ver e (li.map g))) (G:szT P t=some sz) (E:(RV.d p).sized=true) (i:p.cells.length=sz)
  (h:WO P H ext mt ops l R ((id,.arr ver e (r.map g))::B) fun s q ts=>K s q (⟨[id],[id]⟩::ts)):WO P H ext mt ops (o::l) R B K:=by
 obtain⟨h1,rfl⟩:=xE D
 have b:n.toNat<li.length:=by omega
 have z:(li.map g)[n.toNat]? =some (g li[n.toNat]):=by simp [b]
 rw [CC, <-j li[n.toNat]]at h
 refine WO.uo (v:= .undef) (u:=[(id,.arr ver e ((li.map g).set n.toNat ((g li[n.toNat]).put 0 p.cells)))]) (rd:=[id]) (c:=(RV.d p).sized&&decide (p.cells.length=sz∧0+sz<=(g li[n.toNat]).cells.length)) hw hd (fun m=>?_) ?_ h
 ·have k:ni (.d p)=M.pure (p,[]):=rfl
  simp only [kF,ho,C,F,nI,G,M.bind,M.get,hb,if_true,k,M.pure,z,M.j6]
  simp [M.j6]
 ·simp [E,i,hsz]
end
end Go.Dw
attribute [irreducible] Go.Dw.quoO Go.Dw.rb Go.Dw.shlO Go.Dw.shrO
namespace Go.Dw
def oK(n:Nat)(a hi:Int):Option Unit:=if 0<=a∧a<=hi∧hi<=n then some ()else none
def rX(len a hi:Nat):Option Unit:=if a<=hi∧hi<=len then some ()else none
def pJ{α:Type}(li:List α)(a hi:Nat):Option (List α):=if a<=hi∧hi<=li.length then some ((li.drop a).take (hi-a))else none
def nM{α:Type}(li:List α)(off m:Nat)(ys:List α):List α:=li.take off++ys.take (Nat.min ys.length m)++li.drop (off+Nat.min ys.length m)
def qO{α:Type}(li:List α)(off m:Nat)(z:α):List α:=li.take off++AA m z++li.drop (off+m)
section
variable {P:Program}{H:Hints}{ext:FuncId->Option ko}{mt:Hf}{ops:Array Oper}{l:List Oper}{R:List (Nat×RV)}{B:List (Nat×Box)}{K:List (Nat×RV)->List (Nat×Box)->List Tr->Prop}{o:Oper}{d:Nat}
theorem WO.subR{α:Type}{g:α->PD}{li:List α}{t e:TypeId}{x:Operand}{q hi:Option Operand}{s r:Option RV}{a b:Int}{id ver sz:Nat}{y:Unit}(j:oK li.length a b=some y)(k:mt.lit (o.dst.getD 0)=false)(hw:j9 ops (A R B) o=some true)(hd:o.dst=some d)(ho:o.op= .slice t x q hi none)(E:(A R B).opd x=some (.ref id ver))
  (hb:assoc B id=some (.arr ver e (li.map g))) (ht:P.underlying t=some (.slice e)) (F:szT P e=some (sz+1)) (hl:kR (A R B) q=some s) (D:kR (A R B) hi=some r) (C:bnd s 0=some a) (i:bnd r (li.length:Int)=some b)
  (h:WO P H ext mt ops l ((d,.view id ver (0+a.toNat) (0+b.toNat))::R) B fun z v ts=>K z v (⟨[id,id],[]⟩::ts)):WO P H ext mt ops (o::l) R B K:=by
 have hc:0<=a∧a<=b∧b<=li.length:=by unfold oK at j;split at j<;>first|assumption|cases j
 have p:(((li.map g).length:Nat):Int)-((0:Nat):Int)=(li.length:Int):=by simp
 refine WO.step (u:=[]) (rd:=[id,id]) (c:=decide (0<=(li.map g).length∧(li.map g).length<=(li.map g).length∧0<=a∧a<=b∧b<=(((li.map g).length:Nat):Int)-((0:Nat):Int))) hw hd (fun m=>?_) (by rw [p];simpa using hc) h
 have n:kR (A R B) none=some none:=rfl
 simp only [kF,ho,E,hl,D,n,k,Aj,if_false,lB,ht,M.bind,M.get,hb,sliceB,C,p,i,F,and_self,if_true,kJ,M.j6]
 simp
theorem sP{α:Type}{g:α->PD}{li:List α}{e:TypeId}{id ver a hi:Nat}{y:Unit}(b:rX li.length a hi=some y)(hb:assoc B id=some (.arr ver e (li.map g))):qj (.view id ver a hi) (assoc B)=some ((id,ver,e,li.map g,a,hi-a),[id],true):=by
 have hc:a<=hi∧hi<=li.length:=by unfold rX at b;split at b<;>first|assumption|cases b
 simp [qj,M.bind,M.get,hb,M.j6,hc]
theorem wq{α:Type}{g:α->PD}{li ys:List α}{e:TypeId}{id ver b hi:Nat}(a:pJ li b hi=some ys)(hb:assoc B id=some (.arr ver e (li.map g))):kT (.view id ver b hi) (assoc B)=some (ys.map g,[id],true):=by
 unfold pJ at a
 split at a
 ·rename_i hc
  cases a
  simp [kT,M.bind,M.get,hb,M.j6,hc,CD,CB]
 ·cases a
theorem copyD_of{α:Type}{g:α->PD}{li ys:List α}{t e:TypeId}{id ver off m sz:Nat}{i j:RV}{a b:List Nat}(k:qj i (assoc B)=some ((id,ver,e,li.map g,off,m),a,true))(n:kT j (assoc B)=some (ys.map g,b,true))
  (ht:P.underlying t=some (.slice e)) (q:szT P e=some (sz+1)) (hsz:∀x,(g x).cells.length=sz+1):
  pE P t i j (assoc B)=some ((.d (.int .i64 (Nat.min ys.length m:Nat)),[(id,.arr ver e ((nM li off m ys).map g))]),a++(b++[]),true):=by
 have he:k9 P t=some e:=by simp [k9,ht]
 have p:((ys.map g).all fun c=>c.cells.length==sz+1)=true:=by simp [hsz]
 simp only [pE,he,q,M.bind,k,n,M.j6,p,decide_true,CE,B7,nM,CA,CD,CB]
theorem WO.copyG{α:Type}{g:α->PD}{li ys:List α}{t t2 e:TypeId}{x y:Operand}{c:Call}{id ver off m sz:Nat}{k p:RV}{a b:List Nat}(hw:j9 ops (A R B) o=some true)(hd:o.dst=some d)(ho:o.op= .call c)
  (hc:c.callee= .builtin .copy) (z:c.args.toList=[x,y]) (i:c.argTypes= #[t,t2]) (C:(A R B).opd x=some k) (D:(A R B).opd y=some p)
  (s:qj k (assoc B)=some ((id,ver,e,li.map g,off,m),a,true)) (v:kT p (assoc B)=some (ys.map g,b,true))
  (ht:P.underlying t=some (.slice e)) (E:szT P e=some (sz+1)) (hsz:∀x,(g x).cells.length=sz+1)
  (h:WO P H ext mt ops l ((d,.d (.int .i64 (Nat.min ys.length m:Nat)))::R) ((id,.arr ver e ((nM li off m ys).map g))::B) fun r q ts=>K r q (⟨a++(b++[]),[id]⟩::ts)):WO P H ext mt ops (o::l) R B K:=by
 refine WO.step (u:=[(id,.arr ver e ((nM li off m ys).map g))]) (rd:=a++(b++[])) (c:=true) hw hd (fun n=>?_) rfl h
 have j:lN (A R B) c.args.toList=some [k,p]:=by simp only [z,lN,C,D]
 simp only [kF,ho,hc,j,i]
 exact copyD_of s v ht E hsz
theorem xu{α:Type}{g:α->PD}{li:List α}{z:α}{t e:TypeId}{id ver off m sz:Nat}{b:RV}{a:List Nat}(i:qj b (assoc B)=some ((id,ver,e,li.map g,off,m),a,true))
  (ht:P.underlying t=some (.slice e)) (j:szT P e=some (sz+1)) (c:(kZ P e).bind l6=some (g z)) (hsz:(g z).cells.length=sz+1):
  nY P t b (assoc B)=some ((.tup [],[(id,.arr ver e ((qO li off m z).map g))]),a++[],true):=by
 have he:k9 P t=some e:=by simp [k9,ht]
 simp only [nY,he,j,c,M.bind,i,M.j6,hsz,decide_true,beq_self_eq_true,CE,qO,CA,CD,CB,List.map_replicate]
theorem WO.clearN{α:Type}{g:α->PD}{li:List α}{z:α}{t e:TypeId}{x:Operand}{c:Call}{id ver off m sz:Nat}{j:RV}{a:List Nat}(hw:j9 ops (A R B) o=some true)(hd:o.dst=none)(ho:o.op= .call c)
  (hc:c.callee= .builtin .clear) (s:c.args.toList=[x]) (b:c.argTypes= #[t]) (y:(A R B).opd x=some j)
  (r:qj j (assoc B)=some ((id,ver,e,li.map g,off,m),a,true))
  (ht:P.underlying t=some (.slice e)) (C:szT P e=some (sz+1)) (q:(kZ P e).bind l6=some (g z)) (hsz:(g z).cells.length=sz+1)
  (h:WO P H ext mt ops l R ((id,.arr ver e ((qO li off m z).map g))::B) fun p k ts=>K p k (⟨a++[],[id]⟩::ts)):WO P H ext mt ops (o::l) R B K:=by
 refine WO.uo (v:= .tup []) (u:=[(id,.arr ver e ((qO li off m z).map g))]) (rd:=a++[]) (c:=true) hw hd (fun n=>?_) rfl h
 have i:lN (A R B) c.args.toList=some [j]:=by simp only [s,lN,y]
 simp only [kF,ho,hc,i,b]
 exact xu r ht C q hsz
end
end Go.Dw
namespace Go.Dw
section
variable {P:Program}{H:Hints}{ext:FuncId->Option ko}{f:FuncId}{nb:Nat}{R:List (Nat×RV)}{B:List (Nat×Box)}{Q:Ex->List (Nat×RV)->List (Nat×Box)->Prop}
end
end Go.Dw
namespace Go.Dw
def oT{α:Type}(l:List α)(n:Int)(f:α->α):Option (List α):=
 if 0<=n then(match l[n.toNat]? with|some x=>some (l.set n.toNat (f x))|none=>none)else none
theorem ug{α:Type}{l r:List α}{n:Int}{f:α->α}(h:oT l n f=some r):0<=n∧∃c:n.toNat<l.length,r=l.set n.toNat (f l[n.toNat]):=by
 unfold oT at h
 split at h
 ·rename_i a
  split at h
  ·rename_i x b
   cases h
   obtain⟨h1,rfl⟩:=List.getElem?_eq_some_iff.1 b
   exact⟨a,h1,rfl⟩
  ·cases h
 ·cases h
section
variable {P:Program}{H:Hints}{ext:FuncId->Option ko}{mt:Hf}{ops:Array Oper}{l:List Oper}{R:List (Nat×RV)}{B:List (Nat×Box)}{K:List (Nat×RV)->List (Nat×Box)->List Tr->Prop}{o:Oper}
theorem WO.rk{α:Type}{g:α->PD}{f:α->α}{li r:List α}{t e:TypeId}{a x:Operand}{n:Int}{id ver off sz:Nat}{v:RV}{p:PD}{u:Ups}{rd:List Nat}(E:oT li n f=some r)(q:∀x,(g x).put off p.cells=g (f x))
  (b:∀x,off+sz<=(g x).cells.length) (hw:j9 ops (A R B) o=some true) (hd:o.dst=none) (ho:o.op= .store t a x) (D:(A R B).opd a=some (.elt id ver n.toNat off)) (G:(A R B).opd x=some v)
  (hb:assoc B id=some (.arr ver e (li.map g))) (I:szT P t=some sz) (F:v.sized=true) (s:ni v (assoc B)=some ((p,u),rd,true)) (j:(u.map (·.1)).contains id=false) (k:p.cells.length=sz)
  (h:WO P H ext mt ops l R (sc (u++[(id,Box.arr ver e (r.map g))]) B) fun z y ts=>K z y (⟨[id]++rd,(u++[(id,Box.arr ver e (r.map g))]).map (·.1)⟩::ts)):WO P H ext mt ops (o::l) R B K:=by
 obtain⟨h1,i,rfl⟩:=ug E
 have C:(li.map g)[n.toNat]? =some (g li[n.toNat]):=by simp [i]
 rw [CC, <-q li[n.toNat]]at h
 refine WO.uo (v:= .undef) (u:=u++[(id,.arr ver e ((li.map g).set n.toNat ((g li[n.toNat]).put off p.cells)))]) (rd:=[id]++rd) (c:=v.sized&&decide (p.cells.length=sz∧off+sz<=(g li[n.toNat]).cells.length)) hw hd (fun m=>?_) ?_ h
 ·simp only [kF,ho,D,G,nI,I,M.bind,M.get,hb,if_true,s,C,j,M.j6]
  simp [M.j6]
 ·simp [F,k,b]
theorem WO.appRG{s:RV}{rd:List Nat}{α:Type}{g:α->PD}{li m r:List α}{t e:TypeId}{x y:Operand}{c:Call}{id ver sz by_ d:Nat}{z:Value}(E:lu li m (by_+1)=some r)(hsz:∀x,(g x).cells.length=sz+1)(hw:j9 ops (A R B) o=some true)(hd:o.dst=some d)(ho:o.op= .call c)
  (hc:c.callee= .builtin .append) (D:c.args.toList=[x,y]) (b:c.argTypes= #[t,t]) (F:(A R B).opd x=some (.ref id ver)) (G:(A R B).opd y=some s) (a:kT s (assoc B)=some (m.map g,rd,true))
  (hb:assoc B id=some (.arr ver e (li.map g))) (ht:k9 P t=some e) (I:szT P e=some (sz+1)) (i:lJ P e=some (by_+1)) (q:kZ P e=some z) (p:z.cells.size=sz+1)
  (h:WO P H ext mt ops l ((d,.ref id (ver+1))::R) ((id,.arr (ver+1) e (r.map g))::B) fun C v ts=>K C v (⟨rd++[id],[id]⟩::ts)):WO P H ext mt ops (o::l) R B K:=by
 obtain⟨h1,rfl⟩:=n5 E
 rw [CA]at h
 refine WO.step (u:=[(id,.arr (ver+1) e (li.map g++m.map g))]) (rd:=rd++[id]) (c:=decide (((li.map g).length+(m.map g).length)*(by_+1)<=140737488355328)&&(m.map g).all (fun e=>e.cells.length==sz+1)) hw hd (fun n=>?_) ?_ h
 ·have k:lN (A R B) c.args.toList=some [.ref id ver,s]:=by simp only [D,lN,F,G]
  simp only [kF,ho,hc,k,b]
  have j:∀(m J:M (RV×Ups)),(if(#[t,t]:Array TypeId).size=2 then m else J)=m:=fun _ _=>if_pos rfl
  rw [j,if_pos (show(#[t,t]:Array TypeId).getD 0 0=(#[t,t]:Array TypeId).getD 1 0 from rfl)]
  show lF P _ t t _ _ _=_
  rw [sk a]
  simp only [lW,ht,I,i,q,p,and_self,if_true,M.bind,a,M.pure,M.get,hb,M.j6]
  simp
 ·simp only [Ac,decide_eq_true_eq]
  exact⟨by simpa using h1,by simp [hsz]⟩
theorem tM{α:Type}{g:α->PD}{li m:List α}{id ver b hi:Nat}{e:TypeId}{B:List (Nat×Box)}(h:pJ li b hi=some m)(hb:assoc B id=some (.arr ver e (li.map g))):
  kT (.view id ver b hi) (assoc B)=some (m.map g,[id],true):=by
 unfold pJ at h
 split at h
 ·rename_i hc
  cases h
  have a:b<=hi∧hi<=(li.map g).length:=by simpa using hc
  simp only [kT,M.bind,M.get,hb,if_true,M.j6]
  simp [a,CB,CD]
  exact hc.2
 ·cases h
theorem WO.sliceFG{α:Type}{g:α->PD}{li:List α}{t e:TypeId}{x:Operand}{q hi r:Option Operand}{k k':IntKind}{b:Int}{id ver sz d:Nat}{y:Unit}(a:oK li.length 0 b=some y)(i:mt.lit (o.dst.getD 0)=false)(hw:j9 ops (A R B) o=some true)(hd:o.dst=some d)(ho:o.op= .slice t x q hi r)
  (G:(A R B).opd x=some (.ref id ver)) (hb:assoc B id=some (.arr ver e (li.map g))) (ht:P.underlying t=some (.slice e)) (I:szT P e=some (sz+1)) {z s C:Option RV} (hl:kR (A R B) q=some z) (F:kR (A R B) hi=some s) (hm:kR (A R B) r=some C)
  (n:z=none) (j:s=some (.d (.int k b))) (p:C=some (.d (.int k' b)))
  (h:WO P H ext mt ops l ((d,.fview id ver b.toNat)::R) B fun E D ts=>K E D (⟨[id],[]⟩::ts)):WO P H ext mt ops (o::l) R B K:=by
 subst n j p
 have hc:0<=b∧b<=li.length:=by unfold oK at a;split at a<;>first|(rename_i h;exact⟨h.2.1,h.2.2⟩)|cases a
 refine WO.step (v:= .fview id ver b.toNat) (u:=[]) (rd:=[id]) (c:=decide (0<=b∧b<=(li.map g).length)) hw hd (fun m=>?_) (by simpa using hc) h
 simp only [kF,ho,G,hl,F,hm,i,Aj,if_false,lB,pe,ht,I,M.bind,M.get,hb,and_self,if_true,M.j6]
 simp
theorem WO.appF{E:RV}{rd:List Nat}{α:Type}{g:α->PD}{li m r:List α}{t e:TypeId}{x y:Operand}{c:Call}{id ver sz by_ d:Nat}{z:Value}{b:Int}{q:Unit}(L:lu (li.take b.toNat) m (by_+1)=some r)(s:oK li.length 0 b=some q)(hsz:∀x,(g x).cells.length=sz+1)(hw:j9 ops (A R B) o=some true)(hd:o.dst=some d)(ho:o.op= .call c)
  (hc:c.callee= .builtin .append) (I:c.args.toList=[x,y]) (i:c.argTypes= #[t,t]) (N:(A R B).opd x=some (.fview id ver b.toNat)) (O:(A R B).opd y=some E) (a:kT E (assoc B)=some (m.map g,rd,true))
  (hb:assoc B id=some (.arr ver e (li.map g))) (ht:k9 P t=some e) (T:szT P e=some (sz+1)) (j:lJ P e=some (by_+1)) (D:kZ P e=some z) (C:z.cells.size=sz+1)
  (h:WO P H ext mt ops l ((d,.d (.lst (r.map g)))::R) ((id,.dead)::B) fun G F ts=>K G F (⟨rd++[id],[id]⟩::ts)):WO P H ext mt ops (o::l) R B K:=by
 obtain⟨h1,rfl⟩:=n5 L
 have J:0<=b∧b<=li.length:=by unfold oK at s;split at s<;>first|(rename_i h;exact⟨h.2.1,h.2.2⟩)|cases s
 rw [CA,CD]at h
 refine WO.step (v:= .d (.lst ((li.map g).take b.toNat++m.map g))) (u:=[(id,.dead)]) (rd:=rd++[id]) (c:=decide (b.toNat<=(li.map g).length∧(b.toNat+(m.map g).length)*(by_+1)<=140737488355328)&&(m.map g).all (fun e=>e.cells.length==sz+1)) hw hd (fun n=>?_) ?_ h
 ·have p:lN (A R B) c.args.toList=some [.fview id ver b.toNat,E]:=by simp only [I,lN,N,O]
  simp only [kF,ho,hc,p,i]
  have k:∀(m U:M (RV×Ups)),(if(#[t,t]:Array TypeId).size=2 then m else U)=m:=fun _ _=>if_pos rfl
  rw [k,if_pos (show(#[t,t]:Array TypeId).getD 0 0=(#[t,t]:Array TypeId).getD 1 0 from rfl)]
  show lF P _ t t _ _ _=_
  rw [sk a]
  simp only [lW,ht,T,j,D,C,and_self,if_true,M.bind,a,M.pure,M.get,hb,M.j6]
  simp
 ·simp only [Ac,decide_eq_true_eq]
  have hl:(li.take b.toNat).length=b.toNat:=by simp;omega
  rw [hl]at h1
  exact⟨⟨so,by simpa using h1⟩,by simp [hsz]⟩
theorem WO.resl{α:Type}{g:α->PD}{li:List α}{t e:TypeId}{x:Operand}{q hi:Option Operand}{k:IntKind}{b:Int}{id ver sz d:Nat}{y:Unit}(a:oK li.length 0 b=some y)(i:mt.lit (o.dst.getD 0)=true)(hw:j9 ops (A R B) o=some true)(hd:o.dst=some d)(ho:o.op= .slice t x q hi none)
  (E:(A R B).opd x=some (.ref id ver)) (hb:assoc B id=some (.arr ver e (li.map g))) (ht:P.underlying t=some (.slice e)) (F:szT P e=some (sz+1)) {s r:Option RV} (hl:kR (A R B) q=some s) (D:kR (A R B) hi=some r) (p:s=none) (n:r=some (.d (.int k b)))
  (h:WO P H ext mt ops l ((d,.ref id (ver+1))::R) ((id,.arr (ver+1) e ((li.take b.toNat).map g))::B) fun C z ts=>K C z (⟨[id],[id]⟩::ts)):WO P H ext mt ops (o::l) R B K:=by
 subst p n
 have hc:0<=b∧b<=li.length:=by unfold oK at a;split at a<;>first|(rename_i h;exact⟨h.2.1,h.2.2⟩)|cases a
 rw [CD]at h
 refine WO.step (v:= .ref id (ver+1)) (u:=[(id,.arr (ver+1) e ((li.map g).take b.toNat))]) (rd:=[id]) (c:=decide (0<=b∧b<=(li.map g).length)) hw hd (fun m=>?_) (by simpa using hc) h
 have j:kR (A R B) none=some none:=rfl
 simp only [kF,ho,E,hl,D,j,i,if_true,rT,ht,F,M.bind,M.get,hb,and_self,M.j6]
 simp
end
end Go.Dw
namespace Go.Dw
def mGet{κ β:Type}(eq:κ->κ->Bool)(k:κ)(z:β):List (κ×β)->β
 | []=>z
 |e::r=>if eq k e.1=true then e.2 else mGet eq k z r
def mHas{κ β:Type}(eq:κ->κ->Bool)(k:κ):List (κ×β)->Bool
 | []=>false
 |e::r=>if eq k e.1=true then true else mHas eq k r
def mPut{κ β:Type}(eq:κ->κ->Bool)(k:κ)(v:β):List (κ×β)->List (κ×β)
 | []=>[(k,v)]
 |e::r=>if eq k e.1=true then(k,v)::r else e::mPut eq k v r
def nk{α:Type}(bytes:Nat)(l:List α):Option (List α):=if l.length*bytes<=140737488355328 then some l else none
def mkO{α:Type}(n:Int)(z:α)(bytes:Nat):Option (List α):=if 0<=n∧n.toNat*bytes<=140737488355328∧n.toNat<=140737488355328 then some (AA n.toNat z)else none
section
variable {P:Program}
theorem th{κ β:Type}{g:κ->PD}{gv:β->PD}{eq:κ->κ->Bool}{s:TypeId}(m:∀a b,qt P s (g a) (g b)=some (eq a b))(k:κ)(z:β):∀(li:List (κ×β))(i:Nat),
  (mHas eq k li=false∧mGet eq k z li=z∧kN P s (g k) (li.map fun e=>(g e.1,gv e.2)) i=some none∧∀v,mPut eq k v li=li++[(k,v)])∨
  ∃j x,mHas eq k li=true∧eq k x=true∧kN P s (g k) (li.map fun e=>(g e.1,gv e.2)) i=some (some (i+j,g x,gv (mGet eq k z li)))∧∀v,mPut eq k v li=li.set j (k,v)
 | [],i=>.inl ⟨rfl,rfl,rfl,fun _=>rfl⟩
 |(x,v)::r,i=>by
  cases c:eq k x with
  |true=>exact .inr ⟨0,x,by simp [mHas,c],c,by simp [kN,m,c,mGet],fun v'=>by simp [mPut,c]⟩
  |false=>
   rcases th m k z r (i+1)with⟨h1,n,p,q⟩|⟨j,y,h1,n,p,q⟩
   ·exact .inl ⟨by simp [mHas,c,h1],by simp [mGet,c,n],by simp [kN,m,c];exact p,fun v'=>by simp [mPut,c,q]⟩
   ·refine .inr ⟨j+1,y,by simp [mHas,c,h1],n,?_,fun v'=>by simp [mPut,c,q]⟩
    simp only [List.map_cons,kN,m,c]
    rw [p,show i+1+j=i+(j+1)by omega]
    simp [mGet,c]
end
section
variable {P:Program}{H:Hints}{ext:FuncId->Option ko}{mt:Hf}{ops:Array Oper}{l:List Oper}{R:List (Nat×RV)}{B:List (Nat×Box)}{K:List (Nat×RV)->List (Nat×Box)->List Tr->Prop}{o:Oper}{d:Nat}
structure KeyT(P:Program)(kt:TypeId){κ:Type}(gk:κ->PD)(eq:κ->κ->Bool):Prop where
 feq:∀a b,qt P kt (gk a) (gk b)=some (eq a b)
 kind:∀a,lC P kt (gk a)=true
 same:∀a b,eq a b=true->pX (gk a) (gk b)=true
theorem WO.sU{v:RV}{u:Ups}{rd:List Nat}(hw:j9 ops (A R B) o=some true)(hd:o.dst=some d)(he:∀n,kF P mt (ln P H ext n) (A R B) o (assoc B)=some ((v,u),rd,true))
  (h:WO P H ext mt ops l ((d,v)::R) (sc u B) fun b a ts=>K b a (⟨rd,u.map (·.1)⟩::ts)):WO P H ext mt ops (o::l) R B K:=WO.step hw hd he rfl h
theorem WO.strU{li:List Int}{src dst e:TypeId}{x:Operand}(hw:j9 ops (A R B) o=some true)(hd:o.dst=some d)(ho:o.op= .convert src dst x)(g:(A R B).opd x=some (.d (.lst (li.map (.int .u8)))))(c:P.underlying src=some (.slice e))(ht:P.underlying dst=some .string)(he:P.underlying e=some (.int .u8))
  (h:WO P H ext mt ops l ((d,.d (.str (Dw.strU li)))::R) B fun b a ts=>K b a (⟨[],[]⟩::ts)):WO P H ext mt ops (o::l) R B K:=by
 refine WO.s0 (rd:=[]) hw hd (fun m=>?_) rfl h
 simp only [kF,ho,g,oO,c,ht,he,u8s_map]
 rfl
theorem WO.look{κ β:Type}{a:κ->PD}{gv:β->PD}{eq:κ->κ->Bool}{k:κ}{z:β}{li:List (κ×β)}{t g i:TypeId}{x y:Operand}{id:Nat}(c:KeyT P g a eq)(u:(kZ P i).bind l6=some (gv z))(hw:j9 ops (A R B) o=some true)(hd:o.dst=some d)(ho:o.op= .lookup t x y false)(m:(A R B).opd x=some (.ptr id 0))(p:(A R B).opd y=some (.d (a k)))
  (hb:assoc B id=some (.map g i (li.map fun e=>(a e.1,gv e.2)))) (ht:P.underlying t=some (.map g i))
  (h:WO P H ext mt ops l ((d,.d (gv (mGet eq k z li)))::R) B fun r q ts=>K r q (⟨[id],[]⟩::ts)):WO P H ext mt ops (o::l) R B K:=by
 refine WO.s0 (rd:=[id]) hw hd (fun n=>?_) rfl h
 rcases th (gv:=gv) c.feq k z li 0 with⟨-,s,b, -⟩|⟨j,v, -, -,b, -⟩
 ·simp only [kF,ho,m,p,nv,ht,M.bind,M.get,hb,true_and,c.kind,if_true,b,u,s,Aj,if_false]
  rfl
 ·simp only [kF,ho,m,p,nv,ht,M.bind,M.get,hb,true_and,c.kind,if_true,b,Aj,if_false]
  rfl
theorem KeyT.int{e:TypeId}{q:IntKind}(h:P.underlying e=some (.int q)):KeyT P e (PD.int q) (fun a b=>a==b):=
 ⟨fun a b=>by simp [qt,lZ,nu],fun a=>by simp [lC,mP,h],fun a b c=>by simpa [pX,pA]using c⟩
theorem KeyT.str{e:TypeId}(h:P.underlying e=some .string):KeyT P e PD.str (fun a b=>a==b):=
 ⟨fun a b=>by simp [qt,lZ,nu],fun a=>by simp [lC,mP,h],fun a b c=>by simpa [pX,pA]using c⟩
end
section
variable {P:Program}{H:Hints}{ext:FuncId->Option ko}{mt:Hf}{ops:Array Oper}{l:List Oper}{R:List (Nat×RV)}{B:List (Nat×Box)}{K:List (Nat×RV)->List (Nat×Box)->List Tr->Prop}{o:Oper}
end
section
variable {P:Program}{H:Hints}{ext:FuncId->Option ko}{mt:Hf}{ops:Array Oper}{l:List Oper}{R:List (Nat×RV)}{B:List (Nat×Box)}{K:List (Nat×RV)->List (Nat×Box)->List Tr->Prop}{o:Oper}{d:Nat}
end
end Go.Dw
