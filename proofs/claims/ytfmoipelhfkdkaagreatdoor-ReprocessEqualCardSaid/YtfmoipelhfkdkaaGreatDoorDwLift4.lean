
import Derived.Test.YtfmoipelhfkdkaaGreatDoorDwWp
set_option linter.unusedVariables false
set_option linter.unusedSimpArgs false
open List renaming length_map->Ey, map_append->F2, map_cons->FC, map_drop->F3, map_replicate->F4, map_set->F5, map_take->F6, nil_append->D8, replicate->B2
open Bool renaming and_eq_true->EE, and_self->F7, and_true->F8, false_eq_true->EL
open Option renaming getD_some->F9

namespace Go.Dw
abbrev EvP(P:Program)(H:Hints)(ext:FuncId->Option rO)(f:FuncId)(args:List RV)(bs:List Box)(p:RV×List Box):Prop:=Ev P H ext f args bs p.1 p.2
def oc{α:Type}(l:List α)(n:Int):Option α:=if 0<=n then l[n.toNat]? else none
def wW(s:List UInt8)(n:Int):Option Int:=if 0<=n∧n<s.length then some ((s.getD n.toNat 0).toNat:Nat)else none
def zK{α:Type}(l:List α)(lo hi:Int):Option (List α):=if 0<=lo∧lo<=hi∧hi<=l.length then some ((l.drop lo.toNat).take (hi.toNat-lo.toNat))else none
def rR{α:Type}(l m:List α)(bytes:Nat):Option (List α):=if(l.length+m.length)*bytes<=140737488355328 then some (l++m)else none
def catO(a b:List UInt8):Option (List UInt8):=if((a.length+b.length:Nat):Int)<=9223372036854775807 then some (a++b)else none
def yF(k:IntKind)(x y:Int):Option Int:=if y<0 then none else some (shlI k x y)
def shrO(k:IntKind)(x y:Int):Option Int:=if y<0 then none else some (sl k x y)
def tI(k:IntKind)(x y:Int):Option Int:=if y=0 then none else some (k.wrap (x.tdiv y))
def w5(x y:Int):Option Int:=if y=0 then none else some (x.tmod y)
def tO{α:Type}(l:List α)(n:Int)(y:α):Option (List α):=if 0<=n∧n<l.length then some (l.set n.toNat y)else none
def inO{α:Type}(l:List α)(n:Int):Option Unit:=if 0<=n∧n<l.length then some ()else none
theorem xF{α:Type}{l:List α}{n:Int}{x:α}(h:oc l n=some x):0<=n∧n<l.length∧l[n.toNat]? =some x:=by
 unfold oc at h
 split at h
 ·rename_i g
  have:=(List.getElem?_eq_some_iff.1 h).1
  exact⟨g,za,h⟩
 ·cases h
theorem Cz{s:List UInt8}{n c:Int}(h:wW s n=some c):(0<=n∧n<s.length)∧c=((s.getD n.toNat 0).toNat:Nat):=by
 unfold wW at h;split at h
 ·cases h;exact⟨by assumption,rfl⟩
 ·cases h
theorem A4{α:Type}{l r:List α}{lo hi:Int}(h:zK l lo hi=some r):(0<=lo∧lo<=hi∧hi<=l.length)∧r=(l.drop lo.toNat).take (hi.toNat-lo.toNat):=by
 unfold zK at h;split at h
 ·cases h;exact⟨by assumption,rfl⟩
 ·cases h
theorem wh{α:Type}{l m r:List α}{b:Nat}(h:rR l m b=some r):(l.length+m.length)*b<=140737488355328∧r=l++m:=by
 unfold rR at h;split at h
 ·cases h;exact⟨by assumption,rfl⟩
 ·cases h
theorem Dp{a b r:List UInt8}(h:catO a b=some r):((a.length+b.length:Nat):Int)<=9223372036854775807∧r=a++b:=by
 unfold catO at h;split at h
 ·cases h;exact⟨by assumption,rfl⟩
 ·cases h
theorem DE{α:Type}{l r:List α}{n:Int}{y:α}(h:tO l n y=some r):(0<=n∧n<l.length)∧r=l.set n.toNat y:=by
 unfold tO at h;split at h
 ·cases h;exact⟨by assumption,rfl⟩
 ·cases h
def optC{α β:Type}(o:Option α)(a:Option β)(k:α->Option β):Option β:=match o with|none=>a|some y=>k y
theorem opt_elim{α β:Type}{o:Option α}{a:Option β}{k:α->Option β}{r:β}(h:optC o a k=some r){G:Prop}(h1:o=none->a=some r->G)(g:∀y,o=some y->k y=some r->G):G:=by
 cases o with
 |none=>exact h1 rfl h
 |some y=>exact g y rfl h
theorem oh{α β:Type}{m:Option α}{k:α->Option β}{r:β}(h:m.bind k=some r){G:Prop}(hk:∀x,m=some x->k x=some r->G):G:=by
 cases m with
 |none=>cases h
 |some x=>exact hk x rfl h
theorem u4{β:Type}{t:Bool}{a b:Option β}{r:β}(h:(if t=true then a else b)=some r){G:Prop}(h1:t=true->a=some r->G)(g:t=false->b=some r->G):G:=by
 cases t with
 |true=>exact h1 rfl h
 |false=>exact g rfl h
theorem sx{α:Type}(g:α->PD)(l:List α):RV.d (.int .i64 ((l.map g).length:Nat))=RV.d (.int .i64 (l.length:Nat)):=by rw [Ey]
inductive gB(σ ω:Type)where
 |next (s:σ)
 |stop (o:ω)
def uh{σ ω:Type}(body:σ->Option (gB σ ω)):Nat->σ->Option ω
 |0,_=>none
 |n+1,s=>
  match body s with
  |some (.next s')=>uh body n s'
  |some (.stop o)=>some o
  |none=>none
theorem yc{σ ω:Type}{body:σ->Option (gB σ ω)}:∀{n m:Nat}{s:σ}{o:ω},uh body n s=some o->n<=m->uh body m s=some o
 |0,_,_,_,h,_=>by cases h
 |n+1,0,_,_,_,hm=>by omega
 |n+1,m+1,s,o,h,hm=>by
  simp only [uh]at h⊢
  rcases g:body s with _|(s'|j)
  ·simp [g]at h
  ·simp only [g]at h⊢;exact yc h za
  ·simp only [g]at h⊢;exact h
open Classical in
noncomputable def cI {σ ω:Type} (body:σ->Option (gB σ ω)) (s:σ):Option ω:=if h:∃n o,uh body n s=some o then some h.choose_spec.choose else none
theorem ui{σ ω:Type}{body:σ->Option (gB σ ω)}{n:Nat}{s:σ}{o:ω}(h:uh body n s=some o):cI body s=some o:=by
 have he:∃n o,uh body n s=some o:=⟨n,o,h⟩
 unfold cI
 rw [dif_pos he]
 have j:=he.choose_spec.choose_spec
 have k:=yc h (Nat.le_max_left n he.choose)
 have g:=yc j (Nat.le_max_right n he.choose)
 rw [k]at g
 exact g.symm
theorem wM{σ ω:Type}{body:σ->Option (gB σ ω)}{s:σ}{o:ω}(h:cI body s=some o):∃n,uh body n s=some o:=by
 unfold cI at h
 split at h
 ·rename_i he
  cases h
  exact⟨_,he.choose_spec.choose_spec⟩
 ·cases h
theorem rZ{σ ω:Type}{body:σ->Option (gB σ ω)}{s s':σ}(h:body s=some (.next s')):cI body s=cI body s':=by
 cases h1:cI body s' with
 |some o=>
  obtain⟨n,g⟩:=wM h1
  exact ui (n:=n+1) (by simp only [uh,h];exact g)
 |none=>
  cases j:cI body s with
  |none=>rfl
  |some o=>
   obtain⟨n,g⟩:=wM j
   cases n with
   |zero=>cases g
   |succ n=>
    simp only [uh,h]at g
    rw [ui g]at h1
    cases h1
theorem rD{σ ω:Type}{body:σ->Option (gB σ ω)}{s:σ}{o:ω}(h:body s=some (.stop o)):cI body s=some o:=
 ui (n:=1) (by simp only [uh,h])
open Classical in
noncomputable def recO {β:Type} (g:Nat->Option β):Option β:=if h:∃n r,g n=some r then some h.choose_spec.choose else none
theorem Bc{β:Type}{g:Nat->Option β}{r:β}(h:recO g=some r):∃n,g n=some r:=by
 unfold recO at h
 split at h
 ·rename_i he;cases h;exact⟨_,he.choose_spec.choose_spec⟩
 ·cases h
theorem Bz{β:Type}{g:Nat->Option β}{r:β}(h:∃n,g n=some r)(hu:∀n s,g n=some s->s=r):recO g=some r:=by
 obtain⟨n,j⟩:=h
 have he:∃n r,g n=some r:=⟨n,r,j⟩
 unfold recO
 rw [dif_pos he]
 exact congrArg some (hu _ _ he.choose_spec.choose_spec)
section
variable {P:Program}{H:Hints}{ext:FuncId->Option rO}{f:FuncId}{nb:Nat}{R:List (Nat×RV)}{B:List (Nat×Box)}{Q:Ex->List (Nat×RV)->List (Nat×Box)->Prop}
theorem WL.rU{σ ω:Type}{body:σ->Option (gB σ ω)}{b:Code}{s0:σ}{o:ω}(h:cI body s0=some o)(I:σ->List (Nat×RV)->List (Nat×Box)->Prop)(C:ω->Ex->List (Nat×RV)->List (Nat×Box)->Prop)(D:I s0 R B)
  (g:∀s R B x,I s R B->body s=some x->WC P H ext f nb b R B fun e k j=>match x with| .next s'=>e= .normal∧I s' k j| .stop E=>e≠ .normal∧C E e k j)
  (G:∀e k j,e≠ .normal->C o e k j->Q e k j):WL P H ext f nb b R B Q:=by
 obtain⟨n,q⟩:=wM h
 clear h
 induction n generalizing s0 R B with
 |zero=>cases q
 |succ n L=>
  simp only [uh]at q
  rcases r:body s0 with _|(s'|E)
  ·simp [r]at q
  ·simp only [r]at q
   obtain⟨e,k,j,u,he,F⟩:=g s0 R B _ D r
   subst he
   exact WL.round ⟨.normal,k,j,u,L F q⟩
  ·simp only [r,Option.some.injEq]at q
   subst q
   obtain⟨e,k,j,u,he,J⟩:=g s0 R B _ D r
   refine WL.round ⟨e,k,j,u,?_⟩
   have:=G e k j he J
   cases e with
   |normal=>exact(he rfl).elim
   |exit id=>exact this
   |ret=>exact this
theorem WC.condT'{c:Operand}{a b:Code}{t:Bool}(g:t=true)(hc:(A R B).opd c=some (.d (.bool t)))(h1:WC P H ext f nb a R B Q):WC P H ext f nb (.cond c a b) R B Q:=by subst g;exact WC.condT hc h1
theorem WC.condF'{c:Operand}{a b:Code}{t:Bool}(g:t=false)(hc:(A R B).opd c=some (.d (.bool t)))(h1:WC P H ext f nb b R B Q):WC P H ext f nb (.cond c a b) R B Q:=by subst g;exact WC.condF hc h1
theorem WC.join{α:Type}{a b:Code}(I:α->List (Nat×RV)->List (Nat×Box)->Prop)(G:α->Prop)(h1:WC P H ext f nb a R B fun e j g=>match e with| .normal=>∃x,I x j g∧G x|e=>Q e j g)
  (k:∀x j g,I x j g->G x->WC P H ext f nb b j g Q):WC P H ext f nb (.seq a b) R B Q:=by
 refine WC.seq ?_
 obtain⟨e,j,g,u,h⟩:=h1
 refine⟨e,j,g,u,?_⟩
 cases e with
 |normal=>obtain⟨x,r,q⟩:=h;exact k x j g r q
 |exit id=>exact h
 |ret=>exact h
end
section
variable {P:Program}{H:Hints}{ext:FuncId->Option rO}{mt:Hf}{ops:Array Oper}{l:List Oper}{R:List (Nat×RV)}{B:List (Nat×Box)}{K:List (Nat×RV)->List (Nat×Box)->List Tr->Prop}{o:Oper}{d:Nat}
theorem WO.s0{v v':RV}{rd:List Nat}(hw:og ops (A R B) o=some true)(k:o.dst=some d)(he:∀n,rN P mt (sI P H ext n) (A R B) o (assoc B)=some ((v,[]),rd,true))(q:v=v')
  (h:WO P H ext mt ops l ((d,v')::R) B fun j g ts=>K j g (⟨rd,[]⟩::ts)):WO P H ext mt ops (o::l) R B K:=by
 subst q
 exact WO.step (u:=[]) hw k he rfl h
theorem WO.s1{v:RV}{id:Nat}{g:Box}{rd:List Nat}(hw:og ops (A R B) o=some true)(q:o.dst=some d)(he:∀n,rN P mt (sI P H ext n) (A R B) o (assoc B)=some ((v,[(id,g)]),rd,true))
  (h:WO P H ext mt ops l ((d,v)::R) ((id,g)::B) fun k j ts=>K k j (⟨rd,[id]⟩::ts)):WO P H ext mt ops (o::l) R B K:=
 WO.step (u:=[(id,g)]) hw q he rfl h
theorem WO.n1{v:RV}{id:Nat}{g:Box}{rd:List Nat}(hw:og ops (A R B) o=some true)(q:o.dst=none)(he:∀n,rN P mt (sI P H ext n) (A R B) o (assoc B)=some ((v,[(id,g)]),rd,true))
  (h:WO P H ext mt ops l R ((id,g)::B) fun k j ts=>K k j (⟨rd,[id]⟩::ts)):WO P H ext mt ops (o::l) R B K:=
 WO.zH (u:=[(id,g)]) hw q he rfl h
theorem WO.bin{op:BinOp}{t t':TypeId}{x y:Operand}{g j:RV}{p:PD}(he:xV P op t g j=some (p,true))(hw:og ops (A R B) o=some true)(r:o.dst=some d)(ho:o.op= .binOp op t x y t')(u:(A R B).opd x=some g)(C:(A R B).opd y=some j)
  (h:WO P H ext mt ops l ((d,.d p)::R) B fun q k ts=>K q k (⟨[],[]⟩::ts)):WO P H ext mt ops (o::l) R B K:=by
 refine WO.s0 (rd:=[]) hw r (fun n=>?_) rfl h
 simp only [rN,ho,u,C,Aa,he]
 rfl
theorem WO.zJ{op:BinOp}{t t':TypeId}{x y:Operand}{g j:RV}{b b':Bool}(he:xV P op t g j=some (.bool b,true))(r:b=b')(hw:og ops (A R B) o=some true)(u:o.dst=some d)(ho:o.op= .binOp op t x y t')(C:(A R B).opd x=some g)(D:(A R B).opd y=some j)
  (h:WO P H ext mt ops l ((d,.d (.bool b'))::R) B fun q k ts=>K q k (⟨[],[]⟩::ts)):WO P H ext mt ops (o::l) R B K:=by
 subst r
 exact WO.bin he hw u ho C D h
theorem WO.split{b:Bool}{rd:List Nat}(hw:og ops (A R B) o=some true)(k:o.dst=some d)(he:∀n,rN P mt (sI P H ext n) (A R B) o (assoc B)=some ((.d (.bool b),[]),rd,true))
  (h:WO P H ext mt ops l ((d,.d (.bool b))::R) B fun j g ts=>K j g (⟨rd,[]⟩::ts)):WO P H ext mt ops (o::l) R B K:=
 WO.step (u:=[]) hw k he rfl h
theorem WO.elemG{α:Type}{g:α->PD}{li:List α}{t e:TypeId}{x i:Operand}{k:IntKind}{n:Int}{sz:Nat}{y:α}{cs:List PD}(I:oc li n=some y)(hw:og ops (A R B) o=some true)(G:o.dst=some d)(ho:o.op= .indexAddr t x i)(L:(A R B).opd x=some (.d (.lst (li.map g))))(hi:(A R B).opd i=some (.d (.int k n)))
  (J:P.underlying t=some (.slice e)) (N:szT P e=some sz) (hc:(g y).cells=cs) (j:cs.length=sz)
  (h:WO P H ext mt ops l ((d,.cptr cs)::R) B fun D C ts=>K D C (⟨[],[]⟩::ts)):WO P H ext mt ops (o::l) R B K:=by
 subst hc
 obtain⟨E,h1,F⟩:=xF I
 have q:(li.map g).getD n.toNat default=g y:=by simp [F]
 have r:0<=n∧n<(li.map g).length:=by simpa using⟨E,h1⟩
 refine WO.step (u:=[]) (rd:=[]) (c:=true) hw G (fun m=>?_) rfl h
 simp only [rN,ho,L,hi,tc,J,N,q,r,j,and_self,decide_true,beq_self_eq_true,F8]
 rfl
theorem WO.byteG{t:TypeId}{x i:Operand}{s:List UInt8}{k:IntKind}{n c:Int}(r:wW s n=some c)(hw:og ops (A R B) o=some true)(q:o.dst=some d)(ho:o.op= .index t x i)(D:(A R B).opd x=some (.d (.str s)))(hi:(A R B).opd i=some (.d (.int k n)))(C:P.underlying t=some .string)
  (h:WO P H ext mt ops l ((d,.d (.int .u8 c))::R) B fun j g ts=>K j g (⟨[],[]⟩::ts)):WO P H ext mt ops (o::l) R B K:=by
 obtain⟨h1,rfl⟩:=Cz r
 refine WO.step (u:=[]) (rd:=[]) (c:=decide (0<=n∧n<s.length)) hw q (fun m=>?_) (by simpa using h1) h
 simp only [rN,ho,D,hi,xi,xZ,C]
 rfl
theorem WO.cutG{t:TypeId}{x:Operand}{lo hi:Option Operand}{s r:List UInt8}{q j:Option RV}{a b:Int}(I:zK s a b=some r)(g:mt.lit (o.dst.getD 0)=false)(hw:og ops (A R B) o=some true)(G:o.dst=some d)(ho:o.op= .slice t x lo hi none)(N:(A R B).opd x=some (.d (.str s)))(L:P.underlying t=some .string)
  (hl:rV (A R B) lo=some q) (J:rV (A R B) hi=some j) (F:bnd q 0=some a) (k:bnd j s.length=some b)
  (h:WO P H ext mt ops l ((d,.d (.str r))::R) B fun D C ts=>K D C (⟨[],[]⟩::ts)):WO P H ext mt ops (o::l) R B K:=by
 obtain⟨h1,rfl⟩:=A4 I
 rw [<-uU s j a b k h1]at h
 refine WO.step (u:=[]) (rd:=[]) (c:=decide (0<=a∧a<=b∧b<=s.length)) hw G (fun m=>?_) (by simpa using h1) h
 have E:rV (A R B) none=some none:=rfl
 simp only [rN,ho,N,hl,J,E,g,EL,if_false,tC,L,F,k]
 rfl
theorem WO.cutL{α:Type}{g:α->PD}{t e:TypeId}{x:Operand}{lo hi:Option Operand}{li r:List α}{D k:Option RV}{a b:Int}{sz:Nat}(N:zK li a b=some r)(C:∀x,(g x).cells.length=sz)(q:mt.lit (o.dst.getD 0)=false)(hw:og ops (A R B) o=some true)(L:o.dst=some d)(ho:o.op= .slice t x lo hi none)(U:(A R B).opd x=some (.d (.lst (li.map g))))(T:P.underlying t=some (.slice e))(W:szT P e=some sz)
  (hl:rV (A R B) lo=some D) (O:rV (A R B) hi=some k) (I:bnd D 0=some a) (J:bnd k li.length=some b)
  (h:WO P H ext mt ops l ((d,.d (.lst (r.map g)))::R) B fun F E ts=>K F E (⟨[],[]⟩::ts)):WO P H ext mt ops (o::l) R B K:=by
 obtain⟨h1,rfl⟩:=A4 N
 have j:bnd k ((li.map g).length:Nat)=some b:=by simpa using J
 have he:(((li.drop a.toNat).take (b.toNat-a.toNat)).map g)=cut (li.map g) a.toNat (hiOf k b):=by
  rw [uU (li.map g) k a b j (by simpa using h1)];simp
 rw [he]at h
 refine WO.step (u:=[]) (rd:=[]) (c:=decide (0<=a∧a<=b∧b<=(li.map g).length)&&(li.map g).all (fun e=>e.cells.length==sz)) hw L (fun m=>?_) ?_ h
 ·have G:rV (A R B) none=some none:=rfl
  simp only [rN,ho,U,hl,O,G,q,EL,if_false,tC,T,I,j,W]
  rfl
 ·simp only [EE,decide_eq_true_eq]
  refine⟨by simpa using h1,?_⟩
  simp [C]
theorem WO.catG{t t':TypeId}{x y:Operand}{a b r:List UInt8}(q:catO a b=some r)(hw:og ops (A R B) o=some true)(k:o.dst=some d)(ho:o.op= .binOp .add t x y t')(C:(A R B).opd x=some (.d (.str a)))(D:(A R B).opd y=some (.d (.str b)))
  (h:WO P H ext mt ops l ((d,.d (.str r))::R) B fun j g ts=>K j g (⟨[],[]⟩::ts)):WO P H ext mt ops (o::l) R B K:=by
 obtain⟨h1,rfl⟩:=Dp q
 refine WO.step (u:=[]) (rd:=[]) (c:=decide (((a.length+b.length:Nat):Int)<=IntKind.i64.max)) hw k (fun n=>?_) ?_ h
 ·simp only [rN,ho,C,D,Aa,xV,yo,BG]
  rfl
 ·have:IntKind.i64.max=9223372036854775807:=by decide
  rw [this]
  exact decide_eq_true h1
theorem WO.quoG{t t':TypeId}{x y:Operand}{k k':IntKind}{a b r:Int}(g:tI k a b=some r)(hw:og ops (A R B) o=some true)(D:o.dst=some d)(ho:o.op= .binOp .quo t x y t')(E:(A R B).opd x=some (.d (.int k a)))(F:(A R B).opd y=some (.d (.int k' b)))(hk:k=k')
  (h:WO P H ext mt ops l ((d,.d (.int k r))::R) B fun q j ts=>K q j (⟨[],[]⟩::ts)):WO P H ext mt ops (o::l) R B K:=by
 subst hk
 unfold tI at g
 split at g
 ·cases g
 ·rename_i C
  cases g
  refine WO.step (u:=[]) (rd:=[]) (c:=b != 0) hw D (fun n=>?_) (by simpa using C) h
  simp only [rN,ho,E,F,Aa,xV,yo,if_true,yU]
  rfl
theorem WO.shlG{t t':TypeId}{x y:Operand}{k k':IntKind}{a b r:Int}(g:yF k a b=some r)(hw:og ops (A R B) o=some true)(D:o.dst=some d)(ho:o.op= .binOp .shl t x y t')(E:(A R B).opd x=some (.d (.int k a)))(F:(A R B).opd y=some (.d (.int k' b)))
  (h:WO P H ext mt ops l ((d,.d (.int k r))::R) B fun q j ts=>K q j (⟨[],[]⟩::ts)):WO P H ext mt ops (o::l) R B K:=by
 unfold yF at g
 split at g
 ·cases g
 ·rename_i C
  cases g
  refine WO.step (u:=[]) (rd:=[]) (c:=decide (0<=b)) hw D (fun n=>?_) (by simpa using C) h
  simp only [rN,ho,E,F,Aa,xV,yo]
  rfl
theorem WO.shrG{t t':TypeId}{x y:Operand}{k k':IntKind}{a b r:Int}(g:shrO k a b=some r)(hw:og ops (A R B) o=some true)(D:o.dst=some d)(ho:o.op= .binOp .shr t x y t')(E:(A R B).opd x=some (.d (.int k a)))(F:(A R B).opd y=some (.d (.int k' b)))
  (h:WO P H ext mt ops l ((d,.d (.int k r))::R) B fun q j ts=>K q j (⟨[],[]⟩::ts)):WO P H ext mt ops (o::l) R B K:=by
 unfold shrO at g
 split at g
 ·cases g
 ·rename_i C
  cases g
  refine WO.step (u:=[]) (rd:=[]) (c:=decide (0<=b)) hw D (fun n=>?_) (by simpa using C) h
  simp only [rN,ho,E,F,Aa,xV,yo]
  rfl
theorem WO.remG{t t':TypeId}{x y:Operand}{k k':IntKind}{a b r:Int}(g:w5 a b=some r)(hw:og ops (A R B) o=some true)(D:o.dst=some d)(ho:o.op= .binOp .rem t x y t')(E:(A R B).opd x=some (.d (.int k a)))(F:(A R B).opd y=some (.d (.int k' b)))(hk:k=k')
  (h:WO P H ext mt ops l ((d,.d (.int k r))::R) B fun q j ts=>K q j (⟨[],[]⟩::ts)):WO P H ext mt ops (o::l) R B K:=by
 subst hk
 unfold w5 at g
 split at g
 ·cases g
 ·rename_i C
  cases g
  refine WO.step (u:=[]) (rd:=[]) (c:=b != 0) hw D (fun n=>?_) (by simpa using C) h
  simp only [rN,ho,E,F,Aa,xV,yo,if_true,yU]
  rfl
theorem WO.appR{α:Type}{g:α->PD}{li m r:List α}{t e:TypeId}{x y:Operand}{c:Call}{id ver sz by_:Nat}{z:Value}(O:rR li m (by_+1)=some r)(D:∀x,(g x).cells.length=sz+1)(hw:og ops (A R B) o=some true)(N:o.dst=some d)(ho:o.op= .call c)
  (hc:c.callee= .builtin .append) (J:c.args.toList=[x,y]) (j:c.argTypes= #[t,t]) (U:(A R B).opd x=some (.ref id ver)) (W:(A R B).opd y=some (.d (.lst (m.map g))))
  (L:assoc B id=some (.arr ver e (li.map g))) (T:sD P t=some e) (X:szT P e=some (sz+1)) (k:sP P e=some (by_+1)) (F:sr P e=some z) (E:z.cells.size=sz+1)
  (h:WO P H ext mt ops l ((d,.ref id (ver+1))::R) ((id,.arr (ver+1) e (r.map g))::B) fun I G ts=>K I G (⟨[id],[id]⟩::ts)):WO P H ext mt ops (o::l) R B K:=by
 obtain⟨h1,rfl⟩:=wh O
 rw [F2]at h
 refine WO.step (u:=[(id,.arr (ver+1) e (li.map g++m.map g))]) (rd:=[id]) (c:=decide (((li.map g).length+(m.map g).length)*(by_+1)<=140737488355328)&&(m.map g).all (fun e=>e.cells.length==sz+1)) hw N (fun n=>?_) ?_ h
 ·have C:tK (A R B) c.args.toList=some [.ref id ver,.d (.lst (m.map g))]:=by simp only [J,tK,U,W]
  simp only [rN,ho,hc,C,j]
  have q:∀(m Y:M (RV×Ups)),(if(#[t,t]:Array TypeId).size=2 then m else Y)=m:=fun _ _=>if_pos rfl
  rw [q,if_pos (show(#[t,t]:Array TypeId).getD 0 0=(#[t,t]:Array TypeId).getD 1 0 from rfl)]
  show te P _ t t _ _ _=_
  simp only [te,T,X,k,F,E,and_self,if_true,M.bind,sq,M.pure,M.get,L,M.rG]
  simp
 ·simp only [EE,decide_eq_true_eq]
  exact⟨by simpa using h1,by simp [D]⟩
theorem WO.appN{α:Type}{g:α->PD}{m r:List α}{t e:TypeId}{x y:Operand}{c:Call}{sz by_:Nat}{z:Value}(T:rR [] m (by_+1)=some r)(D:∀x,(g x).cells.length=sz+1)(hw:og ops (A R B) o=some true)(G:o.dst=some d)(ho:o.op= .call c)
  (hc:c.callee= .builtin .append) (N:c.args.toList=[x,y]) (j:c.argTypes= #[t,t]) (W:(A R B).opd x=some .rm) (X:(A R B).opd y=some (.d (.lst (m.map g))))
  (O:assoc B (d*16)=none) (U:sD P t=some e) (Y:szT P e=some (sz+1)) (k:sP P e=some (by_+1)) (F:sr P e=some z) (E:z.cells.size=sz+1)
  (h:WO P H ext mt ops l ((d,.ref (d*16) 0)::R) ((d*16,.arr 0 e (r.map g))::B) fun L J ts=>K L J (⟨[d*16],[d*16]⟩::ts)):WO P H ext mt ops (o::l) R B K:=by
 obtain⟨h1,I⟩:=wh T
 rw [D8]at I
 subst I
 refine WO.step (u:=[(d*16,.arr 0 e (r.map g))]) (rd:=[d*16]) (c:=decide ((r.map g).length*(by_+1)<=140737488355328)&&(r.map g).all (fun e=>e.cells.length==sz+1)) hw G (fun n=>?_) ?_ h
 ·have C:tK (A R B) c.args.toList=some [.rm,.d (.lst (r.map g))]:=by simp only [N,tK,W,X]
  simp only [rN,ho,hc,C,j,G,F9]
  have q:∀(m m':M (RV×Ups)),(if(#[t,t]:Array TypeId).size=2 then m else m')=m:=fun _ _=>if_pos rfl
  rw [q,if_pos (show(#[t,t]:Array TypeId).getD 0 0=(#[t,t]:Array TypeId).getD 1 0 from rfl)]
  show te P _ t t _ _ _=_
  simp only [te,U,Y,k,F,E,and_self,if_true,M.bind,sq,M.pure,M.si,O,M.rG]
  simp
 ·simp only [EE,decide_eq_true_eq]
  exact⟨by simpa using h1,by simp [D]⟩
theorem WO.lenR{α:Type}{g:α->PD}{li:List α}{t e:TypeId}{x:Operand}{c:Call}{id ver:Nat}(hw:og ops (A R B) o=some true)(E:o.dst=some d)(ho:o.op= .call c)
  (hc:c.callee= .builtin .len) (C:c.args.toList=[x]) (j:c.argTypes= #[t]) (G:(A R B).opd x=some (.ref id ver)) (D:assoc B id=some (.arr ver e (li.map g))) (F:P.underlying t=some (.slice e))
  (h:WO P H ext mt ops l ((d,.d (.int .i64 (li.length:Int)))::R) B fun r q ts=>K r q (⟨[id],[]⟩::ts)):WO P H ext mt ops (o::l) R B K:=by
 refine WO.step (u:=[]) (rd:=[id]) (c:=true) hw E (fun n=>?_) rfl h
 have k:tK (A R B) c.args.toList=some [.ref id ver]:=by simp only [C,tK,G]
 simp only [rN,ho,hc,k,j]
 show yW P t _ _=_
 simp [yW,F,M.bind,M.get,D,sQ,M.pure]
theorem WO.tF{α:Type}{g:α->PD}{li:List α}{t e:TypeId}{x i:Operand}{k:IntKind}{n:Int}{id ver sz:Nat}{y:Unit}(j:inO li n=some y)(hw:og ops (A R B) o=some true)(D:o.dst=some d)(ho:o.op= .indexAddr t x i)(G:(A R B).opd x=some (.ref id ver))(hi:(A R B).opd i=some (.d (.int k n)))
  (C:assoc B id=some (.arr ver e (li.map g))) (F:P.underlying t=some (.slice e)) (I:szT P e=some sz)
  (h:WO P H ext mt ops l ((d,.elt id ver n.toNat 0)::R) B fun r q ts=>K r q (⟨[id],[]⟩::ts)):WO P H ext mt ops (o::l) R B K:=by
 have E:0<=n∧n<li.length:=by unfold inO at j;split at j<;>first|assumption|cases j
 refine WO.step (u:=[]) (rd:=[id]) (c:=decide (0<=n∧n<(li.map g).length)) hw D (fun m=>?_) (by simpa using E) h
 simp only [rN,ho,G,hi,tc,F,I,M.bind,M.get,C,and_self,if_true,se,M.rG]
 simp
theorem WO.tg{α:Type}{g:α->PD}{li:List α}{t e:TypeId}{a:Operand}{n:Int}{id ver off:Nat}{y:α}{v:RV}(F:oc li n=some y)(hw:og ops (A R B) o=some true)(E:o.dst=some d)(ho:o.op= .load t a)(C:(A R B).opd a=some (.elt id ver n.toNat off))
  (D:assoc B id=some (.arr ver e (li.map g))) (G:uG P t ((g y).cells.drop off) (assoc B)=some ((v,[]),[],true))
  (h:WO P H ext mt ops l ((d,v)::R) B fun k j ts=>K k j (⟨[id],[]⟩::ts)):WO P H ext mt ops (o::l) R B K:=by
 obtain⟨I,h1,q⟩:=xF F
 refine WO.step (u:=[]) (rd:=[id]) (c:=true) hw E (fun m=>?_) rfl h
 have r:(li.map g)[n.toNat]? =some (g y):=by simp [q]
 simp only [rN,ho,C,uw,M.bind,M.get,D,if_true,r,G]
 simp
theorem WO.vj{α:Type}{g:α->PD}{li r:List α}{t e:TypeId}{a x:Operand}{n:Int}{id ver sz:Nat}{y:α}{p:PD}(N:tO li n y=some r)(C:∀x,(g x).cells.length=sz)(q:∀x,(g x).put 0 p.cells=g y)(hw:og ops (A R B) o=some true)(L:o.dst=none)(ho:o.op= .store t a x)(I:(A R B).opd a=some (.elt id ver n.toNat 0))(O:(A R B).opd x=some (.d p))
  (J:assoc B id=some (.arr ver e (li.map g))) (T:szT P t=some sz) (hs:(RV.d p).sized=true) (k:p.cells.length=sz)
  (h:WO P H ext mt ops l R ((id,.arr ver e (r.map g))::B) fun F E ts=>K F E (⟨[id],[id]⟩::ts)):WO P H ext mt ops (o::l) R B K:=by
 obtain⟨h1,rfl⟩:=DE N
 have j:n.toNat<li.length:=by omega
 have G:(li.map g)[n.toNat]? =some (g li[n.toNat]):=by simp [j]
 rw [F5, <-q li[n.toNat]]at h
 refine WO.zH (v:= .undef) (u:=[(id,.arr ver e ((li.map g).set n.toNat ((g li[n.toNat]).put 0 p.cells)))]) (rd:=[id]) (c:=(RV.d p).sized&&decide (p.cells.length=sz∧0+sz<=(g li[n.toNat]).cells.length)) hw L (fun m=>?_) ?_ h
 ·have D:uL (.d p)=M.pure (p,[]):=rfl
  simp only [rN,ho,I,O,vL,T,M.bind,M.get,J,if_true,D,M.pure,G,M.rG]
  simp [M.rG]
 ·simp [hs,k,C]
end
end Go.Dw
attribute [irreducible] Go.Dw.tI Go.Dw.w5 Go.Dw.yF Go.Dw.shrO
namespace Go.Dw
def neO{α:Type}(l:List α):Option Unit:=if l.isEmpty=true then none else some ()
def vB(n:Nat)(lo hi:Int):Option Unit:=if 0<=lo∧lo<=hi∧hi<=n then some ()else none
def inV(len lo hi:Nat)(n:Int):Option Unit:=if 0<=n∧n<(hi:Int)-lo∧hi<=len then some ()else none
def lenV(len lo hi:Nat):Option Int:=if lo<=hi∧hi<=len then some ((hi:Int)-lo)else none
def zI(len lo hi:Nat):Option Unit:=if lo<=hi∧hi<=len then some ()else none
def zB{α:Type}(li:List α)(lo hi:Nat):Option (List α):=if lo<=hi∧hi<=li.length then some ((li.drop lo).take (hi-lo))else none
def yu{α:Type}(li:List α)(off m:Nat)(g:List α):List α:=li.take off++g.take (Nat.min g.length m)++li.drop (off+Nat.min g.length m)
def vG{α:Type}(li:List α)(off m:Nat)(z:α):List α:=li.take off++B2 m z++li.drop (off+m)
section
variable {P:Program}{H:Hints}{ext:FuncId->Option rO}{mt:Hf}{ops:Array Oper}{l:List Oper}{R:List (Nat×RV)}{B:List (Nat×Box)}{K:List (Nat×RV)->List (Nat×Box)->List Tr->Prop}{o:Oper}{d:Nat}
theorem neO_some{α:Type}{l:List α}{y:Unit}(h:neO l=some y):l.isEmpty=false:=by
 unfold neO at h
 split at h
 ·cases h
 ·simpa using ‹¬l.isEmpty=true›
theorem WO.nilE{α:Type}{g:α->PD}{li:List α}{t t' e:TypeId}{x y:Operand}{u:Unit}(r:neO li=some u)(hw:og ops (A R B) o=some true)(q:o.dst=some d)(ho:o.op= .binOp .eql t x y t')(D:(A R B).opd x=some (.d (.lst (li.map g))))(E:(A R B).opd y=some .rm)
  (C:P.underlying t=some (.slice e)) (h:WO P H ext mt ops l ((d,.d (.bool false))::R) B fun k j ts=>K k j (⟨[],[]⟩::ts)):WO P H ext mt ops (o::l) R B K:=by
 refine WO.step (u:=[]) (rd:=[]) (c:= !(li.map g).isEmpty) hw q (fun m=>?_) (by simpa using neO_some r) h
 simp only [rN,ho,D,E,Aa,xV,yo,eqOp,C]
 rfl
theorem WO.subR{α:Type}{g:α->PD}{li:List α}{t e:TypeId}{x:Operand}{lo hi:Option Operand}{E D:Option RV}{a b:Int}{id ver sz:Nat}{y:Unit}(k:vB li.length a b=some y)(q:mt.lit (o.dst.getD 0)=false)(hw:og ops (A R B) o=some true)(L:o.dst=some d)(ho:o.op= .slice t x lo hi none)(T:(A R B).opd x=some (.ref id ver))
  (J:assoc B id=some (.arr ver e (li.map g))) (O:P.underlying t=some (.slice e)) (U:szT P e=some (sz+1)) (hl:rV (A R B) lo=some E) (N:rV (A R B) hi=some D) (I:bnd E 0=some a) (j:bnd D (li.length:Int)=some b)
  (h:WO P H ext mt ops l ((d,.view id ver (0+a.toNat) (0+b.toNat))::R) B fun G F ts=>K G F (⟨[id,id],[]⟩::ts)):WO P H ext mt ops (o::l) R B K:=by
 have hc:0<=a∧a<=b∧b<=li.length:=by unfold vB at k;split at k<;>first|assumption|cases k
 have C:(((li.map g).length:Nat):Int)-((0:Nat):Int)=(li.length:Int):=by simp
 refine WO.step (u:=[]) (rd:=[id,id]) (c:=decide (0<=(li.map g).length∧(li.map g).length<=(li.map g).length∧0<=a∧a<=b∧b<=(((li.map g).length:Nat):Int)-((0:Nat):Int))) hw L (fun m=>?_) (by rw [C];simpa using hc) h
 have r:rV (A R B) none=some none:=rfl
 simp only [rN,ho,T,hl,N,r,q,EL,if_false,tC,O,M.bind,M.get,J,sliceB,I,C,j,U,and_self,if_true,se,M.rG]
 simp
theorem WO.lenVw{α:Type}{g:α->PD}{li:List α}{t e:TypeId}{x:Operand}{c:Call}{id ver lo hi:Nat}{n:Int}(j:lenV li.length lo hi=some n)(hw:og ops (A R B) o=some true)(G:o.dst=some d)(ho:o.op= .call c)
  (hc:c.callee= .builtin .len) (E:c.args.toList=[x]) (k:c.argTypes= #[t]) (J:(A R B).opd x=some (.view id ver lo hi)) (F:assoc B id=some (.arr ver e (li.map g))) (I:P.underlying t=some (.slice e))
  (h:WO P H ext mt ops l ((d,.d (.int .i64 n))::R) B fun D C ts=>K D C (⟨[id],[]⟩::ts)):WO P H ext mt ops (o::l) R B K:=by
 unfold lenV at j
 split at j
 rotate_left
 ·cases j
 rename_i q
 cases j
 refine WO.step (u:=[]) (rd:=[id]) (c:=decide (lo<=hi∧hi<=(li.map g).length)) hw G (fun n=>?_) (by simpa using q) h
 have r:tK (A R B) c.args.toList=some [.view id ver lo hi]:=by simp only [E,tK,J]
 simp only [rN,ho,hc,r,k]
 show yW P t _ _=_
 simp [yW,I,M.bind,M.get,F,se,M.rG]
theorem WO.eltV{α:Type}{g:α->PD}{li:List α}{t e:TypeId}{x i:Operand}{k:IntKind}{n:Int}{id ver lo hi sz:Nat}{y:Unit}(j:inV li.length lo hi n=some y)(hw:og ops (A R B) o=some true)(E:o.dst=some d)(ho:o.op= .indexAddr t x i)(I:(A R B).opd x=some (.view id ver lo hi))(q:(A R B).opd i=some (.d (.int k n)))
  (D:assoc B id=some (.arr ver e (li.map g))) (G:P.underlying t=some (.slice e)) (J:szT P e=some sz)
  (h:WO P H ext mt ops l ((d,.elt id ver (lo+n.toNat) 0)::R) B fun C r ts=>K C r (⟨[id],[]⟩::ts)):WO P H ext mt ops (o::l) R B K:=by
 have F:0<=n∧n<(hi:Int)-lo∧hi<=li.length:=by unfold inV at j;split at j<;>first|assumption|cases j
 refine WO.step (u:=[]) (rd:=[id]) (c:=decide (0<=n∧n<(hi:Int)-lo∧hi<=(li.map g).length)) hw E (fun m=>?_) (by simpa using F) h
 simp only [rN,ho,I,q,tc,G,J,M.bind,M.get,D,and_self,if_true,se,M.rG]
 simp
theorem B5{α:Type}{g:α->PD}{li:List α}{e:TypeId}{id ver lo hi:Nat}{y:Unit}(j:zI li.length lo hi=some y)(k:assoc B id=some (.arr ver e (li.map g))):yw (.view id ver lo hi) (assoc B)=some ((id,ver,e,li.map g,lo,hi-lo),[id],true):=by
 have hc:lo<=hi∧hi<=li.length:=by unfold zI at j;split at j<;>first|assumption|cases j
 simp [yw,M.bind,M.get,k,M.rG,hc]
theorem src_view{α:Type}{g:α->PD}{li k:List α}{e:TypeId}{id ver lo hi:Nat}(j:zB li lo hi=some k)(q:assoc B id=some (.arr ver e (li.map g))):sq (.view id ver lo hi) (assoc B)=some (k.map g,[id],true):=by
 unfold zB at j
 split at j
 ·rename_i hc
  cases j
  simp [sq,M.bind,M.get,q,M.rG,hc,F6,F3]
 ·cases j
theorem copyD_of{α:Type}{g:α->PD}{li q:List α}{t e:TypeId}{id ver off m sz:Nat}{u C:RV}{j k:List Nat}(D:yw u (assoc B)=some ((id,ver,e,li.map g,off,m),j,true))(E:sq C (assoc B)=some (q.map g,k,true))
  (G:P.underlying t=some (.slice e)) (I:szT P e=some (sz+1)) (r:∀x,(g x).cells.length=sz+1):
  xO P t u C (assoc B)=some ((.d (.int .i64 (Nat.min q.length m:Nat)),[(id,.arr ver e ((yu li off m q).map g))]),j++(k++[]),true):=by
 have he:sD P t=some e:=by simp [sD,G]
 have F:((q.map g).all fun c=>c.cells.length==sz+1)=true:=by simp [r]
 simp only [xO,he,I,M.bind,D,E,M.rG,F,decide_true,F7,Ey,yu,F2,F6,F3]
theorem WO.copyG{α:Type}{g:α->PD}{li q:List α}{t t2 e:TypeId}{x y:Operand}{c:Call}{id ver off m sz:Nat}{E F:RV}{j k:List Nat}(hw:og ops (A R B) o=some true)(O:o.dst=some d)(ho:o.op= .call c)
  (hc:c.callee= .builtin .copy) (N:c.args.toList=[x,y]) (r:c.argTypes= #[t,t2]) (U:(A R B).opd x=some E) (W:(A R B).opd y=some F)
  (J:yw E (assoc B)=some ((id,ver,e,li.map g,off,m),j,true)) (L:sq F (assoc B)=some (q.map g,k,true))
  (T:P.underlying t=some (.slice e)) (X:szT P e=some (sz+1)) (D:∀x,(g x).cells.length=sz+1)
  (h:WO P H ext mt ops l ((d,.d (.int .i64 (Nat.min q.length m:Nat)))::R) ((id,.arr ver e ((yu li off m q).map g))::B) fun I G ts=>K I G (⟨j++(k++[]),[id]⟩::ts)):WO P H ext mt ops (o::l) R B K:=by
 refine WO.step (u:=[(id,.arr ver e ((yu li off m q).map g))]) (rd:=j++(k++[])) (c:=true) hw O (fun n=>?_) rfl h
 have C:tK (A R B) c.args.toList=some [E,F]:=by simp only [N,tK,U,W]
 simp only [rN,ho,hc,C,r]
 exact copyD_of J L T X D
theorem Dq{α:Type}{g:α->PD}{li:List α}{z:α}{t e:TypeId}{id ver off m sz:Nat}{q:RV}{j:List Nat}(u:yw q (assoc B)=some ((id,ver,e,li.map g,off,m),j,true))
  (C:P.underlying t=some (.slice e)) (D:szT P e=some (sz+1)) (r:(sr P e).bind tq=some (g z)) (k:(g z).cells.length=sz+1):
  vY P t q (assoc B)=some ((.tup [],[(id,.arr ver e ((vG li off m z).map g))]),j++[],true):=by
 have he:sD P t=some e:=by simp [sD,C]
 simp only [vY,he,D,r,M.bind,u,M.rG,k,decide_true,beq_self_eq_true,F7,vG,F2,F6,F3,F4]
theorem WO.clearN{α:Type}{g:α->PD}{li:List α}{z:α}{t e:TypeId}{x:Operand}{c:Call}{id ver off m sz:Nat}{C:RV}{j:List Nat}(hw:og ops (A R B) o=some true)(J:o.dst=none)(ho:o.op= .call c)
  (hc:c.callee= .builtin .clear) (I:c.args.toList=[x]) (k:c.argTypes= #[t]) (N:(A R B).opd x=some C)
  (G:yw C (assoc B)=some ((id,ver,e,li.map g,off,m),j,true))
  (L:P.underlying t=some (.slice e)) (O:szT P e=some (sz+1)) (F:(sr P e).bind tq=some (g z)) (r:(g z).cells.length=sz+1)
  (h:WO P H ext mt ops l R ((id,.arr ver e ((vG li off m z).map g))::B) fun E D ts=>K E D (⟨j++[],[id]⟩::ts)):WO P H ext mt ops (o::l) R B K:=by
 refine WO.zH (v:= .tup []) (u:=[(id,.arr ver e ((vG li off m z).map g))]) (rd:=j++[]) (c:=true) hw J (fun n=>?_) rfl h
 have q:tK (A R B) c.args.toList=some [C]:=by simp only [I,tK,N]
 simp only [rN,ho,hc,q,k]
 exact Dq G L O F r
end
end Go.Dw
namespace Go.Dw
section
variable {P:Program}{H:Hints}{ext:FuncId->Option rO}{f:FuncId}{nb:Nat}{R:List (Nat×RV)}{B:List (Nat×Box)}{Q:Ex->List (Nat×RV)->List (Nat×Box)->Prop}
theorem WL.uQ{σ ω:Type}{body:σ->Option (gB σ ω)}{b:Code}{s0:σ}{o:ω}(h:cI body s0=some o)(I:σ->List (Nat×RV)->List (Nat×Box)->Prop)(r:I s0 R B)
  (g:∀s R B x,I s R B->body s=some x->WC P H ext f nb b R B fun e k j=>match x with| .next s'=>e= .normal∧I s' k j| .stop q=>e≠ .normal∧(q=o->Q e k j)):WL P H ext f nb b R B Q:=
 WL.rU h I (fun q e k j=>q=o->Q e k j) r g (fun _ _ _ _ u=>u rfl)
end
end Go.Dw
namespace Go.Dw
def xL{α:Type}(l:List α)(n:Int)(f:α->α):Option (List α):=
 if 0<=n then(match l[n.toNat]? with|some x=>some (l.set n.toNat (f x))|none=>none)else none
theorem DB{α:Type}{l r:List α}{n:Int}{f:α->α}(h:xL l n f=some r):0<=n∧∃k:n.toNat<l.length,r=l.set n.toNat (f l[n.toNat]):=by
 unfold xL at h
 split at h
 ·rename_i g
  split at h
  ·rename_i x j
   cases h
   obtain⟨h1,rfl⟩:=List.getElem?_eq_some_iff.1 j
   exact⟨g,h1,rfl⟩
  ·cases h
 ·cases h
section
variable {P:Program}{H:Hints}{ext:FuncId->Option rO}{mt:Hf}{ops:Array Oper}{l:List Oper}{R:List (Nat×RV)}{B:List (Nat×Box)}{K:List (Nat×RV)->List (Nat×Box)->List Tr->Prop}{o:Oper}
theorem WO.storeF{α:Type}{g:α->PD}{f:α->α}{li r:List α}{t e:TypeId}{a x:Operand}{n:Int}{id ver off sz:Nat}{v:RV}{p:PD}{u:Ups}{rd:List Nat}(O:xL li n f=some r)(D:∀x,(g x).put off p.cells=g (f x))
  (j:∀x,off+sz<=(g x).cells.length) (hw:og ops (A R B) o=some true) (N:o.dst=none) (ho:o.op= .store t a x) (J:(A R B).opd a=some (.elt id ver n.toNat off)) (T:(A R B).opd x=some v)
  (L:assoc B id=some (.arr ver e (li.map g))) (U:szT P t=some sz) (hs:v.sized=true) (E:uL v (assoc B)=some ((p,u),rd,true)) (q:(u.map (·.1)).contains id=false) (C:p.cells.length=sz)
  (h:WO P H ext mt ops l R (xN (u++[(id,Box.arr ver e (r.map g))]) B) fun G F ts=>K G F (⟨[id]++rd,(u++[(id,Box.arr ver e (r.map g))]).map (·.1)⟩::ts)):WO P H ext mt ops (o::l) R B K:=by
 obtain⟨h1,k,rfl⟩:=DB O
 have I:(li.map g)[n.toNat]? =some (g li[n.toNat]):=by simp [k]
 rw [F5, <-D li[n.toNat]]at h
 refine WO.zH (v:= .undef) (u:=u++[(id,.arr ver e ((li.map g).set n.toNat ((g li[n.toNat]).put off p.cells)))]) (rd:=[id]++rd) (c:=v.sized&&decide (p.cells.length=sz∧off+sz<=(g li[n.toNat]).cells.length)) hw N (fun m=>?_) ?_ h
 ·simp only [rN,ho,J,T,vL,U,M.bind,M.get,L,if_true,E,I,q,M.rG]
  simp [M.rG]
 ·simp [hs,C,j]
theorem WO.appRG{I:RV}{rd:List Nat}{α:Type}{g:α->PD}{li m r:List α}{t e:TypeId}{x y:Operand}{c:Call}{id ver sz by_ d:Nat}{z:Value}(U:rR li m (by_+1)=some r)(D:∀x,(g x).cells.length=sz+1)(hw:og ops (A R B) o=some true)(T:o.dst=some d)(ho:o.op= .call c)
  (hc:c.callee= .builtin .append) (N:c.args.toList=[x,y]) (j:c.argTypes= #[t,t]) (X:(A R B).opd x=some (.ref id ver)) (Y:(A R B).opd y=some I) (E:sq I (assoc B)=some (m.map g,rd,true))
  (O:assoc B id=some (.arr ver e (li.map g))) (W:sD P t=some e) (hz:szT P e=some (sz+1)) (k:sP P e=some (by_+1)) (G:sr P e=some z) (F:z.cells.size=sz+1)
  (h:WO P H ext mt ops l ((d,.ref id (ver+1))::R) ((id,.arr (ver+1) e (r.map g))::B) fun L J ts=>K L J (⟨rd++[id],[id]⟩::ts)):WO P H ext mt ops (o::l) R B K:=by
 obtain⟨h1,rfl⟩:=wh U
 rw [F2]at h
 refine WO.step (u:=[(id,.arr (ver+1) e (li.map g++m.map g))]) (rd:=rd++[id]) (c:=decide (((li.map g).length+(m.map g).length)*(by_+1)<=140737488355328)&&(m.map g).all (fun e=>e.cells.length==sz+1)) hw T (fun n=>?_) ?_ h
 ·have C:tK (A R B) c.args.toList=some [.ref id ver,I]:=by simp only [N,tK,X,Y]
  simp only [rN,ho,hc,C,j]
  have q:∀(m m':M (RV×Ups)),(if(#[t,t]:Array TypeId).size=2 then m else m')=m:=fun _ _=>if_pos rfl
  rw [q,if_pos (show(#[t,t]:Array TypeId).getD 0 0=(#[t,t]:Array TypeId).getD 1 0 from rfl)]
  show te P _ t t _ _ _=_
  simp only [te,W,hz,k,G,F,and_self,if_true,M.bind,E,M.pure,M.get,O,M.rG]
  simp
 ·simp only [EE,decide_eq_true_eq]
  exact⟨by simpa using h1,by simp [D]⟩
theorem WO.appNG{I:RV}{rd:List Nat}{α:Type}{g:α->PD}{m r:List α}{t e:TypeId}{x y:Operand}{c:Call}{sz by_ d:Nat}{z:Value}(W:rR [] m (by_+1)=some r)(D:∀x,(g x).cells.length=sz+1)(hw:og ops (A R B) o=some true)(J:o.dst=some d)(ho:o.op= .call c)
  (hc:c.callee= .builtin .append) (T:c.args.toList=[x,y]) (j:c.argTypes= #[t,t]) (Y:(A R B).opd x=some .rm) (hy:(A R B).opd y=some I) (E:sq I (assoc B)=some (m.map g,rd,true))
  (U:assoc B (d*16)=none) (X:sD P t=some e) (hz:szT P e=some (sz+1)) (k:sP P e=some (by_+1)) (G:sr P e=some z) (F:z.cells.size=sz+1)
  (h:WO P H ext mt ops l ((d,.ref (d*16) 0)::R) ((d*16,.arr 0 e (r.map g))::B) fun O N ts=>K O N (⟨rd++[d*16],[d*16]⟩::ts)):WO P H ext mt ops (o::l) R B K:=by
 obtain⟨h1,L⟩:=wh W
 rw [D8]at L
 subst L
 refine WO.step (u:=[(d*16,.arr 0 e (r.map g))]) (rd:=rd++[d*16]) (c:=decide ((r.map g).length*(by_+1)<=140737488355328)&&(r.map g).all (fun e=>e.cells.length==sz+1)) hw J (fun n=>?_) ?_ h
 ·have C:tK (A R B) c.args.toList=some [.rm,I]:=by simp only [T,tK,Y,hy]
  simp only [rN,ho,hc,C,j,J,F9]
  have q:∀(m m':M (RV×Ups)),(if(#[t,t]:Array TypeId).size=2 then m else m')=m:=fun _ _=>if_pos rfl
  rw [q,if_pos (show(#[t,t]:Array TypeId).getD 0 0=(#[t,t]:Array TypeId).getD 1 0 from rfl)]
  show te P _ t t _ _ _=_
  simp only [te,X,hz,k,G,F,and_self,if_true,M.bind,E,M.pure,M.si,U,M.rG]
  simp
 ·simp only [EE,decide_eq_true_eq]
  exact⟨by simpa using h1,by simp [D]⟩
theorem WO.resl{α:Type}{g:α->PD}{li:List α}{t e:TypeId}{x:Operand}{lo hi:Option Operand}{k:IntKind}{b:Int}{id ver sz d:Nat}{y:Unit}(j:vB li.length 0 b=some y)(q:mt.lit (o.dst.getD 0)=true)(hw:og ops (A R B) o=some true)(L:o.dst=some d)(ho:o.op= .slice t x lo hi none)
  (T:(A R B).opd x=some (.ref id ver)) (J:assoc B id=some (.arr ver e (li.map g))) (O:P.underlying t=some (.slice e)) (U:szT P e=some (sz+1)) {F E:Option RV} (hl:rV (A R B) lo=some F) (N:rV (A R B) hi=some E) (D:F=none) (C:E=some (.d (.int k b)))
  (h:WO P H ext mt ops l ((d,.ref id (ver+1))::R) ((id,.arr (ver+1) e ((li.take b.toNat).map g))::B) fun I G ts=>K I G (⟨[id],[id]⟩::ts)):WO P H ext mt ops (o::l) R B K:=by
 subst D C
 have hc:0<=b∧b<=li.length:=by unfold vB at j;split at j<;>first|(rename_i h;exact⟨h.2.1,h.2.2⟩)|cases j
 rw [F6]at h
 refine WO.step (v:= .ref id (ver+1)) (u:=[(id,.arr (ver+1) e ((li.map g).take b.toNat))]) (rd:=[id]) (c:=decide (0<=b∧b<=(li.map g).length)) hw L (fun m=>?_) (by simpa using hc) h
 have r:rV (A R B) none=some none:=rfl
 simp only [rN,ho,T,hl,N,r,q,if_true,zF,O,U,M.bind,M.get,J,and_self,M.rG]
 simp
end
end Go.Dw
namespace Go.Dw
def u6{κ β:Type}(eq:κ->κ->Bool)(k:κ)(z:β):List (κ×β)->β
 | []=>z
 |e::r=>if eq k e.1=true then e.2 else u6 eq k z r
def mHas{κ β:Type}(eq:κ->κ->Bool)(k:κ):List (κ×β)->Bool
 | []=>false
 |e::r=>if eq k e.1=true then true else mHas eq k r
def yC{κ β:Type}(eq:κ->κ->Bool)(k:κ)(v:β):List (κ×β)->List (κ×β)
 | []=>[(k,v)]
 |e::r=>if eq k e.1=true then(k,v)::r else e::yC eq k v r
def sg{α:Type}(bytes:Nat)(l:List α):Option (List α):=if l.length*bytes<=140737488355328 then some l else none
def AF{α:Type}(n m:Int)(z:α)(bytes:Nat):Option (List α):=if n<=m∧0<=n∧m.toNat*bytes<=140737488355328∧m.toNat<=140737488355328 then some (B2 n.toNat z)else none
def mkO{α:Type}(n:Int)(z:α)(bytes:Nat):Option (List α):=if 0<=n∧n.toNat*bytes<=140737488355328∧n.toNat<=140737488355328 then some (B2 n.toNat z)else none
section
variable {P:Program}
theorem yd{κ β:Type}{q:κ->PD}{gv:β->PD}{eq:κ->κ->Bool}{F:TypeId}(u:∀a b,AA P F (q a) (q b)=some (eq a b))(k:κ)(z:β):∀(li:List (κ×β))(i:Nat),
  (mHas eq k li=false∧u6 eq k z li=z∧tw P F (q k) (li.map fun e=>(q e.1,gv e.2)) i=some none∧∀v,yC eq k v li=li++[(k,v)])∨
  ∃j x,mHas eq k li=true∧eq k x=true∧tw P F (q k) (li.map fun e=>(q e.1,gv e.2)) i=some (some (i+j,q x,gv (u6 eq k z li)))∧∀v,yC eq k v li=li.set j (k,v)
 | [],i=>.inl ⟨rfl,rfl,rfl,fun _=>rfl⟩
 |(x,v)::r,i=>by
  cases g:eq k x with
  |true=>exact .inr ⟨0,x,by simp [mHas,g],g,by simp [tw,u,g,u6],fun v'=>by simp [yC,g]⟩
  |false=>
   rcases yd u k z r (i+1)with⟨h1,C,D,E⟩|⟨j,y,h1,C,D,E⟩
   ·exact .inl ⟨by simp [mHas,g,h1],by simp [u6,g,C],by simp [tw,u,g];exact D,fun v'=>by simp [yC,g,E]⟩
   ·refine .inr ⟨j+1,y,by simp [mHas,g,h1],C,?_,fun v'=>by simp [yC,g,E]⟩
    simp only [FC,tw,u,g]
    rw [D,show i+1+j=i+(j+1)by omega]
    simp [u6,g]
end
section
variable {P:Program}{H:Hints}{ext:FuncId->Option rO}{mt:Hf}{ops:Array Oper}{l:List Oper}{R:List (Nat×RV)}{B:List (Nat×Box)}{K:List (Nat×RV)->List (Nat×Box)->List Tr->Prop}{o:Oper}{d:Nat}
structure KeyT(P:Program)(kt:TypeId){κ:Type}(gk:κ->PD)(eq:κ->κ->Bool):Prop where
 feq:∀a b,AA P kt (gk a) (gk b)=some (eq a b)
 kind:∀a,uF P kt (gk a)=true
 same:∀a b,eq a b=true->xx (gk a) (gk b)=true
theorem WO.sU{v:RV}{u:Ups}{rd:List Nat}(hw:og ops (A R B) o=some true)(k:o.dst=some d)(he:∀n,rN P mt (sI P H ext n) (A R B) o (assoc B)=some ((v,u),rd,true))
  (h:WO P H ext mt ops l ((d,v)::R) (xN u B) fun j g ts=>K j g (⟨rd,u.map (·.1)⟩::ts)):WO P H ext mt ops (o::l) R B K:=WO.step hw k he rfl h
theorem WO.strU{li:List Int}{src dst e:TypeId}{x:Operand}(hw:og ops (A R B) o=some true)(k:o.dst=some d)(ho:o.op= .convert src dst x)(r:(A R B).opd x=some (.d (.lst (li.map (.int .u8)))))(hs:P.underlying src=some (.slice e))(q:P.underlying dst=some .string)(he:P.underlying e=some (.int .u8))
  (h:WO P H ext mt ops l ((d,.d (.str (Dw.strU li)))::R) B fun j g ts=>K j g (⟨[],[]⟩::ts)):WO P H ext mt ops (o::l) R B K:=by
 refine WO.s0 (rd:=[]) hw k (fun m=>?_) rfl h
 simp only [rN,ho,r,wX,hs,q,he,u8s_map]
 rfl
theorem WO.look{κ β:Type}{g:κ->PD}{gv:β->PD}{eq:κ->κ->Bool}{k:κ}{z:β}{li:List (κ×β)}{t u C:TypeId}{x y:Operand}{id:Nat}(r:KeyT P u g eq)(O:(sr P C).bind tq=some (gv z))(hw:og ops (A R B) o=some true)(N:o.dst=some d)(ho:o.op= .lookup t x y false)(F:(A R B).opd x=some (.ptr id 0))(G:(A R B).opd y=some (.d (g k)))
  (D:assoc B id=some (.map u C (li.map fun e=>(g e.1,gv e.2)))) (E:P.underlying t=some (.map u C))
  (h:WO P H ext mt ops l ((d,.d (gv (u6 eq k z li)))::R) B fun J I ts=>K J I (⟨[id],[]⟩::ts)):WO P H ext mt ops (o::l) R B K:=by
 refine WO.s0 (rd:=[id]) hw N (fun n=>?_) rfl h
 rcases yd (gv:=gv) r.feq k z li 0 with⟨-,L,q, -⟩|⟨j,T, -, -,q, -⟩
 ·simp only [rN,ho,F,G,vr,E,M.bind,M.get,D,true_and,r.kind,if_true,q,O,L,EL,if_false]
  rfl
 ·simp only [rN,ho,F,G,vr,E,M.bind,M.get,D,true_and,r.kind,if_true,q,EL,if_false]
  rfl
theorem WO.mput{κ β:Type}{g:κ->PD}{gv:β->PD}{eq:κ->κ->Bool}{k:κ}{y:β}{li:List (κ×β)}{t r D:TypeId}{x O T:Operand}{id:Nat}{v:RV}{u:Ups}{rd:List Nat}(C:KeyT P r g eq)(hw:og ops (A R B) o=some true)(I:o.dst=none)(ho:o.op= .mapUpdate t x O T)(N:(A R B).opd x=some (.ptr id 0))(hk:(A R B).opd O=some (.d (g k)))(L:(A R B).opd T=some v)
  (G:assoc B id=some (.map r D (li.map fun e=>(g e.1,gv e.2)))) (J:P.underlying t=some (.map r D)) (hp:uL v (assoc B)=some ((gv y,u),rd,true)) (hu:(u.map (·.1)).contains id=false)
  (h:WO P H ext mt ops l R (xN (u++[(id,.map r D ((yC eq k y li).map fun e=>(g e.1,gv e.2)))]) B) fun W U ts=>K W U (⟨id::rd,(u++[(id,Box.map r D ((yC eq k y li).map fun e=>(g e.1,gv e.2)))]).map (·.1)⟩::ts)):WO P H ext mt ops (o::l) R B K:=by
 have q: [id]++(rd++[])=id::rd:=by simp
 rcases yd (gv:=gv) C.feq k y li 0 with⟨-, -,E,F⟩|⟨j,Y, -,X,E,F⟩
 ·refine WO.zH (v:= .undef) (rd:=id::rd) (c:=true) hw I (fun n=>?_) rfl h
  simp only [rN,ho,N,hk,L,vu,J,M.bind,M.get,G,true_and,C.kind,if_true,E,hp,hu,EL,if_false,M.pure,F,q,F8,F2,FC,List.map_nil]
 ·refine WO.zH (v:= .undef) (rd:=id::rd) (c:=xx (g k) (g Y)) hw I (fun n=>?_) (C.same _ _ X) h
  simp only [rN,ho,N,hk,L,vu,J,M.bind,M.get,G,true_and,C.kind,if_true,E,hp,hu,EL,if_false,M.rG,F,q,Bool.true_and,F5,Nat.zero_add]
theorem WO.mkS{α:Type}{g:α->PD}{z:α}{n:Int}{r:List α}{t e:TypeId}{x y:Operand}{k k':IntKind}{sz by_:Nat}(j:mkO n z by_=some r)(D:(g z).cells.length=sz+1)(hw:og ops (A R B) o=some true)(E:o.dst=some d)(ho:o.op= .makeSlice t x y)(L:(A R B).opd x=some (.d (.int k n)))(N:(A R B).opd y=some (.d (.int k' n)))
  (I:assoc B (d*16)=none) (J:sD P t=some e) (C:szT P e=some (sz+1)) (q:sP P e=some by_) (O:(sr P e).bind tq=some (g z))
  (h:WO P H ext mt ops l ((d,.ref (d*16) 0)::R) ((d*16,.arr 0 e (r.map g))::B) fun G F ts=>K G F (⟨[d*16],[d*16]⟩::ts)):WO P H ext mt ops (o::l) R B K:=by
 unfold mkO at j
 split at j
 rotate_left
 ·cases j
 rename_i hc
 cases j
 rw [F4]at h
 refine WO.step (u:=[(d*16,.arr 0 e (B2 n.toNat (g z)))]) (rd:=[d*16]) (c:=decide (n<=n∧0<=n∧n.toNat*by_<=140737488355328∧n.toNat<=140737488355328)&&((g z).cells.length==sz+1)) hw E (fun m=>?_) ?_ h
 ·simp only [rN,ho,L,N,E,F9,tH,J,C,q,O,M.bind,M.si,I,M.rG]
  rfl
 ·simp [hc,D]
theorem WO.mkC{α:Type}{g:α->PD}{z:α}{n m:Int}{r:List α}{t e:TypeId}{x y:Operand}{k k':IntKind}{sz by_:Nat}(j:AF n m z by_=some r)(D:(g z).cells.length=sz+1)(hw:og ops (A R B) o=some true)(E:o.dst=some d)(ho:o.op= .makeSlice t x y)(L:(A R B).opd x=some (.d (.int k n)))(N:(A R B).opd y=some (.d (.int k' m)))
  (I:assoc B (d*16)=none) (J:sD P t=some e) (C:szT P e=some (sz+1)) (q:sP P e=some by_) (O:(sr P e).bind tq=some (g z))
  (h:WO P H ext mt ops l ((d,.ref (d*16) 0)::R) ((d*16,.arr 0 e (r.map g))::B) fun G F ts=>K G F (⟨[d*16],[d*16]⟩::ts)):WO P H ext mt ops (o::l) R B K:=by
 unfold AF at j
 split at j
 rotate_left
 ·cases j
 rename_i hc
 cases j
 rw [F4]at h
 refine WO.step (u:=[(d*16,.arr 0 e (B2 n.toNat (g z)))]) (rd:=[d*16]) (c:=decide (n<=m∧0<=n∧m.toNat*by_<=140737488355328∧m.toNat<=140737488355328)&&((g z).cells.length==sz+1)) hw E (fun m=>?_) ?_ h
 ·simp only [rN,ho,L,N,E,F9,tH,J,C,q,O,M.bind,M.si,I,M.rG]
  rfl
 ·simp [hc,D]
theorem KeyT.int{j:TypeId}{q:IntKind}(h:P.underlying j=some (.int q)):KeyT P j (PD.int q) (fun a b=>a==b):=
 ⟨fun a b=>by simp [AA,vZ,vQ],fun a=>by simp [uF,vI,h],fun a b g=>by simpa [xx,wP]using g⟩
theorem KeyT.str{j:TypeId}(h:P.underlying j=some .string):KeyT P j PD.str (fun a b=>a==b):=
 ⟨fun a b=>by simp [AA,vZ,vQ],fun a=>by simp [uF,vI,h],fun a b g=>by simpa [xx,wP]using g⟩
end
section
variable {P:Program}{H:Hints}{ext:FuncId->Option rO}{mt:Hf}{ops:Array Oper}{l:List Oper}{R:List (Nat×RV)}{B:List (Nat×Box)}{K:List (Nat×RV)->List (Nat×Box)->List Tr->Prop}{o:Oper}
end
section
variable {P:Program}{H:Hints}{ext:FuncId->Option rO}{mt:Hf}{ops:Array Oper}{l:List Oper}{R:List (Nat×RV)}{B:List (Nat×Box)}{K:List (Nat×RV)->List (Nat×Box)->List Tr->Prop}{o:Oper}{d:Nat}
end
end Go.Dw
