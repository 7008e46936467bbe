
import Derived.Test.YthadlbjoiidkjaaGreatDoorDwWp

namespace Go.Dw
abbrev EvP(P:Program)(H:Hints)(ext:FuncId->Option pT)(f:FuncId)(args:List RV)(bs:List Box)(p:RV×List Box):Prop:=Ev P H ext f args bs p.1 p.2
def pH{α:Type}(l:List α)(n:Int):Option α:=if 0<=n then l[n.toNat]? else none
def uY(s:List UInt8)(n:Int):Option Int:=if 0<=n∧n<s.length then some ((s.getD n.toNat 0).toNat:Nat)else none
def si{α:Type}(l:List α)(lo hi:Int):Option (List α):=if 0<=lo∧lo<=hi∧hi<=l.length then some ((l.drop lo.toNat).take (hi.toNat-lo.toNat))else none
def qq{α:Type}(l m:List α)(bytes:Nat):Option (List α):=if(l.length+m.length)*bytes<=140737488355328 then some (l++m)else none
def xZ(a b:List UInt8):Option (List UInt8):=if((a.length+b.length:Nat):Int)<=9223372036854775807 then some (a++b)else none
def shlO(k:IntKind)(x y:Int):Option Int:=if y<0 then none else some (xJ k x y)
def shrO(k:IntKind)(x y:Int):Option Int:=if y<0 then none else some (pY k x y)
def quoO(k:IntKind)(x y:Int):Option Int:=if y=0 then none else some (k.wrap (x.tdiv y))
def remO(x y:Int):Option Int:=if y=0 then none else some (x.tmod y)
def xI{α:Type}(l:List α)(n:Int)(y:α):Option (List α):=if 0<=n∧n<l.length then some (l.set n.toNat y)else none
def inO{α:Type}(l:List α)(n:Int):Option Unit:=if 0<=n∧n<l.length then some ()else none
theorem wX{α:Type}{l:List α}{n:Int}{x:α}(h:pH l n=some x):0<=n∧n<l.length∧l[n.toNat]? =some x:=by
 unfold pH at h
 split at h
 ·rename_i h0
  have:=(List.getElem?_eq_some_iff.1 h).1
  exact⟨h0,za,h⟩
 ·cases h
theorem AO{s:List UInt8}{n c:Int}(h:uY s n=some c):(0<=n∧n<s.length)∧c=((s.getD n.toNat 0).toNat:Nat):=by
 unfold uY at h;split at h
 ·cases h;exact⟨by assumption,rfl⟩
 ·cases h
theorem yT{α:Type}{l r:List α}{lo hi:Int}(h:si l lo hi=some r):(0<=lo∧lo<=hi∧hi<=l.length)∧r=(l.drop lo.toNat).take (hi.toNat-lo.toNat):=by
 unfold si at h;split at h
 ·cases h;exact⟨by assumption,rfl⟩
 ·cases h
theorem yQ{α:Type}{l m r:List α}{b:Nat}(h:qq l m b=some r):(l.length+m.length)*b<=140737488355328∧r=l++m:=by
 unfold qq at h;split at h
 ·cases h;exact⟨by assumption,rfl⟩
 ·cases h
theorem By{a b r:List UInt8}(h:xZ a b=some r):((a.length+b.length:Nat):Int)<=9223372036854775807∧r=a++b:=by
 unfold xZ at h;split at h
 ·cases h;exact⟨by assumption,rfl⟩
 ·cases h
theorem ze{α:Type}{l r:List α}{n:Int}{y:α}(h:xI l n y=some r):(0<=n∧n<l.length)∧r=l.set n.toNat y:=by
 unfold xI at h;split at h
 ·cases h;exact⟨by assumption,rfl⟩
 ·cases h
theorem vq{α β:Type}{m:Option α}{k:α->Option β}{r:β}(h:m.bind k=some r){G:Prop}(hk:∀x,m=some x->k x=some r->G):G:=by
 cases m with
 |none=>cases h
 |some x=>exact hk x rfl h
theorem pP{β:Type}{t:Bool}{a b:Option β}{r:β}(h:(if t=true then a else b)=some r){G:Prop}(h1:t=true->a=some r->G)(h2:t=false->b=some r->G):G:=by
 cases t with
 |true=>exact h1 rfl h
 |false=>exact h2 rfl h
theorem oM{α:Type}(g:α->PD)(l:List α):RV.d (.int .i64 ((l.map g).length:Nat))=RV.d (.int .i64 (l.length:Nat)):=by rw [List.length_map]
inductive oJ(σ ω:Type)where
 |next (s:σ)
 |stop (o:ω)
def qb{σ ω:Type}(body:σ->Option (oJ σ ω)):Nat->σ->Option ω
 |0,_=>none
 |n+1,s=>
  match body s with
  |some (.next s')=>qb body n s'
  |some (.stop o)=>some o
  |none=>none
theorem vZ{σ ω:Type}{body:σ->Option (oJ σ ω)}:∀{n m:Nat}{s:σ}{o:ω},qb body n s=some o->n<=m->qb body m s=some o
 |0,_,_,_,h,_=>by cases h
 |n+1,0,_,_,_,hm=>by omega
 |n+1,m+1,s,o,h,hm=>by
  simp only [qb]at h⊢
  rcases hb:body s with _|(s'|o')
  ·simp [hb]at h
  ·simp only [hb]at h⊢;exact vZ h za
  ·simp only [hb]at h⊢;exact h
open Classical in
noncomputable def kG {σ ω:Type} (body:σ->Option (oJ σ ω)) (s:σ):Option ω:=if h:∃n o,qb body n s=some o then some h.choose_spec.choose else none
theorem qO{σ ω:Type}{body:σ->Option (oJ σ ω)}{n:Nat}{s:σ}{o:ω}(h:qb body n s=some o):kG body s=some o:=by
 have he:∃n o,qb body n s=some o:=⟨n,o,h⟩
 unfold kG
 rw [dif_pos he]
 have h2:=he.choose_spec.choose_spec
 have h3:=vZ h (Nat.le_max_left n he.choose)
 have h4:=vZ h2 (Nat.le_max_right n he.choose)
 rw [h3]at h4
 exact h4.symm
theorem sr{σ ω:Type}{body:σ->Option (oJ σ ω)}{s:σ}{o:ω}(h:kG body s=some o):∃n,qb body n s=some o:=by
 unfold kG at h
 split at h
 ·rename_i he
  cases h
  exact⟨_,he.choose_spec.choose_spec⟩
 ·cases h
theorem rq{σ ω:Type}{body:σ->Option (oJ σ ω)}{s s':σ}(h:body s=some (.next s')):kG body s=kG body s':=by
 cases h1:kG body s' with
 |some o=>
  obtain⟨n,hn⟩:=sr h1
  exact qO (n:=n+1) (by simp only [qb,h];exact hn)
 |none=>
  cases h2:kG body s with
  |none=>rfl
  |some o=>
   obtain⟨n,hn⟩:=sr h2
   cases n with
   |zero=>cases hn
   |succ n=>
    simp only [qb,h]at hn
    rw [qO hn]at h1
    cases h1
theorem qx{σ ω:Type}{body:σ->Option (oJ σ ω)}{s:σ}{o:ω}(h:body s=some (.stop o)):kG body s=some o:=
 qO (n:=1) (by simp only [qb,h])
open Classical in
section
variable {P:Program}{H:Hints}{ext:FuncId->Option pT}{f:FuncId}{nb:Nat}{R:List (Nat×RV)}{B:List (Nat×Box)}{Q:Ex->List (Nat×RV)->List (Nat×Box)->Prop}
theorem WL.pJ{σ ω:Type}{body:σ->Option (oJ σ ω)}{b:Code}{s0:σ}{o:ω}(h:kG body s0=some o)(I:σ->List (Nat×RV)->List (Nat×Box)->Prop)(Qo:ω->Ex->List (Nat×RV)->List (Nat×Box)->Prop)(h0:I s0 R B)
  (hstep:∀s R B x,I s R B->body s=some x->WC P H ext f nb b R B fun e R' B'=>match x with| .next s'=>e= .normal∧I s' R' B'| .stop o'=>e≠ .normal∧Qo o' e R' B')
  (hQ:∀e R' B',e≠ .normal->Qo o e R' B'->Q e R' B'):WL P H ext f nb b R B Q:=by
 obtain⟨n,hn⟩:=sr h
 clear h
 induction n generalizing s0 R B with
 |zero=>cases hn
 |succ n ih=>
  simp only [qb]at hn
  rcases hb:body s0 with _|(s'|o')
  ·simp [hb]at hn
  ·simp only [hb]at hn
   obtain⟨e,R',B',hN,he,hI⟩:=hstep s0 R B _ h0 hb
   subst he
   exact WL.round ⟨.normal,R',B',hN,ih hI hn⟩
  ·simp only [hb,Option.some.injEq]at hn
   subst hn
   obtain⟨e,R',B',hN,he,hq⟩:=hstep s0 R B _ h0 hb
   refine WL.round ⟨e,R',B',hN,?_⟩
   have:=hQ e R' B' he hq
   cases e with
   |normal=>exact(he rfl).elim
   |exit id=>exact this
   |ret=>exact this
theorem WC.join{α:Type}{a b:Code}(I:α->List (Nat×RV)->List (Nat×Box)->Prop)(G:α->Prop)(h1:WC P H ext f nb a R B fun e R' B'=>match e with| .normal=>∃x,I x R' B'∧G x|e=>Q e R' B')
  (h2:∀x R' B',I x R' B'->G x->WC P H ext f nb b R' B' Q):WC P H ext f nb (.seq a b) R B Q:=by
 refine WC.seq ?_
 obtain⟨e,R',B',hN,h⟩:=h1
 refine⟨e,R',B',hN,?_⟩
 cases e with
 |normal=>obtain⟨x,hI,hG⟩:=h;exact h2 x R' B' hI hG
 |exit id=>exact h
 |ret=>exact h
end
section
variable {P:Program}{H:Hints}{ext:FuncId->Option pT}{mt:Hf}{ops:Array Oper}{l:List Oper}{R:List (Nat×RV)}{B:List (Nat×Box)}{K:List (Nat×RV)->List (Nat×Box)->List Tr->Prop}{o:Oper}{d:Nat}
theorem WO.s0{v v':RV}{rd:List Nat}(hw:pL ops (A R B) o=some true)(hd:o.dst=some d)(he:∀n,pX P mt (qw P H ext n) (A R B) o (assoc B)=some ((v,[]),rd,true))(hv:v=v')
  (h:WO P H ext mt ops l ((d,v')::R) B fun R' B' ts=>K R' B' (⟨rd,[]⟩::ts)):WO P H ext mt ops (o::l) R B K:=by
 subst hv
 exact WO.step (u:=[]) hw hd he rfl h
theorem WO.s1{v:RV}{id:Nat}{bx:Box}{rd:List Nat}(hw:pL ops (A R B) o=some true)(hd:o.dst=some d)(he:∀n,pX P mt (qw P H ext n) (A R B) o (assoc B)=some ((v,[(id,bx)]),rd,true))
  (h:WO P H ext mt ops l ((d,v)::R) ((id,bx)::B) fun R' B' ts=>K R' B' (⟨rd,[id]⟩::ts)):WO P H ext mt ops (o::l) R B K:=
 WO.step (u:=[(id,bx)]) hw hd he rfl h
theorem WO.n1{v:RV}{id:Nat}{bx:Box}{rd:List Nat}(hw:pL ops (A R B) o=some true)(hd:o.dst=none)(he:∀n,pX P mt (qw P H ext n) (A R B) o (assoc B)=some ((v,[(id,bx)]),rd,true))
  (h:WO P H ext mt ops l R ((id,bx)::B) fun R' B' ts=>K R' B' (⟨rd,[id]⟩::ts)):WO P H ext mt ops (o::l) R B K:=
 WO.zf (u:=[(id,bx)]) hw hd he rfl h
theorem WO.bin{op:BinOp}{t t':TypeId}{x y:Operand}{vx vy:RV}{p:PD}(he:wm P op t vx vy=some (p,true))(hw:pL ops (A R B) o=some true)(hd:o.dst=some d)(ho:o.op= .binOp op t x y t')(hx:(A R B).opd x=some vx)(hy:(A R B).opd y=some vy)
  (h:WO P H ext mt ops l ((d,.d p)::R) B fun R' B' ts=>K R' B' (⟨[],[]⟩::ts)):WO P H ext mt ops (o::l) R B K:=by
 refine WO.s0 (rd:=[]) hw hd (fun n=>?_) rfl h
 simp only [pX,ho,hx,hy,binX,he]
 rfl
theorem WO.binS{op:BinOp}{t t':TypeId}{x y:Operand}{vx vy:RV}{b b':Bool}(he:wm P op t vx vy=some (.bool b,true))(hb:b=b')(hw:pL ops (A R B) o=some true)(hd:o.dst=some d)(ho:o.op= .binOp op t x y t')(hx:(A R B).opd x=some vx)(hy:(A R B).opd y=some vy)
  (h:WO P H ext mt ops l ((d,.d (.bool b'))::R) B fun R' B' ts=>K R' B' (⟨[],[]⟩::ts)):WO P H ext mt ops (o::l) R B K:=by
 subst hb
 exact WO.bin he hw hd ho hx hy h
theorem WO.split{b:Bool}{rd:List Nat}(hw:pL ops (A R B) o=some true)(hd:o.dst=some d)(he:∀n,pX P mt (qw P H ext n) (A R B) o (assoc B)=some ((.d (.bool b),[]),rd,true))
  (h:WO P H ext mt ops l ((d,.d (.bool b))::R) B fun R' B' ts=>K R' B' (⟨rd,[]⟩::ts)):WO P H ext mt ops (o::l) R B K:=
 WO.step (u:=[]) hw hd he rfl h
theorem WO.elemG{α:Type}{g:α->PD}{li:List α}{t e:TypeId}{x i:Operand}{k:IntKind}{n:Int}{sz:Nat}{y:α}{cs:List PD}(hg:pH li n=some y)(hw:pL ops (A R B) o=some true)(hd:o.dst=some d)(ho:o.op= .indexAddr t x i)(hx:(A R B).opd x=some (.d (.lst (li.map g))))(hi:(A R B).opd i=some (.d (.int k n)))
  (ht:P.underlying t=some (.slice e)) (hz:szT P e=some sz) (hc:(g y).cells=cs) (hcl:cs.length=sz)
  (h:WO P H ext mt ops l ((d,.cptr cs)::R) B fun R' B' ts=>K R' B' (⟨[],[]⟩::ts)):WO P H ext mt ops (o::l) R B K:=by
 subst hc
 obtain⟨h0,h1,h2⟩:=wX hg
 have hgd:(li.map g).getD n.toNat default=g y:=by simp [h2]
 have hn':0<=n∧n<(li.map g).length:=by simpa using⟨h0,h1⟩
 refine WO.step (u:=[]) (rd:=[]) (c:=true) hw hd (fun m=>?_) rfl h
 simp only [pX,ho,hx,hi,qI,ht,hz,hgd,hn',hcl,and_self,decide_true,beq_self_eq_true,Bool.and_true]
 rfl
theorem WO.byteG{t:TypeId}{x i:Operand}{s:List UInt8}{k:IntKind}{n c:Int}(hg:uY s n=some c)(hw:pL ops (A R B) o=some true)(hd:o.dst=some d)(ho:o.op= .index t x i)(hx:(A R B).opd x=some (.d (.str s)))(hi:(A R B).opd i=some (.d (.int k n)))(ht:P.underlying t=some .string)
  (h:WO P H ext mt ops l ((d,.d (.int .u8 c))::R) B fun R' B' ts=>K R' B' (⟨[],[]⟩::ts)):WO P H ext mt ops (o::l) R B K:=by
 obtain⟨h1,rfl⟩:=AO hg
 refine WO.step (u:=[]) (rd:=[]) (c:=decide (0<=n∧n<s.length)) hw hd (fun m=>?_) (by simpa using h1) h
 simp only [pX,ho,hx,hi,u6,vW,ht]
 rfl
theorem WO.cutG{t:TypeId}{x:Operand}{lo hi:Option Operand}{s r:List UInt8}{rl rh:Option RV}{a b:Int}(hg:si s a b=some r)(hmt:mt.lit (o.dst.getD 0)=false)(hw:pL ops (A R B) o=some true)(hd:o.dst=some d)(ho:o.op= .slice t x lo hi none)(hx:(A R B).opd x=some (.d (.str s)))(ht:P.underlying t=some .string)
  (hl:qk (A R B) lo=some rl) (hh:qk (A R B) hi=some rh) (ha:bnd rl 0=some a) (hb:bnd rh s.length=some b)
  (h:WO P H ext mt ops l ((d,.d (.str r))::R) B fun R' B' ts=>K R' B' (⟨[],[]⟩::ts)):WO P H ext mt ops (o::l) R B K:=by
 obtain⟨h1,rfl⟩:=yT hg
 rw [<-sJ s rh a b hb h1]at h
 refine WO.step (u:=[]) (rd:=[]) (c:=decide (0<=a∧a<=b∧b<=s.length)) hw hd (fun m=>?_) (by simpa using h1) h
 have h0:qk (A R B) none=some none:=rfl
 simp only [pX,ho,hx,hl,hh,h0,hmt,Bool.false_eq_true,if_false,qP,ht,ha,hb]
 rfl
theorem WO.cutL{α:Type}{g:α->PD}{t e:TypeId}{x:Operand}{lo hi:Option Operand}{li r:List α}{rl rh:Option RV}{a b:Int}{sz:Nat}(hg:si li a b=some r)(hsz:∀x,(g x).cells.length=sz)(hmt:mt.lit (o.dst.getD 0)=false)(hw:pL ops (A R B) o=some true)(hd:o.dst=some d)(ho:o.op= .slice t x lo hi none)(hx:(A R B).opd x=some (.d (.lst (li.map g))))(ht:P.underlying t=some (.slice e))(hz:szT P e=some sz)
  (hl:qk (A R B) lo=some rl) (hh:qk (A R B) hi=some rh) (ha:bnd rl 0=some a) (hb:bnd rh li.length=some b)
  (h:WO P H ext mt ops l ((d,.d (.lst (r.map g)))::R) B fun R' B' ts=>K R' B' (⟨[],[]⟩::ts)):WO P H ext mt ops (o::l) R B K:=by
 obtain⟨h1,rfl⟩:=yT hg
 have hb':bnd rh ((li.map g).length:Nat)=some b:=by simpa using hb
 have he:(((li.drop a.toNat).take (b.toNat-a.toNat)).map g)=cut (li.map g) a.toNat (hiOf rh b):=by
  rw [sJ (li.map g) rh a b hb' (by simpa using h1)];simp
 rw [he]at h
 refine WO.step (u:=[]) (rd:=[]) (c:=decide (0<=a∧a<=b∧b<=(li.map g).length)&&(li.map g).all (fun e=>e.cells.length==sz)) hw hd (fun m=>?_) ?_ h
 ·have h0:qk (A R B) none=some none:=rfl
  simp only [pX,ho,hx,hl,hh,h0,hmt,Bool.false_eq_true,if_false,qP,ht,ha,hb',hz]
  rfl
 ·simp only [Bool.and_eq_true,decide_eq_true_eq]
  refine⟨by simpa using h1,?_⟩
  simp [hsz]
theorem WO.catG{t t':TypeId}{x y:Operand}{a b r:List UInt8}(hg:xZ a b=some r)(hw:pL ops (A R B) o=some true)(hd:o.dst=some d)(ho:o.op= .binOp .add t x y t')(hx:(A R B).opd x=some (.d (.str a)))(hy:(A R B).opd y=some (.d (.str b)))
  (h:WO P H ext mt ops l ((d,.d (.str r))::R) B fun R' B' ts=>K R' B' (⟨[],[]⟩::ts)):WO P H ext mt ops (o::l) R B K:=by
 obtain⟨h1,rfl⟩:=By hg
 refine WO.step (u:=[]) (rd:=[]) (c:=decide (((a.length+b.length:Nat):Int)<=IntKind.i64.max)) hw hd (fun n=>?_) ?_ h
 ·simp only [pX,ho,hx,hy,binX,wm,xm,zK]
  rfl
 ·have:IntKind.i64.max=9223372036854775807:=by decide
  rw [this]
  exact decide_eq_true h1
theorem WO.quoG{t t':TypeId}{x y:Operand}{k k':IntKind}{a b r:Int}(hg:quoO k a b=some r)(hw:pL ops (A R B) o=some true)(hd:o.dst=some d)(ho:o.op= .binOp .quo t x y t')(hx:(A R B).opd x=some (.d (.int k a)))(hy:(A R B).opd y=some (.d (.int k' b)))(hk:k=k')
  (h:WO P H ext mt ops l ((d,.d (.int k r))::R) B fun R' B' ts=>K R' B' (⟨[],[]⟩::ts)):WO P H ext mt ops (o::l) R B K:=by
 subst hk
 unfold quoO at hg
 split at hg
 ·cases hg
 ·rename_i hb
  cases hg
  refine WO.step (u:=[]) (rd:=[]) (c:=b != 0) hw hd (fun n=>?_) (by simpa using hb) h
  simp only [pX,ho,hx,hy,binX,wm,xm,if_true,w6]
  rfl
theorem WO.shlG{t t':TypeId}{x y:Operand}{k k':IntKind}{a b r:Int}(hg:shlO k a b=some r)(hw:pL ops (A R B) o=some true)(hd:o.dst=some d)(ho:o.op= .binOp .shl t x y t')(hx:(A R B).opd x=some (.d (.int k a)))(hy:(A R B).opd y=some (.d (.int k' b)))
  (h:WO P H ext mt ops l ((d,.d (.int k r))::R) B fun R' B' ts=>K R' B' (⟨[],[]⟩::ts)):WO P H ext mt ops (o::l) R B K:=by
 unfold shlO at hg
 split at hg
 ·cases hg
 ·rename_i hb
  cases hg
  refine WO.step (u:=[]) (rd:=[]) (c:=decide (0<=b)) hw hd (fun n=>?_) (by simpa using hb) h
  simp only [pX,ho,hx,hy,binX,wm,xm]
  rfl
theorem WO.shrG{t t':TypeId}{x y:Operand}{k k':IntKind}{a b r:Int}(hg:shrO k a b=some r)(hw:pL ops (A R B) o=some true)(hd:o.dst=some d)(ho:o.op= .binOp .shr t x y t')(hx:(A R B).opd x=some (.d (.int k a)))(hy:(A R B).opd y=some (.d (.int k' b)))
  (h:WO P H ext mt ops l ((d,.d (.int k r))::R) B fun R' B' ts=>K R' B' (⟨[],[]⟩::ts)):WO P H ext mt ops (o::l) R B K:=by
 unfold shrO at hg
 split at hg
 ·cases hg
 ·rename_i hb
  cases hg
  refine WO.step (u:=[]) (rd:=[]) (c:=decide (0<=b)) hw hd (fun n=>?_) (by simpa using hb) h
  simp only [pX,ho,hx,hy,binX,wm,xm]
  rfl
theorem WO.remG{t t':TypeId}{x y:Operand}{k k':IntKind}{a b r:Int}(hg:remO a b=some r)(hw:pL ops (A R B) o=some true)(hd:o.dst=some d)(ho:o.op= .binOp .rem t x y t')(hx:(A R B).opd x=some (.d (.int k a)))(hy:(A R B).opd y=some (.d (.int k' b)))(hk:k=k')
  (h:WO P H ext mt ops l ((d,.d (.int k r))::R) B fun R' B' ts=>K R' B' (⟨[],[]⟩::ts)):WO P H ext mt ops (o::l) R B K:=by
 subst hk
 unfold remO at hg
 split at hg
 ·cases hg
 ·rename_i hb
  cases hg
  refine WO.step (u:=[]) (rd:=[]) (c:=b != 0) hw hd (fun n=>?_) (by simpa using hb) h
  simp only [pX,ho,hx,hy,binX,wm,xm,if_true,w6]
  rfl
theorem WO.appR{α:Type}{g:α->PD}{li m r:List α}{t e:TypeId}{x y:Operand}{c:Call}{id ver sz by_:Nat}{z:Value}(hg:qq li m (by_+1)=some r)(hsz:∀x,(g x).cells.length=sz+1)(hw:pL ops (A R B) o=some true)(hd:o.dst=some d)(ho:o.op= .call c)
  (hc:c.callee= .builtin .append) (ha:c.args.toList=[x,y]) (hat:c.argTypes= #[t,t]) (hx:(A R B).opd x=some (.ref id ver)) (hy:(A R B).opd y=some (.d (.lst (m.map g))))
  (hb:assoc B id=some (.arr ver e (li.map g))) (ht:rf P t=some e) (hz:szT P e=some (sz+1)) (hby:rZ P e=some (by_+1)) (hzz:qQ P e=some z) (hzs:z.cells.size=sz+1)
  (h:WO P H ext mt ops l ((d,.ref id (ver+1))::R) ((id,.arr (ver+1) e (r.map g))::B) fun R' B' ts=>K R' B' (⟨[id],[id]⟩::ts)):WO P H ext mt ops (o::l) R B K:=by
 obtain⟨h1,rfl⟩:=yQ hg
 rw [List.map_append]at h
 refine WO.step (u:=[(id,.arr (ver+1) e (li.map g++m.map g))]) (rd:=[id]) (c:=decide (((li.map g).length+(m.map g).length)*(by_+1)<=140737488355328)&&(m.map g).all (fun e=>e.cells.length==sz+1)) hw hd (fun n=>?_) ?_ h
 ·have ho2:rV (A R B) c.args.toList=some [.ref id ver,.d (.lst (m.map g))]:=by simp only [ha,rV,hx,hy]
  simp only [pX,ho,hc,ho2,hat]
  have hif:∀(m m':M (RV×Ups)),(if(#[t,t]:Array TypeId).size=2 then m else m')=m:=fun _ _=>if_pos rfl
  rw [hif,if_pos (show(#[t,t]:Array TypeId).getD 0 0=(#[t,t]:Array TypeId).getD 1 0 from rfl)]
  show rz P _ t t _ _ _=_
  simp only [rz,ht,hz,hby,hzz,hzs,and_self,if_true,M.bind,qA,M.pure,M.get,hb,M.pO]
  simp
 ·simp only [Bool.and_eq_true,decide_eq_true_eq]
  exact⟨by simpa using h1,by simp [hsz]⟩
theorem WO.tD{α:Type}{g:α->PD}{li:List α}{t e:TypeId}{x:Operand}{c:Call}{id ver:Nat}(hw:pL ops (A R B) o=some true)(hd:o.dst=some d)(ho:o.op= .call c)
  (hc:c.callee= .builtin .len) (ha:c.args.toList=[x]) (hat:c.argTypes= #[t]) (hx:(A R B).opd x=some (.ref id ver)) (hb:assoc B id=some (.arr ver e (li.map g))) (ht:P.underlying t=some (.slice e))
  (h:WO P H ext mt ops l ((d,.d (.int .i64 (li.length:Int)))::R) B fun R' B' ts=>K R' B' (⟨[id],[]⟩::ts)):WO P H ext mt ops (o::l) R B K:=by
 refine WO.step (u:=[]) (rd:=[id]) (c:=true) hw hd (fun n=>?_) rfl h
 have ho2:rV (A R B) c.args.toList=some [.ref id ver]:=by simp only [ha,rV,hx]
 simp only [pX,ho,hc,ho2,hat]
 show lenD P t _ _=_
 simp [lenD,ht,M.bind,M.get,hb,qu,M.pure]
theorem WO.tz{α:Type}{g:α->PD}{li:List α}{t e:TypeId}{x i:Operand}{k:IntKind}{n:Int}{id ver sz:Nat}{y:Unit}(hg:inO li n=some y)(hw:pL ops (A R B) o=some true)(hd:o.dst=some d)(ho:o.op= .indexAddr t x i)(hx:(A R B).opd x=some (.ref id ver))(hi:(A R B).opd i=some (.d (.int k n)))
  (hb:assoc B id=some (.arr ver e (li.map g))) (ht:P.underlying t=some (.slice e)) (hz:szT P e=some sz)
  (h:WO P H ext mt ops l ((d,.elt id ver n.toNat 0)::R) B fun R' B' ts=>K R' B' (⟨[id],[]⟩::ts)):WO P H ext mt ops (o::l) R B K:=by
 have hn:0<=n∧n<li.length:=by unfold inO at hg;split at hg<;>first|assumption|cases hg
 refine WO.step (u:=[]) (rd:=[id]) (c:=decide (0<=n∧n<(li.map g).length)) hw hd (fun m=>?_) (by simpa using hn) h
 simp only [pX,ho,hx,hi,qI,ht,hz,M.bind,M.get,hb,and_self,if_true,qj,M.pO]
 simp
theorem WO.sn{α:Type}{g:α->PD}{li:List α}{t e:TypeId}{a:Operand}{n:Int}{id ver off:Nat}{y:α}{v:RV}(hg:pH li n=some y)(hw:pL ops (A R B) o=some true)(hd:o.dst=some d)(ho:o.op= .load t a)(ha:(A R B).opd a=some (.elt id ver n.toNat off))
  (hb:assoc B id=some (.arr ver e (li.map g))) (hv:ti P t ((g y).cells.drop off) (assoc B)=some ((v,[]),[],true))
  (h:WO P H ext mt ops l ((d,v)::R) B fun R' B' ts=>K R' B' (⟨[id],[]⟩::ts)):WO P H ext mt ops (o::l) R B K:=by
 obtain⟨h0,h1,h2⟩:=wX hg
 refine WO.step (u:=[]) (rd:=[id]) (c:=true) hw hd (fun m=>?_) rfl h
 have h3:(li.map g)[n.toNat]? =some (g y):=by simp [h2]
 simp only [pX,ho,ha,tp,M.bind,M.get,hb,if_true,h3,hv]
 simp
theorem WO.Bd{α:Type}{g:α->PD}{li r:List α}{t e:TypeId}{a x:Operand}{n:Int}{id ver sz:Nat}{y:α}{p:PD}(hg:xI li n y=some r)(hsz:∀x,(g x).cells.length=sz)(hpt:∀x,(g x).put 0 p.cells=g y)(hw:pL ops (A R B) o=some true)(hd:o.dst=none)(ho:o.op= .store t a x)(ha:(A R B).opd a=some (.elt id ver n.toNat 0))(hx:(A R B).opd x=some (.d p))
  (hb:assoc B id=some (.arr ver e (li.map g))) (hz:szT P t=some sz) (hs:(RV.d p).sized=true) (hpc:p.cells.length=sz)
  (h:WO P H ext mt ops l R ((id,.arr ver e (r.map g))::B) fun R' B' ts=>K R' B' (⟨[id],[id]⟩::ts)):WO P H ext mt ops (o::l) R B K:=by
 obtain⟨h1,rfl⟩:=ze hg
 have hlt:n.toNat<li.length:=by omega
 have h3:(li.map g)[n.toNat]? =some (g li[n.toNat]):=by simp [hlt]
 rw [List.map_set, <-hpt li[n.toNat]]at h
 refine WO.zf (v:= .undef) (u:=[(id,.arr ver e ((li.map g).set n.toNat ((g li[n.toNat]).put 0 p.cells)))]) (rd:=[id]) (c:=(RV.d p).sized&&decide (p.cells.length=sz∧0+sz<=(g li[n.toNat]).cells.length)) hw hd (fun m=>?_) ?_ h
 ·have htp:sD (.d p)=M.pure (p,[]):=rfl
  simp only [pX,ho,ha,hx,tK,hz,M.bind,M.get,hb,if_true,htp,M.pure,h3,M.pO]
  simp [M.pO]
 ·simp [hs,hpc,hsz]
end
end Go.Dw
attribute [irreducible] Go.Dw.quoO Go.Dw.remO Go.Dw.shlO Go.Dw.shrO
namespace Go.Dw
def wN(n:Nat)(lo hi:Int):Option Unit:=if 0<=lo∧lo<=hi∧hi<=n then some ()else none
def yG(len lo hi:Nat):Option Unit:=if lo<=hi∧hi<=len then some ()else none
def y6{α:Type}(li:List α)(lo hi:Nat):Option (List α):=if lo<=hi∧hi<=li.length then some ((li.drop lo).take (hi-lo))else none
def wv{α:Type}(li:List α)(off m:Nat)(ys:List α):List α:=li.take off++ys.take (Nat.min ys.length m)++li.drop (off+Nat.min ys.length m)
def uu{α:Type}(li:List α)(off m:Nat)(z:α):List α:=li.take off++List.replicate m z++li.drop (off+m)
section
variable {P:Program}{H:Hints}{ext:FuncId->Option pT}{mt:Hf}{ops:Array Oper}{l:List Oper}{R:List (Nat×RV)}{B:List (Nat×Box)}{K:List (Nat×RV)->List (Nat×Box)->List Tr->Prop}{o:Oper}{d:Nat}
theorem WO.subR{α:Type}{g:α->PD}{li:List α}{t e:TypeId}{x:Operand}{lo hi:Option Operand}{rl rh:Option RV}{a b:Int}{id ver sz:Nat}{y:Unit}(hg:wN li.length a b=some y)(hmt:mt.lit (o.dst.getD 0)=false)(hw:pL ops (A R B) o=some true)(hd:o.dst=some d)(ho:o.op= .slice t x lo hi none)(hx:(A R B).opd x=some (.ref id ver))
  (hb:assoc B id=some (.arr ver e (li.map g))) (ht:P.underlying t=some (.slice e)) (hz:szT P e=some (sz+1)) (hl:qk (A R B) lo=some rl) (hh:qk (A R B) hi=some rh) (ha:bnd rl 0=some a) (hbb:bnd rh (li.length:Int)=some b)
  (h:WO P H ext mt ops l ((d,.view id ver (0+a.toNat) (0+b.toNat))::R) B fun R' B' ts=>K R' B' (⟨[id,id],[]⟩::ts)):WO P H ext mt ops (o::l) R B K:=by
 have hc:0<=a∧a<=b∧b<=li.length:=by unfold wN at hg;split at hg<;>first|assumption|cases hg
 have e0:(((li.map g).length:Nat):Int)-((0:Nat):Int)=(li.length:Int):=by simp
 refine WO.step (u:=[]) (rd:=[id,id]) (c:=decide (0<=(li.map g).length∧(li.map g).length<=(li.map g).length∧0<=a∧a<=b∧b<=(((li.map g).length:Nat):Int)-((0:Nat):Int))) hw hd (fun m=>?_) (by rw [e0];simpa using hc) h
 have ho3:qk (A R B) none=some none:=rfl
 simp only [pX,ho,hx,hl,hh,ho3,hmt,Bool.false_eq_true,if_false,qP,ht,M.bind,M.get,hb,sliceB,ha,e0,hbb,hz,and_self,if_true,qj,M.pO]
 simp
theorem Ab{α:Type}{g:α->PD}{li:List α}{e:TypeId}{id ver lo hi:Nat}{y:Unit}(hg:yG li.length lo hi=some y)(hb:assoc B id=some (.arr ver e (li.map g))):wy (.view id ver lo hi) (assoc B)=some ((id,ver,e,li.map g,lo,hi-lo),[id],true):=by
 have hc:lo<=hi∧hi<=li.length:=by unfold yG at hg;split at hg<;>first|assumption|cases hg
 simp [wy,M.bind,M.get,hb,M.pO,hc]
theorem src_view{α:Type}{g:α->PD}{li ys:List α}{e:TypeId}{id ver lo hi:Nat}(hg:y6 li lo hi=some ys)(hb:assoc B id=some (.arr ver e (li.map g))):qA (.view id ver lo hi) (assoc B)=some (ys.map g,[id],true):=by
 unfold y6 at hg
 split at hg
 ·rename_i hc
  cases hg
  simp [qA,M.bind,M.get,hb,M.pO,hc,List.map_take,List.map_drop]
 ·cases hg
theorem copyD_of{α:Type}{g:α->PD}{li ys:List α}{t e:TypeId}{id ver off m sz:Nat}{vx vy:RV}{rd1 rd2:List Nat}(hD:wy vx (assoc B)=some ((id,ver,e,li.map g,off,m),rd1,true))(hY:qA vy (assoc B)=some (ys.map g,rd2,true))
  (ht:P.underlying t=some (.slice e)) (hz:szT P e=some (sz+1)) (hsz:∀x,(g x).cells.length=sz+1):
  vK P t vx vy (assoc B)=some ((.d (.int .i64 (Nat.min ys.length m:Nat)),[(id,.arr ver e ((wv li off m ys).map g))]),rd1++(rd2++[]),true):=by
 have he:rf P t=some e:=by simp [rf,ht]
 have ha:((ys.map g).all fun c=>c.cells.length==sz+1)=true:=by simp [hsz]
 simp only [vK,he,hz,M.bind,hD,hY,M.pO,ha,decide_true,Bool.and_self,List.length_map,wv,List.map_append,List.map_take,List.map_drop]
theorem WO.copyG{α:Type}{g:α->PD}{li ys:List α}{t t2 e:TypeId}{x y:Operand}{c:Call}{id ver off m sz:Nat}{vx vy:RV}{rd1 rd2:List Nat}(hw:pL ops (A R B) o=some true)(hd:o.dst=some d)(ho:o.op= .call c)
  (hc:c.callee= .builtin .copy) (ha:c.args.toList=[x,y]) (hat:c.argTypes= #[t,t2]) (hx:(A R B).opd x=some vx) (hy:(A R B).opd y=some vy)
  (hD:wy vx (assoc B)=some ((id,ver,e,li.map g,off,m),rd1,true)) (hY:qA vy (assoc B)=some (ys.map g,rd2,true))
  (ht:P.underlying t=some (.slice e)) (hz:szT P e=some (sz+1)) (hsz:∀x,(g x).cells.length=sz+1)
  (h:WO P H ext mt ops l ((d,.d (.int .i64 (Nat.min ys.length m:Nat)))::R) ((id,.arr ver e ((wv li off m ys).map g))::B) fun R' B' ts=>K R' B' (⟨rd1++(rd2++[]),[id]⟩::ts)):WO P H ext mt ops (o::l) R B K:=by
 refine WO.step (u:=[(id,.arr ver e ((wv li off m ys).map g))]) (rd:=rd1++(rd2++[])) (c:=true) hw hd (fun n=>?_) rfl h
 have ho2:rV (A R B) c.args.toList=some [vx,vy]:=by simp only [ha,rV,hx,hy]
 simp only [pX,ho,hc,ho2,hat]
 exact copyD_of hD hY ht hz hsz
theorem Bz{α:Type}{g:α->PD}{li:List α}{z:α}{t e:TypeId}{id ver off m sz:Nat}{vx:RV}{rd1:List Nat}(hD:wy vx (assoc B)=some ((id,ver,e,li.map g,off,m),rd1,true))
  (ht:P.underlying t=some (.slice e)) (hz:szT P e=some (sz+1)) (h0:(qQ P e).bind qW=some (g z)) (hsz:(g z).cells.length=sz+1):
  tX P t vx (assoc B)=some ((.tup [],[(id,.arr ver e ((uu li off m z).map g))]),rd1++[],true):=by
 have he:rf P t=some e:=by simp [rf,ht]
 simp only [tX,he,hz,h0,M.bind,hD,M.pO,hsz,decide_true,beq_self_eq_true,Bool.and_self,uu,List.map_append,List.map_take,List.map_drop,List.map_replicate]
theorem WO.clearN{α:Type}{g:α->PD}{li:List α}{z:α}{t e:TypeId}{x:Operand}{c:Call}{id ver off m sz:Nat}{vx:RV}{rd1:List Nat}(hw:pL ops (A R B) o=some true)(hd:o.dst=none)(ho:o.op= .call c)
  (hc:c.callee= .builtin .clear) (ha:c.args.toList=[x]) (hat:c.argTypes= #[t]) (hx:(A R B).opd x=some vx)
  (hD:wy vx (assoc B)=some ((id,ver,e,li.map g,off,m),rd1,true))
  (ht:P.underlying t=some (.slice e)) (hz:szT P e=some (sz+1)) (h0:(qQ P e).bind qW=some (g z)) (hsz:(g z).cells.length=sz+1)
  (h:WO P H ext mt ops l R ((id,.arr ver e ((uu li off m z).map g))::B) fun R' B' ts=>K R' B' (⟨rd1++[],[id]⟩::ts)):WO P H ext mt ops (o::l) R B K:=by
 refine WO.zf (v:= .tup []) (u:=[(id,.arr ver e ((uu li off m z).map g))]) (rd:=rd1++[]) (c:=true) hw hd (fun n=>?_) rfl h
 have ho2:rV (A R B) c.args.toList=some [vx]:=by simp only [ha,rV,hx]
 simp only [pX,ho,hc,ho2,hat]
 exact Bz hD ht hz h0 hsz
end
end Go.Dw
namespace Go.Dw
section
variable {P:Program}{H:Hints}{ext:FuncId->Option pT}{f:FuncId}{nb:Nat}{R:List (Nat×RV)}{B:List (Nat×Box)}{Q:Ex->List (Nat×RV)->List (Nat×Box)->Prop}
theorem WL.xa{σ ω:Type}{body:σ->Option (oJ σ ω)}{b:Code}{s0:σ}{o:ω}(h:kG body s0=some o)(I:σ->List (Nat×RV)->List (Nat×Box)->Prop)(h0:I s0 R B)
  (hstep:∀s R B x,I s R B->body s=some x->WC P H ext f nb b R B fun e R' B'=>match x with| .next s'=>e= .normal∧I s' R' B'| .stop o'=>e≠ .normal∧(o'=o->Q e R' B')):WL P H ext f nb b R B Q:=
 WL.pJ h I (fun o' e R' B'=>o'=o->Q e R' B') h0 hstep (fun _ _ _ _ hq=>hq rfl)
end
end Go.Dw
namespace Go.Dw
def xH{α:Type}(l:List α)(n:Int)(f:α->α):Option (List α):=
 if 0<=n then(match l[n.toNat]? with|some x=>some (l.set n.toNat (f x))|none=>none)else none
theorem BJ{α:Type}{l r:List α}{n:Int}{f:α->α}(h:xH l n f=some r):0<=n∧∃hn:n.toNat<l.length,r=l.set n.toNat (f l[n.toNat]):=by
 unfold xH at h
 split at h
 ·rename_i h0
  split at h
  ·rename_i x hx
   cases h
   obtain⟨h1,rfl⟩:=List.getElem?_eq_some_iff.1 hx
   exact⟨h0,h1,rfl⟩
  ·cases h
 ·cases h
section
variable {P:Program}{H:Hints}{ext:FuncId->Option pT}{mt:Hf}{ops:Array Oper}{l:List Oper}{R:List (Nat×RV)}{B:List (Nat×Box)}{K:List (Nat×RV)->List (Nat×Box)->List Tr->Prop}{o:Oper}
theorem WO.yD{α:Type}{g:α->PD}{f:α->α}{li r:List α}{t e:TypeId}{a x:Operand}{n:Int}{id ver off sz:Nat}{v:RV}{p:PD}{u:Ups}{rd:List Nat}(hg:xH li n f=some r)(hpt:∀x,(g x).put off p.cells=g (f x))
  (hfit:∀x,off+sz<=(g x).cells.length) (hw:pL ops (A R B) o=some true) (hd:o.dst=none) (ho:o.op= .store t a x) (ha:(A R B).opd a=some (.elt id ver n.toNat off)) (hx:(A R B).opd x=some v)
  (hb:assoc B id=some (.arr ver e (li.map g))) (hz:szT P t=some sz) (hs:v.sized=true) (htp:sD v (assoc B)=some ((p,u),rd,true)) (hne:(u.map (·.1)).contains id=false) (hpc:p.cells.length=sz)
  (h:WO P H ext mt ops l R (xK (u++[(id,Box.arr ver e (r.map g))]) B) fun R' B' ts=>K R' B' (⟨[id]++rd,(u++[(id,Box.arr ver e (r.map g))]).map (·.1)⟩::ts)):WO P H ext mt ops (o::l) R B K:=by
 obtain⟨h1,hlt,rfl⟩:=BJ hg
 have h3:(li.map g)[n.toNat]? =some (g li[n.toNat]):=by simp [hlt]
 rw [List.map_set, <-hpt li[n.toNat]]at h
 refine WO.zf (v:= .undef) (u:=u++[(id,.arr ver e ((li.map g).set n.toNat ((g li[n.toNat]).put off p.cells)))]) (rd:=[id]++rd) (c:=v.sized&&decide (p.cells.length=sz∧off+sz<=(g li[n.toNat]).cells.length)) hw hd (fun m=>?_) ?_ h
 ·simp only [pX,ho,ha,hx,tK,hz,M.bind,M.get,hb,if_true,htp,h3,hne,M.pO]
  simp [M.pO]
 ·simp [hs,hpc,hfit]
theorem WO.resl{α:Type}{g:α->PD}{li:List α}{t e:TypeId}{x:Operand}{lo hi:Option Operand}{k:IntKind}{b:Int}{id ver sz d:Nat}{y:Unit}(hg:wN li.length 0 b=some y)(hmt:mt.lit (o.dst.getD 0)=true)(hw:pL ops (A R B) o=some true)(hd:o.dst=some d)(ho:o.op= .slice t x lo hi none)
  (hx:(A R B).opd x=some (.ref id ver)) (hb:assoc B id=some (.arr ver e (li.map g))) (ht:P.underlying t=some (.slice e)) (hz:szT P e=some (sz+1)) {rl rh:Option RV} (hl:qk (A R B) lo=some rl) (hh:qk (A R B) hi=some rh) (hrl:rl=none) (hrh:rh=some (.d (.int k b)))
  (h:WO P H ext mt ops l ((d,.ref id (ver+1))::R) ((id,.arr (ver+1) e ((li.take b.toNat).map g))::B) fun R' B' ts=>K R' B' (⟨[id],[id]⟩::ts)):WO P H ext mt ops (o::l) R B K:=by
 subst hrl hrh
 have hc:0<=b∧b<=li.length:=by unfold wN at hg;split at hg<;>first|(rename_i h;exact⟨h.2.1,h.2.2⟩)|cases hg
 rw [List.map_take]at h
 refine WO.step (v:= .ref id (ver+1)) (u:=[(id,.arr (ver+1) e ((li.map g).take b.toNat))]) (rd:=[id]) (c:=decide (0<=b∧b<=(li.map g).length)) hw hd (fun m=>?_) (by simpa using hc) h
 have ho3:qk (A R B) none=some none:=rfl
 simp only [pX,ho,hx,hl,hh,ho3,hmt,if_true,wH,ht,hz,M.bind,M.get,hb,and_self,M.pO]
 simp
end
end Go.Dw
namespace Go.Dw
def pI{κ β:Type}(eq:κ->κ->Bool)(k:κ)(z:β):List (κ×β)->β
 | []=>z
 |e::r=>if eq k e.1=true then e.2 else pI eq k z r
def ub{κ β:Type}(eq:κ->κ->Bool)(k:κ):List (κ×β)->Bool
 | []=>false
 |e::r=>if eq k e.1=true then true else ub eq k r
def sZ{κ β:Type}(eq:κ->κ->Bool)(k:κ)(v:β):List (κ×β)->List (κ×β)
 | []=>[(k,v)]
 |e::r=>if eq k e.1=true then(k,v)::r else e::sZ eq k v r
def rb{α:Type}(bytes:Nat)(l:List α):Option (List α):=if l.length*bytes<=140737488355328 then some l else none
def mkZ{α:Type}(n:Int)(z:α)(bytes:Nat):Option (List α):=if 0<n∧n.toNat*bytes<=140737488355328∧n.toNat<=140737488355328 then some (List.replicate n.toNat z)else none
def mkO{α:Type}(n:Int)(z:α)(bytes:Nat):Option (List α):=if 0<=n∧n.toNat*bytes<=140737488355328∧n.toNat<=140737488355328 then some (List.replicate n.toNat z)else none
section
variable {P:Program}
theorem uH{κ β:Type}{gk:κ->PD}{gv:β->PD}{eq:κ->κ->Bool}{kt:TypeId}(hE:∀a b,yl P kt (gk a) (gk b)=some (eq a b))(k:κ)(z:β):∀(li:List (κ×β))(i:Nat),
  (ub eq k li=false∧pI eq k z li=z∧qC P kt (gk k) (li.map fun e=>(gk e.1,gv e.2)) i=some none∧∀v,sZ eq k v li=li++[(k,v)])∨
  ∃j x,ub eq k li=true∧eq k x=true∧qC P kt (gk k) (li.map fun e=>(gk e.1,gv e.2)) i=some (some (i+j,gk x,gv (pI eq k z li)))∧∀v,sZ eq k v li=li.set j (k,v)
 | [],i=>.inl ⟨rfl,rfl,rfl,fun _=>rfl⟩
 |(x,v)::r,i=>by
  cases hx:eq k x with
  |true=>exact .inr ⟨0,x,by simp [ub,hx],hx,by simp [qC,hE,hx,pI],fun v'=>by simp [sZ,hx]⟩
  |false=>
   rcases uH hE k z r (i+1)with⟨h1,h2,h3,h4⟩|⟨j,y,h1,h2,h3,h4⟩
   ·exact .inl ⟨by simp [ub,hx,h1],by simp [pI,hx,h2],by simp [qC,hE,hx];exact h3,fun v'=>by simp [sZ,hx,h4]⟩
   ·refine .inr ⟨j+1,y,by simp [ub,hx,h1],h2,?_,fun v'=>by simp [sZ,hx,h4]⟩
    simp only [List.map_cons,qC,hE,hx]
    rw [h3,show i+1+j=i+(j+1)by omega]
    simp [pI,hx]
end
section
variable {P:Program}{H:Hints}{ext:FuncId->Option pT}{mt:Hf}{ops:Array Oper}{l:List Oper}{R:List (Nat×RV)}{B:List (Nat×Box)}{K:List (Nat×RV)->List (Nat×Box)->List Tr->Prop}{o:Oper}{d:Nat}
structure uU(P:Program)(kt:TypeId){κ:Type}(gk:κ->PD)(eq:κ->κ->Bool):Prop where
 feq:∀a b,yl P kt (gk a) (gk b)=some (eq a b)
 kind:∀a,sd P kt (gk a)=true
 same:∀a b,eq a b=true->wa (gk a) (gk b)=true
theorem WO.sU{v:RV}{u:Ups}{rd:List Nat}(hw:pL ops (A R B) o=some true)(hd:o.dst=some d)(he:∀n,pX P mt (qw P H ext n) (A R B) o (assoc B)=some ((v,u),rd,true))
  (h:WO P H ext mt ops l ((d,v)::R) (xK u B) fun R' B' ts=>K R' B' (⟨rd,u.map (·.1)⟩::ts)):WO P H ext mt ops (o::l) R B K:=WO.step hw hd he rfl h
theorem WO.vH{li:List Int}{src dst e:TypeId}{x:Operand}(hw:pL ops (A R B) o=some true)(hd:o.dst=some d)(ho:o.op= .convert src dst x)(hx:(A R B).opd x=some (.d (.lst (li.map (.int .u8)))))(hs:P.underlying src=some (.slice e))(ht:P.underlying dst=some .string)(he:P.underlying e=some (.int .u8))
  (h:WO P H ext mt ops l ((d,.d (.str (Dw.vH li)))::R) B fun R' B' ts=>K R' B' (⟨[],[]⟩::ts)):WO P H ext mt ops (o::l) R B K:=by
 refine WO.s0 (rd:=[]) hw hd (fun m=>?_) rfl h
 simp only [pX,ho,hx,tM,hs,ht,he,Bt]
 rfl
def bytO(s:List UInt8):Option (List Int):=if s.length<=140737488355328 then some (s.map fun b=>(b.toNat:Int))else none
theorem WO.bytR{str:List UInt8}{r:List Int}{src dst e:TypeId}{x:Operand}(hg:bytO str=some r)(hw:pL ops (A R B) o=some true)(hd:o.dst=some d)(ho:o.op= .convert src dst x)(hx:(A R B).opd x=some (.d (.str str)))(hs:P.underlying src=some .string)(ht:P.underlying dst=some (.slice e))(he:P.underlying e=some (.int .u8))(hz:szT P e=some 1)
  (hb:assoc B (d*16)=none)
  (h:WO P H ext mt ops l ((d,.ref (d*16) 0)::R) ((d*16,.arr 0 e (r.map (.int .u8)))::B) fun R' B' ts=>K R' B' (⟨[d*16],[d*16]⟩::ts)):WO P H ext mt ops (o::l) R B K:=by
 unfold bytO at hg
 split at hg
 rotate_left
 ·cases hg
 rename_i hc
 cases hg
 rw [List.map_map]at h
 refine WO.step (u:=[(d*16,.arr 0 e (str.map fun b=>.int .u8 b.toNat))]) (rd:=[d*16]) (c:=decide (szT P e=some 1∧str.length<=140737488355328)) hw hd (fun m=>?_) ?_ h
 ·simp only [pX,ho,hx,hd,Option.getD_some,tM,hs,ht,he,M.bind,M.qf,hb,M.pO]
  rfl
 ·exact decide_eq_true ⟨hz,hc⟩
theorem WO.rowS{li:List Int}{src dst e e':TypeId}{x:Operand}{id ver:Nat}(hw:pL ops (A R B) o=some true)(hd:o.dst=some d)(ho:o.op= .convert src dst x)(hx:(A R B).opd x=some (.ref id ver))(hs:P.underlying src=some (.slice e))(ht:P.underlying dst=some .string)(he:P.underlying e=some (.int .u8))
  (hb:assoc B id=some (.arr ver e' (li.map (.int .u8))))
  (h:WO P H ext mt ops l ((d,.d (.str (Dw.vH li)))::R) B fun R' B' ts=>K R' B' (⟨[id],[]⟩::ts)):WO P H ext mt ops (o::l) R B K:=by
 refine WO.s0 (rd:=[id]) hw hd (fun m=>?_) rfl h
 simp only [pX,ho,hx,tM,hs,ht,he,M.bind,M.get,hb,if_true,Bt]
 rfl
theorem WO.look{κ β:Type}{gk:κ->PD}{gv:β->PD}{eq:κ->κ->Bool}{k:κ}{z:β}{li:List (κ×β)}{t kt vt:TypeId}{x y:Operand}{id:Nat}(hK:uU P kt gk eq)(hz:(qQ P vt).bind qW=some (gv z))(hw:pL ops (A R B) o=some true)(hd:o.dst=some d)(ho:o.op= .lookup t x y false)(hx:(A R B).opd x=some (.ptr id 0))(hy:(A R B).opd y=some (.d (gk k)))
  (hb:assoc B id=some (.map kt vt (li.map fun e=>(gk e.1,gv e.2)))) (ht:P.underlying t=some (.map kt vt))
  (h:WO P H ext mt ops l ((d,.d (gv (pI eq k z li)))::R) B fun R' B' ts=>K R' B' (⟨[id],[]⟩::ts)):WO P H ext mt ops (o::l) R B K:=by
 refine WO.s0 (rd:=[id]) hw hd (fun n=>?_) rfl h
 rcases uH (gv:=gv) hK.feq k z li 0 with⟨-,h2,h3, -⟩|⟨j,y', -, -,h3, -⟩
 ·simp only [pX,ho,hx,hy,se,ht,M.bind,M.get,hb,true_and,hK.kind,if_true,h3,hz,h2,Bool.false_eq_true,if_false]
  rfl
 ·simp only [pX,ho,hx,hy,se,ht,M.bind,M.get,hb,true_and,hK.kind,if_true,h3,Bool.false_eq_true,if_false]
  rfl
theorem WO.lookOk{κ β:Type}{gk:κ->PD}{gv:β->PD}{eq:κ->κ->Bool}{k:κ}{z:β}{li:List (κ×β)}{t kt vt:TypeId}{x y:Operand}{id:Nat}(hK:uU P kt gk eq)(hz:(qQ P vt).bind qW=some (gv z))(hw:pL ops (A R B) o=some true)(hd:o.dst=some d)(ho:o.op= .lookup t x y true)(hx:(A R B).opd x=some (.ptr id 0))(hy:(A R B).opd y=some (.d (gk k)))
  (hb:assoc B id=some (.map kt vt (li.map fun e=>(gk e.1,gv e.2)))) (ht:P.underlying t=some (.map kt vt))
  (h:WO P H ext mt ops l ((d,.tup [.d (gv (pI eq k z li)),.d (.bool (ub eq k li))])::R) B fun R' B' ts=>K R' B' (⟨[id],[]⟩::ts)):WO P H ext mt ops (o::l) R B K:=by
 refine WO.s0 (rd:=[id]) hw hd (fun n=>?_) rfl h
 rcases uH (gv:=gv) hK.feq k z li 0 with⟨h1,h2,h3, -⟩|⟨j,y',h1, -,h3, -⟩
 ·simp only [pX,ho,hx,hy,se,ht,M.bind,M.get,hb,true_and,hK.kind,if_true,h3,hz,h2,h1]
  rfl
 ·simp only [pX,ho,hx,hy,se,ht,M.bind,M.get,hb,true_and,hK.kind,if_true,h3,h1]
  rfl
theorem WO.lookS{κ:Type}{gk:κ->PD}{eq:κ->κ->Bool}{k:κ}{z b':Bool}{li:List (κ×Bool)}{t kt vt:TypeId}{x y:Operand}{id:Nat}(hK:uU P kt gk eq)(hb':pI eq k z li=b')(hz:(qQ P vt).bind qW=some (.bool z))(hw:pL ops (A R B) o=some true)(hd:o.dst=some d)(ho:o.op= .lookup t x y false)(hx:(A R B).opd x=some (.ptr id 0))(hy:(A R B).opd y=some (.d (gk k)))
  (hb:assoc B id=some (.map kt vt (li.map fun e=>(gk e.1,PD.bool e.2)))) (ht:P.underlying t=some (.map kt vt))
  (h:WO P H ext mt ops l ((d,.d (.bool b'))::R) B fun R' B' ts=>K R' B' (⟨[id],[]⟩::ts)):WO P H ext mt ops (o::l) R B K:=by
 subst hb'
 exact WO.look (gv:=PD.bool) hK hz hw hd ho hx hy hb ht h
theorem WO.mput{κ β:Type}{gk:κ->PD}{gv:β->PD}{eq:κ->κ->Bool}{k:κ}{y:β}{li:List (κ×β)}{t kt vt:TypeId}{x xk xv:Operand}{id:Nat}{v:RV}{u:Ups}{rd:List Nat}(hK:uU P kt gk eq)(hw:pL ops (A R B) o=some true)(hd:o.dst=none)(ho:o.op= .mapUpdate t x xk xv)(hx:(A R B).opd x=some (.ptr id 0))(hk:(A R B).opd xk=some (.d (gk k)))(hv:(A R B).opd xv=some v)
  (hb:assoc B id=some (.map kt vt (li.map fun e=>(gk e.1,gv e.2)))) (ht:P.underlying t=some (.map kt vt)) (hp:sD v (assoc B)=some ((gv y,u),rd,true)) (hu:(u.map (·.1)).contains id=false)
  (h:WO P H ext mt ops l R (xK (u++[(id,.map kt vt ((sZ eq k y li).map fun e=>(gk e.1,gv e.2)))]) B) fun R' B' ts=>K R' B' (⟨id::rd,(u++[(id,Box.map kt vt ((sZ eq k y li).map fun e=>(gk e.1,gv e.2)))]).map (·.1)⟩::ts)):WO P H ext mt ops (o::l) R B K:=by
 have hrd: [id]++(rd++[])=id::rd:=by simp
 rcases uH (gv:=gv) hK.feq k y li 0 with⟨-, -,h3,h4⟩|⟨j,y', -,h2,h3,h4⟩
 ·refine WO.zf (v:= .undef) (rd:=id::rd) (c:=true) hw hd (fun n=>?_) rfl h
  simp only [pX,ho,hx,hk,hv,tq,ht,M.bind,M.get,hb,true_and,hK.kind,if_true,h3,hp,hu,Bool.false_eq_true,if_false,M.pure,h4,hrd,Bool.and_true,List.map_append,List.map_cons,List.map_nil]
 ·refine WO.zf (v:= .undef) (rd:=id::rd) (c:=wa (gk k) (gk y')) hw hd (fun n=>?_) (hK.same _ _ h2) h
  simp only [pX,ho,hx,hk,hv,tq,ht,M.bind,M.get,hb,true_and,hK.kind,if_true,h3,hp,hu,Bool.false_eq_true,if_false,M.pO,h4,hrd,Bool.true_and,List.map_set,Nat.zero_add]
theorem WO.appZ{α:Type}{g:α->PD}{z:α}{n:Int}{r:List α}{t t' e:TypeId}{x y:Operand}{c:Call}{k q:IntKind}{sz by_:Nat}(hg:mkZ n z by_=some r)(hzk:(g z).cells.length=sz+1)(hne:(decide (t=t'))=false)(hw:pL ops (A R B) o=some true)(hd:o.dst=some d)(ho:o.op= .call c)
  (hc:c.callee= .builtin .append) (ha:c.args.toList=[x,y]) (hat:c.argTypes= #[t,t']) (hx:(A R B).opd x=some .mo) (hy:(A R B).opd y=some (.d (.int k n)))
  (hb:assoc B (d*16)=none) (ht:rf P t=some e) (ht':P.underlying t'=some (.int q)) (hsz:szT P e=some (sz+1)) (hby:rZ P e=some by_) (hz:(qQ P e).bind qW=some (g z))
  (h:WO P H ext mt ops l ((d,.ref (d*16) 0)::R) ((d*16,.arr 0 e (r.map g))::B) fun R' B' ts=>K R' B' (⟨[d*16],[d*16]⟩::ts)):WO P H ext mt ops (o::l) R B K:=by
 unfold mkZ at hg
 split at hg
 rotate_left
 ·cases hg
 rename_i hcc
 cases hg
 rw [List.map_replicate]at h
 refine WO.step (u:=[(d*16,.arr 0 e (List.replicate n.toNat (g z)))]) (rd:=[d*16]) (c:=decide (0<n∧n.toNat*by_<=140737488355328∧n.toNat<=140737488355328)&&((g z).cells.length==sz+1)) hw hd (fun m=>?_) ?_ h
 ·have ho2:rV (A R B) c.args.toList=some [.mo,.d (.int k n)]:=by simp only [ha,rV,hx,hy]
  simp only [pX,ho,hc,ho2,hat,hd,Option.getD_some]
  have hif:∀(m m':M (RV×Ups)),(if(#[t,t']:Array TypeId).size=2 then m else m')=m:=fun _ _=>if_pos rfl
  rw [hif,if_neg (show ¬(#[t,t']:Array TypeId).getD 0 0=(#[t,t']:Array TypeId).getD 1 0 from of_decide_eq_false hne)]
  show vI P _ t t' _ _ _=_
  simp only [vI,ht,ht',hsz,hby,hz,M.bind,M.qf,hb,M.pO]
  rfl
 ·simp [hcc,hzk]
theorem uU.int{kt:TypeId}{q:IntKind}(h:P.underlying kt=some (.int q)):uU P kt (PD.int q) (fun a b=>a==b):=
 ⟨fun a b=>by simp [yl,ua,tO],fun a=>by simp [sd,tC,h],fun a b hab=>by simpa [wa,vC]using hab⟩
theorem uU.str{kt:TypeId}(h:P.underlying kt=some .string):uU P kt PD.str (fun a b=>a==b):=
 ⟨fun a b=>by simp [yl,ua,tO],fun a=>by simp [sd,tC,h],fun a b hab=>by simpa [wa,vC]using hab⟩
end
section
variable {P:Program}{H:Hints}{ext:FuncId->Option pT}{mt:Hf}{ops:Array Oper}{l:List Oper}{R:List (Nat×RV)}{B:List (Nat×Box)}{K:List (Nat×RV)->List (Nat×Box)->List Tr->Prop}{o:Oper}
theorem WO.fullG{α:Type}{g:α->PD}{li:List α}{t e:TypeId}{x:Operand}{lo hi mx:Option Operand}{k k':IntKind}{sz d:Nat}(hmt:mt.lit (o.dst.getD 0)=true)(hw:pL ops (A R B) o=some true)(hd:o.dst=some d)(ho:o.op= .slice t x lo hi mx)
  (hx:(A R B).opd x=some (.d (.lst (li.map g)))) (ht:P.underlying t=some (.slice e)) (hz:szT P e=some (sz+1)) {rl rh rm:Option RV} (hl:qk (A R B) lo=some rl) (hh:qk (A R B) hi=some rh) (hm:qk (A R B) mx=some rm)
  (hrl:rl=none) (hrh:rh=some (.d (.int k (li.length:Int)))) (hrm:rm=some (.d (.int k' (li.length:Int))))
  (h:WO P H ext mt ops l ((d,.dfull (li.map g))::R) B fun R' B' ts=>K R' B' (⟨[],[]⟩::ts)):WO P H ext mt ops (o::l) R B K:=by
 subst hrl hrh hrm
 refine WO.step (v:= .dfull (li.map g)) (u:=[]) (rd:=[]) (c:=decide ((li.length:Int)=((li.map g).length:Int))) hw hd (fun m=>?_) sm h
 simp only [pX,ho,hx,hl,hh,hm,hmt,if_true,wH,ht,xz,hz,M.pO]
theorem WO.appD{vy:RV}{rd:List Nat}{α:Type}{g:α->PD}{li m r:List α}{t e:TypeId}{x y:Operand}{c:Call}{sz by_ d:Nat}{z:Value}(hg:qq li m (by_+1)=some r)(hsz:∀x,(g x).cells.length=sz+1)(hw:pL ops (A R B) o=some true)(hd:o.dst=some d)(ho:o.op= .call c)
  (hc:c.callee= .builtin .append) (ha:c.args.toList=[x,y]) (hat:c.argTypes= #[t,t]) (hx:(A R B).opd x=some (.dfull (li.map g))) (hy:(A R B).opd y=some vy) (hye:qA vy (assoc B)=some (m.map g,rd,true))
  (ht:rf P t=some e) (hz:szT P e=some (sz+1)) (hby:rZ P e=some (by_+1)) (hzz:qQ P e=some z) (hzs:z.cells.size=sz+1)
  (h:WO P H ext mt ops l ((d,.d (.lst (r.map g)))::R) B fun R' B' ts=>K R' B' (⟨rd,[]⟩::ts)):WO P H ext mt ops (o::l) R B K:=by
 obtain⟨h1,rfl⟩:=yQ hg
 rw [List.map_append]at h
 refine WO.step (v:= .d (.lst (li.map g++m.map g))) (u:=[]) (rd:=rd++[]) (c:=decide (((li.map g).length+(m.map g).length)*(by_+1)<=140737488355328)&&((m.map g).all (fun e=>e.cells.length==sz+1)&&(li.map g).all (fun e=>e.cells.length==sz+1))) hw hd (fun n=>?_) ?_ (by rw [List.append_nil];exact h)
 ·have ho2:rV (A R B) c.args.toList=some [.dfull (li.map g),vy]:=by simp only [ha,rV,hx,hy]
  simp only [pX,ho,hc,ho2,hat]
  have hif:∀(m m':M (RV×Ups)),(if(#[t,t]:Array TypeId).size=2 then m else m')=m:=fun _ _=>if_pos rfl
  rw [hif,if_pos (show(#[t,t]:Array TypeId).getD 0 0=(#[t,t]:Array TypeId).getD 1 0 from rfl)]
  show rz P _ t t _ _ _=_
  simp only [rz,ht,hz,hby,hzz,hzs,and_self,if_true,M.bind,hye,M.pO]
  simp
 ·simp only [Bool.and_eq_true,decide_eq_true_eq]
  exact⟨by simpa using h1,by simp [hsz],by simp [hsz]⟩
end
section
variable {P:Program}{H:Hints}{ext:FuncId->Option pT}{mt:Hf}{ops:Array Oper}{l:List Oper}{R:List (Nat×RV)}{B:List (Nat×Box)}{K:List (Nat×RV)->List (Nat×Box)->List Tr->Prop}{o:Oper}{d:Nat}
def inA(k:Nat)(n:Int):Option Unit:=if 0<=n∧n<k then some ()else none
def vd{α:Type}(k:Nat)(l:List α):Option (List α):=if l.length=k then some l else none
def cI(k:IntKind)(n:Int):RV:= .d (.int k n)
theorem zQ(k:IntKind):∀l:List Int,uh (l.map (cI k))=some (l.map (PD.int k))
 | []=>rfl
 |n::l=>by simp only [List.map_cons,cI,uh,zQ k l]
theorem wI:∀(cs pre v:List RV),v.length=cs.length->setCells (pre++cs) pre.length v=pre++v
 | [],pre,v,h=>by cases v with|nil=>simp [setCells]|cons=>simp at h
 |c::cs,pre,v,h=>by
  cases v with
  |nil=>simp at h
  |cons x v=>
   have h1:=wI cs (pre++[x]) v (by simpa using h)
   simp only [setCells]
   rw [show(pre++c::cs).set pre.length x=(pre++[x])++cs from by simp]
   rw [List.length_append,List.length_singleton]at h1
   rw [h1];simp
theorem WO.tabE{li:List Int}{y:Unit}{t e:TypeId}{x i:Operand}{k q:IntKind}{n:Int}{id len:Nat}(hg:inA len n=some y)(hw:pL ops (A R B) o=some true)(hd:o.dst=some d)(ho:o.op= .indexAddr t x i)(hx:(A R B).opd x=some (.ptr id 0))(hi:(A R B).opd i=some (.d (.int q n)))
  (hb:assoc B id=some (.var (li.map (cI k)))) (ht:P.underlying t=some (.array len e)) (hz:szT P e=some 1)
  (h:WO P H ext mt ops l ((d,.ptr id n.toNat)::R) B fun R' B' ts=>K R' B' (⟨[id],[]⟩::ts)):WO P H ext mt ops (o::l) R B K:=by
 unfold inA at hg
 split at hg
 rotate_left
 ·cases hg
 rename_i hc
 refine WO.step (u:=[]) (rd:=[id]) (c:=true) hw hd (fun m=>?_) rfl h
 have h1:decide (0<=n∧n<(len:Int))=true:=decide_eq_true hc
 simp only [pX,ho,hx,hi,qI,ht,hz,M.bind,M.pO,vg,M.get,hb,h1,qu,M.pure,Nat.mul_one,Nat.zero_add]
 rfl
theorem WO.tabL{li:List Int}{t:TypeId}{a:Operand}{k:IntKind}{n y:Int}{id:Nat}(hg:pH li n=some y)(hw:pL ops (A R B) o=some true)(hd:o.dst=some d)(ho:o.op= .load t a)(ha:(A R B).opd a=some (.ptr id n.toNat))
  (hb:assoc B id=some (.var (li.map (cI k)))) (ht:sY P t=some (false,1))
  (h:WO P H ext mt ops l ((d,.d (.int k y))::R) B fun R' B' ts=>K R' B' (⟨[id],[]⟩::ts)):WO P H ext mt ops (o::l) R B K:=by
 obtain⟨h0,h1,h2⟩:=wX hg
 refine WO.step (u:=[]) (rd:=[id]) (c:=true) hw hd (fun m=>?_) rfl h
 have h3:(li.map (cI k))[n.toNat]? =some (cI k y):=by simp [h2]
 simp only [pX,ho,ha,tp,M.bind,M.get,hb,rD,ht,h3]
 rfl
theorem WO.tabS{li r:List Int}{t:TypeId}{a x:Operand}{k:IntKind}{n y:Int}{id:Nat}(hg:xI li n y=some r)(hw:pL ops (A R B) o=some true)(hd:o.dst=none)(ho:o.op= .store t a x)(ha:(A R B).opd a=some (.ptr id n.toNat))(hx:(A R B).opd x=some (.d (.int k y)))
  (hb:assoc B id=some (.var (li.map (cI k)))) (hz:szT P t=some 1)
  (h:WO P H ext mt ops l R ((id,.var (r.map (cI k)))::B) fun R' B' ts=>K R' B' (⟨[id],[id]⟩::ts)):WO P H ext mt ops (o::l) R B K:=by
 obtain⟨h1,rfl⟩:=ze hg
 have hlt:n.toNat<li.length:=by omega
 rw [List.map_set]at h
 refine WO.n1 (v:= .undef) (rd:=[id]) hw hd (fun m=>?_) h
 simp only [pX,ho,ha,hx,tK,hz,M.bind,M.get,hb,M.pO]
 rw [show ((RV.d (.int k y)).sized && decide ((RV.d (.int k y)).cells.length = 1 ∧ n.toNat + 1 ≤ (li.map (cI k)).length)) = true from by
  rw [show(RV.d (.int k y)).sized=true from rfl,Bool.true_and]
  exact decide_eq_true ⟨rfl,by rw [List.length_map];exact hlt⟩]
 rfl
theorem Bo{li z:List Int}{t:TypeId}{k:IntKind}{id len:Nat}(hg:vd len li=some z)(hb:assoc B id=some (.var (li.map (cI k))))(ht:sY P t=some (true,len)):
  tp P t (.ptr id 0) (assoc B)=some ((.d (.agg (z.map (PD.int k))),[]),[id],true):=by
 unfold vd at hg
 split at hg
 rotate_left
 ·cases hg
 rename_i hc
 cases hg
 have h1:((li.map (cI k)).drop 0).take len=li.map (cI k):=by rw [List.drop_zero,List.take_of_length_le (by simp [hc])]
 have h2:decide (0+len<=(li.map (cI k)).length)=true:=decide_eq_true (by simp [hc])
 simp only [tp,M.bind,M.get,hb,rD,ht,h1,h2,yY,zQ,qj,M.pO]
 rfl
theorem WO.tabW{li z:List Int}{t:TypeId}{a:Operand}{k:IntKind}{id len:Nat}(hg:vd len li=some z)(hw:pL ops (A R B) o=some true)(hd:o.dst=some d)(ho:o.op= .load t a)(ha:(A R B).opd a=some (.ptr id 0))
  (hb:assoc B id=some (.var (li.map (cI k)))) (ht:sY P t=some (true,len))
  (h:WO P H ext mt ops l ((d,.d (.agg (z.map (PD.int k))))::R) B fun R' B' ts=>K R' B' (⟨[id],[]⟩::ts)):WO P H ext mt ops (o::l) R B K:=by
 refine WO.step (u:=[]) (rd:=[id]) (c:=true) hw hd (fun m=>?_) rfl h
 simp only [pX,ho,ha]
 exact Bo hg hb ht
theorem BP(k:IntKind)(r:List Int):(RV.d (.agg (r.map (PD.int k)))).sized=true:=by
 simp only [RV.sized,RV.cells,List.map_map,List.all_map,List.all_eq_true]
 intro x _;rfl
theorem WO.tabP{li r z y:List Int}{t:TypeId}{a x:Operand}{k:IntKind}{id len:Nat}(hg:vd len li=some z)(hr:vd len r=some y)(hw:pL ops (A R B) o=some true)(hd:o.dst=none)(ho:o.op= .store t a x)(ha:(A R B).opd a=some (.ptr id 0))(hx:(A R B).opd x=some (.d (.agg (r.map (PD.int k)))))
  (hb:assoc B id=some (.var (li.map (cI k)))) (hz:szT P t=some len)
  (h:WO P H ext mt ops l R ((id,.var (y.map (cI k)))::B) fun R' B' ts=>K R' B' (⟨[id],[id]⟩::ts)):WO P H ext mt ops (o::l) R B K:=by
 unfold vd at hg hr
 split at hg
 rotate_left
 ·cases hg
 split at hr
 rotate_left
 ·cases hr
 rename_i h1 h2
 cases hg;cases hr
 have h3:(RV.d (.agg (r.map (PD.int k)))).cells=r.map (cI k):=by
  simp only [RV.cells,PD.cells,List.map_map];rfl
 refine WO.n1 (v:= .undef) (rd:=[id]) hw hd (fun m=>?_) h
 have h4:decide ((r.map (cI k)).length=len∧0+len<=(li.map (cI k)).length)=true:=decide_eq_true (by simp [h1,h2])
 have h5:setCells (li.map (cI k)) 0 (r.map (cI k))=r.map (cI k):=by
  have:=wI (li.map (cI k)) [] (r.map (cI k)) (by simp [h1,h2])
  simpa using this
 simp only [pX,ho,ha,hx,tK,hz,M.bind,M.get,hb,M.pO,h3,h4,BP,h5]
 rfl
theorem AZ{li z:List Int}{k:IntKind}{own:Nat->Bool}{fn:Func}{t id len:Nat}{ty:TypeId}{x:RV×List Box}(hg:vd len li=some z)(hres:fn.results.toList=[.cell t ty])(hr:assoc R t=some (.ptr id 0))
  (hb:assoc B id=some (.var (li.map (cI k)))) (ht:sY P ty=some (true,len)) (hx:(.d (.agg (z.map (PD.int k))),[])=x):finish P own fn 0 (A R B)=some x:=by
 subst hx
 have h1:=Bo (P:=P) (t:=ty) hg hb ht
 have h2:resD P own (A R B) 0 fn.results.toList (A R B).boxes=some (([.d (.agg (z.map (PD.int k)))],[]),[id],true):=by
  simp only [hres,resD,resV,M.bind,show(A R B).pU t=assoc R t from rfl,hr,show(A R B).boxes=assoc B from rfl,h1]
  rfl
 simp only [finish,h2]
 rfl
theorem qT{x:Option St}{Rk:List (Nat×RV)}{B1 B2:List (Nat×Box)}{i:Nat}{k:IntKind}{l:List Int}{f:RV->RV}(h:x=some (A Rk (B1++(i,.var ((l.map (cI k)).map f))::B2)))(hf:∀n,f (cI k n)=cI k n):
  x=some (A Rk (B1++(i,.var (l.map (cI k)))::B2)):=by
 rw [h,List.map_map,show(f∘cI k)=cI k from funext hf]
end
end Go.Dw
