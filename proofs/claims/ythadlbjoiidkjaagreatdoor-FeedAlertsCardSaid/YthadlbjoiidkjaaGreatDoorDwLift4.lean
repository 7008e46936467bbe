
import Derived.Test.YthadlbjoiidkjaaGreatDoorDwWp

namespace Go.Dw
abbrev EvP(P:Program)(H:Hints)(ext:FuncId->Option jd)(f:FuncId)(args:List RV)(bs:List Box)(p:RV×List Box):Prop:=Ev P H ext f args bs p.1 p.2
def ja{α:Type}(l:List α)(n:Int):Option α:=if 0<=n then l[n.toNat]? else none
def qx(s:List UInt8)(n:Int):Option Int:=if 0<=n∧n<s.length then some ((s.getD n.toNat 0).toNat:Nat)else none
def cutO{α:Type}(l:List α)(lo hi:Int):Option (List α):=if 0<=lo∧lo<=hi∧hi<=l.length then some ((l.drop lo.toNat).take (hi.toNat-lo.toNat))else none
def lh{α:Type}(l m:List α)(bytes:Nat):Option (List α):=if(l.length+m.length)*bytes<=140737488355328 then some (l++m)else none
def catO(a b:List UInt8):Option (List UInt8):=if((a.length+b.length:Nat):Int)<=9223372036854775807 then some (a++b)else none
def shlO(k:IntKind)(x y:Int):Option Int:=if y<0 then none else some (shlI k x y)
def shrO(k:IntKind)(x y:Int):Option Int:=if y<0 then none else some (shrI k x y)
def quoO(k:IntKind)(x y:Int):Option Int:=if y=0 then none else some (k.wrap (x.tdiv y))
def remO(x y:Int):Option Int:=if y=0 then none else some (x.tmod y)
def ny{α:Type}(l:List α)(n:Int)(y:α):Option (List α):=if 0<=n∧n<l.length then some (l.set n.toNat y)else none
def inO{α:Type}(l:List α)(n:Int):Option Unit:=if 0<=n∧n<l.length then some ()else none
theorem qF{α:Type}{l:List α}{n:Int}{x:α}(h:ja l n=some x):0<=n∧n<l.length∧l[n.toNat]? =some x:=by
 unfold ja at h
 split at h
 ·rename_i h0
  have:=(List.getElem?_eq_some_iff.1 h).1
  exact⟨h0,om,h⟩
 ·cases h
theorem tn{s:List UInt8}{n c:Int}(h:qx s n=some c):(0<=n∧n<s.length)∧c=((s.getD n.toNat 0).toNat:Nat):=by
 unfold qx at h;split at h
 ·cases h;exact⟨by assumption,rfl⟩
 ·cases h
theorem ur{α:Type}{l r:List α}{lo hi:Int}(h:cutO l lo hi=some r):(0<=lo∧lo<=hi∧hi<=l.length)∧r=(l.drop lo.toNat).take (hi.toNat-lo.toNat):=by
 unfold cutO at h;split at h
 ·cases h;exact⟨by assumption,rfl⟩
 ·cases h
theorem uk{α:Type}{l m r:List α}{b:Nat}(h:lh l m b=some r):(l.length+m.length)*b<=140737488355328∧r=l++m:=by
 unfold lh at h;split at h
 ·cases h;exact⟨by assumption,rfl⟩
 ·cases h
theorem uo{a b r:List UInt8}(h:catO a b=some r):((a.length+b.length:Nat):Int)<=9223372036854775807∧r=a++b:=by
 unfold catO at h;split at h
 ·cases h;exact⟨by assumption,rfl⟩
 ·cases h
theorem uJ{α:Type}{l r:List α}{n:Int}{y:α}(h:ny l n y=some r):(0<=n∧n<l.length)∧r=l.set n.toNat y:=by
 unfold ny at h;split at h
 ·cases h;exact⟨by assumption,rfl⟩
 ·cases h
theorem oB{α β:Type}{m:Option α}{k:α->Option β}{r:β}(h:m.bind k=some r){G:Prop}(hk:∀x,m=some x->k x=some r->G):G:=by
 cases m with
 |none=>cases h
 |some x=>exact hk x rfl h
theorem jJ{β:Type}{t:Bool}{a b:Option β}{r:β}(h:(if t=true then a else b)=some r){G:Prop}(h1:t=true->a=some r->G)(h2:t=false->b=some r->G):G:=by
 cases t with
 |true=>exact h1 rfl h
 |false=>exact h2 rfl h
theorem hF{α:Type}(g:α->PD)(l:List α):RV.d (.int .i64 ((l.map g).length:Nat))=RV.d (.int .i64 (l.length:Nat)):=by rw [List.length_map]
inductive iN(σ ω:Type)where
 |next (s:σ)
 |stop (o:ω)
def jC{σ ω:Type}(body:σ->Option (iN σ ω)):Nat->σ->Option ω
 |0,_=>none
 |n+1,s=>
  match body s with
  |some (.next s')=>jC body n s'
  |some (.stop o)=>some o
  |none=>none
theorem nQ{σ ω:Type}{body:σ->Option (iN σ ω)}:∀{n m:Nat}{s:σ}{o:ω},jC body n s=some o->n<=m->jC body m s=some o
 |0,_,_,_,h,_=>by cases h
 |n+1,0,_,_,_,hm=>by omega
 |n+1,m+1,s,o,h,hm=>by
  simp only [jC]at h⊢
  rcases hb:body s with _|(s'|o')
  ·simp [hb]at h
  ·simp only [hb]at h⊢;exact nQ h om
  ·simp only [hb]at h⊢;exact h
open Classical in
noncomputable def fq {σ ω:Type} (body:σ->Option (iN σ ω)) (s:σ):Option ω:=if h:∃n o,jC body n s=some o then some h.choose_spec.choose else none
theorem oh{σ ω:Type}{body:σ->Option (iN σ ω)}{n:Nat}{s:σ}{o:ω}(h:jC body n s=some o):fq body s=some o:=by
 have he:∃n o,jC body n s=some o:=⟨n,o,h⟩
 unfold fq
 rw [dif_pos he]
 have h2:=he.choose_spec.choose_spec
 have h3:=nQ h (Nat.le_max_left n he.choose)
 have h4:=nQ h2 (Nat.le_max_right n he.choose)
 rw [h3]at h4
 exact h4.symm
theorem mq{σ ω:Type}{body:σ->Option (iN σ ω)}{s:σ}{o:ω}(h:fq body s=some o):∃n,jC body n s=some o:=by
 unfold fq at h
 split at h
 ·rename_i he
  cases h
  exact⟨_,he.choose_spec.choose_spec⟩
 ·cases h
theorem ju{σ ω:Type}{body:σ->Option (iN σ ω)}{s s':σ}(h:body s=some (.next s')):fq body s=fq body s':=by
 cases h1:fq body s' with
 |some o=>
  obtain⟨n,hn⟩:=mq h1
  exact oh (n:=n+1) (by simp only [jC,h];exact hn)
 |none=>
  cases h2:fq body s with
  |none=>rfl
  |some o=>
   obtain⟨n,hn⟩:=mq h2
   cases n with
   |zero=>cases hn
   |succ n=>
    simp only [jC,h]at hn
    rw [oh hn]at h1
    cases h1
theorem jy{σ ω:Type}{body:σ->Option (iN σ ω)}{s:σ}{o:ω}(h:body s=some (.stop o)):fq body s=some o:=
 oh (n:=1) (by simp only [jC,h])
open Classical in
section
variable {P:Program}{H:Hints}{ext:FuncId->Option jd}{f:FuncId}{nb:Nat}{R:List (Nat×RV)}{B:List (Nat×Box)}{Q:Ex->List (Nat×RV)->List (Nat×Box)->Prop}
theorem WL.jg{σ ω:Type}{body:σ->Option (iN σ ω)}{b:Code}{s0:σ}{o:ω}(h:fq body s0=some o)(I:σ->List (Nat×RV)->List (Nat×Box)->Prop)(Qo:ω->Ex->List (Nat×RV)->List (Nat×Box)->Prop)(h0:I s0 R B)
  (hstep:∀s R B x,I s R B->body s=some x->WC P H ext f nb b R B fun e R' B'=>match x with| .next s'=>e= .normal∧I s' R' B'| .stop o'=>e≠ .normal∧Qo o' e R' B')
  (hQ:∀e R' B',e≠ .normal->Qo o e R' B'->Q e R' B'):WL P H ext f nb b R B Q:=by
 obtain⟨n,hn⟩:=mq h
 clear h
 induction n generalizing s0 R B with
 |zero=>cases hn
 |succ n ih=>
  simp only [jC]at hn
  rcases hb:body s0 with _|(s'|o')
  ·simp [hb]at hn
  ·simp only [hb]at hn
   obtain⟨e,R',B',hN,he,hI⟩:=hstep s0 R B _ h0 hb
   subst he
   exact WL.round ⟨.normal,R',B',hN,ih hI hn⟩
  ·simp only [hb,Option.some.injEq]at hn
   subst hn
   obtain⟨e,R',B',hN,he,hq⟩:=hstep s0 R B _ h0 hb
   refine WL.round ⟨e,R',B',hN,?_⟩
   have:=hQ e R' B' he hq
   cases e with
   |normal=>exact(he rfl).elim
   |exit id=>exact this
   |ret=>exact this
theorem WC.condT'{c:Operand}{a b:Code}{t:Bool}(ht:t=true)(hc:(A R B).opd c=some (.d (.bool t)))(h1:WC P H ext f nb a R B Q):WC P H ext f nb (.cond c a b) R B Q:=by subst ht;exact WC.condT hc h1
theorem WC.condF'{c:Operand}{a b:Code}{t:Bool}(ht:t=false)(hc:(A R B).opd c=some (.d (.bool t)))(h1:WC P H ext f nb b R B Q):WC P H ext f nb (.cond c a b) R B Q:=by subst ht;exact WC.condF hc h1
theorem WC.join{α:Type}{a b:Code}(I:α->List (Nat×RV)->List (Nat×Box)->Prop)(G:α->Prop)(h1:WC P H ext f nb a R B fun e R' B'=>match e with| .normal=>∃x,I x R' B'∧G x|e=>Q e R' B')
  (h2:∀x R' B',I x R' B'->G x->WC P H ext f nb b R' B' Q):WC P H ext f nb (.seq a b) R B Q:=by
 refine WC.seq ?_
 obtain⟨e,R',B',hN,h⟩:=h1
 refine⟨e,R',B',hN,?_⟩
 cases e with
 |normal=>obtain⟨x,hI,hG⟩:=h;exact h2 x R' B' hI hG
 |exit id=>exact h
 |ret=>exact h
end
section
variable {P:Program}{H:Hints}{ext:FuncId->Option jd}{mt:Hf}{ops:Array Oper}{l:List Oper}{R:List (Nat×RV)}{B:List (Nat×Box)}{K:List (Nat×RV)->List (Nat×Box)->List Tr->Prop}{o:Oper}{d:Nat}
theorem WO.s0{v v':RV}{rd:List Nat}(hw:iV ops (A R B) o=some true)(hd:o.dst=some d)(he:∀n,jr P mt (jI P H ext n) (A R B) o (assoc B)=some ((v,[]),rd,true))(hv:v=v')
  (h:WO P H ext mt ops l ((d,v')::R) B fun R' B' ts=>K R' B' (⟨rd,[]⟩::ts)):WO P H ext mt ops (o::l) R B K:=by
 subst hv
 exact WO.step (u:=[]) hw hd he rfl h
theorem WO.s1{v:RV}{id:Nat}{bx:Box}{rd:List Nat}(hw:iV ops (A R B) o=some true)(hd:o.dst=some d)(he:∀n,jr P mt (jI P H ext n) (A R B) o (assoc B)=some ((v,[(id,bx)]),rd,true))
  (h:WO P H ext mt ops l ((d,v)::R) ((id,bx)::B) fun R' B' ts=>K R' B' (⟨rd,[id]⟩::ts)):WO P H ext mt ops (o::l) R B K:=
 WO.step (u:=[(id,bx)]) hw hd he rfl h
theorem WO.n1{v:RV}{id:Nat}{bx:Box}{rd:List Nat}(hw:iV ops (A R B) o=some true)(hd:o.dst=none)(he:∀n,jr P mt (jI P H ext n) (A R B) o (assoc B)=some ((v,[(id,bx)]),rd,true))
  (h:WO P H ext mt ops l R ((id,bx)::B) fun R' B' ts=>K R' B' (⟨rd,[id]⟩::ts)):WO P H ext mt ops (o::l) R B K:=
 WO.qN (u:=[(id,bx)]) hw hd he rfl h
theorem WO.bin{op:BinOp}{t t':TypeId}{x y:Operand}{vx vy:RV}{p:PD}(he:pJ P op t vx vy=some (p,true))(hw:iV ops (A R B) o=some true)(hd:o.dst=some d)(ho:o.op= .binOp op t x y t')(hx:(A R B).opd x=some vx)(hy:(A R B).opd y=some vy)
  (h:WO P H ext mt ops l ((d,.d p)::R) B fun R' B' ts=>K R' B' (⟨[],[]⟩::ts)):WO P H ext mt ops (o::l) R B K:=by
 refine WO.s0 (rd:=[]) hw hd (fun n=>?_) rfl h
 simp only [jr,ho,hx,hy,binX,he]
 rfl
theorem WO.binS{op:BinOp}{t t':TypeId}{x y:Operand}{vx vy:RV}{b b':Bool}(he:pJ P op t vx vy=some (.bool b,true))(hb:b=b')(hw:iV ops (A R B) o=some true)(hd:o.dst=some d)(ho:o.op= .binOp op t x y t')(hx:(A R B).opd x=some vx)(hy:(A R B).opd y=some vy)
  (h:WO P H ext mt ops l ((d,.d (.bool b'))::R) B fun R' B' ts=>K R' B' (⟨[],[]⟩::ts)):WO P H ext mt ops (o::l) R B K:=by
 subst hb
 exact WO.bin he hw hd ho hx hy h
theorem WO.split{b:Bool}{rd:List Nat}(hw:iV ops (A R B) o=some true)(hd:o.dst=some d)(he:∀n,jr P mt (jI P H ext n) (A R B) o (assoc B)=some ((.d (.bool b),[]),rd,true))
  (h:WO P H ext mt ops l ((d,.d (.bool b))::R) B fun R' B' ts=>K R' B' (⟨rd,[]⟩::ts)):WO P H ext mt ops (o::l) R B K:=
 WO.step (u:=[]) hw hd he rfl h
theorem WO.elemG{α:Type}{g:α->PD}{li:List α}{t e:TypeId}{x i:Operand}{k:IntKind}{n:Int}{sz:Nat}{y:α}{cs:List PD}(hg:ja li n=some y)(hw:iV ops (A R B) o=some true)(hd:o.dst=some d)(ho:o.op= .indexAddr t x i)(hx:(A R B).opd x=some (.d (.lst (li.map g))))(hi:(A R B).opd i=some (.d (.int k n)))
  (ht:P.underlying t=some (.slice e)) (hz:szT P e=some sz) (hc:(g y).cells=cs) (hcl:cs.length=sz)
  (h:WO P H ext mt ops l ((d,.cptr cs)::R) B fun R' B' ts=>K R' B' (⟨[],[]⟩::ts)):WO P H ext mt ops (o::l) R B K:=by
 subst hc
 obtain⟨h0,h1,h2⟩:=qF hg
 have hgd:(li.map g).getD n.toNat default=g y:=by simp [h2]
 have hn':0<=n∧n<(li.map g).length:=by simpa using⟨h0,h1⟩
 refine WO.step (u:=[]) (rd:=[]) (c:=true) hw hd (fun m=>?_) rfl h
 simp only [jr,ho,hx,hi,jU,ht,hz,hgd,hn',hcl,and_self,decide_true,beq_self_eq_true,Bool.and_true]
 rfl
theorem WO.byteG{t:TypeId}{x i:Operand}{s:List UInt8}{k:IntKind}{n c:Int}(hg:qx s n=some c)(hw:iV ops (A R B) o=some true)(hd:o.dst=some d)(ho:o.op= .index t x i)(hx:(A R B).opd x=some (.d (.str s)))(hi:(A R B).opd i=some (.d (.int k n)))(ht:P.underlying t=some .string)
  (h:WO P H ext mt ops l ((d,.d (.int .u8 c))::R) B fun R' B' ts=>K R' B' (⟨[],[]⟩::ts)):WO P H ext mt ops (o::l) R B K:=by
 obtain⟨h1,rfl⟩:=tn hg
 refine WO.step (u:=[]) (rd:=[]) (c:=decide (0<=n∧n<s.length)) hw hd (fun m=>?_) (by simpa using h1) h
 simp only [jr,ho,hx,hi,mW,nN,ht]
 rfl
theorem WO.cutL{α:Type}{g:α->PD}{t e:TypeId}{x:Operand}{lo hi:Option Operand}{li r:List α}{rl rh:Option RV}{a b:Int}{sz:Nat}(hg:cutO li a b=some r)(hsz:∀x,(g x).cells.length=sz)(hmt:mt.lit (o.dst.getD 0)=false)(hw:iV ops (A R B) o=some true)(hd:o.dst=some d)(ho:o.op= .slice t x lo hi none)(hx:(A R B).opd x=some (.d (.lst (li.map g))))(ht:P.underlying t=some (.slice e))(hz:szT P e=some sz)
  (hl:jG (A R B) lo=some rl) (hh:jG (A R B) hi=some rh) (ha:bnd rl 0=some a) (hb:bnd rh li.length=some b)
  (h:WO P H ext mt ops l ((d,.d (.lst (r.map g)))::R) B fun R' B' ts=>K R' B' (⟨[],[]⟩::ts)):WO P H ext mt ops (o::l) R B K:=by
 obtain⟨h1,rfl⟩:=ur hg
 have hb':bnd rh ((li.map g).length:Nat)=some b:=by simpa using hb
 have he:(((li.drop a.toNat).take (b.toNat-a.toNat)).map g)=cut (li.map g) a.toNat (hiOf rh b):=by
  rw [lU (li.map g) rh a b hb' (by simpa using h1)];simp
 rw [he]at h
 refine WO.step (u:=[]) (rd:=[]) (c:=decide (0<=a∧a<=b∧b<=(li.map g).length)&&(li.map g).all (fun e=>e.cells.length==sz)) hw hd (fun m=>?_) ?_ h
 ·have h0:jG (A R B) none=some none:=rfl
  simp only [jr,ho,hx,hl,hh,h0,hmt,Bool.false_eq_true,if_false,jV,ht,ha,hb',hz]
  rfl
 ·simp only [Bool.and_eq_true,decide_eq_true_eq]
  refine⟨by simpa using h1,?_⟩
  simp [hsz]
theorem WO.catG{t t':TypeId}{x y:Operand}{a b r:List UInt8}(hg:catO a b=some r)(hw:iV ops (A R B) o=some true)(hd:o.dst=some d)(ho:o.op= .binOp .add t x y t')(hx:(A R B).opd x=some (.d (.str a)))(hy:(A R B).opd y=some (.d (.str b)))
  (h:WO P H ext mt ops l ((d,.d (.str r))::R) B fun R' B' ts=>K R' B' (⟨[],[]⟩::ts)):WO P H ext mt ops (o::l) R B K:=by
 obtain⟨h1,rfl⟩:=uo hg
 refine WO.step (u:=[]) (rd:=[]) (c:=decide (((a.length+b.length:Nat):Int)<=IntKind.i64.max)) hw hd (fun n=>?_) ?_ h
 ·simp only [jr,ho,hx,hy,binX,pJ,rR,rF]
  rfl
 ·have:IntKind.i64.max=9223372036854775807:=by decide
  rw [this]
  exact decide_eq_true h1
theorem WO.remG{t t':TypeId}{x y:Operand}{k k':IntKind}{a b r:Int}(hg:remO a b=some r)(hw:iV ops (A R B) o=some true)(hd:o.dst=some d)(ho:o.op= .binOp .rem t x y t')(hx:(A R B).opd x=some (.d (.int k a)))(hy:(A R B).opd y=some (.d (.int k' b)))(hk:k=k')
  (h:WO P H ext mt ops l ((d,.d (.int k r))::R) B fun R' B' ts=>K R' B' (⟨[],[]⟩::ts)):WO P H ext mt ops (o::l) R B K:=by
 subst hk
 unfold remO at hg
 split at hg
 ·cases hg
 ·rename_i hb
  cases hg
  refine WO.step (u:=[]) (rd:=[]) (c:=b != 0) hw hd (fun n=>?_) (by simpa using hb) h
  simp only [jr,ho,hx,hy,binX,pJ,rR,if_true,pT]
  rfl
theorem WO.appR{α:Type}{g:α->PD}{li m r:List α}{t e:TypeId}{x y:Operand}{c:Call}{id ver sz by_:Nat}{z:Value}(hg:lh li m (by_+1)=some r)(hsz:∀x,(g x).cells.length=sz+1)(hw:iV ops (A R B) o=some true)(hd:o.dst=some d)(ho:o.op= .call c)
  (hc:c.callee= .builtin .append) (ha:c.args.toList=[x,y]) (hat:c.argTypes= #[t,t]) (hx:(A R B).opd x=some (.ref id ver)) (hy:(A R B).opd y=some (.d (.lst (m.map g))))
  (hb:assoc B id=some (.arr ver e (li.map g))) (ht:ke P t=some e) (hz:szT P e=some (sz+1)) (hby:kG P e=some (by_+1)) (hzz:jS P e=some z) (hzs:z.cells.size=sz+1)
  (h:WO P H ext mt ops l ((d,.ref id (ver+1))::R) ((id,.arr (ver+1) e (r.map g))::B) fun R' B' ts=>K R' B' (⟨[id],[id]⟩::ts)):WO P H ext mt ops (o::l) R B K:=by
 obtain⟨h1,rfl⟩:=uk hg
 rw [List.map_append]at h
 refine WO.step (u:=[(id,.arr (ver+1) e (li.map g++m.map g))]) (rd:=[id]) (c:=decide (((li.map g).length+(m.map g).length)*(by_+1)<=140737488355328)&&(m.map g).all (fun e=>e.cells.length==sz+1)) hw hd (fun n=>?_) ?_ h
 ·have ho2:k9 (A R B) c.args.toList=some [.ref id ver,.d (.lst (m.map g))]:=by simp only [ha,k9,hx,hy]
  simp only [jr,ho,hc,ho2,hat]
  have hif:∀(m m':M (RV×Ups)),(if(#[t,t]:Array TypeId).size=2 then m else m')=m:=fun _ _=>if_pos rfl
  rw [hif,if_pos (show(#[t,t]:Array TypeId).getD 0 0=(#[t,t]:Array TypeId).getD 1 0 from rfl)]
  show kE P _ t t _ _ _=_
  simp only [kE,ht,hz,hby,hzz,hzs,and_self,if_true,M.bind,kF,M.pure,M.get,hb,M.jb]
  simp
 ·simp only [Bool.and_eq_true,decide_eq_true_eq]
  exact⟨by simpa using h1,by simp [hsz]⟩
theorem WO.lenR{α:Type}{g:α->PD}{li:List α}{t e:TypeId}{x:Operand}{c:Call}{id ver:Nat}(hw:iV ops (A R B) o=some true)(hd:o.dst=some d)(ho:o.op= .call c)
  (hc:c.callee= .builtin .len) (ha:c.args.toList=[x]) (hat:c.argTypes= #[t]) (hx:(A R B).opd x=some (.ref id ver)) (hb:assoc B id=some (.arr ver e (li.map g))) (ht:P.underlying t=some (.slice e))
  (h:WO P H ext mt ops l ((d,.d (.int .i64 (li.length:Int)))::R) B fun R' B' ts=>K R' B' (⟨[id],[]⟩::ts)):WO P H ext mt ops (o::l) R B K:=by
 refine WO.step (u:=[]) (rd:=[id]) (c:=true) hw hd (fun n=>?_) rfl h
 have ho2:k9 (A R B) c.args.toList=some [.ref id ver]:=by simp only [ha,k9,hx]
 simp only [jr,ho,hc,ho2,hat]
 show lenD P t _ _=_
 simp [lenD,ht,M.bind,M.get,hb,jH,M.pure]
theorem WO.mU{α:Type}{g:α->PD}{li:List α}{t e:TypeId}{x i:Operand}{k:IntKind}{n:Int}{id ver sz:Nat}{y:Unit}(hg:inO li n=some y)(hw:iV ops (A R B) o=some true)(hd:o.dst=some d)(ho:o.op= .indexAddr t x i)(hx:(A R B).opd x=some (.ref id ver))(hi:(A R B).opd i=some (.d (.int k n)))
  (hb:assoc B id=some (.arr ver e (li.map g))) (ht:P.underlying t=some (.slice e)) (hz:szT P e=some sz)
  (h:WO P H ext mt ops l ((d,.elt id ver n.toNat 0)::R) B fun R' B' ts=>K R' B' (⟨[id],[]⟩::ts)):WO P H ext mt ops (o::l) R B K:=by
 have hn:0<=n∧n<li.length:=by unfold inO at hg;split at hg<;>first|assumption|cases hg
 refine WO.step (u:=[]) (rd:=[id]) (c:=decide (0<=n∧n<(li.map g).length)) hw hd (fun m=>?_) (by simpa using hn) h
 simp only [jr,ho,hx,hi,jU,ht,hz,M.bind,M.get,hb,and_self,if_true,jz,M.jb]
 simp
theorem WO.mY{α:Type}{g:α->PD}{li:List α}{t e:TypeId}{a:Operand}{n:Int}{id ver off:Nat}{y:α}{v:RV}(hg:ja li n=some y)(hw:iV ops (A R B) o=some true)(hd:o.dst=some d)(ho:o.op= .load t a)(ha:(A R B).opd a=some (.elt id ver n.toNat off))
  (hb:assoc B id=some (.arr ver e (li.map g))) (hv:lk P t ((g y).cells.drop off) (assoc B)=some ((v,[]),[],true))
  (h:WO P H ext mt ops l ((d,v)::R) B fun R' B' ts=>K R' B' (⟨[id],[]⟩::ts)):WO P H ext mt ops (o::l) R B K:=by
 obtain⟨h0,h1,h2⟩:=qF hg
 refine WO.step (u:=[]) (rd:=[id]) (c:=true) hw hd (fun m=>?_) rfl h
 have h3:(li.map g)[n.toNat]? =some (g y):=by simp [h2]
 simp only [jr,ho,ha,l7,M.bind,M.get,hb,if_true,h3,hv]
 simp
theorem WO.ng{α:Type}{g:α->PD}{li r:List α}{t e:TypeId}{a x:Operand}{n:Int}{id ver sz:Nat}{y:α}{p:PD}(hg:ny li n y=some r)(hsz:∀x,(g x).cells.length=sz)(hpt:∀x,(g x).put 0 p.cells=g y)(hw:iV ops (A R B) o=some true)(hd:o.dst=none)(ho:o.op= .store t a x)(ha:(A R B).opd a=some (.elt id ver n.toNat 0))(hx:(A R B).opd x=some (.d p))
  (hb:assoc B id=some (.arr ver e (li.map g))) (hz:szT P t=some sz) (hs:(RV.d p).sized=true) (hpc:p.cells.length=sz)
  (h:WO P H ext mt ops l R ((id,.arr ver e (r.map g))::B) fun R' B' ts=>K R' B' (⟨[id],[id]⟩::ts)):WO P H ext mt ops (o::l) R B K:=by
 obtain⟨h1,rfl⟩:=uJ hg
 have hlt:n.toNat<li.length:=by omega
 have h3:(li.map g)[n.toNat]? =some (g li[n.toNat]):=by simp [hlt]
 rw [List.map_set, <-hpt li[n.toNat]]at h
 refine WO.qN (v:= .undef) (u:=[(id,.arr ver e ((li.map g).set n.toNat ((g li[n.toNat]).put 0 p.cells)))]) (rd:=[id]) (c:=(RV.d p).sized&&decide (p.cells.length=sz∧0+sz<=(g li[n.toNat]).cells.length)) hw hd (fun m=>?_) ?_ h
 ·have htp:kP (.d p)=M.pure (p,[]):=rfl
  simp only [jr,ho,ha,hx,mE,hz,M.bind,M.get,hb,if_true,htp,M.pure,h3,M.jb]
  simp [M.jb]
 ·simp [hs,hpc,hsz]
end
end Go.Dw
attribute [irreducible] Go.Dw.quoO Go.Dw.remO Go.Dw.shlO Go.Dw.shrO
namespace Go.Dw
def subO(n:Nat)(lo hi:Int):Option Unit:=if 0<=lo∧lo<=hi∧hi<=n then some ()else none
def inV(len lo hi:Nat)(n:Int):Option Unit:=if 0<=n∧n<(hi:Int)-lo∧hi<=len then some ()else none
def qP(len lo hi:Nat):Option Unit:=if lo<=hi∧hi<=len then some ()else none
def p6{α:Type}(li:List α)(lo hi:Nat):Option (List α):=if lo<=hi∧hi<=li.length then some ((li.drop lo).take (hi-lo))else none
def me{α:Type}(li:List α)(off m:Nat)(z:α):List α:=li.take off++List.replicate m z++li.drop (off+m)
section
variable {P:Program}{H:Hints}{ext:FuncId->Option jd}{mt:Hf}{ops:Array Oper}{l:List Oper}{R:List (Nat×RV)}{B:List (Nat×Box)}{K:List (Nat×RV)->List (Nat×Box)->List Tr->Prop}{o:Oper}{d:Nat}
theorem WO.subR{α:Type}{g:α->PD}{li:List α}{t e:TypeId}{x:Operand}{lo hi:Option Operand}{rl rh:Option RV}{a b:Int}{id ver sz:Nat}{y:Unit}(hg:subO li.length a b=some y)(hmt:mt.lit (o.dst.getD 0)=false)(hw:iV ops (A R B) o=some true)(hd:o.dst=some d)(ho:o.op= .slice t x lo hi none)(hx:(A R B).opd x=some (.ref id ver))
  (hb:assoc B id=some (.arr ver e (li.map g))) (ht:P.underlying t=some (.slice e)) (hz:szT P e=some (sz+1)) (hl:jG (A R B) lo=some rl) (hh:jG (A R B) hi=some rh) (ha:bnd rl 0=some a) (hbb:bnd rh (li.length:Int)=some b)
  (h:WO P H ext mt ops l ((d,.view id ver (0+a.toNat) (0+b.toNat))::R) B fun R' B' ts=>K R' B' (⟨[id,id],[]⟩::ts)):WO P H ext mt ops (o::l) R B K:=by
 have hc:0<=a∧a<=b∧b<=li.length:=by unfold subO at hg;split at hg<;>first|assumption|cases hg
 have e0:(((li.map g).length:Nat):Int)-((0:Nat):Int)=(li.length:Int):=by simp
 refine WO.step (u:=[]) (rd:=[id,id]) (c:=decide (0<=(li.map g).length∧(li.map g).length<=(li.map g).length∧0<=a∧a<=b∧b<=(((li.map g).length:Nat):Int)-((0:Nat):Int))) hw hd (fun m=>?_) (by rw [e0];simpa using hc) h
 have ho3:jG (A R B) none=some none:=rfl
 simp only [jr,ho,hx,hl,hh,ho3,hmt,Bool.false_eq_true,if_false,jV,ht,M.bind,M.get,hb,sliceB,ha,e0,hbb,hz,and_self,if_true,jz,M.jb]
 simp
theorem dst_view{α:Type}{g:α->PD}{li:List α}{e:TypeId}{id ver lo hi:Nat}{y:Unit}(hg:qP li.length lo hi=some y)(hb:assoc B id=some (.arr ver e (li.map g))):pr (.view id ver lo hi) (assoc B)=some ((id,ver,e,li.map g,lo,hi-lo),[id],true):=by
 have hc:lo<=hi∧hi<=li.length:=by unfold qP at hg;split at hg<;>first|assumption|cases hg
 simp [pr,M.bind,M.get,hb,M.jb,hc]
theorem uq{α:Type}{g:α->PD}{li:List α}{z:α}{t e:TypeId}{id ver off m sz:Nat}{vx:RV}{rd1:List Nat}(hD:pr vx (assoc B)=some ((id,ver,e,li.map g,off,m),rd1,true))
  (ht:P.underlying t=some (.slice e)) (hz:szT P e=some (sz+1)) (h0:(jS P e).bind jW=some (g z)) (hsz:(g z).cells.length=sz+1):
  lR P t vx (assoc B)=some ((.tup [],[(id,.arr ver e ((me li off m z).map g))]),rd1++[],true):=by
 have he:ke P t=some e:=by simp [ke,ht]
 simp only [lR,he,hz,h0,M.bind,hD,M.jb,hsz,decide_true,beq_self_eq_true,Bool.and_self,me,List.map_append,List.map_take,List.map_drop,List.map_replicate]
theorem WO.clearN{α:Type}{g:α->PD}{li:List α}{z:α}{t e:TypeId}{x:Operand}{c:Call}{id ver off m sz:Nat}{vx:RV}{rd1:List Nat}(hw:iV ops (A R B) o=some true)(hd:o.dst=none)(ho:o.op= .call c)
  (hc:c.callee= .builtin .clear) (ha:c.args.toList=[x]) (hat:c.argTypes= #[t]) (hx:(A R B).opd x=some vx)
  (hD:pr vx (assoc B)=some ((id,ver,e,li.map g,off,m),rd1,true))
  (ht:P.underlying t=some (.slice e)) (hz:szT P e=some (sz+1)) (h0:(jS P e).bind jW=some (g z)) (hsz:(g z).cells.length=sz+1)
  (h:WO P H ext mt ops l R ((id,.arr ver e ((me li off m z).map g))::B) fun R' B' ts=>K R' B' (⟨rd1++[],[id]⟩::ts)):WO P H ext mt ops (o::l) R B K:=by
 refine WO.qN (v:= .tup []) (u:=[(id,.arr ver e ((me li off m z).map g))]) (rd:=rd1++[]) (c:=true) hw hd (fun n=>?_) rfl h
 have ho2:k9 (A R B) c.args.toList=some [vx]:=by simp only [ha,k9,hx]
 simp only [jr,ho,hc,ho2,hat]
 exact uq hD ht hz h0 hsz
theorem uN{α:Type}{g:α->PD}{li z:List α}{e:TypeId}{id ver lo hi:Nat}(hg:p6 li lo hi=some z)(hb:assoc B id=some (.arr ver e (li.map g))):kP (.view id ver lo hi) (assoc B)=some ((.lst (z.map g),[(id,.dead)]),[id],true):=by
 unfold p6 at hg
 split at hg
 ·rename_i hc
  cases hg
  simp [kP,nG,M.bind,M.get,hb,M.jb,hc,List.map_take,List.map_drop]
 ·cases hg
def ub(nb:Nat)(rs:List RV)(b1:jk):Option (RV×List Box):=
 match M.bind (kW 64 [] (List.range nb++rs.flatMap idsV)) (fun ids=>M.bind (mV ids) fun bxs=>M.pure (ids,bxs)) b1 with
 |some ((ids,bxs),_,true)=>
  if ids.take nb=List.range nb∧nodup ids=true then
   let ρ:Ren:=⟨idxOf ids,jF b1 (jx nb)⟩
   some (kz ρ (one rs),(ids.zip bxs).map fun x=>kL ρ (jx nb x.1) x.2)
  else none
 |_=>none
theorem uz{own:Nat->Bool}{fn:Func}{nb:Nat}{rs:List RV}{u:Ups}{rd:List Nat}{x:RV×List Box}(h:resD P own (A R B) 0 fn.results.toList (assoc B)=some ((rs,u),rd,true))(hx:ub nb rs (mG (assoc B) u)=some x):finish P own fn nb (A R B)=some x:=by
 simp only [finish,h]
 exact hx
theorem sj{α:Type}{g:α->PD}{li z:List α}{e:TypeId}{own:Nat->Bool}{fn:Func}{nb t id ver lo hi:Nat}{x:RV×List Box}{rd:List Nat}(hg:p6 li lo hi=some z)(hres:fn.results.toList=[.tmp t])(ho:own 0=false)
  (hv:resV P (A R B) (.tmp t) (assoc B)=some (.view id ver lo hi,rd,true)) (hb:assoc B id=some (.arr ver e (li.map g))) (hx:ub nb [.d (.lst (z.map g))] (mG (assoc B) [(id,.dead)])=some x):finish P own fn nb (A R B)=some x:=by
 refine uz (rs:=[.d (.lst (z.map g))]) (u:=[(id,.dead)]) (rd:=rd++([id]++[])) ?_ hx
 have htp:=uN (B:=B) hg hb
 simp [hres,resD,M.bind,hv,outV,ho,htp,M.pure,M.jb,RV.sized]
end
end Go.Dw
namespace Go.Dw
section
variable {P:Program}{H:Hints}{ext:FuncId->Option jd}{f:FuncId}{nb:Nat}{R:List (Nat×RV)}{B:List (Nat×Box)}{Q:Ex->List (Nat×RV)->List (Nat×Box)->Prop}
theorem WL.qL{σ ω:Type}{body:σ->Option (iN σ ω)}{b:Code}{s0:σ}{o:ω}(h:fq body s0=some o)(I:σ->List (Nat×RV)->List (Nat×Box)->Prop)(h0:I s0 R B)
  (hstep:∀s R B x,I s R B->body s=some x->WC P H ext f nb b R B fun e R' B'=>match x with| .next s'=>e= .normal∧I s' R' B'| .stop o'=>e≠ .normal∧(o'=o->Q e R' B')):WL P H ext f nb b R B Q:=
 WL.jg h I (fun o' e R' B'=>o'=o->Q e R' B') h0 hstep (fun _ _ _ _ hq=>hq rfl)
end
end Go.Dw
namespace Go.Dw
def nv{α:Type}(l:List α)(n:Int)(f:α->α):Option (List α):=
 if 0<=n then(match l[n.toNat]? with|some x=>some (l.set n.toNat (f x))|none=>none)else none
theorem uE{α:Type}{l r:List α}{n:Int}{f:α->α}(h:nv l n f=some r):0<=n∧∃hn:n.toNat<l.length,r=l.set n.toNat (f l[n.toNat]):=by
 unfold nv at h
 split at h
 ·rename_i h0
  split at h
  ·rename_i x hx
   cases h
   obtain⟨h1,rfl⟩:=List.getElem?_eq_some_iff.1 hx
   exact⟨h0,h1,rfl⟩
  ·cases h
 ·cases h
section
variable {P:Program}{H:Hints}{ext:FuncId->Option jd}{mt:Hf}{ops:Array Oper}{l:List Oper}{R:List (Nat×RV)}{B:List (Nat×Box)}{K:List (Nat×RV)->List (Nat×Box)->List Tr->Prop}{o:Oper}
theorem WO.lE{α:Type}{g:α->PD}{f:α->α}{li r:List α}{t e:TypeId}{a x:Operand}{n:Int}{id ver off sz:Nat}{v:RV}{p:PD}{u:Ups}{rd:List Nat}(hg:nv li n f=some r)(hpt:∀x,(g x).put off p.cells=g (f x))
  (hfit:∀x,off+sz<=(g x).cells.length) (hw:iV ops (A R B) o=some true) (hd:o.dst=none) (ho:o.op= .store t a x) (ha:(A R B).opd a=some (.elt id ver n.toNat off)) (hx:(A R B).opd x=some v)
  (hb:assoc B id=some (.arr ver e (li.map g))) (hz:szT P t=some sz) (hs:v.sized=true) (htp:kP v (assoc B)=some ((p,u),rd,true)) (hne:(u.map (·.1)).contains id=false) (hpc:p.cells.length=sz)
  (h:WO P H ext mt ops l R (pw (u++[(id,Box.arr ver e (r.map g))]) B) fun R' B' ts=>K R' B' (⟨[id]++rd,(u++[(id,Box.arr ver e (r.map g))]).map (·.1)⟩::ts)):WO P H ext mt ops (o::l) R B K:=by
 obtain⟨h1,hlt,rfl⟩:=uE hg
 have h3:(li.map g)[n.toNat]? =some (g li[n.toNat]):=by simp [hlt]
 rw [List.map_set, <-hpt li[n.toNat]]at h
 refine WO.qN (v:= .undef) (u:=u++[(id,.arr ver e ((li.map g).set n.toNat ((g li[n.toNat]).put off p.cells)))]) (rd:=[id]++rd) (c:=v.sized&&decide (p.cells.length=sz∧off+sz<=(g li[n.toNat]).cells.length)) hw hd (fun m=>?_) ?_ h
 ·simp only [jr,ho,ha,hx,mE,hz,M.bind,M.get,hb,if_true,htp,h3,hne,M.jb]
  simp [M.jb]
 ·simp [hs,hpc,hfit]
theorem WO.resl{α:Type}{g:α->PD}{li:List α}{t e:TypeId}{x:Operand}{lo hi:Option Operand}{k:IntKind}{b:Int}{id ver sz d:Nat}{y:Unit}(hg:subO li.length 0 b=some y)(hmt:mt.lit (o.dst.getD 0)=true)(hw:iV ops (A R B) o=some true)(hd:o.dst=some d)(ho:o.op= .slice t x lo hi none)
  (hx:(A R B).opd x=some (.ref id ver)) (hb:assoc B id=some (.arr ver e (li.map g))) (ht:P.underlying t=some (.slice e)) (hz:szT P e=some (sz+1)) {rl rh:Option RV} (hl:jG (A R B) lo=some rl) (hh:jG (A R B) hi=some rh) (hrl:rl=none) (hrh:rh=some (.d (.int k b)))
  (h:WO P H ext mt ops l ((d,.ref id (ver+1))::R) ((id,.arr (ver+1) e ((li.take b.toNat).map g))::B) fun R' B' ts=>K R' B' (⟨[id],[id]⟩::ts)):WO P H ext mt ops (o::l) R B K:=by
 subst hrl hrh
 have hc:0<=b∧b<=li.length:=by unfold subO at hg;split at hg<;>first|(rename_i h;exact⟨h.2.1,h.2.2⟩)|cases hg
 rw [List.map_take]at h
 refine WO.step (v:= .ref id (ver+1)) (u:=[(id,.arr (ver+1) e ((li.map g).take b.toNat))]) (rd:=[id]) (c:=decide (0<=b∧b<=(li.map g).length)) hw hd (fun m=>?_) (by simpa using hc) h
 have ho3:jG (A R B) none=some none:=rfl
 simp only [jr,ho,hx,hl,hh,ho3,hmt,if_true,pk,ht,hz,M.bind,M.get,hb,and_self,M.jb]
 simp
end
end Go.Dw
namespace Go.Dw
def bo{κ β:Type}(eq:κ->κ->Bool)(k:κ)(z:β):List (κ×β)->β
 | []=>z
 |e::r=>if eq k e.1=true then e.2 else bo eq k z r
def ky{κ β:Type}(eq:κ->κ->Bool)(k:κ):List (κ×β)->Bool
 | []=>false
 |e::r=>if eq k e.1=true then true else ky eq k r
def kg{κ β:Type}(eq:κ->κ->Bool)(k:κ)(v:β):List (κ×β)->List (κ×β)
 | []=>[(k,v)]
 |e::r=>if eq k e.1=true then(k,v)::r else e::kg eq k v r
def lS{α:Type}(bytes:Nat)(l:List α):Option (List α):=if l.length*bytes<=140737488355328 then some l else none
def mkZ{α:Type}(n:Int)(z:α)(bytes:Nat):Option (List α):=if 0<n∧n.toNat*bytes<=140737488355328∧n.toNat<=140737488355328 then some (List.replicate n.toNat z)else none
def mkO{α:Type}(n:Int)(z:α)(bytes:Nat):Option (List α):=if 0<=n∧n.toNat*bytes<=140737488355328∧n.toNat<=140737488355328 then some (List.replicate n.toNat z)else none
section
variable {P:Program}
theorem mu{κ β:Type}{gk:κ->PD}{gv:β->PD}{eq:κ->κ->Bool}{kt:TypeId}(hE:∀a b,pU P kt (gk a) (gk b)=some (eq a b))(k:κ)(z:β):∀(li:List (κ×β))(i:Nat),
  (ky eq k li=false∧bo eq k z li=z∧jM P kt (gk k) (li.map fun e=>(gk e.1,gv e.2)) i=some none∧∀v,kg eq k v li=li++[(k,v)])∨
  ∃j x,ky eq k li=true∧eq k x=true∧jM P kt (gk k) (li.map fun e=>(gk e.1,gv e.2)) i=some (some (i+j,gk x,gv (bo eq k z li)))∧∀v,kg eq k v li=li.set j (k,v)
 | [],i=>.inl ⟨rfl,rfl,rfl,fun _=>rfl⟩
 |(x,v)::r,i=>by
  cases hx:eq k x with
  |true=>exact .inr ⟨0,x,by simp [ky,hx],hx,by simp [jM,hE,hx,bo],fun v'=>by simp [kg,hx]⟩
  |false=>
   rcases mu hE k z r (i+1)with⟨h1,h2,h3,h4⟩|⟨j,y,h1,h2,h3,h4⟩
   ·exact .inl ⟨by simp [ky,hx,h1],by simp [bo,hx,h2],by simp [jM,hE,hx];exact h3,fun v'=>by simp [kg,hx,h4]⟩
   ·refine .inr ⟨j+1,y,by simp [ky,hx,h1],h2,?_,fun v'=>by simp [kg,hx,h4]⟩
    simp only [List.map_cons,jM,hE,hx]
    rw [h3,show i+1+j=i+(j+1)by omega]
    simp [bo,hx]
end
section
variable {P:Program}{H:Hints}{ext:FuncId->Option jd}{mt:Hf}{ops:Array Oper}{l:List Oper}{R:List (Nat×RV)}{B:List (Nat×Box)}{K:List (Nat×RV)->List (Nat×Box)->List Tr->Prop}{o:Oper}{d:Nat}
structure nu(P:Program)(kt:TypeId){κ:Type}(gk:κ->PD)(eq:κ->κ->Bool):Prop where
 feq:∀a b,pU P kt (gk a) (gk b)=some (eq a b)
 kind:∀a,kH P kt (gk a)=true
 same:∀a b,eq a b=true->nf (gk a) (gk b)=true
theorem WO.sU{v:RV}{u:Ups}{rd:List Nat}(hw:iV ops (A R B) o=some true)(hd:o.dst=some d)(he:∀n,jr P mt (jI P H ext n) (A R B) o (assoc B)=some ((v,u),rd,true))
  (h:WO P H ext mt ops l ((d,v)::R) (pw u B) fun R' B' ts=>K R' B' (⟨rd,u.map (·.1)⟩::ts)):WO P H ext mt ops (o::l) R B K:=WO.step hw hd he rfl h
theorem WO.strU{li:List Int}{src dst e:TypeId}{x:Operand}(hw:iV ops (A R B) o=some true)(hd:o.dst=some d)(ho:o.op= .convert src dst x)(hx:(A R B).opd x=some (.d (.lst (li.map (.int .u8)))))(hs:P.underlying src=some (.slice e))(ht:P.underlying dst=some .string)(he:P.underlying e=some (.int .u8))
  (h:WO P H ext mt ops l ((d,.d (.str (Dw.strU li)))::R) B fun R' B' ts=>K R' B' (⟨[],[]⟩::ts)):WO P H ext mt ops (o::l) R B K:=by
 refine WO.s0 (rd:=[]) hw hd (fun m=>?_) rfl h
 simp only [jr,ho,hx,mI,hs,ht,he,u8s_map]
 rfl
theorem WO.look{κ β:Type}{gk:κ->PD}{gv:β->PD}{eq:κ->κ->Bool}{k:κ}{z:β}{li:List (κ×β)}{t kt vt:TypeId}{x y:Operand}{id:Nat}(hK:nu P kt gk eq)(hz:(jS P vt).bind jW=some (gv z))(hw:iV ops (A R B) o=some true)(hd:o.dst=some d)(ho:o.op= .lookup t x y false)(hx:(A R B).opd x=some (.ptr id 0))(hy:(A R B).opd y=some (.d (gk k)))
  (hb:assoc B id=some (.map kt vt (li.map fun e=>(gk e.1,gv e.2)))) (ht:P.underlying t=some (.map kt vt))
  (h:WO P H ext mt ops l ((d,.d (gv (bo eq k z li)))::R) B fun R' B' ts=>K R' B' (⟨[id],[]⟩::ts)):WO P H ext mt ops (o::l) R B K:=by
 refine WO.s0 (rd:=[id]) hw hd (fun n=>?_) rfl h
 rcases mu (gv:=gv) hK.feq k z li 0 with⟨-,h2,h3, -⟩|⟨j,y', -, -,h3, -⟩
 ·simp only [jr,ho,hx,hy,kI,ht,M.bind,M.get,hb,true_and,hK.kind,if_true,h3,hz,h2,Bool.false_eq_true,if_false]
  rfl
 ·simp only [jr,ho,hx,hy,kI,ht,M.bind,M.get,hb,true_and,hK.kind,if_true,h3,Bool.false_eq_true,if_false]
  rfl
theorem WO.oH{κ β:Type}{gk:κ->PD}{gv:β->PD}{eq:κ->κ->Bool}{k:κ}{z:β}{li:List (κ×β)}{t kt vt:TypeId}{x y:Operand}{id:Nat}(hK:nu P kt gk eq)(hz:(jS P vt).bind jW=some (gv z))(hw:iV ops (A R B) o=some true)(hd:o.dst=some d)(ho:o.op= .lookup t x y true)(hx:(A R B).opd x=some (.ptr id 0))(hy:(A R B).opd y=some (.d (gk k)))
  (hb:assoc B id=some (.map kt vt (li.map fun e=>(gk e.1,gv e.2)))) (ht:P.underlying t=some (.map kt vt))
  (h:WO P H ext mt ops l ((d,.tup [.d (gv (bo eq k z li)),.d (.bool (ky eq k li))])::R) B fun R' B' ts=>K R' B' (⟨[id],[]⟩::ts)):WO P H ext mt ops (o::l) R B K:=by
 refine WO.s0 (rd:=[id]) hw hd (fun n=>?_) rfl h
 rcases mu (gv:=gv) hK.feq k z li 0 with⟨h1,h2,h3, -⟩|⟨j,y',h1, -,h3, -⟩
 ·simp only [jr,ho,hx,hy,kI,ht,M.bind,M.get,hb,true_and,hK.kind,if_true,h3,hz,h2,h1]
  rfl
 ·simp only [jr,ho,hx,hy,kI,ht,M.bind,M.get,hb,true_and,hK.kind,if_true,h3,h1]
  rfl
theorem WO.mput{κ β:Type}{gk:κ->PD}{gv:β->PD}{eq:κ->κ->Bool}{k:κ}{y:β}{li:List (κ×β)}{t kt vt:TypeId}{x xk xv:Operand}{id:Nat}{v:RV}{u:Ups}{rd:List Nat}(hK:nu P kt gk eq)(hw:iV ops (A R B) o=some true)(hd:o.dst=none)(ho:o.op= .mapUpdate t x xk xv)(hx:(A R B).opd x=some (.ptr id 0))(hk:(A R B).opd xk=some (.d (gk k)))(hv:(A R B).opd xv=some v)
  (hb:assoc B id=some (.map kt vt (li.map fun e=>(gk e.1,gv e.2)))) (ht:P.underlying t=some (.map kt vt)) (hp:kP v (assoc B)=some ((gv y,u),rd,true)) (hu:(u.map (·.1)).contains id=false)
  (h:WO P H ext mt ops l R (pw (u++[(id,.map kt vt ((kg eq k y li).map fun e=>(gk e.1,gv e.2)))]) B) fun R' B' ts=>K R' B' (⟨id::rd,(u++[(id,Box.map kt vt ((kg eq k y li).map fun e=>(gk e.1,gv e.2)))]).map (·.1)⟩::ts)):WO P H ext mt ops (o::l) R B K:=by
 have hrd: [id]++(rd++[])=id::rd:=by simp
 rcases mu (gv:=gv) hK.feq k y li 0 with⟨-, -,h3,h4⟩|⟨j,y', -,h2,h3,h4⟩
 ·refine WO.qN (v:= .undef) (rd:=id::rd) (c:=true) hw hd (fun n=>?_) rfl h
  simp only [jr,ho,hx,hk,hv,lq,ht,M.bind,M.get,hb,true_and,hK.kind,if_true,h3,hp,hu,Bool.false_eq_true,if_false,M.pure,h4,hrd,Bool.and_true,List.map_append,List.map_cons,List.map_nil]
 ·refine WO.qN (v:= .undef) (rd:=id::rd) (c:=nf (gk k) (gk y')) hw hd (fun n=>?_) (hK.same _ _ h2) h
  simp only [jr,ho,hx,hk,hv,lq,ht,M.bind,M.get,hb,true_and,hK.kind,if_true,h3,hp,hu,Bool.false_eq_true,if_false,M.jb,h4,hrd,Bool.true_and,List.map_set,Nat.zero_add]
theorem WO.mkS{α:Type}{g:α->PD}{z:α}{n:Int}{r:List α}{t e:TypeId}{x y:Operand}{k k':IntKind}{sz by_:Nat}(hg:mkO n z by_=some r)(hzk:(g z).cells.length=sz+1)(hw:iV ops (A R B) o=some true)(hd:o.dst=some d)(ho:o.op= .makeSlice t x y)(hx:(A R B).opd x=some (.d (.int k n)))(hy:(A R B).opd y=some (.d (.int k' n)))
  (hb:assoc B (d*16)=none) (ht:ke P t=some e) (hsz:szT P e=some (sz+1)) (hby:kG P e=some by_) (hz:(jS P e).bind jW=some (g z))
  (h:WO P H ext mt ops l ((d,.ref (d*16) 0)::R) ((d*16,.arr 0 e (r.map g))::B) fun R' B' ts=>K R' B' (⟨[d*16],[d*16]⟩::ts)):WO P H ext mt ops (o::l) R B K:=by
 unfold mkO at hg
 split at hg
 rotate_left
 ·cases hg
 rename_i hc
 cases hg
 rw [List.map_replicate]at h
 refine WO.step (u:=[(d*16,.arr 0 e (List.replicate n.toNat (g z)))]) (rd:=[d*16]) (c:=decide (n<=n∧0<=n∧n.toNat*by_<=140737488355328∧n.toNat<=140737488355328)&&((g z).cells.length==sz+1)) hw hd (fun m=>?_) ?_ h
 ·simp only [jr,ho,hx,hy,hd,Option.getD_some,j8,ht,hsz,hby,hz,M.bind,M.js,hb,M.jb]
  rfl
 ·simp [hc,hzk]
theorem WO.appZ{α:Type}{g:α->PD}{z:α}{n:Int}{r:List α}{t t' e:TypeId}{x y:Operand}{c:Call}{k q:IntKind}{sz by_:Nat}(hg:mkZ n z by_=some r)(hzk:(g z).cells.length=sz+1)(hne:(decide (t=t'))=false)(hw:iV ops (A R B) o=some true)(hd:o.dst=some d)(ho:o.op= .call c)
  (hc:c.callee= .builtin .append) (ha:c.args.toList=[x,y]) (hat:c.argTypes= #[t,t']) (hx:(A R B).opd x=some .iZ) (hy:(A R B).opd y=some (.d (.int k n)))
  (hb:assoc B (d*16)=none) (ht:ke P t=some e) (ht':P.underlying t'=some (.int q)) (hsz:szT P e=some (sz+1)) (hby:kG P e=some by_) (hz:(jS P e).bind jW=some (g z))
  (h:WO P H ext mt ops l ((d,.ref (d*16) 0)::R) ((d*16,.arr 0 e (r.map g))::B) fun R' B' ts=>K R' B' (⟨[d*16],[d*16]⟩::ts)):WO P H ext mt ops (o::l) R B K:=by
 unfold mkZ at hg
 split at hg
 rotate_left
 ·cases hg
 rename_i hcc
 cases hg
 rw [List.map_replicate]at h
 refine WO.step (u:=[(d*16,.arr 0 e (List.replicate n.toNat (g z)))]) (rd:=[d*16]) (c:=decide (0<n∧n.toNat*by_<=140737488355328∧n.toNat<=140737488355328)&&((g z).cells.length==sz+1)) hw hd (fun m=>?_) ?_ h
 ·have ho2:k9 (A R B) c.args.toList=some [.iZ,.d (.int k n)]:=by simp only [ha,k9,hx,hy]
  simp only [jr,ho,hc,ho2,hat,hd,Option.getD_some]
  have hif:∀(m m':M (RV×Ups)),(if(#[t,t']:Array TypeId).size=2 then m else m')=m:=fun _ _=>if_pos rfl
  rw [hif,if_neg (show ¬(#[t,t']:Array TypeId).getD 0 0=(#[t,t']:Array TypeId).getD 1 0 from of_decide_eq_false hne)]
  show nA P _ t t' _ _ _=_
  simp only [nA,ht,ht',hsz,hby,hz,M.bind,M.js,hb,M.jb]
  rfl
 ·simp [hcc,hzk]
theorem nu.int{kt:TypeId}{q:IntKind}(h:P.underlying kt=some (.int q)):nu P kt (PD.int q) (fun a b=>a==b):=
 ⟨fun a b=>by simp [pU,lW,lH],fun a=>by simp [kH,ly,h],fun a b hab=>by simpa [nf,mz]using hab⟩
theorem nu.str{kt:TypeId}(h:P.underlying kt=some .string):nu P kt PD.str (fun a b=>a==b):=
 ⟨fun a b=>by simp [pU,lW,lH],fun a=>by simp [kH,ly,h],fun a b hab=>by simpa [nf,mz]using hab⟩
end
section
variable {P:Program}{H:Hints}{ext:FuncId->Option jd}{mt:Hf}{ops:Array Oper}{l:List Oper}{R:List (Nat×RV)}{B:List (Nat×Box)}{K:List (Nat×RV)->List (Nat×Box)->List Tr->Prop}{o:Oper}
end
section
variable {P:Program}{H:Hints}{ext:FuncId->Option jd}{mt:Hf}{ops:Array Oper}{l:List Oper}{R:List (Nat×RV)}{B:List (Nat×Box)}{K:List (Nat×RV)->List (Nat×Box)->List Tr->Prop}{o:Oper}{d:Nat}
end
end Go.Dw
