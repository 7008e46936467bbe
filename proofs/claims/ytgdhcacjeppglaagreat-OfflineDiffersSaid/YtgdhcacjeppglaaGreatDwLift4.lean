
import Derived.Test.YtgdhcacjeppglaaGreatDwWp
open Bool renaming and_eq_true->Ac, false_eq_true->Aj

namespace Go.Dw
abbrev EvP(P:Program)(H:Hints)(ext:FuncId->Option cB)(f:FuncId)(args:List RV)(bs:List Box)(p:RV×List Box):Prop:=Ev P H ext f args bs p.1 p.2
def e8{α:Type}(l:List α)(n:Int):Option α:=if 0<=n then l[n.toNat]? else none
def cutO{α:Type}(l:List α)(a b:Int):Option (List α):=if 0<=a∧a<=b∧b<=l.length then some ((l.drop a.toNat).take (b.toNat-a.toNat))else none
def gJ{α:Type}(l m:List α)(bytes:Nat):Option (List α):=if(l.length+m.length)*bytes<=140737488355328 then some (l++m)else none
def shlO(k:IntKind)(x y:Int):Option Int:=if y<0 then none else some (shlI k x y)
def shrO(k:IntKind)(x y:Int):Option Int:=if y<0 then none else some (shrI k x y)
def quoO(k:IntKind)(x y:Int):Option Int:=if y=0 then none else some (k.wrap (x.tdiv y))
def remO(x y:Int):Option Int:=if y=0 then none else some (x.tmod y)
def setO{α:Type}(l:List α)(n:Int)(y:α):Option (List α):=if 0<=n∧n<l.length then some (l.set n.toNat y)else none
def inO{α:Type}(l:List α)(n:Int):Option Unit:=if 0<=n∧n<l.length then some ()else none
theorem la{α:Type}{l:List α}{n:Int}{x:α}(h:e8 l n=some x):0<=n∧n<l.length∧l[n.toNat]? =some x:=by
 unfold e8 at h
 split at h
 ·rename_i a
  have:=(List.getElem?_eq_some_iff.1 h).1
  exact⟨a,om,h⟩
 ·cases h
theorem oc{α:Type}{l r:List α}{a b:Int}(h:cutO l a b=some r):(0<=a∧a<=b∧b<=l.length)∧r=(l.drop a.toNat).take (b.toNat-a.toNat):=by
 unfold cutO at h;split at h
 ·cases h;exact⟨by assumption,rfl⟩
 ·cases h
theorem kU{α:Type}{l m r:List α}{b:Nat}(h:gJ l m b=some r):(l.length+m.length)*b<=140737488355328∧r=l++m:=by
 unfold gJ at h;split at h
 ·cases h;exact⟨by assumption,rfl⟩
 ·cases h
theorem oa{α β:Type}{m:Option α}{k:α->Option β}{r:β}(h:m.bind k=some r){G:Prop}(hk:∀x,m=some x->k x=some r->G):G:=by
 cases m with
 |none=>cases h
 |some x=>exact hk x rfl h
theorem gN{β:Type}{t:Bool}{a b:Option β}{r:β}(h:(if t=true then a else b)=some r){G:Prop}(h1:t=true->a=some r->G)(c:t=false->b=some r->G):G:=by
 cases t with
 |true=>exact h1 rfl h
 |false=>exact c rfl h
theorem dp{α:Type}(g:α->PD)(l:List α):RV.d (.int .i64 ((l.map g).length:Nat))=RV.d (.int .i64 (l.length:Nat)):=by rw [List.length_map]
inductive dK(σ ω:Type)where
 |next (s:σ)
 |stop (o:ω)
def gC{σ ω:Type}(body:σ->Option (dK σ ω)):Nat->σ->Option ω
 |0,_=>none
 |n+1,s=>
  match body s with
  |some (.next s')=>gC body n s'
  |some (.stop o)=>some o
  |none=>none
theorem ir{σ ω:Type}{body:σ->Option (dK σ ω)}:∀{n m:Nat}{s:σ}{o:ω},gC body n s=some o->n<=m->gC body m s=some o
 |0,_,_,_,h,_=>by cases h
 |n+1,0,_,_,_,hm=>by omega
 |n+1,m+1,s,o,h,hm=>by
  simp only [gC]at h⊢
  rcases hb:body s with _|(s'|a)
  ·simp [hb]at h
  ·simp only [hb]at h⊢;exact ir h om
  ·simp only [hb]at h⊢;exact h
open Classical in
noncomputable def dk {σ ω:Type} (body:σ->Option (dK σ ω)) (s:σ):Option ω:=if h:∃n o,gC body n s=some o then some h.choose_spec.choose else none
theorem kl{σ ω:Type}{body:σ->Option (dK σ ω)}{n:Nat}{s:σ}{o:ω}(h:gC body n s=some o):dk body s=some o:=by
 have he:∃n o,gC body n s=some o:=⟨n,o,h⟩
 unfold dk
 rw [dif_pos he]
 have b:=he.choose_spec.choose_spec
 have c:=ir h (Nat.le_max_left n he.choose)
 have a:=ir b (Nat.le_max_right n he.choose)
 rw [c]at a
 exact a.symm
theorem iu{σ ω:Type}{body:σ->Option (dK σ ω)}{s:σ}{o:ω}(h:dk body s=some o):∃n,gC body n s=some o:=by
 unfold dk at h
 split at h
 ·rename_i he
  cases h
  exact⟨_,he.choose_spec.choose_spec⟩
 ·cases h
theorem gm{σ ω:Type}{body:σ->Option (dK σ ω)}{s s':σ}(h:body s=some (.next s')):dk body s=dk body s':=by
 cases h1:dk body s' with
 |some o=>
  obtain⟨n,a⟩:=iu h1
  exact kl (n:=n+1) (by simp only [gC,h];exact a)
 |none=>
  cases b:dk body s with
  |none=>rfl
  |some o=>
   obtain⟨n,a⟩:=iu b
   cases n with
   |zero=>cases a
   |succ n=>
    simp only [gC,h]at a
    rw [kl a]at h1
    cases h1
theorem fp{σ ω:Type}{body:σ->Option (dK σ ω)}{s:σ}{o:ω}(h:body s=some (.stop o)):dk body s=some o:=
 kl (n:=1) (by simp only [gC,h])
open Classical in
section
variable {P:Program}{H:Hints}{ext:FuncId->Option cB}{f:FuncId}{nb:Nat}{R:List (Nat×RV)}{B:List (Nat×Box)}{Q:Ex->List (Nat×RV)->List (Nat×Box)->Prop}
theorem WL.gq{σ ω:Type}{body:σ->Option (dK σ ω)}{b:Code}{s0:σ}{o:ω}(h:dk body s0=some o)(I:σ->List (Nat×RV)->List (Nat×Box)->Prop)(k:ω->Ex->List (Nat×RV)->List (Nat×Box)->Prop)(m:I s0 R B)
  (a:∀s R B x,I s R B->body s=some x->WC P H ext f nb b R B fun e g c=>match x with| .next s'=>e= .normal∧I s' g c| .stop p=>e≠ .normal∧k p e g c)
  (r:∀e g c,e≠ .normal->k o e g c->Q e g c):WL P H ext f nb b R B Q:=by
 obtain⟨n,i⟩:=iu h
 clear h
 induction n generalizing s0 R B with
 |zero=>cases i
 |succ n u=>
  simp only [gC]at i
  rcases hb:body s0 with _|(s'|p)
  ·simp [hb]at i
  ·simp only [hb]at i
   obtain⟨e,g,c,j,he,q⟩:=a s0 R B _ m hb
   subst he
   exact WL.round ⟨.normal,g,c,j,u q i⟩
  ·simp only [hb,Option.some.injEq]at i
   subst i
   obtain⟨e,g,c,j,he,t⟩:=a s0 R B _ m hb
   refine WL.round ⟨e,g,c,j,?_⟩
   have:=r e g c he t
   cases e with
   |normal=>exact(he rfl).elim
   |exit id=>exact this
   |ret=>exact this
theorem WC.join{α:Type}{a b:Code}(I:α->List (Nat×RV)->List (Nat×Box)->Prop)(G:α->Prop)(h1:WC P H ext f nb a R B fun e g c=>match e with| .normal=>∃x,I x g c∧G x|e=>Q e g c)
  (i:∀x g c,I x g c->G x->WC P H ext f nb b g c Q):WC P H ext f nb (.seq a b) R B Q:=by
 refine WC.seq ?_
 obtain⟨e,g,c,m,h⟩:=h1
 refine⟨e,g,c,m,?_⟩
 cases e with
 |normal=>obtain⟨x,k,j⟩:=h;exact i x g c k j
 |exit id=>exact h
 |ret=>exact h
end
section
variable {P:Program}{H:Hints}{ext:FuncId->Option cB}{mt:Hf}{ops:Array Oper}{l:List Oper}{R:List (Nat×RV)}{B:List (Nat×Box)}{K:List (Nat×RV)->List (Nat×Box)->List Tr->Prop}{o:Oper}{d:Nat}
theorem WO.s0{v v':RV}{rd:List Nat}(hw:cu ops (A R B) o=some true)(hd:o.dst=some d)(he:∀n,cX P mt (c7 P H ext n) (A R B) o (assoc B)=some ((v,[]),rd,true))(c:v=v')
  (h:WO P H ext mt ops l ((d,v')::R) B fun b a ts=>K b a (⟨rd,[]⟩::ts)):WO P H ext mt ops (o::l) R B K:=by
 subst c
 exact WO.step (u:=[]) hw hd he rfl h
theorem WO.s1{v:RV}{id:Nat}{a:Box}{rd:List Nat}(hw:cu ops (A R B) o=some true)(hd:o.dst=some d)(he:∀n,cX P mt (c7 P H ext n) (A R B) o (assoc B)=some ((v,[(id,a)]),rd,true))
  (h:WO P H ext mt ops l ((d,v)::R) ((id,a)::B) fun c b ts=>K c b (⟨rd,[id]⟩::ts)):WO P H ext mt ops (o::l) R B K:=
 WO.step (u:=[(id,a)]) hw hd he rfl h
theorem WO.n1{v:RV}{id:Nat}{a:Box}{rd:List Nat}(hw:cu ops (A R B) o=some true)(hd:o.dst=none)(he:∀n,cX P mt (c7 P H ext n) (A R B) o (assoc B)=some ((v,[(id,a)]),rd,true))
  (h:WO P H ext mt ops l R ((id,a)::B) fun c b ts=>K c b (⟨rd,[id]⟩::ts)):WO P H ext mt ops (o::l) R B K:=
 WO.stepN (u:=[(id,a)]) hw hd he rfl h
theorem WO.bin{op:BinOp}{t t':TypeId}{x y:Operand}{a b:RV}{p:PD}(he:binT P op t a b=some (p,true))(hw:cu ops (A R B) o=some true)(hd:o.dst=some d)(ho:o.op= .binOp op t x y t')(g:(A R B).opd x=some a)(i:(A R B).opd y=some b)
  (h:WO P H ext mt ops l ((d,.d p)::R) B fun e c ts=>K e c (⟨[],[]⟩::ts)):WO P H ext mt ops (o::l) R B K:=by
 refine WO.s0 (rd:=[]) hw hd (fun n=>?_) rfl h
 simp only [cX,ho,g,i,binX,he]
 rfl
theorem WO.binS{op:BinOp}{t t':TypeId}{x y:Operand}{a c:RV}{b b':Bool}(he:binT P op t a c=some (.bool b,true))(hb:b=b')(hw:cu ops (A R B) o=some true)(hd:o.dst=some d)(ho:o.op= .binOp op t x y t')(i:(A R B).opd x=some a)(j:(A R B).opd y=some c)
  (h:WO P H ext mt ops l ((d,.d (.bool b'))::R) B fun g e ts=>K g e (⟨[],[]⟩::ts)):WO P H ext mt ops (o::l) R B K:=by
 subst hb
 exact WO.bin he hw hd ho i j h
theorem WO.split{b:Bool}{rd:List Nat}(hw:cu ops (A R B) o=some true)(hd:o.dst=some d)(he:∀n,cX P mt (c7 P H ext n) (A R B) o (assoc B)=some ((.d (.bool b),[]),rd,true))
  (h:WO P H ext mt ops l ((d,.d (.bool b))::R) B fun c a ts=>K c a (⟨rd,[]⟩::ts)):WO P H ext mt ops (o::l) R B K:=
 WO.step (u:=[]) hw hd he rfl h
theorem WO.elemG{α:Type}{g:α->PD}{li:List α}{t e:TypeId}{x i:Operand}{k:IntKind}{n:Int}{sz:Nat}{y:α}{cs:List PD}(v:e8 li n=some y)(hw:cu ops (A R B) o=some true)(hd:o.dst=some d)(ho:o.op= .indexAddr t x i)(C:(A R B).opd x=some (.d (.lst (li.map g))))(z:(A R B).opd i=some (.d (.int k n)))
  (ht:P.underlying t=some (.slice e)) (D:szT P e=some sz) (hc:(g y).cells=cs) (a:cs.length=sz)
  (h:WO P H ext mt ops l ((d,.cptr cs)::R) B fun q p ts=>K q p (⟨[],[]⟩::ts)):WO P H ext mt ops (o::l) R B K:=by
 subst hc
 obtain⟨r,h1,s⟩:=la v
 have b:(li.map g).getD n.toNat default=g y:=by simp [s]
 have j:0<=n∧n<(li.map g).length:=by simpa using⟨r,h1⟩
 refine WO.step (u:=[]) (rd:=[]) (c:=true) hw hd (fun m=>?_) rfl h
 simp only [cX,ho,C,z,dn,ht,D,b,j,a,and_self,decide_true,beq_self_eq_true,Bool.and_true]
 rfl
theorem WO.cutL{α:Type}{g:α->PD}{t e:TypeId}{x:Operand}{p n:Option Operand}{li r:List α}{q j:Option RV}{a b:Int}{sz:Nat}(C:cutO li a b=some r)(hsz:∀x,(g x).cells.length=sz)(k:mt.lit (o.dst.getD 0)=false)(hw:cu ops (A R B) o=some true)(hd:o.dst=some d)(ho:o.op= .slice t x p n none)(E:(A R B).opd x=some (.d (.lst (li.map g))))(ht:P.underlying t=some (.slice e))(F:szT P e=some sz)
  (hl:dv (A R B) p=some q) (D:dv (A R B) n=some j) (z:bnd q 0=some a) (hb:bnd j li.length=some b)
  (h:WO P H ext mt ops l ((d,.d (.lst (r.map g)))::R) B fun v s ts=>K v s (⟨[],[]⟩::ts)):WO P H ext mt ops (o::l) R B K:=by
 obtain⟨h1,rfl⟩:=oc C
 have i:bnd j ((li.map g).length:Nat)=some b:=by simpa using hb
 have he:(((li.drop a.toNat).take (b.toNat-a.toNat)).map g)=cut (li.map g) a.toNat (hiOf j b):=by
  rw [fM (li.map g) j a b i (by simpa using h1)];simp
 rw [he]at h
 refine WO.step (u:=[]) (rd:=[]) (c:=decide (0<=a∧a<=b∧b<=(li.map g).length)&&(li.map g).all (fun e=>e.cells.length==sz)) hw hd (fun m=>?_) ?_ h
 ·have y:dv (A R B) none=some none:=rfl
  simp only [cX,ho,E,hl,D,y,k,Aj,if_false,dx,ht,z,i,F]
  rfl
 ·simp only [Ac,decide_eq_true_eq]
  refine⟨by simpa using h1,?_⟩
  simp [hsz]
theorem WO.remG{t t':TypeId}{x y:Operand}{k k':IntKind}{a b r:Int}(e:remO a b=some r)(hw:cu ops (A R B) o=some true)(hd:o.dst=some d)(ho:o.op= .binOp .rem t x y t')(j:(A R B).opd x=some (.d (.int k a)))(m:(A R B).opd y=some (.d (.int k' b)))(hk:k=k')
  (h:WO P H ext mt ops l ((d,.d (.int k r))::R) B fun i g ts=>K i g (⟨[],[]⟩::ts)):WO P H ext mt ops (o::l) R B K:=by
 subst hk
 unfold remO at e
 split at e
 ·cases e
 ·rename_i hb
  cases e
  refine WO.step (u:=[]) (rd:=[]) (c:=b != 0) hw hd (fun n=>?_) (by simpa using hb) h
  simp only [cX,ho,j,m,binX,binT,binPD,if_true,kk]
  rfl
theorem mX{P:Program}{id:Nat}{t t':TypeId}{s y:RV}{b:cI}{r:List PD×List Nat×Bool}(h:dB y b=some r)(a:∀i q n,s≠ .rfn i q n):dI P id t t' s y b=dU P id t t' s y b:=by
 cases y<;>first|(cases s<;>first|rfl|exact(a _ _ _ rfl).elim)|cases h
theorem n5{P:Program}{id:Nat}{t t':TypeId}{s:RV}{p:PD}{b:cI}(a:∀i q n,s≠ .rfn i q n):dI P id t t' s (.d p) b=dU P id t t' s (.d p) b:=by
 cases s<;>first|rfl|exact(a _ _ _ rfl).elim
theorem WO.appR{α:Type}{g:α->PD}{li m r:List α}{t e:TypeId}{x y:Operand}{c:Call}{id ver sz by_:Nat}{z:Value}(C:gJ li m (by_+1)=some r)(hsz:∀x,(g x).cells.length=sz+1)(hw:cu ops (A R B) o=some true)(hd:o.dst=some d)(ho:o.op= .call c)
  (hc:c.callee= .builtin .append) (v:c.args.toList=[x,y]) (a:c.argTypes= #[t,t]) (D:(A R B).opd x=some (.ref id ver)) (E:(A R B).opd y=some (.d (.lst (m.map g))))
  (hb:assoc B id=some (.arr ver e (li.map g))) (ht:dm P t=some e) (F:szT P e=some (sz+1)) (b:dV P e=some (by_+1)) (p:df P e=some z) (k:z.cells.size=sz+1)
  (h:WO P H ext mt ops l ((d,.ref id (ver+1))::R) ((id,.arr (ver+1) e (r.map g))::B) fun s q ts=>K s q (⟨[id],[id]⟩::ts)):WO P H ext mt ops (o::l) R B K:=by
 obtain⟨h1,rfl⟩:=kU C
 rw [List.map_append]at h
 refine WO.step (u:=[(id,.arr (ver+1) e (li.map g++m.map g))]) (rd:=[id]) (c:=decide (((li.map g).length+(m.map g).length)*(by_+1)<=140737488355328)&&(m.map g).all (fun e=>e.cells.length==sz+1)) hw hd (fun n=>?_) ?_ h
 ·have j:fe (A R B) c.args.toList=some [.ref id ver,.d (.lst (m.map g))]:=by simp only [v,fe,D,E]
  simp only [cX,ho,hc,j,a]
  have i:∀(m G:M (RV×Ups)),(if(#[t,t]:Array TypeId).size=2 then m else G)=m:=fun _ _=>if_pos rfl
  rw [i,if_pos (show(#[t,t]:Array TypeId).getD 0 0=(#[t,t]:Array TypeId).getD 1 0 from rfl)]
  show dI P _ t t _ _ _=_
  rw [n5 (fun _ _ _ h=>by cases h)]
  simp only [dU,ht,F,b,p,k,and_self,if_true,M.bind,dB,M.pure,M.get,hb,M.cr]
  simp
 ·simp only [Ac,decide_eq_true_eq]
  exact⟨by simpa using h1,by simp [hsz]⟩
theorem WO.lenR{α:Type}{g:α->PD}{li:List α}{t e:TypeId}{x:Operand}{c:Call}{id ver:Nat}(hw:cu ops (A R B) o=some true)(hd:o.dst=some d)(ho:o.op= .call c)
  (hc:c.callee= .builtin .len) (k:c.args.toList=[x]) (a:c.argTypes= #[t]) (m:(A R B).opd x=some (.ref id ver)) (hb:assoc B id=some (.arr ver e (li.map g))) (ht:P.underlying t=some (.slice e))
  (h:WO P H ext mt ops l ((d,.d (.int .i64 (li.length:Int)))::R) B fun j i ts=>K j i (⟨[id],[]⟩::ts)):WO P H ext mt ops (o::l) R B K:=by
 refine WO.step (u:=[]) (rd:=[id]) (c:=true) hw hd (fun n=>?_) rfl h
 have b:fe (A R B) c.args.toList=some [.ref id ver]:=by simp only [k,fe,m]
 simp only [cX,ho,hc,b,a]
 show lenD P t _ _=_
 simp [lenD,ht,M.bind,M.get,hb,cQ,M.pure]
theorem WO.eltG{α:Type}{g:α->PD}{li:List α}{t e:TypeId}{x i:Operand}{k:IntKind}{n:Int}{id ver sz:Nat}{y:Unit}(a:inO li n=some y)(hw:cu ops (A R B) o=some true)(hd:o.dst=some d)(ho:o.op= .indexAddr t x i)(r:(A R B).opd x=some (.ref id ver))(p:(A R B).opd i=some (.d (.int k n)))
  (hb:assoc B id=some (.arr ver e (li.map g))) (ht:P.underlying t=some (.slice e)) (s:szT P e=some sz)
  (h:WO P H ext mt ops l ((d,.elt id ver n.toNat 0)::R) B fun j b ts=>K j b (⟨[id],[]⟩::ts)):WO P H ext mt ops (o::l) R B K:=by
 have q:0<=n∧n<li.length:=by unfold inO at a;split at a<;>first|assumption|cases a
 refine WO.step (u:=[]) (rd:=[id]) (c:=decide (0<=n∧n<(li.map g).length)) hw hd (fun m=>?_) (by simpa using q) h
 simp only [cX,ho,r,p,dn,ht,s,M.bind,M.get,hb,and_self,if_true,cK,M.cr]
 simp
theorem WO.loadE{α:Type}{g:α->PD}{li:List α}{t e:TypeId}{a:Operand}{n:Int}{id ver off:Nat}{y:α}{v:RV}(q:e8 li n=some y)(hw:cu ops (A R B) o=some true)(hd:o.dst=some d)(ho:o.op= .load t a)(p:(A R B).opd a=some (.elt id ver n.toNat off))
  (hb:assoc B id=some (.arr ver e (li.map g))) (r:ep P t ((g y).cells.drop off) (assoc B)=some ((v,[]),[],true))
  (h:WO P H ext mt ops l ((d,v)::R) B fun i b ts=>K i b (⟨[id],[]⟩::ts)):WO P H ext mt ops (o::l) R B K:=by
 obtain⟨s,h1,j⟩:=la q
 refine WO.step (u:=[]) (rd:=[id]) (c:=true) hw hd (fun m=>?_) rfl h
 have k:(li.map g)[n.toNat]? =some (g y):=by simp [j]
 simp only [cX,ho,p,e7,M.bind,M.get,hb,if_true,k,r]
 simp
end
end Go.Dw
attribute [irreducible] Go.Dw.quoO Go.Dw.remO Go.Dw.shlO Go.Dw.shrO
namespace Go.Dw
def subO(n:Nat)(b a:Int):Option Unit:=if 0<=b∧b<=a∧a<=n then some ()else none
def viewO(len b a:Nat):Option Unit:=if b<=a∧a<=len then some ()else none
def partO{α:Type}(li:List α)(b a:Nat):Option (List α):=if b<=a∧a<=li.length then some ((li.drop b).take (a-b))else none
section
variable {P:Program}{H:Hints}{ext:FuncId->Option cB}{mt:Hf}{ops:Array Oper}{l:List Oper}{R:List (Nat×RV)}{B:List (Nat×Box)}{K:List (Nat×RV)->List (Nat×Box)->List Tr->Prop}{o:Oper}{d:Nat}
end
end Go.Dw
namespace Go.Dw
section
variable {P:Program}{H:Hints}{ext:FuncId->Option cB}{f:FuncId}{nb:Nat}{R:List (Nat×RV)}{B:List (Nat×Box)}{Q:Ex->List (Nat×RV)->List (Nat×Box)->Prop}
end
end Go.Dw
namespace Go.Dw
def modO{α:Type}(l:List α)(n:Int)(f:α->α):Option (List α):=
 if 0<=n then(match l[n.toNat]? with|some x=>some (l.set n.toNat (f x))|none=>none)else none
theorem ot{α:Type}{l r:List α}{n:Int}{f:α->α}(h:modO l n f=some r):0<=n∧∃c:n.toNat<l.length,r=l.set n.toNat (f l[n.toNat]):=by
 unfold modO at h
 split at h
 ·rename_i a
  split at h
  ·rename_i x b
   cases h
   obtain⟨h1,rfl⟩:=List.getElem?_eq_some_iff.1 b
   exact⟨a,h1,rfl⟩
  ·cases h
 ·cases h
section
variable {P:Program}{H:Hints}{ext:FuncId->Option cB}{mt:Hf}{ops:Array Oper}{l:List Oper}{R:List (Nat×RV)}{B:List (Nat×Box)}{K:List (Nat×RV)->List (Nat×Box)->List Tr->Prop}{o:Oper}
theorem WO.l5{α:Type}{g:α->PD}{f:α->α}{li r:List α}{t e:TypeId}{a x:Operand}{n:Int}{id ver off sz:Nat}{v:RV}{p:PD}{u:Ups}{rd:List Nat}(E:modO li n f=some r)(q:∀x,(g x).put off p.cells=g (f x))
  (b:∀x,off+sz<=(g x).cells.length) (hw:cu ops (A R B) o=some true) (hd:o.dst=none) (ho:o.op= .store t a x) (D:(A R B).opd a=some (.elt id ver n.toNat off)) (G:(A R B).opd x=some v)
  (hb:assoc B id=some (.arr ver e (li.map g))) (I:szT P t=some sz) (F:v.sized=true) (s:eX v (assoc B)=some ((p,u),rd,true)) (j:(u.map (·.1)).contains id=false) (k:p.cells.length=sz)
  (h:WO P H ext mt ops l R (kJ (u++[(id,Box.arr ver e (r.map g))]) B) fun z y ts=>K z y (⟨[id]++rd,(u++[(id,Box.arr ver e (r.map g))]).map (·.1)⟩::ts)):WO P H ext mt ops (o::l) R B K:=by
 obtain⟨h1,i,rfl⟩:=ot E
 have C:(li.map g)[n.toNat]? =some (g li[n.toNat]):=by simp [i]
 rw [List.map_set, <-q li[n.toNat]]at h
 refine WO.stepN (v:= .undef) (u:=u++[(id,.arr ver e ((li.map g).set n.toNat ((g li[n.toNat]).put off p.cells)))]) (rd:=[id]++rd) (c:=v.sized&&decide (p.cells.length=sz∧off+sz<=(g li[n.toNat]).cells.length)) hw hd (fun m=>?_) ?_ h
 ·simp only [cX,ho,D,G,gT,I,M.bind,M.get,hb,if_true,s,C,j,M.cr]
  simp [M.cr]
 ·simp [F,k,b]
theorem WO.appRG{s:RV}{rd:List Nat}{α:Type}{g:α->PD}{li m r:List α}{t e:TypeId}{x y:Operand}{c:Call}{id ver sz by_ d:Nat}{z:Value}(E:gJ li m (by_+1)=some r)(hsz:∀x,(g x).cells.length=sz+1)(hw:cu ops (A R B) o=some true)(hd:o.dst=some d)(ho:o.op= .call c)
  (hc:c.callee= .builtin .append) (D:c.args.toList=[x,y]) (b:c.argTypes= #[t,t]) (F:(A R B).opd x=some (.ref id ver)) (G:(A R B).opd y=some s) (a:dB s (assoc B)=some (m.map g,rd,true))
  (hb:assoc B id=some (.arr ver e (li.map g))) (ht:dm P t=some e) (I:szT P e=some (sz+1)) (i:dV P e=some (by_+1)) (q:df P e=some z) (p:z.cells.size=sz+1)
  (h:WO P H ext mt ops l ((d,.ref id (ver+1))::R) ((id,.arr (ver+1) e (r.map g))::B) fun C v ts=>K C v (⟨rd++[id],[id]⟩::ts)):WO P H ext mt ops (o::l) R B K:=by
 obtain⟨h1,rfl⟩:=kU E
 rw [List.map_append]at h
 refine WO.step (u:=[(id,.arr (ver+1) e (li.map g++m.map g))]) (rd:=rd++[id]) (c:=decide (((li.map g).length+(m.map g).length)*(by_+1)<=140737488355328)&&(m.map g).all (fun e=>e.cells.length==sz+1)) hw hd (fun n=>?_) ?_ h
 ·have k:fe (A R B) c.args.toList=some [.ref id ver,s]:=by simp only [D,fe,F,G]
  simp only [cX,ho,hc,k,b]
  have j:∀(m J:M (RV×Ups)),(if(#[t,t]:Array TypeId).size=2 then m else J)=m:=fun _ _=>if_pos rfl
  rw [j,if_pos (show(#[t,t]:Array TypeId).getD 0 0=(#[t,t]:Array TypeId).getD 1 0 from rfl)]
  show dI P _ t t _ _ _=_
  rw [mX a (fun _ _ _ h=>by cases h)]
  simp only [dU,ht,I,i,q,p,and_self,if_true,M.bind,a,M.pure,M.get,hb,M.cr]
  simp
 ·simp only [Ac,decide_eq_true_eq]
  exact⟨by simpa using h1,by simp [hsz]⟩
end
end Go.Dw
namespace Go.Dw
def mGet{κ β:Type}(eq:κ->κ->Bool)(k:κ)(z:β):List (κ×β)->β
 | []=>z
 |e::r=>if eq k e.1=true then e.2 else mGet eq k z r
def mHas{κ β:Type}(eq:κ->κ->Bool)(k:κ):List (κ×β)->Bool
 | []=>false
 |e::r=>if eq k e.1=true then true else mHas eq k r
def mPut{κ β:Type}(eq:κ->κ->Bool)(k:κ)(v:β):List (κ×β)->List (κ×β)
 | []=>[(k,v)]
 |e::r=>if eq k e.1=true then(k,v)::r else e::mPut eq k v r
def mkO{α:Type}(n:Int)(z:α)(bytes:Nat):Option (List α):=if 0<=n∧n.toNat*bytes<=140737488355328∧n.toNat<=140737488355328 then some (List.replicate n.toNat z)else none
section
variable {P:Program}
theorem kr{κ β:Type}{g:κ->PD}{gv:β->PD}{eq:κ->κ->Bool}{s:TypeId}(m:∀a b,iO P s (g a) (g b)=some (eq a b))(k:κ)(z:β):∀(li:List (κ×β))(i:Nat),
  (mHas eq k li=false∧mGet eq k z li=z∧cO P s (g k) (li.map fun e=>(g e.1,gv e.2)) i=some none∧∀v,mPut eq k v li=li++[(k,v)])∨
  ∃j x,mHas eq k li=true∧eq k x=true∧cO P s (g k) (li.map fun e=>(g e.1,gv e.2)) i=some (some (i+j,g x,gv (mGet eq k z li)))∧∀v,mPut eq k v li=li.set j (k,v)
 | [],i=>.inl ⟨rfl,rfl,rfl,fun _=>rfl⟩
 |(x,v)::r,i=>by
  cases c:eq k x with
  |true=>exact .inr ⟨0,x,by simp [mHas,c],c,by simp [cO,m,c,mGet],fun v'=>by simp [mPut,c]⟩
  |false=>
   rcases kr m k z r (i+1)with⟨h1,n,p,q⟩|⟨j,y,h1,n,p,q⟩
   ·exact .inl ⟨by simp [mHas,c,h1],by simp [mGet,c,n],by simp [cO,m,c];exact p,fun v'=>by simp [mPut,c,q]⟩
   ·refine .inr ⟨j+1,y,by simp [mHas,c,h1],n,?_,fun v'=>by simp [mPut,c,q]⟩
    simp only [List.map_cons,cO,m,c]
    rw [p,show i+1+j=i+(j+1)by omega]
    simp [mGet,c]
end
section
variable {P:Program}{H:Hints}{ext:FuncId->Option cB}{mt:Hf}{ops:Array Oper}{l:List Oper}{R:List (Nat×RV)}{B:List (Nat×Box)}{K:List (Nat×RV)->List (Nat×Box)->List Tr->Prop}{o:Oper}{d:Nat}
structure KeyT(P:Program)(kt:TypeId){κ:Type}(gk:κ->PD)(eq:κ->κ->Bool):Prop where
 feq:∀a b,iO P kt (gk a) (gk b)=some (eq a b)
 kind:∀a,di P kt (gk a)=true
 same:∀a b,eq a b=true->ix (gk a) (gk b)=true
theorem WO.sU{v:RV}{u:Ups}{rd:List Nat}(hw:cu ops (A R B) o=some true)(hd:o.dst=some d)(he:∀n,cX P mt (c7 P H ext n) (A R B) o (assoc B)=some ((v,u),rd,true))
  (h:WO P H ext mt ops l ((d,v)::R) (kJ u B) fun b a ts=>K b a (⟨rd,u.map (·.1)⟩::ts)):WO P H ext mt ops (o::l) R B K:=WO.step hw hd he rfl h
theorem WO.strU{li:List Int}{src dst e:TypeId}{x:Operand}(hw:cu ops (A R B) o=some true)(hd:o.dst=some d)(ho:o.op= .convert src dst x)(g:(A R B).opd x=some (.d (.lst (li.map (.int .u8)))))(c:P.underlying src=some (.slice e))(ht:P.underlying dst=some .string)(he:P.underlying e=some (.int .u8))
  (h:WO P H ext mt ops l ((d,.d (.str (Dw.strU li)))::R) B fun b a ts=>K b a (⟨[],[]⟩::ts)):WO P H ext mt ops (o::l) R B K:=by
 refine WO.s0 (rd:=[]) hw hd (fun m=>?_) rfl h
 simp only [cX,ho,g,gA,c,ht,he,u8s_map]
 rfl
theorem WO.look{κ β:Type}{a:κ->PD}{gv:β->PD}{eq:κ->κ->Bool}{k:κ}{z:β}{li:List (κ×β)}{t g i:TypeId}{x y:Operand}{id:Nat}(c:KeyT P g a eq)(u:(df P i).bind ey=some (gv z))(hw:cu ops (A R B) o=some true)(hd:o.dst=some d)(ho:o.op= .lookup t x y false)(m:(A R B).opd x=some (.ptr id 0))(p:(A R B).opd y=some (.d (a k)))
  (hb:assoc B id=some (.map g i (li.map fun e=>(a e.1,gv e.2)))) (ht:P.underlying t=some (.map g i))
  (h:WO P H ext mt ops l ((d,.d (gv (mGet eq k z li)))::R) B fun r q ts=>K r q (⟨[id],[]⟩::ts)):WO P H ext mt ops (o::l) R B K:=by
 refine WO.s0 (rd:=[id]) hw hd (fun n=>?_) rfl h
 rcases kr (gv:=gv) c.feq k z li 0 with⟨-,s,b, -⟩|⟨j,v, -, -,b, -⟩
 ·simp only [cX,ho,m,p,fb,ht,M.bind,M.get,hb,true_and,c.kind,if_true,b,u,s,Aj,if_false]
  rfl
 ·simp only [cX,ho,m,p,fb,ht,M.bind,M.get,hb,true_and,c.kind,if_true,b,Aj,if_false]
  rfl
theorem KeyT.int{e:TypeId}{q:IntKind}(h:P.underlying e=some (.int q)):KeyT P e (PD.int q) (fun a b=>a==b):=
 ⟨fun a b=>by simp [iO,dL,e9],fun a=>by simp [di,eD,h],fun a b c=>by simpa [ix,hJ]using c⟩
theorem KeyT.str{e:TypeId}(h:P.underlying e=some .string):KeyT P e PD.str (fun a b=>a==b):=
 ⟨fun a b=>by simp [iO,dL,e9],fun a=>by simp [di,eD,h],fun a b c=>by simpa [ix,hJ]using c⟩
end
section
variable {P:Program}{H:Hints}{ext:FuncId->Option cB}{mt:Hf}{ops:Array Oper}{l:List Oper}{R:List (Nat×RV)}{B:List (Nat×Box)}{K:List (Nat×RV)->List (Nat×Box)->List Tr->Prop}{o:Oper}
end
section
variable {P:Program}{H:Hints}{ext:FuncId->Option cB}{mt:Hf}{ops:Array Oper}{l:List Oper}{R:List (Nat×RV)}{B:List (Nat×Box)}{K:List (Nat×RV)->List (Nat×Box)->List Tr->Prop}{o:Oper}{d:Nat}
end
end Go.Dw
