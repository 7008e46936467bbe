
import Derived.ChangeKeysEq
import Derived.Test.YtomapcboiinfdaaGreatDwAddr
import Derived.Laws.StructEq
open Option.some renaming injEq->AD
open Prod.mk renaming injEq->AF

namespace Go.Dw
section
variable {P:Program}{S:mW}{loc:nB}{w:World}
theorem V.oS{cs:List PD}{v:Value}(h:V S (.agg cs) v):∃vs,v= .agg vs∧vs.size=cs.length∧∀(i:Nat)p u,cs[i]? =some p->vs[i]? =some u->V S p u:=by
 cases h with|agg cs vs a h=>exact⟨vs,rfl,a,h⟩
theorem pF{t:TypeId}{cs:List PD}{off:Nat}{p:PD}(a:qO P t cs off=some p){vs:Array Value}
  (m:vs.size=cs.length) (k:∀(i:Nat)c x,cs[i]? =some c->vs[i]? =some x->V S c x):
  ∃v',(part t vs off).run P w= .ok v' w∧V S p v':=by
 unfold qO at a
 rcases hk:oX P t with _|⟨o,n⟩
 ·simp [hk]at a
 rw [hk]at a
 obtain⟨⟨d,j⟩,f,g⟩:=rn hk
 cases o
 rotate_left
 ·simp only at a
  split at a
  ·rename_i q
   cases a
   refine⟨.agg (vs.extract off (off+n)),by simp [part,pn t j,g,mV f],?_⟩
   refine .agg _ _ so fun i c x h1 b=>?_
   rw [List.getElem?_take]at h1
   split at h1
   ·rename_i hi
    rw [List.getElem?_drop]at h1
    refine k (off+i) c x h1 ?_
    rw [Array.getElem?_extract]at b
    split at b
    ·exact b
    ·cases b
   ·cases h1
  ·cases a
 ·simp only at a
  have e:off<vs.size:=by rw [m];exact(List.getElem?_eq_some_iff.1 a).1
  have l:vs[off]? =some vs[off]:=Array.getElem?_eq_getElem e
  refine⟨vs[off],?_,k off p _ a l⟩
  simp [part,pn t j,g,l]
theorem vz{rec:TypeId->PD->PD->Option Bool}{d:Nat}(e:∀t a b r va vb,rec t a b=some r->V S a va->V S b vb->(Op.equalIn d t va vb).run P w= .ok r w)
  {xs k:List PD} {s u:Array Value} (z:s.size=xs.length) (C:∀(i:Nat)c x,xs[i]? =some c->s[i]? =some x->V S c x)
  (g:u.size=k.length) (j:∀(i:Nat)c x,k[i]? =some c->u[i]? =some x->V S c x):
  ∀{l:List Field}{r:Bool},eqFs P rec xs k l=some r->(Op.eqFields d s u l).run P w= .ok r w
 | [],r,h=>by
  simp only [eqFs,AD]at h
  subst h
  simp [Op.eqFields]
 |f::l,r,h=>by
  simp only [eqFs]at h
  split at h
  ·cases h
  rename_i B
  rcases h1:qO P f.type xs f.offset with _|a
  ·simp [h1]at h
  rcases n:qO P f.type k f.offset with _|b
  ·simp [h1,n]at h
  simp only [h1,n]at h
  rcases m:rec f.type a b with _|p
  ·simp [m]at h
  rcases o:eqFs P rec xs k l with _|q
  ·simp [m,o]at h
  simp only [m,o,AD]at h
  subst h
  obtain⟨va,v,g1⟩:=pF (P:=P) (S:=S) (w:=w) h1 z C
  obtain⟨vb,e2,g2⟩:=pF (P:=P) (S:=S) (w:=w) n g j
  have y:=e _ _ _ _ _ _ m g1 g2
  have D:=vz e z C g j o
  cases p with
  |true=>simp [Op.eqFields,B,v,e2,y,D]
  |false=>simp [Op.eqFields,B,v,e2,y]
theorem uH{rec:PD->PD->Option Bool}{d:Nat}{e:TypeId}{k:Nat}(f:∀a b r va vb,rec a b=some r->V S a va->V S b vb->(Op.equalIn d e va vb).run P w= .ok r w)
  {xs l:List PD} {s t:Array Value} (y:s.size=xs.length) (z:∀(i:Nat)c x,xs[i]? =some c->s[i]? =some x->V S c x)
  (g:t.size=l.length) (j:∀(i:Nat)c x,l[i]? =some c->t[i]? =some x->V S c x):
  ∀{is:List Nat}{r:Bool},wD P rec e k xs l is=some r->(Op.eqItems d e k s t is).run P w= .ok r w
 | [],r,h=>by
  simp only [wD,AD]at h
  subst h
  simp [Op.eqItems]
 |i::is,r,h=>by
  simp only [wD]at h
  rcases h1:qO P e xs (i*k)with _|a
  ·simp [h1]at h
  rcases n:qO P e l (i*k)with _|b
  ·simp [h1,n]at h
  simp only [h1,n]at h
  rcases m:rec a b with _|p
  ·simp [m]at h
  rcases o:wD P rec e k xs l is with _|q
  ·simp [m,o]at h
  simp only [m,o,AD]at h
  subst h
  obtain⟨va,u,g1⟩:=pF (P:=P) (S:=S) (w:=w) h1 y z
  obtain⟨vb,e2,g2⟩:=pF (P:=P) (S:=S) (w:=w) n g j
  have v:=f _ _ _ _ _ m g1 g2
  have B:=uH f y z g j o
  cases p with
  |true=>simp [Op.eqItems,u,e2,v,B]
  |false=>simp [Op.eqItems,u,e2,v]
theorem oM:∀(d m:Nat)(t:TypeId)(x y:PD)(r:Bool)(k l:Value),vA P d t x y=some r->V S x k->V S y l->(Op.equalIn (d+m) t k l).run P w= .ok r w
 |0,m,t,x,y,r,k,l,h,g,j=>by simp [vA]at h
 |d+1,m,t,x,y,r,k,l,h,g,j=>by
  simp only [vA]at h
  rw [Nat.add_right_comm]
  split at h
  ·rename_i hu
   cases g;cases j
   cases h
   exact run_equalIn_bool' w _ t _ _ hu
  ·rename_i hu
   cases g;cases j
   split at h
   ·rename_i hk
    subst hk
    cases h
    exact run_equalIn_int w _ t _ _ _ _ hu
   ·cases h
  ·rename_i hu
   cases g;cases j
   cases h
   rw [run_equalIn_string w _ t _ _ hu]
   rw [ByteArray.toList_eq,ByteArray.toList_eq]
  ·rename_i B xs C hu
   split at h
   ·cases h
   rename_i s
   obtain⟨v,rfl,q,u⟩:=g.oS
   obtain⟨z,rfl,c,f⟩:=j.oS
   have hf:P.fieldsOf t=B:=by simp [Program.fieldsOf,hu]
   rw [run_equalIn_agg w _ t _ _ (by rw [hf];exact hu) (by simpa using s),hf]
   exact vz (fun t a b r va vb h1 o p=>oM d m t a b r va vb h1 o p) q u c f h
  ·rename_i n e xs C hu
   rcases hi:P.info? e with _|i
   ·simp [hi]at h
   simp only [hi]at h
   obtain⟨v,rfl,q,u⟩:=g.oS
   obtain⟨z,rfl,c,f⟩:=j.oS
   rw [run_equalIn_array w (d+m) v z hu hi]
   exact uH (fun a b r va vb h1 o p=>oM d m e a b r va vb h1 o p) q u c f h
  ·cases h
theorem uI{t e:TypeId}(hu:P.underlying t=some (.slice e))(a:Option Addr)(n c:Nat):(Op.equal t (.slice a n c) (.slice none 0 0)).run P w= .ok a.isNone w:=by
 have b:∀d,(Op.equalIn (d+1) t (.slice a n c) (.slice none 0 0)).run P w= .ok a.isNone w:=fun d=>by
  cases a<;>simp [Op.equalIn,run_underlying hu]
 exact b 9999
theorem wE{t e:TypeId}(hu:P.underlying t=some (.slice e))(b f:Operand)(a:Option Addr)(n c:Nat):(do eqGuard .eql t b f (.slice a n c) (.slice none 0 0);binOp .eql t (.slice a n c) (.slice none 0 0):Sem Value).run P w= .ok (.bool a.isNone) w:=by
 simp [eqGuard,binOp,uI (P:=P) (w:=w) hu]
theorem wI{t e:TypeId}(hu:P.underlying t=some (.slice e))(b f:Operand)(a:Option Addr)(n c:Nat):(do eqGuard .neq t b f (.slice a n c) (.slice none 0 0);binOp .neq t (.slice a n c) (.slice none 0 0):Sem Value).run P w= .ok (.bool !a.isNone) w:=by
 simp [eqGuard,binOp,uI (P:=P) (w:=w) hu]
theorem xO{es:List PD}{v:Value}(h:V S (.lst es) v)(g:es.isEmpty=false):∃a n c,v= .slice (some a) n c:=by
 generalize e:PD.lst es=p at h
 cases h with
 |nil a c=>cases e;cases g
 |lst i b o c sz f k j hS hV=>exact⟨_,_,_,rfl⟩
 |bool _=>cases e
 |int _ _=>cases e
 |str _=>cases e
 |raw _ _=>cases e
 |agg _ _ _ _=>cases e
theorem yr{op:BinOp}{x y:RV}{p:PD}(t:TypeId)(m o:Operand){v1 v2:Value}(h:eqOp P op t x y=some (p,true))(h1:R S loc x v1)(f:R S loc y v2):
  ∃v,(do eqGuard op t m o v1 v2;binOp op t v1 v2:Sem Value).run P w= .ok v w∧V S p v:=by
 unfold eqOp at h
 split at h
 ·rename_i a b
  have q:=h1.pA
  have e2:=f.pA
  subst q;subst e2
  split at h
  ·rename_i r he
   cases h
   have:=oM (P:=P) (S:=S) (w:=w) 1 9999 t _ _ r _ _ he (.bool a) (.bool b)
   have s:(Op.equal t (.bool a) (.bool b)).run P w= .ok r w:=this
   exact⟨.bool r,by simp [eqGuard,binOp,s],.bool r⟩
  ·cases h
 ·rename_i a b
  have q:=h1.pA
  have e2:=f.pA
  subst q;subst e2
  split at h
  ·rename_i r he
   cases h
   have:=oM (P:=P) (S:=S) (w:=w) 1 9999 t _ _ r _ _ he (.bool a) (.bool b)
   have s:(Op.equal t (.bool a) (.bool b)).run P w= .ok r w:=this
   exact⟨.bool !r,by simp [eqGuard,binOp,s],.bool _⟩
  ·cases h
 ·rename_i a b
  split at h
  ·cases h
  rename_i u
  split at h
  ·rename_i r he
   cases h
   cases h1 with
   |d h1=>
   cases f with
   |d f=>
   obtain⟨g,rfl,z,B⟩:=h1.oS
   obtain⟨i,rfl,j,l⟩:=f.oS
   have:=oM (P:=P) (S:=S) (w:=w) 20 9980 t _ _ r _ _ he (.agg a g z B) (.agg b i j l)
   refine⟨.bool r,?_,.bool r⟩
   simp only [Sem.run_bind,run_eqGuard_agg w .eql t m o g i (by simpa using u),Result.andThen_ok,run_eql_struct w t g i]
   rw [this];rfl
  ·cases h
 ·rename_i a b
  split at h
  ·cases h
  rename_i u
  split at h
  ·rename_i r he
   cases h
   cases h1 with
   |d h1=>
   cases f with
   |d f=>
   obtain⟨g,rfl,z,B⟩:=h1.oS
   obtain⟨i,rfl,j,l⟩:=f.oS
   have:=oM (P:=P) (S:=S) (w:=w) 20 9980 t _ _ r _ _ he (.agg a g z B) (.agg b i j l)
   refine⟨.bool !r,?_,.bool _⟩
   simp only [Sem.run_bind,run_eqGuard_agg w .neq t m o g i (by simpa using u),Result.andThen_ok,run_neq_struct w t g i]
   rw [this];rfl
  ·cases h
 ·rename_i es
  split at h
  ·rename_i e hu
   simp only [AD,AF,Bool.not_eq_true']at h
   obtain⟨rfl,k⟩:=h
   cases h1 with
   |d h1=>
   cases f
   obtain⟨a,n,c,rfl⟩:=xO h1 k
   exact⟨_,wE hu m o _ n c,.bool _⟩
  ·cases h
 ·rename_i es
  split at h
  ·rename_i e hu
   simp only [AD,AF,Bool.not_eq_true']at h
   obtain⟨rfl,k⟩:=h
   cases h1 with
   |d h1=>
   cases f
   obtain⟨a,n,c,rfl⟩:=xO h1 k
   exact⟨_,wI hu m o _ n c,.bool _⟩
  ·cases h
 ·split at h
  ·rename_i e hu
   cases h
   cases h1
   cases f
   exact⟨_,wE hu m o _ 0 0,.bool _⟩
  ·cases h
 ·split at h
  ·rename_i e hu
   cases h
   cases h1
   cases f
   exact⟨_,wI hu m o _ 0 0,.bool _⟩
  ·cases h
 ·cases h
theorem yf{op:BinOp}{x y:RV}{p:PD}(t:TypeId)(a b:Operand){v1 v2:Value}(h:tF P op t x y=some (p,true))(h1:R S loc x v1)(c:R S loc y v2):
  ∃v,(do eqGuard op t a b v1 v2;binOp op t v1 v2:Sem Value).run P w= .ok v w∧V S p v:=by
 unfold tF at h
 split at h
 ·rename_i r e
  cases h
  exact xn t a b e h1 c
 ·exact yr t a b h h1 c
theorem uF{op:BinOp}(t:TypeId)(a b:Operand)(ty:TypeId)(x:Value):(eqGuard op t a b (.iface ty x) .nilIface).run P w= .ok () w:=by
 unfold eqGuard
 cases op<;>simp
theorem qj{op:BinOp}(t:TypeId)(a b:Operand)(c:(isC a||isC b)=true):(eqGuard op t a b .nilIface .nilIface).run P w= .ok () w:=by
 unfold eqGuard
 cases op<;>simp
 all_goals (cases a<;>cases b<;>simp [isC]at c⊢)
theorem wF{t:TypeId}{ms:Array (String×TypeId)}(hu:P.underlying t=some (.interface ms))(ty:TypeId)(x:Value):(Op.equal t (.iface ty x) .nilIface).run P w= .ok false w:=by
 have a:∀d,(Op.equalIn (d+1) t (.iface ty x) .nilIface).run P w= .ok false w:=fun d=>by simp [Op.equalIn,run_underlying hu]
 exact a 9999
theorem sk{t:TypeId}{ms:Array (String×TypeId)}(hu:P.underlying t=some (.interface ms)):(Op.equal t .nilIface .nilIface).run P w= .ok true w:=by
 have a:∀d,(Op.equalIn (d+1) t .nilIface .nilIface).run P w= .ok true w:=fun d=>by simp [Op.equalIn,run_underlying hu]
 exact a 9999
theorem wZ{op:BinOp}{x y:RV}{p:PD}(t:TypeId)(c e:Operand){v1 v2:Value}(h:yw P op t (isC c||isC e) x y=some (p,true))(h1:R S loc x v1)(a:R S loc y v2):
  ∃v,(do eqGuard op t c e v1 v2;binOp op t v1 v2:Sem Value).run P w= .ok v w∧V S p v:=by
 unfold yw at h
 split at h
 ·rename_i ms ok hu
  simp only [AD,AF]at h
  obtain⟨rfl,b⟩:=h
  cases a with
  |d a=>
  cases a
  cases h1 with
  |err ty x=>exact⟨.bool false,by simp [uF,binOp,wF hu],.bool _⟩
  |noerr=>exact⟨.bool true,by simp [qj t c e (by simpa using b),binOp,sk hu],.bool _⟩
 ·rename_i ms ok hu
  simp only [AD,AF]at h
  obtain⟨rfl,b⟩:=h
  cases a with
  |d a=>
  cases a
  cases h1 with
  |err ty x=>exact⟨.bool true,by simp [uF,binOp,wF hu],.bool _⟩
  |noerr=>exact⟨.bool false,by simp [qj t c e (by simpa using b),binOp,sk hu],.bool _⟩
 ·rename_i ms hu
  simp only [AD,AF]at h
  obtain⟨rfl,b⟩:=h
  cases h1 with
  |d h1=>
  cases a with
  |d a=>
  cases h1;cases a
  exact⟨.bool true,by simp [qj t c e b,binOp,sk hu],.bool _⟩
 ·rename_i ms hu
  simp only [AD,AF]at h
  obtain⟨rfl,b⟩:=h
  cases h1 with
  |d h1=>
  cases a with
  |d a=>
  cases h1;cases a
  exact⟨.bool false,by simp [qj t c e b,binOp,sk hu],.bool _⟩
 ·cases h
theorem yg{op:BinOp}{x y:RV}{p:PD}(t:TypeId)(a b:Operand){v1 v2:Value}(h:binX P op t a b x y=some (p,true))(h1:R S loc x v1)(c:R S loc y v2):
  ∃v,(do eqGuard op t a b v1 v2;binOp op t v1 v2:Sem Value).run P w= .ok v w∧V S p v:=by
 unfold binX at h
 split at h
 ·rename_i r e
  cases h
  exact yf t a b e h1 c
 ·exact wZ t a b h h1 c
end
end Go.Dw
