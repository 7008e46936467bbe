
import Derived.ChangeKeysEq
import Derived.Test.YtgdhcacjeppglaaGreatDwAddr
import Derived.Laws.StructEq
open Option.some renaming injEq->AD
open Prod.mk renaming injEq->AF

namespace Go.Dw
section
variable {P:Program}{S:cp}{loc:cJ}{w:World}
theorem V.ej{cs:List PD}{v:Value}(h:V S (.agg cs) v):∃vs,v= .agg vs∧vs.size=cs.length∧∀(i:Nat)p u,cs[i]? =some p->vs[i]? =some u->V S p u:=by
 cases h with|agg cs vs hl h=>exact⟨vs,rfl,hl,h⟩
theorem eT{t:TypeId}{cs:List PD}{off:Nat}{p:PD}(a:fT P t cs off=some p){vs:Array Value}
  (hl:vs.size=cs.length) (g:∀(i:Nat)c x,cs[i]? =some c->vs[i]? =some x->V S c x):
  ∃v',(part t vs off).run P w= .ok v' w∧V S p v':=by
 unfold fT at a
 rcases hk:dQ P t with _|⟨k,n⟩
 ·simp [hk]at a
 rw [hk]at a
 obtain⟨⟨d,hd⟩,hsz,f⟩:=gl hk
 cases k
 rotate_left
 ·simp only at a
  split at a
  ·rename_i m
   cases a
   refine⟨.agg (vs.extract off (off+n)),by simp [part,eC t hd,f,ct hsz],?_⟩
   refine .agg _ _ so fun i c x h1 b=>?_
   rw [List.getElem?_take]at h1
   split at h1
   ·rename_i l
    rw [List.getElem?_drop]at h1
    refine g (off+i) c x h1 ?_
    rw [Array.getElem?_extract]at b
    split at b
    ·exact b
    ·cases b
   ·cases h1
  ·cases a
 ·simp only at a
  have e:off<vs.size:=by rw [hl];exact(List.getElem?_eq_some_iff.1 a).1
  have j:vs[off]? =some vs[off]:=Array.getElem?_eq_getElem e
  refine⟨vs[off],?_,g off p _ a j⟩
  simp [part,eC t hd,f,j]
theorem kd{rec:TypeId->PD->PD->Option Bool}{d:Nat}(e:∀t a b r va vb,rec t a b=some r->V S a va->V S b vb->(Op.equalIn d t va vb).run P w= .ok r w)
  {xs ys:List PD} {o s:Array Value} (hl:o.size=xs.length) (z:∀(i:Nat)c x,xs[i]? =some c->o[i]? =some x->V S c x)
  (g:s.size=ys.length) (j:∀(i:Nat)c x,ys[i]? =some c->s[i]? =some x->V S c x):
  ∀{k:List Field}{r:Bool},eqFs P rec xs ys k=some r->(Op.eqFields d o s k).run P w= .ok r w
 | [],r,h=>by
  simp only [eqFs,AD]at h
  subst h
  simp [Op.eqFields]
 |f::k,r,h=>by
  simp only [eqFs]at h
  split at h
  ·cases h
  rename_i y
  rcases h1:fT P f.type xs f.offset with _|a
  ·simp [h1]at h
  rcases m:fT P f.type ys f.offset with _|b
  ·simp [h1,m]at h
  simp only [h1,m]at h
  rcases l:rec f.type a b with _|p
  ·simp [l]at h
  rcases n:eqFs P rec xs ys k with _|q
  ·simp [l,n]at h
  simp only [l,n,AD]at h
  subst h
  obtain⟨va,u,g1⟩:=eT (P:=P) (S:=S) (w:=w) h1 hl z
  obtain⟨vb,e2,g2⟩:=eT (P:=P) (S:=S) (w:=w) m g j
  have v:=e _ _ _ _ _ _ l g1 g2
  have B:=kd e hl z g j n
  cases p with
  |true=>simp [Op.eqFields,y,u,e2,v,B]
  |false=>simp [Op.eqFields,y,u,e2,v]
theorem jC{rec:PD->PD->Option Bool}{d:Nat}{e:TypeId}{k:Nat}(f:∀a b r va vb,rec a b=some r->V S a va->V S b vb->(Op.equalIn d e va vb).run P w= .ok r w)
  {xs ys:List PD} {o s:Array Value} (hl:o.size=xs.length) (v:∀(i:Nat)c x,xs[i]? =some c->o[i]? =some x->V S c x)
  (g:s.size=ys.length) (j:∀(i:Nat)c x,ys[i]? =some c->s[i]? =some x->V S c x):
  ∀{is:List Nat}{r:Bool},kX P rec e k xs ys is=some r->(Op.eqItems d e k o s is).run P w= .ok r w
 | [],r,h=>by
  simp only [kX,AD]at h
  subst h
  simp [Op.eqItems]
 |i::is,r,h=>by
  simp only [kX]at h
  rcases h1:fT P e xs (i*k)with _|a
  ·simp [h1]at h
  rcases m:fT P e ys (i*k)with _|b
  ·simp [h1,m]at h
  simp only [h1,m]at h
  rcases l:rec a b with _|p
  ·simp [l]at h
  rcases n:kX P rec e k xs ys is with _|q
  ·simp [l,n]at h
  simp only [l,n,AD]at h
  subst h
  obtain⟨va,t,g1⟩:=eT (P:=P) (S:=S) (w:=w) h1 hl v
  obtain⟨vb,e2,g2⟩:=eT (P:=P) (S:=S) (w:=w) m g j
  have u:=f _ _ _ _ _ l g1 g2
  have y:=jC f hl v g j n
  cases p with
  |true=>simp [Op.eqItems,t,e2,u,y]
  |false=>simp [Op.eqItems,t,e2,u]
theorem dF:∀(d m:Nat)(t:TypeId)(x y:PD)(r:Bool)(k l:Value),jN P d t x y=some r->V S x k->V S y l->(Op.equalIn (d+m) t k l).run P w= .ok r w
 |0,m,t,x,y,r,k,l,h,g,j=>by simp [jN]at h
 |d+1,m,t,x,y,r,k,l,h,g,j=>by
  simp only [jN]at h
  rw [Nat.add_right_comm]
  split at h
  ·rename_i hu
   cases g;cases j
   cases h
   exact run_equalIn_bool' w _ t _ _ hu
  ·rename_i hu
   cases g;cases j
   split at h
   ·rename_i hk
    subst hk
    cases h
    exact run_equalIn_int w _ t _ _ _ _ hu
   ·cases h
  ·rename_i hu
   cases g;cases j
   cases h
   rw [run_equalIn_string w _ t _ _ hu]
   rw [ByteArray.toList_eq,ByteArray.toList_eq]
  ·rename_i B xs ys hu
   split at h
   ·cases h
   rename_i s
   obtain⟨v,rfl,hl,u⟩:=g.ej
   obtain⟨z,rfl,c,f⟩:=j.ej
   have hf:P.fieldsOf t=B:=by simp [Program.fieldsOf,hu]
   rw [run_equalIn_agg w _ t _ _ (by rw [hf];exact hu) (by simpa using s),hf]
   exact kd (fun t a b r va vb h1 o p=>dF d m t a b r va vb h1 o p) hl u c f h
  ·rename_i n e xs ys hu
   rcases q:P.info? e with _|i
   ·simp [q]at h
   simp only [q]at h
   obtain⟨v,rfl,hl,u⟩:=g.ej
   obtain⟨z,rfl,c,f⟩:=j.ej
   rw [run_equalIn_array w (d+m) v z hu q]
   exact jC (fun a b r va vb h1 o p=>dF d m e a b r va vb h1 o p) hl u c f h
  ·cases h
theorem jD{t e:TypeId}(hu:P.underlying t=some (.slice e))(a:Option Addr)(n c:Nat):(Op.equal t (.slice a n c) (.slice none 0 0)).run P w= .ok a.isNone w:=by
 have hd:∀d,(Op.equalIn (d+1) t (.slice a n c) (.slice none 0 0)).run P w= .ok a.isNone w:=fun d=>by
  cases a<;>simp [Op.equalIn,run_underlying hu]
 exact hd 9999
theorem kY{t e:TypeId}(hu:P.underlying t=some (.slice e))(b f:Operand)(a:Option Addr)(n c:Nat):(do eqGuard .eql t b f (.slice a n c) (.slice none 0 0);binOp .eql t (.slice a n c) (.slice none 0 0):Sem Value).run P w= .ok (.bool a.isNone) w:=by
 simp [eqGuard,binOp,jD (P:=P) (w:=w) hu]
theorem lb{t e:TypeId}(hu:P.underlying t=some (.slice e))(b f:Operand)(a:Option Addr)(n c:Nat):(do eqGuard .neq t b f (.slice a n c) (.slice none 0 0);binOp .neq t (.slice a n c) (.slice none 0 0):Sem Value).run P w= .ok (.bool !a.isNone) w:=by
 simp [eqGuard,binOp,jD (P:=P) (w:=w) hu]
theorem mC{es:List PD}{v:Value}(h:V S (.lst es) v)(g:es.isEmpty=false):∃a n c,v= .slice (some a) n c:=by
 generalize e:PD.lst es=p at h
 cases h with
 |nil a c=>cases e;cases g
 |lst i b o c sz f hc hsz hS hV=>exact⟨_,_,_,rfl⟩
 |bool _=>cases e
 |int _ _=>cases e
 |str _=>cases e
 |raw _ _=>cases e
 |agg _ _ _ _=>cases e
theorem nn{op:BinOp}{x y:RV}{p:PD}(t:TypeId)(m o:Operand){v1 v2:Value}(h:eqOp P op t x y=some (p,true))(h1:R S loc x v1)(f:R S loc y v2):
  ∃v,(do eqGuard op t m o v1 v2;binOp op t v1 v2:Sem Value).run P w= .ok v w∧V S p v:=by
 unfold eqOp at h
 split at h
 ·rename_i a b
  have q:=h1.eP
  have e2:=f.eP
  subst q;subst e2
  split at h
  ·rename_i r he
   cases h
   have:=dF (P:=P) (S:=S) (w:=w) 1 9999 t _ _ r _ _ he (.bool a) (.bool b)
   have hb:(Op.equal t (.bool a) (.bool b)).run P w= .ok r w:=this
   exact⟨.bool r,by simp [eqGuard,binOp,hb],.bool r⟩
  ·cases h
 ·rename_i a b
  have q:=h1.eP
  have e2:=f.eP
  subst q;subst e2
  split at h
  ·rename_i r he
   cases h
   have:=dF (P:=P) (S:=S) (w:=w) 1 9999 t _ _ r _ _ he (.bool a) (.bool b)
   have hb:(Op.equal t (.bool a) (.bool b)).run P w= .ok r w:=this
   exact⟨.bool !r,by simp [eqGuard,binOp,hb],.bool _⟩
  ·cases h
 ·rename_i a b
  split at h
  ·cases h
  rename_i s
  split at h
  ·rename_i r he
   cases h
   cases h1 with
   |d h1=>
   cases f with
   |d f=>
   obtain⟨g,rfl,hl,u⟩:=h1.ej
   obtain⟨i,rfl,j,l⟩:=f.ej
   have:=dF (P:=P) (S:=S) (w:=w) 20 9980 t _ _ r _ _ he (.agg a g hl u) (.agg b i j l)
   refine⟨.bool r,?_,.bool r⟩
   simp only [Sem.run_bind,run_eqGuard_agg w .eql t m o g i (by simpa using s),Result.andThen_ok,run_eql_struct w t g i]
   rw [this];rfl
  ·cases h
 ·rename_i a b
  split at h
  ·cases h
  rename_i s
  split at h
  ·rename_i r he
   cases h
   cases h1 with
   |d h1=>
   cases f with
   |d f=>
   obtain⟨g,rfl,hl,u⟩:=h1.ej
   obtain⟨i,rfl,j,l⟩:=f.ej
   have:=dF (P:=P) (S:=S) (w:=w) 20 9980 t _ _ r _ _ he (.agg a g hl u) (.agg b i j l)
   refine⟨.bool !r,?_,.bool _⟩
   simp only [Sem.run_bind,run_eqGuard_agg w .neq t m o g i (by simpa using s),Result.andThen_ok,run_neq_struct w t g i]
   rw [this];rfl
  ·cases h
 ·rename_i es
  split at h
  ·rename_i e hu
   simp only [AD,AF,Bool.not_eq_true']at h
   obtain⟨rfl,k⟩:=h
   cases h1 with
   |d h1=>
   cases f
   obtain⟨a,n,c,rfl⟩:=mC h1 k
   exact⟨_,kY hu m o _ n c,.bool _⟩
  ·cases h
 ·rename_i es
  split at h
  ·rename_i e hu
   simp only [AD,AF,Bool.not_eq_true']at h
   obtain⟨rfl,k⟩:=h
   cases h1 with
   |d h1=>
   cases f
   obtain⟨a,n,c,rfl⟩:=mC h1 k
   exact⟨_,lb hu m o _ n c,.bool _⟩
  ·cases h
 ·split at h
  ·rename_i e hu
   cases h
   cases h1
   cases f
   exact⟨_,kY hu m o _ 0 0,.bool _⟩
  ·cases h
 ·split at h
  ·rename_i e hu
   cases h
   cases h1
   cases f
   exact⟨_,lb hu m o _ 0 0,.bool _⟩
  ·cases h
 ·cases h
theorem mY{op:BinOp}{x y:RV}{p:PD}(t:TypeId)(a b:Operand){v1 v2:Value}(h:binT P op t x y=some (p,true))(h1:R S loc x v1)(c:R S loc y v2):
  ∃v,(do eqGuard op t a b v1 v2;binOp op t v1 v2:Sem Value).run P w= .ok v w∧V S p v:=by
 unfold binT at h
 split at h
 ·rename_i r e
  cases h
  exact me t a b e h1 c
 ·exact nn t a b h h1 c
theorem jA{op:BinOp}(t:TypeId)(a b:Operand)(ty:TypeId)(x:Value):(eqGuard op t a b (.iface ty x) .nilIface).run P w= .ok () w:=by
 unfold eqGuard
 cases op<;>simp
theorem fA{op:BinOp}(t:TypeId)(a b:Operand)(hc:(isC a||isC b)=true):(eqGuard op t a b .nilIface .nilIface).run P w= .ok () w:=by
 unfold eqGuard
 cases op<;>simp
 all_goals (cases a<;>cases b<;>simp [isC]at hc⊢)
theorem kZ{t:TypeId}{ms:Array (String×TypeId)}(hu:P.underlying t=some (.interface ms))(ty:TypeId)(x:Value):(Op.equal t (.iface ty x) .nilIface).run P w= .ok false w:=by
 have hd:∀d,(Op.equalIn (d+1) t (.iface ty x) .nilIface).run P w= .ok false w:=fun d=>by simp [Op.equalIn,run_underlying hu]
 exact hd 9999
theorem gY{t:TypeId}{ms:Array (String×TypeId)}(hu:P.underlying t=some (.interface ms)):(Op.equal t .nilIface .nilIface).run P w= .ok true w:=by
 have hd:∀d,(Op.equalIn (d+1) t .nilIface .nilIface).run P w= .ok true w:=fun d=>by simp [Op.equalIn,run_underlying hu]
 exact hd 9999
theorem lK{op:BinOp}{x y:RV}{p:PD}(t:TypeId)(b c:Operand){v1 v2:Value}(h:nu P op t (isC b||isC c) x y=some (p,true))(h1:R S loc x v1)(a:R S loc y v2):
  ∃v,(do eqGuard op t b c v1 v2;binOp op t v1 v2:Sem Value).run P w= .ok v w∧V S p v:=by
 unfold nu at h
 split at h
 ·rename_i ms ok hu
  simp only [AD,AF]at h
  obtain⟨rfl,hc⟩:=h
  cases a with
  |d a=>
  cases a
  cases h1 with
  |err ty x=>exact⟨.bool false,by simp [jA,binOp,kZ hu],.bool _⟩
  |noerr=>exact⟨.bool true,by simp [fA t b c (by simpa using hc),binOp,gY hu],.bool _⟩
 ·rename_i ms ok hu
  simp only [AD,AF]at h
  obtain⟨rfl,hc⟩:=h
  cases a with
  |d a=>
  cases a
  cases h1 with
  |err ty x=>exact⟨.bool true,by simp [jA,binOp,kZ hu],.bool _⟩
  |noerr=>exact⟨.bool false,by simp [fA t b c (by simpa using hc),binOp,gY hu],.bool _⟩
 ·rename_i ms hu
  simp only [AD,AF]at h
  obtain⟨rfl,hc⟩:=h
  cases h1 with
  |d h1=>
  cases a with
  |d a=>
  cases h1;cases a
  exact⟨.bool true,by simp [fA t b c hc,binOp,gY hu],.bool _⟩
 ·rename_i ms hu
  simp only [AD,AF]at h
  obtain⟨rfl,hc⟩:=h
  cases h1 with
  |d h1=>
  cases a with
  |d a=>
  cases h1;cases a
  exact⟨.bool false,by simp [fA t b c hc,binOp,gY hu],.bool _⟩
 ·cases h
theorem mZ{op:BinOp}{x y:RV}{p:PD}(t:TypeId)(a b:Operand){v1 v2:Value}(h:binX P op t a b x y=some (p,true))(h1:R S loc x v1)(c:R S loc y v2):
  ∃v,(do eqGuard op t a b v1 v2;binOp op t v1 v2:Sem Value).run P w= .ok v w∧V S p v:=by
 unfold binX at h
 split at h
 ·rename_i r e
  cases h
  exact mY t a b e h1 c
 ·exact lK t a b h h1 c
end
end Go.Dw
