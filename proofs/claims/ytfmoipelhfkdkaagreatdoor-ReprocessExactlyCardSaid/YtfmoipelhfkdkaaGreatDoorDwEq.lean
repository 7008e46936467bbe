
import Derived.ChangeKeysEq
import Derived.Test.YtfmoipelhfkdkaaGreatDoorDwAddr
import Derived.Laws.StructEq
open Option.some renaming injEq->DB
open Prod.mk renaming injEq->DD

namespace Go.Dw
section
variable {P:Program}{S:rC}{loc:sf}{w:World}
theorem V.uk{cs:List PD}{v:Value}(h:V S (.agg cs) v):∃vs,v= .agg vs∧vs.size=cs.length∧∀(i:Nat)p u,cs[i]? =some p->vs[i]? =some u->V S p u:=by
 cases h with|agg cs vs hl h=>exact⟨vs,rfl,hl,h⟩
theorem uT{t:TypeId}{cs:List PD}{off:Nat}{p:PD}(hp:vZ P t cs off=some p){vs:Array Value}
  (hl:vs.size=cs.length) (r:∀(i:Nat)c x,cs[i]? =some c->vs[i]? =some x->V S c x):
  ∃v',(part t vs off).run P w= .ok v' w∧V S p v':=by
 unfold vZ at hp
 rcases hk:tV P t with _|⟨B,n⟩
 ·simp [hk]at hp
 rw [hk]at hp
 obtain⟨⟨d,q⟩,j,k⟩:=wA hk
 cases B
 rotate_left
 ·simp only at hp
  split at hp
  ·rename_i C
   cases hp
   refine⟨.agg (vs.extract off (off+n)),by simp [part,uF t q,k,rD j],?_⟩
   refine .agg _ _ so fun i c x h1 f=>?_
   rw [List.getElem?_take]at h1
   split at h1
   ·rename_i hi
    rw [List.getElem?_drop]at h1
    refine r (off+i) c x h1 ?_
    rw [Array.getElem?_extract]at f
    split at f
    ·exact f
    ·cases f
   ·cases h1
  ·cases hp
 ·simp only at hp
  have g:off<vs.size:=by rw [hl];exact(List.getElem?_eq_some_iff.1 hp).1
  have u:vs[off]? =some vs[off]:=Array.getElem?_eq_getElem g
  refine⟨vs[off],?_,r off p _ hp u⟩
  simp [part,uF t q,k,u]
theorem zV{rec:TypeId->PD->PD->Option Bool}{d:Nat}(g:∀t a b r va vb,rec t a b=some r->V S a va->V S b vb->(Op.equalIn d t va vb).run P w= .ok r w)
  {xs u:List PD} {F G:Array Value} (hl:F.size=xs.length) (K:∀(i:Nat)c x,xs[i]? =some c->F[i]? =some x->V S c x)
  (j:G.size=u.length) (k:∀(i:Nat)c x,u[i]? =some c->G[i]? =some x->V S c x):
  ∀{B:List Field}{r:Bool},eqFs P rec xs u B=some r->(Op.eqFields d F G B).run P w= .ok r w
 | [],r,h=>by
  simp only [eqFs,DB]at h
  subst h
  simp [Op.eqFields]
 |f::B,r,h=>by
  simp only [eqFs]at h
  split at h
  ·cases h
  rename_i J
  rcases h1:vZ P f.type xs f.offset with _|a
  ·simp [h1]at h
  rcases D:vZ P f.type u f.offset with _|b
  ·simp [h1,D]at h
  simp only [h1,D]at h
  rcases C:rec f.type a b with _|p
  ·simp [C]at h
  rcases E:eqFs P rec xs u B with _|q
  ·simp [C,E]at h
  simp only [C,E,DB]at h
  subst h
  obtain⟨va,H,g1⟩:=uT (P:=P) (S:=S) (w:=w) h1 hl K
  obtain⟨vb,e2,g2⟩:=uT (P:=P) (S:=S) (w:=w) D j k
  have I:=g _ _ _ _ _ _ C g1 g2
  have L:=zV g hl K j k E
  cases p with
  |true=>simp [Op.eqFields,J,H,e2,I,L]
  |false=>simp [Op.eqFields,J,H,e2,I]
theorem yW{rec:PD->PD->Option Bool}{d:Nat}{e:TypeId}{k:Nat}(f:∀a b r va vb,rec a b=some r->V S a va->V S b vb->(Op.equalIn d e va vb).run P w= .ok r w)
  {xs u:List PD} {E F:Array Value} (hl:E.size=xs.length) (I:∀(i:Nat)c x,xs[i]? =some c->E[i]? =some x->V S c x)
  (g:F.size=u.length) (j:∀(i:Nat)c x,u[i]? =some c->F[i]? =some x->V S c x):
  ∀{is:List Nat}{r:Bool},AP P rec e k xs u is=some r->(Op.eqItems d e k E F is).run P w= .ok r w
 | [],r,h=>by
  simp only [AP,DB]at h
  subst h
  simp [Op.eqItems]
 |i::is,r,h=>by
  simp only [AP]at h
  rcases h1:vZ P e xs (i*k)with _|a
  ·simp [h1]at h
  rcases C:vZ P e u (i*k)with _|b
  ·simp [h1,C]at h
  simp only [h1,C]at h
  rcases B:rec a b with _|p
  ·simp [B]at h
  rcases D:AP P rec e k xs u is with _|q
  ·simp [B,D]at h
  simp only [B,D,DB]at h
  subst h
  obtain⟨va,G,g1⟩:=uT (P:=P) (S:=S) (w:=w) h1 hl I
  obtain⟨vb,e2,g2⟩:=uT (P:=P) (S:=S) (w:=w) C g j
  have H:=f _ _ _ _ _ B g1 g2
  have J:=yW f hl I g j D
  cases p with
  |true=>simp [Op.eqItems,G,e2,H,J]
  |false=>simp [Op.eqItems,G,e2,H]
theorem uc:∀(d m:Nat)(t:TypeId)(x y:PD)(r:Bool)(q u:Value),zW P d t x y=some r->V S x q->V S y u->(Op.equalIn (d+m) t q u).run P w= .ok r w
 |0,m,t,x,y,r,q,u,h,j,k=>by simp [zW]at h
 |d+1,m,t,x,y,r,q,u,h,j,k=>by
  simp only [zW]at h
  rw [Nat.add_right_comm]
  split at h
  ·rename_i hu
   cases j;cases k
   cases h
   exact run_equalIn_bool' w _ t _ _ hu
  ·rename_i hu
   cases j;cases k
   split at h
   ·rename_i hk
    subst hk
    cases h
    exact run_equalIn_int w _ t _ _ _ _ hu
   ·cases h
  ·rename_i hu
   cases j;cases k
   cases h
   rw [run_equalIn_string w _ t _ _ hu]
   rw [ByteArray.toList_eq,ByteArray.toList_eq]
  ·rename_i H xs I hu
   split at h
   ·cases h
   rename_i D
   obtain⟨F,rfl,hl,E⟩:=j.uk
   obtain⟨G,rfl,f,g⟩:=k.uk
   have hf:P.fieldsOf t=H:=by simp [Program.fieldsOf,hu]
   rw [run_equalIn_agg w _ t _ _ (by rw [hf];exact hu) (by simpa using D),hf]
   exact zV (fun t a b r va vb h1 B C=>uc d m t a b r va vb h1 B C) hl E f g h
  ·rename_i n e xs I hu
   rcases hi:P.info? e with _|i
   ·simp [hi]at h
   simp only [hi]at h
   obtain⟨F,rfl,hl,E⟩:=j.uk
   obtain⟨G,rfl,f,g⟩:=k.uk
   rw [run_equalIn_array w (d+m) F G hu hi]
   exact yW (fun a b r va vb h1 B C=>uc d m e a b r va vb h1 B C) hl E f g h
  ·cases h
theorem yX{t e:TypeId}(hu:P.underlying t=some (.slice e))(a:Option Addr)(n c:Nat):(Op.equal t (.slice a n c) (.slice none 0 0)).run P w= .ok a.isNone w:=by
 have f:∀d,(Op.equalIn (d+1) t (.slice a n c) (.slice none 0 0)).run P w= .ok a.isNone w:=fun d=>by
  cases a<;>simp [Op.equalIn,run_underlying hu]
 exact f 9999
theorem AQ{t e:TypeId}(hu:P.underlying t=some (.slice e))(f g:Operand)(a:Option Addr)(n c:Nat):(do eqGuard .eql t f g (.slice a n c) (.slice none 0 0);binOp .eql t (.slice a n c) (.slice none 0 0):Sem Value).run P w= .ok (.bool a.isNone) w:=by
 simp [eqGuard,binOp,yX (P:=P) (w:=w) hu]
theorem AV{t e:TypeId}(hu:P.underlying t=some (.slice e))(f g:Operand)(a:Option Addr)(n c:Nat):(do eqGuard .neq t f g (.slice a n c) (.slice none 0 0);binOp .neq t (.slice a n c) (.slice none 0 0):Sem Value).run P w= .ok (.bool !a.isNone) w:=by
 simp [eqGuard,binOp,yX (P:=P) (w:=w) hu]
theorem BT{es:List PD}{v:Value}(h:V S (.lst es) v)(g:es.isEmpty=false):∃a n c,v= .slice (some a) n c:=by
 generalize hp:PD.lst es=p at h
 cases h with
 |nil a c=>cases hp;cases g
 |lst j b o c sz f hc k hS hV=>exact⟨_,_,_,rfl⟩
 |bool _=>cases hp
 |int _ _=>cases hp
 |str _=>cases hp
 |raw _ _=>cases hp
 |agg _ _ _ _=>cases hp
theorem Cn{op:BinOp}{x y:RV}{p:PD}(t:TypeId)(B C:Operand){v1 v2:Value}(h:eqOp P op t x y=some (p,true))(h1:R S loc x v1)(f:R S loc y v2):
  ∃v,(do eqGuard op t B C v1 v2;binOp op t v1 v2:Sem Value).run P w= .ok v w∧V S p v:=by
 unfold eqOp at h
 split at h
 ·rename_i a b
  have D:=h1.uM
  have e2:=f.uM
  subst D;subst e2
  split at h
  ·rename_i r he
   cases h
   have:=uc (P:=P) (S:=S) (w:=w) 1 9999 t _ _ r _ _ he (.bool a) (.bool b)
   have E:(Op.equal t (.bool a) (.bool b)).run P w= .ok r w:=this
   exact⟨.bool r,by simp [eqGuard,binOp,E],.bool r⟩
  ·cases h
 ·rename_i a b
  have D:=h1.uM
  have e2:=f.uM
  subst D;subst e2
  split at h
  ·rename_i r he
   cases h
   have:=uc (P:=P) (S:=S) (w:=w) 1 9999 t _ _ r _ _ he (.bool a) (.bool b)
   have E:(Op.equal t (.bool a) (.bool b)).run P w= .ok r w:=this
   exact⟨.bool !r,by simp [eqGuard,binOp,E],.bool _⟩
  ·cases h
 ·rename_i a b
  split at h
  ·cases h
  rename_i F
  split at h
  ·rename_i r he
   cases h
   cases h1 with
   |d h1=>
   cases f with
   |d f=>
   obtain⟨g,rfl,hl,G⟩:=h1.uk
   obtain⟨j,rfl,k,u⟩:=f.uk
   have:=uc (P:=P) (S:=S) (w:=w) 20 9980 t _ _ r _ _ he (.agg a g hl G) (.agg b j k u)
   refine⟨.bool r,?_,.bool r⟩
   simp only [Sem.run_bind,run_eqGuard_agg w .eql t B C g j (by simpa using F),Result.andThen_ok,run_eql_struct w t g j]
   rw [this];rfl
  ·cases h
 ·rename_i a b
  split at h
  ·cases h
  rename_i F
  split at h
  ·rename_i r he
   cases h
   cases h1 with
   |d h1=>
   cases f with
   |d f=>
   obtain⟨g,rfl,hl,G⟩:=h1.uk
   obtain⟨j,rfl,k,u⟩:=f.uk
   have:=uc (P:=P) (S:=S) (w:=w) 20 9980 t _ _ r _ _ he (.agg a g hl G) (.agg b j k u)
   refine⟨.bool !r,?_,.bool _⟩
   simp only [Sem.run_bind,run_eqGuard_agg w .neq t B C g j (by simpa using F),Result.andThen_ok,run_neq_struct w t g j]
   rw [this];rfl
  ·cases h
 ·rename_i es
  split at h
  ·rename_i e hu
   simp only [DB,DD,Bool.not_eq_true']at h
   obtain⟨rfl,q⟩:=h
   cases h1 with
   |d h1=>
   cases f
   obtain⟨a,n,c,rfl⟩:=BT h1 q
   exact⟨_,AQ hu B C _ n c,.bool _⟩
  ·cases h
 ·rename_i es
  split at h
  ·rename_i e hu
   simp only [DB,DD,Bool.not_eq_true']at h
   obtain⟨rfl,q⟩:=h
   cases h1 with
   |d h1=>
   cases f
   obtain⟨a,n,c,rfl⟩:=BT h1 q
   exact⟨_,AV hu B C _ n c,.bool _⟩
  ·cases h
 ·split at h
  ·rename_i e hu
   cases h
   cases h1
   cases f
   exact⟨_,AQ hu B C _ 0 0,.bool _⟩
  ·cases h
 ·split at h
  ·rename_i e hu
   cases h
   cases h1
   cases f
   exact⟨_,AV hu B C _ 0 0,.bool _⟩
  ·cases h
 ·cases h
theorem Cb{op:BinOp}{x y:RV}{p:PD}(t:TypeId)(f g:Operand){v1 v2:Value}(h:xH P op t x y=some (p,true))(h1:R S loc x v1)(j:R S loc y v2):
  ∃v,(do eqGuard op t f g v1 v2;binOp op t v1 v2:Sem Value).run P w= .ok v w∧V S p v:=by
 unfold xH at h
 split at h
 ·rename_i r k
  cases h
  exact Bz t f g k h1 j
 ·exact Cn t f g h h1 j
theorem yU{op:BinOp}(t:TypeId)(f g:Operand)(ty:TypeId)(x:Value):(eqGuard op t f g (.iface ty x) .nilIface).run P w= .ok () w:=by
 unfold eqGuard
 cases op<;>simp
theorem vC{op:BinOp}(t:TypeId)(f g:Operand)(hc:(isC f||isC g)=true):(eqGuard op t f g .nilIface .nilIface).run P w= .ok () w:=by
 unfold eqGuard
 cases op<;>simp
 all_goals (cases f<;>cases g<;>simp [isC]at hc⊢)
theorem AR{t:TypeId}{ms:Array (String×TypeId)}(hu:P.underlying t=some (.interface ms))(ty:TypeId)(x:Value):(Op.equal t (.iface ty x) .nilIface).run P w= .ok false w:=by
 have f:∀d,(Op.equalIn (d+1) t (.iface ty x) .nilIface).run P w= .ok false w:=fun d=>by simp [Op.equalIn,run_underlying hu]
 exact f 9999
theorem xm{t:TypeId}{ms:Array (String×TypeId)}(hu:P.underlying t=some (.interface ms)):(Op.equal t .nilIface .nilIface).run P w= .ok true w:=by
 have f:∀d,(Op.equalIn (d+1) t .nilIface .nilIface).run P w= .ok true w:=fun d=>by simp [Op.equalIn,run_underlying hu]
 exact f 9999
theorem Be{op:BinOp}{x y:RV}{p:PD}(t:TypeId)(g j:Operand){v1 v2:Value}(h:Cr P op t (isC g||isC j) x y=some (p,true))(h1:R S loc x v1)(f:R S loc y v2):
  ∃v,(do eqGuard op t g j v1 v2;binOp op t v1 v2:Sem Value).run P w= .ok v w∧V S p v:=by
 unfold Cr at h
 split at h
 ·rename_i ms ok hu
  simp only [DB,DD]at h
  obtain⟨rfl,hc⟩:=h
  cases f with
  |d f=>
  cases f
  cases h1 with
  |err ty x=>exact⟨.bool false,by simp [yU,binOp,AR hu],.bool _⟩
  |noerr=>exact⟨.bool true,by simp [vC t g j (by simpa using hc),binOp,xm hu],.bool _⟩
 ·rename_i ms ok hu
  simp only [DB,DD]at h
  obtain⟨rfl,hc⟩:=h
  cases f with
  |d f=>
  cases f
  cases h1 with
  |err ty x=>exact⟨.bool true,by simp [yU,binOp,AR hu],.bool _⟩
  |noerr=>exact⟨.bool false,by simp [vC t g j (by simpa using hc),binOp,xm hu],.bool _⟩
 ·rename_i ms hu
  simp only [DB,DD]at h
  obtain⟨rfl,hc⟩:=h
  cases h1 with
  |d h1=>
  cases f with
  |d f=>
  cases h1;cases f
  exact⟨.bool true,by simp [vC t g j hc,binOp,xm hu],.bool _⟩
 ·rename_i ms hu
  simp only [DB,DD]at h
  obtain⟨rfl,hc⟩:=h
  cases h1 with
  |d h1=>
  cases f with
  |d f=>
  cases h1;cases f
  exact⟨.bool false,by simp [vC t g j hc,binOp,xm hu],.bool _⟩
 ·cases h
theorem Cc{op:BinOp}{x y:RV}{p:PD}(t:TypeId)(f g:Operand){v1 v2:Value}(h:zJ P op t f g x y=some (p,true))(h1:R S loc x v1)(j:R S loc y v2):
  ∃v,(do eqGuard op t f g v1 v2;binOp op t v1 v2:Sem Value).run P w= .ok v w∧V S p v:=by
 unfold zJ at h
 split at h
 ·rename_i r k
  cases h
  exact Cb t f g k h1 j
 ·exact Be t f g h h1 j
end
end Go.Dw
