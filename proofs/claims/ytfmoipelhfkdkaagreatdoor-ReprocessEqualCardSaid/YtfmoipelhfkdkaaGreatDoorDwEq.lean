
import Derived.ChangeKeysEq
import Derived.Test.YtfmoipelhfkdkaaGreatDoorDwAddr
import Derived.Laws.StructEq
open Option.some renaming injEq->DJ
open Prod.mk renaming injEq->DL

namespace Go.Dw
section
variable {P:Program}{S:rP}{loc:ss}{w:World}
theorem V.uD{cs:List PD}{v:Value}(h:V S (.agg cs) v):∃vs,v= .agg vs∧vs.size=cs.length∧∀(i:Nat)p u,cs[i]? =some p->vs[i]? =some u->V S p u:=by
 cases h with|agg cs vs hl h=>exact⟨vs,rfl,hl,h⟩
theorem vd{t:TypeId}{cs:List PD}{off:Nat}{p:PD}(hp:wu P t cs off=some p){vs:Array Value}
  (hl:vs.size=cs.length) (r:∀(i:Nat)c x,cs[i]? =some c->vs[i]? =some x->V S c x):
  ∃v',(part t vs off).run P w= .ok v' w∧V S p v':=by
 unfold wu at hp
 rcases hk:ug P t with _|⟨C,n⟩
 ·simp [hk]at hp
 rw [hk]at hp
 obtain⟨⟨d,q⟩,j,k⟩:=wL hk
 cases C
 rotate_left
 ·simp only at hp
  split at hp
  ·rename_i D
   cases hp
   refine⟨.agg (vs.extract off (off+n)),by simp [part,uP t q,k,rQ j],?_⟩
   refine .agg _ _ so fun i c x h1 f=>?_
   rw [List.getElem?_take]at h1
   split at h1
   ·rename_i hi
    rw [List.getElem?_drop]at h1
    refine r (off+i) c x h1 ?_
    rw [Array.getElem?_extract]at f
    split at f
    ·exact f
    ·cases f
   ·cases h1
  ·cases hp
 ·simp only at hp
  have g:off<vs.size:=by rw [hl];exact(List.getElem?_eq_some_iff.1 hp).1
  have u:vs[off]? =some vs[off]:=Array.getElem?_eq_getElem g
  refine⟨vs[off],?_,r off p _ hp u⟩
  simp [part,uP t q,k,u]
theorem Am{rec:TypeId->PD->PD->Option Bool}{d:Nat}(g:∀t a b r va vb,rec t a b=some r->V S a va->V S b vb->(Op.equalIn d t va vb).run P w= .ok r w)
  {xs u:List PD} {G H:Array Value} (hl:G.size=xs.length) (L:∀(i:Nat)c x,xs[i]? =some c->G[i]? =some x->V S c x)
  (j:H.size=u.length) (k:∀(i:Nat)c x,u[i]? =some c->H[i]? =some x->V S c x):
  ∀{C:List Field}{r:Bool},eqFs P rec xs u C=some r->(Op.eqFields d G H C).run P w= .ok r w
 | [],r,h=>by
  simp only [eqFs,DJ]at h
  subst h
  simp [Op.eqFields]
 |f::C,r,h=>by
  simp only [eqFs]at h
  split at h
  ·cases h
  rename_i K
  rcases h1:wu P f.type xs f.offset with _|a
  ·simp [h1]at h
  rcases E:wu P f.type u f.offset with _|b
  ·simp [h1,E]at h
  simp only [h1,E]at h
  rcases D:rec f.type a b with _|p
  ·simp [D]at h
  rcases F:eqFs P rec xs u C with _|q
  ·simp [D,F]at h
  simp only [D,F,DJ]at h
  subst h
  obtain⟨va,I,g1⟩:=vd (P:=P) (S:=S) (w:=w) h1 hl L
  obtain⟨vb,e2,g2⟩:=vd (P:=P) (S:=S) (w:=w) E j k
  have J:=g _ _ _ _ _ _ D g1 g2
  have N:=Am g hl L j k F
  cases p with
  |true=>simp [Op.eqFields,K,I,e2,J,N]
  |false=>simp [Op.eqFields,K,I,e2,J]
theorem zt{rec:PD->PD->Option Bool}{d:Nat}{e:TypeId}{k:Nat}(f:∀a b r va vb,rec a b=some r->V S a va->V S b vb->(Op.equalIn d e va vb).run P w= .ok r w)
  {xs u:List PD} {F G:Array Value} (hl:F.size=xs.length) (J:∀(i:Nat)c x,xs[i]? =some c->F[i]? =some x->V S c x)
  (g:G.size=u.length) (j:∀(i:Nat)c x,u[i]? =some c->G[i]? =some x->V S c x):
  ∀{is:List Nat}{r:Bool},A5 P rec e k xs u is=some r->(Op.eqItems d e k F G is).run P w= .ok r w
 | [],r,h=>by
  simp only [A5,DJ]at h
  subst h
  simp [Op.eqItems]
 |i::is,r,h=>by
  simp only [A5]at h
  rcases h1:wu P e xs (i*k)with _|a
  ·simp [h1]at h
  rcases D:wu P e u (i*k)with _|b
  ·simp [h1,D]at h
  simp only [h1,D]at h
  rcases C:rec a b with _|p
  ·simp [C]at h
  rcases E:A5 P rec e k xs u is with _|q
  ·simp [C,E]at h
  simp only [C,E,DJ]at h
  subst h
  obtain⟨va,H,g1⟩:=vd (P:=P) (S:=S) (w:=w) h1 hl J
  obtain⟨vb,e2,g2⟩:=vd (P:=P) (S:=S) (w:=w) D g j
  have I:=f _ _ _ _ _ C g1 g2
  have K:=zt f hl J g j E
  cases p with
  |true=>simp [Op.eqItems,H,e2,I,K]
  |false=>simp [Op.eqItems,H,e2,I]
theorem ur:∀(d m:Nat)(t:TypeId)(x y:PD)(r:Bool)(q u:Value),An P d t x y=some r->V S x q->V S y u->(Op.equalIn (d+m) t q u).run P w= .ok r w
 |0,m,t,x,y,r,q,u,h,j,k=>by simp [An]at h
 |d+1,m,t,x,y,r,q,u,h,j,k=>by
  simp only [An]at h
  rw [Nat.add_right_comm]
  split at h
  ·rename_i hu
   cases j;cases k
   cases h
   exact run_equalIn_bool' w _ t _ _ hu
  ·rename_i hu
   cases j;cases k
   split at h
   ·rename_i hk
    subst hk
    cases h
    exact run_equalIn_int w _ t _ _ _ _ hu
   ·cases h
  ·rename_i hu
   cases j;cases k
   cases h
   rw [run_equalIn_string w _ t _ _ hu]
   rw [ByteArray.toList_eq,ByteArray.toList_eq]
  ·rename_i I xs J hu
   split at h
   ·cases h
   rename_i E
   obtain⟨G,rfl,hl,F⟩:=j.uD
   obtain⟨H,rfl,f,g⟩:=k.uD
   have hf:P.fieldsOf t=I:=by simp [Program.fieldsOf,hu]
   rw [run_equalIn_agg w _ t _ _ (by rw [hf];exact hu) (by simpa using E),hf]
   exact Am (fun t a b r va vb h1 C D=>ur d m t a b r va vb h1 C D) hl F f g h
  ·rename_i n e xs J hu
   rcases hi:P.info? e with _|i
   ·simp [hi]at h
   simp only [hi]at h
   obtain⟨G,rfl,hl,F⟩:=j.uD
   obtain⟨H,rfl,f,g⟩:=k.uD
   rw [run_equalIn_array w (d+m) G H hu hi]
   exact zt (fun a b r va vb h1 C D=>ur d m e a b r va vb h1 C D) hl F f g h
  ·cases h
theorem zu{t e:TypeId}(hu:P.underlying t=some (.slice e))(a:Option Addr)(n c:Nat):(Op.equal t (.slice a n c) (.slice none 0 0)).run P w= .ok a.isNone w:=by
 have f:∀d,(Op.equalIn (d+1) t (.slice a n c) (.slice none 0 0)).run P w= .ok a.isNone w:=fun d=>by
  cases a<;>simp [Op.equalIn,run_underlying hu]
 exact f 9999
theorem A6{t e:TypeId}(hu:P.underlying t=some (.slice e))(f g:Operand)(a:Option Addr)(n c:Nat):(do eqGuard .eql t f g (.slice a n c) (.slice none 0 0);binOp .eql t (.slice a n c) (.slice none 0 0):Sem Value).run P w= .ok (.bool a.isNone) w:=by
 simp [eqGuard,binOp,zu (P:=P) (w:=w) hu]
theorem Ba{t e:TypeId}(hu:P.underlying t=some (.slice e))(f g:Operand)(a:Option Addr)(n c:Nat):(do eqGuard .neq t f g (.slice a n c) (.slice none 0 0);binOp .neq t (.slice a n c) (.slice none 0 0):Sem Value).run P w= .ok (.bool !a.isNone) w:=by
 simp [eqGuard,binOp,zu (P:=P) (w:=w) hu]
theorem Cf{es:List PD}{v:Value}(h:V S (.lst es) v)(g:es.isEmpty=false):∃a n c,v= .slice (some a) n c:=by
 generalize hp:PD.lst es=p at h
 cases h with
 |nil a c=>cases hp;cases g
 |lst j b o c sz f hc k hS hV=>exact⟨_,_,_,rfl⟩
 |bool _=>cases hp
 |int _ _=>cases hp
 |str _=>cases hp
 |raw _ _=>cases hp
 |agg _ _ _ _=>cases hp
theorem CI{op:BinOp}{x y:RV}{p:PD}(t:TypeId)(C D:Operand){v1 v2:Value}(h:eqOp P op t x y=some (p,true))(h1:R S loc x v1)(f:R S loc y v2):
  ∃v,(do eqGuard op t C D v1 v2;binOp op t v1 v2:Sem Value).run P w= .ok v w∧V S p v:=by
 unfold eqOp at h
 split at h
 ·rename_i a b
  have E:=h1.uX
  have e2:=f.uX
  subst E;subst e2
  split at h
  ·rename_i r he
   cases h
   have:=ur (P:=P) (S:=S) (w:=w) 1 9999 t _ _ r _ _ he (.bool a) (.bool b)
   have F:(Op.equal t (.bool a) (.bool b)).run P w= .ok r w:=this
   exact⟨.bool r,by simp [eqGuard,binOp,F],.bool r⟩
  ·cases h
 ·rename_i a b
  have E:=h1.uX
  have e2:=f.uX
  subst E;subst e2
  split at h
  ·rename_i r he
   cases h
   have:=ur (P:=P) (S:=S) (w:=w) 1 9999 t _ _ r _ _ he (.bool a) (.bool b)
   have F:(Op.equal t (.bool a) (.bool b)).run P w= .ok r w:=this
   exact⟨.bool !r,by simp [eqGuard,binOp,F],.bool _⟩
  ·cases h
 ·rename_i a b
  split at h
  ·cases h
  rename_i G
  split at h
  ·rename_i r he
   cases h
   cases h1 with
   |d h1=>
   cases f with
   |d f=>
   obtain⟨g,rfl,hl,H⟩:=h1.uD
   obtain⟨j,rfl,k,u⟩:=f.uD
   have:=ur (P:=P) (S:=S) (w:=w) 20 9980 t _ _ r _ _ he (.agg a g hl H) (.agg b j k u)
   refine⟨.bool r,?_,.bool r⟩
   simp only [Sem.run_bind,run_eqGuard_agg w .eql t C D g j (by simpa using G),Result.andThen_ok,run_eql_struct w t g j]
   rw [this];rfl
  ·cases h
 ·rename_i a b
  split at h
  ·cases h
  rename_i G
  split at h
  ·rename_i r he
   cases h
   cases h1 with
   |d h1=>
   cases f with
   |d f=>
   obtain⟨g,rfl,hl,H⟩:=h1.uD
   obtain⟨j,rfl,k,u⟩:=f.uD
   have:=ur (P:=P) (S:=S) (w:=w) 20 9980 t _ _ r _ _ he (.agg a g hl H) (.agg b j k u)
   refine⟨.bool !r,?_,.bool _⟩
   simp only [Sem.run_bind,run_eqGuard_agg w .neq t C D g j (by simpa using G),Result.andThen_ok,run_neq_struct w t g j]
   rw [this];rfl
  ·cases h
 ·rename_i es
  split at h
  ·rename_i e hu
   simp only [DJ,DL,Bool.not_eq_true']at h
   obtain⟨rfl,q⟩:=h
   cases h1 with
   |d h1=>
   cases f
   obtain⟨a,n,c,rfl⟩:=Cf h1 q
   exact⟨_,A6 hu C D _ n c,.bool _⟩
  ·cases h
 ·rename_i es
  split at h
  ·rename_i e hu
   simp only [DJ,DL,Bool.not_eq_true']at h
   obtain⟨rfl,q⟩:=h
   cases h1 with
   |d h1=>
   cases f
   obtain⟨a,n,c,rfl⟩:=Cf h1 q
   exact⟨_,Ba hu C D _ n c,.bool _⟩
  ·cases h
 ·split at h
  ·rename_i e hu
   cases h
   cases h1
   cases f
   exact⟨_,A6 hu C D _ 0 0,.bool _⟩
  ·cases h
 ·split at h
  ·rename_i e hu
   cases h
   cases h1
   cases f
   exact⟨_,Ba hu C D _ 0 0,.bool _⟩
  ·cases h
 ·cases h
theorem Cw{op:BinOp}{x y:RV}{p:PD}(t:TypeId)(f g:Operand){v1 v2:Value}(h:xV P op t x y=some (p,true))(h1:R S loc x v1)(j:R S loc y v2):
  ∃v,(do eqGuard op t f g v1 v2;binOp op t v1 v2:Sem Value).run P w= .ok v w∧V S p v:=by
 unfold xV at h
 split at h
 ·rename_i r k
  cases h
  exact BP t f g k h1 j
 ·exact CI t f g h h1 j
theorem zq{op:BinOp}(t:TypeId)(f g:Operand)(ty:TypeId)(x:Value):(eqGuard op t f g (.iface ty x) .nilIface).run P w= .ok () w:=by
 unfold eqGuard
 cases op<;>simp
theorem vO{op:BinOp}(t:TypeId)(f g:Operand)(hc:(isC f||isC g)=true):(eqGuard op t f g .nilIface .nilIface).run P w= .ok () w:=by
 unfold eqGuard
 cases op<;>simp
 all_goals (cases f<;>cases g<;>simp [isC]at hc⊢)
theorem A7{t:TypeId}{ms:Array (String×TypeId)}(hu:P.underlying t=some (.interface ms))(ty:TypeId)(x:Value):(Op.equal t (.iface ty x) .nilIface).run P w= .ok false w:=by
 have f:∀d,(Op.equalIn (d+1) t (.iface ty x) .nilIface).run P w= .ok false w:=fun d=>by simp [Op.equalIn,run_underlying hu]
 exact f 9999
theorem xE{t:TypeId}{ms:Array (String×TypeId)}(hu:P.underlying t=some (.interface ms)):(Op.equal t .nilIface .nilIface).run P w= .ok true w:=by
 have f:∀d,(Op.equalIn (d+1) t .nilIface .nilIface).run P w= .ok true w:=fun d=>by simp [Op.equalIn,run_underlying hu]
 exact f 9999
theorem Bt{op:BinOp}{x y:RV}{p:PD}(t:TypeId)(g j:Operand){v1 v2:Value}(h:CM P op t (isC g||isC j) x y=some (p,true))(h1:R S loc x v1)(f:R S loc y v2):
  ∃v,(do eqGuard op t g j v1 v2;binOp op t v1 v2:Sem Value).run P w= .ok v w∧V S p v:=by
 unfold CM at h
 split at h
 ·rename_i ms ok hu
  simp only [DJ,DL]at h
  obtain⟨rfl,hc⟩:=h
  cases f with
  |d f=>
  cases f
  cases h1 with
  |err ty x=>exact⟨.bool false,by simp [zq,binOp,A7 hu],.bool _⟩
  |noerr=>exact⟨.bool true,by simp [vO t g j (by simpa using hc),binOp,xE hu],.bool _⟩
 ·rename_i ms ok hu
  simp only [DJ,DL]at h
  obtain⟨rfl,hc⟩:=h
  cases f with
  |d f=>
  cases f
  cases h1 with
  |err ty x=>exact⟨.bool true,by simp [zq,binOp,A7 hu],.bool _⟩
  |noerr=>exact⟨.bool false,by simp [vO t g j (by simpa using hc),binOp,xE hu],.bool _⟩
 ·rename_i ms hu
  simp only [DJ,DL]at h
  obtain⟨rfl,hc⟩:=h
  cases h1 with
  |d h1=>
  cases f with
  |d f=>
  cases h1;cases f
  exact⟨.bool true,by simp [vO t g j hc,binOp,xE hu],.bool _⟩
 ·rename_i ms hu
  simp only [DJ,DL]at h
  obtain⟨rfl,hc⟩:=h
  cases h1 with
  |d h1=>
  cases f with
  |d f=>
  cases h1;cases f
  exact⟨.bool false,by simp [vO t g j hc,binOp,xE hu],.bool _⟩
 ·cases h
theorem Cx{op:BinOp}{x y:RV}{p:PD}(t:TypeId)(f g:Operand){v1 v2:Value}(h:Aa P op t f g x y=some (p,true))(h1:R S loc x v1)(j:R S loc y v2):
  ∃v,(do eqGuard op t f g v1 v2;binOp op t v1 v2:Sem Value).run P w= .ok v w∧V S p v:=by
 unfold Aa at h
 split at h
 ·rename_i r k
  cases h
  exact Cw t f g k h1 j
 ·exact Bt t f g h h1 j
end
end Go.Dw
