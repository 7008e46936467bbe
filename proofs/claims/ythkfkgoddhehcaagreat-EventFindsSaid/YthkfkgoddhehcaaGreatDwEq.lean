
import Derived.ChangeKeysEq
import Derived.Test.YthkfkgoddhehcaaGreatDwAddr
import Derived.Laws.StructEq
open Option.some renaming injEq->EC
open Prod.mk renaming injEq->EE

namespace Go.Dw
section
variable {P:Program}{S:tG}{loc:ui}{w:World}
theorem V.xb{cs:List PD}{v:Value}(h:V S (.agg cs) v):∃vs,v= .agg vs∧vs.size=cs.length∧∀(i:Nat)p u,cs[i]? =some p->vs[i]? =some u->V S p u:=by
 cases h with|agg cs vs a h=>exact⟨vs,rfl,a,h⟩
theorem xh{t:TypeId}{cs:List PD}{off:Nat}{p:PD}(hp:yF P t cs off=some p){vs:Array Value}
  (r:vs.size=cs.length) (l:∀(i:Nat)c x,cs[i]? =some c->vs[i]? =some x->V S c x):
  ∃v',(part t vs off).run P w= .ok v' w∧V S p v':=by
 unfold yF at hp
 rcases hk:wy P t with _|⟨u,n⟩
 ·simp [hk]at hp
 rw [hk]at hp
 obtain⟨⟨d,k⟩,g,j⟩:=xS hk
 cases u
 rotate_left
 ·simp only at hp
  split at hp
  ·rename_i y
   cases hp
   refine⟨.agg (vs.extract off (off+n)),by simp [part,wB t k,j,tQ g],?_⟩
   refine .agg _ _ so λi c x h1 a=>?_
   rw [List.getElem?_take]at h1
   split at h1
   ·rename_i hi
    rw [List.getElem?_drop]at h1
    refine l (off+i) c x h1 ?_
    rw [Array.getElem?_extract]at a
    split at a
    ·exact a
    ·cases a
   ·cases h1
  ·cases hp
 ·simp only at hp
  have f:off<vs.size:=by rw [r];exact(List.getElem?_eq_some_iff.1 hp).1
  have q:vs[off]? =some vs[off]:=Array.getElem?_eq_getElem f
  refine⟨vs[off],?_,l off p _ hp q⟩
  simp [part,wB t k,j,q]
theorem Bm{rec:TypeId->PD->PD->Option Bool}{d:Nat}(g:∀t a b r B C,rec t a b=some r->V S a B->V S b C->(Op.equalIn d t B C).run P w= .ok r w)
  {xs ys:List PD} {D E:Array Value} (H:D.size=xs.length) (J:∀(i:Nat)c x,xs[i]? =some c->D[i]? =some x->V S c x)
  (j:E.size=ys.length) (k:∀(i:Nat)c x,ys[i]? =some c->E[i]? =some x->V S c x):
  ∀{l:List Field}{r:Bool},eqFs P rec xs ys l=some r->(Op.eqFields d D E l).run P w= .ok r w
 | [],r,h=>by
  simp only [eqFs,EC]at h
  subst h
  simp [Op.eqFields]
 |f::l,r,h=>by
  simp only [eqFs]at h
  split at h
  ·cases h
  rename_i I
  rcases h1:yF P f.type xs f.offset with _|a
  ·simp [h1]at h
  rcases y:yF P f.type ys f.offset with _|b
  ·simp [h1,y]at h
  simp only [h1,y]at h
  rcases u:rec f.type a b with _|p
  ·simp [u]at h
  rcases z:eqFs P rec xs ys l with _|q
  ·simp [u,z]at h
  simp only [u,z,EC]at h
  subst h
  obtain⟨B,F,g1⟩:=xh (P:=P) (S:=S) (w:=w) h1 H J
  obtain⟨C,e2,g2⟩:=xh (P:=P) (S:=S) (w:=w) y j k
  have G:=g _ _ _ _ _ _ u g1 g2
  have K:=Bm g H J j k z
  cases p with
  |true=>simp [Op.eqFields,I,F,e2,G,K]
  |false=>simp [Op.eqFields,I,F,e2,G]
theorem AI{rec:PD->PD->Option Bool}{d:Nat}{e:TypeId}{k:Nat}(f:∀a b r y z,rec a b=some r->V S a y->V S b z->(Op.equalIn d e y z).run P w= .ok r w)
  {xs ys:List PD} {B C:Array Value} (F:B.size=xs.length) (G:∀(i:Nat)c x,xs[i]? =some c->B[i]? =some x->V S c x)
  (g:C.size=ys.length) (j:∀(i:Nat)c x,ys[i]? =some c->C[i]? =some x->V S c x):
  ∀{is:List Nat}{r:Bool},BP P rec e k xs ys is=some r->(Op.eqItems d e k B C is).run P w= .ok r w
 | [],r,h=>by
  simp only [BP,EC]at h
  subst h
  simp [Op.eqItems]
 |i::is,r,h=>by
  simp only [BP]at h
  rcases h1:yF P e xs (i*k)with _|a
  ·simp [h1]at h
  rcases t:yF P e ys (i*k)with _|b
  ·simp [h1,t]at h
  simp only [h1,t]at h
  rcases l:rec a b with _|p
  ·simp [l]at h
  rcases u:BP P rec e k xs ys is with _|q
  ·simp [l,u]at h
  simp only [l,u,EC]at h
  subst h
  obtain⟨y,D,g1⟩:=xh (P:=P) (S:=S) (w:=w) h1 F G
  obtain⟨z,e2,g2⟩:=xh (P:=P) (S:=S) (w:=w) t g j
  have E:=f _ _ _ _ _ l g1 g2
  have H:=AI f F G g j u
  cases p with
  |true=>simp [Op.eqItems,D,e2,E,H]
  |false=>simp [Op.eqItems,D,e2,E]
theorem wA:∀(d m:Nat)(t:TypeId)(x y:PD)(r:Bool)(k l:Value),eqPD P d t x y=some r->V S x k->V S y l->(Op.equalIn (d+m) t k l).run P w= .ok r w
 |0,m,t,x,y,r,k,l,h,g,j=>by simp [eqPD]at h
 |d+1,m,t,x,y,r,k,l,h,g,j=>by
  simp only [eqPD]at h
  rw [Nat.add_right_comm]
  split at h
  ·rename_i hu
   cases g;cases j
   cases h
   exact run_equalIn_bool' w _ t _ _ hu
  ·rename_i hu
   cases g;cases j
   split at h
   ·rename_i hk
    subst hk
    cases h
    exact run_equalIn_int w _ t _ _ _ _ hu
   ·cases h
  ·rename_i hu
   cases g;cases j
   cases h
   rw [run_equalIn_string w _ t _ _ hu]
   rw [ByteArray.toList_eq,ByteArray.toList_eq]
  ·rename_i G xs ys hu
   split at h
   ·cases h
   rename_i z
   obtain⟨E,rfl,u,B⟩:=g.xb
   obtain⟨F,rfl,c,f⟩:=j.xb
   have hf:P.fieldsOf t=G:=by simp [Program.fieldsOf,hu]
   rw [run_equalIn_agg w _ t _ _ (by rw [hf];exact hu) (by simpa using z),hf]
   exact Bm (λt a b r C D h1 p q=>wA d m t a b r C D h1 p q) u B c f h
  ·rename_i n e xs ys hu
   rcases hi:P.info? e with _|i
   ·simp [hi]at h
   simp only [hi]at h
   obtain⟨E,rfl,u,B⟩:=g.xb
   obtain⟨F,rfl,c,f⟩:=j.xb
   rw [run_equalIn_array w (d+m) E F hu hi]
   exact AI (λa b r C D h1 p q=>wA d m e a b r C D h1 p q) u B c f h
  ·cases h
theorem AJ{t e:TypeId}(hu:P.underlying t=some (.slice e))(a:Option Addr)(n c:Nat):(Op.equal t (.slice a n c) (.slice none 0 0)).run P w= .ok a.isNone w:=by
 have f:∀d,(Op.equalIn (d+1) t (.slice a n c) (.slice none 0 0)).run P w= .ok a.isNone w:=λd=>by
  cases a<;>simp [Op.equalIn,run_underlying hu]
 exact f 9999
theorem BQ{t e:TypeId}(hu:P.underlying t=some (.slice e))(f g:Operand)(a:Option Addr)(n c:Nat):(do eqGuard .eql t f g (.slice a n c) (.slice none 0 0);binOp .eql t (.slice a n c) (.slice none 0 0):Sem Value).run P w= .ok (.bool a.isNone) w:=by
 simp [eqGuard,binOp,AJ (P:=P) (w:=w) hu]
theorem BU{t e:TypeId}(hu:P.underlying t=some (.slice e))(f g:Operand)(a:Option Addr)(n c:Nat):(do eqGuard .neq t f g (.slice a n c) (.slice none 0 0);binOp .neq t (.slice a n c) (.slice none 0 0):Sem Value).run P w= .ok (.bool !a.isNone) w:=by
 simp [eqGuard,binOp,AJ (P:=P) (w:=w) hu]
theorem CW{es:List PD}{v:Value}(h:V S (.lst es) v)(g:es.isEmpty=false):∃a n c,v= .slice (some a) n c:=by
 generalize hp:PD.lst es=p at h
 cases h with
 |nil a c=>cases hp;cases g
 |lst j b o c sz f hc k hS hV=>exact⟨_,_,_,rfl⟩
 |bool _=>cases hp
 |int _ _=>cases hp
 |str _=>cases hp
 |raw _ _=>cases hp
 |agg _ _ _ _=>cases hp
theorem Dv{op:BinOp}{x y:RV}{p:PD}(t:TypeId)(u z:Operand){v1 v2:Value}(h:eqOp P op t x y=some (p,true))(h1:R S loc x v1)(f:R S loc y v2):
  ∃v,(do eqGuard op t u z v1 v2;binOp op t v1 v2:Sem Value).run P w= .ok v w∧V S p v:=by
 unfold eqOp at h
 split at h
 ·rename_i a b
  have B:=h1.wI
  have e2:=f.wI
  subst B;subst e2
  split at h
  ·rename_i r he
   cases h
   have:=wA (P:=P) (S:=S) (w:=w) 1 9999 t _ _ r _ _ he (.bool a) (.bool b)
   have C:(Op.equal t (.bool a) (.bool b)).run P w= .ok r w:=this
   exact⟨.bool r,by simp [eqGuard,binOp,C],.bool r⟩
  ·cases h
 ·rename_i a b
  have B:=h1.wI
  have e2:=f.wI
  subst B;subst e2
  split at h
  ·rename_i r he
   cases h
   have:=wA (P:=P) (S:=S) (w:=w) 1 9999 t _ _ r _ _ he (.bool a) (.bool b)
   have C:(Op.equal t (.bool a) (.bool b)).run P w= .ok r w:=this
   exact⟨.bool !r,by simp [eqGuard,binOp,C],.bool _⟩
  ·cases h
 ·rename_i a b
  split at h
  ·cases h
  rename_i D
  split at h
  ·rename_i r he
   cases h
   cases h1 with
   |d h1=>
   cases f with
   |d f=>
   obtain⟨g,rfl,E,F⟩:=h1.xb
   obtain⟨j,rfl,k,q⟩:=f.xb
   have:=wA (P:=P) (S:=S) (w:=w) 20 9980 t _ _ r _ _ he (.agg a g E F) (.agg b j k q)
   refine⟨.bool r,?_,.bool r⟩
   simp only [Sem.run_bind,run_eqGuard_agg w .eql t u z g j (by simpa using D),Result.andThen_ok,run_eql_struct w t g j]
   rw [this];rfl
  ·cases h
 ·rename_i a b
  split at h
  ·cases h
  rename_i D
  split at h
  ·rename_i r he
   cases h
   cases h1 with
   |d h1=>
   cases f with
   |d f=>
   obtain⟨g,rfl,E,F⟩:=h1.xb
   obtain⟨j,rfl,k,q⟩:=f.xb
   have:=wA (P:=P) (S:=S) (w:=w) 20 9980 t _ _ r _ _ he (.agg a g E F) (.agg b j k q)
   refine⟨.bool !r,?_,.bool _⟩
   simp only [Sem.run_bind,run_eqGuard_agg w .neq t u z g j (by simpa using D),Result.andThen_ok,run_neq_struct w t g j]
   rw [this];rfl
  ·cases h
 ·rename_i es
  split at h
  ·rename_i e hu
   simp only [EC,EE,Bool.not_eq_true']at h
   obtain⟨rfl,l⟩:=h
   cases h1 with
   |d h1=>
   cases f
   obtain⟨a,n,c,rfl⟩:=CW h1 l
   exact⟨_,BQ hu u z _ n c,.bool _⟩
  ·cases h
 ·rename_i es
  split at h
  ·rename_i e hu
   simp only [EC,EE,Bool.not_eq_true']at h
   obtain⟨rfl,l⟩:=h
   cases h1 with
   |d h1=>
   cases f
   obtain⟨a,n,c,rfl⟩:=CW h1 l
   exact⟨_,BU hu u z _ n c,.bool _⟩
  ·cases h
 ·split at h
  ·rename_i e hu
   cases h
   cases h1
   cases f
   exact⟨_,BQ hu u z _ 0 0,.bool _⟩
  ·cases h
 ·split at h
  ·rename_i e hu
   cases h
   cases h1
   cases f
   exact⟨_,BU hu u z _ 0 0,.bool _⟩
  ·cases h
 ·cases h
theorem Di{op:BinOp}{x y:RV}{p:PD}(t:TypeId)(a c:Operand){v1 v2:Value}(h:zK P op t x y=some (p,true))(h1:R S loc x v1)(f:R S loc y v2):
  ∃v,(do eqGuard op t a c v1 v2;binOp op t v1 v2:Sem Value).run P w= .ok v w∧V S p v:=by
 unfold zK at h
 split at h
 ·rename_i r g
  cases h
  exact CC t a c g h1 f
 ·exact Dv t a c h h1 f
theorem AG{op:BinOp}(t:TypeId)(a c:Operand)(ty:TypeId)(x:Value):(eqGuard op t a c (.iface ty x) .nilIface).run P w= .ok () w:=by
 unfold eqGuard
 cases op<;>simp
theorem xc{op:BinOp}(t:TypeId)(a c:Operand)(hc:(isC a||isC c)=true):(eqGuard op t a c .nilIface .nilIface).run P w= .ok () w:=by
 unfold eqGuard
 cases op<;>simp
 all_goals (cases a<;>cases c<;>simp [isC]at hc⊢)
theorem BR{t:TypeId}{ms:Array (String×TypeId)}(hu:P.underlying t=some (.interface ms))(ty:TypeId)(x:Value):(Op.equal t (.iface ty x) .nilIface).run P w= .ok false w:=by
 have a:∀d,(Op.equalIn (d+1) t (.iface ty x) .nilIface).run P w= .ok false w:=λd=>by simp [Op.equalIn,run_underlying hu]
 exact a 9999
theorem yP{t:TypeId}{ms:Array (String×TypeId)}(hu:P.underlying t=some (.interface ms)):(Op.equal t .nilIface .nilIface).run P w= .ok true w:=by
 have a:∀d,(Op.equalIn (d+1) t .nilIface .nilIface).run P w= .ok true w:=λd=>by simp [Op.equalIn,run_underlying hu]
 exact a 9999
theorem Cg{op:BinOp}{x y:RV}{p:PD}(t:TypeId)(c f:Operand){v1 v2:Value}(h:DA P op t (isC c||isC f) x y=some (p,true))(h1:R S loc x v1)(a:R S loc y v2):
  ∃v,(do eqGuard op t c f v1 v2;binOp op t v1 v2:Sem Value).run P w= .ok v w∧V S p v:=by
 unfold DA at h
 split at h
 ·rename_i ms ok hu
  simp only [EC,EE]at h
  obtain⟨rfl,hc⟩:=h
  cases a with
  |d a=>
  cases a
  cases h1 with
  |err ty x=>exact⟨.bool false,by simp [AG,binOp,BR hu],.bool _⟩
  |noerr=>exact⟨.bool true,by simp [xc t c f (by simpa using hc),binOp,yP hu],.bool _⟩
 ·rename_i ms ok hu
  simp only [EC,EE]at h
  obtain⟨rfl,hc⟩:=h
  cases a with
  |d a=>
  cases a
  cases h1 with
  |err ty x=>exact⟨.bool true,by simp [AG,binOp,BR hu],.bool _⟩
  |noerr=>exact⟨.bool false,by simp [xc t c f (by simpa using hc),binOp,yP hu],.bool _⟩
 ·rename_i ms hu
  simp only [EC,EE]at h
  obtain⟨rfl,hc⟩:=h
  cases h1 with
  |d h1=>
  cases a with
  |d a=>
  cases h1;cases a
  exact⟨.bool true,by simp [xc t c f hc,binOp,yP hu],.bool _⟩
 ·rename_i ms hu
  simp only [EC,EE]at h
  obtain⟨rfl,hc⟩:=h
  cases h1 with
  |d h1=>
  cases a with
  |d a=>
  cases h1;cases a
  exact⟨.bool false,by simp [xc t c f hc,binOp,yP hu],.bool _⟩
 ·cases h
theorem Dj{op:BinOp}{x y:RV}{p:PD}(t:TypeId)(a c:Operand){v1 v2:Value}(h:binX P op t a c x y=some (p,true))(h1:R S loc x v1)(f:R S loc y v2):
  ∃v,(do eqGuard op t a c v1 v2;binOp op t v1 v2:Sem Value).run P w= .ok v w∧V S p v:=by
 unfold binX at h
 split at h
 ·rename_i r g
  cases h
  exact Di t a c g h1 f
 ·exact Cg t a c h h1 f
end
end Go.Dw
