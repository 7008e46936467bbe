
import Derived.ChangeKeysEq
import Derived.Test.YtikangmionpjfaaGreatDwAddr
import Derived.Laws.StructEq
open Option.some renaming injEq->B7
open Prod.mk renaming injEq->B9

namespace Go.Dw
section
variable {P:Program}{S:pr}{loc:pY}{w:World}
theorem V.rR{cs:List PD}{v:Value}(h:V S (.agg cs) v):∃vs,v= .agg vs∧vs.size=cs.length∧∀(i:Nat)p u,cs[i]? =some p->vs[i]? =some u->V S p u:=by
 cases h with|agg cs vs a h=>exact⟨vs,rfl,a,h⟩
theorem sP{t:TypeId}{cs:List PD}{off:Nat}{p:PD}(hp:um P t cs off=some p){vs:Array Value}
  (r:vs.size=cs.length) (l:∀(i:Nat)c x,cs[i]? =some c->vs[i]? =some x->V S c x):
  ∃v',(part t vs off).run P w= .ok v' w∧V S p v':=by
 unfold um at hp
 rcases hk:rY P t with _|⟨u,n⟩
 ·simp [hk]at hp
 rw [hk]at hp
 obtain⟨⟨d,k⟩,g,j⟩:=uG hk
 cases u
 rotate_left
 ·simp only at hp
  split at hp
  ·rename_i y
   cases hp
   refine⟨.agg (vs.extract off (off+n)),by simp [part,sj t k,j,pC g],?_⟩
   refine .agg _ _ so fun i c x h1 a=>?_
   rw [List.getElem?_take]at h1
   split at h1
   ·rename_i hi
    rw [List.getElem?_drop]at h1
    refine l (off+i) c x h1 ?_
    rw [Array.getElem?_extract]at a
    split at a
    ·exact a
    ·cases a
   ·cases h1
  ·cases hp
 ·simp only at hp
  have f:off<vs.size:=by rw [r];exact(List.getElem?_eq_some_iff.1 hp).1
  have q:vs[off]? =some vs[off]:=Array.getElem?_eq_getElem f
  refine⟨vs[off],?_,l off p _ hp q⟩
  simp [part,sj t k,j,q]
theorem yh{rec:TypeId->PD->PD->Option Bool}{d:Nat}(g:∀t a b r va vb,rec t a b=some r->V S a va->V S b vb->(Op.equalIn d t va vb).run P w= .ok r w)
  {xs ys:List PD} {B C:Array Value} (F:B.size=xs.length) (H:∀(i:Nat)c x,xs[i]? =some c->B[i]? =some x->V S c x)
  (j:C.size=ys.length) (k:∀(i:Nat)c x,ys[i]? =some c->C[i]? =some x->V S c x):
  ∀{l:List Field}{r:Bool},eqFs P rec xs ys l=some r->(Op.eqFields d B C l).run P w= .ok r w
 | [],r,h=>by
  simp only [eqFs,B7]at h
  subst h
  simp [Op.eqFields]
 |f::l,r,h=>by
  simp only [eqFs]at h
  split at h
  ·cases h
  rename_i G
  rcases h1:um P f.type xs f.offset with _|a
  ·simp [h1]at h
  rcases y:um P f.type ys f.offset with _|b
  ·simp [h1,y]at h
  simp only [h1,y]at h
  rcases u:rec f.type a b with _|p
  ·simp [u]at h
  rcases z:eqFs P rec xs ys l with _|q
  ·simp [u,z]at h
  simp only [u,z,B7]at h
  subst h
  obtain⟨va,D,g1⟩:=sP (P:=P) (S:=S) (w:=w) h1 F H
  obtain⟨vb,e2,g2⟩:=sP (P:=P) (S:=S) (w:=w) y j k
  have E:=g _ _ _ _ _ _ u g1 g2
  have I:=yh g F H j k z
  cases p with
  |true=>simp [Op.eqFields,G,D,e2,E,I]
  |false=>simp [Op.eqFields,G,D,e2,E]
theorem xr{rec:PD->PD->Option Bool}{d:Nat}{e:TypeId}{k:Nat}(f:∀a b r va vb,rec a b=some r->V S a va->V S b vb->(Op.equalIn d e va vb).run P w= .ok r w)
  {xs ys:List PD} {y z:Array Value} (D:y.size=xs.length) (E:∀(i:Nat)c x,xs[i]? =some c->y[i]? =some x->V S c x)
  (g:z.size=ys.length) (j:∀(i:Nat)c x,ys[i]? =some c->z[i]? =some x->V S c x):
  ∀{is:List Nat}{r:Bool},yX P rec e k xs ys is=some r->(Op.eqItems d e k y z is).run P w= .ok r w
 | [],r,h=>by
  simp only [yX,B7]at h
  subst h
  simp [Op.eqItems]
 |i::is,r,h=>by
  simp only [yX]at h
  rcases h1:um P e xs (i*k)with _|a
  ·simp [h1]at h
  rcases t:um P e ys (i*k)with _|b
  ·simp [h1,t]at h
  simp only [h1,t]at h
  rcases l:rec a b with _|p
  ·simp [l]at h
  rcases u:yX P rec e k xs ys is with _|q
  ·simp [l,u]at h
  simp only [l,u,B7]at h
  subst h
  obtain⟨va,B,g1⟩:=sP (P:=P) (S:=S) (w:=w) h1 D E
  obtain⟨vb,e2,g2⟩:=sP (P:=P) (S:=S) (w:=w) t g j
  have C:=f _ _ _ _ _ l g1 g2
  have F:=xr f D E g j u
  cases p with
  |true=>simp [Op.eqItems,B,e2,C,F]
  |false=>simp [Op.eqItems,B,e2,C]
theorem rF:∀(d m:Nat)(t:TypeId)(x y:PD)(r:Bool)(k l:Value),yi P d t x y=some r->V S x k->V S y l->(Op.equalIn (d+m) t k l).run P w= .ok r w
 |0,m,t,x,y,r,k,l,h,g,j=>by simp [yi]at h
 |d+1,m,t,x,y,r,k,l,h,g,j=>by
  simp only [yi]at h
  rw [Nat.add_right_comm]
  split at h
  ·rename_i hu
   cases g;cases j
   cases h
   exact run_equalIn_bool' w _ t _ _ hu
  ·rename_i hu
   cases g;cases j
   split at h
   ·rename_i hk
    subst hk
    cases h
    exact run_equalIn_int w _ t _ _ _ _ hu
   ·cases h
  ·rename_i hu
   cases g;cases j
   cases h
   rw [run_equalIn_string w _ t _ _ hu]
   rw [ByteArray.toList_eq,ByteArray.toList_eq]
  ·rename_i E xs ys hu
   split at h
   ·cases h
   rename_i z
   obtain⟨C,rfl,u,B⟩:=g.rR
   obtain⟨D,rfl,c,f⟩:=j.rR
   have hf:P.fieldsOf t=E:=by simp [Program.fieldsOf,hu]
   rw [run_equalIn_agg w _ t _ _ (by rw [hf];exact hu) (by simpa using z),hf]
   exact yh (fun t a b r va vb h1 p q=>rF d m t a b r va vb h1 p q) u B c f h
  ·rename_i n e xs ys hu
   rcases hi:P.info? e with _|i
   ·simp [hi]at h
   simp only [hi]at h
   obtain⟨C,rfl,u,B⟩:=g.rR
   obtain⟨D,rfl,c,f⟩:=j.rR
   rw [run_equalIn_array w (d+m) C D hu hi]
   exact xr (fun a b r va vb h1 p q=>rF d m e a b r va vb h1 p q) u B c f h
  ·cases h
theorem xu{t e:TypeId}(hu:P.underlying t=some (.slice e))(a:Option Addr)(n c:Nat):(Op.equal t (.slice a n c) (.slice none 0 0)).run P w= .ok a.isNone w:=by
 have f:∀d,(Op.equalIn (d+1) t (.slice a n c) (.slice none 0 0)).run P w= .ok a.isNone w:=fun d=>by
  cases a<;>simp [Op.equalIn,run_underlying hu]
 exact f 9999
theorem yY{t e:TypeId}(hu:P.underlying t=some (.slice e))(f g:Operand)(a:Option Addr)(n c:Nat):(do eqGuard .eql t f g (.slice a n c) (.slice none 0 0);binOp .eql t (.slice a n c) (.slice none 0 0):Sem Value).run P w= .ok (.bool a.isNone) w:=by
 simp [eqGuard,binOp,xu (P:=P) (w:=w) hu]
theorem zh{t e:TypeId}(hu:P.underlying t=some (.slice e))(f g:Operand)(a:Option Addr)(n c:Nat):(do eqGuard .neq t f g (.slice a n c) (.slice none 0 0);binOp .neq t (.slice a n c) (.slice none 0 0):Sem Value).run P w= .ok (.bool !a.isNone) w:=by
 simp [eqGuard,binOp,xu (P:=P) (w:=w) hu]
theorem AA{es:List PD}{v:Value}(h:V S (.lst es) v)(g:es.isEmpty=false):∃a n c,v= .slice (some a) n c:=by
 generalize hp:PD.lst es=p at h
 cases h with
 |nil a c=>cases hp;cases g
 |lst j b o c sz f hc k hS hV=>exact⟨_,_,_,rfl⟩
 |bool _=>cases hp
 |int _ _=>cases hp
 |str _=>cases hp
 |raw _ _=>cases hp
 |agg _ _ _ _=>cases hp
theorem A4{op:BinOp}{x y:RV}{p:PD}(t:TypeId)(u z:Operand){v1 v2:Value}(h:eqOp P op t x y=some (p,true))(h1:R S loc x v1)(f:R S loc y v2):
  ∃v,(do eqGuard op t u z v1 v2;binOp op t v1 v2:Sem Value).run P w= .ok v w∧V S p v:=by
 unfold eqOp at h
 split at h
 ·rename_i a b
  have B:=h1.ss
  have e2:=f.ss
  subst B;subst e2
  split at h
  ·rename_i r he
   cases h
   have:=rF (P:=P) (S:=S) (w:=w) 1 9999 t _ _ r _ _ he (.bool a) (.bool b)
   have C:(Op.equal t (.bool a) (.bool b)).run P w= .ok r w:=this
   exact⟨.bool r,by simp [eqGuard,binOp,C],.bool r⟩
  ·cases h
 ·rename_i a b
  have B:=h1.ss
  have e2:=f.ss
  subst B;subst e2
  split at h
  ·rename_i r he
   cases h
   have:=rF (P:=P) (S:=S) (w:=w) 1 9999 t _ _ r _ _ he (.bool a) (.bool b)
   have C:(Op.equal t (.bool a) (.bool b)).run P w= .ok r w:=this
   exact⟨.bool !r,by simp [eqGuard,binOp,C],.bool _⟩
  ·cases h
 ·rename_i a b
  split at h
  ·cases h
  rename_i D
  split at h
  ·rename_i r he
   cases h
   cases h1 with
   |d h1=>
   cases f with
   |d f=>
   obtain⟨g,rfl,E,F⟩:=h1.rR
   obtain⟨j,rfl,k,q⟩:=f.rR
   have:=rF (P:=P) (S:=S) (w:=w) 20 9980 t _ _ r _ _ he (.agg a g E F) (.agg b j k q)
   refine⟨.bool r,?_,.bool r⟩
   simp only [Sem.run_bind,run_eqGuard_agg w .eql t u z g j (by simpa using D),Result.andThen_ok,run_eql_struct w t g j]
   rw [this];rfl
  ·cases h
 ·rename_i a b
  split at h
  ·cases h
  rename_i D
  split at h
  ·rename_i r he
   cases h
   cases h1 with
   |d h1=>
   cases f with
   |d f=>
   obtain⟨g,rfl,E,F⟩:=h1.rR
   obtain⟨j,rfl,k,q⟩:=f.rR
   have:=rF (P:=P) (S:=S) (w:=w) 20 9980 t _ _ r _ _ he (.agg a g E F) (.agg b j k q)
   refine⟨.bool !r,?_,.bool _⟩
   simp only [Sem.run_bind,run_eqGuard_agg w .neq t u z g j (by simpa using D),Result.andThen_ok,run_neq_struct w t g j]
   rw [this];rfl
  ·cases h
 ·rename_i es
  split at h
  ·rename_i e hu
   simp only [B7,B9,Bool.not_eq_true']at h
   obtain⟨rfl,l⟩:=h
   cases h1 with
   |d h1=>
   cases f
   obtain⟨a,n,c,rfl⟩:=AA h1 l
   exact⟨_,yY hu u z _ n c,.bool _⟩
  ·cases h
 ·rename_i es
  split at h
  ·rename_i e hu
   simp only [B7,B9,Bool.not_eq_true']at h
   obtain⟨rfl,l⟩:=h
   cases h1 with
   |d h1=>
   cases f
   obtain⟨a,n,c,rfl⟩:=AA h1 l
   exact⟨_,zh hu u z _ n c,.bool _⟩
  ·cases h
 ·split at h
  ·rename_i e hu
   cases h
   cases h1
   cases f
   exact⟨_,yY hu u z _ 0 0,.bool _⟩
  ·cases h
 ·split at h
  ·rename_i e hu
   cases h
   cases h1
   cases f
   exact⟨_,zh hu u z _ 0 0,.bool _⟩
  ·cases h
 ·cases h
theorem AS{op:BinOp}{x y:RV}{p:PD}(t:TypeId)(a c:Operand){v1 v2:Value}(h:vd P op t x y=some (p,true))(h1:R S loc x v1)(f:R S loc y v2):
  ∃v,(do eqGuard op t a c v1 v2;binOp op t v1 v2:Sem Value).run P w= .ok v w∧V S p v:=by
 unfold vd at h
 split at h
 ·rename_i r g
  cases h
  exact Ad t a c g h1 f
 ·exact A4 t a c h h1 f
theorem xo{op:BinOp}(t:TypeId)(a c:Operand)(ty:TypeId)(x:Value):(eqGuard op t a c (.iface ty x) .nilIface).run P w= .ok () w:=by
 unfold eqGuard
 cases op<;>simp
theorem tJ{op:BinOp}(t:TypeId)(a c:Operand)(hc:(isC a||isC c)=true):(eqGuard op t a c .nilIface .nilIface).run P w= .ok () w:=by
 unfold eqGuard
 cases op<;>simp
 all_goals (cases a<;>cases c<;>simp [isC]at hc⊢)
theorem yZ{t:TypeId}{ms:Array (String×TypeId)}(hu:P.underlying t=some (.interface ms))(ty:TypeId)(x:Value):(Op.equal t (.iface ty x) .nilIface).run P w= .ok false w:=by
 have a:∀d,(Op.equalIn (d+1) t (.iface ty x) .nilIface).run P w= .ok false w:=fun d=>by simp [Op.equalIn,run_underlying hu]
 exact a 9999
theorem vK{t:TypeId}{ms:Array (String×TypeId)}(hu:P.underlying t=some (.interface ms)):(Op.equal t .nilIface .nilIface).run P w= .ok true w:=by
 have a:∀d,(Op.equalIn (d+1) t .nilIface .nilIface).run P w= .ok true w:=fun d=>by simp [Op.equalIn,run_underlying hu]
 exact a 9999
theorem zF{op:BinOp}{x y:RV}{p:PD}(t:TypeId)(c f:Operand){v1 v2:Value}(h:A8 P op t (isC c||isC f) x y=some (p,true))(h1:R S loc x v1)(a:R S loc y v2):
  ∃v,(do eqGuard op t c f v1 v2;binOp op t v1 v2:Sem Value).run P w= .ok v w∧V S p v:=by
 unfold A8 at h
 split at h
 ·rename_i ms ok hu
  simp only [B7,B9]at h
  obtain⟨rfl,hc⟩:=h
  cases a with
  |d a=>
  cases a
  cases h1 with
  |err ty x=>exact⟨.bool false,by simp [xo,binOp,yZ hu],.bool _⟩
  |noerr=>exact⟨.bool true,by simp [tJ t c f (by simpa using hc),binOp,vK hu],.bool _⟩
 ·rename_i ms ok hu
  simp only [B7,B9]at h
  obtain⟨rfl,hc⟩:=h
  cases a with
  |d a=>
  cases a
  cases h1 with
  |err ty x=>exact⟨.bool true,by simp [xo,binOp,yZ hu],.bool _⟩
  |noerr=>exact⟨.bool false,by simp [tJ t c f (by simpa using hc),binOp,vK hu],.bool _⟩
 ·rename_i ms hu
  simp only [B7,B9]at h
  obtain⟨rfl,hc⟩:=h
  cases h1 with
  |d h1=>
  cases a with
  |d a=>
  cases h1;cases a
  exact⟨.bool true,by simp [tJ t c f hc,binOp,vK hu],.bool _⟩
 ·rename_i ms hu
  simp only [B7,B9]at h
  obtain⟨rfl,hc⟩:=h
  cases h1 with
  |d h1=>
  cases a with
  |d a=>
  cases h1;cases a
  exact⟨.bool false,by simp [tJ t c f hc,binOp,vK hu],.bool _⟩
 ·cases h
theorem AT{op:BinOp}{x y:RV}{p:PD}(t:TypeId)(a c:Operand){v1 v2:Value}(h:xV P op t a c x y=some (p,true))(h1:R S loc x v1)(f:R S loc y v2):
  ∃v,(do eqGuard op t a c v1 v2;binOp op t v1 v2:Sem Value).run P w= .ok v w∧V S p v:=by
 unfold xV at h
 split at h
 ·rename_i r g
  cases h
  exact AS t a c g h1 f
 ·exact zF t a c h h1 f
end
end Go.Dw
