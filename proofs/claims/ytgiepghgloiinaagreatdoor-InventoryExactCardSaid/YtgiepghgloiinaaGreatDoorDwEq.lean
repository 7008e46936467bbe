
import Derived.ChangeKeysEq
import Derived.Test.YtgiepghgloiinaaGreatDoorDwAddr
import Derived.Laws.StructEq
open Option.some renaming injEq->AD
open Prod.mk renaming injEq->AF

namespace Go.Dw
section
variable {P:Program}{S:kd}{loc:kH}{w:World}
theorem V.my{cs:List PD}{v:Value}(h:V S (.agg cs) v):∃vs,v= .agg vs∧vs.size=cs.length∧∀(i:Nat)p u,cs[i]? =some p->vs[i]? =some u->V S p u:=by
 cases h with|agg cs vs hl h=>exact⟨vs,rfl,hl,h⟩
theorem nh{t:TypeId}{cs:List PD}{off:Nat}{p:PD}(a:oe P t cs off=some p){vs:Array Value}
  (hl:vs.size=cs.length) (g:∀(i:Nat)c x,cs[i]? =some c->vs[i]? =some x->V S c x):
  ∃v',(part t vs off).run P w= .ok v' w∧V S p v':=by
 unfold oe at a
 rcases hk:lS P t with _|⟨k,n⟩
 ·simp [hk]at a
 rw [hk]at a
 obtain⟨⟨d,hd⟩,hsz,f⟩:=oz hk
 cases k
 rotate_left
 ·simp only at a
  split at a
  ·rename_i l
   cases a
   refine⟨.agg (vs.extract off (off+n)),by simp [part,mO t hd,f,kg hsz],?_⟩
   refine .agg _ _ so fun i c x h1 b=>?_
   rw [List.getElem?_take]at h1
   split at h1
   ·rename_i hi
    rw [List.getElem?_drop]at h1
    refine g (off+i) c x h1 ?_
    rw [Array.getElem?_extract]at b
    split at b
    ·exact b
    ·cases b
   ·cases h1
  ·cases a
 ·simp only at a
  have e:off<vs.size:=by rw [hl];exact(List.getElem?_eq_some_iff.1 a).1
  have j:vs[off]? =some vs[off]:=Array.getElem?_eq_getElem e
  refine⟨vs[off],?_,g off p _ a j⟩
  simp [part,mO t hd,f,j]
theorem sR{rec:TypeId->PD->PD->Option Bool}{d:Nat}(e:∀t a b r va vb,rec t a b=some r->V S a va->V S b vb->(Op.equalIn d t va vb).run P w= .ok r w)
  {xs ys:List PD} {o s:Array Value} (hl:o.size=xs.length) (z:∀(i:Nat)c x,xs[i]? =some c->o[i]? =some x->V S c x)
  (g:s.size=ys.length) (j:∀(i:Nat)c x,ys[i]? =some c->s[i]? =some x->V S c x):
  ∀{k:List Field}{r:Bool},eqFs P rec xs ys k=some r->(Op.eqFields d o s k).run P w= .ok r w
 | [],r,h=>by
  simp only [eqFs,AD]at h
  subst h
  simp [Op.eqFields]
 |f::k,r,h=>by
  simp only [eqFs]at h
  split at h
  ·cases h
  rename_i y
  rcases h1:oe P f.type xs f.offset with _|a
  ·simp [h1]at h
  rcases m:oe P f.type ys f.offset with _|b
  ·simp [h1,m]at h
  simp only [h1,m]at h
  rcases l:rec f.type a b with _|p
  ·simp [l]at h
  rcases n:eqFs P rec xs ys k with _|q
  ·simp [l,n]at h
  simp only [l,n,AD]at h
  subst h
  obtain⟨va,u,g1⟩:=nh (P:=P) (S:=S) (w:=w) h1 hl z
  obtain⟨vb,e2,g2⟩:=nh (P:=P) (S:=S) (w:=w) m g j
  have v:=e _ _ _ _ _ _ l g1 g2
  have B:=sR e hl z g j n
  cases p with
  |true=>simp [Op.eqFields,y,u,e2,v,B]
  |false=>simp [Op.eqFields,y,u,e2,v]
theorem rE{rec:PD->PD->Option Bool}{d:Nat}{e:TypeId}{k:Nat}(f:∀a b r va vb,rec a b=some r->V S a va->V S b vb->(Op.equalIn d e va vb).run P w= .ok r w)
  {xs ys:List PD} {o s:Array Value} (hl:o.size=xs.length) (v:∀(i:Nat)c x,xs[i]? =some c->o[i]? =some x->V S c x)
  (g:s.size=ys.length) (j:∀(i:Nat)c x,ys[i]? =some c->s[i]? =some x->V S c x):
  ∀{is:List Nat}{r:Bool},ub P rec e k xs ys is=some r->(Op.eqItems d e k o s is).run P w= .ok r w
 | [],r,h=>by
  simp only [ub,AD]at h
  subst h
  simp [Op.eqItems]
 |i::is,r,h=>by
  simp only [ub]at h
  rcases h1:oe P e xs (i*k)with _|a
  ·simp [h1]at h
  rcases m:oe P e ys (i*k)with _|b
  ·simp [h1,m]at h
  simp only [h1,m]at h
  rcases l:rec a b with _|p
  ·simp [l]at h
  rcases n:ub P rec e k xs ys is with _|q
  ·simp [l,n]at h
  simp only [l,n,AD]at h
  subst h
  obtain⟨va,t,g1⟩:=nh (P:=P) (S:=S) (w:=w) h1 hl v
  obtain⟨vb,e2,g2⟩:=nh (P:=P) (S:=S) (w:=w) m g j
  have u:=f _ _ _ _ _ l g1 g2
  have y:=rE f hl v g j n
  cases p with
  |true=>simp [Op.eqItems,t,e2,u,y]
  |false=>simp [Op.eqItems,t,e2,u]
theorem lR:∀(d m:Nat)(t:TypeId)(x y:PD)(r:Bool)(k l:Value),rZ P d t x y=some r->V S x k->V S y l->(Op.equalIn (d+m) t k l).run P w= .ok r w
 |0,m,t,x,y,r,k,l,h,g,j=>by simp [rZ]at h
 |d+1,m,t,x,y,r,k,l,h,g,j=>by
  simp only [rZ]at h
  rw [Nat.add_right_comm]
  split at h
  ·rename_i hu
   cases g;cases j
   cases h
   exact run_equalIn_bool' w _ t _ _ hu
  ·rename_i hu
   cases g;cases j
   split at h
   ·rename_i hk
    subst hk
    cases h
    exact run_equalIn_int w _ t _ _ _ _ hu
   ·cases h
  ·rename_i hu
   cases g;cases j
   cases h
   rw [run_equalIn_string w _ t _ _ hu]
   rw [ByteArray.toList_eq,ByteArray.toList_eq]
  ·rename_i z xs ys hu
   split at h
   ·cases h
   rename_i q
   obtain⟨u,rfl,hl,s⟩:=g.my
   obtain⟨v,rfl,c,f⟩:=j.my
   have hf:P.fieldsOf t=z:=by simp [Program.fieldsOf,hu]
   rw [run_equalIn_agg w _ t _ _ (by rw [hf];exact hu) (by simpa using q),hf]
   exact sR (fun t a b r va vb h1 o p=>lR d m t a b r va vb h1 o p) hl s c f h
  ·rename_i n e xs ys hu
   rcases hi:P.info? e with _|i
   ·simp [hi]at h
   simp only [hi]at h
   obtain⟨u,rfl,hl,s⟩:=g.my
   obtain⟨v,rfl,c,f⟩:=j.my
   rw [run_equalIn_array w (d+m) u v hu hi]
   exact rE (fun a b r va vb h1 o p=>lR d m e a b r va vb h1 o p) hl s c f h
  ·cases h
theorem rF{t e:TypeId}(hu:P.underlying t=some (.slice e))(a:Option Addr)(n c:Nat):(Op.equal t (.slice a n c) (.slice none 0 0)).run P w= .ok a.isNone w:=by
 have hd:∀d,(Op.equalIn (d+1) t (.slice a n c) (.slice none 0 0)).run P w= .ok a.isNone w:=fun d=>by
  cases a<;>simp [Op.equalIn,run_underlying hu]
 exact hd 9999
theorem uc{t e:TypeId}(hu:P.underlying t=some (.slice e))(b f:Operand)(a:Option Addr)(n c:Nat):(do eqGuard .eql t b f (.slice a n c) (.slice none 0 0);binOp .eql t (.slice a n c) (.slice none 0 0):Sem Value).run P w= .ok (.bool a.isNone) w:=by
 simp [eqGuard,binOp,rF (P:=P) (w:=w) hu]
theorem uh{t e:TypeId}(hu:P.underlying t=some (.slice e))(b f:Operand)(a:Option Addr)(n c:Nat):(do eqGuard .neq t b f (.slice a n c) (.slice none 0 0);binOp .neq t (.slice a n c) (.slice none 0 0):Sem Value).run P w= .ok (.bool !a.isNone) w:=by
 simp [eqGuard,binOp,rF (P:=P) (w:=w) hu]
theorem vX{es:List PD}{v:Value}(h:V S (.lst es) v)(g:es.isEmpty=false):∃a n c,v= .slice (some a) n c:=by
 generalize e:PD.lst es=p at h
 cases h with
 |nil a c=>cases e;cases g
 |lst i b o c sz f hc hsz hS hV=>exact⟨_,_,_,rfl⟩
 |bool _=>cases e
 |int _ _=>cases e
 |str _=>cases e
 |raw _ _=>cases e
 |agg _ _ _ _=>cases e
theorem wM{op:BinOp}{x y:RV}{p:PD}(t:TypeId)(m o:Operand){v1 v2:Value}(h:eqOp P op t x y=some (p,true))(h1:R S loc x v1)(f:R S loc y v2):
  ∃v,(do eqGuard op t m o v1 v2;binOp op t v1 v2:Sem Value).run P w= .ok v w∧V S p v:=by
 unfold eqOp at h
 split at h
 ·rename_i a b
  have q:=h1.mZ
  have e2:=f.mZ
  subst q;subst e2
  split at h
  ·rename_i r he
   cases h
   have:=lR (P:=P) (S:=S) (w:=w) 1 9999 t _ _ r _ _ he (.bool a) (.bool b)
   have hb:(Op.equal t (.bool a) (.bool b)).run P w= .ok r w:=this
   exact⟨.bool r,by simp [eqGuard,binOp,hb],.bool r⟩
  ·cases h
 ·rename_i a b
  have q:=h1.mZ
  have e2:=f.mZ
  subst q;subst e2
  split at h
  ·rename_i r he
   cases h
   have:=lR (P:=P) (S:=S) (w:=w) 1 9999 t _ _ r _ _ he (.bool a) (.bool b)
   have hb:(Op.equal t (.bool a) (.bool b)).run P w= .ok r w:=this
   exact⟨.bool !r,by simp [eqGuard,binOp,hb],.bool _⟩
  ·cases h
 ·rename_i a b
  split at h
  ·cases h
  rename_i s
  split at h
  ·rename_i r he
   cases h
   cases h1 with
   |d h1=>
   cases f with
   |d f=>
   obtain⟨g,rfl,hl,u⟩:=h1.my
   obtain⟨i,rfl,j,l⟩:=f.my
   have:=lR (P:=P) (S:=S) (w:=w) 20 9980 t _ _ r _ _ he (.agg a g hl u) (.agg b i j l)
   refine⟨.bool r,?_,.bool r⟩
   simp only [Sem.run_bind,run_eqGuard_agg w .eql t m o g i (by simpa using s),Result.andThen_ok,run_eql_struct w t g i]
   rw [this];rfl
  ·cases h
 ·rename_i a b
  split at h
  ·cases h
  rename_i s
  split at h
  ·rename_i r he
   cases h
   cases h1 with
   |d h1=>
   cases f with
   |d f=>
   obtain⟨g,rfl,hl,u⟩:=h1.my
   obtain⟨i,rfl,j,l⟩:=f.my
   have:=lR (P:=P) (S:=S) (w:=w) 20 9980 t _ _ r _ _ he (.agg a g hl u) (.agg b i j l)
   refine⟨.bool !r,?_,.bool _⟩
   simp only [Sem.run_bind,run_eqGuard_agg w .neq t m o g i (by simpa using s),Result.andThen_ok,run_neq_struct w t g i]
   rw [this];rfl
  ·cases h
 ·rename_i es
  split at h
  ·rename_i e hu
   simp only [AD,AF,Bool.not_eq_true']at h
   obtain⟨rfl,k⟩:=h
   cases h1 with
   |d h1=>
   cases f
   obtain⟨a,n,c,rfl⟩:=vX h1 k
   exact⟨_,uc hu m o _ n c,.bool _⟩
  ·cases h
 ·rename_i es
  split at h
  ·rename_i e hu
   simp only [AD,AF,Bool.not_eq_true']at h
   obtain⟨rfl,k⟩:=h
   cases h1 with
   |d h1=>
   cases f
   obtain⟨a,n,c,rfl⟩:=vX h1 k
   exact⟨_,uh hu m o _ n c,.bool _⟩
  ·cases h
 ·split at h
  ·rename_i e hu
   cases h
   cases h1
   cases f
   exact⟨_,uc hu m o _ 0 0,.bool _⟩
  ·cases h
 ·split at h
  ·rename_i e hu
   cases h
   cases h1
   cases f
   exact⟨_,uh hu m o _ 0 0,.bool _⟩
  ·cases h
 ·cases h
theorem wB{op:BinOp}{x y:RV}{p:PD}(t:TypeId)(a b:Operand){v1 v2:Value}(h:pN P op t x y=some (p,true))(h1:R S loc x v1)(c:R S loc y v2):
  ∃v,(do eqGuard op t a b v1 v2;binOp op t v1 v2:Sem Value).run P w= .ok v w∧V S p v:=by
 unfold pN at h
 split at h
 ·rename_i r e
  cases h
  exact vz t a b e h1 c
 ·exact wM t a b h h1 c
theorem rC{op:BinOp}(t:TypeId)(a b:Operand)(ty:TypeId)(x:Value):(eqGuard op t a b (.iface ty x) .nilIface).run P w= .ok () w:=by
 unfold eqGuard
 cases op<;>simp
theorem nN{op:BinOp}(t:TypeId)(a b:Operand)(hc:(isC a||isC b)=true):(eqGuard op t a b .nilIface .nilIface).run P w= .ok () w:=by
 unfold eqGuard
 cases op<;>simp
 all_goals (cases a<;>cases b<;>simp [isC]at hc⊢)
theorem ud{t:TypeId}{ms:Array (String×TypeId)}(hu:P.underlying t=some (.interface ms))(ty:TypeId)(x:Value):(Op.equal t (.iface ty x) .nilIface).run P w= .ok false w:=by
 have hd:∀d,(Op.equalIn (d+1) t (.iface ty x) .nilIface).run P w= .ok false w:=fun d=>by simp [Op.equalIn,run_underlying hu]
 exact hd 9999
theorem pq{t:TypeId}{ms:Array (String×TypeId)}(hu:P.underlying t=some (.interface ms)):(Op.equal t .nilIface .nilIface).run P w= .ok true w:=by
 have hd:∀d,(Op.equalIn (d+1) t .nilIface .nilIface).run P w= .ok true w:=fun d=>by simp [Op.equalIn,run_underlying hu]
 exact hd 9999
theorem uM{op:BinOp}{x y:RV}{p:PD}(t:TypeId)(b c:Operand){v1 v2:Value}(h:wQ P op t (isC b||isC c) x y=some (p,true))(h1:R S loc x v1)(a:R S loc y v2):
  ∃v,(do eqGuard op t b c v1 v2;binOp op t v1 v2:Sem Value).run P w= .ok v w∧V S p v:=by
 unfold wQ at h
 split at h
 ·rename_i ms ok hu
  simp only [AD,AF]at h
  obtain⟨rfl,hc⟩:=h
  cases a with
  |d a=>
  cases a
  cases h1 with
  |err ty x=>exact⟨.bool false,by simp [rC,binOp,ud hu],.bool _⟩
  |noerr=>exact⟨.bool true,by simp [nN t b c (by simpa using hc),binOp,pq hu],.bool _⟩
 ·rename_i ms ok hu
  simp only [AD,AF]at h
  obtain⟨rfl,hc⟩:=h
  cases a with
  |d a=>
  cases a
  cases h1 with
  |err ty x=>exact⟨.bool true,by simp [rC,binOp,ud hu],.bool _⟩
  |noerr=>exact⟨.bool false,by simp [nN t b c (by simpa using hc),binOp,pq hu],.bool _⟩
 ·rename_i ms hu
  simp only [AD,AF]at h
  obtain⟨rfl,hc⟩:=h
  cases h1 with
  |d h1=>
  cases a with
  |d a=>
  cases h1;cases a
  exact⟨.bool true,by simp [nN t b c hc,binOp,pq hu],.bool _⟩
 ·rename_i ms hu
  simp only [AD,AF]at h
  obtain⟨rfl,hc⟩:=h
  cases h1 with
  |d h1=>
  cases a with
  |d a=>
  cases h1;cases a
  exact⟨.bool false,by simp [nN t b c hc,binOp,pq hu],.bool _⟩
 ·cases h
theorem wC{op:BinOp}{x y:RV}{p:PD}(t:TypeId)(a b:Operand){v1 v2:Value}(h:binX P op t a b x y=some (p,true))(h1:R S loc x v1)(c:R S loc y v2):
  ∃v,(do eqGuard op t a b v1 v2;binOp op t v1 v2:Sem Value).run P w= .ok v w∧V S p v:=by
 unfold binX at h
 split at h
 ·rename_i r e
  cases h
  exact wB t a b e h1 c
 ·exact uM t a b h h1 c
end
end Go.Dw
