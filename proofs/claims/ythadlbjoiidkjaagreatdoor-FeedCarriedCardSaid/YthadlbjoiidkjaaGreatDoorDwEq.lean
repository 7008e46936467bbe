
import Derived.ChangeKeysEq
import Derived.Test.YthadlbjoiidkjaaGreatDoorDwAddr
import Derived.Laws.StructEq

namespace Go.Dw
section
variable {P:Program}{S:pR}{loc:qe}{w:World}
theorem V.rY{cs:List PD}{v:Value}(h:V S (.agg cs) v):∃vs,v= .agg vs∧vs.size=cs.length∧∀(i:Nat)p u,cs[i]? =some p->vs[i]? =some u->V S p u:=by
 cases h with|agg cs vs hl h=>exact⟨vs,rfl,hl,h⟩
theorem tc{t:TypeId}{cs:List PD}{off:Nat}{p:PD}(hp:um P t cs off=some p){vs:Array Value}
  (hl:vs.size=cs.length) (hv:∀(i:Nat)c x,cs[i]? =some c->vs[i]? =some x->V S c x):
  ∃v',(part t vs off).run P w= .ok v' w∧V S p v':=by
 unfold um at hp
 rcases hk:sY P t with _|⟨ka,n⟩
 ·simp [hk]at hp
 rw [hk]at hp
 obtain⟨⟨d,hd⟩,hsz,ha⟩:=uF hk
 cases ka
 rotate_left
 ·simp only at hp
  split at hp
  ·rename_i hn
   cases hp
   refine⟨.agg (vs.extract off (off+n)),by simp [part,sq t hd,ha,pS hsz],?_⟩
   refine .agg _ _ so fun i c x h1 h2=>?_
   rw [List.getElem?_take]at h1
   split at h1
   ·rename_i hi
    rw [List.getElem?_drop]at h1
    refine hv (off+i) c x h1 ?_
    rw [Array.getElem?_extract]at h2
    split at h2
    ·exact h2
    ·cases h2
   ·cases h1
  ·cases hp
 ·simp only at hp
  have hlt:off<vs.size:=by rw [hl];exact(List.getElem?_eq_some_iff.1 hp).1
  have hx:vs[off]? =some vs[off]:=Array.getElem?_eq_getElem hlt
  refine⟨vs[off],?_,hv off p _ hp hx⟩
  simp [part,sq t hd,ha,hx]
theorem ye{rec:TypeId->PD->PD->Option Bool}{d:Nat}(hrec:∀t a b r va vb,rec t a b=some r->V S a va->V S b vb->(Op.equalIn d t va vb).run P w= .ok r w)
  {xs ys:List PD} {vx vy:Array Value} (hl:vx.size=xs.length) (hv:∀(i:Nat)c x,xs[i]? =some c->vx[i]? =some x->V S c x)
  (hl':vy.size=ys.length) (hv':∀(i:Nat)c x,ys[i]? =some c->vy[i]? =some x->V S c x):
  ∀{fs:List Field}{r:Bool},eqFs P rec xs ys fs=some r->(Op.eqFields d vx vy fs).run P w= .ok r w
 | [],r,h=>by
  simp only [eqFs,Option.some.injEq]at h
  subst h
  simp [Op.eqFields]
 |f::fs,r,h=>by
  simp only [eqFs]at h
  split at h
  ·cases h
  rename_i hn
  rcases h1:um P f.type xs f.offset with _|a
  ·simp [h1]at h
  rcases h2:um P f.type ys f.offset with _|b
  ·simp [h1,h2]at h
  simp only [h1,h2]at h
  rcases h3:rec f.type a b with _|p
  ·simp [h3]at h
  rcases h4:eqFs P rec xs ys fs with _|q
  ·simp [h3,h4]at h
  simp only [h3,h4,Option.some.injEq]at h
  subst h
  obtain⟨va,e1,g1⟩:=tc (P:=P) (S:=S) (w:=w) h1 hl hv
  obtain⟨vb,e2,g2⟩:=tc (P:=P) (S:=S) (w:=w) h2 hl' hv'
  have e3:=hrec _ _ _ _ _ _ h3 g1 g2
  have e4:=ye hrec hl hv hl' hv' h4
  cases p with
  |true=>simp [Op.eqFields,hn,e1,e2,e3,e4]
  |false=>simp [Op.eqFields,hn,e1,e2,e3]
theorem xq{rec:PD->PD->Option Bool}{d:Nat}{e:TypeId}{k:Nat}(hrec:∀a b r va vb,rec a b=some r->V S a va->V S b vb->(Op.equalIn d e va vb).run P w= .ok r w)
  {xs ys:List PD} {vx vy:Array Value} (hl:vx.size=xs.length) (hv:∀(i:Nat)c x,xs[i]? =some c->vx[i]? =some x->V S c x)
  (hl':vy.size=ys.length) (hv':∀(i:Nat)c x,ys[i]? =some c->vy[i]? =some x->V S c x):
  ∀{is:List Nat}{r:Bool},yU P rec e k xs ys is=some r->(Op.eqItems d e k vx vy is).run P w= .ok r w
 | [],r,h=>by
  simp only [yU,Option.some.injEq]at h
  subst h
  simp [Op.eqItems]
 |i::is,r,h=>by
  simp only [yU]at h
  rcases h1:um P e xs (i*k)with _|a
  ·simp [h1]at h
  rcases h2:um P e ys (i*k)with _|b
  ·simp [h1,h2]at h
  simp only [h1,h2]at h
  rcases h3:rec a b with _|p
  ·simp [h3]at h
  rcases h4:yU P rec e k xs ys is with _|q
  ·simp [h3,h4]at h
  simp only [h3,h4,Option.some.injEq]at h
  subst h
  obtain⟨va,e1,g1⟩:=tc (P:=P) (S:=S) (w:=w) h1 hl hv
  obtain⟨vb,e2,g2⟩:=tc (P:=P) (S:=S) (w:=w) h2 hl' hv'
  have e3:=hrec _ _ _ _ _ h3 g1 g2
  have e4:=xq hrec hl hv hl' hv' h4
  cases p with
  |true=>simp [Op.eqItems,e1,e2,e3,e4]
  |false=>simp [Op.eqItems,e1,e2,e3]
theorem rK:∀(d m:Nat)(t:TypeId)(x y:PD)(r:Bool)(vx vy:Value),yf P d t x y=some r->V S x vx->V S y vy->(Op.equalIn (d+m) t vx vy).run P w= .ok r w
 |0,m,t,x,y,r,vx,vy,h,hx,hy=>by simp [yf]at h
 |d+1,m,t,x,y,r,vx,vy,h,hx,hy=>by
  simp only [yf]at h
  rw [Nat.add_right_comm]
  split at h
  ·rename_i hu
   cases hx;cases hy
   cases h
   exact run_equalIn_bool' w _ t _ _ hu
  ·rename_i hu
   cases hx;cases hy
   split at h
   ·rename_i hk
    subst hk
    cases h
    exact run_equalIn_int w _ t _ _ _ _ hu
   ·cases h
  ·rename_i hu
   cases hx;cases hy
   cases h
   rw [run_equalIn_string w _ t _ _ hu]
   rw [ByteArray.toList_eq,ByteArray.toList_eq]
  ·rename_i fs xs ys hu
   split at h
   ·cases h
   rename_i hst
   obtain⟨ax,rfl,hl,hv⟩:=hx.rY
   obtain⟨ay,rfl,hl',hv'⟩:=hy.rY
   have hf:P.fieldsOf t=fs:=by simp [Program.fieldsOf,hu]
   rw [run_equalIn_agg w _ t _ _ (by rw [hf];exact hu) (by simpa using hst),hf]
   exact ye (fun t a b r va vb h1 h2 h3=>rK d m t a b r va vb h1 h2 h3) hl hv hl' hv' h
  ·rename_i n e xs ys hu
   rcases hi:P.info? e with _|i
   ·simp [hi]at h
   simp only [hi]at h
   obtain⟨ax,rfl,hl,hv⟩:=hx.rY
   obtain⟨ay,rfl,hl',hv'⟩:=hy.rY
   rw [run_equalIn_array w (d+m) ax ay hu hi]
   exact xq (fun a b r va vb h1 h2 h3=>rK d m e a b r va vb h1 h2 h3) hl hv hl' hv' h
  ·cases h
theorem xr{t e:TypeId}(hu:P.underlying t=some (.slice e))(a:Option Addr)(n c:Nat):(Op.equal t (.slice a n c) (.slice none 0 0)).run P w= .ok a.isNone w:=by
 have hd:∀d,(Op.equalIn (d+1) t (.slice a n c) (.slice none 0 0)).run P w= .ok a.isNone w:=fun d=>by
  cases a<;>simp [Op.equalIn,run_underlying hu]
 exact hd 9999
theorem yV{t e:TypeId}(hu:P.underlying t=some (.slice e))(ox oy:Operand)(a:Option Addr)(n c:Nat):(do eqGuard .eql t ox oy (.slice a n c) (.slice none 0 0);binOp .eql t (.slice a n c) (.slice none 0 0):Sem Value).run P w= .ok (.bool a.isNone) w:=by
 simp [eqGuard,binOp,xr (P:=P) (w:=w) hu]
theorem yZ{t e:TypeId}(hu:P.underlying t=some (.slice e))(ox oy:Operand)(a:Option Addr)(n c:Nat):(do eqGuard .neq t ox oy (.slice a n c) (.slice none 0 0);binOp .neq t (.slice a n c) (.slice none 0 0):Sem Value).run P w= .ok (.bool !a.isNone) w:=by
 simp [eqGuard,binOp,xr (P:=P) (w:=w) hu]
theorem Ap{es:List PD}{v:Value}(h:V S (.lst es) v)(hne:es.isEmpty=false):∃a n c,v= .slice (some a) n c:=by
 generalize hp:PD.lst es=p at h
 cases h with
 |nil a c=>cases hp;cases hne
 |lst es' b o c sz f hc hsz hS hV=>exact⟨_,_,_,rfl⟩
 |bool _=>cases hp
 |int _ _=>cases hp
 |str _=>cases hp
 |raw _ _=>cases hp
 |agg _ _ _ _=>cases hp
theorem AV{op:BinOp}{x y:RV}{p:PD}(t:TypeId)(ox oy:Operand){v1 v2:Value}(h:eqOp P op t x y=some (p,true))(h1:R S loc x v1)(h2:R S loc y v2):
  ∃v,(do eqGuard op t ox oy v1 v2;binOp op t v1 v2:Sem Value).run P w= .ok v w∧V S p v:=by
 unfold eqOp at h
 split at h
 ·rename_i a b
  have e1:=h1.sW
  have e2:=h2.sW
  subst e1;subst e2
  split at h
  ·rename_i r he
   cases h
   have:=rK (P:=P) (S:=S) (w:=w) 1 9999 t _ _ r _ _ he (.bool a) (.bool b)
   have hb:(Op.equal t (.bool a) (.bool b)).run P w= .ok r w:=this
   exact⟨.bool r,by simp [eqGuard,binOp,hb],.bool r⟩
  ·cases h
 ·rename_i a b
  have e1:=h1.sW
  have e2:=h2.sW
  subst e1;subst e2
  split at h
  ·rename_i r he
   cases h
   have:=rK (P:=P) (S:=S) (w:=w) 1 9999 t _ _ r _ _ he (.bool a) (.bool b)
   have hb:(Op.equal t (.bool a) (.bool b)).run P w= .ok r w:=this
   exact⟨.bool !r,by simp [eqGuard,binOp,hb],.bool _⟩
  ·cases h
 ·rename_i a b
  split at h
  ·cases h
  rename_i hg
  split at h
  ·rename_i r he
   cases h
   cases h1 with
   |d h1=>
   cases h2 with
   |d h2=>
   obtain⟨ax,rfl,hl,hv⟩:=h1.rY
   obtain⟨ay,rfl,hl',hv'⟩:=h2.rY
   have:=rK (P:=P) (S:=S) (w:=w) 20 9980 t _ _ r _ _ he (.agg a ax hl hv) (.agg b ay hl' hv')
   refine⟨.bool r,?_,.bool r⟩
   simp only [Sem.run_bind,run_eqGuard_agg w .eql t ox oy ax ay (by simpa using hg),Result.andThen_ok,run_eql_struct w t ax ay]
   rw [this];rfl
  ·cases h
 ·rename_i a b
  split at h
  ·cases h
  rename_i hg
  split at h
  ·rename_i r he
   cases h
   cases h1 with
   |d h1=>
   cases h2 with
   |d h2=>
   obtain⟨ax,rfl,hl,hv⟩:=h1.rY
   obtain⟨ay,rfl,hl',hv'⟩:=h2.rY
   have:=rK (P:=P) (S:=S) (w:=w) 20 9980 t _ _ r _ _ he (.agg a ax hl hv) (.agg b ay hl' hv')
   refine⟨.bool !r,?_,.bool _⟩
   simp only [Sem.run_bind,run_eqGuard_agg w .neq t ox oy ax ay (by simpa using hg),Result.andThen_ok,run_neq_struct w t ax ay]
   rw [this];rfl
  ·cases h
 ·rename_i es
  split at h
  ·rename_i e hu
   simp only [Option.some.injEq,Prod.mk.injEq,Bool.not_eq_true']at h
   obtain⟨rfl,hne⟩:=h
   cases h1 with
   |d h1=>
   cases h2
   obtain⟨a,n,c,rfl⟩:=Ap h1 hne
   exact⟨_,yV hu ox oy _ n c,.bool _⟩
  ·cases h
 ·rename_i es
  split at h
  ·rename_i e hu
   simp only [Option.some.injEq,Prod.mk.injEq,Bool.not_eq_true']at h
   obtain⟨rfl,hne⟩:=h
   cases h1 with
   |d h1=>
   cases h2
   obtain⟨a,n,c,rfl⟩:=Ap h1 hne
   exact⟨_,yZ hu ox oy _ n c,.bool _⟩
  ·cases h
 ·split at h
  ·rename_i e hu
   cases h
   cases h1
   cases h2
   exact⟨_,yV hu ox oy _ 0 0,.bool _⟩
  ·cases h
 ·split at h
  ·rename_i e hu
   cases h
   cases h1
   cases h2
   exact⟨_,yZ hu ox oy _ 0 0,.bool _⟩
  ·cases h
 ·cases h
theorem AL{op:BinOp}{x y:RV}{p:PD}(t:TypeId)(ox oy:Operand){v1 v2:Value}(h:wm P op t x y=some (p,true))(h1:R S loc x v1)(h2:R S loc y v2):
  ∃v,(do eqGuard op t ox oy v1 v2;binOp op t v1 v2:Sem Value).run P w= .ok v w∧V S p v:=by
 unfold wm at h
 split at h
 ·rename_i r hr
  cases h
  exact zV t ox oy hr h1 h2
 ·exact AV t ox oy h h1 h2
theorem xo{op:BinOp}(t:TypeId)(ox oy:Operand)(ty:TypeId)(x:Value):(eqGuard op t ox oy (.iface ty x) .nilIface).run P w= .ok () w:=by
 unfold eqGuard
 cases op<;>simp
theorem tN{op:BinOp}(t:TypeId)(ox oy:Operand)(hc:(isC ox||isC oy)=true):(eqGuard op t ox oy .nilIface .nilIface).run P w= .ok () w:=by
 unfold eqGuard
 cases op<;>simp
 all_goals (cases ox<;>cases oy<;>simp [isC]at hc⊢)
theorem yW{t:TypeId}{ms:Array (String×TypeId)}(hu:P.underlying t=some (.interface ms))(ty:TypeId)(x:Value):(Op.equal t (.iface ty x) .nilIface).run P w= .ok false w:=by
 have hd:∀d,(Op.equalIn (d+1) t (.iface ty x) .nilIface).run P w= .ok false w:=fun d=>by simp [Op.equalIn,run_underlying hu]
 exact hd 9999
theorem vw{t:TypeId}{ms:Array (String×TypeId)}(hu:P.underlying t=some (.interface ms)):(Op.equal t .nilIface .nilIface).run P w= .ok true w:=by
 have hd:∀d,(Op.equalIn (d+1) t .nilIface .nilIface).run P w= .ok true w:=fun d=>by simp [Op.equalIn,run_underlying hu]
 exact hd 9999
theorem zr{op:BinOp}{x y:RV}{p:PD}(t:TypeId)(ox oy:Operand){v1 v2:Value}(h:A0 P op t (isC ox||isC oy) x y=some (p,true))(h1:R S loc x v1)(h2:R S loc y v2):
  ∃v,(do eqGuard op t ox oy v1 v2;binOp op t v1 v2:Sem Value).run P w= .ok v w∧V S p v:=by
 unfold A0 at h
 split at h
 ·rename_i ms ok hu
  simp only [Option.some.injEq,Prod.mk.injEq]at h
  obtain⟨rfl,hc⟩:=h
  cases h2 with
  |d h2=>
  cases h2
  cases h1 with
  |err ty x=>exact⟨.bool false,by simp [xo,binOp,yW hu],.bool _⟩
  |noerr=>exact⟨.bool true,by simp [tN t ox oy (by simpa using hc),binOp,vw hu],.bool _⟩
 ·rename_i ms ok hu
  simp only [Option.some.injEq,Prod.mk.injEq]at h
  obtain⟨rfl,hc⟩:=h
  cases h2 with
  |d h2=>
  cases h2
  cases h1 with
  |err ty x=>exact⟨.bool true,by simp [xo,binOp,yW hu],.bool _⟩
  |noerr=>exact⟨.bool false,by simp [tN t ox oy (by simpa using hc),binOp,vw hu],.bool _⟩
 ·rename_i ms hu
  simp only [Option.some.injEq,Prod.mk.injEq]at h
  obtain⟨rfl,hc⟩:=h
  cases h1 with
  |d h1=>
  cases h2 with
  |d h2=>
  cases h1;cases h2
  exact⟨.bool true,by simp [tN t ox oy hc,binOp,vw hu],.bool _⟩
 ·rename_i ms hu
  simp only [Option.some.injEq,Prod.mk.injEq]at h
  obtain⟨rfl,hc⟩:=h
  cases h1 with
  |d h1=>
  cases h2 with
  |d h2=>
  cases h1;cases h2
  exact⟨.bool false,by simp [tN t ox oy hc,binOp,vw hu],.bool _⟩
 ·cases h
theorem AM{op:BinOp}{x y:RV}{p:PD}(t:TypeId)(ox oy:Operand){v1 v2:Value}(h:binX P op t ox oy x y=some (p,true))(h1:R S loc x v1)(h2:R S loc y v2):
  ∃v,(do eqGuard op t ox oy v1 v2;binOp op t v1 v2:Sem Value).run P w= .ok v w∧V S p v:=by
 unfold binX at h
 split at h
 ·rename_i r hr
  cases h
  exact AL t ox oy hr h1 h2
 ·exact zr t ox oy h h1 h2
end
end Go.Dw
