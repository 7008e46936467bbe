
import Derived.Test.YtomapcboiinfdaaGreatDwWrite
open List renaming ext_getElem?->AY, getElem?_set->AZ, getElem?_take->AH, mem_of_getElem?->A0, mem_or_eq_of_mem_set->A1
open Nat renaming add_mul->A2, mul_le_mul_right->A3, one_mul->A4
open Bool renaming and_eq_true->A5, true_eq->A6

namespace Go.Dw
section
variable {P:Program}{X:Ctx}{S:mW}{loc:nB}{s:St}{tm:Array Value}{w:World}
theorem PD.wJ(e:PD)(o:Nat)(vs:List PD)(h:o+vs.length<=e.cells.length)(m:∀p∈vs,p.one=true):
  (e.put o vs).cells.length=e.cells.length∧∀j,(e.put o vs).cells[j]? =if o<=j∧j<o+vs.length then vs[j-o]? else e.cells[j]? :=by
 have single:∀(e:PD),e.cells=[e]->(e.put o vs)=vs.headD e->o+vs.length<=1->
   (e.put o vs).cells.length=e.cells.length∧∀j,(e.put o vs).cells[j]? =if o<=j∧j<o+vs.length then vs[j-o]? else e.cells[j]? :=by
  intro e he g hle
  rw [g,he]
  cases vs with
  |nil=>simp only [List.headD_nil,he,List.length_nil];exact⟨trivial,fun j=>by rw [if_neg om]⟩
  |cons v r=>
   have i:r=[]:=List.eq_nil_of_length_eq_zero (by simp at hle;omega)
   subst i
   have f:o=0:=by simp at hle;omega
   subst f
   have a:=m v sm
   have c:v.cells=[v]:=by cases v<;>first|rfl|(simp [PD.one]at a)
   simp only [List.headD_cons,c,List.length_singleton]
   refine⟨trivial,fun j=>?_⟩
   cases j with
   |zero=>simp
   |succ j=>rw [if_neg om];simp
 cases e with
 |agg cs=>exact⟨by simp [PD.put,PD.cells,uu],fun j=>by simp only [PD.put,PD.cells];exact wv vs cs o j h⟩
 |bool b=>exact single _ rfl rfl h
 |int k n=>exact single _ rfl rfl h
 |str l=>exact single _ rfl rfl h
 |lst l=>exact single _ rfl rfl h
 |raw v=>exact single _ rfl rfl h
theorem V.cells{p:PD}{v:Value}(h:V S p v):v.cells.size=p.cells.length∧(∀(i:Nat)c u,p.cells[i]? =some c->v.cells[i]? =some u->V S c u):=by
 cases h with
 |agg cs vs r h=>exact⟨r,h⟩
 |bool b=>exact⟨rfl,fun i c u h1 e=>by cases i<;>simp [PD.cells,Value.cells]at h1 e;subst h1;subst e;exact .bool b⟩
 |int k n=>exact⟨rfl,fun i c u h1 e=>by cases i<;>simp [PD.cells,Value.cells]at h1 e;subst h1;subst e;exact .int k n⟩
 |str l=>exact⟨rfl,fun i c u h1 e=>by cases i<;>simp [PD.cells,Value.cells]at h1 e;subst h1;subst e;exact .str l⟩
 |nil a j=>exact⟨rfl,fun i c u h1 e=>by cases i<;>simp [PD.cells,Value.cells]at h1 e;subst h1;subst e;exact .nil a j⟩
 |lst es b o j sz f m q hS hV=>exact⟨rfl,fun i c u h1 e=>by cases i<;>simp [PD.cells,Value.cells]at h1 e;subst h1;subst e;exact .lst es b o j sz f m q hS hV⟩
 |raw _ g=>
  have m:=cells_one (v:=v) (by unfold yG at g;split at g<;>first|rfl|cases g)
  rw [m]
  exact⟨rfl,fun i c u h1 e=>by cases i<;>simp [PD.cells]at h1 e;subst h1;subst e;exact .raw _ g⟩
theorem Flat.set{sz:Nat}{es:List PD}{xs:List Value}(h:Flat S sz es xs)(F:xs.length=es.length*sz){i o n:Nat}{e p:PD}(he:es[i]? =some e)(G:p.cells.length=n)(D:∀c∈p.cells,c.one=true)
  (hle:o+n<=e.cells.length) {vs:List Value} (z:vs.length=n) (y:∀u∈vs,u.oneCell'=true) (E:∀(j:Nat)c u,p.cells[j]? =some c->vs[j]? =some u->V S c u):
  Flat S sz (es.set i (e.put o p.cells)) (xs.take (i*sz+o)++vs++xs.drop (i*sz+o+n)):=by
 have hi:i<es.length:=(List.getElem?_eq_some_iff.1 he).1
 have l:e.cells.length=sz:=h.len e (A0 he)
 obtain⟨t,k⟩:=PD.wJ e o p.cells om D
 have hmul:(i+1)*sz<=es.length*sz:=A3 _ hi
 rw [A2,A4]at hmul
 have hlen:i*sz+o+n<=xs.length:=by omega
 refine⟨?_,?_,?_⟩
 ·intro x B
  rcases A1 B with B|rfl
  ·exact h.len x B
  ·rw [t,l]
 ·intro u hu
  rcases List.mem_append.1 hu with hu|hu
  ·rcases List.mem_append.1 hu with hu|hu
   ·exact h.one u (List.mem_of_mem_take hu)
   ·exact y u hu
  ·exact h.one u (List.mem_of_mem_drop hu)
 ·intro r C j x a b
  rw [ow xs vs (i*sz+o) n _ z hlen]
  rw [AZ]at a
  by_cases g:i=r
  ·subst g
   simp only [if_true,hi,Option.some.injEq]at a
   subst a
   rw [k]at b
   have m:j<sz:=by
    have:j<(e.put o p.cells).cells.length:=by
     rw [<-k]at b
     exact(List.getElem?_eq_some_iff.1 b).1
    omega
   by_cases q:o<=j∧j<o+p.cells.length
   ·rw [if_pos q]at b
    rw [if_pos om]
    have:i*sz+j-(i*sz+o)=j-o:=by omega
    rw [this]
    have f:j-o<vs.length:=by omega
    exact⟨vs[j-o],zc f,E (j-o) x _ b (zc f)⟩
   ·rw [if_neg q]at b
    rw [if_neg om]
    exact h.cell i e j x he b
  ·rw [if_neg g]at a
   have m:j<sz:=by
    have:=h.len C (A0 a)
    have:=(List.getElem?_eq_some_iff.1 b).1
    omega
   rw [if_neg]
   ·exact h.cell r C j x a b
   ·rcases Nat.lt_or_gt_of_ne g with f|v
    ·have h1:(i+1)*sz<=r*sz:=A3 _ f
     rw [A2,A4]at h1
     omega
    ·have h1:(r+1)*sz<=i*sz:=A3 _ v
     rw [A2,A4]at h1
     omega
theorem oj:∀(u:Ups)(s:St)(id:Nat),id∉u.map (·.1)->(s.ups u).boxes id=s.boxes id
 | [],_,_,_=>rfl
 |(i,b)::r,s,id,h=>by
  rw [oz,oj r _ id (fun hm=>h (by simp only [List.map_cons,List.mem_cons];exact .inr hm))]
  exact nE _ _ (fun e=>h (by simp [e]))
theorem yN{rv:RV}{b:nn}{p:PD}{u:Ups}{r:List Nat}(h:pf rv b=some ((p,u),r,true))(H:rv.sized=true):p.cells.length=rv.cells.length∧∀c∈p.cells,c.one=true:=by
 have o:∀{cs:List RV}{t:List PD}{u:Ups}{r:List Nat},qp cs b=some ((t,u),r,true)->(∀c∈cs,c.one=true)->t.length=cs.length∧∀c∈t,c.one=true:=by
  intro cs
  induction cs with
  |nil=>
   intro t u r h _
   obtain⟨h1, -, -⟩:=M.mJ (b:=b) h
   cases h1
   exact⟨rfl,fun c l=>by cases l⟩
  |cons c cs I=>
   intro t u r h E
   obtain⟨⟨p,u1⟩,C,D,h1,g,_⟩:=M.bind_some h
   obtain⟨⟨J,u2⟩,K,L,m,G,_⟩:=M.bind_some g
   obtain⟨v, -, -⟩:=M.mJ G
   cases v
   obtain⟨i1,i2⟩:=I m (fun c l=>E c (by simp [l]))
   refine⟨by simp [i1],fun x B=>?_⟩
   rcases List.mem_cons.1 B with rfl|B
   ·have z:=E c sm
    cases c with
    |d q=>obtain⟨v, -, -⟩:=M.mJ (b:=b) h1;cases v;exact z
    |cI=>obtain⟨v, -, -⟩:=M.mJ (b:=b) h1;cases v;rfl
    |ref id ver=>
     obtain⟨y,C,D,h1,g,_⟩:=M.bind_some h1
     cases y with
     |arr k e es=>
      by_cases i:ver=k
      rotate_left
      ·simp only [i,if_false]at g;exact fE b g
      simp only [i,if_true]at g
      obtain⟨m, -, -⟩:=M.mJ (b:=b) g
      cases m
      rfl
     |var _=>exact fE b g
     |dead=>exact fE b g
     |map _ _ _=>exact fE b g
     |nest _ _ _ _ _=>exact fE b g
     |hole _ _ _ _ _ _=>exact fE b g
    |undef=>exact fE b h1
    |junk=>exact fE b h1
    |agg cs=>exact fE b h1
    |tup cs=>exact fE b h1
    |ptr a c=>exact fE b h1
    |elt a c d f=>exact fE b h1
    |cptr a=>exact fE b h1
    |view id ver lo hi=>
     obtain⟨y,C,D,h1,g,_⟩:=M.bind_some h1
     cases y with
     |arr k e es=>
      by_cases i:ver=k
      rotate_left
      ·simp only [i,if_false]at g;exact fE b g
      simp only [i,if_true]at g
      obtain⟨m, -, -⟩:=M.mP (b:=b) g
      cases m
      rfl
     |var _=>exact fE b g
     |dead=>exact fE b g
     |map _ _ _=>exact fE b g
     |nest _ _ _ _ _=>exact fE b g
     |hole _ _ _ _ _ _=>exact fE b g
    |clo a c=>exact fE b h1
    |fview _ _ _=>exact fE b h1
    |err _=>exact fE b h1
    |dfull _=>exact fE b h1
    |ifc _ _=>exact fE b h1
    |plit _=>exact fE b h1
    |pcp _=>exact fE b h1
   ·exact i2 x B
 have j:∀c∈rv.cells,c.one=true:=fun c l=>List.all_eq_true.1 H c l
 have single:rv.cells=[rv]->sZ rv b=some ((p,u),r,true)->p.cells.length=rv.cells.length∧∀c∈p.cells,c.one=true:=by
  intro l h1
  have g:qp [rv] b=some (([p],u++[]),r++([]++[]),true):=by
   simp only [qp,M.bind,h1,M.pure,Bool.and_true]
  obtain⟨_,i2⟩:=o g (fun c n=>j c (by rw [l];exact n))
  have F:p.one=true:=i2 p sm
  have:p.cells=[p]:=by cases p<;>first|rfl|(simp [PD.one]at F)
  rw [this,l]
  exact⟨rfl,fun c n=>by simp at n;rw [n];exact F⟩
 cases rv with
 |agg cs=>
  unfold pf at h
  obtain⟨⟨t,u1⟩,C,D,h1,g,_⟩:=M.bind_some h
  obtain⟨m, -, -⟩:=M.mJ (b:=b) g
  cases m
  obtain⟨i1,i2⟩:=o h1 j
  exact⟨i1,i2⟩
 |d q=>
  obtain⟨m, -, -⟩:=M.mJ (b:=b) h
  cases m
  cases p with
  |agg cs=>
   refine⟨by simp [PD.cells,RV.cells],fun c l=>?_⟩
   exact j (.d c) (by simp only [RV.cells];exact List.mem_map.2 ⟨c,l,rfl⟩)
  |_=>exact single rfl h
 |cI=>exact single rfl h
 |ref id ver=>exact single rfl h
 |undef=>exact single rfl h
 |junk=>exact single rfl h
 |tup cs=>exact single rfl h
 |ptr a c=>exact single rfl h
 |elt a c d f=>exact single rfl h
 |cptr a=>exact single rfl h
 |view a c d f=>exact single rfl h
 |clo a c=>exact single rfl h
 |fview _ _ _=>exact single rfl h
 |err _=>exact single rfl h
 |dfull _=>exact single rfl h
 |ifc _ _=>exact single rfl h
 |plit _=>exact single rfl h
 |pcp _=>exact single rfl h
theorem rowAt.set1{w:World}{e:TypeId}{n g c i:Nat}{xs:List Value}{cur:Array Value}{ty:TypeId}{u:Nat×Nat}{v:Value}(how:rowAt w e 1 (.slice (some ⟨g,0,none⟩) n (c+1)) n xs)(hi:i<n)
  (t:w.heap[g]? =some (.cells cur ty u)) (o:v.cells= #[v]):i<cur.size∧ty=e∧rowAt (w.setRow g (cur.toList.take i++v.cells.toList++cur.toList.drop (i+1)).toArray) e 1 (.slice (some ⟨g,0,none⟩) n (c+1)) n (xs.set i v):=by
 have how:=how.qN om
 rcases how.2 with⟨he,_⟩|⟨z,cap,r,x,he,l,b,m,j,y,a⟩
 ·cases he
 cases he
 rw [t]at b
 cases b
 have q:xs.length=n*1:=how.1
 refine⟨om,rfl,.inl ⟨by simpa using q,.inr ⟨g,c+1,_,_,rfl,l,setRow_heap w g cur _ e _ t,m,j,?_,?_⟩⟩⟩
 ·simp [o];omega
 ·rw [<-a]
  apply AY
  intro k
  have p:v.cells.toList.length=1:=by rw [o];rfl
  rw [AH,ow _ _ _ _ _ p so,AZ,AH]
  by_cases hk:k<n*1
  ·rw [if_pos hk]
   by_cases f:i=k
   ·subst f
    rw [if_pos om,if_pos rfl,if_pos so,o]
    simp
   ·rw [if_neg om,if_neg f,if_pos hk]
  ·rw [if_neg hk]
   rw [if_neg om,if_neg hk]
theorem xf(h:Sim P X S loc s tm w){t:TypeId}{x y v:RV}{u:Ups}{r:List Nat}{vx G:Value}(hl:rz P t x y s.boxes=some ((v,u),r,true))(hx:R S loc x vx)(hy:R S loc y G):
  ∃w' S' loc',(Instr.storeAt t vx G).run P w= .ok () w'∧Sim P X S' loc' (s.ups u) tm w'∧v= .undef:=by
 unfold rz at hl
 rcases hn:szT P t with _|n
 ·simp only [hn]at hl;exact fE s.boxes hl
 simp only [hn]at hl
 rcases x with _|_|_|_|_|_|_|⟨id,off⟩|⟨id,ver,i,o⟩|_|_|_|_<;>first|exact fE s.boxes hl|skip
 ·obtain⟨bx,r1,r2,h1,z,_⟩:=M.bind_some hl
  obtain⟨hb,_,_⟩:=M.get_some h1
  cases bx with
  |var cs=>
   obtain⟨h3, -,O⟩:=M.mP z
   cases h3
   simp only [A6,A5]at O
   obtain⟨hs,O⟩:=O
   obtain⟨T,c2⟩:=of_decide_eq_true O
   obtain⟨b,ty,vs,a,rfl,hw,hlen,hv⟩:=h.xh hb hx
   obtain⟨y1,Q,y3⟩:=hy.sized hs
   have B:=pV (P:=P) (w:=w) hn sm hw (v:=G) (o:=off) (by rw [y1];exact T) om y3
   refine⟨_,S,upd loc id (.var b),B,?_,rfl⟩
   have E:ni (loc id) (.var b):=by rw [a];exact .same _
   refine h.nH (Step.setRow w b _) id _ _ (fun b' J=>by cases J;exact⟨_,a,rfl⟩) ?_ (fun b' C=>by cases C;exact .inl ⟨_,a,rfl⟩) E
   ·refine .var _ b ty _ (setRow_heap w b vs _ ty _ hw) ?_ ?_
    ·simp [pL];omega
    ·intro j c u hj hu
     rw [tV _ _ _ _ om]at hj
     rw [List.getElem?_toArray,ow _ _ _ _ _ (by simpa using(by rw [y1];exact T)) so]at hu
     by_cases c5:off<=j∧j<off+y.cells.length
     ·rw [if_pos c5]at hj
      rw [if_pos om]at hu
      exact(Q _ c u hj (by simpa using hu)).mono (Sub.refl S) (mZ.upd E)
     ·rw [if_neg c5]at hj
      rw [if_neg om]at hu
      exact(hv _ c u hj (by simpa using hu)).mono (Sub.refl S) (mZ.upd E)
  |arr _ _ _=>exact fE s.boxes z
  |dead=>exact fE s.boxes z
  |map _ _ _=>exact fE s.boxes z
  |nest _ _ _ _ _=>exact fE s.boxes z
  |hole _ _ _ _ _ _=>exact fE s.boxes z
 ·obtain⟨bx,r1,r2,h1,z,_⟩:=M.bind_some hl
  obtain⟨hb,_,_⟩:=M.get_some h1
  cases bx with
  |arr I e es=>
   by_cases f:ver=I
   rotate_left
   ·simp only [f,if_false]at z;exact fE s.boxes z
   simp only [f,if_true]at z
   subst f
   obtain⟨⟨p,u1⟩,r3,r4,h3,h4,_⟩:=M.bind_some z
   rcases Y:es[i]? with _|el
   ·simp only [Y]at h4;exact fE s.boxes h4
   simp only [Y]at h4
   by_cases W:(u1.map (·.1)).contains id=true
   ·simp only [W,if_true]at h4;exact fE s.boxes h4
   simp only [W]at h4
   obtain⟨h5, -,O⟩:=M.mP (b:=s.boxes) h4
   cases h5
   simp only [A6,A5]at O
   obtain⟨hs,O⟩:=O
   obtain⟨T,c2⟩:=of_decide_eq_true O
   obtain⟨p1,p2,p3⟩:=qU h3
   obtain⟨q1,q2⟩:=yN h3 hs
   obtain⟨S',loc',c1,b5,hle,D⟩:=h.re u1 p1 (fun x hx=>.inl (p2 x hx))
   have d1:V S' p G:=p3 S loc S' G hy b5 D
   obtain⟨y1,Q,y3⟩:=hy.sized hs
   have b2:id∉u1.map (·.1):=by
    intro hm
    exact W (by simpa using hm)
   have C:(s.ups u1).boxes id=some (.arr ver e es):=by rw [oj u1 s id b2];exact hb
   obtain⟨sz,xs,g,m,c,a,rfl,a8,how,hf⟩:=c1.yq C (hx.mono b5 hle)
   have c4:i<es.length:=(List.getElem?_eq_some_iff.1 Y).1
   have how:=how.qN om
   rcases how.2 with⟨he,_⟩|⟨g',cap,cur,fz,he,D,hg,L,a9,K,F⟩
   ·cases he
   cases he
   obtain⟨c,rfl⟩:∃c',c=c'+1:=⟨c-1,om⟩
   have d2:el.cells.length=sz:=hf.len el (A0 Y)
   have hmul:(i+1)*sz<=es.length*sz:=A3 _ c4
   rw [A2,A4]at hmul
   have c0:xs.length=es.length*sz:=how.1
   have b4:es.length*sz<=cur.size:=by
    rw [K];exact A3 _ L
   have H:G.cells.size=n:=by rw [d1.cells.1,T]
   have B:=pV (P:=P) (w:=w) hn (D.free K) hg (v:=G) (o:=i*sz+o) H om y3
   refine⟨_,S',upd loc' id (.arr ver e sz (.slice (some ⟨g,0,none⟩) es.length (c+1))),B,?_,rfl⟩
   rw [qg,oz]
   refine c1.nH (Step.setRow w g _) id _ _ (fun b' J=>by cases J;exact⟨_,a,rfl⟩) ?_ (fun b' C=>by cases C;exact .inl ⟨_,a,rfl⟩) (by rw [a];exact .same _)
   ·refine .arr ver e _ sz _ (xs.take (i*sz+o)++G.cells.toList++xs.drop (i*sz+o+n)) a8 ?_ ?_
    ·rw [List.length_set]
     refine .inl ⟨?_,.inr ⟨g,c+1,_,_,rfl,D,setRow_heap w g cur _ e _ hg,L,a9,?_,?_⟩⟩
     ·simp [H];omega
     ·simp [H];omega
     ·rw [<-F]
      apply AY
      intro k
      have b3:G.cells.toList.length=n:=by simpa using H
      rw [AH,ow _ _ _ _ _ b3 so]
      have e1:(es.length*sz)<=cur.toList.length:=by simpa using b4
      rw [ow _ _ _ _ _ b3 so]
      rw [AH]
      by_cases hk:k<es.length*sz
      ·rw [if_pos hk,if_pos hk]
      ·rw [if_neg hk,if_neg om,if_neg hk]
    ·exact hf.set c0 Y T q2 c2 (by simpa using H) (fun u hu=>y3 u (by simpa using hu)) (fun j c u hj hu=>d1.cells.2 j c u hj (by simpa using hu))
  |var _=>exact fE s.boxes z
  |dead=>exact fE s.boxes z
  |map _ _ _=>exact fE s.boxes z
  |hole I e es j q e0=>
   by_cases f:ver=I∧i=j∧o=q∧n=1
   rotate_left
   ·simp only [if_neg f]at z;exact fE s.boxes z
   simp only [if_pos f]at z
   obtain⟨rfl,rfl,rfl,rfl⟩:=f
   obtain⟨h5, -,a6⟩:=M.mP (b:=s.boxes) z
   cases h5
   obtain⟨sz,xs,u0,g,m,c,a,rfl,a8,how,hf,hi,ho,hu,hr⟩:=h.wY hb hx
   have how:=how.qN om
   rcases how.2 with⟨he,_⟩|⟨g',cap,cur,fz,he,D,hg,L,a9,K,F⟩
   ·cases he
   cases he
   obtain⟨c,rfl⟩:∃c',c=c'+1:=⟨c-1,om⟩
   obtain⟨y1,Q⟩:=hy.pR a6.symm
   have hmul:(i+1)*sz<=es.length*sz:=A3 _ hi
   rw [A2,A4]at hmul
   have c0:xs.length=es.length*sz:=how.1
   have b4:es.length*sz<=cur.size:=by
    rw [K];exact A3 _ L
   have B:=pV (P:=P) (w:=w) hn (D.free K) hg (v:=G) (o:=i*sz+o) (by rw [Q];rfl) om (fun u hu=>by rw [Q]at hu;simp at hu;rw [hu];exact y1)
   refine⟨_,S,upd loc id (.arr ver e sz (.slice (some ⟨g,0,none⟩) es.length (c+1))),B,?_,rfl⟩
   have E:ni (loc id) (.arr ver e sz (.slice (some ⟨g,0,none⟩) es.length (c+1))):=by rw [a];exact .same _
   refine h.nH (Step.setRow w g _) id _ _ (fun b' J=>by cases J;exact⟨_,a,rfl⟩) ?_ (fun b' C=>by cases C;exact .inl ⟨_,a,rfl⟩) E
   have d0:i*sz+o<xs.length:=by omega
   refine .hole ver e es i o y sz _ (xs.set (i*sz+o) G) G a8 ?_ ⟨hf.len,fun u hu=>?_,fun k x j c' h1 z h3=>?_⟩ hi ho (by simp [d0]) (hy.mono (Sub.refl S) (mZ.upd E))
   ·refine .inl ⟨by simpa using c0,.inr ⟨g,c+1,_,_,rfl,D,setRow_heap w g cur _ e _ hg,L,a9,?_,?_⟩⟩
    ·rw [Q];simp;omega
    ·rw [<-F]
     apply AY
     intro k
     have b3:G.cells.toList.length=1:=by rw [Q];rfl
     rw [AH,ow _ _ _ _ _ b3 so,AZ,AH]
     by_cases hk:k<es.length*sz
     ·rw [if_pos hk]
      by_cases b1:i*sz+o=k
      ·subst b1
       rw [if_pos om,if_pos rfl,if_pos so,Q]
       simp
      ·rw [if_neg om,if_neg b1,if_pos hk]
     ·rw [if_neg hk]
      rw [if_neg om,if_neg hk]
   ·rcases A1 hu with hu|rfl
    ·exact hf.one u hu
    ·exact y1
   ·obtain⟨u,h4,h5⟩:=hf.cell k x j c' h1 z h3
    refine⟨u,?_,h5⟩
    have hj:j<sz:=by rw [<-hf.len x (A0 h1)];exact(List.getElem?_eq_some_iff.1 z).1
    rw [List.getElem?_set_ne ?_]
    ·exact h4
    ·intro heq
     apply h3
     have b1:k=i:=by
      rcases Nat.lt_trichotomy k i with c6|c3|c6
      ·have:=A3 sz (show k+1<=i by omega)
       rw [A2,A4]at this
       omega
      ·exact c3
      ·have:=A3 sz (show i+1<=k by omega)
       rw [A2,A4]at this
       omega
     subst b1
     exact⟨rfl,om⟩
  |nest I e e2 ess hh=>
   by_cases f:ver=I∧o=0∧n=1
   rotate_left
   ·simp only [f,if_false]at z;exact fE s.boxes z
   simp only [if_pos f]at z
   obtain⟨rfl,rfl,rfl⟩:=f
   obtain⟨h5, -,O⟩:=M.mP (b:=s.boxes) z
   cases h5
   simp only [A6,A5]at O
   obtain⟨⟨a6,a5⟩,N⟩:=O
   have a5:=of_decide_eq_true a5
   have N:∀j r,hh=some (j,r)->i=j:=fun j r e=>by subst e;exact of_decide_eq_true N
   obtain⟨xs,bs,k,g,m,c,a,rfl,a8,d4,how,L,c8,c6⟩:=h.yZ hb hx
   have c9:=how.qN om
   rcases c9.2 with⟨he,_⟩|⟨g',cap,cur,fz,he,D,hg,d5,a9,K,F⟩
   ·cases he
   cases he
   obtain⟨c,rfl⟩:∃c',c=c'+1:=⟨c-1,om⟩
   obtain⟨y1,Q⟩:=hy.pR a6
   have B:=pV (P:=P) (w:=w) hn (D.free K) hg (v:=G) (o:=i) (by rw [Q];rfl) om (fun u hu=>by rw [Q]at hu;simp at hu;rw [hu];exact y1)
   obtain⟨r1,r2,r3⟩:=how.set1 (v:=G) a5 hg Q
   obtain⟨nc,c7⟩:∃nc,(ncs e2 ess hh)[i]? =some nc:=⟨_,zc (by rw [vT];exact a5)⟩
   obtain⟨v0,b0,b6,bs2,h6,h7,h8,h9⟩:=L.split c7
   have a7:=h9 (.val y) G [] (.val y G hy y1)
   rw [sa e2 ess hh i y N]at a7
   rw [List.nil_append]at a7
   have d3:∀b∈bs,b≠g:=fun b l e=>by
    subst e
    exact(List.nodup_append.1 c8).2.2 b (by simp [nT]) b l rfl
   have E:ni (loc id) (.nest ver e 1 (.slice (some ⟨g,0,none⟩) ess.length (c+1)) (b6++bs2)):=by rw [a];exact .held
   have hle:=mZ.upd E
   rw [Nat.add_zero]
   refine⟨_,S,upd loc id (.nest ver e 1 (.slice (some ⟨g,0,none⟩) ess.length (c+1)) (b6++bs2)),B,?_,rfl⟩
   refine h.nH (Step.setRow w g _) id _ _ (fun b' J=>by cases J;exact⟨_,a,by simp [Loc.has,nT]⟩) ?_ (fun b' C=>.inl ⟨_,a,?_⟩) E
   ·refine .nest ver e e2 ess _ _ (xs.set i G) (b6++bs2) a8 ⟨k,d4⟩ r3 (a7.dw (Sub.refl S) hle fun b l=>?_) ?_ (fun j rv e=>by cases e;exact a5)
    ·refine setRow_other w g b _ (d3 b ?_)
     rw [h6]
     rcases List.mem_append.1 l with l|l
     ·exact List.mem_append.2 (.inl l)
     ·exact List.mem_append.2 (.inr (List.mem_append.2 (.inr l)))
    ·refine List.Nodup.sublist ?_ c8
     rw [h6]
     exact List.Sublist.append (List.Sublist.refl _) (List.Sublist.append (List.Sublist.refl _) (List.sublist_append_right _ _))
   ·rcases List.mem_append.1 C with l|l
    ·exact List.mem_append.2 (.inl l)
    ·refine List.mem_append.2 (.inr ?_)
     rw [h6]
     rcases List.mem_append.1 l with l|l
     ·exact List.mem_append.2 (.inl l)
     ·exact List.mem_append.2 (.inr (List.mem_append.2 (.inr l)))
end
end Go.Dw
