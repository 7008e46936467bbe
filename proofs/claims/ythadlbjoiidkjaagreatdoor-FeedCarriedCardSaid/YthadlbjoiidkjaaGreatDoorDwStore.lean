
import Derived.Test.YthadlbjoiidkjaaGreatDoorDwWrite

namespace Go.Dw
section
variable {P:Program}{X:Ctx}{S:pR}{loc:qe}{s:St}{tm:Array Value}{w:World}
theorem PD.BN(e:PD)(o:Nat)(vs:List PD)(h:o+vs.length<=e.cells.length)(hv:∀p∈vs,p.one=true):
  (e.put o vs).cells.length=e.cells.length∧∀j,(e.put o vs).cells[j]? =if o<=j∧j<o+vs.length then vs[j-o]? else e.cells[j]? :=by
 have single:∀(e:PD),e.cells=[e]->(e.put o vs)=vs.headD e->o+vs.length<=1->
   (e.put o vs).cells.length=e.cells.length∧∀j,(e.put o vs).cells[j]? =if o<=j∧j<o+vs.length then vs[j-o]? else e.cells[j]? :=by
  intro e he hp hle
  rw [hp,he]
  cases vs with
  |nil=>simp only [List.headD_nil,he,List.length_nil];exact⟨trivial,fun j=>by rw [if_neg za]⟩
  |cons v r=>
   have hr:r=[]:=List.eq_nil_of_length_eq_zero (by simp at hle;omega)
   subst hr
   have ho:o=0:=by simp at hle;omega
   subst ho
   have hone:=hv v sm
   have hc:v.cells=[v]:=by cases v<;>first|rfl|(simp [PD.one]at hone)
   simp only [List.headD_cons,hc,List.length_singleton]
   refine⟨trivial,fun j=>?_⟩
   cases j with
   |zero=>simp
   |succ j=>rw [if_neg za];simp
 cases e with
 |agg cs=>exact⟨by simp [PD.put,PD.cells,xg],fun j=>by simp only [PD.put,PD.cells];exact yO vs cs o j h⟩
 |bool b=>exact single _ rfl rfl h
 |int k n=>exact single _ rfl rfl h
 |str l=>exact single _ rfl rfl h
 |lst l=>exact single _ rfl rfl h
 |raw v=>exact single _ rfl rfl h
theorem V.cells{p:PD}{v:Value}(h:V S p v):v.cells.size=p.cells.length∧(∀(i:Nat)c u,p.cells[i]? =some c->v.cells[i]? =some u->V S c u):=by
 cases h with
 |agg cs vs hl h=>exact⟨hl,h⟩
 |bool b=>exact⟨rfl,fun i c u h1 h2=>by cases i<;>simp [PD.cells,Value.cells]at h1 h2;subst h1;subst h2;exact .bool b⟩
 |int k n=>exact⟨rfl,fun i c u h1 h2=>by cases i<;>simp [PD.cells,Value.cells]at h1 h2;subst h1;subst h2;exact .int k n⟩
 |str l=>exact⟨rfl,fun i c u h1 h2=>by cases i<;>simp [PD.cells,Value.cells]at h1 h2;subst h1;subst h2;exact .str l⟩
 |nil a c'=>exact⟨rfl,fun i c u h1 h2=>by cases i<;>simp [PD.cells,Value.cells]at h1 h2;subst h1;subst h2;exact .nil a c'⟩
 |lst es b o c' sz f hc hsz hS hV=>exact⟨rfl,fun i c u h1 h2=>by cases i<;>simp [PD.cells,Value.cells]at h1 h2;subst h1;subst h2;exact .lst es b o c' sz f hc hsz hS hV⟩
 |raw _ hp=>
  have hc:=cells_one (v:=v) (by unfold A9 at hp;split at hp<;>first|rfl|cases hp)
  rw [hc]
  exact⟨rfl,fun i c u h1 h2=>by cases i<;>simp [PD.cells]at h1 h2;subst h1;subst h2;exact .raw _ hp⟩
theorem Flat.set{sz:Nat}{es:List PD}{xs:List Value}(h:Flat S sz es xs)(hxl:xs.length=es.length*sz){i o n:Nat}{e p:PD}(he:es[i]? =some e)(hp:p.cells.length=n)(ho:∀c∈p.cells,c.one=true)
  (hle:o+n<=e.cells.length) {vs:List Value} (hvl:vs.length=n) (hv1:∀u∈vs,u.oneCell'=true) (hv:∀(j:Nat)c u,p.cells[j]? =some c->vs[j]? =some u->V S c u):
  Flat S sz (es.set i (e.put o p.cells)) (xs.take (i*sz+o)++vs++xs.drop (i*sz+o+n)):=by
 have hi:i<es.length:=(List.getElem?_eq_some_iff.1 he).1
 have hesz:e.cells.length=sz:=h.len e (List.mem_of_getElem? he)
 obtain⟨hc1,hc2⟩:=PD.BN e o p.cells za ho
 have hmul:(i+1)*sz<=es.length*sz:=Nat.mul_le_mul_right _ hi
 rw [Nat.add_mul,Nat.one_mul]at hmul
 have hlen:i*sz+o+n<=xs.length:=by omega
 refine⟨?_,?_,?_⟩
 ·intro x hx
  rcases List.mem_or_eq_of_mem_set hx with hx|rfl
  ·exact h.len x hx
  ·rw [hc1,hesz]
 ·intro u hu
  rcases List.mem_append.1 hu with hu|hu
  ·rcases List.mem_append.1 hu with hu|hu
   ·exact h.one u (List.mem_of_mem_take hu)
   ·exact hv1 u hu
  ·exact h.one u (List.mem_of_mem_drop hu)
 ·intro i' e' j x hi' hj
  rw [sy xs vs (i*sz+o) n _ hvl hlen]
  rw [List.getElem?_set]at hi'
  by_cases hii:i=i'
  ·subst hii
   simp only [if_true,hi,Option.some.injEq]at hi'
   subst hi'
   rw [hc2]at hj
   have hjlt:j<sz:=by
    have:j<(e.put o p.cells).cells.length:=by
     rw [<-hc2]at hj
     exact(List.getElem?_eq_some_iff.1 hj).1
    omega
   by_cases hjo:o<=j∧j<o+p.cells.length
   ·rw [if_pos hjo]at hj
    rw [if_pos za]
    have:i*sz+j-(i*sz+o)=j-o:=by omega
    rw [this]
    have hlt:j-o<vs.length:=by omega
    exact⟨vs[j-o],zd hlt,hv (j-o) x _ hj (zd hlt)⟩
   ·rw [if_neg hjo]at hj
    rw [if_neg za]
    exact h.cell i e j x he hj
  ·rw [if_neg hii]at hi'
   have hjlt:j<sz:=by
    have:=h.len e' (List.mem_of_getElem? hi')
    have:=(List.getElem?_eq_some_iff.1 hj).1
    omega
   rw [if_neg]
   ·exact h.cell i' e' j x hi' hj
   ·rcases Nat.lt_or_gt_of_ne hii with hlt|hgt
    ·have h1:(i+1)*sz<=i'*sz:=Nat.mul_le_mul_right _ hlt
     rw [Nat.add_mul,Nat.one_mul]at h1
     omega
    ·have h1:(i'+1)*sz<=i*sz:=Nat.mul_le_mul_right _ hgt
     rw [Nat.add_mul,Nat.one_mul]at h1
     omega
theorem re:∀(u:Ups)(s:St)(id:Nat),id∉u.map (·.1)->(s.ups u).boxes id=s.boxes id
 | [],_,_,_=>rfl
 |(i,b)::r,s,id,h=>by
  rw [rr,re r _ id (fun hm=>h (by simp only [List.map_cons,List.mem_cons];exact .inr hm))]
  exact qJ _ _ (fun e=>h (by simp [e]))
theorem Be{rv:RV}{b:p8}{p:PD}{u:Ups}{r:List Nat}(h:sD rv b=some ((p,u),r,true))(hs:rv.sized=true):p.cells.length=rv.cells.length∧∀c∈p.cells,c.one=true:=by
 have hmap:∀{cs:List RV}{ps:List PD}{u:Ups}{r:List Nat},tS cs b=some ((ps,u),r,true)->(∀c∈cs,c.one=true)->ps.length=cs.length∧∀c∈ps,c.one=true:=by
  intro cs
  induction cs with
  |nil=>
   intro ps u r h _
   obtain⟨h1, -, -⟩:=M.pK (b:=b) h
   cases h1
   exact⟨rfl,fun c hc=>by cases hc⟩
  |cons c cs ih=>
   intro ps u r h ho
   obtain⟨⟨p,u1⟩,r1,r2,h1,h2,_⟩:=M.bind_some h
   obtain⟨⟨qs,u2⟩,r3,r4,h3,h4,_⟩:=M.bind_some h2
   obtain⟨h5, -, -⟩:=M.pK h4
   cases h5
   obtain⟨i1,i2⟩:=ih h3 (fun c hc=>ho c (by simp [hc]))
   refine⟨by simp [i1],fun x hx=>?_⟩
   rcases List.mem_cons.1 hx with rfl|hx
   ·have hc1:=ho c sm
    cases c with
    |d q=>obtain⟨h5, -, -⟩:=M.pK (b:=b) h1;cases h5;exact hc1
    |mo=>obtain⟨h5, -, -⟩:=M.pK (b:=b) h1;cases h5;rfl
    |ref id ver=>
     obtain⟨bx,r1,r2,h1,h2,_⟩:=M.bind_some h1
     cases bx with
     |arr ver' e es=>
      by_cases hver:ver=ver'
      rotate_left
      ·simp only [hver,if_false]at h2;exact fE b h2
      simp only [hver,if_true]at h2
      obtain⟨h3, -, -⟩:=M.pK (b:=b) h2
      cases h3
      rfl
     |var _=>exact fE b h2
     |dead=>exact fE b h2
     |map _ _ _=>exact fE b h2
    |undef=>exact fE b h1
    |junk=>exact fE b h1
    |agg cs=>exact fE b h1
    |tup cs=>exact fE b h1
    |ptr a c=>exact fE b h1
    |elt a c d f=>exact fE b h1
    |cptr a=>exact fE b h1
    |view id ver lo hi=>
     obtain⟨bx,r1,r2,h1,h2,_⟩:=M.bind_some h1
     cases bx with
     |arr ver' e es=>
      by_cases hver:ver=ver'
      rotate_left
      ·simp only [hver,if_false]at h2;exact fE b h2
      simp only [hver,if_true]at h2
      obtain⟨h3, -, -⟩:=M.pN (b:=b) h2
      cases h3
      rfl
     |var _=>exact fE b h2
     |dead=>exact fE b h2
     |map _ _ _=>exact fE b h2
    |clo a c=>exact fE b h1
    |fview _ _ _=>exact fE b h1
    |err _=>exact fE b h1
    |dfull _=>exact fE b h1
    |ifc _ _=>exact fE b h1
   ·exact i2 x hx
 have hall:∀c∈rv.cells,c.one=true:=fun c hc=>List.all_eq_true.1 hs c hc
 have single:rv.cells=[rv]->wO rv b=some ((p,u),r,true)->p.cells.length=rv.cells.length∧∀c∈p.cells,c.one=true:=by
  intro hc h1
  have h2:tS [rv] b=some (([p],u++[]),r++([]++[]),true):=by
   simp only [tS,M.bind,h1,M.pure,Bool.and_true]
  obtain⟨_,i2⟩:=hmap h2 (fun c hcm=>hall c (by rw [hc];exact hcm))
  have hp:p.one=true:=i2 p sm
  have:p.cells=[p]:=by cases p<;>first|rfl|(simp [PD.one]at hp)
  rw [this,hc]
  exact⟨rfl,fun c hcm=>by simp at hcm;rw [hcm];exact hp⟩
 cases rv with
 |agg cs=>
  unfold sD at h
  obtain⟨⟨ps,u1⟩,r1,r2,h1,h2,_⟩:=M.bind_some h
  obtain⟨h3, -, -⟩:=M.pK (b:=b) h2
  cases h3
  obtain⟨i1,i2⟩:=hmap h1 hall
  exact⟨i1,i2⟩
 |d q=>
  obtain⟨h3, -, -⟩:=M.pK (b:=b) h
  cases h3
  cases p with
  |agg cs=>
   refine⟨by simp [PD.cells,RV.cells],fun c hc=>?_⟩
   exact hall (.d c) (by simp only [RV.cells];exact List.mem_map.2 ⟨c,hc,rfl⟩)
  |_=>exact single rfl h
 |mo=>exact single rfl h
 |ref id ver=>exact single rfl h
 |undef=>exact single rfl h
 |junk=>exact single rfl h
 |tup cs=>exact single rfl h
 |ptr a c=>exact single rfl h
 |elt a c d f=>exact single rfl h
 |cptr a=>exact single rfl h
 |view a c d f=>exact single rfl h
 |clo a c=>exact single rfl h
 |fview _ _ _=>exact single rfl h
 |err _=>exact single rfl h
 |dfull _=>exact single rfl h
 |ifc _ _=>exact single rfl h
theorem zJ(h:Sim P X S loc s tm w){t:TypeId}{x y v:RV}{u:Ups}{r:List Nat}{vx vy:Value}(hl:tK P t x y s.boxes=some ((v,u),r,true))(hx:R S loc x vx)(hy:R S loc y vy):
  ∃w' S' loc',(Instr.storeAt t vx vy).run P w= .ok () w'∧Sim P X S' loc' (s.ups u) tm w'∧v= .undef:=by
 unfold tK at hl
 rcases hn:szT P t with _|n
 ·simp only [hn]at hl;exact fE s.boxes hl
 simp only [hn]at hl
 rcases x with _|_|_|_|_|_|_|⟨id,off⟩|⟨id,ver,i,o⟩|_|_|_|_<;>first|exact fE s.boxes hl|skip
 ·obtain⟨bx,r1,r2,h1,h2,_⟩:=M.bind_some hl
  obtain⟨hb,_,_⟩:=M.get_some h1
  cases bx with
  |var cs=>
   obtain⟨h3, -,hc⟩:=M.pN h2
   cases h3
   simp only [Bool.true_eq,Bool.and_eq_true]at hc
   obtain⟨hs,hc⟩:=hc
   obtain⟨hc1,hc2⟩:=of_decide_eq_true hc
   obtain⟨b,ty,vs,hloc,rfl,hw,hlen,hv⟩:=h.zN hb hx
   obtain⟨y1,y2,y3⟩:=hy.sized hs
   have hrun:=wM (P:=P) (w:=w) hn sm hw (v:=vy) (o:=off) (by rw [y1];exact hc1) za y3
   refine⟨_,S,upd loc id (.var b),hrun,?_,rfl⟩
   have hst:qp (loc id) (.var b):=by rw [hloc];exact .same _
   refine h.sf (Step.setRow w b _) id _ _ (fun b' hc'=>by cases hc';exact⟨_,hloc,rfl⟩) ?_ (fun b' hb'=>by cases hb';exact .inl ⟨_,hloc,rfl⟩) hst
   ·refine .var _ b ty _ (setRow_heap w b vs _ ty _ hw) ?_ ?_
    ·simp [tk];omega
    ·intro j c u hj hu
     rw [wJ _ _ _ _ za]at hj
     rw [List.getElem?_toArray,sy _ _ _ _ _ (by simpa using(by rw [y1];exact hc1)) so]at hu
     by_cases hjo:off<=j∧j<off+y.cells.length
     ·rw [if_pos hjo]at hj
      rw [if_pos za]at hu
      exact(y2 _ c u hj (by simpa using hu)).mono (Sub.refl S) (qa.upd hst)
     ·rw [if_neg hjo]at hj
      rw [if_neg za]at hu
      exact(hv _ c u hj (by simpa using hu)).mono (Sub.refl S) (qa.upd hst)
  |arr _ _ _=>exact fE s.boxes h2
  |dead=>exact fE s.boxes h2
  |map _ _ _=>exact fE s.boxes h2
 ·obtain⟨bx,r1,r2,h1,h2,_⟩:=M.bind_some hl
  obtain⟨hb,_,_⟩:=M.get_some h1
  cases bx with
  |arr ver' e es=>
   by_cases hver:ver=ver'
   rotate_left
   ·simp only [hver,if_false]at h2;exact fE s.boxes h2
   simp only [hver,if_true]at h2
   subst hver
   obtain⟨⟨p,u1⟩,r3,r4,h3,h4,_⟩:=M.bind_some h2
   rcases hel:es[i]? with _|el
   ·simp only [hel]at h4;exact fE s.boxes h4
   simp only [hel]at h4
   by_cases hcon:(u1.map (·.1)).contains id=true
   ·simp only [hcon,if_true]at h4;exact fE s.boxes h4
   simp only [hcon]at h4
   obtain⟨h5, -,hc⟩:=M.pN (b:=s.boxes) h4
   cases h5
   simp only [Bool.true_eq,Bool.and_eq_true]at hc
   obtain⟨hs,hc⟩:=hc
   obtain⟨hc1,hc2⟩:=of_decide_eq_true hc
   obtain⟨p1,p2,p3⟩:=uo h3
   obtain⟨q1,q2⟩:=Be h3 hs
   obtain⟨S',loc',hS',hsub,hle,hfz⟩:=h.uA u1 p1 (fun x hx=>.inl (p2 x hx))
   have hpy:V S' p vy:=p3 S loc S' vy hy hsub hfz
   obtain⟨y1,y2,y3⟩:=hy.sized hs
   have hnotin:id∉u1.map (·.1):=by
    intro hm
    exact hcon (by simpa using hm)
   have hb':(s.ups u1).boxes id=some (.arr ver e es):=by rw [re u1 s id hnotin];exact hb
   obtain⟨sz,xs,g,m,c,hloc,rfl,hsz,how,hf⟩:=hS'.AU hb' (hx.mono hsub hle)
   have hilt:i<es.length:=(List.getElem?_eq_some_iff.1 hel).1
   have how:=how.xc za
   rcases how.2 with⟨he,_⟩|⟨g',cap,cur,fz,he,hfz,hg,hnc,hcm,hcs,htake⟩
   ·cases he
   cases he
   obtain⟨c,rfl⟩:∃c',c=c'+1:=⟨c-1,za⟩
   have helsz:el.cells.length=sz:=hf.len el (List.mem_of_getElem? hel)
   have hmul:(i+1)*sz<=es.length*sz:=Nat.mul_le_mul_right _ hilt
   rw [Nat.add_mul,Nat.one_mul]at hmul
   have hxl:xs.length=es.length*sz:=how.1
   have hcur:es.length*sz<=cur.size:=by
    rw [hcs];exact Nat.mul_le_mul_right _ hnc
   have hvyl:vy.cells.size=n:=by rw [hpy.cells.1,hc1]
   have hrun:=wM (P:=P) (w:=w) hn (hfz.free hcs) hg (v:=vy) (o:=i*sz+o) hvyl za y3
   refine⟨_,S',upd loc' id (.arr ver e sz (.slice (some ⟨g,0,none⟩) es.length (c+1))),hrun,?_,rfl⟩
   rw [tL,rr]
   refine hS'.sf (Step.setRow w g _) id _ _ (fun b' hc'=>by cases hc';exact⟨_,hloc,rfl⟩) ?_ (fun b' hb'=>by cases hb';exact .inl ⟨_,hloc,rfl⟩) (by rw [hloc];exact .same _)
   ·refine .arr ver e _ sz _ (xs.take (i*sz+o)++vy.cells.toList++xs.drop (i*sz+o+n)) hsz ?_ ?_
    ·rw [List.length_set]
     refine .inl ⟨?_,.inr ⟨g,c+1,_,_,rfl,hfz,setRow_heap w g cur _ e _ hg,hnc,hcm,?_,?_⟩⟩
     ·simp [hvyl];omega
     ·simp [hvyl];omega
     ·rw [<-htake]
      apply List.ext_getElem?
      intro k
      have hvl:vy.cells.toList.length=n:=by simpa using hvyl
      rw [List.getElem?_take,sy _ _ _ _ _ hvl so]
      have e1:(es.length*sz)<=cur.toList.length:=by simpa using hcur
      rw [sy _ _ _ _ _ hvl so]
      rw [List.getElem?_take]
      by_cases hk:k<es.length*sz
      ·rw [if_pos hk,if_pos hk]
      ·rw [if_neg hk,if_neg za,if_neg hk]
    ·exact hf.set hxl hel hc1 q2 hc2 (by simpa using hvyl) (fun u hu=>y3 u (by simpa using hu)) (fun j c u hj hu=>hpy.cells.2 j c u hj (by simpa using hu))
  |var _=>exact fE s.boxes h2
  |dead=>exact fE s.boxes h2
  |map _ _ _=>exact fE s.boxes h2
end
end Go.Dw
