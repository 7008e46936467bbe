
import Derived.Test.YthadlbjoiidkjaaGreatDoorDwApp

namespace Go.Dw
section
variable {P:Program}{X:Ctx}{S:pR}{loc:qe}{s:St}{tm:Array Value}{w:World}
theorem zT{t ty e:TypeId}{i:TypeInfo}(ht:P.underlying t=some (.slice e))(hi:P.info? e=some i){g n cap m c:Nat}{cur:Array Value}{fz:Nat×Nat}(hfz:∀j,j<cur.size->¬(fz.1<=j∧j<fz.2))
  (hg:w.heap[g]? =some (.cells cur e fz)) {a:Addr} {news:List Value} (hl:news.length=m*i.size) (hn:∀(j:Nat)v,news[j]? =some v->w.cell? (a.add j)=some v) (h1:∀v∈news,v.oneCell'=true) (hroom:n+m<=cap) (hfit:n*i.size+news.length<=cur.size):
  (Builtin.append_ #[t,t] ty #[.slice (some ⟨g,0,none⟩) n cap,.slice (some a) m c]).run P w= .ok (.slice (some ⟨g,0,none⟩) (n+m) cap) (w.setRow g (cur.toList.take (n*i.size)++news++cur.toList.drop (n*i.size+news.length)).toArray):=by
 have hfc:=run_firstCells_some (P:=P) w i.size m a m c news hl hn
 have hst:=sg P g (n*i.size) e fz cur.size hfz news 0 cur w rfl hg za h1
 rw [Nat.add_zero]at hst
 simp [Builtin.append_,run_underlying ht,sizeOf,typeInfo,hi,Builtin.lenOf,hroom,hfc,Addr.add_lit,hst]
theorem wb{t ty e:TypeId}{i:TypeInfo}{z:Value}{sz by_:Nat}(ht:P.underlying t=some (.slice e))(hi:P.info? e=some i)(hz:i.zero=some z)(hsize:i.size=sz)(hby:i.bytes=by_+1)
  (hzs:z.cells.size=sz) (hsz:0<sz) {v vx:Value} {n:Nat} {xs:List Value} (hrow:rowAt w e sz v n xs) {es:List PD} (hx:Appd w S sz vx es)
  (hbytes:(n+es.length)*(by_+1)<=140737488355328):
  ∃v' w' news,(Builtin.append_ #[t,t] ty #[v,vx]).run P w= .ok v' w'∧rowAt w' e sz v' (n+es.length) (xs++news)∧Flat S sz es news∧Step (rk v) w w'∧v'.oneCell'=true∧
   ∀g,rk v'=some g->rk v=some g∨w.heap.size<=g:=by
 obtain⟨a,c,news,rfl,hnl,hf,hcell⟩:=hx
 subst hsize
 have hb1:(n+es.length)*1<=(n+es.length)*(by_+1):=Nat.mul_le_mul_left _ za
 have hsmall:n+es.length<=140737488355328:=by omega
 have hmax:n+es.length<=maxLen:=by simp only [maxLen];omega
 have hxl:=hrow.len
 have hlen:(xs++news).length=(n+es.length)*i.size:=by rw [List.length_append,hxl,hnl,Nat.add_mul]
 by_cases hne:es=[]
 ·subst hne
  have hn0:news=[]:=List.eq_nil_of_length_eq_zero (by simpa using hnl)
  subst hn0
  obtain⟨base,cap,rfl,hle⟩:=hrow.hdr
  refine⟨_,w,[],?_,by simpa using hrow,hf,Step.refl _ w,rfl,fun g hg=>.inl hg⟩
  have hfc:(Builtin.firstCells i.size 0 (.slice a 0 c)).run P w= .ok #[] w:=by
   cases a<;>simp [Builtin.firstCells,loadCells,loadCellsFrom]
  cases base<;>simp [Builtin.append_,run_underlying ht,sizeOf,typeInfo,hi,Builtin.lenOf,hle,hfc,storeCells]
 ·obtain⟨ad,rfl,hc⟩:=hcell hne
  have hm:0<es.length:=by cases es with|nil=>exact(hne rfl).elim|cons=>simp
  have grown:∀(old:Nat),old<n+es.length->∀w1:World,w1=w.drew.alloc (.cells (xs.toArray++news.toArray++Builtin.zeroCells z.cells (grownCap w (n+es.length) old e-(n+es.length))) e)->
    rA w1 e i.size (.slice (some ⟨w.heap.size,0,none⟩) (n+es.length) (grownCap w (n+es.length) old e)) (n+es.length) (xs++news)∧Step (rk v) w w1:=by
   intro old ho w1 hw1
   subst hw1
   have hge:=grownCap_ge w (n+es.length) old e
   refine⟨⟨hlen,.inr ⟨w.heap.size,_,_,_,rfl,.inl rfl,heap_alloc_new w.drew _,hge,grownCap_le_maxLen w _ old e hmax,?_,?_⟩⟩,((Step.drew w).trans (Step.alloc w.drew _)).mono⟩
   ·simp only [Array.size_append,List.size_toArray,size_zeroCells,hzs,hxl,hnl, <-Nat.add_mul]
    congr 1
    omega
   ·simp only [Array.toList_append,List.append_assoc]
    rw [<-List.append_assoc, <-hlen]
    exact List.take_left
  rcases hrow with hown|⟨rfl,rfl,a0,rfl⟩
  rotate_left
  ·cases a0 with
   |none=>
    simp only [Nat.zero_add]at hbytes hsmall grown
    have hr:=run_append_nil (P:=P) w t ty e i z ht hi hz ad es.length c news hnl hc hm za (by rw [hby];omega)
    obtain⟨g1,g2⟩:=grown 0 za _ rfl
    simp only [List.nil_append,Array.empty_append]at g1 g2
    refine⟨_,_,news,hr,?_,hf,g2,rfl,fun g hg=>by have:=rT hg;cases this;exact .inr (Nat.le_refl _)⟩
    exact .inl (by simpa using g1)
   |some a0=>
    have hr:=run_append_grow (P:=P) w t ty e i z ht hi hz a0 0 0 [] sm sm ad es.length c news hnl hc za za (growslice_fits za (by rw [hby];exact hbytes))
    obtain⟨g1,g2⟩:=grown 0 za _ rfl
    exact⟨_,_,news,hr,.inl g1,hf,g2,rfl,fun g hg=>by have:=rT hg;cases this;exact .inr (Nat.le_refl _)⟩
  rcases hown.2 with⟨rfl,rfl⟩|⟨g,cap,cur,fz,rfl,hfz,hg,hnc,hcm,hcs,htake⟩
  ·have hx0:xs=[]:=List.eq_nil_of_length_eq_zero (by simpa using hown.1)
   subst hx0
   simp only [Nat.zero_add]at hbytes hsmall grown
   have hr:=run_append_nil (P:=P) w t ty e i z ht hi hz ad es.length c news hnl hc hm za (by rw [hby];omega)
   obtain⟨g1,g2⟩:=grown 0 za _ rfl
   simp only [List.nil_append,Array.empty_append]at g1 g2
   refine⟨_,_,news,hr,?_,hf,g2,rfl,fun g hg=>by have:=rT hg;cases this;exact .inr (Nat.le_refl _)⟩
   exact .inl (by simpa using g1)
  ·by_cases hroom:n+es.length<=cap
   ·have hfit:n*i.size+news.length<=cur.size:=by rw [hnl,hcs, <-Nat.add_mul];exact Nat.mul_le_mul_right _ hroom
    have hr:=zT (P:=P) (w:=w) (ty:=ty) (c:=c) ht hi (hfz.free hcs) hg hnl hc hf.one hroom hfit
    obtain⟨cap,rfl⟩:∃c',cap=c'+1:=⟨cap-1,za⟩
    refine⟨_,_,news,hr,.inl ⟨hlen,.inr ⟨g,cap+1,_,_,rfl,hfz,setRow_heap w g cur _ e _ hg,hroom,hcm,?_,?_⟩⟩,hf,Step.setRow w g _,rfl,fun g' hg'=>.inl hg'⟩
    ·simp only [List.size_toArray,List.length_append,List.length_take,List.length_drop,Array.length_toList]
     omega
    ·rw [htake, <-hlen]
     exact List.take_left
   ·have holds:∀(j:Nat)u,xs[j]? =some u->w.cell? ((⟨g,0,none⟩:Addr).add j)=some u:=hown.cells (g:=g) rfl
    have hr:=run_append_grow (P:=P) w t ty e i z ht hi hz ⟨g,0,none⟩ n cap xs hown.1 holds ad es.length c news hnl hc za za (growslice_fits za (by rw [hby];exact hbytes))
    obtain⟨g1,g2⟩:=grown cap za _ rfl
    exact⟨_,_,news,hr,.inl g1,hf,g2,rfl,fun g hg=>by have:=rT hg;cases this;exact .inr (Nat.le_refl _)⟩
theorem zW{t:TypeId}{n:Nat}(h:rZ P t=some n):∃i,P.info? t=some i∧i.bytes=n:=by
 unfold rZ at h
 cases hi:P.info? t with
 |none=>simp [hi]at h
 |some i=>simp only [hi,Option.map_some,Option.some.injEq]at h;exact⟨i,rfl,h⟩
theorem Flat.takeN{sz:Nat}{es:List PD}{xs:List Value}(hf:Flat S sz es xs)(n:Nat):Flat S sz (es.take n) (xs.take (n*sz)):=by
 refine⟨fun x hx=>hf.len x (List.mem_of_mem_take hx),fun q hq=>hf.one q (List.mem_of_mem_take hq),fun i x j c hi hj=>?_⟩
 rw [List.getElem?_take]at hi
 split at hi
 ·rename_i hlt
  obtain⟨q,h5,h6⟩:=hf.cell i x j c hi hj
  refine⟨q,?_,h6⟩
  have hjl:j<sz:=by rw [<-hf.len x (List.mem_of_getElem? hi)];exact(List.getElem?_eq_some_iff.1 hj).1
  have:i*sz+j<n*sz:=by
   calc i*sz+j<i*sz+sz:=by omega
    _=(i+1)*sz:=by rw [Nat.add_mul,Nat.one_mul]
    _<=n*sz:=Nat.mul_le_mul_right _ hlt
  rw [List.getElem?_take,if_pos this]
  exact h5
 ·cases hi
theorem V.of_row{g sz c:Nat}{es:List PD}{xs:List Value}(hf:Flat S sz es xs)(hS:∀o,S ⟨g,o,none⟩=none)(hc:es.length<=c):V (qL S g xs) (.lst es) (.slice (some ⟨g,0,none⟩) es.length c):=
 V.lst es g 0 c sz (fun i j=>xs.getD (i*sz+j) default) hc hf.len
  (fun i x j c hi hj => by
   obtain⟨y,hy,_⟩:=hf.cell i x j c hi hj
   rw [Nat.zero_add,uf hS hy]
   simp [List.getD,hy])
  (fun i x j c hi hj => by
   obtain⟨y,hy,hv⟩:=hf.cell i x j c hi hj
   have:=hv.mono (rn S g xs)
   simpa [List.getD,hy]using this)
theorem V.cap{a:Option Addr}{n c c':Nat}{es:List PD}(h:V S (.lst es) (.slice a n c))(hc:es.length<=c'):V S (.lst es) (.slice a n c'):=by
 cases h with
 |nil a c=>exact .nil _ _
 |lst _ b o c sz f h1 h2 h3 h4=>exact .lst es b o c' sz f hc h2 h3 h4
theorem zS(h:Sim P X S loc s tm w){t ty e:TypeId}{i:TypeInfo}{z:Value}{sz by_:Nat}(ht:P.underlying t=some (.slice e))(hi:P.info? e=some i)(hz:i.zero=some z)(hsize:i.size=sz)(hby:i.bytes=by_+1)
  (hzs:z.cells.size=sz) (hsz:0<sz) {id ver hh:Nat} {es xs:List PD} {vx vy:Value} (hb:s.boxes id=some (.arr ver e es)) (hx:R S loc (.fview id ver hh) vx) (hy:Appd w S sz vy xs) (hle:hh<=es.length) (hk:szT P e=some sz)
  (hbytes:(hh+xs.length)*(by_+1)<=140737488355328):
  ∃v' w' S' loc',(Builtin.append_ #[t,t] ty #[vx,vy]).run P w= .ok v' w'∧Sim P X S' loc' { s with boxes:=upd s.boxes id .dead } tm w'∧R S' loc' (.d (.lst (es.take hh++xs))) v':=by
 obtain⟨L,hL,hB⟩:=h.boxes id _ hb
 cases hB with
 |arr _ _ _ sz' hdr ys hsz' how hf=>
 rw [hk]at hsz'
 cases hsz'
 obtain⟨a,c,rfl,hv⟩:∃a c,hdr= .slice a es.length c∧vx= .slice a hh hh:=by
  cases hx with
  |fview _ _ _ _ L2 ho hL2 hc=>
   rw [hL]at hL2
   cases hL2
   obtain⟨a,n,c,h1,h2,h3⟩:=(hc ver e sz hdr rfl).2 rfl
   obtain⟨a',c',h4,_⟩:=how.hdr
   rw [h4]at h1
   cases h1
   exact⟨a,c,h4,h3⟩
 subst hv
 obtain⟨ad,c2,news,rfl,hnl,hfn,hcell⟩:=hy
 subst hsize
 obtain⟨S1,k1,hs1,hl1,hfr⟩:=h.xM hb
 have hlen:(es.take hh).length=hh:=by simp;omega
 have hfl:=hf.takeN hh
 have hxl:=how.len
 by_cases hne:xs=[]
 ·subst hne
  have hfc:(Builtin.firstCells i.size 0 (.slice ad 0 c2)).run P w= .ok #[] w:=by
   cases ad<;>simp [Builtin.firstCells,loadCells,loadCellsFrom]
  refine⟨.slice a hh hh,w,S1,_,?_,k1,?_⟩
  ·cases a<;>simp [Builtin.append_,run_underlying ht,sizeOf,typeInfo,hi,Builtin.lenOf,hfc,storeCells]
  ·rw [List.append_nil]
   refine .d ?_
   by_cases h0:hh=0
   ·subst h0
    exact .nil _ _
   ·have hview:R S loc (.view id ver 0 hh) (.slice a hh c):=by
     refine R.viewD hL rfl ?_
     rcases how with⟨_,⟨_,hn⟩|⟨g,cap,cur,_,he,_,_,hcap,_⟩⟩|⟨hn,_,a0,he⟩
     ·omega
     ·cases he
      exact .inr ⟨g,_,_,rfl,Nat.zero_le _,za,sm⟩
     ·omega
    have:=(hfr ver e es hb).2 0 hh _ (Nat.zero_le _) hle hview
    rw [List.drop_zero,Nat.sub_zero]at this
    exact V.cap this za
 ·have hm:0<xs.length:=by cases xs with|nil=>exact(hne rfl).elim|cons=>simp
  obtain⟨ad',rfl,hc⟩:=hcell hne
  have hb1:(hh+xs.length)*1<=(hh+xs.length)*(by_+1):=Nat.mul_le_mul_left _ za
  have hmax:hh+xs.length<=maxLen:=by simp only [maxLen];omega
  have hol:(ys.take (hh*i.size)).length=hh*i.size:=by
   rw [List.length_take,hxl];exact Nat.min_eq_left (Nat.mul_le_mul_right _ hle)
  obtain⟨capn,hrun,hcapn⟩:∃capn,(Builtin.append_ #[t,t] ty #[.slice a hh hh,.slice (some ad') xs.length c2]).run P w= .ok (.slice (some ⟨w.heap.size,0,none⟩) (hh+xs.length) capn)
    (w.drew.alloc (.cells ((ys.take (hh*i.size)).toArray++news.toArray++Builtin.zeroCells z.cells (capn-(hh+xs.length))) e))∧hh+xs.length<=capn:=by
   cases a with
   |none=>
    have h0:hh=0:=by
     rcases how with⟨_,⟨_,h0⟩|⟨g,cap,cur,_,he,_⟩⟩|⟨hn,_,a0,he⟩
     ·omega
     ·cases he
     ·omega
    subst h0
    simp only [Nat.zero_add,Nat.zero_mul,List.take_zero]at hbytes hmax hb1⊢
    have hr:=run_append_nil (P:=P) w t ty e i z ht hi hz ad' xs.length c2 news hnl hc hm za (by rw [hby];omega)
    exact⟨_,by simpa using hr,grownCap_ge w _ _ e⟩
   |some a0=>
    have holds:∀(j:Nat)u,(ys.take (hh*i.size))[j]? =some u->w.cell? (a0.add j)=some u:=by
     intro j u hj
     rcases how with hown|⟨hn,hxs,a1,he⟩
     ·rcases hown.2 with⟨he,_⟩|⟨g,cap,cur,_,he,_⟩
      ·cases he
      ·cases he
       rw [List.getElem?_take]at hj
       split at hj
       ·exact hown.cells (g:=g) rfl j u hj
       ·cases hj
     ·subst hxs
      simp at hj
    have hr:=run_append_grow (P:=P) w t ty e i z ht hi hz a0 hh hh (ys.take (hh*i.size)) hol holds ad' xs.length c2 news hnl hc za za (growslice_fits za (by rw [hby];exact hbytes))
    exact⟨_,hr,grownCap_ge w _ _ e⟩
  have hfall:Flat S1 i.size (es.take hh++xs) (ys.take (hh*i.size)++news):=(hfl.mono hs1).append (by rw [hol,hlen]) (hfn.mono hs1)
  have k2:=k1.stepW ((Step.drew w).trans (Step.alloc w.drew (.cells ((ys.take (hh*i.size)).toArray++news.toArray++Builtin.zeroCells z.cells (capn-(hh+xs.length))) e)))
  have hnew:(w.drew.alloc (.cells ((ys.take (hh*i.size)).toArray++news.toArray++Builtin.zeroCells z.cells (capn-(hh+xs.length))) e)).heap[w.heap.size]? =some (.cells ((ys.take (hh*i.size)).toArray++news.toArray++Builtin.zeroCells z.cells (capn-(hh+xs.length))) e (0,0)):=heap_alloc_new w.drew _
  have hSn:∀o,S1 ⟨w.heap.size,o,none⟩=none:=fun o=>by
   cases hs:S1 ⟨w.heap.size,o,none⟩with
   |none=>rfl
   |some v=>have:=World.block_lt_of_cell? w _ (k1.imm _ _ hs);simp at this
  have k3 := k2.wD w.heap.size (ys.take (hh * i.size) ++ news) (fun j v hj => by
    rw [cell_of_row _ _ _ _ _ _ hnew]
    have hjl:=(List.getElem?_eq_some_iff.1 hj).1
    rw [<-Array.getElem?_toList]
    simp only [Array.toList_append,List.append_assoc]
    rw [<-List.append_assoc,List.getElem?_append_left hjl]
    exact hj) hfall.one (fun id' L' hL' hbk=>by
     obtain⟨bx,hbx⟩:=k1.dom id' L' hL'
     have:=(k1.rO hbx hL').sR hbk
     omega) (.inl h.frame.size)
  have hV:=V.of_row (c:=capn) hfall hSn so
  have hll:(es.take hh++xs).length=hh+xs.length:=by simp;omega
  rw [hll]at hV
  exact⟨_,_,_,_,hrun,k3,.d hV⟩
theorem zk(h:Sim P X S loc s tm w){t ty e:TypeId}{i:TypeInfo}{z:Value}{sz by_:Nat}(ht:P.underlying t=some (.slice e))(hi:P.info? e=some i)(hz:i.zero=some z)(hsize:i.size=sz)(hby:i.bytes=by_+1)
  (hzs:z.cells.size=sz) (hsz:0<sz) {es xs:List PD} {a:Option Addr} {vy:Value} (hx:Appd w S sz (.slice a es.length es.length) es) (hV0:V S (.lst es) (.slice a es.length es.length)) (hy:Appd w S sz vy xs)
  (hbytes:(es.length+xs.length)*(by_+1)<=140737488355328):
  ∃v' w' S',(Builtin.append_ #[t,t] ty #[.slice a es.length es.length,vy]).run P w= .ok v' w'∧Sim P X S' loc s tm w'∧R S' loc (.d (.lst (es++xs))) v':=by
 obtain⟨ad,c2,news,rfl,hnl,hfn,hcell⟩:=hy
 obtain⟨ad0,c0,olds,he0,hol,hfo,hcell0⟩:=hx
 obtain⟨rfl,rfl⟩:a=ad0∧es.length=c0:=by cases he0;exact⟨rfl,rfl⟩
 subst hsize
 by_cases hne:xs=[]
 ·subst hne
  have hfc:(Builtin.firstCells i.size 0 (.slice ad 0 c2)).run P w= .ok #[] w:=by
   cases ad<;>simp [Builtin.firstCells,loadCells,loadCellsFrom]
  refine⟨.slice a es.length es.length,w,S,?_,h,?_⟩
  ·cases a<;>simp [Builtin.append_,run_underlying ht,sizeOf,typeInfo,hi,Builtin.lenOf,hfc,storeCells]
  ·rw [List.append_nil]
   exact .d hV0
 ·have hm:0<xs.length:=by cases xs with|nil=>exact(hne rfl).elim|cons=>simp
  obtain⟨ad',rfl,hc⟩:=hcell hne
  have hb1:(es.length+xs.length)*1<=(es.length+xs.length)*(by_+1):=Nat.mul_le_mul_left _ za
  have hmax:es.length+xs.length<=maxLen:=by simp only [maxLen];omega
  obtain⟨capn,hrun,hcapn⟩:∃capn,(Builtin.append_ #[t,t] ty #[.slice a es.length es.length,.slice (some ad') xs.length c2]).run P w= .ok (.slice (some ⟨w.heap.size,0,none⟩) (es.length+xs.length) capn)
    (w.drew.alloc (.cells (olds.toArray++news.toArray++Builtin.zeroCells z.cells (capn-(es.length+xs.length))) e))∧es.length+xs.length<=capn:=by
   cases a with
   |none=>
    have h0:es=[]:=by
     by_cases h0:es=[]
     ·exact h0
     ·obtain⟨a1,h1,_⟩:=hcell0 h0;cases h1
    subst h0
    obtain rfl:olds=[]:=List.eq_nil_of_length_eq_zero (by simpa using hol)
    simp only [List.length_nil,Nat.zero_add]at hbytes hmax hb1⊢
    have hr:=run_append_nil (P:=P) w t ty e i z ht hi hz ad' xs.length c2 news hnl hc hm za (by rw [hby];omega)
    exact⟨_,by simpa using hr,grownCap_ge w _ _ e⟩
   |some a0=>
    have holds:∀(j:Nat)u,olds[j]? =some u->w.cell? (a0.add j)=some u:=by
     intro j u hj
     by_cases h0:es=[]
     ·subst h0
      obtain rfl:olds=[]:=List.eq_nil_of_length_eq_zero (by simpa using hol)
      simp at hj
     ·obtain⟨a1,h1,h2⟩:=hcell0 h0
      cases h1
      exact h2 j u hj
    have hr:=run_append_grow (P:=P) w t ty e i z ht hi hz a0 es.length es.length olds hol holds ad' xs.length c2 news hnl hc za za (growslice_fits za (by rw [hby];exact hbytes))
    exact⟨_,hr,grownCap_ge w _ _ e⟩
  have hfall:Flat S i.size (es++xs) (olds++news):=hfo.append hol hfn
  have k2:=h.stepW ((Step.drew w).trans (Step.alloc w.drew (.cells (olds.toArray++news.toArray++Builtin.zeroCells z.cells (capn-(es.length+xs.length))) e)))
  have hnew:(w.drew.alloc (.cells (olds.toArray++news.toArray++Builtin.zeroCells z.cells (capn-(es.length+xs.length))) e)).heap[w.heap.size]? =some (.cells (olds.toArray++news.toArray++Builtin.zeroCells z.cells (capn-(es.length+xs.length))) e (0,0)):=heap_alloc_new w.drew _
  have hSn:∀o,S ⟨w.heap.size,o,none⟩=none:=fun o=>by
   cases hs:S ⟨w.heap.size,o,none⟩with
   |none=>rfl
   |some v=>have:=World.block_lt_of_cell? w _ (h.imm _ _ hs);simp at this
  have k3 := k2.wD w.heap.size (olds ++ news) (fun j v hj => by
    rw [cell_of_row _ _ _ _ _ _ hnew]
    have hjl:=(List.getElem?_eq_some_iff.1 hj).1
    rw [<-Array.getElem?_toList]
    simp only [Array.toList_append,List.append_assoc]
    rw [<-List.append_assoc,List.getElem?_append_left hjl]
    exact hj) hfall.one (fun id' L' hL' hbk=>by
     obtain⟨bx,hbx⟩:=h.dom id' L' hL'
     have:=(h.rO hbx hL').sR hbk
     omega) (.inl h.frame.size)
  have hV:=V.of_row (c:=capn) hfall hSn so
  rw [List.length_append]at hV
  exact⟨_,_,_,hrun,k3,.d hV⟩
theorem NCs.mo{P:Program}{S:pR}{loc:qe}{w:World}(e2:TypeId)(hs2:∃k,szT P e2=some (k+1))(xs:List PD)(news:List Value)(hxs:∀x∈xs,x=nil0)(hf:Flat S 1 xs news){n:Nat}{ys:List Value}{e:TypeId}{v:Value}(how:rowAt w e 1 v (n+xs.length) (ys++news))(hy:ys.length=n*1):
  NCs P S loc w ((List.replicate xs.length []).map (.row e2)) news []:=by
 have hl:news.length=xs.length:=by
  have:=how.len
  rw [List.length_append]at this
  omega
 have hall:∀u∈news,u= .slice none 0 0:=by
  intro u hu
  obtain⟨i,hi,rfl⟩:=List.getElem_of_mem hu
  have hi':i<xs.length:=by omega
  obtain⟨u,h1,h2⟩:=hf.cell i xs[i] 0 nil0 (zd hi') (by rw [hxs _ (List.getElem_mem hi')];rfl)
  rw [Nat.mul_one,Nat.add_zero,zd hi]at h1
  cases h1
  generalize news[i]=u at h2
  cases h2 with
  |raw _ _=>rfl
 obtain⟨k,hk⟩:=hs2
 have key:∀(m:Nat)(l:List Value),l.length=m->(∀u∈l,u= .slice none 0 0)->NCs P S loc w ((List.replicate m []).map (.row e2)) l []:=by
  intro m
  induction m with
  |zero=>intro l h1 h2;cases l with|nil=>exact .nil|cons _ _=>simp at h1
  |succ m ih=>
   intro l h1 h2
   cases l with
   |nil=>simp at h1
   |cons u l=>
    obtain rfl:=h2 u sm
    have hr:NCR P S loc w (.row e2 []) (.slice none 0 0) (rk (.slice none 0 0)).toList:= .row e2 [] (k+1) _ [] hk (.inr ⟨rfl,rfl,none,rfl⟩) (Flat.nil S _)
    have:=NCs.cons hr (ih l (by simpa using h1) fun u hu=>h2 u (by simp [hu]))
    exact this
 exact key _ _ hl hall
theorem yI(h:Sim P X S loc s tm w){id:Nat}{t t' ty:TypeId}{x y v:RV}{u:Ups}{r:List Nat}{vx vy:Value}(hl:rz P id t t' x y s.boxes=some ((v,u),r,true))(hx:R S loc x vx)(hy:R S loc y vy):
  t=t'∧∃v' w' S' loc',(Builtin.append_ #[t,t] ty #[vx,vy]).run P w= .ok v' w'∧Sim P X S' loc' (s.ups u) tm w'∧R S' loc' v v':=by
 unfold rz at hl
 rcases he:rf P t with _|e
 ·simp only [he]at hl;exact fE s.boxes hl
 simp only [he]at hl
 rcases hk:szT P e with _|_|k
 ·simp only [hk]at hl;exact fE s.boxes hl
 ·simp only [hk]at hl;exact fE s.boxes hl
 rcases hb:rZ P e with _|_|by_
 ·simp only [hk,hb]at hl;exact fE s.boxes hl
 ·simp only [hk,hb]at hl;exact fE s.boxes hl
 rcases hz:qQ P e with _|z
 ·simp only [hk,hb,hz]at hl;exact fE s.boxes hl
 simp only [hk,hb,hz]at hl
 by_cases hc:z.cells.size=k+1∧t=t'
 rotate_left
 ·rw [if_neg hc]at hl;exact fE s.boxes hl
 rw [if_pos hc]at hl
 obtain⟨hc1,hc2⟩:=hc
 refine⟨hc2,?_⟩
 obtain⟨xs,r1,r2,h1,h2,_⟩:=M.bind_some hl
 obtain⟨i,hi,hiz⟩:=ry hz
 obtain⟨i2,hi2,hib⟩:=zW hb
 rw [hi]at hi2
 cases hi2
 obtain⟨i3,hi3,his⟩:=vp hk
 rw [hi]at hi3
 cases hi3
 by_cases hfull:∃es,x= .dfull es
 ·obtain⟨es,rfl⟩:=hfull
  obtain⟨h5, -,h6⟩:=M.pN (b:=s.boxes) h2
  cases h5
  simp only [Bool.true_eq,Bool.and_eq_true]at h6
  obtain⟨h6,h7,h8⟩:=h6
  have h6:=of_decide_eq_true h6
  have hsz:∀e∈xs,e.cells.length=k+1:=fun e he=>by have:=List.all_eq_true.1 h7 e he;simpa using this
  have hsz0:∀e∈es,e.cells.length=k+1:=fun e he=>by have:=List.all_eq_true.1 h8 e he;simpa using this
  have happ:=qM h h1 hy za hsz
  cases hx with
  |dfull _ a hV0=>
  have hbase:Appd w S (k+1) (.slice a es.length es.length) es:=qM (x:= .d (.lst es)) (r:=[]) h rfl (.d hV0) za hsz0
  obtain⟨v',w',S',g1,g2,g3⟩:=zk (ty:=ty) h (qU he) hi hiz his hib hc1 za hbase hV0 happ h6
  exact⟨v',w',S',loc,g1,g2,g3⟩
 rcases x with _|_|_|_|_|_|⟨id0,ver⟩|_|_|_|_|_|_<;>first|exact fE s.boxes h2|(exfalso;exact hfull ⟨_,rfl⟩)|skip
 ·obtain⟨_,r3,r4,h3,h4,_⟩:=M.bind_some h2
  obtain⟨hbx,_,_⟩:=M.qo h3
  obtain⟨h5, -,h6⟩:=M.pN h4
  cases h5
  simp only [Bool.true_eq,Bool.and_eq_true]at h6
  obtain⟨h6,h7⟩:=h6
  have h6:=of_decide_eq_true h6
  have hsz:∀e∈xs,e.cells.length=k+1:=fun e he=>by have:=List.all_eq_true.1 h7 e he;simpa using this
  have happ:=qM h h1 hy za hsz
  cases hx with
  |mo=>
   obtain⟨v',w',news,g1,g2,g3,g4,g5,g6⟩:=wb (P:=P) (ty:=ty) (qU he) hi hiz his hib hc1 za (.inl (.of (World.ownsRow_nil w 0 e (k+1)))) happ (by simpa using h6)
   simp only [Nat.zero_add,List.nil_append]at g2
   obtain⟨loc',g7,g8,_⟩:=h.vn hbx g4 hk g2 g3 (fun g hg=>(g6 g hg).resolve_left (by simp [rk])) g5
   exact⟨v',w',S,loc',g1,g7,g8⟩
 ·obtain⟨bx,r3,r4,h3,h4,_⟩:=M.bind_some h2
  obtain⟨hbx,_,_⟩:=M.get_some h3
  cases bx with
  |arr ver' e' es=>
   by_cases hver:ver=ver'∧e=e'
   rotate_left
   ·simp only [hver,if_false]at h4;exact fE s.boxes h4
   simp only [hver,and_self,if_true]at h4
   obtain⟨rfl,rfl⟩:=hver
   obtain⟨h5, -,h6⟩:=M.pN (b:=s.boxes) h4
   cases h5
   simp only [Bool.true_eq,Bool.and_eq_true]at h6
   obtain⟨h6,h7⟩:=h6
   have h6:=of_decide_eq_true h6
   have hsz:∀e∈xs,e.cells.length=k+1:=fun e he=>by have:=List.all_eq_true.1 h7 e he;simpa using this
   have happ:=qM h h1 hy za hsz
   obtain⟨sz,ys,hloc,hsz',how,hf⟩:=h.tW hbx hx
   rw [hk]at hsz'
   cases hsz'
   obtain⟨v',w',news,g1,g2,g3,g4,g5,g6⟩:=wb (P:=P) (ty:=ty) (qU he) hi hiz his hib hc1 za how happ h6
   have hst:qp (loc id0) (.arr (ver+1) e (k+1) v'):=by
    rw [hloc];exact .arr za
   refine⟨v',w',S,upd loc id0 (.arr (ver+1) e (k+1) v'),g1,?_,?_⟩
   ·refine h.sf g4 id0 _ _ (fun b hb=>⟨_,hloc,hb⟩) ?_ ?_ hst
    ·exact .arr (ver+1) e (es++xs) (k+1) v' (ys++news) hk (by rw [List.length_append];exact g2) (hf.append how.len g3)
    ·intro b hb
     rcases g6 b hb with h8|h8
     ·exact .inl ⟨_,hloc,h8⟩
     ·exact .inr (.inl h8)
   ·exact .ref id0 (ver+1) _ _ g5 (pW _ _ _) (fun ver' e' sz' hdr' he=>by cases he;exact⟨Nat.le_refl _,fun _=>rfl⟩)
  |var _=>exact fE s.boxes h4
  |dead=>exact fE s.boxes h4
  |map _ _ _=>exact fE s.boxes h4
 ·rename_i id0 ver hh
  obtain⟨bx,r3,r4,h3,h4,_⟩:=M.bind_some h2
  obtain⟨hbx,_,_⟩:=M.get_some h3
  cases bx with
  |arr ver' e' es=>
   by_cases hver:ver=ver'∧e=e'
   rotate_left
   ·simp only [hver,if_false]at h4;exact fE s.boxes h4
   simp only [hver,and_self,if_true]at h4
   obtain⟨rfl,rfl⟩:=hver
   obtain⟨h5, -,h6⟩:=M.pN (b:=s.boxes) h4
   cases h5
   simp only [Bool.true_eq,Bool.and_eq_true]at h6
   obtain⟨h6,h7⟩:=h6
   obtain⟨h6,h8⟩:=of_decide_eq_true h6
   have hsz:∀e∈xs,e.cells.length=k+1:=fun e he=>by have:=List.all_eq_true.1 h7 e he;simpa using this
   have happ:=qM h h1 hy za hsz
   exact zS h (qU he) hi hiz his hib hc1 za hbx hx happ h6 hk h8
  |var _=>exact fE s.boxes h4
  |dead=>exact fE s.boxes h4
  |map _ _ _=>exact fE s.boxes h4
end
end Go.Dw
