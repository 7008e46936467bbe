
import Derived.Test.YtfmoipelhfkdkaaGreatDoorDwApp
open Go.Builtin renaming append_->EK, firstCells->EL, lenOf->EM, zeroCells->EO
open Nat renaming add_mul->D1, add_zero->D2, le_refl->DA, mul_le_mul_left->EP, mul_le_mul_right->D3, zero_add->DI, zero_le->DJ
open List renaming append_assoc->DC, append_nil->ER, eq_nil_of_length_eq_zero->ES, getD->Dn, getElem?_append_left->DP, getElem?_take->DF, length_append->ET, length_take->EG, mem_of_mem_take->EI, nil_append->D0, replicate->B2, size_toArray->EU, take_left->EV
open Array renaming empty_append->EW, getElem?_toList->EX, toList_append->EY
open Bool renaming and_eq_true->D6, true_eq->D7

namespace Go.Dw
section
variable {P:Program}{X:Ctx}{S:rC}{loc:sf}{s:St}{tm:Array Value}{w:World}
theorem By{t ty e:TypeId}{i:TypeInfo}(D:P.underlying t=some (.slice e))(hi:P.info? e=some i){g n cap m c:Nat}{cur:Array Value}{fz:Nat×Nat}(r:∀j,j<cur.size->¬(fz.1<=j∧j<fz.2))
  (B:w.heap[g]? =some (.cells cur e fz)) {a:Addr} {news:List Value} (hl:news.length=m*i.size) (C:∀(j:Nat)v,news[j]? =some v->w.cell? (a.add j)=some v) (h1:∀v∈news,v.oneCell'=true) (f:n+m<=cap) (u:n*i.size+news.length<=cur.size):
  (EK #[t,t] ty #[.slice (some ⟨g,0,none⟩) n cap,.slice (some a) m c]).run P w= .ok (.slice (some ⟨g,0,none⟩) (n+m) cap) (w.setRow g (cur.toList.take (n*i.size)++news++cur.toList.drop (n*i.size+news.length)).toArray):=by
 have q:=run_firstCells_some (P:=P) w i.size m a m c news hl C
 have k:=uA P g (n*i.size) e fz cur.size r news 0 cur w rfl B za h1
 rw [D2]at k
 simp [EK,run_underlying D,sizeOf,typeInfo,hi,EM,f,q,Addr.add_lit,k]
theorem xS{t ty e:TypeId}{i:TypeInfo}{z:Value}{sz by_:Nat}(L:P.underlying t=some (.slice e))(hi:P.info? e=some i)(W:i.zero=some z)(J:i.size=sz)(F:i.bytes=by_+1)
  (b4:z.cells.size=sz) (c0:0<sz) {v vx:Value} {n:Nat} {xs:List Value} (B:rowAt w e sz v n xs) {es:List PD} (hx:Appd w S sz vx es)
  (f:(n+es.length)*(by_+1)<=140737488355328):
  ∃v' w' news,(EK #[t,t] ty #[v,vx]).run P w= .ok v' w'∧rowAt w' e sz v' (n+es.length) (xs++news)∧Flat S sz es news∧Step (sX v) w w'∧v'.oneCell'=true∧
   ∀g,sX v'=some g->sX v=some g∨w.heap.size<=g:=by
 obtain⟨a,c,news,rfl,k,hf,H⟩:=hx
 subst J
 have b5:(n+es.length)*1<=(n+es.length)*(by_+1):=EP _ za
 have C:n+es.length<=140737488355328:=by omega
 have T:n+es.length<=maxLen:=by simp only [maxLen];omega
 have U:=B.len
 have hlen:(xs++news).length=(n+es.length)*i.size:=by rw [ET,U,k,D1]
 by_cases I:es=[]
 ·subst I
  have b1:news=[]:=ES (by simpa using k)
  subst b1
  obtain⟨base,cap,rfl,hle⟩:=B.hdr
  refine⟨_,w,[],?_,by simpa using B,hf,Step.refl _ w,rfl,fun g E=>.inl E⟩
  have a6:(EL i.size 0 (.slice a 0 c)).run P w= .ok #[] w:=by
   cases a<;>simp [EL,loadCells,loadCellsFrom]
  cases base<;>simp [EK,run_underlying L,sizeOf,typeInfo,hi,EM,hle,a6,storeCells]
 ·obtain⟨ad,rfl,hc⟩:=H I
  have hm:0<es.length:=by cases es with|nil=>exact(I rfl).elim|cons=>simp
  have grown:∀(D:Nat),D<n+es.length->∀Y:World,Y=w.drew.alloc (.cells (xs.toArray++news.toArray++EO z.cells (grownCap w (n+es.length) D e-(n+es.length))) e)->
    tP Y e i.size (.slice (some ⟨w.heap.size,0,none⟩) (n+es.length) (grownCap w (n+es.length) D e)) (n+es.length) (xs++news)∧Step (sX v) w Y:=by
   intro D ho Y b2
   subst b2
   have b0:=grownCap_ge w (n+es.length) D e
   refine⟨⟨hlen,.inr ⟨w.heap.size,_,_,_,rfl,.inl rfl,heap_alloc_new w.drew _,b0,grownCap_le_maxLen w _ D e T,?_,?_⟩⟩,((Step.drew w).trans (Step.alloc w.drew _)).mono⟩
   ·simp only [Array.size_append,EU,size_zeroCells,b4,U,k, <-D1]
    congr 1
    omega
   ·simp only [EY,DC]
    rw [<-DC, <-hlen]
    exact EV
  rcases B with r|⟨rfl,rfl,a0,rfl⟩
  rotate_left
  ·cases a0 with
   |none=>
    simp only [DI]at f C grown
    have G:=run_append_nil (P:=P) w t ty e i z L hi W ad es.length c news k hc hm za (by rw [F];omega)
    obtain⟨g1,g2⟩:=grown 0 za _ rfl
    simp only [D0,EW]at g1 g2
    refine⟨_,_,news,G,?_,hf,g2,rfl,fun g E=>by have:=u7 E;cases this;exact .inr (DA _)⟩
    exact .inl (by simpa using g1)
   |some a0=>
    have G:=run_append_grow (P:=P) w t ty e i z L hi W a0 0 0 [] zc zc ad es.length c news k hc za za (growslice_fits za (by rw [F];exact f))
    obtain⟨g1,g2⟩:=grown 0 za _ rfl
    exact⟨_,_,news,G,.inl g1,hf,g2,rfl,fun g E=>by have:=u7 E;cases this;exact .inr (DA _)⟩
  rcases r.2 with⟨rfl,rfl⟩|⟨g,cap,cur,fz,rfl,Q,E,b6,a5,N,K⟩
  ·have b3:xs=[]:=ES (by simpa using r.1)
   subst b3
   simp only [DI]at f C grown
   have G:=run_append_nil (P:=P) w t ty e i z L hi W ad es.length c news k hc hm za (by rw [F];omega)
   obtain⟨g1,g2⟩:=grown 0 za _ rfl
   simp only [D0,EW]at g1 g2
   refine⟨_,_,news,G,?_,hf,g2,rfl,fun g E=>by have:=u7 E;cases this;exact .inr (DA _)⟩
   exact .inl (by simpa using g1)
  ·by_cases q:n+es.length<=cap
   ·have O:n*i.size+news.length<=cur.size:=by rw [k,N, <-D1];exact D3 _ q
    have G:=By (P:=P) (w:=w) (ty:=ty) (c:=c) L hi (Q.free N) E k hc hf.one q O
    obtain⟨cap,rfl⟩:∃c',cap=c'+1:=⟨cap-1,za⟩
    refine⟨_,_,news,G,.inl ⟨hlen,.inr ⟨g,cap+1,_,_,rfl,Q,setRow_heap w g cur _ e _ E,q,a5,?_,?_⟩⟩,hf,Step.setRow w g _,rfl,fun g' a9=>.inl a9⟩
    ·simp only [EU,ET,EG,List.length_drop,Array.length_toList]
     omega
    ·rw [K, <-hlen]
     exact EV
   ·have holds:∀(j:Nat)u,xs[j]? =some u->w.cell? ((⟨g,0,none⟩:Addr).add j)=some u:=r.cells (g:=g) rfl
    have G:=run_append_grow (P:=P) w t ty e i z L hi W ⟨g,0,none⟩ n cap xs r.1 holds ad es.length c news k hc za za (growslice_fits za (by rw [F];exact f))
    obtain⟨g1,g2⟩:=grown cap za _ rfl
    exact⟨_,_,news,G,.inl g1,hf,g2,rfl,fun g E=>by have:=u7 E;cases this;exact .inr (DA _)⟩
theorem BB{t:TypeId}{n:Nat}(h:sl P t=some n):∃i,P.info? t=some i∧i.bytes=n:=by
 unfold sl at h
 cases hi:P.info? t with
 |none=>simp [hi]at h
 |some i=>simp only [hi,Option.map_some,Option.some.injEq]at h;exact⟨i,rfl,h⟩
theorem Flat.takeN{sz:Nat}{es:List PD}{xs:List Value}(hf:Flat S sz es xs)(n:Nat):Flat S sz (es.take n) (xs.take (n*sz)):=by
 refine⟨fun x C=>hf.len x (EI C),fun q B=>hf.one q (EI B),fun i x j c hi g=>?_⟩
 rw [DF]at hi
 split at hi
 ·rename_i f
  obtain⟨q,k,r⟩:=hf.cell i x j c hi g
  refine⟨q,?_,r⟩
  have u:j<sz:=by rw [<-hf.len x (List.mem_of_getElem? hi)];exact(List.getElem?_eq_some_iff.1 g).1
  have:i*sz+j<n*sz:=by
   calc i*sz+j<i*sz+sz:=by omega
    _=(i+1)*sz:=by rw [D1,Nat.one_mul]
    _<=n*sz:=D3 _ f
  rw [DF,if_pos this]
  exact k
 ·cases hi
theorem V.Bj{g sz c:Nat}{es:List PD}{xs:List Value}(hf:Flat S sz es xs)(hS:∀o,S ⟨g,o,none⟩=none)(hc:es.length<=c):V (tn S g xs) (.lst es) (.slice (some ⟨g,0,none⟩) es.length c):=
 V.lst es g 0 c sz (fun i j=>xs.getD (i*sz+j) default) hc hf.len
  (fun i x j c hi k => by
   obtain⟨y,f,_⟩:=hf.cell i x j c hi k
   rw [DI,vR hS f]
   simp [Dn,f])
  (fun i x j c hi k => by
   obtain⟨y,f,q⟩:=hf.cell i x j c hi k
   have:=q.mono (tZ S g xs)
   simpa [Dn,f]using this)
theorem V.cap{a:Option Addr}{n c g:Nat}{es:List PD}(h:V S (.lst es) (.slice a n c))(hc:es.length<=g):V S (.lst es) (.slice a n g):=by
 cases h with
 |nil a c=>exact .nil _ _
 |lst _ b o c sz f h1 j k q=>exact .lst es b o g sz f hc j k q
theorem Bx(h:Sim P X S loc s tm w){t ty e:TypeId}{i:TypeInfo}{z:Value}{sz by_:Nat}(ht:P.underlying t=some (.slice e))(hi:P.info? e=some i)(hz:i.zero=some z)(I:i.size=sz)(O:i.bytes=by_+1)
  (d0:z.cells.size=sz) (c8:0<sz) {id ver f:Nat} {es xs:List PD} {vx vy:Value} (hb:s.boxes id=some (.arr ver e es)) (hx:R S loc (.fview id ver f) vx) (hy:Appd w S sz vy xs) (hle:f<=es.length) (hk:szT P e=some sz)
  (q:(f+xs.length)*(by_+1)<=140737488355328):
  ∃v' w' S' loc',(EK #[t,t] ty #[vx,vy]).run P w= .ok v' w'∧Sim P X S' loc' { s with boxes:=upd s.boxes id .dead } tm w'∧R S' loc' (.d (.lst (es.take f++xs))) v':=by
 obtain⟨L,hL,hB⟩:=h.boxes id _ hb
 cases hB with
 |arr _ _ _ d1 hdr B E how hf=>
 rw [hk]at E
 cases E
 obtain⟨a,c,rfl,hv⟩:∃a c,hdr= .slice a es.length c∧vx= .slice a f f:=by
  cases hx with
  |fview _ _ _ _ L2 ho N hc=>
   rw [hL]at N
   cases N
   obtain⟨a,n,c,h1,h2,h3⟩:=(hc ver e sz hdr rfl).2 rfl
   obtain⟨a',c',h4,_⟩:=how.hdr
   rw [h4]at h1
   cases h1
   exact⟨a,c,h4,h3⟩
 subst hv
 obtain⟨ad,c2,news,rfl,U,b5,G⟩:=hy
 subst I
 obtain⟨S1,k1,a5,c7,b6⟩:=h.yj hb
 have hlen:(es.take f).length=f:=by simp;omega
 have b4:=hf.takeN f
 have c3:=how.len
 by_cases H:xs=[]
 ·subst H
  have b3:(EL i.size 0 (.slice ad 0 c2)).run P w= .ok #[] w:=by
   cases ad<;>simp [EL,loadCells,loadCellsFrom]
  refine⟨.slice a f f,w,S1,_,?_,k1,?_⟩
  ·cases a<;>simp [EK,run_underlying ht,sizeOf,typeInfo,hi,EM,b3,storeCells]
  ·rw [ER]
   refine .d ?_
   by_cases h0:f=0
   ·subst h0
    exact .nil _ _
   ·have J:R S loc (.view id ver 0 f) (.slice a f c):=by
     refine R.viewD hL rfl ?_
     rcases how with⟨_,⟨_,hn⟩|⟨g,cap,cur,_,he,_,_,c6,_⟩⟩|⟨hn,_,a0,he⟩
     ·omega
     ·cases he
      exact .inr ⟨g,_,_,rfl,DJ _,za,zc⟩
     ·omega
    have:=(b6 ver e es hb).2 0 f _ (DJ _) hle J
    rw [List.drop_zero,Nat.sub_zero]at this
    exact V.cap this za
 ·have hm:0<xs.length:=by cases xs with|nil=>exact(H rfl).elim|cons=>simp
  obtain⟨F,rfl,hc⟩:=G H
  have a9:(f+xs.length)*1<=(f+xs.length)*(by_+1):=EP _ za
  have Q:f+xs.length<=maxLen:=by simp only [maxLen];omega
  have W:(B.take (f*i.size)).length=f*i.size:=by
   rw [EG,c3];exact Nat.min_eq_left (D3 _ hle)
  obtain⟨k,Y,b2⟩:∃k,(EK #[t,t] ty #[.slice a f f,.slice (some F) xs.length c2]).run P w= .ok (.slice (some ⟨w.heap.size,0,none⟩) (f+xs.length) k)
    (w.drew.alloc (.cells ((B.take (f*i.size)).toArray++news.toArray++EO z.cells (k-(f+xs.length))) e))∧f+xs.length<=k:=by
   cases a with
   |none=>
    have h0:f=0:=by
     rcases how with⟨_,⟨_,h0⟩|⟨g,cap,cur,_,he,_⟩⟩|⟨hn,_,a0,he⟩
     ·omega
     ·cases he
     ·omega
    subst h0
    simp only [DI,Nat.zero_mul,List.take_zero]at q Q a9⊢
    have hr:=run_append_nil (P:=P) w t ty e i z ht hi hz F xs.length c2 news U hc hm za (by rw [O];omega)
    exact⟨_,by simpa using hr,grownCap_ge w _ _ e⟩
   |some a0=>
    have holds:∀(j:Nat)u,(B.take (f*i.size))[j]? =some u->w.cell? (a0.add j)=some u:=by
     intro j u C
     rcases how with D|⟨hn,c4,a1,he⟩
     ·rcases D.2 with⟨he,_⟩|⟨g,cap,cur,_,he,_⟩
      ·cases he
      ·cases he
       rw [DF]at C
       split at C
       ·exact D.cells (g:=g) rfl j u C
       ·cases C
     ·subst c4
      simp at C
    have hr:=run_append_grow (P:=P) w t ty e i z ht hi hz a0 f f (B.take (f*i.size)) W holds F xs.length c2 news U hc za za (growslice_fits za (by rw [O];exact q))
    exact⟨_,hr,grownCap_ge w _ _ e⟩
  have r:Flat S1 i.size (es.take f++xs) (B.take (f*i.size)++news):=(b4.mono a5).append (by rw [W,hlen]) (b5.mono a5)
  have k2:=k1.stepW ((Step.drew w).trans (Step.alloc w.drew (.cells ((B.take (f*i.size)).toArray++news.toArray++EO z.cells (k-(f+xs.length))) e)))
  have T:(w.drew.alloc (.cells ((B.take (f*i.size)).toArray++news.toArray++EO z.cells (k-(f+xs.length))) e)).heap[w.heap.size]? =some (.cells ((B.take (f*i.size)).toArray++news.toArray++EO z.cells (k-(f+xs.length))) e (0,0)):=heap_alloc_new w.drew _
  have a6:∀o,S1 ⟨w.heap.size,o,none⟩=none:=fun o=>by
   cases hs:S1 ⟨w.heap.size,o,none⟩with
   |none=>rfl
   |some v=>have:=World.block_lt_of_cell? w _ (k1.imm _ _ hs);simp at this
  have k3 := k2.wx w.heap.size (B.take (f * i.size) ++ news) (fun j v C => by
    rw [cell_of_row _ _ _ _ _ _ T]
    have c0:=(List.getElem?_eq_some_iff.1 C).1
    rw [<-EX]
    simp only [EY,DC]
    rw [<-DC,DP c0]
    exact C) r.one (fun c5 L' K b0=>by
     obtain⟨bx,b1⟩:=k1.dom c5 L' K
     have:=(k1.tA b1 K).uL b0
     omega) (.inl h.frame.size)
  have hV:=V.Bj (c:=k) r a6 so
  have c1:(es.take f++xs).length=f+xs.length:=by simp;omega
  rw [c1]at hV
  exact⟨_,_,_,_,Y,k3,.d hV⟩
theorem A5(h:Sim P X S loc s tm w){t ty e:TypeId}{i:TypeInfo}{z:Value}{sz by_:Nat}(ht:P.underlying t=some (.slice e))(hi:P.info? e=some i)(hz:i.zero=some z)(G:i.size=sz)(I:i.bytes=by_+1)
  (c1:z.cells.size=sz) (b6:0<sz) {es xs:List PD} {a:Option Addr} {vy:Value} (hx:Appd w S sz (.slice a es.length es.length) es) (W:V S (.lst es) (.slice a es.length es.length)) (hy:Appd w S sz vy xs)
  (k:(es.length+xs.length)*(by_+1)<=140737488355328):
  ∃v' w' S',(EK #[t,t] ty #[.slice a es.length es.length,vy]).run P w= .ok v' w'∧Sim P X S' loc s tm w'∧R S' loc (.d (.lst (es++xs))) v':=by
 obtain⟨ad,Q,news,rfl,N,b2,E⟩:=hy
 obtain⟨T,c0,f,b0,B,b3,q⟩:=hx
 obtain⟨rfl,rfl⟩:a=T∧es.length=c0:=by cases b0;exact⟨rfl,rfl⟩
 subst G
 by_cases F:xs=[]
 ·subst F
  have b1:(EL i.size 0 (.slice ad 0 Q)).run P w= .ok #[] w:=by
   cases ad<;>simp [EL,loadCells,loadCellsFrom]
  refine⟨.slice a es.length es.length,w,S,?_,h,?_⟩
  ·cases a<;>simp [EK,run_underlying ht,sizeOf,typeInfo,hi,EM,b1,storeCells]
  ·rw [ER]
   exact .d W
 ·have hm:0<xs.length:=by cases xs with|nil=>exact(F rfl).elim|cons=>simp
  obtain⟨C,rfl,hc⟩:=E F
  have Y:(es.length+xs.length)*1<=(es.length+xs.length)*(by_+1):=EP _ za
  have K:es.length+xs.length<=maxLen:=by simp only [maxLen];omega
  obtain⟨g,O,a9⟩:∃g,(EK #[t,t] ty #[.slice a es.length es.length,.slice (some C) xs.length Q]).run P w= .ok (.slice (some ⟨w.heap.size,0,none⟩) (es.length+xs.length) g)
    (w.drew.alloc (.cells (f.toArray++news.toArray++EO z.cells (g-(es.length+xs.length))) e))∧es.length+xs.length<=g:=by
   cases a with
   |none=>
    have D:es=[]:=by
     by_cases D:es=[]
     ·exact D
     ·obtain⟨a1,h1,_⟩:=q D;cases h1
    subst D
    obtain rfl:f=[]:=ES (by simpa using B)
    simp only [List.length_nil,DI]at k K Y⊢
    have hr:=run_append_nil (P:=P) w t ty e i z ht hi hz C xs.length Q news N hc hm za (by rw [I];omega)
    exact⟨_,by simpa using hr,grownCap_ge w _ _ e⟩
   |some a0=>
    have holds:∀(j:Nat)u,f[j]? =some u->w.cell? (a0.add j)=some u:=by
     intro j u J
     by_cases D:es=[]
     ·subst D
      obtain rfl:f=[]:=ES (by simpa using B)
      simp at J
     ·obtain⟨a1,h1,h2⟩:=q D
      cases h1
      exact h2 j u J
    have hr:=run_append_grow (P:=P) w t ty e i z ht hi hz a0 es.length es.length f B holds C xs.length Q news N hc za za (growslice_fits za (by rw [I];exact k))
    exact⟨_,hr,grownCap_ge w _ _ e⟩
  have r:Flat S i.size (es++xs) (f++news):=b3.append B b2
  have k2:=h.stepW ((Step.drew w).trans (Step.alloc w.drew (.cells (f.toArray++news.toArray++EO z.cells (g-(es.length+xs.length))) e)))
  have L:(w.drew.alloc (.cells (f.toArray++news.toArray++EO z.cells (g-(es.length+xs.length))) e)).heap[w.heap.size]? =some (.cells (f.toArray++news.toArray++EO z.cells (g-(es.length+xs.length))) e (0,0)):=heap_alloc_new w.drew _
  have U:∀o,S ⟨w.heap.size,o,none⟩=none:=fun o=>by
   cases hs:S ⟨w.heap.size,o,none⟩with
   |none=>rfl
   |some v=>have:=World.block_lt_of_cell? w _ (h.imm _ _ hs);simp at this
  have k3 := k2.wx w.heap.size (f ++ news) (fun j v J => by
    rw [cell_of_row _ _ _ _ _ _ L]
    have b4:=(List.getElem?_eq_some_iff.1 J).1
    rw [<-EX]
    simp only [EY,DC]
    rw [<-DC,DP b4]
    exact J) r.one (fun b5 L' H a5=>by
     obtain⟨bx,a6⟩:=h.dom b5 L' H
     have:=(h.tA a6 H).uL a5
     omega) (.inl h.frame.size)
  have hV:=V.Bj (c:=g) r U so
  rw [ET]at hV
  exact⟨_,_,_,O,k3,.d hV⟩
theorem Cu{p:PD}(h:Ag p=true):p=nil0:=by
 unfold Ag at h
 split at h
 ·rfl
 ·cases h
theorem NCs.pY{P:Program}{S:rC}{loc:sf}{w:World}(e2:TypeId)(q:∃k,szT P e2=some (k+1))(xs:List PD)(news:List Value)(r:∀x∈xs,x=nil0)(hf:Flat S 1 xs news){n:Nat}{B:List Value}{e:TypeId}{v:Value}(how:rowAt w e 1 v (n+xs.length) (B++news))(E:B.length=n*1):
  NCs P S loc w ((B2 xs.length []).map (.row e2)) news []:=by
 have hl:news.length=xs.length:=by
  have:=how.len
  rw [ET]at this
  omega
 have g:∀u∈news,u= .slice none 0 0:=by
  intro u hu
  obtain⟨i,hi,rfl⟩:=List.getElem_of_mem hu
  have j:i<xs.length:=by omega
  obtain⟨u,h1,f⟩:=hf.cell i xs[i] 0 nil0 (zf j) (by rw [r _ (List.getElem_mem j)];rfl)
  rw [Nat.mul_one,D2,zf hi]at h1
  cases h1
  generalize news[i]=u at f
  cases f with
  |raw _ _=>rfl
 obtain⟨k,hk⟩:=q
 have key:∀(m:Nat)(l:List Value),l.length=m->(∀u∈l,u= .slice none 0 0)->NCs P S loc w ((B2 m []).map (.row e2)) l []:=by
  intro m
  induction m with
  |zero=>intro l h1 f;cases l with|nil=>exact .nil|cons _ _=>simp at h1
  |succ m D=>
   intro l h1 f
   cases l with
   |nil=>simp at h1
   |cons u l=>
    obtain rfl:=f u zc
    have C:NCR P S loc w (.row e2 []) (.slice none 0 0) (sX (.slice none 0 0)).toList:= .row e2 [] (k+1) _ [] hk (.inr ⟨rfl,rfl,none,rfl⟩) (Flat.nil S _)
    have:=NCs.cons C (D l (by simpa using h1) fun u hu=>f u (by simp [hu]))
    exact this
 exact key _ _ hl g
theorem AE(h:Sim P X S loc s tm w){id:Nat}{t t' ty:TypeId}{x y v:RV}{u:Ups}{r:List Nat}{vx vy:Value}(hl:sy P id t t' x y s.boxes=some ((v,u),r,true))(hx:R S loc x vx)(hy:R S loc y vy):
  t=t'∧∃v' w' S' loc',(EK #[t,t] ty #[vx,vy]).run P w= .ok v' w'∧Sim P X S' loc' (s.ups u) tm w'∧R S' loc' v v':=by
 unfold sy at hl
 rcases he:ss P t with _|e
 ·simp only [he]at hl;exact fE s.boxes hl
 simp only [he]at hl
 rcases hk:szT P e with _|_|k
 ·simp only [hk]at hl;exact fE s.boxes hl
 ·simp only [hk]at hl;exact fE s.boxes hl
 rcases D:sl P e with _|_|by_
 ·simp only [hk,D]at hl;exact fE s.boxes hl
 ·simp only [hk,D]at hl;exact fE s.boxes hl
 rcases hz:se P e with _|z
 ·simp only [hk,D,hz]at hl;exact fE s.boxes hl
 simp only [hk,D,hz]at hl
 by_cases hc:z.cells.size=k+1∧t=t'
 rotate_left
 ·rw [if_neg hc]at hl;exact fE s.boxes hl
 rw [if_pos hc]at hl
 obtain⟨K,c3⟩:=hc
 refine⟨c3,?_⟩
 obtain⟨xs,r1,r2,h1,h2,_⟩:=M.bind_some hl
 obtain⟨i,hi,Q⟩:=tv hz
 obtain⟨i2,b2,N⟩:=BB D
 rw [hi]at b2
 cases b2
 obtain⟨i3,b3,O⟩:=xg hk
 rw [hi]at b3
 cases b3
 by_cases L:∃es,x= .dfull es
 ·obtain⟨es,rfl⟩:=L
  obtain⟨T, -,j⟩:=M.rm (b:=s.boxes) h2
  cases T
  simp only [D7,D6]at j
  obtain⟨j,h7,H⟩:=j
  have j:=of_decide_eq_true j
  have G:∀e∈xs,e.cells.length=k+1:=fun e he=>by have:=List.all_eq_true.1 h7 e he;simpa using this
  have c0:∀e∈es,e.cells.length=k+1:=fun e he=>by have:=List.all_eq_true.1 H e he;simpa using this
  have q:=tf h h1 hy za G
  cases hx with
  |dfull _ a b0=>
  have a5:Appd w S (k+1) (.slice a es.length es.length) es:=tf (x:= .d (.lst es)) (r:=[]) h rfl (.d b0) za c0
  obtain⟨v',w',S',g1,g2,g3⟩:=A5 (ty:=ty) h (sQ he) hi Q O N K za a5 b0 q j
  exact⟨v',w',S',loc,g1,g2,g3⟩
 rcases x with _|_|_|_|_|_|⟨F,ver⟩|_|_|_|_|_|_<;>first|exact fE s.boxes h2|(exfalso;exact L ⟨_,rfl⟩)|skip
 ·obtain⟨_,r3,r4,h3,C,_⟩:=M.bind_some h2
  obtain⟨J,_,_⟩:=M.su h3
  obtain⟨T, -,j⟩:=M.rm C
  cases T
  simp only [D7,D6]at j
  obtain⟨j,h7⟩:=j
  have j:=of_decide_eq_true j
  have G:∀e∈xs,e.cells.length=k+1:=fun e he=>by have:=List.all_eq_true.1 h7 e he;simpa using this
  have q:=tf h h1 hy za G
  cases hx with
  |pY=>
   obtain⟨v',w',news,g1,g2,g3,g4,g5,g6⟩:=xS (P:=P) (ty:=ty) (sQ he) hi Q O N K za (.inl (.of (World.ownsRow_nil w 0 e (k+1)))) q (by simpa using j)
   simp only [DI,D0]at g2
   obtain⟨loc',g7,g8,_⟩:=h.xb J g4 hk g2 g3 (fun g hg=>(g6 g hg).resolve_left (by simp [sX])) g5
   exact⟨v',w',S,loc',g1,g7,g8⟩
 ·obtain⟨bx,r3,r4,h3,C,_⟩:=M.bind_some h2
  obtain⟨J,_,_⟩:=M.get_some h3
  cases bx with
  |arr E Y es=>
   by_cases f:ver=E∧e=Y
   rotate_left
   ·simp only [f,if_false]at C;exact fE s.boxes C
   simp only [f,and_self,if_true]at C
   obtain⟨rfl,rfl⟩:=f
   obtain⟨T, -,j⟩:=M.rm (b:=s.boxes) C
   cases T
   simp only [D7,D6]at j
   obtain⟨j,h7⟩:=j
   have j:=of_decide_eq_true j
   have G:∀e∈xs,e.cells.length=k+1:=fun e he=>by have:=List.all_eq_true.1 h7 e he;simpa using this
   have q:=tf h h1 hy za G
   obtain⟨sz,ys,B,I,how,hf⟩:=h.vL J hx
   rw [hk]at I
   cases I
   obtain⟨v',w',news,g1,g2,g3,g4,g5,g6⟩:=xS (P:=P) (ty:=ty) (sQ he) hi Q O N K za how q j
   have W:rP (loc F) (.arr (ver+1) e (k+1) v'):=by
    rw [B];exact .arr za
   refine⟨v',w',S,upd loc F (.arr (ver+1) e (k+1) v'),g1,?_,?_⟩
   ·refine h.sq g4 F _ _ (fun b D=>⟨_,B,D⟩) ?_ ?_ W
    ·exact .arr (ver+1) e (es++xs) (k+1) v' (ys++news) hk (by rw [ET];exact g2) (hf.append how.len g3)
    ·intro b D
     rcases g6 b D with H|H
     ·exact .inl ⟨_,B,H⟩
     ·exact .inr (.inl H)
   ·exact .ref F (ver+1) _ _ g5 (ru _ _ _) (fun E Y c4 b1 he=>by cases he;exact⟨DA _,fun _=>rfl⟩)
  |var _=>exact fE s.boxes C
  |dead=>exact fE s.boxes C
  |map _ _ _=>exact fE s.boxes C
  |hole _ _ _ _ _ _=>exact fE s.boxes C
  |nest E Y e2 ess lent=>
   rcases lent with _|lent
   rotate_left
   ·exact fE s.boxes C
   by_cases f:ver=E∧e=Y∧k=0∧xs.all Ag=true
   rotate_left
   ·simp only [if_neg f]at C;exact fE s.boxes C
   simp only [if_pos f]at C
   obtain⟨rfl,rfl,rfl,b5⟩:=f
   obtain⟨T, -,j⟩:=M.rm (b:=s.boxes) C
   cases T
   have j:=of_decide_eq_true j.symm
   have c1:∀x∈xs,x=nil0:=fun x hx=>Cu (List.all_eq_true.1 b5 x hx)
   have G:∀e∈xs,e.cells.length=0+1:=fun e he=>by rw [c1 e he];rfl
   have q:=tf h h1 hy za G
   obtain⟨ys,bs,k2,B,I,b6,how,a9,U, -⟩:=h.Bi J hx
   obtain⟨v',w',news,g1,g2,g3,g4,g5,g6⟩:=xS (P:=P) (ty:=ty) (sQ he) hi Q O N K za how q j
   have W:rP (loc F) (.nest (ver+1) e 1 v' bs):=by
    rw [B];exact .nest za
   have b4:=NCs.pY (P:=P) (S:=S) (loc:=upd loc F (.nest (ver+1) e 1 v' bs)) (w:=w') e2 ⟨k2,b6⟩ xs news c1 g3 g2 how.len
   have a6:∀b∈bs,w'.heap[b]? =w.heap[b]? :=fun b D=>g4.block b (a9.lt b D) fun e=>(List.nodup_append.1 U).2.2 b (by rw [<-e];simp) b D rfl
   refine⟨v',w',S,upd loc F (.nest (ver+1) e 1 v' bs),g1,?_,?_⟩
   ·refine h.sq g4 F _ _ (fun b D=>⟨_,B,List.mem_append.2 (.inl (by rw [D];simp))⟩) ?_ ?_ W
    ·refine .nest (ver+1) e e2 _ none v' (ys++news) bs I ⟨k2,b6⟩ (by rw [ET,List.length_replicate];exact g2) ?_ ?_ (fun i rv e=>by cases e)
     ·have:=(a9.dE (Sub.refl S) (rF.upd W) a6).append b4
      rw [ER]at this
      simpa [ncs]using this
     ·rw [List.nodup_append]at U⊢
      refine⟨by rcases sX v' with _|_<;>simp,U.2.1,fun a ha b D c2=>?_⟩
      subst c2
      rcases g6 a (by simpa using ha)with H|H
      ·exact U.2.2 a (by rw [H];simp) a D rfl
      ·have:=a9.lt a D
       omega
    ·intro b D
     rcases List.mem_append.1 D with D|D
     ·rcases g6 b (by simpa using D)with H|H
      ·exact .inl ⟨_,B,List.mem_append.2 (.inl (by rw [H];simp))⟩
      ·exact .inr (.inl H)
     ·exact .inl ⟨_,B,List.mem_append.2 (.inr D)⟩
   ·exact .ref F (ver+1) _ _ g5 (ru _ _ _) (fun E Y c4 b1 he=>by cases he;exact⟨DA _,fun _=>rfl⟩)
 ·rename_i F ver hh
  obtain⟨bx,r3,r4,h3,C,_⟩:=M.bind_some h2
  obtain⟨J,_,_⟩:=M.get_some h3
  cases bx with
  |arr E Y es=>
   by_cases f:ver=E∧e=Y
   rotate_left
   ·simp only [f,if_false]at C;exact fE s.boxes C
   simp only [f,and_self,if_true]at C
   obtain⟨rfl,rfl⟩:=f
   obtain⟨T, -,j⟩:=M.rm (b:=s.boxes) C
   cases T
   simp only [D7,D6]at j
   obtain⟨j,h7⟩:=j
   obtain⟨j,H⟩:=of_decide_eq_true j
   have G:∀e∈xs,e.cells.length=k+1:=fun e he=>by have:=List.all_eq_true.1 h7 e he;simpa using this
   have q:=tf h h1 hy za G
   exact Bx h (sQ he) hi Q O N K za J hx q j hk H
  |var _=>exact fE s.boxes C
  |dead=>exact fE s.boxes C
  |map _ _ _=>exact fE s.boxes C
  |nest _ _ _ _ _=>exact fE s.boxes C
  |hole _ _ _ _ _ _=>exact fE s.boxes C
end
end Go.Dw
