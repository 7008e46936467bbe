
import Derived.Test.YtfmoipelhfkdkaaGreatDoorDwApp
open Go.Builtin renaming append_->E5, firstCells->E6, lenOf->E7, zeroCells->E8
open Nat renaming add_mul->D9, add_zero->EA, le_refl->DI, mul_le_mul_left->E9, mul_le_mul_right->EB, zero_add->DQ, zero_le->DR
open List renaming append_assoc->DK, append_nil->Ea, eq_nil_of_length_eq_zero->Eb, getD->EI, getElem?_append_left->DX, getElem?_take->DN, length_append->Ec, length_take->E1, mem_of_mem_take->E3, nil_append->D8, replicate->B2, size_toArray->Ed, take_left->Ee
open Array renaming empty_append->Ef, getElem?_toList->Eg, toList_append->Eh
open Bool renaming and_eq_true->EE, true_eq->EF

namespace Go.Dw
section
variable {P:Program}{X:Ctx}{S:rP}{loc:ss}{s:St}{tm:Array Value}{w:World}
theorem BO{t ty e:TypeId}{i:TypeInfo}(E:P.underlying t=some (.slice e))(hi:P.info? e=some i){g n cap m c:Nat}{cur:Array Value}{fz:Nat×Nat}(r:∀j,j<cur.size->¬(fz.1<=j∧j<fz.2))
  (C:w.heap[g]? =some (.cells cur e fz)) {a:Addr} {news:List Value} (hl:news.length=m*i.size) (D:∀(j:Nat)v,news[j]? =some v->w.cell? (a.add j)=some v) (h1:∀v∈news,v.oneCell'=true) (f:n+m<=cap) (u:n*i.size+news.length<=cur.size):
  (E5 #[t,t] ty #[.slice (some ⟨g,0,none⟩) n cap,.slice (some a) m c]).run P w= .ok (.slice (some ⟨g,0,none⟩) (n+m) cap) (w.setRow g (cur.toList.take (n*i.size)++news++cur.toList.drop (n*i.size+news.length)).toArray):=by
 have q:=run_firstCells_some (P:=P) w i.size m a m c news hl D
 have k:=uK P g (n*i.size) e fz cur.size r news 0 cur w rfl C za h1
 rw [EA]at k
 simp [E5,run_underlying E,sizeOf,typeInfo,hi,E7,f,q,Addr.add_lit,k]
theorem yg{t ty e:TypeId}{i:TypeInfo}{z:Value}{sz by_:Nat}(N:P.underlying t=some (.slice e))(hi:P.info? e=some i)(Y:i.zero=some z)(K:i.size=sz)(G:i.bytes=by_+1)
  (b4:z.cells.size=sz) (c0:0<sz) {v vx:Value} {n:Nat} {xs:List Value} (C:rowAt w e sz v n xs) {es:List PD} (hx:Appd w S sz vx es)
  (f:(n+es.length)*(by_+1)<=140737488355328):
  ∃v' w' news,(E5 #[t,t] ty #[v,vx]).run P w= .ok v' w'∧rowAt w' e sz v' (n+es.length) (xs++news)∧Flat S sz es news∧Step (tp v) w w'∧v'.oneCell'=true∧
   ∀g,tp v'=some g->tp v=some g∨w.heap.size<=g:=by
 obtain⟨a,c,news,rfl,k,hf,I⟩:=hx
 subst K
 have b5:(n+es.length)*1<=(n+es.length)*(by_+1):=E9 _ za
 have D:n+es.length<=140737488355328:=by omega
 have U:n+es.length<=maxLen:=by simp only [maxLen];omega
 have W:=C.len
 have hlen:(xs++news).length=(n+es.length)*i.size:=by rw [Ec,W,k,D9]
 by_cases J:es=[]
 ·subst J
  have b1:news=[]:=Eb (by simpa using k)
  subst b1
  obtain⟨base,cap,rfl,hle⟩:=C.hdr
  refine⟨_,w,[],?_,by simpa using C,hf,Step.refl _ w,rfl,fun g F=>.inl F⟩
  have a6:(E6 i.size 0 (.slice a 0 c)).run P w= .ok #[] w:=by
   cases a<;>simp [E6,loadCells,loadCellsFrom]
  cases base<;>simp [E5,run_underlying N,sizeOf,typeInfo,hi,E7,hle,a6,storeCells]
 ·obtain⟨ad,rfl,hc⟩:=I J
  have hm:0<es.length:=by cases es with|nil=>exact(J rfl).elim|cons=>simp
  have grown:∀(E:Nat),E<n+es.length->∀w1:World,w1=w.drew.alloc (.cells (xs.toArray++news.toArray++E8 z.cells (grownCap w (n+es.length) E e-(n+es.length))) e)->
    ub w1 e i.size (.slice (some ⟨w.heap.size,0,none⟩) (n+es.length) (grownCap w (n+es.length) E e)) (n+es.length) (xs++news)∧Step (tp v) w w1:=by
   intro E ho w1 b2
   subst b2
   have b0:=grownCap_ge w (n+es.length) E e
   refine⟨⟨hlen,.inr ⟨w.heap.size,_,_,_,rfl,.inl rfl,heap_alloc_new w.drew _,b0,grownCap_le_maxLen w _ E e U,?_,?_⟩⟩,((Step.drew w).trans (Step.alloc w.drew _)).mono⟩
   ·simp only [Array.size_append,Ed,size_zeroCells,b4,W,k, <-D9]
    congr 1
    omega
   ·simp only [Eh,DK]
    rw [<-DK, <-hlen]
    exact Ee
  rcases C with r|⟨rfl,rfl,a0,rfl⟩
  rotate_left
  ·cases a0 with
   |none=>
    simp only [DQ]at f D grown
    have H:=run_append_nil (P:=P) w t ty e i z N hi Y ad es.length c news k hc hm za (by rw [G];omega)
    obtain⟨g1,g2⟩:=grown 0 za _ rfl
    simp only [D8,Ef]at g1 g2
    refine⟨_,_,news,H,?_,hf,g2,rfl,fun g F=>by have:=vC F;cases this;exact .inr (DI _)⟩
    exact .inl (by simpa using g1)
   |some a0=>
    have H:=run_append_grow (P:=P) w t ty e i z N hi Y a0 0 0 [] zc zc ad es.length c news k hc za za (growslice_fits za (by rw [G];exact f))
    obtain⟨g1,g2⟩:=grown 0 za _ rfl
    exact⟨_,_,news,H,.inl g1,hf,g2,rfl,fun g F=>by have:=vC F;cases this;exact .inr (DI _)⟩
  rcases r.2 with⟨rfl,rfl⟩|⟨g,cap,cur,fz,rfl,T,F,b6,a5,O,L⟩
  ·have b3:xs=[]:=Eb (by simpa using r.1)
   subst b3
   simp only [DQ]at f D grown
   have H:=run_append_nil (P:=P) w t ty e i z N hi Y ad es.length c news k hc hm za (by rw [G];omega)
   obtain⟨g1,g2⟩:=grown 0 za _ rfl
   simp only [D8,Ef]at g1 g2
   refine⟨_,_,news,H,?_,hf,g2,rfl,fun g F=>by have:=vC F;cases this;exact .inr (DI _)⟩
   exact .inl (by simpa using g1)
  ·by_cases q:n+es.length<=cap
   ·have Q:n*i.size+news.length<=cur.size:=by rw [k,O, <-D9];exact EB _ q
    have H:=BO (P:=P) (w:=w) (ty:=ty) (c:=c) N hi (T.free O) F k hc hf.one q Q
    obtain⟨cap,rfl⟩:∃c',cap=c'+1:=⟨cap-1,za⟩
    refine⟨_,_,news,H,.inl ⟨hlen,.inr ⟨g,cap+1,_,_,rfl,T,setRow_heap w g cur _ e _ F,q,a5,?_,?_⟩⟩,hf,Step.setRow w g _,rfl,fun g' a9=>.inl a9⟩
    ·simp only [Ed,Ec,E1,List.length_drop,Array.length_toList]
     omega
    ·rw [L, <-hlen]
     exact Ee
   ·have holds:∀(j:Nat)u,xs[j]? =some u->w.cell? ((⟨g,0,none⟩:Addr).add j)=some u:=r.cells (g:=g) rfl
    have H:=run_append_grow (P:=P) w t ty e i z N hi Y ⟨g,0,none⟩ n cap xs r.1 holds ad es.length c news k hc za za (growslice_fits za (by rw [G];exact f))
    obtain⟨g1,g2⟩:=grown cap za _ rfl
    exact⟨_,_,news,H,.inl g1,hf,g2,rfl,fun g F=>by have:=vC F;cases this;exact .inr (DI _)⟩
theorem BR{t:TypeId}{n:Nat}(h:sP P t=some n):∃i,P.info? t=some i∧i.bytes=n:=by
 unfold sP at h
 cases hi:P.info? t with
 |none=>simp [hi]at h
 |some i=>simp only [hi,Option.map_some,Option.some.injEq]at h;exact⟨i,rfl,h⟩
theorem Flat.takeN{sz:Nat}{es:List PD}{xs:List Value}(hf:Flat S sz es xs)(n:Nat):Flat S sz (es.take n) (xs.take (n*sz)):=by
 refine⟨fun x D=>hf.len x (E3 D),fun q C=>hf.one q (E3 C),fun i x j c hi g=>?_⟩
 rw [DN]at hi
 split at hi
 ·rename_i f
  obtain⟨q,k,r⟩:=hf.cell i x j c hi g
  refine⟨q,?_,r⟩
  have u:j<sz:=by rw [<-hf.len x (List.mem_of_getElem? hi)];exact(List.getElem?_eq_some_iff.1 g).1
  have:i*sz+j<n*sz:=by
   calc i*sz+j<i*sz+sz:=by omega
    _=(i+1)*sz:=by rw [D9,Nat.one_mul]
    _<=n*sz:=EB _ f
  rw [DN,if_pos this]
  exact k
 ·cases hi
theorem V.By{g sz c:Nat}{es:List PD}{xs:List Value}(hf:Flat S sz es xs)(hS:∀o,S ⟨g,o,none⟩=none)(hc:es.length<=c):V (tE S g xs) (.lst es) (.slice (some ⟨g,0,none⟩) es.length c):=
 V.lst es g 0 c sz (fun i j=>xs.getD (i*sz+j) default) hc hf.len
  (fun i x j c hi k => by
   obtain⟨y,f,_⟩:=hf.cell i x j c hi k
   rw [DQ,we hS f]
   simp [EI,f])
  (fun i x j c hi k => by
   obtain⟨y,f,q⟩:=hf.cell i x j c hi k
   have:=q.mono (uk S g xs)
   simpa [EI,f]using this)
theorem V.cap{a:Option Addr}{n c g:Nat}{es:List PD}(h:V S (.lst es) (.slice a n c))(hc:es.length<=g):V S (.lst es) (.slice a n g):=by
 cases h with
 |nil a c=>exact .nil _ _
 |lst _ b o c sz f h1 j k q=>exact .lst es b o g sz f hc j k q
theorem BN(h:Sim P X S loc s tm w){t ty e:TypeId}{i:TypeInfo}{z:Value}{sz by_:Nat}(ht:P.underlying t=some (.slice e))(hi:P.info? e=some i)(hz:i.zero=some z)(J:i.size=sz)(Q:i.bytes=by_+1)
  (d1:z.cells.size=sz) (d0:0<sz) {id ver f:Nat} {es xs:List PD} {vx vy:Value} (hb:s.boxes id=some (.arr ver e es)) (hx:R S loc (.fview id ver f) vx) (hy:Appd w S sz vy xs) (hle:f<=es.length) (hk:szT P e=some sz)
  (q:(f+xs.length)*(by_+1)<=140737488355328):
  ∃v' w' S' loc',(E5 #[t,t] ty #[vx,vy]).run P w= .ok v' w'∧Sim P X S' loc' { s with boxes:=upd s.boxes id .dead } tm w'∧R S' loc' (.d (.lst (es.take f++xs))) v':=by
 obtain⟨L,hL,hB⟩:=h.boxes id _ hb
 cases hB with
 |arr _ _ _ d2 hdr C F how hf=>
 rw [hk]at F
 cases F
 obtain⟨a,c,rfl,hv⟩:∃a c,hdr= .slice a es.length c∧vx= .slice a f f:=by
  cases hx with
  |fview _ _ _ _ L2 ho O hc=>
   rw [hL]at O
   cases O
   obtain⟨a,n,c,h1,h2,h3⟩:=(hc ver e sz hdr rfl).2 rfl
   obtain⟨a',c',h4,_⟩:=how.hdr
   rw [h4]at h1
   cases h1
   exact⟨a,c,h4,h3⟩
 subst hv
 obtain⟨ad,c2,news,rfl,W,b6,H⟩:=hy
 subst J
 obtain⟨S1,k1,a6,c8,c0⟩:=h.yA hb
 have hlen:(es.take f).length=f:=by simp;omega
 have b5:=hf.takeN f
 have c4:=how.len
 by_cases I:xs=[]
 ·subst I
  have b4:(E6 i.size 0 (.slice ad 0 c2)).run P w= .ok #[] w:=by
   cases ad<;>simp [E6,loadCells,loadCellsFrom]
  refine⟨.slice a f f,w,S1,_,?_,k1,?_⟩
  ·cases a<;>simp [E5,run_underlying ht,sizeOf,typeInfo,hi,E7,b4,storeCells]
  ·rw [Ea]
   refine .d ?_
   by_cases h0:f=0
   ·subst h0
    exact .nil _ _
   ·have K:R S loc (.view id ver 0 f) (.slice a f c):=by
     refine R.viewD hL rfl ?_
     rcases how with⟨_,⟨_,hn⟩|⟨g,cap,cur,_,he,_,_,c7,_⟩⟩|⟨hn,_,a0,he⟩
     ·omega
     ·cases he
      exact .inr ⟨g,_,_,rfl,DR _,za,zc⟩
     ·omega
    have:=(c0 ver e es hb).2 0 f _ (DR _) hle K
    rw [List.drop_zero,Nat.sub_zero]at this
    exact V.cap this za
 ·have hm:0<xs.length:=by cases xs with|nil=>exact(I rfl).elim|cons=>simp
  obtain⟨G,rfl,hc⟩:=H I
  have b0:(f+xs.length)*1<=(f+xs.length)*(by_+1):=E9 _ za
  have T:f+xs.length<=maxLen:=by simp only [maxLen];omega
  have Y:(C.take (f*i.size)).length=f*i.size:=by
   rw [E1,c4];exact Nat.min_eq_left (EB _ hle)
  obtain⟨k,a5,b3⟩:∃k,(E5 #[t,t] ty #[.slice a f f,.slice (some G) xs.length c2]).run P w= .ok (.slice (some ⟨w.heap.size,0,none⟩) (f+xs.length) k)
    (w.drew.alloc (.cells ((C.take (f*i.size)).toArray++news.toArray++E8 z.cells (k-(f+xs.length))) e))∧f+xs.length<=k:=by
   cases a with
   |none=>
    have h0:f=0:=by
     rcases how with⟨_,⟨_,h0⟩|⟨g,cap,cur,_,he,_⟩⟩|⟨hn,_,a0,he⟩
     ·omega
     ·cases he
     ·omega
    subst h0
    simp only [DQ,Nat.zero_mul,List.take_zero]at q T b0⊢
    have hr:=run_append_nil (P:=P) w t ty e i z ht hi hz G xs.length c2 news W hc hm za (by rw [Q];omega)
    exact⟨_,by simpa using hr,grownCap_ge w _ _ e⟩
   |some a0=>
    have holds:∀(j:Nat)u,(C.take (f*i.size))[j]? =some u->w.cell? (a0.add j)=some u:=by
     intro j u D
     rcases how with E|⟨hn,c5,a1,he⟩
     ·rcases E.2 with⟨he,_⟩|⟨g,cap,cur,_,he,_⟩
      ·cases he
      ·cases he
       rw [DN]at D
       split at D
       ·exact E.cells (g:=g) rfl j u D
       ·cases D
     ·subst c5
      simp at D
    have hr:=run_append_grow (P:=P) w t ty e i z ht hi hz a0 f f (C.take (f*i.size)) Y holds G xs.length c2 news W hc za za (growslice_fits za (by rw [Q];exact q))
    exact⟨_,hr,grownCap_ge w _ _ e⟩
  have r:Flat S1 i.size (es.take f++xs) (C.take (f*i.size)++news):=(b5.mono a6).append (by rw [Y,hlen]) (b6.mono a6)
  have k2:=k1.stepW ((Step.drew w).trans (Step.alloc w.drew (.cells ((C.take (f*i.size)).toArray++news.toArray++E8 z.cells (k-(f+xs.length))) e)))
  have U:(w.drew.alloc (.cells ((C.take (f*i.size)).toArray++news.toArray++E8 z.cells (k-(f+xs.length))) e)).heap[w.heap.size]? =some (.cells ((C.take (f*i.size)).toArray++news.toArray++E8 z.cells (k-(f+xs.length))) e (0,0)):=heap_alloc_new w.drew _
  have a9:∀o,S1 ⟨w.heap.size,o,none⟩=none:=fun o=>by
   cases hs:S1 ⟨w.heap.size,o,none⟩with
   |none=>rfl
   |some v=>have:=World.block_lt_of_cell? w _ (k1.imm _ _ hs);simp at this
  have k3 := k2.wI w.heap.size (C.take (f * i.size) ++ news) (fun j v D => by
    rw [cell_of_row _ _ _ _ _ _ U]
    have c1:=(List.getElem?_eq_some_iff.1 D).1
    rw [<-Eg]
    simp only [Eh,DK]
    rw [<-DK,DX c1]
    exact D) r.one (fun c6 L' N b1=>by
     obtain⟨bx,b2⟩:=k1.dom c6 L' N
     have:=(k1.tN b2 N).uW b1
     omega) (.inl h.frame.size)
  have hV:=V.By (c:=k) r a9 so
  have c3:(es.take f++xs).length=f+xs.length:=by simp;omega
  rw [c3]at hV
  exact⟨_,_,_,_,a5,k3,.d hV⟩
theorem Bk(h:Sim P X S loc s tm w){t ty e:TypeId}{i:TypeInfo}{z:Value}{sz by_:Nat}(ht:P.underlying t=some (.slice e))(hi:P.info? e=some i)(hz:i.zero=some z)(H:i.size=sz)(J:i.bytes=by_+1)
  (c3:z.cells.size=sz) (c1:0<sz) {es xs:List PD} {a:Option Addr} {vy:Value} (hx:Appd w S sz (.slice a es.length es.length) es) (Y:V S (.lst es) (.slice a es.length es.length)) (hy:Appd w S sz vy xs)
  (k:(es.length+xs.length)*(by_+1)<=140737488355328):
  ∃v' w' S',(E5 #[t,t] ty #[.slice a es.length es.length,vy]).run P w= .ok v' w'∧Sim P X S' loc s tm w'∧R S' loc (.d (.lst (es++xs))) v':=by
 obtain⟨ad,T,news,rfl,O,b3,F⟩:=hy
 obtain⟨U,c0,f,b1,C,b4,q⟩:=hx
 obtain⟨rfl,rfl⟩:a=U∧es.length=c0:=by cases b1;exact⟨rfl,rfl⟩
 subst H
 by_cases G:xs=[]
 ·subst G
  have b2:(E6 i.size 0 (.slice ad 0 T)).run P w= .ok #[] w:=by
   cases ad<;>simp [E6,loadCells,loadCellsFrom]
  refine⟨.slice a es.length es.length,w,S,?_,h,?_⟩
  ·cases a<;>simp [E5,run_underlying ht,sizeOf,typeInfo,hi,E7,b2,storeCells]
  ·rw [Ea]
   exact .d Y
 ·have hm:0<xs.length:=by cases xs with|nil=>exact(G rfl).elim|cons=>simp
  obtain⟨D,rfl,hc⟩:=F G
  have a5:(es.length+xs.length)*1<=(es.length+xs.length)*(by_+1):=E9 _ za
  have L:es.length+xs.length<=maxLen:=by simp only [maxLen];omega
  obtain⟨g,Q,b0⟩:∃g,(E5 #[t,t] ty #[.slice a es.length es.length,.slice (some D) xs.length T]).run P w= .ok (.slice (some ⟨w.heap.size,0,none⟩) (es.length+xs.length) g)
    (w.drew.alloc (.cells (f.toArray++news.toArray++E8 z.cells (g-(es.length+xs.length))) e))∧es.length+xs.length<=g:=by
   cases a with
   |none=>
    have E:es=[]:=by
     by_cases E:es=[]
     ·exact E
     ·obtain⟨a1,h1,_⟩:=q E;cases h1
    subst E
    obtain rfl:f=[]:=Eb (by simpa using C)
    simp only [List.length_nil,DQ]at k L a5⊢
    have hr:=run_append_nil (P:=P) w t ty e i z ht hi hz D xs.length T news O hc hm za (by rw [J];omega)
    exact⟨_,by simpa using hr,grownCap_ge w _ _ e⟩
   |some a0=>
    have holds:∀(j:Nat)u,f[j]? =some u->w.cell? (a0.add j)=some u:=by
     intro j u K
     by_cases E:es=[]
     ·subst E
      obtain rfl:f=[]:=Eb (by simpa using C)
      simp at K
     ·obtain⟨a1,h1,h2⟩:=q E
      cases h1
      exact h2 j u K
    have hr:=run_append_grow (P:=P) w t ty e i z ht hi hz a0 es.length es.length f C holds D xs.length T news O hc za za (growslice_fits za (by rw [J];exact k))
    exact⟨_,hr,grownCap_ge w _ _ e⟩
  have r:Flat S i.size (es++xs) (f++news):=b4.append C b3
  have k2:=h.stepW ((Step.drew w).trans (Step.alloc w.drew (.cells (f.toArray++news.toArray++E8 z.cells (g-(es.length+xs.length))) e)))
  have N:(w.drew.alloc (.cells (f.toArray++news.toArray++E8 z.cells (g-(es.length+xs.length))) e)).heap[w.heap.size]? =some (.cells (f.toArray++news.toArray++E8 z.cells (g-(es.length+xs.length))) e (0,0)):=heap_alloc_new w.drew _
  have W:∀o,S ⟨w.heap.size,o,none⟩=none:=fun o=>by
   cases hs:S ⟨w.heap.size,o,none⟩with
   |none=>rfl
   |some v=>have:=World.block_lt_of_cell? w _ (h.imm _ _ hs);simp at this
  have k3 := k2.wI w.heap.size (f ++ news) (fun j v K => by
    rw [cell_of_row _ _ _ _ _ _ N]
    have b5:=(List.getElem?_eq_some_iff.1 K).1
    rw [<-Eg]
    simp only [Eh,DK]
    rw [<-DK,DX b5]
    exact K) r.one (fun b6 L' I a6=>by
     obtain⟨bx,a9⟩:=h.dom b6 L' I
     have:=(h.tN a9 I).uW a6
     omega) (.inl h.frame.size)
  have hV:=V.By (c:=g) r W so
  rw [Ec]at hV
  exact⟨_,_,_,Q,k3,.d hV⟩
theorem CP{p:PD}(h:Az p=true):p=nil0:=by
 unfold Az at h
 split at h
 ·rfl
 ·cases h
theorem NCs.rm{P:Program}{S:rP}{loc:ss}{w:World}(e2:TypeId)(q:∃k,szT P e2=some (k+1))(xs:List PD)(news:List Value)(r:∀x∈xs,x=nil0)(hf:Flat S 1 xs news){n:Nat}{C:List Value}{e:TypeId}{v:Value}(how:rowAt w e 1 v (n+xs.length) (C++news))(F:C.length=n*1):
  NCs P S loc w ((B2 xs.length []).map (.row e2)) news []:=by
 have hl:news.length=xs.length:=by
  have:=how.len
  rw [Ec]at this
  omega
 have g:∀u∈news,u= .slice none 0 0:=by
  intro u hu
  obtain⟨i,hi,rfl⟩:=List.getElem_of_mem hu
  have j:i<xs.length:=by omega
  obtain⟨u,h1,f⟩:=hf.cell i xs[i] 0 nil0 (zf j) (by rw [r _ (List.getElem_mem j)];rfl)
  rw [Nat.mul_one,EA,zf hi]at h1
  cases h1
  generalize news[i]=u at f
  cases f with
  |raw _ _=>rfl
 obtain⟨k,hk⟩:=q
 have key:∀(m:Nat)(l:List Value),l.length=m->(∀u∈l,u= .slice none 0 0)->NCs P S loc w ((B2 m []).map (.row e2)) l []:=by
  intro m
  induction m with
  |zero=>intro l h1 f;cases l with|nil=>exact .nil|cons _ _=>simp at h1
  |succ m E=>
   intro l h1 f
   cases l with
   |nil=>simp at h1
   |cons u l=>
    obtain rfl:=f u zc
    have D:NCR P S loc w (.row e2 []) (.slice none 0 0) (tp (.slice none 0 0)).toList:= .row e2 [] (k+1) _ [] hk (.inr ⟨rfl,rfl,none,rfl⟩) (Flat.nil S _)
    have:=NCs.cons D (E l (by simpa using h1) fun u hu=>f u (by simp [hu]))
    exact this
 exact key _ _ hl g
theorem AU(h:Sim P X S loc s tm w){id:Nat}{t t' ty:TypeId}{x y v:RV}{u:Ups}{r:List Nat}{vx vy:Value}(hl:te P id t t' x y s.boxes=some ((v,u),r,true))(hx:R S loc x vx)(hy:R S loc y vy):
  t=t'∧∃v' w' S' loc',(E5 #[t,t] ty #[vx,vy]).run P w= .ok v' w'∧Sim P X S' loc' (s.ups u) tm w'∧R S' loc' v v':=by
 unfold te at hl
 rcases he:sD P t with _|e
 ·simp only [he]at hl;exact fE s.boxes hl
 simp only [he]at hl
 rcases hk:szT P e with _|_|k
 ·simp only [hk]at hl;exact fE s.boxes hl
 ·simp only [hk]at hl;exact fE s.boxes hl
 rcases E:sP P e with _|_|by_
 ·simp only [hk,E]at hl;exact fE s.boxes hl
 ·simp only [hk,E]at hl;exact fE s.boxes hl
 rcases hz:sr P e with _|z
 ·simp only [hk,E,hz]at hl;exact fE s.boxes hl
 simp only [hk,E,hz]at hl
 by_cases hc:z.cells.size=k+1∧t=t'
 rotate_left
 ·rw [if_neg hc]at hl;exact fE s.boxes hl
 rw [if_pos hc]at hl
 obtain⟨L,c3⟩:=hc
 refine⟨c3,?_⟩
 obtain⟨xs,r1,r2,h1,h2,_⟩:=M.bind_some hl
 obtain⟨i,hi,T⟩:=tJ hz
 obtain⟨i2,b2,O⟩:=BR E
 rw [hi]at b2
 cases b2
 obtain⟨i3,b3,Q⟩:=xz hk
 rw [hi]at b3
 cases b3
 by_cases N:∃es,x= .dfull es
 ·obtain⟨es,rfl⟩:=N
  obtain⟨U, -,j⟩:=M.rE (b:=s.boxes) h2
  cases U
  simp only [EF,EE]at j
  obtain⟨j,h7,I⟩:=j
  have j:=of_decide_eq_true j
  have H:∀e∈xs,e.cells.length=k+1:=fun e he=>by have:=List.all_eq_true.1 h7 e he;simpa using this
  have c0:∀e∈es,e.cells.length=k+1:=fun e he=>by have:=List.all_eq_true.1 I e he;simpa using this
  have q:=ti h h1 hy za H
  cases hx with
  |dfull _ a b0=>
  have a5:Appd w S (k+1) (.slice a es.length es.length) es:=ti (x:= .d (.lst es)) (r:=[]) h rfl (.d b0) za c0
  obtain⟨v',w',S',g1,g2,g3⟩:=Bk (ty:=ty) h (tj he) hi T Q O L za a5 b0 q j
  exact⟨v',w',S',loc,g1,g2,g3⟩
 rcases x with _|_|_|_|_|_|⟨G,ver⟩|_|_|_|_|_|_<;>first|exact fE s.boxes h2|(exfalso;exact N ⟨_,rfl⟩)|skip
 ·obtain⟨_,r3,r4,h3,D,_⟩:=M.bind_some h2
  obtain⟨K,_,_⟩:=M.sZ h3
  obtain⟨U, -,j⟩:=M.rE D
  cases U
  simp only [EF,EE]at j
  obtain⟨j,h7⟩:=j
  have j:=of_decide_eq_true j
  have H:∀e∈xs,e.cells.length=k+1:=fun e he=>by have:=List.all_eq_true.1 h7 e he;simpa using this
  have q:=ti h h1 hy za H
  cases hx with
  |rm=>
   obtain⟨v',w',news,g1,g2,g3,g4,g5,g6⟩:=yg (P:=P) (ty:=ty) (tj he) hi T Q O L za (.inl (.of (World.ownsRow_nil w 0 e (k+1)))) q (by simpa using j)
   simp only [DQ,D8]at g2
   obtain⟨loc',g7,g8,_⟩:=h.xr K g4 hk g2 g3 (fun g hg=>(g6 g hg).resolve_left (by simp [tp])) g5
   exact⟨v',w',S,loc',g1,g7,g8⟩
 ·obtain⟨bx,r3,r4,h3,D,_⟩:=M.bind_some h2
  obtain⟨K,_,_⟩:=M.get_some h3
  cases bx with
  |arr F e' es=>
   by_cases f:ver=F∧e=e'
   rotate_left
   ·simp only [f,if_false]at D;exact fE s.boxes D
   simp only [f,and_self,if_true]at D
   obtain⟨rfl,rfl⟩:=f
   obtain⟨U, -,j⟩:=M.rE (b:=s.boxes) D
   cases U
   simp only [EF,EE]at j
   obtain⟨j,h7⟩:=j
   have j:=of_decide_eq_true j
   have H:∀e∈xs,e.cells.length=k+1:=fun e he=>by have:=List.all_eq_true.1 h7 e he;simpa using this
   have q:=ti h h1 hy za H
   obtain⟨sz,ys,C,J,how,hf⟩:=h.vX K hx
   rw [hk]at J
   cases J
   obtain⟨v',w',news,g1,g2,g3,g4,g5,g6⟩:=yg (P:=P) (ty:=ty) (tj he) hi T Q O L za how q j
   have Y:sb (loc G) (.arr (ver+1) e (k+1) v'):=by
    rw [C];exact .arr za
   refine⟨v',w',S,upd loc G (.arr (ver+1) e (k+1) v'),g1,?_,?_⟩
   ·refine h.sW g4 G _ _ (fun b E=>⟨_,C,E⟩) ?_ ?_ Y
    ·exact .arr (ver+1) e (es++xs) (k+1) v' (ys++news) hk (by rw [Ec];exact g2) (hf.append how.len g3)
    ·intro b E
     rcases g6 b E with I|I
     ·exact .inl ⟨_,C,I⟩
     ·exact .inr (.inl I)
   ·exact .ref G (ver+1) _ _ g5 (rK _ _ _) (fun F e' c4 b1 he=>by cases he;exact⟨DI _,fun _=>rfl⟩)
  |var _=>exact fE s.boxes D
  |dead=>exact fE s.boxes D
  |map _ _ _=>exact fE s.boxes D
  |hole _ _ _ _ _ _=>exact fE s.boxes D
  |nest F e' e2 ess lent=>
   rcases lent with _|lent
   rotate_left
   ·exact fE s.boxes D
   by_cases f:ver=F∧e=e'∧k=0∧xs.all Az=true
   rotate_left
   ·simp only [if_neg f]at D;exact fE s.boxes D
   simp only [if_pos f]at D
   obtain⟨rfl,rfl,rfl,b5⟩:=f
   obtain⟨U, -,j⟩:=M.rE (b:=s.boxes) D
   cases U
   have j:=of_decide_eq_true j.symm
   have c1:∀x∈xs,x=nil0:=fun x hx=>CP (List.all_eq_true.1 b5 x hx)
   have H:∀e∈xs,e.cells.length=0+1:=fun e he=>by rw [c1 e he];rfl
   have q:=ti h h1 hy za H
   obtain⟨ys,bs,k2,C,J,b6,how,a9,W, -⟩:=h.Bx K hx
   obtain⟨v',w',news,g1,g2,g3,g4,g5,g6⟩:=yg (P:=P) (ty:=ty) (tj he) hi T Q O L za how q j
   have Y:sb (loc G) (.nest (ver+1) e 1 v' bs):=by
    rw [C];exact .nest za
   have b4:=NCs.rm (P:=P) (S:=S) (loc:=upd loc G (.nest (ver+1) e 1 v' bs)) (w:=w') e2 ⟨k2,b6⟩ xs news c1 g3 g2 how.len
   have a6:∀b∈bs,w'.heap[b]? =w.heap[b]? :=fun b E=>g4.block b (a9.lt b E) fun e=>(List.nodup_append.1 W).2.2 b (by rw [<-e];simp) b E rfl
   refine⟨v',w',S,upd loc G (.nest (ver+1) e 1 v' bs),g1,?_,?_⟩
   ·refine h.sW g4 G _ _ (fun b E=>⟨_,C,List.mem_append.2 (.inl (by rw [E];simp))⟩) ?_ ?_ Y
    ·refine .nest (ver+1) e e2 _ none v' (ys++news) bs J ⟨k2,b6⟩ (by rw [Ec,List.length_replicate];exact g2) ?_ ?_ (fun i rv e=>by cases e)
     ·have:=(a9.dE (Sub.refl S) (rT.upd Y) a6).append b4
      rw [Ea]at this
      simpa [ncs]using this
     ·rw [List.nodup_append]at W⊢
      refine⟨by rcases tp v' with _|_<;>simp,W.2.1,fun a ha b E c2=>?_⟩
      subst c2
      rcases g6 a (by simpa using ha)with I|I
      ·exact W.2.2 a (by rw [I];simp) a E rfl
      ·have:=a9.lt a E
       omega
    ·intro b E
     rcases List.mem_append.1 E with E|E
     ·rcases g6 b (by simpa using E)with I|I
      ·exact .inl ⟨_,C,List.mem_append.2 (.inl (by rw [I];simp))⟩
      ·exact .inr (.inl I)
     ·exact .inl ⟨_,C,List.mem_append.2 (.inr E)⟩
   ·exact .ref G (ver+1) _ _ g5 (rK _ _ _) (fun F e' c4 b1 he=>by cases he;exact⟨DI _,fun _=>rfl⟩)
 ·rename_i G ver hh
  obtain⟨bx,r3,r4,h3,D,_⟩:=M.bind_some h2
  obtain⟨K,_,_⟩:=M.get_some h3
  cases bx with
  |arr F e' es=>
   by_cases f:ver=F∧e=e'
   rotate_left
   ·simp only [f,if_false]at D;exact fE s.boxes D
   simp only [f,and_self,if_true]at D
   obtain⟨rfl,rfl⟩:=f
   obtain⟨U, -,j⟩:=M.rE (b:=s.boxes) D
   cases U
   simp only [EF,EE]at j
   obtain⟨j,h7⟩:=j
   obtain⟨j,I⟩:=of_decide_eq_true j
   have H:∀e∈xs,e.cells.length=k+1:=fun e he=>by have:=List.all_eq_true.1 h7 e he;simpa using this
   have q:=ti h h1 hy za H
   exact BN h (tj he) hi T Q O L za K hx q j hk I
  |var _=>exact fE s.boxes D
  |dead=>exact fE s.boxes D
  |map _ _ _=>exact fE s.boxes D
  |nest _ _ _ _ _=>exact fE s.boxes D
  |hole _ _ _ _ _ _=>exact fE s.boxes D
end
end Go.Dw
