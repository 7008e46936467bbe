
import Derived.Test.YtomapcboiinfdaaGreatDwApp
open Go.Builtin renaming append_->Ax, firstCells->Ay, lenOf->Az, zeroCells->BA
open Nat renaming add_mul->A2, add_zero->Al, le_refl->AB, mul_le_mul_left->BB, mul_le_mul_right->A3, zero_add->AK, zero_le->AL
open List renaming append_assoc->AE, append_nil->BC, eq_nil_of_length_eq_zero->BD, getD->A9, getElem?_append_left->AQ, getElem?_take->AH, length_append->BE, length_take->As, mem_of_mem_take->Av, nil_append->BF, replicate->AA, size_toArray->BG, take_left->BH
open Array renaming empty_append->BI, getElem?_toList->BJ, toList_append->BK
open Bool renaming and_eq_true->A5, true_eq->A6

namespace Go.Dw
section
variable {P:Program}{X:Ctx}{S:mW}{loc:nB}{s:St}{tm:Array Value}{w:World}
theorem xm{t ty e:TypeId}{i:TypeInfo}(x:P.underlying t=some (.slice e))(hi:P.info? e=some i){g n cap m c:Nat}{cur:Array Value}{k:Nat×Nat}(o:∀j,j<cur.size->¬(k.1<=j∧j<k.2))
  (q:w.heap[g]? =some (.cells cur e k)) {a:Addr} {news:List Value} (r:news.length=m*i.size) (u:∀(j:Nat)v,news[j]? =some v->w.cell? (a.add j)=some v) (h1:∀v∈news,v.oneCell'=true) (b:n+m<=cap) (p:n*i.size+news.length<=cur.size):
  (Ax #[t,t] ty #[.slice (some ⟨g,0,none⟩) n cap,.slice (some a) m c]).run P w= .ok (.slice (some ⟨g,0,none⟩) (n+m) cap) (w.setRow g (cur.toList.take (n*i.size)++news++cur.toList.drop (n*i.size+news.length)).toArray):=by
 have l:=run_firstCells_some (P:=P) w i.size m a m c news r u
 have f:=pa P g (n*i.size) e k cur.size o news 0 cur w rfl q om h1
 rw [Al]at f
 simp [Ax,run_underlying x,sizeOf,typeInfo,hi,Az,b,l,Addr.add_lit,f]
theorem tu{t ty e:TypeId}{i:TypeInfo}{z:Value}{sz by_:Nat}(E:P.underlying t=some (.slice e))(hi:P.info? e=some i)(L:i.zero=some z)(C:i.size=sz)(r:i.bytes=by_+1)
  (a7:z.cells.size=sz) (b0:0<sz) {v vx:Value} {n:Nat} {xs:List Value} (m:rowAt w e sz v n xs) {es:List PD} (hx:Appd w S sz vx es)
  (b:(n+es.length)*(by_+1)<=140737488355328):
  ∃v' w' news,(Ax #[t,t] ty #[v,vx]).run P w= .ok v' w'∧rowAt w' e sz v' (n+es.length) (xs++news)∧Flat S sz es news∧Step (nT v) w w'∧v'.oneCell'=true∧
   ∀g,nT v'=some g->nT v=some g∨w.heap.size<=g:=by
 obtain⟨a,c,news,rfl,f,hf,y⟩:=hx
 subst C
 have a8:(n+es.length)*1<=(n+es.length)*(by_+1):=BB _ om
 have o:n+es.length<=140737488355328:=by omega
 have J:n+es.length<=maxLen:=by simp only [maxLen];omega
 have K:=m.len
 have hlen:(xs++news).length=(n+es.length)*i.size:=by rw [BE,K,f,A2]
 by_cases B:es=[]
 ·subst B
  have Y:news=[]:=BD (by simpa using f)
  subst Y
  obtain⟨base,cap,rfl,hle⟩:=m.hdr
  refine⟨_,w,[],?_,by simpa using m,hf,Step.refl _ w,rfl,fun g q=>.inl q⟩
  have Q:(Ay i.size 0 (.slice a 0 c)).run P w= .ok #[] w:=by
   cases a<;>simp [Ay,loadCells,loadCellsFrom]
  cases base<;>simp [Ax,run_underlying E,sizeOf,typeInfo,hi,Az,hle,Q,storeCells]
 ·obtain⟨ad,rfl,F⟩:=y B
  have hm:0<es.length:=by cases es with|nil=>exact(B rfl).elim|cons=>simp
  have grown:∀(p:Nat),p<n+es.length->∀N:World,N=w.drew.alloc (.cells (xs.toArray++news.toArray++BA z.cells (grownCap w (n+es.length) p e-(n+es.length))) e)->
    oE N e i.size (.slice (some ⟨w.heap.size,0,none⟩) (n+es.length) (grownCap w (n+es.length) p e)) (n+es.length) (xs++news)∧Step (nT v) w N:=by
   intro p ho N a5
   subst a5
   have W:=grownCap_ge w (n+es.length) p e
   refine⟨⟨hlen,.inr ⟨w.heap.size,_,_,_,rfl,.inl rfl,heap_alloc_new w.drew _,W,grownCap_le_maxLen w _ p e J,?_,?_⟩⟩,((Step.drew w).trans (Step.alloc w.drew _)).mono⟩
   ·simp only [Array.size_append,BG,size_zeroCells,a7,K,f, <-A2]
    congr 1
    omega
   ·simp only [BK,AE]
    rw [<-AE, <-hlen]
    exact BH
  rcases m with l|⟨rfl,rfl,a0,rfl⟩
  rotate_left
  ·cases a0 with
   |none=>
    simp only [AK]at b o grown
    have x:=run_append_nil (P:=P) w t ty e i z E hi L ad es.length c news f F hm om (by rw [r];omega)
    obtain⟨g1,g2⟩:=grown 0 om _ rfl
    simp only [BF,BI]at g1 g2
    refine⟨_,_,news,x,?_,hf,g2,rfl,fun g q=>by have:=pX q;cases this;exact .inr (AB _)⟩
    exact .inl (by simpa using g1)
   |some a0=>
    have x:=run_append_grow (P:=P) w t ty e i z E hi L a0 0 0 [] sm sm ad es.length c news f F om om (growslice_fits om (by rw [r];exact b))
    obtain⟨g1,g2⟩:=grown 0 om _ rfl
    exact⟨_,_,news,x,.inl g1,hf,g2,rfl,fun g q=>by have:=pX q;cases this;exact .inr (AB _)⟩
  rcases l.2 with⟨rfl,rfl⟩|⟨g,cap,cur,fz,rfl,I,q,a9,O,G,D⟩
  ·have a6:xs=[]:=BD (by simpa using l.1)
   subst a6
   simp only [AK]at b o grown
   have x:=run_append_nil (P:=P) w t ty e i z E hi L ad es.length c news f F hm om (by rw [r];omega)
   obtain⟨g1,g2⟩:=grown 0 om _ rfl
   simp only [BF,BI]at g1 g2
   refine⟨_,_,news,x,?_,hf,g2,rfl,fun g q=>by have:=pX q;cases this;exact .inr (AB _)⟩
   exact .inl (by simpa using g1)
  ·by_cases k:n+es.length<=cap
   ·have H:n*i.size+news.length<=cur.size:=by rw [f,G, <-A2];exact A3 _ k
    have x:=xm (P:=P) (w:=w) (ty:=ty) (c:=c) E hi (I.free G) q f F hf.one k H
    obtain⟨cap,rfl⟩:∃c',cap=c'+1:=⟨cap-1,om⟩
    refine⟨_,_,news,x,.inl ⟨hlen,.inr ⟨g,cap+1,_,_,rfl,I,setRow_heap w g cur _ e _ q,k,O,?_,?_⟩⟩,hf,Step.setRow w g _,rfl,fun g' T=>.inl T⟩
    ·simp only [BG,BE,As,List.length_drop,Array.length_toList]
     omega
    ·rw [D, <-hlen]
     exact BH
   ·have holds:∀(j:Nat)u,xs[j]? =some u->w.cell? ((⟨g,0,none⟩:Addr).add j)=some u:=l.cells (g:=g) rfl
    have x:=run_append_grow (P:=P) w t ty e i z E hi L ⟨g,0,none⟩ n cap xs l.1 holds ad es.length c news f F om om (growslice_fits om (by rw [r];exact b))
    obtain⟨g1,g2⟩:=grown cap om _ rfl
    exact⟨_,_,news,x,.inl g1,hf,g2,rfl,fun g q=>by have:=pX q;cases this;exact .inr (AB _)⟩
theorem xp{t:TypeId}{n:Nat}(h:oT P t=some n):∃i,P.info? t=some i∧i.bytes=n:=by
 unfold oT at h
 cases hi:P.info? t with
 |none=>simp [hi]at h
 |some i=>simp only [hi,Option.map_some,Option.some.injEq]at h;exact⟨i,rfl,h⟩
theorem Flat.takeN{sz:Nat}{es:List PD}{xs:List Value}(hf:Flat S sz es xs)(n:Nat):Flat S sz (es.take n) (xs.take (n*sz)):=by
 refine⟨fun x l=>hf.len x (Av l),fun q k=>hf.one q (Av k),fun i x j c hi b=>?_⟩
 rw [AH]at hi
 split at hi
 ·rename_i a
  obtain⟨q,e,f⟩:=hf.cell i x j c hi b
  refine⟨q,?_,f⟩
  have g:j<sz:=by rw [<-hf.len x (List.mem_of_getElem? hi)];exact(List.getElem?_eq_some_iff.1 b).1
  have:i*sz+j<n*sz:=by
   calc i*sz+j<i*sz+sz:=by omega
    _=(i+1)*sz:=by rw [A2,Nat.one_mul]
    _<=n*sz:=A3 _ a
  rw [AH,if_pos this]
  exact e
 ·cases hi
theorem V.w8{g sz c:Nat}{es:List PD}{xs:List Value}(hf:Flat S sz es xs)(hS:∀o,S ⟨g,o,none⟩=none)(e:es.length<=c):V (n5 S g xs) (.lst es) (.slice (some ⟨g,0,none⟩) es.length c):=
 V.lst es g 0 c sz (fun i j=>xs.getD (i*sz+j) default) e hf.len
  (fun i x j c hi b => by
   obtain⟨y,a,_⟩:=hf.cell i x j c hi b
   rw [AK,qC hS a]
   simp [A9,a])
  (fun i x j c hi b => by
   obtain⟨y,a,f⟩:=hf.cell i x j c hi b
   have:=f.mono (oK S g xs)
   simpa [A9,a]using this)
theorem V.cap{a:Option Addr}{n c e:Nat}{es:List PD}(h:V S (.lst es) (.slice a n c))(k:es.length<=e):V S (.lst es) (.slice a n e):=by
 cases h with
 |nil a c=>exact .nil _ _
 |lst _ b o c sz f h1 g i j=>exact .lst es b o e sz f k g i j
theorem xl(h:Sim P X S loc s tm w){t ty e:TypeId}{i:TypeInfo}{z:Value}{sz by_:Nat}(ht:P.underlying t=some (.slice e))(hi:P.info? e=some i)(hz:i.zero=some z)(C:i.size=sz)(G:i.bytes=by_+1)
  (c6:z.cells.size=sz) (c5:0<sz) {id ver b:Nat} {es xs:List PD} {vx vy:Value} (hb:s.boxes id=some (.arr ver e es)) (hx:R S loc (.fview id ver b) vx) (hy:Appd w S sz vy xs) (hle:b<=es.length) (hk:szT P e=some sz)
  (k:(b+xs.length)*(by_+1)<=140737488355328):
  ∃v' w' S' loc',(Ax #[t,t] ty #[vx,vy]).run P w= .ok v' w'∧Sim P X S' loc' { s with boxes:=upd s.boxes id .dead } tm w'∧R S' loc' (.d (.lst (es.take b++xs))) v':=by
 obtain⟨L,hL,hB⟩:=h.boxes id _ hb
 cases hB with
 |arr _ _ _ c7 hdr m r how hf=>
 rw [hk]at r
 cases r
 obtain⟨a,c,rfl,hv⟩:∃a c,hdr= .slice a es.length c∧vx= .slice a b b:=by
  cases hx with
  |fview _ _ _ _ L2 ho F Y=>
   rw [hL]at F
   cases F
   obtain⟨a,n,c,h1,h2,h3⟩:=(Y ver e sz hdr rfl).2 rfl
   obtain⟨a',c',h4,_⟩:=how.hdr
   rw [h4]at h1
   cases h1
   exact⟨a,c,h4,h3⟩
 subst hv
 obtain⟨ad,T,news,rfl,J,b2,y⟩:=hy
 subst C
 obtain⟨S1,Q,O,c4,b3⟩:=h.tR hb
 have hlen:(es.take b).length=b:=by simp;omega
 have b1:=hf.takeN b
 have b6:=how.len
 by_cases B:xs=[]
 ·subst B
  have b0:(Ay i.size 0 (.slice ad 0 T)).run P w= .ok #[] w:=by
   cases ad<;>simp [Ay,loadCells,loadCellsFrom]
  refine⟨.slice a b b,w,S1,_,?_,Q,?_⟩
  ·cases a<;>simp [Ax,run_underlying ht,sizeOf,typeInfo,hi,Az,b0,storeCells]
  ·rw [BC]
   refine .d ?_
   by_cases W:b=0
   ·subst W
    exact .nil _ _
   ·have D:R S loc (.view id ver 0 b) (.slice a b c):=by
     refine R.viewD hL rfl ?_
     rcases how with⟨_,⟨_,hn⟩|⟨g,cap,cur,_,he,_,_,c3,_⟩⟩|⟨hn,_,a0,he⟩
     ·omega
     ·cases he
      exact .inr ⟨g,_,_,rfl,AL _,om,sm⟩
     ·omega
    have:=(b3 ver e es hb).2 0 b _ (AL _) hle D
    rw [List.drop_zero,Nat.sub_zero]at this
    exact V.cap this om
 ·have hm:0<xs.length:=by cases xs with|nil=>exact(B rfl).elim|cons=>simp
  obtain⟨x,rfl,Y⟩:=y B
  have a6:(b+xs.length)*1<=(b+xs.length)*(by_+1):=BB _ om
  have H:b+xs.length<=maxLen:=by simp only [maxLen];omega
  have K:(m.take (b*i.size)).length=b*i.size:=by
   rw [As,b6];exact Nat.min_eq_left (A3 _ hle)
  obtain⟨f,N,a9⟩:∃f,(Ax #[t,t] ty #[.slice a b b,.slice (some x) xs.length T]).run P w= .ok (.slice (some ⟨w.heap.size,0,none⟩) (b+xs.length) f)
    (w.drew.alloc (.cells ((m.take (b*i.size)).toArray++news.toArray++BA z.cells (f-(b+xs.length))) e))∧b+xs.length<=f:=by
   cases a with
   |none=>
    have W:b=0:=by
     rcases how with⟨_,⟨_,W⟩|⟨g,cap,cur,_,he,_⟩⟩|⟨hn,_,a0,he⟩
     ·omega
     ·cases he
     ·omega
    subst W
    simp only [AK,Nat.zero_mul,List.take_zero]at k H a6⊢
    have hr:=run_append_nil (P:=P) w t ty e i z ht hi hz x xs.length T news J Y hm om (by rw [G];omega)
    exact⟨_,by simpa using hr,grownCap_ge w _ _ e⟩
   |some a0=>
    have holds:∀(j:Nat)u,(m.take (b*i.size))[j]? =some u->w.cell? (a0.add j)=some u:=by
     intro j u p
     rcases how with q|⟨hn,c0,a1,he⟩
     ·rcases q.2 with⟨he,_⟩|⟨g,cap,cur,_,he,_⟩
      ·cases he
      ·cases he
       rw [AH]at p
       split at p
       ·exact q.cells (g:=g) rfl j u p
       ·cases p
     ·subst c0
      simp at p
    have hr:=run_append_grow (P:=P) w t ty e i z ht hi hz a0 b b (m.take (b*i.size)) K holds x xs.length T news J Y om om (growslice_fits om (by rw [G];exact k))
    exact⟨_,hr,grownCap_ge w _ _ e⟩
  have l:Flat S1 i.size (es.take b++xs) (m.take (b*i.size)++news):=(b1.mono O).append (by rw [K,hlen]) (b2.mono O)
  have k2:=Q.stepW ((Step.drew w).trans (Step.alloc w.drew (.cells ((m.take (b*i.size)).toArray++news.toArray++BA z.cells (f-(b+xs.length))) e)))
  have I:(w.drew.alloc (.cells ((m.take (b*i.size)).toArray++news.toArray++BA z.cells (f-(b+xs.length))) e)).heap[w.heap.size]? =some (.cells ((m.take (b*i.size)).toArray++news.toArray++BA z.cells (f-(b+xs.length))) e (0,0)):=heap_alloc_new w.drew _
  have a5:∀o,S1 ⟨w.heap.size,o,none⟩=none:=fun o=>by
   cases hs:S1 ⟨w.heap.size,o,none⟩with
   |none=>rfl
   |some v=>have:=World.block_lt_of_cell? w _ (Q.imm _ _ hs);simp at this
  have k3 := k2.rj w.heap.size (m.take (b * i.size) ++ news) (fun j v p => by
    rw [cell_of_row _ _ _ _ _ _ I]
    have b4:=(List.getElem?_eq_some_iff.1 p).1
    rw [<-BJ]
    simp only [BK,AE]
    rw [<-AE,AQ b4]
    exact p) l.one (fun c1 L' E a7=>by
     obtain⟨bx,a8⟩:=Q.dom c1 L' E
     have:=(Q.ot a8 E).pz a7
     omega) (.inl h.frame.size)
  have hV:=V.w8 (c:=f) l a5 so
  have b5:(es.take b++xs).length=b+xs.length:=by simp;omega
  rw [b5]at hV
  exact⟨_,_,_,_,N,k3,.d hV⟩
theorem wQ(h:Sim P X S loc s tm w){t ty e:TypeId}{i:TypeInfo}{z:Value}{sz by_:Nat}(ht:P.underlying t=some (.slice e))(hi:P.info? e=some i)(hz:i.zero=some z)(x:i.size=sz)(B:i.bytes=by_+1)
  (a9:z.cells.size=sz) (a8:0<sz) {es xs:List PD} {a:Option Addr} {vy:Value} (hx:Appd w S sz (.slice a es.length es.length) es) (K:V S (.lst es) (.slice a es.length es.length)) (hy:Appd w S sz vy xs)
  (g:(es.length+xs.length)*(by_+1)<=140737488355328):
  ∃v' w' S',(Ax #[t,t] ty #[.slice a es.length es.length,vy]).run P w= .ok v' w'∧Sim P X S' loc s tm w'∧R S' loc (.d (.lst (es++xs))) v':=by
 obtain⟨ad,H,news,rfl,F,Y,q⟩:=hy
 obtain⟨I,c0,b,T,m,a5,k⟩:=hx
 obtain⟨rfl,rfl⟩:a=I∧es.length=c0:=by cases T;exact⟨rfl,rfl⟩
 subst x
 by_cases r:xs=[]
 ·subst r
  have W:(Ay i.size 0 (.slice ad 0 H)).run P w= .ok #[] w:=by
   cases ad<;>simp [Ay,loadCells,loadCellsFrom]
  refine⟨.slice a es.length es.length,w,S,?_,h,?_⟩
  ·cases a<;>simp [Ax,run_underlying ht,sizeOf,typeInfo,hi,Az,W,storeCells]
  ·rw [BC]
   exact .d K
 ·have hm:0<xs.length:=by cases xs with|nil=>exact(r rfl).elim|cons=>simp
  obtain⟨n,rfl,hc⟩:=q r
  have L:(es.length+xs.length)*1<=(es.length+xs.length)*(by_+1):=BB _ om
  have D:es.length+xs.length<=maxLen:=by simp only [maxLen];omega
  obtain⟨f,G,Q⟩:∃f,(Ax #[t,t] ty #[.slice a es.length es.length,.slice (some n) xs.length H]).run P w= .ok (.slice (some ⟨w.heap.size,0,none⟩) (es.length+xs.length) f)
    (w.drew.alloc (.cells (b.toArray++news.toArray++BA z.cells (f-(es.length+xs.length))) e))∧es.length+xs.length<=f:=by
   cases a with
   |none=>
    have p:es=[]:=by
     by_cases p:es=[]
     ·exact p
     ·obtain⟨a1,h1,_⟩:=k p;cases h1
    subst p
    obtain rfl:b=[]:=BD (by simpa using m)
    simp only [List.length_nil,AK]at g D L⊢
    have hr:=run_append_nil (P:=P) w t ty e i z ht hi hz n xs.length H news F hc hm om (by rw [B];omega)
    exact⟨_,by simpa using hr,grownCap_ge w _ _ e⟩
   |some a0=>
    have holds:∀(j:Nat)u,b[j]? =some u->w.cell? (a0.add j)=some u:=by
     intro j u C
     by_cases p:es=[]
     ·subst p
      obtain rfl:b=[]:=BD (by simpa using m)
      simp at C
     ·obtain⟨a1,h1,h2⟩:=k p
      cases h1
      exact h2 j u C
    have hr:=run_append_grow (P:=P) w t ty e i z ht hi hz a0 es.length es.length b m holds n xs.length H news F hc om om (growslice_fits om (by rw [B];exact g))
    exact⟨_,hr,grownCap_ge w _ _ e⟩
  have l:Flat S i.size (es++xs) (b++news):=a5.append m Y
  have k2:=h.stepW ((Step.drew w).trans (Step.alloc w.drew (.cells (b.toArray++news.toArray++BA z.cells (f-(es.length+xs.length))) e)))
  have E:(w.drew.alloc (.cells (b.toArray++news.toArray++BA z.cells (f-(es.length+xs.length))) e)).heap[w.heap.size]? =some (.cells (b.toArray++news.toArray++BA z.cells (f-(es.length+xs.length))) e (0,0)):=heap_alloc_new w.drew _
  have J:∀o,S ⟨w.heap.size,o,none⟩=none:=fun o=>by
   cases hs:S ⟨w.heap.size,o,none⟩with
   |none=>rfl
   |some v=>have:=World.block_lt_of_cell? w _ (h.imm _ _ hs);simp at this
  have k3 := k2.rj w.heap.size (b ++ news) (fun j v C => by
    rw [cell_of_row _ _ _ _ _ _ E]
    have a6:=(List.getElem?_eq_some_iff.1 C).1
    rw [<-BJ]
    simp only [BK,AE]
    rw [<-AE,AQ a6]
    exact C) l.one (fun a7 L' y N=>by
     obtain⟨bx,O⟩:=h.dom a7 L' y
     have:=(h.ot O y).pz N
     omega) (.inl h.frame.size)
  have hV:=V.w8 (c:=f) l J so
  rw [BE]at hV
  exact⟨_,_,_,G,k3,.d hV⟩
theorem yy{p:PD}(h:w5 p=true):p=nil0:=by
 unfold w5 at h
 split at h
 ·rfl
 ·cases h
theorem NCs.cI{P:Program}{S:mW}{loc:nB}{w:World}(e2:TypeId)(f:∃k,szT P e2=some (k+1))(xs:List PD)(news:List Value)(g:∀x∈xs,x=nil0)(hf:Flat S 1 xs news){n:Nat}{j:List Value}{e:TypeId}{v:Value}(how:rowAt w e 1 v (n+xs.length) (j++news))(r:j.length=n*1):
  NCs P S loc w ((AA xs.length []).map (.row e2)) news []:=by
 have o:news.length=xs.length:=by
  have:=how.len
  rw [BE]at this
  omega
 have b:∀u∈news,u= .slice none 0 0:=by
  intro u hu
  obtain⟨i,hi,rfl⟩:=List.getElem_of_mem hu
  have c:i<xs.length:=by omega
  obtain⟨u,h1,a⟩:=hf.cell i xs[i] 0 nil0 (zc c) (by rw [g _ (List.getElem_mem c)];rfl)
  rw [Nat.mul_one,Al,zc hi]at h1
  cases h1
  generalize news[i]=u at a
  cases a with
  |raw _ _=>rfl
 obtain⟨k,hk⟩:=f
 have key:∀(m:Nat)(l:List Value),l.length=m->(∀u∈l,u= .slice none 0 0)->NCs P S loc w ((AA m []).map (.row e2)) l []:=by
  intro m
  induction m with
  |zero=>intro l h1 a;cases l with|nil=>exact .nil|cons _ _=>simp at h1
  |succ m q=>
   intro l h1 a
   cases l with
   |nil=>simp at h1
   |cons u l=>
    obtain rfl:=a u sm
    have p:NCR P S loc w (.row e2 []) (.slice none 0 0) (nT (.slice none 0 0)).toList:= .row e2 [] (k+1) _ [] hk (.inr ⟨rfl,rfl,none,rfl⟩) (Flat.nil S _)
    have:=NCs.cons p (q l (by simpa using h1) fun u hu=>a u (by simp [hu]))
    exact this
 exact key _ _ o b
theorem wj(h:Sim P X S loc s tm w){id:Nat}{t t' ty:TypeId}{x y v:RV}{u:Ups}{r:List Nat}{vx vy:Value}(q:oC P id t t' x y s.boxes=some ((v,u),r,true))(hx:R S loc x vx)(hy:R S loc y vy):
  t=t'∧∃v' w' S' loc',(Ax #[t,t] ty #[vx,vy]).run P w= .ok v' w'∧Sim P X S' loc' (s.ups u) tm w'∧R S' loc' v v':=by
 unfold oC at q
 rcases he:od P t with _|e
 ·simp only [he]at q;exact fE s.boxes q
 simp only [he]at q
 rcases hk:szT P e with _|_|k
 ·simp only [hk]at q;exact fE s.boxes q
 ·simp only [hk]at q;exact fE s.boxes q
 rcases n:oT P e with _|_|by_
 ·simp only [hk,n]at q;exact fE s.boxes q
 ·simp only [hk,n]at q;exact fE s.boxes q
 rcases hz:n0 P e with _|z
 ·simp only [hk,n,hz]at q;exact fE s.boxes q
 simp only [hk,n,hz]at q
 by_cases hc:z.cells.size=k+1∧t=t'
 rotate_left
 ·rw [if_neg hc]at q;exact fE s.boxes q
 rw [if_pos hc]at q
 obtain⟨F,b5⟩:=hc
 refine⟨b5,?_⟩
 obtain⟨xs,r1,r2,h1,h2,_⟩:=M.bind_some q
 obtain⟨i,hi,J⟩:=oc hz
 obtain⟨i2,a7,H⟩:=xp n
 rw [hi]at a7
 cases a7
 obtain⟨i3,a8,I⟩:=sg hk
 rw [hi]at a8
 cases a8
 by_cases G:∃es,x= .dfull es
 ·obtain⟨es,rfl⟩:=G
  obtain⟨K, -,f⟩:=M.mP (b:=s.boxes) h2
  cases K
  simp only [A6,A5]at f
  obtain⟨f,Q,C⟩:=f
  have f:=of_decide_eq_true f
  have B:∀e∈xs,e.cells.length=k+1:=fun e he=>by have:=List.all_eq_true.1 Q e he;simpa using this
  have b2:∀e∈es,e.cells.length=k+1:=fun e he=>by have:=List.all_eq_true.1 C e he;simpa using this
  have j:=nP h h1 hy om B
  cases hx with
  |dfull _ a a5=>
  have T:Appd w S (k+1) (.slice a es.length es.length) es:=nP (x:= .d (.lst es)) (r:=[]) h rfl (.d a5) om b2
  obtain⟨v',w',S',g1,g2,g3⟩:=wQ (ty:=ty) h (nQ he) hi J I H F om T a5 j f
  exact⟨v',w',S',loc,g1,g2,g3⟩
 rcases x with _|_|_|_|_|_|⟨p,ver⟩|_|_|_|_|_|_<;>first|exact fE s.boxes h2|(exfalso;exact G ⟨_,rfl⟩)|skip
 ·obtain⟨_,r3,r4,h3,m,_⟩:=M.bind_some h2
  obtain⟨E,_,_⟩:=M.nJ h3
  obtain⟨K, -,f⟩:=M.mP m
  cases K
  simp only [A6,A5]at f
  obtain⟨f,Q⟩:=f
  have f:=of_decide_eq_true f
  have B:∀e∈xs,e.cells.length=k+1:=fun e he=>by have:=List.all_eq_true.1 Q e he;simpa using this
  have j:=nP h h1 hy om B
  cases hx with
  |cI=>
   obtain⟨v',w',news,g1,g2,g3,g4,g5,g6⟩:=tu (P:=P) (ty:=ty) (nQ he) hi J I H F om (.inl (.of (World.ownsRow_nil w 0 e (k+1)))) j (by simpa using f)
   simp only [AK,BF]at g2
   obtain⟨loc',g7,g8,_⟩:=h.sb E g4 hk g2 g3 (fun g hg=>(g6 g hg).resolve_left (by simp [nT])) g5
   exact⟨v',w',S,loc',g1,g7,g8⟩
 ·obtain⟨bx,r3,r4,h3,m,_⟩:=M.bind_some h2
  obtain⟨E,_,_⟩:=M.get_some h3
  cases bx with
  |arr o O es=>
   by_cases c:ver=o∧e=O
   rotate_left
   ·simp only [c,if_false]at m;exact fE s.boxes m
   simp only [c,and_self,if_true]at m
   obtain⟨rfl,rfl⟩:=c
   obtain⟨K, -,f⟩:=M.mP (b:=s.boxes) m
   cases K
   simp only [A6,A5]at f
   obtain⟨f,Q⟩:=f
   have f:=of_decide_eq_true f
   have B:∀e∈xs,e.cells.length=k+1:=fun e he=>by have:=List.all_eq_true.1 Q e he;simpa using this
   have j:=nP h h1 hy om B
   obtain⟨sz,ys,l,D,how,hf⟩:=h.qu E hx
   rw [hk]at D
   cases D
   obtain⟨v',w',news,g1,g2,g3,g4,g5,g6⟩:=tu (P:=P) (ty:=ty) (nQ he) hi J I H F om how j f
   have N:ni (loc p) (.arr (ver+1) e (k+1) v'):=by
    rw [l];exact .arr om
   refine⟨v',w',S,upd loc p (.arr (ver+1) e (k+1) v'),g1,?_,?_⟩
   ·refine h.nH g4 p _ _ (fun b n=>⟨_,l,n⟩) ?_ ?_ N
    ·exact .arr (ver+1) e (es++xs) (k+1) v' (ys++news) hk (by rw [BE];exact g2) (hf.append how.len g3)
    ·intro b n
     rcases g6 b n with C|C
     ·exact .inl ⟨_,l,C⟩
     ·exact .inr (.inl C)
   ·exact .ref p (ver+1) _ _ g5 (mU _ _ _) (fun o O b6 a6 he=>by cases he;exact⟨AB _,fun _=>rfl⟩)
  |var _=>exact fE s.boxes m
  |dead=>exact fE s.boxes m
  |map _ _ _=>exact fE s.boxes m
  |hole _ _ _ _ _ _=>exact fE s.boxes m
  |nest o O e2 ess lent=>
   rcases lent with _|lent
   rotate_left
   ·exact fE s.boxes m
   by_cases c:ver=o∧e=O∧k=0∧xs.all w5=true
   rotate_left
   ·simp only [if_neg c]at m;exact fE s.boxes m
   simp only [if_pos c]at m
   obtain⟨rfl,rfl,rfl,b0⟩:=c
   obtain⟨K, -,f⟩:=M.mP (b:=s.boxes) m
   cases K
   have f:=of_decide_eq_true f.symm
   have b3:∀x∈xs,x=nil0:=fun x hx=>yy (List.all_eq_true.1 b0 x hx)
   have B:∀e∈xs,e.cells.length=0+1:=fun e he=>by rw [b3 e he];rfl
   have j:=nP h h1 hy om B
   obtain⟨ys,bs,k2,l,D,b1,how,Y,L, -⟩:=h.w7 E hx
   obtain⟨v',w',news,g1,g2,g3,g4,g5,g6⟩:=tu (P:=P) (ty:=ty) (nQ he) hi J I H F om how j f
   have N:ni (loc p) (.nest (ver+1) e 1 v' bs):=by
    rw [l];exact .nest om
   have a9:=NCs.cI (P:=P) (S:=S) (loc:=upd loc p (.nest (ver+1) e 1 v' bs)) (w:=w') e2 ⟨k2,b1⟩ xs news b3 g3 g2 how.len
   have W:∀b∈bs,w'.heap[b]? =w.heap[b]? :=fun b n=>g4.block b (Y.lt b n) fun e=>(List.nodup_append.1 L).2.2 b (by rw [<-e];simp) b n rfl
   refine⟨v',w',S,upd loc p (.nest (ver+1) e 1 v' bs),g1,?_,?_⟩
   ·refine h.nH g4 p _ _ (fun b n=>⟨_,l,List.mem_append.2 (.inl (by rw [n];simp))⟩) ?_ ?_ N
    ·refine .nest (ver+1) e e2 _ none v' (ys++news) bs D ⟨k2,b1⟩ (by rw [BE,List.length_replicate];exact g2) ?_ ?_ (fun i rv e=>by cases e)
     ·have:=(Y.dw (Sub.refl S) (mZ.upd N) W).append a9
      rw [BC]at this
      simpa [ncs]using this
     ·rw [List.nodup_append]at L⊢
      refine⟨by rcases nT v' with _|_<;>simp,L.2.1,fun a ha b n b4=>?_⟩
      subst b4
      rcases g6 a (by simpa using ha)with C|C
      ·exact L.2.2 a (by rw [C];simp) a n rfl
      ·have:=Y.lt a n
       omega
    ·intro b n
     rcases List.mem_append.1 n with n|n
     ·rcases g6 b (by simpa using n)with C|C
      ·exact .inl ⟨_,l,List.mem_append.2 (.inl (by rw [C];simp))⟩
      ·exact .inr (.inl C)
     ·exact .inl ⟨_,l,List.mem_append.2 (.inr n)⟩
   ·exact .ref p (ver+1) _ _ g5 (mU _ _ _) (fun o O b6 a6 he=>by cases he;exact⟨AB _,fun _=>rfl⟩)
 ·rename_i p ver hh
  obtain⟨bx,r3,r4,h3,m,_⟩:=M.bind_some h2
  obtain⟨E,_,_⟩:=M.get_some h3
  cases bx with
  |arr o O es=>
   by_cases c:ver=o∧e=O
   rotate_left
   ·simp only [c,if_false]at m;exact fE s.boxes m
   simp only [c,and_self,if_true]at m
   obtain⟨rfl,rfl⟩:=c
   obtain⟨K, -,f⟩:=M.mP (b:=s.boxes) m
   cases K
   simp only [A6,A5]at f
   obtain⟨f,Q⟩:=f
   obtain⟨f,C⟩:=of_decide_eq_true f
   have B:∀e∈xs,e.cells.length=k+1:=fun e he=>by have:=List.all_eq_true.1 Q e he;simpa using this
   have j:=nP h h1 hy om B
   exact xl h (nQ he) hi J I H F om E hx j f hk C
  |var _=>exact fE s.boxes m
  |dead=>exact fE s.boxes m
  |map _ _ _=>exact fE s.boxes m
  |nest _ _ _ _ _=>exact fE s.boxes m
  |hole _ _ _ _ _ _=>exact fE s.boxes m
end
end Go.Dw
