
import Derived.Test.YtgdhcacjeppglaaGreatDwApp
open Go.Builtin renaming append_->BA, firstCells->BB, lenOf->BC, zeroCells->BD
open Nat renaming add_mul->A6, add_zero->A7, le_refl->AB, mul_le_mul_left->BE, mul_le_mul_right->A9, zero_add->AK, zero_le->AL
open List renaming append_assoc->AE, append_nil->BF, eq_nil_of_length_eq_zero->BG, getD->Ag, getElem?_append_left->AR, getElem?_take->AH, length_append->BH, length_take->Aw, mem_of_mem_take->A3, nil_append->A5, replicate->AA, size_toArray->BI, take_left->BJ
open Array renaming empty_append->BK, getElem?_toList->BL, toList_append->BM
open Bool renaming and_eq_true->Ac, true_eq->Ad

namespace Go.Dw
section
variable {P:Program}{X:Ctx}{S:cp}{loc:cJ}{s:St}{tm:Array Value}{w:World}
theorem mc{t ty e:TypeId}{i:TypeInfo}(ht:P.underlying t=some (.slice e))(r:P.info? e=some i){g n cap m c:Nat}{cur:Array Value}{k:Nat×Nat}(o:∀j,j<cur.size->¬(k.1<=j∧j<k.2))
  (q:w.heap[g]? =some (.cells cur e k)) {a:Addr} {news:List Value} (hl:news.length=m*i.size) (u:∀(j:Nat)v,news[j]? =some v->w.cell? (a.add j)=some v) (h1:∀v∈news,v.oneCell'=true) (b:n+m<=cap) (p:n*i.size+news.length<=cur.size):
  (BA #[t,t] ty #[.slice (some ⟨g,0,none⟩) n cap,.slice (some a) m c]).run P w= .ok (.slice (some ⟨g,0,none⟩) (n+m) cap) (w.setRow g (cur.toList.take (n*i.size)++news++cur.toList.drop (n*i.size+news.length)).toArray):=by
 have l:=run_firstCells_some (P:=P) w i.size m a m c news hl u
 have f:=et P g (n*i.size) e k cur.size o news 0 cur w rfl q om h1
 rw [A7]at f
 simp [BA,run_underlying ht,sizeOf,typeInfo,r,BC,b,l,Addr.add_lit,f]
theorem jL{t ty e:TypeId}{i:TypeInfo}{z:Value}{sz by_:Nat}(ht:P.underlying t=some (.slice e))(E:P.info? e=some i)(L:i.zero=some z)(C:i.size=sz)(x:i.bytes=by_+1)
  (a2:z.cells.size=sz) (hsz:0<sz) {v:Value} {n m:Nat} {xs news:List Value} {a:Option Addr} {c:Nat} (o:rowAt w e sz v n xs) (f:news.length=m*sz) (h1:∀u∈news,u.oneCell'=true)
  (B:m≠0->∃ad,a=some ad∧∀(j:Nat)u,news[j]? =some u->w.cell? (ad.add j)=some u) (b:(n+m)*(by_+1)<=140737488355328):
  ∃v' w',(BA #[t,t] ty #[v,.slice a m c]).run P w= .ok v' w'∧rowAt w' e sz v' (n+m) (xs++news)∧Step (cA v) w w'∧v'.oneCell'=true∧
   ∀g,cA v'=some g->cA v=some g∨w.heap.size<=g:=by
 subst C
 have a3:(n+m)*1<=(n+m)*(by_+1):=BE _ om
 have p:n+m<=140737488355328:=by omega
 have I:n+m<=maxLen:=by simp only [maxLen];omega
 have K:=o.len
 have hlen:(xs++news).length=(n+m)*i.size:=by rw [BH,K,f,A6]
 by_cases J:m=0
 ·subst J
  have W:news=[]:=BG (by simpa using f)
  subst W
  obtain⟨base,cap,rfl,hle⟩:=o.hdr
  refine⟨_,w,?_,by simpa using o,Step.refl _ w,rfl,fun g r=>.inl r⟩
  have Q:(BB i.size 0 (.slice a 0 c)).run P w= .ok #[] w:=by
   cases a<;>simp [BB,loadCells,loadCellsFrom]
  cases base<;>simp [BA,run_underlying ht,sizeOf,typeInfo,E,BC,hle,Q,storeCells]
 ·obtain⟨ad,rfl,hc⟩:=B J
  have hm:0<m:=by omega
  have grown:∀(q:Nat),q<n+m->∀N:World,N=w.drew.alloc (.cells (xs.toArray++news.toArray++BD z.cells (grownCap w (n+m) q e-(n+m))) e)->
    dJ N e i.size (.slice (some ⟨w.heap.size,0,none⟩) (n+m) (grownCap w (n+m) q e)) (n+m) (xs++news)∧Step (cA v) w N:=by
   intro q ho N Y
   subst Y
   have U:=grownCap_ge w (n+m) q e
   refine⟨⟨hlen,.inr ⟨w.heap.size,_,_,_,rfl,.inl rfl,heap_alloc_new w.drew _,U,grownCap_le_maxLen w _ q e I,?_,?_⟩⟩,((Step.drew w).trans (Step.alloc w.drew _)).mono⟩
   ·simp only [Array.size_append,BI,size_zeroCells,a2,K,f, <-A6]
    congr 1
    omega
   ·simp only [BM,AE]
    rw [<-AE, <-hlen]
    exact BJ
  rcases o with l|⟨rfl,rfl,a0,rfl⟩
  rotate_left
  ·cases a0 with
   |none=>
    simp only [AK]at b p grown
    have y:=run_append_nil (P:=P) w t ty e i z ht E L ad m c news f hc hm om (by rw [x];omega)
    obtain⟨g1,g2⟩:=grown 0 om _ rfl
    simp only [A5,BK]at g1 g2
    refine⟨_,_,y,?_,g2,rfl,fun g r=>by have:=fh r;cases this;exact .inr (AB _)⟩
    exact .inl (by simpa using g1)
   |some a0=>
    have y:=run_append_grow (P:=P) w t ty e i z ht E L a0 0 0 [] sm sm ad m c news f hc om om (growslice_fits om (by rw [x];exact b))
    obtain⟨g1,g2⟩:=grown 0 om _ rfl
    exact⟨_,_,y,.inl g1,g2,rfl,fun g r=>by have:=fh r;cases this;exact .inr (AB _)⟩
  rcases l.2 with⟨rfl,rfl⟩|⟨g,cap,cur,fz,rfl,H,r,a4,O,F,D⟩
  ·have a1:xs=[]:=BG (by simpa using l.1)
   subst a1
   simp only [AK]at b p grown
   have y:=run_append_nil (P:=P) w t ty e i z ht E L ad m c news f hc hm om (by rw [x];omega)
   obtain⟨g1,g2⟩:=grown 0 om _ rfl
   simp only [A5,BK]at g1 g2
   refine⟨_,_,y,?_,g2,rfl,fun g r=>by have:=fh r;cases this;exact .inr (AB _)⟩
   exact .inl (by simpa using g1)
  ·by_cases k:n+m<=cap
   ·have G:n*i.size+news.length<=cur.size:=by rw [f,F, <-A6];exact A9 _ k
    have y:=mc (P:=P) (w:=w) (ty:=ty) (c:=c) ht E (H.free F) r f hc h1 k G
    obtain⟨cap,rfl⟩:∃c',cap=c'+1:=⟨cap-1,om⟩
    refine⟨_,_,y,.inl ⟨hlen,.inr ⟨g,cap+1,_,_,rfl,H,setRow_heap w g cur _ e _ r,k,O,?_,?_⟩⟩,Step.setRow w g _,rfl,fun g' T=>.inl T⟩
    ·simp only [BI,BH,Aw,List.length_drop,Array.length_toList]
     omega
    ·rw [D, <-hlen]
     exact BJ
   ·have holds:∀(j:Nat)u,xs[j]? =some u->w.cell? ((⟨g,0,none⟩:Addr).add j)=some u:=l.cells (g:=g) rfl
    have y:=run_append_grow (P:=P) w t ty e i z ht E L ⟨g,0,none⟩ n cap xs l.1 holds ad m c news f hc om om (growslice_fits om (by rw [x];exact b))
    obtain⟨g1,g2⟩:=grown cap om _ rfl
    exact⟨_,_,y,.inl g1,g2,rfl,fun g r=>by have:=fh r;cases this;exact .inr (AB _)⟩
theorem iy{t ty e:TypeId}{i:TypeInfo}{z:Value}{sz by_:Nat}(ht:P.underlying t=some (.slice e))(u:P.info? e=some i)(y:i.zero=some z)(j:i.size=sz)(l:i.bytes=by_+1)
  (o:z.cells.size=sz) (hsz:0<sz) {v p:Value} {n:Nat} {xs:List Value} (k:rowAt w e sz v n xs) {es:List PD} (x:Appd w S sz p es)
  (b:(n+es.length)*(by_+1)<=140737488355328):
  ∃v' w' news,(BA #[t,t] ty #[v,p]).run P w= .ok v' w'∧rowAt w' e sz v' (n+es.length) (xs++news)∧Flat S sz es news∧Step (cA v) w w'∧v'.oneCell'=true∧
   ∀g,cA v'=some g->cA v=some g∨w.heap.size<=g:=by
 obtain⟨a,c,news,rfl,m,hf,f⟩:=x
 obtain⟨v',w',h1,q,r⟩:=jL (ty:=ty) (c:=c) ht u y j l o hsz k m hf.one (fun h=>f fun e=>h (by rw [e];rfl)) b
 exact⟨v',w',news,h1,q,hf,r⟩
theorem jx{t:TypeId}{n:Nat}(h:dV P t=some n):∃i,P.info? t=some i∧i.bytes=n:=by
 unfold dV at h
 cases a:P.info? t with
 |none=>simp [a]at h
 |some i=>simp only [a,Option.map_some,Option.some.injEq]at h;exact⟨i,rfl,h⟩
theorem Flat.takeN{sz:Nat}{es:List PD}{xs:List Value}(hf:Flat S sz es xs)(n:Nat):Flat S sz (es.take n) (xs.take (n*sz)):=by
 refine⟨fun x m=>hf.len x (A3 m),fun q l=>hf.one q (A3 l),fun i x j c a e=>?_⟩
 rw [AH]at a
 split at a
 ·rename_i b
  obtain⟨q,f,g⟩:=hf.cell i x j c a e
  refine⟨q,?_,g⟩
  have k:j<sz:=by rw [<-hf.len x (List.mem_of_getElem? a)];exact(List.getElem?_eq_some_iff.1 e).1
  have:i*sz+j<n*sz:=by
   calc i*sz+j<i*sz+sz:=by omega
    _=(i+1)*sz:=by rw [A6,Nat.one_mul]
    _<=n*sz:=A9 _ b
  rw [AH,if_pos this]
  exact f
 ·cases a
theorem V.ky{g sz c:Nat}{es:List PD}{xs:List Value}(hf:Flat S sz es xs)(hS:∀o,S ⟨g,o,none⟩=none)(hc:es.length<=c):V (dg S g xs) (.lst es) (.slice (some ⟨g,0,none⟩) es.length c):=
 V.lst es g 0 c sz (fun i j=>xs.getD (i*sz+j) default) hc hf.len
  (fun i x j c b e => by
   obtain⟨y,a,_⟩:=hf.cell i x j c b e
   rw [AK,fg hS a]
   simp [Ag,a])
  (fun i x j c b e => by
   obtain⟨y,a,f⟩:=hf.cell i x j c b e
   have:=f.mono (dA S g xs)
   simpa [Ag,a]using this)
theorem V.cap{a:Option Addr}{n c e:Nat}{es:List PD}(h:V S (.lst es) (.slice a n c))(hc:es.length<=e):V S (.lst es) (.slice a n e):=by
 cases h with
 |nil a c=>exact .nil _ _
 |lst _ b o c sz f h1 g i j=>exact .lst es b o e sz f hc g i j
theorem mb(h:Sim P X S loc s tm w){t ty e:TypeId}{i:TypeInfo}{z:Value}{sz by_:Nat}(ht:P.underlying t=some (.slice e))(hi:P.info? e=some i)(hz:i.zero=some z)(B:i.size=sz)(F:i.bytes=by_+1)
  (b6:z.cells.size=sz) (hsz:0<sz) {id ver b:Nat} {es xs:List PD} {vx vy:Value} (hb:s.boxes id=some (.arr ver e es)) (hx:R S loc (.fview id ver b) vx) (hy:Appd w S sz vy xs) (hle:b<=es.length) (hk:szT P e=some sz)
  (k:(b+xs.length)*(by_+1)<=140737488355328):
  ∃v' w' S' loc',(BA #[t,t] ty #[vx,vy]).run P w= .ok v' w'∧Sim P X S' loc' { s with boxes:=upd s.boxes id .dead } tm w'∧R S' loc' (.d (.lst (es.take b++xs))) v':=by
 obtain⟨L,hL,hB⟩:=h.boxes id _ hb
 cases hB with
 |arr _ _ _ b7 hdr ys q how hf=>
 rw [hk]at q
 cases q
 obtain⟨a,c,rfl,hv⟩:∃a c,hdr= .slice a es.length c∧vx= .slice a b b:=by
  cases hx with
  |fview _ _ _ _ L2 ho E hc=>
   rw [hL]at E
   cases E
   obtain⟨a,n,c,h1,h2,h3⟩:=(hc ver e sz hdr .arr).2 rfl
   obtain⟨a',c',h4,_⟩:=how.hdr
   rw [h4]at h1
   cases h1
   exact⟨a,c,h4,h3⟩
 subst hv
 obtain⟨ad,T,news,rfl,I,a7,x⟩:=hy
 subst B
 obtain⟨Q,O,N,b5,a8⟩:=h.iL hb
 have hlen:(es.take b).length=b:=by simp;omega
 have a6:=hf.takeN b
 have b1:=how.len
 by_cases y:xs=[]
 ·subst y
  have a5:(BB i.size 0 (.slice ad 0 T)).run P w= .ok #[] w:=by
   cases ad<;>simp [BB,loadCells,loadCellsFrom]
  refine⟨.slice a b b,w,Q,_,?_,O,?_⟩
  ·cases a<;>simp [BA,run_underlying ht,sizeOf,typeInfo,hi,BC,a5,storeCells]
  ·rw [BF]
   refine .d ?_
   by_cases U:b=0
   ·subst U
    exact .nil _ _
   ·have C:R S loc (.view id ver 0 b) (.slice a b c):=by
     refine R.viewD hL rfl ?_
     rcases how with⟨_,⟨_,hn⟩|⟨g,cap,cur,_,he,_,_,b4,_⟩⟩|⟨hn,_,a0,he⟩
     ·omega
     ·cases he
      exact .inr ⟨g,_,_,rfl,AL _,om,sm⟩
     ·omega
    have:=(a8 ver e es hb).2 0 b _ (AL _) hle C
    rw [List.drop_zero,Nat.sub_zero]at this
    exact V.cap this om
 ·have hm:0<xs.length:=by cases xs with|nil=>exact(y rfl).elim|cons=>simp
  obtain⟨r,rfl,hc⟩:=x y
  have Y:(b+xs.length)*1<=(b+xs.length)*(by_+1):=BE _ om
  have G:b+xs.length<=maxLen:=by simp only [maxLen];omega
  have J:(ys.take (b*i.size)).length=b*i.size:=by
   rw [Aw,b1];exact Nat.min_eq_left (A9 _ hle)
  obtain⟨f,K,a4⟩:∃f,(BA #[t,t] ty #[.slice a b b,.slice (some r) xs.length T]).run P w= .ok (.slice (some ⟨w.heap.size,0,none⟩) (b+xs.length) f)
    (w.drew.alloc (.cells ((ys.take (b*i.size)).toArray++news.toArray++BD z.cells (f-(b+xs.length))) e))∧b+xs.length<=f:=by
   cases a with
   |none=>
    have U:b=0:=by
     rcases how with⟨_,⟨_,U⟩|⟨g,cap,cur,_,he,_⟩⟩|⟨hn,_,a0,he⟩
     ·omega
     ·cases he
     ·omega
    subst U
    simp only [AK,Nat.zero_mul,List.take_zero]at k G Y⊢
    have hr:=run_append_nil (P:=P) w t ty e i z ht hi hz r xs.length T news I hc hm om (by rw [F];omega)
    exact⟨_,by simpa using hr,grownCap_ge w _ _ e⟩
   |some a0=>
    have holds:∀(j:Nat)u,(ys.take (b*i.size))[j]? =some u->w.cell? (a0.add j)=some u:=by
     intro j u m
     rcases how with p|⟨hn,b2,a1,he⟩
     ·rcases p.2 with⟨he,_⟩|⟨g,cap,cur,_,he,_⟩
      ·cases he
      ·cases he
       rw [AH]at m
       split at m
       ·exact p.cells (g:=g) rfl j u m
       ·cases m
     ·subst b2
      simp at m
    have hr:=run_append_grow (P:=P) w t ty e i z ht hi hz a0 b b (ys.take (b*i.size)) J holds r xs.length T news I hc om om (growslice_fits om (by rw [F];exact k))
    exact⟨_,hr,grownCap_ge w _ _ e⟩
  have l:Flat Q i.size (es.take b++xs) (ys.take (b*i.size)++news):=(a6.mono N).append (by rw [J,hlen]) (a7.mono N)
  have k2:=O.stepW ((Step.drew w).trans (Step.alloc w.drew (.cells ((ys.take (b*i.size)).toArray++news.toArray++BD z.cells (f-(b+xs.length))) e)))
  have H:(w.drew.alloc (.cells ((ys.take (b*i.size)).toArray++news.toArray++BD z.cells (f-(b+xs.length))) e)).heap[w.heap.size]? =some (.cells ((ys.take (b*i.size)).toArray++news.toArray++BD z.cells (f-(b+xs.length))) e (0,0)):=heap_alloc_new w.drew _
  have W:∀o,Q ⟨w.heap.size,o,none⟩=none:=fun o=>by
   cases hs:Q ⟨w.heap.size,o,none⟩with
   |none=>rfl
   |some v=>have:=World.block_lt_of_cell? w _ (O.imm _ _ hs);simp at this
  have k3 := k2.fB w.heap.size (ys.take (b * i.size) ++ news) (fun j v m => by
    rw [cell_of_row _ _ _ _ _ _ H]
    have a9:=(List.getElem?_eq_some_iff.1 m).1
    rw [<-BL]
    simp only [BM,AE]
    rw [<-AE,AR a9]
    exact m) l.one (fun b3 L' D a2=>by
     obtain⟨bx,a3⟩:=O.dom b3 L' D
     have:=(O.dq a3 D).eO a2
     omega) (.inl h.frame.size)
  have hV:=V.ky (c:=f) l W so
  have b0:(es.take b++xs).length=b+xs.length:=by simp;omega
  rw [b0]at hV
  exact⟨_,_,_,_,K,k3,.d hV⟩
theorem lv(h:Sim P X S loc s tm w){t ty e:TypeId}{i:TypeInfo}{z:Value}{sz by_:Nat}(ht:P.underlying t=some (.slice e))(hi:P.info? e=some i)(hz:i.zero=some z)(x:i.size=sz)(B:i.bytes=by_+1)
  (a4:z.cells.size=sz) (hsz:0<sz) {es xs:List PD} {a:Option Addr} {vy:Value} (hx:Appd w S sz (.slice a es.length es.length) es) (K:V S (.lst es) (.slice a es.length es.length)) (hy:Appd w S sz vy xs)
  (g:(es.length+xs.length)*(by_+1)<=140737488355328):
  ∃v' w' S',(BA #[t,t] ty #[.slice a es.length es.length,vy]).run P w= .ok v' w'∧Sim P X S' loc s tm w'∧R S' loc (.d (.lst (es++xs))) v':=by
 obtain⟨ad,H,news,rfl,F,W,q⟩:=hy
 obtain⟨I,c0,b,T,m,Y,k⟩:=hx
 obtain⟨rfl,rfl⟩:a=I∧es.length=c0:=by cases T;exact⟨rfl,rfl⟩
 subst x
 by_cases r:xs=[]
 ·subst r
  have U:(BB i.size 0 (.slice ad 0 H)).run P w= .ok #[] w:=by
   cases ad<;>simp [BB,loadCells,loadCellsFrom]
  refine⟨.slice a es.length es.length,w,S,?_,h,?_⟩
  ·cases a<;>simp [BA,run_underlying ht,sizeOf,typeInfo,hi,BC,U,storeCells]
  ·rw [BF]
   exact .d K
 ·have hm:0<xs.length:=by cases xs with|nil=>exact(r rfl).elim|cons=>simp
  obtain⟨n,rfl,hc⟩:=q r
  have L:(es.length+xs.length)*1<=(es.length+xs.length)*(by_+1):=BE _ om
  have D:es.length+xs.length<=maxLen:=by simp only [maxLen];omega
  obtain⟨f,G,Q⟩:∃f,(BA #[t,t] ty #[.slice a es.length es.length,.slice (some n) xs.length H]).run P w= .ok (.slice (some ⟨w.heap.size,0,none⟩) (es.length+xs.length) f)
    (w.drew.alloc (.cells (b.toArray++news.toArray++BD z.cells (f-(es.length+xs.length))) e))∧es.length+xs.length<=f:=by
   cases a with
   |none=>
    have p:es=[]:=by
     by_cases p:es=[]
     ·exact p
     ·obtain⟨a1,h1,_⟩:=k p;cases h1
    subst p
    obtain rfl:b=[]:=BG (by simpa using m)
    simp only [List.length_nil,AK]at g D L⊢
    have hr:=run_append_nil (P:=P) w t ty e i z ht hi hz n xs.length H news F hc hm om (by rw [B];omega)
    exact⟨_,by simpa using hr,grownCap_ge w _ _ e⟩
   |some a0=>
    have holds:∀(j:Nat)u,b[j]? =some u->w.cell? (a0.add j)=some u:=by
     intro j u C
     by_cases p:es=[]
     ·subst p
      obtain rfl:b=[]:=BG (by simpa using m)
      simp at C
     ·obtain⟨a1,h1,h2⟩:=k p
      cases h1
      exact h2 j u C
    have hr:=run_append_grow (P:=P) w t ty e i z ht hi hz a0 es.length es.length b m holds n xs.length H news F hc om om (growslice_fits om (by rw [B];exact g))
    exact⟨_,hr,grownCap_ge w _ _ e⟩
  have l:Flat S i.size (es++xs) (b++news):=Y.append m W
  have k2:=h.stepW ((Step.drew w).trans (Step.alloc w.drew (.cells (b.toArray++news.toArray++BD z.cells (f-(es.length+xs.length))) e)))
  have E:(w.drew.alloc (.cells (b.toArray++news.toArray++BD z.cells (f-(es.length+xs.length))) e)).heap[w.heap.size]? =some (.cells (b.toArray++news.toArray++BD z.cells (f-(es.length+xs.length))) e (0,0)):=heap_alloc_new w.drew _
  have J:∀o,S ⟨w.heap.size,o,none⟩=none:=fun o=>by
   cases hs:S ⟨w.heap.size,o,none⟩with
   |none=>rfl
   |some v=>have:=World.block_lt_of_cell? w _ (h.imm _ _ hs);simp at this
  have k3 := k2.fB w.heap.size (b ++ news) (fun j v C => by
    rw [cell_of_row _ _ _ _ _ _ E]
    have a2:=(List.getElem?_eq_some_iff.1 C).1
    rw [<-BL]
    simp only [BM,AE]
    rw [<-AE,AR a2]
    exact C) l.one (fun a3 L' y N=>by
     obtain⟨bx,O⟩:=h.dom a3 L' y
     have:=(h.dq O y).eO N
     omega) (.inl h.frame.size)
  have hV:=V.ky (c:=f) l J so
  rw [BH]at hV
  exact⟨_,_,_,G,k3,.d hV⟩
theorem nw{p:PD}(h:lP p=true):p=nil0:=by
 unfold lP at h
 split at h
 ·rfl
 ·cases h
theorem NCs.cL{P:Program}{S:cp}{loc:cJ}{w:World}(e2:TypeId)(f:∃k,szT P e2=some (k+1))(xs:List PD)(news:List Value)(g:∀x∈xs,x=nil0)(hf:Flat S 1 xs news){n:Nat}{ys:List Value}{e:TypeId}{v:Value}(how:rowAt w e 1 v (n+xs.length) (ys++news))(q:ys.length=n*1):
  NCs P S loc w ((AA xs.length []).map (.row e2)) news []:=by
 have hl:news.length=xs.length:=by
  have:=how.len
  rw [BH]at this
  omega
 have b:∀u∈news,u= .slice none 0 0:=by
  intro u hu
  obtain⟨i,j,rfl⟩:=List.getElem_of_mem hu
  have c:i<xs.length:=by omega
  obtain⟨u,h1,a⟩:=hf.cell i xs[i] 0 nil0 (zc c) (by rw [g _ (List.getElem_mem c)];rfl)
  rw [Nat.mul_one,A7,zc j]at h1
  cases h1
  generalize news[i]=u at a
  cases a with
  |raw _ _=>rfl
 obtain⟨k,hk⟩:=f
 have key:∀(m:Nat)(l:List Value),l.length=m->(∀u∈l,u= .slice none 0 0)->NCs P S loc w ((AA m []).map (.row e2)) l []:=by
  intro m
  induction m with
  |zero=>intro l h1 a;cases l with|nil=>exact .nil|cons _ _=>simp at h1
  |succ m p=>
   intro l h1 a
   cases l with
   |nil=>simp at h1
   |cons u l=>
    obtain rfl:=a u sm
    have o:NCR P S loc w (.row e2 []) (.slice none 0 0) (cA (.slice none 0 0)).toList:= .row e2 [] (k+1) _ [] hk (.inr ⟨rfl,rfl,none,rfl⟩) (Flat.nil S _)
    have:=NCs.cons o (p l (by simpa using h1) fun u hu=>a u (by simp [hu]))
    exact this
 exact key _ _ hl b
theorem hP(h:Sim P X S loc s tm w){id:Nat}{t t' ty:TypeId}{x y v:RV}{u:Ups}{r:List Nat}{vx vy:Value}(hl:dU P id t t' x y s.boxes=some ((v,u),r,true))(U:R S loc x vx)(hy:R S loc y vy):
  t=t'∧∃v' w' S' loc',(BA #[t,t] ty #[vx,vy]).run P w= .ok v' w'∧Sim P X S' loc' (s.ups u) tm w'∧R S' loc' v v':=by
 unfold dU at hl
 rcases he:dm P t with _|e
 ·simp only [he]at hl;exact fE s.boxes hl
 simp only [he]at hl
 rcases hk:szT P e with _|_|k
 ·simp only [hk]at hl;exact fE s.boxes hl
 ·simp only [hk]at hl;exact fE s.boxes hl
 rcases hb:dV P e with _|_|by_
 ·simp only [hk,hb]at hl;exact fE s.boxes hl
 ·simp only [hk,hb]at hl;exact fE s.boxes hl
 rcases hz:df P e with _|z
 ·simp only [hk,hb,hz]at hl;exact fE s.boxes hl
 simp only [hk,hb,hz]at hl
 by_cases hc:z.cells.size=k+1∧t=t'
 rotate_left
 ·rw [if_neg hc]at hl;exact fE s.boxes hl
 rw [if_pos hc]at hl
 obtain⟨C,b0⟩:=hc
 refine⟨b0,?_⟩
 obtain⟨xs,r1,r2,h1,W,_⟩:=M.bind_some hl
 obtain⟨i,O,G⟩:=c8 hz
 obtain⟨i2,a2,E⟩:=jx hb
 rw [O]at a2
 cases a2
 obtain⟨i3,a3,F⟩:=fx hk
 rw [O]at a3
 cases a3
 by_cases D:∃es,x= .dfull es
 ·obtain⟨es,rfl⟩:=D
  obtain⟨H, -,f⟩:=M.cg (b:=s.boxes) W
  cases H
  simp only [Ad,Ac]at f
  obtain⟨f,L,p⟩:=f
  have f:=of_decide_eq_true f
  have hsz:∀e∈xs,e.cells.length=k+1:=fun e he=>by have:=List.all_eq_true.1 L e he;simpa using this
  have a7:∀e∈es,e.cells.length=k+1:=fun e he=>by have:=List.all_eq_true.1 p e he;simpa using this
  have l:=c9 h h1 hy om hsz
  cases U with
  |dfull _ a a0=>
  have N:Appd w S (k+1) (.slice a es.length es.length) es:=c9 (x:= .d (.lst es)) (r:=[]) h rfl (.d a0) om a7
  obtain⟨v',w',S',g1,g2,g3⟩:=lv (ty:=ty) h (cW he) O G F E C om N a0 l f
  exact⟨v',w',S',loc,g1,g2,g3⟩
 rcases x with _|_|_|_|_|_|⟨o,ver⟩|_|_|_|_|_|_<;>first|exact fE s.boxes W|(exfalso;exact D ⟨_,rfl⟩)|skip
 ·obtain⟨_,r3,r4,Y,j,_⟩:=M.bind_some W
  obtain⟨B,_,_⟩:=M.cU Y
  obtain⟨H, -,f⟩:=M.cg j
  cases H
  simp only [Ad,Ac]at f
  obtain⟨f,L⟩:=f
  have f:=of_decide_eq_true f
  have hsz:∀e∈xs,e.cells.length=k+1:=fun e he=>by have:=List.all_eq_true.1 L e he;simpa using this
  have l:=c9 h h1 hy om hsz
  cases U with
  |cL=>
   obtain⟨v',w',news,g1,g2,g3,g4,g5,g6⟩:=iy (P:=P) (ty:=ty) (cW he) O G F E C om (.inl (.of (World.ownsRow_nil w 0 e (k+1)))) l (by simpa using f)
   simp only [AK,A5]at g2
   obtain⟨loc',g7,g8,_⟩:=h.gQ B g4 hk g2 g3 (fun g hg=>(g6 g hg).resolve_left (by simp [cA])) g5
   exact⟨v',w',S,loc',g1,g7,g8⟩
 ·obtain⟨bx,r3,r4,Y,j,_⟩:=M.bind_some W
  obtain⟨B,_,_⟩:=M.get_some Y
  cases bx with
  |arr n K es=>
   by_cases c:ver=n∧e=K
   rotate_left
   ·simp only [c,if_false]at j;exact fE s.boxes j
   simp only [c,and_self,if_true]at j
   obtain⟨rfl,rfl⟩:=c
   obtain⟨H, -,f⟩:=M.cg (b:=s.boxes) j
   cases H
   simp only [Ad,Ac]at f
   obtain⟨f,L⟩:=f
   have f:=of_decide_eq_true f
   have hsz:∀e∈xs,e.cells.length=k+1:=fun e he=>by have:=List.all_eq_true.1 L e he;simpa using this
   have l:=c9 h h1 hy om hsz
   obtain⟨sz,ys,m,q,how,hf⟩:=h.fm B U
   rw [hk]at q
   cases q
   obtain⟨v',w',news,g1,g2,g3,g4,g5,g6⟩:=iy (P:=P) (ty:=ty) (cW he) O G F E C om how l f
   have J:cj (loc o) (.arr (ver+1) e (k+1) v'):=by
    rw [m];exact .arr om
   refine⟨v',w',S,upd loc o (.arr (ver+1) e (k+1) v'),g1,?_,?_⟩
   ·refine h.cw g4 o _ _ (fun b hb=>⟨_,m,hb⟩) ?_ ?_ J
    ·exact .arr (ver+1) e (es++xs) (k+1) v' (ys++news) hk (by rw [BH];exact g2) (hf.append how.len g3)
    ·intro b hb
     rcases g6 b hb with p|p
     ·exact .inl ⟨_,m,p⟩
     ·exact .inr (.inl p)
   ·exact .ref o (ver+1) _ _ g5 (cf _ _ _) (fun n K b1 a1 he=>by cases he;exact⟨AB _,fun _=>rfl⟩)
  |var _=>exact fE s.boxes j
  |dead=>exact fE s.boxes j
  |map _ _ _=>exact fE s.boxes j
  |mapn _ _ _ _ _=>exact fE s.boxes j
  |hole _ _ _ _ _ _=>exact fE s.boxes j
  |deep _ _ _ _ _ _ _=>exact fE s.boxes j
  |nest n K e2 ess eR=>
   rcases eR with _|eR
   rotate_left
   ·exact fE s.boxes j
   by_cases c:ver=n∧e=K∧k=0∧xs.all lP=true
   rotate_left
   ·simp only [if_neg c]at j;exact fE s.boxes j
   simp only [if_pos c]at j
   obtain⟨rfl,rfl,rfl,a5⟩:=c
   obtain⟨H, -,f⟩:=M.cg (b:=s.boxes) j
   cases H
   have f:=of_decide_eq_true f.symm
   have a8:∀x∈xs,x=nil0:=fun x U=>nw (List.all_eq_true.1 a5 x U)
   have hsz:∀e∈xs,e.cells.length=0+1:=fun e he=>by rw [a8 e he];rfl
   have l:=c9 h h1 hy om hsz
   obtain⟨ys,bs,k2,m,q,a6,how,T,I, -⟩:=h.lT B U
   obtain⟨v',w',news,g1,g2,g3,g4,g5,g6⟩:=iy (P:=P) (ty:=ty) (cW he) O G F E C om how l f
   have J:cj (loc o) (.nest (ver+1) e 1 v' bs):=by
    rw [m];exact .nest om
   have a4:=NCs.cL (P:=P) (S:=S) (loc:=upd loc o (.nest (ver+1) e 1 v' bs)) (w:=w') e2 ⟨k2,a6⟩ xs news a8 g3 g2 how.len
   have Q:∀b∈bs,w'.heap[b]? =w.heap[b]? :=fun b hb=>g4.block b (T.lt b hb) fun e=>(List.nodup_append.1 I).2.2 b (by rw [<-e];simp) b hb rfl
   refine⟨v',w',S,upd loc o (.nest (ver+1) e 1 v' bs),g1,?_,?_⟩
   ·refine h.cw g4 o _ _ (fun b hb=>⟨_,m,List.mem_append.2 (.inl (by rw [hb];simp))⟩) ?_ ?_ J
    ·refine .nest (ver+1) e e2 _ none v' (ys++news) bs q ⟨k2,a6⟩ (by rw [BH,List.length_replicate];exact g2) ?_ ?_ (fun i rv e=>by cases e)
     ·have:=(T.aE (Sub.refl S) (cm.upd J) Q).append a4
      rw [BF]at this
      simpa [ncs]using this
     ·rw [List.nodup_append]at I⊢
      refine⟨by rcases cA v' with _|_<;>simp,I.2.1,fun a ha b hb a9=>?_⟩
      subst a9
      rcases g6 a (by simpa using ha)with p|p
      ·exact I.2.2 a (by rw [p];simp) a hb rfl
      ·have:=T.lt a hb
       omega
    ·intro b hb
     rcases List.mem_append.1 hb with hb|hb
     ·rcases g6 b (by simpa using hb)with p|p
      ·exact .inl ⟨_,m,List.mem_append.2 (.inl (by rw [p];simp))⟩
      ·exact .inr (.inl p)
     ·exact .inl ⟨_,m,List.mem_append.2 (.inr hb)⟩
   ·exact .ref o (ver+1) _ _ g5 (cf _ _ _) (fun n K b1 a1 he=>by cases he;exact⟨AB _,fun _=>rfl⟩)
 ·rename_i o ver hh
  obtain⟨bx,r3,r4,Y,j,_⟩:=M.bind_some W
  obtain⟨B,_,_⟩:=M.get_some Y
  cases bx with
  |arr n K es=>
   by_cases c:ver=n∧e=K
   rotate_left
   ·simp only [c,if_false]at j;exact fE s.boxes j
   simp only [c,and_self,if_true]at j
   obtain⟨rfl,rfl⟩:=c
   obtain⟨H, -,f⟩:=M.cg (b:=s.boxes) j
   cases H
   simp only [Ad,Ac]at f
   obtain⟨f,L⟩:=f
   obtain⟨f,p⟩:=of_decide_eq_true f
   have hsz:∀e∈xs,e.cells.length=k+1:=fun e he=>by have:=List.all_eq_true.1 L e he;simpa using this
   have l:=c9 h h1 hy om hsz
   exact mb h (cW he) O G F E C om B U l f hk p
  |var _=>exact fE s.boxes j
  |dead=>exact fE s.boxes j
  |map _ _ _=>exact fE s.boxes j
  |nest _ _ _ _ _=>exact fE s.boxes j
  |mapn _ _ _ _ _=>exact fE s.boxes j
  |hole _ _ _ _ _ _=>exact fE s.boxes j
  |deep _ _ _ _ _ _ _=>exact fE s.boxes j
end
end Go.Dw
