
import Derived.Test.YtikangmionpjfaaGreatDwApp
open Go.Builtin renaming append_->Ct, firstCells->Cu, lenOf->Cv, zeroCells->Cw
open Nat renaming add_mul->CZ, add_zero->C0, le_refl->B6, mul_le_mul_left->Cx, mul_le_mul_right->C1, zero_add->CF, zero_le->CG
open List renaming append_assoc->B8, append_nil->Cy, eq_nil_of_length_eq_zero->Cz, getD->C8, getElem?_append_left->CM, getElem?_take->CB, length_append->DA, length_take->Cp, mem_of_mem_take->Cr, nil_append->CY, replicate->B5, size_toArray->DB, take_left->DC
open Array renaming empty_append->DD, getElem?_toList->DE, toList_append->DF
open Bool renaming and_eq_true->C4, true_eq->C5

namespace Go.Dw
section
variable {P:Program}{X:Ctx}{S:pr}{loc:pY}{s:St}{tm:Array Value}{w:World}
theorem Ac{t ty e:TypeId}{i:TypeInfo}(z:P.underlying t=some (.slice e))(hi:P.info? e=some i){g n cap m c:Nat}{cur:Array Value}{l:Nat×Nat}(q:∀j,j<cur.size->¬(l.1<=j∧j<l.2))
  (u:w.heap[g]? =some (.cells cur e l)) {a:Addr} {news:List Value} (x:news.length=m*i.size) (y:∀(j:Nat)v,news[j]? =some v->w.cell? (a.add j)=some v) (h1:∀v∈news,v.oneCell'=true) (f:n+m<=cap) (r:n*i.size+news.length<=cur.size):
  (Ct #[t,t] ty #[.slice (some ⟨g,0,none⟩) n cap,.slice (some a) m c]).run P w= .ok (.slice (some ⟨g,0,none⟩) (n+m) cap) (w.setRow g (cur.toList.take (n*i.size)++news++cur.toList.drop (n*i.size+news.length)).toArray):=by
 have p:=run_firstCells_some (P:=P) w i.size m a m c news x y
 have k:=se P g (n*i.size) e l cur.size q news 0 cur w rfl u za h1
 rw [C0]at k
 simp [Ct,run_underlying z,sizeOf,typeInfo,hi,Cv,f,p,Addr.add_lit,k]
theorem xD{t ty e:TypeId}{i:TypeInfo}{z:Value}{sz by_:Nat}(G:P.underlying t=some (.slice e))(hi:P.info? e=some i)(O:i.zero=some z)(E:i.size=sz)(B:i.bytes=by_+1)
  (a9:z.cells.size=sz) (b4:0<sz) {v:Value} {n m:Nat} {xs news:List Value} {a:Option Addr} {c:Nat} (q:rowAt w e sz v n xs) (k:news.length=m*sz) (h1:∀u∈news,u.oneCell'=true)
  (D:m≠0->∃ad,a=some ad∧∀(j:Nat)u,news[j]? =some u->w.cell? (ad.add j)=some u) (f:(n+m)*(by_+1)<=140737488355328):
  ∃v' w',(Ct #[t,t] ty #[v,.slice a m c]).run P w= .ok v' w'∧rowAt w' e sz v' (n+m) (xs++news)∧Step (pB v) w w'∧v'.oneCell'=true∧
   ∀g,pB v'=some g->pB v=some g∨w.heap.size<=g:=by
 subst E
 have b0:(n+m)*1<=(n+m)*(by_+1):=Cx _ za
 have r:n+m<=140737488355328:=by omega
 have K:n+m<=maxLen:=by simp only [maxLen];omega
 have N:=q.len
 have hlen:(xs++news).length=(n+m)*i.size:=by rw [DA,N,k,CZ]
 by_cases L:m=0
 ·subst L
  have a6:news=[]:=Cz (by simpa using k)
  subst a6
  obtain⟨base,cap,rfl,hle⟩:=q.hdr
  refine⟨_,w,?_,by simpa using q,Step.refl _ w,rfl,fun g y=>.inl y⟩
  have W:(Cu i.size 0 (.slice a 0 c)).run P w= .ok #[] w:=by
   cases a<;>simp [Cu,loadCells,loadCellsFrom]
  cases base<;>simp [Ct,run_underlying G,sizeOf,typeInfo,hi,Cv,hle,W,storeCells]
 ·obtain⟨ad,rfl,hc⟩:=D L
  have hm:0<m:=by omega
  have grown:∀(x:Nat),x<n+m->∀Q:World,Q=w.drew.alloc (.cells (xs.toArray++news.toArray++Cw z.cells (grownCap w (n+m) x e-(n+m))) e)->
    qM Q e i.size (.slice (some ⟨w.heap.size,0,none⟩) (n+m) (grownCap w (n+m) x e)) (n+m) (xs++news)∧Step (pB v) w Q:=by
   intro x ho Q a7
   subst a7
   have a5:=grownCap_ge w (n+m) x e
   refine⟨⟨hlen,.inr ⟨w.heap.size,_,_,_,rfl,.inl rfl,heap_alloc_new w.drew _,a5,grownCap_le_maxLen w _ x e K,?_,?_⟩⟩,((Step.drew w).trans (Step.alloc w.drew _)).mono⟩
   ·simp only [Array.size_append,DB,size_zeroCells,a9,N,k, <-CZ]
    congr 1
    omega
   ·simp only [DF,B8]
    rw [<-B8, <-hlen]
    exact DC
  rcases q with p|⟨rfl,rfl,a0,rfl⟩
  rotate_left
  ·cases a0 with
   |none=>
    simp only [CF]at f r grown
    have C:=run_append_nil (P:=P) w t ty e i z G hi O ad m c news k hc hm za (by rw [B];omega)
    obtain⟨g1,g2⟩:=grown 0 za _ rfl
    simp only [CY,DD]at g1 g2
    refine⟨_,_,C,?_,g2,rfl,fun g y=>by have:=tp y;cases this;exact .inr (B6 _)⟩
    exact .inl (by simpa using g1)
   |some a0=>
    have C:=run_append_grow (P:=P) w t ty e i z G hi O a0 0 0 [] sm sm ad m c news k hc za za (growslice_fits za (by rw [B];exact f))
    obtain⟨g1,g2⟩:=grown 0 za _ rfl
    exact⟨_,_,C,.inl g1,g2,rfl,fun g y=>by have:=tp y;cases this;exact .inr (B6 _)⟩
  rcases p.2 with⟨rfl,rfl⟩|⟨g,cap,cur,fz,rfl,J,y,b3,T,H,F⟩
  ·have a8:xs=[]:=Cz (by simpa using p.1)
   subst a8
   simp only [CF]at f r grown
   have C:=run_append_nil (P:=P) w t ty e i z G hi O ad m c news k hc hm za (by rw [B];omega)
   obtain⟨g1,g2⟩:=grown 0 za _ rfl
   simp only [CY,DD]at g1 g2
   refine⟨_,_,C,?_,g2,rfl,fun g y=>by have:=tp y;cases this;exact .inr (B6 _)⟩
   exact .inl (by simpa using g1)
  ·by_cases l:n+m<=cap
   ·have I:n*i.size+news.length<=cur.size:=by rw [k,H, <-CZ];exact C1 _ l
    have C:=Ac (P:=P) (w:=w) (ty:=ty) (c:=c) G hi (J.free H) y k hc h1 l I
    obtain⟨cap,rfl⟩:∃c',cap=c'+1:=⟨cap-1,za⟩
    refine⟨_,_,C,.inl ⟨hlen,.inr ⟨g,cap+1,_,_,rfl,J,setRow_heap w g cur _ e _ y,l,T,?_,?_⟩⟩,Step.setRow w g _,rfl,fun g' Y=>.inl Y⟩
    ·simp only [DB,DA,Cp,List.length_drop,Array.length_toList]
     omega
    ·rw [F, <-hlen]
     exact DC
   ·have holds:∀(j:Nat)u,xs[j]? =some u->w.cell? ((⟨g,0,none⟩:Addr).add j)=some u:=p.cells (g:=g) rfl
    have C:=run_append_grow (P:=P) w t ty e i z G hi O ⟨g,0,none⟩ n cap xs p.1 holds ad m c news k hc za za (growslice_fits za (by rw [B];exact f))
    obtain⟨g1,g2⟩:=grown cap za _ rfl
    exact⟨_,_,C,.inl g1,g2,rfl,fun g y=>by have:=tp y;cases this;exact .inr (B6 _)⟩
theorem wo{t ty e:TypeId}{i:TypeInfo}{z:Value}{sz by_:Nat}(C:P.underlying t=some (.slice e))(hi:P.info? e=some i)(E:i.zero=some z)(k:i.size=sz)(p:i.bytes=by_+1)
  (u:z.cells.size=sz) (r:0<sz) {v x:Value} {n:Nat} {xs:List Value} (l:rowAt w e sz v n xs) {es:List PD} (D:Appd w S sz x es)
  (f:(n+es.length)*(by_+1)<=140737488355328):
  ∃v' w' news,(Ct #[t,t] ty #[v,x]).run P w= .ok v' w'∧rowAt w' e sz v' (n+es.length) (xs++news)∧Flat S sz es news∧Step (pB v) w w'∧v'.oneCell'=true∧
   ∀g,pB v'=some g->pB v=some g∨w.heap.size<=g:=by
 obtain⟨a,c,news,rfl,q,hf,j⟩:=D
 obtain⟨v',w',h1,y,B⟩:=xD (ty:=ty) (c:=c) C hi E k p u r l q hf.one (fun h=>j fun e=>h (by rw [e];rfl)) f
 exact⟨v',w',news,h1,y,hf,B⟩
theorem Af{t:TypeId}{n:Nat}(h:qd P t=some n):∃i,P.info? t=some i∧i.bytes=n:=by
 unfold qd at h
 cases hi:P.info? t with
 |none=>simp [hi]at h
 |some i=>simp only [hi,Option.map_some,Option.some.injEq]at h;exact⟨i,rfl,h⟩
theorem Flat.takeN{sz:Nat}{es:List PD}{xs:List Value}(hf:Flat S sz es xs)(n:Nat):Flat S sz (es.take n) (xs.take (n*sz)):=by
 refine⟨fun x r=>hf.len x (Cr r),fun q p=>hf.one q (Cr p),fun i x j c hi f=>?_⟩
 rw [CB]at hi
 split at hi
 ·rename_i a
  obtain⟨q,g,k⟩:=hf.cell i x j c hi f
  refine⟨q,?_,k⟩
  have l:j<sz:=by rw [<-hf.len x (List.mem_of_getElem? hi)];exact(List.getElem?_eq_some_iff.1 f).1
  have:i*sz+j<n*sz:=by
   calc i*sz+j<i*sz+sz:=by omega
    _=(i+1)*sz:=by rw [CZ,Nat.one_mul]
    _<=n*sz:=C1 _ a
  rw [CB,if_pos this]
  exact g
 ·cases hi
theorem V.zO{g sz c:Nat}{es:List PD}{xs:List Value}(hf:Flat S sz es xs)(hS:∀o,S ⟨g,o,none⟩=none)(hc:es.length<=c):V (qJ S g xs) (.lst es) (.slice (some ⟨g,0,none⟩) es.length c):=
 V.lst es g 0 c sz (fun i j=>xs.getD (i*sz+j) default) hc hf.len
  (fun i x j c hi f => by
   obtain⟨y,a,_⟩:=hf.cell i x j c hi f
   rw [CF,ua hS a]
   simp [C8,a])
  (fun i x j c hi f => by
   obtain⟨y,a,k⟩:=hf.cell i x j c hi f
   have:=k.mono (rD S g xs)
   simpa [C8,a]using this)
theorem V.cap{a:Option Addr}{n c g:Nat}{es:List PD}(h:V S (.lst es) (.slice a n c))(hc:es.length<=g):V S (.lst es) (.slice a n g):=by
 cases h with
 |nil a c=>exact .nil _ _
 |lst _ b o c sz f h1 j k l=>exact .lst es b o g sz f hc j k l
theorem Ab(h:Sim P X S loc s tm w){t ty e:TypeId}{i:TypeInfo}{z:Value}{sz by_:Nat}(ht:P.underlying t=some (.slice e))(hi:P.info? e=some i)(hz:i.zero=some z)(D:i.size=sz)(H:i.bytes=by_+1)
  (c8:z.cells.size=sz) (c7:0<sz) {id ver f:Nat} {es xs:List PD} {vx vy:Value} (hb:s.boxes id=some (.arr ver e es)) (hx:R S loc (.fview id ver f) vx) (hy:Appd w S sz vy xs) (hle:f<=es.length) (hk:szT P e=some sz)
  (l:(f+xs.length)*(by_+1)<=140737488355328):
  ∃v' w' S' loc',(Ct #[t,t] ty #[vx,vy]).run P w= .ok v' w'∧Sim P X S' loc' { s with boxes:=upd s.boxes id .dead } tm w'∧R S' loc' (.d (.lst (es.take f++xs))) v':=by
 obtain⟨L,hL,hB⟩:=h.boxes id _ hb
 cases hB with
 |arr _ _ _ c9 hdr ys x how hf=>
 rw [hk]at x
 cases x
 obtain⟨a,c,rfl,hv⟩:∃a c,hdr= .slice a es.length c∧vx= .slice a f f:=by
  cases hx with
  |fview _ _ _ _ L2 ho G hc=>
   rw [hL]at G
   cases G
   obtain⟨a,n,c,h1,h2,h3⟩:=(hc ver e sz hdr rfl).2 rfl
   obtain⟨a',c',h4,_⟩:=how.hdr
   rw [h4]at h1
   cases h1
   exact⟨a,c,h4,h3⟩
 subst hv
 obtain⟨ad,W,news,rfl,K,b4,B⟩:=hy
 subst D
 obtain⟨S1,T,Q,c6,b5⟩:=h.wM hb
 have hlen:(es.take f).length=f:=by simp;omega
 have b3:=hf.takeN f
 have c1:=how.len
 by_cases C:xs=[]
 ·subst C
  have b0:(Cu i.size 0 (.slice ad 0 W)).run P w= .ok #[] w:=by
   cases ad<;>simp [Cu,loadCells,loadCellsFrom]
  refine⟨.slice a f f,w,S1,_,?_,T,?_⟩
  ·cases a<;>simp [Ct,run_underlying ht,sizeOf,typeInfo,hi,Cv,b0,storeCells]
  ·rw [Cy]
   refine .d ?_
   by_cases Y:f=0
   ·subst Y
    exact .nil _ _
   ·have E:R S loc (.view id ver 0 f) (.slice a f c):=by
     refine R.viewD hL rfl ?_
     rcases how with⟨_,⟨_,hn⟩|⟨g,cap,cur,_,he,_,_,c5,_⟩⟩|⟨hn,_,a0,he⟩
     ·omega
     ·cases he
      exact .inr ⟨g,_,_,rfl,CG _,za,sm⟩
     ·omega
    have:=(b5 ver e es hb).2 0 f _ (CG _) hle E
    rw [List.drop_zero,Nat.sub_zero]at this
    exact V.cap this za
 ·have hm:0<xs.length:=by cases xs with|nil=>exact(C rfl).elim|cons=>simp
  obtain⟨y,rfl,hc⟩:=B C
  have a6:(f+xs.length)*1<=(f+xs.length)*(by_+1):=Cx _ za
  have I:f+xs.length<=maxLen:=by simp only [maxLen];omega
  have N:(ys.take (f*i.size)).length=f*i.size:=by
   rw [Cp,c1];exact Nat.min_eq_left (C1 _ hle)
  obtain⟨k,O,a9⟩:∃k,(Ct #[t,t] ty #[.slice a f f,.slice (some y) xs.length W]).run P w= .ok (.slice (some ⟨w.heap.size,0,none⟩) (f+xs.length) k)
    (w.drew.alloc (.cells ((ys.take (f*i.size)).toArray++news.toArray++Cw z.cells (k-(f+xs.length))) e))∧f+xs.length<=k:=by
   cases a with
   |none=>
    have Y:f=0:=by
     rcases how with⟨_,⟨_,Y⟩|⟨g,cap,cur,_,he,_⟩⟩|⟨hn,_,a0,he⟩
     ·omega
     ·cases he
     ·omega
    subst Y
    simp only [CF,Nat.zero_mul,List.take_zero]at l I a6⊢
    have hr:=run_append_nil (P:=P) w t ty e i z ht hi hz y xs.length W news K hc hm za (by rw [H];omega)
    exact⟨_,by simpa using hr,grownCap_ge w _ _ e⟩
   |some a0=>
    have holds:∀(j:Nat)u,(ys.take (f*i.size))[j]? =some u->w.cell? (a0.add j)=some u:=by
     intro j u q
     rcases how with r|⟨hn,c3,a1,he⟩
     ·rcases r.2 with⟨he,_⟩|⟨g,cap,cur,_,he,_⟩
      ·cases he
      ·cases he
       rw [CB]at q
       split at q
       ·exact r.cells (g:=g) rfl j u q
       ·cases q
     ·subst c3
      simp at q
    have hr:=run_append_grow (P:=P) w t ty e i z ht hi hz a0 f f (ys.take (f*i.size)) N holds y xs.length W news K hc za za (growslice_fits za (by rw [H];exact l))
    exact⟨_,hr,grownCap_ge w _ _ e⟩
  have p:Flat S1 i.size (es.take f++xs) (ys.take (f*i.size)++news):=(b3.mono Q).append (by rw [N,hlen]) (b4.mono Q)
  have k2:=T.stepW ((Step.drew w).trans (Step.alloc w.drew (.cells ((ys.take (f*i.size)).toArray++news.toArray++Cw z.cells (k-(f+xs.length))) e)))
  have J:(w.drew.alloc (.cells ((ys.take (f*i.size)).toArray++news.toArray++Cw z.cells (k-(f+xs.length))) e)).heap[w.heap.size]? =some (.cells ((ys.take (f*i.size)).toArray++news.toArray++Cw z.cells (k-(f+xs.length))) e (0,0)):=heap_alloc_new w.drew _
  have a5:∀o,S1 ⟨w.heap.size,o,none⟩=none:=fun o=>by
   cases hs:S1 ⟨w.heap.size,o,none⟩with
   |none=>rfl
   |some v=>have:=World.block_lt_of_cell? w _ (T.imm _ _ hs);simp at this
  have k3 := k2.uD w.heap.size (ys.take (f * i.size) ++ news) (fun j v q => by
    rw [cell_of_row _ _ _ _ _ _ J]
    have b6:=(List.getElem?_eq_some_iff.1 q).1
    rw [<-DE]
    simp only [DF,B8]
    rw [<-B8,CM b6]
    exact q) p.one (fun c4 L' F a7=>by
     obtain⟨bx,a8⟩:=T.dom c4 L' F
     have:=(T.qW a8 F).rq a7
     omega) (.inl h.frame.size)
  have hV:=V.zO (c:=k) p a5 so
  have c0:(es.take f++xs).length=f+xs.length:=by simp;omega
  rw [c0]at hV
  exact⟨_,_,_,_,O,k3,.d hV⟩
theorem zp(h:Sim P X S loc s tm w){t ty e:TypeId}{i:TypeInfo}{z:Value}{sz by_:Nat}(ht:P.underlying t=some (.slice e))(hi:P.info? e=some i)(hz:i.zero=some z)(C:i.size=sz)(E:i.bytes=by_+1)
  (b4:z.cells.size=sz) (b3:0<sz) {es xs:List PD} {a:Option Addr} {vy:Value} (hx:Appd w S sz (.slice a es.length es.length) es) (O:V S (.lst es) (.slice a es.length es.length)) (hy:Appd w S sz vy xs)
  (k:(es.length+xs.length)*(by_+1)<=140737488355328):
  ∃v' w' S',(Ct #[t,t] ty #[.slice a es.length es.length,vy]).run P w= .ok v' w'∧Sim P X S' loc s tm w'∧R S' loc (.d (.lst (es++xs))) v':=by
 obtain⟨ad,K,news,rfl,I,a7,y⟩:=hy
 obtain⟨L,c0,f,a5,q,a8,l⟩:=hx
 obtain⟨rfl,rfl⟩:a=L∧es.length=c0:=by cases a5;exact⟨rfl,rfl⟩
 subst C
 by_cases B:xs=[]
 ·subst B
  have a6:(Cu i.size 0 (.slice ad 0 K)).run P w= .ok #[] w:=by
   cases ad<;>simp [Cu,loadCells,loadCellsFrom]
  refine⟨.slice a es.length es.length,w,S,?_,h,?_⟩
  ·cases a<;>simp [Ct,run_underlying ht,sizeOf,typeInfo,hi,Cv,a6,storeCells]
  ·rw [Cy]
   exact .d O
 ·have hm:0<xs.length:=by cases xs with|nil=>exact(B rfl).elim|cons=>simp
  obtain⟨r,rfl,hc⟩:=y B
  have Q:(es.length+xs.length)*1<=(es.length+xs.length)*(by_+1):=Cx _ za
  have G:es.length+xs.length<=maxLen:=by simp only [maxLen];omega
  obtain⟨g,J,Y⟩:∃g,(Ct #[t,t] ty #[.slice a es.length es.length,.slice (some r) xs.length K]).run P w= .ok (.slice (some ⟨w.heap.size,0,none⟩) (es.length+xs.length) g)
    (w.drew.alloc (.cells (f.toArray++news.toArray++Cw z.cells (g-(es.length+xs.length))) e))∧es.length+xs.length<=g:=by
   cases a with
   |none=>
    have x:es=[]:=by
     by_cases x:es=[]
     ·exact x
     ·obtain⟨a1,h1,_⟩:=l x;cases h1
    subst x
    obtain rfl:f=[]:=Cz (by simpa using q)
    simp only [List.length_nil,CF]at k G Q⊢
    have hr:=run_append_nil (P:=P) w t ty e i z ht hi hz r xs.length K news I hc hm za (by rw [E];omega)
    exact⟨_,by simpa using hr,grownCap_ge w _ _ e⟩
   |some a0=>
    have holds:∀(j:Nat)u,f[j]? =some u->w.cell? (a0.add j)=some u:=by
     intro j u F
     by_cases x:es=[]
     ·subst x
      obtain rfl:f=[]:=Cz (by simpa using q)
      simp at F
     ·obtain⟨a1,h1,h2⟩:=l x
      cases h1
      exact h2 j u F
    have hr:=run_append_grow (P:=P) w t ty e i z ht hi hz a0 es.length es.length f q holds r xs.length K news I hc za za (growslice_fits za (by rw [E];exact k))
    exact⟨_,hr,grownCap_ge w _ _ e⟩
  have p:Flat S i.size (es++xs) (f++news):=a8.append q a7
  have k2:=h.stepW ((Step.drew w).trans (Step.alloc w.drew (.cells (f.toArray++news.toArray++Cw z.cells (g-(es.length+xs.length))) e)))
  have H:(w.drew.alloc (.cells (f.toArray++news.toArray++Cw z.cells (g-(es.length+xs.length))) e)).heap[w.heap.size]? =some (.cells (f.toArray++news.toArray++Cw z.cells (g-(es.length+xs.length))) e (0,0)):=heap_alloc_new w.drew _
  have N:∀o,S ⟨w.heap.size,o,none⟩=none:=fun o=>by
   cases hs:S ⟨w.heap.size,o,none⟩with
   |none=>rfl
   |some v=>have:=World.block_lt_of_cell? w _ (h.imm _ _ hs);simp at this
  have k3 := k2.uD w.heap.size (f ++ news) (fun j v F => by
    rw [cell_of_row _ _ _ _ _ _ H]
    have a9:=(List.getElem?_eq_some_iff.1 F).1
    rw [<-DE]
    simp only [DF,B8]
    rw [<-B8,CM a9]
    exact F) p.one (fun b0 L' D T=>by
     obtain⟨bx,W⟩:=h.dom b0 L' D
     have:=(h.qW W D).rq T
     omega) (.inl h.frame.size)
  have hV:=V.zO (c:=g) p N so
  rw [DA]at hV
  exact⟨_,_,_,J,k3,.d hV⟩
theorem Ba{p:PD}(h:zK p=true):p=nil0:=by
 unfold zK at h
 split at h
 ·rfl
 ·cases h
theorem NCs.px{P:Program}{S:pr}{loc:pY}{w:World}(e2:TypeId)(g:∃k,szT P e2=some (k+1))(xs:List PD)(news:List Value)(j:∀x∈xs,x=nil0)(hf:Flat S 1 xs news){n:Nat}{ys:List Value}{e:TypeId}{v:Value}(how:rowAt w e 1 v (n+xs.length) (ys++news))(t:ys.length=n*1):
  NCs P S loc w ((B5 xs.length []).map (.row e2)) news []:=by
 have p:news.length=xs.length:=by
  have:=how.len
  rw [DA]at this
  omega
 have c:∀u∈news,u= .slice none 0 0:=by
  intro u hu
  obtain⟨i,hi,rfl⟩:=List.getElem_of_mem hu
  have f:i<xs.length:=by omega
  obtain⟨u,h1,a⟩:=hf.cell i xs[i] 0 nil0 (zd f) (by rw [j _ (List.getElem_mem f)];rfl)
  rw [Nat.mul_one,C0,zd hi]at h1
  cases h1
  generalize news[i]=u at a
  cases a with
  |raw _ _=>rfl
 obtain⟨k,hk⟩:=g
 have key:∀(m:Nat)(l:List Value),l.length=m->(∀u∈l,u= .slice none 0 0)->NCs P S loc w ((B5 m []).map (.row e2)) l []:=by
  intro m
  induction m with
  |zero=>intro l h1 a;cases l with|nil=>exact .nil|cons _ _=>simp at h1
  |succ m r=>
   intro l h1 a
   cases l with
   |nil=>simp at h1
   |cons u l=>
    obtain rfl:=a u sm
    have q:NCR P S loc w (.row e2 []) (.slice none 0 0) (pB (.slice none 0 0)).toList:= .row e2 [] (k+1) _ [] hk (.inr ⟨rfl,rfl,none,rfl⟩) (Flat.nil S _)
    have:=NCs.cons q (r l (by simpa using h1) fun u hu=>a u (by simp [hu]))
    exact this
 exact key _ _ p c
theorem yM(h:Sim P X S loc s tm w){id:Nat}{t t' ty:TypeId}{x y v:RV}{u:Ups}{r:List Nat}{vx vy:Value}(D:qu P id t t' x y s.boxes=some ((v,u),r,true))(hx:R S loc x vx)(hy:R S loc y vy):
  t=t'∧∃v' w' S' loc',(Ct #[t,t] ty #[vx,vy]).run P w= .ok v' w'∧Sim P X S' loc' (s.ups u) tm w'∧R S' loc' v v':=by
 unfold qu at D
 rcases he:qc P t with _|e
 ·simp only [he]at D;exact fE s.boxes D
 simp only [he]at D
 rcases hk:szT P e with _|_|k
 ·simp only [hk]at D;exact fE s.boxes D
 ·simp only [hk]at D;exact fE s.boxes D
 rcases q:qd P e with _|_|by_
 ·simp only [hk,q]at D;exact fE s.boxes D
 ·simp only [hk,q]at D;exact fE s.boxes D
 rcases hz:pZ P e with _|z
 ·simp only [hk,q,hz]at D;exact fE s.boxes D
 simp only [hk,q,hz]at D
 by_cases hc:z.cells.size=k+1∧t=t'
 rotate_left
 ·rw [if_neg hc]at D;exact fE s.boxes D
 rw [if_pos hc]at D
 obtain⟨I,c3⟩:=hc
 refine⟨c3,?_⟩
 obtain⟨xs,r1,r2,h1,h2,_⟩:=M.bind_some D
 obtain⟨i,hi,N⟩:=qN hz
 obtain⟨i2,b0,K⟩:=Af q
 rw [hi]at b0
 cases b0
 obtain⟨i3,b3,L⟩:=vD hk
 rw [hi]at b3
 cases b3
 by_cases J:∃es,x= .dfull es
 ·obtain⟨es,rfl⟩:=J
  obtain⟨O, -,f⟩:=M.pq (b:=s.boxes) h2
  cases O
  simp only [C5,C4]at f
  obtain⟨f,Y,F⟩:=f
  have f:=of_decide_eq_true f
  have E:∀e∈xs,e.cells.length=k+1:=fun e he=>by have:=List.all_eq_true.1 Y e he;simpa using this
  have c0:∀e∈es,e.cells.length=k+1:=fun e he=>by have:=List.all_eq_true.1 F e he;simpa using this
  have j:=qm h h1 hy za E
  cases hx with
  |dfull _ a a8=>
  have a5:Appd w S (k+1) (.slice a es.length es.length) es:=qm (x:= .d (.lst es)) (r:=[]) h rfl (.d a8) za c0
  obtain⟨v',w',S',g1,g2,g3⟩:=zp (ty:=ty) h (qo he) hi N L K I za a5 a8 j f
  exact⟨v',w',S',loc,g1,g2,g3⟩
 rcases x with _|_|_|_|_|_|⟨C,ver⟩|_|_|_|_|_|_<;>first|exact fE s.boxes h2|(exfalso;exact J ⟨_,rfl⟩)|skip
 ·obtain⟨_,r3,r4,h3,p,_⟩:=M.bind_some h2
  obtain⟨H,_,_⟩:=M.qj h3
  obtain⟨O, -,f⟩:=M.pq p
  cases O
  simp only [C5,C4]at f
  obtain⟨f,Y⟩:=f
  have f:=of_decide_eq_true f
  have E:∀e∈xs,e.cells.length=k+1:=fun e he=>by have:=List.all_eq_true.1 Y e he;simpa using this
  have j:=qm h h1 hy za E
  cases hx with
  |px=>
   obtain⟨v',w',news,g1,g2,g3,g4,g5,g6⟩:=wo (P:=P) (ty:=ty) (qo he) hi N L K I za (.inl (.of (World.ownsRow_nil w 0 e (k+1)))) j (by simpa using f)
   simp only [CF,CY]at g2
   obtain⟨loc',g7,g8,_⟩:=h.vv H g4 hk g2 g3 (fun g hg=>(g6 g hg).resolve_left (by simp [pB])) g5
   exact⟨v',w',S,loc',g1,g7,g8⟩
 ·obtain⟨bx,r3,r4,h3,p,_⟩:=M.bind_some h2
  obtain⟨H,_,_⟩:=M.get_some h3
  cases bx with
  |arr B W es=>
   by_cases c:ver=B∧e=W
   rotate_left
   ·simp only [c,if_false]at p;exact fE s.boxes p
   simp only [c,and_self,if_true]at p
   obtain⟨rfl,rfl⟩:=c
   obtain⟨O, -,f⟩:=M.pq (b:=s.boxes) p
   cases O
   simp only [C5,C4]at f
   obtain⟨f,Y⟩:=f
   have f:=of_decide_eq_true f
   have E:∀e∈xs,e.cells.length=k+1:=fun e he=>by have:=List.all_eq_true.1 Y e he;simpa using this
   have j:=qm h h1 hy za E
   obtain⟨sz,ys,l,G,how,hf⟩:=h.tT H hx
   rw [hk]at G
   cases G
   obtain⟨v',w',news,g1,g2,g3,g4,g5,g6⟩:=wo (P:=P) (ty:=ty) (qo he) hi N L K I za how j f
   have T:pN (loc C) (.arr (ver+1) e (k+1) v'):=by
    rw [l];exact .arr za
   refine⟨v',w',S,upd loc C (.arr (ver+1) e (k+1) v'),g1,?_,?_⟩
   ·refine h.qh g4 C _ _ (fun b q=>⟨_,l,q⟩) ?_ ?_ T
    ·exact .arr (ver+1) e (es++xs) (k+1) v' (ys++news) hk (by rw [DA];exact g2) (hf.append how.len g3)
    ·intro b q
     rcases g6 b q with F|F
     ·exact .inl ⟨_,l,F⟩
     ·exact .inr (.inl F)
   ·exact .ref C (ver+1) _ _ g5 (pz _ _ _) (fun B W c4 a9 he=>by cases he;exact⟨B6 _,fun _=>rfl⟩)
  |var _=>exact fE s.boxes p
  |dead=>exact fE s.boxes p
  |map _ _ _=>exact fE s.boxes p
  |hole _ _ _ _ _ _=>exact fE s.boxes p
  |nest B W e2 ess lent=>
   rcases lent with _|lent
   rotate_left
   ·exact fE s.boxes p
   by_cases c:ver=B∧e=W∧k=0∧xs.all zK=true
   rotate_left
   ·simp only [if_neg c]at p;exact fE s.boxes p
   simp only [if_pos c]at p
   obtain⟨rfl,rfl,rfl,b5⟩:=c
   obtain⟨O, -,f⟩:=M.pq (b:=s.boxes) p
   cases O
   have f:=of_decide_eq_true f.symm
   have c1:∀x∈xs,x=nil0:=fun x hx=>Ba (List.all_eq_true.1 b5 x hx)
   have E:∀e∈xs,e.cells.length=0+1:=fun e he=>by rw [c1 e he];rfl
   have j:=qm h h1 hy za E
   obtain⟨ys,bs,k2,l,G,b6,how,a7,Q, -⟩:=h.zN H hx
   obtain⟨v',w',news,g1,g2,g3,g4,g5,g6⟩:=wo (P:=P) (ty:=ty) (qo he) hi N L K I za how j f
   have T:pN (loc C) (.nest (ver+1) e 1 v' bs):=by
    rw [l];exact .nest za
   have b4:=NCs.px (P:=P) (S:=S) (loc:=upd loc C (.nest (ver+1) e 1 v' bs)) (w:=w') e2 ⟨k2,b6⟩ xs news c1 g3 g2 how.len
   have a6:∀b∈bs,w'.heap[b]? =w.heap[b]? :=fun b q=>g4.block b (a7.lt b q) fun e=>(List.nodup_append.1 Q).2.2 b (by rw [<-e];simp) b q rfl
   refine⟨v',w',S,upd loc C (.nest (ver+1) e 1 v' bs),g1,?_,?_⟩
   ·refine h.qh g4 C _ _ (fun b q=>⟨_,l,List.mem_append.2 (.inl (by rw [q];simp))⟩) ?_ ?_ T
    ·refine .nest (ver+1) e e2 _ none v' (ys++news) bs G ⟨k2,b6⟩ (by rw [DA,List.length_replicate];exact g2) ?_ ?_ (fun i rv e=>by cases e)
     ·have:=(a7.cI (Sub.refl S) (pD.upd T) a6).append b4
      rw [Cy]at this
      simpa [ncs]using this
     ·rw [List.nodup_append]at Q⊢
      refine⟨by rcases pB v' with _|_<;>simp,Q.2.1,fun a ha b q c2=>?_⟩
      subst c2
      rcases g6 a (by simpa using ha)with F|F
      ·exact Q.2.2 a (by rw [F];simp) a q rfl
      ·have:=a7.lt a q
       omega
    ·intro b q
     rcases List.mem_append.1 q with q|q
     ·rcases g6 b (by simpa using q)with F|F
      ·exact .inl ⟨_,l,List.mem_append.2 (.inl (by rw [F];simp))⟩
      ·exact .inr (.inl F)
     ·exact .inl ⟨_,l,List.mem_append.2 (.inr q)⟩
   ·exact .ref C (ver+1) _ _ g5 (pz _ _ _) (fun B W c4 a9 he=>by cases he;exact⟨B6 _,fun _=>rfl⟩)
 ·rename_i C ver hh
  obtain⟨bx,r3,r4,h3,p,_⟩:=M.bind_some h2
  obtain⟨H,_,_⟩:=M.get_some h3
  cases bx with
  |arr B W es=>
   by_cases c:ver=B∧e=W
   rotate_left
   ·simp only [c,if_false]at p;exact fE s.boxes p
   simp only [c,and_self,if_true]at p
   obtain⟨rfl,rfl⟩:=c
   obtain⟨O, -,f⟩:=M.pq (b:=s.boxes) p
   cases O
   simp only [C5,C4]at f
   obtain⟨f,Y⟩:=f
   obtain⟨f,F⟩:=of_decide_eq_true f
   have E:∀e∈xs,e.cells.length=k+1:=fun e he=>by have:=List.all_eq_true.1 Y e he;simpa using this
   have j:=qm h h1 hy za E
   exact Ab h (qo he) hi N L K I za H hx j f hk F
  |var _=>exact fE s.boxes p
  |dead=>exact fE s.boxes p
  |map _ _ _=>exact fE s.boxes p
  |nest _ _ _ _ _=>exact fE s.boxes p
  |hole _ _ _ _ _ _=>exact fE s.boxes p
end
end Go.Dw
