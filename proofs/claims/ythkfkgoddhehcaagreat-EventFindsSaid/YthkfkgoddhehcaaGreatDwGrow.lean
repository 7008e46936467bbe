
import Derived.Test.YthkfkgoddhehcaaGreatDwApp
open Go.Builtin renaming append_->FW, firstCells->FX, lenOf->FY
open Nat renaming add_mul->E3, add_zero->E4, le_refl->EB, zero_add->EJ
open List renaming append_assoc->ED, eq_nil_of_length_eq_zero->FZ, getD->FA, length_append->F0, nil_append->E2, replicate->EA, size_toArray->F1, take_left->F2

namespace Go.Dw
section
variable {P:Program}{X:Ctx}{S:tG}{loc:ui}{s:St}{tm:Array Value}{w:World}
theorem CB{t ty e:TypeId}{i:TypeInfo}(z:P.underlying t=some (.slice e))(hi:P.info? e=some i){g n cap m c:Nat}{cur:Array Value}{l:Nat×Nat}(q:∀j,j<cur.size->¬(l.1<=j∧j<l.2))
  (u:w.heap[g]? =some (.cells cur e l)) {a:Addr} {news:List Value} (x:news.length=m*i.size) (y:∀(j:Nat)v,news[j]? =some v->w.cell? (a.add j)=some v) (h1:∀v∈news,v.oneCell'=true) (f:n+m<=cap) (r:n*i.size+news.length<=cur.size):
  (FW #[t,t] ty #[.slice (some ⟨g,0,none⟩) n cap,.slice (some a) m c]).run P w= .ok (.slice (some ⟨g,0,none⟩) (n+m) cap) (w.setRow g (cur.toList.take (n*i.size)++news++cur.toList.drop (n*i.size+news.length)).toArray):=by
 have p:=run_firstCells_some (P:=P) w i.size m a m c news x y
 have k:=wo P g (n*i.size) e l cur.size q news 0 cur w rfl u za h1
 rw [E4]at k
 simp [FW,run_underlying z,sizeOf,typeInfo,hi,FY,f,p,Addr.add_lit,k]
theorem AT{t ty e:TypeId}{i:TypeInfo}{z:Value}{sz by_:Nat}(G:P.underlying t=some (.slice e))(hi:P.info? e=some i)(O:i.zero=some z)(E:i.size=sz)(B:i.bytes=by_+1)
  (a9:z.cells.size=sz) (b4:0<sz) {v:Value} {n m:Nat} {xs news:List Value} {a:Option Addr} {c:Nat} (q:rowAt w e sz v n xs) (k:news.length=m*sz) (h1:∀u∈news,u.oneCell'=true)
  (D:m≠0->∃ad,a=some ad∧∀(j:Nat)u,news[j]? =some u->w.cell? (ad.add j)=some u) (f:(n+m)*(by_+1)<=140737488355328):
  ∃v' w',(FW #[t,t] ty #[v,.slice a m c]).run P w= .ok v' w'∧rowAt w' e sz v' (n+m) (xs++news)∧Step (tM v) w w'∧v'.oneCell'=true∧
   ∀g,tM v'=some g->tM v=some g∨w.heap.size<=g:=by
 subst E
 have b0:(n+m)*1<=(n+m)*(by_+1):=Nat.mul_le_mul_left _ za
 have r:n+m<=140737488355328:=by omega
 have K:n+m<=maxLen:=by simp only [maxLen];omega
 have N:=q.len
 have hlen:(xs++news).length=(n+m)*i.size:=by rw [F0,N,k,E3]
 by_cases L:m=0
 ·subst L
  have a6:news=[]:=FZ (by simpa using k)
  subst a6
  obtain⟨base,cap,rfl,hle⟩:=q.hdr
  refine⟨_,w,?_,by simpa using q,Step.refl _ w,rfl,λg y=>.inl y⟩
  have W:(FX i.size 0 (.slice a 0 c)).run P w= .ok #[] w:=by
   cases a<;>simp [FX,loadCells,loadCellsFrom]
  cases base<;>simp [FW,run_underlying G,sizeOf,typeInfo,hi,FY,hle,W,storeCells]
 ·obtain⟨ad,rfl,hc⟩:=D L
  have hm:0<m:=by omega
  have grown:∀(x:Nat),x<n+m->∀Q:World,Q=w.drew.alloc (.cells (xs.toArray++news.toArray++Builtin.zeroCells z.cells (grownCap w (n+m) x e-(n+m))) e)->
    uY Q e i.size (.slice (some ⟨w.heap.size,0,none⟩) (n+m) (grownCap w (n+m) x e)) (n+m) (xs++news)∧Step (tM v) w Q:=by
   intro x ho Q a7
   subst a7
   have a5:=grownCap_ge w (n+m) x e
   refine⟨⟨hlen,.inr ⟨w.heap.size,_,_,_,rfl,.inl rfl,heap_alloc_new w.drew _,a5,grownCap_le_maxLen w _ x e K,?_,?_⟩⟩,((Step.drew w).trans (Step.alloc w.drew _)).mono⟩
   ·simp only [Array.size_append,F1,size_zeroCells,a9,N,k, <-E3]
    congr 1
    omega
   ·simp only [Array.toList_append,ED]
    rw [<-ED, <-hlen]
    exact F2
  rcases q with p|⟨rfl,rfl,a0,rfl⟩
  rotate_left
  ·cases a0 with
   |none=>
    simp only [EJ]at f r grown
    have C:=run_append_nil (P:=P) w t ty e i z G hi O ad m c news k hc hm za (by rw [B];omega)
    obtain⟨g1,g2⟩:=grown 0 za _ rfl
    simp only [E2,Array.empty_append]at g1 g2
    refine⟨_,_,C,?_,g2,rfl,λg y=>by have:=wW y;cases this;exact .inr (EB _)⟩
    exact .inl (by simpa using g1)
   |some a0=>
    have C:=run_append_grow (P:=P) w t ty e i z G hi O a0 0 0 [] zb zb ad m c news k hc za za (growslice_fits za (by rw [B];exact f))
    obtain⟨g1,g2⟩:=grown 0 za _ rfl
    exact⟨_,_,C,.inl g1,g2,rfl,λg y=>by have:=wW y;cases this;exact .inr (EB _)⟩
  rcases p.2 with⟨rfl,rfl⟩|⟨g,cap,cur,fz,rfl,J,y,b3,T,H,F⟩
  ·have a8:xs=[]:=FZ (by simpa using p.1)
   subst a8
   simp only [EJ]at f r grown
   have C:=run_append_nil (P:=P) w t ty e i z G hi O ad m c news k hc hm za (by rw [B];omega)
   obtain⟨g1,g2⟩:=grown 0 za _ rfl
   simp only [E2,Array.empty_append]at g1 g2
   refine⟨_,_,C,?_,g2,rfl,λg y=>by have:=wW y;cases this;exact .inr (EB _)⟩
   exact .inl (by simpa using g1)
  ·by_cases l:n+m<=cap
   ·have I:n*i.size+news.length<=cur.size:=by rw [k,H, <-E3];exact Nat.mul_le_mul_right _ l
    have C:=CB (P:=P) (w:=w) (ty:=ty) (c:=c) G hi (J.free H) y k hc h1 l I
    obtain⟨cap,rfl⟩:∃c',cap=c'+1:=⟨cap-1,za⟩
    refine⟨_,_,C,.inl ⟨hlen,.inr ⟨g,cap+1,_,_,rfl,J,setRow_heap w g cur _ e _ y,l,T,?_,?_⟩⟩,Step.setRow w g _,rfl,λg' Y=>.inl Y⟩
    ·simp only [F1,F0,List.length_take,List.length_drop,Array.length_toList]
     omega
    ·rw [F, <-hlen]
     exact F2
   ·have holds:∀(j:Nat)u,xs[j]? =some u->w.cell? ((⟨g,0,none⟩:Addr).add j)=some u:=p.cells (g:=g) rfl
    have C:=run_append_grow (P:=P) w t ty e i z G hi O ⟨g,0,none⟩ n cap xs p.1 holds ad m c news k hc za za (growslice_fits za (by rw [B];exact f))
    obtain⟨g1,g2⟩:=grown cap za _ rfl
    exact⟨_,_,C,.inl g1,g2,rfl,λg y=>by have:=wW y;cases this;exact .inr (EB _)⟩
theorem zw{t ty e:TypeId}{i:TypeInfo}{z:Value}{sz by_:Nat}(C:P.underlying t=some (.slice e))(hi:P.info? e=some i)(E:i.zero=some z)(k:i.size=sz)(p:i.bytes=by_+1)
  (u:z.cells.size=sz) (r:0<sz) {v x:Value} {n:Nat} {xs:List Value} (l:rowAt w e sz v n xs) {es:List PD} (D:Appd w S sz x es)
  (f:(n+es.length)*(by_+1)<=140737488355328):
  ∃v' w' news,(FW #[t,t] ty #[v,x]).run P w= .ok v' w'∧rowAt w' e sz v' (n+es.length) (xs++news)∧Flat S sz es news∧Step (tM v) w w'∧v'.oneCell'=true∧
   ∀g,tM v'=some g->tM v=some g∨w.heap.size<=g:=by
 obtain⟨a,c,news,rfl,q,hf,j⟩:=D
 obtain⟨v',w',h1,y,B⟩:=AT (ty:=ty) (c:=c) C hi E k p u r l q hf.one (λh=>j λe=>h (by rw [e];rfl)) f
 exact⟨v',w',news,h1,y,hf,B⟩
theorem CF{t:TypeId}{n:Nat}(h:uJ P t=some n):∃i,P.info? t=some i∧i.bytes=n:=by
 unfold uJ at h
 cases hi:P.info? t with
 |none=>simp [hi]at h
 |some i=>simp only [hi,Option.map_some,Option.some.injEq]at h;exact⟨i,rfl,h⟩
theorem V.of_row{g sz c:Nat}{es:List PD}{xs:List Value}(hf:Flat S sz es xs)(hS:∀o,S ⟨g,o,none⟩=none)(hc:es.length<=c):V (uU S g xs) (.lst es) (.slice (some ⟨g,0,none⟩) es.length c):=
 V.lst es g 0 c sz (λi j=>xs.getD (i*sz+j) default) hc hf.len
  (λi x j c hi f => by
   obtain⟨y,a,_⟩:=hf.cell i x j c hi f
   rw [EJ,xv hS a]
   simp [FA,a])
  (λi x j c hi f => by
   obtain⟨y,a,k⟩:=hf.cell i x j c hi f
   have:=k.mono (vL S g xs)
   simpa [FA,a]using this)
theorem V.cap{a:Option Addr}{n c g:Nat}{es:List PD}(h:V S (.lst es) (.slice a n c))(hc:es.length<=g):V S (.lst es) (.slice a n g):=by
 cases h with
 |nil a c=>exact .nil _ _
 |lst _ b o c sz f h1 j k l=>exact .lst es b o g sz f hc j k l
theorem DC{p:PD}(h:Bs p=true):p=AW:=by
 unfold Bs at h
 split at h
 ·rfl
 ·cases h
theorem NCs.tC{P:Program}{S:tG}{loc:ui}{w:World}(e2:TypeId)(g:∃k,szT P e2=some (k+1))(xs:List PD)(news:List Value)(j:∀x∈xs,x=AW)(hf:Flat S 1 xs news){n:Nat}{ys:List Value}{e:TypeId}{v:Value}(how:rowAt w e 1 v (n+xs.length) (ys++news))(t:ys.length=n*1):
  NCs P S loc w ((EA xs.length []).map (.row e2)) news []:=by
 have p:news.length=xs.length:=by
  have:=how.len
  rw [F0]at this
  omega
 have c:∀u∈news,u= .slice none 0 0:=by
  intro u hu
  obtain⟨i,hi,rfl⟩:=List.getElem_of_mem hu
  have f:i<xs.length:=by omega
  obtain⟨u,h1,a⟩:=hf.cell i xs[i] 0 AW (ze f) (by rw [j _ (List.getElem_mem f)];rfl)
  rw [Nat.mul_one,E4,ze hi]at h1
  cases h1
  generalize news[i]=u at a
  cases a with
  |raw _ _=>rfl
 obtain⟨k,hk⟩:=g
 have key:∀(m:Nat)(l:List Value),l.length=m->(∀u∈l,u= .slice none 0 0)->NCs P S loc w ((EA m []).map (.row e2)) l []:=by
  intro m
  induction m with
  |zero=>intro l h1 a;cases l with|nil=>exact .nil|cons _ _=>simp at h1
  |succ m r=>
   intro l h1 a
   cases l with
   |nil=>simp at h1
   |cons u l=>
    obtain rfl:=a u zb
    have q:NCR P S loc w (.row e2 []) (.slice none 0 0) (tM (.slice none 0 0)).toList:= .row e2 [] (k+1) _ [] hk (.inr ⟨rfl,rfl,none,rfl⟩) (Flat.nil S _)
    have:=NCs.cons q (r l (by simpa using h1) λu hu=>a u (by simp [hu]))
    exact this
 exact key _ _ p c
theorem BH(h:Sim P X S loc s tm w){id:Nat}{t t' ty:TypeId}{x y v:RV}{u:Ups}{r:List Nat}{vx vy:Value}(l:uV P id t t' x y s.boxes=some ((v,u),r,true))(hx:R S loc x vx)(hy:R S loc y vy):
  t=t'∧∃v' w' S' loc',(FW #[t,t] ty #[vx,vy]).run P w= .ok v' w'∧Sim P X S' loc' (s.ups u) tm w'∧R S' loc' v v':=by
 unfold uV at l
 rcases he:uA P t with _|e
 ·simp only [he]at l;exact fE s.boxes l
 simp only [he]at l
 rcases hk:szT P e with _|_|k
 ·simp only [hk]at l;exact fE s.boxes l
 ·simp only [hk]at l;exact fE s.boxes l
 rcases f:uJ P e with _|_|by_
 ·simp only [hk,f]at l;exact fE s.boxes l
 ·simp only [hk,f]at l;exact fE s.boxes l
 rcases hz:uE P e with _|z
 ·simp only [hk,f,hz]at l;exact fE s.boxes l
 simp only [hk,f,hz]at l
 by_cases hc:z.cells.size=k+1∧t=t'
 rotate_left
 ·rw [if_neg hc]at l;exact fE s.boxes l
 rw [if_pos hc]at l
 obtain⟨K,b5⟩:=hc
 refine⟨b5,?_⟩
 obtain⟨xs,r1,r2,h1,h2,_⟩:=M.bind_some l
 obtain⟨i,hi,O⟩:=vu hz
 obtain⟨i2,a6,L⟩:=CF f
 rw [hi]at a6
 cases a6
 obtain⟨i3,a7,N⟩:=yJ hk
 rw [hi]at a7
 cases a7
 rcases x with _|_|_|_|_|_|⟨p,ver⟩|_|_|_|_|_|_<;>first|exact fE s.boxes h2|(exfalso;exact b6 ⟨_,rfl⟩)|skip
 ·obtain⟨_,r3,r4,h3,E,_⟩:=M.bind_some h2
  obtain⟨H,_,_⟩:=M.uD h3
  obtain⟨Y, -,q⟩:=M.tK E
  cases Y
  simp only [Bool.true_eq,Bool.and_eq_true]at q
  obtain⟨q,h7⟩:=q
  have q:=of_decide_eq_true q
  have F:∀e∈xs,e.cells.length=k+1:=λe he=>by have:=List.all_eq_true.1 h7 e he;simpa using this
  have B:=wa h h1 hy za F
  cases hx with
  |tC=>
   obtain⟨v',w',news,g1,g2,g3,g4,g5,g6⟩:=zw (P:=P) (ty:=ty) (uW he) hi O N L K za (.inl (.of (World.ownsRow_nil w 0 e (k+1)))) B (by simpa using q)
   simp only [EJ,E2]at g2
   obtain⟨loc',g7,g8,_⟩:=h.yB H g4 hk g2 g3 (λg hg=>(g6 g hg).resolve_left (by simp [tM])) g5
   exact⟨v',w',S,loc',g1,g7,g8⟩
 ·obtain⟨bx,r3,r4,h3,E,_⟩:=M.bind_some h2
  obtain⟨H,_,_⟩:=M.get_some h3
  cases bx with
  |arr C W es=>
   by_cases j:ver=C∧e=W
   rotate_left
   ·simp only [j,if_false]at E;exact fE s.boxes E
   simp only [j,and_self,if_true]at E
   obtain⟨rfl,rfl⟩:=j
   obtain⟨Y, -,q⟩:=M.tK (b:=s.boxes) E
   cases Y
   simp only [Bool.true_eq,Bool.and_eq_true]at q
   obtain⟨q,h7⟩:=q
   have q:=of_decide_eq_true q
   have F:∀e∈xs,e.cells.length=k+1:=λe he=>by have:=List.all_eq_true.1 h7 e he;simpa using this
   have B:=wa h h1 hy za F
   obtain⟨sz,ys,c,D,how,hf⟩:=h.xK H hx
   rw [hk]at D
   cases D
   obtain⟨v',w',news,g1,g2,g3,g4,g5,g6⟩:=zw (P:=P) (ty:=ty) (uW he) hi O N L K za how B q
   have J:uc (loc p) (.arr (ver+1) e (k+1) v'):=by
    rw [c];exact .arr za
   refine⟨v',w',S,upd loc p (.arr (ver+1) e (k+1) v'),g1,?_,?_⟩
   ·refine h.uO g4 p _ _ (λb f=>⟨_,c,f⟩) ?_ ?_ J
    ·exact .arr (ver+1) e (es++xs) (k+1) v' (ys++news) hk (by rw [F0];exact g2) (hf.append how.len g3)
    ·intro b f
     rcases g6 b f with G|G
     ·exact .inl ⟨_,c,G⟩
     ·exact .inr (.inl G)
   ·exact .ref p (ver+1) _ _ g5 (tJ _ _ _) (λC W c0 a5 he=>by cases he;exact⟨EB _,λ_=>rfl⟩)
  |var _=>exact fE s.boxes E
  |dead=>exact fE s.boxes E
  |nest C W e2 ess lent=>
   rcases lent with _|lent
   rotate_left
   ·exact fE s.boxes E
   by_cases j:ver=C∧e=W∧k=0∧xs.all Bs=true
   rotate_left
   ·simp only [if_neg j]at E;exact fE s.boxes E
   simp only [if_pos j]at E
   obtain⟨rfl,rfl,rfl,a9⟩:=j
   obtain⟨Y, -,q⟩:=M.tK (b:=s.boxes) E
   cases Y
   have q:=of_decide_eq_true q.symm
   have b3:∀x∈xs,x=AW:=λx hx=>DC (List.all_eq_true.1 a9 x hx)
   have F:∀e∈xs,e.cells.length=0+1:=λe he=>by rw [b3 e he];rfl
   have B:=wa h h1 hy za F
   obtain⟨ys,bs,k2,c,D,b0,how,T,I, -⟩:=h.Cq H hx
   obtain⟨v',w',news,g1,g2,g3,g4,g5,g6⟩:=zw (P:=P) (ty:=ty) (uW he) hi O N L K za how B q
   have J:uc (loc p) (.nest (ver+1) e 1 v' bs):=by
    rw [c];exact .nest za
   have a8:=NCs.tC (P:=P) (S:=S) (loc:=upd loc p (.nest (ver+1) e 1 v' bs)) (w:=w') e2 ⟨k2,b0⟩ xs news b3 g3 g2 how.len
   have Q:∀b∈bs,w'.heap[b]? =w.heap[b]? :=λb f=>g4.block b (T.lt b f) λe=>(List.nodup_append.1 I).2.2 b (by rw [<-e];simp) b f rfl
   refine⟨v',w',S,upd loc p (.nest (ver+1) e 1 v' bs),g1,?_,?_⟩
   ·refine h.uO g4 p _ _ (λb f=>⟨_,c,List.mem_append.2 (.inl (by rw [f];simp))⟩) ?_ ?_ J
    ·refine .nest (ver+1) e e2 _ none v' (ys++news) bs D ⟨k2,b0⟩ (by rw [F0,List.length_replicate];exact g2) ?_ ?_ (λi rv e=>by cases e)
     ·have:=(T.j0 (Sub.refl S) (tO.upd J) Q).append a8
      rw [List.append_nil]at this
      simpa [ncs]using this
     ·rw [List.nodup_append]at I⊢
      refine⟨by rcases tM v' with _|_<;>simp,I.2.1,λa ha b f b4=>?_⟩
      subst b4
      rcases g6 a (by simpa using ha)with G|G
      ·exact I.2.2 a (by rw [G];simp) a f rfl
      ·have:=T.lt a f
       omega
    ·intro b f
     rcases List.mem_append.1 f with f|f
     ·rcases g6 b (by simpa using f)with G|G
      ·exact .inl ⟨_,c,List.mem_append.2 (.inl (by rw [G];simp))⟩
      ·exact .inr (.inl G)
     ·exact .inl ⟨_,c,List.mem_append.2 (.inr f)⟩
   ·exact .ref p (ver+1) _ _ g5 (tJ _ _ _) (λC W c0 a5 he=>by cases he;exact⟨EB _,λ_=>rfl⟩)
end
end Go.Dw
