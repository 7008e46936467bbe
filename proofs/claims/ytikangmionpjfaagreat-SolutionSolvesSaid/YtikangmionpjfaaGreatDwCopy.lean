
import Derived.Test.YtikangmionpjfaaGreatDwGrow
open List renaming foldlM_cons->DG, getElem?_drop->CA, getElem?_take->CB, length_append->DA, length_drop->Co, length_replicate->DH, length_take->Cp, mem_of_mem_drop->Cq, mem_of_mem_take->Cr, replicate->B5
open Nat renaming add_mul->CZ, min->DI, min_eq_left->Ck, mod_lt->Ca, mul_le_mul_right->C1, one_mul->C2, succ_pos->DJ
open Go.Builtin renaming clear_->DK, copy_->DL, firstCells->Cu, lenOf->Cv, max2->DM, min2->DN, zeroCells->Cw

namespace Go.Dw
section
variable {P:Program}{X:Ctx}{S:pr}{loc:pY}{s:St}{tm:Array Value}{w:World}
theorem AO{α:Type}{f:Nat->Option α}{id:Nat}{x:α}(h:f id=some x):upd f id x=f:=by
 funext i
 by_cases hi:i=id
 ·subst hi;rw [pz,h]
 ·exact p6 _ _ hi
theorem Flat.take{sz:Nat}{es:List PD}{xs:List Value}(h:Flat S sz es xs)(n:Nat):Flat S sz (es.take n) (xs.take (n*sz)):=by
 refine⟨fun e he=>h.len e (Cr he),fun u hu=>h.one u (Cr hu),fun i e j x hi c=>?_⟩
 rw [CB]at hi
 split at hi
 ·rename_i a
  obtain⟨u,hu,g⟩:=h.cell i e j x hi c
  have f:j<sz:=by rw [<-h.len e (List.mem_of_getElem? hi)];exact(List.getElem?_eq_some_iff.1 c).1
  have hm:(i+1)*sz<=n*sz:=C1 _ a
  rw [CZ,C2]at hm
  exact⟨u,by rw [CB,if_pos za];exact hu,g⟩
 ·cases hi
theorem Flat.drop{sz:Nat}{es:List PD}{xs:List Value}(h:Flat S sz es xs)(n:Nat):Flat S sz (es.drop n) (xs.drop (n*sz)):=by
 refine⟨fun e he=>h.len e (Cq he),fun u hu=>h.one u (Cq hu),fun i e j x hi a=>?_⟩
 rw [CA]at hi
 obtain⟨u,hu,c⟩:=h.cell (n+i) e j x hi a
 refine⟨u,?_,c⟩
 rw [CA, <-hu,CZ]
 congr 1
 omega
theorem Sim.AP(h:Sim P X S loc s tm w){id ver sz:Nat}{e:TypeId}{es ys:List PD}{xs news:List Value}{hdr:Value}(a:loc id=some (.arr ver e sz hdr))(B:szT P e=some sz)
  (how:rowAt w e sz hdr es.length xs) (hf:Flat S sz es xs) (F:Flat S sz ys news) (f:news.length=ys.length*sz) {off:Nat} (hle:off+ys.length<=es.length) {g n c:Nat} (z:hdr= .slice (some ⟨g,0,none⟩) n c) (E:0<ys.length):
  ∃w',(storeCells ⟨g,off*sz,none⟩ news).run P w= .ok () w'∧Sim P X S (upd loc id (.arr ver e sz hdr)) { s with boxes:=upd s.boxes id (.arr ver e (es.take off++ys++es.drop (off+ys.length))) } tm w':=by
 have how:=how.rz za
 rcases how.2 with⟨he,_⟩|⟨I,cap,cur,H,he,p,D,q,y,l,j⟩
 ·rw [z]at he;cases he
 rw [z]at he
 cases he
 have t:xs.length=es.length*sz:=how.1
 have C:es.length*sz<=cur.size:=by
  rw [l];exact C1 _ q
 have hm:off*sz+news.length<=es.length*sz:=by rw [f, <-CZ];exact C1 _ hle
 obtain⟨c,rfl⟩:∃G,c=G+1:=⟨c-1,za⟩
 have r:=se P g (off*sz) e H cur.size (p.free l) news 0 cur w rfl D za F.one
 refine⟨_,r,?_⟩
 subst z
 refine h.qh (Step.setRow w g _) id _ _ (fun b' x=>by cases x;exact⟨_,a,rfl⟩) ?_ (fun b' u=>by cases u;exact .inl ⟨_,a,rfl⟩) (by rw [a];exact .same _)
 have hlen:(es.take off++ys++es.drop (off+ys.length)).length=es.length:=by
  simp only [DA,Cp,Co];omega
 refine .arr ver e _ sz _ (xs.take (off*sz)++news++xs.drop ((off+ys.length)*sz)) B ?_ ?_
 ·rw [hlen]
  refine .inl ⟨?_,.inr ⟨g,c+1,_,_,rfl,p,setRow_heap w g cur _ e _ D,q,y,?_,?_⟩⟩
  ·simp only [DA,Cp,Co,t,CZ];omega
  ·simp only [List.size_toArray,DA,Cp,Co,Array.length_toList];omega
  ·rw [<-j]
   apply List.ext_getElem?
   intro k
   have e2:(off+ys.length)*sz=off*sz+news.length:=by rw [CZ,f]
   rw [e2,Nat.add_zero,CB,re _ _ _ _ _ rfl so]
   rw [re _ _ _ _ _ rfl so]
   rw [CB]
   by_cases hk:k<es.length*sz
   ·rw [if_pos hk,if_pos hk]
   ·rw [if_neg hk,if_neg za,if_neg hk]
 ·refine Flat.append (Flat.append (hf.take off) ?_ F) ?_ (hf.drop _)
  ·rw [Cp,Cp,t]
   rw [Ck (by have:=C1 sz (show off<=es.length by omega);omega),Ck za]
  ·have:(xs.take (off*sz)).length=off*sz:=by rw [Cp,Ck za]
   rw [DA,this,f,DA,Cp,Ck za,CZ]
theorem dst_at(h:Sim P X S loc s tm w){x:RV}{t:Value}{id ver off m:Nat}{e:TypeId}{es:List PD}{r:List Nat}(B:wI x s.boxes=some ((id,ver,e,es,off,m),r,true))(E:R S loc x t):
  ∃sz xs hdr,s.boxes id=some (.arr ver e es)∧loc id=some (.arr ver e sz hdr)∧szT P e=some sz∧rowAt w e sz hdr es.length xs∧Flat S sz es xs∧off+m<=es.length∧
   ((m=0∧∃ad c,t= .slice ad 0 c)∨∃g n c cc,hdr= .slice (some ⟨g,0,none⟩) n c∧t= .slice (some ⟨g,off*sz,none⟩) m cc):=by
 rcases x with _|_|_|_|_|_|⟨D,l⟩|_|_|_|⟨D,l,lo,hi⟩|_|_<;>first|exact fE s.boxes B|skip
 ·obtain⟨u,H,I,h1,j,_⟩:=M.bind_some B
  obtain⟨q,_,_⟩:=M.get_some h1
  cases u with
  |var _=>exact fE s.boxes j
  |dead=>exact fE s.boxes j
  |map _ _ _=>exact fE s.boxes j
  |nest _ _ _ _ _=>exact fE s.boxes j
  |hole _ _ _ _ _ _=>exact fE s.boxes j
  |arr v2 e2 y=>
   by_cases f:l=v2
   rotate_left
   ·simp only [f,if_false]at j;exact fE s.boxes j
   simp only [f,if_true]at j
   obtain⟨z, -, -⟩:=M.pj (b:=s.boxes) j
   subst f
   cases z
   obtain⟨sz,xs,k,p,how,hf⟩:=h.tT q E
   refine⟨sz,xs,t,q,k,p,how,hf,za,?_⟩
   rcases how with⟨_,⟨rfl,C⟩|⟨g,cap,cur,_,rfl,_⟩⟩|⟨C,_,a,rfl⟩
   ·exact .inl ⟨C,none,0,rfl⟩
   ·exact .inr ⟨g,es.length,cap,cap,rfl,sm⟩
   ·exact .inl ⟨C,a,0,rfl⟩
 ·obtain⟨u,H,I,h1,j,_⟩:=M.bind_some B
  obtain⟨q,_,_⟩:=M.get_some h1
  cases u with
  |var _=>exact fE s.boxes j
  |dead=>exact fE s.boxes j
  |map _ _ _=>exact fE s.boxes j
  |nest _ _ _ _ _=>exact fE s.boxes j
  |hole _ _ _ _ _ _=>exact fE s.boxes j
  |arr v2 e2 y=>
   by_cases f:l=v2
   rotate_left
   ·simp only [f,if_false]at j;exact fE s.boxes j
   simp only [f,if_true]at j
   obtain⟨z, -,F⟩:=M.pq (b:=s.boxes) j
   subst f
   cases z
   obtain⟨J,K⟩:=of_decide_eq_true F.symm
   obtain⟨sz,xs,hdr,k,p,how,hf,_,G⟩:=h.wV q E
   refine⟨sz,xs,hdr,q,k,p,how,hf,za,?_⟩
   rcases G with⟨rfl,a,rfl⟩|⟨g,n,c,rfl,_,_,rfl⟩
   ·exact .inl ⟨za,a,0,rfl⟩
   ·exact .inr ⟨g,n,c,_,rfl,rfl⟩
theorem Aq{t e:TypeId}(h:qc P t=some e):P.underlying t=some (.slice e):=by
 unfold qc at h
 split at h
 ·rename_i a;cases h;exact a
 ·cases h
theorem Am(h:Sim P X S loc s tm w){t t' ty:TypeId}{x y v:RV}{u:Ups}{r:List Nat}{vx vy:Value}(f:vV P t x y s.boxes=some ((v,u),r,true))(hx:R S loc x vx)(hy:R S loc y vy):
  ∃v' w' S' loc',(DL #[t,t'] ty #[vx,vy]).run P w= .ok v' w'∧Sim P X S' loc' (s.ups u) tm w'∧R S' loc' v v':=by
 unfold vV at f
 rcases he:qc P t with _|e
 ·simp only [he]at f;exact fE s.boxes f
 simp only [he]at f
 have hu:=Aq he
 rcases hk:szT P e with _|_|k
 ·simp only [hk]at f;exact fE s.boxes f
 ·simp only [hk]at f;exact fE s.boxes f
 simp only [hk]at f
 obtain⟨⟨id,ver,e',es,off,m⟩,r1,r2,h1,T,_⟩:=M.bind_some f
 obtain⟨ys,r3,r4,h3,W,_⟩:=M.bind_some T
 obtain⟨h5, -,Y⟩:=M.pq (b:=s.boxes) W
 cases h5
 clear f T W
 simp only [Bool.true_eq,Bool.and_eq_true,decide_eq_true_eq,List.all_eq_true,beq_iff_eq]at Y
 obtain⟨rfl,Q⟩:=Y
 obtain⟨sz,xs,hdr,hb,E,H,how,hf,hle,hd⟩:=dst_at h h1 hx
 rw [hk]at H
 cases H
 obtain⟨a,c,news,rfl,F,K,q⟩:=qm h h3 hy (DJ k) Q
 obtain⟨i,hi,C⟩:∃i,P.info? e=some i∧i.size=k+1:=by
  unfold szT at hk
  cases hq:P.info? e with
  |none=>simp [hq]at hk
  |some i=>exact⟨i,rfl,by simpa [hq]using hk⟩
 by_cases hm:DI ys.length m=0
 ·have O:(s.ups [(id,.arr ver e (es.take off++ys.take (DI ys.length m)++es.drop (off+DI ys.length m)))])=s:=by
   have e1:es.take off++ys.take (DI ys.length m)++es.drop (off+DI ys.length m)=es:=by rw [hm];simp
   rw [e1]
   show({ s with boxes:=upd s.boxes id (.arr ver e es) }:St)=s
   rw [AO hb]
  refine⟨goInt 0,w,S,loc,?_,by rw [O];exact h,by rw [hm];exact .d (.int _ _)⟩
  have B:(Cu i.size 0 (.slice a ys.length c)).run P w= .ok #[] w:=by
   cases a<;>simp [Cu,loadCells,loadCellsFrom]
  rcases hd with⟨rfl,ad,cc,rfl⟩|⟨g,n,c',cc,_,rfl⟩
  ·cases ad<;>simp [DL,run_underlying hu,Cv,sizeOf,typeInfo,hi,B,storeCells]
  ·have L:min ys.length m=0:=hm
   simp [DL,run_underlying hu,Cv,sizeOf,typeInfo,hi,B,storeCells,L]
 ·have N:0<DI ys.length m:=Nat.pos_of_ne_zero hm
  have l:DI ys.length m<=ys.length:=Nat.min_le_left _ _
  have a5:DI ys.length m<=m:=Nat.min_le_right _ _
  rcases hd with⟨rfl,_⟩|⟨g,n,c',cc,hh,rfl⟩
  ·omega
  obtain⟨ad,rfl,J⟩:=q (by intro e0;apply hm;rw [e0];exact Nat.zero_min _)
  have z:(ys.take (DI ys.length m)).length=DI ys.length m:=by rw [Cp];exact Ck l
  obtain⟨w',G,p⟩:=h.AP (off:=off) E hk how hf (K.take (DI ys.length m)) (by rw [Cp,z,F];exact Ck (C1 _ l)) (by rw [z];omega) hh za
  rw [z]at p
  have D := run_firstCells_some (P := P) w (k + 1) (DI ys.length m) ad ys.length c (news.take (DI ys.length m * (k + 1))) (by rw [Cp, F]; exact Ck (C1 _ l)) (fun j v I => by
   rw [CB]at I
   split at I
   ·exact J j v I
   ·cases I)
  refine⟨_,w',S,_,?_,p,.d (.int _ _)⟩
  simp only [C]at D⊢
  simp [DL,run_underlying hu,Cv,sizeOf,typeInfo,hi,C,D,G]
  rfl
theorem xi{v:Value}{p:PD}(h:wX v=some p):V S p v∧p.one=true∧v.cells= #[v]∧v.oneCell'=true:=by
 unfold wX at h
 unfold rE at h
 split at h
 ·rename_i q a
  cases h
  split at a<;>cases a
  ·exact⟨.bool _,rfl,rfl,rfl⟩
  ·exact⟨.int _ _,rfl,rfl,rfl⟩
  ·exact⟨.str _,rfl,rfl,rfl⟩
  all_goals exact⟨.raw _ rfl,rfl,rfl,rfl⟩
 ·rename_i a
  cases h
  split at a<;>cases a
  exact⟨.nil _ _,rfl,rfl,rfl⟩
 ·cases h
theorem xj:∀{vs:List Value}{a:List PD},vT vs=some a->a.length=vs.length∧∀(i:Nat)p v,a[i]? =some p->vs[i]? =some v->V S p v∧p.one=true∧v.oneCell'=true
 | [],a,h=>by cases h;exact⟨rfl,fun i p v h1=>by simp at h1⟩
 |v::r,a,h=>by
  unfold vT at h
  split at h
  ·rename_i p l h1 f
   cases h
   obtain⟨i1,i2⟩:=xj f
   obtain⟨g,j,_,k⟩:=xi (S:=S) h1
   refine⟨by simp [i1],fun i q u c hu=>?_⟩
   cases i with
   |zero=>simp at c hu;subst c;subst hu;exact⟨g,j,k⟩
   |succ i=>exact i2 i q u (by simpa using c) (by simpa using hu)
  ·cases h
theorem yL{v:Value}{p:PD}(h:qt v=some p):v.cells.size=p.cells.length∧∀(i:Nat)q u,p.cells[i]? =some q->v.cells[i]? =some u->V S q u∧u.oneCell'=true:=by
 have one:wX v=some p->v.cells.size=p.cells.length∧∀(i:Nat)q u,p.cells[i]? =some q->v.cells[i]? =some u->V S q u∧u.oneCell'=true:=fun h=>by
  obtain⟨h1,f,g,j⟩:=xi (S:=S) h
  have hc:p.cells=[p]:=by cases p<;>first|rfl|simp [PD.one]at f
  rw [hc,g]
  refine⟨rfl,fun i q u a hu=>?_⟩
  cases i with
  |zero=>simp at a hu;subst a;subst hu;exact⟨h1,j⟩
  |succ i=>simp at a
 unfold qt at h
 split at h
 ·rename_i cs
  cases c:vT cs.toList with
  |none=>simp [c]at h
  |some l=>
   simp only [c,Option.map_some,Option.some.injEq]at h
   subst h
   obtain⟨i1,i2⟩:=xj (S:=S) c
   refine⟨by simp [Value.cells,PD.cells,i1],fun i q u a hu=>?_⟩
   obtain⟨k,_,k3⟩:=i2 i q u a (by simpa [Value.cells]using hu)
   exact⟨k,k3⟩
 ·exact one h
theorem rk{z:Value}{p:PD}(h:qt z=some p){k:Nat}(hk:p.cells.length=k+1)(n:Nat):Flat S (k+1) (B5 n p) (Cw z.cells n).toList∧(Cw z.cells n).toList.length=n*(k+1):=by
 obtain⟨h1,y⟩:=yL (S:=S) h
 have hs:z.cells.size=k+1:=by omega
 have c:∀(q:Nat)u,(Cw z.cells n).toList[q]? =some u->q<n*(k+1)∧z.cells[q%(k+1)]? =some u:=by
  intro q u l
  simp only [Cw,hs,Array.toList_map,Array.toList_range,List.getElem?_map,Option.map_eq_some_iff]at l
  obtain⟨D,t,rfl⟩:=l
  obtain⟨a,he⟩:=List.getElem?_eq_some_iff.1 t
  simp at a he
  subst he
  have hm:q%(k+1)<z.cells.size:=by rw [hs];exact Ca _ (DJ k)
  exact⟨a,by rw [Array.getElem?_eq_getElem hm,getElem!_pos z.cells _ hm]⟩
 have hlen:(Cw z.cells n).toList.length=n*(k+1):=by simp [Cw,hs]
 refine⟨⟨fun e he=>by rw [List.eq_of_mem_replicate he];exact hk,fun u hu=>?_,fun i e j x hi B=>?_⟩,hlen⟩
 ·obtain⟨q,l,rfl⟩:=List.getElem_of_mem hu
  obtain⟨_,g⟩:=c q _ (zd l)
  have hm:q%(k+1)<p.cells.length:=by rw [hk];exact Ca _ (DJ k)
  exact(y _ _ _ (zd hm) g).2
 ·rw [List.getElem?_replicate]at hi
  by_cases a:i<n
  rotate_left
  ·rw [if_neg a]at hi;cases hi
  rw [if_pos a]at hi
  cases hi
  have r:j<k+1:=by rw [<-hk];exact(List.getElem?_eq_some_iff.1 B).1
  have hm:(i+1)*(k+1)<=n*(k+1):=C1 _ a
  rw [CZ,C2]at hm
  have f:i*(k+1)+j<(Cw z.cells n).toList.length:=by rw [hlen];omega
  obtain⟨_,g⟩:=c _ _ (zd f)
  refine⟨_,zd f,?_⟩
  have C:(i*(k+1)+j)%(k+1)=j:=by rw [Nat.mul_comm,Nat.mul_add_mod];exact Nat.mod_eq_of_lt r
  rw [C]at g
  exact(y j x _ B g).1
theorem zt(h:Sim P X S loc s tm w){t ty:TypeId}{x v:RV}{u:Ups}{r:List Nat}{K:Value}(a:tU P t x s.boxes=some ((v,u),r,true))(W:R S loc x K):
  ∃v' w' S' loc',(DK #[t] ty #[K]).run P w= .ok v' w'∧Sim P X S' loc' (s.ups u) tm w'∧R S' loc' v v':=by
 unfold tU at a
 rcases he:qc P t with _|e
 ·simp only [he]at a;exact fE s.boxes a
 simp only [he]at a
 have hu:=qo he
 rcases hk:szT P e with _|_|k
 ·simp only [hk]at a;exact fE s.boxes a
 ·simp only [hk]at a;exact fE s.boxes a
 rcases D:(pZ P e).bind qt with _|z
 ·simp only [hk,D]at a;exact fE s.boxes a
 simp only [hk,D]at a
 obtain⟨⟨id,ver,e',es,off,m⟩,r1,r2,h1,H,_⟩:=M.bind_some a
 obtain⟨O, -,I⟩:=M.pq (b:=s.boxes) H
 cases O
 clear a H
 simp only [Bool.true_eq,Bool.and_eq_true,decide_eq_true_eq,beq_iff_eq]at I
 obtain⟨rfl,G⟩:=I
 obtain⟨zv,E,F⟩:=Option.bind_eq_some_iff.1 D
 obtain⟨i,hi,B⟩:=qN E
 obtain⟨sz,xs,hdr,Q,j,p,how,hf,hle,J⟩:=dst_at h h1 W
 rw [hk]at p
 cases p
 obtain⟨q,y⟩:=rk (S:=S) F G m
 by_cases hm:m=0
 ·subst hm
  have C:(s.ups [(id,.arr ver e (es.take off++B5 0 z++es.drop (off+0)))])=s:=by
   have N:es.take off++B5 0 z++es.drop (off+0)=es:=by simp
   rw [N]
   show({ s with boxes:=upd s.boxes id (.arr ver e es) }:St)=s
   rw [AO Q]
  refine⟨.tuple #[],w,S,loc,?_,by rw [C];exact h,.tup [] #[] rfl (fun i c v h1=>by simp at h1)⟩
  rcases J with⟨_,ad,cc,rfl⟩|⟨g,n,L,cc,_,rfl⟩
  ·cases ad<;>simp [DK,run_underlying hu]
  ·simp [DK,run_underlying hu]
 ·rcases J with⟨rfl,_⟩|⟨g,n,L,cc,T,rfl⟩
  ·exact(hm rfl).elim
  obtain⟨w',l,f⟩:=h.AP (off:=off) j hk how hf q (by rw [y,DH]) (by rw [DH];omega) T (by rw [DH];omega)
  rw [DH]at f
  refine⟨.tuple #[],w',S,_,?_,f,.tup [] #[] rfl (fun i c v h1=>by simp at h1)⟩
  obtain⟨m,rfl⟩:∃Y,m=Y+1:=⟨m-1,za⟩
  simp [DK,run_underlying hu,zeroValue,typeInfo,hi,B,l]
theorem Bz:∀{l:List RV}{vs:List Value}{k:IntKind}{n m:Int},minL n l=some m->l.length=vs.length->(∀(i:Nat)a v,l[i]? =some a->vs[i]? =some v->R S loc a v)->
  (vs.foldlM DN (Value.int k n)).run P w= .ok (.int k m) w
 | [],[],k,n,m,h,_,_=>by cases h;rfl
 | [],_::_,_,_,_,_,c,_=>by simp at c
 |_::_,[],_,_,_,_,c,_=>by simp at c
 |x::l,v::vs,k,n,m,h,c,f=>by
  rcases x with p|_|_|_|_|_|_|_|_|_|_|_|_<;>first|(simp [minL]at h;done)|skip
  cases p<;>first|(simp [minL]at h;done)|skip
  rename_i k' g
  have e:=(f 0 _ v rfl rfl).pU
  subst e
  have j:minL (if g<n then g else n) l=some m:=h
  have r:=Bz (k:=k) (vs:=vs) j (by simpa using c) (fun i a u h1 q=>f (i+1) a u (by simpa using h1) (by simpa using q))
  simp only [DG,DN,pure_bind]
  exact r
theorem By:∀{l:List RV}{vs:List Value}{k:IntKind}{n m:Int},maxL n l=some m->l.length=vs.length->(∀(i:Nat)a v,l[i]? =some a->vs[i]? =some v->R S loc a v)->
  (vs.foldlM DM (Value.int k n)).run P w= .ok (.int k m) w
 | [],[],k,n,m,h,_,_=>by cases h;rfl
 | [],_::_,_,_,_,_,c,_=>by simp at c
 |_::_,[],_,_,_,_,c,_=>by simp at c
 |x::l,v::vs,k,n,m,h,c,f=>by
  rcases x with p|_|_|_|_|_|_|_|_|_|_|_|_<;>first|(simp [maxL]at h;done)|skip
  cases p<;>first|(simp [maxL]at h;done)|skip
  rename_i k' g
  have e:=(f 0 _ v rfl rfl).pU
  subst e
  have j:maxL (if g>n then g else n) l=some m:=h
  have r:=By (k:=k) (vs:=vs) j (by simpa using c) (fun i a u h1 q=>f (i+1) a u (by simpa using h1) (by simpa using q))
  simp only [DG,DM,pure_bind]
  exact r
theorem Bg{l:List RV}{vs:Array Value}{v:RV}{u:Ups}{r:List Nat}{b:pP}{ts:Array TypeId}{ty:TypeId}(c:minD l b=some ((v,u),r,true))(hlen:l.length=vs.size)(f:∀(i:Nat)a v,l[i]? =some a->vs[i]? =some v->R S loc a v):
  ∃v',(Builtin.min_ ts ty vs).run P w= .ok v' w∧R S loc v v'∧u=[]:=by
 obtain⟨vs⟩:=vs
 rcases l with _|⟨x,l⟩
 ·exact fE b c
 rcases vs with _|⟨y,vs⟩
 ·simp at hlen
 rcases x with p|_|_|_|_|_|_|_|_|_|_|_|_<;>first|exact fE b c|skip
 cases p<;>first|exact fE b c|skip
 rename_i k n
 simp only [minD]at c
 rcases hm:minL n l with _|m
 ·simp only [hm]at c;exact fE b c
 simp only [hm]at c
 obtain⟨h1, -, -⟩:=M.pj (b:=b) c
 cases h1
 have e:=(f 0 _ y rfl rfl).pU
 subst e
 refine⟨.int k m,?_,.d (.int _ _),rfl⟩
 exact Bz hm (by simpa using hlen) (fun i a u h1 g=>f (i+1) a u (by simpa using h1) (by simpa using g))
theorem Bf{l:List RV}{vs:Array Value}{v:RV}{u:Ups}{r:List Nat}{b:pP}{ts:Array TypeId}{ty:TypeId}(c:maxD l b=some ((v,u),r,true))(hlen:l.length=vs.size)(f:∀(i:Nat)a v,l[i]? =some a->vs[i]? =some v->R S loc a v):
  ∃v',(Builtin.max_ ts ty vs).run P w= .ok v' w∧R S loc v v'∧u=[]:=by
 obtain⟨vs⟩:=vs
 rcases l with _|⟨x,l⟩
 ·exact fE b c
 rcases vs with _|⟨y,vs⟩
 ·simp at hlen
 rcases x with p|_|_|_|_|_|_|_|_|_|_|_|_<;>first|exact fE b c|skip
 cases p<;>first|exact fE b c|skip
 rename_i k n
 simp only [maxD]at c
 rcases hm:maxL n l with _|m
 ·simp only [hm]at c;exact fE b c
 simp only [hm]at c
 obtain⟨h1, -, -⟩:=M.pj (b:=b) c
 cases h1
 have e:=(f 0 _ y rfl rfl).pU
 subst e
 refine⟨.int k m,?_,.d (.int _ _),rfl⟩
 exact By hm (by simpa using hlen) (fun i a u h1 g=>f (i+1) a u (by simpa using h1) (by simpa using g))
end
end Go.Dw
