
import Derived.Test.YtomapcboiinfdaaGreatDwGrow
open List renaming foldlM_cons->BL, getElem?_drop->AG, getElem?_take->AH, length_append->BE, length_drop->Ar, length_replicate->BM, length_take->As, mem_of_mem_drop->Au, mem_of_mem_take->Av, replicate->AA
open Nat renaming add_mul->A2, min->BN, min_eq_left->Am, mod_lt->Ab, mul_le_mul_right->A3, one_mul->A4, succ_pos->BO
open Go.Builtin renaming clear_->BP, copy_->BQ, firstCells->Ay, lenOf->Az, max2->BR, min2->BS, zeroCells->BA

namespace Go.Dw
section
variable {P:Program}{X:Ctx}{S:mW}{loc:nB}{s:St}{tm:Array Value}{w:World}
theorem yb{α:Type}{f:Nat->Option α}{id:Nat}{x:α}(h:f id=some x):upd f id x=f:=by
 funext i
 by_cases hi:i=id
 ·subst hi;rw [mU,h]
 ·exact nE _ _ hi
theorem Flat.take{sz:Nat}{es:List PD}{xs:List Value}(h:Flat S sz es xs)(n:Nat):Flat S sz (es.take n) (xs.take (n*sz)):=by
 refine⟨fun e he=>h.len e (Av he),fun u hu=>h.one u (Av hu),fun i e j x hi b=>?_⟩
 rw [AH]at hi
 split at hi
 ·rename_i a
  obtain⟨u,hu,f⟩:=h.cell i e j x hi b
  have c:j<sz:=by rw [<-h.len e (List.mem_of_getElem? hi)];exact(List.getElem?_eq_some_iff.1 b).1
  have hm:(i+1)*sz<=n*sz:=A3 _ a
  rw [A2,A4]at hm
  exact⟨u,by rw [AH,if_pos om];exact hu,f⟩
 ·cases hi
theorem Flat.drop{sz:Nat}{es:List PD}{xs:List Value}(h:Flat S sz es xs)(n:Nat):Flat S sz (es.drop n) (xs.drop (n*sz)):=by
 refine⟨fun e he=>h.len e (Au he),fun u hu=>h.one u (Au hu),fun i e j x hi a=>?_⟩
 rw [AG]at hi
 obtain⟨u,hu,b⟩:=h.cell (n+i) e j x hi a
 refine⟨u,?_,b⟩
 rw [AG, <-hu,A2]
 congr 1
 omega
theorem Sim.yc(h:Sim P X S loc s tm w){id ver sz:Nat}{e:TypeId}{es b:List PD}{xs news:List Value}{hdr:Value}(a:loc id=some (.arr ver e sz hdr))(v:szT P e=some sz)
  (how:rowAt w e sz hdr es.length xs) (hf:Flat S sz es xs) (B:Flat S sz b news) (f:news.length=b.length*sz) {off:Nat} (hle:off+b.length<=es.length) {g n c:Nat} (u:hdr= .slice (some ⟨g,0,none⟩) n c) (z:0<b.length):
  ∃w',(storeCells ⟨g,off*sz,none⟩ news).run P w= .ok () w'∧Sim P X S (upd loc id (.arr ver e sz hdr)) { s with boxes:=upd s.boxes id (.arr ver e (es.take off++b++es.drop (off+b.length))) } tm w':=by
 have how:=how.qN om
 rcases how.2 with⟨he,_⟩|⟨E,cap,cur,D,he,l,y,m,t,j,i⟩
 ·rw [u]at he;cases he
 rw [u]at he
 cases he
 have p:xs.length=es.length*sz:=how.1
 have x:es.length*sz<=cur.size:=by
  rw [j];exact A3 _ m
 have hm:off*sz+news.length<=es.length*sz:=by rw [f, <-A2];exact A3 _ hle
 obtain⟨c,rfl⟩:∃C,c=C+1:=⟨c-1,om⟩
 have o:=pa P g (off*sz) e D cur.size (l.free j) news 0 cur w rfl y om B.one
 refine⟨_,o,?_⟩
 subst u
 refine h.nH (Step.setRow w g _) id _ _ (fun b' r=>by cases r;exact⟨_,a,rfl⟩) ?_ (fun b' q=>by cases q;exact .inl ⟨_,a,rfl⟩) (by rw [a];exact .same _)
 have hlen:(es.take off++b++es.drop (off+b.length)).length=es.length:=by
  simp only [BE,As,Ar];omega
 refine .arr ver e _ sz _ (xs.take (off*sz)++news++xs.drop ((off+b.length)*sz)) v ?_ ?_
 ·rw [hlen]
  refine .inl ⟨?_,.inr ⟨g,c+1,_,_,rfl,l,setRow_heap w g cur _ e _ y,m,t,?_,?_⟩⟩
  ·simp only [BE,As,Ar,p,A2];omega
  ·simp only [List.size_toArray,BE,As,Ar,Array.length_toList];omega
  ·rw [<-i]
   apply List.ext_getElem?
   intro k
   have e2:(off+b.length)*sz=off*sz+news.length:=by rw [A2,f]
   rw [e2,Nat.add_zero,AH,ow _ _ _ _ _ rfl so]
   rw [ow _ _ _ _ _ rfl so]
   rw [AH]
   by_cases hk:k<es.length*sz
   ·rw [if_pos hk,if_pos hk]
   ·rw [if_neg hk,if_neg om,if_neg hk]
 ·refine Flat.append (Flat.append (hf.take off) ?_ B) ?_ (hf.drop _)
  ·rw [As,As,p]
   rw [Am (by have:=A3 sz (show off<=es.length by omega);omega),Am om]
  ·have:(xs.take (off*sz)).length=off*sz:=by rw [As,Am om]
   rw [BE,this,f,BE,As,Am om,A2]
theorem dst_at(h:Sim P X S loc s tm w){x:RV}{p:Value}{id ver off m:Nat}{e:TypeId}{es:List PD}{r:List Nat}(v:tN x s.boxes=some ((id,ver,e,es,off,m),r,true))(B:R S loc x p):
  ∃sz xs hdr,s.boxes id=some (.arr ver e es)∧loc id=some (.arr ver e sz hdr)∧szT P e=some sz∧rowAt w e sz hdr es.length xs∧Flat S sz es xs∧off+m<=es.length∧
   ((m=0∧∃ad c,p= .slice ad 0 c)∨∃g n c C,hdr= .slice (some ⟨g,0,none⟩) n c∧p= .slice (some ⟨g,off*sz,none⟩) m C):=by
 rcases x with _|_|_|_|_|_|⟨z,k⟩|_|_|_|⟨z,k,lo,hi⟩|_|_<;>first|exact fE s.boxes v|skip
 ·obtain⟨q,F,G,h1,i,_⟩:=M.bind_some v
  obtain⟨o,_,_⟩:=M.get_some h1
  cases q with
  |var _=>exact fE s.boxes i
  |dead=>exact fE s.boxes i
  |map _ _ _=>exact fE s.boxes i
  |nest _ _ _ _ _=>exact fE s.boxes i
  |hole _ _ _ _ _ _=>exact fE s.boxes i
  |arr v2 e2 t=>
   by_cases f:k=v2
   rotate_left
   ·simp only [f,if_false]at i;exact fE s.boxes i
   simp only [f,if_true]at i
   obtain⟨u, -, -⟩:=M.mJ (b:=s.boxes) i
   subst f
   cases u
   obtain⟨sz,xs,j,l,how,hf⟩:=h.qu o B
   refine⟨sz,xs,p,o,j,l,how,hf,om,?_⟩
   rcases how with⟨_,⟨rfl,y⟩|⟨g,cap,cur,_,rfl,_⟩⟩|⟨y,_,a,rfl⟩
   ·exact .inl ⟨y,none,0,rfl⟩
   ·exact .inr ⟨g,es.length,cap,cap,rfl,sm⟩
   ·exact .inl ⟨y,a,0,rfl⟩
 ·obtain⟨q,F,G,h1,i,_⟩:=M.bind_some v
  obtain⟨o,_,_⟩:=M.get_some h1
  cases q with
  |var _=>exact fE s.boxes i
  |dead=>exact fE s.boxes i
  |map _ _ _=>exact fE s.boxes i
  |nest _ _ _ _ _=>exact fE s.boxes i
  |hole _ _ _ _ _ _=>exact fE s.boxes i
  |arr v2 e2 t=>
   by_cases f:k=v2
   rotate_left
   ·simp only [f,if_false]at i;exact fE s.boxes i
   simp only [f,if_true]at i
   obtain⟨u, -,D⟩:=M.mP (b:=s.boxes) i
   subst f
   cases u
   obtain⟨H,I⟩:=of_decide_eq_true D.symm
   obtain⟨sz,xs,hdr,j,l,how,hf,_,E⟩:=h.tZ o B
   refine⟨sz,xs,hdr,o,j,l,how,hf,om,?_⟩
   rcases E with⟨rfl,a,rfl⟩|⟨g,n,c,rfl,_,_,rfl⟩
   ·exact .inl ⟨om,a,0,rfl⟩
   ·exact .inr ⟨g,n,c,_,rfl,rfl⟩
theorem xE{t e:TypeId}(h:od P t=some e):P.underlying t=some (.slice e):=by
 unfold od at h
 split at h
 ·rename_i a;cases h;exact a
 ·cases h
theorem xz(h:Sim P X S loc s tm w){t t' ty:TypeId}{x y v:RV}{u:Ups}{r:List Nat}{vx vy:Value}(l:sQ P t x y s.boxes=some ((v,u),r,true))(hx:R S loc x vx)(hy:R S loc y vy):
  ∃v' w' S' loc',(BQ #[t,t'] ty #[vx,vy]).run P w= .ok v' w'∧Sim P X S' loc' (s.ups u) tm w'∧R S' loc' v v':=by
 unfold sQ at l
 rcases he:od P t with _|e
 ·simp only [he]at l;exact fE s.boxes l
 simp only [he]at l
 have hu:=xE he
 rcases hk:szT P e with _|_|k
 ·simp only [hk]at l;exact fE s.boxes l
 ·simp only [hk]at l;exact fE s.boxes l
 simp only [hk]at l
 obtain⟨⟨id,ver,e',es,off,m⟩,r1,r2,h1,W,_⟩:=M.bind_some l
 obtain⟨f,r3,r4,h3,Y,_⟩:=M.bind_some W
 obtain⟨h5, -,h6⟩:=M.mP (b:=s.boxes) Y
 cases h5
 clear l W Y
 simp only [Bool.true_eq,Bool.and_eq_true,decide_eq_true_eq,List.all_eq_true,beq_iff_eq]at h6
 obtain⟨rfl,Q⟩:=h6
 obtain⟨sz,xs,hdr,hb,E,H,how,hf,hle,hd⟩:=dst_at h h1 hx
 rw [hk]at H
 cases H
 obtain⟨a,c,news,rfl,F,K,q⟩:=nP h h3 hy (BO k) Q
 obtain⟨i,hi,C⟩:∃i,P.info? e=some i∧i.size=k+1:=by
  unfold szT at hk
  cases hq:P.info? e with
  |none=>simp [hq]at hk
  |some i=>exact⟨i,rfl,by simpa [hq]using hk⟩
 by_cases hm:BN f.length m=0
 ·have O:(s.ups [(id,.arr ver e (es.take off++f.take (BN f.length m)++es.drop (off+BN f.length m)))])=s:=by
   have e1:es.take off++f.take (BN f.length m)++es.drop (off+BN f.length m)=es:=by rw [hm];simp
   rw [e1]
   show({ s with boxes:=upd s.boxes id (.arr ver e es) }:St)=s
   rw [yb hb]
  refine⟨goInt 0,w,S,loc,?_,by rw [O];exact h,by rw [hm];exact .d (.int _ _)⟩
  have B:(Ay i.size 0 (.slice a f.length c)).run P w= .ok #[] w:=by
   cases a<;>simp [Ay,loadCells,loadCellsFrom]
  rcases hd with⟨rfl,ad,T,rfl⟩|⟨g,n,c',T,_,rfl⟩
  ·cases ad<;>simp [BQ,run_underlying hu,Az,sizeOf,typeInfo,hi,B,storeCells]
  ·have L:min f.length m=0:=hm
   simp [BQ,run_underlying hu,Az,sizeOf,typeInfo,hi,B,storeCells,L]
 ·have N:0<BN f.length m:=Nat.pos_of_ne_zero hm
  have o:BN f.length m<=f.length:=Nat.min_le_left _ _
  have a5:BN f.length m<=m:=Nat.min_le_right _ _
  rcases hd with⟨rfl,_⟩|⟨g,n,c',T,hh,rfl⟩
  ·omega
  obtain⟨ad,rfl,J⟩:=q (by intro e0;apply hm;rw [e0];exact Nat.zero_min _)
  have z:(f.take (BN f.length m)).length=BN f.length m:=by rw [As];exact Am o
  obtain⟨w',G,p⟩:=h.yc (off:=off) E hk how hf (K.take (BN f.length m)) (by rw [As,z,F];exact Am (A3 _ o)) (by rw [z];omega) hh om
  rw [z]at p
  have D := run_firstCells_some (P := P) w (k + 1) (BN f.length m) ad f.length c (news.take (BN f.length m * (k + 1))) (by rw [As, F]; exact Am (A3 _ o)) (fun j v I => by
   rw [AH]at I
   split at I
   ·exact J j v I
   ·cases I)
  refine⟨_,w',S,_,?_,p,.d (.int _ _)⟩
  simp only [C]at D⊢
  simp [BQ,run_underlying hu,Az,sizeOf,typeInfo,hi,C,D,G]
  rfl
theorem uz{v:Value}{p:PD}(h:ub v=some p):V S p v∧p.one=true∧v.cells= #[v]∧v.oneCell'=true:=by
 unfold ub at h
 unfold oL at h
 split at h
 ·rename_i q a
  cases h
  split at a<;>cases a
  ·exact⟨.bool _,rfl,rfl,rfl⟩
  ·exact⟨.int _ _,rfl,rfl,rfl⟩
  ·exact⟨.str _,rfl,rfl,rfl⟩
  all_goals exact⟨.raw _ rfl,rfl,rfl,rfl⟩
 ·rename_i a
  cases h
  split at a<;>cases a
  exact⟨.nil _ _,rfl,rfl,rfl⟩
 ·cases h
theorem uA:∀{vs:List Value}{a:List PD},sw vs=some a->a.length=vs.length∧∀(i:Nat)p v,a[i]? =some p->vs[i]? =some v->V S p v∧p.one=true∧v.oneCell'=true
 | [],a,h=>by cases h;exact⟨rfl,fun i p v h1=>by simp at h1⟩
 |v::r,a,h=>by
  unfold sw at h
  split at h
  ·rename_i p l h1 c
   cases h
   obtain⟨i1,i2⟩:=uA c
   obtain⟨e,f,_,g⟩:=uz (S:=S) h1
   refine⟨by simp [i1],fun i q u b hu=>?_⟩
   cases i with
   |zero=>simp at b hu;subst b;subst hu;exact⟨e,f,g⟩
   |succ i=>exact i2 i q u (by simpa using b) (by simpa using hu)
  ·cases h
theorem wi{v:Value}{p:PD}(h:oB v=some p):v.cells.size=p.cells.length∧∀(i:Nat)q u,p.cells[i]? =some q->v.cells[i]? =some u->V S q u∧u.oneCell'=true:=by
 have one:ub v=some p->v.cells.size=p.cells.length∧∀(i:Nat)q u,p.cells[i]? =some q->v.cells[i]? =some u->V S q u∧u.oneCell'=true:=fun h=>by
  obtain⟨h1,c,e,f⟩:=uz (S:=S) h
  have g:p.cells=[p]:=by cases p<;>first|rfl|simp [PD.one]at c
  rw [g,e]
  refine⟨rfl,fun i q u a hu=>?_⟩
  cases i with
  |zero=>simp at a hu;subst a;subst hu;exact⟨h1,f⟩
  |succ i=>simp at a
 unfold oB at h
 split at h
 ·rename_i cs
  cases b:sw cs.toList with
  |none=>simp [b]at h
  |some k=>
   simp only [b,Option.map_some,Option.some.injEq]at h
   subst h
   obtain⟨i1,i2⟩:=uA (S:=S) b
   refine⟨by simp [Value.cells,PD.cells,i1],fun i q u a hu=>?_⟩
   obtain⟨j,_,k3⟩:=i2 i q u a (by simpa [Value.cells]using hu)
   exact⟨j,k3⟩
 ·exact one h
theorem oA{z:Value}{p:PD}(h:oB z=some p){k:Nat}(hk:p.cells.length=k+1)(n:Nat):Flat S (k+1) (AA n p) (BA z.cells n).toList∧(BA z.cells n).toList.length=n*(k+1):=by
 obtain⟨h1,r⟩:=wi (S:=S) h
 have o:z.cells.size=k+1:=by omega
 have b:∀(q:Nat)u,(BA z.cells n).toList[q]? =some u->q<n*(k+1)∧z.cells[q%(k+1)]? =some u:=by
  intro q u g
  simp only [BA,o,Array.toList_map,Array.toList_range,List.getElem?_map,Option.map_eq_some_iff]at g
  obtain⟨y,m,rfl⟩:=g
  obtain⟨a,he⟩:=List.getElem?_eq_some_iff.1 m
  simp at a he
  subst he
  have hm:q%(k+1)<z.cells.size:=by rw [o];exact Ab _ (BO k)
  exact⟨a,by rw [Array.getElem?_eq_getElem hm,getElem!_pos z.cells _ hm]⟩
 have hlen:(BA z.cells n).toList.length=n*(k+1):=by simp [BA,o]
 refine⟨⟨fun e he=>by rw [List.eq_of_mem_replicate he];exact hk,fun u hu=>?_,fun i e j x hi t=>?_⟩,hlen⟩
 ·obtain⟨q,g,rfl⟩:=List.getElem_of_mem hu
  obtain⟨_,f⟩:=b q _ (zc g)
  have hm:q%(k+1)<p.cells.length:=by rw [hk];exact Ab _ (BO k)
  exact(r _ _ _ (zc hm) f).2
 ·rw [List.getElem?_replicate]at hi
  by_cases a:i<n
  rotate_left
  ·rw [if_neg a]at hi;cases hi
  rw [if_pos a]at hi
  cases hi
  have l:j<k+1:=by rw [<-hk];exact(List.getElem?_eq_some_iff.1 t).1
  have hm:(i+1)*(k+1)<=n*(k+1):=A3 _ a
  rw [A2,A4]at hm
  have c:i*(k+1)+j<(BA z.cells n).toList.length:=by rw [hlen];omega
  obtain⟨_,f⟩:=b _ _ (zc c)
  refine⟨_,zc c,?_⟩
  have v:(i*(k+1)+j)%(k+1)=j:=by rw [Nat.mul_comm,Nat.mul_add_mod];exact Nat.mod_eq_of_lt l
  rw [v]at f
  exact(r j x _ t f).1
theorem wS(h:Sim P X S loc s tm w){t ty:TypeId}{x v:RV}{u:Ups}{r:List Nat}{K:Value}(a:qv P t x s.boxes=some ((v,u),r,true))(W:R S loc x K):
  ∃v' w' S' loc',(BP #[t] ty #[K]).run P w= .ok v' w'∧Sim P X S' loc' (s.ups u) tm w'∧R S' loc' v v':=by
 unfold qv at a
 rcases he:od P t with _|e
 ·simp only [he]at a;exact fE s.boxes a
 simp only [he]at a
 have hu:=nQ he
 rcases hk:szT P e with _|_|k
 ·simp only [hk]at a;exact fE s.boxes a
 ·simp only [hk]at a;exact fE s.boxes a
 rcases C:(n0 P e).bind oB with _|z
 ·simp only [hk,C]at a;exact fE s.boxes a
 simp only [hk,C]at a
 obtain⟨⟨id,ver,e',es,off,m⟩,r1,r2,h1,H,_⟩:=M.bind_some a
 obtain⟨O, -,I⟩:=M.mP (b:=s.boxes) H
 cases O
 clear a H
 simp only [Bool.true_eq,Bool.and_eq_true,decide_eq_true_eq,beq_iff_eq]at I
 obtain⟨rfl,F⟩:=I
 obtain⟨zv,D,E⟩:=Option.bind_eq_some_iff.1 C
 obtain⟨i,hi,y⟩:=oc D
 obtain⟨sz,xs,hdr,Q,j,o,how,hf,hle,J⟩:=dst_at h h1 W
 rw [hk]at o
 cases o
 obtain⟨p,q⟩:=oA (S:=S) E F m
 by_cases hm:m=0
 ·subst hm
  have B:(s.ups [(id,.arr ver e (es.take off++AA 0 z++es.drop (off+0)))])=s:=by
   have N:es.take off++AA 0 z++es.drop (off+0)=es:=by simp
   rw [N]
   show({ s with boxes:=upd s.boxes id (.arr ver e es) }:St)=s
   rw [yb Q]
  refine⟨.tuple #[],w,S,loc,?_,by rw [B];exact h,.tup [] #[] rfl (fun i c v h1=>by simp at h1)⟩
  rcases J with⟨_,ad,G,rfl⟩|⟨g,n,L,G,_,rfl⟩
  ·cases ad<;>simp [BP,run_underlying hu]
  ·simp [BP,run_underlying hu]
 ·rcases J with⟨rfl,_⟩|⟨g,n,L,G,T,rfl⟩
  ·exact(hm rfl).elim
  obtain⟨w',l,f⟩:=h.yc (off:=off) j hk how hf p (by rw [q,BM]) (by rw [BM];omega) T (by rw [BM];omega)
  rw [BM]at f
  refine⟨.tuple #[],w',S,_,?_,f,.tup [] #[] rfl (fun i c v h1=>by simp at h1)⟩
  obtain⟨m,rfl⟩:∃Y,m=Y+1:=⟨m-1,om⟩
  simp [BP,run_underlying hu,zeroValue,typeInfo,hi,y,l]
theorem yY:∀{l:List RV}{vs:List Value}{k:IntKind}{n m:Int},minL n l=some m->l.length=vs.length->(∀(i:Nat)a v,l[i]? =some a->vs[i]? =some v->R S loc a v)->
  (vs.foldlM BS (Value.int k n)).run P w= .ok (.int k m) w
 | [],[],k,n,m,h,_,_=>by cases h;rfl
 | [],_::_,_,_,_,_,b,_=>by simp at b
 |_::_,[],_,_,_,_,b,_=>by simp at b
 |x::l,v::vs,k,n,m,h,b,c=>by
  rcases x with p|_|_|_|_|_|_|_|_|_|_|_|_<;>first|(simp [minL]at h;done)|skip
  cases p<;>first|(simp [minL]at h;done)|skip
  rename_i k' f
  have e:=(c 0 _ v rfl rfl).np
  subst e
  have g:minL (if f<n then f else n) l=some m:=h
  have o:=yY (k:=k) (vs:=vs) g (by simpa using b) (fun i a u h1 j=>c (i+1) a u (by simpa using h1) (by simpa using j))
  simp only [BL,BS,pure_bind]
  exact o
theorem yX:∀{l:List RV}{vs:List Value}{k:IntKind}{n m:Int},maxL n l=some m->l.length=vs.length->(∀(i:Nat)a v,l[i]? =some a->vs[i]? =some v->R S loc a v)->
  (vs.foldlM BR (Value.int k n)).run P w= .ok (.int k m) w
 | [],[],k,n,m,h,_,_=>by cases h;rfl
 | [],_::_,_,_,_,_,b,_=>by simp at b
 |_::_,[],_,_,_,_,b,_=>by simp at b
 |x::l,v::vs,k,n,m,h,b,c=>by
  rcases x with p|_|_|_|_|_|_|_|_|_|_|_|_<;>first|(simp [maxL]at h;done)|skip
  cases p<;>first|(simp [maxL]at h;done)|skip
  rename_i k' f
  have e:=(c 0 _ v rfl rfl).np
  subst e
  have g:maxL (if f>n then f else n) l=some m:=h
  have o:=yX (k:=k) (vs:=vs) g (by simpa using b) (fun i a u h1 j=>c (i+1) a u (by simpa using h1) (by simpa using j))
  simp only [BL,BR,pure_bind]
  exact o
theorem yE{l:List RV}{vs:Array Value}{v:RV}{u:Ups}{r:List Nat}{b:nn}{ts:Array TypeId}{ty:TypeId}(c:minD l b=some ((v,u),r,true))(hlen:l.length=vs.size)(f:∀(i:Nat)a v,l[i]? =some a->vs[i]? =some v->R S loc a v):
  ∃v',(Builtin.min_ ts ty vs).run P w= .ok v' w∧R S loc v v'∧u=[]:=by
 obtain⟨vs⟩:=vs
 rcases l with _|⟨x,l⟩
 ·exact fE b c
 rcases vs with _|⟨y,vs⟩
 ·simp at hlen
 rcases x with p|_|_|_|_|_|_|_|_|_|_|_|_<;>first|exact fE b c|skip
 cases p<;>first|exact fE b c|skip
 rename_i k n
 simp only [minD]at c
 rcases hm:minL n l with _|m
 ·simp only [hm]at c;exact fE b c
 simp only [hm]at c
 obtain⟨h1, -, -⟩:=M.mJ (b:=b) c
 cases h1
 have e:=(f 0 _ y rfl rfl).np
 subst e
 refine⟨.int k m,?_,.d (.int _ _),rfl⟩
 exact yY hm (by simpa using hlen) (fun i a u h1 g=>f (i+1) a u (by simpa using h1) (by simpa using g))
theorem yD{l:List RV}{vs:Array Value}{v:RV}{u:Ups}{r:List Nat}{b:nn}{ts:Array TypeId}{ty:TypeId}(c:maxD l b=some ((v,u),r,true))(hlen:l.length=vs.size)(f:∀(i:Nat)a v,l[i]? =some a->vs[i]? =some v->R S loc a v):
  ∃v',(Builtin.max_ ts ty vs).run P w= .ok v' w∧R S loc v v'∧u=[]:=by
 obtain⟨vs⟩:=vs
 rcases l with _|⟨x,l⟩
 ·exact fE b c
 rcases vs with _|⟨y,vs⟩
 ·simp at hlen
 rcases x with p|_|_|_|_|_|_|_|_|_|_|_|_<;>first|exact fE b c|skip
 cases p<;>first|exact fE b c|skip
 rename_i k n
 simp only [maxD]at c
 rcases hm:maxL n l with _|m
 ·simp only [hm]at c;exact fE b c
 simp only [hm]at c
 obtain⟨h1, -, -⟩:=M.mJ (b:=b) c
 cases h1
 have e:=(f 0 _ y rfl rfl).np
 subst e
 refine⟨.int k m,?_,.d (.int _ _),rfl⟩
 exact yX hm (by simpa using hlen) (fun i a u h1 g=>f (i+1) a u (by simpa using h1) (by simpa using g))
end
end Go.Dw
