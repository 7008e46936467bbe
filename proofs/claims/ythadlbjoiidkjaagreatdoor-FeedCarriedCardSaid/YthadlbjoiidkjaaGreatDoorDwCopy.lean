
import Derived.Test.YthadlbjoiidkjaaGreatDoorDwGrow

namespace Go.Dw
section
variable {P:Program}{X:Ctx}{S:pR}{loc:qe}{s:St}{tm:Array Value}{w:World}
theorem AE{α:Type}{f:Nat->Option α}{id:Nat}{x:α}(h:f id=some x):upd f id x=f:=by
 funext i
 by_cases hi:i=id
 ·subst hi;rw [pW,h]
 ·exact qJ _ _ hi
theorem Flat.take{sz:Nat}{es:List PD}{xs:List Value}(h:Flat S sz es xs)(n:Nat):Flat S sz (es.take n) (xs.take (n*sz)):=by
 refine⟨fun e he=>h.len e (List.mem_of_mem_take he),fun u hu=>h.one u (List.mem_of_mem_take hu),fun i e j x hi hj=>?_⟩
 rw [List.getElem?_take]at hi
 split at hi
 ·rename_i hin
  obtain⟨u,hu,hv⟩:=h.cell i e j x hi hj
  have hjs:j<sz:=by rw [<-h.len e (List.mem_of_getElem? hi)];exact(List.getElem?_eq_some_iff.1 hj).1
  have hm:(i+1)*sz<=n*sz:=Nat.mul_le_mul_right _ hin
  rw [Nat.add_mul,Nat.one_mul]at hm
  exact⟨u,by rw [List.getElem?_take,if_pos za];exact hu,hv⟩
 ·cases hi
theorem Flat.drop{sz:Nat}{es:List PD}{xs:List Value}(h:Flat S sz es xs)(n:Nat):Flat S sz (es.drop n) (xs.drop (n*sz)):=by
 refine⟨fun e he=>h.len e (List.mem_of_mem_drop he),fun u hu=>h.one u (List.mem_of_mem_drop hu),fun i e j x hi hj=>?_⟩
 rw [List.getElem?_drop]at hi
 obtain⟨u,hu,hv⟩:=h.cell (n+i) e j x hi hj
 refine⟨u,?_,hv⟩
 rw [List.getElem?_drop, <-hu,Nat.add_mul]
 congr 1
 omega
theorem Sim.AG(h:Sim P X S loc s tm w){id ver sz:Nat}{e:TypeId}{es ys:List PD}{xs news:List Value}{hdr:Value}(hloc:loc id=some (.arr ver e sz hdr))(hsz:szT P e=some sz)
  (how:rowAt w e sz hdr es.length xs) (hf:Flat S sz es xs) (hy:Flat S sz ys news) (hnl:news.length=ys.length*sz) {off:Nat} (hle:off+ys.length<=es.length) {g n c:Nat} (hh:hdr= .slice (some ⟨g,0,none⟩) n c) (hpos:0<ys.length):
  ∃w',(storeCells ⟨g,off*sz,none⟩ news).run P w= .ok () w'∧Sim P X S (upd loc id (.arr ver e sz hdr)) { s with boxes:=upd s.boxes id (.arr ver e (es.take off++ys++es.drop (off+ys.length))) } tm w':=by
 have how:=how.xc za
 rcases how.2 with⟨he,_⟩|⟨g',cap,cur,fz,he,hfz,hg,hnc,hcm,hcs,htake⟩
 ·rw [hh]at he;cases he
 rw [hh]at he
 cases he
 have hxl:xs.length=es.length*sz:=how.1
 have hcur:es.length*sz<=cur.size:=by
  rw [hcs];exact Nat.mul_le_mul_right _ hnc
 have hm:off*sz+news.length<=es.length*sz:=by rw [hnl, <-Nat.add_mul];exact Nat.mul_le_mul_right _ hle
 obtain⟨c,rfl⟩:∃c',c=c'+1:=⟨c-1,za⟩
 have hrun:=sg P g (off*sz) e fz cur.size (hfz.free hcs) news 0 cur w rfl hg za hy.one
 refine⟨_,hrun,?_⟩
 subst hh
 refine h.sf (Step.setRow w g _) id _ _ (fun b' hc'=>by cases hc';exact⟨_,hloc,rfl⟩) ?_ (fun b' hb'=>by cases hb';exact .inl ⟨_,hloc,rfl⟩) (by rw [hloc];exact .same _)
 have hlen:(es.take off++ys++es.drop (off+ys.length)).length=es.length:=by
  simp only [List.length_append,List.length_take,List.length_drop];omega
 refine .arr ver e _ sz _ (xs.take (off*sz)++news++xs.drop ((off+ys.length)*sz)) hsz ?_ ?_
 ·rw [hlen]
  refine .inl ⟨?_,.inr ⟨g,c+1,_,_,rfl,hfz,setRow_heap w g cur _ e _ hg,hnc,hcm,?_,?_⟩⟩
  ·simp only [List.length_append,List.length_take,List.length_drop,hxl,Nat.add_mul];omega
  ·simp only [List.size_toArray,List.length_append,List.length_take,List.length_drop,Array.length_toList];omega
  ·rw [<-htake]
   apply List.ext_getElem?
   intro k
   have e2:(off+ys.length)*sz=off*sz+news.length:=by rw [Nat.add_mul,hnl]
   rw [e2,Nat.add_zero,List.getElem?_take,sy _ _ _ _ _ rfl so]
   rw [sy _ _ _ _ _ rfl so]
   rw [List.getElem?_take]
   by_cases hk:k<es.length*sz
   ·rw [if_pos hk,if_pos hk]
   ·rw [if_neg hk,if_neg za,if_neg hk]
 ·refine Flat.append (Flat.append (hf.take off) ?_ hy) ?_ (hf.drop _)
  ·rw [List.length_take,List.length_take,hxl]
   rw [Nat.min_eq_left (by have:=Nat.mul_le_mul_right sz (show off<=es.length by omega);omega),Nat.min_eq_left za]
  ·have:(xs.take (off*sz)).length=off*sz:=by rw [List.length_take,Nat.min_eq_left za]
   rw [List.length_append,this,hnl,List.length_append,List.length_take,Nat.min_eq_left za,Nat.add_mul]
theorem dst_at(h:Sim P X S loc s tm w){x:RV}{vx:Value}{id ver off m:Nat}{e:TypeId}{es:List PD}{r:List Nat}(hl:wy x s.boxes=some ((id,ver,e,es,off,m),r,true))(hx:R S loc x vx):
  ∃sz xs hdr,s.boxes id=some (.arr ver e es)∧loc id=some (.arr ver e sz hdr)∧szT P e=some sz∧rowAt w e sz hdr es.length xs∧Flat S sz es xs∧off+m<=es.length∧
   ((m=0∧∃ad c,vx= .slice ad 0 c)∨∃g n c cc,hdr= .slice (some ⟨g,0,none⟩) n c∧vx= .slice (some ⟨g,off*sz,none⟩) m cc):=by
 rcases x with _|_|_|_|_|_|⟨id',ver'⟩|_|_|_|⟨id',ver',lo,hi⟩|_|_<;>first|exact fE s.boxes hl|skip
 ·obtain⟨bx,r1,r2,h1,h2,_⟩:=M.bind_some hl
  obtain⟨hb,_,_⟩:=M.get_some h1
  cases bx with
  |var _=>exact fE s.boxes h2
  |dead=>exact fE s.boxes h2
  |map _ _ _=>exact fE s.boxes h2
  |arr v2 e2 es2=>
   by_cases hver:ver'=v2
   rotate_left
   ·simp only [hver,if_false]at h2;exact fE s.boxes h2
   simp only [hver,if_true]at h2
   obtain⟨h3, -, -⟩:=M.pK (b:=s.boxes) h2
   subst hver
   cases h3
   obtain⟨sz,xs,hloc,hsz,how,hf⟩:=h.tW hb hx
   refine⟨sz,xs,vx,hb,hloc,hsz,how,hf,za,?_⟩
   rcases how with⟨_,⟨rfl,hn⟩|⟨g,cap,cur,_,rfl,_⟩⟩|⟨hn,_,a,rfl⟩
   ·exact .inl ⟨hn,none,0,rfl⟩
   ·exact .inr ⟨g,es.length,cap,cap,rfl,sm⟩
   ·exact .inl ⟨hn,a,0,rfl⟩
 ·obtain⟨bx,r1,r2,h1,h2,_⟩:=M.bind_some hl
  obtain⟨hb,_,_⟩:=M.get_some h1
  cases bx with
  |var _=>exact fE s.boxes h2
  |dead=>exact fE s.boxes h2
  |map _ _ _=>exact fE s.boxes h2
  |arr v2 e2 es2=>
   by_cases hver:ver'=v2
   rotate_left
   ·simp only [hver,if_false]at h2;exact fE s.boxes h2
   simp only [hver,if_true]at h2
   obtain⟨h3, -,h4⟩:=M.pN (b:=s.boxes) h2
   subst hver
   cases h3
   obtain⟨c1,c2⟩:=of_decide_eq_true h4.symm
   obtain⟨sz,xs,hdr,hloc,hsz,how,hf,_,hd⟩:=h.wR hb hx
   refine⟨sz,xs,hdr,hb,hloc,hsz,how,hf,za,?_⟩
   rcases hd with⟨rfl,a,rfl⟩|⟨g,n,c,rfl,_,_,rfl⟩
   ·exact .inl ⟨za,a,0,rfl⟩
   ·exact .inr ⟨g,n,c,_,rfl,rfl⟩
theorem Ac{t e:TypeId}(h:rf P t=some e):P.underlying t=some (.slice e):=by
 unfold rf at h
 split at h
 ·rename_i hd;cases h;exact hd
 ·cases h
theorem z7(h:Sim P X S loc s tm w){t t' ty:TypeId}{x y v:RV}{u:Ups}{r:List Nat}{vx vy:Value}(hl:vK P t x y s.boxes=some ((v,u),r,true))(hx:R S loc x vx)(hy:R S loc y vy):
  ∃v' w' S' loc',(Builtin.copy_ #[t,t'] ty #[vx,vy]).run P w= .ok v' w'∧Sim P X S' loc' (s.ups u) tm w'∧R S' loc' v v':=by
 unfold vK at hl
 rcases he:rf P t with _|e
 ·simp only [he]at hl;exact fE s.boxes hl
 simp only [he]at hl
 have hu:=Ac he
 rcases hk:szT P e with _|_|k
 ·simp only [hk]at hl;exact fE s.boxes hl
 ·simp only [hk]at hl;exact fE s.boxes hl
 simp only [hk]at hl
 obtain⟨⟨id,ver,e',es,off,m⟩,r1,r2,h1,h2,_⟩:=M.bind_some hl
 obtain⟨ys,r3,r4,h3,h4,_⟩:=M.bind_some h2
 obtain⟨h5, -,h6⟩:=M.pN (b:=s.boxes) h4
 cases h5
 clear hl h2 h4
 simp only [Bool.true_eq,Bool.and_eq_true,decide_eq_true_eq,List.all_eq_true,beq_iff_eq]at h6
 obtain⟨rfl,hys⟩:=h6
 obtain⟨sz,xs,hdr,hb,hloc,hsz,how,hf,hle,hd⟩:=dst_at h h1 hx
 rw [hk]at hsz
 cases hsz
 obtain⟨a,c,news,rfl,hnl,hfy,hcell⟩:=qM h h3 hy (Nat.succ_pos k) hys
 obtain⟨i,hi,his⟩:∃i,P.info? e=some i∧i.size=k+1:=by
  unfold szT at hk
  cases hq:P.info? e with
  |none=>simp [hq]at hk
  |some i=>exact⟨i,rfl,by simpa [hq]using hk⟩
 by_cases hm:Nat.min ys.length m=0
 ·have hup:(s.ups [(id,.arr ver e (es.take off++ys.take (Nat.min ys.length m)++es.drop (off+Nat.min ys.length m)))])=s:=by
   have e1:es.take off++ys.take (Nat.min ys.length m)++es.drop (off+Nat.min ys.length m)=es:=by rw [hm];simp
   rw [e1]
   show({ s with boxes:=upd s.boxes id (.arr ver e es) }:St)=s
   rw [AE hb]
  refine⟨goInt 0,w,S,loc,?_,by rw [hup];exact h,by rw [hm];exact .d (.int _ _)⟩
  have hfc:(Builtin.firstCells i.size 0 (.slice a ys.length c)).run P w= .ok #[] w:=by
   cases a<;>simp [Builtin.firstCells,loadCells,loadCellsFrom]
  rcases hd with⟨rfl,ad,cc,rfl⟩|⟨g,n,c',cc,_,rfl⟩
  ·cases ad<;>simp [Builtin.copy_,run_underlying hu,Builtin.lenOf,sizeOf,typeInfo,hi,hfc,storeCells]
  ·have hm':min ys.length m=0:=hm
   simp [Builtin.copy_,run_underlying hu,Builtin.lenOf,sizeOf,typeInfo,hi,hfc,storeCells,hm']
 ·have hmpos:0<Nat.min ys.length m:=Nat.pos_of_ne_zero hm
  have hle1:Nat.min ys.length m<=ys.length:=Nat.min_le_left _ _
  have hle2:Nat.min ys.length m<=m:=Nat.min_le_right _ _
  rcases hd with⟨rfl,_⟩|⟨g,n,c',cc,hh,rfl⟩
  ·omega
  obtain⟨ad,rfl,hcl⟩:=hcell (by intro e0;apply hm;rw [e0];exact Nat.zero_min _)
  have hlt:(ys.take (Nat.min ys.length m)).length=Nat.min ys.length m:=by rw [List.length_take];exact Nat.min_eq_left hle1
  obtain⟨w',hrun,hsim⟩:=h.AG (off:=off) hloc hk how hf (hfy.take (Nat.min ys.length m)) (by rw [List.length_take,hlt,hnl];exact Nat.min_eq_left (Nat.mul_le_mul_right _ hle1)) (by rw [hlt];omega) hh za
  rw [hlt]at hsim
  have hld := run_firstCells_some (P := P) w (k + 1) (Nat.min ys.length m) ad ys.length c (news.take (Nat.min ys.length m * (k + 1))) (by rw [List.length_take, hnl]; exact Nat.min_eq_left (Nat.mul_le_mul_right _ hle1)) (fun j v hj => by
   rw [List.getElem?_take]at hj
   split at hj
   ·exact hcl j v hj
   ·cases hj)
  refine⟨_,w',S,_,?_,hsim,.d (.int _ _)⟩
  simp only [his]at hld⊢
  simp [Builtin.copy_,run_underlying hu,Builtin.lenOf,sizeOf,typeInfo,hi,his,hld,hrun]
  rfl
theorem xi{v:Value}{p:PD}(h:wT v=some p):V S p v∧p.one=true∧v.cells= #[v]∧v.oneCell'=true:=by
 unfold wT at h
 unfold rJ at h
 split at h
 ·rename_i q hq
  cases h
  split at hq<;>cases hq
  ·exact⟨.bool _,rfl,rfl,rfl⟩
  ·exact⟨.int _ _,rfl,rfl,rfl⟩
  ·exact⟨.str _,rfl,rfl,rfl⟩
  all_goals exact⟨.raw _ rfl,rfl,rfl,rfl⟩
 ·rename_i hq
  cases h
  split at hq<;>cases hq
  exact⟨.nil _ _,rfl,rfl,rfl⟩
 ·cases h
theorem xj:∀{vs:List Value}{ps:List PD},vE vs=some ps->ps.length=vs.length∧∀(i:Nat)p v,ps[i]? =some p->vs[i]? =some v->V S p v∧p.one=true∧v.oneCell'=true
 | [],ps,h=>by cases h;exact⟨rfl,fun i p v h1=>by simp at h1⟩
 |v::r,ps,h=>by
  unfold vE at h
  split at h
  ·rename_i p l h1 h2
   cases h
   obtain⟨i1,i2⟩:=xj h2
   obtain⟨j1,j2,_,j4⟩:=xi (S:=S) h1
   refine⟨by simp [i1],fun i q u hq hu=>?_⟩
   cases i with
   |zero=>simp at hq hu;subst hq;subst hu;exact⟨j1,j2,j4⟩
   |succ i=>exact i2 i q u (by simpa using hq) (by simpa using hu)
  ·cases h
theorem yH{v:Value}{p:PD}(h:qW v=some p):v.cells.size=p.cells.length∧∀(i:Nat)q u,p.cells[i]? =some q->v.cells[i]? =some u->V S q u∧u.oneCell'=true:=by
 have one:wT v=some p->v.cells.size=p.cells.length∧∀(i:Nat)q u,p.cells[i]? =some q->v.cells[i]? =some u->V S q u∧u.oneCell'=true:=fun h=>by
  obtain⟨h1,h2,h3,h4⟩:=xi (S:=S) h
  have hc:p.cells=[p]:=by cases p<;>first|rfl|simp [PD.one]at h2
  rw [hc,h3]
  refine⟨rfl,fun i q u hq hu=>?_⟩
  cases i with
  |zero=>simp at hq hu;subst hq;subst hu;exact⟨h1,h4⟩
  |succ i=>simp at hq
 unfold qW at h
 split at h
 ·rename_i cs
  cases hz:vE cs.toList with
  |none=>simp [hz]at h
  |some ps=>
   simp only [hz,Option.map_some,Option.some.injEq]at h
   subst h
   obtain⟨i1,i2⟩:=xj (S:=S) hz
   refine⟨by simp [Value.cells,PD.cells,i1],fun i q u hq hu=>?_⟩
   obtain⟨k1,_,k3⟩:=i2 i q u hq (by simpa [Value.cells]using hu)
   exact⟨k1,k3⟩
 ·exact one h
theorem ru{z:Value}{p:PD}(h:qW z=some p){k:Nat}(hk:p.cells.length=k+1)(n:Nat):Flat S (k+1) (List.replicate n p) (Builtin.zeroCells z.cells n).toList∧(Builtin.zeroCells z.cells n).toList.length=n*(k+1):=by
 obtain⟨h1,h2⟩:=yH (S:=S) h
 have hs:z.cells.size=k+1:=by omega
 have hget:∀(q:Nat)u,(Builtin.zeroCells z.cells n).toList[q]? =some u->q<n*(k+1)∧z.cells[q%(k+1)]? =some u:=by
  intro q u hq
  simp only [Builtin.zeroCells,hs,Array.toList_map,Array.toList_range,List.getElem?_map,Option.map_eq_some_iff]at hq
  obtain⟨q',hq',rfl⟩:=hq
  obtain⟨hlt,he⟩:=List.getElem?_eq_some_iff.1 hq'
  simp at hlt he
  subst he
  have hm:q%(k+1)<z.cells.size:=by rw [hs];exact Nat.mod_lt _ (Nat.succ_pos k)
  exact⟨hlt,by rw [Array.getElem?_eq_getElem hm,getElem!_pos z.cells _ hm]⟩
 have hlen:(Builtin.zeroCells z.cells n).toList.length=n*(k+1):=by simp [Builtin.zeroCells,hs]
 refine⟨⟨fun e he=>by rw [List.eq_of_mem_replicate he];exact hk,fun u hu=>?_,fun i e j x hi hj=>?_⟩,hlen⟩
 ·obtain⟨q,hq,rfl⟩:=List.getElem_of_mem hu
  obtain⟨_,h4⟩:=hget q _ (zd hq)
  have hm:q%(k+1)<p.cells.length:=by rw [hk];exact Nat.mod_lt _ (Nat.succ_pos k)
  exact(h2 _ _ _ (zd hm) h4).2
 ·rw [List.getElem?_replicate]at hi
  by_cases hlt:i<n
  rotate_left
  ·rw [if_neg hlt]at hi;cases hi
  rw [if_pos hlt]at hi
  cases hi
  have hjs:j<k+1:=by rw [<-hk];exact(List.getElem?_eq_some_iff.1 hj).1
  have hm:(i+1)*(k+1)<=n*(k+1):=Nat.mul_le_mul_right _ hlt
  rw [Nat.add_mul,Nat.one_mul]at hm
  have hlt2:i*(k+1)+j<(Builtin.zeroCells z.cells n).toList.length:=by rw [hlen];omega
  obtain⟨_,h4⟩:=hget _ _ (zd hlt2)
  refine⟨_,zd hlt2,?_⟩
  have e1:(i*(k+1)+j)%(k+1)=j:=by rw [Nat.mul_comm,Nat.mul_add_mod];exact Nat.mod_eq_of_lt hjs
  rw [e1]at h4
  exact(h2 j x _ hj h4).1
theorem zm(h:Sim P X S loc s tm w){t ty:TypeId}{x v:RV}{u:Ups}{r:List Nat}{vx:Value}(hl:tX P t x s.boxes=some ((v,u),r,true))(hx:R S loc x vx):
  ∃v' w' S' loc',(Builtin.clear_ #[t] ty #[vx]).run P w= .ok v' w'∧Sim P X S' loc' (s.ups u) tm w'∧R S' loc' v v':=by
 unfold tX at hl
 rcases he:rf P t with _|e
 ·simp only [he]at hl;exact fE s.boxes hl
 simp only [he]at hl
 have hu:=qU he
 rcases hk:szT P e with _|_|k
 ·simp only [hk]at hl;exact fE s.boxes hl
 ·simp only [hk]at hl;exact fE s.boxes hl
 rcases hz:(qQ P e).bind qW with _|z
 ·simp only [hk,hz]at hl;exact fE s.boxes hl
 simp only [hk,hz]at hl
 obtain⟨⟨id,ver,e',es,off,m⟩,r1,r2,h1,h2,_⟩:=M.bind_some hl
 obtain⟨h5, -,h6⟩:=M.pN (b:=s.boxes) h2
 cases h5
 clear hl h2
 simp only [Bool.true_eq,Bool.and_eq_true,decide_eq_true_eq,beq_iff_eq]at h6
 obtain⟨rfl,hzk⟩:=h6
 obtain⟨zv,hz1,hz2⟩:=Option.bind_eq_some_iff.1 hz
 obtain⟨i,hi,hiz⟩:=ry hz1
 obtain⟨sz,xs,hdr,hb,hloc,hsz,how,hf,hle,hd⟩:=dst_at h h1 hx
 rw [hk]at hsz
 cases hsz
 obtain⟨hfl,hfn⟩:=ru (S:=S) hz2 hzk m
 by_cases hm:m=0
 ·subst hm
  have hup:(s.ups [(id,.arr ver e (es.take off++List.replicate 0 z++es.drop (off+0)))])=s:=by
   have e1:es.take off++List.replicate 0 z++es.drop (off+0)=es:=by simp
   rw [e1]
   show({ s with boxes:=upd s.boxes id (.arr ver e es) }:St)=s
   rw [AE hb]
  refine⟨.tuple #[],w,S,loc,?_,by rw [hup];exact h,.tup [] #[] rfl (fun i c v h1=>by simp at h1)⟩
  rcases hd with⟨_,ad,cc,rfl⟩|⟨g,n,c',cc,_,rfl⟩
  ·cases ad<;>simp [Builtin.clear_,run_underlying hu]
  ·simp [Builtin.clear_,run_underlying hu]
 ·rcases hd with⟨rfl,_⟩|⟨g,n,c',cc,hh,rfl⟩
  ·exact(hm rfl).elim
  obtain⟨w',hrun,hsim⟩:=h.AG (off:=off) hloc hk how hf hfl (by rw [hfn,List.length_replicate]) (by rw [List.length_replicate];omega) hh (by rw [List.length_replicate];omega)
  rw [List.length_replicate]at hsim
  refine⟨.tuple #[],w',S,_,?_,hsim,.tup [] #[] rfl (fun i c v h1=>by simp at h1)⟩
  obtain⟨m,rfl⟩:∃m',m=m'+1:=⟨m-1,za⟩
  simp [Builtin.clear_,run_underlying hu,zeroValue,typeInfo,hi,hiz,hrun]
theorem Bq:∀{l:List RV}{vs:List Value}{k:IntKind}{n m:Int},minL n l=some m->l.length=vs.length->(∀(i:Nat)a v,l[i]? =some a->vs[i]? =some v->R S loc a v)->
  (vs.foldlM Builtin.min2 (Value.int k n)).run P w= .ok (.int k m) w
 | [],[],k,n,m,h,_,_=>by cases h;rfl
 | [],_::_,_,_,_,_,hl,_=>by simp at hl
 |_::_,[],_,_,_,_,hl,_=>by simp at hl
 |x::l,v::vs,k,n,m,h,hl,hr=>by
  rcases x with p|_|_|_|_|_|_|_|_|_|_|_|_<;>first|(simp [minL]at h;done)|skip
  cases p<;>first|(simp [minL]at h;done)|skip
  rename_i k' m'
  have e:=(hr 0 _ v rfl rfl).p9
  subst e
  have h':minL (if m'<n then m' else n) l=some m:=h
  have ih:=Bq (k:=k) (vs:=vs) h' (by simpa using hl) (fun i a u h1 h2=>hr (i+1) a u (by simpa using h1) (by simpa using h2))
  simp only [List.foldlM_cons,Builtin.min2,pure_bind]
  exact ih
theorem Bp:∀{l:List RV}{vs:List Value}{k:IntKind}{n m:Int},maxL n l=some m->l.length=vs.length->(∀(i:Nat)a v,l[i]? =some a->vs[i]? =some v->R S loc a v)->
  (vs.foldlM Builtin.max2 (Value.int k n)).run P w= .ok (.int k m) w
 | [],[],k,n,m,h,_,_=>by cases h;rfl
 | [],_::_,_,_,_,_,hl,_=>by simp at hl
 |_::_,[],_,_,_,_,hl,_=>by simp at hl
 |x::l,v::vs,k,n,m,h,hl,hr=>by
  rcases x with p|_|_|_|_|_|_|_|_|_|_|_|_<;>first|(simp [maxL]at h;done)|skip
  cases p<;>first|(simp [maxL]at h;done)|skip
  rename_i k' m'
  have e:=(hr 0 _ v rfl rfl).p9
  subst e
  have h':maxL (if m'>n then m' else n) l=some m:=h
  have ih:=Bp (k:=k) (vs:=vs) h' (by simpa using hl) (fun i a u h1 h2=>hr (i+1) a u (by simpa using h1) (by simpa using h2))
  simp only [List.foldlM_cons,Builtin.max2,pure_bind]
  exact ih
theorem A7{l:List RV}{vs:Array Value}{v:RV}{u:Ups}{r:List Nat}{b:p8}{ts:Array TypeId}{ty:TypeId}(hl:minD l b=some ((v,u),r,true))(hlen:l.length=vs.size)(hr:∀(i:Nat)a v,l[i]? =some a->vs[i]? =some v->R S loc a v):
  ∃v',(Builtin.min_ ts ty vs).run P w= .ok v' w∧R S loc v v'∧u=[]:=by
 obtain⟨vs⟩:=vs
 rcases l with _|⟨x,l⟩
 ·exact fE b hl
 rcases vs with _|⟨y,vs⟩
 ·simp at hlen
 rcases x with p|_|_|_|_|_|_|_|_|_|_|_|_<;>first|exact fE b hl|skip
 cases p<;>first|exact fE b hl|skip
 rename_i k n
 simp only [minD]at hl
 rcases hm:minL n l with _|m
 ·simp only [hm]at hl;exact fE b hl
 simp only [hm]at hl
 obtain⟨h1, -, -⟩:=M.pK (b:=b) hl
 cases h1
 have e:=(hr 0 _ y rfl rfl).p9
 subst e
 refine⟨.int k m,?_,.d (.int _ _),rfl⟩
 exact Bq hm (by simpa using hlen) (fun i a u h1 h2=>hr (i+1) a u (by simpa using h1) (by simpa using h2))
theorem A6{l:List RV}{vs:Array Value}{v:RV}{u:Ups}{r:List Nat}{b:p8}{ts:Array TypeId}{ty:TypeId}(hl:maxD l b=some ((v,u),r,true))(hlen:l.length=vs.size)(hr:∀(i:Nat)a v,l[i]? =some a->vs[i]? =some v->R S loc a v):
  ∃v',(Builtin.max_ ts ty vs).run P w= .ok v' w∧R S loc v v'∧u=[]:=by
 obtain⟨vs⟩:=vs
 rcases l with _|⟨x,l⟩
 ·exact fE b hl
 rcases vs with _|⟨y,vs⟩
 ·simp at hlen
 rcases x with p|_|_|_|_|_|_|_|_|_|_|_|_<;>first|exact fE b hl|skip
 cases p<;>first|exact fE b hl|skip
 rename_i k n
 simp only [maxD]at hl
 rcases hm:maxL n l with _|m
 ·simp only [hm]at hl;exact fE b hl
 simp only [hm]at hl
 obtain⟨h1, -, -⟩:=M.pK (b:=b) hl
 cases h1
 have e:=(hr 0 _ y rfl rfl).p9
 subst e
 refine⟨.int k m,?_,.d (.int _ _),rfl⟩
 exact Bp hm (by simpa using hlen) (fun i a u h1 h2=>hr (i+1) a u (by simpa using h1) (by simpa using h2))
end
end Go.Dw
