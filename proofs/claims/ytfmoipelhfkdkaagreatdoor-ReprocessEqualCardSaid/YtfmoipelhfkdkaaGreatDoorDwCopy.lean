
import Derived.Test.YtfmoipelhfkdkaaGreatDoorDwGrow
open List renaming foldlM_cons->Ei, getElem?_drop->DM, getElem?_take->DN, length_append->Ec, length_drop->E0, length_replicate->Ej, length_take->E1, mem_of_mem_drop->E2, mem_of_mem_take->E3, replicate->B2
open Nat renaming add_mul->D9, min->Ek, min_eq_left->EW, mod_lt->EK, mul_le_mul_right->EB, one_mul->EC, succ_pos->El
open Go.Builtin renaming clear_->Em, copy_->En, firstCells->E6, lenOf->E7, max2->Eo, min2->Ep, zeroCells->E8

namespace Go.Dw
section
variable {P:Program}{X:Ctx}{S:rP}{loc:ss}{s:St}{tm:Array Value}{w:World}
theorem Cr{α:Type}{f:Nat->Option α}{id:Nat}{x:α}(h:f id=some x):upd f id x=f:=by
 funext i
 by_cases hi:i=id
 ·subst hi;rw [rK,h]
 ·exact sy _ _ hi
theorem Flat.take{sz:Nat}{es:List PD}{xs:List Value}(h:Flat S sz es xs)(n:Nat):Flat S sz (es.take n) (xs.take (n*sz)):=by
 refine⟨fun e he=>h.len e (E3 he),fun u hu=>h.one u (E3 hu),fun i e j x hi g=>?_⟩
 rw [DN]at hi
 split at hi
 ·rename_i f
  obtain⟨u,hu,q⟩:=h.cell i e j x hi g
  have k:j<sz:=by rw [<-h.len e (List.mem_of_getElem? hi)];exact(List.getElem?_eq_some_iff.1 g).1
  have hm:(i+1)*sz<=n*sz:=EB _ f
  rw [D9,EC]at hm
  exact⟨u,by rw [DN,if_pos za];exact hu,q⟩
 ·cases hi
theorem Flat.drop{sz:Nat}{es:List PD}{xs:List Value}(h:Flat S sz es xs)(n:Nat):Flat S sz (es.drop n) (xs.drop (n*sz)):=by
 refine⟨fun e he=>h.len e (E2 he),fun u hu=>h.one u (E2 hu),fun i e j x hi f=>?_⟩
 rw [DM]at hi
 obtain⟨u,hu,g⟩:=h.cell (n+i) e j x hi f
 refine⟨u,?_,g⟩
 rw [DM, <-hu,D9]
 congr 1
 omega
theorem Sim.Cs(h:Sim P X S loc s tm w){id ver sz:Nat}{e:TypeId}{es j:List PD}{xs news:List Value}{hdr:Value}(f:loc id=some (.arr ver e sz hdr))(K:szT P e=some sz)
  (how:rowAt w e sz hdr es.length xs) (hf:Flat S sz es xs) (Q:Flat S sz j news) (q:news.length=j.length*sz) {off:Nat} (hle:off+j.length<=es.length) {g n c:Nat} (J:hdr= .slice (some ⟨g,0,none⟩) n c) (O:0<j.length):
  ∃w',(storeCells ⟨g,off*sz,none⟩ news).run P w= .ok () w'∧Sim P X S (upd loc id (.arr ver e sz hdr)) { s with boxes:=upd s.boxes id (.arr ver e (es.take off++j++es.drop (off+j.length))) } tm w':=by
 have how:=how.v8 za
 rcases how.2 with⟨he,_⟩|⟨U,cap,cur,fz,he,C,N,D,I,u,r⟩
 ·rw [J]at he;cases he
 rw [J]at he
 cases he
 have F:xs.length=es.length*sz:=how.1
 have L:es.length*sz<=cur.size:=by
  rw [u];exact EB _ D
 have hm:off*sz+news.length<=es.length*sz:=by rw [q, <-D9];exact EB _ hle
 obtain⟨c,rfl⟩:∃T,c=T+1:=⟨c-1,za⟩
 have E:=uK P g (off*sz) e fz cur.size (C.free u) news 0 cur w rfl N za Q.one
 refine⟨_,E,?_⟩
 subst J
 refine h.sW (Step.setRow w g _) id _ _ (fun b' H=>by cases H;exact⟨_,f,rfl⟩) ?_ (fun b' G=>by cases G;exact .inl ⟨_,f,rfl⟩) (by rw [f];exact .same _)
 have hlen:(es.take off++j++es.drop (off+j.length)).length=es.length:=by
  simp only [Ec,E1,E0];omega
 refine .arr ver e _ sz _ (xs.take (off*sz)++news++xs.drop ((off+j.length)*sz)) K ?_ ?_
 ·rw [hlen]
  refine .inl ⟨?_,.inr ⟨g,c+1,_,_,rfl,C,setRow_heap w g cur _ e _ N,D,I,?_,?_⟩⟩
  ·simp only [Ec,E1,E0,F,D9];omega
  ·simp only [List.size_toArray,Ec,E1,E0,Array.length_toList];omega
  ·rw [<-r]
   apply List.ext_getElem?
   intro k
   have e2:(off+j.length)*sz=off*sz+news.length:=by rw [D9,q]
   rw [e2,Nat.add_zero,DN,tV _ _ _ _ _ rfl so]
   rw [tV _ _ _ _ _ rfl so]
   rw [DN]
   by_cases hk:k<es.length*sz
   ·rw [if_pos hk,if_pos hk]
   ·rw [if_neg hk,if_neg za,if_neg hk]
 ·refine Flat.append (Flat.append (hf.take off) ?_ Q) ?_ (hf.drop _)
  ·rw [E1,E1,F]
   rw [EW (by have:=EB sz (show off<=es.length by omega);omega),EW za]
  ·have:(xs.take (off*sz)).length=off*sz:=by rw [E1,EW za]
   rw [Ec,this,q,Ec,E1,EW za,D9]
theorem dst_at(h:Sim P X S loc s tm w){x:RV}{D:Value}{id ver off m:Nat}{e:TypeId}{es:List PD}{r:List Nat}(hl:yw x s.boxes=some ((id,ver,e,es,off,m),r,true))(J:R S loc x D):
  ∃sz xs hdr,s.boxes id=some (.arr ver e es)∧loc id=some (.arr ver e sz hdr)∧szT P e=some sz∧rowAt w e sz hdr es.length xs∧Flat S sz es xs∧off+m<=es.length∧
   ((m=0∧∃ad c,D= .slice ad 0 c)∨∃g n c K,hdr= .slice (some ⟨g,0,none⟩) n c∧D= .slice (some ⟨g,off*sz,none⟩) m K):=by
 rcases x with _|_|_|_|_|_|⟨I,q⟩|_|_|_|⟨I,q,lo,hi⟩|_|_<;>first|exact fE s.boxes hl|skip
 ·obtain⟨E,O,Q,h1,j,_⟩:=M.bind_some hl
  obtain⟨C,_,_⟩:=M.get_some h1
  cases E with
  |var _=>exact fE s.boxes j
  |dead=>exact fE s.boxes j
  |map _ _ _=>exact fE s.boxes j
  |nest _ _ _ _ _=>exact fE s.boxes j
  |hole _ _ _ _ _ _=>exact fE s.boxes j
  |arr v2 e2 F=>
   by_cases f:q=v2
   rotate_left
   ·simp only [f,if_false]at j;exact fE s.boxes j
   simp only [f,if_true]at j
   obtain⟨G, -, -⟩:=M.pZ (b:=s.boxes) j
   subst f
   cases G
   obtain⟨sz,xs,k,u,how,hf⟩:=h.vX C J
   refine⟨sz,xs,D,C,k,u,how,hf,za,?_⟩
   rcases how with⟨_,⟨rfl,H⟩|⟨g,cap,cur,_,rfl,_⟩⟩|⟨H,_,a,rfl⟩
   ·exact .inl ⟨H,none,0,rfl⟩
   ·exact .inr ⟨g,es.length,cap,cap,rfl,zc⟩
   ·exact .inl ⟨H,a,0,rfl⟩
 ·obtain⟨E,O,Q,h1,j,_⟩:=M.bind_some hl
  obtain⟨C,_,_⟩:=M.get_some h1
  cases E with
  |var _=>exact fE s.boxes j
  |dead=>exact fE s.boxes j
  |map _ _ _=>exact fE s.boxes j
  |nest _ _ _ _ _=>exact fE s.boxes j
  |hole _ _ _ _ _ _=>exact fE s.boxes j
  |arr v2 e2 F=>
   by_cases f:q=v2
   rotate_left
   ·simp only [f,if_false]at j;exact fE s.boxes j
   simp only [f,if_true]at j
   obtain⟨G, -,L⟩:=M.rE (b:=s.boxes) j
   subst f
   cases G
   obtain⟨T,U⟩:=of_decide_eq_true L.symm
   obtain⟨sz,xs,hdr,k,u,how,hf,_,N⟩:=h.yK C J
   refine⟨sz,xs,hdr,C,k,u,how,hf,za,?_⟩
   rcases N with⟨rfl,a,rfl⟩|⟨g,n,c,rfl,_,_,rfl⟩
   ·exact .inl ⟨za,a,0,rfl⟩
   ·exact .inr ⟨g,n,c,_,rfl,rfl⟩
theorem B6{t e:TypeId}(h:sD P t=some e):P.underlying t=some (.slice e):=by
 unfold sD at h
 split at h
 ·rename_i f;cases h;exact f
 ·cases h
theorem BY(h:Sim P X S loc s tm w){t t' ty:TypeId}{x y v:RV}{u:Ups}{r:List Nat}{vx vy:Value}(hl:xO P t x y s.boxes=some ((v,u),r,true))(hx:R S loc x vx)(hy:R S loc y vy):
  ∃v' w' S' loc',(En #[t,t'] ty #[vx,vy]).run P w= .ok v' w'∧Sim P X S' loc' (s.ups u) tm w'∧R S' loc' v v':=by
 unfold xO at hl
 rcases he:sD P t with _|e
 ·simp only [he]at hl;exact fE s.boxes hl
 simp only [he]at hl
 have hu:=B6 he
 rcases hk:szT P e with _|_|k
 ·simp only [hk]at hl;exact fE s.boxes hl
 ·simp only [hk]at hl;exact fE s.boxes hl
 simp only [hk]at hl
 obtain⟨⟨id,ver,e',es,off,m⟩,r1,r2,h1,h2,_⟩:=M.bind_some hl
 obtain⟨f,r3,r4,h3,h4,_⟩:=M.bind_some h2
 obtain⟨h5, -,h6⟩:=M.rE (b:=s.boxes) h4
 cases h5
 clear hl h2 h4
 simp only [Bool.true_eq,Bool.and_eq_true,decide_eq_true_eq,List.all_eq_true,beq_iff_eq]at h6
 obtain⟨rfl,Y⟩:=h6
 obtain⟨sz,xs,hdr,hb,I,L,how,hf,hle,hd⟩:=dst_at h h1 hx
 rw [hk]at L
 cases L
 obtain⟨a,c,news,rfl,J,Q,D⟩:=ti h h3 hy (El k) Y
 obtain⟨i,hi,G⟩:∃i,P.info? e=some i∧i.size=k+1:=by
  unfold szT at hk
  cases hq:P.info? e with
  |none=>simp [hq]at hk
  |some i=>exact⟨i,rfl,by simpa [hq]using hk⟩
 by_cases hm:Ek f.length m=0
 ·have W:(s.ups [(id,.arr ver e (es.take off++f.take (Ek f.length m)++es.drop (off+Ek f.length m)))])=s:=by
   have e1:es.take off++f.take (Ek f.length m)++es.drop (off+Ek f.length m)=es:=by rw [hm];simp
   rw [e1]
   show({ s with boxes:=upd s.boxes id (.arr ver e es) }:St)=s
   rw [Cr hb]
  refine⟨goInt 0,w,S,loc,?_,by rw [W];exact h,by rw [hm];exact .d (.int _ _)⟩
  have F:(E6 i.size 0 (.slice a f.length c)).run P w= .ok #[] w:=by
   cases a<;>simp [E6,loadCells,loadCellsFrom]
  rcases hd with⟨rfl,ad,cc,rfl⟩|⟨g,n,c',cc,_,rfl⟩
  ·cases ad<;>simp [En,run_underlying hu,E7,sizeOf,typeInfo,hi,F,storeCells]
  ·have T:min f.length m=0:=hm
   simp [En,run_underlying hu,E7,sizeOf,typeInfo,hi,F,storeCells,T]
 ·have U:0<Ek f.length m:=Nat.pos_of_ne_zero hm
  have q:Ek f.length m<=f.length:=Nat.min_le_left _ _
  have a5:Ek f.length m<=m:=Nat.min_le_right _ _
  rcases hd with⟨rfl,_⟩|⟨g,n,c',cc,hh,rfl⟩
  ·omega
  obtain⟨ad,rfl,O⟩:=D (by intro e0;apply hm;rw [e0];exact Nat.zero_min _)
  have E:(f.take (Ek f.length m)).length=Ek f.length m:=by rw [E1];exact EW q
  obtain⟨w',K,C⟩:=h.Cs (off:=off) I hk how hf (Q.take (Ek f.length m)) (by rw [E1,E,J];exact EW (EB _ q)) (by rw [E];omega) hh za
  rw [E]at C
  have H := run_firstCells_some (P := P) w (k + 1) (Ek f.length m) ad f.length c (news.take (Ek f.length m * (k + 1))) (by rw [E1, J]; exact EW (EB _ q)) (fun j v N => by
   rw [DN]at N
   split at N
   ·exact O j v N
   ·cases N)
  refine⟨_,w',S,_,?_,C,.d (.int _ _)⟩
  simp only [G]at H⊢
  simp [En,run_underlying hu,E7,sizeOf,typeInfo,hi,G,H,K]
  rfl
theorem zl{v:Value}{p:PD}(h:yM v=some p):V S p v∧p.one=true∧v.cells= #[v]∧v.oneCell'=true:=by
 unfold yM at h
 unfold um at h
 split at h
 ·rename_i q f
  cases h
  split at f<;>cases f
  ·exact⟨.bool _,rfl,rfl,rfl⟩
  ·exact⟨.int _ _,rfl,rfl,rfl⟩
  ·exact⟨.str _,rfl,rfl,rfl⟩
  all_goals exact⟨.raw _ rfl,rfl,rfl,rfl⟩
 ·rename_i f
  cases h
  split at f<;>cases f
  exact⟨.nil _ _,rfl,rfl,rfl⟩
 ·cases h
theorem zm:∀{vs:List Value}{ps:List PD},xK vs=some ps->ps.length=vs.length∧∀(i:Nat)p v,ps[i]? =some p->vs[i]? =some v->V S p v∧p.one=true∧v.oneCell'=true
 | [],ps,h=>by cases h;exact⟨rfl,fun i p v h1=>by simp at h1⟩
 |v::r,ps,h=>by
  unfold xK at h
  split at h
  ·rename_i p l h1 g
   cases h
   obtain⟨i1,i2⟩:=zm g
   obtain⟨j,k,_,C⟩:=zl (S:=S) h1
   refine⟨by simp [i1],fun i q u f hu=>?_⟩
   cases i with
   |zero=>simp at f hu;subst f;subst hu;exact⟨j,k,C⟩
   |succ i=>exact i2 i q u (by simpa using f) (by simpa using hu)
  ·cases h
theorem AS{v:Value}{p:PD}(h:tq v=some p):v.cells.size=p.cells.length∧∀(i:Nat)q u,p.cells[i]? =some q->v.cells[i]? =some u->V S q u∧u.oneCell'=true:=by
 have one:yM v=some p->v.cells.size=p.cells.length∧∀(i:Nat)q u,p.cells[i]? =some q->v.cells[i]? =some u->V S q u∧u.oneCell'=true:=fun h=>by
  obtain⟨h1,j,k,r⟩:=zl (S:=S) h
  have hc:p.cells=[p]:=by cases p<;>first|rfl|simp [PD.one]at j
  rw [hc,k]
  refine⟨rfl,fun i q u f hu=>?_⟩
  cases i with
  |zero=>simp at f hu;subst f;subst hu;exact⟨h1,r⟩
  |succ i=>simp at f
 unfold tq at h
 split at h
 ·rename_i cs
  cases g:xK cs.toList with
  |none=>simp [g]at h
  |some ps=>
   simp only [g,Option.map_some,Option.some.injEq]at h
   subst h
   obtain⟨i1,i2⟩:=zm (S:=S) g
   refine⟨by simp [Value.cells,PD.cells,i1],fun i q u f hu=>?_⟩
   obtain⟨C,_,k3⟩:=i2 i q u f (by simpa [Value.cells]using hu)
   exact⟨C,k3⟩
 ·exact one h
theorem tY{z:Value}{p:PD}(h:tq z=some p){k:Nat}(hk:p.cells.length=k+1)(n:Nat):Flat S (k+1) (B2 n p) (E8 z.cells n).toList∧(E8 z.cells n).toList.length=n*(k+1):=by
 obtain⟨h1,G⟩:=AS (S:=S) h
 have hs:z.cells.size=k+1:=by omega
 have g:∀(q:Nat)u,(E8 z.cells n).toList[q]? =some u->q<n*(k+1)∧z.cells[q%(k+1)]? =some u:=by
  intro q u D
  simp only [E8,hs,Array.toList_map,Array.toList_range,List.getElem?_map,Option.map_eq_some_iff]at D
  obtain⟨q',F,rfl⟩:=D
  obtain⟨f,he⟩:=List.getElem?_eq_some_iff.1 F
  simp at f he
  subst he
  have hm:q%(k+1)<z.cells.size:=by rw [hs];exact EK _ (El k)
  exact⟨f,by rw [Array.getElem?_eq_getElem hm,getElem!_pos z.cells _ hm]⟩
 have hlen:(E8 z.cells n).toList.length=n*(k+1):=by simp [E8,hs]
 refine⟨⟨fun e he=>by rw [List.eq_of_mem_replicate he];exact hk,fun u hu=>?_,fun i e j x hi H=>?_⟩,hlen⟩
 ·obtain⟨q,D,rfl⟩:=List.getElem_of_mem hu
  obtain⟨_,C⟩:=g q _ (zf D)
  have hm:q%(k+1)<p.cells.length:=by rw [hk];exact EK _ (El k)
  exact(G _ _ _ (zf hm) C).2
 ·rw [List.getElem?_replicate]at hi
  by_cases f:i<n
  rotate_left
  ·rw [if_neg f]at hi;cases hi
  rw [if_pos f]at hi
  cases hi
  have E:j<k+1:=by rw [<-hk];exact(List.getElem?_eq_some_iff.1 H).1
  have hm:(i+1)*(k+1)<=n*(k+1):=EB _ f
  rw [D9,EC]at hm
  have r:i*(k+1)+j<(E8 z.cells n).toList.length:=by rw [hlen];omega
  obtain⟨_,C⟩:=g _ _ (zf r)
  refine⟨_,zf r,?_⟩
  have I:(i*(k+1)+j)%(k+1)=j:=by rw [Nat.mul_comm,Nat.mul_add_mod];exact Nat.mod_eq_of_lt E
  rw [I]at C
  exact(G j x _ H C).1
theorem Bm(h:Sim P X S loc s tm w){t ty:TypeId}{x v:RV}{u:Ups}{r:List Nat}{T:Value}(hl:vY P t x s.boxes=some ((v,u),r,true))(hx:R S loc x T):
  ∃v' w' S' loc',(Em #[t] ty #[T]).run P w= .ok v' w'∧Sim P X S' loc' (s.ups u) tm w'∧R S' loc' v v':=by
 unfold vY at hl
 rcases he:sD P t with _|e
 ·simp only [he]at hl;exact fE s.boxes hl
 simp only [he]at hl
 have hu:=tj he
 rcases hk:szT P e with _|_|k
 ·simp only [hk]at hl;exact fE s.boxes hl
 ·simp only [hk]at hl;exact fE s.boxes hl
 rcases H:(sr P e).bind tq with _|z
 ·simp only [hk,H]at hl;exact fE s.boxes hl
 simp only [hk,H]at hl
 obtain⟨⟨id,ver,e',es,off,m⟩,r1,r2,h1,N,_⟩:=M.bind_some hl
 obtain⟨Y, -,O⟩:=M.rE (b:=s.boxes) N
 cases Y
 clear hl N
 simp only [Bool.true_eq,Bool.and_eq_true,decide_eq_true_eq,beq_iff_eq]at O
 obtain⟨rfl,K⟩:=O
 obtain⟨zv,I,J⟩:=Option.bind_eq_some_iff.1 H
 obtain⟨i,hi,F⟩:=tJ I
 obtain⟨sz,xs,hdr,hb,j,C,how,hf,hle,Q⟩:=dst_at h h1 hx
 rw [hk]at C
 cases C
 obtain⟨D,E⟩:=tY (S:=S) J K m
 by_cases hm:m=0
 ·subst hm
  have G:(s.ups [(id,.arr ver e (es.take off++B2 0 z++es.drop (off+0)))])=s:=by
   have W:es.take off++B2 0 z++es.drop (off+0)=es:=by simp
   rw [W]
   show({ s with boxes:=upd s.boxes id (.arr ver e es) }:St)=s
   rw [Cr hb]
  refine⟨.tuple #[],w,S,loc,?_,by rw [G];exact h,.tup [] #[] rfl (fun i c v h1=>by simp at h1)⟩
  rcases Q with⟨_,ad,L,rfl⟩|⟨g,n,U,L,_,rfl⟩
  ·cases ad<;>simp [Em,run_underlying hu]
  ·simp [Em,run_underlying hu]
 ·rcases Q with⟨rfl,_⟩|⟨g,n,U,L,hh,rfl⟩
  ·exact(hm rfl).elim
  obtain⟨w',q,f⟩:=h.Cs (off:=off) j hk how hf D (by rw [E,Ej]) (by rw [Ej];omega) hh (by rw [Ej];omega)
  rw [Ej]at f
  refine⟨.tuple #[],w',S,_,?_,f,.tup [] #[] rfl (fun i c v h1=>by simp at h1)⟩
  obtain⟨m,rfl⟩:∃m',m=m'+1:=⟨m-1,za⟩
  simp [Em,run_underlying hu,zeroValue,typeInfo,hi,F,q]
theorem Dh:∀{l:List RV}{vs:List Value}{k:IntKind}{n m:Int},minL n l=some m->l.length=vs.length->(∀(i:Nat)a v,l[i]? =some a->vs[i]? =some v->R S loc a v)->
  (vs.foldlM Ep (Value.int k n)).run P w= .ok (.int k m) w
 | [],[],k,n,m,h,_,_=>by cases h;rfl
 | [],_::_,_,_,_,_,hl,_=>by simp at hl
 |_::_,[],_,_,_,_,hl,_=>by simp at hl
 |x::l,v::vs,k,n,m,h,hl,f=>by
  rcases x with p|_|_|_|_|_|_|_|_|_|_|_|_<;>first|(simp [minL]at h;done)|skip
  cases p<;>first|(simp [minL]at h;done)|skip
  rename_i k' g
  have e:=(f 0 _ v rfl rfl).sk
  subst e
  have j:minL (if g<n then g else n) l=some m:=h
  have r:=Dh (k:=k) (vs:=vs) j (by simpa using hl) (fun i a u h1 q=>f (i+1) a u (by simpa using h1) (by simpa using q))
  simp only [Ei,Ep,pure_bind]
  exact r
theorem Dg:∀{l:List RV}{vs:List Value}{k:IntKind}{n m:Int},maxL n l=some m->l.length=vs.length->(∀(i:Nat)a v,l[i]? =some a->vs[i]? =some v->R S loc a v)->
  (vs.foldlM Eo (Value.int k n)).run P w= .ok (.int k m) w
 | [],[],k,n,m,h,_,_=>by cases h;rfl
 | [],_::_,_,_,_,_,hl,_=>by simp at hl
 |_::_,[],_,_,_,_,hl,_=>by simp at hl
 |x::l,v::vs,k,n,m,h,hl,f=>by
  rcases x with p|_|_|_|_|_|_|_|_|_|_|_|_<;>first|(simp [maxL]at h;done)|skip
  cases p<;>first|(simp [maxL]at h;done)|skip
  rename_i k' g
  have e:=(f 0 _ v rfl rfl).sk
  subst e
  have j:maxL (if g>n then g else n) l=some m:=h
  have r:=Dg (k:=k) (vs:=vs) j (by simpa using hl) (fun i a u h1 q=>f (i+1) a u (by simpa using h1) (by simpa using q))
  simp only [Ei,Eo,pure_bind]
  exact r
theorem CV{l:List RV}{vs:Array Value}{v:RV}{u:Ups}{r:List Nat}{b:sj}{ts:Array TypeId}{ty:TypeId}(hl:minD l b=some ((v,u),r,true))(hlen:l.length=vs.size)(f:∀(i:Nat)a v,l[i]? =some a->vs[i]? =some v->R S loc a v):
  ∃v',(Builtin.min_ ts ty vs).run P w= .ok v' w∧R S loc v v'∧u=[]:=by
 obtain⟨vs⟩:=vs
 rcases l with _|⟨x,l⟩
 ·exact fE b hl
 rcases vs with _|⟨y,vs⟩
 ·simp at hlen
 rcases x with p|_|_|_|_|_|_|_|_|_|_|_|_<;>first|exact fE b hl|skip
 cases p<;>first|exact fE b hl|skip
 rename_i k n
 simp only [minD]at hl
 rcases hm:minL n l with _|m
 ·simp only [hm]at hl;exact fE b hl
 simp only [hm]at hl
 obtain⟨h1, -, -⟩:=M.pZ (b:=b) hl
 cases h1
 have e:=(f 0 _ y rfl rfl).sk
 subst e
 refine⟨.int k m,?_,.d (.int _ _),rfl⟩
 exact Dh hm (by simpa using hlen) (fun i a u h1 g=>f (i+1) a u (by simpa using h1) (by simpa using g))
theorem CU{l:List RV}{vs:Array Value}{v:RV}{u:Ups}{r:List Nat}{b:sj}{ts:Array TypeId}{ty:TypeId}(hl:maxD l b=some ((v,u),r,true))(hlen:l.length=vs.size)(f:∀(i:Nat)a v,l[i]? =some a->vs[i]? =some v->R S loc a v):
  ∃v',(Builtin.max_ ts ty vs).run P w= .ok v' w∧R S loc v v'∧u=[]:=by
 obtain⟨vs⟩:=vs
 rcases l with _|⟨x,l⟩
 ·exact fE b hl
 rcases vs with _|⟨y,vs⟩
 ·simp at hlen
 rcases x with p|_|_|_|_|_|_|_|_|_|_|_|_<;>first|exact fE b hl|skip
 cases p<;>first|exact fE b hl|skip
 rename_i k n
 simp only [maxD]at hl
 rcases hm:maxL n l with _|m
 ·simp only [hm]at hl;exact fE b hl
 simp only [hm]at hl
 obtain⟨h1, -, -⟩:=M.pZ (b:=b) hl
 cases h1
 have e:=(f 0 _ y rfl rfl).sk
 subst e
 refine⟨.int k m,?_,.d (.int _ _),rfl⟩
 exact Dg hm (by simpa using hlen) (fun i a u h1 g=>f (i+1) a u (by simpa using h1) (by simpa using g))
end
end Go.Dw
