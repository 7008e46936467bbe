
import Derived.Test.YtgdhcacjeppglaaGreatDwDeep
open List renaming foldlM_cons->BU, getElem?_drop->AG, getElem?_take->AH, length_append->BH, length_drop->Av, length_replicate->BV, length_take->Aw, mem_of_mem_drop->A2, mem_of_mem_take->A3, replicate->AA
open Nat renaming add_mul->A6, min->BW, min_eq_left->Ay, mod_lt->Ai, mul_le_mul_right->A9, one_mul->Aa, succ_pos->BX
open Go.Builtin renaming clear_->BY, copy_->BZ, firstCells->BB, lenOf->BC, max2->B1, min2->B2, zeroCells->BD

namespace Go.Dw
section
variable {P:Program}{X:Ctx}{S:cp}{loc:cJ}{s:St}{tm:Array Value}{w:World}
theorem mU{α:Type}{f:Nat->Option α}{id:Nat}{x:α}(h:f id=some x):upd f id x=f:=by
 funext i
 by_cases a:i=id
 ·subst a;rw [cf,h]
 ·exact ck _ _ a
theorem Flat.take{sz:Nat}{es:List PD}{xs:List Value}(h:Flat S sz es xs)(n:Nat):Flat S sz (es.take n) (xs.take (n*sz)):=by
 refine⟨fun e he=>h.len e (A3 he),fun u hu=>h.one u (A3 hu),fun i e j x a c=>?_⟩
 rw [AH]at a
 split at a
 ·rename_i b
  obtain⟨u,hu,g⟩:=h.cell i e j x a c
  have f:j<sz:=by rw [<-h.len e (List.mem_of_getElem? a)];exact(List.getElem?_eq_some_iff.1 c).1
  have hm:(i+1)*sz<=n*sz:=A9 _ b
  rw [A6,Aa]at hm
  exact⟨u,by rw [AH,if_pos om];exact hu,g⟩
 ·cases a
theorem Flat.drop{sz:Nat}{es:List PD}{xs:List Value}(h:Flat S sz es xs)(n:Nat):Flat S sz (es.drop n) (xs.drop (n*sz)):=by
 refine⟨fun e he=>h.len e (A2 he),fun u hu=>h.one u (A2 hu),fun i e j x a b=>?_⟩
 rw [AG]at a
 obtain⟨u,hu,c⟩:=h.cell (n+i) e j x a b
 refine⟨u,?_,c⟩
 rw [AG, <-hu,A6]
 congr 1
 omega
theorem Sim.mV(h:Sim P X S loc s tm w){id ver sz:Nat}{e:TypeId}{es ys:List PD}{xs news:List Value}{hdr:Value}(a:loc id=some (.arr ver e sz hdr))(hsz:szT P e=some sz)
  (how:rowAt w e sz hdr es.length xs) (hf:Flat S sz es xs) (y:Flat S sz ys news) (b:news.length=ys.length*sz) {off:Nat} (hle:off+ys.length<=es.length) {g n c:Nat} (t:hdr= .slice (some ⟨g,0,none⟩) n c) (x:0<ys.length):
  ∃w',(storeCells ⟨g,off*sz,none⟩ news).run P w= .ok () w'∧Sim P X S (upd loc id (.arr ver e sz hdr)) { s with boxes:=upd s.boxes id (.arr ver e (es.take off++ys++es.drop (off+ys.length))) } tm w':=by
 have how:=how.fw om
 rcases how.2 with⟨he,_⟩|⟨C,cap,cur,B,he,j,v,l,r,i,f⟩
 ·rw [t]at he;cases he
 rw [t]at he
 cases he
 have o:xs.length=es.length*sz:=how.1
 have u:es.length*sz<=cur.size:=by
  rw [i];exact A9 _ l
 have hm:off*sz+news.length<=es.length*sz:=by rw [b, <-A6];exact A9 _ hle
 obtain⟨c,rfl⟩:∃z,c=z+1:=⟨c-1,om⟩
 have m:=et P g (off*sz) e B cur.size (j.free i) news 0 cur w rfl v om y.one
 refine⟨_,m,?_⟩
 subst t
 refine h.cw (Step.setRow w g _) id _ _ (fun b' q=>by cases q;exact⟨_,a,rfl⟩) ?_ (fun b' p=>by cases p;exact .inl ⟨_,a,rfl⟩) (by rw [a];exact .same _)
 have hlen:(es.take off++ys++es.drop (off+ys.length)).length=es.length:=by
  simp only [BH,Aw,Av];omega
 refine .arr ver e _ sz _ (xs.take (off*sz)++news++xs.drop ((off+ys.length)*sz)) hsz ?_ ?_
 ·rw [hlen]
  refine .inl ⟨?_,.inr ⟨g,c+1,_,_,rfl,j,setRow_heap w g cur _ e _ v,l,r,?_,?_⟩⟩
  ·simp only [BH,Aw,Av,o,A6];omega
  ·simp only [List.size_toArray,BH,Aw,Av,Array.length_toList];omega
  ·rw [<-f]
   apply List.ext_getElem?
   intro k
   have e2:(off+ys.length)*sz=off*sz+news.length:=by rw [A6,b]
   rw [e2,Nat.add_zero,AH,cY _ _ _ _ _ rfl so]
   rw [cY _ _ _ _ _ rfl so]
   rw [AH]
   by_cases hk:k<es.length*sz
   ·rw [if_pos hk,if_pos hk]
   ·rw [if_neg hk,if_neg om,if_neg hk]
 ·refine Flat.append (Flat.append (hf.take off) ?_ y) ?_ (hf.drop _)
  ·rw [Aw,Aw,o]
   rw [Ay (by have:=A9 sz (show off<=es.length by omega);omega),Ay om]
  ·have:(xs.take (off*sz)).length=off*sz:=by rw [Aw,Ay om]
   rw [BH,this,b,BH,Aw,Ay om,A6]
theorem dst_at(h:Sim P X S loc s tm w){x:RV}{l:Value}{id ver off m:Nat}{e:TypeId}{es:List PD}{r:List Nat}(hl:dstM x s.boxes=some ((id,ver,e,es,off,m),r,true))(v:R S loc x l):
  ∃sz xs hdr,s.boxes id=some (.arr ver e es)∧loc id=some (.arr ver e sz hdr)∧szT P e=some sz∧rowAt w e sz hdr es.length xs∧Flat S sz es xs∧off+m<=es.length∧
   ((m=0∧∃ad c,l= .slice ad 0 c)∨∃g n c y,hdr= .slice (some ⟨g,0,none⟩) n c∧l= .slice (some ⟨g,off*sz,none⟩) m y):=by
 rcases x with _|_|_|_|_|_|⟨u,k⟩|_|_|_|⟨u,k,G,F⟩|_|_<;>first|exact fE s.boxes hl|skip
 ·obtain⟨o,B,C,h1,f,_⟩:=M.bind_some hl
  obtain⟨hb,_,_⟩:=M.get_some h1
  cases o with
  |var _=>exact fE s.boxes f
  |dead=>exact fE s.boxes f
  |map _ _ _=>exact fE s.boxes f
  |nest _ _ _ _ _=>exact fE s.boxes f
  |mapn _ _ _ _ _=>exact fE s.boxes f
  |hole _ _ _ _ _ _=>exact fE s.boxes f
  |deep _ _ _ _ _ _ _=>exact fE s.boxes f
  |arr v2 e2 p=>
   by_cases i:k=v2
   rotate_left
   ·simp only [i,if_false]at f;exact fE s.boxes f
   simp only [i,if_true]at f
   obtain⟨q, -, -⟩:=M.cd (b:=s.boxes) f
   subst i
   cases q
   obtain⟨sz,xs,j,hsz,how,hf⟩:=h.fm hb v
   refine⟨sz,xs,l,hb,j,hsz,how,hf,om,?_⟩
   rcases how with⟨_,⟨rfl,t⟩|⟨g,cap,cur,_,rfl,_⟩⟩|⟨t,_,a,rfl⟩
   ·exact .inl ⟨t,none,0,rfl⟩
   ·exact .inr ⟨g,es.length,cap,cap,rfl,sm⟩
   ·exact .inl ⟨t,a,0,rfl⟩
 ·obtain⟨o,B,C,h1,f,_⟩:=M.bind_some hl
  obtain⟨hb,_,_⟩:=M.get_some h1
  cases o with
  |var _=>exact fE s.boxes f
  |dead=>exact fE s.boxes f
  |map _ _ _=>exact fE s.boxes f
  |nest _ _ _ _ _=>exact fE s.boxes f
  |mapn _ _ _ _ _=>exact fE s.boxes f
  |hole _ _ _ _ _ _=>exact fE s.boxes f
  |deep _ _ _ _ _ _ _=>exact fE s.boxes f
  |arr v2 e2 p=>
   by_cases i:k=v2
   rotate_left
   ·simp only [i,if_false]at f;exact fE s.boxes f
   simp only [i,if_true]at f
   obtain⟨q, -,z⟩:=M.cg (b:=s.boxes) f
   subst i
   cases q
   obtain⟨D,E⟩:=of_decide_eq_true z.symm
   obtain⟨sz,xs,hdr,j,hsz,how,hf,_,hd⟩:=h.iW hb v
   refine⟨sz,xs,hdr,hb,j,hsz,how,hf,om,?_⟩
   rcases hd with⟨rfl,a,rfl⟩|⟨g,n,c,rfl,_,_,rfl⟩
   ·exact .inl ⟨om,a,0,rfl⟩
   ·exact .inr ⟨g,n,c,_,rfl,rfl⟩
theorem mq{t e:TypeId}(h:dm P t=some e):P.underlying t=some (.slice e):=by
 unfold dm at h
 split at h
 ·rename_i hd;cases h;exact hd
 ·cases h
theorem mn(h:Sim P X S loc s tm w){t t' ty:TypeId}{x y v:RV}{u:Ups}{r:List Nat}{vx vy:Value}(hl:jy P t x y s.boxes=some ((v,u),r,true))(hx:R S loc x vx)(hy:R S loc y vy):
  ∃v' w' S' loc',(BZ #[t,t'] ty #[vx,vy]).run P w= .ok v' w'∧Sim P X S' loc' (s.ups u) tm w'∧R S' loc' v v':=by
 unfold jy at hl
 rcases he:dm P t with _|e
 ·simp only [he]at hl;exact fE s.boxes hl
 simp only [he]at hl
 have hu:=mq he
 rcases hk:szT P e with _|_|k
 ·simp only [hk]at hl;exact fE s.boxes hl
 ·simp only [hk]at hl;exact fE s.boxes hl
 simp only [hk]at hl
 obtain⟨⟨id,ver,e',es,off,m⟩,r1,r2,h1,Q,_⟩:=M.bind_some hl
 obtain⟨ys,r3,r4,h3,T,_⟩:=M.bind_some Q
 obtain⟨h5, -,U⟩:=M.cg (b:=s.boxes) T
 cases h5
 clear hl Q T
 simp only [Bool.true_eq,Bool.and_eq_true,decide_eq_true_eq,List.all_eq_true,beq_iff_eq]at U
 obtain⟨rfl,N⟩:=U
 obtain⟨sz,xs,hdr,hb,C,hsz,how,hf,hle,hd⟩:=dst_at h h1 hx
 rw [hk]at hsz
 cases hsz
 obtain⟨a,c,news,rfl,D,H,o⟩:=c9 h h3 hy (BX k) N
 obtain⟨i,I,z⟩:∃i,P.info? e=some i∧i.size=k+1:=by
  unfold szT at hk
  cases Y:P.info? e with
  |none=>simp [Y]at hk
  |some i=>exact⟨i,rfl,by simpa [Y]using hk⟩
 by_cases hm:BW ys.length m=0
 ·have L:(s.ups [(id,.arr ver e (es.take off++ys.take (BW ys.length m)++es.drop (off+BW ys.length m)))])=s:=by
   have e1:es.take off++ys.take (BW ys.length m)++es.drop (off+BW ys.length m)=es:=by rw [hm];simp
   rw [e1]
   show({ s with boxes:=upd s.boxes id (.arr ver e es) }:St)=s
   rw [mU hb]
  refine⟨goInt 0,w,S,loc,?_,by rw [L];exact h,by rw [hm];exact .d (.int _ _)⟩
  have q:(BB i.size 0 (.slice a ys.length c)).run P w= .ok #[] w:=by
   cases a<;>simp [BB,loadCells,loadCellsFrom]
  rcases hd with⟨rfl,ad,O,rfl⟩|⟨g,n,c',O,_,rfl⟩
  ·cases ad<;>simp [BZ,run_underlying hu,BC,sizeOf,typeInfo,I,q,storeCells]
  ·have J:min ys.length m=0:=hm
   simp [BZ,run_underlying hu,BC,sizeOf,typeInfo,I,q,storeCells,J]
 ·have K:0<BW ys.length m:=Nat.pos_of_ne_zero hm
  have f:BW ys.length m<=ys.length:=Nat.min_le_left _ _
  have W:BW ys.length m<=m:=Nat.min_le_right _ _
  rcases hd with⟨rfl,_⟩|⟨g,n,c',O,hh,rfl⟩
  ·omega
  obtain⟨ad,rfl,G⟩:=o (by intro e0;apply hm;rw [e0];exact Nat.zero_min _)
  have p:(ys.take (BW ys.length m)).length=BW ys.length m:=by rw [Aw];exact Ay f
  obtain⟨w',E,l⟩:=h.mV (off:=off) C hk how hf (H.take (BW ys.length m)) (by rw [Aw,p,D];exact Ay (A9 _ f)) (by rw [p];omega) hh om
  rw [p]at l
  have B := run_firstCells_some (P := P) w (k + 1) (BW ys.length m) ad ys.length c (news.take (BW ys.length m * (k + 1))) (by rw [Aw, D]; exact Ay (A9 _ f)) (fun j v F => by
   rw [AH]at F
   split at F
   ·exact G j v F
   ·cases F)
  refine⟨_,w',S,_,?_,l,.d (.int _ _)⟩
  simp only [z]at B⊢
  simp [BZ,run_underlying hu,BC,sizeOf,typeInfo,I,z,B,E]
  rfl
theorem jq{v:Value}{p:PD}(h:iY v=some p):V S p v∧p.one=true∧v.cells= #[v]∧v.oneCell'=true:=by
 unfold iY at h
 unfold dW at h
 split at h
 ·rename_i q a
  cases h
  split at a<;>cases a
  ·exact⟨.bool _,rfl,rfl,rfl⟩
  ·exact⟨.int _ _,rfl,rfl,rfl⟩
  ·exact⟨.str _,rfl,rfl,rfl⟩
  all_goals exact⟨.raw _ rfl,rfl,rfl,rfl⟩
 ·rename_i a
  cases h
  split at a<;>cases a
  exact⟨.nil _ _,rfl,rfl,rfl⟩
 ·cases h
theorem jr:∀{vs:List Value}{a:List PD},hO vs=some a->a.length=vs.length∧∀(i:Nat)p v,a[i]? =some p->vs[i]? =some v->V S p v∧p.one=true∧v.oneCell'=true
 | [],a,h=>by cases h;exact⟨rfl,fun i p v h1=>by simp at h1⟩
 |v::r,a,h=>by
  unfold hO at h
  split at h
  ·rename_i p l h1 c
   cases h
   obtain⟨i1,i2⟩:=jr c
   obtain⟨e,f,_,g⟩:=jq (S:=S) h1
   refine⟨by simp [i1],fun i q u b hu=>?_⟩
   cases i with
   |zero=>simp at b hu;subst b;subst hu;exact⟨e,f,g⟩
   |succ i=>exact i2 i q u (by simpa using b) (by simpa using hu)
  ·cases h
theorem kK{v:Value}{p:PD}(h:ey v=some p):v.cells.size=p.cells.length∧∀(i:Nat)q u,p.cells[i]? =some q->v.cells[i]? =some u->V S q u∧u.oneCell'=true:=by
 have one:iY v=some p->v.cells.size=p.cells.length∧∀(i:Nat)q u,p.cells[i]? =some q->v.cells[i]? =some u->V S q u∧u.oneCell'=true:=fun h=>by
  obtain⟨h1,c,e,f⟩:=jq (S:=S) h
  have hc:p.cells=[p]:=by cases p<;>first|rfl|simp [PD.one]at c
  rw [hc,e]
  refine⟨rfl,fun i q u a hu=>?_⟩
  cases i with
  |zero=>simp at a hu;subst a;subst hu;exact⟨h1,f⟩
  |succ i=>simp at a
 unfold ey at h
 split at h
 ·rename_i cs
  cases b:hO cs.toList with
  |none=>simp [b]at h
  |some j=>
   simp only [b,Option.map_some,Option.some.injEq]at h
   subst h
   obtain⟨i1,i2⟩:=jr (S:=S) b
   refine⟨by simp [Value.cells,PD.cells,i1],fun i q u a hu=>?_⟩
   obtain⟨g,_,k3⟩:=i2 i q u a (by simpa [Value.cells]using hu)
   exact⟨g,k3⟩
 ·exact one h
theorem dH{z:Value}{p:PD}(h:ey z=some p){k:Nat}(hk:p.cells.length=k+1)(n:Nat):Flat S (k+1) (AA n p) (BD z.cells n).toList∧(BD z.cells n).toList.length=n*(k+1):=by
 obtain⟨h1,t⟩:=kK (S:=S) h
 have r:z.cells.size=k+1:=by omega
 have b:∀(q:Nat)u,(BD z.cells n).toList[q]? =some u->q<n*(k+1)∧z.cells[q%(k+1)]? =some u:=by
  intro q u l
  simp only [BD,r,Array.toList_map,Array.toList_range,List.getElem?_map,Option.map_eq_some_iff]at l
  obtain⟨B,o,rfl⟩:=l
  obtain⟨a,he⟩:=List.getElem?_eq_some_iff.1 o
  simp at a he
  subst he
  have hm:q%(k+1)<z.cells.size:=by rw [r];exact Ai _ (BX k)
  exact⟨a,by rw [Array.getElem?_eq_getElem hm,getElem!_pos z.cells _ hm]⟩
 have hlen:(BD z.cells n).toList.length=n*(k+1):=by simp [BD,r]
 refine⟨⟨fun e he=>by rw [List.eq_of_mem_replicate he];exact hk,fun u hu=>?_,fun i e j x f v=>?_⟩,hlen⟩
 ·obtain⟨q,l,rfl⟩:=List.getElem_of_mem hu
  obtain⟨_,g⟩:=b q _ (zc l)
  have hm:q%(k+1)<p.cells.length:=by rw [hk];exact Ai _ (BX k)
  exact(t _ _ _ (zc hm) g).2
 ·rw [List.getElem?_replicate]at f
  by_cases a:i<n
  rotate_left
  ·rw [if_neg a]at f;cases f
  rw [if_pos a]at f
  cases f
  have m:j<k+1:=by rw [<-hk];exact(List.getElem?_eq_some_iff.1 v).1
  have hm:(i+1)*(k+1)<=n*(k+1):=A9 _ a
  rw [A6,Aa]at hm
  have c:i*(k+1)+j<(BD z.cells n).toList.length:=by rw [hlen];omega
  obtain⟨_,g⟩:=b _ _ (zc c)
  refine⟨_,zc c,?_⟩
  have y:(i*(k+1)+j)%(k+1)=j:=by rw [Nat.mul_comm,Nat.mul_add_mod];exact Nat.mod_eq_of_lt m
  rw [y]at g
  exact(t j x _ v g).1
theorem lz(h:Sim P X S loc s tm w){t ty:TypeId}{x v:RV}{u:Ups}{r:List Nat}{H:Value}(hl:gM P t x s.boxes=some ((v,u),r,true))(O:R S loc x H):
  ∃v' w' S' loc',(BY #[t] ty #[H]).run P w= .ok v' w'∧Sim P X S' loc' (s.ups u) tm w'∧R S' loc' v v':=by
 unfold gM at hl
 rcases he:dm P t with _|e
 ·simp only [he]at hl;exact fE s.boxes hl
 simp only [he]at hl
 have hu:=cW he
 rcases hk:szT P e with _|_|k
 ·simp only [hk]at hl;exact fE s.boxes hl
 ·simp only [hk]at hl;exact fE s.boxes hl
 rcases y:(df P e).bind ey with _|z
 ·simp only [hk,y]at hl;exact fE s.boxes hl
 simp only [hk,y]at hl
 obtain⟨⟨id,ver,T,es,off,m⟩,U,W,h1,F,_⟩:=M.bind_some hl
 obtain⟨K, -,G⟩:=M.cg (b:=s.boxes) F
 cases K
 clear hl F
 simp only [Bool.true_eq,Bool.and_eq_true,decide_eq_true_eq,beq_iff_eq]at G
 obtain⟨rfl,D⟩:=G
 obtain⟨Y,B,C⟩:=Option.bind_eq_some_iff.1 y
 obtain⟨i,N,p⟩:=c8 B
 obtain⟨sz,xs,hdr,hb,f,hsz,how,hf,hle,hd⟩:=dst_at h h1 O
 rw [hk]at hsz
 cases hsz
 obtain⟨l,o⟩:=dH (S:=S) C D m
 by_cases hm:m=0
 ·subst hm
  have q:(s.ups [(id,.arr ver e (es.take off++AA 0 z++es.drop (off+0)))])=s:=by
   have J:es.take off++AA 0 z++es.drop (off+0)=es:=by simp
   rw [J]
   show({ s with boxes:=upd s.boxes id (.arr ver e es) }:St)=s
   rw [mU hb]
  refine⟨.tuple #[],w,S,loc,?_,by rw [q];exact h,.tup [] #[] rfl (fun i c v h1=>by simp at h1)⟩
  rcases hd with⟨_,ad,E,rfl⟩|⟨g,n,I,E,_,rfl⟩
  ·cases ad<;>simp [BY,run_underlying hu]
  ·simp [BY,run_underlying hu]
 ·rcases hd with⟨rfl,_⟩|⟨g,n,I,E,L,rfl⟩
  ·exact(hm rfl).elim
  obtain⟨w',j,a⟩:=h.mV (off:=off) f hk how hf l (by rw [o,BV]) (by rw [BV];omega) L (by rw [BV];omega)
  rw [BV]at a
  refine⟨.tuple #[],w',S,_,?_,a,.tup [] #[] rfl (fun i c v h1=>by simp at h1)⟩
  obtain⟨m,rfl⟩:∃Q,m=Q+1:=⟨m-1,om⟩
  simp [BY,run_underlying hu,zeroValue,typeInfo,N,p,j]
theorem nW:∀{l:List RV}{vs:List Value}{k:IntKind}{n m:Int},minL n l=some m->l.length=vs.length->(∀(i:Nat)a v,l[i]? =some a->vs[i]? =some v->R S loc a v)->
  (vs.foldlM B2 (Value.int k n)).run P w= .ok (.int k m) w
 | [],[],k,n,m,h,_,_=>by cases h;rfl
 | [],_::_,_,_,_,_,hl,_=>by simp at hl
 |_::_,[],_,_,_,_,hl,_=>by simp at hl
 |x::l,v::vs,k,n,m,h,hl,b=>by
  rcases x with p|_|_|_|_|_|_|_|_|_|_|_|_<;>first|(simp [minL]at h;done)|skip
  cases p<;>first|(simp [minL]at h;done)|skip
  rename_i k' c
  have e:=(b 0 _ v rfl rfl).cC
  subst e
  have f:minL (if c<n then c else n) l=some m:=h
  have j:=nW (k:=k) (vs:=vs) f (by simpa using hl) (fun i a u h1 g=>b (i+1) a u (by simpa using h1) (by simpa using g))
  simp only [BU,B2,pure_bind]
  exact j
theorem nV:∀{l:List RV}{vs:List Value}{k:IntKind}{n m:Int},maxL n l=some m->l.length=vs.length->(∀(i:Nat)a v,l[i]? =some a->vs[i]? =some v->R S loc a v)->
  (vs.foldlM B1 (Value.int k n)).run P w= .ok (.int k m) w
 | [],[],k,n,m,h,_,_=>by cases h;rfl
 | [],_::_,_,_,_,_,hl,_=>by simp at hl
 |_::_,[],_,_,_,_,hl,_=>by simp at hl
 |x::l,v::vs,k,n,m,h,hl,b=>by
  rcases x with p|_|_|_|_|_|_|_|_|_|_|_|_<;>first|(simp [maxL]at h;done)|skip
  cases p<;>first|(simp [maxL]at h;done)|skip
  rename_i k' c
  have e:=(b 0 _ v rfl rfl).cC
  subst e
  have f:maxL (if c>n then c else n) l=some m:=h
  have j:=nV (k:=k) (vs:=vs) f (by simpa using hl) (fun i a u h1 g=>b (i+1) a u (by simpa using h1) (by simpa using g))
  simp only [BU,B1,pure_bind]
  exact j
theorem nD{l:List RV}{vs:Array Value}{v:RV}{u:Ups}{r:List Nat}{b:cI}{ts:Array TypeId}{ty:TypeId}(hl:minD l b=some ((v,u),r,true))(hlen:l.length=vs.size)(c:∀(i:Nat)a v,l[i]? =some a->vs[i]? =some v->R S loc a v):
  ∃v',(Builtin.min_ ts ty vs).run P w= .ok v' w∧R S loc v v'∧u=[]:=by
 obtain⟨vs⟩:=vs
 rcases l with _|⟨x,l⟩
 ·exact fE b hl
 rcases vs with _|⟨y,vs⟩
 ·simp at hlen
 rcases x with p|_|_|_|_|_|_|_|_|_|_|_|_<;>first|exact fE b hl|skip
 cases p<;>first|exact fE b hl|skip
 rename_i k n
 simp only [minD]at hl
 rcases hm:minL n l with _|m
 ·simp only [hm]at hl;exact fE b hl
 simp only [hm]at hl
 obtain⟨h1, -, -⟩:=M.cd (b:=b) hl
 cases h1
 have e:=(c 0 _ y rfl rfl).cC
 subst e
 refine⟨.int k m,?_,.d (.int _ _),rfl⟩
 exact nW hm (by simpa using hlen) (fun i a u h1 f=>c (i+1) a u (by simpa using h1) (by simpa using f))
theorem nC{l:List RV}{vs:Array Value}{v:RV}{u:Ups}{r:List Nat}{b:cI}{ts:Array TypeId}{ty:TypeId}(hl:maxD l b=some ((v,u),r,true))(hlen:l.length=vs.size)(c:∀(i:Nat)a v,l[i]? =some a->vs[i]? =some v->R S loc a v):
  ∃v',(Builtin.max_ ts ty vs).run P w= .ok v' w∧R S loc v v'∧u=[]:=by
 obtain⟨vs⟩:=vs
 rcases l with _|⟨x,l⟩
 ·exact fE b hl
 rcases vs with _|⟨y,vs⟩
 ·simp at hlen
 rcases x with p|_|_|_|_|_|_|_|_|_|_|_|_<;>first|exact fE b hl|skip
 cases p<;>first|exact fE b hl|skip
 rename_i k n
 simp only [maxD]at hl
 rcases hm:maxL n l with _|m
 ·simp only [hm]at hl;exact fE b hl
 simp only [hm]at hl
 obtain⟨h1, -, -⟩:=M.cd (b:=b) hl
 cases h1
 have e:=(c 0 _ y rfl rfl).cC
 subst e
 refine⟨.int k m,?_,.d (.int _ _),rfl⟩
 exact nV hm (by simpa using hlen) (fun i a u h1 f=>c (i+1) a u (by simpa using h1) (by simpa using f))
end
end Go.Dw
