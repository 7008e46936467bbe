
import Derived.Test.YthkfkgoddhehcaaGreatDwGrow
open List renaming foldlM_cons->F3, getElem?_drop->EF, getElem?_take->EG, length_append->F0, length_drop->FQ, length_replicate->F4, length_take->FR, mem_of_mem_drop->FT, mem_of_mem_take->FU, replicate->EA
open Nat renaming add_mul->E3, min->F5, min_eq_left->FM, mod_lt->FC, mul_le_mul_right->E5, one_mul->E6, succ_pos->F6
open Go.Builtin renaming clear_->F7, copy_->F8, firstCells->FX, lenOf->FY, max2->F9, min2->Fa, zeroCells->Fb

namespace Go.Dw
section
variable {P:Program}{X:Ctx}{S:tG}{loc:ui}{s:St}{tm:Array Value}{w:World}
theorem Dd{α:Type}{f:Nat->Option α}{id:Nat}{x:α}(h:f id=some x):upd f id x=f:=by
 funext i
 by_cases hi:i=id
 ·subst hi;rw [tJ,h]
 ·exact uq _ _ hi
theorem Flat.take{sz:Nat}{es:List PD}{xs:List Value}(h:Flat S sz es xs)(n:Nat):Flat S sz (es.take n) (xs.take (n*sz)):=by
 refine⟨λe he=>h.len e (FU he),λu hu=>h.one u (FU hu),λi e j x hi c=>?_⟩
 rw [EG]at hi
 split at hi
 ·rename_i a
  obtain⟨u,hu,g⟩:=h.cell i e j x hi c
  have f:j<sz:=by rw [<-h.len e (List.mem_of_getElem? hi)];exact(List.getElem?_eq_some_iff.1 c).1
  have hm:(i+1)*sz<=n*sz:=E5 _ a
  rw [E3,E6]at hm
  exact⟨u,by rw [EG,if_pos za];exact hu,g⟩
 ·cases hi
theorem Flat.drop{sz:Nat}{es:List PD}{xs:List Value}(h:Flat S sz es xs)(n:Nat):Flat S sz (es.drop n) (xs.drop (n*sz)):=by
 refine⟨λe he=>h.len e (FT he),λu hu=>h.one u (FT hu),λi e j x hi a=>?_⟩
 rw [EF]at hi
 obtain⟨u,hu,c⟩:=h.cell (n+i) e j x hi a
 refine⟨u,?_,c⟩
 rw [EF, <-hu,E3]
 congr 1
 omega
theorem Sim.De(h:Sim P X S loc s tm w){id ver sz:Nat}{e:TypeId}{es ys:List PD}{xs news:List Value}{hdr:Value}(a:loc id=some (.arr ver e sz hdr))(B:szT P e=some sz)
  (how:rowAt w e sz hdr es.length xs) (hf:Flat S sz es xs) (F:Flat S sz ys news) (f:news.length=ys.length*sz) {off:Nat} (hle:off+ys.length<=es.length) {g n c:Nat} (z:hdr= .slice (some ⟨g,0,none⟩) n c) (E:0<ys.length):
  ∃w',(storeCells ⟨g,off*sz,none⟩ news).run P w= .ok () w'∧Sim P X S (upd loc id (.arr ver e sz hdr)) { s with boxes:=upd s.boxes id (.arr ver e (es.take off++ys++es.drop (off+ys.length))) } tm w':=by
 have how:=how.wj za
 rcases how.2 with⟨he,_⟩|⟨I,cap,cur,H,he,p,D,q,y,l,j⟩
 ·rw [z]at he;cases he
 rw [z]at he
 cases he
 have t:xs.length=es.length*sz:=how.1
 have C:es.length*sz<=cur.size:=by
  rw [l];exact E5 _ q
 have hm:off*sz+news.length<=es.length*sz:=by rw [f, <-E3];exact E5 _ hle
 obtain⟨c,rfl⟩:∃G,c=G+1:=⟨c-1,za⟩
 have r:=wo P g (off*sz) e H cur.size (p.free l) news 0 cur w rfl D za F.one
 refine⟨_,r,?_⟩
 subst z
 refine h.uO (Step.setRow w g _) id _ _ (λb' x=>by cases x;exact⟨_,a,rfl⟩) ?_ (λb' u=>by cases u;exact .inl ⟨_,a,rfl⟩) (by rw [a];exact .same _)
 have hlen:(es.take off++ys++es.drop (off+ys.length)).length=es.length:=by
  simp only [F0,FR,FQ];omega
 refine .arr ver e _ sz _ (xs.take (off*sz)++news++xs.drop ((off+ys.length)*sz)) B ?_ ?_
 ·rw [hlen]
  refine .inl ⟨?_,.inr ⟨g,c+1,_,_,rfl,p,setRow_heap w g cur _ e _ D,q,y,?_,?_⟩⟩
  ·simp only [F0,FR,FQ,t,E3];omega
  ·simp only [List.size_toArray,F0,FR,FQ,Array.length_toList];omega
  ·rw [<-j]
   apply List.ext_getElem?
   intro k
   have e2:(off+ys.length)*sz=off*sz+news.length:=by rw [E3,f]
   rw [e2,Nat.add_zero,EG,vW _ _ _ _ _ rfl so]
   rw [vW _ _ _ _ _ rfl so]
   rw [EG]
   by_cases hk:k<es.length*sz
   ·rw [if_pos hk,if_pos hk]
   ·rw [if_neg hk,if_neg za,if_neg hk]
 ·refine Flat.append (Flat.append (hf.take off) ?_ F) ?_ (hf.drop _)
  ·rw [FR,FR,t]
   rw [FM (by have:=E5 sz (show off<=es.length by omega);omega),FM za]
  ·have:(xs.take (off*sz)).length=off*sz:=by rw [FR,FM za]
   rw [F0,this,f,F0,FR,FM za,E3]
theorem dst_at(h:Sim P X S loc s tm w){x:RV}{t:Value}{id ver off m:Nat}{e:TypeId}{es:List PD}{r:List Nat}(B:zR x s.boxes=some ((id,ver,e,es,off,m),r,true))(E:R S loc x t):
  ∃sz xs hdr,s.boxes id=some (.arr ver e es)∧loc id=some (.arr ver e sz hdr)∧szT P e=some sz∧rowAt w e sz hdr es.length xs∧Flat S sz es xs∧off+m<=es.length∧
   ((m=0∧∃ad c,t= .slice ad 0 c)∨∃g n c cc,hdr= .slice (some ⟨g,0,none⟩) n c∧t= .slice (some ⟨g,off*sz,none⟩) m cc):=by
 rcases x with _|_|_|_|_|_|⟨D,l⟩|_|_|_|⟨D,l,lo,hi⟩|_|_<;>first|exact fE s.boxes B|skip
 ·obtain⟨u,H,I,h1,j,_⟩:=M.bind_some B
  obtain⟨q,_,_⟩:=M.get_some h1
  cases u with
  |var _=>exact fE s.boxes j
  |dead=>exact fE s.boxes j
  |nest _ _ _ _ _=>exact fE s.boxes j
  |arr v2 e2 y=>
   by_cases f:l=v2
   rotate_left
   ·simp only [f,if_false]at j;exact fE s.boxes j
   simp only [f,if_true]at j
   obtain⟨z, -, -⟩:=M.tB (b:=s.boxes) j
   subst f
   cases z
   obtain⟨sz,xs,k,p,how,hf⟩:=h.xK q E
   refine⟨sz,xs,t,q,k,p,how,hf,za,?_⟩
   rcases how with⟨_,⟨rfl,C⟩|⟨g,cap,cur,_,rfl,_⟩⟩|⟨C,_,a,rfl⟩
   ·exact .inl ⟨C,none,0,rfl⟩
   ·exact .inr ⟨g,es.length,cap,cap,rfl,zb⟩
   ·exact .inl ⟨C,a,0,rfl⟩
 ·obtain⟨u,H,I,h1,j,_⟩:=M.bind_some B
  obtain⟨q,_,_⟩:=M.get_some h1
  cases u with
  |var _=>exact fE s.boxes j
  |dead=>exact fE s.boxes j
  |nest _ _ _ _ _=>exact fE s.boxes j
  |arr v2 e2 y=>
   by_cases f:l=v2
   rotate_left
   ·simp only [f,if_false]at j;exact fE s.boxes j
   simp only [f,if_true]at j
   obtain⟨z, -,F⟩:=M.tK (b:=s.boxes) j
   subst f
   cases z
   obtain⟨J,K⟩:=of_decide_eq_true F.symm
   obtain⟨sz,xs,hdr,k,p,how,hf,_,G⟩:=h.Ae q E
   refine⟨sz,xs,hdr,q,k,p,how,hf,za,?_⟩
   rcases G with⟨rfl,a,rfl⟩|⟨g,n,c,rfl,_,_,rfl⟩
   ·exact .inl ⟨za,a,0,rfl⟩
   ·exact .inr ⟨g,n,c,_,rfl,rfl⟩
theorem CQ{t e:TypeId}(h:uA P t=some e):P.underlying t=some (.slice e):=by
 unfold uA at h
 split at h
 ·rename_i a;cases h;exact a
 ·cases h
theorem CM(h:Sim P X S loc s tm w){t t' ty:TypeId}{x y v:RV}{u:Ups}{r:List Nat}{vx vy:Value}(f:yW P t x y s.boxes=some ((v,u),r,true))(hx:R S loc x vx)(hy:R S loc y vy):
  ∃v' w' S' loc',(F8 #[t,t'] ty #[vx,vy]).run P w= .ok v' w'∧Sim P X S' loc' (s.ups u) tm w'∧R S' loc' v v':=by
 unfold yW at f
 rcases he:uA P t with _|e
 ·simp only [he]at f;exact fE s.boxes f
 simp only [he]at f
 have hu:=CQ he
 rcases hk:szT P e with _|_|k
 ·simp only [hk]at f;exact fE s.boxes f
 ·simp only [hk]at f;exact fE s.boxes f
 simp only [hk]at f
 obtain⟨⟨id,ver,e',es,off,m⟩,r1,r2,h1,T,_⟩:=M.bind_some f
 obtain⟨ys,r3,r4,h3,W,_⟩:=M.bind_some T
 obtain⟨h5, -,Y⟩:=M.tK (b:=s.boxes) W
 cases h5
 clear f T W
 simp only [Bool.true_eq,Bool.and_eq_true,decide_eq_true_eq,List.all_eq_true,beq_iff_eq]at Y
 obtain⟨rfl,Q⟩:=Y
 obtain⟨sz,xs,hdr,hb,E,H,how,hf,hle,hd⟩:=dst_at h h1 hx
 rw [hk]at H
 cases H
 obtain⟨a,c,news,rfl,F,K,q⟩:=wa h h3 hy (F6 k) Q
 obtain⟨i,hi,C⟩:∃i,P.info? e=some i∧i.size=k+1:=by
  unfold szT at hk
  cases hq:P.info? e with
  |none=>simp [hq]at hk
  |some i=>exact⟨i,rfl,by simpa [hq]using hk⟩
 by_cases hm:F5 ys.length m=0
 ·have O:(s.ups [(id,.arr ver e (es.take off++ys.take (F5 ys.length m)++es.drop (off+F5 ys.length m)))])=s:=by
   have e1:es.take off++ys.take (F5 ys.length m)++es.drop (off+F5 ys.length m)=es:=by rw [hm];simp
   rw [e1]
   show({ s with boxes:=upd s.boxes id (.arr ver e es) }:St)=s
   rw [Dd hb]
  refine⟨goInt 0,w,S,loc,?_,by rw [O];exact h,by rw [hm];exact .d (.int _ _)⟩
  have B:(FX i.size 0 (.slice a ys.length c)).run P w= .ok #[] w:=by
   cases a<;>simp [FX,loadCells,loadCellsFrom]
  rcases hd with⟨rfl,ad,cc,rfl⟩|⟨g,n,c',cc,_,rfl⟩
  ·cases ad<;>simp [F8,run_underlying hu,FY,sizeOf,typeInfo,hi,B,storeCells]
  ·have L:min ys.length m=0:=hm
   simp [F8,run_underlying hu,FY,sizeOf,typeInfo,hi,B,storeCells,L]
 ·have N:0<F5 ys.length m:=Nat.pos_of_ne_zero hm
  have l:F5 ys.length m<=ys.length:=Nat.min_le_left _ _
  have a5:F5 ys.length m<=m:=Nat.min_le_right _ _
  rcases hd with⟨rfl,_⟩|⟨g,n,c',cc,hh,rfl⟩
  ·omega
  obtain⟨ad,rfl,J⟩:=q (by intro e0;apply hm;rw [e0];exact Nat.zero_min _)
  have z:(ys.take (F5 ys.length m)).length=F5 ys.length m:=by rw [FR];exact FM l
  obtain⟨w',G,p⟩:=h.De (off:=off) E hk how hf (K.take (F5 ys.length m)) (by rw [FR,z,F];exact FM (E5 _ l)) (by rw [z];omega) hh za
  rw [z]at p
  have D := run_firstCells_some (P := P) w (k + 1) (F5 ys.length m) ad ys.length c (news.take (F5 ys.length m * (k + 1))) (by rw [FR, F]; exact FM (E5 _ l)) (λj v I => by
   rw [EG]at I
   split at I
   ·exact J j v I
   ·cases I)
  refine⟨_,w',S,_,?_,p,.d (.int _ _)⟩
  simp only [C]at D⊢
  simp [F8,run_underlying hu,FY,sizeOf,typeInfo,hi,C,D,G]
  rfl
theorem BY{v:Value}{p:PD}(h:Ag v=some p):V S p v∧p.one=true∧v.cells= #[v]∧v.oneCell'=true:=by
 unfold Ag at h
 unfold vO at h
 split at h
 ·rename_i q a
  cases h
  split at a<;>cases a
  ·exact⟨.bool _,rfl,rfl,rfl⟩
  ·exact⟨.int _ _,rfl,rfl,rfl⟩
  ·exact⟨.str _,rfl,rfl,rfl⟩
  all_goals exact⟨.raw _ rfl,rfl,rfl,rfl⟩
 ·rename_i a
  cases h
  split at a<;>cases a
  exact⟨.nil _ _,rfl,rfl,rfl⟩
 ·cases h
theorem BZ:∀{vs:List Value}{a:List PD},Ah vs=some a->a.length=vs.length∧∀(i:Nat)p v,a[i]? =some p->vs[i]? =some v->V S p v∧p.one=true∧v.oneCell'=true
 | [],a,h=>by cases h;exact⟨rfl,λi p v h1=>by simp at h1⟩
 |v::r,a,h=>by
  unfold Ah at h
  split at h
  ·rename_i p l h1 f
   cases h
   obtain⟨i1,i2⟩:=BZ f
   obtain⟨g,j,_,k⟩:=BY (S:=S) h1
   refine⟨by simp [i1],λi q u c hu=>?_⟩
   cases i with
   |zero=>simp at c hu;subst c;subst hu;exact⟨g,j,k⟩
   |succ i=>exact i2 i q u (by simpa using c) (by simpa using hu)
  ·cases h
theorem BG{v:Value}{p:PD}(h:vB v=some p):v.cells.size=p.cells.length∧∀(i:Nat)q u,p.cells[i]? =some q->v.cells[i]? =some u->V S q u∧u.oneCell'=true:=by
 have one:Ag v=some p->v.cells.size=p.cells.length∧∀(i:Nat)q u,p.cells[i]? =some q->v.cells[i]? =some u->V S q u∧u.oneCell'=true:=λh=>by
  obtain⟨h1,f,g,j⟩:=BY (S:=S) h
  have hc:p.cells=[p]:=by cases p<;>first|rfl|simp [PD.one]at f
  rw [hc,g]
  refine⟨rfl,λi q u a hu=>?_⟩
  cases i with
  |zero=>simp at a hu;subst a;subst hu;exact⟨h1,j⟩
  |succ i=>simp at a
 unfold vB at h
 split at h
 ·rename_i cs
  cases c:Ah cs.toList with
  |none=>simp [c]at h
  |some l=>
   simp only [c,Option.map_some,Option.some.injEq]at h
   subst h
   obtain⟨i1,i2⟩:=BZ (S:=S) c
   refine⟨by simp [Value.cells,PD.cells,i1],λi q u a hu=>?_⟩
   obtain⟨k,_,k3⟩:=i2 i q u a (by simpa [Value.cells]using hu)
   exact⟨k,k3⟩
 ·exact one h
theorem vt{z:Value}{p:PD}(h:vB z=some p){k:Nat}(hk:p.cells.length=k+1)(n:Nat):Flat S (k+1) (EA n p) (Fb z.cells n).toList∧(Fb z.cells n).toList.length=n*(k+1):=by
 obtain⟨h1,y⟩:=BG (S:=S) h
 have hs:z.cells.size=k+1:=by omega
 have c:∀(q:Nat)u,(Fb z.cells n).toList[q]? =some u->q<n*(k+1)∧z.cells[q%(k+1)]? =some u:=by
  intro q u l
  simp only [Fb,hs,Array.toList_map,Array.toList_range,List.getElem?_map,Option.map_eq_some_iff]at l
  obtain⟨D,t,rfl⟩:=l
  obtain⟨a,he⟩:=List.getElem?_eq_some_iff.1 t
  simp at a he
  subst he
  have hm:q%(k+1)<z.cells.size:=by rw [hs];exact FC _ (F6 k)
  exact⟨a,by rw [Array.getElem?_eq_getElem hm,getElem!_pos z.cells _ hm]⟩
 have hlen:(Fb z.cells n).toList.length=n*(k+1):=by simp [Fb,hs]
 refine⟨⟨λe he=>by rw [List.eq_of_mem_replicate he];exact hk,λu hu=>?_,λi e j x hi B=>?_⟩,hlen⟩
 ·obtain⟨q,l,rfl⟩:=List.getElem_of_mem hu
  obtain⟨_,g⟩:=c q _ (ze l)
  have hm:q%(k+1)<p.cells.length:=by rw [hk];exact FC _ (F6 k)
  exact(y _ _ _ (ze hm) g).2
 ·rw [List.getElem?_replicate]at hi
  by_cases a:i<n
  rotate_left
  ·rw [if_neg a]at hi;cases hi
  rw [if_pos a]at hi
  cases hi
  have r:j<k+1:=by rw [<-hk];exact(List.getElem?_eq_some_iff.1 B).1
  have hm:(i+1)*(k+1)<=n*(k+1):=E5 _ a
  rw [E3,E6]at hm
  have f:i*(k+1)+j<(Fb z.cells n).toList.length:=by rw [hlen];omega
  obtain⟨_,g⟩:=c _ _ (ze f)
  refine⟨_,ze f,?_⟩
  have C:(i*(k+1)+j)%(k+1)=j:=by rw [Nat.mul_comm,Nat.mul_add_mod];exact Nat.mod_eq_of_lt r
  rw [C]at g
  exact(y j x _ B g).1
theorem B9(h:Sim P X S loc s tm w){t ty:TypeId}{x v:RV}{u:Ups}{r:List Nat}{K:Value}(a:xn P t x s.boxes=some ((v,u),r,true))(W:R S loc x K):
  ∃v' w' S' loc',(F7 #[t] ty #[K]).run P w= .ok v' w'∧Sim P X S' loc' (s.ups u) tm w'∧R S' loc' v v':=by
 unfold xn at a
 rcases he:uA P t with _|e
 ·simp only [he]at a;exact fE s.boxes a
 simp only [he]at a
 have hu:=uW he
 rcases hk:szT P e with _|_|k
 ·simp only [hk]at a;exact fE s.boxes a
 ·simp only [hk]at a;exact fE s.boxes a
 rcases D:(uE P e).bind vB with _|z
 ·simp only [hk,D]at a;exact fE s.boxes a
 simp only [hk,D]at a
 obtain⟨⟨id,ver,e',es,off,m⟩,r1,r2,h1,H,_⟩:=M.bind_some a
 obtain⟨O, -,I⟩:=M.tK (b:=s.boxes) H
 cases O
 clear a H
 simp only [Bool.true_eq,Bool.and_eq_true,decide_eq_true_eq,beq_iff_eq]at I
 obtain⟨rfl,G⟩:=I
 obtain⟨zv,E,F⟩:=Option.bind_eq_some_iff.1 D
 obtain⟨i,hi,B⟩:=vu E
 obtain⟨sz,xs,hdr,Q,j,p,how,hf,hle,J⟩:=dst_at h h1 W
 rw [hk]at p
 cases p
 obtain⟨q,y⟩:=vt (S:=S) F G m
 by_cases hm:m=0
 ·subst hm
  have C:(s.ups [(id,.arr ver e (es.take off++EA 0 z++es.drop (off+0)))])=s:=by
   have N:es.take off++EA 0 z++es.drop (off+0)=es:=by simp
   rw [N]
   show({ s with boxes:=upd s.boxes id (.arr ver e es) }:St)=s
   rw [Dd Q]
  refine⟨.tuple #[],w,S,loc,?_,by rw [C];exact h,.tup [] #[] rfl (λi c v h1=>by simp at h1)⟩
  rcases J with⟨_,ad,cc,rfl⟩|⟨g,n,L,cc,_,rfl⟩
  ·cases ad<;>simp [F7,run_underlying hu]
  ·simp [F7,run_underlying hu]
 ·rcases J with⟨rfl,_⟩|⟨g,n,L,cc,T,rfl⟩
  ·exact(hm rfl).elim
  obtain⟨w',l,f⟩:=h.De (off:=off) j hk how hf q (by rw [y,F4]) (by rw [F4];omega) T (by rw [F4];omega)
  rw [F4]at f
  refine⟨.tuple #[],w',S,_,?_,f,.tup [] #[] rfl (λi c v h1=>by simp at h1)⟩
  obtain⟨m,rfl⟩:∃Y,m=Y+1:=⟨m-1,za⟩
  simp [F7,run_underlying hu,zeroValue,typeInfo,hi,B,l]
theorem D1:∀{l:List RV}{vs:List Value}{k:IntKind}{n m:Int},minL n l=some m->l.length=vs.length->(∀(i:Nat)a v,l[i]? =some a->vs[i]? =some v->R S loc a v)->
  (vs.foldlM Fa (Value.int k n)).run P w= .ok (.int k m) w
 | [],[],k,n,m,h,_,_=>by cases h;rfl
 | [],_::_,_,_,_,_,c,_=>by simp at c
 |_::_,[],_,_,_,_,c,_=>by simp at c
 |x::l,v::vs,k,n,m,h,c,f=>by
  rcases x with p|_|_|_|_|_|_|_|_|_|_|_|_<;>first|(simp [minL]at h;done)|skip
  cases p<;>first|(simp [minL]at h;done)|skip
  rename_i k' g
  have e:=(f 0 _ v rfl rfl).uo
  subst e
  have j:minL (if g<n then g else n) l=some m:=h
  have r:=D1 (k:=k) (vs:=vs) j (by simpa using c) (λi a u h1 q=>f (i+1) a u (by simpa using h1) (by simpa using q))
  simp only [F3,Fa,pure_bind]
  exact r
theorem D0:∀{l:List RV}{vs:List Value}{k:IntKind}{n m:Int},maxL n l=some m->l.length=vs.length->(∀(i:Nat)a v,l[i]? =some a->vs[i]? =some v->R S loc a v)->
  (vs.foldlM F9 (Value.int k n)).run P w= .ok (.int k m) w
 | [],[],k,n,m,h,_,_=>by cases h;rfl
 | [],_::_,_,_,_,_,c,_=>by simp at c
 |_::_,[],_,_,_,_,c,_=>by simp at c
 |x::l,v::vs,k,n,m,h,c,f=>by
  rcases x with p|_|_|_|_|_|_|_|_|_|_|_|_<;>first|(simp [maxL]at h;done)|skip
  cases p<;>first|(simp [maxL]at h;done)|skip
  rename_i k' g
  have e:=(f 0 _ v rfl rfl).uo
  subst e
  have j:maxL (if g>n then g else n) l=some m:=h
  have r:=D0 (k:=k) (vs:=vs) j (by simpa using c) (λi a u h1 q=>f (i+1) a u (by simpa using h1) (by simpa using q))
  simp only [F3,F9,pure_bind]
  exact r
theorem DH{l:List RV}{vs:Array Value}{v:RV}{u:Ups}{r:List Nat}{b:tY}{ts:Array TypeId}{ty:TypeId}(c:minD l b=some ((v,u),r,true))(hlen:l.length=vs.size)(f:∀(i:Nat)a v,l[i]? =some a->vs[i]? =some v->R S loc a v):
  ∃v',(Builtin.min_ ts ty vs).run P w= .ok v' w∧R S loc v v'∧u=[]:=by
 obtain⟨vs⟩:=vs
 rcases l with _|⟨x,l⟩
 ·exact fE b c
 rcases vs with _|⟨y,vs⟩
 ·simp at hlen
 rcases x with p|_|_|_|_|_|_|_|_|_|_|_|_<;>first|exact fE b c|skip
 cases p<;>first|exact fE b c|skip
 rename_i k n
 simp only [minD]at c
 rcases hm:minL n l with _|m
 ·simp only [hm]at c;exact fE b c
 simp only [hm]at c
 obtain⟨h1, -, -⟩:=M.tB (b:=b) c
 cases h1
 have e:=(f 0 _ y rfl rfl).uo
 subst e
 refine⟨.int k m,?_,.d (.int _ _),rfl⟩
 exact D1 hm (by simpa using hlen) (λi a u h1 g=>f (i+1) a u (by simpa using h1) (by simpa using g))
theorem DG{l:List RV}{vs:Array Value}{v:RV}{u:Ups}{r:List Nat}{b:tY}{ts:Array TypeId}{ty:TypeId}(c:maxD l b=some ((v,u),r,true))(hlen:l.length=vs.size)(f:∀(i:Nat)a v,l[i]? =some a->vs[i]? =some v->R S loc a v):
  ∃v',(Builtin.max_ ts ty vs).run P w= .ok v' w∧R S loc v v'∧u=[]:=by
 obtain⟨vs⟩:=vs
 rcases l with _|⟨x,l⟩
 ·exact fE b c
 rcases vs with _|⟨y,vs⟩
 ·simp at hlen
 rcases x with p|_|_|_|_|_|_|_|_|_|_|_|_<;>first|exact fE b c|skip
 cases p<;>first|exact fE b c|skip
 rename_i k n
 simp only [maxD]at c
 rcases hm:maxL n l with _|m
 ·simp only [hm]at c;exact fE b c
 simp only [hm]at c
 obtain⟨h1, -, -⟩:=M.tB (b:=b) c
 cases h1
 have e:=(f 0 _ y rfl rfl).uo
 subst e
 refine⟨.int k m,?_,.d (.int _ _),rfl⟩
 exact D0 hm (by simpa using hlen) (λi a u h1 g=>f (i+1) a u (by simpa using h1) (by simpa using g))
end
end Go.Dw
