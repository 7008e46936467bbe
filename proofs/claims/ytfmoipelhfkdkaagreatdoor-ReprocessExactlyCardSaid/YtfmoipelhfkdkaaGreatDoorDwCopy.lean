
import Derived.Test.YtfmoipelhfkdkaaGreatDoorDwGrow
open List renaming foldlM_cons->EZ, getElem?_drop->DE, getElem?_take->DF, length_append->ET, length_drop->EF, length_replicate->E0, length_take->EG, mem_of_mem_drop->EH, mem_of_mem_take->EI, replicate->B2
open Nat renaming add_mul->D1, min_eq_left->EB, mod_lt->Dq, mul_le_mul_right->D3, one_mul->D4, succ_pos->E1
open Go.Builtin renaming clear_->E2, max2->E3, min2->E4, zeroCells->EO

namespace Go.Dw
section
variable {P:Program}{X:Ctx}{S:rC}{loc:sf}{s:St}{tm:Array Value}{w:World}
theorem upd_self{α:Type}{f:Nat->Option α}{id:Nat}{x:α}(h:f id=some x):upd f id x=f:=by
 funext i
 by_cases hi:i=id
 ·subst hi;rw [ru,h]
 ·exact si _ _ hi
theorem Flat.take{sz:Nat}{es:List PD}{xs:List Value}(h:Flat S sz es xs)(n:Nat):Flat S sz (es.take n) (xs.take (n*sz)):=by
 refine⟨fun e he=>h.len e (EI he),fun u hu=>h.one u (EI hu),fun i e j x hi g=>?_⟩
 rw [DF]at hi
 split at hi
 ·rename_i f
  obtain⟨u,hu,q⟩:=h.cell i e j x hi g
  have k:j<sz:=by rw [<-h.len e (List.mem_of_getElem? hi)];exact(List.getElem?_eq_some_iff.1 g).1
  have hm:(i+1)*sz<=n*sz:=D3 _ f
  rw [D1,D4]at hm
  exact⟨u,by rw [DF,if_pos za];exact hu,q⟩
 ·cases hi
theorem Flat.drop{sz:Nat}{es:List PD}{xs:List Value}(h:Flat S sz es xs)(n:Nat):Flat S sz (es.drop n) (xs.drop (n*sz)):=by
 refine⟨fun e he=>h.len e (EH he),fun u hu=>h.one u (EH hu),fun i e j x hi f=>?_⟩
 rw [DE]at hi
 obtain⟨u,hu,g⟩:=h.cell (n+i) e j x hi f
 refine⟨u,?_,g⟩
 rw [DE, <-hu,D1]
 congr 1
 omega
theorem Sim.writeRow(h:Sim P X S loc s tm w){id ver sz:Nat}{e:TypeId}{es j:List PD}{xs news:List Value}{hdr:Value}(f:loc id=some (.arr ver e sz hdr))(J:szT P e=some sz)
  (how:rowAt w e sz hdr es.length xs) (hf:Flat S sz es xs) (O:Flat S sz j news) (q:news.length=j.length*sz) {off:Nat} (hle:off+j.length<=es.length) {g n c:Nat} (I:hdr= .slice (some ⟨g,0,none⟩) n c) (N:0<j.length):
  ∃w',(storeCells ⟨g,off*sz,none⟩ news).run P w= .ok () w'∧Sim P X S (upd loc id (.arr ver e sz hdr)) { s with boxes:=upd s.boxes id (.arr ver e (es.take off++j++es.drop (off+j.length))) } tm w':=by
 have how:=how.vP za
 rcases how.2 with⟨he,_⟩|⟨T,cap,cur,fz,he,B,L,C,H,u,r⟩
 ·rw [I]at he;cases he
 rw [I]at he
 cases he
 have E:xs.length=es.length*sz:=how.1
 have K:es.length*sz<=cur.size:=by
  rw [u];exact D3 _ C
 have hm:off*sz+news.length<=es.length*sz:=by rw [q, <-D1];exact D3 _ hle
 obtain⟨c,rfl⟩:∃Q,c=Q+1:=⟨c-1,za⟩
 have D:=uA P g (off*sz) e fz cur.size (B.free u) news 0 cur w rfl L za O.one
 refine⟨_,D,?_⟩
 subst I
 refine h.sq (Step.setRow w g _) id _ _ (fun b' G=>by cases G;exact⟨_,f,rfl⟩) ?_ (fun b' F=>by cases F;exact .inl ⟨_,f,rfl⟩) (by rw [f];exact .same _)
 have hlen:(es.take off++j++es.drop (off+j.length)).length=es.length:=by
  simp only [ET,EG,EF];omega
 refine .arr ver e _ sz _ (xs.take (off*sz)++news++xs.drop ((off+j.length)*sz)) J ?_ ?_
 ·rw [hlen]
  refine .inl ⟨?_,.inr ⟨g,c+1,_,_,rfl,B,setRow_heap w g cur _ e _ L,C,H,?_,?_⟩⟩
  ·simp only [ET,EG,EF,E,D1];omega
  ·simp only [List.size_toArray,ET,EG,EF,Array.length_toList];omega
  ·rw [<-r]
   apply List.ext_getElem?
   intro k
   have e2:(off+j.length)*sz=off*sz+news.length:=by rw [D1,q]
   rw [e2,Nat.add_zero,DF,tK _ _ _ _ _ rfl so]
   rw [tK _ _ _ _ _ rfl so]
   rw [DF]
   by_cases hk:k<es.length*sz
   ·rw [if_pos hk,if_pos hk]
   ·rw [if_neg hk,if_neg za,if_neg hk]
 ·refine Flat.append (Flat.append (hf.take off) ?_ O) ?_ (hf.drop _)
  ·rw [EG,EG,E]
   rw [EB (by have:=D3 sz (show off<=es.length by omega);omega),EB za]
  ·have:(xs.take (off*sz)).length=off*sz:=by rw [EG,EB za]
   rw [ET,this,q,ET,EG,EB za,D1]
theorem dst_at(h:Sim P X S loc s tm w){x:RV}{C:Value}{id ver off m:Nat}{e:TypeId}{es:List PD}{r:List Nat}(hl:dstM x s.boxes=some ((id,ver,e,es,off,m),r,true))(I:R S loc x C):
  ∃sz xs hdr,s.boxes id=some (.arr ver e es)∧loc id=some (.arr ver e sz hdr)∧szT P e=some sz∧rowAt w e sz hdr es.length xs∧Flat S sz es xs∧off+m<=es.length∧
   ((m=0∧∃ad c,C= .slice ad 0 c)∨∃g n c J,hdr= .slice (some ⟨g,0,none⟩) n c∧C= .slice (some ⟨g,off*sz,none⟩) m J):=by
 rcases x with _|_|_|_|_|_|⟨H,q⟩|_|_|_|⟨H,q,lo,hi⟩|_|_<;>first|exact fE s.boxes hl|skip
 ·obtain⟨D,N,O,h1,j,_⟩:=M.bind_some hl
  obtain⟨B,_,_⟩:=M.get_some h1
  cases D with
  |var _=>exact fE s.boxes j
  |dead=>exact fE s.boxes j
  |map _ _ _=>exact fE s.boxes j
  |nest _ _ _ _ _=>exact fE s.boxes j
  |hole _ _ _ _ _ _=>exact fE s.boxes j
  |arr v2 e2 E=>
   by_cases f:q=v2
   rotate_left
   ·simp only [f,if_false]at j;exact fE s.boxes j
   simp only [f,if_true]at j
   obtain⟨F, -, -⟩:=M.qw (b:=s.boxes) j
   subst f
   cases F
   obtain⟨sz,xs,k,u,how,hf⟩:=h.vL B I
   refine⟨sz,xs,C,B,k,u,how,hf,za,?_⟩
   rcases how with⟨_,⟨rfl,G⟩|⟨g,cap,cur,_,rfl,_⟩⟩|⟨G,_,a,rfl⟩
   ·exact .inl ⟨G,none,0,rfl⟩
   ·exact .inr ⟨g,es.length,cap,cap,rfl,zc⟩
   ·exact .inl ⟨G,a,0,rfl⟩
 ·obtain⟨D,N,O,h1,j,_⟩:=M.bind_some hl
  obtain⟨B,_,_⟩:=M.get_some h1
  cases D with
  |var _=>exact fE s.boxes j
  |dead=>exact fE s.boxes j
  |map _ _ _=>exact fE s.boxes j
  |nest _ _ _ _ _=>exact fE s.boxes j
  |hole _ _ _ _ _ _=>exact fE s.boxes j
  |arr v2 e2 E=>
   by_cases f:q=v2
   rotate_left
   ·simp only [f,if_false]at j;exact fE s.boxes j
   simp only [f,if_true]at j
   obtain⟨F, -,K⟩:=M.rm (b:=s.boxes) j
   subst f
   cases F
   obtain⟨Q,T⟩:=of_decide_eq_true K.symm
   obtain⟨sz,xs,hdr,k,u,how,hf,_,L⟩:=h.yt B I
   refine⟨sz,xs,hdr,B,k,u,how,hf,za,?_⟩
   rcases L with⟨rfl,a,rfl⟩|⟨g,n,c,rfl,_,_,rfl⟩
   ·exact .inl ⟨za,a,0,rfl⟩
   ·exact .inr ⟨g,n,c,_,rfl,rfl⟩
theorem yQ{v:Value}{p:PD}(h:yw v=some p):V S p v∧p.one=true∧v.cells= #[v]∧v.oneCell'=true:=by
 unfold yw at h
 unfold ub at h
 split at h
 ·rename_i q f
  cases h
  split at f<;>cases f
  ·exact⟨.bool _,rfl,rfl,rfl⟩
  ·exact⟨.int _ _,rfl,rfl,rfl⟩
  ·exact⟨.str _,rfl,rfl,rfl⟩
  all_goals exact⟨.raw _ rfl,rfl,rfl,rfl⟩
 ·rename_i f
  cases h
  split at f<;>cases f
  exact⟨.nil _ _,rfl,rfl,rfl⟩
 ·cases h
theorem yR:∀{vs:List Value}{ps:List PD},xx vs=some ps->ps.length=vs.length∧∀(i:Nat)p v,ps[i]? =some p->vs[i]? =some v->V S p v∧p.one=true∧v.oneCell'=true
 | [],ps,h=>by cases h;exact⟨rfl,fun i p v h1=>by simp at h1⟩
 |v::r,ps,h=>by
  unfold xx at h
  split at h
  ·rename_i p l h1 g
   cases h
   obtain⟨i1,i2⟩:=yR g
   obtain⟨j,k,_,B⟩:=yQ (S:=S) h1
   refine⟨by simp [i1],fun i q u f hu=>?_⟩
   cases i with
   |zero=>simp at f hu;subst f;subst hu;exact⟨j,k,B⟩
   |succ i=>exact i2 i q u (by simpa using f) (by simpa using hu)
  ·cases h
theorem AD{v:Value}{p:PD}(h:ta v=some p):v.cells.size=p.cells.length∧∀(i:Nat)q u,p.cells[i]? =some q->v.cells[i]? =some u->V S q u∧u.oneCell'=true:=by
 have one:yw v=some p->v.cells.size=p.cells.length∧∀(i:Nat)q u,p.cells[i]? =some q->v.cells[i]? =some u->V S q u∧u.oneCell'=true:=fun h=>by
  obtain⟨h1,j,k,r⟩:=yQ (S:=S) h
  have hc:p.cells=[p]:=by cases p<;>first|rfl|simp [PD.one]at j
  rw [hc,k]
  refine⟨rfl,fun i q u f hu=>?_⟩
  cases i with
  |zero=>simp at f hu;subst f;subst hu;exact⟨h1,r⟩
  |succ i=>simp at f
 unfold ta at h
 split at h
 ·rename_i cs
  cases g:xx cs.toList with
  |none=>simp [g]at h
  |some ps=>
   simp only [g,Option.map_some,Option.some.injEq]at h
   subst h
   obtain⟨i1,i2⟩:=yR (S:=S) g
   refine⟨by simp [Value.cells,PD.cells,i1],fun i q u f hu=>?_⟩
   obtain⟨B,_,k3⟩:=i2 i q u f (by simpa [Value.cells]using hu)
   exact⟨B,k3⟩
 ·exact one h
theorem tN{z:Value}{p:PD}(h:ta z=some p){k:Nat}(hk:p.cells.length=k+1)(n:Nat):Flat S (k+1) (B2 n p) (EO z.cells n).toList∧(EO z.cells n).toList.length=n*(k+1):=by
 obtain⟨h1,F⟩:=AD (S:=S) h
 have hs:z.cells.size=k+1:=by omega
 have g:∀(q:Nat)u,(EO z.cells n).toList[q]? =some u->q<n*(k+1)∧z.cells[q%(k+1)]? =some u:=by
  intro q u C
  simp only [EO,hs,Array.toList_map,Array.toList_range,List.getElem?_map,Option.map_eq_some_iff]at C
  obtain⟨I,E,rfl⟩:=C
  obtain⟨f,he⟩:=List.getElem?_eq_some_iff.1 E
  simp at f he
  subst he
  have hm:q%(k+1)<z.cells.size:=by rw [hs];exact Dq _ (E1 k)
  exact⟨f,by rw [Array.getElem?_eq_getElem hm,getElem!_pos z.cells _ hm]⟩
 have hlen:(EO z.cells n).toList.length=n*(k+1):=by simp [EO,hs]
 refine⟨⟨fun e he=>by rw [List.eq_of_mem_replicate he];exact hk,fun u hu=>?_,fun i e j x hi G=>?_⟩,hlen⟩
 ·obtain⟨q,C,rfl⟩:=List.getElem_of_mem hu
  obtain⟨_,B⟩:=g q _ (zf C)
  have hm:q%(k+1)<p.cells.length:=by rw [hk];exact Dq _ (E1 k)
  exact(F _ _ _ (zf hm) B).2
 ·rw [List.getElem?_replicate]at hi
  by_cases f:i<n
  rotate_left
  ·rw [if_neg f]at hi;cases hi
  rw [if_pos f]at hi
  cases hi
  have D:j<k+1:=by rw [<-hk];exact(List.getElem?_eq_some_iff.1 G).1
  have hm:(i+1)*(k+1)<=n*(k+1):=D3 _ f
  rw [D1,D4]at hm
  have r:i*(k+1)+j<(EO z.cells n).toList.length:=by rw [hlen];omega
  obtain⟨_,B⟩:=g _ _ (zf r)
  refine⟨_,zf r,?_⟩
  have H:(i*(k+1)+j)%(k+1)=j:=by rw [Nat.mul_comm,Nat.mul_add_mod];exact Nat.mod_eq_of_lt D
  rw [H]at B
  exact(F j x _ G B).1
theorem A7(h:Sim P X S loc s tm w){t ty:TypeId}{x v:RV}{u:Ups}{r:List Nat}{Q:Value}(hl:vM P t x s.boxes=some ((v,u),r,true))(hx:R S loc x Q):
  ∃v' w' S' loc',(E2 #[t] ty #[Q]).run P w= .ok v' w'∧Sim P X S' loc' (s.ups u) tm w'∧R S' loc' v v':=by
 unfold vM at hl
 rcases he:ss P t with _|e
 ·simp only [he]at hl;exact fE s.boxes hl
 simp only [he]at hl
 have hu:=sQ he
 rcases hk:szT P e with _|_|k
 ·simp only [hk]at hl;exact fE s.boxes hl
 ·simp only [hk]at hl;exact fE s.boxes hl
 rcases G:(se P e).bind ta with _|z
 ·simp only [hk,G]at hl;exact fE s.boxes hl
 simp only [hk,G]at hl
 obtain⟨⟨id,ver,e',es,off,m⟩,r1,r2,h1,L,_⟩:=M.bind_some hl
 obtain⟨W, -,N⟩:=M.rm (b:=s.boxes) L
 cases W
 clear hl L
 simp only [Bool.true_eq,Bool.and_eq_true,decide_eq_true_eq,beq_iff_eq]at N
 obtain⟨rfl,J⟩:=N
 obtain⟨zv,H,I⟩:=Option.bind_eq_some_iff.1 G
 obtain⟨i,hi,E⟩:=tv H
 obtain⟨sz,xs,hdr,Y,j,B,how,hf,hle,O⟩:=dst_at h h1 hx
 rw [hk]at B
 cases B
 obtain⟨C,D⟩:=tN (S:=S) I J m
 by_cases hm:m=0
 ·subst hm
  have F:(s.ups [(id,.arr ver e (es.take off++B2 0 z++es.drop (off+0)))])=s:=by
   have U:es.take off++B2 0 z++es.drop (off+0)=es:=by simp
   rw [U]
   show({ s with boxes:=upd s.boxes id (.arr ver e es) }:St)=s
   rw [upd_self Y]
  refine⟨.tuple #[],w,S,loc,?_,by rw [F];exact h,.tup [] #[] rfl (fun i c v h1=>by simp at h1)⟩
  rcases O with⟨_,ad,K,rfl⟩|⟨g,n,T,K,_,rfl⟩
  ·cases ad<;>simp [E2,run_underlying hu]
  ·simp [E2,run_underlying hu]
 ·rcases O with⟨rfl,_⟩|⟨g,n,T,K,hh,rfl⟩
  ·exact(hm rfl).elim
  obtain⟨w',q,f⟩:=h.writeRow (off:=off) j hk how hf C (by rw [D,E0]) (by rw [E0];omega) hh (by rw [E0];omega)
  rw [E0]at f
  refine⟨.tuple #[],w',S,_,?_,f,.tup [] #[] rfl (fun i c v h1=>by simp at h1)⟩
  obtain⟨m,rfl⟩:∃m',m=m'+1:=⟨m-1,za⟩
  simp [E2,run_underlying hu,zeroValue,typeInfo,hi,E,q]
theorem CY:∀{l:List RV}{vs:List Value}{k:IntKind}{n m:Int},minL n l=some m->l.length=vs.length->(∀(i:Nat)a v,l[i]? =some a->vs[i]? =some v->R S loc a v)->
  (vs.foldlM E4 (Value.int k n)).run P w= .ok (.int k m) w
 | [],[],k,n,m,h,_,_=>by cases h;rfl
 | [],_::_,_,_,_,_,hl,_=>by simp at hl
 |_::_,[],_,_,_,_,hl,_=>by simp at hl
 |x::l,v::vs,k,n,m,h,hl,f=>by
  rcases x with p|_|_|_|_|_|_|_|_|_|_|_|_<;>first|(simp [minL]at h;done)|skip
  cases p<;>first|(simp [minL]at h;done)|skip
  rename_i k' g
  have e:=(f 0 _ v rfl rfl).rZ
  subst e
  have j:minL (if g<n then g else n) l=some m:=h
  have r:=CY (k:=k) (vs:=vs) j (by simpa using hl) (fun i a u h1 q=>f (i+1) a u (by simpa using h1) (by simpa using q))
  simp only [EZ,E4,pure_bind]
  exact r
theorem CX:∀{l:List RV}{vs:List Value}{k:IntKind}{n m:Int},maxL n l=some m->l.length=vs.length->(∀(i:Nat)a v,l[i]? =some a->vs[i]? =some v->R S loc a v)->
  (vs.foldlM E3 (Value.int k n)).run P w= .ok (.int k m) w
 | [],[],k,n,m,h,_,_=>by cases h;rfl
 | [],_::_,_,_,_,_,hl,_=>by simp at hl
 |_::_,[],_,_,_,_,hl,_=>by simp at hl
 |x::l,v::vs,k,n,m,h,hl,f=>by
  rcases x with p|_|_|_|_|_|_|_|_|_|_|_|_<;>first|(simp [maxL]at h;done)|skip
  cases p<;>first|(simp [maxL]at h;done)|skip
  rename_i k' g
  have e:=(f 0 _ v rfl rfl).rZ
  subst e
  have j:maxL (if g>n then g else n) l=some m:=h
  have r:=CX (k:=k) (vs:=vs) j (by simpa using hl) (fun i a u h1 q=>f (i+1) a u (by simpa using h1) (by simpa using q))
  simp only [EZ,E3,pure_bind]
  exact r
theorem CB{l:List RV}{vs:Array Value}{v:RV}{u:Ups}{r:List Nat}{b:rY}{ts:Array TypeId}{ty:TypeId}(hl:minD l b=some ((v,u),r,true))(hlen:l.length=vs.size)(f:∀(i:Nat)a v,l[i]? =some a->vs[i]? =some v->R S loc a v):
  ∃v',(Builtin.min_ ts ty vs).run P w= .ok v' w∧R S loc v v'∧u=[]:=by
 obtain⟨vs⟩:=vs
 rcases l with _|⟨x,l⟩
 ·exact fE b hl
 rcases vs with _|⟨y,vs⟩
 ·simp at hlen
 rcases x with p|_|_|_|_|_|_|_|_|_|_|_|_<;>first|exact fE b hl|skip
 cases p<;>first|exact fE b hl|skip
 rename_i k n
 simp only [minD]at hl
 rcases hm:minL n l with _|m
 ·simp only [hm]at hl;exact fE b hl
 simp only [hm]at hl
 obtain⟨h1, -, -⟩:=M.qw (b:=b) hl
 cases h1
 have e:=(f 0 _ y rfl rfl).rZ
 subst e
 refine⟨.int k m,?_,.d (.int _ _),rfl⟩
 exact CY hm (by simpa using hlen) (fun i a u h1 g=>f (i+1) a u (by simpa using h1) (by simpa using g))
theorem CA{l:List RV}{vs:Array Value}{v:RV}{u:Ups}{r:List Nat}{b:rY}{ts:Array TypeId}{ty:TypeId}(hl:maxD l b=some ((v,u),r,true))(hlen:l.length=vs.size)(f:∀(i:Nat)a v,l[i]? =some a->vs[i]? =some v->R S loc a v):
  ∃v',(Builtin.max_ ts ty vs).run P w= .ok v' w∧R S loc v v'∧u=[]:=by
 obtain⟨vs⟩:=vs
 rcases l with _|⟨x,l⟩
 ·exact fE b hl
 rcases vs with _|⟨y,vs⟩
 ·simp at hlen
 rcases x with p|_|_|_|_|_|_|_|_|_|_|_|_<;>first|exact fE b hl|skip
 cases p<;>first|exact fE b hl|skip
 rename_i k n
 simp only [maxD]at hl
 rcases hm:maxL n l with _|m
 ·simp only [hm]at hl;exact fE b hl
 simp only [hm]at hl
 obtain⟨h1, -, -⟩:=M.qw (b:=b) hl
 cases h1
 have e:=(f 0 _ y rfl rfl).rZ
 subst e
 refine⟨.int k m,?_,.d (.int _ _),rfl⟩
 exact CX hm (by simpa using hlen) (fun i a u h1 g=>f (i+1) a u (by simpa using h1) (by simpa using g))
end
end Go.Dw
