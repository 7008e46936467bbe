
import Derived.Test.YtgdhcacjeppglaaGreatDwGrow
set_option linter.unusedVariables false
set_option linter.unusedSimpArgs false
open List renaming getD->Ag, getElem?_append_left->AR, getElem?_append_right->AS, getElem?_cons_zero->AU, getElem?_map->As, getElem_mem->Ah, length_append->BH, length_singleton->BN, mem_append->BO, mem_flatMap->BP, mem_of_getElem?->A1, mem_range->BQ, range->AI, replicate->AA, take_nil->BR
open Bool renaming and_eq_true->Ac, and_true->BS, true_eq->Ad
open Array renaming getElem?_eq_getElem->Ak, range->Ao
open Option.some renaming inj->BT, injEq->AD
open Nat renaming le_refl->AB, sub_self->Ab

namespace Go.Dw
section
variable {P:Program}{X:Ctx}{S:cp}{loc:cJ}{s:St}{tm:Array Value}{w:World}
theorem mK(h:Sim P X S loc s tm w){t:TypeId}{len:Nat}{l:List (Nat×RV)}{pvs:Array (Nat×Value)}{v:RV}{u:Ups}{r:List Nat}
  (hl:kF P t len l s.boxes=some ((v,u),r,true)) (Q:kS S loc l pvs.toList):
  ∃v' w' S' loc',(Instr.buildSlice t len pvs).run P w= .ok v' w'∧Sim P X S' loc' (s.ups u) tm w'∧R S' loc' v v':=by
 unfold kF at hl
 rcases he:dm P t with _|e
 ·simp only [he]at hl;exact fE s.boxes hl
 simp only [he]at hl
 rcases hk:szT P e with _|_|k
 ·simp only [hk]at hl;exact fE s.boxes hl
 ·simp only [hk]at hl;exact fE s.boxes hl
 rcases I:df P e with _|z
 ·simp only [hk,I]at hl;exact fE s.boxes hl
 simp only [hk,I]at hl
 by_cases hc:len=1∧k+1<=2 ^ 24∧z.cells.size=k+1∧(cM P e=true∨k=0)
 rotate_left
 ·rw [if_neg hc]at hl;exact fE s.boxes hl
 rw [if_pos hc]at hl
 obtain⟨rfl,L,n,N⟩:=hc
 rcases hf:fS (fun i=>some (i*(k+1),k+1)) (AA 1 (cH z).cells).flatten l with _|cs
 ·simp only [hf]at hl;exact fE s.boxes hl
 simp only [hf]at hl
 obtain⟨K, -,g⟩:=M.cg (b:=s.boxes) hl
 cases K
 simp only [Ad,Ac]at g
 obtain⟨g,y⟩:=g
 obtain⟨W,z2⟩:=dO S loc z
 have f:(cH z).cells.length=k+1:=by rw [<-W];exact n
 have H:((Ao (1*(k+1))).map (z.cells[· %z.cells.size]!)).size=(AA 1 (cH z).cells).flatten.length:=by
  rw [cn,f];simp
 have G:∀(i:Nat)c x,(AA 1 (cH z).cells).flatten[i]? =some c->((Ao (1*(k+1))).map (z.cells[· %z.cells.size]!))[i]? =some x->R S loc c x:=by
  intro i c x o C
  have a:i<1*(k+1):=by
   have:=(List.getElem?_eq_some_iff.1 o).1
   rw [cn,f]at this
   exact this
  rw [de _ _ _ (by rw [f];exact a),f]at o
  rw [Array.getElem?_map,Array.getElem?_range,if_pos a]at C
  simp only [Option.map_some,AD,n]at C
  have hm:i%(k+1)<z.cells.size:=by rw [n];exact Nat.mod_lt _ om
  have O:z.cells[i%(k+1)]? =some x:=by
   rw [Ak hm, <-C]
   simp [hm]
  exact z2 _ c x o O
 obtain⟨vs,g1,g2,g3,g4,g5⟩:=eB l pvs.toList _ cs _ hf g Q H G
 rw [cn,f]at g3
 have p:∀x∈vs,x.oneCell'=true:=by
  intro x C
  obtain⟨i,o,E⟩:=Array.getElem_of_mem C
  have a:i<cs.length:=by omega
  exact((g4 i cs[i] x (zc a) (by rw [Ak o,E])).eo (List.all_eq_true.1 y _ (Ah a))).1
 have B:(Instr.buildSlice t 1 pvs).run P w= .ok (.slice (some ⟨w.heap.size,0,none⟩) 1 1) (w.alloc (.cells vs e)):=by
  obtain⟨i,o,F⟩:=c8 I
  have J:¬1*(k+1)=0:=by omega
  have D:¬(2 ^ 24<1*(k+1)):=by omega
  simp only [Instr.buildSlice,run_underlying (cW he),ct hk,Sem.run_bind,Result.andThen_ok,Sem.run_ite,gt_iff_lt,D,if_false,J,zeroValue,typeInfo,run_program,o,Sem.run_pure,F,g1,newRow,run_newObj,World.alloc_eq]
 obtain⟨n1,T,U⟩:=eF h e vs p
 refine⟨_,_,_,loc,B,n1,?_⟩
 have m:∀(j:Nat)x,cs[j]? =some x->vs.toList[j]? =some (vs.toList.getD j default):=fun j x q=>by
  have a:=(List.getElem?_eq_some_iff.1 q).1
  have:j<vs.toList.length:=by simp;omega
  simp [Ag,zc this]
 exact R.rlit (S:=dg S w.heap.size vs.toList) (loc:=loc) cs w.heap.size 0 1 (fun j=>vs.toList.getD j default) (AB 1)
  (fun j x q=>by rw [Nat.zero_add,fg U (m j x q)])
  (fun j x q=>(g4 j x _ q (by rw [<-Array.getElem?_toList];exact m j x q)).mono T (cm.refl loc))
theorem kb{e e2:TypeId}{o:Nat}{ts:List (Nat×TypeId)}(h:eZ P e o e2 ts=true):(∃k,szT P e2=some (k+1))∧∀g f c,ts=(g,f)::c->eZ P e2 g f c=true:=by
 have key:∀{b:Bool},((match szT P e,szT P e2 with|some n,some (_+1)=>decide (o<n)|_,_=>false)&&b)=true->(∃k,szT P e2=some (k+1))∧b=true:=fun hb=>by
  simp only [Ac]at hb
  obtain⟨h1,i⟩:=hb
  refine⟨?_,i⟩
  split at h1
  ·exact⟨_,by assumption⟩
  ·cases h1
 cases ts with
 |nil=>exact⟨(key (b:=true) (by rw [BS];exact h)).1,nofun⟩
 |cons a ts=>
  obtain⟨g,f⟩:=a
  obtain⟨h1,i⟩:=key (show(_&&eZ P e2 g f ts)=true from h)
  exact⟨h1,fun _ _ _ he=>by cases he;exact i⟩
theorem mo{e e2:TypeId}{o:Nat}{ts:List (Nat×TypeId)}(h:eZ P e o e2 ts=true):∃n,szT P e=some n∧o<n:=by
 have key:∀{b:Bool},((match szT P e,szT P e2 with|some n,some (_+1)=>decide (o<n)|_,_=>false)&&b)=true->∃n,szT P e=some n∧o<n:=fun hb=>by
  simp only [Ac]at hb
  obtain⟨h1, -⟩:=hb
  split at h1
  ·exact⟨_,by assumption,of_decide_eq_true h1⟩
  ·cases h1
 cases ts with
 |nil=>exact key (b:=true) (by rw [BS];exact h)
 |cons a ts=>exact key (show(_&&eZ P e2 a.1 a.2 ts)=true from h)
theorem dM.empty{ts:List (Nat×TypeId)}{e e2:TypeId}{o:Nat}(h:eZ P e o e2 ts=true)(a:Option Addr):dM P S w ts e2 [] (.slice a 0 0) []:=by
 obtain⟨⟨k,hk⟩,g⟩:=kb h
 have how:rowAt w e2 (k+1) (.slice a 0 0) ([]:List PD).length []:= .inr ⟨rfl,rfl,a,rfl⟩
 have ho:cA (.slice a 0 0)=none:=by cases a<;>rfl
 cases ts with
 |nil=>exact⟨_,[],hk,how,Flat.nil S _,by rw [ho];rfl⟩
 |cons x ts=>
  obtain⟨l,f⟩:=x
  obtain⟨n,c,i⟩:=mo (g l f ts rfl)
  rw [hk]at c
  cases c
  exact⟨_,[],fun _=>[],hk,i,how,⟨nofun,nofun,fun k e j x h1=>by simp at h1⟩,⟨fun k e h1=>by simp at h1,fun _ _=>rfl,fun k k' b h1=>by simp at h1,fun k b h1=>by simp at h1⟩,fun b=>by simp [ho]⟩
theorem jw{b:Box}{L:Loc}{ts:List (Nat×TypeId)}{e2:TypeId}{i:Nat}{row:List PD}(h:eh P S loc w b L)(a:ie ts e2 i b=some row):
  ∃sz hdr f,L.Row i e2 sz hdr∧dM P S w ts e2 row hdr f∧∀c,c∈f↔L.has c:=by
 cases h with
 |arr ver e es sz hdr xs hsz how hf=>
  simp only [ie]at a
  split at a
  ·rename_i hc
   obtain⟨rfl,rfl,rfl⟩:=hc
   cases a
   exact⟨sz,hdr,(cA hdr).toList,.arr,⟨sz,xs,hsz,how,hf,rfl⟩,fun c=>by simp [Loc.has]⟩
  ·cases a
 |deep ver e es o l k g sz hdr xs bs j hd=>
  rcases g with _|g
  rotate_left
  ·cases a
  simp only [ie]at a
  split at a
  ·rename_i hc
   obtain⟨rfl,rfl,rfl⟩:=hc
   cases a
   refine⟨sz,hdr,(cA hdr).toList++bs,.nest,⟨sz,xs,j,hd.hsz,hd.ho,hd.how,hd.hf,hd.hc,fun b=>?_⟩,fun c=>Iff.rfl⟩
   rw [BO,hd.hb]
   simp
  ·cases a
 |_=>cases a
theorem dM.box{e e2:TypeId}{o:Nat}{ts:List (Nat×TypeId)}(ht:eZ P e o e2 ts=true){row:List PD}{v:Value}{g:List Nat}(h:dM P S w ts e2 row v g):
  ∃L sz,eh P S loc w (jm e2 row ts) L∧L.Row 0 e2 sz v∧∀c,c∈g↔L.has c:=by
 cases ts with
 |nil=>
  obtain⟨sz,xs,hsz,how,hf,rfl⟩:=h
  exact⟨_,sz,.arr 0 e2 row sz v xs hsz how hf,.arr,fun c=>by simp [Loc.has]⟩
 |cons x ts=>
  obtain⟨j,i⟩:=x
  obtain⟨sz,xs,f,hsz,ho,how,hf,hc,hb⟩:=h
  have a:∀b,(∃k,k<row.length∧b∈f k)↔b∈(AI row.length).flatMap f:=fun b=>by
   simp only [BP,BQ]
  refine⟨_,sz,.deep 0 e2 row j i ts none sz v xs ((AI row.length).flatMap f) f ⟨hsz,ho,how,hf,hc,fun b=>(a b).symm,nofun,(kb ht).2 j i ts rfl⟩,.nest,fun c=>?_⟩
  rw [hb]
  simp only [Loc.has,BO]
  rw [<-a]
  simp
theorem Sim.free(h:Sim P X S loc s tm w){id:Nat}{L:Loc}(c:loc id=some L){b:Nat}(hb:L.has b):
  (∀i a,i≠id->loc i=some a->¬a.has b)∧(∀o,S ⟨b,o,none⟩=none)∧(b∈X.B0∨X.w0.heap.size<=b):=
 ⟨fun i a g e f=>g (h.inj i id a L b e c f hb),fun o=>h.eA id L b c hb o,h.own id L b c hb⟩
theorem Sim.kill(h:Sim P X S loc s tm w){k:Nat}{L:Loc}(j:loc k=some L):Sim P X S (upd loc k .dead) { s with boxes:=upd s.boxes k .dead } tm w∧cm loc (upd loc k .dead)∧
  ∀b,L.has b->(∀i g,upd loc k .dead i=some g->¬g.has b)∧(∀o,S ⟨b,o,none⟩=none)∧(b∈X.B0∨X.w0.heap.size<=b):=by
 have c:cj (loc k) .dead:=by rw [j];exact .dead _
 refine⟨h.cw (Step.refl none w) k .dead .dead (fun b hc=>by cases hc) (.dead _ rfl) (fun b hc=>by cases hc) c,cm.upd c,fun b hb=>?_⟩
 obtain⟨f1,f2,f3⟩:=h.free j hb
 refine⟨fun i g a f=>?_,f2,f3⟩
 by_cases e:i=k
 ·subst e;rw [cf]at a;cases a;cases f
 ·rw [ck _ _ e]at a
  exact f1 i g e a f
theorem mL(h:Sim P X S loc s tm w){e e2:TypeId}{o a:Nat}{ts:List (Nat×TypeId)}(ht:eZ P e o e2 ts=true){c:RV}{v:Value}{row:List PD}{u:Ups}{r:List Nat}
  (hl:lj a e2 ts (some c) s.boxes=some ((row,u),r,true)) (q:R S loc c v) (G:∃L,loc a=some L):
  ∃loc' l,Sim P X S loc' (s.ups u) tm w∧cm loc loc'∧loc' a=loc a∧(s.ups u).boxes a=s.boxes a∧dM P S w ts e2 row v l∧
   ∀b∈l,(∀i m,loc' i=some m->¬m.has b)∧(∀o,S ⟨b,o,none⟩=none)∧(b∈X.B0∨X.w0.heap.size<=b):=by
 rcases c with _|_|_|_|_|_|⟨k,C⟩|_|_|_|_|_|_<;>first|exact fE s.boxes hl|skip
 ·obtain⟨h1, -, -⟩:=M.cd (b:=s.boxes) hl
  cases h1
  cases q
  exact⟨loc,[],h,cm.refl loc,rfl,rfl,dM.empty ht none,nofun⟩
 ·obtain⟨x,H,I,h1,f,_⟩:=M.bind_some hl
  obtain⟨hb,_,_⟩:=M.get_some h1
  rcases g:ie ts e2 C x with _|t
  ·simp only [g]at f;exact fE s.boxes f
  simp only [g]at f
  by_cases hk:k≠a
  rotate_left
  ·rw [if_neg hk]at f;exact fE s.boxes f
  rw [if_pos hk]at f
  obtain⟨y, -, -⟩:=M.cd (b:=s.boxes) f
  cases y
  obtain⟨L,p,z⟩:=h.boxes k _ hb
  obtain⟨sz,hdr,l,D,E,F⟩:=jw z g
  obtain⟨g1,g2,g3⟩:=h.kill p
  have B:v=hdr:=by
   cases q with
   |ref _ _ _ m _ j n=>
    rw [p]at j
    cases j
    exact(n _ _ _ _ D).2 rfl
  subst B
  exact⟨_,l,g1,g2,ck _ _ (Ne.symm hk),ck _ _ (Ne.symm hk),E,fun b hb=>g3 b ((F b).1 hb)⟩
theorem jW(h:Sim P X S loc s tm w){t t' ty:TypeId}{x v:RV}{cs:List RV}{u:Ups}{r:List Nat}{Y vy:Value}(hl:fk P t t' x cs s.boxes=some ((v,u),r,true))(o:R S loc x Y)(hy:R S loc (.rlit cs) vy):
  t=t'∧∃v' w' S' loc',(Builtin.append_ #[t,t] ty #[Y,vy]).run P w= .ok v' w'∧Sim P X S' loc' (s.ups u) tm w'∧R S' loc' v v':=by
 unfold fk at hl
 rcases he:dm P t with _|e
 ·simp only [he]at hl;exact fE s.boxes hl
 simp only [he]at hl
 rcases hk:szT P e with _|_|k
 ·simp only [hk]at hl;exact fE s.boxes hl
 ·simp only [hk]at hl;exact fE s.boxes hl
 rcases hb:dV P e with _|_|by_
 ·simp only [hk,hb]at hl;exact fE s.boxes hl
 ·simp only [hk,hb]at hl;exact fE s.boxes hl
 rcases hz:df P e with _|z
 ·simp only [hk,hb,hz]at hl;exact fE s.boxes hl
 simp only [hk,hb,hz]at hl
 rcases x with _|_|_|_|_|_|⟨y,ver⟩|_|_|_|_|_|_<;>first|exact fE s.boxes hl|skip
 simp only at hl
 by_cases hc:z.cells.size=k+1∧t=t'
 rotate_left
 ·rw [if_neg hc]at hl;exact fE s.boxes hl
 rw [if_pos hc]at hl
 obtain⟨b3,b4⟩:=hc
 refine⟨b4,?_⟩
 obtain⟨i,hi,b7⟩:=c8 hz
 obtain⟨i2,a4,b5⟩:=jx hb
 rw [hi]at a4
 cases a4
 obtain⟨i3,a5,b6⟩:=fx hk
 rw [hi]at a5
 cases a5
 obtain⟨bx,r3,r4,F,E,_⟩:=M.bind_some hl
 obtain⟨b2,_,_⟩:=M.get_some F
 rcases bx with _|_|_|_|_|_|_|⟨O,e',es,q,e2,ts,_|hh⟩<;>first|exact fE s.boxes E|skip
 by_cases J:ver=O∧e=e'∧cs.length=k+1
 rotate_left
 ·simp only [if_neg J]at E;exact fE s.boxes E
 simp only [if_pos J]at E
 obtain⟨rfl,rfl,G⟩:=J
 obtain⟨⟨row,u1⟩,r5,r6,h5,h6,_⟩:=M.bind_some E
 rcases W:fQ (cs.set q (.d (.lst row)))with _|ps
 ·simp only [W]at h6;exact fE s.boxes h6
 simp only [W]at h6
 obtain⟨h7, -,C⟩:=M.cg (b:=s.boxes) h6
 cases h7
 simp only [Ad,Ac]at C
 obtain⟨C,h9⟩:=C
 have C:=of_decide_eq_true C
 obtain⟨sz,ys,bs,bl,N,hd⟩:=h.lD b2 o
 have hsz:=hd.hsz
 rw [hk]at hsz
 cases hsz
 have hq:=hd.ho
 cases hy with
 |rlit _ bb bo bc f d1 hS hV=>
 obtain⟨cq,a3⟩:∃cq,cs[q]? =some cq:=⟨cs[q]'om,zc om⟩
 rw [a3]at h5
 obtain⟨n,bk,k1,k2,k3,k4,k5,k6⟩:=mL h hd.ht h5 (hV q cq a3) ⟨_,N⟩
 have Q:=fi W
 have a8:ps.length=k+1:=by
  have:=congrArg List.length Q
  simpa [G]using this.symm
 have a7:∀(j:Nat)p,ps[j]? =some p->j≠q->cs[j]? =some (.d p):=fun j p l b9=>by
  have:(cs.set q (.d (.lst row)))[j]? =some (.d p):=by rw [Q,As,l];rfl
  rwa [List.getElem?_set_ne (Ne.symm b9)]at this
 have c2:ps[q]? =some (.lst row):=by
  have:(cs.set q (.d (.lst row)))[q]? =some (.d (.lst row)):=List.getElem?_set_self om
  rw [Q,As,Option.map_eq_some_iff]at this
  obtain⟨p,h1,g⟩:=this
  cases g
  exact h1
 have H:∀(j:Nat)x,cs[j]? =some x->(f j).oneCell'=true:=fun j x l=>h.fy _ _ (hS j x l)
 have I:∀(j:Nat),j<k+1->((AI (k+1)).map f)[j]? =some (f j):=fun j l=>by
  rw [As,List.getElem?_range l];rfl
 obtain⟨v',w',g1,g2,g4,g5,g6⟩:=jL (P:=P) (ty:=ty) (w:=w) (m:=1) (news:=(AI (k+1)).map f) (a:=some ⟨bb,bo,none⟩) (c:=bc) (cW he) hi b7 b6 b5 b3 om hd.how sm
  (fun x o => by
   obtain⟨j,l,rfl⟩:=List.mem_map.1 o
   have l:=List.mem_range.1 l
   exact H j (cs[j]'om) (zc om))
  (fun _ => ⟨_, rfl, fun j x l => by
   have b8:j<k+1:=by simpa using(List.getElem?_eq_some_iff.1 l).1
   rw [I j b8]at l
   cases l
   rw [cV]
   exact h.imm _ _ (hS j _ (zc om))⟩) (by simpa using C)
 have D:n y=some (.nest ver e (k+1) Y bs):=by rw [k3];exact N
 obtain⟨d4,d5,d0,c6,c1,d2⟩:∃sz ys a0 bl,n y=some (.nest ver e sz Y a0)∧fO P S n w e es q e2 ts none sz Y ys a0 bl:=⟨k+1,ys,bs,bl,D,hd.aE (Sub.refl S) k2 fun _ _=>rfl⟩
 have U:∀b∈bs,w'.heap[b]? =w.heap[b]? :=fun b hb=>g4.block b (hd.lt (List.mem_append.2 (.inr hb))) fun e=>by
  obtain⟨k',c0,a2⟩:=(hd.hb b).1 hb
  exact hd.hc.hdr k' b c0 a2 (by rw [e])
 have L:∀b∈bk,b<w.heap.size:=fun b hb=>k5.lt b hb
 have B:∀b∈bk,cA Y≠some b∧b∉bs:=fun b hb=>by
  have:=(k6 b hb).1 y _ D
  simp only [Loc.has,BO,not_or]at this
  exact⟨fun e=>this.1 (by rw [e];simp),this.2⟩
 let L2:Loc:= .nest (ver+1) e (k+1) v' (bs++bk)
 have a9:cj (n y) L2:=by rw [D];exact .nest om
 have c5:=cm.upd a9
 have c3:=hd.how.len
 refine⟨v',w',S,upd n y L2,g1,?_,?_⟩
 rotate_left
 ·exact .ref y (ver+1) _ _ g5 (cf _ _ _) (fun O e' d3 c4 he=>by change (Loc.nest _ _ _ _ _).Row _ _ _ _ at he;cases he;exact⟨AB _,fun _=>rfl⟩)
 rw [eL,du]
 refine k1.cw g4 y _ _ (fun b hb=>⟨_,D,List.mem_append.2 (.inl (by rw [hb];simp))⟩) (.deep (ver+1) e _ q e2 ts none (k+1) v' (ys++(AI (k+1)).map f) (bs++bk) (fun j=>if j=es.length then bk else bl j) ?_) ?_ a9
 ·have a6:∀(j c:Nat),j<es.length->c<k+1->(ys++(AI (k+1)).map f)[j*(k+1)+c]? =ys[j*(k+1)+c]? :=fun j c l hc=>by
   refine AR ?_
   have:=Nat.mul_le_mul_right (k+1) (show j+1<=es.length by omega)
   rw [Nat.add_mul,Nat.one_mul]at this
   omega
  have a1:∀c,c<k+1->(ys++(AI (k+1)).map f)[es.length*(k+1)+c]? =some (f c):=fun c hc=>by
   rw [AS om,c3,Nat.add_sub_cancel_left,I c hc]
  refine⟨hk,hq,by rw [BH];exact g2,⟨fun x o=>?_,fun x o=>?_,fun j x c p h1 g F=>?_⟩,⟨fun j x h1 g=>?_,nofun,fun j j' b h1 g F E=>?_,fun j b h1 g=>?_⟩,fun b=>?_,nofun,hd.ht⟩
  ·rcases List.mem_append.1 o with o|o
   ·exact hd.hf.len x o
   ·rw [List.mem_singleton.1 o];exact a8
  ·rcases List.mem_append.1 o with o|o
   ·exact hd.hf.one x o
   ·obtain⟨j,l,rfl⟩:=List.mem_map.1 o
    have l:=List.mem_range.1 l
    exact H j (cs[j]'om) (zc om)
  ·by_cases l:j<es.length
   ·rw [AR l]at h1
    have G:c<k+1:=by rw [<-hd.hf.len x (A1 h1)];exact(List.getElem?_eq_some_iff.1 g).1
    rw [a6 j c l G]
    exact hd.hf.cell j x c p h1 g F
   ·rw [AS om]at h1
    have T:j=es.length:=by
     have:=(List.getElem?_eq_some_iff.1 h1).1
     simp at this
     omega
    subst T
    simp only [Ab,AU,AD]at h1
    subst h1
    have G:c<k+1:=by rw [<-a8];exact(List.getElem?_eq_some_iff.1 g).1
    refine⟨f c,a1 c G,?_⟩
    have:=hV c _ (a7 c p g F)
    cases this with
    |d hv=>exact hv
  ·by_cases l:j<es.length
   ·rw [AR l]at h1
    obtain⟨b0,x',q1,q2,q3⟩:=hd.hc.cell j x h1 nofun
    refine⟨b0,x',q1,by rw [a6 j q l hq];exact q2,?_⟩
    simp only [show j≠es.length by omega,if_false]
    exact q3.aE (Sub.refl S) fun b hb=>U b ((hd.hb b).2 ⟨j,l,hb⟩)
   ·rw [AS om]at h1
    have T:j=es.length:=by
     have:=(List.getElem?_eq_some_iff.1 h1).1
     simp at this
     omega
    subst T
    simp only [Ab,AU,AD]at h1
    subst h1
    refine⟨row,f q,c2,a1 q hq,?_⟩
    simp only [if_true]
    exact k5.aE (Sub.refl S) fun b hb=>g4.block b (L b hb) fun e=>(B b hb).1 e.symm
  ·rw [BH,BN]at h1 g
   by_cases K:j=es.length<;>by_cases hb:j'=es.length
   ·omega
   ·rw [if_pos K]at F
    rw [if_neg hb]at E
    exact((B b F).2 ((hd.hb b).2 ⟨j',om,E⟩)).elim
   ·rw [if_neg K]at F
    rw [if_pos hb]at E
    exact((B b E).2 ((hd.hb b).2 ⟨j,om,F⟩)).elim
   ·rw [if_neg K]at F
    rw [if_neg hb]at E
    exact hd.hc.apart j j' b om om F E
  ·rw [BH,BN]at h1
   intro hg
   have b1:b<w.heap.size∧cA Y≠some b:=by
    by_cases K:j=es.length
    ·rw [if_pos K]at g
     exact⟨L b g,(B b g).1⟩
    ·rw [if_neg K]at g
     exact⟨hd.lt (List.mem_append.2 (.inr ((hd.hb b).2 ⟨j,om,g⟩))),hd.hc.hdr j b om g⟩
   rcases g6 b hg with C|C
   ·exact b1.2 C
   ·omega
  ·rw [BO,hd.hb,BH,BN]
   constructor
   ·rintro(⟨j,h1,g⟩|h1)
    ·exact⟨j,om,by rw [if_neg om];exact g⟩
    ·exact⟨es.length,om,by rw [if_pos rfl];exact h1⟩
   ·rintro⟨j,h1,g⟩
    by_cases K:j=es.length
    ·rw [if_pos K]at g;exact .inr g
    ·rw [if_neg K]at g;exact .inl ⟨j,om,g⟩
 ·intro b hb
  rcases List.mem_append.1 hb with hb|hb
  ·rcases g6 b (by simpa using hb)with C|C
   ·exact .inl ⟨_,D,List.mem_append.2 (.inl (by rw [C];simp))⟩
   ·exact .inr (.inl C)
  ·rcases List.mem_append.1 hb with hb|hb
   ·exact .inl ⟨_,D,List.mem_append.2 (.inr hb)⟩
   ·exact .inr (.inr (k6 b hb))
theorem kL(h:Sim P X S loc s tm w){id:Nat}{t t' ty:TypeId}{x y v:RV}{u:Ups}{r:List Nat}{c e:Value}(hl:dI P id t t' x y s.boxes=some ((v,u),r,true))(a:R S loc x c)(b:R S loc y e):
  t=t'∧∃v' w' S' loc',(Builtin.append_ #[t,t] ty #[c,e]).run P w= .ok v' w'∧Sim P X S' loc' (s.ups u) tm w'∧R S' loc' v v':=by
 unfold dI at hl
 split at hl
 ·exact jW h hl a b
 ·split at hl
  ·cases a with|rfn _ _ _ _ _ a=>exact hP h hl a b
  ·exact hP h hl a b
theorem Sim.opnD(h:Sim P X S loc s tm w){id new ver i o:Nat}{e e2:TypeId}{es:List PD}{ts:List (Nat×TypeId)}{x:PD}{row:List PD}(hb:s.boxes id=some (.deep ver e es o e2 ts none))(t:s.boxes new=none)
  (hx:es[i]? =some x) (hc:x.cells[o]? =some (.lst row)):
  ∃S' loc',Sim P X S' loc' { s with boxes:=fun k=>if k=new then some (jm e2 row ts)else if k=id then some (.deep ver e es o e2 ts (some (i,.ref new 0)))else s.boxes k } tm w:=by
 obtain⟨L,Y,hB⟩:=h.boxes id _ hb
 have E:new≠id:=fun e=>by rw [e,hb]at t;cases t
 have C:i<es.length:=(List.getElem?_eq_some_iff.1 hx).1
 cases hB with
 |deep _ _ _ _ _ _ _ sz hdr xs bs W hd=>
 obtain⟨a8,u,q1,q2,q3⟩:=hd.hc.cell i x hx nofun
 rw [hc]at q1
 cases q1
 obtain⟨N,b2,m1,m2,m3⟩:=dM.box hd.ht q3
 let f:Nat->List Nat:=fun k=>if k=i then []else W k
 have g:∀k b,b∈f k->b∈W k∧k≠i:=fun k b hb=>by
  by_cases hk:k=i
  ·simp only [f,if_pos hk]at hb;cases hb
  ·simp only [f,if_neg hk]at hb;exact⟨hb,hk⟩
 let B:List Nat:=(AI es.length).flatMap f
 have n:∀b,b∈B↔∃k,k<es.length∧b∈f k:=fun b=>by simp only [B,BP,BQ]
 let m:Loc:= .nest ver e sz hdr B
 have Q:∀b,m.has b->Loc.has (.nest ver e sz hdr bs) b:=fun b hb=>by
  rcases List.mem_append.1 hb with hb|hb
  ·exact List.mem_append.2 (.inl hb)
  ·obtain⟨k,hk,J⟩:=(n b).1 hb
   exact List.mem_append.2 (.inr ((hd.hb b).2 ⟨k,hk,(g k b J).1⟩))
 have G:cj (loc id) m:=by rw [Y];exact .held
 have O : ColR (dM P S w ts e2) sz o es xs (cA hdr) f (some i) := ⟨fun k e' h1 z => by
   obtain⟨r,y,p1,p2,p3⟩:=hd.hc.cell k e' h1 nofun
   have a5:k≠i:=fun e=>z (by rw [e])
   exact⟨r,y,p1,p2,by simp only [f,if_neg a5];exact p3⟩,
  fun k hk=>by cases hk;simp [f],fun k k' b h1 z h3 h4=>hd.hc.apart k k' b h1 z (g k b h3).1 (g k' b h4).1,fun k b h1 z=>hd.hc.hdr k b h1 (g k b z).1⟩
 have mk:∀(v:cJ)(rv:RV),R S v rv u->eh P S v w (.deep ver e es o e2 ts (some (i,rv))) m:=fun v rv hr=>
  .deep ver e es o e2 ts _ sz hdr xs B f ⟨hd.hsz,hd.ho,hd.how,hd.hf,O,n,fun j b0 he=>by cases he;exact⟨C,u,q2,hr⟩,hd.ht⟩
 have k1:=h.cw (Step.refl none w) id (.deep ver e es o e2 ts (some (i,.junk))) m (fun b hc=>by cases hc) (mk _ .junk (.junk u)) (fun b hb=>.inl ⟨_,Y,Q b hb⟩) G
 have U:upd loc id m new=none:=by rw [ck _ _ E];exact h.cE t
 have H:cj (upd loc id m new) N:=by rw [U];trivial
 have k2 := k1.cw (Step.refl none w) new (jm e2 row ts) N (fun b hc => by cases hc) (m1.aE (Sub.refl S) ((cm.upd G).trans (cm.upd H)) fun _ _ => rfl) (fun b a4 => by
  have I:b∈W i:=(m3 b).2 a4
  have a3:Loc.has (.nest ver e sz hdr bs) b:=List.mem_append.2 (.inr ((hd.hb b).2 ⟨i,C,I⟩))
  obtain⟨f1,f2,f3⟩:=h.free Y a3
  refine .inr (.inr ⟨fun j L' D l=>?_,f2,f3⟩)
  by_cases K:j=id
  ·subst K
   rw [cf]at D
   cases D
   rcases List.mem_append.1 l with l|l
   ·exact hd.hc.hdr i b C I (by simpa using l)
   ·obtain⟨k,hk,J⟩:=(n b).1 l
    obtain⟨a1,a2⟩:=g k b J
    exact a2 (hd.hc.apart k i b hk C a1 I)
  ·rw [ck _ _ K]at D
   exact f1 j L' K D l) H
 have F:upd (upd loc id m) new N id=some m:=by rw [ck _ _ (Ne.symm E),cf]
 have T:cj (upd (upd loc id m) new N id) m:=by rw [F];exact .same _
 have a6:u.oneCell'=true:=hd.hf.one u (A1 q2)
 have k3:=k2.cw (Step.refl none w) id (.deep ver e es o e2 ts (some (i,.ref new 0))) m (fun b hc=>by cases hc)
  (mk _ (.ref new 0) (.ref new 0 u N a6 (by rw [ck _ _ E, cf]) fun a9 e' b1 a7 he => by
   have:∀{L:Loc}{a b:Nat}{c d:TypeId}{p q:Nat}{x y:Value},L.Row a c p x->L.Row b d q y->a=b∧x=y:=fun h1 z=>by cases h1<;>cases z<;>exact⟨rfl,rfl⟩
   obtain⟨rfl,rfl⟩:=this m2 he
   exact⟨AB _,fun _=>rfl⟩)) (fun b hb=>.inl ⟨_,F,hb⟩) T
 have a0:(fun k=>if k=new then some (jm e2 row ts)else if k=id then some (.deep ver e es o e2 ts (some (i,.ref new 0)))else s.boxes k)=
   upd (upd (upd s.boxes id (.deep ver e es o e2 ts (some (i,.junk)))) new (jm e2 row ts)) id (.deep ver e es o e2 ts (some (i,.ref new 0))):=by
  funext j
  simp only [upd]
  by_cases h1:j=id
  ·subst h1;simp [Ne.symm E]
  ·by_cases z:j=new
   ·subst z;simp [h1]
   ·simp [h1,z]
 rw [a0]
 exact⟨S,_,k3⟩
theorem fO.close{e e2:TypeId}{es:List PD}{o i sz:Nat}{ts:List (Nat×TypeId)}{rv:RV}{hdr:Value}{xs:List Value}{bs C:List Nat}{D:Nat->List Nat}{u:Value}{row:List PD}
  (hd:fO P S loc w e es o e2 ts (some (i,rv)) sz hdr xs bs D) (hu:xs[i*sz+o]? =some u) (K:dM P S w ts e2 row u C) (E:∀b∈C,cA hdr≠some b∧b∉bs) (loc':cJ):
  fO P S loc' w e (putRow es i o row) o e2 ts none sz hdr xs (bs++C) (fun j=>if j=i then C else D j):=by
 obtain⟨t, -⟩:=hd.hl i rv rfl
 have B:es[i]? =some es[i]:=zc t
 have F:=hd.hf.len _ (Ah t)
 obtain⟨H,G⟩:=PD.fU es[i] o [.lst row] (by have:=hd.ho;simp;omega) (fun p J=>by rw [List.mem_singleton.1 J];rfl)
 have z:putRow es i o row=es.set i (es[i].put o [.lst row]):=by unfold putRow;simp [Ag,B]
 have q:(putRow es i o row).length=es.length:=by rw [z,List.length_set]
 have f:∀(k:Nat)x,(putRow es i o row)[k]? =some x->(k=i∧x=es[i].put o [.lst row])∨(k≠i∧es[k]? =some x):=fun k x hk=>by
  rw [z,List.getElem?_set]at hk
  by_cases n:i=k
  ·rw [if_pos n,if_pos om]at hk
   cases hk
   exact .inl ⟨n.symm,rfl⟩
  ·rw [if_neg n]at hk
   exact .inr ⟨fun e=>n e.symm,hk⟩
 have v:∀j,j≠i->∀b∈D j,j<es.length->b∈bs:=fun j _ b hb I=>(hd.hb b).2 ⟨j,I,hb⟩
 refine⟨hd.hsz,hd.ho,by rw [q];exact hd.how,⟨fun x L=>?_,hd.hf.one,fun k x j c h1 a m=>?_⟩,⟨fun k x h1 _=>?_,nofun,fun k k' b h1 a m g=>?_,fun k b h1 a=>?_⟩,fun b=>?_,nofun,hd.ht⟩
 ·obtain⟨k,hk⟩:=List.getElem?_of_mem L
  rcases f k x hk with⟨rfl,rfl⟩|⟨_,h1⟩
  ·rw [H,F]
  ·exact hd.hf.len x (A1 h1)
 ·rcases f k x h1 with⟨rfl,rfl⟩|⟨_,g⟩
  ·rw [G,if_neg so]at a
   exact hd.hf.cell k _ j c B a m
  ·exact hd.hf.cell k x j c g a m
 ·rcases f k x h1 with⟨rfl,rfl⟩|⟨hk,g⟩
  ·refine⟨row,u,?_,hu,by rw [if_pos rfl];exact K⟩
   rw [G,if_pos sm,Ab]
   rfl
  ·obtain⟨r,y,N,O,Q⟩:=hd.hc.cell k x g (fun e=>hk (BT e).symm)
   exact⟨r,y,N,O,by rw [if_neg hk];exact Q⟩
 ·rw [q]at h1 a
  by_cases l:k=i<;>by_cases hb:k'=i
  ·omega
  ·rw [if_pos l]at m
   rw [if_neg hb]at g
   exact((E b m).2 (v k' hb b g a)).elim
  ·rw [if_neg l]at m
   rw [if_pos hb]at g
   exact((E b g).2 (v k l b m h1)).elim
  ·rw [if_neg l]at m
   rw [if_neg hb]at g
   exact hd.hc.apart k k' b h1 a m g
 ·rw [q]at h1
  by_cases l:k=i
  ·rw [if_pos l]at a;exact(E b a).1
  ·rw [if_neg l]at a;exact hd.hc.hdr k b h1 a
 ·rw [BO,hd.hb,q]
  constructor
  ·rintro(⟨k,h1,a⟩|h1)
   ·refine⟨k,h1,?_⟩
    have:k≠i:=fun e=>by rw [e,hd.hc.eR i rfl]at a;cases a
    rw [if_neg this]
    exact a
   ·exact⟨i,t,by rw [if_pos rfl];exact h1⟩
  ·rintro⟨k,h1,a⟩
   by_cases l:k=i
   ·rw [if_pos l]at a;exact .inr a
   ·rw [if_neg l]at a;exact .inl ⟨k,h1,a⟩
theorem Sim.clsR'(h:Sim P X S loc s tm w){id k ver x i o:Nat}{e e2:TypeId}{es:List PD}{ts:List (Nat×TypeId)}{b:Box}{row:List PD}(hb:s.boxes id=some (.deep ver e es o e2 ts (some (i,.ref k x))))(hk:s.boxes k=some b)
  (E:ie ts e2 x b=some row) (l:k≠id):
  ∃S' loc',Sim P X S' loc' { s with boxes:=fun j=>if j=k then some .dead else if j=id then some (.deep ver e (putRow es i o row) o e2 ts none)else s.boxes j } tm w:=by
 obtain⟨L,B,z⟩:=h.boxes id _ hb
 cases z with
 |deep _ _ _ _ _ _ _ sz hdr xs bs O hd=>
 obtain⟨N,f,n⟩:=h.boxes k _ hk
 obtain⟨J,g,m,H,I,y⟩:=jw n E
 obtain⟨C,u,hu,r⟩:=hd.hl i _ rfl
 have F:u=g:=by
  cases r with
  |ref _ _ _ K _ c q=>
   rw [f]at c
   cases c
   exact(q _ _ _ _ H).2 rfl
 subst F
 obtain⟨g1,g2,g3⟩:=h.kill f
 have a:upd loc k .dead id=some (.nest ver e sz hdr bs):=by rw [ck _ _ (Ne.symm l)];exact B
 have D:∀b∈m,cA hdr≠some b∧b∉bs:=fun b hb=>by
  have:=(g3 b ((y b).1 hb)).1 id _ a
  simp only [Loc.has,BO,not_or]at this
  exact⟨fun e=>this.1 (by rw [e];simp),this.2⟩
 have t:cj (upd loc k .dead id) (.nest ver e sz hdr (bs++m)):=by rw [a];exact .held
 have G:=g1.cw (Step.refl none w) id (.deep ver e (putRow es i o row) o e2 ts none) (.nest ver e sz hdr (bs++m)) (fun b hc=>by cases hc)
  (.deep ver e _ o e2 ts none sz hdr xs _ _ (hd.close hu I D _)) (fun b hb => by
   rcases List.mem_append.1 hb with hb|hb
   ·exact .inl ⟨_,a,List.mem_append.2 (.inl hb)⟩
   ·rcases List.mem_append.1 hb with hb|hb
    ·exact .inl ⟨_,a,List.mem_append.2 (.inr hb)⟩
    ·exact .inr (.inr (g3 b ((y b).1 hb)))) t
 have p:(fun j=>if j=k then some Box.dead else if j=id then some (.deep ver e (putRow es i o row) o e2 ts none)else s.boxes j)=upd (upd s.boxes k .dead) id (.deep ver e (putRow es i o row) o e2 ts none):=by
  funext j
  simp only [upd]
  by_cases h1:j=k
  ·subst h1;simp [l]
  ·by_cases v:j=id
   ·subst v;simp [h1]
   ·simp [h1,v]
 rw [p]
 exact⟨S,_,G⟩
theorem Sim.clsN(h:Sim P X S loc s tm w){id ver i o:Nat}{e e2:TypeId}{es:List PD}{ts:List (Nat×TypeId)}(hb:s.boxes id=some (.deep ver e es o e2 ts (some (i,.cL)))):
  ∃S' loc',Sim P X S' loc' { s with boxes:=fun j=>if j=id then some (.deep ver e (putRow es i o []) o e2 ts none)else s.boxes j } tm w:=by
 obtain⟨L,f,g⟩:=h.boxes id _ hb
 cases g with
 |deep _ _ _ _ _ _ _ sz hdr xs bs l hd=>
 obtain⟨k,u,hu,a⟩:=hd.hl i _ rfl
 cases a
 have c:cj (loc id) (.nest ver e sz hdr (bs++[])):=by rw [f];exact .held
 exact ⟨S, _, h.cw (Step.refl none w) id (.deep ver e (putRow es i o []) o e2 ts none) (.nest ver e sz hdr (bs ++ [])) (fun b hc => by cases hc)
  (.deep ver e _ o e2 ts none sz hdr xs _ _ (hd.close hu (dM.empty hd.ht none) nofun _)) (fun b hb=>.inl ⟨_,f,by simpa [Loc.has]using hb⟩) c⟩
def Free(X:Ctx)(S:cp)(loc:cJ)(b:Nat):Prop:=(∀i L,loc i=some L->¬L.has b)∧(∀o,S ⟨b,o,none⟩=none)∧(b∈X.B0∨X.w0.heap.size<=b)
theorem Sim.growFlat(h:Sim P X S loc s tm w){e:TypeId}{es:List PD}{v:Value}{bs:List Nat}(B:dM P S w [] e es v bs)(l:∀b∈bs,Free X S loc b):
  ∃S',Sim P X S' loc s tm w∧Sub S S'∧(∀g o,g∉bs->S ⟨g,o,none⟩=none->S' ⟨g,o,none⟩=none)∧V S' (.lst es) v:=by
 obtain⟨sz,ys,hsz,how,hf,rfl⟩:=B
 by_cases m:es=[]
 ·subst m
  obtain⟨a,c,rfl,_⟩:=how.hdr
  exact⟨S,h,Sub.refl S,fun _ _ _ h=>h,.nil _ _⟩
 ·have n:0<es.length:=List.length_pos_iff.2 m
  have f:=how.fw n
  rcases f.2 with⟨rfl,D⟩|⟨g,cap,cur,C,rfl,y,E,q,u,x,r⟩
  ·omega
  ·have k:=f.cells (g:=g) rfl
   have i:cA (.slice (some ⟨g,0,none⟩) es.length cap)=some g:=by cases cap with|zero=>omega|succ c=>rfl
   obtain⟨f1,f2,f3⟩:=l g (by rw [i];simp)
   have t:=h.fB g ys (fun j v z=>by have:=k j v z;rw [cV]at this;simpa using this) hf.one f1 f3.symm
   refine⟨_,t,dA S g ys,fun b o hb hS=>?_,V.ky hf f2 q⟩
   have p:b≠g:=fun e=>hb (by rw [i,e];simp)
   simp [dg,hS,p]
theorem Sim.lA{tr:List (Nat×TypeId)}{e2:TypeId}{sz o:Nat}{es:List PD}{xs:List Value}{g B:Option Nat}{l:Nat->List Nat}(c:cp->List PD->Value->List Nat->Prop)
  (i:∀{S S':cp}{row u b},Sub S S'->c S row u b->c S' row u b)
  (step : ∀ {S : cp} {row u b}, Sim P X S loc s tm w → dM P S w tr e2 row u b → (∀ x ∈ b, Free X S loc x) →
   ∃S' b',Sim P X S' loc s tm w∧Sub S S'∧(∀g o,g∉b->S ⟨g,o,none⟩=none->S' ⟨g,o,none⟩=none)∧c S' row u b'∧∀x∈b',x∈b∧∀o,S' ⟨x,o,none⟩=none)
  (h:Sim P X S loc s tm w) (hc:ColR (dM P S w tr e2) sz o es xs g l B) (f:∀k,k<es.length->∀x∈l k,Free X S loc x):∀m,m<=es.length->
  ∃(S':cp)(p:Nat->List Nat),Sim P X S' loc s tm w∧Sub S S'∧(∀g o,(∀k,k<m->g∉l k)->S ⟨g,o,none⟩=none->S' ⟨g,o,none⟩=none)∧
   ∀k,k<m->B≠some k->∃e row u,es[k]? =some e∧e.cells[o]? =some (.lst row)∧xs[k*sz+o]? =some u∧c S' row u (p k)∧∀x∈p k,x∈l k∧∀o,S' ⟨x,o,none⟩=none
 |0,_=>⟨S,l,h,Sub.refl S,fun _ _ _ h=>h,fun k hk=>om⟩
 |m+1,hm=>by
  obtain⟨E,q,g1,g2,g3,g4⟩:=Sim.lA c i step h hc f m om
  by_cases t:B=some m
  ·refine⟨E,q,g1,g2,fun g o y=>g3 g o fun k hk=>y k om,fun k hk j=>?_⟩
   have:k≠m:=fun e=>j (by rw [t,e])
   exact g4 k om j
  ·obtain⟨row,u,N,O,Q⟩:=hc.cell m es[m] (zc om) t
   have r:∀k,k<m->∀x∈l m,x∉l k:=fun k hk x a D=>by
    have:=hc.apart m k x om om a D
    omega
   have z:∀x∈l m,Free X E loc x:=fun x a=>by
    obtain⟨f1,f2,f3⟩:=f m om x a
    exact⟨f1,fun o=>g3 x o (fun k hk=>r k hk x a) (f2 o),f3⟩
   obtain⟨H,b',J,G,k3,K,L⟩:=step g1 (Q.aE g2 fun _ _=>rfl) z
   refine⟨H,fun k=>if k=m then b' else q k,J,g2.trans G,fun g o y hS=>k3 g o (y m om) (g3 g o (fun k hk=>y k om) hS),fun k hk j=>?_⟩
   by_cases n:k=m
   ·subst n
    exact⟨es[k],row,u,zc om,N,O,by dsimp only;rw [if_pos rfl];exact K,fun x a=>L x (by dsimp only at a;rw [if_pos rfl]at a;exact a)⟩
   ·obtain⟨I,v,u',T,U,W,Y,r5⟩:=g4 k om j
    refine⟨I,v,u',T,U,W,by dsimp only;rw [if_neg n];exact i G Y,fun x a=>?_⟩
    dsimp only at a
    rw [if_neg n]at a
    obtain⟨F,a2⟩:=r5 x a
    exact⟨F,fun o=>k3 x o (fun C=>r k om x C F) (a2 o)⟩
theorem dM.cut:∀(n:Nat)(ts:List (Nat×TypeId)){S:cp}{e:TypeId}{es:List PD}{v:Value}{bs:List Nat},Sim P X S loc s tm w->dM P S w ts e es v bs->(∀b∈bs,Free X S loc b)->
  ∃S' B,Sim P X S' loc s tm w∧Sub S S'∧(∀g o,g∉bs->S ⟨g,o,none⟩=none->S' ⟨g,o,none⟩=none)∧dM P S' w (ts.take n) e es v B∧∀x∈B,x∈bs∧∀o,S' ⟨x,o,none⟩=none
 |n,[],S,e,es,v,bs,h,E,a=>⟨S,bs,h,Sub.refl S,fun _ _ _ h=>h,by rw [BR];exact E,fun x f=>⟨f,(a x f).2.1⟩⟩
 |0,(o,e2)::tr,S,e,es,v,bs,h,E,a=>by
  obtain⟨sz,xs,O,hsz,ho,how,hf,hc,i⟩:=E
  obtain ⟨H, p, g1, g2, g3, g4⟩ := Sim.lA (fun S row u b => V S (.lst row) u ∧ b = []) (fun N I => ⟨I.1.mono N, I.2⟩) (fun h1 r l => by
   obtain⟨H,b1,Y,k2,k3,Q,J⟩:=dM.cut 0 tr h1 r l
   rw [List.take_zero]at Q
   obtain⟨T,m1,m2,m3,m4⟩:=Y.growFlat Q fun b hb=>⟨(l b (J b hb).1).1,(J b hb).2,(l b (J b hb).1).2.2⟩
   exact⟨T,[],m1,k2.trans m2,fun g o y hS=>m3 g o (fun hm=>y (J g hm).1) (k3 g o y hS),⟨m4,rfl⟩,nofun⟩)
   h hc (fun k hk x f=>a x ((i x).2 (.inr ⟨k,hk,f⟩))) es.length (AB _)
  refine⟨H,(cA v).toList,g1,g2,fun g o y=>g3 g o fun k hk hm=>y ((i g).2 (.inr ⟨k,hk,hm⟩)),⟨sz,xs,hsz,how,⟨hf.len,hf.one,fun k x j c h1 q=>?_⟩,rfl⟩,fun x f=>?_⟩
  ·by_cases D:j=o
   ·subst D
    obtain⟨L,row,u,t,z,F,G, -⟩:=g4 k (List.getElem?_eq_some_iff.1 h1).1 nofun
    rw [h1]at t
    cases t
    rw [q]at z
    cases z
    exact⟨u,F,G.1⟩
   ·exact(hf.mono g2).cell k x j c h1 q D
  ·have f:cA v=some x:=by simpa using f
   refine⟨(i x).2 (.inl f),fun o=>g3 x o (fun k hk hm=>hc.hdr k x hk hm f) ((a x ((i x).2 (.inl f))).2.1 o)⟩
 |n+1,(o,e2)::tr,S,e,es,v,bs,h,E,a=>by
  obtain⟨sz,xs,O,hsz,ho,how,hf,hc,i⟩:=E
  obtain⟨H,p,g1,g2,g3,g4⟩:=Sim.lA (fun S row u b=>dM P S w (tr.take n) e2 row u b) (fun N I=>I.aE N fun _ _=>rfl) (fun h1 r l=>dM.cut n tr h1 r l)
   h hc (fun k hk x f=>a x ((i x).2 (.inr ⟨k,hk,f⟩))) es.length (AB _)
  have m:∀k,k<es.length->∀x∈p k,x∈O k:=fun k hk x f=>by
   obtain⟨L,row,u,t,z,F,G,K⟩:=g4 k hk nofun
   exact(K x f).1
  refine ⟨H, (cA v).toList ++ (AI es.length).flatMap p, g1, g2, fun g o y => g3 g o fun k hk hm => y ((i g).2 (.inr ⟨k, hk, hm⟩)),
   ⟨sz,xs,p,hsz,ho,how,hf.mono g2,⟨fun k x h1 _=>?_,nofun,fun k k' b h1 q U W=>hc.apart k k' b h1 q (m k h1 b U) (m k' q b W),fun k b h1 q=>hc.hdr k b h1 (m k h1 b q)⟩,fun b=>?_⟩,fun x f=>?_⟩
  ·obtain⟨L,row,u,t,z,F,G, -⟩:=g4 k (List.getElem?_eq_some_iff.1 h1).1 nofun
   rw [h1]at t
   cases t
   exact⟨row,u,z,F,G⟩
  ·simp only [BO,BP,BQ]
   simp
  ·rcases List.mem_append.1 f with f|f
   ·have f:cA v=some x:=by simpa using f
    exact⟨(i x).2 (.inl f),fun o=>g3 x o (fun k hk hm=>hc.hdr k x hk hm f) ((a x ((i x).2 (.inl f))).2.1 o)⟩
   ·obtain⟨k,hk,C⟩:=List.mem_flatMap.1 f
    have hk:=List.mem_range.1 hk
    obtain⟨L,row,u,t,z,F,G,K⟩:=g4 k hk nofun
    exact⟨(i x).2 (.inr ⟨k,hk,(K x C).1⟩),(K x C).2⟩
theorem Sim.regrow(h:Sim P X S loc s tm w){id:Nat}{L g:Loc}{p:Box}{n:cp}(J:loc id=some L)(g1:Sim P X n (upd loc id .dead) { s with boxes:=upd s.boxes id .dead } tm w)(g2:Sub S n)(F:ei L g)
  (f:eh P n (upd loc id g) w p g) (l:∀c,g.has c->L.has c∧∀o,n ⟨c,o,none⟩=none):Sim P X n (upd loc id g) { s with boxes:=upd s.boxes id p } tm w:=by
 have I:cj (loc id) g:=by rw [J];exact F
 have hle:cm loc (upd loc id g):=cm.upd I
 have m:∀i M c,upd loc id g i=some M->M.has c->∃x,loc i=some x∧x.has c:=fun i M c a e=>by
  by_cases b:i=id
  ·subst b
   rw [cf]at a
   cases a
   exact⟨_,J,(l c e).1⟩
  ·rw [ck _ _ b]at a
   exact⟨M,a,e⟩
 refine⟨h.nt,fun t rv ht=>?_,fun i z f=>?_,fun i M a=>?_,g1.imm,g1.fy,fun i M c a e o=>?_,fun i j M M2 c a G e u=>?_,fun i M c a e=>?_,h.frame,g1.s0,fun k K H=>?_,g1.gE,g1.bs,h.ob⟩
 ·obtain⟨v,B,C⟩:=h.cv t rv ht
  exact⟨v,B,C.mono g2 hle⟩
 ·by_cases b:i=id
  ·subst b
   simp only [cf,AD]at f
   subst f
   exact⟨_,cf _ _ _,by assumption⟩
  ·simp only [ck _ _ b]at f
   obtain⟨M,B,C⟩:=h.boxes i z f
   exact⟨M,by rw [ck _ _ b];exact B,C.aE g2 hle fun _ _=>rfl⟩
 ·by_cases b:i=id
  ·subst b;exact⟨_,cf _ _ _⟩
  ·rw [ck _ _ b]at a
   obtain⟨z,f⟩:=h.dom i M a
   exact⟨z,by simp only [ck _ _ b];exact f⟩
 ·by_cases b:i=id
  ·subst b
   rw [cf]at a
   cases a
   exact(l c e).2 o
  ·rw [ck _ _ b]at a
   exact g1.eA i M c (by rw [ck _ _ b];exact a) e o
 ·obtain⟨g,q,r⟩:=m i M c a e
  obtain⟨y,D,E⟩:=m j M2 c G u
  exact h.inj i j g y c q D r E
 ·obtain⟨x,q,r⟩:=m i M c a e
  exact h.own i x c q r
 ·obtain⟨M,q,r⟩:=h.par k K H
  obtain⟨g,D,E⟩:=hle k M q
  exact⟨g,D,r.trans E⟩
theorem kc:∀(ts:List (Nat×TypeId)){e e2:TypeId}{o:Nat}(n:Nat),eZ P e o e2 ts=true->eZ P e o e2 (ts.take n)=true
 | [],_,_,_,_,h=>by rw [BR];exact h
 |(b,a)::ts,e,e2,o,0,h=>by
  have:(_&&eZ P e2 b a ts)=true:=h
  rw [Ac]at this
  exact this.1
 |(b,a)::ts,e,e2,o,n+1,h=>by
  have:(_&&eZ P e2 b a ts)=true:=h
  rw [Ac]at this
  show(_&&eZ P e2 b a (ts.take n))=true
  rw [Ac]
  exact⟨this.1,kc ts n this.2⟩
theorem Sim.flatN(h:Sim P X S loc s tm w){id ver o n:Nat}{e e2:TypeId}{es:List PD}{ts:List (Nat×TypeId)}{l:Option (Nat×RV)}(hb:s.boxes id=some (.deep ver e es o e2 ts l)):
  ∃S' loc',Sim P X S' loc' { s with boxes:=fun k=>if k=id then some (.deep ver e es o e2 (ts.take n) l)else s.boxes k } tm w:=by
 obtain⟨L,v,N⟩:=h.boxes id _ hb
 cases N with
 |deep _ _ _ _ _ _ _ sz hdr xs bs E hd=>
 obtain⟨T,W,k3⟩:=h.kill v
 have p:∀k,k<es.length->∀x∈E k,Free X S (upd loc id .dead) x:=fun k hk x m=>k3 x (List.mem_append.2 (.inr ((hd.hb x).2 ⟨k,hk,m⟩)))
 obtain⟨D,r,g1,g2,g3,g4⟩:=Sim.lA (fun S row u b=>dM P S w (ts.take n) e2 row u b) (fun O Q=>Q.aE O fun _ _=>rfl) (fun h1 B z=>dM.cut n ts h1 B z) T hd.hc p es.length (AB _)
 let a:Nat->List Nat:=fun k=>if l.map (·.1)=some k then []else r k
 have f:∀k,k<es.length->∀x∈a k,x∈E k∧∀o,D ⟨x,o,none⟩=none:=fun k hk x m=>by
  by_cases q:l.map (·.1)=some k
  ·simp only [a,if_pos q]at m;cases m
  ·simp only [a,if_neg q]at m
   obtain⟨J,row,u,C,F,G,H,U⟩:=g4 k hk q
   exact U x m
 let bs2:List Nat:=(AI es.length).flatMap a
 have j:∀b,b∈bs2↔∃k,k<es.length∧b∈a k:=fun b=>by simp only [bs2,BP,BQ]
 have hle:cm loc (upd loc id (.nest ver e sz hdr bs2)):=cm.upd (show cj (loc id) _ by rw [v];exact .held)
 refine⟨D,upd loc id (.nest ver e sz hdr bs2),h.regrow v g1 g2 .held (.deep ver e es o e2 (ts.take n) l sz hdr xs bs2 a ⟨hd.hsz,hd.ho,hd.how,hd.hf.mono g2,⟨fun k x h1 g=>?_,fun k hk=>?_,fun k k' b h1 g t K=>hd.hc.apart k k' b h1 g (f k h1 b t).1 (f k' g b K).1,fun k b h1 g=>hd.hc.hdr k b h1 (f k h1 b g).1⟩,j,fun i rv he=>?_,kc ts n hd.ht⟩) fun c hc=>?_⟩
 ·obtain⟨J,row,u,C,F,G,H, -⟩:=g4 k (List.getElem?_eq_some_iff.1 h1).1 g
  rw [h1]at C
  cases C
  exact⟨row,u,F,G,by simp only [a,if_neg g];exact H⟩
 ·simp only [a,if_pos hk]
 ·obtain⟨h1,u,g,t⟩:=hd.hl i rv he
  exact⟨h1,u,g,t.mono g2 hle⟩
 ·rcases List.mem_append.1 hc with hc|hc
  ·have m:cA hdr=some c:=by simpa using hc
   have l:Loc.has (.nest ver e sz hdr bs) c:=List.mem_append.2 (.inl hc)
   exact⟨l,fun o=>g3 c o (fun k hk hm=>hd.hc.hdr k c hk hm m) ((k3 c l).2.1 o)⟩
  ·obtain⟨k,hk,y⟩:=(j c).1 hc
   obtain⟨I,a2⟩:=f k hk c y
   exact⟨List.mem_append.2 (.inr ((hd.hb c).2 ⟨k,hk,I⟩)),a2⟩
theorem Sim.flat0(h:Sim P X S loc s tm w){id ver o:Nat}{e e2:TypeId}{es:List PD}{ts:List (Nat×TypeId)}(hb:s.boxes id=some (.deep ver e es o e2 ts none)):
  ∃S' loc',Sim P X S' loc' { s with boxes:=fun k=>if k=id then some (.arr ver e es)else s.boxes k } tm w:=by
 obtain⟨L,f,n⟩:=h.boxes id _ hb
 cases n with
 |deep _ _ _ _ _ _ _ sz hdr xs bs l hd=>
 obtain⟨q,v,k3⟩:=h.kill f
 have p:dM P S w ((o,e2)::ts) e es hdr ((cA hdr).toList++bs):=⟨sz,xs,l,hd.hsz,hd.ho,hd.how,hd.hf,hd.hc,fun b=>by rw [BO,hd.hb];simp⟩
 obtain⟨i,m,g1,g2,g3,g4,g5⟩:=dM.cut 0 _ q p fun b hb=>k3 b hb
 obtain⟨u,a,g,r,t,rfl⟩:=g4
 have hsz:=hd.hsz
 rw [g]at hsz
 cases hsz
 exact ⟨i, upd loc id (.arr ver e sz hdr), h.regrow f g1 g2 (.flat (.inr ⟨rfl, rfl, rfl, rfl⟩)) (.arr ver e es sz hdr a g r t) fun c hc => by
  obtain⟨j,a2⟩:=g5 c (by have:cA hdr=some c:=hc;rw [this];simp)
  exact⟨j,a2⟩⟩
end
end Go.Dw
