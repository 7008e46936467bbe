
import Derived.Test.YtikangmionpjfaaGreatDwBuild
open List renaming getD->C8, getElem_mem->C9, replicate->B5
open Nat renaming add_mul->CZ, le_refl->B6, mod_lt->Ca, zero_add->CF
open Option.some renaming injEq->B7
open Bool renaming and_eq_true->C4, false_eq_true->Cb
open Array renaming getElem?_eq_getElem->Cc, getElem?_map->Cd, getElem?_range->Ce, getElem_of_mem->Cf, range->Cg
open Go.Sem renaming run_bind->Ch, run_ite->Ci, run_pure->Cj
open Go.Result renaming andThen_ok->C7

namespace Go.Dw
theorem qU{α:Type}(l:List α):∀(n m:Nat),m<n*l.length->(B5 n l).flatten[m]? =l[m%l.length]?
 |0,m,h=>by simp at h
 |n+1,m,h=>by
  rw [List.replicate_succ,List.flatten_cons]
  by_cases hm:m<l.length
  ·rw [List.getElem?_append_left hm,Nat.mod_eq_of_lt hm]
  ·rw [List.getElem?_append_right za,qU l n (m-l.length) (by rw [CZ]at h;omega)]
   congr 1
   rw [<-Nat.mod_eq_sub_mod za]
theorem pO{α:Type}(l:List α)(n:Nat):(B5 n l).flatten.length=n*l.length:=by
 simp
section
variable {P:Program}{X:Ctx}{S:pr}{loc:pY}{s:St}{tm:Array Value}{w:World}
theorem ru(e:TypeId)(k:Nat):∀(n:Nat)(a:List PD),(qx P e k n a).length=n
 |0,_=>rfl
 |n+1,a=>by simp [qx,ru e k n]
theorem uC(e:TypeId)(k:Nat)(hk:pW P e=true∨k=1):∀(n:Nat)(f:List PD),f.length=n*k->(∀p∈f,p.one=true)->∀(i:Nat)x,(qx P e k n f)[i]? =some x->
  x.cells.length=k∧∀j c,x.cells[j]? =some c->f[i*k+j]? =some c
 |0,_,_,_,i,x,g=>by simp [qx]at g
 |n+1,f,t,h1,i,x,g=>by
  rw [CZ,Nat.one_mul]at t
  cases i with
  |zero=>
   simp only [qx,List.getElem?_cons_zero,B7]at g
   subst g
   by_cases l:pW P e=true
   ·simp only [l,if_true,PD.cells]
    refine⟨so,fun j c a=>?_⟩
    rw [List.getElem?_take]at a
    split at a
    ·simpa using a
    ·cases a
   ·have q:k=1:=hk.resolve_left l
    subst q
    simp only [l]
    obtain⟨p,r,rfl⟩:∃p r,f=p::r:=by
     cases f with
     |nil=>simp at t
     |cons p r=>exact⟨p,r,rfl⟩
    have hp:=h1 p sm
    have hc:p.cells=[p]:=by cases p<;>first|rfl|(simp [PD.one]at hp)
    simp only [List.headD_cons,Cb,if_false,hc]
    refine⟨rfl,fun j c a=>?_⟩
    cases j with
    |zero=>simpa using a
    |succ j=>simp at a
  |succ i=>
   simp only [qx,List.getElem?_cons_succ]at g
   obtain⟨u,y⟩:=uC e k hk n (f.drop k) so (fun p hp=>h1 p (List.mem_of_mem_drop hp)) i x g
   refine⟨u,fun j c a=>?_⟩
   have:=y j c a
   rw [List.getElem?_drop]at this
   rw [<-this]
   congr 1
   rw [CZ]
   omega
theorem uk(h:Sim P X S loc s tm w)(t:TypeId)(vs:Array Value)(h1:∀u∈vs,u.oneCell'=true):
  Sim P X (qJ S w.heap.size vs.toList) loc s tm (w.alloc (.cells vs t))∧Sub S (qJ S w.heap.size vs.toList)∧(∀o,S ⟨w.heap.size,o,none⟩=none):=by
 have hS:∀o,S ⟨w.heap.size,o,none⟩=none:=by
  intro o
  cases hS:S ⟨w.heap.size,o,none⟩with
  |none=>rfl
  |some v=>
   have:=World.block_lt_of_cell? w _ (h.imm _ v hS)
   simp at this
 refine⟨?_,rD _ _ _,hS⟩
 refine(h.stepW (Step.alloc w _)).uD w.heap.size vs.toList ?_ (fun v k=>h1 v (by simpa using k)) ?_ ?_
 ·intro j v g
  rw [cell_of_row _ _ _ vs t (0,0) (heap_alloc_new w _)]
  simpa using g
 ·intro id L c f
  obtain⟨l,a⟩:=h.dom id L c
  have:=(h.qW a c).rq f
  omega
 ·exact .inl h.frame.size
theorem Sim.vv(h:Sim P X S loc s tm w){id:Nat}(j:s.boxes id=none){w':World}(hs:Step none w w'){e:TypeId}{sz:Nat}(k:szT P e=some sz){hdr:Value}{es:List PD}{xs:List Value}
  (how:rowAt w' e sz hdr es.length xs) (hf:Flat S sz es xs) (c:∀g,pB hdr=some g->w.heap.size<=g) (ho:hdr.oneCell'=true):
  ∃loc',Sim P X S loc' { s with boxes:=upd s.boxes id (.arr 0 e es) } tm w'∧R S loc' (.ref id 0) hdr∧pD loc loc':=by
 have a:=h.pS j
 have f:pN (loc id) (.arr 0 e sz hdr):=by rw [a];trivial
 refine⟨upd loc id (.arr 0 e sz hdr),?_,?_,pD.upd f⟩
 ·exact h.qh hs id _ _ (fun b hc=>by cases hc) (.arr 0 e es sz hdr xs k how hf) (fun b j=>.inr (.inl (c b j))) f
 ·exact .ref id 0 _ _ ho (pz _ _ _) (fun p r q l he=>by cases he;exact⟨B6 _,fun _=>rfl⟩)
theorem xX(h:Sim P X S loc s tm w){t e:TypeId}{len:Nat}{l:List (Nat×RV)}{pvs:Array (Nat×Value)}{z:Value}{cs:List RV}(he:qc P t=some e)(hk:szT P e=some (0+1))(N:pZ P e=some z)
  (K:len*(0+1)<=2 ^ 24) (k:z.cells.size=0+1) (hf:sh (fun i=>some (i*(0+1),0+1)) (B5 len (pX z).cells).flatten l=some cs) (F:rb l=true) (hp:zY S loc l pvs.toList) (p:zm cs=true):
  ∃v' w' S' loc',(Instr.buildSlice t len pvs).run P w= .ok v' w'∧Sim P X S' loc' (s.ups []) tm w'∧R S' loc' (.plit cs) v':=by
 obtain⟨T,z2⟩:=sq S loc z
 have f:(pX z).cells.length=0+1:=by rw [<-T];exact k
 have G:((Cg (len*(0+1))).map (z.cells[· %z.cells.size]!)).size=(B5 len (pX z).cells).flatten.length:=by
  rw [pO,f];simp
 have E:∀(i:Nat)c x,(B5 len (pX z).cells).flatten[i]? =some c->((Cg (len*(0+1))).map (z.cells[· %z.cells.size]!))[i]? =some x->R S loc c x:=by
  intro i c x hi y
  have a:i<len*(0+1):=by
   have:=(List.getElem?_eq_some_iff.1 hi).1
   rw [pO,f]at this
   exact this
  rw [qU _ _ _ (by rw [f];exact a),f]at hi
  rw [Cd,Ce,if_pos a]at y
  simp only [Option.map_some,B7,k]at y
  have hm:i%(0+1)<z.cells.size:=by rw [k];exact Ca _ za
  have L:z.cells[i%(0+1)]? =some x:=by
   rw [Cc hm, <-y]
   simp [hm]
  exact z2 _ c x hi L
 obtain⟨vs,g1,g2,g3,g4,_⟩:=tA l pvs.toList _ cs _ hf F hp G E
 rw [pO,f]at g3
 simp only [zm,C4,Bool.not_eq_true',List.all_eq_true]at p
 have q:∀x∈vs,x.oneCell'=true:=by
  intro x y
  obtain⟨i,hi,C⟩:=Cf y
  have a:i<cs.length:=by omega
  have I:=g4 i cs[i] x (zd a) (by rw [Cc hi,C])
  have hc:=p.2 cs[i] (C9 a)
  generalize cs[i]=c at I hc
  cases c<;>first|(cases hc;done)|skip
  cases I with|ptr _ _ _ _ ho _ _=>exact ho
 have H:0<cs.length:=by cases cs with|nil=>simp at p|cons=>simp
 have u:(Instr.buildSlice t len pvs).run P w= .ok (.slice (some ⟨w.heap.size,0,none⟩) len len) (w.alloc (.cells vs e)):=by
  obtain⟨i,hi,D⟩:=qN N
  have J:¬len*(0+1)=0:=by omega
  have B:¬(2 ^ 24<len*(0+1)):=by omega
  simp only [Instr.buildSlice,run_underlying (qo he),pC hk,Ch,C7,Ci,gt_iff_lt,B,if_false,J,zeroValue,typeInfo,run_program,hi,Cj,D,g1,newRow,run_newObj,World.alloc_eq]
 obtain⟨n1,O,Q⟩:=uk h e vs q
 refine⟨_,_,_,loc,u,n1,?_⟩
 have g:∀(j:Nat)x,cs[j]? =some x->vs.toList[j]? =some (vs.toList.getD j default):=fun j x r=>by
  have a:=(List.getElem?_eq_some_iff.1 r).1
  have:j<vs.toList.length:=by simp;omega
  simp [C8,zd this]
 have:=R.plit (S:=qJ S w.heap.size vs.toList) (loc:=loc) cs w.heap.size 0 len (fun j=>vs.toList.getD j default) za
  (fun j x r=>by rw [CF,ua Q (g j x r)])
  (fun j x r=>(g4 j x _ r (by rw [<-Array.getElem?_toList];exact g j x r)).mono O (pD.refl loc))
 rw [g3,CF,Nat.mul_one]at this
 exact this
theorem wD(h:Sim P X S loc s tm w){mt:Bool}{id:Nat}{t:TypeId}{len:Nat}{l:List (Nat×RV)}{pvs:Array (Nat×Value)}{v:RV}{u:Ups}{r:List Nat}
  (a:q8 P mt id t len l s.boxes=some ((v,u),r,true)) (hp:zY S loc l pvs.toList):
  ∃v' w' S' loc',(Instr.buildSlice t len pvs).run P w= .ok v' w'∧Sim P X S' loc' (s.ups u) tm w'∧R S' loc' v v':=by
 unfold q8 at a
 rcases he:qc P t with _|e
 ·simp only [he]at a;exact fE s.boxes a
 simp only [he]at a
 rcases hk:szT P e with _|_|k
 ·simp only [hk]at a;exact fE s.boxes a
 ·simp only [hk]at a;exact fE s.boxes a
 rcases hz:pZ P e with _|z
 ·simp only [hk,hz]at a;exact fE s.boxes a
 simp only [hk,hz]at a
 by_cases hc:len*(k+1)<=2 ^ 24∧z.cells.size=k+1∧(pW P e=true∨k=0)
 rotate_left
 ·rw [if_neg hc]at a;exact fE s.boxes a
 rw [if_pos hc]at a
 obtain⟨c0,K,c1⟩:=hc
 rcases hf:sh (fun i=>some (i*(k+1),k+1)) (B5 len (pX z).cells).flatten l with _|cs
 ·simp only [hf]at a;exact fE s.boxes a
 simp only [hf]at a
 by_cases D:(mt&&zm cs)=true
 ·rw [if_pos D]at a
  obtain⟨h5, -,J⟩:=M.pq (b:=s.boxes) a
  cases h5
  simp only [Bool.true_eq,C4]at J
  obtain⟨J,h7⟩:=J
  obtain rfl:=of_decide_eq_true h7
  exact xX h he hk hz c0 K hf J hp (by simp only [C4]at D;exact D.2)
 rw [if_neg D]at a
 obtain⟨⟨F,u1⟩,r1,r2,h1,h2,_⟩:=M.bind_some a
 have O:(rb l&&F.all PD.one)=true∧((s.boxes id=none∧v= .ref id 0∧u=u1++[(id,.arr 0 e (qx P e (k+1) len F))])∨(v= .d (.lst (qx P e (k+1) len F))∧u=u1)):=by
  cases a9:(mt&& !xJ cs)with
  |true=>
   simp only [a9,if_true]at h2
   obtain⟨_,r3,r4,h3,h4,_⟩:=M.bind_some h2
   obtain⟨hb,_,_⟩:=M.qj h3
   obtain⟨h5, -,J⟩:=M.pq h4
   cases h5
   exact⟨J.symm,.inl ⟨hb,rfl,rfl⟩⟩
  |false=>
   simp only [a9,Cb,if_false]at h2
   obtain⟨h5, -,J⟩:=M.pq (b:=s.boxes) h2
   cases h5
   exact⟨J.symm,.inr ⟨rfl,rfl⟩⟩
 obtain⟨a6,b3⟩:=O
 simp only [C4]at a6
 obtain⟨c5,c6⟩:=a6
 have L:∀p∈F,p.one=true:=fun p hp=>List.all_eq_true.1 c6 p hp
 obtain⟨z1,z2⟩:=sq S loc z
 have I:(pX z).cells.length=k+1:=by rw [<-z1];exact K
 have c7:((Cg (len*(k+1))).map (z.cells[· %z.cells.size]!)).size=(B5 len (pX z).cells).flatten.length:=by
  rw [pO,I];simp
 have c4:∀(i:Nat)c x,(B5 len (pX z).cells).flatten[i]? =some c->((Cg (len*(k+1))).map (z.cells[· %z.cells.size]!))[i]? =some x->R S loc c x:=by
  intro i c x hi E
  have q:i<len*(k+1):=by
   have:=(List.getElem?_eq_some_iff.1 hi).1
   rw [pO,I]at this
   exact this
  rw [qU _ _ _ (by rw [I];exact q),I]at hi
  rw [Cd,Ce,if_pos q]at E
  simp only [Option.map_some,B7,K]at E
  have hm:i%(k+1)<z.cells.size:=by rw [K];exact Ca _ za
  have hg:z.cells[i%(k+1)]? =some x:=by
   rw [Cc hm, <-E]
   simp [hm]
  exact z2 _ c x hi hg
 obtain⟨vs,g1,g2,g3,g4,_⟩:=tA l pvs.toList _ cs _ hf c5 hp c7 c4
 rw [pO,I]at g3
 obtain⟨p1,p2,p3,p4⟩:=Az h1
 obtain⟨S1,b5,a5,b4,hle,c2⟩:=h.uB u1 p1 (fun x E=>.inl (p2 x E))
 have b0:∀(i:Nat)p x,F[i]? =some p->vs[i]? =some x->V S1 p x:=by
  intro i p x hi E
  have q:i<cs.length:=by rw [<-p3];exact(List.getElem?_eq_some_iff.1 hi).1
  exact p4 S loc S1 b4 c2 i cs[i] p x (zd q) hi (g4 i _ x (zd q) E)
 have G:vs.size=F.length:=by rw [g2,p3]
 have H:∀x∈vs,x.oneCell'=true:=by
  intro x E
  obtain⟨i,hi,W⟩:=Cf E
  have q:i<F.length:=by rw [<-G];exact hi
  exact((b0 i F[i] x (zd q) (by rw [Cc hi,W])).tf (L _ (C9 q))).1
 have D:F.length=len*(k+1):=by rw [p3,g3]
 have a7:=uC (P:=P) e (k+1) (c1.imp (fun h=>h) (fun h=>za)) len F D L
 have B:Flat S1 (k+1) (qx P e (k+1) len F) vs.toList:=by
  refine⟨fun x E=>?_,fun x E=>H x (by simpa using E),fun i x j c hi hj=>?_⟩
  ·obtain⟨i,hi,W⟩:=List.getElem_of_mem E
   exact(a7 i x (by rw [zd hi,W])).1
  ·have:=(a7 i x hi).2 j c hj
   have q:=(List.getElem?_eq_some_iff.1 this).1
   refine⟨vs[i*(k+1)+j],?_,b0 _ c _ this (Cc za)⟩
   simp [G,q]
 have N:(Instr.buildSlice t len pvs).run P w= .ok (.slice (some ⟨w.heap.size,0,none⟩) len len) (w.alloc (.cells vs e)):=by
  obtain⟨i,hi,c3⟩:=qN hz
  have e0:∀f:Nat->Value,(Cg 0).map f= #[]:=fun f=>by apply Array.ext';simp
  by_cases h0:len*(k+1)=0
  ·have Q:Instr.fill (fun i=>some (i*(k+1),k+1)) #[] pvs.toList=some vs:=by
    rw [h0,e0]at g1
    exact g1
   have T:¬(2 ^ 24<0):=by omega
   simp only [Instr.buildSlice,run_underlying (qo he),pC hk,Ch,C7,Ci,gt_iff_lt,h0,T,if_false,if_true,e0,Cj,Q,newRow,run_newObj,World.alloc_eq]
  ·have T:¬(2 ^ 24<len*(k+1)):=by omega
   simp only [Instr.buildSlice,run_underlying (qo he),pC hk,Ch,C7,Ci,gt_iff_lt,T,if_false,h0,zeroValue,typeInfo,run_program,hi,Cj,c3,g1,newRow,run_newObj,World.alloc_eq]
 rcases b3 with⟨hb,rfl,rfl⟩|⟨rfl,rfl⟩
 ·by_cases a8:id∈u1.map (·.1)
  ·obtain⟨x,E,c8⟩:=List.mem_map.1 a8
   obtain⟨ver,e',c9,Y⟩:=p2 x E
   rw [c8]at Y
   rw [hb]at Y
   cases Y
  ·have b6:(s.ups u1).boxes id=none:=by rw [qY u1 s id a8];exact hb
   have C:=ru (P:=P) e (k+1) len F
   have how:(w.alloc (.cells vs e)).ownsRow 0 e (k+1) (.slice (some ⟨w.heap.size,0,none⟩) len len) (qx P e (k+1) len F).length vs.toList:=by
    rw [C]
    refine⟨by simp [G,D],.inr ⟨w.heap.size,len,vs,rfl,Nat.zero_le _,heap_alloc_new w _,B6 _,?_,by rw [G,D],?_⟩⟩
    ·have:len*1<=len*(k+1):=Nat.mul_le_mul_left _ za
     simp only [maxLen];omega
    ·apply List.take_of_length_le;simp [G,D]
   obtain⟨loc',J,h7,_⟩:=a5.vv b6 (Step.alloc w _) hk (hdr:= .slice (some ⟨w.heap.size,0,none⟩) len len) (.inl (.of how)) B (fun g hg=>by have:=tp hg;cases this;exact B6 _) rfl
   exact⟨_,_,S1,loc',N,by rw [tG];exact J,h7⟩
 ·obtain⟨n1,n2,n3⟩:=uk a5 e vs H
  refine⟨_,_,_,b5,N,n1,.d ?_⟩
  have C:=ru (P:=P) e (k+1) len F
  have:=V.lst (S:=qJ S1 w.heap.size vs.toList) (qx P e (k+1) len F) w.heap.size 0 len (k+1) (fun i j=>vs.toList.getD (i*(k+1)+j) default) (by rw [C];exact B6 _) B.len
   (fun i x j c hi hj => by
    obtain⟨y,hy,_⟩:=B.cell i x j c hi hj
    rw [CF,ua n3 hy]
    simp [C8,hy])
   (fun i x j c hi hj => by
    obtain⟨y,hy,hv⟩:=B.cell i x j c hi hj
    have:=hv.mono n2
    simpa [C8,hy]using this)
  rw [C]at this
  exact this
end
end Go.Dw
