
import Derived.Test.YthkfkgoddhehcaaGreatDwBuild
open List renaming getD->FA, getElem_mem->FB, replicate->EA
open Nat renaming add_mul->E3, le_refl->EB, mod_lt->FC, zero_add->EJ
open Option.some renaming injEq->EC
open Bool renaming and_eq_true->E8, false_eq_true->FD
open Array renaming getElem?_eq_getElem->FE, getElem?_map->FF, getElem?_range->FG, getElem_of_mem->FH, range->FI
open Go.Sem renaming run_bind->FJ, run_ite->FK, run_pure->FL
open Go.Result renaming andThen_ok->Ez

namespace Go.Dw
theorem u9{α:Type}(l:List α):∀(n m:Nat),m<n*l.length->(EA n l).flatten[m]? =l[m%l.length]?
 |0,m,h=>by simp at h
 |n+1,m,h=>by
  rw [List.replicate_succ,List.flatten_cons]
  by_cases hm:m<l.length
  ·rw [List.getElem?_append_left hm,Nat.mod_eq_of_lt hm]
  ·rw [List.getElem?_append_right za,u9 l n (m-l.length) (by rw [E3]at h;omega)]
   congr 1
   rw [<-Nat.mod_eq_sub_mod za]
theorem tX{α:Type}(l:List α)(n:Nat):(EA n l).flatten.length=n*l.length:=by
 simp
section
variable {P:Program}{X:Ctx}{S:tG}{loc:ui}{s:St}{tm:Array Value}{w:World}
theorem vD(e:TypeId)(k:Nat):∀(n:Nat)(a:List PD),(uP P e k n a).length=n
 |0,_=>rfl
 |n+1,a=>by simp [uP,vD e k n]
theorem xP(e:TypeId)(k:Nat)(hk:ue P e=true∨k=1):∀(n:Nat)(f:List PD),f.length=n*k->(∀p∈f,p.one=true)->∀(i:Nat)x,(uP P e k n f)[i]? =some x->
  x.cells.length=k∧∀j c,x.cells[j]? =some c->f[i*k+j]? =some c
 |0,_,_,_,i,x,g=>by simp [uP]at g
 |n+1,f,t,h1,i,x,g=>by
  rw [E3,Nat.one_mul]at t
  cases i with
  |zero=>
   simp only [uP,List.getElem?_cons_zero,EC]at g
   subst g
   by_cases l:ue P e=true
   ·simp only [l,if_true,PD.cells]
    refine⟨so,λj c a=>?_⟩
    rw [List.getElem?_take]at a
    split at a
    ·simpa using a
    ·cases a
   ·have q:k=1:=hk.resolve_left l
    subst q
    simp only [l]
    obtain⟨p,r,rfl⟩:∃p r,f=p::r:=by
     cases f with
     |nil=>simp at t
     |cons p r=>exact⟨p,r,rfl⟩
    have hp:=h1 p zb
    have hc:p.cells=[p]:=by cases p<;>first|rfl|(simp [PD.one]at hp)
    simp only [List.headD_cons,FD,if_false,hc]
    refine⟨rfl,λj c a=>?_⟩
    cases j with
    |zero=>simpa using a
    |succ j=>simp at a
  |succ i=>
   simp only [uP,List.getElem?_cons_succ]at g
   obtain⟨u,y⟩:=xP e k hk n (f.drop k) so (λp hp=>h1 p (List.mem_of_mem_drop hp)) i x g
   refine⟨u,λj c a=>?_⟩
   have:=y j c a
   rw [List.getElem?_drop]at this
   rw [<-this]
   congr 1
   rw [E3]
   omega
theorem xD(h:Sim P X S loc s tm w)(t:TypeId)(vs:Array Value)(h1:∀u∈vs,u.oneCell'=true):
  Sim P X (uU S w.heap.size vs.toList) loc s tm (w.alloc (.cells vs t))∧Sub S (uU S w.heap.size vs.toList)∧(∀o,S ⟨w.heap.size,o,none⟩=none):=by
 have hS:∀o,S ⟨w.heap.size,o,none⟩=none:=by
  intro o
  cases hS:S ⟨w.heap.size,o,none⟩with
  |none=>rfl
  |some v=>
   have:=World.block_lt_of_cell? w _ (h.imm _ v hS)
   simp at this
 refine⟨?_,vL _ _ _,hS⟩
 refine(h.stepW (Step.alloc w _)).zX w.heap.size vs.toList ?_ (λv k=>h1 v (by simpa using k)) ?_ ?_
 ·intro j v g
  rw [cell_of_row _ _ _ vs t (0,0) (heap_alloc_new w _)]
  simpa using g
 ·intro id L c f
  obtain⟨l,a⟩:=h.dom id L c
  have:=(h.wh a c).wH f
  omega
 ·exact .inl h.frame.size
theorem Sim.yB(h:Sim P X S loc s tm w){id:Nat}(j:s.boxes id=none){w':World}(hs:Step none w w'){e:TypeId}{sz:Nat}(k:szT P e=some sz){hdr:Value}{es:List PD}{xs:List Value}
  (how:rowAt w' e sz hdr es.length xs) (hf:Flat S sz es xs) (c:∀g,tM hdr=some g->w.heap.size<=g) (ho:hdr.oneCell'=true):
  ∃loc',Sim P X S loc' { s with boxes:=upd s.boxes id (.arr 0 e es) } tm w'∧R S loc' (.ref id 0) hdr∧tO loc loc':=by
 have a:=h.uj j
 have f:uc (loc id) (.arr 0 e sz hdr):=by rw [a];trivial
 refine⟨upd loc id (.arr 0 e sz hdr),?_,?_,tO.upd f⟩
 ·exact h.uO hs id _ _ (λb hc=>by cases hc) (.arr 0 e es sz hdr xs k how hf) (λb j=>.inr (.inl (c b j))) f
 ·exact .ref id 0 _ _ ho (tJ _ _ _) (λp r q l he=>by cases he;exact⟨EB _,λ_=>rfl⟩)
theorem Bc(h:Sim P X S loc s tm w){t e:TypeId}{len:Nat}{l:List (Nat×RV)}{pvs:Array (Nat×Value)}{z:Value}{cs:List RV}(he:uA P t=some e)(hk:szT P e=some (0+1))(N:uE P e=some z)
  (K:len*(0+1)<=2 ^ 24) (k:z.cells.size=0+1) (hf:wx (λi=>some (i*(0+1),0+1)) (EA len (uh z).cells).flatten l=some cs) (F:vo l=true) (hp:Cy S loc l pvs.toList) (p:B4 cs=true):
  ∃v' w' S' loc',(Instr.buildSlice t len pvs).run P w= .ok v' w'∧Sim P X S' loc' (s.ups []) tm w'∧R S' loc' (.plit cs) v':=by
 obtain⟨T,z2⟩:=wG S loc z
 have f:(uh z).cells.length=0+1:=by rw [<-T];exact k
 have G:((FI (len*(0+1))).map (z.cells[· %z.cells.size]!)).size=(EA len (uh z).cells).flatten.length:=by
  rw [tX,f];simp
 have E:∀(i:Nat)c x,(EA len (uh z).cells).flatten[i]? =some c->((FI (len*(0+1))).map (z.cells[· %z.cells.size]!))[i]? =some x->R S loc c x:=by
  intro i c x hi y
  have a:i<len*(0+1):=by
   have:=(List.getElem?_eq_some_iff.1 hi).1
   rw [tX,f]at this
   exact this
  rw [u9 _ _ _ (by rw [f];exact a),f]at hi
  rw [FF,FG,if_pos a]at y
  simp only [Option.map_some,EC,k]at y
  have hm:i%(0+1)<z.cells.size:=by rw [k];exact FC _ za
  have L:z.cells[i%(0+1)]? =some x:=by
   rw [FE hm, <-y]
   simp [hm]
  exact z2 _ c x hi L
 obtain⟨vs,g1,g2,g3,g4,_⟩:=w7 l pvs.toList _ cs _ hf F hp G E
 rw [tX,f]at g3
 simp only [B4,E8,Bool.not_eq_true',List.all_eq_true]at p
 have q:∀x∈vs,x.oneCell'=true:=by
  intro x y
  obtain⟨i,hi,C⟩:=FH y
  have a:i<cs.length:=by omega
  have I:=g4 i cs[i] x (ze a) (by rw [FE hi,C])
  have hc:=p.2 cs[i] (FB a)
  generalize cs[i]=c at I hc
  cases c<;>first|(cases hc;done)|skip
  cases I with|ptr _ _ _ _ ho _ _=>exact ho
 have H:0<cs.length:=by cases cs with|nil=>simp at p|cons=>simp
 have u:(Instr.buildSlice t len pvs).run P w= .ok (.slice (some ⟨w.heap.size,0,none⟩) len len) (w.alloc (.cells vs e)):=by
  obtain⟨i,hi,D⟩:=vu N
  have J:¬len*(0+1)=0:=by omega
  have B:¬(2 ^ 24<len*(0+1)):=by omega
  simp only [Instr.buildSlice,run_underlying (uW he),tQ hk,FJ,Ez,FK,gt_iff_lt,B,if_false,J,zeroValue,typeInfo,run_program,hi,FL,D,g1,newRow,run_newObj,World.alloc_eq]
 obtain⟨n1,O,Q⟩:=xD h e vs q
 refine⟨_,_,_,loc,u,n1,?_⟩
 have g:∀(j:Nat)x,cs[j]? =some x->vs.toList[j]? =some (vs.toList.getD j default):=λj x r=>by
  have a:=(List.getElem?_eq_some_iff.1 r).1
  have:j<vs.toList.length:=by simp;omega
  simp [FA,ze this]
 have:=R.plit (S:=uU S w.heap.size vs.toList) (loc:=loc) cs w.heap.size 0 len (λj=>vs.toList.getD j default) za
  (λj x r=>by rw [EJ,xv Q (g j x r)])
  (λj x r=>(g4 j x _ r (by rw [<-Array.getElem?_toList];exact g j x r)).mono O (tO.refl loc))
 rw [g3,EJ,Nat.mul_one]at this
 exact this
theorem zM(h:Sim P X S loc s tm w){mt:Bool}{id:Nat}{t:TypeId}{len:Nat}{l:List (Nat×RV)}{pvs:Array (Nat×Value)}{v:RV}{u:Ups}{r:List Nat}
  (a:vj P mt id t len l s.boxes=some ((v,u),r,true)) (hp:Cy S loc l pvs.toList):
  ∃v' w' S' loc',(Instr.buildSlice t len pvs).run P w= .ok v' w'∧Sim P X S' loc' (s.ups u) tm w'∧R S' loc' v v':=by
 unfold vj at a
 rcases he:uA P t with _|e
 ·simp only [he]at a;exact fE s.boxes a
 simp only [he]at a
 rcases hk:szT P e with _|_|k
 ·simp only [hk]at a;exact fE s.boxes a
 ·simp only [hk]at a;exact fE s.boxes a
 rcases hz:uE P e with _|z
 ·simp only [hk,hz]at a;exact fE s.boxes a
 simp only [hk,hz]at a
 by_cases hc:len*(k+1)<=2 ^ 24∧z.cells.size=k+1∧(ue P e=true∨k=0)
 rotate_left
 ·rw [if_neg hc]at a;exact fE s.boxes a
 rw [if_pos hc]at a
 obtain⟨b6,K,c0⟩:=hc
 rcases hf:wx (λi=>some (i*(k+1),k+1)) (EA len (uh z).cells).flatten l with _|cs
 ·simp only [hf]at a;exact fE s.boxes a
 simp only [hf]at a
 by_cases D:(mt&&B4 cs)=true
 ·rw [if_pos D]at a
  obtain⟨h5, -,J⟩:=M.tK (b:=s.boxes) a
  cases h5
  simp only [Bool.true_eq,E8]at J
  obtain⟨J,h7⟩:=J
  obtain rfl:=of_decide_eq_true h7
  exact Bc h he hk hz b6 K hf J hp (by simp only [E8]at D;exact D.2)
 rw [if_neg D]at a
 obtain⟨⟨F,u1⟩,r1,r2,h1,h2,_⟩:=M.bind_some a
 have O:(vo l&&F.all PD.one)=true∧((s.boxes id=none∧v= .ref id 0∧u=u1++[(id,.arr 0 e (uP P e (k+1) len F))])∨(v= .d (.lst (uP P e (k+1) len F))∧u=u1)):=by
  cases a9:(mt&& !AZ cs)with
  |true=>
   simp only [a9,if_true]at h2
   obtain⟨_,r3,r4,h3,h4,_⟩:=M.bind_some h2
   obtain⟨hb,_,_⟩:=M.uD h3
   obtain⟨h5, -,J⟩:=M.tK h4
   cases h5
   exact⟨J.symm,.inl ⟨hb,rfl,rfl⟩⟩
  |false=>
   simp only [a9,FD,if_false]at h2
   obtain⟨h5, -,J⟩:=M.tK (b:=s.boxes) h2
   cases h5
   exact⟨J.symm,.inr ⟨rfl,rfl⟩⟩
 obtain⟨a6,b3⟩:=O
 simp only [E8]at a6
 obtain⟨c4,c5⟩:=a6
 have L:∀p∈F,p.one=true:=λp hp=>List.all_eq_true.1 c5 p hp
 obtain⟨z1,z2⟩:=wG S loc z
 have I:(uh z).cells.length=k+1:=by rw [<-z1];exact K
 have c6:((FI (len*(k+1))).map (z.cells[· %z.cells.size]!)).size=(EA len (uh z).cells).flatten.length:=by
  rw [tX,I];simp
 have c3:∀(i:Nat)c x,(EA len (uh z).cells).flatten[i]? =some c->((FI (len*(k+1))).map (z.cells[· %z.cells.size]!))[i]? =some x->R S loc c x:=by
  intro i c x hi E
  have q:i<len*(k+1):=by
   have:=(List.getElem?_eq_some_iff.1 hi).1
   rw [tX,I]at this
   exact this
  rw [u9 _ _ _ (by rw [I];exact q),I]at hi
  rw [FF,FG,if_pos q]at E
  simp only [Option.map_some,EC,K]at E
  have hm:i%(k+1)<z.cells.size:=by rw [K];exact FC _ za
  have hg:z.cells[i%(k+1)]? =some x:=by
   rw [FE hm, <-E]
   simp [hm]
  exact z2 _ c x hi hg
 obtain⟨vs,g1,g2,g3,g4,_⟩:=w7 l pvs.toList _ cs _ hf c4 hp c6 c3
 rw [tX,I]at g3
 obtain⟨p1,p2,p3,p4⟩:=CU h1
 obtain⟨S1,loc1,a5,b4,hle,c1⟩:=h.yQ u1 p1 (λx E=>.inl (p2 x E))
 have b0:∀(i:Nat)p x,F[i]? =some p->vs[i]? =some x->V S1 p x:=by
  intro i p x hi E
  have q:i<cs.length:=by rw [<-p3];exact(List.getElem?_eq_some_iff.1 hi).1
  exact p4 S loc S1 b4 c1 i cs[i] p x (ze q) hi (g4 i _ x (ze q) E)
 have G:vs.size=F.length:=by rw [g2,p3]
 have H:∀x∈vs,x.oneCell'=true:=by
  intro x E
  obtain⟨i,hi,W⟩:=FH E
  have q:i<F.length:=by rw [<-G];exact hi
  exact((b0 i F[i] x (ze q) (by rw [FE hi,W])).xf (L _ (FB q))).1
 have D:F.length=len*(k+1):=by rw [p3,g3]
 have a7:=xP (P:=P) e (k+1) (c0.imp (λh=>h) (λh=>za)) len F D L
 have B:Flat S1 (k+1) (uP P e (k+1) len F) vs.toList:=by
  refine⟨λx E=>?_,λx E=>H x (by simpa using E),λi x j c hi hj=>?_⟩
  ·obtain⟨i,hi,W⟩:=List.getElem_of_mem E
   exact(a7 i x (by rw [ze hi,W])).1
  ·have:=(a7 i x hi).2 j c hj
   have q:=(List.getElem?_eq_some_iff.1 this).1
   refine⟨vs[i*(k+1)+j],?_,b0 _ c _ this (FE za)⟩
   simp [G,q]
 have N:(Instr.buildSlice t len pvs).run P w= .ok (.slice (some ⟨w.heap.size,0,none⟩) len len) (w.alloc (.cells vs e)):=by
  obtain⟨i,hi,c2⟩:=vu hz
  have e0:∀f:Nat->Value,(FI 0).map f= #[]:=λf=>by apply Array.ext';simp
  by_cases h0:len*(k+1)=0
  ·have Q:Instr.fill (λi=>some (i*(k+1),k+1)) #[] pvs.toList=some vs:=by
    rw [h0,e0]at g1
    exact g1
   have T:¬(2 ^ 24<0):=by omega
   simp only [Instr.buildSlice,run_underlying (uW he),tQ hk,FJ,Ez,FK,gt_iff_lt,h0,T,if_false,if_true,e0,FL,Q,newRow,run_newObj,World.alloc_eq]
  ·have T:¬(2 ^ 24<len*(k+1)):=by omega
   simp only [Instr.buildSlice,run_underlying (uW he),tQ hk,FJ,Ez,FK,gt_iff_lt,T,if_false,h0,zeroValue,typeInfo,run_program,hi,FL,c2,g1,newRow,run_newObj,World.alloc_eq]
 rcases b3 with⟨hb,rfl,rfl⟩|⟨rfl,rfl⟩
 ·by_cases a8:id∈u1.map (·.1)
  ·obtain⟨x,E,c7⟩:=List.mem_map.1 a8
   obtain⟨ver,e',c8,Y⟩:=p2 x E
   rw [c7]at Y
   rw [hb]at Y
   cases Y
  ·have b5:(s.ups u1).boxes id=none:=by rw [vq u1 s id a8];exact hb
   have C:=vD (P:=P) e (k+1) len F
   have how:(w.alloc (.cells vs e)).ownsRow 0 e (k+1) (.slice (some ⟨w.heap.size,0,none⟩) len len) (uP P e (k+1) len F).length vs.toList:=by
    rw [C]
    refine⟨by simp [G,D],.inr ⟨w.heap.size,len,vs,rfl,Nat.zero_le _,heap_alloc_new w _,EB _,?_,by rw [G,D],?_⟩⟩
    ·have:len*1<=len*(k+1):=Nat.mul_le_mul_left _ za
     simp only [maxLen];omega
    ·apply List.take_of_length_le;simp [G,D]
   obtain⟨loc',J,h7,_⟩:=a5.yB b5 (Step.alloc w _) hk (hdr:= .slice (some ⟨w.heap.size,0,none⟩) len len) (.inl (.of how)) B (λg hg=>by have:=wW hg;cases this;exact EB _) rfl
   exact⟨_,_,S1,loc',N,by rw [yb];exact J,h7⟩
 ·obtain⟨n1,n2,n3⟩:=xD a5 e vs H
  refine⟨_,_,_,loc1,N,n1,.d ?_⟩
  have C:=vD (P:=P) e (k+1) len F
  have:=V.lst (S:=uU S1 w.heap.size vs.toList) (uP P e (k+1) len F) w.heap.size 0 len (k+1) (λi j=>vs.toList.getD (i*(k+1)+j) default) (by rw [C];exact EB _) B.len
   (λi x j c hi hj => by
    obtain⟨y,hy,_⟩:=B.cell i x j c hi hj
    rw [EJ,xv n3 hy]
    simp [FA,hy])
   (λi x j c hi hj => by
    obtain⟨y,hy,hv⟩:=B.cell i x j c hi hj
    have:=hv.mono n2
    simpa [FA,hy]using this)
  rw [C]at this
  exact this
end
end Go.Dw
