
import Derived.Test.YtfmoipelhfkdkaaGreatDoorDwBuild
open List renaming getD->Dn, getElem_mem->Dp, replicate->B2
open Nat renaming add_mul->D1, le_refl->DA, mod_lt->Dq, zero_add->DI
open Option.some renaming injEq->DB
open Bool renaming and_eq_true->D6, false_eq_true->Dr
open Array renaming getElem?_eq_getElem->Ds, getElem?_map->Dt, getElem?_range->Du, getElem_of_mem->Dv, range->Dx
open Go.Sem renaming run_bind->Dy, run_ite->Dz, run_pure->EA
open Go.Result renaming andThen_ok->D9

namespace Go.Dw
theorem tz{α:Type}(l:List α):∀(n m:Nat),m<n*l.length->(B2 n l).flatten[m]? =l[m%l.length]?
 |0,m,h=>by simp at h
 |n+1,m,h=>by
  rw [List.replicate_succ,List.flatten_cons]
  by_cases hm:m<l.length
  ·rw [List.getElem?_append_left hm,Nat.mod_eq_of_lt hm]
  ·rw [List.getElem?_append_right za,tz l n (m-l.length) (by rw [D1]at h;omega)]
   congr 1
   rw [<-Nat.mod_eq_sub_mod za]
theorem rQ{α:Type}(l:List α)(n:Nat):(B2 n l).flatten.length=n*l.length:=by
 simp
section
variable {P:Program}{X:Ctx}{S:rC}{loc:sf}{s:St}{tm:Array Value}{w:World}
theorem tT(e:TypeId)(k:Nat):∀(n:Nat)(ps:List PD),(th P e k n ps).length=n
 |0,_=>rfl
 |n+1,ps=>by simp [th,tT e k n]
theorem wu(e:TypeId)(k:Nat)(hk:sh P e=true∨k=1):∀(n:Nat)(ps:List PD),ps.length=n*k->(∀p∈ps,p.one=true)->∀(i:Nat)x,(th P e k n ps)[i]? =some x->
  x.cells.length=k∧∀j c,x.cells[j]? =some c->ps[i*k+j]? =some c
 |0,_,_,_,i,x,g=>by simp [th]at g
 |n+1,ps,hl,h1,i,x,g=>by
  rw [D1,Nat.one_mul]at hl
  cases i with
  |zero=>
   simp only [th,List.getElem?_cons_zero,DB]at g
   subst g
   by_cases q:sh P e=true
   ·simp only [q,if_true,PD.cells]
    refine⟨so,fun j c f=>?_⟩
    rw [List.getElem?_take]at f
    split at f
    ·simpa using f
    ·cases f
   ·have u:k=1:=hk.resolve_left q
    subst u
    simp only [q]
    obtain⟨p,r,rfl⟩:∃p r,ps=p::r:=by
     cases ps with
     |nil=>simp at hl
     |cons p r=>exact⟨p,r,rfl⟩
    have hp:=h1 p zc
    have hc:p.cells=[p]:=by cases p<;>first|rfl|(simp [PD.one]at hp)
    simp only [List.headD_cons,Dr,if_false,hc]
    refine⟨rfl,fun j c f=>?_⟩
    cases j with
    |zero=>simpa using f
    |succ j=>simp at f
  |succ i=>
   simp only [th,List.getElem?_cons_succ]at g
   obtain⟨B,C⟩:=wu e k hk n (ps.drop k) so (fun p hp=>h1 p (List.mem_of_mem_drop hp)) i x g
   refine⟨B,fun j c f=>?_⟩
   have:=C j c f
   rw [List.getElem?_drop]at this
   rw [<-this]
   congr 1
   rw [D1]
   omega
theorem vY(h:Sim P X S loc s tm w)(t:TypeId)(vs:Array Value)(h1:∀u∈vs,u.oneCell'=true):
  Sim P X (tn S w.heap.size vs.toList) loc s tm (w.alloc (.cells vs t))∧Sub S (tn S w.heap.size vs.toList)∧(∀o,S ⟨w.heap.size,o,none⟩=none):=by
 have hS:∀o,S ⟨w.heap.size,o,none⟩=none:=by
  intro o
  cases hS:S ⟨w.heap.size,o,none⟩with
  |none=>rfl
  |some v=>
   have:=World.block_lt_of_cell? w _ (h.imm _ v hS)
   simp at this
 refine⟨?_,tZ _ _ _,hS⟩
 refine(h.stepW (Step.alloc w _)).wx w.heap.size vs.toList ?_ (fun v r=>h1 v (by simpa using r)) ?_ ?_
 ·intro j v q
  rw [cell_of_row _ _ _ vs t (0,0) (heap_alloc_new w _)]
  simpa using q
 ·intro id L g k
  obtain⟨B,f⟩:=h.dom id L g
  have:=(h.tA f g).uL k
  omega
 ·exact .inl h.frame.size
theorem Sim.xb(h:Sim P X S loc s tm w){id:Nat}(q:s.boxes id=none){w':World}(hs:Step none w w'){e:TypeId}{sz:Nat}(r:szT P e=some sz){hdr:Value}{es:List PD}{xs:List Value}
  (how:rowAt w' e sz hdr es.length xs) (hf:Flat S sz es xs) (j:∀g,sX hdr=some g->w.heap.size<=g) (ho:hdr.oneCell'=true):
  ∃loc',Sim P X S loc' { s with boxes:=upd s.boxes id (.arr 0 e es) } tm w'∧R S loc' (.ref id 0) hdr∧rF loc loc':=by
 have f:=h.rX q
 have k:rP (loc id) (.arr 0 e sz hdr):=by rw [f];trivial
 refine⟨upd loc id (.arr 0 e sz hdr),?_,?_,rF.upd k⟩
 ·exact h.sq hs id _ _ (fun b hc=>by cases hc) (.arr 0 e es sz hdr xs r how hf) (fun b q=>.inr (.inl (j b q))) k
 ·exact .ref id 0 _ _ ho (ru _ _ _) (fun B D C u he=>by cases he;exact⟨DA _,fun _=>rfl⟩)
theorem zM(h:Sim P X S loc s tm w){t e:TypeId}{len:Nat}{l:List (Nat×RV)}{pvs:Array (Nat×Value)}{z:Value}{cs:List RV}(he:ss P t=some e)(hk:szT P e=some (0+1))(T:se P e=some z)
  (O:len*(0+1)<=2 ^ 24) (q:z.cells.size=0+1) (hf:uD (fun i=>some (i*(0+1),0+1)) (B2 len (sd z).cells).flatten l=some cs) (I:tJ l=true) (hp:Bu S loc l pvs.toList) (r:A2 cs=true):
  ∃v' w' S' loc',(Instr.buildSlice t len pvs).run P w= .ok v' w'∧Sim P X S' loc' (s.ups []) tm w'∧R S' loc' (.plit cs) v':=by
 obtain⟨Y,z2⟩:=uJ S loc z
 have g:(sd z).cells.length=0+1:=by rw [<-Y];exact q
 have J:((Dx (len*(0+1))).map (z.cells[· %z.cells.size]!)).size=(B2 len (sd z).cells).flatten.length:=by
  rw [rQ,g];simp
 have H:∀(i:Nat)c x,(B2 len (sd z).cells).flatten[i]? =some c->((Dx (len*(0+1))).map (z.cells[· %z.cells.size]!))[i]? =some x->R S loc c x:=by
  intro i c x hi D
  have f:i<len*(0+1):=by
   have:=(List.getElem?_eq_some_iff.1 hi).1
   rw [rQ,g]at this
   exact this
  rw [tz _ _ _ (by rw [g];exact f),g]at hi
  rw [Dt,Du,if_pos f]at D
  simp only [Option.map_some,DB,q]at D
  have hm:i%(0+1)<z.cells.size:=by rw [q];exact Dq _ za
  have Q:z.cells[i%(0+1)]? =some x:=by
   rw [Ds hm, <-D]
   simp [hm]
  exact z2 _ c x hi Q
 obtain⟨vs,g1,g2,g3,g4,_⟩:=vn l pvs.toList _ cs _ hf I hp J H
 rw [rQ,g]at g3
 simp only [A2,D6,Bool.not_eq_true',List.all_eq_true]at r
 have u:∀x∈vs,x.oneCell'=true:=by
  intro x D
  obtain⟨i,hi,F⟩:=Dv D
  have f:i<cs.length:=by omega
  have L:=g4 i cs[i] x (zf f) (by rw [Ds hi,F])
  have hc:=r.2 cs[i] (Dp f)
  generalize cs[i]=c at L hc
  cases c<;>first|(cases hc;done)|skip
  cases L with|ptr _ _ _ _ ho _ _=>exact ho
 have K:0<cs.length:=by cases cs with|nil=>simp at r|cons=>simp
 have C:(Instr.buildSlice t len pvs).run P w= .ok (.slice (some ⟨w.heap.size,0,none⟩) len len) (w.alloc (.cells vs e)):=by
  obtain⟨i,hi,G⟩:=tv T
  have N:¬len*(0+1)=0:=by omega
  have E:¬(2 ^ 24<len*(0+1)):=by omega
  simp only [Instr.buildSlice,run_underlying (sQ he),rD hk,Dy,D9,Dz,gt_iff_lt,E,if_false,N,zeroValue,typeInfo,run_program,hi,EA,G,g1,newRow,run_newObj,World.alloc_eq]
 obtain⟨n1,U,W⟩:=vY h e vs u
 refine⟨_,_,_,loc,C,n1,?_⟩
 have k:∀(j:Nat)x,cs[j]? =some x->vs.toList[j]? =some (vs.toList.getD j default):=fun j x B=>by
  have f:=(List.getElem?_eq_some_iff.1 B).1
  have:j<vs.toList.length:=by simp;omega
  simp [Dn,zf this]
 have:=R.plit (S:=tn S w.heap.size vs.toList) (loc:=loc) cs w.heap.size 0 len (fun j=>vs.toList.getD j default) za
  (fun j x B=>by rw [DI,vR W (k j x B)])
  (fun j x B=>(g4 j x _ B (by rw [<-Array.getElem?_toList];exact k j x B)).mono U (rF.refl loc))
 rw [g3,DI,Nat.mul_one]at this
 exact this
theorem yb(h:Sim P X S loc s tm w){mt:Bool}{id:Nat}{t:TypeId}{len:Nat}{l:List (Nat×RV)}{pvs:Array (Nat×Value)}{v:RV}{u:Ups}{r:List Nat}
  (hl:tG P mt id t len l s.boxes=some ((v,u),r,true)) (hp:Bu S loc l pvs.toList):
  ∃v' w' S' loc',(Instr.buildSlice t len pvs).run P w= .ok v' w'∧Sim P X S' loc' (s.ups u) tm w'∧R S' loc' v v':=by
 unfold tG at hl
 rcases he:ss P t with _|e
 ·simp only [he]at hl;exact fE s.boxes hl
 simp only [he]at hl
 rcases hk:szT P e with _|_|k
 ·simp only [hk]at hl;exact fE s.boxes hl
 ·simp only [hk]at hl;exact fE s.boxes hl
 rcases hz:se P e with _|z
 ·simp only [hk,hz]at hl;exact fE s.boxes hl
 simp only [hk,hz]at hl
 by_cases hc:len*(k+1)<=2 ^ 24∧z.cells.size=k+1∧(sh P e=true∨k=0)
 rotate_left
 ·rw [if_neg hc]at hl;exact fE s.boxes hl
 rw [if_pos hc]at hl
 obtain⟨b6,J,c0⟩:=hc
 rcases hf:uD (fun i=>some (i*(k+1),k+1)) (B2 len (sd z).cells).flatten l with _|cs
 ·simp only [hf]at hl;exact fE s.boxes hl
 simp only [hf]at hl
 by_cases D:(mt&&A2 cs)=true
 ·rw [if_pos D]at hl
  obtain⟨W, -,I⟩:=M.rm (b:=s.boxes) hl
  cases W
  simp only [Bool.true_eq,D6]at I
  obtain⟨I,h7⟩:=I
  obtain rfl:=of_decide_eq_true h7
  exact zM h he hk hz b6 J hf I hp (by simp only [D6]at D;exact D.2)
 rw [if_neg D]at hl
 obtain⟨⟨ps,u1⟩,r1,r2,h1,h2,_⟩:=M.bind_some hl
 have N:(tJ l&&ps.all PD.one)=true∧((s.boxes id=none∧v= .ref id 0∧u=u1++[(id,.arr 0 e (th P e (k+1) len ps))])∨(v= .d (.lst (th P e (k+1) len ps))∧u=u1)):=by
  cases b0:(mt&& !zt cs)with
  |true=>
   simp only [b0,if_true]at h2
   obtain⟨_,r3,r4,h3,h4,_⟩:=M.bind_some h2
   obtain⟨hb,_,_⟩:=M.su h3
   obtain⟨W, -,I⟩:=M.rm h4
   cases W
   exact⟨I.symm,.inl ⟨hb,rfl,rfl⟩⟩
  |false=>
   simp only [b0,Dr,if_false]at h2
   obtain⟨W, -,I⟩:=M.rm (b:=s.boxes) h2
   cases W
   exact⟨I.symm,.inr ⟨rfl,rfl⟩⟩
 obtain⟨a5,b2⟩:=N
 simp only [D6]at a5
 obtain⟨c4,c5⟩:=a5
 have K:∀p∈ps,p.one=true:=fun p hp=>List.all_eq_true.1 c5 p hp
 obtain⟨z1,z2⟩:=uJ S loc z
 have H:(sd z).cells.length=k+1:=by rw [<-z1];exact J
 have c6:((Dx (len*(k+1))).map (z.cells[· %z.cells.size]!)).size=(B2 len (sd z).cells).flatten.length:=by
  rw [rQ,H];simp
 have c3:∀(i:Nat)c x,(B2 len (sd z).cells).flatten[i]? =some c->((Dx (len*(k+1))).map (z.cells[· %z.cells.size]!))[i]? =some x->R S loc c x:=by
  intro i c x hi E
  have q:i<len*(k+1):=by
   have:=(List.getElem?_eq_some_iff.1 hi).1
   rw [rQ,H]at this
   exact this
  rw [tz _ _ _ (by rw [H];exact q),H]at hi
  rw [Dt,Du,if_pos q]at E
  simp only [Option.map_some,DB,J]at E
  have hm:i%(k+1)<z.cells.size:=by rw [J];exact Dq _ za
  have hg:z.cells[i%(k+1)]? =some x:=by
   rw [Ds hm, <-E]
   simp [hm]
  exact z2 _ c x hi hg
 obtain⟨vs,g1,g2,g3,g4,_⟩:=vn l pvs.toList _ cs _ hf c4 hp c6 c3
 rw [rQ,H]at g3
 obtain⟨p1,p2,p3,p4⟩:=BS h1
 obtain⟨S1,b4,Y,b3,hle,c1⟩:=h.wo u1 p1 (fun x E=>.inl (p2 x E))
 have b1:∀(i:Nat)p x,ps[i]? =some p->vs[i]? =some x->V S1 p x:=by
  intro i p x hi E
  have q:i<cs.length:=by rw [<-p3];exact(List.getElem?_eq_some_iff.1 hi).1
  exact p4 S loc S1 b3 c1 i cs[i] p x (zf q) hi (g4 i _ x (zf q) E)
 have F:vs.size=ps.length:=by rw [g2,p3]
 have G:∀x∈vs,x.oneCell'=true:=by
  intro x E
  obtain⟨i,hi,T⟩:=Dv E
  have q:i<ps.length:=by rw [<-F];exact hi
  exact((b1 i ps[i] x (zf q) (by rw [Ds hi,T])).uZ (K _ (Dp q))).1
 have D:ps.length=len*(k+1):=by rw [p3,g3]
 have a6:=wu (P:=P) e (k+1) (c0.imp (fun h=>h) (fun h=>za)) len ps D K
 have B:Flat S1 (k+1) (th P e (k+1) len ps) vs.toList:=by
  refine⟨fun x E=>?_,fun x E=>G x (by simpa using E),fun i x j c hi hj=>?_⟩
  ·obtain⟨i,hi,T⟩:=List.getElem_of_mem E
   exact(a6 i x (by rw [zf hi,T])).1
  ·have:=(a6 i x hi).2 j c hj
   have q:=(List.getElem?_eq_some_iff.1 this).1
   refine⟨vs[i*(k+1)+j],?_,b1 _ c _ this (Ds za)⟩
   simp [F,q]
 have L:(Instr.buildSlice t len pvs).run P w= .ok (.slice (some ⟨w.heap.size,0,none⟩) len len) (w.alloc (.cells vs e)):=by
  obtain⟨i,hi,c2⟩:=tv hz
  have e0:∀f:Nat->Value,(Dx 0).map f= #[]:=fun f=>by apply Array.ext';simp
  by_cases h0:len*(k+1)=0
  ·have O:Instr.fill (fun i=>some (i*(k+1),k+1)) #[] pvs.toList=some vs:=by
    rw [h0,e0]at g1
    exact g1
   have Q:¬(2 ^ 24<0):=by omega
   simp only [Instr.buildSlice,run_underlying (sQ he),rD hk,Dy,D9,Dz,gt_iff_lt,h0,Q,if_false,if_true,e0,EA,O,newRow,run_newObj,World.alloc_eq]
  ·have Q:¬(2 ^ 24<len*(k+1)):=by omega
   simp only [Instr.buildSlice,run_underlying (sQ he),rD hk,Dy,D9,Dz,gt_iff_lt,Q,if_false,h0,zeroValue,typeInfo,run_program,hi,EA,c2,g1,newRow,run_newObj,World.alloc_eq]
 rcases b2 with⟨hb,rfl,rfl⟩|⟨rfl,rfl⟩
 ·by_cases a9:id∈u1.map (·.1)
  ·obtain⟨x,E,c7⟩:=List.mem_map.1 a9
   obtain⟨ver,e',c8,U⟩:=p2 x E
   rw [c7]at U
   rw [hb]at U
   cases U
  ·have b5:(s.ups u1).boxes id=none:=by rw [tB u1 s id a9];exact hb
   have C:=tT (P:=P) e (k+1) len ps
   have how:(w.alloc (.cells vs e)).ownsRow 0 e (k+1) (.slice (some ⟨w.heap.size,0,none⟩) len len) (th P e (k+1) len ps).length vs.toList:=by
    rw [C]
    refine⟨by simp [F,D],.inr ⟨w.heap.size,len,vs,rfl,Nat.zero_le _,heap_alloc_new w _,DA _,?_,by rw [F,D],?_⟩⟩
    ·have:len*1<=len*(k+1):=Nat.mul_le_mul_left _ za
     simp only [maxLen];omega
    ·apply List.take_of_length_le;simp [F,D]
   obtain⟨loc',I,h7,_⟩:=Y.xb b5 (Step.alloc w _) hk (hdr:= .slice (some ⟨w.heap.size,0,none⟩) len len) (.inl (.of how)) B (fun g hg=>by have:=u7 hg;cases this;exact DA _) rfl
   exact⟨_,_,S1,loc',L,by rw [vz];exact I,h7⟩
 ·obtain⟨n1,n2,n3⟩:=vY Y e vs G
  refine⟨_,_,_,b4,L,n1,.d ?_⟩
  have C:=tT (P:=P) e (k+1) len ps
  have:=V.lst (S:=tn S1 w.heap.size vs.toList) (th P e (k+1) len ps) w.heap.size 0 len (k+1) (fun i j=>vs.toList.getD (i*(k+1)+j) default) (by rw [C];exact DA _) B.len
   (fun i x j c hi hj => by
    obtain⟨y,hy,_⟩:=B.cell i x j c hi hj
    rw [DI,vR n3 hy]
    simp [Dn,hy])
   (fun i x j c hi hj => by
    obtain⟨y,hy,hv⟩:=B.cell i x j c hi hj
    have:=hv.mono n2
    simpa [Dn,hy]using this)
  rw [C]at this
  exact this
end
end Go.Dw
