
import Derived.Test.YthkfkgoddhehcaaGreatDwClone
import Derived.Test.YthkfkgoddhehcaaGreatDwLift4
import Derived.Test.YthkfkgoddhehcaaGreatDwSortIP
import Derived.Shelf.Sort.Plain
open Option.some renaming inj->Fg, injEq->EC
open List renaming getElem?_map->FO, getElem?_take->EG
open Array renaming getElem?_eq_getElem->FE, getElem?_modify->G0, getElem?_toList->G1

namespace Go.Dw
open Go.Proofs Go.Shelf Go.RowKit
def encI(n:Int):PD:= .int .i64 n
theorem encI_inj{x y:Int}(h:encI x=encI y):x=y:=by cases h;rfl
open Classical in
noncomputable def AD (e:TypeId):tI:=λ_ args bs=>
 match args,bs with
 | [.ref 0 0],[.arr 0 a es]=>
  if a=e then
   if h:∃r:List Int×List Int,es=r.1.map encI∧vp r.1=some r.2 then some (.tup [],[.arr 0 e (h.choose.2.map encI)])else none
  else none
 |_,_=>none
theorem Et{f:FuncId}{e:TypeId}{l r:List Int}(h:vp l=some r):AD e f [.ref 0 0] [.arr 0 e (l.map (PD.int .i64))]=some (.tup [],[.arr 0 e (r.map (PD.int .i64))]):=by
 unfold AD
 have a:∃q:List Int×List Int,l.map (PD.int .i64)=q.1.map encI∧vp q.1=some q.2:=⟨(l,r),rfl,h⟩
 simp only [if_true]
 rw [dif_pos a]
 obtain⟨h1,c⟩:=a.choose_spec
 have g:l=a.choose.1:=(List.map_inj_right λ_ _=>encI_inj).1 (show l.map encI=_ from h1)
 rw [<-g,h]at c
 have j:=Fg c
 rw [<-j]
 rfl
theorem sortI_ev{P:Program}{H:Hints}{ext:FuncId->Option tI}{f:FuncId}{e:TypeId}{l r:List Int}(a:ext f=some (AD e))(h:vp l=some r):
  EvP P H ext f [.ref 0 0] [.arr 0 e (l.map (PD.int .i64))] (.tup [],[.arr 0 e (r.map (PD.int .i64))]):=Ev.lib a (Et h)
theorem By(F:Array Int)(cur:Array Value)(h:F.size<=cur.size):(Sort.putCells (Value.int .i64) 0 F cur).toList.take F.size=F.toList.map (Value.int .i64):=by
 apply List.ext_getElem?
 intro i
 rw [EG]
 split
 ·rename_i hi
  simp only [G1,Sort.putCells,Array.getElem?_mapIdx,FO]
  rw [FE za,Option.map_some,if_pos ⟨za,za⟩,Nat.sub_zero,getElem!_pos F i hi,FE hi]
  rfl
 ·rename_i hi
  rw [FO,G1,Array.getElem?_eq_none za];rfl
theorem sortI_ok{P:Program}{ρ:Go.Shelf.Ren}(L:Lays.n189 P ρ){e:TypeId}{base:wX}{f:FuncId}(hf:ρ.f 189=f)(a8:Enters P f)(b5:szT P e=some 1)
  (b3:uM P base f [.ref 0 0] [.arr 0 e []] (.tup []) [.arr 0 e []])
  (args:List RV) (bs:List Box) (r:RV) (Y:List Box) (h:AD e f args bs=some (r,Y)):uM P base f args bs r Y:=by
 unfold AD at h
 split at h
 ·rename_i e' es
  split at h
  ·rename_i he
   subst he
   split at h
   ·rename_i hx
    obtain⟨h1,E⟩:=hx.choose_spec
    generalize hx.choose.1=q at h1 E
    generalize hx.choose.2=T at h E
    simp only [EC,Prod.mk.injEq]at h
    obtain⟨rfl,rfl⟩:=h
    subst h1
    unfold vp at E
    split at E
    ·rename_i c0
     simp only [EC]at E
     by_cases b4:q=[]
     ·subst b4
      have:T=[]:=by rw [<-E];simp
      subst this
      exact b3
     have hq:0<q.length:=List.length_pos_iff.2 b4
     have D:T.length=q.length:=by rw [<-E];exact(List.mergeSort_perm q _).length_eq
     intro S w ls vs g hlen c1 d0 N a5
     obtain⟨X,rfl⟩:∃X,ls=[X]:=by
      match ls,hlen with
      | [X],_=>exact⟨X,rfl⟩
     obtain⟨v0,rfl⟩:∃v0,vs= #[v0]:=by
      obtain⟨k⟩:=vs
      match k,N with
      | [v0],_=>exact⟨v0,rfl⟩
     have a0:=a5 0 _ v0 rfl rfl
     have a6:=g.wh (id:=0) rfl (L:=X) rfl
     cases a6 with
     |arr _ _ _ sz hdr xs G how c2=>
     rw [b5]at G
     cases G
     have c6:v0=hdr:=by
      cases a0 with
      |ref _ _ _ L1 ho W hh=>cases W;exact(hh _ _ _ _ .arr).2 rfl
     subst c6
     have C:=how.wj (by simpa using hq)
     obtain⟨Q,C⟩:=C
     rcases C with⟨-,h0⟩|⟨l,cap,cur,fz,rfl,a9,a,F,b0,J,t⟩
     ·simp at h0;simp [h0]at hq
     have c4:(q.map encI).length=q.length:=by simp
     rw [c4]at F t Q
     simp only [Nat.mul_one]at J t Q
     have hblk:l<w.heap.size:=(Array.getElem?_eq_some_iff.1 a).1
     have c9:xs=q.map (Value.int .i64):=by
      refine List.ext_getElem (by simpa using Q) λi i1 i2=>?_
      have hi:i<q.length:=by simpa using i2
      obtain⟨u,hu,hv⟩:=c2.cell i (encI q[i]) 0 (encI q[i]) (by simp [hi]) rfl
      rw [Nat.mul_one,Nat.add_zero,ze i1]at hu
      have c5:=Fg hu
      rw [c5]
      cases hv
      simp
     have hH:Sort.Holds (Value.int .i64) w l 0 q.toArray:=by
      intro j hj
      have K:j<q.length:=by simpa using hj
      refine⟨?_,?_⟩
      ·rw [World.cell?,a]
       simp only [Nat.zero_add,Option.isSome_none,Bool.false_eq_true,if_false]
       have:cur.toList[j]? =some (Value.int .i64 q[j]):=by
        have H:xs[j]? =some (Value.int .i64 q[j]):=by rw [c9];simp [K]
        rw [<-t,EG,if_pos K]at H
        exact H
       rw [<-G1,this]
       simp [K]
      ·rw [World.frozen?,a]
       obtain⟨f1,f2⟩:=fz
       rcases a9 with H|⟨H, -⟩
       ·cases H;simp
       ·simp only at H
        subst H
        simp;omega
     have I:=Any.slices_Sort_int L l 0 cap q w hH hblk (by simpa using c0)
     rw [hf]at I
     refine .inl ⟨a8,?_⟩
     rw [E]at I
     simp only [List.length_map]at g⊢
     refine I.mono ?_
     rintro ee w' ⟨rfl,n,os,z⟩
     have a7:T.toArray.size<=cur.size:=by rw [List.size_toArray,J];omega
     have b6:∀b,b<w.heap.size->b≠l->w'.heap[b]? =w.heap[b]? :=λb B c3=>by
      rw [z,Sort.heap_grow_old _ _ (by rw [Sort.size_putRow,Sort.heap_ahead];exact B)]
      simp only [Sort.putRow,Sort.mapBlock,G0]
      rw [if_neg (λh=>c3 h.symm)]
      rfl
     have c7:w'.heap[l]? =some (.cells (Sort.putCells (Value.int .i64) 0 T.toArray cur) e' fz):=by
      rw [z,Sort.heap_grow_old _ _ (by rw [Sort.size_putRow,Sort.heap_ahead];exact hblk)]
      simp only [Sort.putRow,Sort.mapBlock,G0,if_true,Sort.heap_ahead,a,Option.map_some,Sort.onCells]
     have O:w.heap.size<=w'.heap.size:=by
      rw [z,Sort.size_grow,Sort.size_putRow,Sort.heap_ahead]
      exact Nat.le_add_right _ _
     refine⟨.tuple #[],rfl,S,[.arr 0 e' 1 (.slice (some ⟨l,0,none⟩) q.length cap)],rfl,Nat.le_refl _,Sub.refl S,?_,λad v hh=>.inl hh,tO.refl _,λi L b W B=>.inl ?_,?_,?_⟩
     ·refine⟨λii bx B=>?_,λii L W=>?_,λad v hS=>?_,g.wU,g.vV,g.inj⟩
      ·match ii,B with
       |0,B=>
        cases B
        refine⟨_,rfl,.arr 0 e' _ 1 _ (T.map (Value.int .i64)) b5 (.inl ⟨zb,.inr ⟨l,cap,Sort.putCells (Value.int .i64) 0 T.toArray cur,fz,?_,a9,c7,?_,b0,?_,?_⟩⟩) ?_⟩
        ·simp [D]
        ·simp [D];exact F
        ·simp [Sort.putCells,J]
        ·have:=By T.toArray cur a7
         simpa using this
        ·refine⟨λp hp=>?_,λu hu=>?_,λi p j x i1 i2=>?_⟩
         ·obtain⟨x, -,rfl⟩:=List.mem_map.1 hp;rfl
         ·obtain⟨x, -,rfl⟩:=List.mem_map.1 hu;rfl
         ·simp only [FO,Option.map_eq_some_iff]at i1
          obtain⟨y,hy,rfl⟩:=i1
          have hj:j=0:=by
           have:=(List.getElem?_eq_some_iff.1 i2).1
           simp [encI,PD.cells]at this;exact this
          subst hj
          have c8:x=encI y:=by
           have:(encI y).cells[0]? =some (encI y):=rfl
           rw [this]at i2
           exact(Fg i2).symm
          subst c8
          exact⟨.int .i64 y,by simp [hy],.int ..⟩
      ·match ii,W with
       |0,W=>exact⟨_,rfl⟩
      ·have hc:=g.imm ad v hS
       by_cases B:ad.block=l
       ·obtain⟨b,o,sp⟩:=ad
        simp only at B
        subst B
        cases sp with
        |none=>
         have := g.vV 0 _ b rfl (by cases cap with
          |zero=>omega
          |succ c=>rfl) o
         rw [this]at hS;cases hS
        |some s=>simp [World.cell?,a]at hc
       ·rw [vC (b6 ad.block (wF hc) B)]
        exact hc
     ·rw [w4]
      exact⟨i,L,W,B⟩
     ·refine⟨by rw [z];rfl,by rw [z];rfl,by rw [z];rfl,O,λb B hn=>b6 b B λhe=>hn ?_,λ_=>by rw [z];exact Nat.le_add_right _ _⟩
      subst he
      rw [w4]
      refine⟨0,_,rfl,?_⟩
      cases cap with
      |zero=>omega
      |succ c=>rfl
     ·exact .tup [] #[] rfl (λi c v h=>by cases h)
    ·cases E
   ·cases h
  ·cases h
 ·cases h
end Go.Dw
