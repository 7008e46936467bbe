
import Derived.Test.YtfmoipelhfkdkaaGreatDoorDwClone
import Derived.Test.YtfmoipelhfkdkaaGreatDoorDwLift4
import Derived.Test.YtfmoipelhfkdkaaGreatDoorDwSortIP
import Derived.Shelf.Sort.Plain
open Option.some renaming inj->Ew, injEq->DJ
open List renaming getElem?_map->EY, getElem?_take->DN
open Array renaming getElem?_eq_getElem->EM, getElem?_modify->Fg, getElem?_toList->Eg

namespace Go.Dw
open Go.Proofs Go.Shelf Go.RowKit
def encI(n:Int):PD:= .int .i64 n
theorem encI_inj{x y:Int}(h:encI x=encI y):x=y:=by cases h;rfl
open Classical in
noncomputable def zk (e:TypeId):rO:=fun _ args bs=>
 match args,bs with
 | [.ref 0 0],[.arr 0 f es]=>
  if f=e then
   if h:∃r:List Int×List Int,es=r.1.map encI∧ud r.1=some r.2 then some (.tup [],[.arr 0 e (h.choose.2.map encI)])else none
  else none
 |_,_=>none
theorem DG{f:FuncId}{e:TypeId}{l r:List Int}(h:ud l=some r):zk e f [.ref 0 0] [.arr 0 e (l.map (PD.int .i64))]=some (.tup [],[.arr 0 e (r.map (PD.int .i64))]):=by
 unfold zk
 have g:∃q:List Int×List Int,l.map (PD.int .i64)=q.1.map encI∧ud q.1=some q.2:=⟨(l,r),rfl,h⟩
 simp only [if_true]
 rw [dif_pos g]
 obtain⟨h1,j⟩:=g.choose_spec
 have k:l=g.choose.1:=(List.map_inj_right fun _ _=>encI_inj).1 (show l.map encI=_ from h1)
 rw [<-k,h]at j
 have u:=Ew j
 rw [<-u]
 rfl
theorem sortI_ev{P:Program}{H:Hints}{ext:FuncId->Option rO}{f:FuncId}{e:TypeId}{l r:List Int}(g:ext f=some (zk e))(h:ud l=some r):
  EvP P H ext f [.ref 0 0] [.arr 0 e (l.map (PD.int .i64))] (.tup [],[.arr 0 e (r.map (PD.int .i64))]):=Ev.lib g (DG h)
theorem AL(F:Array Int)(cur:Array Value)(h:F.size<=cur.size):(Sort.putCells (Value.int .i64) 0 F cur).toList.take F.size=F.toList.map (Value.int .i64):=by
 apply List.ext_getElem?
 intro i
 rw [DN]
 split
 ·rename_i hi
  simp only [Eg,Sort.putCells,Array.getElem?_mapIdx,EY]
  rw [EM za,Option.map_some,if_pos ⟨za,za⟩,Nat.sub_zero,getElem!_pos F i hi,EM hi]
  rfl
 ·rename_i hi
  rw [EY,Eg,Array.getElem?_eq_none za];rfl
theorem sortI_ok{P:Program}{ρ:Go.Shelf.Ren}(L:Lays.n189 P ρ){e:TypeId}{base:xT}{f:FuncId}(hf:ρ.f 189=f)(b1:Enters P f)(b6:szT P e=some 1)
  (b4:uC P base f [.ref 0 0] [.arr 0 e []] (.tup []) [.arr 0 e []])
  (args:List RV) (bs:List Box) (r:RV) (a5:List Box) (h:zk e f args bs=some (r,a5)):uC P base f args bs r a5:=by
 unfold zk at h
 split at h
 ·rename_i e' es
  split at h
  ·rename_i he
   subst he
   split at h
   ·rename_i hx
    obtain⟨h1,J⟩:=hx.choose_spec
    generalize hx.choose.1=q at h1 J
    generalize hx.choose.2=l' at h J
    simp only [DJ,Prod.mk.injEq]at h
    obtain⟨rfl,rfl⟩:=h
    subst h1
    unfold ud at J
    split at J
    ·rename_i c1
     simp only [DJ]at J
     by_cases b5:q=[]
     ·subst b5
      have:l'=[]:=by rw [<-J];simp
      subst this
      exact b4
     have hq:0<q.length:=List.length_pos_iff.2 b5
     have I:l'.length=q.length:=by rw [<-J];exact(List.mergeSort_perm q _).length_eq
     intro S w ls vs C hlen c2 d2 W a6
     obtain⟨L0,rfl⟩:∃L0,ls=[L0]:=by
      match ls,hlen with
      | [L0],_=>exact⟨L0,rfl⟩
     obtain⟨v0,rfl⟩:∃v0,vs= #[v0]:=by
      obtain⟨k⟩:=vs
      match k,W with
      | [v0],_=>exact⟨v0,rfl⟩
     have a0:=a6 0 _ v0 rfl rfl
     have a9:=C.tN (id:=0) rfl (L:=L0) rfl
     cases a9 with
     |arr _ _ _ sz hdr xs N how c3=>
     rw [b6]at N
     cases N
     have c7:v0=hdr:=by
      cases a0 with
      |ref _ _ _ L1 ho hL hh=>cases hL;exact(hh _ _ _ _ .arr).2 rfl
     subst c7
     have H:=how.v8 (by simpa using hq)
     obtain⟨Y,H⟩:=H
     rcases H with⟨-,h0⟩|⟨D,cap,cur,fz,rfl,b2,g,K,b3,T,E⟩
     ·simp at h0;simp [h0]at hq
     have c5:(q.map encI).length=q.length:=by simp
     rw [c5]at K E Y
     simp only [Nat.mul_one]at T E Y
     have hblk:D<w.heap.size:=(Array.getElem?_eq_some_iff.1 g).1
     have d1:xs=q.map (Value.int .i64):=by
      refine List.ext_getElem (by simpa using Y) fun i i1 i2=>?_
      have hi:i<q.length:=by simpa using i2
      obtain⟨u,hu,hv⟩:=c3.cell i (encI q[i]) 0 (encI q[i]) (by simp [hi]) rfl
      rw [Nat.mul_one,Nat.add_zero,zf i1]at hu
      have c6:=Ew hu
      rw [c6]
      cases hv
      simp
     have hH:Sort.Holds (Value.int .i64) w D 0 q.toArray:=by
      intro j hj
      have U:j<q.length:=by simpa using hj
      refine⟨?_,?_⟩
      ·rw [World.cell?,g]
       simp only [Nat.zero_add,Option.isSome_none,Bool.false_eq_true,if_false]
       have:cur.toList[j]? =some (Value.int .i64 q[j]):=by
        have O:xs[j]? =some (Value.int .i64 q[j]):=by rw [d1];simp [U]
        rw [<-E,DN,if_pos U]at O
        exact O
       rw [<-Eg,this]
       simp [U]
      ·rw [World.frozen?,g]
       obtain⟨f1,f2⟩:=fz
       rcases b2 with O|⟨O, -⟩
       ·cases O;simp
       ·simp only at O
        subst O
        simp;omega
     have Q:=Any.slices_Sort_int L D 0 cap q w hH hblk (by simpa using c1)
     rw [hf]at Q
     refine .inl ⟨b1,?_⟩
     rw [J]at Q
     simp only [List.length_map]at C⊢
     refine Q.mono ?_
     rintro ee w' ⟨rfl,n,os,F⟩
     have b0:l'.toArray.size<=cur.size:=by rw [List.size_toArray,T];omega
     have c0:∀b,b<w.heap.size->b≠D->w'.heap[b]? =w.heap[b]? :=fun b G c4=>by
      rw [F,Sort.heap_grow_old _ _ (by rw [Sort.size_putRow,Sort.heap_ahead];exact G)]
      simp only [Sort.putRow,Sort.mapBlock,Fg]
      rw [if_neg (fun h=>c4 h.symm)]
      rfl
     have c8:w'.heap[D]? =some (.cells (Sort.putCells (Value.int .i64) 0 l'.toArray cur) e' fz):=by
      rw [F,Sort.heap_grow_old _ _ (by rw [Sort.size_putRow,Sort.heap_ahead];exact hblk)]
      simp only [Sort.putRow,Sort.mapBlock,Fg,if_true,Sort.heap_ahead,g,Option.map_some,Sort.onCells]
     have X:w.heap.size<=w'.heap.size:=by
      rw [F,Sort.size_grow,Sort.size_putRow,Sort.heap_ahead]
      exact Nat.le_add_right _ _
     refine⟨.tuple #[],rfl,S,[.arr 0 e' 1 (.slice (some ⟨D,0,none⟩) q.length cap)],rfl,Nat.le_refl _,Sub.refl S,?_,fun ad v hh=>.inl hh,rT.refl _,fun i L b hL G=>.inl ?_,?_,?_⟩
     ·refine⟨fun ii bx G=>?_,fun ii L hL=>?_,fun ad v hS=>?_,C.vN,C.uM,C.inj⟩
      ·match ii,G with
       |0,G=>
        cases G
        refine⟨_,rfl,.arr 0 e' _ 1 _ (l'.map (Value.int .i64)) b6 (.inl ⟨zc,.inr ⟨D,cap,Sort.putCells (Value.int .i64) 0 l'.toArray cur,fz,?_,b2,c8,?_,b3,?_,?_⟩⟩) ?_⟩
        ·simp [I]
        ·simp [I];exact K
        ·simp [Sort.putCells,T]
        ·have:=AL l'.toArray cur b0
         simpa using this
        ·refine⟨fun p hp=>?_,fun u hu=>?_,fun i p j x i1 i2=>?_⟩
         ·obtain⟨x, -,rfl⟩:=List.mem_map.1 hp;rfl
         ·obtain⟨x, -,rfl⟩:=List.mem_map.1 hu;rfl
         ·simp only [EY,Option.map_eq_some_iff]at i1
          obtain⟨y,hy,rfl⟩:=i1
          have hj:j=0:=by
           have:=(List.getElem?_eq_some_iff.1 i2).1
           simp [encI,PD.cells]at this;exact this
          subst hj
          have d0:x=encI y:=by
           have:(encI y).cells[0]? =some (encI y):=rfl
           rw [this]at i2
           exact(Ew i2).symm
          subst d0
          exact⟨.int .i64 y,by simp [hy],.int ..⟩
      ·match ii,hL with
       |0,hL=>exact⟨_,rfl⟩
      ·have hc:=C.imm ad v hS
       by_cases G:ad.block=D
       ·obtain⟨b,o,sp⟩:=ad
        simp only at G
        subst G
        cases sp with
        |none=>
         have := C.uM 0 _ b rfl (by cases cap with
          |zero=>omega
          |succ c=>rfl) o
         rw [this]at hS;cases hS
        |some s=>simp [World.cell?,g]at hc
       ·rw [ue (c0 ad.block (wA hc) G)]
        exact hc
     ·rw [wj]
      exact⟨i,L,hL,G⟩
     ·refine⟨by rw [F];rfl,by rw [F];rfl,by rw [F];rfl,X,fun b G hn=>c0 b G fun he=>hn ?_,fun _=>by rw [F];exact Nat.le_add_right _ _⟩
      subst he
      rw [wj]
      refine⟨0,_,rfl,?_⟩
      cases cap with
      |zero=>omega
      |succ c=>rfl
     ·exact .tup [] #[] rfl (fun i c v h=>by cases h)
    ·cases J
   ·cases h
  ·cases h
 ·cases h
end Go.Dw
