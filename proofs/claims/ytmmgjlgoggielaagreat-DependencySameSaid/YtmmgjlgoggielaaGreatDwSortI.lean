
import Derived.Test.YtmmgjlgoggielaaGreatDwClone
import Derived.Test.YtmmgjlgoggielaaGreatDwLift4
import Derived.Test.YtmmgjlgoggielaaGreatDwSortIP
import Derived.Shelf.Sort.Plain

namespace Go.Dw
open Go.Proofs Go.Shelf Go.RowKit
def encI(n:Int):PD:= .int .i64 n
theorem encI_inj{x y:Int}(h:encI x=encI y):x=y:=by cases h;rfl
open Classical in
noncomputable def xF (e:TypeId):qa:=fun _ args bs=>
 match args,bs with
 | [.ref 0 0],[.arr 0 e' es]=>
  if e'=e then
   if h:∃r:List Int×List Int,es=r.1.map encI∧sh r.1=some r.2 then some (.tup [],[.arr 0 e (h.choose.2.map encI)])else none
  else none
 |_,_=>none
theorem Ca{f:FuncId}{e:TypeId}{l r:List Int}(h:sh l=some r):xF e f [.ref 0 0] [.arr 0 e (l.map (PD.int .i64))]=some (.tup [],[.arr 0 e (r.map (PD.int .i64))]):=by
 unfold xF
 have hx:∃q:List Int×List Int,l.map (PD.int .i64)=q.1.map encI∧sh q.1=some q.2:=⟨(l,r),rfl,h⟩
 simp only [if_true]
 rw [dif_pos hx]
 obtain⟨h1,h2⟩:=hx.choose_spec
 have h3:l=hx.choose.1:=(List.map_inj_right fun _ _=>encI_inj).1 (show l.map encI=_ from h1)
 rw [<-h3,h]at h2
 have h4:=Option.some.inj h2
 rw [<-h4]
 rfl
theorem sortI_ev{P:Program}{H:Hints}{ext:FuncId->Option qa}{f:FuncId}{e:TypeId}{l r:List Int}(hx:ext f=some (xF e))(h:sh l=some r):
  EvP P H ext f [.ref 0 0] [.arr 0 e (l.map (PD.int .i64))] (.tup [],[.arr 0 e (r.map (PD.int .i64))]):=Ev.lib hx (Ca h)
theorem yU(F:Array Int)(cur:Array Value)(h:F.size<=cur.size):(Sort.putCells (Value.int .i64) 0 F cur).toList.take F.size=F.toList.map (Value.int .i64):=by
 apply List.ext_getElem?
 intro i
 rw [List.getElem?_take]
 split
 ·rename_i hi
  simp only [Array.getElem?_toList,Sort.putCells,Array.getElem?_mapIdx,List.getElem?_map]
  rw [Array.getElem?_eq_getElem za,Option.map_some,if_pos ⟨za,za⟩,Nat.sub_zero,getElem!_pos F i hi,Array.getElem?_eq_getElem hi]
  rfl
 ·rename_i hi
  rw [List.getElem?_map,Array.getElem?_toList,Array.getElem?_eq_none za];rfl
theorem sortI_ok{P:Program}{ρ:Go.Shelf.Ren}(L:Lays.n189 P ρ){e:TypeId}{base:vr}{f:FuncId}(hf:ρ.f 189=f)(hent:Enters P f)(hsz:szT P e=some 1)
  (hnil:rG P base f [.ref 0 0] [.arr 0 e []] (.tup []) [.arr 0 e []])
  (args:List RV) (bs:List Box) (r:RV) (bs':List Box) (h:xF e f args bs=some (r,bs')):rG P base f args bs r bs':=by
 unfold xF at h
 split at h
 ·rename_i e' es
  split at h
  ·rename_i he
   subst he
   split at h
   ·rename_i hx
    obtain⟨h1,h2⟩:=hx.choose_spec
    generalize hx.choose.1=q at h1 h2
    generalize hx.choose.2=l' at h h2
    simp only [Option.some.injEq,Prod.mk.injEq]at h
    obtain⟨rfl,rfl⟩:=h
    subst h1
    unfold sh at h2
    split at h2
    ·rename_i h62
     simp only [Option.some.injEq]at h2
     by_cases hq0:q=[]
     ·subst hq0
      have:l'=[]:=by rw [<-h2];simp
      subst this
      exact hnil
     have hq:0<q.length:=List.length_pos_iff.2 hq0
     have hperm:l'.length=q.length:=by rw [<-h2];exact(List.mergeSort_perm q _).length_eq
     intro S w ls vs hmem hlen hbase hobj hlenv harg
     obtain⟨L0,rfl⟩:∃L0,ls=[L0]:=by
      match ls,hlen with
      | [L0],_=>exact⟨L0,rfl⟩
     obtain⟨v0,rfl⟩:∃v0,vs= #[v0]:=by
      obtain⟨k⟩:=vs
      match k,hlenv with
      | [v0],_=>exact⟨v0,rfl⟩
     have a0:=harg 0 _ v0 rfl rfl
     have hbox:=hmem.rN (id:=0) rfl (L:=L0) rfl
     cases hbox with
     |arr _ _ _ sz hdr xs hsz' how hfl=>
     rw [hsz]at hsz'
     cases hsz'
     have hv0:v0=hdr:=by
      cases a0 with
      |ref _ _ _ L1 ho hL hh=>cases hL;exact(hh _ _ _ _ .arr).2 rfl
     subst hv0
     have hown:=how.vj (by simpa using hq)
     obtain⟨hxl,hown⟩:=hown
     rcases hown with⟨-,h0⟩|⟨blk,cap,cur,fz,rfl,hfz,hcell,hcap,hmax,hcs,htake⟩
     ·simp at h0;simp [h0]at hq
     have hnl:(q.map encI).length=q.length:=by simp
     rw [hnl]at hcap htake hxl
     simp only [Nat.mul_one]at hcs htake hxl
     have hblk:blk<w.heap.size:=(Array.getElem?_eq_some_iff.1 hcell).1
     have hxs:xs=q.map (Value.int .i64):=by
      refine List.ext_getElem (by simpa using hxl) fun i i1 i2=>?_
      have hi:i<q.length:=by simpa using i2
      obtain⟨u,hu,hv⟩:=hfl.cell i (encI q[i]) 0 (encI q[i]) (by simp [hi]) rfl
      rw [Nat.mul_one,Nat.add_zero,ze i1]at hu
      have hu':=Option.some.inj hu
      rw [hu']
      cases hv
      simp
     have hH:Sort.Holds (Value.int .i64) w blk 0 q.toArray:=by
      intro j hj
      have hj':j<q.length:=by simpa using hj
      refine⟨?_,?_⟩
      ·rw [World.cell?,hcell]
       simp only [Nat.zero_add,Option.isSome_none,Bool.false_eq_true,if_false]
       have:cur.toList[j]? =some (Value.int .i64 q[j]):=by
        have h3:xs[j]? =some (Value.int .i64 q[j]):=by rw [hxs];simp [hj']
        rw [<-htake,List.getElem?_take,if_pos hj']at h3
        exact h3
       rw [<-Array.getElem?_toList,this]
       simp [hj']
      ·rw [World.frozen?,hcell]
       obtain⟨f1,f2⟩:=fz
       rcases hfz with h3|⟨h3, -⟩
       ·cases h3;simp
       ·simp only at h3
        subst h3
        simp;omega
     have hcl:=Any.slices_Sort_int L blk 0 cap q w hH hblk (by simpa using h62)
     rw [hf]at hcl
     refine .inl ⟨hent,?_⟩
     rw [h2]at hcl
     simp only [List.length_map]at hmem⊢
     refine hcl.mono ?_
     rintro ee w' ⟨rfl,n,os,hw'⟩
     have hcs':l'.toArray.size<=cur.size:=by rw [List.size_toArray,hcs];omega
     have hw2:∀b,b<w.heap.size->b≠blk->w'.heap[b]? =w.heap[b]? :=fun b hb hne=>by
      rw [hw',Sort.heap_grow_old _ _ (by rw [Sort.size_putRow,Sort.heap_ahead];exact hb)]
      simp only [Sort.putRow,Sort.mapBlock,Array.getElem?_modify]
      rw [if_neg (fun h=>hne h.symm)]
      rfl
     have hw3:w'.heap[blk]? =some (.cells (Sort.putCells (Value.int .i64) 0 l'.toArray cur) e' fz):=by
      rw [hw',Sort.heap_grow_old _ _ (by rw [Sort.size_putRow,Sort.heap_ahead];exact hblk)]
      simp only [Sort.putRow,Sort.mapBlock,Array.getElem?_modify,if_true,Sort.heap_ahead,hcell,Option.map_some,Sort.onCells]
     have hsize:w.heap.size<=w'.heap.size:=by
      rw [hw',Sort.size_grow,Sort.size_putRow,Sort.heap_ahead]
      exact Nat.le_add_right _ _
     refine⟨.tuple #[],rfl,S,[.arr 0 e' 1 (.slice (some ⟨blk,0,none⟩) q.length cap)],rfl,Nat.le_refl _,Sub.refl S,?_,fun ad v hh=>.inl hh,pS.refl _,fun i L b hL hb=>.inl ?_,?_,?_⟩
     ·refine⟨fun ii bx hb=>?_,fun ii L hL=>?_,fun ad v hS=>?_,hmem.tQ,hmem.sr,hmem.inj⟩
      ·match ii,hb with
       |0,hb=>
        cases hb
        refine⟨_,rfl,.arr 0 e' _ 1 _ (l'.map (Value.int .i64)) hsz (.inl ⟨sm,.inr ⟨blk,cap,Sort.putCells (Value.int .i64) 0 l'.toArray cur,fz,?_,hfz,hw3,?_,hmax,?_,?_⟩⟩) ?_⟩
        ·simp [hperm]
        ·simp [hperm];exact hcap
        ·simp [Sort.putCells,hcs]
        ·have:=yU l'.toArray cur hcs'
         simpa using this
        ·refine⟨fun p hp=>?_,fun u hu=>?_,fun i p j x i1 i2=>?_⟩
         ·obtain⟨x, -,rfl⟩:=List.mem_map.1 hp;rfl
         ·obtain⟨x, -,rfl⟩:=List.mem_map.1 hu;rfl
         ·simp only [List.getElem?_map,Option.map_eq_some_iff]at i1
          obtain⟨y,hy,rfl⟩:=i1
          have hj:j=0:=by
           have:=(List.getElem?_eq_some_iff.1 i2).1
           simp [encI,PD.cells]at this;exact this
          subst hj
          have hx':x=encI y:=by
           have:(encI y).cells[0]? =some (encI y):=rfl
           rw [this]at i2
           exact(Option.some.inj i2).symm
          subst hx'
          exact⟨.int .i64 y,by simp [hy],.int ..⟩
      ·match ii,hL with
       |0,hL=>exact⟨_,rfl⟩
      ·have hc:=hmem.imm ad v hS
       by_cases hb:ad.block=blk
       ·obtain⟨b,o,sp⟩:=ad
        simp only at hb
        subst hb
        cases sp with
        |none=>
         have := hmem.sr 0 _ b rfl (by cases cap with
          |zero=>omega
          |succ c=>rfl) o
         rw [this]at hS;cases hS
        |some s=>simp [World.cell?,hcell]at hc
       ·rw [rX (hw2 ad.block (vR hc) hb)]
        exact hc
     ·rw [uz]
      exact⟨i,L,hL,hb⟩
     ·refine⟨by rw [hw'];rfl,by rw [hw'];rfl,by rw [hw'];rfl,hsize,fun b hb hn=>hw2 b hb fun he=>hn ?_,fun _=>by rw [hw'];exact Nat.le_add_right _ _⟩
      subst he
      rw [uz]
      refine⟨0,_,rfl,?_⟩
      cases cap with
      |zero=>omega
      |succ c=>rfl
     ·exact .tup [] #[] rfl (fun i c v h=>by cases h)
    ·cases h2
   ·cases h
  ·cases h
 ·cases h
end Go.Dw
