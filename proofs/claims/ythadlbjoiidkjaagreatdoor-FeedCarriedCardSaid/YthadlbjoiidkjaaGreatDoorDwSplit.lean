
import Derived.Test.YthadlbjoiidkjaaGreatDoorDwArg
import Derived.Test.YthadlbjoiidkjaaGreatDoorDwLift4
import Derived.Shelf.Strings.SplitShaped

namespace Go.Dw
open Go.Proofs Go.Shelf Go.RowKit Go.Lib
def qz(c:UInt8):List UInt8->List (List UInt8)
 | []=>[[]]
 |x::r=>if x=c then []::qz c r else match qz c r with|p::ps=>(x::p)::ps| []=>[[x]]
def yz:pT:=fun _ args bs=>
 match args,bs with
 | [.d (.str s),.d (.str [c])],[]=>if s.length<4294967281 then some (.d (.lst ((qz c s).map .str)),[])else none
 |_,_=>none
def wh(s sep:List UInt8):Option (List (List UInt8)):=
 match sep with
 | [c]=>if s.length<4294967281 then some (qz c s)else none
 |_=>none
theorem AA{P:Program}{H:Hints}{ext:FuncId->Option pT}{f:FuncId}(hx:ext f=some yz){a b:List UInt8}{r:List (List UInt8)}(h:wh a b=some r):EvP P H ext f [.d (.str a),.d (.str b)] [] (.d (.lst (r.map .str)),[]):=by
 refine Ev.lib hx ?_
 match b,h with
 | [c],h=>
  simp only [wh]at h
  by_cases hl:a.length<4294967281
  ·rw [if_pos hl]at h;cases h;simp [yz,hl]
  ·rw [if_neg hl]at h;cases h
theorem Az(c:UInt8):∀s:List UInt8,splitK [c] 0 (s.count c) s=qz c s
 | []=>rfl
 |x::r=>by
  have ih:=Az c r
  by_cases hx:x=c
  ·subst hx
   rw [List.count_cons_self]
   have h0:index (x::r) [x]=0:=by simp [index]
   simp only [splitK,h0,qz,if_true]
   rw [if_neg (by decide)]
   simp [ih]
  ·have h0:index (x::r) [c]=if index r [c]== -1 then-1 else index r [c]+1:=by
    have:¬(c=x):=fun e=>hx e.symm
    simp [index,this]
   rw [List.count_cons_of_ne hx]
   simp only [qz,hx,if_false]
   rw [<-ih]
   cases hk:r.count c with
   |zero=>simp [splitK]
   |succ k=>
    have hne:index r [c]≠ -1:=fun e=>by
     rw [index_one]at e
     have hn:=indexByte_none e
     have:c∈r:=List.count_pos_iff.1 za
     obtain⟨j,hj⟩:=List.getElem?_of_mem this
     exact hn j hj
    have hge:=index_ge r [c]
    obtain⟨i,hi⟩:∃i:Nat,index r [c]=i:=⟨(index r [c]).toNat,za⟩
    rw [if_neg (by simpa using hne),hi]at h0
    have e1:¬((i:Int)+1== -1)=true:=by rw [beq_iff_eq];omega
    simp only [splitK,h0,hi,e1,if_false]
    simp
theorem splitB_L(c:UInt8)(s:List UInt8):((splitB ⟨#[c]⟩ 0 (countB ⟨s.toArray⟩ ⟨#[c]⟩) ⟨s.toArray⟩).map (·.data.toList))=qz c s:=by
 rw [splitB_data]
 have e:countB ⟨s.toArray⟩ ⟨#[c]⟩=s.count c:=by
  show count (⟨s.toArray⟩:ByteArray).data.toList [c]=_
  rw [count_one]
 rw [e]
 exact Az c s
theorem new_row{P:Program}{E:Prop}{S:pR}{w:World}{t:TypeId}{xs:List Value}{es:List PD}{sz:Nat}(himm:∀ad v,S ad=some v->w.cell? ad=some v)(hone:∀ad v,S ad=some v->v.oneCell'=true)(hf:Flat S sz es xs):
  ∃S',xl P E S w [] 0 (.d (.lst es)) [] (.slice (some ⟨w.heap.size,0,none⟩) es.length es.length) (w.alloc (.cells xs.toArray t)) S' []:=by
 have hS:∀o,S ⟨w.heap.size,o,none⟩=none:=fun o=>by
  cases hs:S ⟨w.heap.size,o,none⟩with
  |none=>rfl
  |some v=>have:=sa (himm _ _ hs);simp at this
 have hold:∀ad v,w.cell? ad=some v->(w.alloc (.cells xs.toArray t)).cell? ad=some v:=fun ad v h=>Bl (fun _ hb=>heap_alloc_old w _ hb) h
 refine⟨qL S w.heap.size xs,rfl,Nat.le_refl _,rn _ _ _,⟨(fun id bx h=>by cases h),(fun id L h=>by cases h),?_,?_,(fun id L b h=>by cases h),(fun id id' L L' b h=>by cases h)⟩,?_,(fun k L h=>by cases h),(fun k L b h=>by cases h),(Frame.refl _ [] w).step (Step.alloc w _) sm,.d ?_⟩
 ·intro ad v h
  unfold qL at h
  split at h
  ·rename_i v' hv';cases h;exact hold _ _ (himm _ _ hv')
  ·split at h
   ·rename_i hb
    obtain⟨hb,hsp⟩:=hb
    obtain⟨b,o,sp⟩:=ad
    simp only at hb hsp h
    subst hb hsp
    rw [cell_of_row _ _ _ xs.toArray t (0,0) (heap_alloc_new w _)]
    simpa using h
   ·cases h
 ·intro ad v h
  unfold qL at h
  split at h
  ·rename_i v' hv';cases h;exact hone _ _ hv'
  ·split at h
   ·exact hf.one v (List.mem_of_getElem? h)
   ·cases h
 ·intro ad v h
  unfold qL at h
  split at h
  ·rename_i v' hv';cases h;exact .inl hv'
  ·split at h
   ·rename_i hb;exact .inr (.inl za)
   ·cases h
 ·exact V.lst es w.heap.size 0 es.length sz (fun i j=>xs.getD (i*sz+j) default) (Nat.le_refl _) hf.len
   (fun i x j c hi hj => by
    obtain⟨y,hy,_⟩:=hf.cell i x j c hi hj
    rw [Nat.zero_add,uf hS hy]
    simp [List.getD,hy])
   (fun i x j c hi hj => by
    obtain⟨y,hy,hv⟩:=hf.cell i x j c hi hj
    have:=hv.mono (rn S w.heap.size xs)
    simpa [List.getD,hy]using this)
theorem BR{S:pR}:∀(l:List ByteArray),Flat S 1 (l.map fun b=>PD.str b.data.toList) (l.map Value.string):=fun l=>by
 refine⟨by simp [PD.cells],by simp [Value.oneCell'],fun i e j x h1 h2=>?_⟩
 simp only [List.getElem?_map,Option.map_eq_some_iff]at h1
 obtain⟨b,hb,rfl⟩:=h1
 cases j with
 |succ j=>simp [PD.cells]at h2
 |zero=>
  simp only [PD.cells,List.getElem?_cons_zero,Option.some.injEq]at h2
  subst h2
  exact⟨.string b,by simp [hb],.str b.data.toList⟩
theorem split_ok{P:Program}{ρ:Go.Shelf.Ren}(L:LaysM.n146 P ρ){base:uT}{m:Int}(hb:base.snap ⟨ρ.g 1,0,none⟩=some (.int .i64 m))(hent:Enters P (ρ.f 146))(args:List RV)(bs:List Box)(r:RV)(bs':List Box)
  (h:yz (ρ.f 146) args bs=some (r,bs')):rG P base (ρ.f 146) args bs r bs':=by
 unfold yz at h
 split at h
 ·rename_i s c
  split at h
  ·rename_i hs
   simp only [Option.some.injEq,Prod.mk.injEq]at h
   obtain⟨rfl,rfl⟩:=h
   intro S w ls vs hmem hlen0 hbase hobj hlen harg
   obtain⟨v0,v1,rfl⟩:∃v0 v1,vs= #[v0,v1]:=by
    obtain⟨l⟩:=vs
    match l,hlen with
    | [v0,v1],_=>exact⟨v0,v1,rfl⟩
   have a0:=harg 0 _ v0 rfl rfl
   have a1:=harg 1 _ v1 rfl rfl
   cases a0 with
   |d a0=>
   cases a0
   cases a1 with
   |d a1=>
   cases a1
   obtain rfl:ls=[]:=List.eq_nil_of_length_eq_zero hlen0
   have hm:w.cell? ⟨ρ.g 1,0,none⟩=some (.int .i64 m):=hmem.imm _ _ (hbase _ _ hb)
   have hc:=Any.strings_Split { L with } L.i9 ⟨s.toArray⟩ ⟨#[c]⟩ m w (by show s.toArray.size<_;simpa using hs) hm (Nat.le_refl 1)
   refine .inl ⟨hent,hc.mono ?_⟩
   rintro e w' ⟨rfl,rfl⟩
   refine⟨_,rfl,?_⟩
   have hl:=splitB_L c s
   have hlen':(splitB ⟨#[c]⟩ 0 (countB ⟨s.toArray⟩ ⟨#[c]⟩) ⟨s.toArray⟩).length=countB ⟨s.toArray⟩ ⟨#[c]⟩+1:=splitB_all (⟨#[c]⟩:ByteArray) (Nat.le_refl 1) 0 _ _ rfl
   generalize splitB ⟨#[c]⟩ 0 (countB ⟨s.toArray⟩ ⟨#[c]⟩) ⟨s.toArray⟩=l at hl hlen'⊢
   have he:(qz c s).map PD.str=l.map fun b=>PD.str b.data.toList:=by rw [<-hl];simp
   obtain⟨S',k6⟩:=new_row (P:=P) (t:=ρ.t 9) hmem.imm hmem.tJ (BR (S:=S) l)
   rw [<-he]at k6
   have hn:((qz c s).map PD.str).length=countB ⟨s.toArray⟩ ⟨#[c]⟩+1:=by rw [he];simpa using hlen'
   rw [hn]at k6
   exact⟨S',[],k6⟩
  ·cases h
 ·cases h
end Go.Dw
