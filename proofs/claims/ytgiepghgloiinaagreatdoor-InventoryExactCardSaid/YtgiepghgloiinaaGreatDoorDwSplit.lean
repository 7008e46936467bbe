
import Derived.Test.YtgiepghgloiinaaGreatDoorDwArg
import Derived.Test.YtgiepghgloiinaaGreatDoorDwLift4
import Derived.Shelf.Strings.SplitShaped
open Nat renaming le_refl->AB

namespace Go.Dw
open Go.Proofs Go.Shelf Go.RowKit Go.Lib
def kj(c:UInt8):List UInt8->List (List UInt8)
 | []=>[[]]
 |x::r=>if x=c then []::kj c r else match kj c r with|p::a=>(x::p)::a| []=>[[x]]
def tD:ko:=fun _ args bs=>
 match args,bs with
 | [.d (.str s),.d (.str [c])],[]=>if s.length<4294967281 then some (.d (.lst ((kj c s).map .str)),[])else none
 |_,_=>none
def u7(s sep:List UInt8):Option (List (List UInt8)):=
 match sep with
 | [c]=>if s.length<4294967281 then some (kj c s)else none
 |_=>none
theorem split_ev{P:Program}{H:Hints}{ext:FuncId->Option ko}{f:FuncId}(e:ext f=some tD){a b:List UInt8}{r:List (List UInt8)}(h:u7 a b=some r):EvP P H ext f [.d (.str a),.d (.str b)] [] (.d (.lst (r.map .str)),[]):=by
 refine Ev.lib e ?_
 match b,h with
 | [c],h=>
  simp only [u7]at h
  by_cases hl:a.length<4294967281
  ·rw [if_pos hl]at h;cases h;simp [tD,hl]
  ·rw [if_neg hl]at h;cases h
theorem wo(c:UInt8):∀s:List UInt8,splitK [c] 0 (s.count c) s=kj c s
 | []=>rfl
 |x::r=>by
  have g:=wo c r
  by_cases b:x=c
  ·subst b
   rw [List.count_cons_self]
   have a:index (x::r) [x]=0:=by simp [index]
   simp only [splitK,a,kj,if_true]
   rw [if_neg (by decide)]
   simp [g]
  ·have a:index (x::r) [c]=if index r [c]== -1 then-1 else index r [c]+1:=by
    have:¬(c=x):=fun e=>b e.symm
    simp [index,this]
   rw [List.count_cons_of_ne b]
   simp only [kj,b,if_false]
   rw [<-g]
   cases hk:r.count c with
   |zero=>simp [splitK]
   |succ k=>
    have f:index r [c]≠ -1:=fun e=>by
     rw [index_one]at e
     have o:=indexByte_none e
     have:c∈r:=List.count_pos_iff.1 om
     obtain⟨j,n⟩:=List.getElem?_of_mem this
     exact o j n
    have m:=index_ge r [c]
    obtain⟨i,hi⟩:∃i:Nat,index r [c]=i:=⟨(index r [c]).toNat,om⟩
    rw [if_neg (by simpa using f),hi]at a
    have l:¬((i:Int)+1== -1)=true:=by rw [beq_iff_eq];omega
    simp only [splitK,a,hi,l,if_false]
    simp
theorem splitB_L(c:UInt8)(s:List UInt8):((splitB ⟨#[c]⟩ 0 (countB ⟨s.toArray⟩ ⟨#[c]⟩) ⟨s.toArray⟩).map (·.data.toList))=kj c s:=by
 rw [splitB_data]
 have e:countB ⟨s.toArray⟩ ⟨#[c]⟩=s.count c:=by
  show count (⟨s.toArray⟩:ByteArray).data.toList [c]=_
  rw [count_one]
 rw [e]
 exact wo c s
theorem new_row{P:Program}{E:Prop}{S:kd}{w:World}{t:TypeId}{xs:List Value}{es:List PD}{sz:Nat}(e:∀ad v,S ad=some v->w.cell? ad=some v)(f:∀ad v,S ad=some v->v.oneCell'=true)(hf:Flat S sz es xs):
  ∃S',sg P E S w [] 0 (.d (.lst es)) [] (.slice (some ⟨w.heap.size,0,none⟩) es.length es.length) (w.alloc (.cells xs.toArray t)) S' []:=by
 have hS:∀o,S ⟨w.heap.size,o,none⟩=none:=fun o=>by
  cases n:S ⟨w.heap.size,o,none⟩with
  |none=>rfl
  |some v=>have:=qf (e _ _ n);simp at this
 have hold:∀ad v,w.cell? ad=some v->(w.alloc (.cells xs.toArray t)).cell? ad=some v:=fun ad v h=>xe (fun _ hb=>heap_alloc_old w _ hb) h
 refine⟨k7 S w.heap.size xs,rfl,AB _,lx _ _ _,⟨(fun id s h=>by cases h),(fun id L h=>by cases h),?_,?_,(fun id L b h=>by cases h),(fun id q L r b h=>by cases h)⟩,?_,(fun k L h=>by cases h),(fun k L b h=>by cases h),(Frame.refl _ [] w).step (Step.alloc w _) sm,.d ?_⟩
 ·intro ad v h
  unfold k7 at h
  split at h
  ·rename_i v' a;cases h;exact hold _ _ (e _ _ a)
  ·split at h
   ·rename_i hb
    obtain⟨hb,g⟩:=hb
    obtain⟨b,o,sp⟩:=ad
    simp only at hb g h
    subst hb g
    rw [cell_of_row _ _ _ xs.toArray t (0,0) (heap_alloc_new w _)]
    simpa using h
   ·cases h
 ·intro ad v h
  unfold k7 at h
  split at h
  ·rename_i v' a;cases h;exact f _ _ a
  ·split at h
   ·exact hf.one v (List.mem_of_getElem? h)
   ·cases h
 ·intro ad v h
  unfold k7 at h
  split at h
  ·rename_i v' a;cases h;exact .inl a
  ·split at h
   ·rename_i hb;exact .inr (.inl om)
   ·cases h
 ·exact V.lst es w.heap.size 0 es.length sz (fun i j=>xs.getD (i*sz+j) default) (AB _) hf.len
   (fun i x j c hi m => by
    obtain⟨y,l,_⟩:=hf.cell i x j c hi m
    rw [Nat.zero_add,mL hS l]
    simp [List.getD,l])
   (fun i x j c hi m => by
    obtain⟨y,l,p⟩:=hf.cell i x j c hi m
    have:=p.mono (lx S w.heap.size xs)
    simpa [List.getD,l]using this)
theorem xG{S:kd}:∀(l:List ByteArray),Flat S 1 (l.map fun b=>PD.str b.data.toList) (l.map Value.string):=fun l=>by
 refine⟨by simp [PD.cells],by simp [Value.oneCell'],fun i e j x h1 a=>?_⟩
 simp only [List.getElem?_map,Option.map_eq_some_iff]at h1
 obtain⟨b,hb,rfl⟩:=h1
 cases j with
 |succ j=>simp [PD.cells]at a
 |zero=>
  simp only [PD.cells,List.getElem?_cons_zero,Option.some.injEq]at a
  subst a
  exact⟨.string b,by simp [hb],.str b.data.toList⟩
theorem split_ok{P:Program}{ρ:Go.Shelf.Ren}(L:LaysM.n146 P ρ){base:qc}{m:Int}(hb:base.snap ⟨ρ.g 1,0,none⟩=some (.int .i64 m))(p:Enters P (ρ.f 146))(args:List RV)(bs:List Box)(r:RV)(o:List Box)
  (h:tD (ρ.f 146) args bs=some (r,o)):nj P base (ρ.f 146) args bs r o:=by
 unfold tD at h
 split at h
 ·rename_i s c
  split at h
  ·rename_i x
   simp only [Option.some.injEq,Prod.mk.injEq]at h
   obtain⟨rfl,rfl⟩:=h
   intro S w ls vs i n k u hlen j
   obtain⟨v0,v1,rfl⟩:∃v0 v1,vs= #[v0,v1]:=by
    obtain⟨l⟩:=vs
    match l,hlen with
    | [v0,v1],_=>exact⟨v0,v1,rfl⟩
   have a0:=j 0 _ v0 rfl rfl
   have a1:=j 1 _ v1 rfl rfl
   cases a0 with
   |d a0=>
   cases a0
   cases a1 with
   |d a1=>
   cases a1
   obtain rfl:ls=[]:=List.eq_nil_of_length_eq_zero n
   have hm:w.cell? ⟨ρ.g 1,0,none⟩=some (.int .i64 m):=i.imm _ _ (k _ _ hb)
   have hc:=Any.strings_Split { L with } L.i9 ⟨s.toArray⟩ ⟨#[c]⟩ m w (by show s.toArray.size<_;simpa using x) hm (AB 1)
   refine .inl ⟨p,hc.mono ?_⟩
   rintro e w' ⟨rfl,rfl⟩
   refine⟨_,rfl,?_⟩
   have hl:=splitB_L c s
   have a:(splitB ⟨#[c]⟩ 0 (countB ⟨s.toArray⟩ ⟨#[c]⟩) ⟨s.toArray⟩).length=countB ⟨s.toArray⟩ ⟨#[c]⟩+1:=splitB_all (⟨#[c]⟩:ByteArray) (AB 1) 0 _ _ rfl
   generalize splitB ⟨#[c]⟩ 0 (countB ⟨s.toArray⟩ ⟨#[c]⟩) ⟨s.toArray⟩=l at hl a⊢
   have he:(kj c s).map PD.str=l.map fun b=>PD.str b.data.toList:=by rw [<-hl];simp
   obtain⟨S',q⟩:=new_row (P:=P) (t:=ρ.t 9) i.imm i.nA (xG (S:=S) l)
   rw [<-he]at q
   have v:((kj c s).map PD.str).length=countB ⟨s.toArray⟩ ⟨#[c]⟩+1:=by rw [he];simpa using a
   rw [v]at q
   exact⟨S',[],q⟩
  ·cases h
 ·cases h
end Go.Dw
