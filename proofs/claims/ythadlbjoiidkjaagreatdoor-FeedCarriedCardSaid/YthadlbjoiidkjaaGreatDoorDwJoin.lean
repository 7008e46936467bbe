
import Derived.Test.YthadlbjoiidkjaaGreatDoorDwSplit
import Derived.Shelf.Strings.OnBuilder

namespace Go.Dw
open Go.Proofs Go.Shelf Go.RowKit Go.Lib
def strs:List PD->Option (List (List UInt8))
 | []=>some []
 | .str s::r=>match strs r with|some l=>some (s::l)|none=>none
 |_::_=>none
theorem AD:∀{es:List PD}{l:List (List UInt8)},strs es=some l->es=l.map .str
 | [],_,h=>by cases h;rfl
 | .str s::r,l,h=>by
  unfold strs at h
  split at h
  ·rename_i l' hl;cases h;rw [AD hl];rfl
  ·cases h
 | .bool _::_,_,h| .int _ _::_,_,h| .lst _::_,_,h| .agg _::_,_,h| .raw _::_,_,h=>by cases h
theorem strs_of(l:List (List UInt8)):strs (l.map .str)=some l:=by
 induction l with
 |nil=>rfl
 |cons x l ih=>simp only [List.map_cons,strs,ih]
def u9(l:List (List UInt8))(sep:List UInt8):Option (List UInt8):=
 if l≠ []∧l.length<=140737488355328∧(Lib.join l sep).length<=140737488355328 then some (Lib.join l sep)else none
def Al:pT:=fun _ args bs=>
 match args,bs with
 | [.d (.lst es),.d (.str sep)],[]=>match strs es with
  |some l=>match u9 l sep with
   |some r=>some (.d (.str r),[])
   |none=>none
  |none=>none
 |_,_=>none
theorem zy{P:Program}{H:Hints}{ext:FuncId->Option pT}{f:FuncId}(hx:ext f=some Al){a:List (List UInt8)}{b r:List UInt8}(h:u9 a b=some r):EvP P H ext f [.d (.lst (a.map .str)),.d (.str b)] [] (.d (.str r),[]):=by
 refine Ev.lib hx ?_
 simp only [Al,strs_of,h]
theorem tI{P:Program}{E:Prop}(hE:¬E){S:pR}{w w':World}{r:RV}{v:Value}(hm:Mem P S (look []) (look []) w)(hb:Below w.heap.size w w')(hv:R S (look []) r v)(himm:∀ad u,S ad=some u->w'.cell? ad=some u):
  xl P E S w [] 0 r [] v w' S []:=by
 refine⟨rfl,Nat.le_refl _,Sub.refl _,⟨(fun id bx h=>by cases h),(fun id L h=>by cases h),himm,hm.tJ,(fun id L b h=>by cases h),(fun id id' L L' b h=>by cases h)⟩,fun ad u h=>.inl h,(fun k L h=>by cases h),(fun k L b h=>by cases h),⟨hb.os,hb.tape,hb.output,hb.size,fun b h _=>hb.block b h,fun he=>(hE he).elim⟩,hv⟩
theorem join_ok{P:Program}{ρ:Go.Shelf.Ren}(L:Lays.n156 P ρ)(X:Builder.Extra P ρ){base:uT}(hE:¬base.mono)(hent:Enters P (ρ.f 156))(args:List RV)(bs:List Box)(r:RV)(bs':List Box)
  (h:Al (ρ.f 156) args bs=some (r,bs')):rG P base (ρ.f 156) args bs r bs':=by
 unfold Al at h
 split at h
 ·rename_i es sep
  split at h
  ·rename_i l hl
   split at h
   ·rename_i q hq
    simp only [Option.some.injEq,Prod.mk.injEq]at h
    obtain⟨rfl,rfl⟩:=h
    unfold u9 at hq
    split at hq
    ·rename_i hc
     obtain⟨hne,hN,hlen⟩:=hc
     cases hq
     have:=AD hl
     subst this
     clear hl
     intro S w ls vs hmem hlen0 hbase hobj hlenv harg
     obtain⟨v0,v1,rfl⟩:∃v0 v1,vs= #[v0,v1]:=by
      obtain⟨k⟩:=vs
      match k,hlenv with
      | [v0,v1],_=>exact⟨v0,v1,rfl⟩
     have a0:=harg 0 _ v0 rfl rfl
     have a1:=harg 1 _ v1 rfl rfl
     cases a0 with
     |d a0=>
     cases a1 with
     |d a1=>
     cases a1
     obtain rfl:ls=[]:=List.eq_nil_of_length_eq_zero hlen0
     generalize hes:l.map PD.str=es at a0
     cases a0 with
     |nil a c=>cases l with
      |nil=>exact(hne rfl).elim
      |cons=>cases hes
     |lst _ b o c sz f hcap hsz hS hV=>
      subst hes
      have hs1:sz=1:=by
       cases l with
       |nil=>exact(hne rfl).elim
       |cons x l=>exact(hsz (.str x) sm).symm
      subst hs1
      have hcell:∀(j:Nat)x,(l.map fun s=>(⟨s.toArray⟩:ByteArray))[j]? =some x->w.cell? ⟨b,o+j,none⟩=some (.string x):=fun j x hj=>by
       rw [List.getElem?_map,Option.map_eq_some_iff]at hj
       obtain⟨s,hs,rfl⟩:=hj
       have e1:=hS j (.str s) 0 (.str s) (by rw [List.getElem?_map,hs];rfl) rfl
       have e2:=hV j (.str s) 0 (.str s) (by rw [List.getElem?_map,hs];rfl) rfl
       have e3:=hmem.imm _ _ e1
       generalize f j 0=u at e2 e3
       cases e2
       simpa using e3
      have hbk:b<w.heap.size:=by
       cases l with
       |nil=>exact(hne rfl).elim
       |cons x l=>simpa using sa (hcell 0 _ rfl)
      have hj:((l.map fun s=>(⟨s.toArray⟩:ByteArray)).map (·.data.toList))=l:=by simp [Function.comp_def]
      have hcl:=Any.strings_Join L X b o c (l.map fun s=>(⟨s.toArray⟩:ByteArray)) ⟨sep.toArray⟩ w hcell hbk (by simpa using hN) (by simpa using hcap) (by rw [hj];simpa using hlen)
      rw [hj]at hcl
      simp only [List.length_map]at hcl⊢
      refine .inl ⟨hent,hcl.mono ?_⟩
      rintro e w' ⟨rfl,hb⟩
      refine⟨_,rfl,S,[],tI hE hmem hb (.d (.str _)) fun ad u hu=>?_⟩
      have h1:=hmem.imm _ _ hu
      have h2:=sa h1
      simpa [World.cell?,hb.block _ h2]using h1
    ·cases hq
   ·cases h
  ·cases h
 ·cases h
end Go.Dw
