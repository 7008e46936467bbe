
import Derived.Test.YthkfkgoddhehcaaGreatDwPlain
import Derived.Test.YthkfkgoddhehcaaGreatDwLift4
import Derived.Lib.BitFns
import Derived.Test.YthkfkgoddhehcaaGreatDwClone
import Derived.Shelf.SlSortCmp.WholeK
open Nat renaming eq_zero_or_pos->GY, mod_lt->FC, mul_comm->FN, mul_le_mul_right->E5, zero_le->EK
open List renaming getElem?_map->FO, getElem?_take->EG, mem_of_getElem?->E1
open Array renaming getElem?_eq_getElem->FE, getElem?_eq_none->GZ, getElem?_modify->G0, getElem?_toList->G1
open Option.some renaming injEq->EC

namespace Go.Dw
open Go.Proofs
section
variable {α:Type}
def lt3(cmp:α->α->Option Int)(x y:α):Bool:=decide ((cmp x y).getD 0<0)
def CmpOk(cmp:α->α->Option Int):Prop:=(∀x y,∃c,cmp x y=some c)∧Sort.SWO (lt3 cmp)
open Classical in
noncomputable def xH (cmp:α->α->Option Int):List α->Option (List α)
  | []=>some []
  |a::l=>if CmpOk cmp∧(a::l).length<4611686018427387904 then
      haveI:Inhabited α:=⟨a⟩
      some (Sort.pdq (lt3 cmp) (a::l).toArray 0 (a::l).length (Lib.bitLen (a::l).length) true true).toList
    else none
open Classical in
theorem zC(cmp:α->α->Option Int)(a:α)(l:List α):xH cmp (a::l)=if CmpOk cmp∧(a::l).length<4611686018427387904 then
      haveI:Inhabited α:=⟨a⟩
      some (Sort.pdq (lt3 cmp) (a::l).toArray 0 (a::l).length (Lib.bitLen (a::l).length) true true).toList
    else none:=rfl
theorem DP{cmp:α->α->Option Int}{l r:List α}(h:xH cmp l=some r):r.Perm l:=by
  cases l with
  |nil=>cases h;exact .nil
  |cons a l=>
    rw [zC]at h
    split at h
    · rename_i hc
      cases h
      letI:Inhabited α:=⟨a⟩
      have:=Sort.pdq_sorts (lt3 cmp) hc.1.2 (a::l).toArray 0 (a::l).length (Lib.bitLen (a::l).length) true true (EK _) zb (.inl rfl)
      obtain⟨hs, -,hp⟩:=this.1
      have c:∀d:Array α,d.size=(a::l).length->d.extract 0 (a::l).length=d:=λd f=>by rw [<-f];simp
      rw [c _ (by simpa using hs),c _ zb]at hp
      exact hp
    · cases h
theorem AX{cmp:α->α->Option Int}(hc:CmpOk cmp)(he:∀x y,lt3 cmp x y=false->lt3 cmp y x=false->x=y)(l:List α)(c:l.length<4611686018427387904):
    xH cmp l=some (l.mergeSort λx y=> !lt3 cmp y x):=by
  cases l with
  |nil=>simp [xH]
  |cons a l=>
    rw [zC,if_pos ⟨hc,c⟩]
    letI:Inhabited α:=⟨a⟩
    have:=Sort.pdq_sorts (lt3 cmp) hc.2 (a::l).toArray 0 (a::l).length (Lib.bitLen (a::l).length) true true (EK _) zb (.inl rfl)
    have hu:=Sort.sorted_unique_holds hc.2 he (a::l).toArray _ this.1 this.2
    exact congrArg some hu
def Apart(cmp:α->α->Option Int)(l:List α):Prop:=l.Pairwise λx y=>lt3 cmp x y=true∨lt3 cmp y x=true
theorem Apart.eq{cmp:α->α->Option Int}{l:List α}(h:Apart cmp l){a b:α}(q:a∈l)(r:b∈l)(h1:lt3 cmp a b=false)(j:lt3 cmp b a=false):a=b:=by
  have t:l.Pairwise λx y=>x=y∨lt3 cmp x y=true∨lt3 cmp y x=true:=h.imp λh=>.inr h
  have key:∀x∈l,∀y∈l,x=y∨lt3 cmp x y=true∨lt3 cmp y x=true:=by
    clear h1 j q r h
    induction l with
    |nil=>intro x p;cases p
    |cons c l B=>
      obtain⟨hc,u⟩:=List.pairwise_cons.1 t
      intro x p y z
      rcases List.mem_cons.1 p with f|f<;>rcases List.mem_cons.1 z with g|g
      · exact .inl (f.trans g.symm)
      · subst f;exact hc y g
      · subst g
        rcases hc x f with h|h|h
        · exact .inl h.symm
        · exact .inr (.inr h)
        · exact .inr (.inl h)
      · exact B u x f y g
  rcases key a q b r with h|h|h
  · exact h
  · rw [h]at h1;cases h1
  · rw [h]at j;cases j
open Classical in
end
end Go.Dw
namespace Go.Dw
open Go.Proofs Go.Shelf Go.RowKit
section
variable {α:Type}
open Classical in
noncomputable def Da (g:FuncId) (e:TypeId) (pd:α->PD) (cmp:α->α->Option Int):tI:=λ_ args bs=>
  match args,bs with
  | [.ref 0 0,.d (.raw (.func (.func c) ⟨[]⟩ ⟨[]⟩))],[.arr 0 a es]=>
    if c=g∧a=e then
      if h:∃r:List α×List α,es=r.1.map pd∧xH cmp r.1=some r.2 then some (.tup [],[.arr 0 e (h.choose.2.map pd)])else none
    else none
  |_,_=>none
theorem sortD_of{f:FuncId}{g:FuncId}{e:TypeId}{pd:α->PD}{cmp:α->α->Option Int}(a:∀x y,pd x=pd y->x=y){l r:List α}(h:xH cmp l=some r):
    Da g e pd cmp f [.ref 0 0,.d (.raw (.func (.func g) #[] #[]))] [.arr 0 e (l.map pd)]=some (.tup [],[.arr 0 e (r.map pd)]):=by
  unfold Da
  have c:∃q:List α×List α,l.map pd=q.1.map pd∧xH cmp q.1=some q.2:=⟨(l,r),rfl,h⟩
  simp only [and_self,if_true]
  rw [dif_pos c]
  obtain⟨h1,j⟩:=c.choose_spec
  have p:l=c.choose.1:=(List.map_inj_right a).1 h1
  rw [<-p,h]at j
  cases j
  rfl
theorem sort_ev{P:Program}{H:Hints}{ext:FuncId->Option tI}{f g:FuncId}{e:TypeId}{pd:α->PD}{D:tI}(c:ext f=some D)
    {l r:List α} (a:D f [.ref 0 0,.d (.raw (.func (.func g) #[] #[]))] [.arr 0 e (l.map pd)]=some (.tup [],[.arr 0 e (r.map pd)])):
    EvP P H ext f [.ref 0 0,.d (.raw (.func (.func g) #[] #[]))] [.arr 0 e (l.map pd)] (.tup [],[.arr 0 e (r.map pd)]):=Ev.lib c a
end
def okC:PD->Bool
  | .bool _| .int _ _| .str _=>true
  |_=>false
def BO:PD->Value
  | .bool b=>.bool b
  | .int k n=>.int k n
  | .str s=>.string ⟨s.toArray⟩
  |_=>.bool false
theorem okC_V{S:tG}{p:PD}(h:okC p=true):V S p (BO p):=by
  cases p<;>first|(cases h;done)|constructor
theorem okC_eq{S:tG}{p:PD}{v:Value}(h:okC p=true)(a:V S p v):v=BO p:=by
  cases p<;>first|(cases h;done)|(cases a;rfl)
theorem D3{p:PD}(h:okC p=true):(BO p).oneCell'=true:=by
  cases p<;>first|(cases h;done)|rfl
section
variable {P:Program}{S:tG}{α:Type}{pd:α->PD}{k:Nat}
def xz(pd:α->PD)(x:α):List Value:=(pd x).cells.map BO
theorem Bl(hk:∀x,(pd x).cells.length=k)(x:α){j:Nat}{c:PD}(h:(pd x).cells[j]? =some c):(xz pd x)[j]! =BO c:=by
  unfold xz
  rw [List.getElem!_eq_getElem?_getD,FO,h]
  rfl
variable [Inhabited α]
theorem flat_is(hk:∀x,(pd x).cells.length=k)(a:∀x,(pd x).cells.all okC=true){l:List α}{xs:List Value}(hf:Flat S k (l.map pd) xs){t:Nat}(c:t<l.toArray.size*k):
    xs[t]? =some ((Sort.flatK (xz pd) k l.toArray)[t]!):=by
  have g:0<k:=by
                        rcases GY k with h | h; · subst h; simp at c
                        · exact h
  rw [Sort.get_flatK _ _ _ t c]
  have h1:t / k<l.length:=by rw [Nat.div_lt_iff_lt_mul g];simpa using c
  have f:t%k<k:=FC _ g
  have p:(l.map pd)[t / k]? =some (pd l[t / k]):=by simp [h1]
  have hc:(pd l[t / k]).cells[t%k]? =some ((pd l[t / k]).cells[t%k]'(by rw [hk];exact f)):=by simp [hk,f]
  obtain⟨u,hu,j⟩:=hf.cell _ _ _ _ p hc
  rw [Nat.div_add_mod']at hu
  rw [hu]
  have:=okC_eq (List.all_eq_true.1 (a _) _ (E1 hc)) j
  rw [this]
  have e:l.toArray[t / k]! =l[t / k]:=by simp [h1]
  rw [e,Bl hk _ hc]
theorem flat_mk(hk:∀x,(pd x).cells.length=k)(f:∀x,(pd x).cells.all okC=true)(d:Array α):Flat S k (d.toList.map pd) (Sort.flatK (xz pd) k d).toList:=by
  refine⟨λe he=>?_,λu hu=>?_,λi e j x h1 c=>?_⟩
  · obtain⟨x, -,rfl⟩:=List.mem_map.1 he
    exact hk x
  · obtain⟨t,g,rfl⟩:=List.getElem_of_mem hu
    have a:t<d.size*k:=by simpa using g
    have q:0<k:=by
                          rcases GY k with h | h; · subst h; simp at a
                          · exact h
    have:=Sort.get_flatK (xz pd) k d t a
    rw [getElem!_pos _ t (by simpa using a)]at this
    simp only [Array.getElem_toList]
    rw [this]
    have c:t%k<(pd d[t / k]!).cells.length:=by rw [hk];exact FC _ q
    rw [Bl hk _ (ze c)]
    exact D3 (List.all_eq_true.1 (f _) _ (List.getElem_mem c))
  · simp only [FO,Option.map_eq_some_iff,G1]at h1
    obtain⟨y,z,rfl⟩:=h1
    have hi:i<d.size:=(Array.getElem?_eq_some_iff.1 z).1
    have r:j<k:=by rw [<-hk y];exact(List.getElem?_eq_some_iff.1 c).1
    have g:i*k+j<d.size*k:=by
      calc i*k+j<i*k+k:=by omega
        _=(i+1)*k:=by rw [Nat.add_mul,Nat.one_mul]
        _<=d.size*k:=E5 k hi
    have l:=Sort.get_flatK (xz pd) k d (i*k+j) g
    have q:0<k:=by omega
    have B:(i*k+j) / k=i:=by rw [FN i k,Nat.mul_add_div q,Nat.div_eq_of_lt r,Nat.add_zero]
    have C:(i*k+j)%k=j:=by rw [FN i k,Nat.mul_add_mod,Nat.mod_eq_of_lt r]
    rw [B,C,getElem!_pos _ _ (by simpa using g)]at l
    have p:d[i]! =y:=by rw [getElem!_pos d i hi];exact(Array.getElem?_eq_some_iff.1 z).2
    rw [p,Bl hk _ c]at l
    refine⟨BO x,?_,okC_V (List.all_eq_true.1 (f _) _ (E1 c))⟩
    rw [G1,FE (by simpa using g)]
    exact congrArg some l
end
theorem grow_of{w w':World}(h:Frame True [] w w'):∃q os,w'=Sort.grow (w.drewN q) os:=by
  refine⟨w'.drawn-w.drawn,w'.heap.extract w.heap.size w'.heap.size,?_⟩
  have f:w'.heap=w.heap++w'.heap.extract w.heap.size w'.heap.size:=by
    apply Array.ext_getElem?
    intro i
    by_cases hi:i<w.heap.size
    · rw [h.block i hi zb,Array.getElem?_append_left hi]
    · rw [Array.getElem?_append_right za]
      simp only [Array.getElem?_extract]
      by_cases j:i<w'.heap.size
      · rw [if_pos za];congr 1;omega
      · rw [if_neg za];exact GZ za
  have g:=h.drawn trivial
  have h1:=h.os
  have a:=h.tape
  have c:=h.output
  obtain⟨heap,tape,drawn,os,output⟩:=w'
  simp only at f g h1 a c
  subst h1 a c
  unfold Sort.grow World.drewN
  simp only
  rw [<-f]
  have:w.drawn+(drawn-w.drawn)=drawn:=by omega
  rw [this]
theorem mem0(P:Program)(w:World):Mem P (λ_=>none) (look []) (look []) w:=
  ⟨(λid f h=>by cases h),(λid L h=>by cases h),(λad v h=>by cases h),(λad v h=>by cases h),(λid L b h=>by cases h),(λid a L c b h=>by cases h)⟩
section
variable {P:Program}{α:Type}{pd:α->PD}{k:Nat}
theorem cmp_lays [Inhabited α] {g:FuncId}{cmp:α->α->Option Int}(u:Enters P g)(r:∀x y,∃c,cmp x y=some c)(l:∀x,∃cs,pd x= .agg cs)(z:∀x,(pd x).cells.all okC=true)
    (q:∀x y c,cmp x y=some c->uM P ⟨λ_=>none,True,[]⟩ g [.d (pd x),.d (pd y)] [] (.d (.int .i64 c)) []) (j off size:Nat) (w:World):
    CmpLays P g #[] (xz pd) k (λx y=>(cmp x y).getD 0) j off size w:=by
  intro m os C _ x y
  obtain⟨c,hc⟩:=r x y
  have hV:∀x,V (λ_=>none) (pd x) (.agg (xz pd x).toArray):=λx=>by
    obtain⟨cs,t⟩:=l x
    have ho:=z x
    unfold xz
    rw [t]at ho⊢
    refine .agg cs _ (by simp [PD.cells]) λi p v h1 f=>?_
    simp only [PD.cells,List.getElem?_toArray,FO,h1,Option.map_some,EC]at f
    subst f
    exact okC_V (List.all_eq_true.1 ho _ (E1 h1))
  have h := q x y c hc (λ_ => none) (sortWorldK (xz pd) k w j off m C os) [] #[.agg (xz pd x).toArray, .agg (xz pd y).toArray] (mem0 P _) rfl (Sub.refl _) (λx G => by cases G) rfl (λi a v h1 f => by
    match i,h1,f with
    |0,h1,f=>cases h1;cases f;exact .d (hV x)
    |1,h1,f=>cases h1;cases f;exact .d (hV y)
    |i+2,h1,f=>cases h1)
  refine(h.calls u).mono ?_
  rintro e w' ⟨v,rfl,S',H,B⟩
  have F:v= .int .i64 c:=by
    have E:=B.res
    cases E with
    |d D=>cases D;rfl
  subst F
  refine⟨?_,grow_of B.frame⟩
  simp only [hc,Option.getD_some]
theorem BK(F cur:Array Value)(h:F.size<=cur.size):(Sort.putCells id 0 F cur).toList.take F.size=F.toList:=by
  apply List.ext_getElem?
  intro i
  rw [EG]
  split
  · rename_i hi
    simp only [G1,Sort.putCells,Array.getElem?_mapIdx]
    rw [FE za,Option.map_some,if_pos ⟨za,za⟩,Nat.sub_zero,getElem!_pos F i hi,FE hi]
    rfl
  · rename_i hi
    rw [G1,GZ za]
theorem sort_ok{ρ:Go.Shelf.Ren}(L:SlLaysF0.n6 P ρ){g:FuncId}{e:TypeId}{cmp:α->α->Option Int}{base:wX}{f:FuncId}(hf:ρ.f 6=f)(ht:ρ.t 24=e)(b3:Enters P f)(c7:Enters P g)
    (eg:∀args w,(callFunc g args).run P w= .ok (.enter g args) w) (aE:∀w,(isAgg e).run P w= .ok true w) (zE:∀w,(sizeOf e).run P w= .ok k w) (c1:szT P e=some k) (hk:∀x,(pd x).cells.length=k)
    (a6:∀x,∃cs,pd x= .agg cs) (I:∀x,(pd x).cells.all okC=true)
    (a8:∀x y c,cmp x y=some c->uM P ⟨λ_=>none,True,[]⟩ g [.d (pd x),.d (pd y)] [] (.d (.int .i64 c)) [])
    (b6:uM P base f [.ref 0 0,.d (.raw (.func (.func g) #[] #[]))] [.arr 0 e []] (.tup []) [.arr 0 e []])
    (args:List RV) (bs:List Box) (r:RV) (Y:List Box) (h:Da g e pd cmp f args bs=some (r,Y)) (c8:k≠1:=by decide):uM P base f args bs r Y:=by
  unfold Da at h
  split at h
  · rename_i g' e' es
    split at h
    · rename_i b4
      obtain⟨rfl,rfl⟩:=b4
      split at h
      · rename_i hx
        obtain⟨h1,G⟩:=hx.choose_spec
        generalize hx.choose.1=l at h1 G
        generalize hx.choose.2=l' at h G
        simp only [EC,Prod.mk.injEq]at h
        obtain⟨rfl,rfl⟩:=h
        subst h1
        cases l with
        |nil=>cases G;exact b6
        |cons a l=>
          rw [zC]at G
          split at G
          · rename_i hc
            letI:Inhabited α:=⟨a⟩
            obtain⟨⟨c3,hO⟩,a5⟩:=hc
            simp only [EC]at G
            generalize hl:a::l=q at G a5⊢
            have hq:0<q.length:=by rw [<-hl];simp
            clear hl
            intro S w ls vs u hlen c5 d5 O J
            obtain⟨X,rfl⟩:∃X,ls=[X]:=by
              match ls,hlen with
              | [X],_=>exact⟨X,rfl⟩
            obtain⟨v0,v1,rfl⟩:∃v0 v1,vs= #[v0,v1]:=by
              obtain⟨k⟩:=vs
              match k,O with
              | [v0,v1],_=>exact⟨v0,v1,rfl⟩
            have a0:=J 0 _ v0 rfl rfl
            have a1:=J 1 _ v1 rfl rfl
            have a7:=u.wh (id:=0) rfl (L:=X) rfl
            cases a7 with
            |arr _ _ _ sz hdr xs K how c6=>
            rw [c1]at K
            cases K
            have d1:v0=hdr:=by
              cases a0 with
              |ref _ _ _ L1 ho W hh=>cases W;exact(hh _ _ _ _ .arr).2 rfl
            have d2:v1= .func (.func g') #[] #[]:=by
              cases a1 with
              |d hh=>cases hh;rfl
            subst d1 d2
            have E:=(how.wj (by simpa using hq)).wj c8
            obtain⟨d4,E⟩:=E
            rcases E with⟨-,h0⟩|⟨z,cap,cur,rfl, -,j,D,b5,a9,F⟩
            · simp at h0;simp [h0]at hq
            have d0:(q.map pd).length=q.length:=by simp
            rw [d0]at D F d4
            have hblk:z<w.heap.size:=(Array.getElem?_eq_some_iff.1 j).1
            have hH:Sort.HoldsK (xz pd) k w z 0 q.toArray:=by
              intro t ht
              have c2:t<q.toArray.size*k:=by simpa using ht
              have e1:=flat_is hk I c6 c2
              refine⟨?_,?_⟩
              · rw [World.cell?,j]
                simp only [Nat.zero_add,Option.isSome_none,Bool.false_eq_true,if_false,id]
                rw [<-e1, <-F,EG,if_pos (by simpa using c2),G1]
              · rw [World.frozen?,j]
                simp
            have N := AnyQ.slices_SortFunc_eq L k (by rw [ht]; exact aE) (by rw [ht]; exact zE) (xz pd) (by intro x; simp [xz, hk]) (by
                intro x v hv
                obtain⟨p,hp,rfl⟩:=List.mem_map.1 hv
                exact D3 (List.all_eq_true.1 (I x) _ hp)) (λx y=>(cmp x y).getD 0) hO g' #[] z 0 cap q.toArray w eg
              (cmp_lays c7 c3 a6 I a8 z 0 _ w) hH hblk (by simpa using a5)
            rw [hf]at N
            refine .inl ⟨b3,?_⟩
            simp only [List.length_map]at u⊢
            rw [show q.toArray.size=q.length by simp]at N
            refine N.mono ?_
            rintro e w' ⟨rfl,n,os,B⟩
            have hd:(Sort.pdq (ltOf λx y=>(cmp x y).getD 0) q.toArray 0 q.length (Lib.bitLen q.length) true true).toList=l':=G
            have c0:=Sort.pdq_sorts (lt3 cmp) hO q.toArray 0 q.length (Lib.bitLen q.length) true true (EK _) zb (.inl rfl)
            have H:(Sort.pdq (ltOf λx y=>(cmp x y).getD 0) q.toArray 0 q.length (Lib.bitLen q.length) true true).size=q.length:=by
              have h1:(Sort.pdq (lt3 cmp) q.toArray 0 q.length (Lib.bitLen q.length) true true).size=q.length:=by simpa using c0.1.1
              exact h1
            generalize Sort.pdq (ltOf λx y=>(cmp x y).getD 0) q.toArray 0 q.length (Lib.bitLen q.length) true true=T at hd H B
            clear c0
            subst hd
            have b0:(Sort.flatK (xz pd) k T).size<=cur.size:=by
              simp only [Sort.size_flatK,H,a9]
              exact E5 k D
            have c4:∀b,b<w.heap.size->b≠z->w'.heap[b]? =w.heap[b]? :=λb C c9=>by
              rw [B,sortWorldK,Sort.heap_grow_old _ _ (by simpa [Sort.putRowK]using C)]
              simp only [Sort.putRowK,Sort.putRow,Sort.mapBlock,G0]
              rw [if_neg (λh=>c9 h.symm)]
              rfl
            have d3:w'.heap[z]? =some (.cells (Sort.putCells id 0 (Sort.flatK (xz pd) k T) cur) e' (0,0)):=by
              rw [B,sortWorldK,Sort.heap_grow_old _ _ (by simpa [Sort.putRowK]using hblk)]
              simp only [Sort.putRowK,Sort.putRow,Sort.mapBlock,G0,if_true,Sort.heap_ahead,j,Option.map_some,Sort.onCells]
            have Q:w.heap.size<=w'.heap.size:=by
              rw [B,sortWorldK,Sort.size_grow]
              simp [Sort.putRowK]
            refine⟨.tuple #[],rfl,S,[.arr 0 e' k (.slice (some ⟨z,0,none⟩) q.length cap)],rfl,Nat.le_refl _,Sub.refl S,?_,λad v hh=>.inl hh,tO.refl _,λi L b W C=>.inl ?_,?_,?_⟩
            · refine⟨λii bx C=>?_,λii L W=>?_,λad v hS=>?_,u.wU,u.vV,u.inj⟩
              · match ii,C with
                |0,C=>
                  cases C
                  refine⟨_,rfl,.arr 0 e' _ k _ (Sort.flatK (xz pd) k T).toList c1 (.inl ⟨zb,.inr ⟨z,cap,Sort.putCells id 0 (Sort.flatK (xz pd) k T) cur,(0,0),?_,.inl rfl,d3,?_,b5,?_,?_⟩⟩) (flat_mk hk I T)⟩
                  · simp [H]
                  · simp [H];exact D
                  · simp [Sort.putCells,a9]
                  · have:=BK (Sort.flatK (xz pd) k T) cur b0
                    simpa using this
              · match ii,W with
                |0,W=>exact⟨_,rfl⟩
              · have hc:=u.imm ad v hS
                by_cases C:ad.block=z
                · obtain⟨b,o,sp⟩:=ad
                  simp only at C
                  subst C
                  cases sp with
                  |none=>
                    have := u.vV 0 _ b rfl (by cases cap with
                      |zero=>omega
                      |succ c=>rfl) o
                    rw [this]at hS;cases hS
                  |some s=>simp [World.cell?,j]at hc
                · rw [vC (c4 ad.block (wF hc) C)]
                  exact hc
            · rw [w4]
              exact⟨i,L,W,C⟩
            · refine⟨by rw [B];rfl,by rw [B];rfl,by rw [B];rfl,Q,λb C hn=>c4 b C λhe=>hn ?_,λ_=>by rw [B];exact Nat.le_add_right _ _⟩
              subst he
              rw [w4]
              refine⟨0,_,rfl,?_⟩
              cases cap with
              |zero=>omega
              |succ c=>rfl
            · exact .tup [] #[] rfl (λi c v h=>by cases h)
          · cases G
      · cases h
    · cases h
  · cases h
end
theorem Bo(P:Program)(base:wX):zJ P base (λ_=>none):=λf g h=>by cases h
end Go.Dw
