
import Derived.Test.YtomapcboiinfdaaGreatDwPlain
import Derived.Test.YtomapcboiinfdaaGreatDwLift4
import Derived.Lib.BitFns
import Derived.Test.YtomapcboiinfdaaGreatDwSame
import Derived.Shelf.SlSortCmp.WholeK
open Nat renaming eq_zero_or_pos->By, mod_lt->Ab, mul_comm->An, mul_le_mul_right->A3, zero_le->AL
open List renaming getElem?_map->Ap, getElem?_take->AH, mem_of_getElem?->A0
open Array renaming getElem?_eq_getElem->Ad, getElem?_eq_none->Bz, getElem?_modify->CA, getElem?_toList->BJ
open Option.some renaming injEq->AD

namespace Go.Dw
open Go.Proofs
section
variable {α:Type}
def lt3(cmp:α->α->Option Int)(x y:α):Bool:=decide ((cmp x y).getD 0<0)
def CmpOk(cmp:α->α->Option Int):Prop:=(∀x y,∃c,cmp x y=some c)∧Sort.SWO (lt3 cmp)
open Classical in
noncomputable def sY (cmp:α->α->Option Int):List α->Option (List α)
  | []=>some []
  |a::l=>if CmpOk cmp∧(a::l).length<4611686018427387904 then
      haveI:Inhabited α:=⟨a⟩
      some (Sort.pdq (lt3 cmp) (a::l).toArray 0 (a::l).length (Lib.bitLen (a::l).length) true true).toList
    else none
open Classical in
theorem tA(cmp:α->α->Option Int)(a:α)(l:List α):sY cmp (a::l)=if CmpOk cmp∧(a::l).length<4611686018427387904 then
      haveI:Inhabited α:=⟨a⟩
      some (Sort.pdq (lt3 cmp) (a::l).toArray 0 (a::l).length (Lib.bitLen (a::l).length) true true).toList
    else none:=rfl
theorem yK{cmp:α->α->Option Int}{l r:List α}(h:sY cmp l=some r):r.Perm l:=by
  cases l with
  |nil=>cases h;exact .nil
  |cons a l=>
    rw [tA]at h
    split at h
    · rename_i e
      cases h
      letI:Inhabited α:=⟨a⟩
      have:=Sort.pdq_sorts (lt3 cmp) e.1.2 (a::l).toArray 0 (a::l).length (Lib.bitLen (a::l).length) true true (AL _) sm (.inl rfl)
      obtain⟨g, -,c⟩:=this.1
      have b:∀d:Array α,d.size=(a::l).length->d.extract 0 (a::l).length=d:=fun d f=>by rw [<-f];simp
      rw [b _ (by simpa using g),b _ sm]at c
      exact c
    · cases h
theorem uS{cmp:α->α->Option Int}(b:CmpOk cmp)(he:∀x y,lt3 cmp x y=false->lt3 cmp y x=false->x=y)(l:List α)(c:l.length<4611686018427387904):
    sY cmp l=some (l.mergeSort fun x y=> !lt3 cmp y x):=by
  cases l with
  |nil=>simp [sY]
  |cons a l=>
    rw [tA,if_pos ⟨b,c⟩]
    letI:Inhabited α:=⟨a⟩
    have:=Sort.pdq_sorts (lt3 cmp) b.2 (a::l).toArray 0 (a::l).length (Lib.bitLen (a::l).length) true true (AL _) sm (.inl rfl)
    have hu:=Sort.sorted_unique_holds b.2 he (a::l).toArray _ this.1 this.2
    exact congrArg some hu
def Apart(cmp:α->α->Option Int)(l:List α):Prop:=l.Pairwise fun x y=>lt3 cmp x y=true∨lt3 cmp y x=true
theorem Apart.eq{cmp:α->α->Option Int}{l:List α}(h:Apart cmp l){a b:α}(j:a∈l)(m:b∈l)(h1:lt3 cmp a b=false)(g:lt3 cmp b a=false):a=b:=by
  have o:l.Pairwise fun x y=>x=y∨lt3 cmp x y=true∨lt3 cmp y x=true:=h.imp fun h=>.inr h
  have key:∀x∈l,∀y∈l,x=y∨lt3 cmp x y=true∨lt3 cmp y x=true:=by
    clear h1 g j m h
    induction l with
    |nil=>intro x i;cases i
    |cons c l r=>
      obtain⟨n,p⟩:=List.pairwise_cons.1 o
      intro x i y q
      rcases List.mem_cons.1 i with e|e<;>rcases List.mem_cons.1 q with f|f
      · exact .inl (e.trans f.symm)
      · subst e;exact n y f
      · subst f
        rcases n x e with h|h|h
        · exact .inl h.symm
        · exact .inr (.inr h)
        · exact .inr (.inl h)
      · exact r p x e y f
  rcases key a j b m with h|h|h
  · exact h
  · rw [h]at h1;cases h1
  · rw [h]at g;cases g
open Classical in
end
end Go.Dw
namespace Go.Dw
open Go.Proofs Go.Shelf Go.RowKit
section
variable {α:Type}
open Classical in
noncomputable def xZ (g:FuncId) (e:TypeId) (pd:α->PD) (cmp:α->α->Option Int):ng:=fun _ args bs=>
  match args,bs with
  | [.ref 0 0,.d (.raw (.func (.func b) ⟨[]⟩ ⟨[]⟩))],[.arr 0 a es]=>
    if b=g∧a=e then
      if h:∃r:List α×List α,es=r.1.map pd∧sY cmp r.1=some r.2 then some (.tup [],[.arr 0 e (h.choose.2.map pd)])else none
    else none
  |_,_=>none
theorem sortD_of{f:FuncId}{g:FuncId}{e:TypeId}{pd:α->PD}{cmp:α->α->Option Int}(a:∀x y,pd x=pd y->x=y){l r:List α}(h:sY cmp l=some r):
    xZ g e pd cmp f [.ref 0 0,.d (.raw (.func (.func g) #[] #[]))] [.arr 0 e (l.map pd)]=some (.tup [],[.arr 0 e (r.map pd)]):=by
  unfold xZ
  have b:∃q:List α×List α,l.map pd=q.1.map pd∧sY cmp q.1=some q.2:=⟨(l,r),rfl,h⟩
  simp only [and_self,if_true]
  rw [dif_pos b]
  obtain⟨h1,c⟩:=b.choose_spec
  have i:l=b.choose.1:=(List.map_inj_right a).1 h1
  rw [<-i,h]at c
  cases c
  rfl
theorem sort_ev{P:Program}{H:Hints}{ext:FuncId->Option ng}{f g:FuncId}{e:TypeId}{pd:α->PD}{D:ng}(b:ext f=some D)
    {l r:List α} (a:D f [.ref 0 0,.d (.raw (.func (.func g) #[] #[]))] [.arr 0 e (l.map pd)]=some (.tup [],[.arr 0 e (r.map pd)])):
    EvP P H ext f [.ref 0 0,.d (.raw (.func (.func g) #[] #[]))] [.arr 0 e (l.map pd)] (.tup [],[.arr 0 e (r.map pd)]):=Ev.lib b a
end
def okC:PD->Bool
  | .bool _| .int _ _| .str _=>true
  |_=>false
def wC:PD->Value
  | .bool b=>.bool b
  | .int k n=>.int k n
  | .str s=>.string ⟨s.toArray⟩
  |_=>.bool false
theorem okC_V{S:mW}{p:PD}(h:okC p=true):V S p (wC p):=by
  cases p<;>first|(cases h;done)|constructor
theorem okC_eq{S:mW}{p:PD}{v:Value}(h:okC p=true)(a:V S p v):v=wC p:=by
  cases p<;>first|(cases h;done)|(cases a;rfl)
theorem zd{p:PD}(h:okC p=true):(wC p).oneCell'=true:=by
  cases p<;>first|(cases h;done)|rfl
section
variable {P:Program}{S:mW}{α:Type}{pd:α->PD}{k:Nat}
def qH(pd:α->PD)(x:α):List Value:=(pd x).cells.map wC
theorem vw(hk:∀x,(pd x).cells.length=k)(x:α){j:Nat}{c:PD}(h:(pd x).cells[j]? =some c):(qH pd x)[j]! =wC c:=by
  unfold qH
  rw [List.getElem!_eq_getElem?_getD,Ap,h]
  rfl
variable [Inhabited α]
theorem flat_is(hk:∀x,(pd x).cells.length=k)(b:∀x,(pd x).cells.all okC=true){l:List α}{xs:List Value}(hf:Flat S k (l.map pd) xs){t:Nat}(c:t<l.toArray.size*k):
    xs[t]? =some ((Sort.flatK (qH pd) k l.toArray)[t]!):=by
  have g:0<k:=by
                        rcases By k with h | h; · subst h; simp at c
                        · exact h
  rw [Sort.get_flatK _ _ _ t c]
  have h1:t / k<l.length:=by rw [Nat.div_lt_iff_lt_mul g];simpa using c
  have f:t%k<k:=Ab _ g
  have j:(l.map pd)[t / k]? =some (pd l[t / k]):=by simp [h1]
  have a:(pd l[t / k]).cells[t%k]? =some ((pd l[t / k]).cells[t%k]'(by rw [hk];exact f)):=by simp [hk,f]
  obtain⟨u,hu,i⟩:=hf.cell _ _ _ _ j a
  rw [Nat.div_add_mod']at hu
  rw [hu]
  have:=okC_eq (List.all_eq_true.1 (b _) _ (A0 a)) i
  rw [this]
  have e:l.toArray[t / k]! =l[t / k]:=by simp [h1]
  rw [e,vw hk _ a]
theorem flat_mk(hk:∀x,(pd x).cells.length=k)(c:∀x,(pd x).cells.all okC=true)(d:Array α):Flat S k (d.toList.map pd) (Sort.flatK (qH pd) k d).toList:=by
  refine⟨fun e he=>?_,fun u hu=>?_,fun i e j x h1 b=>?_⟩
  · obtain⟨x, -,rfl⟩:=List.mem_map.1 he
    exact hk x
  · obtain⟨t,f,rfl⟩:=List.getElem_of_mem hu
    have a:t<d.size*k:=by simpa using f
    have m:0<k:=by
                          rcases By k with h | h; · subst h; simp at a
                          · exact h
    have:=Sort.get_flatK (qH pd) k d t a
    rw [getElem!_pos _ t (by simpa using a)]at this
    simp only [Array.getElem_toList]
    rw [this]
    have b:t%k<(pd d[t / k]!).cells.length:=by rw [hk];exact Ab _ m
    rw [vw hk _ (zc b)]
    exact zd (List.all_eq_true.1 (c _) _ (List.getElem_mem b))
  · simp only [Ap,Option.map_eq_some_iff,BJ]at h1
    obtain⟨y,o,rfl⟩:=h1
    have hi:i<d.size:=(Array.getElem?_eq_some_iff.1 o).1
    have n:j<k:=by rw [<-hk y];exact(List.getElem?_eq_some_iff.1 b).1
    have f:i*k+j<d.size*k:=by
      calc i*k+j<i*k+k:=by omega
        _=(i+1)*k:=by rw [Nat.add_mul,Nat.one_mul]
        _<=d.size*k:=A3 k hi
    have g:=Sort.get_flatK (qH pd) k d (i*k+j) f
    have m:0<k:=by omega
    have p:(i*k+j) / k=i:=by rw [An i k,Nat.mul_add_div m,Nat.div_eq_of_lt n,Nat.add_zero]
    have q:(i*k+j)%k=j:=by rw [An i k,Nat.mul_add_mod,Nat.mod_eq_of_lt n]
    rw [p,q,getElem!_pos _ _ (by simpa using f)]at g
    have l:d[i]! =y:=by rw [getElem!_pos d i hi];exact(Array.getElem?_eq_some_iff.1 o).2
    rw [l,vw hk _ b]at g
    refine⟨wC x,?_,okC_V (List.all_eq_true.1 (c _) _ (A0 b))⟩
    rw [BJ,Ad (by simpa using f)]
    exact congrArg some g
end
theorem grow_of{w w':World}(h:Frame True [] w w'):∃q os,w'=Sort.grow (w.drewN q) os:=by
  refine⟨w'.drawn-w.drawn,w'.heap.extract w.heap.size w'.heap.size,?_⟩
  have c:w'.heap=w.heap++w'.heap.extract w.heap.size w'.heap.size:=by
    apply Array.ext_getElem?
    intro i
    by_cases hi:i<w.heap.size
    · rw [h.block i hi sm,Array.getElem?_append_left hi]
    · rw [Array.getElem?_append_right om]
      simp only [Array.getElem?_extract]
      by_cases f:i<w'.heap.size
      · rw [if_pos om];congr 1;omega
      · rw [if_neg om];exact Bz om
  have e:=h.drawn trivial
  have h1:=h.os
  have a:=h.tape
  have b:=h.output
  obtain⟨heap,tape,drawn,os,output⟩:=w'
  simp only at c e h1 a b
  subst h1 a b
  unfold Sort.grow World.drewN
  simp only
  rw [<-c]
  have:w.drawn+(drawn-w.drawn)=drawn:=by omega
  rw [this]
theorem mem0(P:Program)(w:World):Mem P (fun _=>none) (look []) (look []) w:=
  ⟨(fun id e h=>by cases h),(fun id L h=>by cases h),(fun ad v h=>by cases h),(fun ad v h=>by cases h),(fun id L b h=>by cases h),(fun id a L c b h=>by cases h)⟩
section
variable {P:Program}{α:Type}{pd:α->PD}{k:Nat}
theorem cmp_lays [Inhabited α] {g:FuncId}{cmp:α->α->Option Int}(q:Enters P g)(n:∀x y,∃c,cmp x y=some c)(j:∀x,∃cs,pd x= .agg cs)(r:∀x,(pd x).cells.all okC=true)
    (l:∀x y c,cmp x y=some c->pk P ⟨fun _=>none,True,[]⟩ g [.d (pd x),.d (pd y)] [] (.d (.int .i64 c)) []) (f off size:Nat) (w:World):
    CmpLays P g #[] (qH pd) k (fun x y=>(cmp x y).getD 0) f off size w:=by
  intro m os z _ x y
  obtain⟨c,t⟩:=n x y
  have hV:∀x,V (fun _=>none) (pd x) (.agg (qH pd x).toArray):=fun x=>by
    obtain⟨cs,o⟩:=j x
    have u:=r x
    unfold qH
    rw [o]at u⊢
    refine .agg cs _ (by simp [PD.cells]) fun i p v h1 b=>?_
    simp only [PD.cells,List.getElem?_toArray,Ap,h1,Option.map_some,AD]at b
    subst b
    exact okC_V (List.all_eq_true.1 u _ (A0 h1))
  have h := l x y c t (fun _ => none) (sortWorldK (qH pd) k w f off m z os) [] #[.agg (qH pd x).toArray, .agg (qH pd y).toArray] (mem0 P _) rfl (Sub.refl _) (fun x E => by cases E) rfl (fun i a v h1 b => by
    match i,h1,b with
    |0,h1,b=>cases h1;cases b;exact .d (hV x)
    |1,h1,b=>cases h1;cases b;exact .d (hV y)
    |i+2,h1,b=>cases h1)
  refine(h.calls q).mono ?_
  rintro e w' ⟨v,rfl,S',F,s⟩
  have D:v= .int .i64 c:=by
    have C:=s.res
    cases C with
    |d B=>cases B;rfl
  subst D
  refine⟨?_,grow_of s.frame⟩
  simp only [t,Option.getD_some]
theorem wu(F cur:Array Value)(h:F.size<=cur.size):(Sort.putCells id 0 F cur).toList.take F.size=F.toList:=by
  apply List.ext_getElem?
  intro i
  rw [AH]
  split
  · rename_i hi
    simp only [BJ,Sort.putCells,Array.getElem?_mapIdx]
    rw [Ad om,Option.map_some,if_pos ⟨om,om⟩,Nat.sub_zero,getElem!_pos F i hi,Ad hi]
    rfl
  · rename_i hi
    rw [BJ,Bz om]
theorem sort_ok{ρ:Go.Shelf.Ren}(L:SlLaysF0.n6 P ρ){g:FuncId}{e:TypeId}{cmp:α->α->Option Int}{base:tE}{f:FuncId}(hf:ρ.f 6=f)(ht:ρ.t 24=e)(b0:Enters P f)(c4:Enters P g)
    (eg:∀args w,(callFunc g args).run P w= .ok (.enter g args) w) (aE:∀w,(isAgg e).run P w= .ok true w) (zE:∀w,(sizeOf e).run P w= .ok k w) (b5:szT P e=some k) (hk:∀x,(pd x).cells.length=k)
    (a5:∀x,∃cs,pd x= .agg cs) (H:∀x,(pd x).cells.all okC=true)
    (a7:∀x y c,cmp x y=some c->pk P ⟨fun _=>none,True,[]⟩ g [.d (pd x),.d (pd y)] [] (.d (.int .i64 c)) [])
    (b3:pk P base f [.ref 0 0,.d (.raw (.func (.func g) #[] #[]))] [.arr 0 e []] (.tup []) [.arr 0 e []])
    (args:List RV) (bs:List Box) (r:RV) (X:List Box) (h:xZ g e pd cmp f args bs=some (r,X)) (c5:k≠1:=by decide):pk P base f args bs r X:=by
  unfold xZ at h
  split at h
  · rename_i g' e' es
    split at h
    · rename_i b1
      obtain⟨rfl,rfl⟩:=b1
      split at h
      · rename_i hx
        obtain⟨h1,F⟩:=hx.choose_spec
        generalize hx.choose.1=l at h1 F
        generalize hx.choose.2=l' at h F
        simp only [AD,Prod.mk.injEq]at h
        obtain⟨rfl,rfl⟩:=h
        subst h1
        cases l with
        |nil=>cases F;exact b3
        |cons a l=>
          rw [tA]at F
          split at F
          · rename_i hc
            letI:Inhabited α:=⟨a⟩
            obtain⟨⟨c0,hO⟩,Y⟩:=hc
            simp only [AD]at F
            generalize hl:a::l=q at F Y⊢
            have hq:0<q.length:=by rw [<-hl];simp
            clear hl
            intro S w ls vs m hlen c2 d2 N I
            obtain⟨W,rfl⟩:∃W,ls=[W]:=by
              match ls,hlen with
              | [W],_=>exact⟨W,rfl⟩
            obtain⟨v0,v1,rfl⟩:∃v0 v1,vs= #[v0,v1]:=by
              obtain⟨k⟩:=vs
              match k,N with
              | [v0,v1],_=>exact⟨v0,v1,rfl⟩
            have a0:=I 0 _ v0 rfl rfl
            have a1:=I 1 _ v1 rfl rfl
            have a6:=m.ot (id:=0) rfl (L:=W) rfl
            cases a6 with
            |arr _ _ _ sz hdr xs J how c3=>
            rw [b5]at J
            cases J
            have c8:v0=hdr:=by
              cases a0 with
              |ref _ _ _ L1 ho T hh=>cases T;exact(hh _ _ _ _ .arr).2 rfl
            have c9:v1= .func (.func g') #[] #[]:=by
              cases a1 with
              |d hh=>cases hh;rfl
            subst c8 c9
            have D:=(how.qN (by simpa using hq)).qN c5
            obtain⟨d1,D⟩:=D
            rcases D with⟨-,h0⟩|⟨u,cap,cur,rfl, -,j,C,b2,a8,E⟩
            · simp at h0;simp [h0]at hq
            have c7:(q.map pd).length=q.length:=by simp
            rw [c7]at C E d1
            have hblk:u<w.heap.size:=(Array.getElem?_eq_some_iff.1 j).1
            have hH:Sort.HoldsK (qH pd) k w u 0 q.toArray:=by
              intro t ht
              have b6:t<q.toArray.size*k:=by simpa using ht
              have e1:=flat_is hk H c3 b6
              refine⟨?_,?_⟩
              · rw [World.cell?,j]
                simp only [Nat.zero_add,Option.isSome_none,Bool.false_eq_true,if_false,id]
                rw [<-e1, <-E,AH,if_pos (by simpa using b6),BJ]
              · rw [World.frozen?,j]
                simp
            have K := AnyQ.slices_SortFunc_eq L k (by rw [ht]; exact aE) (by rw [ht]; exact zE) (qH pd) (by intro x; simp [qH, hk]) (by
                intro x v hv
                obtain⟨p,hp,rfl⟩:=List.mem_map.1 hv
                exact zd (List.all_eq_true.1 (H x) _ hp)) (fun x y=>(cmp x y).getD 0) hO g' #[] u 0 cap q.toArray w eg
              (cmp_lays c4 c0 a5 H a7 u 0 _ w) hH hblk (by simpa using Y)
            rw [hf]at K
            refine .inl ⟨b0,?_⟩
            simp only [List.length_map]at m⊢
            rw [show q.toArray.size=q.length by simp]at K
            refine K.mono ?_
            rintro e w' ⟨rfl,n,os,z⟩
            have hd:(Sort.pdq (ltOf fun x y=>(cmp x y).getD 0) q.toArray 0 q.length (Lib.bitLen q.length) true true).toList=l':=F
            have b4:=Sort.pdq_sorts (lt3 cmp) hO q.toArray 0 q.length (Lib.bitLen q.length) true true (AL _) sm (.inl rfl)
            have G:(Sort.pdq (ltOf fun x y=>(cmp x y).getD 0) q.toArray 0 q.length (Lib.bitLen q.length) true true).size=q.length:=by
              have h1:(Sort.pdq (lt3 cmp) q.toArray 0 q.length (Lib.bitLen q.length) true true).size=q.length:=by simpa using b4.1.1
              exact h1
            generalize Sort.pdq (ltOf fun x y=>(cmp x y).getD 0) q.toArray 0 q.length (Lib.bitLen q.length) true true=Q at hd G z
            clear b4
            subst hd
            have a9:(Sort.flatK (qH pd) k Q).size<=cur.size:=by
              simp only [Sort.size_flatK,G,a8]
              exact A3 k C
            have c1:∀b,b<w.heap.size->b≠u->w'.heap[b]? =w.heap[b]? :=fun b B c6=>by
              rw [z,sortWorldK,Sort.heap_grow_old _ _ (by simpa [Sort.putRowK]using B)]
              simp only [Sort.putRowK,Sort.putRow,Sort.mapBlock,CA]
              rw [if_neg (fun h=>c6 h.symm)]
              rfl
            have d0:w'.heap[u]? =some (.cells (Sort.putCells id 0 (Sort.flatK (qH pd) k Q) cur) e' (0,0)):=by
              rw [z,sortWorldK,Sort.heap_grow_old _ _ (by simpa [Sort.putRowK]using hblk)]
              simp only [Sort.putRowK,Sort.putRow,Sort.mapBlock,CA,if_true,Sort.heap_ahead,j,Option.map_some,Sort.onCells]
            have O:w.heap.size<=w'.heap.size:=by
              rw [z,sortWorldK,Sort.size_grow]
              simp [Sort.putRowK]
            refine⟨.tuple #[],rfl,S,[.arr 0 e' k (.slice (some ⟨u,0,none⟩) q.length cap)],rfl,Nat.le_refl _,Sub.refl S,?_,fun ad v hh=>.inl hh,mZ.refl _,fun i L b T B=>.inl ?_,?_,?_⟩
            · refine⟨fun ii bx B=>?_,fun ii L T=>?_,fun ad v hS=>?_,m.qT,m.pH,m.inj⟩
              · match ii,B with
                |0,B=>
                  cases B
                  refine⟨_,rfl,.arr 0 e' _ k _ (Sort.flatK (qH pd) k Q).toList b5 (.inl ⟨sm,.inr ⟨u,cap,Sort.putCells id 0 (Sort.flatK (qH pd) k Q) cur,(0,0),?_,.inl rfl,d0,?_,b2,?_,?_⟩⟩) (flat_mk hk H Q)⟩
                  · simp [G]
                  · simp [G];exact C
                  · simp [Sort.putCells,a8]
                  · have:=wu (Sort.flatK (qH pd) k Q) cur a9
                    simpa using this
              · match ii,T with
                |0,T=>exact⟨_,rfl⟩
              · have hc:=m.imm ad v hS
                by_cases B:ad.block=u
                · obtain⟨b,o,sp⟩:=ad
                  simp only at B
                  subst B
                  cases sp with
                  |none=>
                    have := m.pH 0 _ b rfl (by cases cap with
                      |zero=>omega
                      |succ c=>rfl) o
                    rw [this]at hS;cases hS
                  |some s=>simp [World.cell?,j]at hc
                · rw [px (c1 ad.block (uU hc) B)]
                  exact hc
            · rw [tG]
              exact⟨i,L,T,B⟩
            · refine⟨by rw [z];rfl,by rw [z];rfl,by rw [z];rfl,O,fun b B hn=>c1 b B fun he=>hn ?_,fun _=>by rw [z];exact Nat.le_add_right _ _⟩
              subst he
              rw [tG]
              refine⟨0,_,rfl,?_⟩
              cases cap with
              |zero=>omega
              |succ c=>rfl
            · exact .tup [] #[] rfl (fun i c v h=>by cases h)
          · cases F
      · cases h
    · cases h
  · cases h
end
theorem xG(P:Program)(base:tE):wy P base (fun _=>none):=fun f g h=>by cases h
end Go.Dw
