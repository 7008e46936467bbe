
import Derived.Test.YtfmoipelhfkdkaaGreatDoorDwPlain
import Derived.Test.YtfmoipelhfkdkaaGreatDoorDwLift4
import Derived.Lib.BitFns
import Derived.Test.YtfmoipelhfkdkaaGreatDoorDwClone
import Derived.Shelf.SlSortCmp.WholeK
open Nat renaming eq_zero_or_pos->Fe, mod_lt->EK, mul_comm->EX, mul_le_mul_right->EB, zero_le->DR
open List renaming getElem?_map->EY, getElem?_take->DN, mem_of_getElem?->D6
open Array renaming getElem?_eq_getElem->EM, getElem?_eq_none->Ff, getElem?_modify->Fg, getElem?_toList->Eg
open Option.some renaming injEq->DJ

namespace Go.Dw
open Go.Proofs
section
variable {α:Type}
def lt3(cmp:α->α->Option Int)(x y:α):Bool:=decide ((cmp x y).getD 0<0)
def CmpOk(cmp:α->α->Option Int):Prop:=(∀x y,∃c,cmp x y=some c)∧Sort.SWO (lt3 cmp)
open Classical in
noncomputable def w3 (cmp:α->α->Option Int):List α->Option (List α)
  | []=>some []
  |a::l=>if CmpOk cmp∧(a::l).length<4611686018427387904 then
      haveI:Inhabited α:=⟨a⟩
      some (Sort.pdq (lt3 cmp) (a::l).toArray 0 (a::l).length (Lib.bitLen (a::l).length) true true).toList
    else none
open Classical in
theorem yk(cmp:α->α->Option Int)(a:α)(l:List α):w3 cmp (a::l)=if CmpOk cmp∧(a::l).length<4611686018427387904 then
      haveI:Inhabited α:=⟨a⟩
      some (Sort.pdq (lt3 cmp) (a::l).toArray 0 (a::l).length (Lib.bitLen (a::l).length) true true).toList
    else none:=rfl
theorem C2{cmp:α->α->Option Int}{l r:List α}(h:w3 cmp l=some r):r.Perm l:=by
  cases l with
  |nil=>cases h;exact .nil
  |cons a l=>
    rw [yk]at h
    split at h
    · rename_i hc
      cases h
      letI:Inhabited α:=⟨a⟩
      have:=Sort.pdq_sorts (lt3 cmp) hc.1.2 (a::l).toArray 0 (a::l).length (Lib.bitLen (a::l).length) true true (DR _) zc (.inl rfl)
      obtain⟨hs, -,hp⟩:=this.1
      have f:∀d:Array α,d.size=(a::l).length->d.extract 0 (a::l).length=d:=fun d g=>by rw [<-g];simp
      rw [f _ (by simpa using hs),f _ zc]at hp
      exact hp
    · cases h
theorem zM{cmp:α->α->Option Int}(hc:CmpOk cmp)(he:∀x y,lt3 cmp x y=false->lt3 cmp y x=false->x=y)(l:List α)(hl:l.length<4611686018427387904):
    w3 cmp l=some (l.mergeSort fun x y=> !lt3 cmp y x):=by
  cases l with
  |nil=>simp [w3]
  |cons a l=>
    rw [yk,if_pos ⟨hc,hl⟩]
    letI:Inhabited α:=⟨a⟩
    have:=Sort.pdq_sorts (lt3 cmp) hc.2 (a::l).toArray 0 (a::l).length (Lib.bitLen (a::l).length) true true (DR _) zc (.inl rfl)
    have hu:=Sort.sorted_unique_holds hc.2 he (a::l).toArray _ this.1 this.2
    exact congrArg some hu
def Apart(cmp:α->α->Option Int)(l:List α):Prop:=l.Pairwise fun x y=>lt3 cmp x y=true∨lt3 cmp y x=true
theorem Apart.eq{cmp:α->α->Option Int}{l:List α}(h:Apart cmp l){a b:α}(r:a∈l)(u:b∈l)(h1:lt3 cmp a b=false)(j:lt3 cmp b a=false):a=b:=by
  have C:l.Pairwise fun x y=>x=y∨lt3 cmp x y=true∨lt3 cmp y x=true:=h.imp fun h=>.inr h
  have key:∀x∈l,∀y∈l,x=y∨lt3 cmp x y=true∨lt3 cmp y x=true:=by
    clear h1 j r u h
    induction l with
    |nil=>intro x q;cases q
    |cons c l E=>
      obtain⟨hc,hl⟩:=List.pairwise_cons.1 C
      intro x q y D
      rcases List.mem_cons.1 q with f|f<;>rcases List.mem_cons.1 D with g|g
      · exact .inl (f.trans g.symm)
      · subst f;exact hc y g
      · subst g
        rcases hc x f with h|h|h
        · exact .inl h.symm
        · exact .inr (.inr h)
        · exact .inr (.inl h)
      · exact E hl x f y g
  rcases key a r b u with h|h|h
  · exact h
  · rw [h]at h1;cases h1
  · rw [h]at j;cases j
open Classical in
end
end Go.Dw
namespace Go.Dw
open Go.Proofs Go.Shelf Go.RowKit
section
variable {α:Type}
open Classical in
noncomputable def Cp (g:FuncId) (e:TypeId) (pd:α->PD) (cmp:α->α->Option Int):rO:=fun _ args bs=>
  match args,bs with
  | [.ref 0 0,.d (.raw (.func (.func j) ⟨[]⟩ ⟨[]⟩))],[.arr 0 f es]=>
    if j=g∧f=e then
      if h:∃r:List α×List α,es=r.1.map pd∧w3 cmp r.1=some r.2 then some (.tup [],[.arr 0 e (h.choose.2.map pd)])else none
    else none
  |_,_=>none
theorem sortD_of{f:FuncId}{g:FuncId}{e:TypeId}{pd:α->PD}{cmp:α->α->Option Int}(j:∀x y,pd x=pd y->x=y){l r:List α}(h:w3 cmp l=some r):
    Cp g e pd cmp f [.ref 0 0,.d (.raw (.func (.func g) #[] #[]))] [.arr 0 e (l.map pd)]=some (.tup [],[.arr 0 e (r.map pd)]):=by
  unfold Cp
  have u:∃q:List α×List α,l.map pd=q.1.map pd∧w3 cmp q.1=some q.2:=⟨(l,r),rfl,h⟩
  simp only [and_self,if_true]
  rw [dif_pos u]
  obtain⟨h1,C⟩:=u.choose_spec
  have D:l=u.choose.1:=(List.map_inj_right j).1 h1
  rw [<-D,h]at C
  cases C
  rfl
theorem sort_ev{P:Program}{H:Hints}{ext:FuncId->Option rO}{f g:FuncId}{e:TypeId}{pd:α->PD}{D:rO}(q:ext f=some D)
    {l r:List α} (j:D f [.ref 0 0,.d (.raw (.func (.func g) #[] #[]))] [.arr 0 e (l.map pd)]=some (.tup [],[.arr 0 e (r.map pd)])):
    EvP P H ext f [.ref 0 0,.d (.raw (.func (.func g) #[] #[]))] [.arr 0 e (l.map pd)] (.tup [],[.arr 0 e (r.map pd)]):=Ev.lib q j
end
def okC:PD->Bool
  | .bool _| .int _ _| .str _=>true
  |_=>false
def A3:PD->Value
  | .bool b=>.bool b
  | .int k n=>.int k n
  | .str s=>.string ⟨s.toArray⟩
  |_=>.bool false
theorem okC_V{S:rP}{p:PD}(h:okC p=true):V S p (A3 p):=by
  cases p<;>first|(cases h;done)|constructor
theorem okC_eq{S:rP}{p:PD}{v:Value}(h:okC p=true)(f:V S p v):v=A3 p:=by
  cases p<;>first|(cases h;done)|(cases f;rfl)
theorem Dj{p:PD}(h:okC p=true):(A3 p).oneCell'=true:=by
  cases p<;>first|(cases h;done)|rfl
section
variable {P:Program}{S:rP}{α:Type}{pd:α->PD}{k:Nat}
def wk(pd:α->PD)(x:α):List Value:=(pd x).cells.map A3
theorem Al(hk:∀x,(pd x).cells.length=k)(x:α){j:Nat}{c:PD}(h:(pd x).cells[j]? =some c):(wk pd x)[j]! =A3 c:=by
  unfold wk
  rw [List.getElem!_eq_getElem?_getD,EY,h]
  rfl
variable [Inhabited α]
theorem flat_is(hk:∀x,(pd x).cells.length=k)(f:∀x,(pd x).cells.all okC=true){l:List α}{xs:List Value}(hf:Flat S k (l.map pd) xs){t:Nat}(g:t<l.toArray.size*k):
    xs[t]? =some ((Sort.flatK (wk pd) k l.toArray)[t]!):=by
  have q:0<k:=by
                        rcases Fe k with h | h; · subst h; simp at g
                        · exact h
  rw [Sort.get_flatK _ _ _ t g]
  have h1:t / k<l.length:=by rw [Nat.div_lt_iff_lt_mul q];simpa using g
  have j:t%k<k:=EK _ q
  have C:(l.map pd)[t / k]? =some (pd l[t / k]):=by simp [h1]
  have hc:(pd l[t / k]).cells[t%k]? =some ((pd l[t / k]).cells[t%k]'(by rw [hk];exact j)):=by simp [hk,j]
  obtain⟨u,hu,r⟩:=hf.cell _ _ _ _ C hc
  rw [Nat.div_add_mod']at hu
  rw [hu]
  have:=okC_eq (List.all_eq_true.1 (f _) _ (D6 hc)) r
  rw [this]
  have e:l.toArray[t / k]! =l[t / k]:=by simp [h1]
  rw [e,Al hk _ hc]
theorem flat_mk(hk:∀x,(pd x).cells.length=k)(q:∀x,(pd x).cells.all okC=true)(d:Array α):Flat S k (d.toList.map pd) (Sort.flatK (wk pd) k d).toList:=by
  refine⟨fun e he=>?_,fun u hu=>?_,fun i e j x h1 g=>?_⟩
  · obtain⟨x, -,rfl⟩:=List.mem_map.1 he
    exact hk x
  · obtain⟨t,r,rfl⟩:=List.getElem_of_mem hu
    have f:t<d.size*k:=by simpa using r
    have E:0<k:=by
                          rcases Fe k with h | h; · subst h; simp at f
                          · exact h
    have:=Sort.get_flatK (wk pd) k d t f
    rw [getElem!_pos _ t (by simpa using f)]at this
    simp only [Array.getElem_toList]
    rw [this]
    have g:t%k<(pd d[t / k]!).cells.length:=by rw [hk];exact EK _ E
    rw [Al hk _ (zf g)]
    exact Dj (List.all_eq_true.1 (q _) _ (List.getElem_mem g))
  · simp only [EY,Option.map_eq_some_iff,Eg]at h1
    obtain⟨y,G,rfl⟩:=h1
    have hi:i<d.size:=(Array.getElem?_eq_some_iff.1 G).1
    have F:j<k:=by rw [<-hk y];exact(List.getElem?_eq_some_iff.1 g).1
    have r:i*k+j<d.size*k:=by
      calc i*k+j<i*k+k:=by omega
        _=(i+1)*k:=by rw [Nat.add_mul,Nat.one_mul]
        _<=d.size*k:=EB k hi
    have C:=Sort.get_flatK (wk pd) k d (i*k+j) r
    have E:0<k:=by omega
    have H:(i*k+j) / k=i:=by rw [EX i k,Nat.mul_add_div E,Nat.div_eq_of_lt F,Nat.add_zero]
    have I:(i*k+j)%k=j:=by rw [EX i k,Nat.mul_add_mod,Nat.mod_eq_of_lt F]
    rw [H,I,getElem!_pos _ _ (by simpa using r)]at C
    have D:d[i]! =y:=by rw [getElem!_pos d i hi];exact(Array.getElem?_eq_some_iff.1 G).2
    rw [D,Al hk _ g]at C
    refine⟨A3 x,?_,okC_V (List.all_eq_true.1 (q _) _ (D6 g))⟩
    rw [Eg,EM (by simpa using r)]
    exact congrArg some C
end
theorem grow_of{w w':World}(h:Frame True [] w w'):∃q os,w'=Sort.grow (w.drewN q) os:=by
  refine⟨w'.drawn-w.drawn,w'.heap.extract w.heap.size w'.heap.size,?_⟩
  have j:w'.heap=w.heap++w'.heap.extract w.heap.size w'.heap.size:=by
    apply Array.ext_getElem?
    intro i
    by_cases hi:i<w.heap.size
    · rw [h.block i hi zc,Array.getElem?_append_left hi]
    · rw [Array.getElem?_append_right za]
      simp only [Array.getElem?_extract]
      by_cases u:i<w'.heap.size
      · rw [if_pos za];congr 1;omega
      · rw [if_neg za];exact Ff za
  have r:=h.drawn trivial
  have h1:=h.os
  have f:=h.tape
  have g:=h.output
  obtain⟨heap,tape,drawn,os,output⟩:=w'
  simp only at j r h1 f g
  subst h1 f g
  unfold Sort.grow World.drewN
  simp only
  rw [<-j]
  have:w.drawn+(drawn-w.drawn)=drawn:=by omega
  rw [this]
theorem mem0(P:Program)(w:World):Mem P (fun _=>none) (look []) (look []) w:=
  ⟨(fun id j h=>by cases h),(fun id L h=>by cases h),(fun ad v h=>by cases h),(fun ad v h=>by cases h),(fun id L b h=>by cases h),(fun id f L g b h=>by cases h)⟩
section
variable {P:Program}{α:Type}{pd:α->PD}{k:Nat}
theorem cmp_lays [Inhabited α] {g:FuncId}{cmp:α->α->Option Int}(D:Enters P g)(u:∀x y,∃c,cmp x y=some c)(q:∀x,∃cs,pd x= .agg cs)(E:∀x,(pd x).cells.all okC=true)
    (r:∀x y c,cmp x y=some c->uC P ⟨fun _=>none,True,[]⟩ g [.d (pd x),.d (pd y)] [] (.d (.int .i64 c)) []) (j off size:Nat) (w:World):
    CmpLays P g #[] (wk pd) k (fun x y=>(cmp x y).getD 0) j off size w:=by
  intro m os G _ x y
  obtain⟨c,hc⟩:=u x y
  have hV:∀x,V (fun _=>none) (pd x) (.agg (wk pd x).toArray):=fun x=>by
    obtain⟨cs,C⟩:=q x
    have ho:=E x
    unfold wk
    rw [C]at ho⊢
    refine .agg cs _ (by simp [PD.cells]) fun i p v h1 f=>?_
    simp only [PD.cells,List.getElem?_toArray,EY,h1,Option.map_some,DJ]at f
    subst f
    exact okC_V (List.all_eq_true.1 ho _ (D6 h1))
  have h := r x y c hc (fun _ => none) (sortWorldK (wk pd) k w j off m G os) [] #[.agg (wk pd x).toArray, .agg (wk pd y).toArray] (mem0 P _) rfl (Sub.refl _) (fun x K => by cases K) rfl (fun i a v h1 f => by
    match i,h1,f with
    |0,h1,f=>cases h1;cases f;exact .d (hV x)
    |1,h1,f=>cases h1;cases f;exact .d (hV y)
    |i+2,h1,f=>cases h1)
  refine(h.calls D).mono ?_
  rintro e w' ⟨v,rfl,S',L,F⟩
  have J:v= .int .i64 c:=by
    have I:=F.res
    cases I with
    |d H=>cases H;rfl
  subst J
  refine⟨?_,grow_of F.frame⟩
  simp only [hc,Option.getD_some]
theorem AZ(F cur:Array Value)(h:F.size<=cur.size):(Sort.putCells id 0 F cur).toList.take F.size=F.toList:=by
  apply List.ext_getElem?
  intro i
  rw [DN]
  split
  · rename_i hi
    simp only [Eg,Sort.putCells,Array.getElem?_mapIdx]
    rw [EM za,Option.map_some,if_pos ⟨za,za⟩,Nat.sub_zero,getElem!_pos F i hi,EM hi]
    rfl
  · rename_i hi
    rw [Eg,Ff za]
theorem sort_ok{ρ:Go.Shelf.Ren}(L:SlLaysF0.n6 P ρ){g:FuncId}{e:TypeId}{cmp:α->α->Option Int}{base:xT}{f:FuncId}(hf:ρ.f 6=f)(ht:ρ.t 24=e)(b3:Enters P f)(c7:Enters P g)
    (eg:∀args w,(callFunc g args).run P w= .ok (.enter g args) w) (aE:∀w,(isAgg e).run P w= .ok true w) (zE:∀w,(sizeOf e).run P w= .ok k w) (c1:szT P e=some k) (hk:∀x,(pd x).cells.length=k)
    (a6:∀x,∃cs,pd x= .agg cs) (K:∀x,(pd x).cells.all okC=true)
    (b0:∀x y c,cmp x y=some c->uC P ⟨fun _=>none,True,[]⟩ g [.d (pd x),.d (pd y)] [] (.d (.int .i64 c)) [])
    (b6:uC P base f [.ref 0 0,.d (.raw (.func (.func g) #[] #[]))] [.arr 0 e []] (.tup []) [.arr 0 e []])
    (args:List RV) (bs:List Box) (r:RV) (Y:List Box) (h:Cp g e pd cmp f args bs=some (r,Y)) (c8:k≠1:=by decide):uC P base f args bs r Y:=by
  unfold Cp at h
  split at h
  · rename_i g' e' es
    split at h
    · rename_i b4
      obtain⟨rfl,rfl⟩:=b4
      split at h
      · rename_i hx
        obtain⟨h1,I⟩:=hx.choose_spec
        generalize hx.choose.1=l at h1 I
        generalize hx.choose.2=l' at h I
        simp only [DJ,Prod.mk.injEq]at h
        obtain⟨rfl,rfl⟩:=h
        subst h1
        cases l with
        |nil=>cases I;exact b6
        |cons a l=>
          rw [yk]at I
          split at I
          · rename_i hc
            letI:Inhabited α:=⟨a⟩
            obtain⟨⟨c3,hO⟩,a5⟩:=hc
            simp only [DJ]at I
            generalize hl:a::l=q at I a5⊢
            have hq:0<q.length:=by rw [<-hl];simp
            clear hl
            intro S w ls vs u hlen c5 d6 T N
            obtain⟨X,rfl⟩:∃X,ls=[X]:=by
              match ls,hlen with
              | [X],_=>exact⟨X,rfl⟩
            obtain⟨v0,v1,rfl⟩:∃v0 v1,vs= #[v0,v1]:=by
              obtain⟨k⟩:=vs
              match k,T with
              | [v0,v1],_=>exact⟨v0,v1,rfl⟩
            have a0:=N 0 _ v0 rfl rfl
            have a1:=N 1 _ v1 rfl rfl
            have a9:=u.tN (id:=0) rfl (L:=X) rfl
            cases a9 with
            |arr _ _ _ sz hdr xs O how c6=>
            rw [c1]at O
            cases O
            have d2:v0=hdr:=by
              cases a0 with
              |ref _ _ _ L1 ho W hh=>cases W;exact(hh _ _ _ _ .arr).2 rfl
            have d3:v1= .func (.func g') #[] #[]:=by
              cases a1 with
              |d hh=>cases hh;rfl
            subst d2 d3
            have G:=(how.v8 (by simpa using hq)).v8 c8
            obtain⟨d5,G⟩:=G
            rcases G with⟨-,h0⟩|⟨C,cap,cur,rfl, -,j,F,b5,b1,H⟩
            · simp at h0;simp [h0]at hq
            have d1:(q.map pd).length=q.length:=by simp
            rw [d1]at F H d5
            have hblk:C<w.heap.size:=(Array.getElem?_eq_some_iff.1 j).1
            have hH:Sort.HoldsK (wk pd) k w C 0 q.toArray:=by
              intro t ht
              have c2:t<q.toArray.size*k:=by simpa using ht
              have e1:=flat_is hk K c6 c2
              refine⟨?_,?_⟩
              · rw [World.cell?,j]
                simp only [Nat.zero_add,Option.isSome_none,Bool.false_eq_true,if_false,id]
                rw [<-e1, <-H,DN,if_pos (by simpa using c2),Eg]
              · rw [World.frozen?,j]
                simp
            have Q := AnyQ.slices_SortFunc_eq L k (by rw [ht]; exact aE) (by rw [ht]; exact zE) (wk pd) (by intro x; simp [wk, hk]) (by
                intro x v hv
                obtain⟨p,hp,rfl⟩:=List.mem_map.1 hv
                exact Dj (List.all_eq_true.1 (K x) _ hp)) (fun x y=>(cmp x y).getD 0) hO g' #[] C 0 cap q.toArray w eg
              (cmp_lays c7 c3 a6 K b0 C 0 _ w) hH hblk (by simpa using a5)
            rw [hf]at Q
            refine .inl ⟨b3,?_⟩
            simp only [List.length_map]at u⊢
            rw [show q.toArray.size=q.length by simp]at Q
            refine Q.mono ?_
            rintro e w' ⟨rfl,n,os,D⟩
            have hd:(Sort.pdq (ltOf fun x y=>(cmp x y).getD 0) q.toArray 0 q.length (Lib.bitLen q.length) true true).toList=l':=I
            have c0:=Sort.pdq_sorts (lt3 cmp) hO q.toArray 0 q.length (Lib.bitLen q.length) true true (DR _) zc (.inl rfl)
            have J:(Sort.pdq (ltOf fun x y=>(cmp x y).getD 0) q.toArray 0 q.length (Lib.bitLen q.length) true true).size=q.length:=by
              have h1:(Sort.pdq (lt3 cmp) q.toArray 0 q.length (Lib.bitLen q.length) true true).size=q.length:=by simpa using c0.1.1
              exact h1
            generalize Sort.pdq (ltOf fun x y=>(cmp x y).getD 0) q.toArray 0 q.length (Lib.bitLen q.length) true true=d' at hd J D
            clear c0
            subst hd
            have b2:(Sort.flatK (wk pd) k d').size<=cur.size:=by
              simp only [Sort.size_flatK,J,b1]
              exact EB k F
            have c4:∀b,b<w.heap.size->b≠C->w'.heap[b]? =w.heap[b]? :=fun b E d0=>by
              rw [D,sortWorldK,Sort.heap_grow_old _ _ (by simpa [Sort.putRowK]using E)]
              simp only [Sort.putRowK,Sort.putRow,Sort.mapBlock,Fg]
              rw [if_neg (fun h=>d0 h.symm)]
              rfl
            have d4:w'.heap[C]? =some (.cells (Sort.putCells id 0 (Sort.flatK (wk pd) k d') cur) e' (0,0)):=by
              rw [D,sortWorldK,Sort.heap_grow_old _ _ (by simpa [Sort.putRowK]using hblk)]
              simp only [Sort.putRowK,Sort.putRow,Sort.mapBlock,Fg,if_true,Sort.heap_ahead,j,Option.map_some,Sort.onCells]
            have U:w.heap.size<=w'.heap.size:=by
              rw [D,sortWorldK,Sort.size_grow]
              simp [Sort.putRowK]
            refine⟨.tuple #[],rfl,S,[.arr 0 e' k (.slice (some ⟨C,0,none⟩) q.length cap)],rfl,Nat.le_refl _,Sub.refl S,?_,fun ad v hh=>.inl hh,rT.refl _,fun i L b W E=>.inl ?_,?_,?_⟩
            · refine⟨fun ii bx E=>?_,fun ii L W=>?_,fun ad v hS=>?_,u.vN,u.uM,u.inj⟩
              · match ii,E with
                |0,E=>
                  cases E
                  refine⟨_,rfl,.arr 0 e' _ k _ (Sort.flatK (wk pd) k d').toList c1 (.inl ⟨zc,.inr ⟨C,cap,Sort.putCells id 0 (Sort.flatK (wk pd) k d') cur,(0,0),?_,.inl rfl,d4,?_,b5,?_,?_⟩⟩) (flat_mk hk K d')⟩
                  · simp [J]
                  · simp [J];exact F
                  · simp [Sort.putCells,b1]
                  · have:=AZ (Sort.flatK (wk pd) k d') cur b2
                    simpa using this
              · match ii,W with
                |0,W=>exact⟨_,rfl⟩
              · have hc:=u.imm ad v hS
                by_cases E:ad.block=C
                · obtain⟨b,o,sp⟩:=ad
                  simp only at E
                  subst E
                  cases sp with
                  |none=>
                    have := u.uM 0 _ b rfl (by cases cap with
                      |zero=>omega
                      |succ c=>rfl) o
                    rw [this]at hS;cases hS
                  |some s=>simp [World.cell?,j]at hc
                · rw [ue (c4 ad.block (wA hc) E)]
                  exact hc
            · rw [wj]
              exact⟨i,L,W,E⟩
            · refine⟨by rw [D];rfl,by rw [D];rfl,by rw [D];rfl,U,fun b E hn=>c4 b E fun he=>hn ?_,fun _=>by rw [D];exact Nat.le_add_right _ _⟩
              subst he
              rw [wj]
              refine⟨0,_,rfl,?_⟩
              cases cap with
              |zero=>omega
              |succ c=>rfl
            · exact .tup [] #[] rfl (fun i c v h=>by cases h)
          · cases I
      · cases h
    · cases h
  · cases h
end
theorem Ap(P:Program)(base:xT):ExtOk P base (fun _=>none):=fun f g h=>by cases h
end Go.Dw
