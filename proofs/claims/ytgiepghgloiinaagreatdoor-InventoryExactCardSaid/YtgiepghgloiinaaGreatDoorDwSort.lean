
import Derived.Test.YtgiepghgloiinaaGreatDoorDwPlain
import Derived.Test.YtgiepghgloiinaaGreatDoorDwLift4
import Derived.Lib.BitFns
import Derived.Test.YtgiepghgloiinaaGreatDoorDwClone
import Derived.Shelf.SlSortCmp.WholeK
open Nat renaming eq_zero_or_pos->CF, mod_lt->Ai, mul_comm->Au, mul_le_mul_right->A9, zero_le->AL
open List renaming getElem?_map->Av, getElem?_take->AH, mem_of_getElem?->A1
open Array renaming getElem?_eq_getElem->Ak, getElem?_eq_none->CG, getElem?_modify->Bi, getElem?_toList->BL
open Option.some renaming injEq->AD

namespace Go.Dw
open Go.Proofs
section
variable {α:Type}
def lt3(cmp:α->α->Option Int)(x y:α):Bool:=decide ((cmp x y).getD 0<0)
def CmpOk(cmp:α->α->Option Int):Prop:=(∀x y,∃c,cmp x y=some c)∧Sort.SWO (lt3 cmp)
open Classical in
noncomputable def pK (cmp:α->α->Option Int):List α->Option (List α)
  | []=>some []
  |a::l=>if CmpOk cmp∧(a::l).length<4611686018427387904 then
      haveI:Inhabited α:=⟨a⟩
      some (Sort.pdq (lt3 cmp) (a::l).toArray 0 (a::l).length (Lib.bitLen (a::l).length) true true).toList
    else none
open Classical in
theorem oH(cmp:α->α->Option Int)(a:α)(l:List α):pK cmp (a::l)=if CmpOk cmp∧(a::l).length<4611686018427387904 then
      haveI:Inhabited α:=⟨a⟩
      some (Sort.pdq (lt3 cmp) (a::l).toArray 0 (a::l).length (Lib.bitLen (a::l).length) true true).toList
    else none:=rfl
theorem w8{cmp:α->α->Option Int}{l r:List α}(h:pK cmp l=some r):r.Perm l:=by
  cases l with
  |nil=>cases h;exact .nil
  |cons a l=>
    rw [oH]at h
    split at h
    · rename_i hc
      cases h
      letI:Inhabited α:=⟨a⟩
      have:=Sort.pdq_sorts (lt3 cmp) hc.1.2 (a::l).toArray 0 (a::l).length (Lib.bitLen (a::l).length) true true (AL _) sm (.inl rfl)
      obtain⟨e, -,c⟩:=this.1
      have b:∀d:Array α,d.size=(a::l).length->d.extract 0 (a::l).length=d:=fun d hd=>by rw [<-hd];simp
      rw [b _ (by simpa using e),b _ sm]at c
      exact c
    · cases h
def Apart(cmp:α->α->Option Int)(l:List α):Prop:=l.Pairwise fun x y=>lt3 cmp x y=true∨lt3 cmp y x=true
theorem Apart.eq{cmp:α->α->Option Int}{l:List α}(h:Apart cmp l){a b:α}(j:a∈l)(hb:b∈l)(h1:lt3 cmp a b=false)(g:lt3 cmp b a=false):a=b:=by
  have m:l.Pairwise fun x y=>x=y∨lt3 cmp x y=true∨lt3 cmp y x=true:=h.imp fun h=>.inr h
  have key:∀x∈l,∀y∈l,x=y∨lt3 cmp x y=true∨lt3 cmp y x=true:=by
    clear h1 g j hb h
    induction l with
    |nil=>intro x i;cases i
    |cons c l o=>
      obtain⟨hc,hl⟩:=List.pairwise_cons.1 m
      intro x i y n
      rcases List.mem_cons.1 i with e|e<;>rcases List.mem_cons.1 n with f|f
      · exact .inl (e.trans f.symm)
      · subst e;exact hc y f
      · subst f
        rcases hc x e with h|h|h
        · exact .inl h.symm
        · exact .inr (.inr h)
        · exact .inr (.inl h)
      · exact o hl x e y f
  rcases key a j b hb with h|h|h
  · exact h
  · rw [h]at h1;cases h1
  · rw [h]at g;cases g
open Classical in
end
end Go.Dw
namespace Go.Dw
open Go.Proofs Go.Shelf Go.RowKit
section
variable {α:Type}
open Classical in
noncomputable def wm (g:FuncId) (e:TypeId) (pd:α->PD) (cmp:α->α->Option Int):ko:=fun _ args bs=>
  match args,bs with
  | [.ref 0 0,.d (.raw (.func (.func b) ⟨[]⟩ ⟨[]⟩))],[.arr 0 a es]=>
    if b=g∧a=e then
      if h:∃r:List α×List α,es=r.1.map pd∧pK cmp r.1=some r.2 then some (.tup [],[.arr 0 e (h.choose.2.map pd)])else none
    else none
  |_,_=>none
theorem sortD_of{f:FuncId}{g:FuncId}{e:TypeId}{pd:α->PD}{cmp:α->α->Option Int}(a:∀x y,pd x=pd y->x=y){l r:List α}(h:pK cmp l=some r):
    wm g e pd cmp f [.ref 0 0,.d (.raw (.func (.func g) #[] #[]))] [.arr 0 e (l.map pd)]=some (.tup [],[.arr 0 e (r.map pd)]):=by
  unfold wm
  have b:∃q:List α×List α,l.map pd=q.1.map pd∧pK cmp q.1=some q.2:=⟨(l,r),rfl,h⟩
  simp only [and_self,if_true]
  rw [dif_pos b]
  obtain⟨h1,c⟩:=b.choose_spec
  have i:l=b.choose.1:=(List.map_inj_right a).1 h1
  rw [<-i,h]at c
  cases c
  rfl
theorem sort_ev{P:Program}{H:Hints}{ext:FuncId->Option ko}{f g:FuncId}{e:TypeId}{pd:α->PD}{D:ko}(b:ext f=some D)
    {l r:List α} (a:D f [.ref 0 0,.d (.raw (.func (.func g) #[] #[]))] [.arr 0 e (l.map pd)]=some (.tup [],[.arr 0 e (r.map pd)])):
    EvP P H ext f [.ref 0 0,.d (.raw (.func (.func g) #[] #[]))] [.arr 0 e (l.map pd)] (.tup [],[.arr 0 e (r.map pd)]):=Ev.lib b a
end
def okC:PD->Bool
  | .bool _| .int _ _| .str _=>true
  |_=>false
def tZ:PD->Value
  | .bool b=>.bool b
  | .int k n=>.int k n
  | .str s=>.string ⟨s.toArray⟩
  |_=>.bool false
theorem okC_V{S:kd}{p:PD}(h:okC p=true):V S p (tZ p):=by
  cases p<;>first|(cases h;done)|constructor
theorem okC_eq{S:kd}{p:PD}{v:Value}(h:okC p=true)(a:V S p v):v=tZ p:=by
  cases p<;>first|(cases h;done)|(cases a;rfl)
theorem xl{p:PD}(h:okC p=true):(tZ p).oneCell'=true:=by
  cases p<;>first|(cases h;done)|rfl
section
variable {P:Program}{S:kd}{α:Type}{pd:α->PD}{k:Nat}
def n9(pd:α->PD)(x:α):List Value:=(pd x).cells.map tZ
theorem sQ(hk:∀x,(pd x).cells.length=k)(x:α){j:Nat}{c:PD}(h:(pd x).cells[j]? =some c):(n9 pd x)[j]! =tZ c:=by
  unfold n9
  rw [List.getElem!_eq_getElem?_getD,Av,h]
  rfl
variable [Inhabited α]
theorem flat_is(hk:∀x,(pd x).cells.length=k)(a:∀x,(pd x).cells.all okC=true){l:List α}{xs:List Value}(hf:Flat S k (l.map pd) xs){t:Nat}(ht:t<l.toArray.size*k):
    xs[t]? =some ((Sort.flatK (n9 pd) k l.toArray)[t]!):=by
  have c:0<k:=by
                        rcases CF k with h | h; · subst h; simp at ht
                        · exact h
  rw [Sort.get_flatK _ _ _ t ht]
  have h1:t / k<l.length:=by rw [Nat.div_lt_iff_lt_mul c];simpa using ht
  have b:t%k<k:=Ai _ c
  have g:(l.map pd)[t / k]? =some (pd l[t / k]):=by simp [h1]
  have hc:(pd l[t / k]).cells[t%k]? =some ((pd l[t / k]).cells[t%k]'(by rw [hk];exact b)):=by simp [hk,b]
  obtain⟨u,hu,f⟩:=hf.cell _ _ _ _ g hc
  rw [Nat.div_add_mod']at hu
  rw [hu]
  have:=okC_eq (List.all_eq_true.1 (a _) _ (A1 hc)) f
  rw [this]
  have e:l.toArray[t / k]! =l[t / k]:=by simp [h1]
  rw [e,sQ hk _ hc]
theorem flat_mk(hk:∀x,(pd x).cells.length=k)(c:∀x,(pd x).cells.all okC=true)(d:Array α):Flat S k (d.toList.map pd) (Sort.flatK (n9 pd) k d).toList:=by
  refine⟨fun e he=>?_,fun u hu=>?_,fun i e j x h1 b=>?_⟩
  · obtain⟨x, -,rfl⟩:=List.mem_map.1 he
    exact hk x
  · obtain⟨t,ht,rfl⟩:=List.getElem_of_mem hu
    have a:t<d.size*k:=by simpa using ht
    have l:0<k:=by
                          rcases CF k with h | h; · subst h; simp at a
                          · exact h
    have:=Sort.get_flatK (n9 pd) k d t a
    rw [getElem!_pos _ t (by simpa using a)]at this
    simp only [Array.getElem_toList]
    rw [this]
    have b:t%k<(pd d[t / k]!).cells.length:=by rw [hk];exact Ai _ l
    rw [sQ hk _ (zc b)]
    exact xl (List.all_eq_true.1 (c _) _ (List.getElem_mem b))
  · simp only [Av,Option.map_eq_some_iff,BL]at h1
    obtain⟨y,n,rfl⟩:=h1
    have hi:i<d.size:=(Array.getElem?_eq_some_iff.1 n).1
    have m:j<k:=by rw [<-hk y];exact(List.getElem?_eq_some_iff.1 b).1
    have ht:i*k+j<d.size*k:=by
      calc i*k+j<i*k+k:=by omega
        _=(i+1)*k:=by rw [Nat.add_mul,Nat.one_mul]
        _<=d.size*k:=A9 k hi
    have f:=Sort.get_flatK (n9 pd) k d (i*k+j) ht
    have l:0<k:=by omega
    have o:(i*k+j) / k=i:=by rw [Au i k,Nat.mul_add_div l,Nat.div_eq_of_lt m,Nat.add_zero]
    have p:(i*k+j)%k=j:=by rw [Au i k,Nat.mul_add_mod,Nat.mod_eq_of_lt m]
    rw [o,p,getElem!_pos _ _ (by simpa using ht)]at f
    have g:d[i]! =y:=by rw [getElem!_pos d i hi];exact(Array.getElem?_eq_some_iff.1 n).2
    rw [g,sQ hk _ b]at f
    refine⟨tZ x,?_,okC_V (List.all_eq_true.1 (c _) _ (A1 b))⟩
    rw [BL,Ak (by simpa using ht)]
    exact congrArg some f
end
theorem grow_of{w w':World}(h:Frame True [] w w'):∃q os,w'=Sort.grow (w.drewN q) os:=by
  refine⟨w'.drawn-w.drawn,w'.heap.extract w.heap.size w'.heap.size,?_⟩
  have c:w'.heap=w.heap++w'.heap.extract w.heap.size w'.heap.size:=by
    apply Array.ext_getElem?
    intro i
    by_cases hi:i<w.heap.size
    · rw [h.block i hi sm,Array.getElem?_append_left hi]
    · rw [Array.getElem?_append_right om]
      simp only [Array.getElem?_extract]
      by_cases e:i<w'.heap.size
      · rw [if_pos om];congr 1;omega
      · rw [if_neg om];exact CG om
  have hd:=h.drawn trivial
  have h1:=h.os
  have a:=h.tape
  have b:=h.output
  obtain⟨heap,tape,drawn,os,output⟩:=w'
  simp only at c hd h1 a b
  subst h1 a b
  unfold Sort.grow World.drewN
  simp only
  rw [<-c]
  have:w.drawn+(drawn-w.drawn)=drawn:=by omega
  rw [this]
theorem mem0(P:Program)(w:World):Mem P (fun _=>none) (look []) (look []) w:=
  ⟨(fun id e h=>by cases h),(fun id L h=>by cases h),(fun ad v h=>by cases h),(fun ad v h=>by cases h),(fun id L b h=>by cases h),(fun id a L c b h=>by cases h)⟩
section
variable {P:Program}{α:Type}{pd:α->PD}{k:Nat}
theorem cmp_lays [Inhabited α] {g:FuncId}{cmp:α->α->Option Int}(q:Enters P g)(n:∀x y,∃c,cmp x y=some c)(j:∀x,∃cs,pd x= .agg cs)(r:∀x,(pd x).cells.all okC=true)
    (l:∀x y c,cmp x y=some c->nj P ⟨fun _=>none,True,[]⟩ g [.d (pd x),.d (pd y)] [] (.d (.int .i64 c)) []) (f off size:Nat) (w:World):
    CmpLays P g #[] (n9 pd) k (fun x y=>(cmp x y).getD 0) f off size w:=by
  intro m os t _ x y
  obtain⟨c,hc⟩:=n x y
  have hV:∀x,V (fun _=>none) (pd x) (.agg (n9 pd x).toArray):=fun x=>by
    obtain⟨cs,o⟩:=j x
    have ho:=r x
    unfold n9
    rw [o]at ho⊢
    refine .agg cs _ (by simp [PD.cells]) fun i p v h1 b=>?_
    simp only [PD.cells,List.getElem?_toArray,Av,h1,Option.map_some,AD]at b
    subst b
    exact okC_V (List.all_eq_true.1 ho _ (A1 h1))
  have h := l x y c hc (fun _ => none) (sortWorldK (n9 pd) k w f off m t os) [] #[.agg (n9 pd x).toArray, .agg (n9 pd y).toArray] (mem0 P _) rfl (Sub.refl _) (fun x C => by cases C) rfl (fun i a v h1 b => by
    match i,h1,b with
    |0,h1,b=>cases h1;cases b;exact .d (hV x)
    |1,h1,b=>cases h1;cases b;exact .d (hV y)
    |i+2,h1,b=>cases h1)
  refine(h.calls q).mono ?_
  rintro e w' ⟨v,rfl,S',D,s⟩
  have B:v= .int .i64 c:=by
    have z:=s.res
    cases z with
    |d u=>cases u;rfl
  subst B
  refine⟨?_,grow_of s.frame⟩
  simp only [hc,Option.getD_some]
theorem tR(F cur:Array Value)(h:F.size<=cur.size):(Sort.putCells id 0 F cur).toList.take F.size=F.toList:=by
  apply List.ext_getElem?
  intro i
  rw [AH]
  split
  · rename_i hi
    simp only [BL,Sort.putCells,Array.getElem?_mapIdx]
    rw [Ak om,Option.map_some,if_pos ⟨om,om⟩,Nat.sub_zero,getElem!_pos F i hi,Ak hi]
    rfl
  · rename_i hi
    rw [BL,CG om]
theorem sort_ok{ρ:Go.Shelf.Ren}(L:SlLaysF0.n6 P ρ){g:FuncId}{e:TypeId}{cmp:α->α->Option Int}{base:qc}{f:FuncId}(hf:ρ.f 6=f)(ht:ρ.t 24=e)(b0:Enters P f)(c4:Enters P g)
    (eg:∀args w,(callFunc g args).run P w= .ok (.enter g args) w) (aE:∀w,(isAgg e).run P w= .ok true w) (zE:∀w,(sizeOf e).run P w= .ok k w) (hsz:szT P e=some k) (hk:∀x,(pd x).cells.length=k)
    (X:∀x,∃cs,pd x= .agg cs) (G:∀x,(pd x).cells.all okC=true)
    (a4:∀x y c,cmp x y=some c->nj P ⟨fun _=>none,True,[]⟩ g [.d (pd x),.d (pd y)] [] (.d (.int .i64 c)) [])
    (b3:nj P base f [.ref 0 0,.d (.raw (.func (.func g) #[] #[]))] [.arr 0 e []] (.tup []) [.arr 0 e []])
    (args:List RV) (bs:List Box) (r:RV) (U:List Box) (h:wm g e pd cmp f args bs=some (r,U)) (c5:k≠1:=by decide):nj P base f args bs r U:=by
  unfold wm at h
  split at h
  · rename_i g' e' es
    split at h
    · rename_i b1
      obtain⟨rfl,rfl⟩:=b1
      split at h
      · rename_i hx
        obtain⟨h1,E⟩:=hx.choose_spec
        generalize hx.choose.1=l at h1 E
        generalize hx.choose.2=l' at h E
        simp only [AD,Prod.mk.injEq]at h
        obtain⟨rfl,rfl⟩:=h
        subst h1
        cases l with
        |nil=>cases E;exact b3
        |cons a l=>
          rw [oH]at E
          split at E
          · rename_i hc
            letI:Inhabited α:=⟨a⟩
            obtain⟨⟨c0,hO⟩,W⟩:=hc
            simp only [AD]at E
            generalize hl:a::l=q at E W⊢
            have hq:0<q.length:=by rw [<-hl];simp
            clear hl
            intro S w ls vs m hlen c2 d2 K H
            obtain⟨T,rfl⟩:∃T,ls=[T]:=by
              match ls,hlen with
              | [T],_=>exact⟨T,rfl⟩
            obtain⟨v0,v1,rfl⟩:∃v0 v1,vs= #[v0,v1]:=by
              obtain⟨k⟩:=vs
              match k,K with
              | [v0,v1],_=>exact⟨v0,v1,rfl⟩
            have a0:=H 0 _ v0 rfl rfl
            have a1:=H 1 _ v1 rfl rfl
            have Y:=m.lE (id:=0) rfl (L:=T) rfl
            cases Y with
            |arr _ _ _ sz hdr xs I how c3=>
            rw [hsz]at I
            cases I
            have c8:v0=hdr:=by
              cases a0 with
              |ref _ _ _ L1 ho Q hh=>cases Q;exact(hh _ _ _ _ .arr).2 rfl
            have c9:v1= .func (.func g') #[] #[]:=by
              cases a1 with
              |d hh=>cases hh;rfl
            subst c8 c9
            have C:=(how.nm (by simpa using hq)).nm c5
            obtain⟨d1,C⟩:=C
            rcases C with⟨-,h0⟩|⟨u,cap,cur,rfl, -,j,B,b2,a5,D⟩
            · simp at h0;simp [h0]at hq
            have c7:(q.map pd).length=q.length:=by simp
            rw [c7]at B D d1
            have hblk:u<w.heap.size:=(Array.getElem?_eq_some_iff.1 j).1
            have hH:Sort.HoldsK (n9 pd) k w u 0 q.toArray:=by
              intro t ht
              have b5:t<q.toArray.size*k:=by simpa using ht
              have e1:=flat_is hk G c3 b5
              refine⟨?_,?_⟩
              · rw [World.cell?,j]
                simp only [Nat.zero_add,Option.isSome_none,Bool.false_eq_true,if_false,id]
                rw [<-e1, <-D,AH,if_pos (by simpa using b5),BL]
              · rw [World.frozen?,j]
                simp
            have J := AnyQ.slices_SortFunc_eq L k (by rw [ht]; exact aE) (by rw [ht]; exact zE) (n9 pd) (by intro x; simp [n9, hk]) (by
                intro x v hv
                obtain⟨p,hp,rfl⟩:=List.mem_map.1 hv
                exact xl (List.all_eq_true.1 (G x) _ hp)) (fun x y=>(cmp x y).getD 0) hO g' #[] u 0 cap q.toArray w eg
              (cmp_lays c4 c0 X G a4 u 0 _ w) hH hblk (by simpa using W)
            rw [hf]at J
            refine .inl ⟨b0,?_⟩
            simp only [List.length_map]at m⊢
            rw [show q.toArray.size=q.length by simp]at J
            refine J.mono ?_
            rintro e w' ⟨rfl,n,os,z⟩
            have hd:(Sort.pdq (ltOf fun x y=>(cmp x y).getD 0) q.toArray 0 q.length (Lib.bitLen q.length) true true).toList=l':=E
            have b4:=Sort.pdq_sorts (lt3 cmp) hO q.toArray 0 q.length (Lib.bitLen q.length) true true (AL _) sm (.inl rfl)
            have F:(Sort.pdq (ltOf fun x y=>(cmp x y).getD 0) q.toArray 0 q.length (Lib.bitLen q.length) true true).size=q.length:=by
              have h1:(Sort.pdq (lt3 cmp) q.toArray 0 q.length (Lib.bitLen q.length) true true).size=q.length:=by simpa using b4.1.1
              exact h1
            generalize Sort.pdq (ltOf fun x y=>(cmp x y).getD 0) q.toArray 0 q.length (Lib.bitLen q.length) true true=O at hd F z
            clear b4
            subst hd
            have a9:(Sort.flatK (n9 pd) k O).size<=cur.size:=by
              simp only [Sort.size_flatK,F,a5]
              exact A9 k B
            have c1:∀b,b<w.heap.size->b≠u->w'.heap[b]? =w.heap[b]? :=fun b hb c6=>by
              rw [z,sortWorldK,Sort.heap_grow_old _ _ (by simpa [Sort.putRowK]using hb)]
              simp only [Sort.putRowK,Sort.putRow,Sort.mapBlock,Bi]
              rw [if_neg (fun h=>c6 h.symm)]
              rfl
            have d0:w'.heap[u]? =some (.cells (Sort.putCells id 0 (Sort.flatK (n9 pd) k O) cur) e' (0,0)):=by
              rw [z,sortWorldK,Sort.heap_grow_old _ _ (by simpa [Sort.putRowK]using hblk)]
              simp only [Sort.putRowK,Sort.putRow,Sort.mapBlock,Bi,if_true,Sort.heap_ahead,j,Option.map_some,Sort.onCells]
            have N:w.heap.size<=w'.heap.size:=by
              rw [z,sortWorldK,Sort.size_grow]
              simp [Sort.putRowK]
            refine⟨.tuple #[],rfl,S,[.arr 0 e' k (.slice (some ⟨u,0,none⟩) q.length cap)],rfl,Nat.le_refl _,Sub.refl S,?_,fun ad v hh=>.inl hh,kb.refl _,fun i L b Q hb=>.inl ?_,?_,?_⟩
            · refine⟨fun ii bx hb=>?_,fun ii L Q=>?_,fun ad v hS=>?_,m.nA,m.mr,m.inj⟩
              · match ii,hb with
                |0,hb=>
                  cases hb
                  refine⟨_,rfl,.arr 0 e' _ k _ (Sort.flatK (n9 pd) k O).toList hsz (.inl ⟨sm,.inr ⟨u,cap,Sort.putCells id 0 (Sort.flatK (n9 pd) k O) cur,(0,0),?_,.inl rfl,d0,?_,b2,?_,?_⟩⟩) (flat_mk hk G O)⟩
                  · simp [F]
                  · simp [F];exact B
                  · simp [Sort.putCells,a5]
                  · have:=tR (Sort.flatK (n9 pd) k O) cur a9
                    simpa using this
              · match ii,Q with
                |0,Q=>exact⟨_,rfl⟩
              · have hc:=m.imm ad v hS
                by_cases hb:ad.block=u
                · obtain⟨b,o,sp⟩:=ad
                  simp only at hb
                  subst hb
                  cases sp with
                  |none=>
                    have := m.mr 0 _ b rfl (by cases cap with
                      |zero=>omega
                      |succ c=>rfl) o
                    rw [this]at hS;cases hS
                  |some s=>simp [World.cell?,j]at hc
                · rw [mV (c1 ad.block (qf hc) hb)]
                  exact hc
            · rw [qd]
              exact⟨i,L,Q,hb⟩
            · refine⟨by rw [z];rfl,by rw [z];rfl,by rw [z];rfl,N,fun b hb hn=>c1 b hb fun he=>hn ?_,fun _=>by rw [z];exact Nat.le_add_right _ _⟩
              subst he
              rw [qd]
              refine⟨0,_,rfl,?_⟩
              cases cap with
              |zero=>omega
              |succ c=>rfl
            · exact .tup [] #[] rfl (fun i c v h=>by cases h)
          · cases E
      · cases h
    · cases h
  · cases h
end
theorem vM(P:Program)(base:qc):ExtOk P base (fun _=>none):=fun f g h=>by cases h
end Go.Dw
