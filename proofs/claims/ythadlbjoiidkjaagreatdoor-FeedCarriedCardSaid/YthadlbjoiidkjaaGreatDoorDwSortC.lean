
import Derived.Test.YthadlbjoiidkjaaGreatDoorDwPlain
import Derived.Test.YthadlbjoiidkjaaGreatDoorDwLift4
import Derived.Lib.BitFns
import Derived.Test.YthadlbjoiidkjaaGreatDoorDwJoin
import Derived.Shelf.SlSortCmp.WholeK
import Derived.Test.YthadlbjoiidkjaaGreatDoorDwLe

namespace Go.Dw
open Go.Proofs
section
variable {α:Type}
def lt3(cmp:α->α->Option Int)(x y:α):Bool:=decide ((cmp x y).getD 0<0)
def zO(cmp:α->α->Option Int):Prop:=(∀x y,∃c,cmp x y=some c)∧Sort.SWO (lt3 cmp)
open Classical in
noncomputable def vo (cmp:α->α->Option Int):List α->Option (List α)
  | []=>some []
  |a::l=>if zO cmp∧(a::l).length<4611686018427387904 then
      haveI:Inhabited α:=⟨a⟩
      some (Sort.pdq (lt3 cmp) (a::l).toArray 0 (a::l).length (Lib.bitLen (a::l).length) true true).toList
    else none
open Classical in
theorem sx(cmp:α->α->Option Int)(a:α)(l:List α):vo cmp (a::l)=if zO cmp∧(a::l).length<4611686018427387904 then
      haveI:Inhabited α:=⟨a⟩
      some (Sort.pdq (lt3 cmp) (a::l).toArray 0 (a::l).length (Lib.bitLen (a::l).length) true true).toList
    else none:=rfl
theorem yy{cmp:α->α->Option Int}{l r:List α}(h:vo cmp l=some r):r.Perm l:=by
  cases l with
  |nil=>cases h;exact .nil
  |cons a l=>
    rw [sx]at h
    split at h
    · rename_i hc
      cases h
      letI:Inhabited α:=⟨a⟩
      have:=Sort.pdq_sorts (lt3 cmp) hc.1.2 (a::l).toArray 0 (a::l).length (Lib.bitLen (a::l).length) true true (Nat.zero_le _) sm (.inl rfl)
      obtain⟨hs, -,hp⟩:=this.1
      have e1:∀d:Array α,d.size=(a::l).length->d.extract 0 (a::l).length=d:=fun d hd=>by rw [<-hd];simp
      rw [e1 _ (by simpa using hs),e1 _ sm]at hp
      exact hp
    · cases h
def Apart(cmp:α->α->Option Int)(l:List α):Prop:=l.Pairwise fun x y=>lt3 cmp x y=true∨lt3 cmp y x=true
theorem Apart.eq{cmp:α->α->Option Int}{l:List α}(h:Apart cmp l){a b:α}(ha:a∈l)(hb:b∈l)(h1:lt3 cmp a b=false)(h2:lt3 cmp b a=false):a=b:=by
  have h':l.Pairwise fun x y=>x=y∨lt3 cmp x y=true∨lt3 cmp y x=true:=h.imp fun h=>.inr h
  have key:∀x∈l,∀y∈l,x=y∨lt3 cmp x y=true∨lt3 cmp y x=true:=by
    clear h1 h2 ha hb h
    induction l with
    |nil=>intro x hx;cases hx
    |cons c l ih=>
      obtain⟨hc,hl⟩:=List.pairwise_cons.1 h'
      intro x hx y hy
      rcases List.mem_cons.1 hx with hx'|hx'<;>rcases List.mem_cons.1 hy with hy'|hy'
      · exact .inl (hx'.trans hy'.symm)
      · subst hx';exact hc y hy'
      · subst hy'
        rcases hc x hx' with h|h|h
        · exact .inl h.symm
        · exact .inr (.inr h)
        · exact .inr (.inl h)
      · exact ih hl x hx' y hy'
  rcases key a ha b hb with h|h|h
  · exact h
  · rw [h]at h1;cases h1
  · rw [h]at h2;cases h2
open Classical in
end
end Go.Dw
namespace Go.Dw
open Go.Proofs Go.Shelf Go.RowKit
section
variable {α:Type}
open Classical in
noncomputable def Ay (g:FuncId) (e:TypeId) (pd:α->PD) (cmp:α->α->Option Int):pT:=fun _ args bs=>
  match args,bs with
  | [.ref 0 0,.d (.raw (.func (.func g') ⟨[]⟩ ⟨[]⟩))],[.arr 0 e' es]=>
    if g'=g∧e'=e then
      if h:∃r:List α×List α,es=r.1.map pd∧vo cmp r.1=some r.2 then some (.tup [],[.arr 0 e (h.choose.2.map pd)])else none
    else none
  |_,_=>none
theorem sortD_of{f:FuncId}{g:FuncId}{e:TypeId}{pd:α->PD}{cmp:α->α->Option Int}(hinj:∀x y,pd x=pd y->x=y){l r:List α}(h:vo cmp l=some r):
    Ay g e pd cmp f [.ref 0 0,.d (.raw (.func (.func g) #[] #[]))] [.arr 0 e (l.map pd)]=some (.tup [],[.arr 0 e (r.map pd)]):=by
  unfold Ay
  have hx:∃q:List α×List α,l.map pd=q.1.map pd∧vo cmp q.1=some q.2:=⟨(l,r),rfl,h⟩
  simp only [and_self,if_true]
  rw [dif_pos hx]
  obtain⟨h1,h2⟩:=hx.choose_spec
  have h3:l=hx.choose.1:=(List.map_inj_right hinj).1 h1
  rw [<-h3,h]at h2
  cases h2
  rfl
theorem sort_ev{P:Program}{H:Hints}{ext:FuncId->Option pT}{f g:FuncId}{e:TypeId}{pd:α->PD}{D:pT}(hx:ext f=some D)
    {l r:List α} (hD:D f [.ref 0 0,.d (.raw (.func (.func g) #[] #[]))] [.arr 0 e (l.map pd)]=some (.tup [],[.arr 0 e (r.map pd)])):
    EvP P H ext f [.ref 0 0,.d (.raw (.func (.func g) #[] #[]))] [.arr 0 e (l.map pd)] (.tup [],[.arr 0 e (r.map pd)]):=Ev.lib hx hD
end
def okC:PD->Bool
  | .bool _| .int _ _| .str _=>true
  |_=>false
def yS:PD->Value
  | .bool b=>.bool b
  | .int k n=>.int k n
  | .str s=>.string ⟨s.toArray⟩
  |_=>.bool false
theorem okC_V{S:pR}{p:PD}(h:okC p=true):V S p (yS p):=by
  cases p<;>first|(cases h;done)|constructor
theorem okC_eq{S:pR}{p:PD}{v:Value}(h:okC p=true)(hv:V S p v):v=yS p:=by
  cases p<;>first|(cases h;done)|(cases hv;rfl)
theorem Br{p:PD}(h:okC p=true):(yS p).oneCell'=true:=by
  cases p<;>first|(cases h;done)|rfl
section
variable {P:Program}{S:pR}{α:Type}{pd:α->PD}{k:Nat}
def uj(pd:α->PD)(x:α):List Value:=(pd x).cells.map yS
theorem yd(hk:∀x,(pd x).cells.length=k)(x:α){j:Nat}{c:PD}(h:(pd x).cells[j]? =some c):(uj pd x)[j]! =yS c:=by
  unfold uj
  rw [List.getElem!_eq_getElem?_getD,List.getElem?_map,h]
  rfl
variable [Inhabited α]
theorem flat_is(hk:∀x,(pd x).cells.length=k)(hok:∀x,(pd x).cells.all okC=true){l:List α}{xs:List Value}(hf:Flat S k (l.map pd) xs){t:Nat}(ht:t<l.toArray.size*k):
    xs[t]? =some ((Sort.flatK (uj pd) k l.toArray)[t]!):=by
  have k0 : 0 < k := by rcases Nat.eq_zero_or_pos k with h | h; · subst h; simp at ht
                        · exact h
  rw [Sort.get_flatK _ _ _ t ht]
  have h1:t / k<l.length:=by rw [Nat.div_lt_iff_lt_mul k0];simpa using ht
  have h2:t%k<k:=Nat.mod_lt _ k0
  have hx:(l.map pd)[t / k]? =some (pd l[t / k]):=by simp [h1]
  have hc:(pd l[t / k]).cells[t%k]? =some ((pd l[t / k]).cells[t%k]'(by rw [hk];exact h2)):=by simp [hk,h2]
  obtain⟨u,hu,hv⟩:=hf.cell _ _ _ _ hx hc
  rw [Nat.div_add_mod']at hu
  rw [hu]
  have:=okC_eq (List.all_eq_true.1 (hok _) _ (List.mem_of_getElem? hc)) hv
  rw [this]
  have e:l.toArray[t / k]! =l[t / k]:=by simp [h1]
  rw [e,yd hk _ hc]
theorem flat_mk(hk:∀x,(pd x).cells.length=k)(hok:∀x,(pd x).cells.all okC=true)(d:Array α):Flat S k (d.toList.map pd) (Sort.flatK (uj pd) k d).toList:=by
  refine⟨fun e he=>?_,fun u hu=>?_,fun i e j x h1 h2=>?_⟩
  · obtain⟨x, -,rfl⟩:=List.mem_map.1 he
    exact hk x
  · obtain⟨t,ht,rfl⟩:=List.getElem_of_mem hu
    have ht':t<d.size*k:=by simpa using ht
    have k0 : 0 < k := by rcases Nat.eq_zero_or_pos k with h | h; · subst h; simp at ht'
                          · exact h
    have:=Sort.get_flatK (uj pd) k d t ht'
    rw [getElem!_pos _ t (by simpa using ht')]at this
    simp only [Array.getElem_toList]
    rw [this]
    have h2:t%k<(pd d[t / k]!).cells.length:=by rw [hk];exact Nat.mod_lt _ k0
    rw [yd hk _ (zd h2)]
    exact Br (List.all_eq_true.1 (hok _) _ (List.getElem_mem h2))
  · simp only [List.getElem?_map,Option.map_eq_some_iff,Array.getElem?_toList]at h1
    obtain⟨y,hy,rfl⟩:=h1
    have hi:i<d.size:=(Array.getElem?_eq_some_iff.1 hy).1
    have hj:j<k:=by rw [<-hk y];exact(List.getElem?_eq_some_iff.1 h2).1
    have ht:i*k+j<d.size*k:=by
      calc i*k+j<i*k+k:=by omega
        _=(i+1)*k:=by rw [Nat.add_mul,Nat.one_mul]
        _<=d.size*k:=Nat.mul_le_mul_right k hi
    have hg:=Sort.get_flatK (uj pd) k d (i*k+j) ht
    have k0:0<k:=by omega
    have q1:(i*k+j) / k=i:=by rw [Nat.mul_comm i k,Nat.mul_add_div k0,Nat.div_eq_of_lt hj,Nat.add_zero]
    have q2:(i*k+j)%k=j:=by rw [Nat.mul_comm i k,Nat.mul_add_mod,Nat.mod_eq_of_lt hj]
    rw [q1,q2,getElem!_pos _ _ (by simpa using ht)]at hg
    have hy2:d[i]! =y:=by rw [getElem!_pos d i hi];exact(Array.getElem?_eq_some_iff.1 hy).2
    rw [hy2,yd hk _ h2]at hg
    refine⟨yS x,?_,okC_V (List.all_eq_true.1 (hok _) _ (List.mem_of_getElem? h2))⟩
    rw [Array.getElem?_toList,Array.getElem?_eq_getElem (by simpa using ht)]
    exact congrArg some hg
end
theorem grow_of{w w':World}(h:Frame True [] w w'):∃q os,w'=Sort.grow (w.drewN q) os:=by
  refine⟨w'.drawn-w.drawn,w'.heap.extract w.heap.size w'.heap.size,?_⟩
  have hh:w'.heap=w.heap++w'.heap.extract w.heap.size w'.heap.size:=by
    apply Array.ext_getElem?
    intro i
    by_cases hi:i<w.heap.size
    · rw [h.block i hi sm,Array.getElem?_append_left hi]
    · rw [Array.getElem?_append_right za]
      simp only [Array.getElem?_extract]
      by_cases hi2:i<w'.heap.size
      · rw [if_pos za];congr 1;omega
      · rw [if_neg za];exact Array.getElem?_eq_none za
  have hd:=h.drawn trivial
  have h1:=h.os
  have h2:=h.tape
  have h3:=h.output
  obtain⟨heap,tape,drawn,os,output⟩:=w'
  simp only at hh hd h1 h2 h3
  subst h1 h2 h3
  unfold Sort.grow World.drewN
  simp only
  rw [<-hh]
  have:w.drawn+(drawn-w.drawn)=drawn:=by omega
  rw [this]
theorem mem0(P:Program)(w:World):Mem P (fun _=>none) (look []) (look []) w:=
  ⟨(fun id bx h=>by cases h),(fun id L h=>by cases h),(fun ad v h=>by cases h),(fun ad v h=>by cases h),(fun id L b h=>by cases h),(fun id id' L L' b h=>by cases h)⟩
section
variable {P:Program}{α:Type}{pd:α->PD}{k:Nat}
theorem cmp_lays [Inhabited α] {g:FuncId}{cmp:α->α->Option Int}(hge:Enters P g)(htot:∀x y,∃c,cmp x y=some c)(hagg:∀x,∃cs,pd x= .agg cs)(hok:∀x,(pd x).cells.all okC=true)
    (hcmp:∀x y c,cmp x y=some c->rG P ⟨fun _=>none,True,[]⟩ g [.d (pd x),.d (pd y)] [] (.d (.int .i64 c)) []) (blk off size:Nat) (w:World):
    CmpLays P g #[] (uj pd) k (fun x y=>(cmp x y).getD 0) blk off size w:=by
  intro m os dk _ x y
  obtain⟨c,hc⟩:=htot x y
  have hV:∀x,V (fun _=>none) (pd x) (.agg (uj pd x).toArray):=fun x=>by
    obtain⟨cs,hcs⟩:=hagg x
    have ho:=hok x
    unfold uj
    rw [hcs]at ho⊢
    refine .agg cs _ (by simp [PD.cells]) fun i p v h1 h2=>?_
    simp only [PD.cells,List.getElem?_toArray,List.getElem?_map,h1,Option.map_some,Option.some.injEq]at h2
    subst h2
    exact okC_V (List.all_eq_true.1 ho _ (List.mem_of_getElem? h1))
  have h := hcmp x y c hc (fun _ => none) (sortWorldK (uj pd) k w blk off m dk os) [] #[.agg (uj pd x).toArray, .agg (uj pd y).toArray] (mem0 P _) rfl (Sub.refl _) (fun x hx => by cases hx) rfl (fun i a v h1 h2 => by
    match i,h1,h2 with
    |0,h1,h2=>cases h1;cases h2;exact .d (hV x)
    |1,h1,h2=>cases h1;cases h2;exact .d (hV y)
    |i+2,h1,h2=>cases h1)
  refine(h.calls hge).mono ?_
  rintro e w' ⟨v,rfl,S',ls',ha⟩
  have hv:v= .int .i64 c:=by
    have hr:=ha.res
    cases hr with
    |d hh=>cases hh;rfl
  subst hv
  refine⟨?_,grow_of ha.frame⟩
  simp only [hc,Option.getD_some]
theorem yN(F cur:Array Value)(h:F.size<=cur.size):(Sort.putCells id 0 F cur).toList.take F.size=F.toList:=by
  apply List.ext_getElem?
  intro i
  rw [List.getElem?_take]
  split
  · rename_i hi
    simp only [Array.getElem?_toList,Sort.putCells,Array.getElem?_mapIdx]
    rw [Array.getElem?_eq_getElem za,Option.map_some,if_pos ⟨za,za⟩,Nat.sub_zero,getElem!_pos F i hi,Array.getElem?_eq_getElem hi]
    rfl
  · rename_i hi
    rw [Array.getElem?_toList,Array.getElem?_eq_none za]
theorem zH{ρ:Go.Shelf.Ren}(L:SlLaysF0.n6 P ρ){g:FuncId}{e:TypeId}{cmp:α->α->Option Int}{base:uT}{f:FuncId}(hf:ρ.f 6=f)(ht:ρ.t 24=e)(hent:Enters P f)(hge:Enters P g)
    (eg:∀args w,(callFunc g args).run P w= .ok (.enter g args) w) (aE:∀w,(isAgg e).run P w= .ok true w) (zE:∀w,(sizeOf e).run P w= .ok k w) (hsz:szT P e=some k) (hk:∀x,(pd x).cells.length=k)
    (hagg:∀x,∃cs,pd x= .agg cs) (hok:∀x,(pd x).cells.all okC=true)
    (hcmp:∀x y c,cmp x y=some c->rG P ⟨fun _=>none,True,[]⟩ g [.d (pd x),.d (pd y)] [] (.d (.int .i64 c)) [])
    (hnil:rG P base f [.ref 0 0,.d (.raw (.func (.func g) #[] #[]))] [.arr 0 e []] (.tup []) [.arr 0 e []])
    (args:List RV) (bs:List Box) (r:RV) (bs':List Box) (h:Ay g e pd cmp f args bs=some (r,bs')) (hk1:k≠1:=by decide):rG P base f args bs r bs':=by
  unfold Ay at h
  split at h
  · rename_i g' e' es
    split at h
    · rename_i hge'
      obtain⟨rfl,rfl⟩:=hge'
      split at h
      · rename_i hx
        obtain⟨h1,h2⟩:=hx.choose_spec
        generalize hx.choose.1=l at h1 h2
        generalize hx.choose.2=l' at h h2
        simp only [Option.some.injEq,Prod.mk.injEq]at h
        obtain⟨rfl,rfl⟩:=h
        subst h1
        cases l with
        |nil=>cases h2;exact hnil
        |cons a l=>
          rw [sx]at h2
          split at h2
          · rename_i hc
            letI:Inhabited α:=⟨a⟩
            obtain⟨⟨htot,hO⟩,h62⟩:=hc
            simp only [Option.some.injEq]at h2
            generalize hl:a::l=q at h2 h62⊢
            have hq:0<q.length:=by rw [<-hl];simp
            clear hl
            intro S w ls vs hmem hlen hbase hobj hlenv harg
            obtain⟨L0,rfl⟩:∃L0,ls=[L0]:=by
              match ls,hlen with
              | [L0],_=>exact⟨L0,rfl⟩
            obtain⟨v0,v1,rfl⟩:∃v0 v1,vs= #[v0,v1]:=by
              obtain⟨k⟩:=vs
              match k,hlenv with
              | [v0,v1],_=>exact⟨v0,v1,rfl⟩
            have a0:=harg 0 _ v0 rfl rfl
            have a1:=harg 1 _ v1 rfl rfl
            have hbox:=hmem.rO (id:=0) rfl (L:=L0) rfl
            cases hbox with
            |arr _ _ _ sz hdr xs hsz' how hfl=>
            rw [hsz]at hsz'
            cases hsz'
            have hv0:v0=hdr:=by
              cases a0 with
              |ref _ _ _ L1 ho hL hh=>cases hL;exact(hh _ _ _ _ .arr).2 rfl
            have hv1:v1= .func (.func g') #[] #[]:=by
              cases a1 with
              |d hh=>cases hh;rfl
            subst hv0 hv1
            have hown:=(how.xc (by simpa using hq)).xc hk1
            obtain⟨hxl,hown⟩:=hown
            rcases hown with⟨-,h0⟩|⟨blk,cap,cur,rfl, -,hcell,hcap,hmax,hcs,htake⟩
            · simp at h0;simp [h0]at hq
            have hnl:(q.map pd).length=q.length:=by simp
            rw [hnl]at hcap htake hxl
            have hblk:blk<w.heap.size:=(Array.getElem?_eq_some_iff.1 hcell).1
            have hH:Sort.HoldsK (uj pd) k w blk 0 q.toArray:=by
              intro t ht
              have ht':t<q.toArray.size*k:=by simpa using ht
              have e1:=flat_is hk hok hfl ht'
              refine⟨?_,?_⟩
              · rw [World.cell?,hcell]
                simp only [Nat.zero_add,Option.isSome_none,Bool.false_eq_true,if_false,id]
                rw [<-e1, <-htake,List.getElem?_take,if_pos (by simpa using ht'),Array.getElem?_toList]
              · rw [World.frozen?,hcell]
                simp
            have hcl := AnyQ.slices_SortFunc_eq L k (by rw [ht]; exact aE) (by rw [ht]; exact zE) (uj pd) (by intro x; simp [uj, hk]) (by
                intro x v hv
                obtain⟨p,hp,rfl⟩:=List.mem_map.1 hv
                exact Br (List.all_eq_true.1 (hok x) _ hp)) (fun x y=>(cmp x y).getD 0) hO g' #[] blk 0 cap q.toArray w eg
              (cmp_lays hge htot hagg hok hcmp blk 0 _ w) hH hblk (by simpa using h62)
            rw [hf]at hcl
            refine .inl ⟨hent,?_⟩
            simp only [List.length_map]at hmem⊢
            rw [show q.toArray.size=q.length by simp]at hcl
            refine hcl.mono ?_
            rintro e w' ⟨rfl,n,os,hw'⟩
            have hd:(Sort.pdq (ltOf fun x y=>(cmp x y).getD 0) q.toArray 0 q.length (Lib.bitLen q.length) true true).toList=l':=h2
            have hps:=Sort.pdq_sorts (lt3 cmp) hO q.toArray 0 q.length (Lib.bitLen q.length) true true (Nat.zero_le _) sm (.inl rfl)
            have hds:(Sort.pdq (ltOf fun x y=>(cmp x y).getD 0) q.toArray 0 q.length (Lib.bitLen q.length) true true).size=q.length:=by
              have h1:(Sort.pdq (lt3 cmp) q.toArray 0 q.length (Lib.bitLen q.length) true true).size=q.length:=by simpa using hps.1.1
              exact h1
            generalize Sort.pdq (ltOf fun x y=>(cmp x y).getD 0) q.toArray 0 q.length (Lib.bitLen q.length) true true=d' at hd hds hw'
            clear hps
            subst hd
            have hcs':(Sort.flatK (uj pd) k d').size<=cur.size:=by
              simp only [Sort.size_flatK,hds,hcs]
              exact Nat.mul_le_mul_right k hcap
            have hw2:∀b,b<w.heap.size->b≠blk->w'.heap[b]? =w.heap[b]? :=fun b hb hne=>by
              rw [hw',sortWorldK,Sort.heap_grow_old _ _ (by simpa [Sort.putRowK]using hb)]
              simp only [Sort.putRowK,Sort.putRow,Sort.mapBlock,Array.getElem?_modify]
              rw [if_neg (fun h=>hne h.symm)]
              rfl
            have hw3:w'.heap[blk]? =some (.cells (Sort.putCells id 0 (Sort.flatK (uj pd) k d') cur) e' (0,0)):=by
              rw [hw',sortWorldK,Sort.heap_grow_old _ _ (by simpa [Sort.putRowK]using hblk)]
              simp only [Sort.putRowK,Sort.putRow,Sort.mapBlock,Array.getElem?_modify,if_true,Sort.heap_ahead,hcell,Option.map_some,Sort.onCells]
            have hsize:w.heap.size<=w'.heap.size:=by
              rw [hw',sortWorldK,Sort.size_grow]
              simp [Sort.putRowK]
            refine⟨.tuple #[],rfl,S,[.arr 0 e' k (.slice (some ⟨blk,0,none⟩) q.length cap)],rfl,Nat.le_refl _,Sub.refl S,?_,fun ad v hh=>.inl hh,qa.refl _,fun i L b hL hb=>.inl ?_,?_,?_⟩
            · refine⟨fun ii bx hb=>?_,fun ii L hL=>?_,fun ad v hS=>?_,hmem.tJ,hmem.ss,hmem.inj⟩
              · match ii,hb with
                |0,hb=>
                  cases hb
                  refine⟨_,rfl,.arr 0 e' _ k _ (Sort.flatK (uj pd) k d').toList hsz (.inl ⟨sm,.inr ⟨blk,cap,Sort.putCells id 0 (Sort.flatK (uj pd) k d') cur,(0,0),?_,.inl rfl,hw3,?_,hmax,?_,?_⟩⟩) (flat_mk hk hok d')⟩
                  · simp [hds]
                  · simp [hds];exact hcap
                  · simp [Sort.putCells,hcs]
                  · have:=yN (Sort.flatK (uj pd) k d') cur hcs'
                    simpa using this
              · match ii,hL with
                |0,hL=>exact⟨_,rfl⟩
              · have hc:=hmem.imm ad v hS
                by_cases hb:ad.block=blk
                · obtain⟨b,o,sp⟩:=ad
                  simp only at hb
                  subst hb
                  cases sp with
                  |none=>
                    have := hmem.ss 0 _ b rfl (by cases cap with
                      |zero=>omega
                      |succ c=>rfl) o
                    rw [this]at hS;cases hS
                  |some s=>simp [World.cell?,hcell]at hc
                · rw [sI (hw2 ad.block (sa hc) hb)]
                  exact hc
            · rw [ui]
              exact⟨i,L,hL,hb⟩
            · refine⟨by rw [hw'];rfl,by rw [hw'];rfl,by rw [hw'];rfl,hsize,fun b hb hn=>hw2 b hb fun he=>hn ?_,fun _=>by rw [hw'];exact Nat.le_add_right _ _⟩
              subst he
              rw [ui]
              refine⟨0,_,rfl,?_⟩
              cases cap with
              |zero=>omega
              |succ c=>rfl
            · exact .tup [] #[] rfl (fun i c v h=>by cases h)
          · cases h2
      · cases h
    · cases h
  · cases h
end
theorem Ae(P:Program)(base:uT):ExtOk P base (fun _=>none):=fun f g h=>by cases h
end Go.Dw
namespace Go.Dw
open Go.Proofs
section
variable {α:Type}
def AH(cmp:α->α->Option Int)(l:List α):Prop:=l.Pairwise fun x y=>lt3 cmp x y=true∨lt3 cmp y x=true∨x=y
theorem AH.eq{cmp:α->α->Option Int}{l:List α}(h:AH cmp l){a b:α}(ha:a∈l)(hb:b∈l)(h1:lt3 cmp a b=false)(h2:lt3 cmp b a=false):a=b:=by
  have key:∀{l:List α},AH cmp l->∀x∈l,∀y∈l,x=y∨lt3 cmp x y=true∨lt3 cmp y x=true:=by
    intro l
    induction l with
    |nil=>intro _ x hx;cases hx
    |cons c l ih=>
      intro h
      obtain⟨hc,hl⟩:=List.pairwise_cons.1 h
      intro x hx y hy
      rcases List.mem_cons.1 hx with hx'|hx'<;>rcases List.mem_cons.1 hy with hy'|hy'
      · exact .inl (hx'.trans hy'.symm)
      · subst hx'
        rcases hc y hy' with h|h|h
        · exact .inr (.inl h)
        · exact .inr (.inr h)
        · exact .inl h
      · subst hy'
        rcases hc x hx' with h|h|h
        · exact .inr (.inr h)
        · exact .inr (.inl h)
        · exact .inl h.symm
      · exact ih hl x hx' y hy'
  rcases key h a ha b hb with h|h|h
  · exact h
  · rw [h]at h1;cases h1
  · rw [h]at h2;cases h2
theorem wK{cmp:α->α->Option Int}(hc:zO cmp)(l:List α)(hl:l.length<4611686018427387904):∃r,vo cmp l=some r∧r.Perm l∧r.Pairwise (fun x y=>lt3 cmp y x=false):=by
  cases l with
  |nil=>exact⟨[],rfl,.nil,.nil⟩
  |cons a l=>
    have h:∃r,vo cmp (a::l)=some r:=⟨_,by rw [sx,if_pos ⟨hc,hl⟩]⟩
    obtain⟨r,hr⟩:=h
    refine⟨r,hr,yy hr,?_⟩
    rw [sx,if_pos ⟨hc,hl⟩]at hr
    letI:Inhabited α:=⟨a⟩
    have:=Sort.pdq_sorts (lt3 cmp) hc.2 (a::l).toArray 0 (a::l).length (Lib.bitLen (a::l).length) true true (Nat.zero_le _) sm (.inl rfl)
    obtain⟨⟨hs, -, -⟩,hso⟩:=this
    have hr:=Option.some.inj hr
    rw [List.pairwise_iff_getElem]
    intro i j hi hj hij
    subst hr
    have hsz:(Sort.pdq (lt3 cmp) (a::l).toArray 0 (a::l).length (Lib.bitLen (a::l).length) true true).size=(a::l).length:=by simpa using hs
    have hi':i<(Sort.pdq (lt3 cmp) (a::l).toArray 0 (a::l).length (Lib.bitLen (a::l).length) true true).size:=by simpa using hi
    have hj':j<(Sort.pdq (lt3 cmp) (a::l).toArray 0 (a::l).length (Lib.bitLen (a::l).length) true true).size:=by simpa using hj
    have h1:=hso i j (Nat.zero_le _) hij za
    rw [getElem!_pos _ i hi',getElem!_pos _ j hj']at h1
    simpa using h1
end
end Go.Dw
