
import Derived.Test.YthadlbjoiidkjaaGreatDoorDwSort

namespace Go.Dw
open Go.Proofs Go.Shelf Go.RowKit
section
variable {α:Type}
open Classical in
noncomputable def qd (g:FuncId) (e:TypeId) (pd:α->PD) (cmp:α->α->Option Int):jd:=fun _ args bs=>
  match args,bs with
  | [.ref 0 0,.d (.raw (.func (.func g') ⟨[]⟩ ⟨[]⟩))],[.arr 0 e' es]=>
    if g'=g∧e'=e then
      if h:∃r:List α×List α,es=r.1.map pd∧oo cmp r.1=some r.2 then some (.tup [],[.arr 0 e (h.choose.2.map pd)])else none
    else none
  |_,_=>none
theorem uL{f:FuncId}{g:FuncId}{e:TypeId}{pd:α->PD}{cmp:α->α->Option Int}(hinj:∀x y,pd x=pd y->x=y){l r:List α}(h:oo cmp l=some r):
    qd g e pd cmp f [.ref 0 0,.d (.raw (.func (.func g) #[] #[]))] [.arr 0 e (l.map pd)]=some (.tup [],[.arr 0 e (r.map pd)]):=by
  unfold qd
  have hx:∃q:List α×List α,l.map pd=q.1.map pd∧oo cmp q.1=some q.2:=⟨(l,r),rfl,h⟩
  simp only [and_self,if_true]
  rw [dif_pos hx]
  obtain⟨h1,h2⟩:=hx.choose_spec
  have h3:l=hx.choose.1:=(List.map_inj_right hinj).1 h1
  rw [<-h3,h]at h2
  cases h2
  rfl
end
section
variable {P:Program}{S:iW}{α:Type}{pd:α->PD}{k:Nat}
def El(S:iW)(pd:α->PD)(k:Nat):Type:={ p:α×List Value // p.2.length=k∧(∀v∈p.2,v.oneCell'=true)∧V S (pd p.1) (.agg p.2.toArray) }
def El.x(p:El S pd k):α:=p.1.1
def El.c(p:El S pd k):List Value:=p.1.2
theorem els_of(hk:∀x,(pd x).cells.length=k)(hagg:∀x,∃cs,pd x= .agg cs):∀(l:List α)(xs:List Value),Flat S k (l.map pd) xs->xs.length=l.length*k->
    ∃q:List (El S pd k),q.map El.x=l∧(q.map El.c).flatten=xs
  | [],xs,_,hl=>⟨[],rfl,by simpa using hl⟩
  |a::l,xs,hf,hl=>by
    have hla:xs.length=k+l.length*k:=by rw [hl,List.length_cons,Nat.add_mul,Nat.one_mul,Nat.add_comm]
    have hf2:Flat S k (l.map pd) (xs.drop k):=by
      refine⟨fun e he=>hf.len e (by simp [List.mem_map]at he⊢;exact .inr he),fun u hu=>hf.one u (List.mem_of_mem_drop hu),fun i e j x h1 h2=>?_⟩
      obtain⟨u,h3,h4⟩:=hf.cell (i+1) e j x (by simpa using h1) h2
      refine⟨u,?_,h4⟩
      rw [List.getElem?_drop]
      rw [<-h3];congr 1
      rw [Nat.add_mul,Nat.one_mul];omega
    obtain⟨q,h1,h2⟩:=els_of hk hagg l (xs.drop k) hf2 (by rw [List.length_drop];omega)
    have hlen:(xs.take k).length=k:=by rw [List.length_take];omega
    refine⟨⟨(a,xs.take k),hlen,fun v hv=>hf.one v (List.mem_of_mem_take hv),?_⟩::q,?_,?_⟩
    · obtain⟨cs,hcs⟩:=hagg a
      have hkc:=hk a
      simp only
      rw [hcs]at hkc⊢
      have hkc:cs.length=k:=hkc
      refine .agg cs _ (by rw [List.size_toArray,hlen,hkc]) fun i p v h3 h4=>?_
      have hik:i<k:=by rw [<-hkc];exact(List.getElem?_eq_some_iff.1 h3).1
      obtain⟨u,h5,h6⟩:=hf.cell 0 (pd a) i p rfl (by rw [hcs];exact h3)
      rw [Nat.zero_mul,Nat.zero_add]at h5
      rw [List.getElem?_toArray,List.getElem?_take,if_pos hik,h5]at h4
      cases h4
      exact h6
    · show a::q.map El.x=a::l
      rw [h1]
    · show(xs.take k::q.map El.c).flatten=xs
      rw [List.flatten_cons,h2]
      exact List.take_append_drop k xs
theorem ua:∀q:List (El S pd k),(q.map El.c).flatten.length=q.length*k
  | []=>by simp
  |a::q=>by
    simp only [List.map_cons,List.flatten_cons,List.length_append,ua q,List.length_cons,Nat.add_mul,Nat.one_mul]
    rw [show(El.c a).length=k from a.2.1];omega
theorem rb:∀(q:List (El S pd k))(i j:Nat)(p:El S pd k),q[i]? =some p->j<k->(q.map El.c).flatten[i*k+j]? =(El.c p)[j]?
  | [],i,j,p,h,_=>by simp at h
  |a::q,0,j,p,h,hj=>by
    simp only [List.getElem?_cons_zero,Option.some.injEq]at h
    subst h
    simp only [List.map_cons,List.flatten_cons,Nat.zero_mul,Nat.zero_add]
    rw [List.getElem?_append_left (by rw [show(El.c a).length=k from a.2.1];exact hj)]
  |a::q,i+1,j,p,h,hj=>by
    simp only [List.map_cons,List.flatten_cons]
    rw [List.getElem?_append_right (by rw [show(El.c a).length=k from a.2.1,Nat.add_mul,Nat.one_mul];omega),show(El.c a).length=k from a.2.1]
    rw [<-rb q i j p (by simpa using h) hj]
    congr 1
    rw [Nat.add_mul,Nat.one_mul];omega
variable [Inhabited (El S pd k)]
theorem flatE(q:Array (El S pd k)):(Sort.flatK El.c k q).toList=(q.toList.map El.c).flatten:=by
  apply List.ext_getElem?
  intro t
  by_cases ht:t<q.size*k
  · have k0 : 0 < k := by rcases Nat.eq_zero_or_pos k with h | h; · subst h; simp at ht
                          · exact h
    have h0:=Sort.get_flatK (El.c (S:=S) (pd:=pd) (k:=k)) k q t ht
    have hsz:t<(Sort.flatK (El.c (S:=S) (pd:=pd) (k:=k)) k q).size:=by simpa using ht
    rw [getElem!_pos (Sort.flatK (El.c (S:=S) (pd:=pd) (k:=k)) k q) t hsz]at h0
    rw [Array.getElem?_toList,Array.getElem?_eq_getElem hsz,h0]
    have h1:t / k<q.size:=by rw [Nat.div_lt_iff_lt_mul k0];exact ht
    have h2:t%k<k:=Nat.mod_lt _ k0
    have h3:=rb q.toList (t / k) (t%k) q[t / k] (by simp [h1]) h2
    rw [Nat.div_add_mod']at h3
    rw [h3,getElem!_pos q (t / k) h1]
    have h4:t%k<(El.c q[t / k]).length:=by rw [show(El.c q[t / k]).length=k from q[t / k].2.1];exact h2
    rw [getElem!_pos (El.c q[t / k]) (t%k) h4,zc h4]
  · rw [List.getElem?_eq_none (by simpa using ht),List.getElem?_eq_none (by rw [ua];simpa using ht)]
omit [Inhabited (El S pd k)]in
theorem flat_els(hk:∀x,(pd x).cells.length=k)(hagg:∀x,∃cs,pd x= .agg cs)(q:List (El S pd k)):Flat S k ((q.map El.x).map pd) (q.map El.c).flatten:=by
  refine⟨fun e he=>?_,fun u hu=>?_,fun i e j x h1 h2=>?_⟩
  · obtain⟨x, -,rfl⟩:=List.mem_map.1 he
    exact hk x
  · obtain⟨c,hc,hu⟩:=List.mem_flatten.1 hu
    obtain⟨p, -,rfl⟩:=List.mem_map.1 hc
    exact p.2.2.1 u hu
  · simp only [List.getElem?_map,Option.map_eq_some_iff]at h1
    obtain⟨y,⟨p,hp,rfl⟩,rfl⟩:=h1
    have hj:j<k:=by rw [<-hk (El.x p)];exact(List.getElem?_eq_some_iff.1 h2).1
    rw [rb q i j p hp hj]
    have hl:j<(El.c p).length:=by rw [show(El.c p).length=k from p.2.1];exact hj
    refine⟨(El.c p)[j],zc hl,?_⟩
    have hv:=p.2.2.2
    obtain⟨cs,hcs⟩:=hagg p.1.1
    rw [hcs]at hv
    have h2':cs[j]? =some x:=by
      have:=h2
      rw [show pd (El.x p)= .agg cs from hcs]at this
      exact this
    cases hv with
    |agg _ _ _ h=>exact h j x _ h2' (by rw [List.getElem?_toArray];exact zc hl)
end
section
variable {P:Program}{α:Type}{pd:α->PD}{k:Nat}
theorem uh{β:Type}(f:β->α){cmp:α->α->Option Int}(h:Sort.SWO (lt3 cmp)):Sort.SWO (lt3 fun x y:β=>cmp (f x) (f y)):=
  ⟨fun x=>h.irrefl (f x),fun x y z=>h.trans (f x) (f y) (f z),fun x y z=>h.ntrans (f x) (f y) (f z)⟩
theorem mT{β:Type} [Inhabited β] {enc:β->List Value}{w:World}{blk off m:Nat}{dk:Array β}{os:Array Obj}{b:Nat}(hb:b<w.heap.size)(hne:b≠blk):(sortWorldK enc k w blk off m dk os).heap[b]? =w.heap[b]? :=by
  rw [sortWorldK,Sort.heap_grow_old _ _ (by simpa [Sort.putRowK]using hb)]
  simp only [Sort.putRowK,Sort.putRow,Sort.mapBlock,Array.getElem?_modify]
  rw [if_neg (fun h=>hne h.symm)]
  rfl
set_option maxHeartbeats 1000000 in
theorem sortU_ok{ρ:Go.Shelf.Ren}(L:SlLaysF0.n6 P ρ){g:FuncId}{e:TypeId}{cmp:α->α->Option Int}{base:mN}{f:FuncId}(hf:ρ.f 6=f)(ht:ρ.t 24=e)(hent:Enters P f)(hge:Enters P g)
    (eg:∀args w,(callFunc g args).run P w= .ok (.enter g args) w) (aE:∀w,(isAgg e).run P w= .ok true w) (zE:∀w,(sizeOf e).run P w= .ok k w) (hsz:szT P e=some k) (hk:∀x,(pd x).cells.length=k)
    (hagg:∀x,∃cs,pd x= .agg cs)
    (hcmp:∀x y c,cmp x y=some c->kr P ⟨fun _=>none,True,[]⟩ g [.d (pd x),.d (pd y)] [] (.d (.int .i64 c)) [])
    (hnil:kr P base f [.ref 0 0,.d (.raw (.func (.func g) #[] #[]))] [.arr 0 e []] (.tup []) [.arr 0 e []])
    (args:List RV) (bs:List Box) (r:RV) (bs':List Box) (h:qd g e pd cmp f args bs=some (r,bs')) (hk1:k≠1:=by decide):kr P base f args bs r bs':=by
  unfold qd at h
  split at h
  rotate_left
  · cases h
  rename_i g' e' es
  split at h
  rotate_left
  · cases h
  rename_i hge'
  obtain⟨rfl,rfl⟩:=hge'
  split at h
  rotate_left
  · cases h
  rename_i hx
  obtain⟨h1,h2⟩:=hx.choose_spec
  generalize hx.choose.1=l at h1 h2
  generalize hx.choose.2=l' at h h2
  simp only [Option.some.injEq,Prod.mk.injEq]at h
  obtain⟨rfl,rfl⟩:=h
  subst h1
  obtain⟨⟨htot,hO⟩,hap,h62,rfl⟩:=tR h2
  by_cases hq0:l=[]
  · subst hq0
    simpa using hnil
  have hq:0<l.length:=List.length_pos_iff.2 hq0
  intro S w ls vs hmem hlen hbase hobj hlenv harg
  obtain⟨L0,rfl⟩:∃L0,ls=[L0]:=by
    match ls,hlen with
    | [L0],_=>exact⟨L0,rfl⟩
  obtain⟨v0,v1,rfl⟩:∃v0 v1,vs= #[v0,v1]:=by
    obtain⟨k⟩:=vs
    match k,hlenv with
    | [v0,v1],_=>exact⟨v0,v1,rfl⟩
  have a0:=harg 0 _ v0 rfl rfl
  have a1:=harg 1 _ v1 rfl rfl
  have hbox:=hmem.kV (id:=0) rfl (L:=L0) rfl
  cases hbox with
  |arr _ _ _ sz hdr xs hsz' how hfl=>
  rw [hsz]at hsz'
  cases hsz'
  have hv0:v0=hdr:=by
    cases a0 with
    |ref _ _ _ L1 ho hL hh=>cases hL;exact(hh _ _ _ _ .arr).2 rfl
  have hv1:v1= .func (.func g') #[] #[]:=by
    cases a1 with
    |d hh=>cases hh;rfl
  subst hv0 hv1
  have hown:=(how.owns (by simpa using hq)).owns hk1
  obtain⟨hxl,hown⟩:=hown
  rcases hown with⟨-,h0⟩|⟨blk,cap,cur,rfl, -,hcell,hcap,hmax,hcs,htake⟩
  · simp at h0;exact(hq0 h0).elim
  have hnl:(l.map pd).length=l.length:=by simp
  rw [hnl]at hcap htake hxl
  have hblk:blk<w.heap.size:=(Array.getElem?_eq_some_iff.1 hcell).1
  obtain⟨q,hq1,hq2⟩:=els_of hk hagg l xs hfl hxl
  have hql:q.length=l.length:=by rw [<-hq1];simp
  obtain⟨p0,hp0⟩:∃p0:El S pd k,p0∈q:=List.exists_mem_of_length_pos om
  letI:Inhabited (El S pd k):=⟨p0⟩
  have hcap0:cap≠0:=by omega
  have hSb : ∀ o, S ⟨blk, o, none⟩ = none := fun o => hmem.ll 0 _ blk rfl (by cases cap with
    |zero=>omega
    |succ c=>rfl) o
  have hH:Sort.HoldsK (El.c (S:=S) (pd:=pd) (k:=k)) k w blk 0 q.toArray:=by
    intro t ht
    have ht':t<q.length*k:=by simpa using ht
    have e1:(Sort.flatK (El.c (S:=S) (pd:=pd) (k:=k)) k q.toArray)[t]? =xs[t]? :=by
      rw [<-Array.getElem?_toList,flatE,hq2]
    have hts:t<(Sort.flatK (El.c (S:=S) (pd:=pd) (k:=k)) k q.toArray).size:=by simpa using ht
    rw [Array.getElem?_eq_getElem hts]at e1
    refine⟨?_,?_⟩
    · rw [World.cell?,hcell]
      simp only [Nat.zero_add,Option.isSome_none,Bool.false_eq_true,if_false,id]
      rw [getElem!_pos _ t hts,e1, <-htake,List.getElem?_take,if_pos (by rw [<-hql];exact ht'),Array.getElem?_toList]
    · rw [World.frozen?,hcell]
      simp
  have hlays:CmpLays P g' #[] (El.c (S:=S) (pd:=pd) (k:=k)) k (fun x y=>(cmp x.x y.x).getD 0) blk 0 q.toArray.size w:=by
    intro m os dk _ x y
    obtain⟨c,hc⟩:=htot x.x y.x
    have hw1:∀ad v,S ad=some v->(sortWorldK (El.c (S:=S) (pd:=pd) (k:=k)) k w blk 0 m dk os).cell? ad=some v:=by
      intro ad v hS
      have hcl:=hmem.imm ad v hS
      have hne:ad.block≠blk:=by
        intro hb
        obtain⟨b,o,sp⟩:=ad
        simp only at hb
        subst hb
        cases sp with
        |none=>rw [hSb o]at hS;cases hS
        |some s=>simp [World.cell?,hcell]at hcl
      rw [kj (mT (kq hcl) hne)]
      exact hcl
    have hm0:Mem P S (look []) (look []) (sortWorldK (El.c (S:=S) (pd:=pd) (k:=k)) k w blk 0 m dk os):=
      ⟨(fun id bx h=>by cases h),(fun id L h=>by cases h),hw1,hmem.lg,(fun id L b h=>by cases h),(fun id id' L L' b h=>by cases h)⟩
    have h := hcmp x.x y.x c hc S (sortWorldK (El.c (S := S) (pd := pd) (k := k)) k w blk 0 m dk os) [] #[.agg x.c.toArray, .agg y.c.toArray] hm0 rfl (fun ad v h => by cases h) (fun x hx => by cases hx) rfl (fun i a v h1 h2 => by
      match i,h1,h2 with
      |0,h1,h2=>cases h1;cases h2;exact .d x.2.2.2
      |1,h1,h2=>cases h1;cases h2;exact .d y.2.2.2
      |i+2,h1,h2=>cases h1)
    refine(h.calls hge).mono ?_
    rintro e w' ⟨v,rfl,S',ls',ha⟩
    have hv:v= .int .i64 c:=by
      have hr:=ha.res
      cases hr with
      |d hh=>cases hh;rfl
    subst hv
    refine⟨?_,grow_of ha.frame⟩
    simp only [hc,Option.getD_some]
  have hcl := AnyQ.slices_SortFunc_eq L k (by rw [ht]; exact aE) (by rw [ht]; exact zE) (El.c (S := S) (pd := pd) (k := k)) (by intro x; exact x.2.1) (by
      intro x v hv
      exact x.2.2.1 v hv) (fun x y=>(cmp x.x y.x).getD 0) (uh El.x hO) g' #[] blk 0 cap q.toArray w eg
    hlays hH hblk (by simpa [hql]using h62)
  rw [hf]at hcl
  refine .inl ⟨hent,?_⟩
  simp only [List.length_map]at hmem⊢
  rw [show q.toArray.size=q.length by simp]at hcl
  rw [show l.length=q.length from hql.symm]
  refine hcl.mono ?_
  rintro e w' ⟨rfl,n,os,hw'⟩
  have hps:=Sort.pdq_sorts (lt3 fun x y:El S pd k=>cmp x.x y.x) (uh El.x hO) q.toArray 0 q.length (Lib.bitLen q.length) true true (Nat.zero_le _) sm (.inl rfl)
  have hfin:∀d':Array (El S pd k),d'=Sort.pdq (ltOf fun x y:El S pd k=>(cmp x.x y.x).getD 0) q.toArray 0 q.length (Lib.bitLen q.length) true true->d'.size=q.length∧d'.toList.map El.x=l.mergeSort fun x y=> !lt3 cmp y x:=by
    intro d' hd'
    have hd2:d'=Sort.pdq (lt3 fun x y:El S pd k=>cmp x.x y.x) q.toArray 0 q.length (Lib.bitLen q.length) true true:=hd'
    rw [<-hd2]at hps
    obtain⟨⟨hs, -,hp⟩,hso⟩:=hps
    have hs':d'.size=q.length:=by simpa using hs
    have e1:d'.extract 0 q.length=d':=by rw [<-hs'];simp
    have e2:q.toArray.extract 0 q.length=q.toArray:=by simp
    rw [e1,e2]at hp
    have hpm:(d'.toList.map El.x).Perm l:=by
      rw [<-hq1]
      exact hp.map _
    refine⟨hs',?_⟩
    have hle:∀a b c:α,(!lt3 cmp b a)=true->(!lt3 cmp c b)=true->(!lt3 cmp c a)=true:=by
      intro a b c h1 h2
      simp only [Bool.not_eq_true']at*
      exact hO.ntrans c b a h2 h1
    have htt:∀a b:α,((!lt3 cmp b a)||(!lt3 cmp a b))=true:=by
      intro a b
      cases h1:lt3 cmp b a with
      |false=>rfl
      |true=>
        cases h2:lt3 cmp a b with
        |false=>rfl
        |true=>have:=hO.trans _ _ _ h1 h2;rw [hO.irrefl]at this;cases this
    refine List.Perm.eq_of_pairwise (le:=fun x y=>(!lt3 cmp y x)=true) ?_ ?_ (List.pairwise_mergeSort hle htt l) (hpm.trans (List.mergeSort_perm _ _).symm)
    · intro a b ha hb h1 h2
      simp only [Bool.not_eq_true']at h1 h2
      exact hap.eq (hpm.mem_iff.1 ha) (List.mem_mergeSort.1 hb) h2 h1
    · rw [List.pairwise_iff_getElem]
      intro i j hi hj hij
      simp only [List.length_map,Array.length_toList]at hi hj
      have:=hso i j (Nat.zero_le _) hij om
      rw [getElem!_pos d' i hi,getElem!_pos d' j hj]at this
      simp only [List.getElem_map,Array.getElem_toList,Bool.not_eq_true']
      exact this
  obtain⟨hds,hdl⟩:=hfin _ rfl
  generalize Sort.pdq (ltOf fun x y:El S pd k=>(cmp x.x y.x).getD 0) q.toArray 0 q.length (Lib.bitLen q.length) true true=d' at hds hdl hw'
  clear hps hfin
  rw [<-hdl]
  have hcs':(Sort.flatK (El.c (S:=S) (pd:=pd) (k:=k)) k d').size<=cur.size:=by
    simp only [Sort.size_flatK,hds,hcs,hql]
    exact Nat.mul_le_mul_right k hcap
  have hw2:∀b,b<w.heap.size->b≠blk->w'.heap[b]? =w.heap[b]? :=fun b hb hne=>by rw [hw',mT hb hne]
  have hw3:w'.heap[blk]? =some (.cells (Sort.putCells id 0 (Sort.flatK (El.c (S:=S) (pd:=pd) (k:=k)) k d') cur) e' (0,0)):=by
    rw [hw',sortWorldK,Sort.heap_grow_old _ _ (by simpa [Sort.putRowK]using hblk)]
    simp only [Sort.putRowK,Sort.putRow,Sort.mapBlock,Array.getElem?_modify,if_true,Sort.heap_ahead,hcell,Option.map_some,Sort.onCells]
  have hsize:w.heap.size<=w'.heap.size:=by
    rw [hw',sortWorldK,Sort.size_grow]
    simp [Sort.putRowK]
  refine⟨.tuple #[],rfl,S,[.arr 0 e' k (.slice (some ⟨blk,0,none⟩) q.length cap)],rfl,Nat.le_refl _,Sub.refl S,?_,fun ad v hh=>.inl hh,(by rw [hql];exact jm.refl _),fun i L b hL hb=>.inl ?_,?_,?_⟩
  · refine⟨fun ii bx hb=>?_,fun ii L hL=>?_,fun ad v hS=>?_,hmem.lg,?_,?_⟩
    · match ii,hb with
      |0,hb=>
        cases hb
        refine⟨_,rfl,.arr 0 e' _ k _ (Sort.flatK (El.c (S:=S) (pd:=pd) (k:=k)) k d').toList hsz (.inl ⟨sm,.inr ⟨blk,cap,Sort.putCells id 0 (Sort.flatK (El.c (S:=S) (pd:=pd) (k:=k)) k d') cur,(0,0),?_,.inl rfl,hw3,?_,hmax,?_,?_⟩⟩) ?_⟩
        · simp [hds]
        · simp [hds];omega
        · simp [Sort.putCells,hcs]
        · have:=qq (Sort.flatK (El.c (S:=S) (pd:=pd) (k:=k)) k d') cur hcs'
          simpa using this
        · rw [flatE]
          exact flat_els hk hagg d'.toList
    · match ii,hL with
      |0,hL=>exact⟨_,rfl⟩
    · have hc:=hmem.imm ad v hS
      by_cases hb:ad.block=blk
      · obtain⟨b,o,sp⟩:=ad
        simp only at hb
        subst hb
        cases sp with
        |none=>rw [hSb o]at hS;cases hS
        |some s=>simp [World.cell?,hcell]at hc
      · rw [kj (hw2 ad.block (kq hc) hb)]
        exact hc
    · have:=hmem.ll
      rw [<-hql]at this
      exact this
    · have:=hmem.inj
      rw [<-hql]at this
      exact this
  · rw [n4]
    exact⟨i,L,hL,hb⟩
  · refine⟨by rw [hw'];rfl,by rw [hw'];rfl,by rw [hw'];rfl,hsize,fun b hb hn=>hw2 b hb fun he=>hn ?_,fun _=>by rw [hw'];exact Nat.le_add_right _ _⟩
    subst he
    rw [n4]
    refine⟨0,_,rfl,?_⟩
    cases cap with
    |zero=>omega
    |succ c=>rfl
  · exact .tup [] #[] rfl (fun i c v h=>by cases h)
end
end Go.Dw
