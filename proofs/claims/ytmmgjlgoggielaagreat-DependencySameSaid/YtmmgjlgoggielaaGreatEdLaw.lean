
import Derived.Test.YtmmgjlgoggielaaGreatEdLawW
import Derived.KernelRfl
import Derived.Test.YtmmgjlgoggielaaGreatEdLawEB

set_option maxRecDepth 100000
set_option maxHeartbeats 4000000
namespace Go.Dw.Ed
open Go.Dw
theorem get2{α:Type}(A:List α)(y x:α)(T:List α){n:Int}(hn:n=A.length+1):pH (A++y::x::T) n=some x:=by
 have:=get1 (A++[y]) x T (n:=n) so
 simpa using this
theorem set2{α:Type}(A:List α)(y x z:α)(T:List α){n:Int}(hn:n=A.length+1):sb (A++y::x::T) n z=some (A++y::z::T):=by
 have:=set1 (A++[y]) x z T (n:=n) so
 simpa using this
def le1(x y:Pick):Prop:=x.aM<=y.aM
theorem lit1_eq(a b:Pick):dV a b=some (qU a.aM b.aM):=by
 unfold dV
 rw [Sd.iS];rfl
theorem cmpI_neg{a b:Int}:qU a b<0↔a<b:=by
 unfold qU
 by_cases h1:a<b
 ·simp [h1]
 ·by_cases h2:a>b<;>simp [h1,h2]
def cEb(a b:Pick):Int:=if qU a.aM b.aM≠0 then qU a.aM b.aM else fj a b
def lx(a b:Pick):Prop:=cEb a b<0
theorem lx_lt{a b:Pick}(h:a.aM<b.aM):lx a b:=by
 unfold lx cEb qU;simp [h]
theorem lx_le{a b:Pick}(h:a.aM<=b.aM)(h':fj a b<0):lx a b:=by
 by_cases e:a.aM<b.aM
 ·exact lx_lt e
 ·have:a.aM=b.aM:=by omega
  unfold lx cEb
  rw [if_neg (by rw [this];simp [vT.2])]
  exact h'
theorem lx_early{a b:Pick}(h:lx a b):a.aM<=b.aM:=by
 unfold lx cEb at h
 by_cases e:qU a.aM b.aM=0
 ·rw [vT]at e;omega
 ·rw [if_pos e,cmpI_neg]at h;omega
theorem sinner_ok(i:Nat)(L C:List Pick)(x:Pick)(hL:L.Pairwise lx)(hl:L.length<=1000)(hx:∀a∈L,fj a x<0):
  Ok (oC (cu 0 (i:Int)) ((L.length:Int),L++x::C)) (fun o=>o.1=i∧∃D,o.2=D++C∧D.Perm (x::L)∧D.Pairwise lx):=by
 refine Ok.loop (fun s=>∃A B:List Pick,s=((A.length:Int),A++x::(B++C))∧A++B=L∧∀b∈B,lx x b) (fun s=>s.1.toNat) ?_ ⟨L,[],sm,sm,sm⟩
 rintro s ⟨A,B,rfl,hAB,hB⟩
 have hAl:A.length<=1000:=by have:=congrArg List.length hAB;simp at this;omega
 have hdone:(∀a∈A,lx a x)->Ok (some (py.stop ((i:Int),A++x::(B++C)))) (Ok.S (fun s=>∃A B:List Pick,s=((A.length:Int),A++x::(B++C))∧A++B=L∧∀b∈B,lx x b) (fun s=>s.1.toNat) (fun o:Int×List Pick=>o.1=i∧∃D,o.2=D++C∧D.Perm (x::L)∧D.Pairwise lx) ((A.length:Int),A++x::(B++C))):=by
  intro hA
  refine Ok.st ⟨rfl,A++x::B,sm,?_,?_⟩
  ·rw [<-hAB];exact List.perm_middle
  ·rw [<-hAB]at hL
   obtain⟨p1,p2,p3⟩:=List.pairwise_append.1 hL
   refine List.pairwise_append.2 ⟨p1,List.pairwise_cons.2 ⟨hB,p2⟩,fun a ha b hb=>?_⟩
   rcases List.mem_cons.1 hb with rfl|hb
   ·exact hA a ha
   ·exact p3 a ha b hb
 unfold cu
 dsimp only
 refine Ok.pL (fun hgt=>?_) (fun hle=>?_)
 rotate_left
 ·have:A=[]:=List.eq_nil_of_length_eq_zero za
  subst this
  exact hdone sm
 rcases List.eq_nil_or_concat A with rfl|⟨A',y,rfl⟩
 ·simp at hgt
 simp only [List.length_append,List.length_cons,List.length_nil,List.append_assoc,List.cons_append,List.nil_append,List.concat_eq_append]at hAl hgt hdone⊢
 have hw:IntKind.wrap .i64 (((A'.length+(0+1):Nat):Int)-1)=(A'.length:Int):=by rw [w64 za za];omega
 rw [hw]
 have hin:inO (A'++y::x::(B++C)) ((A'.length+(0+1):Nat):Int)=some ():=qy za so
 have hin2:∀z,inO (A'++y::z::(B++C)) (A'.length:Int)=some ():=fun z=>qy za so
 rw [hin,zd,get2 A' y x (B++C) za,zd,hin2,zd,get1 A' y _ rfl,zd,lit1_eq,zd]
 refine Ok.pL (fun hlt=>?_) (fun hge=>?_)
 ·rw [zd,zd,zd,zd,zd,set2 A' y x y (B++C) za,zd,hin2,zd,set1 A' y x _ rfl,zd]
  rw [cmpI_neg]at hlt
  refine Ok.nx ⟨A',y::B,rfl,by simpa using hAB,fun b hb=>?_⟩ zc
  rcases List.mem_cons.1 hb with rfl|hb
  ·exact lx_lt hlt
  ·exact hB b hb
 ·refine hdone fun a ha=>?_
  rw [cmpI_neg]at hge
  have hy:y.aM<=x.aM:=Int.not_lt.1 hge
  have hmem:∀a∈A'++[y],a∈L:=fun a ha=>by
   rw [<-hAB]
   simp only [List.concat_eq_append]
   exact List.mem_append.2 (.inl ha)
  refine lx_le ?_ (hx a (hmem a ha))
  rw [List.mem_append,List.mem_singleton]at ha
  rcases ha with ha|rfl
  ·have:(A'++(y::B)).Pairwise lx:=by
    have:=hL
    rw [<-hAB]at this
    simpa using this
   have:=lx_early ((List.pairwise_append.1 this).2.2 a ha y sm)
   exact Int.le_trans this hy
  ·exact hy
theorem oD(d:List Pick)(hd:d.length<=1000)(hs:d.Pairwise (fun a b=>fj a b<0)):Ok (bo 0 (d.length:Int) d) (fun r=>r.Perm d∧r.Pairwise lx):=by
 unfold bo
 rw [w64 (n:=0+1) za za]
 refine Ok.bind (P:=fun r=>r.Perm d∧r.Pairwise lx) (Ok.loop (fun s=>∃(D C:List Pick),s=(((if d=[]then 1 else D.length:Nat):Int),D++C)∧(∃T,T++C=d∧D.Perm T)∧D.Pairwise lx∧(d≠ []->1<=D.length)) (fun s=>((d.length:Int)-s.1).toNat) ?_ ?_) (fun o ho=>Ok.ret ho)
 ·rintro s ⟨D,C,rfl,⟨T,hT,hp⟩,hsD,h1⟩
  unfold bY
  dsimp only
  have hpl:D.length+C.length=d.length:=by have:=hp.length_eq;have:=congrArg List.length hT;rw [List.length_append]at this;omega
  refine Ok.pL (fun hlt=>?_) (fun hge=>?_)
  ·have hne:d≠ []:=fun e=>by subst e;simp at hlt
   rw [if_neg hne]at hlt⊢
   rcases C with _|⟨x,C⟩
   ·simp at hpl;omega
   have hord:=hs
   rw [<-hT]at hord
   obtain⟨q1,q2,q3⟩:=List.pairwise_append.1 hord
   refine Ok.bind (sinner_ok D.length D C x hsD za fun a ha=>q3 a (hp.mem_iff.1 ha) x sm) (fun o ho=>?_)
   obtain⟨o1,D',o2,o3,o4⟩:=ho
   rw [o1,o2,w64 za za]
   have hl':D'.length=D.length+1:=by have:=o3.length_eq;simpa using this
   refine Ok.nx ⟨D',C,?_,⟨T++[x],by simpa using hT,?_⟩,o4,fun _=>za⟩ zc
   ·rw [if_neg hne,hl'];simp
   ·exact o3.trans (((List.Perm.cons x hp)).trans (List.perm_append_singleton x T).symm)
  ·rw [zd]
   have hperm:(D++C).Perm d:=by rw [<-hT];exact hp.append_right C
   refine Ok.st ⟨hperm,?_⟩
   by_cases hne:d=[]
   ·subst hne
    have:D++C=[]:=List.eq_nil_of_length_eq_zero (by simpa using hperm.length_eq)
    rw [this];exact .nil
   ·rw [if_neg hne]at hge
    have:C=[]:=List.eq_nil_of_length_eq_zero za
    subst this
    simpa using hsD
 ·by_cases hne:d=[]
  ·subst hne
   exact⟨[],[],sm,⟨[],rfl,.refl _⟩,.nil,fun h=>(h rfl).elim⟩
  ·refine⟨d.take 1,d.drop 1,?_,⟨d.take 1,List.take_append_drop 1 d,.refl _⟩,?_,fun _=>?_⟩
   ·rw [if_neg hne,List.take_append_drop]
    have:=List.length_pos_iff.2 hne
    simp;omega
   ·rcases d with _|⟨a,d⟩
    ·exact(hne rfl).elim
    ·simp
   ·have:=List.length_pos_iff.2 hne
    simp;omega
theorem insertion_end(n:Nat)(hn:n<=1000)(d:List Pick):bo (n:Int) (n:Int) d=some d:=by
 unfold bo
 rw [w64 za za]
 have:bY (n:Int) (n:Int) ((n:Int)+1,d)=some (.stop d):=by
  unfold bY
  dsimp only
  rw [if_neg so];rfl
 rw [pK this];rfl
theorem sstable_ok(d:List Pick)(hd:d.length<=20)(hs:d.Pairwise (fun a b=>fj a b<0)):Ok (cy d) (fun r=>r.Perm d∧r.Pairwise lx):=by
 unfold cy
 refine Ok.bind (P:=fun r=>r.Perm d∧r.Pairwise lx) ?_ (fun o ho=>Ok.ret ho)
 unfold dD
 have hend:∀r:List Pick,oC (de (d.length:Int) r) (20:Int)=some r:=fun r=>by
  refine pK ?_
  unfold de
  rw [if_neg so];rfl
 by_cases h20:d.length=20
 ·have e1:bF (d.length:Int) ((0:Int),(20:Int),d)=(bo 0 (d.length:Int) d).bind fun x8=>some (.next ((20:Int),(40:Int),x8)):=by
   unfold bF
   dsimp only
   rw [if_pos so,w64 za za]
   rw [h20];rfl
  obtain⟨r,e2,hr⟩:=oD d za hs
  rw [e2,zd]at e1
  have e3:bF (d.length:Int) ((20:Int),(40:Int),r)=some (.stop ((20:Int),r)):=by
   unfold bF
   dsimp only
   rw [if_neg so]
  rw [pZ e1,pK e3,zd]
  dsimp only
  have e4:=insertion_end 20 za r
  rw [h20]at hend⊢
  rw [show((20:Nat):Int)=20 from rfl]at e4 hend⊢
  rw [e4,zd,hend]
  exact Ok.ret hr
 ·have e3:bF (d.length:Int) ((0:Int),(20:Int),d)=some (.stop ((0:Int),d)):=by
   unfold bF
   dsimp only
   rw [if_neg so]
  rw [pK e3,zd]
  dsimp only
  refine Ok.bind (oD d za hs) (fun r hr=>?_)
  rw [hend]
  exact Ok.ret hr
theorem lastO_snoc{α:Type}(O:List α)(g:α):xS (O++[g])=some g:=by
 unfold xS
 simp
theorem tail_eq(O:List (List Pick))(g:List Pick)(p:Pick)(i:Int)(hO:O.length<=1000)(hg:g.length<=1000):
  ((xS (O++[g])).bind fun x13=>(inO (O++[g]) (IntKind.wrap .i64 (((O++[g]).length:Int)-(1:Int)))).bind fun x14=>(atO (IntKind.wrap .i64 (((O++[g]).length:Int)-(1:Int))) ((O++[g]).length-1)).bind fun x15=>(qq x13 [p] 104).bind fun x16=>(inO (O++[g]) (IntKind.wrap .i64 (((O++[g]).length:Int)-(1:Int)))).bind fun x17=>(stO (O++[g]).length (IntKind.wrap .i64 (((O++[g]).length:Int)-(1:Int))) ((O++[g]).length-1)).bind fun x18=>some (py.next (IntKind.wrap .i64 (i+(1:Int)),(O++[g]).set ((O++[g]).length-1) x16):py (Int×List (List Pick)) (List (List Pick))))
   =some (.next (IntKind.wrap .i64 (i+1),O++[g++[p]])):=by
 have hl:(O++[g]).length=O.length+1:=by simp
 have hw:IntKind.wrap .i64 (((O++[g]).length:Int)-1)=(O.length:Int):=by rw [hl,w64 za za];omega
 rw [hw,lastO_snoc,zd,qy za (by rw [hl];omega),zd,hl]
 have ha:atO (O.length:Int) (O.length+1-1)=some ():=by unfold atO;rw [if_pos sm]
 have hs:stO (O.length+1) (O.length:Int) (O.length+1-1)=some ():=by unfold stO;rw [if_pos sm]
 rw [ha,zd,eH (by simp only [List.length_cons,List.length_nil];omega),zd,zd,hs,zd]
 simp
def Gap(far:Int)(g h:List Pick):Prop:=∀b∈g,∀a∈h,far<a.aM-b.aM
structure BI(far:Int)(all:List Pick)(i:Nat)(out:List (List Pick)):Prop where
 flat:out.flatten=all.take i
 ne:∀g∈out,g≠ []
 gap:out.Pairwise (Gap far)
 pos:0<i->out≠ []
theorem len_le{out:List (List Pick)}(h:∀g∈out,g≠ []):out.length<=out.flatten.length:=by
 induction out with
 |nil=>simp
 |cons g out ih=>
  have:=List.length_pos_iff.2 (h g sm)
  have:=ih fun g hg=>h g (by simp [hg])
  rw [List.flatten_cons,List.length_append,List.length_cons];omega
theorem l36_ok(far:Int)(all:List Pick)(hl:all.length<=1000)(hs:all.Pairwise le1)(hr:∀p∈all,0<=p.aM∧p.aM<=18014398509481984):
  Ok (oC (fW all far) ((0:Int),[])) (BI far all all.length):=by
 refine Ok.loop (fun s=>∃i:Nat,s.1=i∧i<=all.length∧BI far all i s.2) (fun s=>((all.length:Int)-s.1).toNat) ?_ ⟨0,rfl,Nat.zero_le _,⟨sm,sm,.nil,fun h=>za⟩⟩
 rintro⟨s3,out⟩ ⟨i,rfl,hi,hB⟩
 unfold fW
 dsimp only
 refine Ok.pL (fun hlt=>?_) (fun hge=>?_)
 rotate_left
 ·have:i=all.length:=by omega
  subst this
  exact Ok.st hB
 have hlt:i<all.length:=by omega
 have hol:out.length<=1000:=by have:=len_le hB.ne;rw [hB.flat]at this;simp at this;omega
 have hgl:∀g∈out,g.length<=1000:=fun g hg=>by
  have h1:=(List.sublist_flatten_of_mem hg).length_le
  rw [hB.flat]at h1;simp at h1;omega
 have htake:all.take (i+1)=all.take i++[all[i]]:=qu hlt
 have hmem:∀g∈out,∀b∈g,∃j,∃h:j<i,all[j]'za=b:=fun g hg b hb=>by
  have:b∈all.take i:=by rw [<-hB.flat];exact List.mem_flatten.2 ⟨g,hg,hb⟩
  obtain⟨j,hj,e⟩:=List.getElem_of_mem this
  simp only [List.length_take]at hj
  rw [List.getElem_take]at e
  exact⟨j,za,e⟩
 have hord:∀{j k:Nat}(hk:k<all.length)(hjk:j<=k),(all[j]'za).aM<=all[k].aM:=fun{j k}hk hjk=>by
  by_cases e:j=k
  ·subst e;exact Int.le_refl _
  ·exact List.pairwise_iff_getElem.1 hs j k za hk za
 have hnew:(0<i->∃h:i-1<all.length,far<all[i].aM-(all[i-1]'h).aM)->BI far all (i+1) (out++[[all[i]]]):=fun hg=>by
  refine⟨by rw [List.flatten_append,hB.flat,htake];simp,fun g hg'=>?_,List.pairwise_append.2 ⟨hB.gap,List.pairwise_singleton _ _,fun g hg' h hh=>?_⟩,fun _=>sm⟩
  ·rcases List.mem_append.1 hg' with hg'|hg'
   ·exact hB.ne g hg'
   ·rw [List.mem_singleton]at hg';subst hg';simp
  ·rw [List.mem_singleton]at hh
   subst hh
   intro b hb a ha
   rw [List.mem_singleton]at ha
   subst ha
   obtain⟨j,hj,rfl⟩:=hmem g hg' b hb
   obtain⟨h1,h2⟩:=hg za
   have:=hord (j:=j) (k:=i-1) h1 za
   omega
 rw [qy za za,zd,pN (i:=i) rfl hlt,zd]
 have happ:qq out [[]] 24=some (out++[[]]):=eH (by simp only [List.length_cons,List.length_nil];omega)
 refine Ok.rF (fun h0=>?_) (fun h0=>?_)
 ·have h0:i=0:=by omega
  rw [happ,zd,tail_eq out [] all[i] i hol sm,w64 za za]
  refine Ok.nx ⟨i+1,sm,za,?_⟩ zc
  simpa using hnew fun h=>by omega
 ·have h0:0<i:=by omega
  have hi1:i-1<all.length:=by omega
  rw [w64 (n:=(i:Int)-1) za za,qy za za,zd,pN (i:=i-1) za hi1,zd]
  have r1:=hr _ (List.getElem_mem hlt)
  have r2:=hr _ (List.getElem_mem hi1)
  rw [w64 (n:=all[i].aM-(all[i-1]'hi1).aM) za za]
  refine Ok.pL (fun hfar=>?_) (fun hnear=>?_)
  ·rw [happ,zd,tail_eq out [] all[i] i hol sm,w64 za za]
   refine Ok.nx ⟨i+1,sm,za,?_⟩ zc
   simpa using hnew fun _=>⟨hi1,za⟩
  ·rcases List.eq_nil_or_concat out with rfl|⟨O,g,rfl⟩
   ·exact(hB.pos h0 rfl).elim
   rw [List.concat_eq_append]at hB hol hgl hmem⊢
   have hgne:=hB.ne g sm
   rw [tail_eq O g all[i] i (by simp at hol;omega) (hgl g sm),w64 za za]
   refine Ok.nx ⟨i+1,sm,za,?_⟩ zc
   obtain⟨p1,p2,p3⟩:=List.pairwise_append.1 hB.gap
   refine⟨?_,fun g' hg'=>?_,List.pairwise_append.2 ⟨p1,List.pairwise_singleton _ _,fun u hu h hh=>?_⟩,fun _=>sm⟩
   ·have:=hB.flat
    simp only [List.flatten_append,List.flatten_cons,List.flatten_nil,List.append_nil]at this⊢
    rw [htake, <-this,List.append_assoc]
   ·rcases List.mem_append.1 hg' with hg'|hg'
    ·exact hB.ne g' (by simp [hg'])
    ·rw [List.mem_singleton]at hg';subst hg';simp
   ·rw [List.mem_singleton]at hh
    subst hh
    intro b hb a ha
    rcases List.mem_append.1 ha with ha|ha
    ·exact p3 u hu g sm b hb a ha
    ·rw [List.mem_singleton]at ha
     subst ha
     rcases g with _|⟨c,g⟩
     ·exact(hgne rfl).elim
     have h1:=p3 u hu (c::g) sm b hb c sm
     obtain⟨j,hj,e⟩:=hmem (c::g) sm c sm
     have:=hord (j:=j) (k:=i) hlt za
     rw [e]at this
     omega
theorem l47_ok(out:List (List Pick))(hl:out.length<=1000)(hg:∀g∈out,g.length<=1000):
  Ok (oC (f4 out) ((0:Int),out)) (fun x=>x.length=out.length∧∀(j:Nat)(h:j<x.length)(h':j<out.length),x[j].Perm out[j]∧x[j].Pairwise (fun a b=>fj a b<=0)):=by
 refine Ok.loop (fun s=>∃i:Nat,s.1=i∧i<=out.length∧s.2.length=out.length∧∀(j:Nat)(h:j<s.2.length)(h':j<out.length),s.2[j].Perm out[j]∧(j<i->s.2[j].Pairwise (fun a b=>fj a b<=0))) (fun s=>((out.length:Int)-s.1).toNat) ?_ ⟨0,rfl,Nat.zero_le _,rfl,fun j h h'=>⟨.refl _,fun h=>za⟩⟩
 rintro⟨s1,cur⟩ ⟨i,rfl,hi,hlen,hc⟩
 unfold f4
 dsimp only at hlen hc⊢
 refine Ok.pL (fun hlt=>?_) (fun hge=>?_)
 rotate_left
 ·exact Ok.st ⟨hlen,fun j h h'=>⟨(hc j h h').1,(hc j h h').2 za⟩⟩
 have hlt:i<out.length:=by omega
 have hic:i<cur.length:=by omega
 have hat:atO (i:Int) (Int.toNat (i:Int))=some ():=by unfold atO;rw [if_pos rfl]
 obtain⟨hp, -⟩:=hc i hic hlt
 have hcl:cur[i].length<=1000:=by rw [hp.length_eq];exact hg _ (List.getElem_mem hlt)
 obtain⟨m,e1,e2,e3⟩:=sort_at hcl
 rw [pN (i:=i) rfl hic,zd,qy za za,zd,hat,zd,e1,zd,w64 za za]
 refine Ok.nx ⟨i+1,sm,za,by simpa using hlen,fun j h h'=>?_⟩ zc
 simp only [Int.toNat_natCast,List.length_set]at h⊢
 rw [List.getElem_set]
 by_cases hij:i=j
 ·subst hij
  rw [if_pos rfl]
  exact⟨e2.trans hp,fun _=>e3⟩
 ·rw [if_neg hij]
  exact⟨(hc j h h').1,fun hj=>(hc j h h').2 za⟩
theorem pg:∀{x y:List (List Pick)},x.length=y.length->(∀(j:Nat)(h:j<x.length)(h':j<y.length),x[j].Perm y[j])->x.flatten.Perm y.flatten
 | [],[],_,_=>.refl _
 | [],_::_,h,_=>by simp at h
 |_::_,[],h,_=>by simp at h
 |g::x,k::y,h,hp=>by
  have h0:=hp 0 sm sm
  have:=pg (x:=x) (y:=y) (by simpa using h) fun j h1 h2=>hp (j+1) so so
  simpa using h0.append this
structure Batched(far:Int)(l:List Pick)(x:List (List Pick)):Prop where
 flat:∃s:List Pick,cQ l=some s∧s.length<=l.length∧s.Pairwise (fun a b=>fj a b<0)∧(∀p,p∈s↔p∈l)∧x.flatten.Perm s
 ne:∀g∈x,g≠ []
 gap:x.Pairwise (Gap far)
 sorted:∀g∈x,g.Pairwise (fun a b=>fj a b<0)
theorem batches_ok(far:Int)(l:List Pick)(hl:l.length<=20)(hr:∀p∈l,fQ p):Ok (fV far l) (Batched far l):=by
 unfold fV
 obtain⟨s,e1,e2,e3,e4⟩:=pa (l:=l) za
 rw [e1,zd]
 refine Ok.bind (sstable_ok s za e2) (fun all ha=>?_)
 have hal:all.length=s.length:=ha.1.length_eq
 refine Ok.bind (l36_ok far all za (ha.2.imp fun h=>lx_early h) fun p hp=>?_) (fun out hB=>?_)
 ·have:=hr p ((e3 p).1 (ha.1.mem_iff.1 hp))
  exact⟨this.2.1,by have:=this.2.2;omega⟩
 have hflat:out.flatten=all:=by rw [hB.flat];simp
 have hol:out.length<=1000:=by have:=len_le hB.ne;rw [hflat]at this;omega
 refine Ok.bind (l47_ok out hol fun g hg=>?_) (fun x hx=>?_)
 ·have h1:=(List.sublist_flatten_of_mem hg).length_le
  rw [hflat]at h1;omega
 obtain⟨hxl,hxp⟩:=hx
 have hperm:x.flatten.Perm s:=(pg hxl fun j h h'=>(hxp j h h').1).trans (by rw [hflat];exact ha.1)
 have hnd:s.Nodup:=e2.imp fun{a b}h e=>by
  subst e
  have:=cr.refl a
  omega
 refine Ok.ret ⟨⟨s,e1,za,e2,e3,hperm⟩,fun g hg=>?_,?_,fun g hg=>?_⟩
 ·obtain⟨j,hj,rfl⟩:=List.getElem_of_mem hg
  have h1:=(hxp j hj za).1
  intro e
  rw [e]at h1
  exact hB.ne _ (List.getElem_mem za) h1.nil_eq.symm
 ·rw [List.pairwise_iff_getElem]
  intro j k hj hk hjk b hb a ha'
  have h1:=List.pairwise_iff_getElem.1 hB.gap j k za za hjk
  exact h1 b ((hxp j hj za).1.mem_iff.1 hb) a ((hxp k hk za).1.mem_iff.1 ha')
 ·obtain⟨j,hj,rfl⟩:=List.getElem_of_mem hg
  have h1:=(hxp j hj za).2
  have hn:x[j].Nodup:=(hperm.nodup_iff.2 hnd).sublist (List.sublist_flatten_of_mem (List.getElem_mem hj))
  refine(h1.and hn).imp fun{a b}h=>?_
  obtain⟨h2,h3⟩:=h
  rcases Int.lt_or_eq_of_le h2 with h4|h4
  ·exact h4
  ·exact(h3 (jk h4)).elim
end Go.Dw.Ed
set_option maxRecDepth 100000
set_option maxHeartbeats 4000000
namespace Go.Dw.Ed
open Go.Dw Go.Proofs
theorem valid_all{l:List Pick}(hl:l.length<=1000)(h:∀p∈l,fQ p):im l=some true:=by
 unfold im dR eE
 have:Ok (oC (dS l) (0:Int)) (fun o=>o= .inl ()):=by
  refine Ok.upto l.length za (fun _=>True) trivial (fun i h0 h1 _=>?_)
  unfold dS
  refine Ok.pL (fun hlt=>?_) (fun _=>Ok.st rfl)
  refine Ok.bind (Ok.get za za) (fun p hp=>?_)
  unfold gB
  rw [nk (h p hp.1),zd,zd,if_neg sm,w64 za za]
  exact Ok.nx ⟨⟨za,za⟩,trivial⟩ za
 rw [this.eq];rfl
theorem Batches_ok(n:Int)(h0:0<=n)(h1:n<=1099511627776)(l:List Pick)(hl:l.length<=20)(hr:∀p∈l,fQ p):Ok (fT n l) (fun r=>r.2=0∧Batched n l r.1):=by
 unfold fT
 refine Ok.pL (fun _=>za) (fun _=>Ok.pL (fun _=>za) (fun _=>?_))
 rw [valid_all za hr,zd,if_neg sm]
 exact Ok.bind (batches_ok n l hl hr) fun x hx=>Ok.ret ⟨rfl,hx⟩
end Go.Dw.Ed
set_option maxRecDepth 100000
set_option maxHeartbeats 4000000
namespace Go.Dw.Ed
open Go.Dw Go.Proofs
open Sd (mU jz il)
noncomputable def usedE (s:aq) (p:Pick):Option ar->al×ar×Bool
 |none=>(⟨⟨0,0,0⟩,0,0,0⟩,zEp,false)
 |some e=>if(((dj s.ai.bc s.ai.aK ⟨e.aW,p.aM,p.bv,1⟩).getD (⟨0,0⟩,0)).2 != (0:Int))=true then(⟨⟨0,0,0⟩,0,0,0⟩,zEp,false)else(⟨e.aW,p.aM,p.bv,1⟩,e,true)
theorem used_eq{s:aq}(hs:iZ s){v:ap}(hv:iH v){p:Pick}(hp:fQ p):used s v p=usedE s p (lR v p.aA p.a7):=by
 have h1:=(mf hs hv hp).1
 unfold dI at h1
 rw [nk hp,zd,if_neg sm,At_eq hv.lens (jl hv),zd]at h1
 cases h:lR v p.aA p.a7 with
 |none=>
  rw [h]at h1
  dsimp only at h1
  rw [if_pos sm]at h1
  exact(Option.some.inj h1).symm
 |some e=>
  rw [h]at h1
  dsimp only at h1
  rw [if_neg sm]at h1
  have he:=epAt_ok hv h
  obtain⟨z,ez, -⟩:=pG hs.tab hs.box (a:=⟨e.aW,p.aM,p.bv,1⟩) (pz he hp)
  rw [ez,zd]at h1
  show _=if(((dj s.ai.bc s.ai.aK ⟨e.aW,p.aM,p.bv,1⟩).getD (⟨0,0⟩,0)).2 != (0:Int))=true then _ else _
  rw [ez]
  simp only [Option.getD_some]
  split at h1<;>rename_i hc
  ·rw [if_pos hc];exact(Option.some.inj h1).symm
  ·rw [if_neg hc];exact(Option.some.inj h1).symm
structure Alike(s:aq)(v w:ap)(p:Pick):Prop where
 ph:phU s w p=phU s v p
 us:(used s w p).2.2=(used s v p).2.2
 resp:(used s w p).2.1.bg=(used s v p).2.1.bg
theorem alike{s:aq}(hs:iZ s){v w:ap}(hv:iH v)(hw:iH w){p:Pick}(hp:fQ p)(h:¬Chg v w p):Alike s v w p:=by
 have h':(lR v p.aA p.a7).map epPR=(lR w p.aA p.a7).map epPR:=Classical.not_not.1 h
 have e1:=used_eq hs hv hp;have e2:=used_eq hs hw hp
 have key:(used s w p).1=(used s v p).1∧(used s w p).2.2=(used s v p).2.2∧(used s w p).2.1.bg=(used s v p).2.1.bg:=by
  rw [e1,e2]
  cases h1:lR v p.aA p.a7 with
  |none=>
   cases h2:lR w p.aA p.a7 with
   |none=>exact⟨rfl,rfl,rfl⟩
   |some b=>rw [h1,h2]at h';cases h'
  |some a=>
   cases h2:lR w p.aA p.a7 with
   |none=>rw [h1,h2]at h';cases h'
   |some b=>
    rw [h1,h2]at h'
    have h3:epPR a=epPR b:=Option.some.inj h'
    have h4:a.aW=b.aW:=congrArg Prod.fst h3
    have h5:a.bg=b.bg:=congrArg Prod.snd h3
    simp only [usedE,h4]
    split
    ·exact⟨rfl,rfl,rfl⟩
    ·exact⟨rfl,rfl,h5.symm⟩
 exact⟨key.1,key.2.1,key.2.2⟩
theorem sol_alike{s:aq}{v w:ap}{m:List Pick}(h:∀p∈m,Alike s v w p):sol s w m=sol s v m:=by
 have e1:(mat s w m).cx=(mat s v m).cx:=List.map_congr_left fun p hp=>(h p hp).ph
 have e2:(mat s w m).f7.map (·.bg)=(mat s v m).f7.map (·.bg):=by
  show(m.map _).map _=(m.map _).map _
  rw [List.map_map,List.map_map]
  exact List.map_congr_left fun p hp=>(h p hp).resp
 have e3:mat s w m=⟨(mat s v m).db,(mat s v m).cx,(mat s w m).f7⟩:=by rw [<-e1];rfl
 unfold sol
 rw [e3,solve_resp e2]
theorem rnd_alike{s:aq}{v w:ap}{O:List Pick}(h:∀p∈O,Alike s v w p):nY s w O=nY s v O:=by
 have := nh (least := s.ai.cN.toNat) (win := nl (fun p => (phU s v p).aM) s.ai.dn) (mem := mJ s.ai (phU s v)) (win' := nl (fun p => (phU s w p).aM) s.ai.dn) (mem' := mJ s.ai (phU s w)) (f := fun p : Pick => p) O (fun _ _ _ _ h => h) (win_ok _ _ _) O.length O (List.Sublist.refl _) (fun l' hl' =>
  ⟨winK_map l' fun x hx=>by rw [(h x (hl'.subset hx)).ph],memK_map fun x hx=>(h x (hl'.subset ((pF _ _ l').subset hx))).ph⟩)
 unfold nY
 simpa using this
theorem ord_alike{s:aq}{v w:ap}{U:List Pick}(hU:U.Nodup)(h:∀p∈U,Alike s v w p):jR s w U=jR s v U:=by
 have h1:(jR s w U).Pairwise fun x y=>cmpA s w x y<0:=fg (nF s w) (fun _ _=>cmpA_zero) hU
 have h2:(jR s v U).Pairwise fun x y=>cmpA s v x y<0:=fg (nF s v) (fun _ _=>cmpA_zero) hU
 have m1:∀x,x∈jR s w U↔x∈U:=fun x=>(b8 _ U).mem_iff
 have m2:∀x,x∈jR s v U↔x∈U:=fun x=>(b8 _ U).mem_iff
 refine iQ (nF s v) (h1.imp_of_mem fun{x y}hx hy hxy=>?_) h2 fun x=>by rw [m1,m2]
 unfold cmpA at hxy⊢
 rw [(h x ((m1 x).1 hx)).ph,(h y ((m1 y).1 hy)).ph]at hxy
 exact hxy
theorem found_alike{s:aq}(hs:iZ s){v w:ap}{U:List Pick}(hU:U.Pairwise fun x y=>fj x y<0)(h:∀p∈U,Alike s v w p):fE s w U=fE s v U∧fR s w U=fR s v U:=by
 have hnd:=gj cr hU
 have e1:=ord_alike hnd h
 have e2:=rnd_alike (s:=s) (v:=v) (w:=w) (O:=jR s v U) fun p hp=>h p ((b8 _ U).mem_iff.1 hp)
 refine⟨?_,by unfold fR;rw [e1,e2]⟩
 unfold fE
 rw [e1,e2]
 congr 1
 refine List.map_congr_left fun g hg=>?_
 have hsub:∀p∈g,p∈U:=fun p hp=>(lZ hs (v:=v) hU).mem_iff.1 (List.mem_append.2 (.inl ((List.sublist_flatten_of_mem hg).subset hp)))
 unfold evM
 rw [sol_alike (v:=v) fun p hp=>h p (hsub p ((b8 _ g).mem_iff.1 hp))]
theorem usable_alike{s:aq}{v w:ap}{L:List Pick}(h:∀p∈L,Alike s v w p):b7 s w L=b7 s v L:=List.filter_congr fun p hp=>(h p hp).us
theorem changed_loop{v w:ap}(hv:iH v)(hw:iH w)(g:List Pick)(hl:g.length<=1000){a b:ac}(s8:Int):oC (cw g (v,a) (w,b) s8) (false,(0:Int))=some (s8,g.any (fun p=>decide (Chg v w p)),s8):=by
 have key:∀(k i:Nat)(c:Bool),i+k=g.length->c=(g.take i).any (fun p=>decide (Chg v w p))->oC (cw g (v,a) (w,b) s8) (c,(i:Int))=some (s8,g.any (fun p=>decide (Chg v w p)),s8):=by
  intro k
  induction k with
  |zero=>
   intro i c hi hc
   obtain rfl:i=g.length:=by omega
   rw [List.take_length]at hc
   subst hc
   refine pK ?_
   unfold cw
   dsimp only
   rw [if_neg sm]
  |succ k ih=>
   intro i c hi hc
   have hlt:i<g.length:=by omega
   have hbody:cw g (v,a) (w,b) s8 (c,(i:Int))=some (.next (c||decide (Chg v w g[i]),((i+1:Nat):Int))):=by
    unfold cw
    dsimp only
    rw [if_pos so,pN (i:=i) rfl hlt,zd,w64 za za]
    cases c with
    |true=>rfl
    |false=>
     rw [if_neg sm,Changed_eq hv.lens hw.lens (jl hv) (jl hw),zd]
     simp
   rw [pZ hbody]
   refine ih (i+1) _ za ?_
   rw [hc,qu hlt,List.any_append]
   simp
 exact key g.length 0 false za sm
theorem oE(a0:List Int):gO a0=some true:=by
 refine Ok.eq ?_
 unfold gO
 refine Ok.bind (new_ok a0) (fun x1 h1=>?_)
 refine Ok.bind ((settingsV (k:=3) za x1 h1).both (settings_ok (k:=3) za x1 h1)) (fun x2⟨⟨ha,h2⟩,hset,_⟩=>?_)
 refine Ok.bind (sitesV x2.2 h2) (fun x3⟨hv,h3⟩=>?_)
 refine Ok.bind (picks_ok x2.1 hset x3.1 hv.inv 8 za x3.2 h3) (fun x4⟨⟨l4,p4⟩,h4⟩=>?_)
 refine Ok.bind (correctedV x3.1 hv x4.2 h4) (fun x5⟨hw,h5⟩=>?_)
 have hsp:=ha.span
 refine Ok.bind (Batches_ok x2.1.ai.dn hsp.1 za x4.1 za p4) (fun x6⟨e6,hB⟩=>?_)
 rw [if_neg (by simp [e6])]
 obtain⟨t,et,lt,st,mt,pt⟩:=hB.flat
 have hlen:x6.1.flatten.length<=8:=by have:=pt.length_eq;omega
 have hx6:x6.1.length<=8:=by
  have key:∀X:List (List Pick),(∀g∈X,g≠ [])->X.length<=X.flatten.length:=by
   intro X
   induction X with
   |nil=>intro _;simp
   |cons x X ih=>
    intro h
    have h1:=ih fun g hg=>h g (List.mem_cons_of_mem _ hg)
    have h2:=List.length_pos_iff.2 (h x sm)
    rw [List.flatten_cons,List.length_append,List.length_cons];omega
  have:=key x6.1 hB.ne
  omega
 have hg:∀g∈x6.1,g.length<=8∧∀p∈g,fQ p:=fun g hg=>by
  have hs:=List.sublist_flatten_of_mem hg
  exact⟨by have:=hs.length_le;omega,fun p hp=>p4 p ((mt p).1 (pt.mem_iff.1 (hs.subset hp)))⟩
 obtain⟨v,sv⟩:=x3
 obtain⟨w,sw⟩:=x5
 simp only at hv hw
 have hb1:∀i:Nat,i<x6.1.length->c6 x6 (v,sv) (w,sw) x2 (i:Int)=some (.next ((i+1:Nat):Int)):=fun i hi=>by
  obtain⟨gl,gp⟩:=hg _ (List.getElem_mem hi)
  unfold c6
  rw [if_pos so,pN (i:=i) rfl hi,zd,changed_loop hv hw _ za,zd]
  dsimp only
  rw [w64 za za]
  by_cases hc:(x6.1[i]).any (fun p=>decide (Chg v w p))=true
  ·rw [if_pos hc];rfl
  ·rw [if_neg hc]
   have hal:∀p∈x6.1[i],Alike x2.1 v w p:=fun p hp=>alike ha hv hw (gp p hp) fun h=>hc (List.any_eq_true.2 ⟨p,hp,by simpa using h⟩)
   obtain⟨L,eL,sL,mL,nL,hU,hus,hUl,hf⟩:=find_ok ha hv (l:=x6.1[i]) za gp
   obtain⟨L',eL', -, -, -, -, -, -,hf'⟩:=find_ok ha hw (l:=x6.1[i]) za gp
   rw [eL]at eL'
   obtain rfl:=Option.some.inj eL'
   have e1:b7 x2.1 w L=b7 x2.1 v L:=usable_alike fun p hp=>hal p ((mL p).1 hp)
   obtain⟨e2,e3⟩:=found_alike ha (v:=v) (w:=w) hU fun p hp=>hal p ((mL p).1 (List.mem_filter.1 hp).1)
   rw [e1,e2,e3]at hf'
   obtain⟨q1,q2⟩:=found_same ha hv hU hus za
   rw [pN (i:=i) rfl hi,zd,hf,zd,zd,hf',zd,if_neg sm,q1,zd,if_neg sm,q2,zd,if_neg sm]
   rfl
 have hb2:c6 x6 (v,sv) (w,sw) x2 ((x6.1.length:Nat):Int)=some (.stop (.inl ())):=by
  unfold c6
  rw [if_neg sm]
 rw [jm x6.1.length hb1 hb2,zd]
 exact Ok.ret rfl
end Go.Dw.Ed
