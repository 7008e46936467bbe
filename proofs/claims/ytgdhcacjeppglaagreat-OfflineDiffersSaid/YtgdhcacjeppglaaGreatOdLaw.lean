
import Derived.Test.YtgdhcacjeppglaaGreatOdFn
import Derived.Test.YtgdhcacjeppglaaGreatDwPlain
import Derived.Test.YtgdhcacjeppglaaGreatDwOk
set_option linter.unusedVariables false
set_option linter.unusedSimpArgs false
open Go.Dw.Ok renaming app->CG, bind->CH, get->CI, iteD->CJ, loop->CK, nx->CL, ret->CM
open List renaming append_nil->BF, drop_eq_getElem_cons->CN, drop_of_length_le->CO, drop_zero->CP, filter_cons->CQ, filter_eq_nil_iff->CR, findIdx?_cons->CS, getElem?_zip_eq_some->CT, getElem_mem->Ah, length_append->BH, length_cons->AY, length_drop->Av, length_filter_le->CU, length_map->B7, length_nil->AZ, map_eq_nil_iff->CV, mem_cons_of_mem->CW, mem_cons_self->Bb, nil_append->A5, not_mem_nil->CX, set_set->CY
open Bool renaming and_eq_true->Ac, and_true->BS, eq_iff_iff->CZ, false_eq_true->Aj
open Option.some renaming inj->BT, injEq->AD

set_option maxRecDepth 100000
set_option maxHeartbeats 4000000
namespace Go.Dw.Od
open Go.Dw
abbrev Src:=aa
abbrev Pick:=ac
abbrev Ev:=ae
theorem mod_ok(a b:Int)(f:1<=b)(h1:b<=1000000000):Ok (bR a b) (fun r=>0<=r∧r<b):=by
 unfold bR
 have hl:a.tmod b<b:=Int.tmod_lt_of_pos _ om
 have g: -b<a.tmod b:=by
  rcases Int.le_total 0 a with h|h
  ·have:=Int.tmod_nonneg b h;omega
  ·have e:a.tmod b= -((-a).tmod b):=by rw [Int.neg_tmod];omega
   have:=Int.tmod_lt_of_pos (-a) (show 0<b by omega)
   omega
 refine CJ (fun _=>om) (fun _=>?_)
 refine CH (Ok.rem om) (fun x c=>?_)
 subst c
 refine CJ (fun _=>?_) (fun _=>?_)
 ·rw [w64 om om]
  exact CM om
 ·exact CM om
def bw(d:Src):Prop:=0<=d.fAt∧d.fAt<=d.fL.length∧d.fL.length<=2000
theorem raw_ok(d:Src)(hd:bw d):Ok (Src_Raw d) (fun r=>bw r.2):=by
 obtain⟨b,h1,a⟩:=hd
 unfold Src_Raw
 refine CJ (fun _=>CM ⟨b,h1,a⟩) (fun h=>?_)
 rw [w64 (n:=d.fAt+1) om om,w64 om om]
 refine CH (CI om om) (fun x _=>?_)
 refine CM ⟨?_,?_,a⟩<;>simp only<;>omega
theorem cb(k:Int)(d:Src)(hd:bw d)(b:1<=k)(h1:k<=1000000000):Ok (bz k d) (fun r=>0<=r.1∧r.1<k∧bw r.2):=by
 unfold bz
 refine CH (raw_ok d hd) (fun x c=>?_)
 refine CH (mod_ok _ _ b h1) (fun y a=>?_)
 exact CM ⟨a.1,a.2,c⟩
theorem pick_ok(l:List Int)(d:Src)(hd:bw d)(b:l≠ [])(h1:l.length<=1000000):Ok (bZ l d) (fun r=>r.1∈l∧bw r.2):=by
 unfold bZ
 have:=List.length_pos_iff.2 b
 refine CH (cb _ d hd om om) (fun x a=>?_)
 refine CH (CI a.1 a.2.1) (fun y c=>?_)
 exact CM ⟨c.1,a.2.2⟩
theorem new_ok(l:List Int):Ok (ca l) bw:=by
 unfold ca
 refine CH (Ok.cut om (by split<;>omega) (by split<;>omega)) (fun x a=>?_)
 subst a
 refine CM ⟨sm,sm,?_⟩
 simp only [List.length_take,Av]
 split<;>omega
theorem place_ok(d:Src)(hd:bw d):Ok (bU 20 d) (fun r=>bw r.2):=by
 unfold bU
 rw [w64 (n:=2*20) om om,w64 (n:=2*20+1) om om,w64 (n:=20+1) om om]
 refine CH (cb _ _ hd om om) (fun a g1=>?_)
 refine CH (cb _ _ g1.2.2 om om) (fun b g2=>?_)
 refine CH (cb _ _ g2.2.2 om om) (fun c g3=>?_)
 rw [w64 (n:=a.1-20) om om,w64 (n:=b.1-20) om om]
 exact CM g3.2.2
theorem modO_at{α:Type}{l:List α}{n:Int}{x:α}{f:α->α}(a:0<=n)(b:l[n.toNat]? =some x):modO l n f=some (l.set n.toNat (f x)):=by
 unfold modO
 rw [if_pos a,b]
theorem set_at{α:Type}{l:List α}{i:Nat}{x y:α}(a:l[i]? =some x):(l.set i y)[i]? =some y:=by
 obtain⟨h, -⟩:=List.getElem?_eq_some_iff.1 a
 rw [List.getElem?_set_self h]
theorem source_at{i:Int}(a:0<=i)(h1:i<4):∃s,bS i=some s:=by
 rcases(by omega:i=0∨i=1∨i=2∨i=3)with rfl|rfl|rfl|rfl
 ·exact⟨⟨[65,66],[83,49],[48,48],[66,72,90]⟩,by kernel_rfl⟩
 ·exact⟨⟨[65,66],[83,50],[48,48],[66,72,90]⟩,by kernel_rfl⟩
 ·exact⟨⟨[65,66],[83,51],[48,48],[66,72,90]⟩,by kernel_rfl⟩
 ·exact⟨⟨[65,66],[83,52],[48,48],[66,72,90]⟩,by kernel_rfl⟩
theorem event_gen(d:Src)(hd:bw d):Ok (bT 1 d) (fun r=>(1<=r.1.ai.aM.length∧r.1.ai.aM.length<=4)∧bw r.2):=by
 unfold bT
 refine CH (cb _ _ hd om om) (fun G h1=>?_)
 refine CH (P:=fun o=>bw ⟨o.1,o.2.1⟩∧(1<=o.2.2.length∧o.2.2.length<=4)) (CK (fun s=>0<=s.1∧s.1<=4∧s.2.2.2.length=s.1.toNat∧bw ⟨s.2.1,s.2.2.1⟩) (fun s=>(4-s.1).toNat) ?_ ⟨za,za,rfl,h1.2.2⟩) ?_
 ·rintro⟨s2,C,D,E⟩ ⟨i0,i1,i2,i3⟩
  simp only at i0 i1 i2 i3
  unfold bH
  refine CH (cb _ _ i3 om om) (fun B g1=>?_)
  rw [w64 (n:=1+B.1) om om]
  refine CJ (fun a=>?_) (fun a=>?_)
  ·obtain⟨F,j⟩:=source_at i0 om
   rw [j,zb]
   refine CH (cb _ _ g1.2.2 om om) (fun H g3=>?_)
   refine CH (CG (by simp only [AY,AZ];omega)) (fun I g5=>?_)
   subst g5
   rw [w64 (n:=s2+1) om om]
   exact CL ⟨za,za,by simp only [BH,AY,AZ];omega,g3.2.2⟩ za
  ·exact Ok.st ⟨g1.2.2,za⟩
 ·intro o ho
  obtain⟨m,k⟩:=ho
  refine CH (Ok.isin om om) (fun _ _=>?_)
  refine CH (CI om om) (fun p l=>?_)
  refine CH (place_ok _ m) (fun q c=>?_)
  refine CH (cb _ _ c om om) (fun u e=>?_)
  refine CH (pick_ok _ _ e.2.2 sm sm) (fun v f=>?_)
  refine CH (cb _ _ f.2 om om) (fun x b=>?_)
  refine CJ (fun a=>?_) (fun a=>?_)
  ·refine CH (cb _ _ b.2.2 om om) (fun y g=>?_)
   refine CH (cb _ _ g.2.2 om om) (fun z i=>?_)
   exact CM ⟨k,i.2.2⟩
  ·exact CM ⟨k,b.2.2⟩
theorem events_g30{e:Ev}{d:Src}(hl:e.ai.aM.length<=4)(i:Int)(p:0<=i)(q:i<=5)(es:List Ev):
  Ok (dk (bF (e,d) i es) ((0:Int),e.ai.aM)) (fun o=>o.1=i∧o.2.1=es∧o.2.2.length=e.ai.aM.length∧∀(j:Nat)(h:j<o.2.2.length),o.2.2[j].aG=1000+400*i+j):=by
 refine CK (fun s=>0<=s.1∧s.1<=e.ai.aM.length∧s.2.length=e.ai.aM.length∧∀(j:Nat)(h:j<s.2.length),(j:Int)<s.1->s.2[j].aG=1000+400*i+j) (fun s=>((e.ai.aM.length:Int)-s.1).toNat) ?_ ⟨Int.le_refl _,za,rfl,fun j _ h=>by simp only at h;omega⟩
 rintro⟨k,r⟩ ⟨i0,i1,i2,i3⟩
 simp only at i0 i1 i2 i3
 unfold bF
 refine CJ (fun l=>?_) (fun c=>Ok.st ⟨rfl,rfl,i2,fun j h=>i3 j h (by simp only at c h;omega)⟩)
 simp only at l
 refine CH (Ok.isin i0 om) (fun _ _=>?_)
 have a:k.toNat<r.length:=by omega
 have b:=zc a
 rw [modO_at i0 b,zb,modO_at i0 (set_at b),zb,CY,modO_at i0 (set_at b),zb,CY,modO_at i0 (set_at b),zb,CY]
 rw [w64 (n:=400*i) om om,w64 (n:=1000+400*i) om om,w64 (n:=1000+400*i+k) om om,w64 (n:=1000+400*i+k+2) om om,w64 (n:=k+1) om om]
 refine CL ⟨za,za,by simpa using i2,?_⟩ za
 intro j f g
 simp only at f g⊢
 rw [List.length_set]at f
 rw [List.getElem_set]
 by_cases m:k.toNat=j
 ·rw [if_pos m]
  simp only
  omega
 ·rw [if_neg m]
  exact i3 j f om
structure GenEv(n:Int)(e:Ev):Prop where
 len:e.ai.aM.length<=4
 time:1000+400*n<=e.al.aG∧e.al.aG<=1003+400*n
structure GenEvs(es:List Ev):Prop where
 len:es.length<=5
 gen:∀e∈es,e.ai.aM.length<=4
 asc:es.Pairwise fun a b=>a.al.aG<b.al.aG
theorem events_gen(d:Src)(hd:bw d):Ok (bD 5 d) (fun r=>GenEvs r.1∧bw r.2):=by
 unfold bD
 refine CH (P:=fun o=>GenEvs o.1∧bw ⟨o.2.1,o.2.2⟩) (CK (fun s=>(0<=s.1∧s.1<=5)∧bw ⟨s.2.1,s.2.2.1⟩∧s.2.2.2.length<=s.1.toNat∧(∀e∈s.2.2.2,∃n:Int,0<=n∧n<s.1∧GenEv n e)∧s.2.2.2.Pairwise (fun a b=>a.al.aG<b.al.aG)) (fun s=>(5-s.1).toNat) ?_ ⟨⟨Int.le_refl _,za⟩,hd,sm,sm,sm⟩) (fun o ho=>CM ho)
 rintro⟨i,L,a,es⟩ ⟨⟨i0,i1⟩,i2,i3,i4,i5⟩
 simp only at i0 i1 i2 i3 i4 i5
 unfold bM
 refine CJ (fun J=>?_) (fun _=>Ok.st ⟨⟨za,fun e he=>by obtain⟨n,h1,v,g⟩:=i4 e he;exact g.len,i5⟩,i2⟩)
 have m:∀e∈es,∃n:Int,0<=n∧n<i+1∧GenEv n e:=fun e he=>by obtain⟨n,h1,v,g⟩:=i4 e he;exact⟨n,h1,om,g⟩
 refine CH (cb _ _ i2 om om) (fun Y h1=>?_)
 refine Ok.iteE (fun _=>?_) (fun _=>?_)
 ·rw [w64 om om]
  exact CL ⟨za,h1.2.2,za,m,i5⟩ za
 ·refine CH (event_gen _ h1.2.2) (fun p v=>?_)
  obtain⟨⟨I,z⟩,y⟩:=v
  refine CH (events_g30 (d:=p.2) z i i0 i1 es) (fun o ho=>?_)
  obtain⟨T,U,N,W⟩:=ho
  refine CH (cb _ _ y om om) (fun C g=>?_)
  rw [w64 (n:=(o.2.2.length:Int)-1) om om]
  generalize O:(if(o.2.2.length:Int)-1<C.1 then(o.2.2.length:Int)-1 else C.1)=q
  have Q:0<=q∧q<=1∧q<(o.2.2.length:Int):=by subst O;split<;>omega
  refine CH (Ok.cut om om om) (fun u E=>?_)
  have j:u=o.2.2.drop q.toNat:=by
   rw [E,List.take_of_length_le sm]
  have B:u.length=o.2.2.length-q.toNat:=by rw [j,Av]
  refine CH (CI om om) (fun D F=>?_)
  rw [T,U]
  refine CH (CG (by simp only [AY,AZ];omega)) (fun x6 G=>?_)
  subst G
  rw [w64 om om]
  have ht:D.aG=1000+400*i+q:=by
   have k:=F.2
   rw [j,Int.toNat_zero,List.getElem?_drop,Nat.add_zero]at k
   obtain⟨l,x⟩:=List.getElem?_eq_some_iff.1 k
   rw [<-x,W _ l]
   omega
  have f:GenEv i ⟨D,⟨u,p.1.ai.ah,p.1.ai.aq,p.1.ai.aU⟩⟩:=⟨by show u.length<=4;omega,za⟩
  refine CL ⟨za,g.2.2,by simp only [BH,AY,AZ];omega,?_,?_⟩ za
  ·intro e c
   rcases List.mem_append.1 c with c|c
   ·exact m e c
   ·obtain rfl:=List.mem_singleton.1 c
    exact⟨i,i0,za,f⟩
  ·simp only
   rw [List.pairwise_append]
   refine⟨i5,List.pairwise_singleton _ _,fun a H b hb=>?_⟩
   obtain rfl:=List.mem_singleton.1 hb
   obtain⟨n,X,n1,K⟩:=i4 a H
   have t1:=K.time
   have t2:=f.time
   simp only at t2⊢
   omega
end Go.Dw.Od
namespace Go.Dw.Od
section
variable {α κ:Type} [DecidableEq α] [DecidableEq κ] (nm:α->κ)(t:κ->Int)
def Asc(l:List α):Prop:=l.Pairwise fun a b=>t (nm a)<t (nm b)
omit [DecidableEq κ]in
theorem asc_inj{l:List α}(h:Asc nm t l){a b:α}(g:a∈l)(hb:b∈l)(he:nm a=nm b):a=b:=by
 induction l with
 |nil=>cases g
 |cons x r j=>
  obtain⟨h1,i⟩:=List.pairwise_cons.1 h
  rcases List.mem_cons.1 g with c|e<;>rcases List.mem_cons.1 hb with e2|f
  ·rw [c,e2]
  ·have:=h1 b f;rw [<-c,he]at this;omega
  ·have:=h1 a e;rw [<-e2,he]at this;omega
  ·exact j i e f
theorem asc_ext{l m:List κ}(hl:l.Pairwise fun a b=>t a<t b)(hm:m.Pairwise fun a b=>t a<t b)(h:∀x,x∈l↔x∈m):l=m:=by
 induction l generalizing m with
 |nil=>cases m with
  |nil=>rfl
  |cons y m=>exact absurd ((h y).2 (Bb ..)) CX
 |cons x l q=>
  cases m with
  |nil=>exact absurd ((h x).1 (Bb ..)) CX
  |cons y m=>
   obtain⟨f,j⟩:=List.pairwise_cons.1 hl
   obtain⟨g,k⟩:=List.pairwise_cons.1 hm
   have n:x=y:=by
    rcases List.mem_cons.1 ((h x).1 (Bb ..))with e|o
    ·exact e
    ·rcases List.mem_cons.1 ((h y).2 (Bb ..))with e|p
     ·exact e.symm
     ·have r:=g x o
      have a2:=f y p
      omega
   subst n
   congr 1
   refine q j k fun z=>⟨fun i=>?_,fun i=>?_⟩
   ·rcases List.mem_cons.1 ((h z).1 (CW _ i))with e|c
    ·subst e;have:=f z i;omega
    ·exact c
   ·rcases List.mem_cons.1 ((h z).2 (CW _ i))with e|c
    ·subst e;have:=g z i;omega
    ·exact c
omit [DecidableEq κ]in
theorem asc_ext'{l m:List α}(hl:Asc nm t l)(hm:Asc nm t m)(h:∀x,x∈l↔x∈m):l=m:=by
 induction l generalizing m with
 |nil=>cases m with
  |nil=>rfl
  |cons y m=>exact absurd ((h y).2 (Bb ..)) CX
 |cons x l o=>
  cases m with
  |nil=>exact absurd ((h x).1 (Bb ..)) CX
  |cons y m=>
   obtain⟨b,g⟩:=List.pairwise_cons.1 hl
   obtain⟨c,i⟩:=List.pairwise_cons.1 hm
   have j:x=y:=by
    rcases List.mem_cons.1 ((h x).1 (Bb ..))with e|k
    ·exact e
    ·rcases List.mem_cons.1 ((h y).2 (Bb ..))with e|n
     ·exact e.symm
     ·have p:=c x k
      have a2:=b y n
      omega
   subst j
   congr 1
   refine o g i fun z=>⟨fun f=>?_,fun f=>?_⟩
   ·rcases List.mem_cons.1 ((h z).1 (CW _ f))with e|a
    ·subst e;have:=b z f;omega
    ·exact a
   ·rcases List.mem_cons.1 ((h z).2 (CW _ f))with e|a
    ·subst e;have:=c z f;omega
    ·exact a
def fnd(l:List α)(n:κ):Option α:=l.find? fun e=>decide (nm e=n)
def gone(x y:List α):List κ:=(x.filter fun e=>(fnd nm y (nm e)).isNone).map nm
def trn(y:List α)(e:α):Bool:=match fnd nm y (nm e)with|some f=>decide (f≠e)|none=>false
def turned(x y:List α):List κ:=(x.filter (trn nm y)).map nm
omit [DecidableEq α]in
theorem bQ{l:List α}{n:κ}{f:α}(h:fnd nm l n=some f):f∈l∧nm f=n:=by
 have h1:=List.find?_some h
 exact⟨List.mem_of_find?_eq_some h,by simpa using h1⟩
theorem fnd_self{l:List α}(h:Asc nm t l){e:α}(he:e∈l):fnd nm l (nm e)=some e:=by
 cases hf:fnd nm l (nm e)with
 |none=>
  have:=List.find?_eq_none.1 hf e he
  simp at this
 |some f=>
  obtain⟨h1,a⟩:=bQ nm hf
  rw [asc_inj nm t h h1 he a]
theorem bY{x y:List α}(i:Asc nm t x)(g:Asc nm t y)(n:κ):n∈turned nm x y↔∃e f,e∈x∧f∈y∧nm e=n∧nm f=n∧f≠e:=by
 unfold turned
 simp only [List.mem_map,List.mem_filter]
 constructor
 ·rintro⟨e,⟨he,hc⟩,rfl⟩
  unfold trn at hc
  cases hf:fnd nm y (nm e)with
  |none=>rw [hf]at hc;cases hc
  |some f=>
   rw [hf]at hc
   obtain⟨h1,b⟩:=bQ nm hf
   exact⟨e,f,he,h1,rfl,b,of_decide_eq_true hc⟩
 ·rintro⟨e,f,he,hf,rfl,c,a⟩
  refine⟨e,⟨he,?_⟩,rfl⟩
  unfold trn
  rw [<-c,fnd_self nm t g hf]
  exact decide_eq_true a
omit [DecidableEq α] [DecidableEq κ]in
theorem sub_asc{l:List α}(h:Asc nm t l)(p:α->Bool):((l.filter p).map nm).Pairwise fun a b=>t a<t b:=
 List.pairwise_map.2 (List.Pairwise.filter p h)
theorem turned_comm{x y:List α}(i:Asc nm t x)(j:Asc nm t y):turned nm x y=turned nm y x:=by
 refine asc_ext t (sub_asc nm t i _) (sub_asc nm t j _) fun n=>?_
 rw [bY nm t i j,bY nm t j i]
 exact⟨fun⟨e,f,h1,a,b,c,g⟩=>⟨f,e,a,h1,c,b,Ne.symm g⟩,fun⟨e,f,h1,a,b,c,g⟩=>⟨f,e,a,h1,c,b,Ne.symm g⟩⟩
theorem none_iff{x y:List α}(g:Asc nm t x)(i:Asc nm t y):(gone nm x y=[]∧gone nm y x=[]∧turned nm x y=[])↔x=y:=by
 constructor
 ·rintro⟨h1,k,l⟩
  have c:∀e∈x,e∈y:=fun e he=>by
   cases hf:fnd nm y (nm e)with
   |none=>
    have:nm e∈gone nm x y:=List.mem_map.2 ⟨e,List.mem_filter.2 ⟨he,by rw [hf];rfl⟩,rfl⟩
    rw [h1]at this;cases this
   |some f=>
    obtain⟨a,a2⟩:=bQ nm hf
    by_cases b:f=e
    ·rw [<-b];exact a
    ·have:nm e∈turned nm x y:=(bY nm t g i _).2 ⟨e,f,he,a,rfl,a2,b⟩
     rw [l]at this;cases this
  refine asc_ext' nm t g i fun e=>⟨c e,fun he=>?_⟩
  cases hf:fnd nm x (nm e)with
  |none=>
   have:nm e∈gone nm y x:=List.mem_map.2 ⟨e,List.mem_filter.2 ⟨he,by rw [hf];rfl⟩,rfl⟩
   rw [k]at this;cases this
  |some f=>
   obtain⟨a,a2⟩:=bQ nm hf
   rw [<-asc_inj nm t i (c f a) he a2]
   exact a
 ·rintro rfl
  have j:gone nm x x=[]:=by
   unfold gone
   rw [CV,CR]
   intro e he
   rw [fnd_self nm t g he]
   simp
  refine⟨j,j,?_⟩
  unfold turned
  rw [CV,CR]
  intro e he
  unfold trn
  rw [fnd_self nm t g he]
  simp
end
end Go.Dw.Od
set_option maxRecDepth 100000
set_option maxHeartbeats 4000000
namespace Go.Dw.Od
open Go.Dw
theorem pick_eq(a b:Pick):(((a.ak.aL==b.ak.aL)&&((a.ak.aN==b.ak.aN)&&((a.ak.ah==b.ak.ah)&&((a.ak.aK==b.ak.aK)&&true))))&&((a.aG==b.aG)&&((a.aW==b.aW)&&((a.bd==b.bd)&&((a.av==b.av)&&((a.az==b.az)&&true))))))=decide (a=b):=by
 obtain⟨⟨c,a2,a3,a4⟩,a5,e,f,g,a9⟩:=a
 obtain⟨⟨i,j,k,l⟩,m,n,o,p,q⟩:=b
 rw [CZ]
 simp [and_assoc]
theorem loop_find{α ω:Type}{body:Int->Option (dK Int (Unit⊕ω))}(l:List α)(p:α->Bool)(r:Nat->ω)(hb:∀(i:Nat)(h:i<l.length),body (i:Int)=some (if p l[i]=true then .stop (.inr (r i))else .next ((i:Int)+1)))
  (he:body (l.length:Int)=some (.stop (.inl ()))):dk body (0:Int)=some (match l.findIdx? p with|some i=>.inr (r i)|none=>.inl ()):=by
 have key:∀(k i:Nat),i+k=l.length->dk body (i:Int)=some (match(l.drop i).findIdx? p with|some j=>.inr (r (i+j))|none=>.inl ()):=by
  intro k
  induction k with
  |zero=>
   intro i f
   obtain rfl:i=l.length:=by omega
   rw [fp he,CO (Nat.le_refl _)]
   rfl
  |succ k g=>
   intro i f
   have b:i<l.length:=by omega
   have hd:l.drop i=l[i]::l.drop (i+1):=CN b
   have a:=hb i b
   rw [hd,CS]
   by_cases c:p l[i]=true
   ·rw [if_pos c]at a
    rw [fp a,if_pos c]
    rfl
   ·rw [if_neg c]at a
    rw [gm a,if_neg c]
    have h1:((i:Int)+1)=((i+1:Nat):Int):=by omega
    rw [h1,g (i+1) om]
    cases(l.drop (i+1)).findIdx? p with
    |none=>rfl
    |some j=>
     simp only [Option.map_some]
     congr 3
     omega
 have:=key l.length 0 om
 rw [CP]at this
 have e:((0:Nat):Int)=0:=rfl
 rw [e]at this
 rw [this]
 cases l.findIdx? p with
 |none=>rfl
 |some j=>simp only [Nat.zero_add]
theorem bg{α:Type}{l:List α}{i:Nat}(h:i<l.length):e8 l (i:Int)=some l[i]:=by
 unfold e8
 rw [if_pos om,Int.toNat_natCast,zc h]
theorem index_eq{l:List Ev}(hl:l.length<=1000)(n:Pick):bA l n=some (match l.findIdx? fun e=>decide (e.al=n)with|some i=>(i:Int)|none=> -1):=by
 have h := loop_find (body := aF l n) l (fun e => decide (e.al = n)) (fun i => (i : Int)) (fun i a => by
   unfold aF br
   rw [if_pos (decide_eq_true om),bg a,zb,zb,pick_eq]
   split
   ·rfl
   ·rw [w64 om om])
  (by unfold aF;rw [if_neg sm])
 unfold bA aS
 rw [h,zb,Option.bind_eq_some_iff]
 cases l.findIdx? fun e=>decide (e.al=n)with
 |none=>exact⟨_,rfl,rfl⟩
 |some i=>exact⟨_,rfl,rfl⟩
theorem zip_eq{α:Type} [DecidableEq α] {a b:List α}(h:a.length=b.length):(a.zip b).findIdx? (fun x=> !decide (x.1=x.2))=none↔a=b:=by
 rw [List.findIdx?_eq_none_iff]
 constructor
 ·intro g
  refine List.ext_getElem h fun i h1 e=>?_
  have := g (a[i], b[i]) (by
   refine List.mem_of_getElem? (i:=i) ?_
   rw [CT]
   exact⟨zc h1,zc e⟩)
  simpa using this
 ·rintro rfl x f
  obtain⟨i,c⟩:=List.getElem?_of_mem f
  rw [CT]at c
  have:=c.1.symm.trans c.2
  simp [BT this]
theorem equal_of{α:Type} [DecidableEq α] {body:Int->Option (dK Int (Unit⊕Bool))}{a b:List α}(hl:a.length<=1000)
  (hb:∀(i:Nat)(h1:i<a.length)(m:i<b.length),body (i:Int)=some (if(!decide (a[i]=b[i]))=true then .stop (.inr false)else .next ((i:Int)+1))) (he:body (a.length:Int)=some (.stop (.inl ()))):
  (if((a.length:Int) != (b.length:Int))=true then(some false)else((dk body (0:Int)).bind fun l=>match l with| .inl _=>(some true)| .inr g=>(some g)))=some (decide (a=b)):=by
 by_cases h:a.length=b.length
 ·rw [if_neg (by simp [h])]
  have f:(a.zip b).length=a.length:=by simp [h]
  have hf := loop_find (body := body) (a.zip b) (fun x => !decide (x.1 = x.2)) (fun _ => false) (fun i c => by
    rw [hb i om om]
    simp only [List.getElem_zip]) (by rw [f];exact he)
  rw [hf,zb]
  have k:=zip_eq h
  cases c:(a.zip b).findIdx? (fun x=> !decide (x.1=x.2))with
  |none=>simp [k.1 c]
  |some j=>
   have:a≠b:=fun e=>by rw [k.2 e]at c;cases c
   simp [this]
 ·rw [if_pos so]
  have:a≠b:=fun e=>h (by rw [e])
  simp [this]
theorem picks_eq{a b:List Pick}(hl:a.length<=1000):aX a b=some (decide (a=b)):=by
 unfold aX
 exact equal_of hl (fun i h1 c => by
  unfold aZ
  rw [if_pos (decide_eq_true om),bg h1,zb,bg c,zb,pick_eq]
  split
  ·rfl
  ·rw [w64 om om]) (by unfold aZ;rw [if_neg sm])
theorem bL{a b:List Pick}(hl:a.length<=1000):aw a b=some (decide (a=b)):=by
 unfold aw
 exact equal_of hl (fun i h1 c => by
  unfold bn
  rw [if_pos (decide_eq_true om),bg h1,zb,bg c,zb,pick_eq]
  split
  ·rfl
  ·rw [w64 om om]) (by unfold bn;rw [if_neg sm])
theorem solution_eq{a b:am}(hl:a.aM.length<=1000):bh a b=some (decide (a=b)):=by
 unfold bh
 rw [picks_eq hl,zb]
 obtain⟨a0,⟨⟨g,a2,a3⟩,a4,a5,i,⟨⟨j,k,a9⟩,⟨v,x,y⟩⟩⟩,⟨z,B⟩,C⟩:=a
 obtain⟨f,⟨⟨l,m,n⟩,o,p,q,⟨⟨r,s,u⟩,⟨d1,d2,d3⟩⟩⟩,⟨d4,d5⟩,d6⟩:=b
 by_cases h1:a0=f
 ·simp only [h1,decide_true,if_true]
  split
  ·rename_i c
   split
   ·rename_i e
    simp only [Ac,beq_iff_eq,BS]at c e
    rw [AD,CZ]
    simp [c,e]
   ·rename_i e
    simp only [Ac,beq_iff_eq,BS]at e
    rw [AD,eq_comm,decide_eq_false_iff_not]
    intro he
    simp only [am.mk.injEq,ar.mk.injEq]at he
    exact e he.2.2.1
  ·rename_i c
   simp only [Ac,beq_iff_eq,BS]at c
   rw [AD,eq_comm,decide_eq_false_iff_not]
   intro he
   simp only [am.mk.injEq,ap.mk.injEq,aj.mk.injEq,ba.mk.injEq]at he
   simp [he]at c
 ·simp [h1]
theorem event_eq{a b:Ev}(hl:a.ai.aM.length<=1000):bi a b=some (decide (a=b)):=by
 unfold bi
 rw [pick_eq,solution_eq hl]
 obtain⟨c,a2⟩:=a
 obtain⟨e,f⟩:=b
 by_cases h:c=e
 ·simp [h]
 ·simp [h]
theorem same_eq{a b:List Ev}(hl:a.length<=1000)(f:∀e∈a,e.ai.aM.length<=1000):bt a b=some (decide (a=b)):=by
 unfold bt aQ
 exact Option.bind_eq_some_iff.2 ⟨_, equal_of hl (fun i h1 c => by
  unfold aO
  rw [if_pos (decide_eq_true om),bg h1,zb,bg c,zb,event_eq (f _ (Ah h1)),zb]
  split
  ·rfl
  ·rw [w64 om om]) (by unfold aO;rw [if_neg sm]),rfl⟩
def nmE(e:Ev):Pick:=e.al
theorem idx_fnd{l:List Ev}{n:Pick}:(∀i,l.findIdx? (fun e=>decide (e.al=n))=some i->∃h:i<l.length,fnd nmE l n=some l[i])∧(l.findIdx? (fun e=>decide (e.al=n))=none->fnd nmE l n=none):=by
 unfold fnd nmE
 induction l with
 |nil=>exact⟨fun i h=>by simp at h,fun _=>rfl⟩
 |cons x l c=>
  rw [CS,List.find?_cons]
  by_cases a:decide (x.al=n)=true
  ·rw [if_pos a,a]
   exact⟨fun i h=>by cases h;exact⟨sm,rfl⟩,fun h=>by cases h⟩
  ·rw [if_neg a]
   have b:decide (x.al=n)=false:=by simpa using a
   rw [b]
   constructor
   ·intro i h
    rw [Option.map_eq_some_iff]at h
    obtain⟨j,h1,rfl⟩:=h
    obtain⟨g,f⟩:=c.1 j h1
    exact⟨so,by simpa using f⟩
   ·intro h
    rw [Option.map_eq_none_iff]at h
    exact c.2 h
theorem gone_cons(x:Ev)(l y:List Ev):gone nmE (x::l) y=(if(fnd nmE y x.al).isNone=true then [x.al]else [])++gone nmE l y:=by
 unfold gone
 rw [CQ]
 by_cases h:(fnd nmE y x.al).isNone=true
 ·rw [if_pos (show(fnd nmE y (nmE x)).isNone=true from h),if_pos h];rfl
 ·rw [if_neg (show ¬(fnd nmE y (nmE x)).isNone=true from h),if_neg h];rfl
theorem turned_cons(x:Ev)(l y:List Ev):turned nmE (x::l) y=(if trn nmE y x=true then [x.al]else [])++turned nmE l y:=by
 unfold turned
 rw [CQ]
 split<;>rfl
theorem diff16{x y:List Ev}(H:x.length<=100)(I:y.length<=100)(B:∀e∈x,e.ai.aM.length<=1000):∀(k i:Nat)(s2 g:List Pick),i+k=x.length->s2.length<=i->g.length<=i->
  dk (aC x y) ((i:Int),s2,g)=some (s2++gone nmE (x.drop i) y,g++turned nmE (x.drop i) y):=by
 intro k
 induction k with
 |zero=>
  intro i s2 g v r u
  obtain rfl:i=x.length:=by omega
  rw [fp (show aC x y ((x.length:Int),s2,g)=some (.stop (s2,g))by unfold aC;dsimp only;rw [if_neg sm]),CO (Nat.le_refl _)]
  simp [gone,turned]
 |succ k C=>
  intro i s2 g v r u
  have o:i<x.length:=by omega
  have hd:x.drop i=x[i]::x.drop (i+1):=CN o
  have h1:((i:Int)+1)=((i+1:Nat):Int):=by omega
  rw [hd,gone_cons,turned_cons]
  obtain⟨f1,f2⟩:=idx_fnd (l:=y) (n:=x[i].al)
  have app:∀(s:List Pick)(p:Pick),s.length<=i->gJ s [p] 104=some (s++[p]):=fun s p G=>by
   unfold gJ
   rw [if_pos so]
  have hb:aC x y ((i:Int),s2,g)=some (.next (((i+1:Nat):Int),s2++(if(fnd nmE y x[i].al).isNone=true then [x[i].al]else []),g++(if trn nmE y x[i]=true then [x[i].al]else []))):=by
   unfold aC
   dsimp only
   rw [if_pos (decide_eq_true om),bg o,zb,index_eq om,zb,w64 (n:=(i:Int)+1) om om,h1]
   cases hf:y.findIdx? fun e=>decide (e.al=x[i].al)with
   |none=>
    have ht:trn nmE y x[i]=false:=by unfold trn;rw [show nmE x[i]=x[i].al from rfl,f2 hf]
    rw [f2 hf,ht]
    simp only
    rw [if_pos (by decide),app _ _ r,zb]
    simp
   |some j=>
    obtain⟨z,m⟩:=f1 j hf
    have ht:trn nmE y x[i]=decide (y[j]≠x[i]):=by unfold trn;rw [show nmE x[i]=x[i].al from rfl,m]
    rw [m,ht]
    simp only
    have f:y[j].al=x[i].al:=by
     have:=bQ nmE m
     exact this.2
    rw [if_neg sm,bg z,zb,solution_eq (B _ (Ah o)),zb]
    have q:decide (x[i].ai=y[j].ai)= !decide (y[j]≠x[i]):=by
     rw [CZ]
     simp only [decide_eq_true_eq,Bool.not_eq_true',decide_eq_false_iff_not,ne_eq,Classical.not_not]
     constructor
     ·intro he
      generalize x[i]=a at f he
      generalize y[j]=b at f he
      obtain⟨D,a2⟩:=a
      obtain⟨E,F⟩:=b
      simp only at f he
      rw [f,he]
     ·intro he;rw [he]
    rw [q,Bool.not_not]
    by_cases c:decide (y[j]≠x[i])=true
    ·rw [if_pos c,app _ _ u,zb]
     simp only [c,Option.isNone_some,Aj,if_false,if_true,BF]
    ·rw [if_neg c]
     simp only [c,Option.isNone_some,Aj,if_false,BF]
  rw [gm hb,C (i+1) _ _ om (by split<;>simp<;>omega) (by split<;>simp<;>omega)]
  simp
theorem diff27{x y:List Ev}(o:x.length<=100)(p:y.length<=100):∀(k i:Nat)(s:List Pick),i+k=x.length->s.length<=i->
  dk (aD x y) ((i:Int),s)=some (s++gone nmE (x.drop i) y):=by
 intro k
 induction k with
 |zero=>
  intro i s f c
  obtain rfl:i=x.length:=by omega
  rw [fp (show aD x y ((x.length:Int),s)=some (.stop s)by unfold aD;dsimp only;rw [if_neg sm]),CO (Nat.le_refl _)]
  simp [gone]
 |succ k g=>
  intro i s f c
  have a:i<x.length:=by omega
  have hd:x.drop i=x[i]::x.drop (i+1):=CN a
  have h1:((i:Int)+1)=((i+1:Nat):Int):=by omega
  rw [hd,gone_cons]
  obtain⟨f1,f2⟩:=idx_fnd (l:=y) (n:=x[i].al)
  have hb:aD x y ((i:Int),s)=some (.next (((i+1:Nat):Int),s++(if(fnd nmE y x[i].al).isNone=true then [x[i].al]else []))):=by
   unfold aD
   dsimp only
   rw [if_pos (decide_eq_true om),bg a,zb,index_eq om,zb,w64 (n:=(i:Int)+1) om om,h1]
   cases hf:y.findIdx? fun e=>decide (e.al=x[i].al)with
   |none=>
    rw [f2 hf]
    simp only
    rw [if_pos (by decide),show gJ s [x[i].al] 104=some (s++[x[i].al])by unfold gJ;rw [if_pos so],zb]
    simp
   |some j=>
    obtain⟨m,b⟩:=f1 j hf
    rw [b]
    simp only
    rw [if_neg sm]
    simp
  rw [gm hb,g (i+1) _ om (by split<;>simp<;>omega)]
  simp
theorem bO{x y:List Ev}(b:x.length<=100)(c:y.length<=100)(g:∀e∈x,e.ai.aM.length<=1000):aP x y=some (gone nmE x y,gone nmE y x,turned nmE x y):=by
 unfold aP
 have h1:=diff16 b c g x.length 0 [] [] om sm sm
 have a:=diff27 c b y.length 0 [] om sm
 rw [CP,A5,A5]at h1
 rw [CP,A5]at a
 have f:((0:Nat):Int)=0:=rfl
 rw [f]at h1 a
 rw [h1,zb,a,zb]
theorem GenEvs.asc'{x:List Ev}(h:GenEvs x):Asc nmE (fun p=>p.aG) x:=h.asc
theorem law_k{x:List Ev}{d:Src}{y:List Ev}(g:GenEvs x)(i:GenEvs y):aJ (x,d) y=some true:=by
 have c:=g.len
 have k:=i.len
 have n:∀e∈x,e.ai.aM.length<=1000:=fun e he=>by have:=g.gen e he;omega
 have q:∀e∈y,e.ai.aM.length<=1000:=fun e he=>by have:=i.gen e he;omega
 have m:∀a b:List Ev,a.length<=5->(gone nmE a b).length<=1000:=fun a b h=>by
  unfold gone;rw [B7];have:=CU (fun e=>(fnd nmE b (nmE e)).isNone) a;omega
 have lt:∀a b:List Ev,a.length<=5->(turned nmE a b).length<=1000:=fun a b h=>by
  unfold turned;rw [B7]
  have:=CU (trn nmE b) a
  omega
 have j:=none_iff nmE (fun p=>p.aG) g.asc' i.asc'
 have hc:=turned_comm nmE (fun p=>p.aG) g.asc' i.asc'
 unfold aJ
 dsimp only
 rw [bO om om n,zb,bO om om q,zb]
 simp only
 rw [same_eq om n]
 simp only [zb]
 rw [bL (m x y c),bL (m y x k),bL (lt x y c)]
 simp only [zb,hc,decide_true,if_true,bN]
 have o:∀l:List Pick,((l.length:Int)==(0:Int))=decide (l=[]):=fun l=>by
  rw [CZ];simp
 simp only [o, <-hc]
 by_cases h1:gone nmE x y=[]
 ·by_cases f:gone nmE y x=[]
  ·have:decide (turned nmE x y=[])=decide (x=y):=by
    rw [decide_eq_decide, <-j]
    exact⟨fun h=>⟨h1,f,h⟩,fun h=>h.2.2⟩
   simp [h1,f,this]
  ·have:¬x=y:=fun e=>f (j.2 e).2.1
   simp [h1,f,this]
 ·have:¬x=y:=fun e=>h1 (j.2 e).1
  simp [h1,this]
theorem bX(l:List Int):aY l=some true:=by
 unfold aY
 refine Ok.eq ?_
 refine CH (new_ok l) (fun e h1=>?_)
 refine CH (events_gen e h1) (fun g a=>?_)
 refine CH (events_gen _ a.2) (fun i b=>?_)
 refine CH (cb _ _ b.2 om om) (fun j f=>?_)
 split
 ·refine CH (CG (by have:=a.1.len;simp only [AZ];omega)) (fun k c=>?_)
  subst c
  rw [A5]
  exact⟨true,law_k a.1 a.1,rfl⟩
 ·exact⟨true,law_k a.1 b.1,rfl⟩
end Go.Dw.Od
