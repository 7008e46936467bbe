
import Derived.Test.YtmmgjlgoggielaaGreatEmLawRA
import Derived.Test.YtmmgjlgoggielaaGreatEmCo
import Derived.KernelRfl

set_option maxRecDepth 100000
set_option maxHeartbeats 4000000
namespace Go.Dw.Em
open Go.Dw Go.Proofs
theorem ni{p:aa}(h:eB 60 p):gB p=some true:=by
 obtain⟨h1,h2,h3⟩:=h
 refine Ok.eq ?_
 unfold gB
 exact Ok.gv (fun _=>Ok.gv (fun _=>Ok.gv (fun _=>Ok.gv (fun _=>Ok.gv (fun _=>Ok.ret so) (fun _=>za)) (fun _=>za)) (fun _=>za)) (fun _=>za)) (fun _=>za)
theorem oP{b:ag}(h:eM b):fh b=some true:=by
 obtain⟨hl,hh⟩:=jF h
 obtain⟨-,h4,h5,h6⟩:=h
 unfold fh
 rw [ni hl,zd,if_pos rfl,ni hh,zd,if_pos rfl,if_pos so,if_pos so]
 simp;omega
theorem nj{t:aA}(h:nO t):eu t=some 0:=by
 obtain⟨h1,h2,h3,h4,h5,h6,h7,h8⟩:=h
 refine Ok.eq ?_
 unfold eu
 refine Ok.gv (fun _=>za) (fun _=>Ok.gv (fun _=>za) (fun _=>Ok.rm (fun h=>za) (fun _=>Ok.gv (fun _=>za) (fun _=>Ok.gv (fun _=>za) (fun _=>?_)))))
 refine Ok.bind (P:=fun o=>o= .inl ()) (Ok.upto t.aI.length za (fun _=>True) trivial (fun i i0 i1 _=>?_)) (fun o ho=>by subst ho;exact Ok.ret rfl)
 unfold nh
 refine Ok.gv (fun hlt=>?_) (fun _=>Ok.st rfl)
 refine Ok.bind (Ok.get i0 za) (fun a ha=>?_)
 refine Ok.gv (fun h=>by have:=h6 a ha.1;omega) (fun _=>?_)
 refine Ok.bind (Ok.get i0 za) (fun b hb=>?_)
 refine Ok.gv (fun h=>by have:=h7 b hb.1;omega) (fun _=>?_)
 refine Ok.bind (Ok.get i0 za) (fun a' ha'=>?_)
 refine Ok.bind (Ok.get i0 za) (fun b' hb'=>?_)
 obtain⟨j1,e1⟩:=List.getElem?_eq_some_iff.1 ha'.2
 obtain⟨j2,e2⟩:=List.getElem?_eq_some_iff.1 hb'.2
 refine Ok.gv (fun h=>by have:=h8 i.toNat j1 j2;omega) (fun _=>?_)
 rw [w64 (n:=i+1) za za]
 have nx:Ok (some (.next (i+1)):Option (fR Int (Unit⊕Int))) (Ok.S (fun i=>(0<=i∧i<=t.aI.length)∧True) (fun i=>((t.aI.length:Int)-i).toNat) (fun o=>o= .inl ()) i):=Ok.nx ⟨⟨za,za⟩,trivial⟩ za
 refine Ok.gv (fun hpos=>?_) (fun _=>nx)
 rw [w64 (n:=i-1) za za]
 refine Ok.bind (Ok.get i0 za) (fun c hc=>?_)
 refine Ok.bind (Ok.get za za) (fun d hd=>?_)
 obtain⟨k1,g1⟩:=List.getElem?_eq_some_iff.1 hc.2
 obtain⟨k2,g2⟩:=List.getElem?_eq_some_iff.1 hd.2
 refine Ok.gv (fun h=>by have:=asc_le h4 (i:=(i-1).toNat) (j:=i.toNat) za k1;omega) (fun _=>?_)
 refine Ok.bind (Ok.get i0 za) (fun c' hc'=>?_)
 refine Ok.bind (Ok.get za za) (fun d' hd'=>?_)
 obtain⟨k3,g3⟩:=List.getElem?_eq_some_iff.1 hc'.2
 obtain⟨k4,g4⟩:=List.getElem?_eq_some_iff.1 hd'.2
 exact Ok.gv (fun h=>by have:=asc_le h5 (i:=(i-1).toNat) (j:=i.toNat) za k3;omega) (fun _=>nx)
theorem bit_half:∀k:Nat,k<33->jf .i64 ((2:Int) ^ k / 2) 1=if k=0 then 0 else(2:Int) ^ (k-1) / 2:=by decide+kernel
theorem bit_in:∀j:Nat,j<32->(1:Int)<=(2:Int) ^ j∧(2:Int) ^ j<=2147483648:=by decide+kernel
theorem rfloor_ok(n:Int)(h0:0<=n)(h1:n<=65535):Ok (l4 n) (fun r=>0<=r∧r*r<=n∧n<(r+1)*(r+1)):=by
 unfold l4
 rw [Option.bind_fun_some]
 refine Ok.loop (fun s:Int×Int=>(0<=s.1∧s.1<=255)∧s.1*s.1<=n∧∃k:Nat,k<=32∧s.2=(2:Int) ^ k / 2∧n<(s.1+(2:Int) ^ k)*(s.1+(2:Int) ^ k)) (fun s=>s.2.toNat) ?_ ⟨⟨sm,sm⟩,by simpa using h0,32,za,by decide+kernel,zc⟩
 rintro⟨r,b⟩ ⟨⟨r0,r1⟩,r2,k,k0,rfl,k2⟩
 simp only at r0 r1 r2 k2
 unfold pP
 dsimp only
 rcases Nat.eq_zero_or_pos k with rfl|hk
 ·refine Ok.gv (fun h=>by simp at h) (fun _=>Ok.st ⟨r0,r2,by simpa using k2⟩)
 have hb:=bit_half k za
 rw [if_neg za]at hb
 obtain⟨j,rfl⟩:∃j,k=j+1:=⟨k-1,za⟩
 simp only [Nat.add_sub_cancel]at hb
 have hp:(2:Int) ^ (j+1) / 2=(2:Int) ^ j:=by rw [Int.pow_succ];omega
 obtain⟨hpos,hmax⟩:=bit_in j za
 rw [hp]at hb⊢
 rw [hb]
 have hh:(2:Int) ^ j / 2<(2:Int) ^ j:=by omega
 have k2':n<(r+2*(2:Int) ^ j)*(r+2*(2:Int) ^ j):=by rw [Int.pow_succ]at k2;rw [Int.mul_comm 2];exact k2
 generalize hB:(2:Int) ^ j=B at*
 refine Ok.gv (fun _=>?_) (fun h=>za)
 rw [w64 (n:=r+B) za za]
 refine Ok.gv (fun hle=>?_) (fun h=>za)
 have hsq:0<=(r+B)*(r+B)∧(r+B)*(r+B)<=3037000499*3037000499:=⟨Int.mul_nonneg za za,Int.mul_le_mul hle hle za za⟩
 rw [w64 (n:=(r+B)*(r+B)) za za]
 refine Ok.gv (fun hm=>?_) (fun hm=>?_)
 ·refine Ok.nx ⟨⟨zc,?_⟩,hm,j,za,by simp only;rw [hB],?_⟩ zc
  ·simp only
   apply Classical.byContradiction
   intro hgt
   have:256*256<=(r+B)*(r+B):=Int.mul_le_mul za za za za
   omega
  ·simp only
   rw [hB,show r+B+B=r+2*B by omega];exact k2'
 ·refine Ok.nx ⟨⟨r0,r1⟩,r2,j,za,by simp only;rw [hB],?_⟩ zc
  simp only
  rw [hB];omega
theorem sq_uniq{x y n:Int}(hx:0<=x)(hy:0<=y)(h1:x*x<=n)(h2:n<(x+1)*(x+1))(h3:y*y<=n)(h4:n<(y+1)*(y+1)):x=y:=by
 have k:∀a b:Int,0<=a->0<=b->a*a<=n->n<(b+1)*(b+1)->a<=b:=fun a b ha hb g1 g2=>by
  apply Classical.byContradiction
  intro h
  have:(b+1)*(b+1)<=a*a:=Int.mul_le_mul za za za za
  omega
 have:=k x y hx hy h1 h4
 have:=k y x hy hx h3 h2
 omega
theorem rceil_ok(n:Int)(h0:0<=n)(h1:n<=65535):Ok (lw n) (fun r=>0<=r∧n<=r*r∧∀s,0<=s->n<=s*s->r<=s):=by
 unfold lw
 refine Ok.bind (rfloor_ok n h0 h1) (fun x⟨x0,x1,x2⟩=>?_)
 have hx:x<=255:=by
  apply Classical.byContradiction
  intro hgt
  have:256*256<=x*x:=Int.mul_le_mul za za za za
  omega
 have hsq:0<=x*x:=Int.mul_nonneg x0 x0
 have low:∀s,0<=s->n<=s*s->x<=s:=fun s s0 s1=>by
  apply Classical.byContradiction
  intro h
  have:(s+1)*(s+1)<=x*x:=Int.mul_le_mul za za za za
  have e:(s+1)*(s+1)=s*s+2*s+1:=by rw [Int.add_mul,Int.mul_add];omega
  omega
 rw [w64 (n:=x*x) za za,w64 (n:=x+1) za za]
 refine Ok.gv (fun hgt=>Ok.ret ⟨za,za,fun s s0 s1=>?_⟩) (fun hle=>Ok.ret ⟨x0,za,low⟩)
 have:=low s s0 s1
 rcases Int.lt_or_eq_of_le this with h|rfl
 ·omega
 ·omega
theorem rnear_at{b:ag}(hb:eM b){p:aa}(hp:eB 60 p):oS b p=some (k9 b p):=by
 obtain⟨⟨l1,l2,l3⟩,g1,g2,g3⟩:=jF hb
 have hv:=oP hb
 obtain⟨-,s1,s2,s3⟩:=id hb
 have e:∀a b c:Int, -60<=a∧a<=60-> -60<=b∧b<=60-> -60<=c∧c<=60->lx b c a=some (ne a b c)∧0<=ne a b c∧ne a b c<=120:=fun a b c ha hb hc=>by
  unfold lx
  rw [w64 (n:=a-c) za za,w64 (n:=b-a) za za]
  refine⟨?_,by unfold ne;omega,by unfold ne;omega⟩
  congr 1
  unfold ne
  split<;>split<;>omega
 have q:∀x:Int,0<=x∧x<=120->dL x=some (x*x):=fun x hx=>by
  have:=l8 (x:=x) za
  unfold dL
  rw [w64 za za]
 obtain⟨p1,p2,p3⟩:=id hp
 obtain⟨x1,x2,x3⟩:=e p.fX b.aI.fX b.aC.fX p1 l1 g1
 obtain⟨y1,y2,y3⟩:=e p.fY b.aI.fY b.aC.fY p2 l2 g2
 obtain⟨z1,z2,z3⟩:=e p.fZ b.aI.fZ b.aC.fZ p3 l3 g3
 have sx:=l8 (x:=ne p.fX b.aI.fX b.aC.fX) za
 have sy:=l8 (x:=ne p.fY b.aI.fY b.aC.fY) za
 have sz:=l8 (x:=ne p.fZ b.aI.fZ b.aC.fZ) za
 unfold oS
 rw [hv,zd,if_neg sm,ni hp,zd,if_neg sm,x1,zd,q _ ⟨x2,x3⟩,zd,y1,zd,q _ ⟨y2,y3⟩,zd,z1,zd,q _ ⟨z2,z3⟩,zd]
 rw [w64 (n:=ne p.fX b.aI.fX b.aC.fX*ne p.fX b.aI.fX b.aC.fX+ne p.fY b.aI.fY b.aC.fY*ne p.fY b.aI.fY b.aC.fY) za za,w64 za za]
 rfl
theorem rfar_at{b:ag}(hb:eM b){p:aa}(hp:eB 60 p):qe b p=some (lg b p):=by
 obtain⟨⟨l1,l2,l3⟩,g1,g2,g3⟩:=jF hb
 have hv:=oP hb
 obtain⟨-,s1,s2,s3⟩:=id hb
 have e:∀a b c:Int, -60<=a∧a<=60-> -60<=b∧b<=60-> -60<=c∧c<=60->b<=c->mR b c a=some (fa a b c)∧0<=fa a b c∧fa a b c<=120:=fun a b c ha hb hc hbc=>by
  unfold mR
  rw [w64 (n:=c-a) za za,w64 (n:=a-b) za za]
  refine⟨?_,by unfold fa;omega,by unfold fa;omega⟩
  congr 1
  unfold fa
  split<;>omega
 have q:∀x:Int,0<=x∧x<=120->dL x=some (x*x):=fun x hx=>by
  have:=l8 (x:=x) za
  unfold dL
  rw [w64 za za]
 obtain⟨p1,p2,p3⟩:=id hp
 obtain⟨x1,x2,x3⟩:=e p.fX b.aI.fX b.aC.fX p1 l1 g1 za
 obtain⟨y1,y2,y3⟩:=e p.fY b.aI.fY b.aC.fY p2 l2 g2 za
 obtain⟨z1,z2,z3⟩:=e p.fZ b.aI.fZ b.aC.fZ p3 l3 g3 za
 have sx:=l8 (x:=fa p.fX b.aI.fX b.aC.fX) za
 have sy:=l8 (x:=fa p.fY b.aI.fY b.aC.fY) za
 have sz:=l8 (x:=fa p.fZ b.aI.fZ b.aC.fZ) za
 unfold qe
 rw [hv,zd,if_neg sm,ni hp,zd,if_neg sm,x1,zd,q _ ⟨x2,x3⟩,zd,y1,zd,q _ ⟨y2,y3⟩,zd,z1,zd,q _ ⟨z2,z3⟩,zd]
 rw [w64 (n:=fa p.fX b.aI.fX b.aC.fX*fa p.fX b.aI.fX b.aC.fX+fa p.fY b.aI.fY b.aC.fY*fa p.fY b.aI.fY b.aC.fY) za za,w64 za za]
 rfl
theorem rbetween_at{t:aA}(ht:nO t){a b:Int}(ha:0<=a)(hab:a<=b)(hb:b<=65535)(hr:Reach t b):lL t a b=bZ t a b:=by
 obtain⟨x,c,u,e,⟨x0,x1⟩,⟨x2,x3⟩,⟨c0,c1,c2⟩,⟨u0,u1⟩,u2,u3,u4⟩:=ow ht a b ha hab hb hr
 rw [e]
 have hl:=ht.len;have hs:=ht.same;have hst:=ht.step
 have hbb:0<=t.aZ*((t.aI.length:Int)-1)∧t.aZ*((t.aI.length:Int)-1)<=100*30:=⟨Int.mul_nonneg za za,Int.mul_le_mul za za za za⟩
 refine Ok.eq ?_
 unfold lL
 rw [nj ht,zd,if_neg sm]
 refine Ok.gv (fun _=>za) (fun _=>Ok.gv (fun _=>za) (fun _=>?_))
 have ce:Ok (lw b) (fun r=>r=c):=(rceil_ok b za hb).mono fun r⟨r0,r1,r2⟩=>by
  have:=r2 c c0 c1
  have:=c2 r r0 r1
  omega
 refine Ok.bind ce (fun r hr=>?_)
 subst hr
 have re:nF t=some (kM t):=by
  unfold nF
  rw [nj ht,zd,if_neg sm,w64 (n:=(t.aI.length:Int)-1) za za,w64 za za]
  rfl
 rw [re,zd]
 refine Ok.gv (fun h=>za) (fun _=>?_)
 refine Ok.bind ((rfloor_ok a ha za).mono fun r⟨r0,r1,r2⟩=>sq_uniq r0 x0 r1 r2 x2 x3) (fun r hr=>?_)
 subst hr
 have hq0:0<=r.tdiv t.aZ:=Int.tdiv_nonneg x0 za
 refine Ok.bind (P:=fun y=>y=t.aI.getD (r.tdiv t.aZ).toNat 0) ?_ (fun y hy=>?_)
 ·unfold pQ
  refine Ok.bind (Ok.quo za) (fun q hq=>?_)
  rw [w64 za za]at hq
  subst hq
  refine Ok.bind (Ok.get hq0 za) (fun y hy=>Ok.ret ?_)
  rw [List.getD_eq_getElem?_getD,hy.2];rfl
 refine Ok.bind ce (fun r' hr'=>?_)
 subst hr'
 refine Ok.bind (P:=fun y=>y=t.aC.getD u.toNat 0) ?_ (fun z hz=>Ok.ret (by rw [hy,hz]))
 have hc:r'<=3000:=by unfold kM at u4;omega
 unfold pR
 rw [w64 (n:=r'+t.aZ) za za,w64 (n:=r'+t.aZ-1) za za]
 refine Ok.bind (Ok.quo za) (fun q hq=>?_)
 have hd:(r'+t.aZ-1).tdiv t.aZ=u:=by
  rw [Int.tdiv_eq_ediv_of_nonneg za]
  have h1:u<=(r'+t.aZ-1) / t.aZ:=by
   rw [Int.le_ediv_iff_mul_le za]
   rcases Int.lt_or_eq_of_le u0 with h|h
   ·have:=u3 (u-1) za za
    rw [Int.sub_mul,Int.one_mul]at this;omega
   ·rw [<-h];omega
  have h2:(r'+t.aZ-1) / t.aZ<=u:=by
   have:(r'+t.aZ-1) / t.aZ<u+1:=by
    rw [Int.ediv_lt_iff_lt_mul za,Int.add_mul,Int.one_mul];omega
   omega
  omega
 rw [hd,w64 za za]at hq
 subst hq
 refine Ok.bind (Ok.get u0 za) (fun y hy=>Ok.ret ?_)
 rw [List.getD_eq_getElem?_getD,hy.2];rfl
theorem rinterval_at{t:aA}(ht:nO t){b:ag}(hb:eM b){p:aa}(hp:eB 60 p)(hr:Reach t (lg b p)):Ok (kP t b p) (fun r=>r.2.2=0):=by
 obtain⟨n1,n2, -⟩:=om hb hp
 obtain⟨f1, -,f3⟩:=qA hb hp
 have hbt:=rbetween_at ht n2 (lV hb p) za hr
 obtain⟨r,er,h1, -⟩:=mT ht (k9 b p) (lg b p) n2 (lV hb p) za
 unfold kP
 rw [nj ht,zd,if_neg sm,oP hb,zd,if_neg sm,ni hp,zd,if_neg sm,rnear_at hb hp,zd,rfar_at hb hp,zd,hbt,er,zd]
 exact Ok.ret (h1.2 hr)
end Go.Dw.Em
set_option maxRecDepth 100000
set_option maxHeartbeats 4000000
namespace Go.Dw.Em
open Go.Dw Go.Proofs
open Sd (iC fd eD)
theorem loop_seek{α ω:Type}{body:Int->Option (fR Int ω)}(l:List α){p:α->Bool}{f:α->ω}{u:ω}(h1:∀(i:Nat)(hi:i<l.length),body i=if p l[i]=true then some (.stop (f l[i]))else some (.next ((i+1:Nat):Int)))
  (h2:body (l.length:Nat)=some (.stop u)):dW body (0:Int)=some ((l.find? p).elim u f):=by
 have key:∀(k i:Nat),i+k=l.length->dW body (i:Int)=some (((l.drop i).find? p).elim u f):=by
  intro k
  induction k with
  |zero=>
   intro i hi
   obtain rfl:i=l.length:=by omega
   rw [gI h2,List.drop_length];rfl
  |succ k ih=>
   intro i hi
   have hlt:i<l.length:=by omega
   have hb:=h1 i hlt
   rw [List.drop_eq_getElem_cons hlt]
   by_cases h:p l[i]=true
   ·rw [if_pos h]at hb
    rw [gI hb,List.find?_cons_of_pos h];rfl
   ·rw [if_neg h]at hb
    rw [jr hb,ih (i+1) za,List.find?_cons_of_neg h]
 have:=key l.length 0 za
 simpa using this
def Cv(c:aq):Prop:=∃e,∀T:Int,2000<=T->T<100000->mc c.aT T=some e
theorem epIn1{e:ap}{T:Int}(h1:e.bj<=T)(h2:T<e.fTo):mc [e] T=some e:=by
 unfold mc
 rw [List.find?_cons_of_pos (by simp [h1,h2])]
theorem epIn2{e f:ap}{T:Int}(h:e.fTo<=T)(h1:f.bj<=T)(h2:T<f.fTo):mc [e,f] T=some f:=by
 unfold mc
 rw [List.find?_cons_of_neg so,List.find?_cons_of_pos (by simp [h1,h2])]
def CvI(n:Nat)(s:Int×List Int×Int×List aq):Prop:=∃i:Nat,s.1=i∧i<=n∧s.2.2.2.map (·.aw)=(List.range i).map sid∧(∀c∈s.2.2.2,Cv c)∧b9 ⟨s.2.1,s.2.2.1⟩
theorem sites_cover{n:Nat}(hn6:n<=6)(d:Src)(hd:b9 d):Ok (fr (n:Int) d) (fun r=>r.1.aJ.map (·.aw)=(List.range n).map sid∧∀c∈r.1.aJ,Cv c):=by
 unfold fr
 refine Ok.bind (P:=fun o=>o.2.2.map (·.aw)=(List.range n).map sid∧∀c∈o.2.2,Cv c) (Ok.loop (CvI n) (fun s=>((n:Int)-s.1).toNat) ?_ ⟨0,rfl,za,rfl,sm,hd⟩) (fun o ho=>Ok.ret ho)
 rintro⟨s1,s2,s3,s4⟩ ⟨i,i0,i1,i2,i3,i4⟩
 simp only at i0 i1 i2 i3 i4
 subst i0
 have hlen:s4.length=i:=by have:=congrArg List.length i2;simpa using this
 unfold hX
 have happ:∀(x:aq),Ok (pS s4 [x] 88) (fun r=>r=s4++[x]):=fun x=>Ok.app (by simp only [List.length_cons,List.length_nil];omega)
 have hend:¬i<n->s4.map (·.aw)=(List.range n).map sid∧∀c∈s4,Cv c:=fun h=>by
  obtain rfl:i=n:=by omega
  exact⟨i2,i3⟩
 have hnext:∀{l:List ap}{t:Src},i<n->(∃e,∀T:Int,2000<=T->T<100000->mc l T=some e)->b9 t->Ok (some (.next ((i:Int)+1,t.fL,t.fAt,s4++[⟨sid i,l⟩]))) (Ok.S (CvI n) (fun s=>((n:Int)-s.1).toNat) (fun o:List Int×Int×List aq=>o.2.2.map (·.aw)=(List.range n).map sid∧∀c∈o.2.2,Cv c) ((i:Int),s2,s3,s4)):=fun{l t}hi hl ht=>by
  refine Ok.nx ⟨i+1,sm,za,?_,fun c hc=>?_,ht⟩ zc
  ·simp [List.range_succ,i2]
  ·simp only [List.mem_append,List.mem_singleton]at hc
   rcases hc with hc|rfl
   ·exact i3 c hc
   ·exact hl
 refine Ok.gv (fun hlt=>?_) (fun h=>Ok.st (hend za))
 refine Ok.gv (fun _=>?_) (fun h=>Ok.st (hend za))
 have hi:i<n:=by omega
 refine Ok.bind (lW 60 za za _ i4) (fun y1 g1=>?_)
 refine Ok.bind (qg _ g1.2) (fun y2 g2=>?_)
 rw [qi rfl (show i<6 by omega),zd]
 refine Ok.bind (d7 _ _ g2.2 za za) (fun y4 g4=>?_)
 rw [w64 (n:=(i:Int)+1) za za]
 refine Ok.tI (fun _=>?_) (fun _=>Ok.tI (fun _=>?_) (fun _=>?_))
 ·refine Ok.bind (d7 _ _ g4.2.2 za za) (fun y5 g5=>?_)
  refine Ok.bind (lW 60 za za _ g5.2.2) (fun y6 g6=>?_)
  refine Ok.bind (qg _ g6.2) (fun y7 g7=>?_)
  refine Ok.bind (Ok.tN za sm) (fun _ _=>?_)
  refine Ok.bind (Ok.mod za sm) (fun y8 g8=>?_)
  obtain⟨x,hx,rfl⟩:=g8
  simp at hx
  subst hx
  refine Ok.bind (Ok.app sm) (fun y9 g9=>?_)
  subst g9
  refine Ok.bind (happ _) (fun y10 g10=>?_)
  subst g10
  rw [w64 (n:=1500+y5.1) za za]
  exact hnext hi ⟨_,fun T h1 h2=>epIn2 zc zc zc⟩ g7.2
 ·refine Ok.bind (d7 _ _ g4.2.2 za za) (fun y5 g5=>?_)
  refine Ok.bind (Ok.tN za sm) (fun _ _=>?_)
  refine Ok.bind (Ok.mod za sm) (fun y8 g8=>?_)
  obtain⟨x,hx,rfl⟩:=g8
  simp at hx
  subst hx
  refine Ok.bind (happ _) (fun y10 g10=>?_)
  subst g10
  exact hnext hi ⟨_,fun T h1 h2=>epIn1 zc zc⟩ g5.2.2
 ·refine Ok.bind (happ _) (fun y10 g10=>?_)
  subst g10
  exact hnext hi ⟨_,fun T h1 h2=>epIn1 zc zc⟩ g4.2.2
theorem site_at{n:Nat}{v:al}(hm:v.aJ.map (·.aw)=(List.range n).map sid)(hc:∀c∈v.aJ,Cv c){i:Nat}(hi:i<n):∃c e,qJ v (sid i)=some c∧(∀T:Int,2000<=T->T<100000->mc c.aT T=some e):=by
 have hmem:sid i∈v.aJ.map (·.aw):=by rw [hm];exact List.mem_map_of_mem (List.mem_range.2 hi)
 obtain⟨c,hc',e'⟩:=List.mem_map.1 hmem
 cases h:qJ v (sid i)with
 |none=>
  unfold qJ at h
  have:=List.find?_eq_none.1 h c hc'
  simp [e']at this
 |some c2=>
  obtain⟨e,he⟩:=hc c2 (ru h).1
  exact⟨c2,e,rfl,he⟩
theorem place_at{v:al}(hv:kZ v){x:Sid}{c:aq}{e:ap}{T:Int}(h1:qJ v x=some c)(h2:mc c.aT T=some e):ny v x T=some (e.aP,true):=by
 have hlen:=hv.len
 have hel:∀c∈v.aJ,c.aT.length<=3:=fun c hc=>(hv.all c hc).2.len
 have hin:∀(c:aq)(s1:Int),c.aT.length<=3->dW (jM c x T s1) (0:Int)=some ((c.aT.find? (fun e=>decide (c.aw=x)&&decide (e.bj<=T∧T<e.fTo))).elim (Sum.inl s1:Int⊕(aa×Bool)) fun e=>Sum.inr (e.aP,true)):=fun c s1 hl=>by
  refine loop_seek c.aT (fun i hi=>?_) ?_
  ·unfold jM
   rw [if_pos so,gK (i:=i) rfl hi,zd,Sd.eqs,w64 za za]
   by_cases e1:c.aw=x<;>by_cases e2:c.aT[i].bj<=T<;>by_cases e3:T<c.aT[i].fTo<;>simp [e1,e2,e3]
  ·unfold jM
   rw [if_neg sm]
 have hq:∀c:aq,c.aT.find? (fun e=>decide (c.aw=x)&&decide (e.bj<=T∧T<e.fTo))=if c.aw=x then mc c.aT T else none:=fun c=>by
  by_cases e1:c.aw=x
  ·rw [if_pos e1];unfold mc;simp [e1]
  ·rw [if_neg e1];simp [e1]
 have hb1:∀(i:Nat)(hi:i<v.aJ.length),gV v x T (i:Int)=if(decide (v.aJ[i].aw=x)&&(mc v.aJ[i].aT T).isSome)=true then some (.stop (Sum.inr (((mc v.aJ[i].aT T).getD zEp).aP,true)))else some (.next ((i+1:Nat):Int)):=fun i hi=>by
  have hi':=hel _ (List.getElem_mem hi)
  unfold gV
  rw [if_pos so,gK (i:=i) rfl hi,zd,hin _ _ hi',zd,hq]
  by_cases e1:v.aJ[i].aw=x
  ·rw [if_pos e1]
   cases h:mc v.aJ[i].aT T with
   |none=>simp only [Option.elim];rw [w64 za za];simp
   |some e=>simp [e1]
  ·rw [if_neg e1]
   simp only [Option.elim]
   rw [w64 za za]
   simp [e1]
 have hb2:gV v x T ((v.aJ.length:Nat):Int)=some (.stop (.inl ())):=by
  unfold gV
  rw [if_neg sm]
 unfold ny
 rw [loop_seek v.aJ (p:=fun c=>decide (c.aw=x)&&(mc c.aT T).isSome) (f:=fun c=>Sum.inr (((mc c.aT T).getD zEp).aP,true)) hb1 hb2]
 have hf:v.aJ.find? (fun c=>decide (c.aw=x)&&(mc c.aT T).isSome)=some c:=by
  unfold qJ at h1
  obtain⟨g1,l1,l2,g2,g3⟩:=List.find?_eq_some_iff_append.1 h1
  refine List.find?_eq_some_iff_append.2 ⟨by simp [h2];simpa using g1,l1,l2,g2,fun a ha=>?_⟩
  have:=g3 a ha
  simp at this
  simp [this]
 rw [hf]
 simp [h2]
def nn(a b:aa):Int:=(a.fX-b.fX)*(a.fX-b.fX)+(a.fY-b.fY)*(a.fY-b.fY)+(a.fZ-b.fZ)*(a.fZ-b.fZ)
theorem sq_abs{x y:Int}(h:y=x∨y= -x):y*y=x*x:=by
 rcases h with rfl|rfl
 ·rfl
 ·rw [Int.neg_mul_neg]
theorem far_nn(a b:aa):lg ⟨b,b⟩ a=nn a b:=by
 unfold lg nn
 simp only
 rw [sq_abs (x:=a.fX-b.fX) (y:=fa a.fX b.fX b.fX) (by unfold fa;omega),sq_abs (x:=a.fY-b.fY) (y:=fa a.fY b.fY b.fY) (by unfold fa;omega),sq_abs (x:=a.fZ-b.fZ) (y:=fa a.fZ b.fZ b.fZ) (by unfold fa;omega)]
theorem near_nn(a b:aa):k9 ⟨b,b⟩ a=nn a b:=by
 unfold k9 nn
 simp only
 rw [sq_abs (x:=a.fX-b.fX) (y:=ne a.fX b.fX b.fX) (by unfold ne;omega),sq_abs (x:=a.fY-b.fY) (y:=ne a.fY b.fY b.fY) (by unfold ne;omega),sq_abs (x:=a.fZ-b.fZ) (y:=ne a.fZ b.fZ b.fZ) (by unfold ne;omega)]
theorem nn_in{a b:aa}(ha:eB 60 a)(hb:eB 60 b):0<=nn a b∧nn a b<=43200:=by
 obtain⟨a1,a2,a3⟩:=ha
 obtain⟨b1,b2,b3⟩:=hb
 have h1:=l8 (x:=a.fX-b.fX) za
 have h2:=l8 (x:=a.fY-b.fY) za
 have h3:=l8 (x:=a.fZ-b.fZ) za
 unfold nn
 omega
theorem root_at{a b:aa}(ha:eB 60 a)(hb:eB 60 b):Ok (oH a b) (fun d=>0<=d∧d<=210∧d*d<=nn a b∧nn a b<(d+1)*(d+1)):=by
 have hn:=nn_in ha hb
 obtain⟨a1,a2,a3⟩:=ha
 obtain⟨b1,b2,b3⟩:=hb
 have h1:=l8 (x:=a.fX-b.fX) za
 have h2:=l8 (x:=a.fY-b.fY) za
 have h3:=l8 (x:=a.fZ-b.fZ) za
 have hd:∀d:Int,0<=d->d*d<=nn a b->d<=210:=fun d h0 h=>by
  apply Classical.byContradiction
  intro hc
  have:(211:Int)*211<=d*d:=Int.mul_le_mul za za za za
  omega
 unfold oH
 refine Ok.bind (P:=fun d=>0<=d∧d<=210∧d*d<=nn a b∧nn a b<(d+1)*(d+1)) (Ok.loop (fun d:Int=>0<=d∧d*d<=nn a b) (fun d=>(300-d).toNat) (fun d⟨h0,hdd⟩=>?_) ⟨za,za⟩) (fun d h=>Ok.ret h)
 have hd':=hd d h0 hdd
 have hs:=Int.mul_le_mul (show d+1<=211 by omega) (show d+1<=211 by omega) za za
 have hs0:0<=(d+1)*(d+1):=Int.mul_nonneg za za
 unfold qw
 rw [w64 (n := d + 1) za za, w64 (n := a.fX - b.fX) za za, w64 (n := a.fY - b.fY) za za, w64 (n := a.fZ - b.fZ) za za, w64 (n := (d + 1) * (d + 1)) za za,
  w64 (n:=(a.fX-b.fX)*(a.fX-b.fX)) za za,w64 (n:=(a.fY-b.fY)*(a.fY-b.fY)) za za,w64 (n:=(a.fZ-b.fZ)*(a.fZ-b.fZ)) za za,w64 (n:=(a.fX-b.fX)*(a.fX-b.fX)+(a.fY-b.fY)*(a.fY-b.fY)) za za,w64 za za]
 refine Ok.gv (fun h=>Ok.nx ⟨za,h⟩ za) (fun h=>Ok.st ⟨h0,hd',hdd,by unfold nn;omega⟩)
theorem reach_all{t:aA}(ht:nO t){b:ag}(hb:eM b){p:aa}(hp:eB 60 p):Reach t (lg b p):=by
 have h1:=(qA hb hp).2.2
 have h2:=ht.far
 have h3:(400:Int)*400<=kM t*kM t:=Int.mul_le_mul h2 h2 za (by unfold kM;omega)
 unfold Reach
 omega
theorem ol{a:ar}(ha:iZ a){v:al}(hv:kZ v){p:Pick}(hp:io p){e:ap}(he:px v p.aw p.bn=some e):(used a v p).2.2=true∧phU a v p=⟨e.aP,p.aQ,p.bw,1⟩:=by
 have hu:(used a v p).2.2=true:=by
  have h1:=(nM ha hv hp).1
  have hek:=ry hv he
  unfold da at h1
  rw [o0 hp,zd,if_neg sm,At_eq hv.lens (lm hv),zd,he]at h1
  dsimp only at h1
  rw [if_neg sm]at h1
  obtain⟨z,ez,hz, -⟩:=sc ha.tab ha.box (a:=⟨e.aP,p.aQ,p.bw,1⟩) (rO hek hp)
  rw [ez,zd,if_neg (by simp [hz.2 (reach_all ha.tab ha.box hek.pos)])]at h1
  rw [<-Option.some.inj h1]
 obtain⟨e',h1,h2⟩:=used_form ha hv hp hu
 obtain rfl:e'=e:=Option.some.inj (h1.symm.trans he)
 exact⟨hu,h2⟩
theorem rset_valid{s:ar}(h:iZ s):kR s=some 0:=by
 obtain⟨h1, -,h2,h3,h4,h5,h6,h7,h8,h9,h10,h11⟩:=h
 have ha:kQ s.ae=some true:=by
  unfold kQ
  rw [oP h1,zd,if_pos rfl,nj h2,zd,if_pos sm,if_pos so,if_pos so,if_pos so,if_pos so,if_pos so,if_pos so,if_pos so,if_pos so,if_pos so]
  simp;omega
 have hm:jm s.cm=some true:=by
  unfold jm
  rw [nj h8,zd,if_pos sm,if_pos so,if_pos so,if_pos so]
  simp;omega
 unfold kR
 rw [ha,zd,if_neg sm,hm,zd,if_neg sm,if_neg so,if_neg so]
theorem rusable_at{s:ar}(hs:iZ s){v:al}(hv:kZ v){p:Pick}(hp:io p){e:ap}(he:px v p.aw p.bn=some e):mH s v p=some (⟨e.aP,p.aQ,p.bw,1⟩,true):=by
 have hek:=ry hv he
 have hsl:Sq.SidLen p.aw:=sid_len hp.1
 have hvp:gZ p=some true:=by
  have h1:=vp_eq (p:=p) hsl
  rw [o0 hp]at h1
  rw [ref_vp_eq hsl, <-h1]
 have hvi:Iv.vI v.aJ=true:=by
  have h1:=val_eq hv.ia
  rw [lm hv]at h1
  exact(Option.some.inj h1).symm
 have hat:oi v p.aw p.bn=some (e,0):=by
  rw [refAt_any hv.ia]
  unfold atR
  rw [if_pos hvi,he]
 unfold mH
 rw [rset_valid hs,zd,if_neg sm,hvp,zd,if_neg sm,hat,zd,if_neg sm]
 obtain⟨r,er,hr⟩:=rinterval_at hs.tab hs.box hek.pos (reach_all hs.tab hs.box hek.pos)
 rw [er,zd,if_neg (by simp [hr])]
end Go.Dw.Em
set_option maxRecDepth 100000
set_option maxHeartbeats 4000000
namespace Go.Dw.Em
open Go.Dw Go.Proofs
open Sd (iC fd eD)
def exP(s:Sid):Pick:=⟨s,2500,2500,2500,10,0⟩
def exQ(s:Sid):Pick:=⟨s,2500,2500,2500,11,0⟩
theorem ex_c:((oG []).bind fun x1=>(ky 2 x1).bind fun x2=>some (x2.1.ae.co==2))=some true:=by kernel_rfl
theorem ex_p:((kH []).bind fun x1=>(dJ 2 x1).bind fun x2=>some (x2.1.ae.co==2))=some true:=
 (Le.bind (keep_New_le _) fun _=>Le.bind (Src_Settings_le _ _) fun _=>Le.refl _) _ ex_c
theorem exP_ok{s:Sid}(h:IsSid s):io (exP s):=⟨h,by simp [exP],by simp [exP],by simp [exP],by simp [exP],by simp [exP],by simp [exP],by simp [exP],by simp [exP]⟩
theorem exQ_ok{s:Sid}(h:IsSid s):io (exQ s):=⟨h,by simp [exQ],by simp [exQ],by simp [exQ],by simp [exQ],by simp [exQ],by simp [exQ],by simp [exQ],by simp [exQ]⟩
theorem ex_lt(s:Sid):ip (exP s) (exQ s)<0:=by
 have:=fd.refl s
 unfold ip exP exQ
 simp [this,sw]
theorem awake_at:nw=some true:=by
 refine Ok.eq ?_
 have hc:=ex_p
 unfold nw
 obtain⟨d0,e0,h0⟩:=new_ok []
 rw [e0,zd]at hc⊢
 obtain⟨x2,e2,hs,h2⟩:=settingsV (k:=2) za d0 h0
 rw [e2,zd]at hc⊢
 have hle:x2.1.ae.co=2:=by simpa using Option.some.inj hc
 obtain⟨x3,e3,⟨⟨hv, -⟩, -⟩,hmap,hcov⟩:=(sitesV (n:=3) x2.2 h2).both (sites_cover (n:=3) za x2.2 h2)
 rw [e3,zd]
 obtain⟨c,e,hch,hep⟩:=site_at hmap hcov (i:=1) za
 have hea:px x3.1 (sid 1) 2500=some e:=by unfold px;rw [hch];exact hep 2500 za za
 have h5:=sid_ok (i:=1) za
 rw [show dm (1:Int)=some (sid 1)from qi (i:=1) rfl za,zd]
 have hp:=exP_ok h5;have hq:=exQ_ok h5
 have up:=(ol hs hv hp hea).1
 have uq:=(ol hs hv hq hea).1
 clear hea hep hch hmap hcov
 generalize sid 1=x5 at*
 have hlt:=ex_lt x5
 have hpq: [exP x5,exQ x5].Pairwise fun x y=>ip x y<0:=by simpa using hlt
 have hus:UsOk x2.1 x3.1 [exP x5,exQ x5]:=fun p h=>by
  rcases List.mem_cons.1 h with rfl|h
  ·exact⟨hp,up⟩
  ·rw [List.mem_singleton.1 h];exact⟨hq,uq⟩
 have hU:=oZ hus
 obtain⟨L,eL,sL,mL, -⟩:=rp (l:=[exQ x5,exP x5]) sm
 have hL:L=[exP x5,exQ x5]:=lO sL hpq fun x=>by
  rw [mL];simp only [List.mem_cons,List.not_mem_nil,or_false];exact Or.comm
 subst hL
 have hf:=find_at hs hv eL hpq sm (fun p h=>(hus p h).1) (by rw [hU];simp)
 rw [hU]at hf
 obtain⟨e,g1,g2⟩:=used_form hs hv hp up
 obtain⟨e',g1',g2'⟩:=used_form hs hv hq uq
 obtain rfl:e'=e:=Option.some.inj (g1'.symm.trans g1)
 have hph:phU x2.1 x3.1 (exQ x5)=phU x2.1 x3.1 (exP x5):=by rw [g2,g2'];rfl
 have hO:ko x2.1 x3.1 [exP x5,exQ x5]=[exP x5,exQ x5]:=by
  refine sortI_self (cmpA_tot _ _) (fun _ _=>cmpA_zero) ?_
  have:cmpA x2.1 x3.1 (exP x5) (exQ x5)<0:=by
   have:=cmpF_tot.refl (phU x2.1 x3.1 (exP x5))
   unfold cmpA
   rw [hph,this,if_neg sm];exact hlt
  simpa using this
 rw [hO]at hf
 have hphs:PhOk x2.1.ae ([exP x5,exQ x5].map (phU x2.1 x3.1)):=pZ hs hv hus
 have hmis:(loc x2.1.ae ([exP x5,exQ x5].map (phU x2.1 x3.1))).bq<=0:=by
  have hqv:=qc hs hphs sm
  obtain⟨-,hL, -⟩:=loc_at hs hphs sm
  obtain⟨t,e1, -⟩:=pF hqv hL.inn
  rw [hL.val]at e1
  simp only [Option.some.injEq,Prod.mk.injEq]at e1
  rw [e1.2.1]
  have hz:=fun b hb=>(sb hqv hL.inn (a:=b) hb).2
  have hmem:phU x2.1 x3.1 (exP x5)∈(na x2.1.ae ([exP x5,exQ x5].map (phU x2.1 x3.1))).a7:=by simp [na]
  rw [mis_zero hqv hL.inn (t:=(zn (na x2.1.ae ([exP x5,exQ x5].map (phU x2.1 x3.1))) ⟨(loc x2.1.ae ([exP x5,exQ x5].map (phU x2.1 x3.1))).aX,(loc x2.1.ae ([exP x5,exQ x5].map (phU x2.1 x3.1))).aX⟩ (phU x2.1 x3.1 (exP x5))).bj) (fun b hb=>?_)]
  ·exact Int.le_refl _
  ·have hb':b=phU x2.1 x3.1 (exP x5):=by
    have:b=phU x2.1 x3.1 (exP x5)∨b=phU x2.1 x3.1 (exQ x5):=by simpa [na]using hb
    rcases this with h|h
    ·exact h
    ·rw [h,hph]
   rw [hb']
   have:=(hz _ hmem).2.1
   unfold res;omega
 have hspan:=hs.span.1
 have hR := rnd_one hs (v := x3.1) (O := [exP x5, exQ x5]) (by rw [hle]; simp) sm (fun p hp' i hi => by
  have k:∀p∈[exP x5,exQ x5],phU x2.1 x3.1 p=phU x2.1 x3.1 (exP x5):=fun p h=>by
   rcases List.mem_cons.1 h with rfl|h
   ·rfl
   ·rw [List.mem_singleton.1 h,hph]
  rw [k p hp',k i hi];omega) (fit_all hs hphs sm hmis)
 rw [hR]at hf
 have hsP:cW cP [exP x5,exQ x5]=[exP x5,exQ x5]:=sortI_self cy (fun _ _=>je) hpq
 have hfind:fe x2.1 x3.1 [exQ x5,exP x5]=some ([evM x2.1 x3.1 [exP x5,exQ x5]],[],0):=by
  rw [hf]
  simp only [List.map_cons,List.map_nil,hsP]
  rfl
 have hsn:dE []=some []:=pU .nil sm
 have hf0:=find_at hs hv hsn .nil sm sm (by simp [cq])
 have hfind0:fe x2.1 x3.1 []=some ([],[],0):=hf0
 have hsol:=(nJ hs hv hpq hus sm sm).2
 have hnm:nm [exP x5,exQ x5]=exP x5:=by
  show(if oA (exQ x5) (exP x5)<0 then exQ x5 else exP x5)=exP x5
  rw [if_neg]
  have h1:oA (exQ x5) (exP x5)=ip (exQ x5) (exP x5):=by
   unfold oA
   rw [if_neg (by simp [exQ,exP,sw])]
  have:=cy.uz (exP x5) (exQ x5)
  omega
 show Ok ((fe x2.1 x3.1 [exQ x5,exP x5]).bind _) _
 rw [hfind,zd,hfind0,zd]
 dsimp only
 rw [if_pos sm,if_pos sm,if_pos sm]
 have hg:eV [evM x2.1 x3.1 [exP x5,exQ x5]] (0:Int)=some (evM x2.1 x3.1 [exP x5,exQ x5]):=rfl
 have hn:(evM x2.1 x3.1 [exP x5,exQ x5]).cb=exP x5:=hnm
 have hsp:(evM x2.1 x3.1 [exP x5,exQ x5]).aF.ec=[exP x5,exQ x5]:=hsol
 rw [hg,zd,hn,if_pos (by simp [exP]),zd,hsp,if_pos sm,if_pos sm,if_pos sm]
 have i1:iD [evM x2.1 x3.1 [exP x5,exQ x5]] (ai.mk x5 2500 2500 2500 10 0)=some 0:=by
  rw [index_one,hn];exact congrArg some (if_pos (show exP x5=_ from rfl))
 have i2:iD [evM x2.1 x3.1 [exP x5,exQ x5]] (ai.mk x5 2500 2500 2500 11 0)=some (-1):=by
  rw [index_one,hn,if_neg (by simp [exP])]
 rw [i1,zd,if_pos sm,i2,zd]
 exact Ok.ret rfl
end Go.Dw.Em
set_option maxRecDepth 100000
set_option maxHeartbeats 4000000
namespace Go.Dw.Em
open Go.Dw Go.Proofs
open Sd (iC fd eD)
theorem zn_point{q:ah}(hq:PV q){x:aa}(hx:In q.aM x){b:Ph}(hb:b∈q.a7){d:Int}(h0:0<=d)(h1:d*d<=nn b.aN x)(h2:nn b.aN x<(d+1)*(d+1)):
  ∃u:Int,(0<=u∧u<q.aW.aC.length)∧d.tdiv q.aW.aZ<=u∧(0<=d.tdiv q.aW.aZ∧d.tdiv q.aW.aZ<q.aW.aI.length)∧zn q ⟨x,x⟩ b=⟨b.aQ-q.aW.aC.getD u.toNat 0,b.bw-q.aW.aI.getD (d.tdiv q.aW.aZ).toNat 0⟩:=by
 obtain⟨hv,hr⟩:=hq.ph b hb
 have hbx:=hx.ok hq.box hq.reg
 obtain⟨hp,p1,p2,p3,p4⟩:=id hv
 have hva:dc b=some true:=by
  unfold dc
  rw [gp hp,zd,if_pos rfl,if_pos (by simpa using p1),if_pos (by simpa using p2),if_pos (by simpa using p3),if_pos (by simp [p4])]
  simp [p4]
 obtain⟨n1,n2,n3⟩:=om hbx hp
 obtain⟨f1,f2,f3⟩:=qA hbx hp
 have hn:=near_nn b.aN x;have hf:=far_nn b.aN x
 obtain⟨y,c,u,e,⟨y0,y1⟩,⟨y2,y3⟩,⟨c0,c1,c2⟩,⟨u0,u1⟩,u2,u3,u4⟩:=ow hq.tab (k9 ⟨x,x⟩ b.aN) (lg ⟨x,x⟩ b.aN) n2 (lV hbx _) za (Int.le_trans (rA hx _) hr)
 obtain rfl:y=d:=sq_uniq y0 h0 y2 y3 (by rw [hn];exact h1) (by rw [hn];exact h2)
 have hi:d8 q.aW ⟨x,x⟩ b.aN=some (q.aW.aI.getD (y.tdiv q.aW.aZ).toNat 0,q.aW.aC.getD u.toNat 0,0):=by
  unfold d8 ib
  rw [fc hq.tab,dp hbx,gp hp,n1,f1]
  simp only [zd]
  rw [if_neg sm,if_neg sm,if_neg sm,e]
  rfl
 have hl:=hq.tab.len;have hsame:=hq.tab.same;have hst:=hq.tab.step
 have hlo:∀z:Int,0<=q.aW.aI.getD z.toNat 0∧q.aW.aI.getD z.toNat 0<=1500:=fun z=>by
  rw [List.getD_eq_getElem?_getD]
  cases hz:q.aW.aI[z.toNat]? with
  |none=>simp
  |some w=>
   have hm:=List.mem_of_getElem? hz
   exact⟨hq.tab.lows w hm,hq.tab.lowb w hm⟩
 have hhi:0<=q.aW.aC.getD u.toNat 0∧q.aW.aC.getD u.toNat 0<=5000:=by
  rw [List.getD_eq_getElem?_getD]
  cases hz:q.aW.aC[u.toNat]? with
  |none=>simp
  |some w=>exact hq.tab.highs w (List.mem_of_getElem? hz)
 have hlo':=hlo (y.tdiv q.aW.aZ)
 have hz:=(sb hq hx hb).1
 unfold du at hz
 rw [fc hq.tab,zd,if_neg sm,dp hbx,zd,if_neg sm,hva,zd,if_neg sm,hi,zd,if_neg sm]at hz
 dsimp only at hz
 rw [w64 za za,w64 za za]at hz
 simp only [Option.some.injEq,Prod.mk.injEq,and_true]at hz
 refine⟨u,⟨u0,u1⟩,?_,⟨Int.tdiv_nonneg y0 za,y1⟩,hz.symm⟩
 have hyc:y<=c:=by
  apply Classical.byContradiction
  intro h
  have h3:(c+1)*(c+1)<=y*y:=Int.mul_le_mul za za za za
  have h4:(c+1)*(c+1)=c*c+2*c+1:=by rw [Int.add_mul,Int.mul_add];omega
  omega
 rw [Int.tdiv_eq_ediv_of_nonneg y0]
 exact Int.ediv_le_of_le_mul za za
theorem sol_least{s:ar}(hs:iZ s){v:al}(hv:kZ v){U:List Pick}(hus:UsOk s v U)(hl:U.length<=19)(h0:U≠ []):Least (na s.ae (U.map (phU s v))) s.bf (sol s v U).av:=by
 have hm:=mat_ok hs hv hl hus
 obtain⟨hm,hph⟩:=hm
 obtain⟨⟨l1,l2⟩,l3, -, -⟩:=id hm
 have hlen:1<=U.length:=List.length_pos_iff.2 h0
 have htl:=hs.tab.len;have hts:=hs.tab.same
 have hq:PV (na s.ae (U.map (phU s v))):=qc hs (pZ hs hv hus) (by rw [List.length_map];omega)
 obtain⟨x,ex,x1,x2⟩:=rF hq hs.tolerance.1
 obtain⟨x',ex',x1',x2',x3'⟩:=locate_ok hq hs.tolerance.1
 rw [ex]at ex'
 obtain rfl:=Option.some.inj ex'
 have key:Ok (oX (mat s v U) s) (fun r=>r.1.av=x.1):=by
  unfold oX gl
  have hpl:(mat s v U).dv.length=U.length:=rfl
  have hpp:(mat s v U).dj.length=U.length:=by simp [mat]
  rw [if_neg (by rw [hpp];simp;omega),if_neg (by rw [hpp];simp;omega),p7 za,zd,p7 za,zd,zd,if_neg sm]
  show Ok ((c9 (na s.ae (U.map (phU s v))) s.bf).bind _) _
  rw [ex,zd,if_neg (by simp [x1])]
  refine Ok.bind (rz hs hm (x2'.ok hs.box hs.reg)) (fun y hy=>?_)
  refine Ok.gv (fun hgt=>?_) (fun _=>Ok.ret rfl)
  refine Ok.bind (network_ok za hy.1 hy.2) (fun z hz=>?_)
  exact Ok.rm (fun h=>(h hz).elim) (fun _=>Ok.ret rfl)
 obtain⟨r,er,hr⟩:=key
 have:sol s v U=r.1:=by unfold sol;rw [er];rfl
 rw [this,hr]
 exact x2
structure Mp(s:ar)(v:al)(x:aa)(t:Int)(y:Pick):Prop where
 ok:io y
 time:2000<=y.bn∧y.bn<100000
 fit:∃e d,px v y.aw y.bn=some e∧0<=d∧d*d<=nn e.aP x∧nn e.aP x<(d+1)*(d+1)∧y.aQ=t+s.ae.aW.aI.getD (d.tdiv s.ae.aW.aZ).toNat 0
 late:y.aQ+4<=y.bw
theorem made_law{s:ar}(hs:iZ s)(htol:s.ae.bf=0)(hspan:s.ae.dC=2000)(hleast:s.ae.co=2){v:al}(hv:kZ v){x:aa}(hx:In s.ae.aM x){t:Int}(ht:2500<=t∧t<=3000){U:List Pick}
  (hU:U.map (·.aw)=(List.range U.length).map sid) (hl3:3<=U.length) (hl6:U.length<=6) (hm:∀y∈U,Mp s v x t y):fe s v U=some ([evM s v U],[],0)∧(sol s v U).ec=U∧(sol s v U).av.bq<=s.bf:=by
 have hsorted:U.Pairwise fun a b=>ip a b<0:=by
  have h1:(U.map (·.aw)).Pairwise fun a b=>iC a b<0:=by
   rw [hU,List.pairwise_map]
   exact List.pairwise_lt_range.imp_of_mem fun ha hb hab=>sid_lt hab (by have:=List.mem_range.1 hb;omega)
  rw [List.pairwise_map]at h1
  refine h1.imp fun{a b}h=>?_
  unfold ip
  rw [if_pos za];exact h
 have hus:UsOk s v U:=fun y hy=>by
  obtain⟨e,d,he, -⟩:=(hm y hy).fit
  exact⟨(hm y hy).ok,(ol hs hv (hm y hy).ok he).1⟩
 have hpo:=pZ hs hv hus
 have hne:U≠ []:=fun h=>by rw [h]at hl3;simp at hl3
 have hUl:1<=(U.map (phU s v)).length∧(U.map (phU s v)).length<=64:=by rw [List.length_map];omega
 have hlow:∀z:Int,0<=s.ae.aW.aI.getD z.toNat 0∧s.ae.aW.aI.getD z.toNat 0<=1500:=fun z=>by
  rw [List.getD_eq_getElem?_getD]
  cases hz:s.ae.aW.aI[z.toNat]? with
  |none=>simp
  |some w=>
   have hm:=List.mem_of_getElem? hz
   exact⟨hs.tab.lows w hm,hs.tab.lowb w hm⟩
 have hph:∀y∈U,(phU s v y).aQ=y.aQ:=fun y hy=>by
  obtain⟨e,d,he, -⟩:=(hm y hy).fit
  rw [(ol hs hv (hm y hy).ok he).2]
 have hzero:∀W:List Pick,(∀y∈W,y∈U)->W≠ []->W.length<=12->mis (na s.ae (W.map (phU s v))) x=0:=fun W hW h0 hl=>by
  have hq:=qc hs (pZ hs hv fun y hy=>hus y (hW y hy)) (by rw [List.length_map];have:=List.length_pos_iff.2 h0;omega)
  refine mis_zero hq hx (t:=t) fun b hb=>?_
  obtain⟨y,hy,rfl⟩:=List.mem_map.1 hb
  obtain⟨e,d,he,d0,d1,d2,hE⟩:=(hm y (hW y hy)).fit
  have hu:=(ol hs hv (hm y (hW y hy)).ok he).2
  obtain⟨u,⟨u0,u1⟩,hdu,⟨k0,k1⟩,hz⟩:=zn_point hq hx (b:=phU s v y) (List.mem_map_of_mem hy) d0 (by rw [hu];exact d1) (by rw [hu];exact d2)
  rw [hz,hu]
  have hlate:=(hm y (hW y hy)).late
  have hsame:=hs.tab.same
  have k1':d.tdiv s.ae.aW.aZ<s.ae.aW.aI.length:=k1
  have k0':0<=d.tdiv s.ae.aW.aZ:=k0
  have hdu':d.tdiv s.ae.aW.aZ<=u:=hdu
  have u1':u<s.ae.aW.aC.length:=u1
  have hLH:s.ae.aW.aI.getD (d.tdiv s.ae.aW.aZ).toNat 0<=s.ae.aW.aC.getD u.toNat 0:=by
   rw [List.getD_eq_getElem?_getD,List.getD_eq_getElem?_getD,ze za,ze za]
   simp only [Option.getD_some]
   have a1:=hs.tab.lh (d.tdiv s.ae.aW.aZ).toNat za za
   have a2:=asc_le hs.tab.high (i:=(d.tdiv s.ae.aW.aZ).toNat) (j:=u.toNat) za za
   omega
  unfold res
  simp only [na]
  omega
 have hmem:∀y,y∈ko s v U↔y∈U:=fun y=>(cp _ U).mem_iff
 have hOl:(ko s v U).length=U.length:=fS _ U
 have hOne:ko s v U≠ []:=fun h=>by rw [h]at hOl;simp at hOl;omega
 have husO:UsOk s v (ko s v U):=fun y hy=>hus y ((hmem y).1 hy)
 have hpoO:=pZ hs hv husO
 have hOl2:1<=((ko s v U).map (phU s v)).length∧((ko s v U).map (phU s v)).length<=64:=by rw [List.length_map];omega
 have hfit := fit_all hs hpoO hOl2 (by
  obtain⟨-,hL, -⟩:=loc_at hs hpoO hOl2
  have h1:=hL.near x hx
  rw [hzero _ (fun y hy=>(hmem y).1 hy) hOne za,htol]at h1
  omega)
 have hR := rnd_one hs (v := v) (O := ko s v U) (by rw [hleast, hOl]; omega) za (fun p hp i hi => by
  have hp':=(hmem p).1 hp;have hi':=(hmem i).1 hi
  rw [hph p hp',hph i hi',hspan]
  obtain⟨e,d, -, -, -, -,h1⟩:=(hm p hp').fit
  obtain⟨e',d', -, -, -, -,h2⟩:=(hm i hi').fit
  have a1:=hlow (d.tdiv s.ae.aW.aZ);have a2:=hlow (d'.tdiv s.ae.aW.aZ)
  omega) hfit
 have hsP:cW cP (ko s v U)=U:=jD cy (gQ cy (fun _ _=>je) ((cp _ U).nodup_iff.2 (gR cy hsorted))) hsorted fun y=>by rw [(cp _ _).mem_iff];exact hmem y
 have hf:=find_at hs hv (pU hsorted za) hsorted za (fun p h=>(hus p h).1) (by rw [oZ hus];omega)
 rw [oZ hus,hR]at hf
 refine⟨?_,(nJ hs hv hsorted hus za hne).2,?_⟩
 ·rw [hf]
  simp only [List.map_cons,List.map_nil,hsP]
  rfl
 ·have hL:=sol_least hs hv hus za hne
  have h1:=hL.near x hx
  rw [hzero U (fun _ h=>h) hne za]at h1
  omega
theorem point_in(b:ag)(hb:eM b)(d:Src)(hd:b9 d):Ok (mJ b d) (fun r=>In b r.1∧b9 r.2):=by
 obtain⟨⟨p1,p2,p3⟩,q1,q2,q3⟩:=hb
 unfold mJ
 refine Ok.bind (oh _ _ za za za za d hd) (fun y1 g1=>?_)
 refine Ok.bind (oh _ _ za za za za _ g1.2) (fun y2 g2=>?_)
 refine Ok.bind (oh _ _ za za za za _ g2.2) (fun y3 g3=>?_)
 exact Ok.ret ⟨⟨zc,zc,zc⟩,g3.2⟩
def made(s:ar):ar:=ar.mk (aG.mk s.ae.aM s.ae.aW s.ae.cG 0 2000 s.ae.d9 2) s.cm s.bf
theorem made_ok{s:ar}(h:iZ s):iZ (made s):=⟨h.box,h.reg,h.tab,h.cap,by simp [made],by simp [made],h.limit,by simp [made],h.cor,h.num,h.den,h.tolerance⟩
theorem EventMade_law(a0:List Int):me a0=some true:=by
 refine Ok.eq ?_
 unfold me
 refine Ok.bind (new_ok a0) (fun x1 h1=>?_)
 refine Ok.bind (settingsV (k:=3) za x1 h1) (fun x2⟨ha,h2⟩=>?_)
 refine Ok.bind ((sitesV (n:=6) x2.2 h2).both (sites_cover (n:=6) za x2.2 h2)) (fun x3⟨⟨⟨hv,hv2⟩,h3⟩,hmap,hcov⟩=>?_)
 refine Ok.bind ((point_in x2.1.ae.aM ha.box x3.2 h3).both (point_ok x2.1.ae.aM ha.box x3.2 h3)) (fun x4⟨⟨hx,h4⟩,hx60,_⟩=>?_)
 refine Ok.bind (d7 _ x4.2 h4 za za) (fun x5⟨t0,t1,h5⟩=>?_)
 have hms:=made_ok ha
 refine Ok.bind (P:=fun o:List Pick⊕Bool=>∃U,o= .inl U∧U.map (·.aw)=(List.range U.length).map sid∧3<=U.length∧U.length<=6∧∀y∈U,Mp (made x2.1) x3.1 x4.1 (2500+x5.1) y)
  (Ok.loop (fun z:Int×List Int×Int×List Pick=>∃i:Nat,z.1=(i:Int)∧i<=6∧z.2.2.2.length=i∧z.2.2.2.map (·.aw)=(List.range i).map sid∧b9 ⟨z.2.1,z.2.2.1⟩∧∀y∈z.2.2.2,Mp (made x2.1) x3.1 x4.1 (2500+x5.1) y) (fun z=>(6-z.1).toNat) ?_ ⟨0,rfl,za,rfl,rfl,h5,sm⟩) (fun o ho=>?_)
 ·rintro⟨s6,s7,s8,s9⟩ ⟨i,i0,i1,i2,i3,i4,i5⟩
  simp only at i0 i2 i3 i4 i5
  subst i0
  unfold js
  dsimp only
  refine Ok.bind (d7 _ _ i4 za za) (fun x12 g12=>?_)
  rw [w64 (n:=3+x12.1) za za]
  refine Ok.gv (fun hlt=>?_) (fun hge=>Ok.st ⟨s9,rfl,by rw [i2];exact i3,za,za,i5⟩)
  have hi:i<6:=by omega
  obtain⟨c,e,hch,hep⟩:=site_at hmap hcov hi
  have hT:2000<=2500+x5.1+100∧2500+x5.1+100<100000:=by omega
  rw [w64 (n:=2500+x5.1) za za,w64 (n:=2500+x5.1+100) za za,qi rfl hi,zd,place_at hv hch (hep _ hT.1 hT.2),zd,if_neg sm,zd]
  have hea:∀T:Int,2000<=T->T<100000->px x3.1 (sid i) T=some e:=fun T q1 q2=>by unfold px;rw [hch];exact hep T q1 q2
  have hek:=ry hv (hea _ hT.1 hT.2)
  have hpo:io ⟨sid i,2500+x5.1+100,2500+x5.1+100,2500+x5.1+100,0,0⟩:=⟨sid_ok hi,zc,sm,sm,zc,sm,sm,sm,sm⟩
  have hru:=rusable_at hms hv hpo (hea _ hT.1 hT.2)
  unfold made at hru
  rw [hru,zd,if_neg sm]
  refine Ok.bind (root_at hek.pos hx60) (fun d⟨d0,d1,d2,d3⟩=>?_)
  rw [zd]
  have hst:=ha.tab.step;have hl:=ha.tab.len;have hfar:=ha.tab.far
  have hq0:0<=d.tdiv x2.1.ae.aW.aZ:=Int.tdiv_nonneg d0 za
  have hq1:d.tdiv x2.1.ae.aW.aZ<=(x2.1.ae.aW.aI.length:Int)-1:=by
   rw [Int.tdiv_eq_ediv_of_nonneg d0]
   exact Int.ediv_le_of_le_mul za (by rw [Int.mul_comm];omega)
  refine Ok.bind (Ok.quo za) (fun k hk=>?_)
  rw [w64 za za]at hk
  subst hk
  refine Ok.bind (Ok.get hq0 za) (fun low hlow=>?_)
  have hlb:0<=low∧low<=1500:=⟨ha.tab.lows low hlow.1,ha.tab.lowb low hlow.1⟩
  refine Ok.bind (d7 _ _ g12.2.2 za za) (fun x24 g24=>?_)
  refine Ok.bind (d7 _ _ g24.2.2 za za) (fun x25 g25=>?_)
  rw [d5 so,zd,w64 (n:=2500+x5.1+low) za za,w64 (n:=2500+x5.1+low+x24.1) za za,w64 (n:=2500+x5.1+low+4) za za,w64 (n:=2500+x5.1+low+4+x25.1) za za,w64 (n:=(i:Int)+1) za za]
  refine Ok.nx ⟨i+1,sm,za,by simp [i2],?_,g25.2.2,fun y hy=>?_⟩ zc
  ·simp [List.range_succ,i3]
  ·simp only [List.mem_append,List.mem_singleton]at hy
   rcases hy with hy|rfl
   ·exact i5 y hy
   ·refine⟨⟨sid_ok hi,zc,zc,zc,zc,sm,sm,sm,sm⟩,⟨zc,zc⟩,⟨e,d,hea _ zc zc,d0,d2,d3,?_⟩,zc⟩
    have:x2.1.ae.aW.aI.getD (d.tdiv x2.1.ae.aW.aZ).toNat 0=low:=by
     rw [List.getD_eq_getElem?_getD,hlow.2];rfl
    simp only [made,this]
 ·obtain⟨U,rfl,hU,l3,l6,hm⟩:=ho
  dsimp only
  obtain⟨hf,hp,hmis⟩:=made_law hms rfl rfl rfl hv (x:=x4.1) hx (t:=2500+x5.1) za hU l3 l6 hm
  have hf':=hf
  conv at hf'=>lhs;arg 1;unfold made
  rw [hf',zd,if_pos sm,if_pos sm,if_pos sm,show eV [evM (made x2.1) x3.1 U] (0:Int)=some (evM (made x2.1) x3.1 U)from rfl,zd]
  have hp':(evM (made x2.1) x3.1 U).aF.ec=U:=hp
  have hm':(evM (made x2.1) x3.1 U).aF.av.bq<=x2.1.bf:=hmis
  rw [hp',if_pos sm,zd,if_pos (by simpa using hm'),awake_at]
  exact Ok.ret rfl
end Go.Dw.Em
