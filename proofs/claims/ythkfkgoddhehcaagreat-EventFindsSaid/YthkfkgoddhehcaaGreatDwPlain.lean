
import Derived.Test.YthkfkgoddhehcaaGreatDwLift4
import Derived.IntWalk
import Derived.Sort.Walk0
import Derived.Sort.AssemblyPlain
open Go.IntKind renaming wrap->GV
open List renaming append_assoc->ED, append_nil->GW, length_cons->EZ, mem_cons->GX
open Nat renaming le_refl->EB

namespace Go.Dw
theorem wi{σ ω:Type}{body:σ->Option (pH σ ω)}(I:σ->Prop)(m:σ->Nat)(Q:ω->Prop)
  (step:∀s,I s->(∃s',body s=some (.next s')∧I s'∧m s'<m s)∨(∃o,body s=some (.stop o)∧Q o)):∀s,I s->∃o,cI body s=some o∧Q o:=by
 intro s
 generalize k:m s=n
 induction n using Nat.strongRecOn generalizing s with
 |_ n g=>
  intro hs
  rcases step s hs with⟨s',h1,a,j⟩|⟨o,h1,a⟩
  ·obtain⟨o,c,f⟩:=g (m s') za s' rfl a
   exact⟨o,by rw [tv h1];exact c,f⟩
  ·exact⟨o,dE h1,a⟩
theorem kp{α:Type}{l:List α}{n:Int}{i:Nat}(a:n=i)(hi:i<l.length):py l n=some l[i]:=by
 subst a
 unfold py
 rw [if_pos za,Int.toNat_natCast,ze hi]
theorem tN{α:Type}{l:List α}{n:Int}(a:0<=n)(h1:n<l.length):inO l n=some ():=by unfold inO;rw [if_pos ⟨a,h1⟩]
theorem wq{n:Nat}{lo hi:Int}(a:0<=lo)(h1:lo<=hi)(c:hi<=n):wQ n lo hi=some ():=by unfold wQ;rw [if_pos ⟨a,h1,c⟩]
theorem Ci{n lo hi:Nat}{i:Int}(a:0<=i)(h1:i<(hi:Int)-lo)(c:hi<=n):inV n lo hi i=some ():=by unfold inV;rw [if_pos ⟨a,h1,c⟩]
theorem DZ{n lo hi:Nat}(h1:lo<=hi)(a:hi<=n):lenV n lo hi=some ((hi:Int)-lo):=by unfold lenV;rw [if_pos ⟨h1,a⟩]
theorem yL{n lo hi:Nat}(h1:lo<=hi)(a:hi<=n):yK n lo hi=some ():=by unfold yK;rw [if_pos ⟨h1,a⟩]
theorem yE{α:Type}{l:List α}{lo hi:Nat}(h1:lo<=hi)(a:hi<=l.length):xg l lo hi=some ((l.drop lo).take (hi-lo)):=by unfold xg;rw [if_pos ⟨h1,a⟩]
theorem vz{α:Type}{l:List α}{n:Int}{i:Nat}{y:α}(a:n=i)(hi:i<l.length):vd l n y=some (l.set i y):=by
 subst a
 unfold vd
 rw [if_pos ⟨za,za⟩,Int.toNat_natCast]
theorem w64{n:Int}(a: -9223372036854775808<=n)(h1:n<=9223372036854775807):GV .i64 n=n:=IntWalk.i64_in _ za
structure Tot{α:Type}(c:α->α->Int):Prop where
 vM:∀x y,c y x= -c x y
 tr:∀x y z,c x y<=0->c y z<=0->c x z<=0
theorem Tot.refl{α:Type}{c:α->α->Int}(h:Tot c)(x:α):c x x=0:=by have:=h.vM x x;omega
theorem Tot.or{α:Type}{c d:α->α->Int}(hc:Tot c)(f:Tot d):Tot (λx y=>if c x y≠0 then c x y else d x y):=by
 refine⟨λx y=>?_,λx y z h1 a=>?_⟩
 ·have:=hc.vM x y;have:=f.vM x y
  by_cases h:c x y=0
  ·rw [if_neg za,if_neg za];omega
  ·rw [if_pos za,if_pos h];omega
 ·have a1:c x y<=0:=by split at h1<;>omega
  have a2:c y z<=0:=by split at a<;>omega
  have a3:=hc.tr x y z a1 a2
  by_cases h:c x z=0
  ·rw [if_neg za]
   have b1:=hc.tr z x y (by have:=hc.vM x z;omega) a1
   have b2:=hc.tr y z x a2 (by have:=hc.vM x z;omega)
   have g:=hc.vM x y;have e2:=hc.vM y z
   rw [if_neg za]at h1;rw [if_neg za]at a
   exact f.tr x y z h1 a
  ·rw [if_pos h];exact a3
theorem Tot.map{α β:Type}{c:β->β->Int}(h:Tot c)(f:α->β):Tot (λx y=>c (f x) (f y)):=⟨λx y=>h.vM _ _,λx y z=>h.tr _ _ _⟩
theorem Tot.lt{α:Type}{c:α->α->Int}(h:Tot c){x y z:α}(h1:c x y<0)(f:c y z<=0):c x z<0:=by
 have a:=h.tr x y z za f
 by_cases g:c x z=0
 ·have b:=h.tr y z x f (by have:=h.vM x z;omega)
  have:=h.vM x y;omega
 ·omega
theorem Tot.swo{α:Type}{c:α->α->Int}(h:Tot c):Sort.SWO (λx y=>decide (c x y<0)):=by
 refine⟨λx=>?_,λx y z h1 a=>?_,λx y z h1 a=>?_⟩
 ·have:=h.refl x;simp;omega
 ·simp only [decide_eq_true_eq]at*
  exact h.lt h1 za
 ·simp only [decide_eq_false_iff_not]at*
  have:=h.tr z y x (by have:=h.vM y z;omega) (by have:=h.vM x y;omega)
  have:=h.vM x z;omega
def wu(a b:List UInt8):Int:=if Op.bytesLess a b=true then-1 else if a=b then 0 else 1
theorem yM(a:List UInt8):Op.bytesLess a a=false:=by rw [Proofs.bytesLess_eq];simp
theorem CD{a b:List UInt8}(h:Op.bytesLess a b=true):Op.bytesLess b a=false:=by
 rw [Proofs.bytesLess_eq]at*;simp only [decide_eq_true_eq,decide_eq_false_iff_not]at*
 exact List.lt_asymm h
theorem bl_trans{a b c:List UInt8}(h:Op.bytesLess a b=true)(f:Op.bytesLess b c=true):Op.bytesLess a c=true:=by
 rw [Proofs.bytesLess_eq]at*;simp only [decide_eq_true_eq]at*
 exact List.lt_trans h f
theorem Bb{a b:List UInt8}(h:Op.bytesLess a b=false)(c:Op.bytesLess b a=false):a=b:=by
 rw [Proofs.bytesLess_eq]at*;simp only [decide_eq_false_iff_not,List.not_lt]at*
 exact List.le_antisymm c h
theorem Ak{a b:List UInt8}:wu a b=0↔a=b:=by
 unfold wu
 constructor
 ·intro h;split at h
  ·omega
  ·split at h
   ·assumption
   ·omega
 ·rintro rfl;rw [yM];simp
theorem CH{a b:List UInt8}:wu a b<0↔Op.bytesLess a b=true:=by
 unfold wu
 split
 ·simp [*]
 ·rename_i h;split<;>simp only [h]<;>simp
theorem cmpB_le{a b:List UInt8}:wu a b<=0↔Op.bytesLess b a=false:=by
 constructor
 ·intro h
  rcases Int.lt_or_eq_of_le h with h|h
  ·exact CD (CH.1 h)
  ·rw [Ak]at h;subst h;exact yM a
 ·intro h
  cases c:Op.bytesLess a b with
  |true=>have:=CH.2 c;omega
  |false=>have:=Bb c h;subst this;rw [Ak.2 rfl];omega
theorem zP:Tot wu:=by
 refine⟨λx y=>?_,λx y z h1 a=>?_⟩
 ·unfold wu
  cases h:Op.bytesLess x y with
  |true=>
   have a:=CD h
   have c:y≠x:=by rintro rfl;rw [yM]at h;cases h
   simp [a,c]
  |false=>
   cases a:Op.bytesLess y x with
   |true=>
    have c:x≠y:=by rintro rfl;rw [yM]at a;cases a
    simp [c]
   |false=>have:=Bb h a;subst this;simp
 ·rw [cmpB_le]at*
  cases h:Op.bytesLess z x with
  |false=>rfl
  |true=>
   cases f:Op.bytesLess y z with
   |true=>have:=bl_trans f h;rw [h1]at this;cases this
   |false=>have:=Bb f a;subst this;rw [h1]at h;cases h
theorem Dq(a b:List UInt8): -1<=wu a b∧wu a b<=1:=by
 unfold wu;split
 ·omega
 ·split<;>omega
def uu(a b:Int):Int:=if a<b then-1 else if a>b then 1 else 0
theorem vY{a b:Int}:uu a b=0↔a=b:=by
 unfold uu
 split
 ·omega
 ·split<;>omega
theorem u7:Tot uu:=by
 refine⟨λx y=>?_,λx y z h1 a=>?_⟩<;>unfold uu at* <;>(repeat' split at*)<;>omega
section
variable {α:Type} [DecidableEq α]
def cpt:List α->List α
 | []=>[]
 | [a]=>[a]
 |a::b::l=>if b=a then cpt (b::l)else a::cpt (b::l)
theorem A0{x:α}:∀{l:List α},x∈cpt l↔x∈l
 | []=>Iff.rfl
 | [a]=>Iff.rfl
 |a::b::l=>by
  unfold cpt
  split
  ·rename_i h;subst h;rw [A0];simp
  ·rw [GX,A0,GX (a:=x) (b:=a)]
theorem CN(x y:α):∀l:List α,cpt (l++[x,y])=cpt (l++[x])++(if y=x then []else [y])
 | []=>by by_cases h:y=x<;>simp [cpt,h]
 | [a]=>by
  by_cases c:x=a
  ·subst c;by_cases h:y=x<;>simp [cpt,h]
  ·by_cases h:y=x
   ·subst h;simp [cpt,c]
   ·simp [cpt,h,c]
 |a::b::l=>by
  have:=CN x y (b::l)
  simp only [List.cons_append]at this⊢
  unfold cpt
  split
  ·exact this
  ·rw [this];rfl
theorem Bh:∀l:List α,(cpt l).length<=l.length
 | []=>EB _
 | [a]=>EB _
 |a::b::l=>by
  have:=Bh (b::l)
  unfold cpt
  split
  ·simp only [EZ]at*;omega
  ·simp only [EZ]at*;omega
theorem Bi:∀(l:List α),(∀n,(h:n+1<l.length)->l[n+1]≠l[n])->cpt l=l
 | [],_=>rfl
 | [a],_=>rfl
 |a::b::l,h=>by
  unfold cpt
  have c:=h 0 zb
  simp only [List.getElem_cons_succ,List.getElem_cons_zero]at c
  rw [if_neg c, Bi (b :: l) (λn f => by
   have:=h (n+1) (by simp at f⊢;omega)
   simpa using this)]
theorem xM{c:α->α->Int}(hc:Tot c)(j:∀x y,c x y=0->x=y):∀{l:List α},l.Pairwise (λx y=>c x y<=0)->(cpt l).Pairwise (λx y=>c x y<0)
 | [],_=>.nil
 | [a],_=>by simp [cpt]
 |a::b::l,h=>by
  unfold cpt
  obtain⟨p,k⟩:=List.pairwise_cons.1 h
  split
  ·exact xM hc j k
  ·rename_i f
   refine List.pairwise_cons.2 ⟨λy q=>?_,xM hc j k⟩
   have g:=A0.1 q
   have h1:=p y g
   by_cases r:c a y=0
   ·have e:=j _ _ r
    subst e
    rcases List.mem_cons.1 g with e|hm
    ·exact(f e.symm).elim
    ·have t:=(List.pairwise_cons.1 k).1 a hm
     have u:=p b zb
     have:=hc.vM a b
     exact(f (j b a za)).elim
   ·omega
end
noncomputable def wS {α:Type} (eq:α->α->Bool) (s2:Int) (d0:List α):(Int×Int×List α)->Option (pH (Int×Int×List α) (Int×List α)):=fun(f,c,a)=>
 (lenV a.length (0+(s2:Int).toNat) (0+((d0.length:Int):Int).toNat)).bind λg=>if(decide (c<g))=true then((inV a.length (0+(s2:Int).toNat) (0+((d0.length:Int):Int).toNat) c).bind λ_=>(py a (((0+(s2:Int).toNat)+(c:Int).toNat:Nat):Int)).bind λj=>(inV a.length (0+(s2:Int).toNat) (0+((d0.length:Int):Int).toNat) (GV .i64 (c-(1:Int)))).bind λ_=>(py a (((0+(s2:Int).toNat)+((GV .i64 (c-(1:Int))):Int).toNat:Nat):Int)).bind λk=>if(!(eq j k))=true then((inV a.length (0+(s2:Int).toNat) (0+((d0.length:Int):Int).toNat) c).bind λ_=>(py a (((0+(s2:Int).toNat)+(c:Int).toNat:Nat):Int)).bind λl=>(inO a f).bind λ_=>(vd a f l).bind λp=>some (.next ((GV .i64 (f+(1:Int))),(GV .i64 (c+(1:Int))),p)))else(some (.next (f,(GV .i64 (c+(1:Int))),a))))else(some (.stop (f,a)))
noncomputable def wc {α:Type} (eq:α->α->Bool) (z:α) (d0:List α):Int->Option (pH (Int) ((Unit)⊕(List α))):=λs2=>
 if(decide (s2<(d0.length:Int)))=true then((inO d0 s2).bind λ_=>(py d0 s2).bind λg=>(inO d0 (GV .i64 (s2-(1:Int)))).bind λ_=>(py d0 (GV .i64 (s2-(1:Int)))).bind λc=>if(eq g c)=true then((wQ d0.length s2 (d0.length:Int)).bind λ_=>(cI (wS eq s2 d0) (s2,(1:Int),d0)).bind λa=>(wQ a.2.length a.1 (a.2.length:Int)).bind λ_=>(yK a.2.length (0+(a.1:Int).toNat) (0+((a.2.length:Int):Int).toNat)).bind λ_=>(wQ (w5 a.2 (0+(a.1:Int).toNat) ((0+((a.2.length:Int):Int).toNat)-(0+(a.1:Int).toNat)) z).length (0:Int) a.1).bind λ_=>(xg (w5 a.2 (0+(a.1:Int).toNat) ((0+((a.2.length:Int):Int).toNat)-(0+(a.1:Int).toNat)) z) (0+(0:Int).toNat) (0+(a.1:Int).toNat)).bind λf=>some (.stop (.inr f)))else(some (.next (GV .i64 (s2+(1:Int))))))else(some (.stop (.inl ())))
noncomputable def zQ {α:Type} (eq:α->α->Bool) (z:α) (d0:List α):Option (List α):=
 if(decide ((d0.length:Int)<(2:Int)))=true then(some d0)else((cI (wc eq z d0) (1:Int)).bind λa=>match a with| .inl _=>(some d0)| .inr c=>(some c))
theorem tD{α:Type}{l:List α}{n:Nat}(h:n<l.length):l.take (n+1)=l.take n++[l[n]]:=by
 rw [List.take_add_one,ze h];rfl
section
variable {α:Type} [DecidableEq α] {eq:α->α->Bool}(heq:∀x y,eq x y=decide (x=y))
theorem CO{l:List α}{n:Nat}(a:n+1<l.length):cpt (l.take (n+2))=cpt (l.take (n+1))++(if l[n+1]=l[n]'za then []else [l[n+1]]):=by
 rw [tD a,tD (show n<l.length by omega),ED]
 exact CN _ _ _
include heq
theorem CI{d:List α}{j:Nat}(h1:1<=j)(C:j<d.length)(F:d.length<=4611686018427387904)(c:cpt (d.take (j+1))=d.take j):
  ∃o,cI (wS eq j d) ((j:Int),(1:Int),d)=some o∧∃i:Nat,o.1=(i:Int)∧i<=d.length∧o.2.length=d.length∧o.2.take i=cpt d:=by
 refine wi (λs:Int×Int×List α=>∃i k:Nat,s.1=(i:Int)∧s.2.1=(k:Int)∧1<=k∧j+k<=d.length∧i+1<=j+k∧s.2.2.length=d.length∧s.2.2.take i=cpt (d.take (j+k))∧∀p,j+k<=p+1->s.2.2[p]? =d[p]?)
  (λs=>((d.length:Int)-s.2.1).toNat) _ ?_ _ ⟨j,1,rfl,rfl,EB _,C,za,rfl,c.symm,λp _=>rfl⟩
 rintro⟨s1,s2,l⟩ ⟨i,k,u,e2,hk,D,hi,f,g,hp⟩
 simp only at u e2 f g hp
 subst u e2
 have t1:(0+((j:Int)).toNat)=j:=by omega
 have t2:(0+((d.length:Int)).toNat)=d.length:=by omega
 unfold wS
 simp only [t1,t2]
 rw [DZ za za]
 simp only [zd]
 by_cases E:j+k<d.length
 ·rw [if_pos so]
  refine .inl ?_
  have q:GV .i64 ((k:Int)-1)=(k:Int)-1:=w64 za za
  have r:GV .i64 ((k:Int)+1)=(k:Int)+1:=w64 za za
  have t:GV .i64 ((i:Int)+1)=(i:Int)+1:=w64 za za
  rw [Ci za za za]
  simp only [zd,q,r,t]
  rw [kp (i:=j+k) za za,Ci za za za,kp (i:=j+k-1) za za]
  simp only [zd]
  have g1:l[j+k]'za=d[j+k]:=by
   have:=hp (j+k) za
   rw [ze za,ze za]at this
   exact Option.some.inj this
  have g2:l[j+k-1]'za=d[j+k-1]'za:=by
   have:=hp (j+k-1) za
   rw [ze za,ze za]at this
   exact Option.some.inj this
  have a:=CO (l:=d) (n:=j+k-1) za
  have z:j+k-1+1=j+k:=by omega
  have B:j+k-1+2=j+k+1:=by omega
  simp only [z,B]at a
  by_cases hc:d[j+k]=d[j+k-1]'za
  ·rw [if_neg (by rw [heq,g1,g2];simp [hc])]
   rw [if_pos hc,GW]at a
   exact⟨_,rfl,⟨i,k+1,rfl,(by show(k:Int)+1=((k+1:Nat):Int);omega),za,za,za,f,by rw [g, <-a];rfl,λp h=>hp p za⟩,(by show((d.length:Int)-((k:Int)+1)).toNat<((d.length:Int)-(k:Int)).toNat;omega)⟩
  ·rw [if_pos (by rw [heq,g1,g2];simp [hc])]
   rw [if_neg hc]at a
   rw [tN za za,vz (i:=i) rfl za]
   simp only [zd]
   refine⟨_,rfl,⟨i+1,k+1,(by show(i:Int)+1=((i+1:Nat):Int);omega),(by show(k:Int)+1=((k+1:Nat):Int);omega),za,za,za,by simpa using f,?_,λp h=>?_⟩,(by show((d.length:Int)-((k:Int)+1)).toNat<((d.length:Int)-(k:Int)).toNat;omega)⟩
   ·rw [tD so,List.take_set_of_le (EB _),g]
    rw [show j+(k+1)=j+k+1 by omega,a]
    simp [g1]
   ·simp only
    rw [List.getElem?_set_ne za]
    exact hp p za
 ·rw [if_neg so]
  refine .inr ⟨_,rfl,i,rfl,za,f,?_⟩
  rw [g,List.take_of_length_le za]
theorem Dr{z:α}{d:List α}(F:d.length<=4611686018427387904):zQ eq z d=some (cpt d):=by
 unfold zQ
 by_cases E:d.length<2
 ·rw [if_pos so]
  match d,E with
  | [],_=>rfl
  | [a],_=>rfl
 rw [if_neg so]
 obtain⟨o,ho,I⟩:=wi (body:=wc eq z d) (λs:Int=>∃j:Nat,s=(j:Int)∧1<=j∧j<=d.length∧∀n,(h:n+1<j)->(J:j<=d.length)->d[n+1]≠d[n]) (λs=>((d.length:Int)-s).toNat)
  (λo => o = .inr (cpt d) ∨ o = .inl () ∧ cpt d = d) (by
   rintro s ⟨j,rfl,G,c,f⟩
   unfold wc
   by_cases k:j<d.length
   ·rw [if_pos so]
    have t:GV .i64 ((j:Int)-1)=(j:Int)-1:=w64 za za
    have u:GV .i64 ((j:Int)+1)=(j:Int)+1:=w64 za za
    rw [t,u,tN za za,kp (i:=j) rfl k,tN za za,kp (i:=j-1) za za]
    simp only [zd]
    by_cases hc:d[j]=d[j-1]'za
    ·rw [if_pos (by rw [heq];simp [hc]),wq za za za]
     refine .inr ?_
     have p:cpt (d.take (j+1))=d.take j:=by
      have:=CO (l:=d) (n:=j-1) za
      simp only [show j-1+1=j by omega,show j-1+2=j+1 by omega,hc,if_true,GW]at this
      rw [this]
      exact Bi _ λn q=>by
       simp only [List.length_take]at q
       simp only [List.getElem_take]
       exact f n za c
     obtain⟨⟨K,D⟩,ho,i,B,hi,H,C⟩:=CI heq G k F p
     simp only at B H C
     subst B
     simp only [zd,ho]
     have t1:(0+((i:Int)).toNat)=i:=by omega
     have t2:(0+((D.length:Int)).toNat)=d.length:=by omega
     have t3:(0+(0:Int).toNat)=0:=rfl
     simp only [t1,t2,t3]
     have g:(w5 D i (d.length-i) z).length=d.length:=by
      unfold w5;simp;omega
     rw [wq za za za,yL za za,wq za za (by rw [g];omega),yE za (by rw [g];omega)]
     simp only [zd]
     refine⟨_,rfl,.inl ?_⟩
     congr 1
     rw [<-C]
     unfold w5
     rw [List.drop_zero,Nat.sub_zero,ED,List.take_append_of_le_length so,List.take_take,Nat.min_self]
    ·rw [if_neg (by rw [heq];simp [hc])]
     refine .inl ⟨_,rfl,⟨j+1,za,za,za,λn q _=>?_⟩,za⟩
     by_cases r:n+1<j
     ·exact f n r c
     ·have:n=j-1:=by omega
      subst this
      simp only [show j-1+1=j by omega]
      exact hc
   ·rw [if_neg so]
    refine .inr ⟨_,rfl,.inr ⟨rfl,Bi _ λn q=>f n za c⟩⟩) 1 ⟨1,rfl,za,za,λn q=>za⟩
 rw [ho]
 rcases I with rfl|⟨rfl,h⟩
 ·rfl
 ·simp [h]
end
end Go.Dw
