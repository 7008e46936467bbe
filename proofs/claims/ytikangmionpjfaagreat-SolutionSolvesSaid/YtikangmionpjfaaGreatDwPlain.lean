
import Derived.Test.YtikangmionpjfaaGreatDwLift4
import Derived.IntWalk
import Derived.Sort.Walk0
import Derived.Sort.AssemblyPlain
open Go.IntKind renaming wrap->Dt
open List renaming append_assoc->B8, append_nil->Cy, length_cons->CT, mem_cons->Du
open Nat renaming le_refl->B6

namespace Go.Dw
theorem rZ{σ ω:Type}{body:σ->Option (pa σ ω)}(I:σ->Prop)(m:σ->Nat)(Q:ω->Prop)
  (step:∀s,I s->(∃s',body s=some (.next s')∧I s'∧m s'<m s)∨(∃o,body s=some (.stop o)∧Q o)):∀s,I s->∃o,dE body s=some o∧Q o:=by
 intro s
 generalize k:m s=n
 induction n using Nat.strongRecOn generalizing s with
 |_ n g=>
  intro hs
  rcases step s hs with⟨s',h1,a,j⟩|⟨o,h1,a⟩
  ·obtain⟨o,c,f⟩:=g (m s') za s' rfl a
   exact⟨o,by rw [pe h1];exact c,f⟩
  ·exact⟨o,o0 h1,a⟩
theorem j0{α:Type}{l:List α}{n:Int}{i:Nat}(a:n=i)(hi:i<l.length):pb l n=some l[i]:=by
 subst a
 unfold pb
 rw [if_pos za,Int.toNat_natCast,zd hi]
theorem ql{α:Type}{l:List α}{n:Int}(a:0<=n)(h1:n<l.length):inO l n=some ():=by unfold inO;rw [if_pos ⟨a,h1⟩]
theorem tl{n:Nat}{lo hi:Int}(a:0<=lo)(h1:lo<=hi)(c:hi<=n):tF n lo hi=some ():=by unfold tF;rw [if_pos ⟨a,h1,c⟩]
theorem zG{n lo hi:Nat}{i:Int}(a:0<=i)(h1:i<(hi:Int)-lo)(c:hi<=n):inV n lo hi i=some ():=by unfold inV;rw [if_pos ⟨a,h1,c⟩]
theorem Bx{n lo hi:Nat}(h1:lo<=hi)(a:hi<=n):lenV n lo hi=some ((hi:Int)-lo):=by unfold lenV;rw [if_pos ⟨h1,a⟩]
theorem wU{n lo hi:Nat}(h1:lo<=hi)(a:hi<=n):wT n lo hi=some ():=by unfold wT;rw [if_pos ⟨h1,a⟩]
theorem wO{α:Type}{l:List α}{lo hi:Nat}(h1:lo<=hi)(a:hi<=l.length):uV l lo hi=some ((l.drop lo).take (hi-lo)):=by unfold uV;rw [if_pos ⟨h1,a⟩]
theorem uL{α:Type}{l:List α}{n:Int}{i:Nat}{y:α}(a:n=i)(hi:i<l.length):tH l n y=some (l.set i y):=by
 subst a
 unfold tH
 rw [if_pos ⟨za,za⟩,Int.toNat_natCast]
theorem w64{n:Int}(a: -9223372036854775808<=n)(h1:n<=9223372036854775807):Dt .i64 n=n:=IntWalk.i64_in _ za
structure Tot{α:Type}(c:α->α->Int):Prop where
 tv:∀x y,c y x= -c x y
 tr:∀x y z,c x y<=0->c y z<=0->c x z<=0
theorem Tot.refl{α:Type}{c:α->α->Int}(h:Tot c)(x:α):c x x=0:=by have:=h.tv x x;omega
theorem Tot.or{α:Type}{c d:α->α->Int}(hc:Tot c)(f:Tot d):Tot (fun x y=>if c x y≠0 then c x y else d x y):=by
 refine⟨fun x y=>?_,fun x y z h1 a=>?_⟩
 ·have:=hc.tv x y;have:=f.tv x y
  by_cases h:c x y=0
  ·rw [if_neg za,if_neg za];omega
  ·rw [if_pos za,if_pos h];omega
 ·have a1:c x y<=0:=by split at h1<;>omega
  have a2:c y z<=0:=by split at a<;>omega
  have a3:=hc.tr x y z a1 a2
  by_cases h:c x z=0
  ·rw [if_neg za]
   have b1:=hc.tr z x y (by have:=hc.tv x z;omega) a1
   have b2:=hc.tr y z x a2 (by have:=hc.tv x z;omega)
   have g:=hc.tv x y;have e2:=hc.tv y z
   rw [if_neg za]at h1;rw [if_neg za]at a
   exact f.tr x y z h1 a
  ·rw [if_pos h];exact a3
theorem Tot.map{α β:Type}{c:β->β->Int}(h:Tot c)(f:α->β):Tot (fun x y=>c (f x) (f y)):=⟨fun x y=>h.tv _ _,fun x y z=>h.tr _ _ _⟩
theorem Tot.lt{α:Type}{c:α->α->Int}(h:Tot c){x y z:α}(h1:c x y<0)(f:c y z<=0):c x z<0:=by
 have a:=h.tr x y z za f
 by_cases g:c x z=0
 ·have b:=h.tr y z x f (by have:=h.tv x z;omega)
  have:=h.tv x y;omega
 ·omega
theorem Tot.swo{α:Type}{c:α->α->Int}(h:Tot c):Sort.SWO (fun x y=>decide (c x y<0)):=by
 refine⟨fun x=>?_,fun x y z h1 a=>?_,fun x y z h1 a=>?_⟩
 ·have:=h.refl x;simp;omega
 ·simp only [decide_eq_true_eq]at*
  exact h.lt h1 za
 ·simp only [decide_eq_false_iff_not]at*
  have:=h.tr z y x (by have:=h.tv y z;omega) (by have:=h.tv x y;omega)
  have:=h.tv x z;omega
def sf(a b:List UInt8):Int:=if Op.bytesLess a b=true then-1 else if a=b then 0 else 1
theorem vG(a:List UInt8):Op.bytesLess a a=false:=by rw [Proofs.bytesLess_eq];simp
theorem Ae{a b:List UInt8}(h:Op.bytesLess a b=true):Op.bytesLess b a=false:=by
 rw [Proofs.bytesLess_eq]at*;simp only [decide_eq_true_eq,decide_eq_false_iff_not]at*
 exact List.lt_asymm h
theorem bl_trans{a b c:List UInt8}(h:Op.bytesLess a b=true)(f:Op.bytesLess b c=true):Op.bytesLess a c=true:=by
 rw [Proofs.bytesLess_eq]at*;simp only [decide_eq_true_eq]at*
 exact List.lt_trans h f
theorem xW{a b:List UInt8}(h:Op.bytesLess a b=false)(c:Op.bytesLess b a=false):a=b:=by
 rw [Proofs.bytesLess_eq]at*;simp only [decide_eq_false_iff_not,List.not_lt]at*
 exact List.le_antisymm c h
theorem wZ{a b:List UInt8}:sf a b=0↔a=b:=by
 unfold sf
 constructor
 ·intro h;split at h
  ·omega
  ·split at h
   ·assumption
   ·omega
 ·rintro rfl;rw [vG];simp
theorem Ah{a b:List UInt8}:sf a b<0↔Op.bytesLess a b=true:=by
 unfold sf
 split
 ·simp [*]
 ·rename_i h;split<;>simp only [h]<;>simp
theorem cmpB_le{a b:List UInt8}:sf a b<=0↔Op.bytesLess b a=false:=by
 constructor
 ·intro h
  rcases Int.lt_or_eq_of_le h with h|h
  ·exact Ae (Ah.1 h)
  ·rw [wZ]at h;subst h;exact vG a
 ·intro h
  cases c:Op.bytesLess a b with
  |true=>have:=Ah.2 c;omega
  |false=>have:=xW c h;subst this;rw [wZ.2 rfl];omega
theorem wG:Tot sf:=by
 refine⟨fun x y=>?_,fun x y z h1 a=>?_⟩
 ·unfold sf
  cases h:Op.bytesLess x y with
  |true=>
   have a:=Ae h
   have c:y≠x:=by rintro rfl;rw [vG]at h;cases h
   simp [a,c]
  |false=>
   cases a:Op.bytesLess y x with
   |true=>
    have c:x≠y:=by rintro rfl;rw [vG]at a;cases a
    simp [c]
   |false=>have:=xW h a;subst this;simp
 ·rw [cmpB_le]at*
  cases h:Op.bytesLess z x with
  |false=>rfl
  |true=>
   cases f:Op.bytesLess y z with
   |true=>have:=bl_trans f h;rw [h1]at this;cases this
   |false=>have:=xW f a;subst this;rw [h1]at h;cases h
theorem AZ(a b:List UInt8): -1<=sf a b∧sf a b<=1:=by
 unfold sf;split
 ·omega
 ·split<;>omega
def rU(a b:Int):Int:=if a<b then-1 else if a>b then 1 else 0
theorem BI{a b:Int}:rU a b=0↔a=b:=by
 unfold rU
 split
 ·omega
 ·split<;>omega
theorem vn:Tot rU:=by
 refine⟨fun x y=>?_,fun x y z h1 a=>?_⟩<;>unfold rU at* <;>(repeat' split at*)<;>omega
section
variable {α:Type} [DecidableEq α]
def cpt:List α->List α
 | []=>[]
 | [a]=>[a]
 |a::b::l=>if b=a then cpt (b::l)else a::cpt (b::l)
theorem xK{x:α}:∀{l:List α},x∈cpt l↔x∈l
 | []=>Iff.rfl
 | [a]=>Iff.rfl
 |a::b::l=>by
  unfold cpt
  split
  ·rename_i h;subst h;rw [xK];simp
  ·rw [Du,xK,Du (a:=x) (b:=a)]
theorem An(x y:α):∀l:List α,cpt (l++[x,y])=cpt (l++[x])++(if y=x then []else [y])
 | []=>by by_cases h:y=x<;>simp [cpt,h]
 | [a]=>by
  by_cases c:x=a
  ·subst c;by_cases h:y=x<;>simp [cpt,h]
  ·by_cases h:y=x
   ·subst h;simp [cpt,c]
   ·simp [cpt,h,c]
 |a::b::l=>by
  have:=An x y (b::l)
  simp only [List.cons_append]at this⊢
  unfold cpt
  split
  ·exact this
  ·rw [this];rfl
theorem yc:∀l:List α,(cpt l).length<=l.length
 | []=>B6 _
 | [a]=>B6 _
 |a::b::l=>by
  have:=yc (b::l)
  unfold cpt
  split
  ·simp only [CT]at*;omega
  ·simp only [CT]at*;omega
theorem yd:∀(l:List α),(∀n,(h:n+1<l.length)->l[n+1]≠l[n])->cpt l=l
 | [],_=>rfl
 | [a],_=>rfl
 |a::b::l,h=>by
  unfold cpt
  have c:=h 0 sm
  simp only [List.getElem_cons_succ,List.getElem_cons_zero]at c
  rw [if_neg c, yd (b :: l) (fun n f => by
   have:=h (n+1) (by simp at f⊢;omega)
   simpa using this)]
theorem uw{c:α->α->Int}(hc:Tot c)(j:∀x y,c x y=0->x=y):∀{l:List α},l.Pairwise (fun x y=>c x y<=0)->(cpt l).Pairwise (fun x y=>c x y<0)
 | [],_=>.nil
 | [a],_=>by simp [cpt]
 |a::b::l,h=>by
  unfold cpt
  obtain⟨p,k⟩:=List.pairwise_cons.1 h
  split
  ·exact uw hc j k
  ·rename_i f
   refine List.pairwise_cons.2 ⟨fun y q=>?_,uw hc j k⟩
   have g:=xK.1 q
   have h1:=p y g
   by_cases r:c a y=0
   ·have e:=j _ _ r
    subst e
    rcases List.mem_cons.1 g with e|hm
    ·exact(f e.symm).elim
    ·have t:=(List.pairwise_cons.1 k).1 a hm
     have u:=p b sm
     have:=hc.tv a b
     exact(f (j b a za)).elim
   ·omega
end
noncomputable def tc {α:Type} (eq:α->α->Bool) (s2:Int) (d0:List α):(Int×Int×List α)->Option (pa (Int×Int×List α) (Int×List α)):=fun(f,c,a)=>
 (lenV a.length (0+(s2:Int).toNat) (0+((d0.length:Int):Int).toNat)).bind fun g=>if(decide (c<g))=true then((inV a.length (0+(s2:Int).toNat) (0+((d0.length:Int):Int).toNat) c).bind fun _=>(pb a (((0+(s2:Int).toNat)+(c:Int).toNat:Nat):Int)).bind fun j=>(inV a.length (0+(s2:Int).toNat) (0+((d0.length:Int):Int).toNat) (Dt .i64 (c-(1:Int)))).bind fun _=>(pb a (((0+(s2:Int).toNat)+((Dt .i64 (c-(1:Int))):Int).toNat:Nat):Int)).bind fun k=>if(!(eq j k))=true then((inV a.length (0+(s2:Int).toNat) (0+((d0.length:Int):Int).toNat) c).bind fun _=>(pb a (((0+(s2:Int).toNat)+(c:Int).toNat:Nat):Int)).bind fun l=>(inO a f).bind fun _=>(tH a f l).bind fun p=>some (.next ((Dt .i64 (f+(1:Int))),(Dt .i64 (c+(1:Int))),p)))else(some (.next (f,(Dt .i64 (c+(1:Int))),a))))else(some (.stop (f,a)))
noncomputable def rV {α:Type} (eq:α->α->Bool) (z:α) (d0:List α):Int->Option (pa (Int) ((Unit)⊕(List α))):=fun s2=>
 if(decide (s2<(d0.length:Int)))=true then((inO d0 s2).bind fun _=>(pb d0 s2).bind fun g=>(inO d0 (Dt .i64 (s2-(1:Int)))).bind fun _=>(pb d0 (Dt .i64 (s2-(1:Int)))).bind fun c=>if(eq g c)=true then((tF d0.length s2 (d0.length:Int)).bind fun _=>(dE (tc eq s2 d0) (s2,(1:Int),d0)).bind fun a=>(tF a.2.length a.1 (a.2.length:Int)).bind fun _=>(wT a.2.length (0+(a.1:Int).toNat) (0+((a.2.length:Int):Int).toNat)).bind fun _=>(tF (tz a.2 (0+(a.1:Int).toNat) ((0+((a.2.length:Int):Int).toNat)-(0+(a.1:Int).toNat)) z).length (0:Int) a.1).bind fun _=>(uV (tz a.2 (0+(a.1:Int).toNat) ((0+((a.2.length:Int):Int).toNat)-(0+(a.1:Int).toNat)) z) (0+(0:Int).toNat) (0+(a.1:Int).toNat)).bind fun f=>some (.stop (.inr f)))else(some (.next (Dt .i64 (s2+(1:Int))))))else(some (.stop (.inl ())))
noncomputable def wH {α:Type} (eq:α->α->Bool) (z:α) (d0:List α):Option (List α):=
 if(decide ((d0.length:Int)<(2:Int)))=true then(some d0)else((dE (rV eq z d0) (1:Int)).bind fun a=>match a with| .inl _=>(some d0)| .inr c=>(some c))
theorem pn{α:Type}{l:List α}{n:Nat}(h:n<l.length):l.take (n+1)=l.take n++[l[n]]:=by
 rw [List.take_add_one,zd h];rfl
section
variable {α:Type} [DecidableEq α] {eq:α->α->Bool}(heq:∀x y,eq x y=decide (x=y))
theorem Ao{l:List α}{n:Nat}(a:n+1<l.length):cpt (l.take (n+2))=cpt (l.take (n+1))++(if l[n+1]=l[n]'za then []else [l[n+1]]):=by
 rw [pn a,pn (show n<l.length by omega),B8]
 exact An _ _ _
include heq
theorem Ai{d:List α}{j:Nat}(h1:1<=j)(C:j<d.length)(F:d.length<=4611686018427387904)(c:cpt (d.take (j+1))=d.take j):
  ∃o,dE (tc eq j d) ((j:Int),(1:Int),d)=some o∧∃i:Nat,o.1=(i:Int)∧i<=d.length∧o.2.length=d.length∧o.2.take i=cpt d:=by
 refine rZ (fun s:Int×Int×List α=>∃i k:Nat,s.1=(i:Int)∧s.2.1=(k:Int)∧1<=k∧j+k<=d.length∧i+1<=j+k∧s.2.2.length=d.length∧s.2.2.take i=cpt (d.take (j+k))∧∀p,j+k<=p+1->s.2.2[p]? =d[p]?)
  (fun s=>((d.length:Int)-s.2.1).toNat) _ ?_ _ ⟨j,1,rfl,rfl,B6 _,C,za,rfl,c.symm,fun p _=>rfl⟩
 rintro⟨s1,s2,l⟩ ⟨i,k,u,e2,hk,D,hi,f,g,hp⟩
 simp only at u e2 f g hp
 subst u e2
 have t1:(0+((j:Int)).toNat)=j:=by omega
 have t2:(0+((d.length:Int)).toNat)=d.length:=by omega
 unfold tc
 simp only [t1,t2]
 rw [Bx za za]
 simp only [zc]
 by_cases E:j+k<d.length
 ·rw [if_pos so]
  refine .inl ?_
  have q:Dt .i64 ((k:Int)-1)=(k:Int)-1:=w64 za za
  have r:Dt .i64 ((k:Int)+1)=(k:Int)+1:=w64 za za
  have t:Dt .i64 ((i:Int)+1)=(i:Int)+1:=w64 za za
  rw [zG za za za]
  simp only [zc,q,r,t]
  rw [j0 (i:=j+k) za za,zG za za za,j0 (i:=j+k-1) za za]
  simp only [zc]
  have g1:l[j+k]'za=d[j+k]:=by
   have:=hp (j+k) za
   rw [zd za,zd za]at this
   exact Option.some.inj this
  have g2:l[j+k-1]'za=d[j+k-1]'za:=by
   have:=hp (j+k-1) za
   rw [zd za,zd za]at this
   exact Option.some.inj this
  have a:=Ao (l:=d) (n:=j+k-1) za
  have z:j+k-1+1=j+k:=by omega
  have B:j+k-1+2=j+k+1:=by omega
  simp only [z,B]at a
  by_cases hc:d[j+k]=d[j+k-1]'za
  ·rw [if_neg (by rw [heq,g1,g2];simp [hc])]
   rw [if_pos hc,Cy]at a
   exact⟨_,rfl,⟨i,k+1,rfl,(by show(k:Int)+1=((k+1:Nat):Int);omega),za,za,za,f,by rw [g, <-a];rfl,fun p h=>hp p za⟩,(by show((d.length:Int)-((k:Int)+1)).toNat<((d.length:Int)-(k:Int)).toNat;omega)⟩
  ·rw [if_pos (by rw [heq,g1,g2];simp [hc])]
   rw [if_neg hc]at a
   rw [ql za za,uL (i:=i) rfl za]
   simp only [zc]
   refine⟨_,rfl,⟨i+1,k+1,(by show(i:Int)+1=((i+1:Nat):Int);omega),(by show(k:Int)+1=((k+1:Nat):Int);omega),za,za,za,by simpa using f,?_,fun p h=>?_⟩,(by show((d.length:Int)-((k:Int)+1)).toNat<((d.length:Int)-(k:Int)).toNat;omega)⟩
   ·rw [pn so,List.take_set_of_le (B6 _),g]
    rw [show j+(k+1)=j+k+1 by omega,a]
    simp [g1]
   ·simp only
    rw [List.getElem?_set_ne za]
    exact hp p za
 ·rw [if_neg so]
  refine .inr ⟨_,rfl,i,rfl,za,f,?_⟩
  rw [g,List.take_of_length_le za]
theorem A0{z:α}{d:List α}(F:d.length<=4611686018427387904):wH eq z d=some (cpt d):=by
 unfold wH
 by_cases E:d.length<2
 ·rw [if_pos so]
  match d,E with
  | [],_=>rfl
  | [a],_=>rfl
 rw [if_neg so]
 obtain⟨o,ho,I⟩:=rZ (body:=rV eq z d) (fun s:Int=>∃j:Nat,s=(j:Int)∧1<=j∧j<=d.length∧∀n,(h:n+1<j)->(J:j<=d.length)->d[n+1]≠d[n]) (fun s=>((d.length:Int)-s).toNat)
  (fun o => o = .inr (cpt d) ∨ o = .inl () ∧ cpt d = d) (by
   rintro s ⟨j,rfl,G,c,f⟩
   unfold rV
   by_cases k:j<d.length
   ·rw [if_pos so]
    have t:Dt .i64 ((j:Int)-1)=(j:Int)-1:=w64 za za
    have u:Dt .i64 ((j:Int)+1)=(j:Int)+1:=w64 za za
    rw [t,u,ql za za,j0 (i:=j) rfl k,ql za za,j0 (i:=j-1) za za]
    simp only [zc]
    by_cases hc:d[j]=d[j-1]'za
    ·rw [if_pos (by rw [heq];simp [hc]),tl za za za]
     refine .inr ?_
     have p:cpt (d.take (j+1))=d.take j:=by
      have:=Ao (l:=d) (n:=j-1) za
      simp only [show j-1+1=j by omega,show j-1+2=j+1 by omega,hc,if_true,Cy]at this
      rw [this]
      exact yd _ fun n q=>by
       simp only [List.length_take]at q
       simp only [List.getElem_take]
       exact f n za c
     obtain⟨⟨K,D⟩,ho,i,B,hi,H,C⟩:=Ai heq G k F p
     simp only at B H C
     subst B
     simp only [zc,ho]
     have t1:(0+((i:Int)).toNat)=i:=by omega
     have t2:(0+((D.length:Int)).toNat)=d.length:=by omega
     have t3:(0+(0:Int).toNat)=0:=rfl
     simp only [t1,t2,t3]
     have g:(tz D i (d.length-i) z).length=d.length:=by
      unfold tz;simp;omega
     rw [tl za za za,wU za za,tl za za (by rw [g];omega),wO za (by rw [g];omega)]
     simp only [zc]
     refine⟨_,rfl,.inl ?_⟩
     congr 1
     rw [<-C]
     unfold tz
     rw [List.drop_zero,Nat.sub_zero,B8,List.take_append_of_le_length so,List.take_take,Nat.min_self]
    ·rw [if_neg (by rw [heq];simp [hc])]
     refine .inl ⟨_,rfl,⟨j+1,za,za,za,fun n q _=>?_⟩,za⟩
     by_cases r:n+1<j
     ·exact f n r c
     ·have:n=j-1:=by omega
      subst this
      simp only [show j-1+1=j by omega]
      exact hc
   ·rw [if_neg so]
    refine .inr ⟨_,rfl,.inr ⟨rfl,yd _ fun n q=>f n za c⟩⟩) 1 ⟨1,rfl,za,za,fun n q=>za⟩
 rw [ho]
 rcases I with rfl|⟨rfl,h⟩
 ·rfl
 ·simp [h]
end
end Go.Dw
