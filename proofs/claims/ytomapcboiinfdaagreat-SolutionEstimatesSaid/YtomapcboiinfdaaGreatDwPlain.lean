
import Derived.Test.YtomapcboiinfdaaGreatDwLift4
import Derived.IntWalk
import Derived.Sort.Walk0
import Derived.Sort.AssemblyPlain
open Go.IntKind renaming wrap->Bw
open List renaming append_assoc->AE, append_nil->BC, length_cons->AW, mem_cons->Bx
open Nat renaming le_refl->AB

namespace Go.Dw
theorem oY{σ ω:Type}{body:σ->Option (mI σ ω)}(I:σ->Prop)(m:σ->Nat)(Q:ω->Prop)
  (step:∀s,I s->(∃s',body s=some (.next s')∧I s'∧m s'<m s)∨(∃o,body s=some (.stop o)∧Q o)):∀s,I s->∃o,mF body s=some o∧Q o:=by
 intro s
 generalize i:m s=n
 induction n using Nat.strongRecOn generalizing s with
 |_ n f=>
  intro e
  rcases step s e with⟨s',h1,a,g⟩|⟨o,h1,a⟩
  ·obtain⟨o,b,c⟩:=f (m s') om s' rfl a
   exact⟨o,by rw [mK h1];exact b,c⟩
  ·exact⟨o,mG h1,a⟩
theorem mH{α:Type}{l:List α}{n:Int}{i:Nat}(a:n=i)(hi:i<l.length):mO l n=some l[i]:=by
 subst a
 unfold mO
 rw [if_pos om,Int.toNat_natCast,zc hi]
theorem qb{α:Type}{l:List α}{n:Int}(a:0<=n)(h1:n<l.length):inO l n=some ():=by unfold inO;rw [if_pos ⟨a,h1⟩]
theorem su{n:Nat}{lo hi:Int}(a:0<=lo)(h1:lo<=hi)(b:hi<=n):uw n lo hi=some ():=by unfold uw;rw [if_pos ⟨a,h1,b⟩]
theorem inV_at{n lo hi:Nat}{i:Int}(a:0<=i)(h1:i<(hi:Int)-lo)(b:hi<=n):inV n lo hi i=some ():=by unfold inV;rw [if_pos ⟨a,h1,b⟩]
theorem lenV_at{n lo hi:Nat}(h1:lo<=hi)(a:hi<=n):lenV n lo hi=some ((hi:Int)-lo):=by unfold lenV;rw [if_pos ⟨h1,a⟩]
theorem wh{n lo hi:Nat}(h1:lo<=hi)(a:hi<=n):uQ n lo hi=some ():=by unfold uQ;rw [if_pos ⟨h1,a⟩]
theorem vX{α:Type}{l:List α}{lo hi:Nat}(h1:lo<=hi)(a:hi<=l.length):sd l lo hi=some ((l.drop lo).take (hi-lo)):=by unfold sd;rw [if_pos ⟨h1,a⟩]
theorem ss{α:Type}{l:List α}{n:Int}{i:Nat}{y:α}(a:n=i)(hi:i<l.length):se l n y=some (l.set i y):=by
 subst a
 unfold se
 rw [if_pos ⟨om,om⟩,Int.toNat_natCast]
theorem w64{n:Int}(a: -9223372036854775808<=n)(h1:n<=9223372036854775807):Bw .i64 n=n:=IntWalk.i64_in _ om
structure Tot{α:Type}(c:α->α->Int):Prop where
 p8:∀x y,c y x= -c x y
 tr:∀x y z,c x y<=0->c y z<=0->c x z<=0
theorem Tot.refl{α:Type}{c:α->α->Int}(h:Tot c)(x:α):c x x=0:=by have:=h.p8 x x;omega
theorem Tot.or{α:Type}{c d:α->α->Int}(a:Tot c)(e:Tot d):Tot (fun x y=>if c x y≠0 then c x y else d x y):=by
 refine⟨fun x y=>?_,fun x y z h1 b=>?_⟩
 ·have:=a.p8 x y;have:=e.p8 x y
  by_cases h:c x y=0
  ·rw [if_neg om,if_neg om];omega
  ·rw [if_pos om,if_pos h];omega
 ·have a1:c x y<=0:=by split at h1<;>omega
  have a2:c y z<=0:=by split at b<;>omega
  have a3:=a.tr x y z a1 a2
  by_cases h:c x z=0
  ·rw [if_neg om]
   have f:=a.tr z x y (by have:=a.p8 x z;omega) a1
   have g:=a.tr y z x a2 (by have:=a.p8 x z;omega)
   have i:=a.p8 x y;have e2:=a.p8 y z
   rw [if_neg om]at h1;rw [if_neg om]at b
   exact e.tr x y z h1 b
  ·rw [if_pos h];exact a3
theorem Tot.map{α β:Type}{c:β->β->Int}(h:Tot c)(f:α->β):Tot (fun x y=>c (f x) (f y)):=⟨fun x y=>h.p8 _ _,fun x y z=>h.tr _ _ _⟩
theorem Tot.lt{α:Type}{c:α->α->Int}(h:Tot c){x y z:α}(h1:c x y<0)(e:c y z<=0):c x z<0:=by
 have a:=h.tr x y z om e
 by_cases f:c x z=0
 ·have b:=h.tr y z x e (by have:=h.p8 x z;omega)
  have:=h.p8 x y;omega
 ·omega
theorem Tot.swo{α:Type}{c:α->α->Int}(h:Tot c):Sort.SWO (fun x y=>decide (c x y<0)):=by
 refine⟨fun x=>?_,fun x y z h1 a=>?_,fun x y z h1 a=>?_⟩
 ·have:=h.refl x;simp;omega
 ·simp only [decide_eq_true_eq]at*
  exact h.lt h1 om
 ·simp only [decide_eq_false_iff_not]at*
  have:=h.tr z y x (by have:=h.p8 y z;omega) (by have:=h.p8 x y;omega)
  have:=h.p8 x z;omega
def pc(a b:List UInt8):Int:=if Op.bytesLess a b=true then-1 else if a=b then 0 else 1
theorem sh(a:List UInt8):Op.bytesLess a a=false:=by rw [Proofs.bytesLess_eq];simp
theorem xo{a b:List UInt8}(h:Op.bytesLess a b=true):Op.bytesLess b a=false:=by
 rw [Proofs.bytesLess_eq]at*;simp only [decide_eq_true_eq,decide_eq_false_iff_not]at*
 exact List.lt_asymm h
theorem bl_trans{a b c:List UInt8}(h:Op.bytesLess a b=true)(e:Op.bytesLess b c=true):Op.bytesLess a c=true:=by
 rw [Proofs.bytesLess_eq]at*;simp only [decide_eq_true_eq]at*
 exact List.lt_trans h e
theorem vj{a b:List UInt8}(h:Op.bytesLess a b=false)(c:Op.bytesLess b a=false):a=b:=by
 rw [Proofs.bytesLess_eq]at*;simp only [decide_eq_false_iff_not,List.not_lt]at*
 exact List.le_antisymm c h
theorem ud{a b:List UInt8}:pc a b=0↔a=b:=by
 unfold pc
 constructor
 ·intro h;split at h
  ·omega
  ·split at h
   ·assumption
   ·omega
 ·rintro rfl;rw [sh];simp
theorem xr{a b:List UInt8}:pc a b<0↔Op.bytesLess a b=true:=by
 unfold pc
 split
 ·simp [*]
 ·rename_i h;split<;>simp only [h]<;>simp
theorem cmpB_le{a b:List UInt8}:pc a b<=0↔Op.bytesLess b a=false:=by
 constructor
 ·intro h
  rcases Int.lt_or_eq_of_le h with h|h
  ·exact xo (xr.1 h)
  ·rw [ud]at h;subst h;exact sh a
 ·intro h
  cases c:Op.bytesLess a b with
  |true=>have:=xr.2 c;omega
  |false=>have:=vj c h;subst this;rw [ud.2 rfl];omega
theorem tK:Tot pc:=by
 refine⟨fun x y=>?_,fun x y z h1 a=>?_⟩
 ·unfold pc
  cases h:Op.bytesLess x y with
  |true=>
   have a:=xo h
   have b:y≠x:=by rintro rfl;rw [sh]at h;cases h
   simp [a,b]
  |false=>
   cases a:Op.bytesLess y x with
   |true=>
    have b:x≠y:=by rintro rfl;rw [sh]at a;cases a
    simp [b]
   |false=>have:=vj h a;subst this;simp
 ·rw [cmpB_le]at*
  cases h:Op.bytesLess z x with
  |false=>rfl
  |true=>
   cases c:Op.bytesLess y z with
   |true=>have:=bl_trans c h;rw [h1]at this;cases this
   |false=>have:=vj c a;subst this;rw [h1]at h;cases h
theorem ym(a b:List UInt8): -1<=pc a b∧pc a b<=1:=by
 unfold pc;split
 ·omega
 ·split<;>omega
def qh(a b:Int):Int:=if a<b then-1 else if a>b then 1 else 0
theorem zk{a b:Int}:qh a b=0↔a=b:=by
 unfold qh
 split
 ·omega
 ·split<;>omega
theorem rR:Tot qh:=by
 refine⟨fun x y=>?_,fun x y z h1 a=>?_⟩<;>unfold qh at* <;>(repeat' split at*)<;>omega
section
variable {α:Type} [DecidableEq α]
def cpt:List α->List α
 | []=>[]
 | [a]=>[a]
 |a::b::l=>if b=a then cpt (b::l)else a::cpt (b::l)
theorem uV{x:α}:∀{l:List α},x∈cpt l↔x∈l
 | []=>Iff.rfl
 | [a]=>Iff.rfl
 |a::b::l=>by
  unfold cpt
  split
  ·rename_i h;subst h;rw [uV];simp
  ·rw [Bx,uV,Bx (a:=x) (b:=a)]
theorem xA(x y:α):∀l:List α,cpt (l++[x,y])=cpt (l++[x])++(if y=x then []else [y])
 | []=>by by_cases h:y=x<;>simp [cpt,h]
 | [a]=>by
  by_cases c:x=a
  ·subst c;by_cases h:y=x<;>simp [cpt,h]
  ·by_cases h:y=x
   ·subst h;simp [cpt,c]
   ·simp [cpt,h,c]
 |a::b::l=>by
  have:=xA x y (b::l)
  simp only [List.cons_append]at this⊢
  unfold cpt
  split
  ·exact this
  ·rw [this];rfl
theorem vu:∀l:List α,(cpt l).length<=l.length
 | []=>AB _
 | [a]=>AB _
 |a::b::l=>by
  have:=vu (b::l)
  unfold cpt
  split
  ·simp only [AW]at*;omega
  ·simp only [AW]at*;omega
theorem vv:∀(l:List α),(∀n,(h:n+1<l.length)->l[n+1]≠l[n])->cpt l=l
 | [],_=>rfl
 | [a],_=>rfl
 |a::b::l,h=>by
  unfold cpt
  have c:=h 0 sm
  simp only [List.getElem_cons_succ,List.getElem_cons_zero]at c
  rw [if_neg c, vv (b :: l) (fun n e => by
   have:=h (n+1) (by simp at e⊢;omega)
   simpa using this)]
theorem qY{c:α->α->Int}(j:Tot c)(i:∀x y,c x y=0->x=y):∀{l:List α},l.Pairwise (fun x y=>c x y<=0)->(cpt l).Pairwise (fun x y=>c x y<0)
 | [],_=>.nil
 | [a],_=>by simp [cpt]
 |a::b::l,h=>by
  unfold cpt
  obtain⟨m,k⟩:=List.pairwise_cons.1 h
  split
  ·exact qY j i k
  ·rename_i f
   refine List.pairwise_cons.2 ⟨fun y n=>?_,qY j i k⟩
   have g:=uV.1 n
   have h1:=m y g
   by_cases o:c a y=0
   ·have e:=i _ _ o
    subst e
    rcases List.mem_cons.1 g with e|hm
    ·exact(f e.symm).elim
    ·have p:=(List.pairwise_cons.1 k).1 a hm
     have q:=m b sm
     have:=j.p8 a b
     exact(f (i b a om)).elim
   ·omega
end
noncomputable def pP {α:Type} (eq:α->α->Bool) (s2:Int) (d0:List α):(Int×Int×List α)->Option (mI (Int×Int×List α) (Int×List α)):=fun(c,b,a)=>
 (lenV a.length (0+(s2:Int).toNat) (0+((d0.length:Int):Int).toNat)).bind fun e=>if(decide (b<e))=true then((inV a.length (0+(s2:Int).toNat) (0+((d0.length:Int):Int).toNat) b).bind fun _=>(mO a (((0+(s2:Int).toNat)+(b:Int).toNat:Nat):Int)).bind fun f=>(inV a.length (0+(s2:Int).toNat) (0+((d0.length:Int):Int).toNat) (Bw .i64 (b-(1:Int)))).bind fun _=>(mO a (((0+(s2:Int).toNat)+((Bw .i64 (b-(1:Int))):Int).toNat:Nat):Int)).bind fun g=>if(!(eq f g))=true then((inV a.length (0+(s2:Int).toNat) (0+((d0.length:Int):Int).toNat) b).bind fun _=>(mO a (((0+(s2:Int).toNat)+(b:Int).toNat:Nat):Int)).bind fun i=>(inO a c).bind fun _=>(se a c i).bind fun j=>some (.next ((Bw .i64 (c+(1:Int))),(Bw .i64 (b+(1:Int))),j)))else(some (.next (c,(Bw .i64 (b+(1:Int))),a))))else(some (.stop (c,a)))
noncomputable def oV {α:Type} (eq:α->α->Bool) (z:α) (d0:List α):Int->Option (mI (Int) ((Unit)⊕(List α))):=fun s2=>
 if(decide (s2<(d0.length:Int)))=true then((inO d0 s2).bind fun _=>(mO d0 s2).bind fun e=>(inO d0 (Bw .i64 (s2-(1:Int)))).bind fun _=>(mO d0 (Bw .i64 (s2-(1:Int)))).bind fun b=>if(eq e b)=true then((uw d0.length s2 (d0.length:Int)).bind fun _=>(mF (pP eq s2 d0) (s2,(1:Int),d0)).bind fun a=>(uw a.2.length a.1 (a.2.length:Int)).bind fun _=>(uQ a.2.length (0+(a.1:Int).toNat) (0+((a.2.length:Int):Int).toNat)).bind fun _=>(uw (p9 a.2 (0+(a.1:Int).toNat) ((0+((a.2.length:Int):Int).toNat)-(0+(a.1:Int).toNat)) z).length (0:Int) a.1).bind fun _=>(sd (p9 a.2 (0+(a.1:Int).toNat) ((0+((a.2.length:Int):Int).toNat)-(0+(a.1:Int).toNat)) z) (0+(0:Int).toNat) (0+(a.1:Int).toNat)).bind fun c=>some (.stop (.inr c)))else(some (.next (Bw .i64 (s2+(1:Int))))))else(some (.stop (.inl ())))
noncomputable def tL {α:Type} (eq:α->α->Bool) (z:α) (d0:List α):Option (List α):=
 if(decide ((d0.length:Int)<(2:Int)))=true then(some d0)else((mF (oV eq z d0) (1:Int)).bind fun a=>match a with| .inl _=>(some d0)| .inr b=>(some b))
theorem mY{α:Type}{l:List α}{n:Nat}(h:n<l.length):l.take (n+1)=l.take n++[l[n]]:=by
 rw [List.take_add_one,zc h];rfl
section
variable {α:Type} [DecidableEq α] {eq:α->α->Bool}(heq:∀x y,eq x y=decide (x=y))
theorem xB{l:List α}{n:Nat}(a:n+1<l.length):cpt (l.take (n+2))=cpt (l.take (n+1))++(if l[n+1]=l[n]'om then []else [l[n+1]]):=by
 rw [mY a,mY (show n<l.length by omega),AE]
 exact xA _ _ _
include heq
theorem xu{d:List α}{j:Nat}(h1:1<=j)(z:j<d.length)(D:d.length<=4611686018427387904)(c:cpt (d.take (j+1))=d.take j):
  ∃o,mF (pP eq j d) ((j:Int),(1:Int),d)=some o∧∃i:Nat,o.1=(i:Int)∧i<=d.length∧o.2.length=d.length∧o.2.take i=cpt d:=by
 refine oY (fun s:Int×Int×List α=>∃i k:Nat,s.1=(i:Int)∧s.2.1=(k:Int)∧1<=k∧j+k<=d.length∧i+1<=j+k∧s.2.2.length=d.length∧s.2.2.take i=cpt (d.take (j+k))∧∀p,j+k<=p+1->s.2.2[p]? =d[p]?)
  (fun s=>((d.length:Int)-s.2.1).toNat) _ ?_ _ ⟨j,1,rfl,rfl,AB _,z,om,rfl,c.symm,fun p _=>rfl⟩
 rintro⟨s1,s2,l⟩ ⟨i,k,t,e2,hk,B,hi,f,g,b⟩
 simp only at t e2 f g b
 subst t e2
 have t1:(0+((j:Int)).toNat)=j:=by omega
 have t2:(0+((d.length:Int)).toNat)=d.length:=by omega
 unfold pP
 simp only [t1,t2]
 rw [lenV_at om om]
 simp only [zb]
 by_cases C:j+k<d.length
 ·rw [if_pos so]
  refine .inl ?_
  have m:Bw .i64 ((k:Int)-1)=(k:Int)-1:=w64 om om
  have q:Bw .i64 ((k:Int)+1)=(k:Int)+1:=w64 om om
  have r:Bw .i64 ((i:Int)+1)=(i:Int)+1:=w64 om om
  rw [inV_at om om om]
  simp only [zb,m,q,r]
  rw [mH (i:=j+k) om om,inV_at om om om,mH (i:=j+k-1) om om]
  simp only [zb]
  have g1:l[j+k]'om=d[j+k]:=by
   have:=b (j+k) om
   rw [zc om,zc om]at this
   exact Option.some.inj this
  have g2:l[j+k-1]'om=d[j+k-1]'om:=by
   have:=b (j+k-1) om
   rw [zc om,zc om]at this
   exact Option.some.inj this
  have a:=xB (l:=d) (n:=j+k-1) om
  have u:j+k-1+1=j+k:=by omega
  have v:j+k-1+2=j+k+1:=by omega
  simp only [u,v]at a
  by_cases e:d[j+k]=d[j+k-1]'om
  ·rw [if_neg (by rw [heq,g1,g2];simp [e])]
   rw [if_pos e,BC]at a
   exact⟨_,rfl,⟨i,k+1,rfl,(by show(k:Int)+1=((k+1:Nat):Int);omega),om,om,om,f,by rw [g, <-a];rfl,fun p h=>b p om⟩,(by show((d.length:Int)-((k:Int)+1)).toNat<((d.length:Int)-(k:Int)).toNat;omega)⟩
  ·rw [if_pos (by rw [heq,g1,g2];simp [e])]
   rw [if_neg e]at a
   rw [qb om om,ss (i:=i) rfl om]
   simp only [zb]
   refine⟨_,rfl,⟨i+1,k+1,(by show(i:Int)+1=((i+1:Nat):Int);omega),(by show(k:Int)+1=((k+1:Nat):Int);omega),om,om,om,by simpa using f,?_,fun p h=>?_⟩,(by show((d.length:Int)-((k:Int)+1)).toNat<((d.length:Int)-(k:Int)).toNat;omega)⟩
   ·rw [mY so,List.take_set_of_le (AB _),g]
    rw [show j+(k+1)=j+k+1 by omega,a]
    simp [g1]
   ·simp only
    rw [List.getElem?_set_ne om]
    exact b p om
 ·rw [if_neg so]
  refine .inr ⟨_,rfl,i,rfl,om,f,?_⟩
  rw [g,List.take_of_length_le om]
theorem yn{z:α}{d:List α}(D:d.length<=4611686018427387904):tL eq z d=some (cpt d):=by
 unfold tL
 by_cases C:d.length<2
 ·rw [if_pos so]
  match d,C with
  | [],_=>rfl
  | [a],_=>rfl
 rw [if_neg so]
 obtain⟨o,q,G⟩:=oY (body:=oV eq z d) (fun s:Int=>∃j:Nat,s=(j:Int)∧1<=j∧j<=d.length∧∀n,(h:n+1<j)->(H:j<=d.length)->d[n+1]≠d[n]) (fun s=>((d.length:Int)-s).toNat)
  (fun o => o = .inr (cpt d) ∨ o = .inl () ∧ cpt d = d) (by
   rintro s ⟨j,rfl,E,b,c⟩
   unfold oV
   by_cases f:j<d.length
   ·rw [if_pos so]
    have r:Bw .i64 ((j:Int)-1)=(j:Int)-1:=w64 om om
    have t:Bw .i64 ((j:Int)+1)=(j:Int)+1:=w64 om om
    rw [r,t,qb om om,mH (i:=j) rfl f,qb om om,mH (i:=j-1) om om]
    simp only [zb]
    by_cases k:d[j]=d[j-1]'om
    ·rw [if_pos (by rw [heq];simp [k]),su om om om]
     refine .inr ?_
     have g:cpt (d.take (j+1))=d.take j:=by
      have:=xB (l:=d) (n:=j-1) om
      simp only [show j-1+1=j by omega,show j-1+2=j+1 by omega,k,if_true,BC]at this
      rw [this]
      exact vv _ fun n m=>by
       simp only [List.length_take]at m
       simp only [List.getElem_take]
       exact c n om b
     obtain⟨⟨I,B⟩,q,i,u,hi,F,v⟩:=xu heq E f D g
     simp only at u F v
     subst u
     simp only [zb,q]
     have t1:(0+((i:Int)).toNat)=i:=by omega
     have t2:(0+((B.length:Int)).toNat)=d.length:=by omega
     have t3:(0+(0:Int).toNat)=0:=rfl
     simp only [t1,t2,t3]
     have e:(p9 B i (d.length-i) z).length=d.length:=by
      unfold p9;simp;omega
     rw [su om om om,wh om om,su om om (by rw [e];omega),vX om (by rw [e];omega)]
     simp only [zb]
     refine⟨_,rfl,.inl ?_⟩
     congr 1
     rw [<-v]
     unfold p9
     rw [List.drop_zero,Nat.sub_zero,AE,List.take_append_of_le_length so,List.take_take,Nat.min_self]
    ·rw [if_neg (by rw [heq];simp [k])]
     refine .inl ⟨_,rfl,⟨j+1,om,om,om,fun n m _=>?_⟩,om⟩
     by_cases p:n+1<j
     ·exact c n p b
     ·have:n=j-1:=by omega
      subst this
      simp only [show j-1+1=j by omega]
      exact k
   ·rw [if_neg so]
    refine .inr ⟨_,rfl,.inr ⟨rfl,vv _ fun n m=>c n om b⟩⟩) 1 ⟨1,rfl,om,om,fun n m=>om⟩
 rw [q]
 rcases G with rfl|⟨rfl,h⟩
 ·rfl
 ·simp [h]
end
end Go.Dw
