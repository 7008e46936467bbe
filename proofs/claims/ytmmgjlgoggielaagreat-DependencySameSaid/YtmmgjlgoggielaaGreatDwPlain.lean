
import Derived.Test.YtmmgjlgoggielaaGreatDwLift4
import Derived.IntWalk
import Derived.Sort.Walk0
import Derived.Sort.AssemblyPlain

namespace Go.Dw
theorem yK{σ ω:Type}{body:σ->Option (py σ ω)}(I:σ->Prop)(m:σ->Nat)(Q:ω->Prop)
  (step:∀s,I s->(∃s',body s=some (.next s')∧I s'∧m s'<m s)∨(∃o,body s=some (.stop o)∧Q o)):∀s,I s->∃o,oC body s=some o∧Q o:=by
 intro s
 generalize hn:m s=n
 induction n using Nat.strongRecOn generalizing s with
 |_ n ih=>
  intro hs
  rcases step s hs with⟨s',h1,h2,h3⟩|⟨o,h1,h2⟩
  ·obtain⟨o,h4,h5⟩:=ih (m s') za s' rfl h2
   exact⟨o,by rw [pZ h1];exact h4,h5⟩
  ·exact⟨o,pK h1,h2⟩
theorem pN{α:Type}{l:List α}{n:Int}{i:Nat}(hn:n=i)(hi:i<l.length):pH l n=some l[i]:=by
 subst hn
 unfold pH
 rw [if_pos za,Int.toNat_natCast,ze hi]
theorem qy{α:Type}{l:List α}{n:Int}(h0:0<=n)(h1:n<l.length):inO l n=some ():=by unfold inO;rw [if_pos ⟨h0,h1⟩]
theorem yj{n:Nat}{lo hi:Int}(h0:0<=lo)(h1:lo<=hi)(h2:hi<=n):vq n lo hi=some ():=by unfold vq;rw [if_pos ⟨h0,h1,h2⟩]
theorem Bi{n lo hi:Nat}{i:Int}(h0:0<=i)(h1:i<(hi:Int)-lo)(h2:hi<=n):inV n lo hi i=some ():=by unfold inV;rw [if_pos ⟨h0,h1,h2⟩]
theorem BH{n lo hi:Nat}(h1:lo<=hi)(h2:hi<=n):lenV n lo hi=some ((hi:Int)-lo):=by unfold lenV;rw [if_pos ⟨h1,h2⟩]
theorem AZ{n lo hi:Nat}(h1:lo<=hi)(h2:hi<=n):zg n lo hi=some ():=by unfold zg;rw [if_pos ⟨h1,h2⟩]
theorem yR{α:Type}{l:List α}{lo hi:Nat}(h1:lo<=hi)(h2:hi<=l.length):AN l lo hi=some ((l.drop lo).take (hi-lo)):=by unfold AN;rw [if_pos ⟨h1,h2⟩]
theorem wa{α:Type}{l:List α}{n:Int}{i:Nat}{y:α}(hn:n=i)(hi:i<l.length):sb l n y=some (l.set i y):=by
 subst hn
 unfold sb
 rw [if_pos ⟨za,za⟩,Int.toNat_natCast]
theorem w64{n:Int}(h0: -9223372036854775808<=n)(h1:n<=9223372036854775807):IntKind.wrap .i64 n=n:=IntWalk.i64_in _ za
structure Tot{α:Type}(c:α->α->Int):Prop where
 tM:∀x y,c y x= -c x y
 tr:∀x y z,c x y<=0->c y z<=0->c x z<=0
theorem Tot.refl{α:Type}{c:α->α->Int}(h:Tot c)(x:α):c x x=0:=by have:=h.tM x x;omega
theorem Tot.or{α:Type}{c d:α->α->Int}(hc:Tot c)(hd:Tot d):Tot (fun x y=>if c x y≠0 then c x y else d x y):=by
 refine⟨fun x y=>?_,fun x y z h1 h2=>?_⟩
 ·have:=hc.tM x y;have:=hd.tM x y
  by_cases h:c x y=0
  ·rw [if_neg za,if_neg za];omega
  ·rw [if_pos za,if_pos h];omega
 ·have a1:c x y<=0:=by split at h1<;>omega
  have a2:c y z<=0:=by split at h2<;>omega
  have a3:=hc.tr x y z a1 a2
  by_cases h:c x z=0
  ·rw [if_neg za]
   have b1:=hc.tr z x y (by have:=hc.tM x z;omega) a1
   have b2:=hc.tr y z x a2 (by have:=hc.tM x z;omega)
   have e1:=hc.tM x y;have e2:=hc.tM y z
   rw [if_neg za]at h1;rw [if_neg za]at h2
   exact hd.tr x y z h1 h2
  ·rw [if_pos h];exact a3
theorem Tot.map{α β:Type}{c:β->β->Int}(h:Tot c)(f:α->β):Tot (fun x y=>c (f x) (f y)):=⟨fun x y=>h.tM _ _,fun x y z=>h.tr _ _ _⟩
theorem Tot.lt{α:Type}{c:α->α->Int}(h:Tot c){x y z:α}(h1:c x y<0)(h2:c y z<=0):c x z<0:=by
 have a:=h.tr x y z za h2
 by_cases hz:c x z=0
 ·have b:=h.tr y z x h2 (by have:=h.tM x z;omega)
  have:=h.tM x y;omega
 ·omega
theorem Tot.swo{α:Type}{c:α->α->Int}(h:Tot c):Sort.SWO (fun x y=>decide (c x y<0)):=by
 refine⟨fun x=>?_,fun x y z h1 h2=>?_,fun x y z h1 h2=>?_⟩
 ·have:=h.refl x;simp;omega
 ·simp only [decide_eq_true_eq]at*
  exact h.lt h1 za
 ·simp only [decide_eq_false_iff_not]at*
  have:=h.tr z y x (by have:=h.tM y z;omega) (by have:=h.tM x y;omega)
  have:=h.tM x z;omega
def uI(a b:List UInt8):Int:=if Op.bytesLess a b=true then-1 else if a=b then 0 else 1
theorem vQ(a:List UInt8):Op.bytesLess a a=false:=by rw [Proofs.bytesLess_eq];simp
theorem Ap{a b:List UInt8}(h:Op.bytesLess a b=true):Op.bytesLess b a=false:=by
 rw [Proofs.bytesLess_eq]at*;simp only [decide_eq_true_eq,decide_eq_false_iff_not]at*
 exact List.lt_asymm h
theorem bl_trans{a b c:List UInt8}(h:Op.bytesLess a b=true)(h':Op.bytesLess b c=true):Op.bytesLess a c=true:=by
 rw [Proofs.bytesLess_eq]at*;simp only [decide_eq_true_eq]at*
 exact List.lt_trans h h'
theorem yu{a b:List UInt8}(h:Op.bytesLess a b=false)(h':Op.bytesLess b a=false):a=b:=by
 rw [Proofs.bytesLess_eq]at*;simp only [decide_eq_false_iff_not,List.not_lt]at*
 exact List.le_antisymm h' h
theorem xj{a b:List UInt8}:uI a b=0↔a=b:=by
 unfold uI
 constructor
 ·intro h;split at h
  ·omega
  ·split at h
   ·assumption
   ·omega
 ·rintro rfl;rw [vQ];simp
theorem Ar{a b:List UInt8}:uI a b<0↔Op.bytesLess a b=true:=by
 unfold uI
 split
 ·simp [*]
 ·rename_i h;split<;>simp only [h]<;>simp
theorem cmpB_le{a b:List UInt8}:uI a b<=0↔Op.bytesLess b a=false:=by
 constructor
 ·intro h
  rcases Int.lt_or_eq_of_le h with h|h
  ·exact Ap (Ar.1 h)
  ·rw [xj]at h;subst h;exact vQ a
 ·intro h
  cases h':Op.bytesLess a b with
  |true=>have:=Ar.2 h';omega
  |false=>have:=yu h' h;subst this;rw [xj.2 rfl];omega
theorem wR:Tot uI:=by
 refine⟨fun x y=>?_,fun x y z h1 h2=>?_⟩
 ·unfold uI
  cases h:Op.bytesLess x y with
  |true=>
   have h2:=Ap h
   have hne:y≠x:=by rintro rfl;rw [vQ]at h;cases h
   simp [h2,hne]
  |false=>
   cases h2:Op.bytesLess y x with
   |true=>
    have hne:x≠y:=by rintro rfl;rw [vQ]at h2;cases h2
    simp [hne]
   |false=>have:=yu h h2;subst this;simp
 ·rw [cmpB_le]at*
  cases h:Op.bytesLess z x with
  |false=>rfl
  |true=>
   cases h3:Op.bytesLess y z with
   |true=>have:=bl_trans h3 h;rw [h1]at this;cases this
   |false=>have:=yu h3 h2;subst this;rw [h1]at h;cases h
def qU(a b:Int):Int:=if a<b then-1 else if a>b then 1 else 0
theorem vT{a b:Int}:qU a b=0↔a=b:=by
 unfold qU
 split
 ·omega
 ·split<;>omega
theorem re:Tot qU:=by
 refine⟨fun x y=>?_,fun x y z h1 h2=>?_⟩<;>unfold qU at* <;>(repeat' split at*)<;>omega
section
variable {α:Type} [DecidableEq α]
def cpt:List α->List α
 | []=>[]
 | [a]=>[a]
 |a::b::l=>if b=a then cpt (b::l)else a::cpt (b::l)
theorem yf{x:α}:∀{l:List α},x∈cpt l↔x∈l
 | []=>Iff.rfl
 | [a]=>Iff.rfl
 |a::b::l=>by
  unfold cpt
  split
  ·rename_i h;subst h;rw [yf];simp
  ·rw [List.mem_cons,yf,List.mem_cons (a:=x) (b:=a)]
theorem Ay(x y:α):∀l:List α,cpt (l++[x,y])=cpt (l++[x])++(if y=x then []else [y])
 | []=>by by_cases h:y=x<;>simp [cpt,h]
 | [a]=>by
  by_cases h':x=a
  ·subst h';by_cases h:y=x<;>simp [cpt,h]
  ·by_cases h:y=x
   ·subst h;simp [cpt,h']
   ·simp [cpt,h,h']
 |a::b::l=>by
  have:=Ay x y (b::l)
  simp only [List.cons_append]at this⊢
  unfold cpt
  split
  ·exact this
  ·rw [this];rfl
theorem yA:∀l:List α,(cpt l).length<=l.length
 | []=>Nat.le_refl _
 | [a]=>Nat.le_refl _
 |a::b::l=>by
  have:=yA (b::l)
  unfold cpt
  split
  ·simp only [List.length_cons]at*;omega
  ·simp only [List.length_cons]at*;omega
theorem yB:∀(l:List α),(∀n,(h:n+1<l.length)->l[n+1]≠l[n])->cpt l=l
 | [],_=>rfl
 | [a],_=>rfl
 |a::b::l,h=>by
  unfold cpt
  have h0:=h 0 sm
  simp only [List.getElem_cons_succ,List.getElem_cons_zero]at h0
  rw [if_neg h0, yB (b :: l) (fun n hn => by
   have:=h (n+1) (by simp at hn⊢;omega)
   simpa using this)]
theorem uJ{c:α->α->Int}(hc:Tot c)(h0:∀x y,c x y=0->x=y):∀{l:List α},l.Pairwise (fun x y=>c x y<=0)->(cpt l).Pairwise (fun x y=>c x y<0)
 | [],_=>.nil
 | [a],_=>by simp [cpt]
 |a::b::l,h=>by
  unfold cpt
  obtain⟨ha,ht⟩:=List.pairwise_cons.1 h
  split
  ·exact uJ hc h0 ht
  ·rename_i hne
   refine List.pairwise_cons.2 ⟨fun y hy=>?_,uJ hc h0 ht⟩
   have hy':=yf.1 hy
   have h1:=ha y hy'
   by_cases hz:c a y=0
   ·have e:=h0 _ _ hz
    subst e
    rcases List.mem_cons.1 hy' with e|hm
    ·exact(hne e.symm).elim
    ·have h2:=(List.pairwise_cons.1 ht).1 a hm
     have h3:=ha b sm
     have:=hc.tM a b
     exact(hne (h0 b a za)).elim
   ·omega
end
noncomputable def tD {α:Type} (eq:α->α->Bool) (s2:Int) (d0:List α):(Int×Int×List α)->Option (py (Int×Int×List α) (Int×List α)):=fun(s13,s14,s15)=>
 (lenV s15.length (0+(s2:Int).toNat) (0+((d0.length:Int):Int).toNat)).bind fun x19=>if(decide (s14<x19))=true then((inV s15.length (0+(s2:Int).toNat) (0+((d0.length:Int):Int).toNat) s14).bind fun _=>(pH s15 (((0+(s2:Int).toNat)+(s14:Int).toNat:Nat):Int)).bind fun x22=>(inV s15.length (0+(s2:Int).toNat) (0+((d0.length:Int):Int).toNat) (IntKind.wrap .i64 (s14-(1:Int)))).bind fun _=>(pH s15 (((0+(s2:Int).toNat)+((IntKind.wrap .i64 (s14-(1:Int))):Int).toNat:Nat):Int)).bind fun x24=>if(!(eq x22 x24))=true then((inV s15.length (0+(s2:Int).toNat) (0+((d0.length:Int):Int).toNat) s14).bind fun _=>(pH s15 (((0+(s2:Int).toNat)+(s14:Int).toNat:Nat):Int)).bind fun x27=>(inO s15 s13).bind fun _=>(sb s15 s13 x27).bind fun x30=>some (.next ((IntKind.wrap .i64 (s13+(1:Int))),(IntKind.wrap .i64 (s14+(1:Int))),x30)))else(some (.next (s13,(IntKind.wrap .i64 (s14+(1:Int))),s15))))else(some (.stop (s13,s15)))
noncomputable def sx {α:Type} (eq:α->α->Bool) (z:α) (d0:List α):Int->Option (py (Int) ((Unit)⊕(List α))):=fun s2=>
 if(decide (s2<(d0.length:Int)))=true then((inO d0 s2).bind fun _=>(pH d0 s2).bind fun x7=>(inO d0 (IntKind.wrap .i64 (s2-(1:Int)))).bind fun _=>(pH d0 (IntKind.wrap .i64 (s2-(1:Int)))).bind fun x10=>if(eq x7 x10)=true then((vq d0.length s2 (d0.length:Int)).bind fun _=>(oC (tD eq s2 d0) (s2,(1:Int),d0)).bind fun o32=>(vq o32.2.length o32.1 (o32.2.length:Int)).bind fun _=>(zg o32.2.length (0+(o32.1:Int).toNat) (0+((o32.2.length:Int):Int).toNat)).bind fun _=>(vq (tN o32.2 (0+(o32.1:Int).toNat) ((0+((o32.2.length:Int):Int).toNat)-(0+(o32.1:Int).toNat)) z).length (0:Int) o32.1).bind fun _=>(AN (tN o32.2 (0+(o32.1:Int).toNat) ((0+((o32.2.length:Int):Int).toNat)-(0+(o32.1:Int).toNat)) z) (0+(0:Int).toNat) (0+(o32.1:Int).toNat)).bind fun x37=>some (.stop (.inr x37)))else(some (.next (IntKind.wrap .i64 (s2+(1:Int))))))else(some (.stop (.inl ())))
noncomputable def wS {α:Type} (eq:α->α->Bool) (z:α) (d0:List α):Option (List α):=
 if(decide ((d0.length:Int)<(2:Int)))=true then(some d0)else((oC (sx eq z d0) (1:Int)).bind fun o39=>match o39 with| .inl _=>(some d0)| .inr r41=>(some r41))
theorem qu{α:Type}{l:List α}{n:Nat}(h:n<l.length):l.take (n+1)=l.take n++[l[n]]:=by
 rw [List.take_add_one,ze h];rfl
section
variable {α:Type} [DecidableEq α] {eq:α->α->Bool}(heq:∀x y,eq x y=decide (x=y))
theorem Az{l:List α}{n:Nat}(hn:n+1<l.length):cpt (l.take (n+2))=cpt (l.take (n+1))++(if l[n+1]=l[n]'za then []else [l[n+1]]):=by
 rw [qu hn,qu (show n<l.length by omega),List.append_assoc]
 exact Ay _ _ _
include heq
theorem Au{d:List α}{j:Nat}(h1:1<=j)(hj:j<d.length)(hd:d.length<=4611686018427387904)(hpre:cpt (d.take (j+1))=d.take j):
  ∃o,oC (tD eq j d) ((j:Int),(1:Int),d)=some o∧∃i:Nat,o.1=(i:Int)∧i<=d.length∧o.2.length=d.length∧o.2.take i=cpt d:=by
 refine yK (fun s:Int×Int×List α=>∃i k:Nat,s.1=(i:Int)∧s.2.1=(k:Int)∧1<=k∧j+k<=d.length∧i+1<=j+k∧s.2.2.length=d.length∧s.2.2.take i=cpt (d.take (j+k))∧∀p,j+k<=p+1->s.2.2[p]? =d[p]?)
  (fun s=>((d.length:Int)-s.2.1).toNat) _ ?_ _ ⟨j,1,rfl,rfl,Nat.le_refl _,hj,za,rfl,hpre.symm,fun p _=>rfl⟩
 rintro⟨s1,s2,l⟩ ⟨i,k,e1,e2,hk,hjk,hi,hl,ht,hp⟩
 simp only at e1 e2 hl ht hp
 subst e1 e2
 have t1:(0+((j:Int)).toNat)=j:=by omega
 have t2:(0+((d.length:Int)).toNat)=d.length:=by omega
 unfold tD
 simp only [t1,t2]
 rw [BH za za]
 simp only [zd]
 by_cases hlt:j+k<d.length
 ·rw [if_pos so]
  refine .inl ?_
  have hw1:IntKind.wrap .i64 ((k:Int)-1)=(k:Int)-1:=w64 za za
  have hw2:IntKind.wrap .i64 ((k:Int)+1)=(k:Int)+1:=w64 za za
  have hw3:IntKind.wrap .i64 ((i:Int)+1)=(i:Int)+1:=w64 za za
  rw [Bi za za za]
  simp only [zd,hw1,hw2,hw3]
  rw [pN (i:=j+k) za za,Bi za za za,pN (i:=j+k-1) za za]
  simp only [zd]
  have g1:l[j+k]'za=d[j+k]:=by
   have:=hp (j+k) za
   rw [ze za,ze za]at this
   exact Option.some.inj this
  have g2:l[j+k-1]'za=d[j+k-1]'za:=by
   have:=hp (j+k-1) za
   rw [ze za,ze za]at this
   exact Option.some.inj this
  have hct:=Az (l:=d) (n:=j+k-1) za
  have e3:j+k-1+1=j+k:=by omega
  have e4:j+k-1+2=j+k+1:=by omega
  simp only [e3,e4]at hct
  by_cases hc:d[j+k]=d[j+k-1]'za
  ·rw [if_neg (by rw [heq,g1,g2];simp [hc])]
   rw [if_pos hc,List.append_nil]at hct
   exact⟨_,rfl,⟨i,k+1,rfl,(by show(k:Int)+1=((k+1:Nat):Int);omega),za,za,za,hl,by rw [ht, <-hct];rfl,fun p h=>hp p za⟩,(by show((d.length:Int)-((k:Int)+1)).toNat<((d.length:Int)-(k:Int)).toNat;omega)⟩
  ·rw [if_pos (by rw [heq,g1,g2];simp [hc])]
   rw [if_neg hc]at hct
   rw [qy za za,wa (i:=i) rfl za]
   simp only [zd]
   refine⟨_,rfl,⟨i+1,k+1,(by show(i:Int)+1=((i+1:Nat):Int);omega),(by show(k:Int)+1=((k+1:Nat):Int);omega),za,za,za,by simpa using hl,?_,fun p h=>?_⟩,(by show((d.length:Int)-((k:Int)+1)).toNat<((d.length:Int)-(k:Int)).toNat;omega)⟩
   ·rw [qu so,List.take_set_of_le (Nat.le_refl _),ht]
    rw [show j+(k+1)=j+k+1 by omega,hct]
    simp [g1]
   ·simp only
    rw [List.getElem?_set_ne za]
    exact hp p za
 ·rw [if_neg so]
  refine .inr ⟨_,rfl,i,rfl,za,hl,?_⟩
  rw [ht,List.take_of_length_le za]
theorem A8{z:α}{d:List α}(hd:d.length<=4611686018427387904):wS eq z d=some (cpt d):=by
 unfold wS
 by_cases h2:d.length<2
 ·rw [if_pos so]
  match d,h2 with
  | [],_=>rfl
  | [a],_=>rfl
 rw [if_neg so]
 obtain⟨o,ho,hq⟩:=yK (body:=sx eq z d) (fun s:Int=>∃j:Nat,s=(j:Int)∧1<=j∧j<=d.length∧∀n,(h:n+1<j)->(h':j<=d.length)->d[n+1]≠d[n]) (fun s=>((d.length:Int)-s).toNat)
  (fun o => o = .inr (cpt d) ∨ o = .inl () ∧ cpt d = d) (by
   rintro s ⟨j,rfl,hj,hjd,hne⟩
   unfold sx
   by_cases hlt:j<d.length
   ·rw [if_pos so]
    have hw1:IntKind.wrap .i64 ((j:Int)-1)=(j:Int)-1:=w64 za za
    have hw2:IntKind.wrap .i64 ((j:Int)+1)=(j:Int)+1:=w64 za za
    rw [hw1,hw2,qy za za,pN (i:=j) rfl hlt,qy za za,pN (i:=j-1) za za]
    simp only [zd]
    by_cases hc:d[j]=d[j-1]'za
    ·rw [if_pos (by rw [heq];simp [hc]),yj za za za]
     refine .inr ?_
     have hpre:cpt (d.take (j+1))=d.take j:=by
      have:=Az (l:=d) (n:=j-1) za
      simp only [show j-1+1=j by omega,show j-1+2=j+1 by omega,hc,if_true,List.append_nil]at this
      rw [this]
      exact yB _ fun n hn=>by
       simp only [List.length_take]at hn
       simp only [List.getElem_take]
       exact hne n za hjd
     obtain⟨⟨o1,o2⟩,ho,i,e1,hi,hl,ht⟩:=Au heq hj hlt hd hpre
     simp only at e1 hl ht
     subst e1
     simp only [zd,ho]
     have t1:(0+((i:Int)).toNat)=i:=by omega
     have t2:(0+((o2.length:Int)).toNat)=d.length:=by omega
     have t3:(0+(0:Int).toNat)=0:=rfl
     simp only [t1,t2,t3]
     have hcl:(tN o2 i (d.length-i) z).length=d.length:=by
      unfold tN;simp;omega
     rw [yj za za za,AZ za za,yj za za (by rw [hcl];omega),yR za (by rw [hcl];omega)]
     simp only [zd]
     refine⟨_,rfl,.inl ?_⟩
     congr 1
     rw [<-ht]
     unfold tN
     rw [List.drop_zero,Nat.sub_zero,List.append_assoc,List.take_append_of_le_length so,List.take_take,Nat.min_self]
    ·rw [if_neg (by rw [heq];simp [hc])]
     refine .inl ⟨_,rfl,⟨j+1,za,za,za,fun n hn _=>?_⟩,za⟩
     by_cases hn2:n+1<j
     ·exact hne n hn2 hjd
     ·have:n=j-1:=by omega
      subst this
      simp only [show j-1+1=j by omega]
      exact hc
   ·rw [if_neg so]
    refine .inr ⟨_,rfl,.inr ⟨rfl,yB _ fun n hn=>hne n za hjd⟩⟩) 1 ⟨1,rfl,za,za,fun n hn=>za⟩
 rw [ho]
 rcases hq with rfl|⟨rfl,h⟩
 ·rfl
 ·simp [h]
end
end Go.Dw
