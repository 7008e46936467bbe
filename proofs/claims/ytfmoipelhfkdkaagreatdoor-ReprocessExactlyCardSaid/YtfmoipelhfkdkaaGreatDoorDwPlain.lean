
import Derived.Test.YtfmoipelhfkdkaaGreatDoorDwLift4
import Derived.IntWalk
import Derived.Sort.Walk0
import Derived.Sort.AssemblyPlain
open Go.IntKind renaming wrap->FN
open List renaming append_assoc->DC, append_nil->ER, length_cons->DW, mem_cons->FO
open Nat renaming le_refl->DA

namespace Go.Dw
theorem Ai{σ ω:Type}{body:σ->Option (il σ ω)}(I:σ->Prop)(m:σ->Nat)(Q:ω->Prop)
  (step:∀s,I s->(∃s',body s=some (.next s')∧I s'∧m s'<m s)∨(∃o,body s=some (.stop o)∧Q o)):∀s,I s->∃o,cI body s=some o∧Q o:=by
 intro s
 generalize r:m s=n
 induction n using Nat.strongRecOn generalizing s with
 |_ n k=>
  intro hs
  rcases step s hs with⟨s',h1,f,q⟩|⟨o,h1,f⟩
  ·obtain⟨o,g,j⟩:=k (m s') za s' rfl f
   exact⟨o,by rw [rN h1];exact g,j⟩
  ·exact⟨o,qV h1,f⟩
theorem pI{α:Type}{l:List α}{n:Int}{i:Nat}(f:n=i)(hi:i<l.length):nZ l n=some l[i]:=by
 subst f
 unfold nZ
 rw [if_pos za,Int.toNat_natCast,zf hi]
theorem sa{α:Type}{l:List α}{n:Int}(f:0<=n)(h1:n<l.length):inO l n=some ():=by unfold inO;rw [if_pos ⟨f,h1⟩]
theorem zy{n:Nat}{lo hi:Int}(f:0<=lo)(h1:lo<=hi)(g:hi<=n):vB n lo hi=some ():=by unfold vB;rw [if_pos ⟨f,h1,g⟩]
theorem Ct{n lo hi:Nat}{i:Int}(f:0<=i)(h1:i<(hi:Int)-lo)(g:hi<=n):inV n lo hi i=some ():=by unfold inV;rw [if_pos ⟨f,h1,g⟩]
theorem CW{n lo hi:Nat}(h1:lo<=hi)(f:hi<=n):lenV n lo hi=some ((hi:Int)-lo):=by unfold lenV;rw [if_pos ⟨h1,f⟩]
theorem B8{n lo hi:Nat}(h1:lo<=hi)(f:hi<=n):AB n lo hi=some ():=by unfold AB;rw [if_pos ⟨h1,f⟩]
theorem Ap{α:Type}{l:List α}{lo hi:Nat}(h1:lo<=hi)(f:hi<=l.length):BV l lo hi=some ((l.drop lo).take (hi-lo)):=by unfold BV;rw [if_pos ⟨h1,f⟩]
theorem xw{α:Type}{l:List α}{n:Int}{i:Nat}{y:α}(f:n=i)(hi:i<l.length):tF l n y=some (l.set i y):=by
 subst f
 unfold tF
 rw [if_pos ⟨za,za⟩,Int.toNat_natCast]
theorem w64{n:Int}(f: -9223372036854775808<=n)(h1:n<=9223372036854775807):FN .i64 n=n:=IntWalk.i64_in _ za
structure Tot{α:Type}(c:α->α->Int):Prop where
 vg:∀x y,c y x= -c x y
 tr:∀x y z,c x y<=0->c y z<=0->c x z<=0
theorem Tot.refl{α:Type}{c:α->α->Int}(h:Tot c)(x:α):c x x=0:=by have:=h.vg x x;omega
theorem Tot.or{α:Type}{c d:α->α->Int}(hc:Tot c)(g:Tot d):Tot (fun x y=>if c x y≠0 then c x y else d x y):=by
 refine⟨fun x y=>?_,fun x y z h1 f=>?_⟩
 ·have:=hc.vg x y;have:=g.vg x y
  by_cases h:c x y=0
  ·rw [if_neg za,if_neg za];omega
  ·rw [if_pos za,if_pos h];omega
 ·have a1:c x y<=0:=by split at h1<;>omega
  have a2:c y z<=0:=by split at f<;>omega
  have a3:=hc.tr x y z a1 a2
  by_cases h:c x z=0
  ·rw [if_neg za]
   have j:=hc.tr z x y (by have:=hc.vg x z;omega) a1
   have k:=hc.tr y z x a2 (by have:=hc.vg x z;omega)
   have q:=hc.vg x y;have e2:=hc.vg y z
   rw [if_neg za]at h1;rw [if_neg za]at f
   exact g.tr x y z h1 f
  ·rw [if_pos h];exact a3
theorem Tot.map{α β:Type}{c:β->β->Int}(h:Tot c)(f:α->β):Tot (fun x y=>c (f x) (f y)):=⟨fun x y=>h.vg _ _,fun x y z=>h.tr _ _ _⟩
theorem Tot.lt{α:Type}{c:α->α->Int}(h:Tot c){x y z:α}(h1:c x y<0)(f:c y z<=0):c x z<0:=by
 have a:=h.tr x y z za f
 by_cases g:c x z=0
 ·have b:=h.tr y z x f (by have:=h.vg x z;omega)
  have:=h.vg x y;omega
 ·omega
theorem Tot.swo{α:Type}{c:α->α->Int}(h:Tot c):Sort.SWO (fun x y=>decide (c x y<0)):=by
 refine⟨fun x=>?_,fun x y z h1 f=>?_,fun x y z h1 f=>?_⟩
 ·have:=h.refl x;simp;omega
 ·simp only [decide_eq_true_eq]at*
  exact h.lt h1 za
 ·simp only [decide_eq_false_iff_not]at*
  have:=h.tr z y x (by have:=h.vg y z;omega) (by have:=h.vg x y;omega)
  have:=h.vg x z;omega
def wi(a b:List UInt8):Int:=if Op.bytesLess a b=true then-1 else if a=b then 0 else 1
theorem xh(a:List UInt8):Op.bytesLess a a=false:=by rw [Proofs.bytesLess_eq];simp
theorem BA{a b:List UInt8}(h:Op.bytesLess a b=true):Op.bytesLess b a=false:=by
 rw [Proofs.bytesLess_eq]at*;simp only [decide_eq_true_eq,decide_eq_false_iff_not]at*
 exact List.lt_asymm h
theorem bl_trans{a b c:List UInt8}(h:Op.bytesLess a b=true)(f:Op.bytesLess b c=true):Op.bytesLess a c=true:=by
 rw [Proofs.bytesLess_eq]at*;simp only [decide_eq_true_eq]at*
 exact List.lt_trans h f
theorem zK{a b:List UInt8}(h:Op.bytesLess a b=false)(f:Op.bytesLess b a=false):a=b:=by
 rw [Proofs.bytesLess_eq]at*;simp only [decide_eq_false_iff_not,List.not_lt]at*
 exact List.le_antisymm f h
theorem yy{a b:List UInt8}:wi a b=0↔a=b:=by
 unfold wi
 constructor
 ·intro h;split at h
  ·omega
  ·split at h
   ·assumption
   ·omega
 ·rintro rfl;rw [xh];simp
theorem BC{a b:List UInt8}:wi a b<0↔Op.bytesLess a b=true:=by
 unfold wi
 split
 ·simp [*]
 ·rename_i h;split<;>simp only [h]<;>simp
theorem cmpB_le{a b:List UInt8}:wi a b<=0↔Op.bytesLess b a=false:=by
 constructor
 ·intro h
  rcases Int.lt_or_eq_of_le h with h|h
  ·exact BA (BC.1 h)
  ·rw [yy]at h;subst h;exact xh a
 ·intro h
  cases f:Op.bytesLess a b with
  |true=>have:=BC.2 f;omega
  |false=>have:=zK f h;subst this;rw [yy.2 rfl];omega
theorem ye:Tot wi:=by
 refine⟨fun x y=>?_,fun x y z h1 f=>?_⟩
 ·unfold wi
  cases h:Op.bytesLess x y with
  |true=>
   have f:=BA h
   have g:y≠x:=by rintro rfl;rw [xh]at h;cases h
   simp [f,g]
  |false=>
   cases f:Op.bytesLess y x with
   |true=>
    have g:x≠y:=by rintro rfl;rw [xh]at f;cases f
    simp [g]
   |false=>have:=zK h f;subst this;simp
 ·rw [cmpB_le]at*
  cases h:Op.bytesLess z x with
  |false=>rfl
  |true=>
   cases j:Op.bytesLess y z with
   |true=>have:=bl_trans j h;rw [h1]at this;cases this
   |false=>have:=zK j f;subst this;rw [h1]at h;cases h
def sZ(a b:Int):Int:=if a<b then-1 else if a>b then 1 else 0
theorem xj{a b:Int}:sZ a b=0↔a=b:=by
 unfold sZ
 split
 ·omega
 ·split<;>omega
theorem tg:Tot sZ:=by
 refine⟨fun x y=>?_,fun x y z h1 f=>?_⟩<;>unfold sZ at* <;>(repeat' split at*)<;>omega
section
variable {α:Type} [DecidableEq α]
def cpt:List α->List α
 | []=>[]
 | [a]=>[a]
 |a::b::l=>if b=a then cpt (b::l)else a::cpt (b::l)
theorem zu{x:α}:∀{l:List α},x∈cpt l↔x∈l
 | []=>Iff.rfl
 | [a]=>Iff.rfl
 |a::b::l=>by
  unfold cpt
  split
  ·rename_i h;subst h;rw [zu];simp
  ·rw [FO,zu,FO (a:=x) (b:=a)]
theorem BH(x y:α):∀l:List α,cpt (l++[x,y])=cpt (l++[x])++(if y=x then []else [y])
 | []=>by by_cases h:y=x<;>simp [cpt,h]
 | [a]=>by
  by_cases f:x=a
  ·subst f;by_cases h:y=x<;>simp [cpt,h]
  ·by_cases h:y=x
   ·subst h;simp [cpt,f]
   ·simp [cpt,h,f]
 |a::b::l=>by
  have:=BH x y (b::l)
  simp only [List.cons_append]at this⊢
  unfold cpt
  split
  ·exact this
  ·rw [this];rfl
theorem zR:∀l:List α,(cpt l).length<=l.length
 | []=>DA _
 | [a]=>DA _
 |a::b::l=>by
  have:=zR (b::l)
  unfold cpt
  split
  ·simp only [DW]at*;omega
  ·simp only [DW]at*;omega
theorem zS:∀(l:List α),(∀n,(h:n+1<l.length)->l[n+1]≠l[n])->cpt l=l
 | [],_=>rfl
 | [a],_=>rfl
 |a::b::l,h=>by
  unfold cpt
  have f:=h 0 zc
  simp only [List.getElem_cons_succ,List.getElem_cons_zero]at f
  rw [if_neg f, zS (b :: l) (fun n g => by
   have:=h (n+1) (by simp at g⊢;omega)
   simpa using this)]
theorem wj{c:α->α->Int}(hc:Tot c)(j:∀x y,c x y=0->x=y):∀{l:List α},l.Pairwise (fun x y=>c x y<=0)->(cpt l).Pairwise (fun x y=>c x y<0)
 | [],_=>.nil
 | [a],_=>by simp [cpt]
 |a::b::l,h=>by
  unfold cpt
  obtain⟨q,k⟩:=List.pairwise_cons.1 h
  split
  ·exact wj hc j k
  ·rename_i f
   refine List.pairwise_cons.2 ⟨fun y r=>?_,wj hc j k⟩
   have g:=zu.1 r
   have h1:=q y g
   by_cases u:c a y=0
   ·have e:=j _ _ u
    subst e
    rcases List.mem_cons.1 g with e|hm
    ·exact(f e.symm).elim
    ·have B:=(List.pairwise_cons.1 k).1 a hm
     have C:=q b zc
     have:=hc.vg a b
     exact(f (j b a za)).elim
   ·omega
end
noncomputable def uW {α:Type} (eq:α->α->Bool) (s2:Int) (d0:List α):(Int×Int×List α)->Option (il (Int×Int×List α) (Int×List α)):=fun(j,g,f)=>
 (lenV f.length (0+(s2:Int).toNat) (0+((d0.length:Int):Int).toNat)).bind fun k=>if(decide (g<k))=true then((inV f.length (0+(s2:Int).toNat) (0+((d0.length:Int):Int).toNat) g).bind fun _=>(nZ f (((0+(s2:Int).toNat)+(g:Int).toNat:Nat):Int)).bind fun q=>(inV f.length (0+(s2:Int).toNat) (0+((d0.length:Int):Int).toNat) (FN .i64 (g-(1:Int)))).bind fun _=>(nZ f (((0+(s2:Int).toNat)+((FN .i64 (g-(1:Int))):Int).toNat:Nat):Int)).bind fun r=>if(!(eq q r))=true then((inV f.length (0+(s2:Int).toNat) (0+((d0.length:Int):Int).toNat) g).bind fun _=>(nZ f (((0+(s2:Int).toNat)+(g:Int).toNat:Nat):Int)).bind fun u=>(inO f j).bind fun _=>(tF f j u).bind fun B=>some (.next ((FN .i64 (j+(1:Int))),(FN .i64 (g+(1:Int))),B)))else(some (.next (j,(FN .i64 (g+(1:Int))),f))))else(some (.stop (j,f)))
noncomputable def um {α:Type} (eq:α->α->Bool) (z:α) (d0:List α):Int->Option (il (Int) ((Unit)⊕(List α))):=fun s2=>
 if(decide (s2<(d0.length:Int)))=true then((inO d0 s2).bind fun _=>(nZ d0 s2).bind fun k=>(inO d0 (FN .i64 (s2-(1:Int)))).bind fun _=>(nZ d0 (FN .i64 (s2-(1:Int)))).bind fun g=>if(eq k g)=true then((vB d0.length s2 (d0.length:Int)).bind fun _=>(cI (uW eq s2 d0) (s2,(1:Int),d0)).bind fun f=>(vB f.2.length f.1 (f.2.length:Int)).bind fun _=>(AB f.2.length (0+(f.1:Int).toNat) (0+((f.2.length:Int):Int).toNat)).bind fun _=>(vB (vj f.2 (0+(f.1:Int).toNat) ((0+((f.2.length:Int):Int).toNat)-(0+(f.1:Int).toNat)) z).length (0:Int) f.1).bind fun _=>(BV (vj f.2 (0+(f.1:Int).toNat) ((0+((f.2.length:Int):Int).toNat)-(0+(f.1:Int).toNat)) z) (0+(0:Int).toNat) (0+(f.1:Int).toNat)).bind fun j=>some (.stop (.inr j)))else(some (.next (FN .i64 (s2+(1:Int))))))else(some (.stop (.inl ())))
noncomputable def yf {α:Type} (eq:α->α->Bool) (z:α) (d0:List α):Option (List α):=
 if(decide ((d0.length:Int)<(2:Int)))=true then(some d0)else((cI (um eq z d0) (1:Int)).bind fun f=>match f with| .inl _=>(some d0)| .inr g=>(some g))
theorem rr{α:Type}{l:List α}{n:Nat}(h:n<l.length):l.take (n+1)=l.take n++[l[n]]:=by
 rw [List.take_add_one,zf h];rfl
section
variable {α:Type} [DecidableEq α] {eq:α->α->Bool}(heq:∀x y,eq x y=decide (x=y))
theorem BJ{l:List α}{n:Nat}(f:n+1<l.length):cpt (l.take (n+2))=cpt (l.take (n+1))++(if l[n+1]=l[n]'za then []else [l[n+1]]):=by
 rw [rr f,rr (show n<l.length by omega),DC]
 exact BH _ _ _
include heq
theorem BD{d:List α}{j:Nat}(h1:1<=j)(F:j<d.length)(I:d.length<=4611686018427387904)(g:cpt (d.take (j+1))=d.take j):
  ∃o,cI (uW eq j d) ((j:Int),(1:Int),d)=some o∧∃i:Nat,o.1=(i:Int)∧i<=d.length∧o.2.length=d.length∧o.2.take i=cpt d:=by
 refine Ai (fun s:Int×Int×List α=>∃i k:Nat,s.1=(i:Int)∧s.2.1=(k:Int)∧1<=k∧j+k<=d.length∧i+1<=j+k∧s.2.2.length=d.length∧s.2.2.take i=cpt (d.take (j+k))∧∀p,j+k<=p+1->s.2.2[p]? =d[p]?)
  (fun s=>((d.length:Int)-s.2.1).toNat) _ ?_ _ ⟨j,1,rfl,rfl,DA _,F,za,rfl,g.symm,fun p _=>rfl⟩
 rintro⟨s1,s2,l⟩ ⟨i,k,C,e2,hk,G,hi,hl,q,hp⟩
 simp only at C e2 hl q hp
 subst C e2
 have t1:(0+((j:Int)).toNat)=j:=by omega
 have t2:(0+((d.length:Int)).toNat)=d.length:=by omega
 unfold uW
 simp only [t1,t2]
 rw [CW za za]
 simp only [ze]
 by_cases H:j+k<d.length
 ·rw [if_pos so]
  refine .inl ?_
  have r:FN .i64 ((k:Int)-1)=(k:Int)-1:=w64 za za
  have u:FN .i64 ((k:Int)+1)=(k:Int)+1:=w64 za za
  have B:FN .i64 ((i:Int)+1)=(i:Int)+1:=w64 za za
  rw [Ct za za za]
  simp only [ze,r,u,B]
  rw [pI (i:=j+k) za za,Ct za za za,pI (i:=j+k-1) za za]
  simp only [ze]
  have g1:l[j+k]'za=d[j+k]:=by
   have:=hp (j+k) za
   rw [zf za,zf za]at this
   exact Option.some.inj this
  have g2:l[j+k-1]'za=d[j+k-1]'za:=by
   have:=hp (j+k-1) za
   rw [zf za,zf za]at this
   exact Option.some.inj this
  have f:=BJ (l:=d) (n:=j+k-1) za
  have D:j+k-1+1=j+k:=by omega
  have E:j+k-1+2=j+k+1:=by omega
  simp only [D,E]at f
  by_cases hc:d[j+k]=d[j+k-1]'za
  ·rw [if_neg (by rw [heq,g1,g2];simp [hc])]
   rw [if_pos hc,ER]at f
   exact⟨_,rfl,⟨i,k+1,rfl,(by show(k:Int)+1=((k+1:Nat):Int);omega),za,za,za,hl,by rw [q, <-f];rfl,fun p h=>hp p za⟩,(by show((d.length:Int)-((k:Int)+1)).toNat<((d.length:Int)-(k:Int)).toNat;omega)⟩
  ·rw [if_pos (by rw [heq,g1,g2];simp [hc])]
   rw [if_neg hc]at f
   rw [sa za za,xw (i:=i) rfl za]
   simp only [ze]
   refine⟨_,rfl,⟨i+1,k+1,(by show(i:Int)+1=((i+1:Nat):Int);omega),(by show(k:Int)+1=((k+1:Nat):Int);omega),za,za,za,by simpa using hl,?_,fun p h=>?_⟩,(by show((d.length:Int)-((k:Int)+1)).toNat<((d.length:Int)-(k:Int)).toNat;omega)⟩
   ·rw [rr so,List.take_set_of_le (DA _),q]
    rw [show j+(k+1)=j+k+1 by omega,f]
    simp [g1]
   ·simp only
    rw [List.getElem?_set_ne za]
    exact hp p za
 ·rw [if_neg so]
  refine .inr ⟨_,rfl,i,rfl,za,hl,?_⟩
  rw [q,List.take_of_length_le za]
theorem Cj{z:α}{d:List α}(I:d.length<=4611686018427387904):yf eq z d=some (cpt d):=by
 unfold yf
 by_cases H:d.length<2
 ·rw [if_pos so]
  match d,H with
  | [],_=>rfl
  | [a],_=>rfl
 rw [if_neg so]
 obtain⟨o,ho,K⟩:=Ai (body:=um eq z d) (fun s:Int=>∃j:Nat,s=(j:Int)∧1<=j∧j<=d.length∧∀n,(h:n+1<j)->(L:j<=d.length)->d[n+1]≠d[n]) (fun s=>((d.length:Int)-s).toNat)
  (fun o => o = .inr (cpt d) ∨ o = .inl () ∧ cpt d = d) (by
   rintro s ⟨j,rfl,J,f,g⟩
   unfold um
   by_cases q:j<d.length
   ·rw [if_pos so]
    have C:FN .i64 ((j:Int)-1)=(j:Int)-1:=w64 za za
    have D:FN .i64 ((j:Int)+1)=(j:Int)+1:=w64 za za
    rw [C,D,sa za za,pI (i:=j) rfl q,sa za za,pI (i:=j-1) za za]
    simp only [ze]
    by_cases hc:d[j]=d[j-1]'za
    ·rw [if_pos (by rw [heq];simp [hc]),zy za za za]
     refine .inr ?_
     have r:cpt (d.take (j+1))=d.take j:=by
      have:=BJ (l:=d) (n:=j-1) za
      simp only [show j-1+1=j by omega,show j-1+2=j+1 by omega,hc,if_true,ER]at this
      rw [this]
      exact zS _ fun n u=>by
       simp only [List.length_take]at u
       simp only [List.getElem_take]
       exact g n za f
     obtain⟨⟨N,G⟩,ho,i,E,hi,hl,F⟩:=BD heq J q I r
     simp only at E hl F
     subst E
     simp only [ze,ho]
     have t1:(0+((i:Int)).toNat)=i:=by omega
     have t2:(0+((G.length:Int)).toNat)=d.length:=by omega
     have t3:(0+(0:Int).toNat)=0:=rfl
     simp only [t1,t2,t3]
     have k:(vj G i (d.length-i) z).length=d.length:=by
      unfold vj;simp;omega
     rw [zy za za za,B8 za za,zy za za (by rw [k];omega),Ap za (by rw [k];omega)]
     simp only [ze]
     refine⟨_,rfl,.inl ?_⟩
     congr 1
     rw [<-F]
     unfold vj
     rw [List.drop_zero,Nat.sub_zero,DC,List.take_append_of_le_length so,List.take_take,Nat.min_self]
    ·rw [if_neg (by rw [heq];simp [hc])]
     refine .inl ⟨_,rfl,⟨j+1,za,za,za,fun n u _=>?_⟩,za⟩
     by_cases B:n+1<j
     ·exact g n B f
     ·have:n=j-1:=by omega
      subst this
      simp only [show j-1+1=j by omega]
      exact hc
   ·rw [if_neg so]
    refine .inr ⟨_,rfl,.inr ⟨rfl,zS _ fun n u=>g n za f⟩⟩) 1 ⟨1,rfl,za,za,fun n u=>za⟩
 rw [ho]
 rcases K with rfl|⟨rfl,h⟩
 ·rfl
 ·simp [h]
end
end Go.Dw
