
import Derived.Test.YtfmoipelhfkdkaaGreatDoorDwLift4
import Derived.IntWalk
import Derived.Sort.Walk0
import Derived.Sort.AssemblyPlain
open Go.IntKind renaming wrap->Fb
open List renaming append_assoc->DK, append_nil->Ea, length_cons->D4, mem_cons->Fc
open Nat renaming le_refl->DI

namespace Go.Dw
theorem xm{σ ω:Type}{body:σ->Option (gB σ ω)}(I:σ->Prop)(m:σ->Nat)(Q:ω->Prop)
  (step:∀s,I s->(∃s',body s=some (.next s')∧I s'∧m s'<m s)∨(∃o,body s=some (.stop o)∧Q o)):∀s,I s->∃o,cI body s=some o∧Q o:=by
 intro s
 generalize r:m s=n
 induction n using Nat.strongRecOn generalizing s with
 |_ n k=>
  intro hs
  rcases step s hs with⟨s',h1,f,q⟩|⟨o,h1,f⟩
  ·obtain⟨o,g,j⟩:=k (m s') za s' rfl f
   exact⟨o,by rw [rZ h1];exact g,j⟩
  ·exact⟨o,rD h1,f⟩
theorem py{α:Type}{l:List α}{n:Int}{i:Nat}(f:n=i)(hi:i<l.length):oc l n=some l[i]:=by
 subst f
 unfold oc
 rw [if_pos za,Int.toNat_natCast,zf hi]
theorem sh{α:Type}{l:List α}{n:Int}(f:0<=n)(h1:n<l.length):inO l n=some ():=by unfold inO;rw [if_pos ⟨f,h1⟩]
theorem xJ{n:Nat}{lo hi:Int}(f:0<=lo)(h1:lo<=hi)(g:hi<=n):vB n lo hi=some ():=by unfold vB;rw [if_pos ⟨f,h1,g⟩]
theorem CO{n lo hi:Nat}{i:Int}(f:0<=i)(h1:i<(hi:Int)-lo)(g:hi<=n):inV n lo hi i=some ():=by unfold inV;rw [if_pos ⟨f,h1,g⟩]
theorem Df{n lo hi:Nat}(h1:lo<=hi)(f:hi<=n):lenV n lo hi=some ((hi:Int)-lo):=by unfold lenV;rw [if_pos ⟨h1,f⟩]
theorem AR{n lo hi:Nat}(h1:lo<=hi)(f:hi<=n):zI n lo hi=some ():=by unfold zI;rw [if_pos ⟨h1,f⟩]
theorem yD{α:Type}{l:List α}{lo hi:Nat}(h1:lo<=hi)(f:hi<=l.length):zB l lo hi=some ((l.drop lo).take (hi-lo)):=by unfold zB;rw [if_pos ⟨h1,f⟩]
theorem wR{α:Type}{l:List α}{n:Int}{i:Nat}{y:α}(f:n=i)(hi:i<l.length):tO l n y=some (l.set i y):=by
 subst f
 unfold tO
 rw [if_pos ⟨za,za⟩,Int.toNat_natCast]
theorem w64{n:Int}(f: -9223372036854775808<=n)(h1:n<=9223372036854775807):Fb .i64 n=n:=IntWalk.i64_in _ za
structure Tot{α:Type}(c:α->α->Int):Prop where
 uV:∀x y,c y x= -c x y
 tr:∀x y z,c x y<=0->c y z<=0->c x z<=0
theorem Tot.refl{α:Type}{c:α->α->Int}(h:Tot c)(x:α):c x x=0:=by have:=h.uV x x;omega
theorem Tot.or{α:Type}{c d:α->α->Int}(hc:Tot c)(g:Tot d):Tot (fun x y=>if c x y≠0 then c x y else d x y):=by
 refine⟨fun x y=>?_,fun x y z h1 f=>?_⟩
 ·have:=hc.uV x y;have:=g.uV x y
  by_cases h:c x y=0
  ·rw [if_neg za,if_neg za];omega
  ·rw [if_pos za,if_pos h];omega
 ·have a1:c x y<=0:=by split at h1<;>omega
  have a2:c y z<=0:=by split at f<;>omega
  have a3:=hc.tr x y z a1 a2
  by_cases h:c x z=0
  ·rw [if_neg za]
   have j:=hc.tr z x y (by have:=hc.uV x z;omega) a1
   have k:=hc.tr y z x a2 (by have:=hc.uV x z;omega)
   have q:=hc.uV x y;have e2:=hc.uV y z
   rw [if_neg za]at h1;rw [if_neg za]at f
   exact g.tr x y z h1 f
  ·rw [if_pos h];exact a3
theorem Tot.map{α β:Type}{c:β->β->Int}(h:Tot c)(f:α->β):Tot (fun x y=>c (f x) (f y)):=⟨fun x y=>h.uV _ _,fun x y z=>h.tr _ _ _⟩
theorem Tot.lt{α:Type}{c:α->α->Int}(h:Tot c){x y z:α}(h1:c x y<0)(f:c y z<=0):c x z<0:=by
 have a:=h.tr x y z za f
 by_cases g:c x z=0
 ·have b:=h.tr y z x f (by have:=h.uV x z;omega)
  have:=h.uV x y;omega
 ·omega
theorem Tot.swo{α:Type}{c:α->α->Int}(h:Tot c):Sort.SWO (fun x y=>decide (c x y<0)):=by
 refine⟨fun x=>?_,fun x y z h1 f=>?_,fun x y z h1 f=>?_⟩
 ·have:=h.refl x;simp;omega
 ·simp only [decide_eq_true_eq]at*
  exact h.lt h1 za
 ·simp only [decide_eq_false_iff_not]at*
  have:=h.tr z y x (by have:=h.uV y z;omega) (by have:=h.uV x y;omega)
  have:=h.uV x z;omega
def ve(a b:List UInt8):Int:=if Op.bytesLess a b=true then-1 else if a=b then 0 else 1
theorem xA(a:List UInt8):Op.bytesLess a a=false:=by rw [Proofs.bytesLess_eq];simp
theorem BQ{a b:List UInt8}(h:Op.bytesLess a b=true):Op.bytesLess b a=false:=by
 rw [Proofs.bytesLess_eq]at*;simp only [decide_eq_true_eq,decide_eq_false_iff_not]at*
 exact List.lt_asymm h
theorem bl_trans{a b c:List UInt8}(h:Op.bytesLess a b=true)(f:Op.bytesLess b c=true):Op.bytesLess a c=true:=by
 rw [Proofs.bytesLess_eq]at*;simp only [decide_eq_true_eq]at*
 exact List.lt_trans h f
theorem Ab{a b:List UInt8}(h:Op.bytesLess a b=false)(f:Op.bytesLess b a=false):a=b:=by
 rw [Proofs.bytesLess_eq]at*;simp only [decide_eq_false_iff_not,List.not_lt]at*
 exact List.le_antisymm f h
theorem yO{a b:List UInt8}:ve a b=0↔a=b:=by
 unfold ve
 constructor
 ·intro h;split at h
  ·omega
  ·split at h
   ·assumption
   ·omega
 ·rintro rfl;rw [xA];simp
theorem BT{a b:List UInt8}:ve a b<0↔Op.bytesLess a b=true:=by
 unfold ve
 split
 ·simp [*]
 ·rename_i h;split<;>simp only [h]<;>simp
theorem cmpB_le{a b:List UInt8}:ve a b<=0↔Op.bytesLess b a=false:=by
 constructor
 ·intro h
  rcases Int.lt_or_eq_of_le h with h|h
  ·exact BQ (BT.1 h)
  ·rw [yO]at h;subst h;exact xA a
 ·intro h
  cases f:Op.bytesLess a b with
  |true=>have:=BT.2 f;omega
  |false=>have:=Ab f h;subst this;rw [yO.2 rfl];omega
theorem yr:Tot ve:=by
 refine⟨fun x y=>?_,fun x y z h1 f=>?_⟩
 ·unfold ve
  cases h:Op.bytesLess x y with
  |true=>
   have f:=BQ h
   have g:y≠x:=by rintro rfl;rw [xA]at h;cases h
   simp [f,g]
  |false=>
   cases f:Op.bytesLess y x with
   |true=>
    have g:x≠y:=by rintro rfl;rw [xA]at f;cases f
    simp [g]
   |false=>have:=Ab h f;subst this;simp
 ·rw [cmpB_le]at*
  cases h:Op.bytesLess z x with
  |false=>rfl
  |true=>
   cases j:Op.bytesLess y z with
   |true=>have:=bl_trans j h;rw [h1]at this;cases this
   |false=>have:=Ab j f;subst this;rw [h1]at h;cases h
def sX(a b:Int):Int:=if a<b then-1 else if a>b then 1 else 0
theorem xC{a b:Int}:sX a b=0↔a=b:=by
 unfold sX
 split
 ·omega
 ·split<;>omega
theorem tv:Tot sX:=by
 refine⟨fun x y=>?_,fun x y z h1 f=>?_⟩<;>unfold sX at* <;>(repeat' split at*)<;>omega
section
variable {α:Type} [DecidableEq α]
def cpt:List α->List α
 | []=>[]
 | [a]=>[a]
 |a::b::l=>if b=a then cpt (b::l)else a::cpt (b::l)
theorem zO{x:α}:∀{l:List α},x∈cpt l↔x∈l
 | []=>Iff.rfl
 | [a]=>Iff.rfl
 |a::b::l=>by
  unfold cpt
  split
  ·rename_i h;subst h;rw [zO];simp
  ·rw [Fc,zO,Fc (a:=x) (b:=a)]
theorem BZ(x y:α):∀l:List α,cpt (l++[x,y])=cpt (l++[x])++(if y=x then []else [y])
 | []=>by by_cases h:y=x<;>simp [cpt,h]
 | [a]=>by
  by_cases f:x=a
  ·subst f;by_cases h:y=x<;>simp [cpt,h]
  ·by_cases h:y=x
   ·subst h;simp [cpt,f]
   ·simp [cpt,h,f]
 |a::b::l=>by
  have:=BZ x y (b::l)
  simp only [List.cons_append]at this⊢
  unfold cpt
  split
  ·exact this
  ·rw [this];rfl
theorem Ai:∀l:List α,(cpt l).length<=l.length
 | []=>DI _
 | [a]=>DI _
 |a::b::l=>by
  have:=Ai (b::l)
  unfold cpt
  split
  ·simp only [D4]at*;omega
  ·simp only [D4]at*;omega
theorem Aj:∀(l:List α),(∀n,(h:n+1<l.length)->l[n+1]≠l[n])->cpt l=l
 | [],_=>rfl
 | [a],_=>rfl
 |a::b::l,h=>by
  unfold cpt
  have f:=h 0 zc
  simp only [List.getElem_cons_succ,List.getElem_cons_zero]at f
  rw [if_neg f, Aj (b :: l) (fun n g => by
   have:=h (n+1) (by simp at g⊢;omega)
   simpa using this)]
theorem wC{c:α->α->Int}(hc:Tot c)(j:∀x y,c x y=0->x=y):∀{l:List α},l.Pairwise (fun x y=>c x y<=0)->(cpt l).Pairwise (fun x y=>c x y<0)
 | [],_=>.nil
 | [a],_=>by simp [cpt]
 |a::b::l,h=>by
  unfold cpt
  obtain⟨q,k⟩:=List.pairwise_cons.1 h
  split
  ·exact wC hc j k
  ·rename_i f
   refine List.pairwise_cons.2 ⟨fun y r=>?_,wC hc j k⟩
   have g:=zO.1 r
   have h1:=q y g
   by_cases u:c a y=0
   ·have e:=j _ _ u
    subst e
    rcases List.mem_cons.1 g with e|hm
    ·exact(f e.symm).elim
    ·have C:=(List.pairwise_cons.1 k).1 a hm
     have D:=q b zc
     have:=hc.uV a b
     exact(f (j b a za)).elim
   ·omega
end
noncomputable def vq {α:Type} (eq:α->α->Bool) (s2:Int) (d0:List α):(Int×Int×List α)->Option (gB (Int×Int×List α) (Int×List α)):=fun(j,g,f)=>
 (lenV f.length (0+(s2:Int).toNat) (0+((d0.length:Int):Int).toNat)).bind fun k=>if(decide (g<k))=true then((inV f.length (0+(s2:Int).toNat) (0+((d0.length:Int):Int).toNat) g).bind fun _=>(oc f (((0+(s2:Int).toNat)+(g:Int).toNat:Nat):Int)).bind fun q=>(inV f.length (0+(s2:Int).toNat) (0+((d0.length:Int):Int).toNat) (Fb .i64 (g-(1:Int)))).bind fun _=>(oc f (((0+(s2:Int).toNat)+((Fb .i64 (g-(1:Int))):Int).toNat:Nat):Int)).bind fun r=>if(!(eq q r))=true then((inV f.length (0+(s2:Int).toNat) (0+((d0.length:Int):Int).toNat) g).bind fun _=>(oc f (((0+(s2:Int).toNat)+(g:Int).toNat:Nat):Int)).bind fun u=>(inO f j).bind fun _=>(tO f j u).bind fun C=>some (.next ((Fb .i64 (j+(1:Int))),(Fb .i64 (g+(1:Int))),C)))else(some (.next (j,(Fb .i64 (g+(1:Int))),f))))else(some (.stop (j,f)))
noncomputable def uE {α:Type} (eq:α->α->Bool) (z:α) (d0:List α):Int->Option (gB (Int) ((Unit)⊕(List α))):=fun s2=>
 if(decide (s2<(d0.length:Int)))=true then((inO d0 s2).bind fun _=>(oc d0 s2).bind fun k=>(inO d0 (Fb .i64 (s2-(1:Int)))).bind fun _=>(oc d0 (Fb .i64 (s2-(1:Int)))).bind fun g=>if(eq k g)=true then((vB d0.length s2 (d0.length:Int)).bind fun _=>(cI (vq eq s2 d0) (s2,(1:Int),d0)).bind fun f=>(vB f.2.length f.1 (f.2.length:Int)).bind fun _=>(zI f.2.length (0+(f.1:Int).toNat) (0+((f.2.length:Int):Int).toNat)).bind fun _=>(vB (vG f.2 (0+(f.1:Int).toNat) ((0+((f.2.length:Int):Int).toNat)-(0+(f.1:Int).toNat)) z).length (0:Int) f.1).bind fun _=>(zB (vG f.2 (0+(f.1:Int).toNat) ((0+((f.2.length:Int):Int).toNat)-(0+(f.1:Int).toNat)) z) (0+(0:Int).toNat) (0+(f.1:Int).toNat)).bind fun j=>some (.stop (.inr j)))else(some (.next (Fb .i64 (s2+(1:Int))))))else(some (.stop (.inl ())))
noncomputable def yt {α:Type} (eq:α->α->Bool) (z:α) (d0:List α):Option (List α):=
 if(decide ((d0.length:Int)<(2:Int)))=true then(some d0)else((cI (uE eq z d0) (1:Int)).bind fun f=>match f with| .inl _=>(some d0)| .inr g=>(some g))
theorem rF{α:Type}{l:List α}{n:Nat}(h:n<l.length):l.take (n+1)=l.take n++[l[n]]:=by
 rw [List.take_add_one,zf h];rfl
section
variable {α:Type} [DecidableEq α] {eq:α->α->Bool}(heq:∀x y,eq x y=decide (x=y))
theorem B3{l:List α}{n:Nat}(f:n+1<l.length):cpt (l.take (n+2))=cpt (l.take (n+1))++(if l[n+1]=l[n]'za then []else [l[n+1]]):=by
 rw [rF f,rF (show n<l.length by omega),DK]
 exact BZ _ _ _
include heq
theorem BU{d:List α}{j:Nat}(h1:1<=j)(G:j<d.length)(J:d.length<=4611686018427387904)(g:cpt (d.take (j+1))=d.take j):
  ∃o,cI (vq eq j d) ((j:Int),(1:Int),d)=some o∧∃i:Nat,o.1=(i:Int)∧i<=d.length∧o.2.length=d.length∧o.2.take i=cpt d:=by
 refine xm (fun s:Int×Int×List α=>∃i k:Nat,s.1=(i:Int)∧s.2.1=(k:Int)∧1<=k∧j+k<=d.length∧i+1<=j+k∧s.2.2.length=d.length∧s.2.2.take i=cpt (d.take (j+k))∧∀p,j+k<=p+1->s.2.2[p]? =d[p]?)
  (fun s=>((d.length:Int)-s.2.1).toNat) _ ?_ _ ⟨j,1,rfl,rfl,DI _,G,za,rfl,g.symm,fun p _=>rfl⟩
 rintro⟨s1,s2,l⟩ ⟨i,k,D,e2,hk,H,hi,hl,q,hp⟩
 simp only at D e2 hl q hp
 subst D e2
 have t1:(0+((j:Int)).toNat)=j:=by omega
 have t2:(0+((d.length:Int)).toNat)=d.length:=by omega
 unfold vq
 simp only [t1,t2]
 rw [Df za za]
 simp only [ze]
 by_cases I:j+k<d.length
 ·rw [if_pos so]
  refine .inl ?_
  have r:Fb .i64 ((k:Int)-1)=(k:Int)-1:=w64 za za
  have u:Fb .i64 ((k:Int)+1)=(k:Int)+1:=w64 za za
  have C:Fb .i64 ((i:Int)+1)=(i:Int)+1:=w64 za za
  rw [CO za za za]
  simp only [ze,r,u,C]
  rw [py (i:=j+k) za za,CO za za za,py (i:=j+k-1) za za]
  simp only [ze]
  have g1:l[j+k]'za=d[j+k]:=by
   have:=hp (j+k) za
   rw [zf za,zf za]at this
   exact Option.some.inj this
  have g2:l[j+k-1]'za=d[j+k-1]'za:=by
   have:=hp (j+k-1) za
   rw [zf za,zf za]at this
   exact Option.some.inj this
  have f:=B3 (l:=d) (n:=j+k-1) za
  have E:j+k-1+1=j+k:=by omega
  have F:j+k-1+2=j+k+1:=by omega
  simp only [E,F]at f
  by_cases hc:d[j+k]=d[j+k-1]'za
  ·rw [if_neg (by rw [heq,g1,g2];simp [hc])]
   rw [if_pos hc,Ea]at f
   exact⟨_,rfl,⟨i,k+1,rfl,(by show(k:Int)+1=((k+1:Nat):Int);omega),za,za,za,hl,by rw [q, <-f];rfl,fun p h=>hp p za⟩,(by show((d.length:Int)-((k:Int)+1)).toNat<((d.length:Int)-(k:Int)).toNat;omega)⟩
  ·rw [if_pos (by rw [heq,g1,g2];simp [hc])]
   rw [if_neg hc]at f
   rw [sh za za,wR (i:=i) rfl za]
   simp only [ze]
   refine⟨_,rfl,⟨i+1,k+1,(by show(i:Int)+1=((i+1:Nat):Int);omega),(by show(k:Int)+1=((k+1:Nat):Int);omega),za,za,za,by simpa using hl,?_,fun p h=>?_⟩,(by show((d.length:Int)-((k:Int)+1)).toNat<((d.length:Int)-(k:Int)).toNat;omega)⟩
   ·rw [rF so,List.take_set_of_le (DI _),q]
    rw [show j+(k+1)=j+k+1 by omega,f]
    simp [g1]
   ·simp only
    rw [List.getElem?_set_ne za]
    exact hp p za
 ·rw [if_neg so]
  refine .inr ⟨_,rfl,i,rfl,za,hl,?_⟩
  rw [q,List.take_of_length_le za]
theorem CD{z:α}{d:List α}(J:d.length<=4611686018427387904):yt eq z d=some (cpt d):=by
 unfold yt
 by_cases I:d.length<2
 ·rw [if_pos so]
  match d,I with
  | [],_=>rfl
  | [a],_=>rfl
 rw [if_neg so]
 obtain⟨o,ho,L⟩:=xm (body:=uE eq z d) (fun s:Int=>∃j:Nat,s=(j:Int)∧1<=j∧j<=d.length∧∀n,(h:n+1<j)->(N:j<=d.length)->d[n+1]≠d[n]) (fun s=>((d.length:Int)-s).toNat)
  (fun o => o = .inr (cpt d) ∨ o = .inl () ∧ cpt d = d) (by
   rintro s ⟨j,rfl,K,f,g⟩
   unfold uE
   by_cases q:j<d.length
   ·rw [if_pos so]
    have D:Fb .i64 ((j:Int)-1)=(j:Int)-1:=w64 za za
    have E:Fb .i64 ((j:Int)+1)=(j:Int)+1:=w64 za za
    rw [D,E,sh za za,py (i:=j) rfl q,sh za za,py (i:=j-1) za za]
    simp only [ze]
    by_cases hc:d[j]=d[j-1]'za
    ·rw [if_pos (by rw [heq];simp [hc]),xJ za za za]
     refine .inr ?_
     have r:cpt (d.take (j+1))=d.take j:=by
      have:=B3 (l:=d) (n:=j-1) za
      simp only [show j-1+1=j by omega,show j-1+2=j+1 by omega,hc,if_true,Ea]at this
      rw [this]
      exact Aj _ fun n u=>by
       simp only [List.length_take]at u
       simp only [List.getElem_take]
       exact g n za f
     obtain⟨⟨O,H⟩,ho,i,F,hi,hl,G⟩:=BU heq K q J r
     simp only at F hl G
     subst F
     simp only [ze,ho]
     have t1:(0+((i:Int)).toNat)=i:=by omega
     have t2:(0+((H.length:Int)).toNat)=d.length:=by omega
     have t3:(0+(0:Int).toNat)=0:=rfl
     simp only [t1,t2,t3]
     have k:(vG H i (d.length-i) z).length=d.length:=by
      unfold vG;simp;omega
     rw [xJ za za za,AR za za,xJ za za (by rw [k];omega),yD za (by rw [k];omega)]
     simp only [ze]
     refine⟨_,rfl,.inl ?_⟩
     congr 1
     rw [<-G]
     unfold vG
     rw [List.drop_zero,Nat.sub_zero,DK,List.take_append_of_le_length so,List.take_take,Nat.min_self]
    ·rw [if_neg (by rw [heq];simp [hc])]
     refine .inl ⟨_,rfl,⟨j+1,za,za,za,fun n u _=>?_⟩,za⟩
     by_cases C:n+1<j
     ·exact g n C f
     ·have:n=j-1:=by omega
      subst this
      simp only [show j-1+1=j by omega]
      exact hc
   ·rw [if_neg so]
    refine .inr ⟨_,rfl,.inr ⟨rfl,Aj _ fun n u=>g n za f⟩⟩) 1 ⟨1,rfl,za,za,fun n u=>za⟩
 rw [ho]
 rcases L with rfl|⟨rfl,h⟩
 ·rfl
 ·simp [h]
end
end Go.Dw
