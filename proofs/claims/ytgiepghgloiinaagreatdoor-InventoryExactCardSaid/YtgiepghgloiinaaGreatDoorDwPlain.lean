
import Derived.Test.YtgiepghgloiinaaGreatDoorDwLift4
import Derived.IntWalk
import Derived.Sort.Walk0
import Derived.Sort.AssemblyPlain

namespace Go.Dw
theorem kY{σ ω:Type}{body:σ->Option (jY σ ω)}(I:σ->Prop)(m:σ->Nat)(Q:ω->Prop)
  (step:∀s,I s->(∃s',body s=some (.next s')∧I s'∧m s'<m s)∨(∃o,body s=some (.stop o)∧Q o)):∀s,I s->∃o,cI body s=some o∧Q o:=by
 intro s
 generalize i:m s=n
 induction n using Nat.strongRecOn generalizing s with
 |_ n f=>
  intro e
  rcases step s e with⟨s',h1,a,g⟩|⟨o,h1,a⟩
  ·obtain⟨o,b,c⟩:=f (m s') om s' rfl a
   exact⟨o,by rw [kI h1];exact b,c⟩
  ·exact⟨o,kf h1,a⟩
theorem dR{α:Type}{l:List α}{n:Int}{i:Nat}(a:n=i)(hi:i<l.length):jB l n=some l[i]:=by
 subst a
 unfold jB
 rw [if_pos om,Int.toNat_natCast,zc hi]
theorem lY{α:Type}{l:List α}{n:Int}(a:0<=n)(h1:n<l.length):inO l n=some ():=by unfold inO;rw [if_pos ⟨a,h1⟩]
theorem oL{n:Nat}{a hi:Int}(b:0<=a)(h1:a<=hi)(c:hi<=n):oK n a hi=some ():=by unfold oK;rw [if_pos ⟨b,h1,c⟩]
theorem tI{n a hi:Nat}(h1:a<=hi)(b:hi<=n):rX n a hi=some ():=by unfold rX;rw [if_pos ⟨h1,b⟩]
theorem qx{α:Type}{l:List α}{a hi:Nat}(h1:a<=hi)(b:hi<=l.length):pJ l a hi=some ((l.drop a).take (hi-a)):=by unfold pJ;rw [if_pos ⟨h1,b⟩]
theorem uW{α:Type}{l:List α}{n:Int}{i:Nat}{y:α}(a:n=i)(hi:i<l.length):tC l n y=some (l.set i y):=by
 subst a
 unfold tC
 rw [if_pos ⟨om,om⟩,Int.toNat_natCast]
theorem w64{n:Int}(a: -9223372036854775808<=n)(h1:n<=9223372036854775807):IntKind.wrap .i64 n=n:=IntWalk.i64_in _ om
structure Tot{α:Type}(c:α->α->Int):Prop where
 oY:∀x y,c y x= -c x y
 tr:∀x y z,c x y<=0->c y z<=0->c x z<=0
theorem Tot.refl{α:Type}{c:α->α->Int}(h:Tot c)(x:α):c x x=0:=by have:=h.oY x x;omega
theorem Tot.or{α:Type}{c d:α->α->Int}(hc:Tot c)(hd:Tot d):Tot (fun x y=>if c x y≠0 then c x y else d x y):=by
 refine⟨fun x y=>?_,fun x y z h1 a=>?_⟩
 ·have:=hc.oY x y;have:=hd.oY x y
  by_cases h:c x y=0
  ·rw [if_neg om,if_neg om];omega
  ·rw [if_pos om,if_pos h];omega
 ·have a1:c x y<=0:=by split at h1<;>omega
  have a2:c y z<=0:=by split at a<;>omega
  have a3:=hc.tr x y z a1 a2
  by_cases h:c x z=0
  ·rw [if_neg om]
   have b:=hc.tr z x y (by have:=hc.oY x z;omega) a1
   have e:=hc.tr y z x a2 (by have:=hc.oY x z;omega)
   have f:=hc.oY x y;have e2:=hc.oY y z
   rw [if_neg om]at h1;rw [if_neg om]at a
   exact hd.tr x y z h1 a
  ·rw [if_pos h];exact a3
theorem Tot.map{α β:Type}{c:β->β->Int}(h:Tot c)(f:α->β):Tot (fun x y=>c (f x) (f y)):=⟨fun x y=>h.oY _ _,fun x y z=>h.tr _ _ _⟩
theorem Tot.lt{α:Type}{c:α->α->Int}(h:Tot c){x y z:α}(h1:c x y<0)(e:c y z<=0):c x z<0:=by
 have a:=h.tr x y z om e
 by_cases f:c x z=0
 ·have b:=h.tr y z x e (by have:=h.oY x z;omega)
  have:=h.oY x y;omega
 ·omega
theorem Tot.swo{α:Type}{c:α->α->Int}(h:Tot c):Sort.SWO (fun x y=>decide (c x y<0)):=by
 refine⟨fun x=>?_,fun x y z h1 a=>?_,fun x y z h1 a=>?_⟩
 ·have:=h.refl x;simp;omega
 ·simp only [decide_eq_true_eq]at*
  exact h.lt h1 om
 ·simp only [decide_eq_false_iff_not]at*
  have:=h.tr z y x (by have:=h.oY y z;omega) (by have:=h.oY x y;omega)
  have:=h.oY x z;omega
def ly(a b:List UInt8):Int:=if Op.bytesLess a b=true then-1 else if a=b then 0 else 1
theorem pg(a:List UInt8):Op.bytesLess a a=false:=by rw [Proofs.bytesLess_eq];simp
theorem vA{a b:List UInt8}(h:Op.bytesLess a b=true):Op.bytesLess b a=false:=by
 rw [Proofs.bytesLess_eq]at*;simp only [decide_eq_true_eq,decide_eq_false_iff_not]at*
 exact List.lt_asymm h
theorem bl_trans{a b c:List UInt8}(h:Op.bytesLess a b=true)(e:Op.bytesLess b c=true):Op.bytesLess a c=true:=by
 rw [Proofs.bytesLess_eq]at*;simp only [decide_eq_true_eq]at*
 exact List.lt_trans h e
theorem ss{a b:List UInt8}(h:Op.bytesLess a b=false)(c:Op.bytesLess b a=false):a=b:=by
 rw [Proofs.bytesLess_eq]at*;simp only [decide_eq_false_iff_not,List.not_lt]at*
 exact List.le_antisymm c h
theorem pk{a b:List UInt8}:ly a b=0↔a=b:=by
 unfold ly
 constructor
 ·intro h;split at h
  ·omega
  ·split at h
   ·assumption
   ·omega
 ·rintro rfl;rw [pg];simp
theorem vC{a b:List UInt8}:ly a b<0↔Op.bytesLess a b=true:=by
 unfold ly
 split
 ·simp [*]
 ·rename_i h;split<;>simp only [h]<;>simp
theorem cmpB_le{a b:List UInt8}:ly a b<=0↔Op.bytesLess b a=false:=by
 constructor
 ·intro h
  rcases Int.lt_or_eq_of_le h with h|h
  ·exact vA (vC.1 h)
  ·rw [pk]at h;subst h;exact pg a
 ·intro h
  cases c:Op.bytesLess a b with
  |true=>have:=vC.2 c;omega
  |false=>have:=ss c h;subst this;rw [pk.2 rfl];omega
theorem nd:Tot ly:=by
 refine⟨fun x y=>?_,fun x y z h1 a=>?_⟩
 ·unfold ly
  cases h:Op.bytesLess x y with
  |true=>
   have a:=vA h
   have b:y≠x:=by rintro rfl;rw [pg]at h;cases h
   simp [a,b]
  |false=>
   cases a:Op.bytesLess y x with
   |true=>
    have b:x≠y:=by rintro rfl;rw [pg]at a;cases a
    simp [b]
   |false=>have:=ss h a;subst this;simp
 ·rw [cmpB_le]at*
  cases h:Op.bytesLess z x with
  |false=>rfl
  |true=>
   cases c:Op.bytesLess y z with
   |true=>have:=bl_trans c h;rw [h1]at this;cases this
   |false=>have:=ss c a;subst this;rw [h1]at h;cases h
def cmpI(a b:Int):Int:=if a<b then-1 else if a>b then 1 else 0
theorem cmpI_tot:Tot cmpI:=by
 refine⟨fun x y=>?_,fun x y z h1 a=>?_⟩<;>unfold cmpI at* <;>(repeat' split at*)<;>omega
section
variable {α:Type} [DecidableEq α]
end
theorem kK{α:Type}{l:List α}{n:Nat}(h:n<l.length):l.take (n+1)=l.take n++[l[n]]:=by
 rw [List.take_add_one,zc h];rfl
section
variable {α:Type} [DecidableEq α] {eq:α->α->Bool}(heq:∀x y,eq x y=decide (x=y))
include heq
end
end Go.Dw
