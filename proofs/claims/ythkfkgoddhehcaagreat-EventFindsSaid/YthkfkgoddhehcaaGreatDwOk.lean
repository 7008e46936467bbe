
import Derived.Test.YthkfkgoddhehcaaGreatDwPlain
import Derived.Test.YthkfkgoddhehcaaGreatDwLift4

namespace Go.Dw
def Ok{α:Type}(x:Option α)(Q:α->Prop):Prop:=∃a,x=some a∧Q a
namespace Ok
variable {α β:Type}{Q:α->Prop}{P:β->Prop}
theorem ret{a:α}(h:Q a):Ok (some a) Q:=⟨a,rfl,h⟩
theorem of{x:Option α}{a:α}(h:x=some a)(c:Q a):Ok x Q:=⟨a,h,c⟩
theorem bind{x:Option β}{f:β->Option α}(h:Ok x P)(hf:∀b,P b->Ok (f b) Q):Ok (x.bind f) Q:=by
 obtain⟨b,rfl,a⟩:=h
 exact hf b a
theorem mono{x:Option β}{a:β->Prop}(h:Ok x P)(f:∀b,P b->a b):Ok x a:=by
 obtain⟨b,c,hp⟩:=h
 exact⟨b,c,f b hp⟩
theorem both{x:Option β}{f:β->Prop}(h:Ok x P)(j:Ok x f):Ok x (λb=>P b∧f b):=by
 obtain⟨b,g,hp⟩:=h
 obtain⟨c,hc,a⟩:=j
 rw [g]at hc;cases hc
 exact⟨b,g,hp,a⟩
theorem name{x:Option β}(h:Ok x P):Ok x (λb=>x=some b∧P b):=by
 obtain⟨b,a,hp⟩:=h
 exact⟨b,a,a,hp⟩
theorem val{x:Option β}(h:Ok x P){b:β}(a:x=some b):P b:=by
 obtain⟨c,hc,hp⟩:=h
 rw [a]at hc;cases hc
 exact hp
theorem tA{p:Prop} [Decidable p] {x y:Option α}(h1:p->Ok x Q)(a:¬p->Ok y Q):Ok (if decide p=true then x else y) Q:=by
 by_cases h:p
 ·rw [if_pos (decide_eq_true h)];exact h1 h
 ·rw [if_neg (by simpa using h)];exact a h
theorem iteND{p:Prop} [Decidable p] {x y:Option α}(h1:¬p->Ok x Q)(a:p->Ok y Q):Ok (if(!decide p)=true then x else y) Q:=by
 by_cases h:p
 ·rw [if_neg (by simpa using h)];exact a h
 ·rw [if_pos (by simpa using h)];exact h1 h
theorem iteB{b:Bool}{x y:Option α}(h1:b=true->Ok x Q)(a:b=false->Ok y Q):Ok (if b=true then x else y) Q:=by
 cases b
 ·exact a rfl
 ·exact h1 rfl
theorem yw{b:Bool}{x y:Option α}(h1:b=false->Ok x Q)(a:b=true->Ok y Q):Ok (if(!b)=true then x else y) Q:=by
 cases b
 ·exact h1 rfl
 ·exact a rfl
theorem vg{γ:Type} [BEq γ] [LawfulBEq γ] {a b:γ}{x y:Option α}(h1:a=b->Ok x Q)(c:a≠b->Ok y Q):Ok (if(a==b)=true then x else y) Q:=by
 by_cases h:a=b
 ·rw [if_pos (by simpa using h)];exact h1 h
 ·rw [if_neg (by simpa using h)];exact c h
theorem CT{γ:Type} [BEq γ] [LawfulBEq γ] {a b:γ}{x y:Option α}(h1:a≠b->Ok x Q)(c:a=b->Ok y Q):Ok (if(a != b)=true then x else y) Q:=by
 by_cases h:a=b
 ·rw [if_neg (by simpa using h)];exact c h
 ·rw [if_pos (by simpa using h)];exact h1 h
theorem get{l:List β}{n:Int}(a:0<=n)(h1:n<l.length):Ok (py l n) (λx=>x∈l∧l[n.toNat]? =some x):=by
 refine⟨l[n.toNat]'za,?_,List.getElem_mem _,ze _⟩
 unfold py
 rw [if_pos a,ze]
theorem w8{l:List β}{n:Int}(a:0<=n)(h1:n<l.length):Ok (inO l n) (λ_=>True):=⟨(),tN a h1,trivial⟩
theorem sub{n:Nat}{lo hi:Int}(a:0<=lo)(h1:lo<=hi)(c:hi<=n):Ok (wQ n lo hi) (λ_=>True):=⟨(),wq a h1 c,trivial⟩
theorem inv{n lo hi:Nat}{i:Int}(a:0<=i)(h1:i<(hi:Int)-lo)(c:hi<=n):Ok (inV n lo hi i) (λ_=>True):=⟨(),Ci a h1 c,trivial⟩
theorem view{n lo hi:Nat}(h1:lo<=hi)(a:hi<=n):Ok (yK n lo hi) (λ_=>True):=⟨(),yL h1 a,trivial⟩
theorem part{l:List β}{lo hi:Nat}(h1:lo<=hi)(a:hi<=l.length):Ok (xg l lo hi) (λr=>r=(l.drop lo).take (hi-lo)):=⟨_,yE h1 a,rfl⟩
theorem set{l:List β}{n:Int}{y:β}(a:0<=n)(h1:n<l.length):Ok (vd l n y) (λr=>r=l.set n.toNat y):=by
 refine⟨l.set n.toNat y,?_,rfl⟩
 unfold vd
 rw [if_pos ⟨a,h1⟩]
theorem mod{l:List β}{n:Int}{f:β->β}(a:0<=n)(h1:n<l.length):Ok (yh l n f) (λr=>∃x,l[n.toNat]? =some x∧r=l.set n.toNat (f x)):=by
 unfold yh
 rw [if_pos a,ze (by omega:n.toNat<l.length)]
 exact⟨_,rfl,_,rfl,rfl⟩
theorem app{l m:List β}{b:Nat}(h:(l.length+m.length)*b<=140737488355328):Ok (tE l m b) (λr=>r=l++m):=⟨l++m,by unfold tE;rw [if_pos h],rfl⟩
theorem cut{l:List β}{a b:Int}(c:0<=a)(h1:a<=b)(f:b<=l.length):Ok (w6 l a b) (λr=>r=(l.drop a.toNat).take (b.toNat-a.toNat)):=⟨_,by unfold w6;rw [if_pos ⟨c,h1,f⟩],rfl⟩
theorem rem{x y:Int}(h:y≠0):Ok (wO x y) (λr=>r=x.tmod y):=⟨_,by unfold wO;rw [if_neg h],rfl⟩
theorem quo{k:IntKind}{x y:Int}(h:y≠0):Ok (um k x y) (λr=>r=k.wrap (x.tdiv y)):=⟨_,by unfold um;rw [if_neg h],rfl⟩
theorem mk{n:Int}{z:β}{b:Nat}(a:0<=n)(h1:n.toNat*b<=140737488355328)(c:n.toNat<=140737488355328):Ok (mkO n z b) (λr=>r=List.replicate n.toNat z):=⟨_,by unfold mkO;rw [if_pos ⟨a,h1,c⟩],rfl⟩
theorem mkC{n m:Int}{z:β}{b:Nat}(f:n<=m)(a:0<=n)(h1:m.toNat*b<=140737488355328)(c:m.toNat<=140737488355328):Ok (zr n m z b) (λr=>r=List.replicate n.toNat z):=⟨_,by unfold zr;rw [if_pos ⟨f,a,h1,c⟩],rfl⟩
theorem byte{s:List UInt8}{n:Int}(a:0<=n)(h1:n<s.length):Ok (wb s n) (λc=>∃b,s[n.toNat]? =some b∧c=((b.toNat:Nat):Int)):=by
 refine⟨_,by unfold wb;rw [if_pos ⟨a,h1⟩],s[n.toNat]'za,ze _,?_⟩
 rw [List.getD_eq_getElem?_getD,ze (by omega:n.toNat<s.length)];rfl
def S{σ ω:Type}(I:σ->Prop)(m:σ->Nat)(Q:ω->Prop)(s:σ):pH σ ω->Prop
 | .next s'=>I s'∧m s'<m s
 | .stop o=>Q o
theorem loop{σ ω:Type}{body:σ->Option (pH σ ω)}{Q:ω->Prop}{s:σ}(I:σ->Prop)(m:σ->Nat)(step:∀s,I s->Ok (body s) (S I m Q s))(h:I s):Ok (cI body s) Q:=by
 refine wi I m Q (λs hs=>?_) s h
 obtain⟨r,h1,a⟩:=step s hs
 cases r with
 |next s'=>exact .inl ⟨s',h1,a.1,a.2⟩
 |stop o=>exact .inr ⟨o,h1,a⟩
theorem nx{σ ω:Type}{I:σ->Prop}{m:σ->Nat}{Q:ω->Prop}{s s':σ}(h:I s')(hm:m s'<m s):Ok (some (.next s')) (S I m Q s):=⟨_,rfl,h,hm⟩
theorem st{σ ω:Type}{I:σ->Prop}{m:σ->Nat}{Q:ω->Prop}{s:σ}{o:ω}(h:Q o):Ok (some (.stop o)) (S I m Q s):=⟨_,rfl,h⟩
theorem upto{ω:Type}{body:Int->Option (pH Int ω)}{Q:ω->Prop}(n:Int)(c:0<=n)(J:Int->Prop)(a:J 0)
  (step:∀i,0<=i->i<=n->J i->Ok (body i) (S (λi=>(0<=i∧i<=n)∧J i) (λi=>(n-i).toNat) Q i)):Ok (cI body (0:Int)) Q:=
 loop (λi=>(0<=i∧i<=n)∧J i) (λi=>(n-i).toNat) (λi h=>step i h.1.1 h.1.2 h.2) ⟨⟨Int.le_refl _,c⟩,a⟩
end Ok
theorem Ok.eq{α:Type}{x:Option α}{a:α}(h:Ok x (λb=>b=a)):x=some a:=by
 obtain⟨b,h1,c⟩:=h
 rw [h1,c]
end Go.Dw
