
import Derived.Test.YtfmoipelhfkdkaaGreatDoorDwPlain
import Derived.Test.YtfmoipelhfkdkaaGreatDoorDwLift4

namespace Go.Dw
def Ok{α:Type}(x:Option α)(Q:α->Prop):Prop:=∃a,x=some a∧Q a
namespace Ok
variable {α β:Type}{Q:α->Prop}{P:β->Prop}
theorem ret{a:α}(h:Q a):Ok (some a) Q:=⟨a,rfl,h⟩
theorem of{x:Option α}{a:α}(h:x=some a)(f:Q a):Ok x Q:=⟨a,h,f⟩
theorem bind{x:Option β}{f:β->Option α}(h:Ok x P)(hf:∀b,P b->Ok (f b) Q):Ok (x.bind f) Q:=by
 obtain⟨b,rfl,g⟩:=h
 exact hf b g
theorem mono{x:Option β}{f:β->Prop}(h:Ok x P)(j:∀b,P b->f b):Ok x f:=by
 obtain⟨b,g,hp⟩:=h
 exact⟨b,g,j b hp⟩
theorem both{x:Option β}{g:β->Prop}(h:Ok x P)(k:Ok x g):Ok x (fun b=>P b∧g b):=by
 obtain⟨b,j,hp⟩:=h
 obtain⟨c,hc,f⟩:=k
 rw [j]at hc;cases hc
 exact⟨b,j,hp,f⟩
theorem name{x:Option β}(h:Ok x P):Ok x (fun b=>x=some b∧P b):=by
 obtain⟨b,f,hp⟩:=h
 exact⟨b,f,f,hp⟩
theorem val{x:Option β}(h:Ok x P){b:β}(f:x=some b):P b:=by
 obtain⟨c,hc,hp⟩:=h
 rw [f]at hc;cases hc
 exact hp
theorem ite{c:Prop} [Decidable c] {x y:Option α}(h1:c->Ok x Q)(f:¬c->Ok y Q):Ok (if c then x else y) Q:=by
 split
 ·exact h1 ‹_›
 ·exact f ‹_›
theorem pz{p:Prop} [Decidable p] {x y:Option α}(h1:p->Ok x Q)(f:¬p->Ok y Q):Ok (if decide p=true then x else y) Q:=by
 by_cases h:p
 ·rw [if_pos (decide_eq_true h)];exact h1 h
 ·rw [if_neg (by simpa using h)];exact f h
theorem iteND{p:Prop} [Decidable p] {x y:Option α}(h1:¬p->Ok x Q)(f:p->Ok y Q):Ok (if(!decide p)=true then x else y) Q:=by
 by_cases h:p
 ·rw [if_neg (by simpa using h)];exact f h
 ·rw [if_pos (by simpa using h)];exact h1 h
theorem zL{b:Bool}{x y:Option α}(h1:b=true->Ok x Q)(f:b=false->Ok y Q):Ok (if b=true then x else y) Q:=by
 cases b
 ·exact f rfl
 ·exact h1 rfl
theorem w4{b:Bool}{x y:Option α}(h1:b=false->Ok x Q)(f:b=true->Ok y Q):Ok (if(!b)=true then x else y) Q:=by
 cases b
 ·exact h1 rfl
 ·exact f rfl
theorem tA{γ:Type} [BEq γ] [LawfulBEq γ] {a b:γ}{x y:Option α}(h1:a=b->Ok x Q)(f:a≠b->Ok y Q):Ok (if(a==b)=true then x else y) Q:=by
 by_cases h:a=b
 ·rw [if_pos (by simpa using h)];exact h1 h
 ·rw [if_neg (by simpa using h)];exact f h
theorem tk{γ:Type} [BEq γ] [LawfulBEq γ] {a b:γ}{x y:Option α}(h1:a≠b->Ok x Q)(f:a=b->Ok y Q):Ok (if(a != b)=true then x else y) Q:=by
 by_cases h:a=b
 ·rw [if_neg (by simpa using h)];exact f h
 ·rw [if_pos (by simpa using h)];exact h1 h
theorem get{l:List β}{n:Int}(f:0<=n)(h1:n<l.length):Ok (oc l n) (fun x=>x∈l∧l[n.toNat]? =some x):=by
 refine⟨l[n.toNat]'za,?_,List.getElem_mem _,zf _⟩
 unfold oc
 rw [if_pos f,zf]
theorem tG{l:List β}{n:Int}(f:0<=n)(h1:n<l.length):Ok (inO l n) (fun _=>True):=⟨(),sh f h1,trivial⟩
theorem sub{n:Nat}{lo hi:Int}(f:0<=lo)(h1:lo<=hi)(g:hi<=n):Ok (vB n lo hi) (fun _=>True):=⟨(),xJ f h1 g,trivial⟩
theorem inv{n lo hi:Nat}{i:Int}(f:0<=i)(h1:i<(hi:Int)-lo)(g:hi<=n):Ok (inV n lo hi i) (fun _=>True):=⟨(),CO f h1 g,trivial⟩
theorem lenv{n lo hi:Nat}(h1:lo<=hi)(f:hi<=n):Ok (lenV n lo hi) (fun x=>x=(hi:Int)-lo):=⟨_,Df h1 f,rfl⟩
theorem view{n lo hi:Nat}(h1:lo<=hi)(f:hi<=n):Ok (zI n lo hi) (fun _=>True):=⟨(),AR h1 f,trivial⟩
theorem part{l:List β}{lo hi:Nat}(h1:lo<=hi)(f:hi<=l.length):Ok (zB l lo hi) (fun r=>r=(l.drop lo).take (hi-lo)):=⟨_,yD h1 f,rfl⟩
theorem set{l:List β}{n:Int}{y:β}(f:0<=n)(h1:n<l.length):Ok (tO l n y) (fun r=>r=l.set n.toNat y):=by
 refine⟨l.set n.toNat y,?_,rfl⟩
 unfold tO
 rw [if_pos ⟨f,h1⟩]
theorem mod{l:List β}{n:Int}{f:β->β}(g:0<=n)(h1:n<l.length):Ok (xL l n f) (fun r=>∃x,l[n.toNat]? =some x∧r=l.set n.toNat (f x)):=by
 unfold xL
 rw [if_pos g,zf (by omega:n.toNat<l.length)]
 exact⟨_,rfl,_,rfl,rfl⟩
theorem app{l m:List β}{b:Nat}(h:(l.length+m.length)*b<=140737488355328):Ok (rR l m b) (fun r=>r=l++m):=⟨l++m,by unfold rR;rw [if_pos h],rfl⟩
theorem cut{l:List β}{a b:Int}(f:0<=a)(h1:a<=b)(g:b<=l.length):Ok (zK l a b) (fun r=>r=(l.drop a.toNat).take (b.toNat-a.toNat)):=⟨_,by unfold zK;rw [if_pos ⟨f,h1,g⟩],rfl⟩
theorem rem{x y:Int}(h:y≠0):Ok (w5 x y) (fun r=>r=x.tmod y):=⟨_,by unfold w5;rw [if_neg h],rfl⟩
theorem quo{k:IntKind}{x y:Int}(h:y≠0):Ok (tI k x y) (fun r=>r=k.wrap (x.tdiv y)):=⟨_,by unfold tI;rw [if_neg h],rfl⟩
theorem mk{n:Int}{z:β}{b:Nat}(f:0<=n)(h1:n.toNat*b<=140737488355328)(g:n.toNat<=140737488355328):Ok (mkO n z b) (fun r=>r=List.replicate n.toNat z):=⟨_,by unfold mkO;rw [if_pos ⟨f,h1,g⟩],rfl⟩
theorem mkC{n m:Int}{z:β}{b:Nat}(j:n<=m)(f:0<=n)(h1:m.toNat*b<=140737488355328)(g:m.toNat<=140737488355328):Ok (AF n m z b) (fun r=>r=List.replicate n.toNat z):=⟨_,by unfold AF;rw [if_pos ⟨j,f,h1,g⟩],rfl⟩
theorem byte{s:List UInt8}{n:Int}(f:0<=n)(h1:n<s.length):Ok (wW s n) (fun c=>∃b,s[n.toNat]? =some b∧c=((b.toNat:Nat):Int)):=by
 refine⟨_,by unfold wW;rw [if_pos ⟨f,h1⟩],s[n.toNat]'za,zf _,?_⟩
 rw [List.getD_eq_getElem?_getD,zf (by omega:n.toNat<s.length)];rfl
def S{σ ω:Type}(I:σ->Prop)(m:σ->Nat)(Q:ω->Prop)(s:σ):gB σ ω->Prop
 | .next s'=>I s'∧m s'<m s
 | .stop o=>Q o
theorem loop{σ ω:Type}{body:σ->Option (gB σ ω)}{Q:ω->Prop}{s:σ}(I:σ->Prop)(m:σ->Nat)(step:∀s,I s->Ok (body s) (S I m Q s))(h:I s):Ok (cI body s) Q:=by
 refine xm I m Q (fun s hs=>?_) s h
 obtain⟨r,h1,f⟩:=step s hs
 cases r with
 |next s'=>exact .inl ⟨s',h1,f.1,f.2⟩
 |stop o=>exact .inr ⟨o,h1,f⟩
theorem nx{σ ω:Type}{I:σ->Prop}{m:σ->Nat}{Q:ω->Prop}{s s':σ}(h:I s')(hm:m s'<m s):Ok (some (.next s')) (S I m Q s):=⟨_,rfl,h,hm⟩
theorem st{σ ω:Type}{I:σ->Prop}{m:σ->Nat}{Q:ω->Prop}{s:σ}{o:ω}(h:Q o):Ok (some (.stop o)) (S I m Q s):=⟨_,rfl,h⟩
theorem upto{ω:Type}{body:Int->Option (gB Int ω)}{Q:ω->Prop}(n:Int)(g:0<=n)(J:Int->Prop)(f:J 0)
  (step:∀i,0<=i->i<=n->J i->Ok (body i) (S (fun i=>(0<=i∧i<=n)∧J i) (fun i=>(n-i).toNat) Q i)):Ok (cI body (0:Int)) Q:=
 loop (fun i=>(0<=i∧i<=n)∧J i) (fun i=>(n-i).toNat) (fun i h=>step i h.1.1 h.1.2 h.2) ⟨⟨Int.le_refl _,g⟩,f⟩
end Ok
theorem Ok.eq{α:Type}{x:Option α}{a:α}(h:Ok x (fun b=>b=a)):x=some a:=by
 obtain⟨b,h1,f⟩:=h
 rw [h1,f]
end Go.Dw
