
import Derived.Test.YthadlbjoiidkjaaGreatDoorDwPlain
import Derived.Test.YthadlbjoiidkjaaGreatDoorDwLift4

namespace Go.Dw
def Ok{α:Type}(x:Option α)(Q:α->Prop):Prop:=∃a,x=some a∧Q a
namespace Ok
variable {α β:Type}{Q:α->Prop}{P:β->Prop}
theorem ret{a:α}(h:Q a):Ok (some a) Q:=⟨a,rfl,h⟩
theorem of{x:Option α}{a:α}(h:x=some a)(hq:Q a):Ok x Q:=⟨a,h,hq⟩
theorem bind{x:Option β}{f:β->Option α}(h:Ok x P)(hf:∀b,P b->Ok (f b) Q):Ok (x.bind f) Q:=by
 obtain⟨b,rfl,hb⟩:=h
 exact hf b hb
theorem mono{x:Option β}{P':β->Prop}(h:Ok x P)(hq:∀b,P b->P' b):Ok x P':=by
 obtain⟨b,hb,hp⟩:=h
 exact⟨b,hb,hq b hp⟩
theorem both{x:Option β}{P':β->Prop}(h:Ok x P)(h':Ok x P'):Ok x (fun b=>P b∧P' b):=by
 obtain⟨b,hb,hp⟩:=h
 obtain⟨c,hc,hp'⟩:=h'
 rw [hb]at hc;cases hc
 exact⟨b,hb,hp,hp'⟩
theorem name{x:Option β}(h:Ok x P):Ok x (fun b=>x=some b∧P b):=by
 obtain⟨b,hb,hp⟩:=h
 exact⟨b,hb,hb,hp⟩
theorem val{x:Option β}(h:Ok x P){b:β}(hb:x=some b):P b:=by
 obtain⟨c,hc,hp⟩:=h
 rw [hb]at hc;cases hc
 exact hp
theorem ite{c:Prop} [Decidable c] {x y:Option α}(h1:c->Ok x Q)(h2:¬c->Ok y Q):Ok (if c then x else y) Q:=by
 split
 ·exact h1 ‹_›
 ·exact h2 ‹_›
theorem jZ{p:Prop} [Decidable p] {x y:Option α}(h1:p->Ok x Q)(h2:¬p->Ok y Q):Ok (if decide p=true then x else y) Q:=by
 by_cases h:p
 ·rw [if_pos (decide_eq_true h)];exact h1 h
 ·rw [if_neg (by simpa using h)];exact h2 h
theorem iteB{b:Bool}{x y:Option α}(h1:b=true->Ok x Q)(h2:b=false->Ok y Q):Ok (if b=true then x else y) Q:=by
 cases b
 ·exact h2 rfl
 ·exact h1 rfl
theorem iteN{b:Bool}{x y:Option α}(h1:b=false->Ok x Q)(h2:b=true->Ok y Q):Ok (if(!b)=true then x else y) Q:=by
 cases b
 ·exact h1 rfl
 ·exact h2 rfl
theorem iteE{γ:Type} [BEq γ] [LawfulBEq γ] {a b:γ}{x y:Option α}(h1:a=b->Ok x Q)(h2:a≠b->Ok y Q):Ok (if(a==b)=true then x else y) Q:=by
 by_cases h:a=b
 ·rw [if_pos (by simpa using h)];exact h1 h
 ·rw [if_neg (by simpa using h)];exact h2 h
theorem iteNe{γ:Type} [BEq γ] [LawfulBEq γ] {a b:γ}{x y:Option α}(h1:a≠b->Ok x Q)(h2:a=b->Ok y Q):Ok (if(a != b)=true then x else y) Q:=by
 by_cases h:a=b
 ·rw [if_neg (by simpa using h)];exact h2 h
 ·rw [if_pos (by simpa using h)];exact h1 h
theorem get{l:List β}{n:Int}(h0:0<=n)(h1:n<l.length):Ok (ja l n) (fun x=>x∈l∧l[n.toNat]? =some x):=by
 refine⟨l[n.toNat]'om,?_,List.getElem_mem _,zc _⟩
 unfold ja
 rw [if_pos h0,zc]
theorem isin{l:List β}{n:Int}(h0:0<=n)(h1:n<l.length):Ok (inO l n) (fun _=>True):=⟨(),kT h0 h1,trivial⟩
theorem sub{n:Nat}{lo hi:Int}(h0:0<=lo)(h1:lo<=hi)(h2:hi<=n):Ok (subO n lo hi) (fun _=>True):=⟨(),rH h0 h1 h2,trivial⟩
theorem inv{n lo hi:Nat}{i:Int}(h0:0<=i)(h1:i<(hi:Int)-lo)(h2:hi<=n):Ok (inV n lo hi i) (fun _=>True):=⟨(),inV_at h0 h1 h2,trivial⟩
theorem view{n lo hi:Nat}(h1:lo<=hi)(h2:hi<=n):Ok (qP n lo hi) (fun _=>True):=⟨(),tc h1 h2,trivial⟩
theorem part{l:List β}{lo hi:Nat}(h1:lo<=hi)(h2:hi<=l.length):Ok (p6 l lo hi) (fun r=>r=(l.drop lo).take (hi-lo)):=⟨_,sx h1 h2,rfl⟩
theorem set{l:List β}{n:Int}{y:β}(h0:0<=n)(h1:n<l.length):Ok (ny l n y) (fun r=>r=l.set n.toNat y):=by
 refine⟨l.set n.toNat y,?_,rfl⟩
 unfold ny
 rw [if_pos ⟨h0,h1⟩]
theorem app{l m:List β}{b:Nat}(h:(l.length+m.length)*b<=140737488355328):Ok (lh l m b) (fun r=>r=l++m):=⟨l++m,by unfold lh;rw [if_pos h],rfl⟩
theorem cut{l:List β}{a b:Int}(h0:0<=a)(h1:a<=b)(h2:b<=l.length):Ok (cutO l a b) (fun r=>r=(l.drop a.toNat).take (b.toNat-a.toNat)):=⟨_,by unfold cutO;rw [if_pos ⟨h0,h1,h2⟩],rfl⟩
theorem rem{x y:Int}(h:y≠0):Ok (remO x y) (fun r=>r=x.tmod y):=⟨_,by unfold remO;rw [if_neg h],rfl⟩
theorem quo{k:IntKind}{x y:Int}(h:y≠0):Ok (quoO k x y) (fun r=>r=k.wrap (x.tdiv y)):=⟨_,by unfold quoO;rw [if_neg h],rfl⟩
theorem mk{n:Int}{z:β}{b:Nat}(h0:0<=n)(h1:n.toNat*b<=140737488355328)(h2:n.toNat<=140737488355328):Ok (mkO n z b) (fun r=>r=List.replicate n.toNat z):=⟨_,by unfold mkO;rw [if_pos ⟨h0,h1,h2⟩],rfl⟩
theorem mkz{n:Int}{z:β}{b:Nat}(h0:0<n)(h1:n.toNat*b<=140737488355328)(h2:n.toNat<=140737488355328):Ok (mkZ n z b) (fun r=>r=List.replicate n.toNat z):=⟨_,by unfold mkZ;rw [if_pos ⟨h0,h1,h2⟩],rfl⟩
def S{σ ω:Type}(I:σ->Prop)(m:σ->Nat)(Q:ω->Prop)(s:σ):iN σ ω->Prop
 | .next s'=>I s'∧m s'<m s
 | .stop o=>Q o
theorem loop{σ ω:Type}{body:σ->Option (iN σ ω)}{Q:ω->Prop}{s:σ}(I:σ->Prop)(m:σ->Nat)(step:∀s,I s->Ok (body s) (S I m Q s))(h:I s):Ok (fq body s) Q:=by
 refine loop_ind I m Q (fun s hs=>?_) s h
 obtain⟨r,h1,h2⟩:=step s hs
 cases r with
 |next s'=>exact .inl ⟨s',h1,h2.1,h2.2⟩
 |stop o=>exact .inr ⟨o,h1,h2⟩
theorem nx{σ ω:Type}{I:σ->Prop}{m:σ->Nat}{Q:ω->Prop}{s s':σ}(h:I s')(hm:m s'<m s):Ok (some (.next s')) (S I m Q s):=⟨_,rfl,h,hm⟩
theorem st{σ ω:Type}{I:σ->Prop}{m:σ->Nat}{Q:ω->Prop}{s:σ}{o:ω}(h:Q o):Ok (some (.stop o)) (S I m Q s):=⟨_,rfl,h⟩
theorem upto{ω:Type}{body:Int->Option (iN Int ω)}{Q:ω->Prop}(n:Int)(hn:0<=n)(J:Int->Prop)(h0:J 0)
  (step:∀i,0<=i->i<=n->J i->Ok (body i) (S (fun i=>(0<=i∧i<=n)∧J i) (fun i=>(n-i).toNat) Q i)):Ok (fq body (0:Int)) Q:=
 loop (fun i=>(0<=i∧i<=n)∧J i) (fun i=>(n-i).toNat) (fun i h=>step i h.1.1 h.1.2 h.2) ⟨⟨Int.le_refl _,hn⟩,h0⟩
end Ok
theorem Ok.eq{α:Type}{x:Option α}{a:α}(h:Ok x (fun b=>b=a)):x=some a:=by
 obtain⟨b,h1,h2⟩:=h
 rw [h1,h2]
end Go.Dw
