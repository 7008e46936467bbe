
import Derived.Test.YtgdhcacjeppglaaGreatDwPlain
import Derived.Test.YtgdhcacjeppglaaGreatDwLift4

namespace Go.Dw
def Ok{α:Type}(x:Option α)(Q:α->Prop):Prop:=∃a,x=some a∧Q a
namespace Ok
variable {α β:Type}{Q:α->Prop}{P:β->Prop}
theorem ret{a:α}(h:Q a):Ok (some a) Q:=⟨a,rfl,h⟩
theorem of{x:Option α}{a:α}(h:x=some a)(b:Q a):Ok x Q:=⟨a,h,b⟩
theorem bind{x:Option β}{f:β->Option α}(h:Ok x P)(hf:∀b,P b->Ok (f b) Q):Ok (x.bind f) Q:=by
 obtain⟨b,rfl,hb⟩:=h
 exact hf b hb
theorem mono{x:Option β}{a:β->Prop}(h:Ok x P)(e:∀b,P b->a b):Ok x a:=by
 obtain⟨b,hb,c⟩:=h
 exact⟨b,hb,e b c⟩
theorem name{x:Option β}(h:Ok x P):Ok x (fun b=>x=some b∧P b):=by
 obtain⟨b,hb,a⟩:=h
 exact⟨b,hb,hb,a⟩
theorem val{x:Option β}(h:Ok x P){b:β}(hb:x=some b):P b:=by
 obtain⟨c,hc,a⟩:=h
 rw [hb]at hc;cases hc
 exact a
theorem ite{c:Prop} [Decidable c] {x y:Option α}(h1:c->Ok x Q)(a:¬c->Ok y Q):Ok (if c then x else y) Q:=by
 split
 ·exact h1 ‹_›
 ·exact a ‹_›
theorem iteD{p:Prop} [Decidable p] {x y:Option α}(h1:p->Ok x Q)(a:¬p->Ok y Q):Ok (if decide p=true then x else y) Q:=by
 by_cases h:p
 ·rw [if_pos (decide_eq_true h)];exact h1 h
 ·rw [if_neg (by simpa using h)];exact a h
theorem iteE{γ:Type} [BEq γ] [LawfulBEq γ] {a b:γ}{x y:Option α}(h1:a=b->Ok x Q)(c:a≠b->Ok y Q):Ok (if(a==b)=true then x else y) Q:=by
 by_cases h:a=b
 ·rw [if_pos (by simpa using h)];exact h1 h
 ·rw [if_neg (by simpa using h)];exact c h
theorem get{l:List β}{n:Int}(a:0<=n)(h1:n<l.length):Ok (e8 l n) (fun x=>x∈l∧l[n.toNat]? =some x):=by
 refine⟨l[n.toNat]'om,?_,List.getElem_mem _,zc _⟩
 unfold e8
 rw [if_pos a,zc]
theorem isin{l:List β}{n:Int}(a:0<=n)(h1:n<l.length):Ok (inO l n) (fun _=>True):=⟨(),inO_at a h1,trivial⟩
theorem sub{n:Nat}{b a:Int}(c:0<=b)(h1:b<=a)(e:a<=n):Ok (subO n b a) (fun _=>True):=⟨(),subO_at c h1 e,trivial⟩
theorem view{n b a:Nat}(h1:b<=a)(c:a<=n):Ok (viewO n b a) (fun _=>True):=⟨(),viewO_at h1 c,trivial⟩
theorem part{l:List β}{b a:Nat}(h1:b<=a)(c:a<=l.length):Ok (partO l b a) (fun r=>r=(l.drop b).take (a-b)):=⟨_,partO_at h1 c,rfl⟩
theorem set{l:List β}{n:Int}{y:β}(a:0<=n)(h1:n<l.length):Ok (setO l n y) (fun r=>r=l.set n.toNat y):=by
 refine⟨l.set n.toNat y,?_,rfl⟩
 unfold setO
 rw [if_pos ⟨a,h1⟩]
theorem app{l m:List β}{b:Nat}(h:(l.length+m.length)*b<=140737488355328):Ok (gJ l m b) (fun r=>r=l++m):=⟨l++m,by unfold gJ;rw [if_pos h],rfl⟩
theorem cut{l:List β}{a b:Int}(c:0<=a)(h1:a<=b)(e:b<=l.length):Ok (cutO l a b) (fun r=>r=(l.drop a.toNat).take (b.toNat-a.toNat)):=⟨_,by unfold cutO;rw [if_pos ⟨c,h1,e⟩],rfl⟩
theorem rem{x y:Int}(h:y≠0):Ok (remO x y) (fun r=>r=x.tmod y):=⟨_,by unfold remO;rw [if_neg h],rfl⟩
theorem quo{k:IntKind}{x y:Int}(h:y≠0):Ok (quoO k x y) (fun r=>r=k.wrap (x.tdiv y)):=⟨_,by unfold quoO;rw [if_neg h],rfl⟩
theorem mk{n:Int}{z:β}{b:Nat}(a:0<=n)(h1:n.toNat*b<=140737488355328)(c:n.toNat<=140737488355328):Ok (mkO n z b) (fun r=>r=List.replicate n.toNat z):=⟨_,by unfold mkO;rw [if_pos ⟨a,h1,c⟩],rfl⟩
def S{σ ω:Type}(I:σ->Prop)(m:σ->Nat)(Q:ω->Prop)(s:σ):dK σ ω->Prop
 | .next s'=>I s'∧m s'<m s
 | .stop o=>Q o
theorem loop{σ ω:Type}{body:σ->Option (dK σ ω)}{Q:ω->Prop}{s:σ}(I:σ->Prop)(m:σ->Nat)(step:∀s,I s->Ok (body s) (S I m Q s))(h:I s):Ok (dk body s) Q:=by
 refine loop_ind I m Q (fun s b=>?_) s h
 obtain⟨r,h1,a⟩:=step s b
 cases r with
 |next s'=>exact .inl ⟨s',h1,a.1,a.2⟩
 |stop o=>exact .inr ⟨o,h1,a⟩
theorem nx{σ ω:Type}{I:σ->Prop}{m:σ->Nat}{Q:ω->Prop}{s s':σ}(h:I s')(hm:m s'<m s):Ok (some (.next s')) (S I m Q s):=⟨_,rfl,h,hm⟩
theorem st{σ ω:Type}{I:σ->Prop}{m:σ->Nat}{Q:ω->Prop}{s:σ}{o:ω}(h:Q o):Ok (some (.stop o)) (S I m Q s):=⟨_,rfl,h⟩
end Ok
theorem Ok.eq{α:Type}{x:Option α}{a:α}(h:Ok x (fun b=>b=a)):x=some a:=by
 obtain⟨b,h1,c⟩:=h
 rw [h1,c]
end Go.Dw
