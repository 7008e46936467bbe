
import Derived.Test.YtgiepghgloiinaaGreatDoorDwPlain
import Derived.Test.YtgiepghgloiinaaGreatDoorDwLift4

namespace Go.Dw
def Ok{α:Type}(x:Option α)(Q:α->Prop):Prop:=∃a,x=some a∧Q a
namespace Ok
variable {α β:Type}{Q:α->Prop}{P:β->Prop}
theorem ret{a:α}(h:Q a):Ok (some a) Q:=⟨a,rfl,h⟩
theorem of{x:Option α}{a:α}(h:x=some a)(b:Q a):Ok x Q:=⟨a,h,b⟩
theorem bind{x:Option β}{f:β->Option α}(h:Ok x P)(hf:∀b,P b->Ok (f b) Q):Ok (x.bind f) Q:=by
 obtain⟨b,rfl,hb⟩:=h
 exact hf b hb
theorem mono{x:Option β}{a:β->Prop}(h:Ok x P)(e:∀b,P b->a b):Ok x a:=by
 obtain⟨b,hb,c⟩:=h
 exact⟨b,hb,e b c⟩
theorem name{x:Option β}(h:Ok x P):Ok x (fun b=>x=some b∧P b):=by
 obtain⟨b,hb,a⟩:=h
 exact⟨b,hb,hb,a⟩
theorem val{x:Option β}(h:Ok x P){b:β}(hb:x=some b):P b:=by
 obtain⟨c,hc,a⟩:=h
 rw [hb]at hc;cases hc
 exact a
theorem ite{c:Prop} [Decidable c] {x y:Option α}(h1:c->Ok x Q)(a:¬c->Ok y Q):Ok (if c then x else y) Q:=by
 split
 ·exact h1 ‹_›
 ·exact a ‹_›
theorem get{l:List β}{n:Int}(a:0<=n)(h1:n<l.length):Ok (jB l n) (fun x=>x∈l∧l[n.toNat]? =some x):=by
 refine⟨l[n.toNat]'om,?_,List.getElem_mem _,zc _⟩
 unfold jB
 rw [if_pos a,zc]
theorem sub{n:Nat}{a hi:Int}(b:0<=a)(h1:a<=hi)(c:hi<=n):Ok (oK n a hi) (fun _=>True):=⟨(),oL b h1 c,trivial⟩
theorem view{n a hi:Nat}(h1:a<=hi)(b:hi<=n):Ok (rX n a hi) (fun _=>True):=⟨(),tI h1 b,trivial⟩
theorem part{l:List β}{a hi:Nat}(h1:a<=hi)(b:hi<=l.length):Ok (pJ l a hi) (fun r=>r=(l.drop a).take (hi-a)):=⟨_,qx h1 b,rfl⟩
theorem set{l:List β}{n:Int}{y:β}(a:0<=n)(h1:n<l.length):Ok (tC l n y) (fun r=>r=l.set n.toNat y):=by
 refine⟨l.set n.toNat y,?_,rfl⟩
 unfold tC
 rw [if_pos ⟨a,h1⟩]
theorem cut{l:List β}{a b:Int}(c:0<=a)(h1:a<=b)(e:b<=l.length):Ok (lP l a b) (fun r=>r=(l.drop a.toNat).take (b.toNat-a.toNat)):=⟨_,by unfold lP;rw [if_pos ⟨c,h1,e⟩],rfl⟩
theorem rem{x y:Int}(h:y≠0):Ok (rb x y) (fun r=>r=x.tmod y):=⟨_,by unfold rb;rw [if_neg h],rfl⟩
theorem quo{k:IntKind}{x y:Int}(h:y≠0):Ok (quoO k x y) (fun r=>r=k.wrap (x.tdiv y)):=⟨_,by unfold quoO;rw [if_neg h],rfl⟩
theorem mk{n:Int}{z:β}{b:Nat}(a:0<=n)(h1:n.toNat*b<=140737488355328)(c:n.toNat<=140737488355328):Ok (mkO n z b) (fun r=>r=List.replicate n.toNat z):=⟨_,by unfold mkO;rw [if_pos ⟨a,h1,c⟩],rfl⟩
def S{σ ω:Type}(I:σ->Prop)(m:σ->Nat)(Q:ω->Prop)(s:σ):jY σ ω->Prop
 | .next s'=>I s'∧m s'<m s
 | .stop o=>Q o
theorem loop{σ ω:Type}{body:σ->Option (jY σ ω)}{Q:ω->Prop}{s:σ}(I:σ->Prop)(m:σ->Nat)(step:∀s,I s->Ok (body s) (S I m Q s))(h:I s):Ok (cI body s) Q:=by
 refine kY I m Q (fun s b=>?_) s h
 obtain⟨r,h1,a⟩:=step s b
 cases r with
 |next s'=>exact .inl ⟨s',h1,a.1,a.2⟩
 |stop o=>exact .inr ⟨o,h1,a⟩
theorem st{σ ω:Type}{I:σ->Prop}{m:σ->Nat}{Q:ω->Prop}{s:σ}{o:ω}(h:Q o):Ok (some (.stop o)) (S I m Q s):=⟨_,rfl,h⟩
end Ok
theorem Ok.eq{α:Type}{x:Option α}{a:α}(h:Ok x (fun b=>b=a)):x=some a:=by
 obtain⟨b,h1,c⟩:=h
 rw [h1,c]
end Go.Dw
