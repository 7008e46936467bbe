
import Derived.Test.YthadlbjoiidkjaaGreatDoorDwPlain
import Derived.Test.YthadlbjoiidkjaaGreatDoorDwLift4

namespace Go.Dw
def Ok{α:Type}(x:Option α)(Q:α->Prop):Prop:=∃a,x=some a∧Q a
namespace Ok
variable {α β:Type}{Q:α->Prop}{P:β->Prop}
theorem ret{a:α}(h:Q a):Ok (some a) Q:=⟨a,rfl,h⟩
theorem of{x:Option α}{a:α}(h:x=some a)(hq:Q a):Ok x Q:=⟨a,h,hq⟩
theorem bind{x:Option β}{f:β->Option α}(h:Ok x P)(hf:∀b,P b->Ok (f b) Q):Ok (x.bind f) Q:=by
 obtain⟨b,rfl,hb⟩:=h
 exact hf b hb
theorem mono{x:Option β}{P':β->Prop}(h:Ok x P)(hq:∀b,P b->P' b):Ok x P':=by
 obtain⟨b,hb,hp⟩:=h
 exact⟨b,hb,hq b hp⟩
theorem name{x:Option β}(h:Ok x P):Ok x (fun b=>x=some b∧P b):=by
 obtain⟨b,hb,hp⟩:=h
 exact⟨b,hb,hb,hp⟩
theorem val{x:Option β}(h:Ok x P){b:β}(hb:x=some b):P b:=by
 obtain⟨c,hc,hp⟩:=h
 rw [hb]at hc;cases hc
 exact hp
theorem ite{c:Prop} [Decidable c] {x y:Option α}(h1:c->Ok x Q)(h2:¬c->Ok y Q):Ok (if c then x else y) Q:=by
 split
 ·exact h1 ‹_›
 ·exact h2 ‹_›
theorem pM{p:Prop} [Decidable p] {x y:Option α}(h1:p->Ok x Q)(h2:¬p->Ok y Q):Ok (if decide p=true then x else y) Q:=by
 by_cases h:p
 ·rw [if_pos (decide_eq_true h)];exact h1 h
 ·rw [if_neg (by simpa using h)];exact h2 h
theorem uS{b:Bool}{x y:Option α}(h1:b=true->Ok x Q)(h2:b=false->Ok y Q):Ok (if b=true then x else y) Q:=by
 cases b
 ·exact h2 rfl
 ·exact h1 rfl
theorem sb{b:Bool}{x y:Option α}(h1:b=false->Ok x Q)(h2:b=true->Ok y Q):Ok (if(!b)=true then x else y) Q:=by
 cases b
 ·exact h1 rfl
 ·exact h2 rfl
theorem uE{γ:Type} [BEq γ] [LawfulBEq γ] {a b:γ}{x y:Option α}(h1:a=b->Ok x Q)(h2:a≠b->Ok y Q):Ok (if(a==b)=true then x else y) Q:=by
 by_cases h:a=b
 ·rw [if_pos (by simpa using h)];exact h1 h
 ·rw [if_neg (by simpa using h)];exact h2 h
theorem uP{γ:Type} [BEq γ] [LawfulBEq γ] {a b:γ}{x y:Option α}(h1:a≠b->Ok x Q)(h2:a=b->Ok y Q):Ok (if(a != b)=true then x else y) Q:=by
 by_cases h:a=b
 ·rw [if_neg (by simpa using h)];exact h2 h
 ·rw [if_pos (by simpa using h)];exact h1 h
theorem get{l:List β}{n:Int}(h0:0<=n)(h1:n<l.length):Ok (pH l n) (fun x=>x∈l∧l[n.toNat]? =some x):=by
 refine⟨l[n.toNat]'za,?_,List.getElem_mem _,zd _⟩
 unfold pH
 rw [if_pos h0,zd]
theorem xG{l:List β}{n:Int}(h0:0<=n)(h1:n<l.length):Ok (inO l n) (fun _=>True):=⟨(),u5 h0 h1,trivial⟩
theorem sub{n:Nat}{lo hi:Int}(h0:0<=lo)(h1:lo<=hi)(h2:hi<=n):Ok (wN n lo hi) (fun _=>True):=⟨(),zM h0 h1 h2,trivial⟩
theorem view{n lo hi:Nat}(h1:lo<=hi)(h2:hi<=n):Ok (yG n lo hi) (fun _=>True):=⟨(),AF h1 h2,trivial⟩
theorem part{l:List β}{lo hi:Nat}(h1:lo<=hi)(h2:hi<=l.length):Ok (y6 l lo hi) (fun r=>r=(l.drop lo).take (hi-lo)):=⟨_,partO_at h1 h2,rfl⟩
theorem set{l:List β}{n:Int}{y:β}(h0:0<=n)(h1:n<l.length):Ok (xI l n y) (fun r=>r=l.set n.toNat y):=by
 refine⟨l.set n.toNat y,?_,rfl⟩
 unfold xI
 rw [if_pos ⟨h0,h1⟩]
theorem app{l m:List β}{b:Nat}(h:(l.length+m.length)*b<=140737488355328):Ok (qq l m b) (fun r=>r=l++m):=⟨l++m,by unfold qq;rw [if_pos h],rfl⟩
theorem cat{a b:List UInt8}(h:a.length+b.length<=9223372036854775807):Ok (xZ a b) (fun r=>r=a++b):=⟨a++b,by unfold xZ;rw [if_pos za],rfl⟩
theorem cut{l:List β}{a b:Int}(h0:0<=a)(h1:a<=b)(h2:b<=l.length):Ok (si l a b) (fun r=>r=(l.drop a.toNat).take (b.toNat-a.toNat)):=⟨_,by unfold si;rw [if_pos ⟨h0,h1,h2⟩],rfl⟩
theorem rem{x y:Int}(h:y≠0):Ok (remO x y) (fun r=>r=x.tmod y):=⟨_,by unfold remO;rw [if_neg h],rfl⟩
theorem quo{k:IntKind}{x y:Int}(h:y≠0):Ok (quoO k x y) (fun r=>r=k.wrap (x.tdiv y)):=⟨_,by unfold quoO;rw [if_neg h],rfl⟩
theorem mk{n:Int}{z:β}{b:Nat}(h0:0<=n)(h1:n.toNat*b<=140737488355328)(h2:n.toNat<=140737488355328):Ok (mkO n z b) (fun r=>r=List.replicate n.toNat z):=⟨_,by unfold mkO;rw [if_pos ⟨h0,h1,h2⟩],rfl⟩
theorem mkz{n:Int}{z:β}{b:Nat}(h0:0<n)(h1:n.toNat*b<=140737488355328)(h2:n.toNat<=140737488355328):Ok (mkZ n z b) (fun r=>r=List.replicate n.toNat z):=⟨_,by unfold mkZ;rw [if_pos ⟨h0,h1,h2⟩],rfl⟩
theorem byte{s:List UInt8}{n:Int}(h0:0<=n)(h1:n<s.length):Ok (uY s n) (fun c=>∃b,s[n.toNat]? =some b∧c=((b.toNat:Nat):Int)):=by
 refine⟨_,by unfold uY;rw [if_pos ⟨h0,h1⟩],s[n.toNat]'za,zd _,?_⟩
 rw [List.getD_eq_getElem?_getD,zd (by omega:n.toNat<s.length)];rfl
def S{σ ω:Type}(I:σ->Prop)(m:σ->Nat)(Q:ω->Prop)(s:σ):oJ σ ω->Prop
 | .next s'=>I s'∧m s'<m s
 | .stop o=>Q o
theorem loop{σ ω:Type}{body:σ->Option (oJ σ ω)}{Q:ω->Prop}{s:σ}(I:σ->Prop)(m:σ->Nat)(step:∀s,I s->Ok (body s) (S I m Q s))(h:I s):Ok (kG body s) Q:=by
 refine Ao I m Q (fun s hs=>?_) s h
 obtain⟨r,h1,h2⟩:=step s hs
 cases r with
 |next s'=>exact .inl ⟨s',h1,h2.1,h2.2⟩
 |stop o=>exact .inr ⟨o,h1,h2⟩
theorem nx{σ ω:Type}{I:σ->Prop}{m:σ->Nat}{Q:ω->Prop}{s s':σ}(h:I s')(hm:m s'<m s):Ok (some (.next s')) (S I m Q s):=⟨_,rfl,h,hm⟩
theorem st{σ ω:Type}{I:σ->Prop}{m:σ->Nat}{Q:ω->Prop}{s:σ}{o:ω}(h:Q o):Ok (some (.stop o)) (S I m Q s):=⟨_,rfl,h⟩
theorem upto{ω:Type}{body:Int->Option (oJ Int ω)}{Q:ω->Prop}(n:Int)(hn:0<=n)(J:Int->Prop)(h0:J 0)
  (step:∀i,0<=i->i<=n->J i->Ok (body i) (S (fun i=>(0<=i∧i<=n)∧J i) (fun i=>(n-i).toNat) Q i)):Ok (kG body (0:Int)) Q:=
 loop (fun i=>(0<=i∧i<=n)∧J i) (fun i=>(n-i).toNat) (fun i h=>step i h.1.1 h.1.2 h.2) ⟨⟨Int.le_refl _,hn⟩,h0⟩
end Ok
def zI{σ ω ω':Type}(g:ω->ω'):oJ σ ω->oJ σ ω'
 | .next s=>.next s
 | .stop o=>.stop (g o)
theorem w7{σ ω ω':Type}{b:σ->Option (oJ σ ω)}{b':σ->Option (oJ σ ω')}(g:ω->ω')(h:∀s,b' s=(b s).map (zI g)):∀(n:Nat)(s:σ),qb b' n s=(qb b n s).map g
 |0,_=>rfl
 |n+1,s=>by
  simp only [qb,h s]
  rcases b s with _|(s'|o)
  ·rfl
  ·simp only [Option.map_some,zI];exact w7 g h n s'
  ·rfl
theorem BG{σ ω ω':Type}{b:σ->Option (oJ σ ω)}{b':σ->Option (oJ σ ω')}(g:ω->ω')(h:∀s,b' s=(b s).map (zI g))(s:σ):kG b' s=(kG b s).map g:=by
 cases h1:kG b s with
 |some o=>
  obtain⟨n,hn⟩:=sr h1
  exact qO (n:=n) (by rw [w7 g h,hn];rfl)
 |none=>
  cases h2:kG b' s with
  |none=>rfl
  |some o=>
   obtain⟨n,hn⟩:=sr h2
   rw [w7 g h]at hn
   cases h3:qb b n s with
   |none=>rw [h3]at hn;cases hn
   |some o'=>rw [qO h3]at h1;cases h1
theorem Ai{α β:Type}(l:List α)(n:Int)(f:α->Option β):((inO l n).bind fun _=>(pH l n).bind f)=(pH l n).bind f:=by
 unfold inO
 split
 ·rfl
 ·rename_i h
  unfold pH
  split
  ·rename_i h0
   rw [List.getElem?_eq_none za];rfl
  ·rfl
theorem Ok.eq{α:Type}{x:Option α}{a:α}(h:Ok x (fun b=>b=a)):x=some a:=by
 obtain⟨b,h1,h2⟩:=h
 rw [h1,h2]
end Go.Dw
