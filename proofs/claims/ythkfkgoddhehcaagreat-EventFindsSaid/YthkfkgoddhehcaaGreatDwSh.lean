
import Derived.Test.YthkfkgoddhehcaaGreatDwArg

namespace Go.Dw
section
variable {P:Program}{d:Nat}{t:TypeId}{cs:List PD}
theorem Sh.int{k:IntKind}(hu:P.underlying t=some (.int k))(h:Sh P (d+1) t cs):∃n,cs=[.int k n]∧(Lit.int k n).wf=true:=by
 unfold Sh at h
 simp only [hu]at h
 exact h
theorem Sh.bool(hu:P.underlying t=some .bool)(h:Sh P (d+1) t cs):∃b,cs=[.bool b]:=by
 unfold Sh at h
 simp only [hu]at h
 exact h
theorem Sh.str(hu:P.underlying t=some .string)(h:Sh P (d+1) t cs):∃s,cs=[.str s]∧s.length<=maxLen:=by
 unfold Sh at h
 simp only [hu]at h
 exact h
theorem Sh.Aa{a:Array Field}(hu:P.underlying t=some (.struct a))(h:Sh P (d+1) t cs):cs.length=P.cellsOf t:=by
 unfold Sh at h
 simp only [hu]at h
 exact h.1
theorem Sh.field{a:Array Field}(hu:P.underlying t=some (.struct a))(h:Sh P (d+1) t cs)(i:Nat){c:TypeId}{off n:Nat}(hf:a.toList[i]?.map (λf=>(f.type,f.offset))=some (c,off))(hc:P.cellsOf c=n):Sh P d c ((cs.drop off).take n):=by
 unfold Sh at h
 simp only [hu]at h
 cases g:a.toList[i]? with
 |none=>rw [g]at hf;cases hf
 |some f=>
  rw [g]at hf
  simp only [Option.map_some,Option.some.injEq,Prod.mk.injEq]at hf
  obtain⟨rfl,rfl⟩:=hf
  subst hc
  exact h.2 f (List.mem_of_getElem? g)
theorem Sh.alen{n:Nat}{e:TypeId}(hu:P.underlying t=some (.array n e))(h:Sh P (d+1) t cs):cs.length=P.cellsOf t:=by
 unfold Sh at h
 simp only [hu]at h
 exact h.1
theorem Sh.elem{n:Nat}{e:TypeId}(hu:P.underlying t=some (.array n e))(h:Sh P (d+1) t cs)(i:Nat){off k:Nat}(hi:i<n)(ho:i*k=off)(hc:P.cellsOf e=k):Sh P d e ((cs.drop off).take k):=by
 unfold Sh at h
 simp only [hu]at h
 subst hc ho
 exact h.2 i hi
theorem Sh.lst{α:Type}{e:TypeId}{pd:α->PD}{Q:α->Prop}(hu:P.underlying t=some (.slice e))(f:ue P e=true)(h:Sh P (d+1) t cs)(j:∀a,pd a= .agg (pd a).cells)(B:∀cs,Sh P d e cs->∃a,cs=(pd a).cells∧Q a):
  ∃l:List α,cs=[.lst (l.map pd)]∧l.length<=maxLen∧∀a∈l,Q a:=by
 unfold Sh at h
 simp only [hu]at h
 obtain⟨es,p,q,r⟩:=h
 have key:∀es:List PD,(∀x∈es,∃a,x=pd a∧Q a)->∃l:List α,es=l.map pd∧∀a∈l,Q a:=by
  intro es
  induction es with
  |nil=>exact λ_=>⟨[],rfl,zb⟩
  |cons x es D=>
   intro k
   obtain⟨a,rfl,f⟩:=k x zb
   obtain⟨l,rfl,g⟩:=D λy C=>k y (by simp [C])
   exact⟨a::l,rfl,by simpa using⟨f,g⟩⟩
 obtain ⟨l, rfl, g⟩ := key es (λx hm => by
  obtain⟨g1, -,g2⟩:=r x hm
  obtain⟨c,rfl⟩:=g1 f
  obtain⟨a,u,z⟩:=B _ g2
  exact⟨a,by rw [j a, <-u];rfl,z⟩)
 exact⟨l,p,by simpa using q,g⟩
theorem Sh.lst1{α:Type}{e:TypeId}{g:α->PD}{Q:α->Prop}(hu:P.underlying t=some (.slice e))(c:ue P e=false)(h:Sh P (d+1) t cs)(z:∀cs,Sh P d e cs->∃a,cs=[g a]∧Q a):
  ∃l:List α,cs=[.lst (l.map g)]∧l.length<=maxLen∧∀a∈l,Q a:=by
 unfold Sh at h
 simp only [hu]at h
 obtain⟨es,p,q,r⟩:=h
 have key:∀es:List PD,(∀x∈es,∃a,x=g a∧Q a)->∃l:List α,es=l.map g∧∀a∈l,Q a:=by
  intro es
  induction es with
  |nil=>exact λ_=>⟨[],rfl,zb⟩
  |cons x es C=>
   intro k
   obtain⟨a,rfl,c⟩:=k x zb
   obtain⟨l,rfl,f⟩:=C λy B=>k y (by simp [B])
   exact⟨a::l,rfl,by simpa using⟨c,f⟩⟩
 obtain ⟨l, rfl, f⟩ := key es (λx hm => by
  obtain⟨-,g1,g2⟩:=r x hm
  obtain⟨a,j,u⟩:=z _ g2
  rw [wV (g1 c)]at j
  exact⟨a,List.cons.inj j |>.1,u⟩)
 exact⟨l,p,by simpa using q,f⟩
end
end Go.Dw
