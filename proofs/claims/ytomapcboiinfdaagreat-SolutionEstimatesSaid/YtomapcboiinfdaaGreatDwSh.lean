
import Derived.Test.YtomapcboiinfdaaGreatDwArg

namespace Go.Dw
section
variable {P:Program}{d:Nat}{t:TypeId}{cs:List PD}
theorem Sh.int{k:IntKind}(hu:P.underlying t=some (.int k))(h:Sh P (d+1) t cs):∃n,cs=[.int k n]∧(Lit.int k n).wf=true:=by
 unfold Sh at h
 simp only [hu]at h
 exact h
theorem Sh.bool(hu:P.underlying t=some .bool)(h:Sh P (d+1) t cs):∃b,cs=[.bool b]:=by
 unfold Sh at h
 simp only [hu]at h
 exact h
theorem Sh.str(hu:P.underlying t=some .string)(h:Sh P (d+1) t cs):∃s,cs=[.str s]∧s.length<=maxLen:=by
 unfold Sh at h
 simp only [hu]at h
 exact h
theorem Sh.tW{a:Array Field}(hu:P.underlying t=some (.struct a))(h:Sh P (d+1) t cs):cs.length=P.cellsOf t:=by
 unfold Sh at h
 simp only [hu]at h
 exact h.1
theorem Sh.field{a:Array Field}(hu:P.underlying t=some (.struct a))(h:Sh P (d+1) t cs)(i:Nat){b:TypeId}{off n:Nat}(hf:a.toList[i]?.map (fun f=>(f.type,f.offset))=some (b,off))(e:P.cellsOf b=n):Sh P d b ((cs.drop off).take n):=by
 unfold Sh at h
 simp only [hu]at h
 cases c:a.toList[i]? with
 |none=>rw [c]at hf;cases hf
 |some f=>
  rw [c]at hf
  simp only [Option.map_some,Option.some.injEq,Prod.mk.injEq]at hf
  obtain⟨rfl,rfl⟩:=hf
  subst e
  exact h.2 f (List.mem_of_getElem? c)
theorem Sh.alen{n:Nat}{e:TypeId}(hu:P.underlying t=some (.array n e))(h:Sh P (d+1) t cs):cs.length=P.cellsOf t:=by
 unfold Sh at h
 simp only [hu]at h
 exact h.1
theorem Sh.elem{n:Nat}{e:TypeId}(hu:P.underlying t=some (.array n e))(h:Sh P (d+1) t cs)(i:Nat){off k:Nat}(hi:i<n)(b:i*k=off)(a:P.cellsOf e=k):Sh P d e ((cs.drop off).take k):=by
 unfold Sh at h
 simp only [hu]at h
 subst a b
 exact h.2 i hi
theorem Sh.lst{α:Type}{e:TypeId}{pd:α->PD}{Q:α->Prop}(hu:P.underlying t=some (.slice e))(b:nv P e=true)(h:Sh P (d+1) t cs)(g:∀a,pd a= .agg (pd a).cells)(p:∀cs,Sh P d e cs->∃a,cs=(pd a).cells∧Q a):
  ∃l:List α,cs=[.lst (l.map pd)]∧l.length<=maxLen∧∀a∈l,Q a:=by
 unfold Sh at h
 simp only [hu]at h
 obtain⟨es,j,k,m⟩:=h
 have key:∀es:List PD,(∀x∈es,∃a,x=pd a∧Q a)->∃l:List α,es=l.map pd∧∀a∈l,Q a:=by
  intro es
  induction es with
  |nil=>exact fun _=>⟨[],rfl,sm⟩
  |cons x es r=>
   intro i
   obtain⟨a,rfl,b⟩:=i x sm
   obtain⟨l,rfl,f⟩:=r fun y q=>i y (by simp [q])
   exact⟨a::l,rfl,by simpa using⟨b,f⟩⟩
 obtain ⟨l, rfl, f⟩ := key es (fun x hm => by
  obtain⟨g1, -,g2⟩:=m x hm
  obtain⟨c,rfl⟩:=g1 b
  obtain⟨a,n,o⟩:=p _ g2
  exact⟨a,by rw [g a, <-n];rfl,o⟩)
 exact⟨l,j,by simpa using k,f⟩
theorem Sh.lst1{α:Type}{e:TypeId}{g:α->PD}{Q:α->Prop}(hu:P.underlying t=some (.slice e))(b:nv P e=false)(h:Sh P (d+1) t cs)(o:∀cs,Sh P d e cs->∃a,cs=[g a]∧Q a):
  ∃l:List α,cs=[.lst (l.map g)]∧l.length<=maxLen∧∀a∈l,Q a:=by
 unfold Sh at h
 simp only [hu]at h
 obtain⟨es,j,k,m⟩:=h
 have key:∀es:List PD,(∀x∈es,∃a,x=g a∧Q a)->∃l:List α,es=l.map g∧∀a∈l,Q a:=by
  intro es
  induction es with
  |nil=>exact fun _=>⟨[],rfl,sm⟩
  |cons x es q=>
   intro i
   obtain⟨a,rfl,b⟩:=i x sm
   obtain⟨l,rfl,c⟩:=q fun y p=>i y (by simp [p])
   exact⟨a::l,rfl,by simpa using⟨b,c⟩⟩
 obtain ⟨l, rfl, c⟩ := key es (fun x hm => by
  obtain⟨-,g1,g2⟩:=m x hm
  obtain⟨a,f,n⟩:=o _ g2
  rw [pW (g1 b)]at f
  exact⟨a,List.cons.inj f |>.1,n⟩)
 exact⟨l,j,by simpa using k,c⟩
end
end Go.Dw
