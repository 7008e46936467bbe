
import Derived.Test.YtgiepghgloiinaaGreatDoorDwArg

namespace Go.Dw
section
variable {P:Program}{d:Nat}{t:TypeId}{cs:List PD}
theorem Sh.int{k:IntKind}(hu:P.underlying t=some (.int k))(h:Sh P (d+1) t cs):∃n,cs=[.int k n]∧(Lit.int k n).wf=true:=by
 unfold Sh at h
 simp only [hu]at h
 exact h
theorem Sh.bool(hu:P.underlying t=some .bool)(h:Sh P (d+1) t cs):∃b,cs=[.bool b]:=by
 unfold Sh at h
 simp only [hu]at h
 exact h
theorem Sh.str(hu:P.underlying t=some .string)(h:Sh P (d+1) t cs):∃s,cs=[.str s]∧s.length<=maxLen:=by
 unfold Sh at h
 simp only [hu]at h
 exact h
theorem Sh.slen{a:Array Field}(hu:P.underlying t=some (.struct a))(h:Sh P (d+1) t cs):cs.length=P.cellsOf t:=by
 unfold Sh at h
 simp only [hu]at h
 exact h.1
theorem Sh.field{a:Array Field}(hu:P.underlying t=some (.struct a))(h:Sh P (d+1) t cs)(i:Nat){b:TypeId}{off n:Nat}(hf:a.toList[i]?.map (fun f=>(f.type,f.offset))=some (b,off))(hc:P.cellsOf b=n):Sh P d b ((cs.drop off).take n):=by
 unfold Sh at h
 simp only [hu]at h
 cases c:a.toList[i]? with
 |none=>rw [c]at hf;cases hf
 |some f=>
  rw [c]at hf
  simp only [Option.map_some,Option.some.injEq,Prod.mk.injEq]at hf
  obtain⟨rfl,rfl⟩:=hf
  subst hc
  exact h.2 f (List.mem_of_getElem? c)
theorem Sh.alen{n:Nat}{e:TypeId}(hu:P.underlying t=some (.array n e))(h:Sh P (d+1) t cs):cs.length=P.cellsOf t:=by
 unfold Sh at h
 simp only [hu]at h
 exact h.1
theorem Sh.elem{n:Nat}{e:TypeId}(hu:P.underlying t=some (.array n e))(h:Sh P (d+1) t cs)(i:Nat){off k:Nat}(hi:i<n)(ho:i*k=off)(hc:P.cellsOf e=k):Sh P d e ((cs.drop off).take k):=by
 unfold Sh at h
 simp only [hu]at h
 subst hc ho
 exact h.2 i hi
theorem Sh.lst{α:Type}{e:TypeId}{pd:α->PD}{Q:α->Prop}(hu:P.underlying t=some (.slice e))(b:kC P e=true)(h:Sh P (d+1) t cs)(f:∀a,pd a= .agg (pd a).cells)(o:∀cs,Sh P d e cs->∃a,cs=(pd a).cells∧Q a):
  ∃l:List α,cs=[.lst (l.map pd)]∧l.length<=maxLen∧∀a∈l,Q a:=by
 unfold Sh at h
 simp only [hu]at h
 obtain⟨es,i,j,k⟩:=h
 have key:∀es:List PD,(∀x∈es,∃a,x=pd a∧Q a)->∃l:List α,es=l.map pd∧∀a∈l,Q a:=by
  intro es
  induction es with
  |nil=>exact fun _=>⟨[],rfl,sm⟩
  |cons x es q=>
   intro g
   obtain⟨a,rfl,b⟩:=g x sm
   obtain⟨l,rfl,hl⟩:=q fun y p=>g y (by simp [p])
   exact⟨a::l,rfl,by simpa using⟨b,hl⟩⟩
 obtain ⟨l, rfl, hl⟩ := key es (fun x hm => by
  obtain⟨g1, -,g2⟩:=k x hm
  obtain⟨c,rfl⟩:=g1 b
  obtain⟨a,m,n⟩:=o _ g2
  exact⟨a,by rw [f a, <-m];rfl,n⟩)
 exact⟨l,i,by simpa using j,hl⟩
theorem Sh.lst1{α:Type}{e:TypeId}{g:α->PD}{Q:α->Prop}(hu:P.underlying t=some (.slice e))(b:kC P e=false)(h:Sh P (d+1) t cs)(n:∀cs,Sh P d e cs->∃a,cs=[g a]∧Q a):
  ∃l:List α,cs=[.lst (l.map g)]∧l.length<=maxLen∧∀a∈l,Q a:=by
 unfold Sh at h
 simp only [hu]at h
 obtain⟨es,i,j,k⟩:=h
 have key:∀es:List PD,(∀x∈es,∃a,x=g a∧Q a)->∃l:List α,es=l.map g∧∀a∈l,Q a:=by
  intro es
  induction es with
  |nil=>exact fun _=>⟨[],rfl,sm⟩
  |cons x es p=>
   intro f
   obtain⟨a,rfl,b⟩:=f x sm
   obtain⟨l,rfl,hl⟩:=p fun y o=>f y (by simp [o])
   exact⟨a::l,rfl,by simpa using⟨b,hl⟩⟩
 obtain ⟨l, rfl, hl⟩ := key es (fun x hm => by
  obtain⟨-,g1,g2⟩:=k x hm
  obtain⟨a,c,m⟩:=n _ g2
  rw [od (g1 b)]at c
  exact⟨a,List.cons.inj c |>.1,m⟩)
 exact⟨l,i,by simpa using j,hl⟩
end
end Go.Dw
