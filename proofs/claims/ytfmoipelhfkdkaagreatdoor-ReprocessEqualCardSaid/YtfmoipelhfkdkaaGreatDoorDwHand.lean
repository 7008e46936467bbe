
import Derived.Test.YtfmoipelhfkdkaaGreatDoorDwLift4

namespace Go.Dw
section
variable {α β:Type}{pa:α->PD}{pb:β->PD}{f:α->β->Option Int}
open Classical in
end
section
variable {α:Type}{pa:α->PD}{f:α->Option (List UInt8)}
def C8(pa:α->PD)(f:α->Option (List UInt8))(args:List RV)(bs:List Box)(s:List UInt8):Prop:=∃a,args=[.d (pa a)]∧bs=[]∧f a=some s
open Classical in
noncomputable def yR (pa:α->PD) (f:α->Option (List UInt8)):rO:=fun _ args bs=>
 if h:∃s,C8 pa f args bs s then some (.d (.str h.choose),[])else none
theorem Dv{P:Program}{H:Hints}{ext:FuncId->Option rO}{g:FuncId}(r:ext g=some (yR pa f))(q:∀x y,pa x=pa y->x=y){a:α}{s:List UInt8}(h:f a=some s):
  EvP P H ext g [.d (pa a)] [] (.d (.str s),[]):=by
 refine Ev.lib r ?_
 have k:∃s,C8 pa f [.d (pa a)] [] s:=⟨s,a,rfl,rfl,h⟩
 unfold yR
 rw [dif_pos k]
 obtain⟨u,h1, -,j⟩:=k.choose_spec
 simp only [List.cons.injEq,RV.d.injEq,and_true]at h1
 obtain rfl:=q _ _ h1
 rw [h]at j
 rw [<-Option.some.inj j]
theorem Cc{g:FuncId}{args:List RV}{bs j:List Box}{r:RV}(h:yR pa f g args bs=some (r,j)):∃a s,args=[.d (pa a)]∧bs=[]∧f a=some s∧r= .d (.str s)∧j=[]:=by
 unfold yR at h
 split at h
 ·rename_i u
  cases h
  obtain⟨a,h1,k,q⟩:=u.choose_spec
  exact⟨a,_,h1,k,q,rfl,rfl⟩
 ·cases h
end
end Go.Dw
