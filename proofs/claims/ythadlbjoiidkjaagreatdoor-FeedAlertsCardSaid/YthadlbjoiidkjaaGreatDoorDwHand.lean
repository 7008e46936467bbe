
import Derived.Test.YthadlbjoiidkjaaGreatDoorDwLift4

namespace Go.Dw
section
variable {α β:Type}{pa:α->PD}{pb:β->PD}{f:α->β->Option Int}
def HandIs(pa:α->PD)(pb:β->PD)(f:α->β->Option Int)(args:List RV)(bs:List Box)(n:Int):Prop:=∃a b,args=[.d (pa a),.d (pb b)]∧bs=[]∧f a b=some n
open Classical in
noncomputable def qH (pa:α->PD) (pb:β->PD) (f:α->β->Option Int):jd:=fun _ args bs=>
 if h:∃n,HandIs pa pb f args bs n then some (.d (.int .i64 h.choose),[])else none
theorem handD_ev{P:Program}{H:Hints}{ext:FuncId->Option jd}{g:FuncId}(hx:ext g=some (qH pa pb f))(ha:∀x y,pa x=pa y->x=y)(hb:∀x y,pb x=pb y->x=y){a:α}{b:β}{n:Int}(h:f a b=some n):
  EvP P H ext g [.d (pa a),.d (pb b)] [] (.d (.int .i64 n),[]):=by
 refine Ev.lib hx ?_
 have hn:∃n,HandIs pa pb f [.d (pa a),.d (pb b)] [] n:=⟨n,a,b,rfl,rfl,h⟩
 unfold qH
 rw [dif_pos hn]
 obtain⟨a',b',h1, -,h2⟩:=hn.choose_spec
 simp only [List.cons.injEq,RV.d.injEq,and_true]at h1
 obtain rfl:=ha _ _ h1.1
 obtain rfl:=hb _ _ h1.2
 rw [h]at h2
 rw [<-Option.some.inj h2]
theorem tE{g:FuncId}{args:List RV}{bs bs':List Box}{r:RV}(h:qH pa pb f g args bs=some (r,bs')):∃a b n,args=[.d (pa a),.d (pb b)]∧bs=[]∧f a b=some n∧r= .d (.int .i64 n)∧bs'=[]:=by
 unfold qH at h
 split at h
 ·rename_i hn
  cases h
  obtain⟨a,b,h1,h2,h3⟩:=hn.choose_spec
  exact⟨a,b,_,h1,h2,h3,rfl,rfl⟩
 ·cases h
end
end Go.Dw
