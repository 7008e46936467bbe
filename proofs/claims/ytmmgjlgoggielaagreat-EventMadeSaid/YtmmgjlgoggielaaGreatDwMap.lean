
import Derived.Test.YtmmgjlgoggielaaGreatDwCopy
import Derived.Test.YtmmgjlgoggielaaGreatDwEq
import Derived.MapKept

namespace Go.Dw
section
variable {P:Program}{X:Ctx}{S:iu}{loc:lJ}{s:St}{tm:Array Value}{w:World}
def Found(S:iu)(es:List (PD×PD))(ents:List MapEntry)(i:Nat)(r:Option (Nat×PD×PD))(r':Option (Nat×Value)):Prop:=
 r=none∧r'=none∨∃j x y v,r=some (i+j,x,y)∧r'=some (i+j,v)∧j<es.length∧V S y v∧∃en,ents[j]? =some en∧V S x en.key
theorem Found.cons{es:List (PD×PD)}{ents:List MapEntry}{i:Nat}{r:Option (Nat×PD×PD)}{r':Option (Nat×Value)}(h:Found S es ents (i+1) r r')(e:PD×PD)(en:MapEntry):Found S (e::es) (en::ents) i r r':=by
 rcases h with h|⟨j,x,y,v,e1,e2,e3,e4,en',e5,e6⟩
 ·exact .inl h
 ·exact .inr ⟨j+1,x,y,v,by rw [e1];congr 2;omega,by rw [e2];congr 2;omega,so,e4,en',e5,e6⟩
end
end Go.Dw
