
import Derived.Test.YthkfkgoddhehcaaGreatDwCopy
import Derived.Test.YthkfkgoddhehcaaGreatDwEq
import Derived.MapKept

namespace Go.Dw
section
variable {P:Program}{X:Ctx}{S:tG}{loc:ui}{s:St}{tm:Array Value}{w:World}
def Found(S:tG)(es:List (PD×PD))(a:List MapEntry)(i:Nat)(r:Option (Nat×PD×PD))(f:Option (Nat×Value)):Prop:=
 r=none∧f=none∨∃j x y v,r=some (i+j,x,y)∧f=some (i+j,v)∧j<es.length∧V S y v∧∃c,a[j]? =some c∧V S x c.key
theorem Found.cons{es:List (PD×PD)}{a:List MapEntry}{i:Nat}{r:Option (Nat×PD×PD)}{f:Option (Nat×Value)}(h:Found S es a (i+1) r f)(e:PD×PD)(q:MapEntry):Found S (e::es) (q::a) i r f:=by
 rcases h with h|⟨j,x,y,v,g,e2,t,k,c,l,p⟩
 ·exact .inl h
 ·exact .inr ⟨j+1,x,y,v,by rw [g];congr 2;omega,by rw [e2];congr 2;omega,so,k,c,l,p⟩
end
end Go.Dw
