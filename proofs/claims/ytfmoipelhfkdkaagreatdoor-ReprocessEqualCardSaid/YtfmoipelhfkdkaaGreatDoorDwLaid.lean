
import Derived.Test.YtfmoipelhfkdkaaGreatDoorDwArg
import Derived.Lib.LaidTab

namespace Go.Dw
open Go.Lib
theorem De{P:Program}{W:World}:∀{l:List (String×DataW Unit)}{ps:List MemPlace},DataW.LaidVars P W l ps->∀{n:String}{d:DataW Unit},(n,d)∈l->
  ∃g t cs fuel p,P.globalNamed n=some g∧(P.globals[g]?).map (·.type)=some t∧W.var? P n=some cs∧DataW.trod (fun _=>()) P W 0 (fun _=>true) false fuel t cs.toList=some (d,p)
 | [],_,_,_,_,h=>by cases h
 |(C,d')::r,ps,⟨g,t,cs,fuel,p,q,h1,f,j,k,u,_⟩,n,d,h=>by
  cases h with
  |head=>exact⟨g,t,cs,fuel,p,h1,f,j,k⟩
  |tail _ h=>exact De u h
theorem var_heap{P:Program}{W:World}{n:String}{g:Nat}{cs:Array Value}(f:P.globalNamed n=some g)(h:W.var? P n=some cs):∃t fz,W.heap[g]? =some (.cells cs t fz):=by
 simp only [World.var?,f,ze]at h
 split at h
 ·cases h;exact⟨_,_, ‹_›⟩
 ·cases h
theorem laid_tab{P:Program}{W:World}{l:List (String×DataW Unit)}{name:String}{k:IntKind}{zs:List Int}{g n:Nat}{t e:TypeId}(hm:laidMet P l W)(u:(name,tabData k zs)∈l)(E:P.globalNamed name=some g)
  (D:(P.globals[g]?).map (·.type)=some t) (G:P.underlying t=some (.array n e)) (he:P.underlying e=some (.int k)) (j:P.cellsOf e=1) (q:P.cellsOf t=n):∃t' fz,W.heap[g]? =some (.cells (zs.map fun z=>Value.int k z).toArray t' fz):=by
 obtain⟨ps,hl, -⟩:=hm
 obtain⟨H,t',cs,fuel,p,r,C,f,F⟩:=De hl u
 obtain rfl:=Option.some.inj (E.symm.trans r)
 obtain rfl:=Option.some.inj (D.symm.trans C)
 have:=cells_of_tab G he j q F
 have e2:cs=(zs.map fun z=>Value.int k z).toArray:=by rw [<-this]
 rw [e2]at f
 exact var_heap E f
end Go.Dw
