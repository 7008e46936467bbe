
import Derived.Test.YthadlbjoiidkjaaGreatDoorDwArg
import Derived.Lib.LaidTab

namespace Go.Dw
open Go.Lib
theorem zz{P:Program}{W:World}:∀{l:List (String×DataW Unit)}{ps:List MemPlace},DataW.LaidVars P W l ps->∀{n:String}{d:DataW Unit},(n,d)∈l->
  ∃g t cs fuel p,P.globalNamed n=some g∧(P.globals[g]?).map (·.type)=some t∧W.var? P n=some cs∧DataW.trod (fun _=>()) P W 0 (fun _=>true) false fuel t cs.toList=some (d,p)
 | [],_,_,_,_,h=>by cases h
 |(n',d')::r,ps,⟨g,t,cs,fuel,p,q,h1,h2,h3,h4,h5,_⟩,n,d,h=>by
  cases h with
  |head=>exact⟨g,t,cs,fuel,p,h1,h2,h3,h4⟩
  |tail _ h=>exact zz h5 h
theorem var_heap{P:Program}{W:World}{n:String}{g:Nat}{cs:Array Value}(hg:P.globalNamed n=some g)(h:W.var? P n=some cs):∃t fz,W.heap[g]? =some (.cells cs t fz):=by
 simp only [World.var?,hg,zc]at h
 split at h
 ·cases h;exact⟨_,_, ‹_›⟩
 ·cases h
theorem laid_tab{P:Program}{W:World}{l:List (String×DataW Unit)}{name:String}{k:IntKind}{zs:List Int}{g n:Nat}{t e:TypeId}(hm:laidMet P l W)(hin:(name,tabData k zs)∈l)(hg:P.globalNamed name=some g)
  (hty:(P.globals[g]?).map (·.type)=some t) (ht:P.underlying t=some (.array n e)) (he:P.underlying e=some (.int k)) (hce:P.cellsOf e=1) (hct:P.cellsOf t=n):∃t' fz,W.heap[g]? =some (.cells (zs.map fun z=>Value.int k z).toArray t' fz):=by
 obtain⟨ps,hl, -⟩:=hm
 obtain⟨g',t',cs,fuel,p,hg',ht',hvar,hd⟩:=zz hl hin
 obtain rfl:=Option.some.inj (hg.symm.trans hg')
 obtain rfl:=Option.some.inj (hty.symm.trans ht')
 have:=cells_of_tab ht he hce hct hd
 have e2:cs=(zs.map fun z=>Value.int k z).toArray:=by rw [<-this]
 rw [e2]at hvar
 exact var_heap hg hvar
theorem ym{P:Program}{W:World}{l:List (String×DataW Unit)}{name nm:String}{d:DataW Unit}{g:Nat}{t:TypeId}{m:Array (String×TypeId)}(hm:laidMet P l W)(hin:(name,.iface nm d)∈l)(hg:P.globalNamed name=some g)
  (hty:(P.globals[g]?).map (·.type)=some t) (ht:P.underlying t=some (.interface m)):∃te pe,W.cell? ⟨g,0,none⟩=some (.iface te pe):=by
 obtain⟨ps,hl, -⟩:=hm
 obtain⟨g',t',cs,fuel,p,hg',ht',hvar,hd⟩:=zz hl hin
 obtain rfl:=Option.some.inj (hg.symm.trans hg')
 obtain rfl:=Option.some.inj (hty.symm.trans ht')
 have hc:=World.var?_cell hg hvar 0
 cases fuel with
 |zero=>simp [DataW.trod]at hd
 |succ fuel=>
  obtain⟨cs⟩:=cs
  simp only at hd
  unfold DataW.trod at hd
  rw [ht]at hd
  split at hd<;>simp_all
end Go.Dw
