
import Derived.Test.YthadlbjoiidkjaaGreatDoorDwSortP
import Derived.Test.YthadlbjoiidkjaaGreatDoorDwJoin
import Derived.Test.YthadlbjoiidkjaaGreatDoorDwLift4
import Derived.Shelf.SlSortCmp.WholeK

namespace Go.Dw
open Go.Proofs Go.Shelf Go.RowKit
section
variable {α:Type}
open Classical in
theorem sort_ev{P:Program}{H:Hints}{ext:FuncId->Option jd}{f g:FuncId}{e:TypeId}{pd:α->PD}{D:jd}(hx:ext f=some D)
  {l r:List α} (hD:D f [.ref 0 0,.d (.raw (.func (.func g) #[] #[]))] [.arr 0 e (l.map pd)]=some (.tup [],[.arr 0 e (r.map pd)])):
  EvP P H ext f [.ref 0 0,.d (.raw (.func (.func g) #[] #[]))] [.arr 0 e (l.map pd)] (.tup [],[.arr 0 e (r.map pd)]):=Ev.lib hx hD
end
section
variable {P:Program}{S:iW}{α:Type}{pd:α->PD}{k:Nat}
variable [Inhabited α]
end
theorem grow_of{w w':World}(h:Frame True [] w w'):∃q os,w'=Sort.grow (w.drewN q) os:=by
 refine⟨w'.drawn-w.drawn,w'.heap.extract w.heap.size w'.heap.size,?_⟩
 have hh:w'.heap=w.heap++w'.heap.extract w.heap.size w'.heap.size:=by
  apply Array.ext_getElem?
  intro i
  by_cases hi:i<w.heap.size
  ·rw [h.block i hi sm,Array.getElem?_append_left hi]
  ·rw [Array.getElem?_append_right om]
   simp only [Array.getElem?_extract]
   by_cases hi2:i<w'.heap.size
   ·rw [if_pos om];congr 1;omega
   ·rw [if_neg om];exact Array.getElem?_eq_none om
 have hd:=h.drawn trivial
 have h1:=h.os
 have h2:=h.tape
 have h3:=h.output
 obtain⟨heap,tape,drawn,os,output⟩:=w'
 simp only at hh hd h1 h2 h3
 subst h1 h2 h3
 unfold Sort.grow World.drewN
 simp only
 rw [<-hh]
 have:w.drawn+(drawn-w.drawn)=drawn:=by omega
 rw [this]
section
variable {P:Program}{α:Type}{pd:α->PD}{k:Nat}
theorem qq(F cur:Array Value)(h:F.size<=cur.size):(Sort.putCells id 0 F cur).toList.take F.size=F.toList:=by
 apply List.ext_getElem?
 intro i
 rw [List.getElem?_take]
 split
 ·rename_i hi
  simp only [Array.getElem?_toList,Sort.putCells,Array.getElem?_mapIdx]
  rw [Array.getElem?_eq_getElem om,Option.map_some,if_pos ⟨om,om⟩,Nat.sub_zero,getElem!_pos F i hi,Array.getElem?_eq_getElem hi]
  rfl
 ·rename_i hi
  rw [Array.getElem?_toList,Array.getElem?_eq_none om]
end
theorem od(P:Program)(base:mN):ExtOk P base (fun _=>none):=fun f g h=>by cases h
end Go.Dw
