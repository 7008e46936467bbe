
import Derived.Test.YthadlbjoiidkjaaGreatDoorDwLift4
import Derived.Test.YthadlbjoiidkjaaGreatDoorDwLe

namespace Go.Dw
def insO{α:Type}(bytes:Nat)(n:Int)(l m:List α):Option (List α):=
 if 0<=n∧n.toNat<=l.length∧m.length=1∧(l.length+1)*bytes<=140737488355328 then some (l.take n.toNat++m++l.drop n.toNat)else none
def wE(e:TypeId)(size bytes:Nat):pT:=fun _ args bs=>
 match args,bs with
 | [.ref 0 0,.d (.int .i64 n),.ref 1 0],[.arr 0 e1 es,.arr 0 e2 ms]=>
  if e1=e∧e2=e∧0<=n∧n.toNat<=es.length∧ms.length=1∧(es.length+1)*bytes<=140737488355328∧(∀x∈es,x.cells.length=size)∧(∀x∈ms,x.cells.length=size)then
   some (.ref 0 1,[.arr 1 e (es.take n.toNat++ms++es.drop n.toNat),.dead])else none
 |_,_=>none
theorem BD{P:Program}{H:Hints}{ext:FuncId->Option pT}{f:FuncId}{e:TypeId}{size bytes:Nat}(hx:ext f=some (wE e size bytes)){α:Type}{g:α->PD}(hg:∀x,(g x).cells.length=size){n:Int}{l m r:List α}(h:insO bytes n l m=some r):
  EvP P H ext f [.ref 0 0,.d (.int .i64 n),.ref 1 0] [.arr 0 e (l.map g),.arr 0 e (m.map g)] (.ref 0 1,[.arr 1 e (r.map g),.dead]):=by
 refine Ev.lib hx ?_
 unfold insO at h
 split at h
 ·rename_i hl
  cases h
  have h2:∀(l:List α),∀x∈l.map g,x.cells.length=size:=fun l x hx=>by obtain⟨y, -,rfl⟩:=List.mem_map.1 hx;exact hg y
  simp only [wE,List.length_map]
  rw [if_pos ⟨trivial,trivial,hl.1,hl.2.1,hl.2.2.1,hl.2.2.2,h2 l,h2 m⟩]
  simp only [List.map_append,List.map_take,List.map_drop]
 ·cases h
theorem insO_at{α:Type}{bytes:Nat}{n:Int}{i:Nat}{l m:List α}(hn:n=i)(hi:i<=l.length)(hm:m.length=1)(hb:(l.length+1)*bytes<=140737488355328):insO bytes n l m=some (l.take i++m++l.drop i):=by
 subst hn
 unfold insO
 rw [if_pos ⟨by omega,by omega,hm,hb⟩,Int.toNat_natCast]
end Go.Dw
