
import Derived.Test.YthkfkgoddhehcaaGreatEfFn
open List renaming map_inj_right->G3

namespace Go.Dw.Ef
open Go.Dw
theorem injInt:∀x y:Int,PD.int .i64 x=PD.int .i64 y->x=y:=λx y h=>by cases h;rfl
theorem injStage:∀x y:bw,x.pd=y.pd->x=y:=by
  rintro⟨a,⟨b,c,d⟩,⟨e,f,g⟩,t,i,j⟩ ⟨k,⟨b',l,p⟩,⟨q,r,u⟩,t',z,B⟩ h
  simp only [bw.pd,PD.agg.injEq,List.cons.injEq,PD.int.injEq,PD.lst.injEq,true_and,and_true,G3 injInt]at h
  simp [h]
theorem injEpoch:∀x y:bi,x.pd=y.pd->x=y:=by
  rintro⟨a,b,⟨c,d⟩,⟨e,f,g⟩,⟨s⟩⟩ ⟨j,b',⟨k,l⟩,⟨p,q,r⟩,⟨s'⟩⟩ h
  simp only [bi.pd,PD.agg.injEq,List.cons.injEq,PD.int.injEq,PD.lst.injEq,true_and,and_true,G3 injStage]at h
  simp [h]
theorem injChannel:∀x y:av,x.pd=y.pd->x=y:=by
  rintro⟨⟨a,b,c,d⟩,e⟩ ⟨⟨f,b',g,j⟩,k⟩ h
  simp only [av.pd,PD.agg.injEq,List.cons.injEq,PD.str.injEq,PD.lst.injEq,true_and,and_true,G3 injEpoch]at h
  simp [h]
theorem injInventory:∀x y:ag,x.pd=y.pd->x=y:=by
  rintro⟨a⟩ ⟨c⟩ h
  simp only [ag.pd,PD.agg.injEq,List.cons.injEq,PD.lst.injEq,and_true,G3 injChannel]at h
  simp [h]
def pG(d:ah):List Box:=[.var [.d (.lst (d.fL.map (PD.int .i64))),.d (.int .i64 d.fAt)]]
theorem injS{d c:ah}(h:pG d=pG c):d=c:=by
  obtain⟨a,b⟩:=d
  obtain⟨f,b'⟩:=c
  simp only [pG,List.cons.injEq,Box.var.injEq,RV.d.injEq,PD.lst.injEq,PD.int.injEq,true_and,and_true,G3 injInt]at h
  simp [h]
def BentIs(args:List RV)(bs:List Box)(y:ag×ah):Prop:=∃a d,args=[.ptr 0 0,.d (ag.pd a)]∧bs=pG d∧dT a d=some y
open Classical in
noncomputable def bentD:tI:=λ_ args bs=>if h:∃y,BentIs args bs y then some (.d (ag.pd h.choose.1),pG h.choose.2)else none
theorem bentD_ev{P:Program}{H:Hints}{ext:FuncId->Option tI}{g:FuncId}(k:ext g=some bentD){a:ag}{d:ah}{r:ag×ah}(h:dT a d=some r):
    EvP P H ext g [.ptr 0 0,.d (ag.pd a)] (pG d) (.d (ag.pd r.1),pG r.2):=by
  refine Ev.lib k ?_
  have f:∃y,BentIs [.ptr 0 0,.d (ag.pd a)] (pG d) y:=⟨r,a,d,rfl,rfl,h⟩
  unfold bentD
  rw [dif_pos f]
  obtain⟨l,p,h1,j,c⟩:=f.choose_spec
  simp only [List.cons.injEq,RV.d.injEq,true_and,and_true]at h1
  obtain rfl:=injInventory _ _ h1
  obtain rfl:=injS j
  rw [h]at c
  rw [<-Option.some.inj c]
theorem bentD_some{g:FuncId}{args:List RV}{bs c:List Box}{r:RV}(h:bentD g args bs=some (r,c)):
    ∃a d y,args=[.ptr 0 0,.d (ag.pd a)]∧bs=pG d∧dT a d=some y∧r= .d (ag.pd y.1)∧c=pG y.2:=by
  unfold bentD at h
  split at h
  · rename_i k
    cases h
    obtain⟨a,d,h1,f,j⟩:=k.choose_spec
    exact⟨a,d,_,h1,f,j,rfl,rfl⟩
  · cases h
end Go.Dw.Ef
