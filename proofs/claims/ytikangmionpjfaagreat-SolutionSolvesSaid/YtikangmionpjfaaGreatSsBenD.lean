
import Derived.Test.YtikangmionpjfaaGreatSsFn
open List renaming map_inj_right->Dz

namespace Go.Dw.Ss
open Go.Dw
theorem injInt:∀x y:Int,PD.int .i64 x=PD.int .i64 y->x=y:=fun x y h=>by cases h;rfl
theorem injStage:∀x y:bq,x.pd=y.pd->x=y:=by
  rintro⟨a,⟨b,c,d⟩,⟨e,f,g⟩,t,i,j⟩ ⟨k,⟨b',l,p⟩,⟨q,r,u⟩,t',z,B⟩ h
  simp only [bq.pd,PD.agg.injEq,List.cons.injEq,PD.int.injEq,PD.lst.injEq,true_and,and_true,Dz injInt]at h
  simp [h]
theorem injEpoch:∀x y:ba,x.pd=y.pd->x=y:=by
  rintro⟨a,b,⟨c,d⟩,⟨e,f,g⟩,⟨s⟩⟩ ⟨j,b',⟨k,l⟩,⟨p,q,r⟩,⟨s'⟩⟩ h
  simp only [ba.pd,PD.agg.injEq,List.cons.injEq,PD.int.injEq,PD.lst.injEq,true_and,and_true,Dz injStage]at h
  simp [h]
theorem injChannel:∀x y:aq,x.pd=y.pd->x=y:=by
  rintro⟨⟨a,b,c,d⟩,e⟩ ⟨⟨f,b',g,j⟩,k⟩ h
  simp only [aq.pd,PD.agg.injEq,List.cons.injEq,PD.str.injEq,PD.lst.injEq,true_and,and_true,Dz injEpoch]at h
  simp [h]
theorem injInventory:∀x y:ac,x.pd=y.pd->x=y:=by
  rintro⟨a⟩ ⟨c⟩ h
  simp only [ac.pd,PD.agg.injEq,List.cons.injEq,PD.lst.injEq,and_true,Dz injChannel]at h
  simp [h]
def mL(d:ag):List Box:=[.var [.d (.lst (d.fL.map (PD.int .i64))),.d (.int .i64 d.fAt)]]
theorem injS{d c:ag}(h:mL d=mL c):d=c:=by
  obtain⟨a,b⟩:=d
  obtain⟨f,b'⟩:=c
  simp only [mL,List.cons.injEq,Box.var.injEq,RV.d.injEq,PD.lst.injEq,PD.int.injEq,true_and,and_true,Dz injInt]at h
  simp [h]
def BentIs(args:List RV)(bs:List Box)(y:ac×ag):Prop:=∃a d,args=[.ptr 0 0,.d (ac.pd a)]∧bs=mL d∧cZ a d=some y
open Classical in
noncomputable def bentD:pA:=fun _ args bs=>if h:∃y,BentIs args bs y then some (.d (ac.pd h.choose.1),mL h.choose.2)else none
theorem bentD_ev{P:Program}{H:Hints}{ext:FuncId->Option pA}{g:FuncId}(k:ext g=some bentD){a:ac}{d:ag}{r:ac×ag}(h:cZ a d=some r):
    EvP P H ext g [.ptr 0 0,.d (ac.pd a)] (mL d) (.d (ac.pd r.1),mL r.2):=by
  refine Ev.lib k ?_
  have f:∃y,BentIs [.ptr 0 0,.d (ac.pd a)] (mL d) y:=⟨r,a,d,rfl,rfl,h⟩
  unfold bentD
  rw [dif_pos f]
  obtain⟨l,p,h1,j,c⟩:=f.choose_spec
  simp only [List.cons.injEq,RV.d.injEq,true_and,and_true]at h1
  obtain rfl:=injInventory _ _ h1
  obtain rfl:=injS j
  rw [h]at c
  rw [<-Option.some.inj c]
theorem bentD_some{g:FuncId}{args:List RV}{bs c:List Box}{r:RV}(h:bentD g args bs=some (r,c)):
    ∃a d y,args=[.ptr 0 0,.d (ac.pd a)]∧bs=mL d∧cZ a d=some y∧r= .d (ac.pd y.1)∧c=mL y.2:=by
  unfold bentD at h
  split at h
  · rename_i k
    cases h
    obtain⟨a,d,h1,f,j⟩:=k.choose_spec
    exact⟨a,d,_,h1,f,j,rfl,rfl⟩
  · cases h
end Go.Dw.Ss
