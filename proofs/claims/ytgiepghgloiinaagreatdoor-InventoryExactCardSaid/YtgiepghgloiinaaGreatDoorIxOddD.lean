
import Derived.Test.YtgiepghgloiinaaGreatDoorIxFn
open List renaming map_inj_right->CJ

namespace Go.Dw.Ix
open Go.Dw
theorem injInt:∀x y:Int,PD.int .i64 x=PD.int .i64 y->x=y:=fun x y h=>by cases h;rfl
theorem injStage:∀x y:ak,x.pd=y.pd->x=y:=by
  rintro⟨a,⟨b,c,d⟩,⟨e,f,g⟩,t,i,j⟩ ⟨k,⟨b',l,m⟩,⟨n,o,p⟩,t',q,r⟩ h
  simp only [ak.pd,PD.agg.injEq,List.cons.injEq,PD.int.injEq,PD.lst.injEq,true_and,and_true,CJ injInt]at h
  simp [h]
theorem injEpoch:∀x y:ah,x.pd=y.pd->x=y:=by
  rintro⟨a,b,⟨c,d⟩,⟨e,f,g⟩,⟨s⟩⟩ ⟨i,b',⟨j,k⟩,⟨l,m,n⟩,⟨s'⟩⟩ h
  simp only [ah.pd,PD.agg.injEq,List.cons.injEq,PD.int.injEq,PD.lst.injEq,true_and,and_true,CJ injStage]at h
  simp [h]
theorem injChannel:∀x y:aa,x.pd=y.pd->x=y:=by
  rintro⟨⟨a,b,c,d⟩,e⟩ ⟨⟨f,b',g,i⟩,j⟩ h
  simp only [aa.pd,PD.agg.injEq,List.cons.injEq,PD.str.injEq,PD.lst.injEq,true_and,and_true,CJ injEpoch]at h
  simp [h]
theorem injInventory:∀x y:ai,x.pd=y.pd->x=y:=by
  rintro⟨a⟩ ⟨b⟩ h
  simp only [ai.pd,PD.agg.injEq,List.cons.injEq,PD.lst.injEq,and_true,CJ injChannel]at h
  simp [h]
def boxS(d:ae):List Box:=[.var [.d (.lst (d.fL.map (PD.int .i64))),.d (.int .i64 d.fAt)]]
theorem injS{d c:ae}(h:boxS d=boxS c):d=c:=by
  obtain⟨a,b⟩:=d
  obtain⟨e,b'⟩:=c
  simp only [boxS,List.cons.injEq,Box.var.injEq,RV.d.injEq,PD.lst.injEq,PD.int.injEq,true_and,and_true,CJ injInt]at h
  simp [h]
def OddIs(args:List RV)(bs:List Box)(y:ai×ae):Prop:=∃a d,args=[.ptr 0 0,.d (ai.pd a)]∧bs=boxS d∧fc a d=some y
open Classical in
noncomputable def oddD:ko:=fun _ args bs=>if h:∃y,OddIs args bs y then some (.d (ai.pd h.choose.1),boxS h.choose.2)else none
theorem oddD_ev{P:Program}{H:Hints}{ext:FuncId->Option ko}{g:FuncId}(f:ext g=some oddD){a:ai}{d:ae}{r:ai×ae}(h:fc a d=some r):
    EvP P H ext g [.ptr 0 0,.d (ai.pd a)] (boxS d) (.d (ai.pd r.1),boxS r.2):=by
  refine Ev.lib f ?_
  have c:∃y,OddIs [.ptr 0 0,.d (ai.pd a)] (boxS d) y:=⟨r,a,d,rfl,rfl,h⟩
  unfold oddD
  rw [dif_pos c]
  obtain⟨i,j,h1,e,b⟩:=c.choose_spec
  simp only [List.cons.injEq,RV.d.injEq,true_and,and_true]at h1
  obtain rfl:=injInventory _ _ h1
  obtain rfl:=injS e
  rw [h]at b
  rw [<-Option.some.inj b]
theorem oddD_some{g:FuncId}{args:List RV}{bs b:List Box}{r:RV}(h:oddD g args bs=some (r,b)):
    ∃a d y,args=[.ptr 0 0,.d (ai.pd a)]∧bs=boxS d∧fc a d=some y∧r= .d (ai.pd y.1)∧b=boxS y.2:=by
  unfold oddD at h
  split at h
  · rename_i f
    cases h
    obtain⟨a,d,h1,c,e⟩:=f.choose_spec
    exact⟨a,d,_,h1,c,e,rfl,rfl⟩
  · cases h
end Go.Dw.Ix
