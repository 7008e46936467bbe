/- EventClusters holds: for every list of numbers the law returns true, and the list reads as it did. Its conditions: none but the row's own. -/
import Derived.Test.YtmmgjlgoggielaaGreatEkEv
import Derived.Test.YtmmgjlgoggielaaGreatEkLawEF
import Derived.Test.YtmmgjlgoggielaaGreatDwArg
import Derived.Test.YtmmgjlgoggielaaGreatDwSort
import Derived.Test.YtmmgjlgoggielaaGreatDwClone
import Derived.Test.YtmmgjlgoggielaaGreatDwSortI
import Derived.Test.YtmmgjlgoggielaaGreatShelfX
import Derived.Test.YtmmgjlgoggielaaGreatRows
import Derived.WalkKit
import Derived.ProofKit
import Derived.OpenShut
import Derived.Deep.DeepHandedRow
import Derived.Lay
import Derived.Lib.LaidTab

namespace Go.Proofs
namespace YtmmgjlgoggielaaGreat
open Go.ChangeShapes Go.WideShapes Go.ChangeAt Go.RowKit Go.Dw
set_option maxRecDepth 100000
theorem own:ownKnob Tryz.prog.godebug=none:=by kernel_rfl
theorem mixed:Tryz.prog.follows .mixedOrders=true:=by kernel_rfl
theorem entersLaw:Dw.Enters Tryz.prog 7:=⟨Tryz.f7,Tryz.func7,by decide+kernel,by kernel_rfl⟩
theorem enters79:Dw.Enters Tryz.prog 79:=⟨Tryz.f79,Tryz.func79,by decide+kernel,by kernel_rfl⟩
theorem enters80:Dw.Enters Tryz.prog 80:=⟨Tryz.f80,Tryz.func80,by decide+kernel,by kernel_rfl⟩
theorem sort_nil79(base:vV):sk Tryz.prog base 79 [.ref 0 0,.d (.raw (.func (.func 80) #[] #[]))] [.arr 0 66 []] (.tup []) [.arr 0 66 []]:=
  u7 (H:={ at_:=fun _ _ _=>[],mt:=fun _ _=>false,by_:=fun _ i=>i==0,own:=fun _ _=>false }) (yf _ _) mixed 60 _ _ _ _ _ (by kernel_rfl)
theorem enters182:Dw.Enters Tryz.prog 182:=⟨Tryz.f182,Tryz.func182,by decide+kernel,by kernel_rfl⟩
theorem info66:∃i0 z,Tryz.prog.info? 66=some i0∧i0.zero=some z∧i0.size=9∧i0.bytes=104∧z.cells.size=9:=
  ⟨(Tryz.prog.info? 66).get (by kernel_rfl),((Tryz.prog.info? 66).get (by kernel_rfl)).zero.getD (.bool false),(Option.some_get _).symm,by kernel_rfl,by kernel_rfl,by kernel_rfl,by kernel_rfl⟩
theorem enters325:Dw.Enters Tryz.prog 325:=⟨Tryz.f325,Tryz.func325,by decide+kernel,by kernel_rfl⟩
theorem info113:∃i0 z,Tryz.prog.info? 113=some i0∧i0.zero=some z∧i0.size=8∧i0.bytes=80∧z.cells.size=8:=
  ⟨(Tryz.prog.info? 113).get (by kernel_rfl),((Tryz.prog.info? 113).get (by kernel_rfl)).zero.getD (.bool false),(Option.some_get _).symm,by kernel_rfl,by kernel_rfl,by kernel_rfl,by kernel_rfl⟩
theorem enters364:Dw.Enters Tryz.prog 364:=⟨Tryz.f364,Tryz.func364,by decide+kernel,by kernel_rfl⟩
theorem info184:∃i0 z,Tryz.prog.info? 184=some i0∧i0.zero=some z∧i0.size=10∧i0.bytes=96∧z.cells.size=10:=
  ⟨(Tryz.prog.info? 184).get (by kernel_rfl),((Tryz.prog.info? 184).get (by kernel_rfl)).zero.getD (.bool false),(Option.some_get _).symm,by kernel_rfl,by kernel_rfl,by kernel_rfl,by kernel_rfl⟩
theorem enters107:Dw.Enters Tryz.prog 107:=⟨Tryz.f107,Tryz.func107,by decide+kernel,by kernel_rfl⟩
theorem info3:∃i0 z,Tryz.prog.info? 3=some i0∧i0.zero=some z∧i0.size=1∧i0.bytes=8∧z.cells.size=1:=
  ⟨(Tryz.prog.info? 3).get (by kernel_rfl),((Tryz.prog.info? 3).get (by kernel_rfl)).zero.getD (.bool false),(Option.some_get _).symm,by kernel_rfl,by kernel_rfl,by kernel_rfl,by kernel_rfl⟩
theorem enters133:Dw.Enters Tryz.prog 133:=⟨Tryz.f133,Tryz.func133,by decide+kernel,by kernel_rfl⟩
theorem sort_nil133(base:vV):sk Tryz.prog base 133 [.ref 0 0] [.arr 0 3 []] (.tup []) [.arr 0 3 []]:=
  u7 (H:={ at_:=fun _ _ _=>[],mt:=fun _ _=>false,by_:=fun _ i=>i==0,own:=fun _ _=>false }) (yf _ _) mixed 60 _ _ _ _ _ (by kernel_rfl)
def base0:vV:=⟨fun _=>none,False,[]⟩
theorem ext_ok:ExtOk Tryz.prog base0 Ek.ext:=by
  intro f g hf args bs r bs' h
  unfold Ek.ext at hf
  split at hf
  · rename_i hf'
    cases hf
    subst hf'
    exact sort_ok (α:=Ek.ae) (pd:=Ek.ae.pd) (cmp:=Ek.ca) (g:=80) (e:=66) (k:=9) Tryz.laysSort79 rfl rfl enters79 enters80 (enters_of Tryz.func80 (by kernel_rfl) rfl) Tryz.isAgg66 Tryz.sizeOf66 (by kernel_rfl) (fun _=>rfl) (fun _=>⟨_,rfl⟩) (fun _=>rfl)
      (fun x y c hc=>(Ek.pN hc).callOk (yf _ _) mixed) (sort_nil79 _) args bs r bs' h
  split at hf
  · rename_i hf'
    cases hf
    subst hf'
    obtain⟨i0,z,g0,g1,g2,g3,g4⟩:=info66
    exact wz Tryz.laysClone182 (fun h=>h) rfl rfl enters182 g0 g1 g2 g3 g4 za za Tryz.sizeOf66 args bs r bs' h
  split at hf
  · rename_i hf'
    cases hf
    subst hf'
    obtain⟨i0,z,g0,g1,g2,g3,g4⟩:=info113
    exact wz Tryz.laysClone325 (fun h=>h) rfl rfl enters325 g0 g1 g2 g3 g4 za za Tryz.sizeOf113 args bs r bs' h
  split at hf
  · rename_i hf'
    cases hf
    subst hf'
    obtain⟨i0,z,g0,g1,g2,g3,g4⟩:=info184
    exact wz Tryz.laysClone364 (fun h=>h) rfl rfl enters364 g0 g1 g2 g3 g4 za za Tryz.sizeOf184 args bs r bs' h
  split at hf
  · rename_i hf'
    cases hf
    subst hf'
    obtain⟨i0,z,g0,g1,g2,g3,g4⟩:=info3
    exact wz Tryz.laysClone107 (fun h=>h) rfl rfl enters107 g0 g1 g2 g3 g4 za za Tryz.sizeOf3 args bs r bs' h
  split at hf
  · rename_i hf'
    cases hf
    subst hf'
    exact sortI_ok Tryz.lays189 rfl enters133 (by kernel_rfl) (sort_nil133 _) args bs r bs' h
  cases hf
theorem ints_of{ps:List PD}(h:zH Tryz.prog 3 [22] ps):∃l:List Int,ps=[.lst (l.map (.int .i64))]:=by
  match ps,h with
  | [p],⟨h,_⟩=>
    obtain⟨l,rfl,_⟩:=ShV.ints Tryz.underlying22 Tryz.underlying3 h
    exact⟨l,rfl⟩
theorem contract(H:Type)(enc:TypeId×Value->H)(W:World)(base:Nat)(args:Array Value)(ds gs:List (DataW H))(before:List MemPlace)
    (hval:∀(j:Nat)t v,Tryz.f7.params[j]? =some t->args[j]? =some v->Value.okWide Tryz.prog W .any base t v)
    (hW:DataW.Whole enc Tryz.prog Tryz.f7.params.toList Rows.eventClustersSpec.vars false W args.toList ds gs before):
    Calls Tryz.prog 7 args W fun e W'=>∃v,e= .returned v∧Rows.eventClustersSpec.post enc Tryz.prog Tryz.f7 false true false false W args v W':=by
  refine Bx (base:=base0) (d:=3) (tb:=4) entersLaw hval hW (by kernel_rfl) rfl (fun ds h=>?_) (by kernel_rfl) Tryz.underlying4 (fun a v h=>by cases h) (fun x hx=>by cases hx) (fun pds h=>?_)
  · have h1:Tryz.f7.params.size=1:=by kernel_rfl
    rw [h1]at h
    obtain⟨d,rfl⟩:=List.length_eq_one_iff.1 h
    rfl
  · obtain⟨l,rfl⟩:=ints_of (show zH Tryz.prog 3 [22] pds from h)
    exact(Ek.nR (Ek.pZ l)).callOk ext_ok mixed
def wit:Array Value:= #[.slice none 0 0]
noncomputable def laidWorld (os:Os):World:=World.laidAll Tryz.prog os Rows.eventClustersRow.laid
theorem laid_met(os:Os):laidMet Tryz.prog Rows.eventClustersRow.laid ((laidWorld os).forCall (fun _ _=>0) ⟨#[],wit,[]⟩).memory:=
  laidMet_laidAll _ (by kernel_rfl) (by kernel_rfl)
theorem reads(os:Os){H:Type}(enc:TypeId×Value->H):∃places,DataW.whole enc Tryz.prog ((laidWorld os).forCall (fun _ _=>0) ⟨#[],wit,[]⟩).memory Tryz.f7.params.toList Rows.eventClustersSpec.vars false wit.toList 8=some ([.nil],[],places):=
  ⟨[],by kernel_rfl⟩
theorem lifted(os:Os)(started:os.Started)(H:Type)(enc:TypeId×Value->H)(F:Stop.Interp):
    ReturnsInHanded {} Tryz.checked os 7 .any ((OpenSpec.ofChange Rows.eventClustersSpec).preRow enc Tryz.prog Tryz.f7 Rows.eventClustersRow.domain false Rows.eventClustersRow.laid) (((OpenSpec.ofChange Rows.eventClustersSpec).at F).post enc Tryz.prog Tryz.f7 false true false false):=by
  obtain⟨places,hx⟩:=reads os enc
  refine returnsInHanded_of_row (C:=Tryz.checked) (s:=OpenSpec.ofChange Rows.eventClustersSpec) own started (by kernel_rfl) Tryz.func7
    (witness_row_at (enc := enc) (C := Tryz.checked) false (laidWorld os) wit (World.laidAll_os _ _ _) (by kernel_rfl) (by kernel_rfl) (by kernel_rfl)
      (OpenSpec.preRow_of_cond 8 hx (by kernel_rfl) (fun k hk=>by cases hk) (by kernel_rfl) (laid_met os))) ?_
  intro W base args ds gs before hval hW _ _ _ hL hS _
  exact contract H enc W base args ds gs before hval hW
theorem fact2:laidOutB Tryz.prog=true:=by kernel_rfl
theorem fact3:mapsRowed Tryz.prog=true:=by kernel_rfl
theorem fact10:(Rows.eventClustersRow.inPlace==Tryz.prog.inPlace 7)=true:=by kernel_rfl
theorem fact11:(Rows.eventClustersRow.unfollowed==Tryz.prog.unfollowed 7)=true:=by kernel_rfl
theorem fact12:(Rows.eventClustersRow.recurses==Tryz.prog.recurses 7)=true:=by kernel_rfl
theorem fact13:(Rows.eventClustersRow.named==Tryz.prog.varsNamed 7)=true:=by kernel_rfl
theorem ju{a b:Bool}(h:a=true)(k:b=true):(a&&b)=true:=by rw [h,k];rfl
theorem facts:joinedFacts Tryz.prog 7 Tryz.f7 Rows.eventClustersSpec Rows.eventClustersRow=true:=
  (ju (ju (ju (ju (ju (ju (ju (ju (ju (ju (ju (ju (ju (ju (ju (ju (ju (ju (ju (ju (ju (ju (ju (ju (ju (ju (ju (ju (ju (ju (ju (by kernel_rfl) fact2) fact3) (by kernel_rfl)) (by kernel_rfl)) (by kernel_rfl)) (by kernel_rfl)) (by kernel_rfl)) (by kernel_rfl)) fact10) fact11) fact12) fact13) (by kernel_rfl)) (by kernel_rfl)) (by kernel_rfl)) (by kernel_rfl)) (by kernel_rfl)) (by kernel_rfl)) (by kernel_rfl)) (by kernel_rfl)) (by kernel_rfl)) (by kernel_rfl)) (by kernel_rfl)) (by kernel_rfl)) (by kernel_rfl)) (by kernel_rfl)) (by kernel_rfl)) (by kernel_rfl)) (by kernel_rfl)) (by kernel_rfl)) (by kernel_rfl))
theorem said:Rows.EventClustersSaid:=
  OpenClaim.holds_of_cond 7 Tryz.f7 rfl rfl rfl rfl rfl rfl rfl ⟨rfl,rfl,rfl,rfl,rfl⟩ rfl rfl rfl rfl rfl (by kernel_rfl) Tryz.func7 facts
    (of_decide_eq_true (by kernel_rfl)) (by unfold Func.isWrapper;first|(rw [if_pos (by decide+kernel)];kernel_rfl)|(rw [if_neg (by decide+kernel)];exact⟨rfl,rfl⟩))
    (fun os started H enc _ F=>by rw [OpenClaim.pre_eq_preRow];exact lifted os started H enc F)
end YtmmgjlgoggielaaGreat
end Go.Proofs
