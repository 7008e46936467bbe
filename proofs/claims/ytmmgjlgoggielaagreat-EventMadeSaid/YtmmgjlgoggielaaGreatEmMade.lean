/- EventMade holds: for every list of numbers the law returns true, and the list reads as it did. Its conditions: none but the row's own. -/
import Derived.Test.YtmmgjlgoggielaaGreatEmEv
import Derived.Test.YtmmgjlgoggielaaGreatEmLawEE
import Derived.Test.YtmmgjlgoggielaaGreatDwArg
import Derived.Test.YtmmgjlgoggielaaGreatDwSort
import Derived.Test.YtmmgjlgoggielaaGreatDwClone
import Derived.Test.YtmmgjlgoggielaaGreatDwSortI
import Derived.Test.YtmmgjlgoggielaaGreatShelfX
import Derived.Test.YtmmgjlgoggielaaGreatRows
import Derived.WalkKit
import Derived.ProofKit
import Derived.OpenShut
import Derived.Deep.DeepHandedRow
import Derived.Lay
import Derived.Lib.LaidTab

namespace Go.Proofs
namespace YtmmgjlgoggielaaGreat
open Go.ChangeShapes Go.WideShapes Go.ChangeAt Go.RowKit Go.Dw
set_option maxRecDepth 100000
theorem own:ownKnob Tryz.prog.godebug=none:=by kernel_rfl
theorem mixed:Tryz.prog.follows .mixedOrders=true:=by kernel_rfl
theorem entersLaw:Dw.Enters Tryz.prog 6:=⟨Tryz.f6,Tryz.func6,by decide+kernel,by kernel_rfl⟩
theorem enters79:Dw.Enters Tryz.prog 79:=⟨Tryz.f79,Tryz.func79,by decide+kernel,by kernel_rfl⟩
theorem enters80:Dw.Enters Tryz.prog 80:=⟨Tryz.f80,Tryz.func80,by decide+kernel,by kernel_rfl⟩
theorem sort_nil79(base:wW):tK Tryz.prog base 79 [.ref 0 0,.d (.raw (.func (.func 80) #[] #[]))] [.arr 0 66 []] (.tup []) [.arr 0 66 []]:=
  wo (H:={ at_:=fun _ _ _=>[],mt:=fun _ _=>false,by_:=fun _ i=>i==0,own:=fun _ _=>false }) (zf _ _) mixed 60 _ _ _ _ _ (by kernel_rfl)
theorem enters182:Dw.Enters Tryz.prog 182:=⟨Tryz.f182,Tryz.func182,by decide+kernel,by kernel_rfl⟩
theorem info66:∃i0 z,Tryz.prog.info? 66=some i0∧i0.zero=some z∧i0.size=9∧i0.bytes=104∧z.cells.size=9:=
  ⟨(Tryz.prog.info? 66).get (by kernel_rfl),((Tryz.prog.info? 66).get (by kernel_rfl)).zero.getD (.bool false),(Option.some_get _).symm,by kernel_rfl,by kernel_rfl,by kernel_rfl,by kernel_rfl⟩
theorem enters325:Dw.Enters Tryz.prog 325:=⟨Tryz.f325,Tryz.func325,by decide+kernel,by kernel_rfl⟩
theorem info113:∃i0 z,Tryz.prog.info? 113=some i0∧i0.zero=some z∧i0.size=8∧i0.bytes=80∧z.cells.size=8:=
  ⟨(Tryz.prog.info? 113).get (by kernel_rfl),((Tryz.prog.info? 113).get (by kernel_rfl)).zero.getD (.bool false),(Option.some_get _).symm,by kernel_rfl,by kernel_rfl,by kernel_rfl,by kernel_rfl⟩
theorem enters364:Dw.Enters Tryz.prog 364:=⟨Tryz.f364,Tryz.func364,by decide+kernel,by kernel_rfl⟩
theorem info184:∃i0 z,Tryz.prog.info? 184=some i0∧i0.zero=some z∧i0.size=10∧i0.bytes=96∧z.cells.size=10:=
  ⟨(Tryz.prog.info? 184).get (by kernel_rfl),((Tryz.prog.info? 184).get (by kernel_rfl)).zero.getD (.bool false),(Option.some_get _).symm,by kernel_rfl,by kernel_rfl,by kernel_rfl,by kernel_rfl⟩
theorem enters107:Dw.Enters Tryz.prog 107:=⟨Tryz.f107,Tryz.func107,by decide+kernel,by kernel_rfl⟩
theorem info3:∃i0 z,Tryz.prog.info? 3=some i0∧i0.zero=some z∧i0.size=1∧i0.bytes=8∧z.cells.size=1:=
  ⟨(Tryz.prog.info? 3).get (by kernel_rfl),((Tryz.prog.info? 3).get (by kernel_rfl)).zero.getD (.bool false),(Option.some_get _).symm,by kernel_rfl,by kernel_rfl,by kernel_rfl,by kernel_rfl⟩
theorem enters133:Dw.Enters Tryz.prog 133:=⟨Tryz.f133,Tryz.func133,by decide+kernel,by kernel_rfl⟩
theorem sort_nil133(base:wW):tK Tryz.prog base 133 [.ref 0 0] [.arr 0 3 []] (.tup []) [.arr 0 3 []]:=
  wo (H:={ at_:=fun _ _ _=>[],mt:=fun _ _=>false,by_:=fun _ i=>i==0,own:=fun _ _=>false }) (zf _ _) mixed 60 _ _ _ _ _ (by kernel_rfl)
def base0:wW:=⟨fun _=>none,False,[]⟩
theorem ext_ok:ExtOk Tryz.prog base0 Em.ext:=by
  intro f g hf args bs r bs' h
  unfold Em.ext at hf
  split at hf
  · rename_i hf'
    cases hf
    subst hf'
    exact sort_ok (α:=Em.ai) (pd:=Em.ai.pd) (cmp:=Em.cA) (g:=80) (e:=66) (k:=9) Tryz.laysSort79 rfl rfl enters79 enters80 (enters_of Tryz.func80 (by kernel_rfl) rfl) Tryz.isAgg66 Tryz.sizeOf66 (by kernel_rfl) (fun _=>rfl) (fun _=>⟨_,rfl⟩) (fun _=>rfl)
      (fun x y c hc=>(Em.qU hc).callOk (zf _ _) mixed) (sort_nil79 _) args bs r bs' h
  split at hf
  · rename_i hf'
    cases hf
    subst hf'
    obtain⟨i0,z,g0,g1,g2,g3,g4⟩:=info66
    exact xq Tryz.laysClone182 (fun h=>h) rfl rfl enters182 g0 g1 g2 g3 g4 za za Tryz.sizeOf66 args bs r bs' h
  split at hf
  · rename_i hf'
    cases hf
    subst hf'
    obtain⟨i0,z,g0,g1,g2,g3,g4⟩:=info113
    exact xq Tryz.laysClone325 (fun h=>h) rfl rfl enters325 g0 g1 g2 g3 g4 za za Tryz.sizeOf113 args bs r bs' h
  split at hf
  · rename_i hf'
    cases hf
    subst hf'
    obtain⟨i0,z,g0,g1,g2,g3,g4⟩:=info184
    exact xq Tryz.laysClone364 (fun h=>h) rfl rfl enters364 g0 g1 g2 g3 g4 za za Tryz.sizeOf184 args bs r bs' h
  split at hf
  · rename_i hf'
    cases hf
    subst hf'
    obtain⟨i0,z,g0,g1,g2,g3,g4⟩:=info3
    exact xq Tryz.laysClone107 (fun h=>h) rfl rfl enters107 g0 g1 g2 g3 g4 za za Tryz.sizeOf3 args bs r bs' h
  split at hf
  · rename_i hf'
    cases hf
    subst hf'
    exact sortI_ok Tryz.lays189 rfl enters133 (by kernel_rfl) (sort_nil133 _) args bs r bs' h
  cases hf
theorem ints_of{ps:List PD}(h:Ay Tryz.prog 3 [22] ps):∃l:List Int,ps=[.lst (l.map (.int .i64))]:=by
  match ps,h with
  | [p],⟨h,_⟩=>
    obtain⟨l,rfl,_⟩:=ShV.ints Tryz.underlying22 Tryz.underlying3 h
    exact⟨l,rfl⟩
theorem contract(H:Type)(enc:TypeId×Value->H)(W:World)(base:Nat)(args:Array Value)(ds gs:List (DataW H))(before:List MemPlace)
    (hval:∀(j:Nat)t v,Tryz.f6.params[j]? =some t->args[j]? =some v->Value.okWide Tryz.prog W .any base t v)
    (hW:DataW.Whole enc Tryz.prog Tryz.f6.params.toList Rows.eventMadeSpec.vars false W args.toList ds gs before):
    Calls Tryz.prog 6 args W fun e W'=>∃v,e= .returned v∧Rows.eventMadeSpec.post enc Tryz.prog Tryz.f6 false true false false W args v W':=by
  refine B4 (base:=base0) (d:=3) (tb:=4) entersLaw hval hW (by kernel_rfl) rfl (fun ds h=>?_) (by kernel_rfl) Tryz.underlying4 (fun a v h=>by cases h) (fun x hx=>by cases hx) (fun pds h=>?_)
  · have h1:Tryz.f6.params.size=1:=by kernel_rfl
    rw [h1]at h
    obtain⟨d,rfl⟩:=List.length_eq_one_iff.1 h
    rfl
  · obtain⟨l,rfl⟩:=ints_of (show Ay Tryz.prog 3 [22] pds from h)
    exact(Em.qQ (Em.EventMade_law l)).callOk ext_ok mixed
def wit:Array Value:= #[.slice none 0 0]
noncomputable def laidWorld (os:Os):World:=World.laidAll Tryz.prog os Rows.eventMadeRow.laid
theorem laid_met(os:Os):laidMet Tryz.prog Rows.eventMadeRow.laid ((laidWorld os).forCall (fun _ _=>0) ⟨#[],wit,[]⟩).memory:=
  laidMet_laidAll _ (by kernel_rfl) (by kernel_rfl)
theorem reads(os:Os){H:Type}(enc:TypeId×Value->H):∃places,DataW.whole enc Tryz.prog ((laidWorld os).forCall (fun _ _=>0) ⟨#[],wit,[]⟩).memory Tryz.f6.params.toList Rows.eventMadeSpec.vars false wit.toList 8=some ([.nil],[],places):=
  ⟨[],by kernel_rfl⟩
theorem lifted(os:Os)(started:os.Started)(H:Type)(enc:TypeId×Value->H)(F:Stop.Interp):
    ReturnsInHanded {} Tryz.checked os 6 .any ((OpenSpec.ofChange Rows.eventMadeSpec).preRow enc Tryz.prog Tryz.f6 Rows.eventMadeRow.domain false Rows.eventMadeRow.laid) (((OpenSpec.ofChange Rows.eventMadeSpec).at F).post enc Tryz.prog Tryz.f6 false true false false):=by
  obtain⟨places,hx⟩:=reads os enc
  refine returnsInHanded_of_row (C:=Tryz.checked) (s:=OpenSpec.ofChange Rows.eventMadeSpec) own started (by kernel_rfl) Tryz.func6
    (witness_row_at (enc := enc) (C := Tryz.checked) false (laidWorld os) wit (World.laidAll_os _ _ _) (by kernel_rfl) (by kernel_rfl) (by kernel_rfl)
      (OpenSpec.preRow_of_cond 8 hx (by kernel_rfl) (fun k hk=>by cases hk) (by kernel_rfl) (laid_met os))) ?_
  intro W base args ds gs before hval hW _ _ _ hL hS _
  exact contract H enc W base args ds gs before hval hW
theorem fact2:laidOutB Tryz.prog=true:=by kernel_rfl
theorem fact3:mapsRowed Tryz.prog=true:=by kernel_rfl
theorem fact10:(Rows.eventMadeRow.inPlace==Tryz.prog.inPlace 6)=true:=by kernel_rfl
theorem fact11:(Rows.eventMadeRow.unfollowed==Tryz.prog.unfollowed 6)=true:=by kernel_rfl
theorem fact12:(Rows.eventMadeRow.recurses==Tryz.prog.recurses 6)=true:=by kernel_rfl
theorem fact13:(Rows.eventMadeRow.named==Tryz.prog.varsNamed 6)=true:=by kernel_rfl
theorem jU{a b:Bool}(h:a=true)(k:b=true):(a&&b)=true:=by rw [h,k];rfl
theorem facts:joinedFacts Tryz.prog 6 Tryz.f6 Rows.eventMadeSpec Rows.eventMadeRow=true:=
  (jU (jU (jU (jU (jU (jU (jU (jU (jU (jU (jU (jU (jU (jU (jU (jU (jU (jU (jU (jU (jU (jU (jU (jU (jU (jU (jU (jU (jU (jU (jU (by kernel_rfl) fact2) fact3) (by kernel_rfl)) (by kernel_rfl)) (by kernel_rfl)) (by kernel_rfl)) (by kernel_rfl)) (by kernel_rfl)) fact10) fact11) fact12) fact13) (by kernel_rfl)) (by kernel_rfl)) (by kernel_rfl)) (by kernel_rfl)) (by kernel_rfl)) (by kernel_rfl)) (by kernel_rfl)) (by kernel_rfl)) (by kernel_rfl)) (by kernel_rfl)) (by kernel_rfl)) (by kernel_rfl)) (by kernel_rfl)) (by kernel_rfl)) (by kernel_rfl)) (by kernel_rfl)) (by kernel_rfl)) (by kernel_rfl)) (by kernel_rfl))
theorem said:Rows.EventMadeSaid:=
  OpenClaim.holds_of_cond 6 Tryz.f6 rfl rfl rfl rfl rfl rfl rfl ⟨rfl,rfl,rfl,rfl,rfl⟩ rfl rfl rfl rfl rfl (by kernel_rfl) Tryz.func6 facts
    (of_decide_eq_true (by kernel_rfl)) (by unfold Func.isWrapper;first|(rw [if_pos (by decide+kernel)];kernel_rfl)|(rw [if_neg (by decide+kernel)];exact⟨rfl,rfl⟩))
    (fun os started H enc _ F=>by rw [OpenClaim.pre_eq_preRow];exact lifted os started H enc F)
end YtmmgjlgoggielaaGreat
end Go.Proofs
