/- OfflineDiffers holds: for every list of numbers the law returns true, and the list reads as it did. Its conditions: none but the row's own. -/
import Derived.Test.YtgdhcacjeppglaaGreatOdEv
import Derived.Test.YtgdhcacjeppglaaGreatOdLaw
import Derived.Test.YtgdhcacjeppglaaGreatDwFun
import Derived.Test.YtgdhcacjeppglaaGreatDwConst
import Derived.Test.YtgdhcacjeppglaaGreatOcT
import Derived.Test.YtgdhcacjeppglaaGreatDwArg
import Derived.Test.YtgdhcacjeppglaaGreatDwSort
import Derived.Test.YtgdhcacjeppglaaGreatDwClone
import Derived.Test.YtgdhcacjeppglaaGreatShelfO
import Derived.Test.YtgdhcacjeppglaaGreatRows
import Derived.WalkKit
import Derived.ProofKit
import Derived.OpenShut
import Derived.Deep.DeepHandedRow
import Derived.Lay
import Derived.Lib.LaidTab
set_option linter.unusedVariables false
set_option linter.unusedSimpArgs false
open Option renaming some_get->C6

namespace Go.Proofs
namespace YtgdhcacjeppglaaGreat
open Go.ChangeShapes Go.WideShapes Go.ChangeAt Go.RowKit Go.Dw
set_option maxRecDepth 100000
theorem own:ownKnob Tryz.prog.godebug=none:=by kernel_rfl
theorem mixed:Tryz.prog.follows .mixedOrders=true:=by kernel_rfl
theorem entersLaw:Dw.Enters Tryz.prog 3:=⟨Tryz.f3,Tryz.func3,by decide+kernel,by kernel_rfl⟩
theorem enters118:Dw.Enters Tryz.prog 118:=⟨Tryz.f118,Tryz.func118,by decide+kernel,by kernel_rfl⟩
theorem info154:∃i0 z,Tryz.prog.info? 154=some i0∧i0.zero=some z∧i0.size=12∧i0.bytes=144∧z.cells.size=12:=
  ⟨(Tryz.prog.info? 154).get (by kernel_rfl),((Tryz.prog.info? 154).get (by kernel_rfl)).zero.getD (.bool false),(C6 _).symm,by kernel_rfl,by kernel_rfl,by kernel_rfl,by kernel_rfl⟩
theorem enters98:Dw.Enters Tryz.prog 98:=⟨Tryz.f98,Tryz.func98,by decide+kernel,by kernel_rfl⟩
theorem info3:∃i0 z,Tryz.prog.info? 3=some i0∧i0.zero=some z∧i0.size=1∧i0.bytes=8∧z.cells.size=1:=
  ⟨(Tryz.prog.info? 3).get (by kernel_rfl),((Tryz.prog.info? 3).get (by kernel_rfl)).zero.getD (.bool false),(C6 _).symm,by kernel_rfl,by kernel_rfl,by kernel_rfl,by kernel_rfl⟩
theorem enters131:Dw.Enters Tryz.prog 131:=⟨Tryz.f131,Tryz.func131,by decide+kernel,by kernel_rfl⟩
theorem info161:∃i0 z,Tryz.prog.info? 161=some i0∧i0.zero=some z∧i0.size=5∧i0.bytes=88∧z.cells.size=5:=
  ⟨(Tryz.prog.info? 161).get (by kernel_rfl),((Tryz.prog.info? 161).get (by kernel_rfl)).zero.getD (.bool false),(C6 _).symm,by kernel_rfl,by kernel_rfl,by kernel_rfl,by kernel_rfl⟩
theorem enters101:Dw.Enters Tryz.prog 101:=⟨Tryz.f101,Tryz.func101,by decide+kernel,by kernel_rfl⟩
theorem info40:∃i0 z,Tryz.prog.info? 40=some i0∧i0.zero=some z∧i0.size=9∧i0.bytes=104∧z.cells.size=9:=
  ⟨(Tryz.prog.info? 40).get (by kernel_rfl),((Tryz.prog.info? 40).get (by kernel_rfl)).zero.getD (.bool false),(C6 _).symm,by kernel_rfl,by kernel_rfl,by kernel_rfl,by kernel_rfl⟩
theorem enters106:Dw.Enters Tryz.prog 106:=⟨Tryz.f106,Tryz.func106,by decide+kernel,by kernel_rfl⟩
theorem info127:∃i0 z,Tryz.prog.info? 127=some i0∧i0.zero=some z∧i0.size=8∧i0.bytes=80∧z.cells.size=8:=
  ⟨(Tryz.prog.info? 127).get (by kernel_rfl),((Tryz.prog.info? 127).get (by kernel_rfl)).zero.getD (.bool false),(C6 _).symm,by kernel_rfl,by kernel_rfl,by kernel_rfl,by kernel_rfl⟩
theorem enters107:Dw.Enters Tryz.prog 107:=⟨Tryz.f107,Tryz.func107,by decide+kernel,by kernel_rfl⟩
theorem info193:∃i0 z,Tryz.prog.info? 193=some i0∧i0.zero=some z∧i0.size=10∧i0.bytes=96∧z.cells.size=10:=
  ⟨(Tryz.prog.info? 193).get (by kernel_rfl),((Tryz.prog.info? 193).get (by kernel_rfl)).zero.getD (.bool false),(C6 _).symm,by kernel_rfl,by kernel_rfl,by kernel_rfl,by kernel_rfl⟩
theorem enters109:Dw.Enters Tryz.prog 109:=⟨Tryz.f109,Tryz.func109,by decide+kernel,by kernel_rfl⟩
theorem info52:∃i0 z,Tryz.prog.info? 52=some i0∧i0.zero=some z∧i0.size=25∧i0.bytes=248∧z.cells.size=25:=
  ⟨(Tryz.prog.info? 52).get (by kernel_rfl),((Tryz.prog.info? 52).get (by kernel_rfl)).zero.getD (.bool false),(C6 _).symm,by kernel_rfl,by kernel_rfl,by kernel_rfl,by kernel_rfl⟩
theorem enters71:Dw.Enters Tryz.prog 71:=⟨Tryz.f71,Tryz.func71,by decide+kernel,by kernel_rfl⟩
theorem info116:∃i0 z,Tryz.prog.info? 116=some i0∧i0.zero=some z∧i0.size=4∧i0.bytes=32∧z.cells.size=4:=
  ⟨(Tryz.prog.info? 116).get (by kernel_rfl),((Tryz.prog.info? 116).get (by kernel_rfl)).zero.getD (.bool false),(C6 _).symm,by kernel_rfl,by kernel_rfl,by kernel_rfl,by kernel_rfl⟩
theorem enters239:Dw.Enters Tryz.prog 239:=⟨Tryz.f239,Tryz.func239,by decide+kernel,by kernel_rfl⟩
theorem info119:∃i0 z,Tryz.prog.info? 119=some i0∧i0.zero=some z∧i0.size=5∧i0.bytes=88∧z.cells.size=5:=
  ⟨(Tryz.prog.info? 119).get (by kernel_rfl),((Tryz.prog.info? 119).get (by kernel_rfl)).zero.getD (.bool false),(C6 _).symm,by kernel_rfl,by kernel_rfl,by kernel_rfl,by kernel_rfl⟩
def base0:iZ:=⟨fun _=>none,False,[]⟩
theorem extC_ok:jT Tryz.prog base0 Oc.extC:=by
  intro f g hf args bs r b h
  unfold Oc.extC at hf
  split at hf
  · rename_i a
    cases hf
    subst a
    obtain⟨i0,z,g0,g1,g2,g3,g4⟩:=info154
    exact ek Tryz.laysClone118 (fun h=>h) rfl rfl enters118 g0 g1 g2 g3 g4 om om Tryz.sizeOf154 args bs r b h
  split at hf
  · rename_i a
    cases hf
    subst a
    obtain⟨i0,z,g0,g1,g2,g3,g4⟩:=info3
    exact ek Tryz.laysClone98 (fun h=>h) rfl rfl enters98 g0 g1 g2 g3 g4 om om Tryz.sizeOf3 args bs r b h
  split at hf
  · rename_i a
    cases hf
    subst a
    obtain⟨i0,z,g0,g1,g2,g3,g4⟩:=info161
    exact ek Tryz.laysClone131 (fun h=>h) rfl rfl enters131 g0 g1 g2 g3 g4 om om Tryz.sizeOf161 args bs r b h
  split at hf
  · rename_i a
    cases hf
    subst a
    obtain⟨i0,z,g0,g1,g2,g3,g4⟩:=info40
    exact ek Tryz.laysClone101 (fun h=>h) rfl rfl enters101 g0 g1 g2 g3 g4 om om Tryz.sizeOf40 args bs r b h
  split at hf
  · rename_i a
    cases hf
    subst a
    obtain⟨i0,z,g0,g1,g2,g3,g4⟩:=info127
    exact ek Tryz.laysClone106 (fun h=>h) rfl rfl enters106 g0 g1 g2 g3 g4 om om Tryz.sizeOf127 args bs r b h
  split at hf
  · rename_i a
    cases hf
    subst a
    obtain⟨i0,z,g0,g1,g2,g3,g4⟩:=info193
    exact ek Tryz.laysClone107 (fun h=>h) rfl rfl enters107 g0 g1 g2 g3 g4 om om Tryz.sizeOf193 args bs r b h
  split at hf
  · rename_i a
    cases hf
    subst a
    obtain⟨i0,z,g0,g1,g2,g3,g4⟩:=info52
    exact ek Tryz.laysClone109 (fun h=>h) rfl rfl enters109 g0 g1 g2 g3 g4 om om Tryz.sizeOf52 args bs r b h
  split at hf
  · rename_i a
    cases hf
    subst a
    obtain⟨i0,z,g0,g1,g2,g3,g4⟩:=info116
    exact ek Tryz.laysClone71 (fun h=>h) rfl rfl enters71 g0 g1 g2 g3 g4 om om Tryz.sizeOf116 args bs r b h
  split at hf
  · rename_i a
    cases hf
    subst a
    obtain⟨i0,z,g0,g1,g2,g3,g4⟩:=info119
    exact ek Tryz.laysClone239 (fun h=>h) rfl rfl enters239 g0 g1 g2 g3 g4 om om Tryz.sizeOf119 args bs r b h
  cases hf
theorem ext_ok:jT Tryz.prog base0 Od.ext:=by
  intro f g hf args bs r a h
  unfold Od.ext at hf
  split at hf
  · rename_i b
    cases hf
    subst b
    exact const_ok (Oc.awake10 _ extC_ok) args bs r a h
  cases hf
theorem ints_of{a:List PD}(h:l9 Tryz.prog 3 [22] a):∃l:List Int,a=[.lst (l.map (.int .i64))]:=by
  match a,h with
  | [p],⟨h,_⟩=>
    obtain⟨l,rfl,_⟩:=ShV.ints Tryz.underlying22 Tryz.underlying3 h
    exact⟨l,rfl⟩
theorem contract(H:Type)(enc:TypeId×Value->H)(W:World)(base:Nat)(args:Array Value)(f gs:List (DataW H))(before:List MemPlace)
    (b:∀(j:Nat)t v,Tryz.f3.params[j]? =some t->args[j]? =some v->Value.okWide Tryz.prog W .any base t v)
    (i:DataW.Whole enc Tryz.prog Tryz.f3.params.toList Rows.offlineDiffersSpec.vars false W args.toList f gs before):
    Calls Tryz.prog 3 args W fun e g=>∃v,e= .returned v∧Rows.offlineDiffersSpec.post enc Tryz.prog Tryz.f3 false true false false W args v g:=by
  refine oi (base:=base0) (d:=3) (tb:=4) entersLaw b i (by kernel_rfl) rfl (fun f h=>?_) (by kernel_rfl) Tryz.underlying4 (fun a v h=>by cases h) (fun x k=>by cases k) (fun c h=>?_)
  · have h1:Tryz.f3.params.size=1:=by kernel_rfl
    rw [h1]at h
    obtain⟨d,rfl⟩:=List.length_eq_one_iff.1 h
    rfl
  · obtain⟨l,rfl⟩:=ints_of (show l9 Tryz.prog 3 [22] c from h)
    exact(Od.bJ (Od.bX l)).callOk ext_ok mixed
def wit:Array Value:= #[.slice none 0 0]
noncomputable def laidWorld (os:Os):World:=World.laidAll Tryz.prog os Rows.offlineDiffersRow.laid
theorem laid_met(os:Os):laidMet Tryz.prog Rows.offlineDiffersRow.laid ((laidWorld os).forCall (fun _ _=>0) ⟨#[],wit,[]⟩).memory:=
  laidMet_laidAll _ (by kernel_rfl) (by kernel_rfl)
theorem reads(os:Os){H:Type}(enc:TypeId×Value->H):∃places,DataW.whole enc Tryz.prog ((laidWorld os).forCall (fun _ _=>0) ⟨#[],wit,[]⟩).memory Tryz.f3.params.toList Rows.offlineDiffersSpec.vars false wit.toList 8=some ([.nil],[],places):=
  ⟨[],by kernel_rfl⟩
theorem lifted(os:Os)(started:os.Started)(H:Type)(enc:TypeId×Value->H)(F:Stop.Interp):
    ReturnsInHanded {} Tryz.checked os 3 .any ((OpenSpec.ofChange Rows.offlineDiffersSpec).preRow enc Tryz.prog Tryz.f3 Rows.offlineDiffersRow.domain false Rows.offlineDiffersRow.laid) (((OpenSpec.ofChange Rows.offlineDiffersSpec).at F).post enc Tryz.prog Tryz.f3 false true false false):=by
  obtain⟨b,f⟩:=reads os enc
  refine returnsInHanded_of_row (C:=Tryz.checked) (s:=OpenSpec.ofChange Rows.offlineDiffersSpec) own started (by kernel_rfl) Tryz.func3
    (witness_row_at (enc := enc) (C := Tryz.checked) false (laidWorld os) wit (World.laidAll_os _ _ _) (by kernel_rfl) (by kernel_rfl) (by kernel_rfl)
      (OpenSpec.preRow_of_cond 8 f (by kernel_rfl) (fun k hk=>by cases hk) (by kernel_rfl) (laid_met os))) ?_
  intro W base args c gs before a e _ _ _ g hS _
  exact contract H enc W base args c gs before a e
theorem fact2:laidOutB Tryz.prog=true:=by kernel_rfl
theorem fact3:mapsRowed Tryz.prog=true:=by kernel_rfl
theorem fact10:(Rows.offlineDiffersRow.inPlace==Tryz.prog.inPlace 3)=true:=by kernel_rfl
theorem fact11:(Rows.offlineDiffersRow.unfollowed==Tryz.prog.unfollowed 3)=true:=by kernel_rfl
theorem fact12:(Rows.offlineDiffersRow.recurses==Tryz.prog.recurses 3)=true:=by kernel_rfl
theorem fact13:(Rows.offlineDiffersRow.named==Tryz.prog.varsNamed 3)=true:=by kernel_rfl
theorem bj{a b:Bool}(h:a=true)(k:b=true):(a&&b)=true:=by rw [h,k];rfl
theorem facts:joinedFacts Tryz.prog 3 Tryz.f3 Rows.offlineDiffersSpec Rows.offlineDiffersRow=true:=
  (bj (bj (bj (bj (bj (bj (bj (bj (bj (bj (bj (bj (bj (bj (bj (bj (bj (bj (bj (bj (bj (bj (bj (bj (bj (bj (bj (bj (bj (bj (bj (by kernel_rfl) fact2) fact3) (by kernel_rfl)) (by kernel_rfl)) (by kernel_rfl)) (by kernel_rfl)) (by kernel_rfl)) (by kernel_rfl)) fact10) fact11) fact12) fact13) (by kernel_rfl)) (by kernel_rfl)) (by kernel_rfl)) (by kernel_rfl)) (by kernel_rfl)) (by kernel_rfl)) (by kernel_rfl)) (by kernel_rfl)) (by kernel_rfl)) (by kernel_rfl)) (by kernel_rfl)) (by kernel_rfl)) (by kernel_rfl)) (by kernel_rfl)) (by kernel_rfl)) (by kernel_rfl)) (by kernel_rfl)) (by kernel_rfl)) (by kernel_rfl))
theorem said:Rows.OfflineDiffersSaid:=
  OpenClaim.holds_of_cond 3 Tryz.f3 rfl rfl rfl rfl rfl rfl rfl ⟨rfl,rfl,rfl,rfl,rfl⟩ rfl rfl rfl rfl rfl (by kernel_rfl) Tryz.func3 facts
    (of_decide_eq_true (by kernel_rfl)) (by unfold Func.isWrapper;first|(rw [if_pos (by decide+kernel)];kernel_rfl)|(rw [if_neg (by decide+kernel)];exact⟨rfl,rfl⟩))
    (fun os started H enc _ F=>by rw [OpenClaim.pre_eq_preRow];exact lifted os started H enc F)
end YtgdhcacjeppglaaGreat
end Go.Proofs
