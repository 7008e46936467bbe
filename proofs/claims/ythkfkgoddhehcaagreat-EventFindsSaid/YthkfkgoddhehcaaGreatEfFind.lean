/- EventFinds holds: for any settings, inventory, picks and numbers the law returns true, and all that was handed in reads as it did. Its conditions: none but the row's own. -/
import Derived.Test.YthkfkgoddhehcaaGreatEfEv
import Derived.Test.YthkfkgoddhehcaaGreatEfSh
import Derived.Test.YthkfkgoddhehcaaGreatDwFun
import Derived.Test.YthkfkgoddhehcaaGreatEfBen
import Derived.Test.YthkfkgoddhehcaaGreatEfEcT
import Derived.Test.YthkfkgoddhehcaaGreatDwArg
import Derived.Test.YthkfkgoddhehcaaGreatDwSort
import Derived.Test.YthkfkgoddhehcaaGreatDwClone
import Derived.Test.YthkfkgoddhehcaaGreatDwSortI
import Derived.Test.YthkfkgoddhehcaaGreatShelfG
import Derived.Test.YthkfkgoddhehcaaGreatDwConst
import Derived.Test.YthkfkgoddhehcaaGreatRows
import Derived.WalkKit
import Derived.ProofKit
import Derived.OpenShut
import Derived.Deep.DeepHandedRow
import Derived.Lay
import Derived.Lib.LaidTab
set_option linter.unusedVariables false
set_option linter.unusedSimpArgs false
open Option renaming some_get->Ir

namespace Go.Proofs
namespace YthkfkgoddhehcaaGreat
open Go.ChangeShapes Go.WideShapes Go.ChangeAt Go.RowKit Go.Dw
set_option maxRecDepth 100000
theorem own:ownKnob Tryz.prog.godebug=none:=by kernel_rfl
theorem mixed:Tryz.prog.follows .mixedOrders=true:=by kernel_rfl
theorem entersLaw:Dw.Enters Tryz.prog 3:=⟨Tryz.f3,Tryz.func3,by decide+kernel,by kernel_rfl⟩
theorem enters37:Dw.Enters Tryz.prog 37:=⟨Tryz.f37,Tryz.func37,by decide+kernel,by kernel_rfl⟩
theorem enters38:Dw.Enters Tryz.prog 38:=⟨Tryz.f38,Tryz.func38,by decide+kernel,by kernel_rfl⟩
theorem sort_nil37(base:wX):uM Tryz.prog base 37 [.ref 0 0,.d (.raw (.func (.func 38) #[] #[]))] [.arr 0 78 []] (.tup []) [.arr 0 78 []]:=
  uL (H:={ at_:=λ_ _ _=>[],mt:=λ_ _=>false,by_:=λ_ i=>i==0,own:=λ_ _=>false }) (Bo _ _) mixed 60 _ _ _ _ _ (by kernel_rfl)
theorem enters105:Dw.Enters Tryz.prog 105:=⟨Tryz.f105,Tryz.func105,by decide+kernel,by kernel_rfl⟩
theorem info78:∃i0 z,Tryz.prog.info? 78=some i0∧i0.zero=some z∧i0.size=9∧i0.bytes=104∧z.cells.size=9:=
  ⟨(Tryz.prog.info? 78).get (by kernel_rfl),((Tryz.prog.info? 78).get (by kernel_rfl)).zero.getD (.bool false),(Ir _).symm,by kernel_rfl,by kernel_rfl,by kernel_rfl,by kernel_rfl⟩
theorem enters321:Dw.Enters Tryz.prog 321:=⟨Tryz.f321,Tryz.func321,by decide+kernel,by kernel_rfl⟩
theorem info75:∃i0 z,Tryz.prog.info? 75=some i0∧i0.zero=some z∧i0.size=8∧i0.bytes=80∧z.cells.size=8:=
  ⟨(Tryz.prog.info? 75).get (by kernel_rfl),((Tryz.prog.info? 75).get (by kernel_rfl)).zero.getD (.bool false),(Ir _).symm,by kernel_rfl,by kernel_rfl,by kernel_rfl,by kernel_rfl⟩
theorem enters338:Dw.Enters Tryz.prog 338:=⟨Tryz.f338,Tryz.func338,by decide+kernel,by kernel_rfl⟩
theorem info129:∃i0 z,Tryz.prog.info? 129=some i0∧i0.zero=some z∧i0.size=10∧i0.bytes=96∧z.cells.size=10:=
  ⟨(Tryz.prog.info? 129).get (by kernel_rfl),((Tryz.prog.info? 129).get (by kernel_rfl)).zero.getD (.bool false),(Ir _).symm,by kernel_rfl,by kernel_rfl,by kernel_rfl,by kernel_rfl⟩
theorem enters141:Dw.Enters Tryz.prog 141:=⟨Tryz.f141,Tryz.func141,by decide+kernel,by kernel_rfl⟩
theorem info3:∃i0 z,Tryz.prog.info? 3=some i0∧i0.zero=some z∧i0.size=1∧i0.bytes=8∧z.cells.size=1:=
  ⟨(Tryz.prog.info? 3).get (by kernel_rfl),((Tryz.prog.info? 3).get (by kernel_rfl)).zero.getD (.bool false),(Ir _).symm,by kernel_rfl,by kernel_rfl,by kernel_rfl,by kernel_rfl⟩
theorem enters85:Dw.Enters Tryz.prog 85:=⟨Tryz.f85,Tryz.func85,by decide+kernel,by kernel_rfl⟩
theorem sort_nil85(base:wX):uM Tryz.prog base 85 [.ref 0 0] [.arr 0 3 []] (.tup []) [.arr 0 3 []]:=
  uL (H:={ at_:=λ_ _ _=>[],mt:=λ_ _=>false,by_:=λ_ i=>i==0,own:=λ_ _=>false }) (Bo _ _) mixed 60 _ _ _ _ _ (by kernel_rfl)
def base0:wX:=⟨λ_=>none,False,[]⟩
theorem extC_ok:zJ Tryz.prog base0 Ec.extC:=by
  intro f g hf args bs r c h
  unfold Ec.extC at hf
  split at hf
  · rename_i a
    cases hf
    subst a
    obtain⟨i0,z,g0,g1,g2,g3,g4⟩:=info78
    exact wK Tryz.laysClone105 (λh=>h) rfl rfl enters105 g0 g1 g2 g3 g4 za za Tryz.sizeOf78 args bs r c h
  split at hf
  · rename_i a
    cases hf
    subst a
    obtain⟨i0,z,g0,g1,g2,g3,g4⟩:=info75
    exact wK Tryz.laysClone321 (λh=>h) rfl rfl enters321 g0 g1 g2 g3 g4 za za Tryz.sizeOf75 args bs r c h
  split at hf
  · rename_i a
    cases hf
    subst a
    obtain⟨i0,z,g0,g1,g2,g3,g4⟩:=info129
    exact wK Tryz.laysClone338 (λh=>h) rfl rfl enters338 g0 g1 g2 g3 g4 za za Tryz.sizeOf129 args bs r c h
  split at hf
  · rename_i a
    cases hf
    subst a
    obtain⟨i0,z,g0,g1,g2,g3,g4⟩:=info3
    exact wK Tryz.laysClone141 (λh=>h) rfl rfl enters141 g0 g1 g2 g3 g4 za za Tryz.sizeOf3 args bs r c h
  cases hf
theorem ext_ok:zJ Tryz.prog base0 Ef.ext:=by
  intro f g hf args bs r j h
  unfold Ef.ext at hf
  split at hf
  · rename_i a
    cases hf
    subst a
    exact Ef.bentD_ok _ args bs r j h
  split at hf
  · rename_i a
    cases hf
    subst a
    exact sort_ok (α:=Ef.ac) (pd:=Ef.ac.pd) (cmp:=Ef.cJ) (g:=38) (e:=78) (k:=9) Tryz.laysSort37 rfl rfl enters37 enters38 (enters_of Tryz.func38 (by kernel_rfl) rfl) Tryz.isAgg78 Tryz.sizeOf78 (by kernel_rfl) (λ_=>rfl) (λ_=>⟨_,rfl⟩) (λ_=>rfl)
      (λx y c hc=>(Ef.sl hc).B8 (Bo _ _) mixed) (sort_nil37 _) args bs r j h
  split at hf
  · rename_i a
    cases hf
    subst a
    obtain⟨i0,z,g0,g1,g2,g3,g4⟩:=info78
    exact wK Tryz.laysClone105 (λh=>h) rfl rfl enters105 g0 g1 g2 g3 g4 za za Tryz.sizeOf78 args bs r j h
  split at hf
  · rename_i a
    cases hf
    subst a
    obtain⟨i0,z,g0,g1,g2,g3,g4⟩:=info75
    exact wK Tryz.laysClone321 (λh=>h) rfl rfl enters321 g0 g1 g2 g3 g4 za za Tryz.sizeOf75 args bs r j h
  split at hf
  · rename_i a
    cases hf
    subst a
    obtain⟨i0,z,g0,g1,g2,g3,g4⟩:=info129
    exact wK Tryz.laysClone338 (λh=>h) rfl rfl enters338 g0 g1 g2 g3 g4 za za Tryz.sizeOf129 args bs r j h
  split at hf
  · rename_i a
    cases hf
    subst a
    obtain⟨i0,z,g0,g1,g2,g3,g4⟩:=info3
    exact wK Tryz.laysClone141 (λh=>h) rfl rfl enters141 g0 g1 g2 g3 g4 za za Tryz.sizeOf3 args bs r j h
  split at hf
  · rename_i a
    cases hf
    subst a
    exact sortI_ok Tryz.lays189 rfl enters85 (by kernel_rfl) (sort_nil85 _) args bs r j h
  split at hf
  · rename_i a
    cases hf
    subst a
    exact const_ok (Ec.awake6 _ extC_ok) args bs r j h
  cases hf
theorem contract(H:Type)(enc:TypeId×Value->H)(W:World)(base:Nat)(args:Array Value)(f gs:List (DataW H))(before:List MemPlace)
    (c:∀(j:Nat)t v,Tryz.f3.params[j]? =some t->args[j]? =some v->Value.okWide Tryz.prog W .any base t v)
    (p:DataW.Whole enc Tryz.prog Tryz.f3.params.toList Rows.eventFindsSpec.vars false W args.toList f gs before):
    Calls Tryz.prog 3 args W λe k=>∃v,e= .returned v∧Rows.eventFindsSpec.post enc Tryz.prog Tryz.f3 false true false false W args v k:=by
  refine Ei (base:=base0) (d:=10) (tb:=4) entersLaw c p (by kernel_rfl) rfl (λf h=>?_) (by kernel_rfl) Tryz.underlying4 (λa v h=>by cases h) (λx q=>by cases q) (λg h=>?_)
  · have h1:Tryz.f3.params.size=4:=by kernel_rfl
    rw [h1]at h
    match f,h with
    | [d1,d2,d3,d4],_=>rfl
  · obtain⟨s,v,a,l,rfl,r,u⟩:=Ef.args_of (show Cz Tryz.prog 10 [34,37,38,26] g from h)
    exact(Ef.rO (Ef.holds_of s l r u)).B8 ext_ok mixed
def wit:Array Value:= #[.agg #[.int .i64 0,.int .i64 0,.int .i64 0,.int .i64 0,.int .i64 0,.int .i64 0,.int .i64 0,.slice none 0 0,.slice none 0 0,.int .i64 0,.int .i64 0,.int .i64 0,.int .i64 0,.int .i64 0,.int .i64 0,.slice none 0 0,.slice none 0 0,.int .i64 0,.int .i64 0,.int .i64 0],.agg #[.slice none 0 0],.slice none 0 0,.slice none 0 0]
noncomputable def laidWorld (os:Os):World:=World.laidAll Tryz.prog os Rows.eventFindsRow.laid
theorem laid_met(os:Os):laidMet Tryz.prog Rows.eventFindsRow.laid ((laidWorld os).forCall (λ_ _=>0) ⟨#[],wit,[]⟩).memory:=
  laidMet_laidAll _ (by kernel_rfl) (by kernel_rfl)
theorem reads(os:Os){H:Type}(enc:TypeId×Value->H):∃places,DataW.whole enc Tryz.prog ((laidWorld os).forCall (λ_ _=>0) ⟨#[],wit,[]⟩).memory Tryz.f3.params.toList Rows.eventFindsSpec.vars false wit.toList 8=some ([.agg [.agg [.agg [.agg [.lit (.int .i64 0),.lit (.int .i64 0),.lit (.int .i64 0)],.agg [.lit (.int .i64 0),.lit (.int .i64 0),.lit (.int .i64 0)]],.agg [.lit (.int .i64 0),.nil,.nil],.lit (.int .i64 0),.lit (.int .i64 0),.lit (.int .i64 0),.lit (.int .i64 0),.lit (.int .i64 0)],.agg [.agg [.lit (.int .i64 0),.nil,.nil],.lit (.int .i64 0),.lit (.int .i64 0)],.lit (.int .i64 0)],.agg [.nil],.nil,.nil],[],places):=
  ⟨[],by kernel_rfl⟩
theorem lifted(os:Os)(started:os.Started)(H:Type)(enc:TypeId×Value->H)(F:Stop.Interp):
    ReturnsInHanded {} Tryz.checked os 3 .any ((OpenSpec.ofChange Rows.eventFindsSpec).preRow enc Tryz.prog Tryz.f3 Rows.eventFindsRow.domain false Rows.eventFindsRow.laid) (((OpenSpec.ofChange Rows.eventFindsSpec).at F).post enc Tryz.prog Tryz.f3 false true false false):=by
  obtain⟨c,j⟩:=reads os enc
  refine returnsInHanded_of_row (C:=Tryz.checked) (s:=OpenSpec.ofChange Rows.eventFindsSpec) own started (by kernel_rfl) Tryz.func3
    (witness_row_at (enc := enc) (C := Tryz.checked) false (laidWorld os) wit (World.laidAll_os _ _ _) (by kernel_rfl) (by kernel_rfl) (by kernel_rfl)
      (OpenSpec.preRow_of_cond 8 j (by kernel_rfl) (λk hk=>by cases hk) (by kernel_rfl) (laid_met os))) ?_
  intro W base args f gs before a g _ _ _ l hS _
  exact contract H enc W base args f gs before a g
theorem fact2:laidOutB Tryz.prog=true:=by kernel_rfl
theorem fact3:mapsRowed Tryz.prog=true:=by kernel_rfl
theorem fact10:(Rows.eventFindsRow.inPlace==Tryz.prog.inPlace 3)=true:=by kernel_rfl
theorem fact11:(Rows.eventFindsRow.unfollowed==Tryz.prog.unfollowed 3)=true:=by kernel_rfl
theorem fact12:(Rows.eventFindsRow.recurses==Tryz.prog.recurses 3)=true:=by kernel_rfl
theorem fact13:(Rows.eventFindsRow.named==Tryz.prog.varsNamed 3)=true:=by kernel_rfl
theorem mj{a b:Bool}(h:a=true)(k:b=true):(a&&b)=true:=by rw [h,k];rfl
theorem facts:joinedFacts Tryz.prog 3 Tryz.f3 Rows.eventFindsSpec Rows.eventFindsRow=true:=
  (mj (mj (mj (mj (mj (mj (mj (mj (mj (mj (mj (mj (mj (mj (mj (mj (mj (mj (mj (mj (mj (mj (mj (mj (mj (mj (mj (mj (mj (mj (mj (by kernel_rfl) fact2) fact3) (by kernel_rfl)) (by kernel_rfl)) (by kernel_rfl)) (by kernel_rfl)) (by kernel_rfl)) (by kernel_rfl)) fact10) fact11) fact12) fact13) (by kernel_rfl)) (by kernel_rfl)) (by kernel_rfl)) (by kernel_rfl)) (by kernel_rfl)) (by kernel_rfl)) (by kernel_rfl)) (by kernel_rfl)) (by kernel_rfl)) (by kernel_rfl)) (by kernel_rfl)) (by kernel_rfl)) (by kernel_rfl)) (by kernel_rfl)) (by kernel_rfl)) (by kernel_rfl)) (by kernel_rfl)) (by kernel_rfl)) (by kernel_rfl))
theorem said:Rows.EventFindsSaid:=
  OpenClaim.holds_of_cond 3 Tryz.f3 rfl rfl rfl rfl rfl rfl rfl ⟨rfl,rfl,rfl,rfl,rfl⟩ rfl rfl rfl rfl rfl (by kernel_rfl) Tryz.func3 facts
    (of_decide_eq_true (by kernel_rfl)) (by unfold Func.isWrapper;first|(rw [if_pos (by decide+kernel)];kernel_rfl)|(rw [if_neg (by decide+kernel)];exact⟨rfl,rfl⟩))
    (λos started H enc _ F=>by rw [OpenClaim.pre_eq_preRow];exact lifted os started H enc F)
end YthkfkgoddhehcaaGreat
end Go.Proofs
