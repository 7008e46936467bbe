/- ReprocessEqual holds: for all inputs the law returns true, and the input reads as it did. Its conditions: the row's own (the listed tables and errors of Go's library are as the program's text lays them). -/
import Derived.Test.YtfmoipelhfkdkaaGreatDoorReEv
import Derived.Test.YtfmoipelhfkdkaaGreatDoorReLawXE
import Derived.Test.YtfmoipelhfkdkaaGreatDoorReKey
import Derived.Test.YtfmoipelhfkdkaaGreatDoorDwSort
import Derived.Test.YtfmoipelhfkdkaaGreatDoorDwSortI
import Derived.Test.YtfmoipelhfkdkaaGreatDoorDwClone
import Derived.Test.YtfmoipelhfkdkaaGreatDoorDwArg
import Derived.Test.YtfmoipelhfkdkaaGreatDoorDwLaid
import Derived.Test.YtfmoipelhfkdkaaGreatDoorShelfR
import Derived.Test.YtfmoipelhfkdkaaGreatDoorCards
import Derived.Test.YtfmoipelhfkdkaaGreatDoorTie
import Derived.WalkKit
import Derived.ProofKit
import Derived.OpenShut
import Derived.Deep.DeepHandedRow
import Derived.Lay
import Derived.Lib.LaidTab
set_option linter.unusedVariables false
set_option linter.unusedSimpArgs false
open Option renaming some_get->IK

namespace Go.Proofs
namespace YtfmoipelhfkdkaaGreatDoor
open Go.ChangeShapes Go.WideShapes Go.ChangeAt Go.RowKit Go.Dw
set_option maxRecDepth 100000
theorem own:ownKnob Tryz.prog.godebug=none:=by kernel_rfl
theorem mixed:Tryz.prog.follows .mixedOrders=true:=by kernel_rfl
theorem entersLaw:Dw.Enters Tryz.prog 5:=⟨Tryz.f5,Tryz.func5,by decide+kernel,by kernel_rfl⟩
theorem enters90:Dw.Enters Tryz.prog 90:=⟨Tryz.f90,Tryz.func90,by decide+kernel,by kernel_rfl⟩
theorem enters91:Dw.Enters Tryz.prog 91:=⟨Tryz.f91,Tryz.func91,by decide+kernel,by kernel_rfl⟩
theorem sort_nil90(base:xT):uC Tryz.prog base 90 [.ref 0 0,.d (.raw (.func (.func 91) #[] #[]))] [.arr 0 70 []] (.tup []) [.arr 0 70 []]:=
  xh (H:={ at_:=fun _ _ _=>[],mt:=fun _ _=>false,by_:=fun _ i=>i==0,own:=fun _ _=>false }) (Ap _ _) mixed 60 _ _ _ _ _ (by kernel_rfl)
theorem enters73:Dw.Enters Tryz.prog 73:=⟨Tryz.f73,Tryz.func73,by decide+kernel,by kernel_rfl⟩
theorem info70:∃i0 z,Tryz.prog.info? 70=some i0∧i0.zero=some z∧i0.size=9∧i0.bytes=104∧z.cells.size=9:=
  ⟨(Tryz.prog.info? 70).get (by kernel_rfl),((Tryz.prog.info? 70).get (by kernel_rfl)).zero.getD (.bool false),(IK _).symm,by kernel_rfl,by kernel_rfl,by kernel_rfl,by kernel_rfl⟩
theorem enters70:Dw.Enters Tryz.prog 70:=⟨Tryz.f70,Tryz.func70,by decide+kernel,by kernel_rfl⟩
theorem info3:∃i0 z,Tryz.prog.info? 3=some i0∧i0.zero=some z∧i0.size=1∧i0.bytes=8∧z.cells.size=1:=
  ⟨(Tryz.prog.info? 3).get (by kernel_rfl),((Tryz.prog.info? 3).get (by kernel_rfl)).zero.getD (.bool false),(IK _).symm,by kernel_rfl,by kernel_rfl,by kernel_rfl,by kernel_rfl⟩
theorem enters71:Dw.Enters Tryz.prog 71:=⟨Tryz.f71,Tryz.func71,by decide+kernel,by kernel_rfl⟩
theorem info90:∃i0 z,Tryz.prog.info? 90=some i0∧i0.zero=some z∧i0.size=8∧i0.bytes=80∧z.cells.size=8:=
  ⟨(Tryz.prog.info? 90).get (by kernel_rfl),((Tryz.prog.info? 90).get (by kernel_rfl)).zero.getD (.bool false),(IK _).symm,by kernel_rfl,by kernel_rfl,by kernel_rfl,by kernel_rfl⟩
theorem enters72:Dw.Enters Tryz.prog 72:=⟨Tryz.f72,Tryz.func72,by decide+kernel,by kernel_rfl⟩
theorem info149:∃i0 z,Tryz.prog.info? 149=some i0∧i0.zero=some z∧i0.size=10∧i0.bytes=96∧z.cells.size=10:=
  ⟨(Tryz.prog.info? 149).get (by kernel_rfl),((Tryz.prog.info? 149).get (by kernel_rfl)).zero.getD (.bool false),(IK _).symm,by kernel_rfl,by kernel_rfl,by kernel_rfl,by kernel_rfl⟩
theorem enters80:Dw.Enters Tryz.prog 80:=⟨Tryz.f80,Tryz.func80,by decide+kernel,by kernel_rfl⟩
theorem info122:∃i0 z,Tryz.prog.info? 122=some i0∧i0.zero=some z∧i0.size=25∧i0.bytes=248∧z.cells.size=25:=
  ⟨(Tryz.prog.info? 122).get (by kernel_rfl),((Tryz.prog.info? 122).get (by kernel_rfl)).zero.getD (.bool false),(IK _).symm,by kernel_rfl,by kernel_rfl,by kernel_rfl,by kernel_rfl⟩
theorem enters105:Dw.Enters Tryz.prog 105:=⟨Tryz.f105,Tryz.func105,by decide+kernel,by kernel_rfl⟩
theorem sort_nil105(base:xT):uC Tryz.prog base 105 [.ref 0 0] [.arr 0 3 []] (.tup []) [.arr 0 3 []]:=
  xh (H:={ at_:=fun _ _ _=>[],mt:=fun _ _=>false,by_:=fun _ i=>i==0,own:=fun _ _=>false }) (Ap _ _) mixed 60 _ _ _ _ _ (by kernel_rfl)
def baseOf(t:TypeId)(fz:Nat×Nat):xT:=⟨fun a=>if a=⟨1,0,none⟩then some (.int .u64 1)else none,False,[(1,Obj.cells (Lib.pow10Tab.map fun z=>Value.int .u64 z).toArray t fz)]⟩
theorem ext_ok(t:TypeId)(fz:Nat×Nat):ExtOk Tryz.prog (baseOf t fz) Re.ext:=by
  intro f g hf args bs r q h
  unfold Re.ext at hf
  split at hf
  · rename_i j
    cases hf
    subst j
    exact sort_ok (α:=Re.aa) (pd:=Re.aa.pd) (cmp:=Re.cS) (g:=91) (e:=70) (k:=9) Tryz.laysSort90 rfl rfl enters90 enters91 (enters_of Tryz.func91 (by kernel_rfl) rfl) Tryz.isAgg70 Tryz.sizeOf70 (by kernel_rfl) (fun _=>rfl) (fun _=>⟨_,rfl⟩) (fun _=>rfl)
      (fun x y c hc=>(Re.qV hc).callOk (Ap _ _) mixed) (sort_nil90 _) args bs r q h
  split at hf
  · rename_i j
    cases hf
    subst j
    obtain⟨i0,z,g0,g1,g2,g3,g4⟩:=info70
    exact xf Tryz.laysClone73 (fun h=>h) rfl rfl enters73 g0 g1 g2 g3 g4 za za Tryz.sizeOf70 args bs r q h
  split at hf
  · rename_i j
    cases hf
    subst j
    obtain⟨i0,z,g0,g1,g2,g3,g4⟩:=info3
    exact xf Tryz.laysClone70 (fun h=>h) rfl rfl enters70 g0 g1 g2 g3 g4 za za Tryz.sizeOf3 args bs r q h
  split at hf
  · rename_i j
    cases hf
    subst j
    obtain⟨i0,z,g0,g1,g2,g3,g4⟩:=info90
    exact xf Tryz.laysClone71 (fun h=>h) rfl rfl enters71 g0 g1 g2 g3 g4 za za Tryz.sizeOf90 args bs r q h
  split at hf
  · rename_i j
    cases hf
    subst j
    obtain⟨i0,z,g0,g1,g2,g3,g4⟩:=info149
    exact xf Tryz.laysClone72 (fun h=>h) rfl rfl enters72 g0 g1 g2 g3 g4 za za Tryz.sizeOf149 args bs r q h
  split at hf
  · rename_i j
    cases hf
    subst j
    obtain⟨i0,z,g0,g1,g2,g3,g4⟩:=info122
    exact xf Tryz.laysClone80 (fun h=>h) rfl rfl enters80 g0 g1 g2 g3 g4 za za Tryz.sizeOf122 args bs r q h
  split at hf
  · rename_i j
    cases hf
    subst j
    exact sortI_ok Tryz.lays189 rfl enters105 (by kernel_rfl) (sort_nil105 _) args bs r q h
  split at hf
  · rename_i j
    cases hf
    subst j
    exact Re.key_ok (baseOf t fz) (fun h=>h) (g:=1) (t:=t) (fz:=fz) (by kernel_rfl) (.head _) args bs r q h
  cases hf
theorem args_of{ps:List PD}(h:BL Tryz.prog 3 [22] ps):∃l:List Int,ps=[.lst (l.map (.int .i64))]:=by
  match ps,h with
  | [p],⟨h,_⟩=>
    obtain⟨l,rfl,_⟩:=ShV.ints Tryz.underlying22 Tryz.underlying3 h
    exact⟨l,rfl⟩
theorem contract(H:Type)(enc:TypeId×Value->H)(W:World)(base:Nat)(args:Array Value)(u gs:List (DataW H))(before:List MemPlace)
    (q:∀(j:Nat)t v,Tryz.f5.params[j]? =some t->args[j]? =some v->Value.okWide Tryz.prog W .any base t v)
    (E:DataW.Whole enc Tryz.prog Tryz.f5.params.toList Rows.reprocessEqualSpec.vars false W args.toList u gs before) (D:laidMet Tryz.prog Rows.reprocessEqualRow.laid W) (hS:W.ShapedOpen Tryz.prog):
    Calls Tryz.prog 5 args W fun e C=>∃v,e= .returned v∧Rows.reprocessEqualSpec.post enc Tryz.prog Tryz.f5 false true false false W args v C:=by
  obtain ⟨t, fz, f⟩ := laid_tab (k := .u64) (zs := Lib.pow10Tab) (name := "internal/strconv.uint64pow10") (g := 1) (t := 357) (n := 20) (e := 273) D (.tail _ (.tail _ (.head _))) (by kernel_rfl) (by kernel_rfl) (by kernel_rfl) (by kernel_rfl) (by kernel_rfl) (by kernel_rfl)
  refine Dx (base:=baseOf t fz) (d:=3) (tb:=4) entersLaw q E (by kernel_rfl) rfl (fun u h=>?_) (by kernel_rfl) Tryz.underlying4 (fun a v h=>?_) (fun x G=>?_) (fun r h=>?_)
  · have h1:Tryz.f5.params.size=1:=by kernel_rfl
    rw [h1]at h
    obtain⟨d,rfl⟩:=List.length_eq_one_iff.1 h
    rfl
  · simp only [baseOf]at h
    split at h
    · rename_i F;cases h;subst F;exact⟨by simp [World.cell?,f,Lib.pow10Tab],rfl⟩
    · cases h
  · obtain rfl:=List.mem_singleton.1 G
    exact⟨f,0,.int .u64 1,rfl⟩
  · obtain⟨l,rfl⟩:=args_of (show BL Tryz.prog 3 [22] r from h)
    exact(Re.oT (Re.qM l)).callOk (ext_ok t fz) mixed
def wit:Array Value:= #[.slice none 0 0]
noncomputable def laidWorld (os:Os):World:=World.laidAll Tryz.prog os Rows.reprocessEqualRow.laid
theorem laid_met(os:Os):laidMet Tryz.prog Rows.reprocessEqualRow.laid ((laidWorld os).forCall (fun _ _=>0) ⟨#[],wit,[]⟩).memory:=
  laidMet_laidAll _ (by kernel_rfl) (by kernel_rfl)
theorem reads(os:Os){H:Type}(enc:TypeId×Value->H):∃places,DataW.whole enc Tryz.prog ((laidWorld os).forCall (fun _ _=>0) ⟨#[],wit,[]⟩).memory Tryz.f5.params.toList Rows.reprocessEqualSpec.vars false wit.toList 8=some ([.nil],[],places):=
  ⟨[],by kernel_rfl⟩
theorem lifted(os:Os)(started:os.Started)(H:Type)(enc:TypeId×Value->H)(F:Stop.Interp):
    ReturnsInHanded {} Tryz.checked os 5 .any ((OpenSpec.ofChange Rows.reprocessEqualSpec).preRow enc Tryz.prog Tryz.f5 Rows.reprocessEqualRow.domain false Rows.reprocessEqualRow.laid) (((OpenSpec.ofChange Rows.reprocessEqualSpec).at F).post enc Tryz.prog Tryz.f5 false true false false):=by
  obtain⟨places,r⟩:=reads os enc
  refine returnsInHanded_of_row (C:=Tryz.checked) (s:=OpenSpec.ofChange Rows.reprocessEqualSpec) own started (by kernel_rfl) Tryz.func5
    (witness_row_at (enc := enc) (C := Tryz.checked) false (laidWorld os) wit (World.laidAll_os _ _ _) (by kernel_rfl) (by kernel_rfl) (by kernel_rfl)
      (OpenSpec.preRow_of_cond 8 r (by kernel_rfl) (fun k hk=>by cases hk) (by kernel_rfl) (laid_met os))) ?_
  intro W base args g gs before f q _ _ _ j hS _
  exact contract H enc W base args g gs before f q j hS
theorem fact2:laidOutB Tryz.prog=true:=by kernel_rfl
theorem fact3:mapsRowed Tryz.prog=true:=by kernel_rfl
theorem fact10:(Rows.reprocessEqualRow.inPlace==Tryz.prog.inPlace 5)=true:=by kernel_rfl
theorem fact11:(Rows.reprocessEqualRow.unfollowed==Tryz.prog.unfollowed 5)=true:=by kernel_rfl
theorem fact12:(Rows.reprocessEqualRow.recurses==Tryz.prog.recurses 5)=true:=by kernel_rfl
theorem fact13:(Rows.reprocessEqualRow.named==Tryz.prog.varsNamed 5)=true:=by kernel_rfl
theorem lW{a b:Bool}(h:a=true)(k:b=true):(a&&b)=true:=by rw [h,k];rfl
theorem pT:joinedFacts Tryz.prog 5 Tryz.f5 Rows.reprocessEqualSpec Rows.reprocessEqualRow=true:=
  (lW (lW (lW (lW (lW (lW (lW (lW (lW (lW (lW (lW (lW (lW (lW (lW (lW (lW (lW (lW (lW (lW (lW (lW (lW (lW (lW (lW (lW (lW (lW (by kernel_rfl) fact2) fact3) (by kernel_rfl)) (by kernel_rfl)) (by kernel_rfl)) (by kernel_rfl)) (by kernel_rfl)) (by kernel_rfl)) fact10) fact11) fact12) fact13) (by kernel_rfl)) (by kernel_rfl)) (by kernel_rfl)) (by kernel_rfl)) (by kernel_rfl)) (by kernel_rfl)) (by kernel_rfl)) (by kernel_rfl)) (by kernel_rfl)) (by kernel_rfl)) (by kernel_rfl)) (by kernel_rfl)) (by kernel_rfl)) (by kernel_rfl)) (by kernel_rfl)) (by kernel_rfl)) (by kernel_rfl)) (by kernel_rfl)) (by kernel_rfl))
theorem said:Rows.ReprocessEqualSaid:=
  OpenClaim.holds_of_cond 5 Tryz.f5 rfl rfl rfl rfl rfl rfl rfl ⟨rfl,rfl,rfl,rfl,rfl⟩ rfl rfl rfl rfl rfl (by kernel_rfl) Tryz.func5 pT
    (of_decide_eq_true (by kernel_rfl)) (by unfold Func.isWrapper;first|(rw [if_pos (by decide+kernel)];kernel_rfl)|(rw [if_neg (by decide+kernel)];exact⟨rfl,rfl⟩))
    (fun os started H enc _ F=>by rw [OpenClaim.pre_eq_preRow];exact lifted os started H enc F)
theorem plain (f : FuncId) (fn : Func) (hf : Tryz.pinned.checked.prog.funcNamed "seismonet/seismonetlaw40.ReprocessEqual" = some f) (k : Tryz.pinned.checked.prog.funcs[f]? = some fn) :
    true=Tryz.pinned.checked.prog.looks []∧∀(j:Nat)t,fn.params[j]? =some t->Tryz.pinned.checked.prog.wantsStandIn t=false:=by
  obtain rfl : f = 5 := Option.some.inj ((show Tryz.prog.funcNamed "seismonet/seismonetlaw40.ReprocessEqual" = some 5 by kernel_rfl).symm.trans hf) |>.symm
  obtain rfl:fn=Tryz.f5:=(Option.some.inj (Tryz.func5.symm.trans k)).symm
  refine⟨by kernel_rfl,fun j t g=>?_⟩
  rw [Tryz.params5]at g
  have g:=Array.mem_of_getElem? g
  simp only [List.mem_toArray,List.mem_cons,List.not_mem_nil,or_false]at g
  subst g
  exact(show Tryz.prog.wantsStandIn 22=false by kernel_rfl)
theorem card:Rows.ReprocessEqualCardSaid:=
  Claim7.holds_tied_plain_at .later [] _ _ _ _ said (fun _ h=>by cases h) (by kernel_rfl) (fun _ h=>by cases h) reprocessEqual_row_tie rfl ⟨rfl,rfl⟩ (by kernel_rfl) rfl plain (by kernel_rfl)
end YtfmoipelhfkdkaaGreatDoor
end Go.Proofs
