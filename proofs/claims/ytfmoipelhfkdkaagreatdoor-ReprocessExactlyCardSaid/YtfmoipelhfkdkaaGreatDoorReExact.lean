/- ReprocessExactly holds: for all inputs the law returns true, and the input reads as it did. Its conditions: the row's own (the listed tables and errors of Go's library are as the program's text lays them). -/
import Derived.Test.YtfmoipelhfkdkaaGreatDoorReEv
import Derived.Test.YtfmoipelhfkdkaaGreatDoorReLawXA
import Derived.Test.YtfmoipelhfkdkaaGreatDoorReKey
import Derived.Test.YtfmoipelhfkdkaaGreatDoorDwSort
import Derived.Test.YtfmoipelhfkdkaaGreatDoorDwSortI
import Derived.Test.YtfmoipelhfkdkaaGreatDoorDwClone
import Derived.Test.YtfmoipelhfkdkaaGreatDoorDwArg
import Derived.Test.YtfmoipelhfkdkaaGreatDoorDwLaid
import Derived.Test.YtfmoipelhfkdkaaGreatDoorShelfR
import Derived.Test.YtfmoipelhfkdkaaGreatDoorCards
import Derived.Test.YtfmoipelhfkdkaaGreatDoorTie
import Derived.WalkKit
import Derived.ProofKit
import Derived.OpenShut
import Derived.Deep.DeepHandedRow
import Derived.Lay
import Derived.Lib.LaidTab
set_option linter.unusedVariables false
set_option linter.unusedSimpArgs false
open Option renaming some_get->Hh

namespace Go.Proofs
namespace YtfmoipelhfkdkaaGreatDoor
open Go.ChangeShapes Go.WideShapes Go.ChangeAt Go.RowKit Go.Dw
set_option maxRecDepth 100000
theorem own:ownKnob Tryz.prog.godebug=none:=by kernel_rfl
theorem mixed:Tryz.prog.follows .mixedOrders=true:=by kernel_rfl
theorem entersLaw:Dw.Enters Tryz.prog 3:=⟨Tryz.f3,Tryz.func3,by decide+kernel,by kernel_rfl⟩
theorem enters90:Dw.Enters Tryz.prog 90:=⟨Tryz.f90,Tryz.func90,by decide+kernel,by kernel_rfl⟩
theorem enters91:Dw.Enters Tryz.prog 91:=⟨Tryz.f91,Tryz.func91,by decide+kernel,by kernel_rfl⟩
theorem sort_nil90(base:xF):uj Tryz.prog base 90 [.ref 0 0,.d (.raw (.func (.func 91) #[] #[]))] [.arr 0 70 []] (.tup []) [.arr 0 70 []]:=
  w4 (H:={ at_:=fun _ _ _=>[],mt:=fun _ _=>false,by_:=fun _ i=>i==0,own:=fun _ _=>false }) (zY _ _) mixed 60 _ _ _ _ _ (by kernel_rfl)
theorem enters73:Dw.Enters Tryz.prog 73:=⟨Tryz.f73,Tryz.func73,by decide+kernel,by kernel_rfl⟩
theorem info70:∃i0 z,Tryz.prog.info? 70=some i0∧i0.zero=some z∧i0.size=9∧i0.bytes=104∧z.cells.size=9:=
  ⟨(Tryz.prog.info? 70).get (by kernel_rfl),((Tryz.prog.info? 70).get (by kernel_rfl)).zero.getD (.bool false),(Hh _).symm,by kernel_rfl,by kernel_rfl,by kernel_rfl,by kernel_rfl⟩
theorem enters70:Dw.Enters Tryz.prog 70:=⟨Tryz.f70,Tryz.func70,by decide+kernel,by kernel_rfl⟩
theorem info3:∃i0 z,Tryz.prog.info? 3=some i0∧i0.zero=some z∧i0.size=1∧i0.bytes=8∧z.cells.size=1:=
  ⟨(Tryz.prog.info? 3).get (by kernel_rfl),((Tryz.prog.info? 3).get (by kernel_rfl)).zero.getD (.bool false),(Hh _).symm,by kernel_rfl,by kernel_rfl,by kernel_rfl,by kernel_rfl⟩
theorem enters71:Dw.Enters Tryz.prog 71:=⟨Tryz.f71,Tryz.func71,by decide+kernel,by kernel_rfl⟩
theorem info90:∃i0 z,Tryz.prog.info? 90=some i0∧i0.zero=some z∧i0.size=8∧i0.bytes=80∧z.cells.size=8:=
  ⟨(Tryz.prog.info? 90).get (by kernel_rfl),((Tryz.prog.info? 90).get (by kernel_rfl)).zero.getD (.bool false),(Hh _).symm,by kernel_rfl,by kernel_rfl,by kernel_rfl,by kernel_rfl⟩
theorem enters72:Dw.Enters Tryz.prog 72:=⟨Tryz.f72,Tryz.func72,by decide+kernel,by kernel_rfl⟩
theorem info149:∃i0 z,Tryz.prog.info? 149=some i0∧i0.zero=some z∧i0.size=10∧i0.bytes=96∧z.cells.size=10:=
  ⟨(Tryz.prog.info? 149).get (by kernel_rfl),((Tryz.prog.info? 149).get (by kernel_rfl)).zero.getD (.bool false),(Hh _).symm,by kernel_rfl,by kernel_rfl,by kernel_rfl,by kernel_rfl⟩
theorem enters80:Dw.Enters Tryz.prog 80:=⟨Tryz.f80,Tryz.func80,by decide+kernel,by kernel_rfl⟩
theorem info122:∃i0 z,Tryz.prog.info? 122=some i0∧i0.zero=some z∧i0.size=25∧i0.bytes=248∧z.cells.size=25:=
  ⟨(Tryz.prog.info? 122).get (by kernel_rfl),((Tryz.prog.info? 122).get (by kernel_rfl)).zero.getD (.bool false),(Hh _).symm,by kernel_rfl,by kernel_rfl,by kernel_rfl,by kernel_rfl⟩
theorem enters105:Dw.Enters Tryz.prog 105:=⟨Tryz.f105,Tryz.func105,by decide+kernel,by kernel_rfl⟩
theorem sort_nil105(base:xF):uj Tryz.prog base 105 [.ref 0 0] [.arr 0 3 []] (.tup []) [.arr 0 3 []]:=
  w4 (H:={ at_:=fun _ _ _=>[],mt:=fun _ _=>false,by_:=fun _ i=>i==0,own:=fun _ _=>false }) (zY _ _) mixed 60 _ _ _ _ _ (by kernel_rfl)
def baseOf(t:TypeId)(fz:Nat×Nat):xF:=⟨fun a=>if a=⟨1,0,none⟩then some (.int .u64 1)else none,False,[(1,Obj.cells (Lib.pow10Tab.map fun z=>Value.int .u64 z).toArray t fz)]⟩
theorem ext_ok(t:TypeId)(fz:Nat×Nat):ExtOk Tryz.prog (baseOf t fz) Re.ext:=by
  intro f g hf args bs r q h
  unfold Re.ext at hf
  split at hf
  · rename_i j
    cases hf
    subst j
    exact sort_ok (α:=Re.aa) (pd:=Re.aa.pd) (cmp:=Re.cN) (g:=91) (e:=70) (k:=9) Tryz.laysSort90 rfl rfl enters90 enters91 (enters_of Tryz.func91 (by kernel_rfl) rfl) Tryz.isAgg70 Tryz.sizeOf70 (by kernel_rfl) (fun _=>rfl) (fun _=>⟨_,rfl⟩) (fun _=>rfl)
      (fun x y c hc=>(Re.qJ hc).callOk (zY _ _) mixed) (sort_nil90 _) args bs r q h
  split at hf
  · rename_i j
    cases hf
    subst j
    obtain⟨i0,z,g0,g1,g2,g3,g4⟩:=info70
    exact wZ Tryz.laysClone73 (fun h=>h) rfl rfl enters73 g0 g1 g2 g3 g4 za za Tryz.sizeOf70 args bs r q h
  split at hf
  · rename_i j
    cases hf
    subst j
    obtain⟨i0,z,g0,g1,g2,g3,g4⟩:=info3
    exact wZ Tryz.laysClone70 (fun h=>h) rfl rfl enters70 g0 g1 g2 g3 g4 za za Tryz.sizeOf3 args bs r q h
  split at hf
  · rename_i j
    cases hf
    subst j
    obtain⟨i0,z,g0,g1,g2,g3,g4⟩:=info90
    exact wZ Tryz.laysClone71 (fun h=>h) rfl rfl enters71 g0 g1 g2 g3 g4 za za Tryz.sizeOf90 args bs r q h
  split at hf
  · rename_i j
    cases hf
    subst j
    obtain⟨i0,z,g0,g1,g2,g3,g4⟩:=info149
    exact wZ Tryz.laysClone72 (fun h=>h) rfl rfl enters72 g0 g1 g2 g3 g4 za za Tryz.sizeOf149 args bs r q h
  split at hf
  · rename_i j
    cases hf
    subst j
    obtain⟨i0,z,g0,g1,g2,g3,g4⟩:=info122
    exact wZ Tryz.laysClone80 (fun h=>h) rfl rfl enters80 g0 g1 g2 g3 g4 za za Tryz.sizeOf122 args bs r q h
  split at hf
  · rename_i j
    cases hf
    subst j
    exact sortI_ok Tryz.lays189 rfl enters105 (by kernel_rfl) (sort_nil105 _) args bs r q h
  split at hf
  · rename_i j
    cases hf
    subst j
    exact Re.key_ok (baseOf t fz) (fun h=>h) (g:=1) (t:=t) (fz:=fz) (by kernel_rfl) (.head _) args bs r q h
  cases hf
theorem args_of{ps:List PD}(h:Bv Tryz.prog 3 [22] ps):∃l:List Int,ps=[.lst (l.map (.int .i64))]:=by
  match ps,h with
  | [p],⟨h,_⟩=>
    obtain⟨l,rfl,_⟩:=ShV.ints Tryz.underlying22 Tryz.underlying3 h
    exact⟨l,rfl⟩
theorem contract(H:Type)(enc:TypeId×Value->H)(W:World)(base:Nat)(args:Array Value)(u gs:List (DataW H))(before:List MemPlace)
    (q:∀(j:Nat)t v,Tryz.f3.params[j]? =some t->args[j]? =some v->Value.okWide Tryz.prog W .any base t v)
    (D:DataW.Whole enc Tryz.prog Tryz.f3.params.toList Rows.reprocessExactlySpec.vars false W args.toList u gs before) (C:laidMet Tryz.prog Rows.reprocessExactlyRow.laid W) (hS:W.ShapedOpen Tryz.prog):
    Calls Tryz.prog 3 args W fun e B=>∃v,e= .returned v∧Rows.reprocessExactlySpec.post enc Tryz.prog Tryz.f3 false true false false W args v B:=by
  obtain ⟨t, fz, f⟩ := laid_tab (k := .u64) (zs := Lib.pow10Tab) (name := "internal/strconv.uint64pow10") (g := 1) (t := 357) (n := 20) (e := 273) C (.tail _ (.tail _ (.head _))) (by kernel_rfl) (by kernel_rfl) (by kernel_rfl) (by kernel_rfl) (by kernel_rfl) (by kernel_rfl)
  refine Dc (base:=baseOf t fz) (d:=3) (tb:=4) entersLaw q D (by kernel_rfl) rfl (fun u h=>?_) (by kernel_rfl) Tryz.underlying4 (fun a v h=>?_) (fun x F=>?_) (fun r h=>?_)
  · have h1:Tryz.f3.params.size=1:=by kernel_rfl
    rw [h1]at h
    obtain⟨d,rfl⟩:=List.length_eq_one_iff.1 h
    rfl
  · simp only [baseOf]at h
    split at h
    · rename_i E;cases h;subst E;exact⟨by simp [World.cell?,f,Lib.pow10Tab],rfl⟩
    · cases h
  · obtain rfl:=List.mem_singleton.1 F
    exact⟨f,0,.int .u64 1,rfl⟩
  · obtain⟨l,rfl⟩:=args_of (show Bv Tryz.prog 3 [22] r from h)
    exact(Re.n8 (Re.pw l)).callOk (ext_ok t fz) mixed
def wit:Array Value:= #[.slice none 0 0]
noncomputable def laidWorld (os:Os):World:=World.laidAll Tryz.prog os Rows.reprocessExactlyRow.laid
theorem laid_met(os:Os):laidMet Tryz.prog Rows.reprocessExactlyRow.laid ((laidWorld os).forCall (fun _ _=>0) ⟨#[],wit,[]⟩).memory:=
  laidMet_laidAll _ (by kernel_rfl) (by kernel_rfl)
theorem reads(os:Os){H:Type}(enc:TypeId×Value->H):∃places,DataW.whole enc Tryz.prog ((laidWorld os).forCall (fun _ _=>0) ⟨#[],wit,[]⟩).memory Tryz.f3.params.toList Rows.reprocessExactlySpec.vars false wit.toList 8=some ([.nil],[],places):=
  ⟨[],by kernel_rfl⟩
theorem lifted(os:Os)(started:os.Started)(H:Type)(enc:TypeId×Value->H)(F:Stop.Interp):
    ReturnsInHanded {} Tryz.checked os 3 .any ((OpenSpec.ofChange Rows.reprocessExactlySpec).preRow enc Tryz.prog Tryz.f3 Rows.reprocessExactlyRow.domain false Rows.reprocessExactlyRow.laid) (((OpenSpec.ofChange Rows.reprocessExactlySpec).at F).post enc Tryz.prog Tryz.f3 false true false false):=by
  obtain⟨places,r⟩:=reads os enc
  refine returnsInHanded_of_row (C:=Tryz.checked) (s:=OpenSpec.ofChange Rows.reprocessExactlySpec) own started (by kernel_rfl) Tryz.func3
    (witness_row_at (enc := enc) (C := Tryz.checked) false (laidWorld os) wit (World.laidAll_os _ _ _) (by kernel_rfl) (by kernel_rfl) (by kernel_rfl)
      (OpenSpec.preRow_of_cond 8 r (by kernel_rfl) (fun k hk=>by cases hk) (by kernel_rfl) (laid_met os))) ?_
  intro W base args g gs before f q _ _ _ j hS _
  exact contract H enc W base args g gs before f q j hS
theorem fact2:laidOutB Tryz.prog=true:=by kernel_rfl
theorem fact3:mapsRowed Tryz.prog=true:=by kernel_rfl
theorem fact10:(Rows.reprocessExactlyRow.inPlace==Tryz.prog.inPlace 3)=true:=by kernel_rfl
theorem fact11:(Rows.reprocessExactlyRow.unfollowed==Tryz.prog.unfollowed 3)=true:=by kernel_rfl
theorem fact12:(Rows.reprocessExactlyRow.recurses==Tryz.prog.recurses 3)=true:=by kernel_rfl
theorem fact13:(Rows.reprocessExactlyRow.named==Tryz.prog.varsNamed 3)=true:=by kernel_rfl
theorem lN{a b:Bool}(h:a=true)(k:b=true):(a&&b)=true:=by rw [h,k];rfl
theorem pC:joinedFacts Tryz.prog 3 Tryz.f3 Rows.reprocessExactlySpec Rows.reprocessExactlyRow=true:=
  (lN (lN (lN (lN (lN (lN (lN (lN (lN (lN (lN (lN (lN (lN (lN (lN (lN (lN (lN (lN (lN (lN (lN (lN (lN (lN (lN (lN (lN (lN (lN (by kernel_rfl) fact2) fact3) (by kernel_rfl)) (by kernel_rfl)) (by kernel_rfl)) (by kernel_rfl)) (by kernel_rfl)) (by kernel_rfl)) fact10) fact11) fact12) fact13) (by kernel_rfl)) (by kernel_rfl)) (by kernel_rfl)) (by kernel_rfl)) (by kernel_rfl)) (by kernel_rfl)) (by kernel_rfl)) (by kernel_rfl)) (by kernel_rfl)) (by kernel_rfl)) (by kernel_rfl)) (by kernel_rfl)) (by kernel_rfl)) (by kernel_rfl)) (by kernel_rfl)) (by kernel_rfl)) (by kernel_rfl)) (by kernel_rfl)) (by kernel_rfl))
theorem said:Rows.ReprocessExactlySaid:=
  OpenClaim.holds_of_cond 3 Tryz.f3 rfl rfl rfl rfl rfl rfl rfl ⟨rfl,rfl,rfl,rfl,rfl⟩ rfl rfl rfl rfl rfl (by kernel_rfl) Tryz.func3 pC
    (of_decide_eq_true (by kernel_rfl)) (by unfold Func.isWrapper;first|(rw [if_pos (by decide+kernel)];kernel_rfl)|(rw [if_neg (by decide+kernel)];exact⟨rfl,rfl⟩))
    (fun os started H enc _ F=>by rw [OpenClaim.pre_eq_preRow];exact lifted os started H enc F)
theorem plain (f : FuncId) (fn : Func) (hf : Tryz.pinned.checked.prog.funcNamed "seismonet/seismonetlaw40.ReprocessExactly" = some f) (k : Tryz.pinned.checked.prog.funcs[f]? = some fn) :
    true=Tryz.pinned.checked.prog.looks []∧∀(j:Nat)t,fn.params[j]? =some t->Tryz.pinned.checked.prog.wantsStandIn t=false:=by
  obtain rfl : f = 3 := Option.some.inj ((show Tryz.prog.funcNamed "seismonet/seismonetlaw40.ReprocessExactly" = some 3 by kernel_rfl).symm.trans hf) |>.symm
  obtain rfl:fn=Tryz.f3:=(Option.some.inj (Tryz.func3.symm.trans k)).symm
  refine⟨by kernel_rfl,fun j t g=>?_⟩
  rw [Tryz.params3]at g
  have g:=Array.mem_of_getElem? g
  simp only [List.mem_toArray,List.mem_cons,List.not_mem_nil,or_false]at g
  subst g
  exact(show Tryz.prog.wantsStandIn 22=false by kernel_rfl)
theorem card:Rows.ReprocessExactlyCardSaid:=
  Claim7.holds_tied_plain_at .later [] _ _ _ _ said (fun _ h=>by cases h) (by kernel_rfl) (fun _ h=>by cases h) reprocessExactly_row_tie rfl ⟨rfl,rfl⟩ (by kernel_rfl) rfl plain (by kernel_rfl)
end YtfmoipelhfkdkaaGreatDoor
end Go.Proofs
