/- InventoryExact holds: for all inputs the law returns true, and the input reads as it did. Its conditions: the row's own (the listed tables of unicode/utf8 are as the program's text lays them). -/
import Derived.Test.YtgiepghgloiinaaGreatDoorIxEv
import Derived.Test.YtgiepghgloiinaaGreatDoorIxSh
import Derived.Test.YtgiepghgloiinaaGreatDoorIxOdd
import Derived.Test.YtgiepghgloiinaaGreatDoorDwWide
import Derived.Test.YtgiepghgloiinaaGreatDoorDwSort
import Derived.Test.YtgiepghgloiinaaGreatDoorDwClone
import Derived.Test.YtgiepghgloiinaaGreatDoorShelfH
import Derived.Test.YtgiepghgloiinaaGreatDoorCards
import Derived.Test.YtgiepghgloiinaaGreatDoorTie
import Derived.WalkKit
import Derived.ProofKit
import Derived.OpenShut
import Derived.Deep.DeepHandedRow
import Derived.Lib.LaidTab
set_option linter.unusedVariables false
set_option linter.unusedSimpArgs false
open Option renaming some_get->DE

namespace Go.Proofs
namespace YtgiepghgloiinaaGreatDoor
open Go.ChangeShapes Go.WideShapes Go.ChangeAt Go.RowKit Go.Dw
set_option maxRecDepth 100000
theorem own:ownKnob Tryz.prog.godebug=none:=by kernel_rfl
theorem mixed:Tryz.prog.follows .mixedOrders=true:=by kernel_rfl
theorem enters107:Dw.Enters Tryz.prog 107:=⟨Tryz.f107,Tryz.func107,by decide+kernel,by kernel_rfl⟩
theorem enters76:Dw.Enters Tryz.prog 76:=⟨Tryz.f76,Tryz.func76,by decide+kernel,by kernel_rfl⟩
theorem enters77:Dw.Enters Tryz.prog 77:=⟨Tryz.f77,Tryz.func77,by decide+kernel,by kernel_rfl⟩
theorem enters70:Dw.Enters Tryz.prog 70:=⟨Tryz.f70,Tryz.func70,by decide+kernel,by kernel_rfl⟩
theorem enters101:Dw.Enters Tryz.prog 101:=⟨Tryz.f101,Tryz.func101,by decide+kernel,by kernel_rfl⟩
theorem enters102:Dw.Enters Tryz.prog 102:=⟨Tryz.f102,Tryz.func102,by decide+kernel,by kernel_rfl⟩
theorem enters73:Dw.Enters Tryz.prog 73:=⟨Tryz.f73,Tryz.func73,by decide+kernel,by kernel_rfl⟩
theorem entersLaw:Dw.Enters Tryz.prog 3:=⟨Tryz.f3,Tryz.func3,by decide+kernel,by kernel_rfl⟩
def baseOf(m:Int):qc:=⟨fun a=>if a=⟨0,0,none⟩then some (.int .i64 m)else none,False,[]⟩
theorem sort_nil(base:qc):nj Tryz.prog base 76 [.ref 0 0,.d (.raw (.func (.func 77) #[] #[]))] [.arr 0 70 []] (.tup []) [.arr 0 70 []]:=
  rG (H:={ at_:=fun _ _ _=>[],mt:=fun _ _=>false,by_:=fun _ i=>i==0,own:=fun _ _=>false }) (vM _ _) mixed 60 _ _ _ _ _ (by kernel_rfl)
theorem info41:∃i0 z,Tryz.prog.info? 41=some i0∧i0.zero=some z∧i0.size=8∧i0.bytes=80∧z.cells.size=8:=
  ⟨(Tryz.prog.info? 41).get (by kernel_rfl),((Tryz.prog.info? 41).get (by kernel_rfl)).zero.getD (.bool false),(DE _).symm,by kernel_rfl,by kernel_rfl,by kernel_rfl,by kernel_rfl⟩
theorem info84:∃i0 z,Tryz.prog.info? 84=some i0∧i0.zero=some z∧i0.size=10∧i0.bytes=96∧z.cells.size=10:=
  ⟨(Tryz.prog.info? 84).get (by kernel_rfl),((Tryz.prog.info? 84).get (by kernel_rfl)).zero.getD (.bool false),(DE _).symm,by kernel_rfl,by kernel_rfl,by kernel_rfl,by kernel_rfl⟩
theorem info3:∃i0 z,Tryz.prog.info? 3=some i0∧i0.zero=some z∧i0.size=1∧i0.bytes=8∧z.cells.size=1:=
  ⟨(Tryz.prog.info? 3).get (by kernel_rfl),((Tryz.prog.info? 3).get (by kernel_rfl)).zero.getD (.bool false),(DE _).symm,by kernel_rfl,by kernel_rfl,by kernel_rfl,by kernel_rfl⟩
theorem info70:∃i0 z,Tryz.prog.info? 70=some i0∧i0.zero=some z∧i0.size=2∧i0.bytes=16∧z.cells.size=2:=
  ⟨(Tryz.prog.info? 70).get (by kernel_rfl),((Tryz.prog.info? 70).get (by kernel_rfl)).zero.getD (.bool false),(DE _).symm,by kernel_rfl,by kernel_rfl,by kernel_rfl,by kernel_rfl⟩
theorem ext_ok(m:Int):ExtOk Tryz.prog (baseOf m) Ix.ext:=by
  intro f g hf args bs r b h
  unfold Ix.ext at hf
  split at hf
  · rename_i a
    cases hf
    subst a
    exact Ix.oddD_ok _ args bs r b h
  split at hf
  · rename_i a
    cases hf
    subst a
    exact split_ok Tryz.laysM146 (m:=m) rfl enters107 args bs r b h
  split at hf
  · rename_i a
    cases hf
    subst a
    exact sort_ok (α:=Ix.Span) (pd:=Ix.ap.pd) (cmp:=Ix.bj) (g:=77) (e:=70) (k:=2) Tryz.laysSort rfl rfl enters76 enters77 (enters_of Tryz.func77 (by kernel_rfl) rfl) Tryz.isAgg70 Tryz.sizeOf70 (by kernel_rfl) (fun _=>rfl) (fun _=>⟨_,rfl⟩) (fun _=>rfl)
      (fun x y c hc=>(Ix.i8 hc).wG (vM _ _) mixed) (sort_nil _) args bs r b h
  split at hf
  · rename_i a
    cases hf
    subst a
    obtain⟨i0,z,g0,g1,g2,g3,g4⟩:=info41
    exact qh Tryz.laysClone70 (fun h=>h) rfl rfl enters70 g0 g1 g2 g3 g4 om om Tryz.sizeOf41 args bs r b h
  split at hf
  · rename_i a
    cases hf
    subst a
    obtain⟨i0,z,g0,g1,g2,g3,g4⟩:=info84
    exact qh Tryz.laysClone101 (fun h=>h) rfl rfl enters101 g0 g1 g2 g3 g4 om om Tryz.sizeOf84 args bs r b h
  split at hf
  · rename_i a
    cases hf
    subst a
    obtain⟨i0,z,g0,g1,g2,g3,g4⟩:=info3
    exact qh Tryz.laysClone102 (fun h=>h) rfl rfl enters102 g0 g1 g2 g3 g4 om om Tryz.sizeOf3 args bs r b h
  split at hf
  · rename_i a
    cases hf
    subst a
    obtain⟨i0,z,g0,g1,g2,g3,g4⟩:=info70
    exact qh Tryz.laysClone73 (fun h=>h) rfl rfl enters73 g0 g1 g2 g3 g4 om om Tryz.sizeOf70 args bs r b h
  cases hf
theorem wide8:tU Tryz.prog:=wide8_of (by kernel_rfl)
theorem contract(H:Type)(enc:TypeId×Value->H)(W:World)(base:Nat)(args:Array Value)(c gs:List (DataW H))(before:List MemPlace)
    (b:∀(j:Nat)t v,Tryz.f3.params[j]? =some t->args[j]? =some v->Value.okWide Tryz.prog W .any base t v)
    (k:DataW.Whole enc Tryz.prog Tryz.f3.params.toList Rows.inventoryExactSpec.vars false W args.toList c gs before)
    (f:(DataW.weightsEach Tryz.prog (Tryz.f3.params.toList++(OpenSpec.ofChange Rows.inventoryExactSpec).bare.plain.varTypes Tryz.prog) (c++gs)).all (· <=reachBytes)=true) (hS:W.ShapedOpen Tryz.prog):
    Calls Tryz.prog 3 args W fun e i=>∃v,e= .returned v∧Rows.inventoryExactSpec.post enc Tryz.prog Tryz.f3 false true false false W args v i:=by
  obtain⟨m,hm⟩:=Tryz.laysM146.s1_3 W hS
  refine wU wide8 (N:=reachBytes) (base:=baseOf m) (d:=10) (tb:=4) entersLaw b k (by kernel_rfl) rfl (fun c h=>?_) (by kernel_rfl) Tryz.underlying4 (fun a v h=>?_) (fun x r=>by cases r) (fun n q=>?_) (fun g h hw=>?_)
  · have h1:Tryz.f3.params.size=5:=by kernel_rfl
    rw [h1]at h
    match c,h with
    | [d1,d2,d3,d4,d5],_=>rfl
  · simp only [baseOf]at h
    split at h
    · rename_i o;cases h;subst o;exact⟨hm,rfl⟩
    · cases h
  · have h1:=List.all_eq_true.1 f n (oS q)
    simpa using h1
  · obtain⟨l,v,s,x,p,rfl⟩:=Ix.args_of (show vp Tryz.prog 10 [22,25,27,3,9] g from h)
    exact(Ix.im (Ix.holds_of l s x p (hw v.pd sm))).wG (ext_ok m) mixed
def wit:Array Value:= #[.slice none 0 0,.agg #[.slice none 0 0],.agg #[.string ⟨#[]⟩,.string ⟨#[]⟩,.string ⟨#[]⟩,.string ⟨#[]⟩],.int .i64 0,.string ⟨#[]⟩]
def jL:List (DataW Unit)->List Value
  | []=>[]
  | .lit (.int k n)::r=>.int k n::jL r
  | .agg [.lit (.int k n),.lit (.int k' a)]::r=>.int k n:: .int k' a::jL r
  |_::r=>jL r
def cellsOfAgg:DataW Unit->Array Value
  | .agg l=>(jL l).toArray
  |_=> #[]
noncomputable def layAt (g:Nat) (d:DataW Unit) (w:World):World:=
  { w with heap := w.heap.modify g fun
      | .cells _ t frozen=>.cells (cellsOfAgg d) t frozen
      |o=>o }
noncomputable def laidWorld (os:Os):World:=layAt 1 Rows.laid_unicode_utf8_first (layAt 2 Rows.laid_unicode_utf8_acceptRanges (World.holding Tryz.prog os ⟨#[], #[],[]⟩))
theorem laid_met(os:Os):laidMet Tryz.prog Rows.inventoryExactRow.laid ((laidWorld os).forCall (fun _ _=>0) ⟨#[],wit,[]⟩).memory:=
  laidMet_of_run' 8 (by kernel_rfl) (by kernel_rfl)
theorem reads(os:Os){H:Type}(enc:TypeId×Value->H):∃places,DataW.whole enc Tryz.prog ((laidWorld os).forCall (fun _ _=>0) ⟨#[],wit,[]⟩).memory Tryz.f3.params.toList Rows.inventoryExactSpec.vars false wit.toList 8=some ([.nil,.agg [.nil],.agg [.lit (.string []),.lit (.string []),.lit (.string []),.lit (.string [])],.lit (.int .i64 0),.lit (.string [])],[],places):=
  ⟨[],by kernel_rfl⟩
theorem lifted(os:Os)(started:os.Started)(H:Type)(enc:TypeId×Value->H)(F:Stop.Interp):
    ReturnsInHanded {} Tryz.checked os 3 .any ((OpenSpec.ofChange Rows.inventoryExactSpec).preRow enc Tryz.prog Tryz.f3 Rows.inventoryExactRow.domain false Rows.inventoryExactRow.laid) (((OpenSpec.ofChange Rows.inventoryExactSpec).at F).post enc Tryz.prog Tryz.f3 false true false false):=by
  obtain⟨places,f⟩:=reads os enc
  refine returnsInHanded_of_row (C:=Tryz.checked) (s:=OpenSpec.ofChange Rows.inventoryExactSpec) own started (by kernel_rfl) Tryz.func3
    (witness_row_at (enc := enc) (C := Tryz.checked) false (laidWorld os) wit rfl (by kernel_rfl) (by kernel_rfl) (by kernel_rfl)
      (OpenSpec.preRow_of_cond 8 f (by kernel_rfl) (fun k hk=>by cases hk) (by kernel_rfl) (laid_met os))) ?_
  intro W base args c gs before a e _ _ b g hS _
  exact contract H enc W base args c gs before a e b hS
theorem said:Rows.InventoryExactSaid:=
  OpenClaim.holds_of_cond 3 Tryz.f3 rfl rfl rfl rfl rfl rfl rfl ⟨rfl,rfl,rfl,rfl,rfl⟩ rfl rfl rfl rfl rfl (by kernel_rfl) Tryz.func3 (by kernel_rfl)
    (of_decide_eq_true (by kernel_rfl)) (by unfold Func.isWrapper;first|(rw [if_pos (by decide+kernel)];kernel_rfl)|(rw [if_neg (by decide+kernel)];exact⟨rfl,rfl⟩))
    (fun os started H enc _ F=>by rw [OpenClaim.pre_eq_preRow];exact lifted os started H enc F)
theorem plain (f : FuncId) (fn : Func) (hf : Tryz.pinned.checked.prog.funcNamed "seismonet/seismonetlaw19.InventoryExact" = some f) (a : Tryz.pinned.checked.prog.funcs[f]? = some fn) :
    false=Tryz.pinned.checked.prog.looks []∧∀(j:Nat)t,fn.params[j]? =some t->Tryz.pinned.checked.prog.wantsStandIn t=false:=by
  obtain rfl : f = 3 := Option.some.inj ((show Tryz.prog.funcNamed "seismonet/seismonetlaw19.InventoryExact" = some 3 by kernel_rfl).symm.trans hf) |>.symm
  obtain rfl:fn=Tryz.f3:=(Option.some.inj (Tryz.func3.symm.trans a)).symm
  refine⟨by kernel_rfl,fun j t ht=>?_⟩
  rw [Tryz.params3]at ht
  have ht:=Array.mem_of_getElem? ht
  simp only [List.mem_toArray,List.mem_cons,List.not_mem_nil,or_false]at ht
  rcases ht with rfl|rfl|rfl|rfl|rfl
  · exact(show Tryz.prog.wantsStandIn 22=false by kernel_rfl)
  · exact(show Tryz.prog.wantsStandIn 25=false by kernel_rfl)
  · exact(show Tryz.prog.wantsStandIn 27=false by kernel_rfl)
  · exact(show Tryz.prog.wantsStandIn 3=false by kernel_rfl)
  · exact(show Tryz.prog.wantsStandIn 9=false by kernel_rfl)
theorem card:Rows.InventoryExactCardSaid:=
  Claim7.holds_tied_plain_at .later [] _ _ _ _ said (fun _ h=>by cases h) (by kernel_rfl) (fun _ h=>by cases h) inventoryExact_row_tie rfl ⟨rfl,rfl⟩ (by kernel_rfl) rfl plain (by kernel_rfl)
end YtgiepghgloiinaaGreatDoor
end Go.Proofs
