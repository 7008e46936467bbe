/- FeedCarried holds: for all inputs the law returns true, and the input reads as it did. Its conditions: the row's own (the listed tables and errors of Go's library are as the program's text lays them). -/
import Derived.Test.YthadlbjoiidkjaaGreatDoorFcEv
import Derived.Test.YthadlbjoiidkjaaGreatDoorFcLaw
import Derived.Test.YthadlbjoiidkjaaGreatDoorFcIns
import Derived.Test.YthadlbjoiidkjaaGreatDoorDwSortC
import Derived.Test.YthadlbjoiidkjaaGreatDoorDwClone
import Derived.Test.YthadlbjoiidkjaaGreatDoorDwArg
import Derived.Test.YthadlbjoiidkjaaGreatDoorDwLaid
import Derived.Test.YthadlbjoiidkjaaGreatDoorShelfB
import Derived.Test.YthadlbjoiidkjaaGreatDoorCards
import Derived.Test.YthadlbjoiidkjaaGreatDoorTie
import Derived.WalkKit
import Derived.ProofKit
import Derived.OpenShut
import Derived.Deep.DeepHandedRow
import Derived.Lay
import Derived.Lib.LaidTab

namespace Go.Proofs
namespace YthadlbjoiidkjaaGreatDoor
open Go.ChangeShapes Go.WideShapes Go.ChangeAt Go.RowKit Go.Dw
set_option maxRecDepth 100000
theorem own:ownKnob Tryz.prog.godebug=none:=by kernel_rfl
theorem mixed:Tryz.prog.follows .mixedOrders=true:=by kernel_rfl
theorem enters92:Dw.Enters Tryz.prog 92:=⟨Tryz.f92,Tryz.func92,by decide+kernel,by kernel_rfl⟩
theorem enters103:Dw.Enters Tryz.prog 103:=⟨Tryz.f103,Tryz.func103,by decide+kernel,by kernel_rfl⟩
theorem enters165:Dw.Enters Tryz.prog 165:=⟨Tryz.f165,Tryz.func165,by decide+kernel,by kernel_rfl⟩
theorem enters54:Dw.Enters Tryz.prog 54:=⟨Tryz.f54,Tryz.func54,by decide+kernel,by kernel_rfl⟩
theorem enters260:Dw.Enters Tryz.prog 260:=⟨Tryz.f260,Tryz.func260,by decide+kernel,by kernel_rfl⟩
theorem enters261:Dw.Enters Tryz.prog 261:=⟨Tryz.f261,Tryz.func261,by decide+kernel,by kernel_rfl⟩
theorem enters116:Dw.Enters Tryz.prog 116:=⟨Tryz.f116,Tryz.func116,by decide+kernel,by kernel_rfl⟩
theorem enters117:Dw.Enters Tryz.prog 117:=⟨Tryz.f117,Tryz.func117,by decide+kernel,by kernel_rfl⟩
theorem enters118:Dw.Enters Tryz.prog 118:=⟨Tryz.f118,Tryz.func118,by decide+kernel,by kernel_rfl⟩
theorem enters119:Dw.Enters Tryz.prog 119:=⟨Tryz.f119,Tryz.func119,by decide+kernel,by kernel_rfl⟩
theorem entersLaw:Dw.Enters Tryz.prog 4:=⟨Tryz.f4,Tryz.func4,by decide+kernel,by kernel_rfl⟩
def baseOf(m:Int)(te te':TypeId)(pe pe':Value)(t:TypeId)(fz:Nat×Nat):uT:=
  ⟨fun a => if a = ⟨0, 0, none⟩ then some (.int .i64 m) else if a = ⟨1, 0, none⟩ then some (.iface te pe) else if a = ⟨2, 0, none⟩ then some (.iface te' pe') else if a = ⟨3, 0, none⟩ then some (.int .u64 1) else none, False,
    [(3,Obj.cells (Lib.pow10Tab.map fun z=>Value.int .u64 z).toArray t fz)]⟩
theorem sort_nil(base:uT):rG Tryz.prog base 260 [.ref 0 0,.d (.raw (.func (.func 261) #[] #[]))] [.arr 0 207 []] (.tup []) [.arr 0 207 []]:=
  xu (H:={ at_:=fun _ _ _=>[],mt:=fun _ _=>false,by_:=fun _ i=>i==0,own:=fun _ _=>false }) (Ae _ _) mixed 60 _ _ _ _ _ (by kernel_rfl)
theorem info207:∃i0 z,Tryz.prog.info? 207=some i0∧i0.zero=some z∧i0.size=2∧i0.bytes=16∧z.cells.size=2:=
  ⟨(Tryz.prog.info? 207).get (by kernel_rfl),((Tryz.prog.info? 207).get (by kernel_rfl)).zero.getD (.bool false),(Option.some_get _).symm,by kernel_rfl,by kernel_rfl,by kernel_rfl,by kernel_rfl⟩
theorem info9:∃i0 z,Tryz.prog.info? 9=some i0∧i0.zero=some z∧i0.size=1∧i0.bytes=16∧z.cells.size=1:=
  ⟨(Tryz.prog.info? 9).get (by kernel_rfl),((Tryz.prog.info? 9).get (by kernel_rfl)).zero.getD (.bool false),(Option.some_get _).symm,by kernel_rfl,by kernel_rfl,by kernel_rfl,by kernel_rfl⟩
theorem info210:∃i0 z,Tryz.prog.info? 210=some i0∧i0.zero=some z∧i0.size=3∧i0.bytes=32∧z.cells.size=3:=
  ⟨(Tryz.prog.info? 210).get (by kernel_rfl),((Tryz.prog.info? 210).get (by kernel_rfl)).zero.getD (.bool false),(Option.some_get _).symm,by kernel_rfl,by kernel_rfl,by kernel_rfl,by kernel_rfl⟩
theorem info123:∃i0 z,Tryz.prog.info? 123=some i0∧i0.zero=some z∧i0.size=3∧i0.bytes=32∧z.cells.size=3:=
  ⟨(Tryz.prog.info? 123).get (by kernel_rfl),((Tryz.prog.info? 123).get (by kernel_rfl)).zero.getD (.bool false),(Option.some_get _).symm,by kernel_rfl,by kernel_rfl,by kernel_rfl,by kernel_rfl⟩
theorem ext_ok(m:Int)(te te':TypeId)(pe pe':Value)(t:TypeId)(fz:Nat×Nat):ExtOk Tryz.prog (baseOf m te te' pe pe' t fz) Fc.ext:=by
  intro f g hf args bs r bs' h
  unfold Fc.ext at hf
  split at hf
  · rename_i hf'
    cases hf
    subst hf'
    exact split_ok Tryz.laysM146 (m:=m) rfl enters92 args bs r bs' h
  split at hf
  · rename_i hf'
    cases hf
    subst hf'
    exact itoa_ok (base:=baseOf m te te' pe pe' t fz) Tryz.laysM171 (fun h=>h) (g:=3) (t:=t) (fz:=fz) (by kernel_rfl) (.head _) enters103 args bs r bs' h
  split at hf
  · rename_i hf'
    cases hf
    subst hf'
    exact atoi_ok (base:=baseOf m te te' pe pe' t fz) Tryz.laysC172 (fun h=>h) (te:=te) (pe:=pe) (te':=te') (pe':=pe') rfl rfl enters165 args bs r bs' h
  split at hf
  · rename_i hf'
    cases hf
    subst hf'
    exact join_ok Tryz.lays156 Tryz.Builder_Extra_156 (fun h=>h) enters54 args bs r bs' h
  split at hf
  · rename_i hf'
    cases hf
    subst hf'
    exact zH (α:=Fc.ae) (pd:=Fc.ae.pd) (cmp:=Fc.bW) (g:=261) (e:=207) (k:=2) Tryz.laysSort260 rfl rfl enters260 enters261 (enters_of Tryz.func261 (by kernel_rfl) rfl) Tryz.isAgg207 Tryz.sizeOf207 (by kernel_rfl) (fun _=>rfl) (fun _=>⟨_,rfl⟩) (fun _=>rfl)
      (fun x y c hc=>(Fc.nU hc).callOk (Ae _ _) mixed) (sort_nil _) args bs r bs' h
  split at hf
  · rename_i hf'
    cases hf
    subst hf'
    obtain⟨i0,z,g0,g1,g2,g3,g4⟩:=info207
    exact wu Tryz.laysClone117 (fun h=>h) rfl rfl enters117 g0 g1 g2 g3 g4 za za Tryz.sizeOf207 args bs r bs' h
  split at hf
  · rename_i hf'
    cases hf
    subst hf'
    obtain⟨i0,z,g0,g1,g2,g3,g4⟩:=info9
    exact wu Tryz.laysClone116 (fun h=>h) rfl rfl enters116 g0 g1 g2 g3 g4 za za Tryz.sizeOf9 args bs r bs' h
  split at hf
  · rename_i hf'
    cases hf
    subst hf'
    obtain⟨i0,z,g0,g1,g2,g3,g4⟩:=info210
    exact wu Tryz.laysClone118 (fun h=>h) rfl rfl enters118 g0 g1 g2 g3 g4 za za Tryz.sizeOf210 args bs r bs' h
  split at hf
  · rename_i hf'
    cases hf
    subst hf'
    obtain⟨i0,z,g0,g1,g2,g3,g4⟩:=info123
    exact wu Tryz.laysClone119 (fun h=>h) rfl rfl enters119 g0 g1 g2 g3 g4 za za Tryz.sizeOf123 args bs r bs' h
  split at hf
  · rename_i hf'
    cases hf
    subst hf'
    exact insert_ok _ args bs r bs' h
  cases hf
theorem args_of{ps:List PD}(h:zP Tryz.prog 2 [22] ps):∃l:List Int,ps=[.lst (l.map (.int .i64))]:=by
  rcases ps with _|⟨p1,_|⟨p2,ps⟩⟩
  · exact False.elim h
  · have h1:ShV Tryz.prog 2 22 p1:=And.left h
    obtain⟨l,rfl,_⟩:=ShV.ints Tryz.underlying22 Tryz.underlying3 h1
    exact⟨l,rfl⟩
  · exact False.elim (And.right h)
theorem contract(H:Type)(enc:TypeId×Value->H)(W:World)(base:Nat)(args:Array Value)(ds gs:List (DataW H))(before:List MemPlace)
    (hval:∀(j:Nat)t v,Tryz.f4.params[j]? =some t->args[j]? =some v->Value.okWide Tryz.prog W .any base t v)
    (hW:DataW.Whole enc Tryz.prog Tryz.f4.params.toList Rows.feedCarriedSpec.vars false W args.toList ds gs before) (hL:laidMet Tryz.prog Rows.feedCarriedRow.laid W) (hS:W.ShapedOpen Tryz.prog):
    Calls Tryz.prog 4 args W fun e W'=>∃v,e= .returned v∧Rows.feedCarriedSpec.post enc Tryz.prog Tryz.f4 false true false false W args v W':=by
  obtain⟨m,hm⟩:=Tryz.laysM146.s1_3 W hS
  obtain ⟨t, fz, htab⟩ := laid_tab (k := .u64) (zs := Lib.pow10Tab) (name := "internal/strconv.uint64pow10") (g := 3) (t := 347) (n := 20) (e := 164) hL (.tail _ (.tail _ (.head _))) (by kernel_rfl) (by kernel_rfl) (by kernel_rfl) (by kernel_rfl) (by kernel_rfl) (by kernel_rfl)
  obtain ⟨te', pe', hr⟩ := ym (name := "strconv.ErrRange") (g := 2) (t := 196) hL (.tail _ (.tail _ (.tail _ (.tail _ (.head _))))) (by kernel_rfl) (by kernel_rfl) Tryz.underlying196
  obtain ⟨te, pe, hs⟩ := ym (name := "strconv.ErrSyntax") (g := 1) (t := 196) hL (.tail _ (.tail _ (.tail _ (.tail _ (.tail _ (.head _)))))) (by kernel_rfl) (by kernel_rfl) Tryz.underlying196
  refine BE (base:=baseOf m te te' pe pe' t fz) (d:=2) (tb:=4) entersLaw hval hW (by kernel_rfl) rfl (fun ds h=>?_) (by kernel_rfl) Tryz.underlying4 (fun a v h=>?_) (fun x hx=>?_) (fun pds h=>?_)
  · have h1:Tryz.f4.params.size=1:=by kernel_rfl
    rw [h1]at h
    match ds,h with
    | [d1],_=>rfl
  · simp only [baseOf]at h
    split at h
    · rename_i ha;cases h;subst ha;exact⟨hm,rfl⟩
    split at h
    · rename_i ha;cases h;subst ha;exact⟨hs,rfl⟩
    split at h
    · rename_i ha;cases h;subst ha;exact⟨hr,rfl⟩
    split at h
    · rename_i ha;cases h;subst ha;exact⟨by simp [World.cell?,htab,Lib.pow10Tab],rfl⟩
    · cases h
  · obtain rfl:=List.mem_singleton.1 hx
    exact⟨htab,0,.int .u64 1,rfl⟩
  · obtain⟨l,rfl⟩:=args_of (show zP Tryz.prog 2 [22] pds from h)
    exact(Fc.nA (Fc.law_FeedCarried l)).callOk (ext_ok m te te' pe pe' t fz) mixed
def wit:Array Value:= #[.slice none 0 0]
noncomputable def laidWorld (os:Os):World:=World.laidAll Tryz.prog os Rows.feedCarriedRow.laid
theorem laid_met(os:Os):laidMet Tryz.prog Rows.feedCarriedRow.laid ((laidWorld os).forCall (fun _ _=>0) ⟨#[],wit,[]⟩).memory:=
  laidMet_laidAll _ (by kernel_rfl) (by kernel_rfl)
theorem reads(os:Os){H:Type}(enc:TypeId×Value->H):∃places,DataW.whole enc Tryz.prog ((laidWorld os).forCall (fun _ _=>0) ⟨#[],wit,[]⟩).memory Tryz.f4.params.toList Rows.feedCarriedSpec.vars false wit.toList 8=some ([.nil],[],places):=
  ⟨[],by kernel_rfl⟩
theorem lifted(os:Os)(started:os.Started)(H:Type)(enc:TypeId×Value->H)(F:Stop.Interp):
    ReturnsInHanded {} Tryz.checked os 4 .any ((OpenSpec.ofChange Rows.feedCarriedSpec).preRow enc Tryz.prog Tryz.f4 Rows.feedCarriedRow.domain false Rows.feedCarriedRow.laid) (((OpenSpec.ofChange Rows.feedCarriedSpec).at F).post enc Tryz.prog Tryz.f4 false true false false):=by
  obtain⟨places,hx⟩:=reads os enc
  refine returnsInHanded_of_row (C:=Tryz.checked) (s:=OpenSpec.ofChange Rows.feedCarriedSpec) own started (by kernel_rfl) Tryz.func4
    (witness_row_at (enc := enc) (C := Tryz.checked) false (laidWorld os) wit (World.laidAll_os _ _ _) (by kernel_rfl) (by kernel_rfl) (by kernel_rfl)
      (OpenSpec.preRow_of_cond 8 hx (by kernel_rfl) (fun k hk=>by cases hk) (by kernel_rfl) (laid_met os))) ?_
  intro W base args ds gs before hval hW _ _ _ hL hS _
  exact contract H enc W base args ds gs before hval hW hL hS
theorem said:Rows.FeedCarriedSaid:=
  OpenClaim.holds_of_cond 4 Tryz.f4 rfl rfl rfl rfl rfl rfl rfl ⟨rfl,rfl,rfl,rfl,rfl⟩ rfl rfl rfl rfl rfl (by kernel_rfl) Tryz.func4 (by kernel_rfl)
    (of_decide_eq_true (by kernel_rfl)) (by unfold Func.isWrapper;first|(rw [if_pos (by decide+kernel)];kernel_rfl)|(rw [if_neg (by decide+kernel)];exact⟨rfl,rfl⟩))
    (fun os started H enc _ F=>by rw [OpenClaim.pre_eq_preRow];exact lifted os started H enc F)
theorem plain (f : FuncId) (fn : Func) (hf : Tryz.pinned.checked.prog.funcNamed "seismonet/seismonetlaw37.FeedCarried" = some f) (hfn : Tryz.pinned.checked.prog.funcs[f]? = some fn) :
    true=Tryz.pinned.checked.prog.looks []∧∀(j:Nat)t,fn.params[j]? =some t->Tryz.pinned.checked.prog.wantsStandIn t=false:=by
  obtain rfl : f = 4 := Option.some.inj ((show Tryz.prog.funcNamed "seismonet/seismonetlaw37.FeedCarried" = some 4 by kernel_rfl).symm.trans hf) |>.symm
  obtain rfl:fn=Tryz.f4:=(Option.some.inj (Tryz.func4.symm.trans hfn)).symm
  refine⟨by kernel_rfl,fun j t ht=>?_⟩
  rw [Tryz.params4]at ht
  have ht:=Array.mem_of_getElem? ht
  simp only [List.mem_toArray,List.mem_cons,List.not_mem_nil,or_false]at ht
  subst ht
  exact(show Tryz.prog.wantsStandIn 22=false by kernel_rfl)
theorem card:Rows.FeedCarriedCardSaid:=
  Claim7.holds_tied_plain_at .later [] _ _ _ _ said (fun _ h=>by cases h) (by kernel_rfl) (fun _ h=>by cases h) feedCarried_row_tie rfl ⟨rfl,rfl⟩ (by kernel_rfl) rfl plain (by kernel_rfl)
end YthadlbjoiidkjaaGreatDoor
end Go.Proofs
