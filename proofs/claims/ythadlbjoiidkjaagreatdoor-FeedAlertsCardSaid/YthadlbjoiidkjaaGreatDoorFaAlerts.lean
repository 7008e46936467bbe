/- FeedAlerts holds: for all inputs the law returns true, and the input reads as it did. Its conditions: the row's own (the listed tables and errors of Go's library are as the program's text lays them). -/
import Derived.Test.YthadlbjoiidkjaaGreatDoorFaEv
import Derived.Test.YthadlbjoiidkjaaGreatDoorFaLaw
import Derived.Test.YthadlbjoiidkjaaGreatDoorFaLevB
import Derived.Test.YthadlbjoiidkjaaGreatDoorDwSortU
import Derived.Test.YthadlbjoiidkjaaGreatDoorDwClone
import Derived.Test.YthadlbjoiidkjaaGreatDoorDwArg
import Derived.Test.YthadlbjoiidkjaaGreatDoorDwLaid
import Derived.Test.YthadlbjoiidkjaaGreatDoorShelfA
import Derived.Test.YthadlbjoiidkjaaGreatDoorCards
import Derived.Test.YthadlbjoiidkjaaGreatDoorTie
import Derived.WalkKit
import Derived.ProofKit
import Derived.OpenShut
import Derived.Deep.DeepHandedRow
import Derived.Lay
import Derived.Lib.LaidTab

namespace Go.Proofs
namespace YthadlbjoiidkjaaGreatDoor
open Go.ChangeShapes Go.WideShapes Go.ChangeAt Go.RowKit Go.Dw
set_option maxRecDepth 100000
theorem own:ownKnob Tryz.prog.godebug=none:=by kernel_rfl
theorem mixed:Tryz.prog.follows .mixedOrders=true:=by kernel_rfl
theorem enters92:Dw.Enters Tryz.prog 92:=⟨Tryz.f92,Tryz.func92,by decide+kernel,by kernel_rfl⟩
theorem enters103:Dw.Enters Tryz.prog 103:=⟨Tryz.f103,Tryz.func103,by decide+kernel,by kernel_rfl⟩
theorem enters165:Dw.Enters Tryz.prog 165:=⟨Tryz.f165,Tryz.func165,by decide+kernel,by kernel_rfl⟩
theorem enters54:Dw.Enters Tryz.prog 54:=⟨Tryz.f54,Tryz.func54,by decide+kernel,by kernel_rfl⟩
theorem enters39:Dw.Enters Tryz.prog 39:=⟨Tryz.f39,Tryz.func39,by decide+kernel,by kernel_rfl⟩
theorem enters40:Dw.Enters Tryz.prog 40:=⟨Tryz.f40,Tryz.func40,by decide+kernel,by kernel_rfl⟩
theorem enters73:Dw.Enters Tryz.prog 73:=⟨Tryz.f73,Tryz.func73,by decide+kernel,by kernel_rfl⟩
theorem enters74:Dw.Enters Tryz.prog 74:=⟨Tryz.f74,Tryz.func74,by decide+kernel,by kernel_rfl⟩
theorem entersLaw:Dw.Enters Tryz.prog 3:=⟨Tryz.f3,Tryz.func3,by decide+kernel,by kernel_rfl⟩
def baseOf(m:Int)(te te':TypeId)(pe pe':Value)(t:TypeId)(fz:Nat×Nat):mN:=
  ⟨fun a => if a = ⟨0, 0, none⟩ then some (.int .i64 m) else if a = ⟨1, 0, none⟩ then some (.iface te pe) else if a = ⟨2, 0, none⟩ then some (.iface te' pe') else if a = ⟨3, 0, none⟩ then some (.int .u64 1) else none, False,
    [(3,Obj.cells (Lib.pow10Tab.map fun z=>Value.int .u64 z).toArray t fz)]⟩
theorem sort_nil(base:mN):kr Tryz.prog base 39 [.ref 0 0,.d (.raw (.func (.func 40) #[] #[]))] [.arr 0 59 []] (.tup []) [.arr 0 59 []]:=
  o0 (H:={ at_:=fun _ _ _=>[],mt:=fun _ _=>false,by_:=fun _ i=>i==0,own:=fun _ _=>false }) (od _ _) mixed 60 _ _ _ _ _ (by kernel_rfl)
theorem info44:∃i0 z,Tryz.prog.info? 44=some i0∧i0.zero=some z∧i0.size=9∧i0.bytes=104∧z.cells.size=9:=
  ⟨(Tryz.prog.info? 44).get (by kernel_rfl),((Tryz.prog.info? 44).get (by kernel_rfl)).zero.getD (.bool false),(Option.some_get _).symm,by kernel_rfl,by kernel_rfl,by kernel_rfl,by kernel_rfl⟩
theorem info61:∃i0 z,Tryz.prog.info? 61=some i0∧i0.zero=some z∧i0.size=38∧i0.bytes=384∧z.cells.size=38:=
  ⟨(Tryz.prog.info? 61).get (by kernel_rfl),((Tryz.prog.info? 61).get (by kernel_rfl)).zero.getD (.bool false),(Option.some_get _).symm,by kernel_rfl,by kernel_rfl,by kernel_rfl,by kernel_rfl⟩
theorem ext_ok(m:Int)(te te':TypeId)(pe pe':Value)(t:TypeId)(fz:Nat×Nat):ExtOk Tryz.prog (baseOf m te te' pe pe' t fz) Fa.ext:=by
  intro f g hf args bs r bs' h
  unfold Fa.ext at hf
  split at hf
  · rename_i hf'
    cases hf
    subst hf'
    exact split_ok Tryz.laysM146 (m:=m) rfl enters92 args bs r bs' h
  split at hf
  · rename_i hf'
    cases hf
    subst hf'
    exact itoa_ok (base:=baseOf m te te' pe pe' t fz) Tryz.laysM171 (fun h=>h) (g:=3) (t:=t) (fz:=fz) (by kernel_rfl) (.head _) enters103 args bs r bs' h
  split at hf
  · rename_i hf'
    cases hf
    subst hf'
    exact atoi_ok (base:=baseOf m te te' pe pe' t fz) Tryz.laysC172 (fun h=>h) (te:=te) (pe:=pe) (te':=te') (pe':=pe') rfl rfl enters165 args bs r bs' h
  split at hf
  · rename_i hf'
    cases hf
    subst hf'
    exact join_ok Tryz.lays156 Tryz.Builder_Extra_156 (fun h=>h) enters54 args bs r bs' h
  split at hf
  · rename_i hf'
    cases hf
    subst hf'
    exact sortU_ok (α:=Fa.ag) (pd:=Fa.ag.pd) (cmp:=Fa.bc) (g:=40) (e:=59) (k:=30) Tryz.laysSort rfl rfl enters39 enters40 (enters_of Tryz.func40 (by kernel_rfl) rfl) Tryz.isAgg59 Tryz.sizeOf59 (by kernel_rfl) (fun _=>rfl) (fun _=>⟨_,rfl⟩)
      (fun x y c hc=>(Fa.hU hc).qY (od _ _) mixed) (sort_nil _) args bs r bs' h
  split at hf
  · rename_i hf'
    cases hf
    subst hf'
    obtain⟨i0,z,g0,g1,g2,g3,g4⟩:=info61
    exact rY Tryz.laysClone74 (fun h=>h) rfl rfl enters74 g0 g1 g2 g3 g4 om om Tryz.sizeOf61 args bs r bs' h
  split at hf
  · rename_i hf'
    cases hf
    subst hf'
    obtain⟨i0,z,g0,g1,g2,g3,g4⟩:=info44
    exact rY Tryz.laysClone73 (fun h=>h) rfl rfl enters73 g0 g1 g2 g3 g4 om om Tryz.sizeOf44 args bs r bs' h
  split at hf
  · rename_i hf'
    cases hf
    subst hf'
    exact Fa.rlevel_ok _ (fun h=>h) args bs r bs' h
  cases hf
theorem args_of{ps:List PD}(h:rK Tryz.prog 2 [22,3] ps):∃(l:List Int)(n:Int),ps=[.lst (l.map (.int .i64)),.int .i64 n]∧True:=by
  rcases ps with _|⟨p1,_|⟨p2,_|⟨p3,ps⟩⟩⟩
  · exact False.elim h
  · exact False.elim (And.right h)
  · have h1:ShV Tryz.prog 2 22 p1:=And.left h
    have h2:ShV Tryz.prog 2 3 p2:=And.left (And.right h)
    obtain⟨l,rfl,_⟩:=ShV.ints Tryz.underlying22 Tryz.underlying3 h1
    obtain⟨n,rfl,_⟩:=ShV.int Tryz.underlying3 h2
    exact⟨l,n,rfl,trivial⟩
  · exact False.elim (And.right (And.right h))
theorem contract(H:Type)(enc:TypeId×Value->H)(W:World)(base:Nat)(args:Array Value)(ds gs:List (DataW H))(before:List MemPlace)
    (hval:∀(j:Nat)t v,Tryz.f3.params[j]? =some t->args[j]? =some v->Value.okWide Tryz.prog W .any base t v)
    (hW:DataW.Whole enc Tryz.prog Tryz.f3.params.toList Rows.feedAlertsSpec.vars false W args.toList ds gs before) (hL:laidMet Tryz.prog Rows.feedAlertsRow.laid W) (hS:W.ShapedOpen Tryz.prog):
    Calls Tryz.prog 3 args W fun e W'=>∃v,e= .returned v∧Rows.feedAlertsSpec.post enc Tryz.prog Tryz.f3 false true false false W args v W':=by
  obtain⟨m,hm⟩:=Tryz.laysM146.s1_3 W hS
  obtain ⟨t, fz, htab⟩ := laid_tab (k := .u64) (zs := Lib.pow10Tab) (name := "internal/strconv.uint64pow10") (g := 3) (t := 347) (n := 20) (e := 164) hL (.tail _ (.tail _ (.head _))) (by kernel_rfl) (by kernel_rfl) (by kernel_rfl) (by kernel_rfl) (by kernel_rfl) (by kernel_rfl)
  obtain ⟨te', pe', hr⟩ := pV (name := "strconv.ErrRange") (g := 2) (t := 196) hL (.tail _ (.tail _ (.tail _ (.tail _ (.head _))))) (by kernel_rfl) (by kernel_rfl) Tryz.underlying196
  obtain ⟨te, pe, hs⟩ := pV (name := "strconv.ErrSyntax") (g := 1) (t := 196) hL (.tail _ (.tail _ (.tail _ (.tail _ (.tail _ (.head _)))))) (by kernel_rfl) (by kernel_rfl) Tryz.underlying196
  refine uA (base:=baseOf m te te' pe pe' t fz) (d:=2) (tb:=4) entersLaw hval hW (by kernel_rfl) rfl (fun ds h=>?_) (by kernel_rfl) Tryz.underlying4 (fun a v h=>?_) (fun x hx=>?_) (fun pds h=>?_)
  · have h1:Tryz.f3.params.size=2:=by kernel_rfl
    rw [h1]at h
    match ds,h with
    | [d1,d2],_=>rfl
  · simp only [baseOf]at h
    split at h
    · rename_i ha;cases h;subst ha;exact⟨hm,rfl⟩
    split at h
    · rename_i ha;cases h;subst ha;exact⟨hs,rfl⟩
    split at h
    · rename_i ha;cases h;subst ha;exact⟨hr,rfl⟩
    split at h
    · rename_i ha;cases h;subst ha;exact⟨by simp [World.cell?,htab,Lib.pow10Tab],rfl⟩
    · cases h
  · obtain rfl:=List.mem_singleton.1 hx
    exact⟨htab,0,.int .u64 1,rfl⟩
  · obtain⟨l,n,rfl, -⟩:=args_of (show rK Tryz.prog 2 [22,3] pds from h)
    exact(Fa.iA (Fa.FeedAlerts_law l n)).qY (ext_ok m te te' pe pe' t fz) mixed
def wit:Array Value:= #[.slice none 0 0,.int .i64 0]
noncomputable def laidWorld (os:Os):World:=World.laidAll Tryz.prog os Rows.feedAlertsRow.laid
theorem laid_met(os:Os):laidMet Tryz.prog Rows.feedAlertsRow.laid ((laidWorld os).forCall (fun _ _=>0) ⟨#[],wit,[]⟩).memory:=
  laidMet_laidAll _ (by kernel_rfl) (by kernel_rfl)
theorem reads(os:Os){H:Type}(enc:TypeId×Value->H):∃places,DataW.whole enc Tryz.prog ((laidWorld os).forCall (fun _ _=>0) ⟨#[],wit,[]⟩).memory Tryz.f3.params.toList Rows.feedAlertsSpec.vars false wit.toList 8=some ([.nil,.lit (.int .i64 0)],[],places):=
  ⟨[],by kernel_rfl⟩
theorem lifted(os:Os)(started:os.Started)(H:Type)(enc:TypeId×Value->H)(F:Stop.Interp):
    ReturnsInHanded {} Tryz.checked os 3 .any ((OpenSpec.ofChange Rows.feedAlertsSpec).preRow enc Tryz.prog Tryz.f3 Rows.feedAlertsRow.domain false Rows.feedAlertsRow.laid) (((OpenSpec.ofChange Rows.feedAlertsSpec).at F).post enc Tryz.prog Tryz.f3 false true false false):=by
  obtain⟨places,hx⟩:=reads os enc
  refine returnsInHanded_of_row (C:=Tryz.checked) (s:=OpenSpec.ofChange Rows.feedAlertsSpec) own started (by kernel_rfl) Tryz.func3
    (witness_row_at (enc := enc) (C := Tryz.checked) false (laidWorld os) wit (World.laidAll_os _ _ _) (by kernel_rfl) (by kernel_rfl) (by kernel_rfl)
      (OpenSpec.preRow_of_cond 8 hx (by kernel_rfl) (fun k hk=>by cases hk) (by kernel_rfl) (laid_met os))) ?_
  intro W base args ds gs before hval hW _ _ _ hL hS _
  exact contract H enc W base args ds gs before hval hW hL hS
theorem said:Rows.FeedAlertsSaid:=
  OpenClaim.holds_of_cond 3 Tryz.f3 rfl rfl rfl rfl rfl rfl rfl ⟨rfl,rfl,rfl,rfl,rfl⟩ rfl rfl rfl rfl rfl (by kernel_rfl) Tryz.func3 (by kernel_rfl)
    (of_decide_eq_true (by kernel_rfl)) (by unfold Func.isWrapper;first|(rw [if_pos (by decide+kernel)];kernel_rfl)|(rw [if_neg (by decide+kernel)];exact⟨rfl,rfl⟩))
    (fun os started H enc _ F=>by rw [OpenClaim.pre_eq_preRow];exact lifted os started H enc F)
theorem plain (f : FuncId) (fn : Func) (hf : Tryz.pinned.checked.prog.funcNamed "seismonet/seismonetlaw37.FeedAlerts" = some f) (hfn : Tryz.pinned.checked.prog.funcs[f]? = some fn) :
    true=Tryz.pinned.checked.prog.looks []∧∀(j:Nat)t,fn.params[j]? =some t->Tryz.pinned.checked.prog.wantsStandIn t=false:=by
  obtain rfl : f = 3 := Option.some.inj ((show Tryz.prog.funcNamed "seismonet/seismonetlaw37.FeedAlerts" = some 3 by kernel_rfl).symm.trans hf) |>.symm
  obtain rfl:fn=Tryz.f3:=(Option.some.inj (Tryz.func3.symm.trans hfn)).symm
  refine⟨by kernel_rfl,fun j t ht=>?_⟩
  rw [Tryz.params3]at ht
  have ht:=Array.mem_of_getElem? ht
  simp only [List.mem_toArray,List.mem_cons,List.not_mem_nil,or_false]at ht
  rcases ht with rfl|rfl
  · exact(show Tryz.prog.wantsStandIn 22=false by kernel_rfl)
  · exact(show Tryz.prog.wantsStandIn 3=false by kernel_rfl)
theorem card:Rows.FeedAlertsCardSaid:=
  Claim7.holds_tied_plain_at .later [] _ _ _ _ said (fun _ h=>by cases h) (by kernel_rfl) (fun _ h=>by cases h) feedAlerts_row_tie rfl ⟨rfl,rfl⟩ (by kernel_rfl) rfl plain (by kernel_rfl)
end YthadlbjoiidkjaaGreatDoor
end Go.Proofs
