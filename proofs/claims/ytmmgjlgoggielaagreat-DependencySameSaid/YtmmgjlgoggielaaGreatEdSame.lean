/- DependencySame holds: for every list of numbers the law returns true, and the list reads as it did. Its conditions: none but the row's own. -/
import Derived.Test.YtmmgjlgoggielaaGreatEdEv
import Derived.Test.YtmmgjlgoggielaaGreatEdLaw
import Derived.Test.YtmmgjlgoggielaaGreatDwArg
import Derived.Test.YtmmgjlgoggielaaGreatDwSort
import Derived.Test.YtmmgjlgoggielaaGreatDwClone
import Derived.Test.YtmmgjlgoggielaaGreatDwSortI
import Derived.Test.YtmmgjlgoggielaaGreatShelfX
import Derived.Test.YtmmgjlgoggielaaGreatDwConst
import Derived.Test.YtmmgjlgoggielaaGreatRows
import Derived.WalkKit
import Derived.ProofKit
import Derived.OpenShut
import Derived.Deep.DeepHandedRow
import Derived.Lay
import Derived.Lib.LaidTab

namespace Go.Proofs
namespace YtmmgjlgoggielaaGreat
open Go.ChangeShapes Go.WideShapes Go.ChangeAt Go.RowKit Go.Dw
set_option maxRecDepth 100000
theorem own:ownKnob Tryz.prog.godebug=none:=by kernel_rfl
theorem mixed:Tryz.prog.follows .mixedOrders=true:=by kernel_rfl
theorem entersLaw:Dw.Enters Tryz.prog 10:=⟨Tryz.f10,Tryz.func10,by decide+kernel,by kernel_rfl⟩
theorem enters79:Dw.Enters Tryz.prog 79:=⟨Tryz.f79,Tryz.func79,by decide+kernel,by kernel_rfl⟩
theorem enters80:Dw.Enters Tryz.prog 80:=⟨Tryz.f80,Tryz.func80,by decide+kernel,by kernel_rfl⟩
theorem sort_nil79(base:vr):rG Tryz.prog base 79 [.ref 0 0,.d (.raw (.func (.func 80) #[] #[]))] [.arr 0 66 []] (.tup []) [.arr 0 66 []]:=
  tT (H:={ at_:=fun _ _ _=>[],mt:=fun _ _=>false,by_:=fun _ i=>i==0,own:=fun _ _=>false }) (wX _ _) mixed 60 _ _ _ _ _ (by kernel_rfl)
theorem enters182:Dw.Enters Tryz.prog 182:=⟨Tryz.f182,Tryz.func182,by decide+kernel,by kernel_rfl⟩
theorem info66:∃i0 z,Tryz.prog.info? 66=some i0∧i0.zero=some z∧i0.size=9∧i0.bytes=104∧z.cells.size=9:=
  ⟨(Tryz.prog.info? 66).get (by kernel_rfl),((Tryz.prog.info? 66).get (by kernel_rfl)).zero.getD (.bool false),(Option.some_get _).symm,by kernel_rfl,by kernel_rfl,by kernel_rfl,by kernel_rfl⟩
theorem enters325:Dw.Enters Tryz.prog 325:=⟨Tryz.f325,Tryz.func325,by decide+kernel,by kernel_rfl⟩
theorem info113:∃i0 z,Tryz.prog.info? 113=some i0∧i0.zero=some z∧i0.size=8∧i0.bytes=80∧z.cells.size=8:=
  ⟨(Tryz.prog.info? 113).get (by kernel_rfl),((Tryz.prog.info? 113).get (by kernel_rfl)).zero.getD (.bool false),(Option.some_get _).symm,by kernel_rfl,by kernel_rfl,by kernel_rfl,by kernel_rfl⟩
theorem enters364:Dw.Enters Tryz.prog 364:=⟨Tryz.f364,Tryz.func364,by decide+kernel,by kernel_rfl⟩
theorem info184:∃i0 z,Tryz.prog.info? 184=some i0∧i0.zero=some z∧i0.size=10∧i0.bytes=96∧z.cells.size=10:=
  ⟨(Tryz.prog.info? 184).get (by kernel_rfl),((Tryz.prog.info? 184).get (by kernel_rfl)).zero.getD (.bool false),(Option.some_get _).symm,by kernel_rfl,by kernel_rfl,by kernel_rfl,by kernel_rfl⟩
theorem enters107:Dw.Enters Tryz.prog 107:=⟨Tryz.f107,Tryz.func107,by decide+kernel,by kernel_rfl⟩
theorem info3:∃i0 z,Tryz.prog.info? 3=some i0∧i0.zero=some z∧i0.size=1∧i0.bytes=8∧z.cells.size=1:=
  ⟨(Tryz.prog.info? 3).get (by kernel_rfl),((Tryz.prog.info? 3).get (by kernel_rfl)).zero.getD (.bool false),(Option.some_get _).symm,by kernel_rfl,by kernel_rfl,by kernel_rfl,by kernel_rfl⟩
theorem enters133:Dw.Enters Tryz.prog 133:=⟨Tryz.f133,Tryz.func133,by decide+kernel,by kernel_rfl⟩
theorem sort_nil133(base:vr):rG Tryz.prog base 133 [.ref 0 0] [.arr 0 3 []] (.tup []) [.arr 0 3 []]:=
  tT (H:={ at_:=fun _ _ _=>[],mt:=fun _ _=>false,by_:=fun _ i=>i==0,own:=fun _ _=>false }) (wX _ _) mixed 60 _ _ _ _ _ (by kernel_rfl)
def hintAtC:FuncId->Nat->Nat->List wM:=fun f nb id=>
  if f=95 then(if nb=0 then(if id=3 then [.nZ [3,6,7,8] []]else if id=8 then [.nZ [3] []]else [])else [])else if f=98 then(if nb=0 then(if id=5 then [.wx 624,.ownn (.reg 6) 624 42 66,.nZ [0,5,6,15,16,17] [192,624]]else if id=8 then [.wx 624,.ownn (.reg 6) 624 42 66,.nZ [0,5,6,8,15,16,17] [128,192,624]]else if id=9 then [.lend 624 none 784]else if id=11 then [.wx 624,.nZ [6] [624]]else if id=12 then [.wx 624,.nZ [6,55,56,57] [624]]else if id=13 then [.lend 624 (some 57) 960]else if id=16 then [.wx 624,.frzn (.reg 6),.nZ [6] []]else [])else [])else if f=102 then(if nb=0 then(if id=4 then [.own 4 384 64,.nZ [3,4,11,12,13] [160,384]]else if id=10 then [.nZ [3,4] [160,384]]else if id=12 then [.frzm 160,.own 7 880 179,.nZ [3,7,41,42,43] [160,880]]else if id=14 then [.frzm 160,.nZ [3,7,9,41,42,43] [144,160,880]]else if id=16 then [.nZ [7] [880]]else [])else [])else if f=103 then(if nb=0 then(if id=4 then [.nZ [0,1,5] []]else if id=5 then [.nZ [0,1,5] []]else if id=9 then [.nZ [0,1,5,6] []]else if id=13 then [.nZ [] []]else [])else [])else if f=152 then(if nb=1 then(if id=2 then [.nZ [0,1,2,3,4,10,11] [0]]else [])else [])else if f=181 then(if nb=0 then(if id=5 then [.own 4 816 176,.nZ [4,13,14,15] [144,816]]else if id=12 then [.nZ [4] [816]]else [])else [])else if f=183 then(if nb=1 then(if id=2 then [.bumpp (.reg 0),.nZ [0] [0]]else if id=4 then [.nZ [0,3] [0]]else if id=9 then [.nZ [0,3,4,5] [0]]else if id=14 then [.nZ [0,3] [0]]else if id=16 then [.bumpp (.reg 0),.nZ [0] [0]]else [])else [])else if f=217 then(if nb=0 then(if id=4 then [.nZ [0,2] []]else if id=7 then [.nZ [0,2] []]else [])else [])else if f=231 then(if nb=1 then(if id=1 then [.nZ [0,1,2,3,8] [0]]else if id=2 then [.nZ [0,1,2,3,8] [0]]else if id=4 then [.nZ [0,1,2,3,8,9] [0]]else [])else [])else if f=241 then(if nb=0 then(if id=2 then [.nZ [0,1,2,9,10] []]else if id=7 then [.nZ [0,1,2] []]else [])else [])else if f=255 then(if nb=0 then(if id=2 then [.nZ [0,1,7,8] []]else if id=7 then [.nZ [] []]else [])else [])else if f=256 then(if nb=1 then(if id=2 then [.nZ [0,1,2,6,7,8] [0]]else if id=6 then [.nZ [0,1,2,6,7] [0]]else if id=7 then [.nZ [0,1,2,6] [0]]else if id=9 then [.nZ [0,1,2,6,7,8] [0]]else if id=13 then [.nZ [0,1,2,6,7] [0]]else [])else [])else if f=260 then(if nb=1 then(if id=4 then [.nZ [0,3] [0]]else if id=9 then [.nZ [0,3,4,5] [0]]else if id=14 then [.nZ [0,3] [0]]else if id=16 then [.nZ [0] [0]]else [])else [])else if f=261 then(if nb=1 then(if id=3 then [.bumpp (.reg 0),.nZ [0] [0]]else if id=5 then [.nZ [0,1,5,6] [0]]else if id=11 then [.nZ [0,5] [0]]else [])else [])else if f=327 then(if nb=1 then(if id=2 then [.nZ [0,1,2,3,4,10,11] [0]]else [])else [])else if f=328 then(if nb=0 then(if id=2 then [.nZ [0,1,7,8] []]else if id=7 then [.nZ [] []]else [])else [])else if f=329 then(if nb=1 then(if id=2 then [.nZ [0,1,2,3,4,10,11] [0]]else [])else [])else if f=365 then(if nb=1 then(if id=1 then [.nZ [0,1,2,3,8] [0]]else if id=2 then [.nZ [0,1,2,3,8] [0]]else if id=4 then [.nZ [0,1,2,3,8,9] [0]]else [])else [])else if f=373 then(if nb=1 then(if id=1 then [.nZ [0,1,2,3,8] [0]]else if id=2 then [.nZ [0,1,2,3,8] [0]]else if id=4 then [.nZ [0,1,2,3,8,9] [0]]else [])else [])else []
def hintsC:Hints:={ at_:=hintAtC,mt:=fun f i=>(f==98&&i==38)||(f==102&&i==10)||(f==182&&i==5)||(f==183&&i==59)||(f==258&&i==5)||(f==261&&i==41)||(f==262&&i==5),by_:=fun f i=>(f==79&&i==0)||(f==152&&i==0)||(f==173&&i==0)||(f==183&&i==0)||(f==231&&i==0)||(f==256&&i==0)||(f==259&&i==0)||(f==260&&i==0)||(f==261&&i==0)||(f==265&&i==0)||(f==327&&i==0)||(f==329&&i==0)||(f==365&&i==0)||(f==373&&i==0),own:=fun f i=>(f==106&&i==0)||(f==182&&i==0)||(f==183&&i==0)||(f==258&&i==0)||(f==261&&i==0)||(f==262&&i==0) }
theorem const47(base:vr):rG Tryz.prog base 47 [] [] (.d (.bool true)) []:=
  tT (H:=hintsC) (wX _ _) mixed 300 _ _ _ _ _ (by kernel_rfl)
def base0:vr:=⟨fun _=>none,False,[]⟩
theorem ext_ok:ExtOk Tryz.prog base0 Ed.ext:=by
  intro f g hf args bs r bs' h
  unfold Ed.ext at hf
  split at hf
  · rename_i hf'
    cases hf
    subst hf'
    exact sort_ok (α:=Ed.ae) (pd:=Ed.ae.pd) (cmp:=Ed.b9) (g:=80) (e:=66) (k:=9) Tryz.laysSort79 rfl rfl enters79 enters80 (enters_of Tryz.func80 (by kernel_rfl) rfl) Tryz.isAgg66 Tryz.sizeOf66 (by kernel_rfl) (fun _=>rfl) (fun _=>⟨_,rfl⟩) (fun _=>rfl)
      (fun x y c hc=>(Ed.oS hc).callOk (wX _ _) mixed) (sort_nil79 _) args bs r bs' h
  split at hf
  · rename_i hf'
    cases hf
    subst hf'
    obtain⟨i0,z,g0,g1,g2,g3,g4⟩:=info66
    exact wQ Tryz.laysClone182 (fun h=>h) rfl rfl enters182 g0 g1 g2 g3 g4 za za Tryz.sizeOf66 args bs r bs' h
  split at hf
  · rename_i hf'
    cases hf
    subst hf'
    obtain⟨i0,z,g0,g1,g2,g3,g4⟩:=info113
    exact wQ Tryz.laysClone325 (fun h=>h) rfl rfl enters325 g0 g1 g2 g3 g4 za za Tryz.sizeOf113 args bs r bs' h
  split at hf
  · rename_i hf'
    cases hf
    subst hf'
    obtain⟨i0,z,g0,g1,g2,g3,g4⟩:=info184
    exact wQ Tryz.laysClone364 (fun h=>h) rfl rfl enters364 g0 g1 g2 g3 g4 za za Tryz.sizeOf184 args bs r bs' h
  split at hf
  · rename_i hf'
    cases hf
    subst hf'
    obtain⟨i0,z,g0,g1,g2,g3,g4⟩:=info3
    exact wQ Tryz.laysClone107 (fun h=>h) rfl rfl enters107 g0 g1 g2 g3 g4 za za Tryz.sizeOf3 args bs r bs' h
  split at hf
  · rename_i hf'
    cases hf
    subst hf'
    exact sortI_ok Tryz.lays189 rfl enters133 (by kernel_rfl) (sort_nil133 _) args bs r bs' h
  split at hf
  · rename_i hf'
    cases hf
    subst hf'
    exact const_ok (const47 _) args bs r bs' h
  cases hf
theorem ints_of{ps:List PD}(h:Ak Tryz.prog 3 [22] ps):∃l:List Int,ps=[.lst (l.map (.int .i64))]:=by
  match ps,h with
  | [p],⟨h,_⟩=>
    obtain⟨l,rfl,_⟩:=ShV.ints Tryz.underlying22 Tryz.underlying3 h
    exact⟨l,rfl⟩
theorem contract(H:Type)(enc:TypeId×Value->H)(W:World)(base:Nat)(args:Array Value)(ds gs:List (DataW H))(before:List MemPlace)
    (hval:∀(j:Nat)t v,Tryz.f10.params[j]? =some t->args[j]? =some v->Value.okWide Tryz.prog W .any base t v)
    (hW:DataW.Whole enc Tryz.prog Tryz.f10.params.toList Rows.dependencySameSpec.vars false W args.toList ds gs before):
    Calls Tryz.prog 10 args W fun e W'=>∃v,e= .returned v∧Rows.dependencySameSpec.post enc Tryz.prog Tryz.f10 false true false false W args v W':=by
  refine BZ (base:=base0) (d:=3) (tb:=4) entersLaw hval hW (by kernel_rfl) rfl (fun ds h=>?_) (by kernel_rfl) Tryz.underlying4 (fun a v h=>by cases h) (fun x hx=>by cases hx) (fun pds h=>?_)
  · have h1:Tryz.f10.params.size=1:=by kernel_rfl
    rw [h1]at h
    obtain⟨d,rfl⟩:=List.length_eq_one_iff.1 h
    rfl
  · obtain⟨l,rfl⟩:=ints_of (show Ak Tryz.prog 3 [22] pds from h)
    exact(Ed.mH (Ed.oE l)).callOk ext_ok mixed
def wit:Array Value:= #[.slice none 0 0]
noncomputable def laidWorld (os:Os):World:=World.laidAll Tryz.prog os Rows.dependencySameRow.laid
theorem laid_met(os:Os):laidMet Tryz.prog Rows.dependencySameRow.laid ((laidWorld os).forCall (fun _ _=>0) ⟨#[],wit,[]⟩).memory:=
  laidMet_laidAll _ (by kernel_rfl) (by kernel_rfl)
theorem reads(os:Os){H:Type}(enc:TypeId×Value->H):∃places,DataW.whole enc Tryz.prog ((laidWorld os).forCall (fun _ _=>0) ⟨#[],wit,[]⟩).memory Tryz.f10.params.toList Rows.dependencySameSpec.vars false wit.toList 8=some ([.nil],[],places):=
  ⟨[],by kernel_rfl⟩
theorem lifted(os:Os)(started:os.Started)(H:Type)(enc:TypeId×Value->H)(F:Stop.Interp):
    ReturnsInHanded {} Tryz.checked os 10 .any ((OpenSpec.ofChange Rows.dependencySameSpec).preRow enc Tryz.prog Tryz.f10 Rows.dependencySameRow.domain false Rows.dependencySameRow.laid) (((OpenSpec.ofChange Rows.dependencySameSpec).at F).post enc Tryz.prog Tryz.f10 false true false false):=by
  obtain⟨places,hx⟩:=reads os enc
  refine returnsInHanded_of_row (C:=Tryz.checked) (s:=OpenSpec.ofChange Rows.dependencySameSpec) own started (by kernel_rfl) Tryz.func10
    (witness_row_at (enc := enc) (C := Tryz.checked) false (laidWorld os) wit (World.laidAll_os _ _ _) (by kernel_rfl) (by kernel_rfl) (by kernel_rfl)
      (OpenSpec.preRow_of_cond 8 hx (by kernel_rfl) (fun k hk=>by cases hk) (by kernel_rfl) (laid_met os))) ?_
  intro W base args ds gs before hval hW _ _ _ hL hS _
  exact contract H enc W base args ds gs before hval hW
theorem fact2:laidOutB Tryz.prog=true:=by kernel_rfl
theorem fact3:mapsRowed Tryz.prog=true:=by kernel_rfl
theorem fact10:(Rows.dependencySameRow.inPlace==Tryz.prog.inPlace 10)=true:=by kernel_rfl
theorem fact11:(Rows.dependencySameRow.unfollowed==Tryz.prog.unfollowed 10)=true:=by kernel_rfl
theorem fact12:(Rows.dependencySameRow.recurses==Tryz.prog.recurses 10)=true:=by kernel_rfl
theorem fact13:(Rows.dependencySameRow.named==Tryz.prog.varsNamed 10)=true:=by kernel_rfl
theorem ja{a b:Bool}(h:a=true)(k:b=true):(a&&b)=true:=by rw [h,k];rfl
theorem facts:joinedFacts Tryz.prog 10 Tryz.f10 Rows.dependencySameSpec Rows.dependencySameRow=true:=
  (ja (ja (ja (ja (ja (ja (ja (ja (ja (ja (ja (ja (ja (ja (ja (ja (ja (ja (ja (ja (ja (ja (ja (ja (ja (ja (ja (ja (ja (ja (ja (by kernel_rfl) fact2) fact3) (by kernel_rfl)) (by kernel_rfl)) (by kernel_rfl)) (by kernel_rfl)) (by kernel_rfl)) (by kernel_rfl)) fact10) fact11) fact12) fact13) (by kernel_rfl)) (by kernel_rfl)) (by kernel_rfl)) (by kernel_rfl)) (by kernel_rfl)) (by kernel_rfl)) (by kernel_rfl)) (by kernel_rfl)) (by kernel_rfl)) (by kernel_rfl)) (by kernel_rfl)) (by kernel_rfl)) (by kernel_rfl)) (by kernel_rfl)) (by kernel_rfl)) (by kernel_rfl)) (by kernel_rfl)) (by kernel_rfl)) (by kernel_rfl))
theorem said:Rows.DependencySameSaid:=
  OpenClaim.holds_of_cond 10 Tryz.f10 rfl rfl rfl rfl rfl rfl rfl ⟨rfl,rfl,rfl,rfl,rfl⟩ rfl rfl rfl rfl rfl (by kernel_rfl) Tryz.func10 facts
    (of_decide_eq_true (by kernel_rfl)) (by unfold Func.isWrapper;first|(rw [if_pos (by decide+kernel)];kernel_rfl)|(rw [if_neg (by decide+kernel)];exact⟨rfl,rfl⟩))
    (fun os started H enc _ F=>by rw [OpenClaim.pre_eq_preRow];exact lifted os started H enc F)
end YtmmgjlgoggielaaGreat
end Go.Proofs
