/- SolutionEstimates holds: for any settings, inventory, picks, box and numbers the law returns true, and all that was handed in reads as it did. Its conditions: none but the row's own. -/
import Derived.Test.YtomapcboiinfdaaGreatEsEv
import Derived.Test.YtomapcboiinfdaaGreatEsSh
import Derived.Test.YtomapcboiinfdaaGreatDwFun
import Derived.Test.YtomapcboiinfdaaGreatDwArg
import Derived.Test.YtomapcboiinfdaaGreatDwSort
import Derived.Test.YtomapcboiinfdaaGreatDwClone
import Derived.Test.YtomapcboiinfdaaGreatShelfQ
import Derived.Test.YtomapcboiinfdaaGreatDwConst
import Derived.Test.YtomapcboiinfdaaGreatRows
import Derived.WalkKit
import Derived.ProofKit
import Derived.OpenShut
import Derived.Deep.DeepHandedRow
import Derived.Lay
import Derived.Lib.LaidTab
set_option linter.unusedVariables false
set_option linter.unusedSimpArgs false
open Option renaming some_get->D0

namespace Go.Proofs
namespace YtomapcboiinfdaaGreat
open Go.ChangeShapes Go.WideShapes Go.ChangeAt Go.RowKit Go.Dw
set_option maxRecDepth 100000
theorem own:ownKnob Tryz.prog.godebug=none:=by kernel_rfl
theorem mixed:Tryz.prog.follows .mixedOrders=true:=by kernel_rfl
theorem entersLaw:Dw.Enters Tryz.prog 3:=⟨Tryz.f3,Tryz.func3,by decide+kernel,by kernel_rfl⟩
theorem enters95:Dw.Enters Tryz.prog 95:=⟨Tryz.f95,Tryz.func95,by decide+kernel,by kernel_rfl⟩
theorem enters96:Dw.Enters Tryz.prog 96:=⟨Tryz.f96,Tryz.func96,by decide+kernel,by kernel_rfl⟩
theorem sort_nil95(base:tE):pk Tryz.prog base 95 [.ref 0 0,.d (.raw (.func (.func 96) #[] #[]))] [.arr 0 83 []] (.tup []) [.arr 0 83 []]:=
  rT (H:={ at_:=fun _ _ _=>[],mt:=fun _ _=>false,by_:=fun _ i=>i==0,own:=fun _ _=>false }) (xG _ _) mixed 60 _ _ _ _ _ (by kernel_rfl)
theorem enters94:Dw.Enters Tryz.prog 94:=⟨Tryz.f94,Tryz.func94,by decide+kernel,by kernel_rfl⟩
theorem info83:∃i0 z,Tryz.prog.info? 83=some i0∧i0.zero=some z∧i0.size=9∧i0.bytes=104∧z.cells.size=9:=
  ⟨(Tryz.prog.info? 83).get (by kernel_rfl),((Tryz.prog.info? 83).get (by kernel_rfl)).zero.getD (.bool false),(D0 _).symm,by kernel_rfl,by kernel_rfl,by kernel_rfl,by kernel_rfl⟩
theorem enters227:Dw.Enters Tryz.prog 227:=⟨Tryz.f227,Tryz.func227,by decide+kernel,by kernel_rfl⟩
theorem info74:∃i0 z,Tryz.prog.info? 74=some i0∧i0.zero=some z∧i0.size=8∧i0.bytes=80∧z.cells.size=8:=
  ⟨(Tryz.prog.info? 74).get (by kernel_rfl),((Tryz.prog.info? 74).get (by kernel_rfl)).zero.getD (.bool false),(D0 _).symm,by kernel_rfl,by kernel_rfl,by kernel_rfl,by kernel_rfl⟩
theorem enters247:Dw.Enters Tryz.prog 247:=⟨Tryz.f247,Tryz.func247,by decide+kernel,by kernel_rfl⟩
theorem info114:∃i0 z,Tryz.prog.info? 114=some i0∧i0.zero=some z∧i0.size=10∧i0.bytes=96∧z.cells.size=10:=
  ⟨(Tryz.prog.info? 114).get (by kernel_rfl),((Tryz.prog.info? 114).get (by kernel_rfl)).zero.getD (.bool false),(D0 _).symm,by kernel_rfl,by kernel_rfl,by kernel_rfl,by kernel_rfl⟩
theorem enters80:Dw.Enters Tryz.prog 80:=⟨Tryz.f80,Tryz.func80,by decide+kernel,by kernel_rfl⟩
theorem info3:∃i0 z,Tryz.prog.info? 3=some i0∧i0.zero=some z∧i0.size=1∧i0.bytes=8∧z.cells.size=1:=
  ⟨(Tryz.prog.info? 3).get (by kernel_rfl),((Tryz.prog.info? 3).get (by kernel_rfl)).zero.getD (.bool false),(D0 _).symm,by kernel_rfl,by kernel_rfl,by kernel_rfl,by kernel_rfl⟩
def base0:tE:=⟨fun _=>none,False,[]⟩
def extC:FuncId->Option ng:=fun f=>if f=94 then some (pJ 83 9 104)else if f=227 then some (pJ 74 8 80)else if f=247 then some (pJ 114 10 96)else if f=80 then some (pJ 3 1 8)else none
def hintAtC:FuncId->Nat->Nat->List uC:=fun f a id=>
  if f=9 then(if a=1 then(if id=3 then [.ownp (.cell 80 0) 1104 66,.dw [0,1,4,5,6] [0,64,80,1104]]else if id=16 then [.dw [4,5] [0,64,80,1104]]else [])else [])else if f=22 then(if a=1 then(if id=3 then [.dw [2,3,16,17] [0,32,48,96,97]]else if id=7 then [.dw [2,3] [0,32,48,96,97]]else [])else [])else if f=25 then(if a=1 then(if id=3 then [.ownp (.cell 48 0) 1040 114,.dw [0,2,3,4] [0,32,48,1040]]else if id=13 then [.dw [2,3] [0,32,48,1040]]else [])else [])else if f=31 then(if a=0 then(if id=7 then [.ownp (.cell 128 0) 704 83,.ownp (.cell 128 1) 784 131,.ownp (.cell 128 2) 864 74,.dw [3,4,6,8,25,26,27] [48,64,96,128,704,784,864]]else if id=13 then [.dw [6,8] [96,128,704,784,864]]else [])else [])else if f=33 then(if a=0 then(if id=3 then [.own 7 816 58,.dw [3,4,5,7,13,14,15] [48,64,80,816]]else if id=9 then [.dw [7] [816]]else [])else [])else if f=43 then(if a=0 then(if id=7 then [.dw [4,8,37,38,39] [64,128]]else if id=13 then [.dw [4,8] [64,128]]else [])else [])else if f=46 then(if a=0 then(if id=6 then [.dw [2,52,53,54] [32]]else if id=12 then [.dw [] []]else [])else [])else if f=49 then(if a=1 then(if id=4 then [.ownp (.cell 48 1) 432 3,.ownp (.cell 48 2) 512 3,.dw [0,2,3,4,5,6] [0,32,48,432,512]]else if id=9 then [.dw [2,3] [0,32,48,432,512]]else [])else [])else if f=52 then(if a=0 then(if id=2 then [.dw [1,6,7,8] [16]]else if id=7 then [.dw [1] [16]]else [])else [])else if f=81 then(if a=0 then(if id=10 then [.dw [1,7] [304,368]]else if id=14 then [.frz (.cell 304 11),.dw [7] [304]]else [])else [])else if f=82 then(if a=0 then(if id=5 then [.dw [4,5,6,7,8,31] [64,80,96,112,128]]else [])else [])else if f=85 then(if a=0 then(if id=3 then [.own 5 304 3,.dw [1,5,8,9,10] [304]]else if id=7 then [.dw [5] [304]]else [])else [])else if f=88 then(if a=0 then(if id=6 then [.dw [1,4,5,33,34] [16]]else if id=12 then [.dw [] []]else [])else [])else if f=92 then(if a=0 then(if id=2 then [.dw [0,5,6,7] []]else if id=7 then [.dw [0] []]else [])else [])else if f=97 then(if a=1 then(if id=4 then [.dw [0,3] [0]]else if id=9 then [.dw [0,3,4,5] [0]]else if id=14 then [.dw [0,3] [0]]else if id=16 then [.dw [0] [0]]else [])else [])else if f=105 then(if a=0 then(if id=5 then [.dw [2,7,8,9,28,29] [128,144]]else [])else [])else if f=127 then(if a=0 then(if id=14 then [.dw [1,38,39,40] [16]]else if id=20 then [.dw [] []]else [])else [])else if f=128 then(if a=1 then(if id=5 then [.ownp (.cell 0 11) 80176 166,.mv (.cell 0 11) 90081,.dw [6] [0,90081]]else [])else if a=2 then(if id=5 then [.ownp (.cell 0 11) 80176 166,.bumpp (.cell 0 11),.dw [6] [0,1]]else [])else [])else if f=130 then(if a=2 then(if id=2 then [.bumpp (.cell 0 11),.dw [] [0,1]]else [])else [])else if f=132 then(if a=0 then(if id=2 then [.dw [0,1,7,8] []]else if id=7 then [.dw [] []]else [])else [])else if f=136 then(if a=0 then(if id=2 then [.dw [0,1,2,9,10] []]else if id=7 then [.dw [0,1,2] []]else [])else [])else if f=139 then(if a=0 then(if id=3 then [.dw [3,6,7,8] []]else if id=8 then [.dw [3] []]else [])else [])else if f=141 then(if a=1 then(if id=2 then [.dw [0,1,2,3,4,10,11] [0]]else [])else [])else if f=145 then(if a=0 then(if id=2 then [.dw [3,4,9,10,11] [48,64]]else if id=7 then [.dw [4] [64]]else [])else [])else if f=146 then(if a=0 then(if id=2 then [.dw [1,4,9,10,11] [64]]else if id=7 then [.dw [4] [64]]else [])else [])else if f=147 then(if a=0 then(if id=7 then [.dw [1,2,6,8,31,32,33] [96,128]]else if id=17 then [.dw [6,8] [96,128]]else [])else [])else if f=152 then(if a=2 then(if id=2 then [.dw [1,5,6] [0,1]]else if id=7 then [.dw [5] [0,1]]else [])else [])else if f=154 then(if a=0 then(if id=5 then [.dw [0,3,4] []]else if id=10 then [.dw [3] []]else [])else [])else if f=169 then(if a=1 then(if id=2 then [.dw [0,1,2,3,8,9] [0]]else [])else [])else if f=175 then(if a=1 then(if id=1 then [.dw [0,1,2,3,8] [0]]else if id=2 then [.dw [0,1,2,3,8] [0]]else if id=4 then [.dw [0,1,2,3,8,9] [0]]else [])else [])else if f=184 then(if a=0 then(if id=4 then [.dw [0,2] []]else if id=7 then [.dw [0,2] []]else [])else [])else if f=186 then(if a=0 then(if id=3 then [.dw [1,2,10,11,12] [16,32,112]]else if id=7 then [.dw [1,2] [16,32,112]]else [])else [])else if f=191 then(if a=0 then(if id=9 then [.dw [0,1,5,6] []]else [])else [])else if f=199 then(if a=0 then(if id=3 then [.dw [1,2,6,18,19,20] [32,272]]else if id=7 then [.dw [1,2,6] [32,272]]else if id=11 then [.dw [1,2,9,10,45,46,47] [32,272]]else if id=17 then [.dw [9,10] []]else [])else [])else if f=200 then(if a=2 then(if id=0 then [.dw [0,1] [0,1]]else [])else [])else if f=201 then(if a=2 then(if id=2 then [.dw [0,1,2,7] [0,1]]else if id=8 then [.dw [0,1,2,7,9] [0,1]]else if id=11 then [.dw [1,7] [0,1]]else [])else [])else if f=202 then(if a=0 then(if id=5 then [.dw [2,3,4,16] [32,48,64]]else [])else [])else if f=207 then(if a=1 then(if id=1 then [.dw [0,1,2,6] [0]]else if id=2 then [.dw [0,1,2,6] [0]]else if id=4 then [.dw [0,1,2,6,7] [0]]else [])else [])else if f=217 then(if a=0 then(if id=1 then [.dw [0,1] []]else if id=3 then [.dw [0] []]else [])else [])else if f=220 then(if a=0 then(if id=6 then [.fixv 16,.dw [1,3] []]else [])else [])else if f=221 then(if a=0 then(if id=3 then [.dw [3,6,7,8] []]else if id=10 then [.dw [3] []]else [])else [])else if f=228 then(if a=0 then(if id=3 then [.dw [1,2,13,14] [16,32,112]]else if id=7 then [.dw [1,2] [16,32,112]]else [])else [])else if f=231 then(if a=0 then(if id=3 then [.dw [3,6,7,8] []]else if id=7 then [.dw [3] []]else [])else [])else if f=234 then(if a=0 then(if id=3 then [.dw [1,5,16,17,18] [240]]else if id=7 then [.dw [1,5,6,7,8,16,17,18,25,26] [240]]else if id=14 then [.dw [1,5,16,17,18] [240]]else if id=15 then [.dw [5] [240]]else [])else [])else if f=239 then(if a=0 then(if id=3 then [.dw [2,3,6,16,17,18] [32,48,224]]else if id=10 then [.dw [6] [224]]else [])else [])else if f=240 then(if a=0 then(if id=3 then [.dw [1,2,3,7,11,12,13] [48]]else if id=8 then [.dw [7] []]else [])else [])else if f=244 then(if a=0 then(if id=2 then [.dw [0,1,7,8] []]else if id=7 then [.dw [] []]else [])else [])else if f=248 then(if a=0 then(if id=4 then [.own 4 240 3,.dw [0,4] [240]]else if id=7 then [.dw [4] [240]]else [])else [])else if f=250 then(if a=0 then(if id=6 then [.own 6 560 3,.dw [0,1,6,7,18,19] [560]]else if id=12 then [.dw [6] [560]]else [])else [])else if f=251 then(if a=0 then(if id=1 then [.dw [0] []]else if id=3 then [.dw [0] []]else [])else [])else if f=253 then(if a=0 then(if id=2 then [.dw [0,1,7,8] []]else if id=7 then [.dw [] []]else [])else [])else if f=260 then(if a=0 then(if id=2 then [.dw [0,1,7,8] []]else if id=7 then [.dw [] []]else [])else [])else []
def hintsC:Hints:={ at_:=hintAtC,mt:=fun f i=>(f==9&&i==28)||(f==281&&i==19),by_:=fun f i=>(f==95&&i==0)||(f==97&&i==0)||(f==133&&i==0)||(f==141&&i==0)||(f==169&&i==0)||(f==175&&i==0)||(f==207&&i==0)||(f==280&&i==0),own:=fun f i=>(f==49&&i==0)||(f==80&&i==0)||(f==94&&i==0)||(f==186&&i==0)||(f==227&&i==0)||(f==247&&i==0) }
theorem extC_ok:wy Tryz.prog base0 extC:=by
  intro f g hf args bs r b h
  unfold extC at hf
  split at hf
  · rename_i a
    cases hf
    subst a
    obtain⟨i0,z,g0,g1,g2,g3,g4⟩:=info83
    exact pC Tryz.laysClone94 (fun h=>h) rfl rfl enters94 g0 g1 g2 g3 g4 om om Tryz.sizeOf83 args bs r b h
  split at hf
  · rename_i a
    cases hf
    subst a
    obtain⟨i0,z,g0,g1,g2,g3,g4⟩:=info74
    exact pC Tryz.laysClone227 (fun h=>h) rfl rfl enters227 g0 g1 g2 g3 g4 om om Tryz.sizeOf74 args bs r b h
  split at hf
  · rename_i a
    cases hf
    subst a
    obtain⟨i0,z,g0,g1,g2,g3,g4⟩:=info114
    exact pC Tryz.laysClone247 (fun h=>h) rfl rfl enters247 g0 g1 g2 g3 g4 om om Tryz.sizeOf114 args bs r b h
  split at hf
  · rename_i a
    cases hf
    subst a
    obtain⟨i0,z,g0,g1,g2,g3,g4⟩:=info3
    exact pC Tryz.laysClone80 (fun h=>h) rfl rfl enters80 g0 g1 g2 g3 g4 om om Tryz.sizeOf3 args bs r b h
  cases hf
theorem const6(base:tE)(a:wy Tryz.prog base extC):pk Tryz.prog base 6 [] [] (.d (.bool true)) []:=
  rT (H:=hintsC) (ext:=extC) a mixed 300 _ _ _ _ _ (by kernel_rfl)
theorem ext_ok:wy Tryz.prog base0 Es.ext:=by
  intro f g hf args bs r b h
  unfold Es.ext at hf
  split at hf
  · rename_i a
    cases hf
    subst a
    exact sort_ok (α:=Es.ai) (pd:=Es.ai.pd) (cmp:=Es.bS) (g:=96) (e:=83) (k:=9) Tryz.laysSort95 rfl rfl enters95 enters96 (enters_of Tryz.func96 (by kernel_rfl) rfl) Tryz.isAgg83 Tryz.sizeOf83 (by kernel_rfl) (fun _=>rfl) (fun _=>⟨_,rfl⟩) (fun _=>rfl)
      (fun x y c i=>(Es.lY i).callOk (xG _ _) mixed) (sort_nil95 _) args bs r b h
  split at hf
  · rename_i a
    cases hf
    subst a
    obtain⟨i0,z,g0,g1,g2,g3,g4⟩:=info83
    exact pC Tryz.laysClone94 (fun h=>h) rfl rfl enters94 g0 g1 g2 g3 g4 om om Tryz.sizeOf83 args bs r b h
  split at hf
  · rename_i a
    cases hf
    subst a
    obtain⟨i0,z,g0,g1,g2,g3,g4⟩:=info74
    exact pC Tryz.laysClone227 (fun h=>h) rfl rfl enters227 g0 g1 g2 g3 g4 om om Tryz.sizeOf74 args bs r b h
  split at hf
  · rename_i a
    cases hf
    subst a
    obtain⟨i0,z,g0,g1,g2,g3,g4⟩:=info114
    exact pC Tryz.laysClone247 (fun h=>h) rfl rfl enters247 g0 g1 g2 g3 g4 om om Tryz.sizeOf114 args bs r b h
  split at hf
  · rename_i a
    cases hf
    subst a
    obtain⟨i0,z,g0,g1,g2,g3,g4⟩:=info3
    exact pC Tryz.laysClone80 (fun h=>h) rfl rfl enters80 g0 g1 g2 g3 g4 om om Tryz.sizeOf3 args bs r b h
  split at hf
  · rename_i a
    cases hf
    subst a
    exact const_ok (const6 _ extC_ok) args bs r b h
  cases hf
theorem contract(H:Type)(enc:TypeId×Value->H)(W:World)(base:Nat)(args:Array Value)(f gs:List (DataW H))(before:List MemPlace)
    (c:∀(j:Nat)t v,Tryz.f3.params[j]? =some t->args[j]? =some v->Value.okWide Tryz.prog W .any base t v)
    (k:DataW.Whole enc Tryz.prog Tryz.f3.params.toList Rows.solutionEstimatesSpec.vars false W args.toList f gs before):
    Calls Tryz.prog 3 args W fun e i=>∃v,e= .returned v∧Rows.solutionEstimatesSpec.post enc Tryz.prog Tryz.f3 false true false false W args v i:=by
  refine zq (base:=base0) (d:=10) (tb:=4) entersLaw c k (by kernel_rfl) rfl (fun f h=>?_) (by kernel_rfl) Tryz.underlying4 (fun a v h=>by cases h) (fun x m=>by cases m) (fun g h=>?_)
  · have h1:Tryz.f3.params.size=5:=by kernel_rfl
    rw [h1]at h
    match f,h with
    | [d1,d2,d3,d4,d5],_=>rfl
  · obtain⟨s,v,a,b,l,rfl,n,o⟩:=Es.args_of (show xj Tryz.prog 10 [34,37,38,25,26] g from h)
    exact(Es.iT (Es.holds_of s b l n o)).callOk ext_ok mixed
def wit:Array Value:= #[.agg #[.int .i64 0,.int .i64 0,.int .i64 0,.int .i64 0,.int .i64 0,.int .i64 0,.int .i64 0,.slice none 0 0,.slice none 0 0,.int .i64 0,.int .i64 0,.int .i64 0,.int .i64 0,.int .i64 0,.int .i64 0,.slice none 0 0,.slice none 0 0,.int .i64 0,.int .i64 0,.int .i64 0],.agg #[.slice none 0 0],.slice none 0 0,.agg #[.int .i64 0,.int .i64 0,.int .i64 0,.int .i64 0,.int .i64 0,.int .i64 0],.slice none 0 0]
noncomputable def laidWorld (os:Os):World:=World.laidAll Tryz.prog os Rows.solutionEstimatesRow.laid
theorem laid_met(os:Os):laidMet Tryz.prog Rows.solutionEstimatesRow.laid ((laidWorld os).forCall (fun _ _=>0) ⟨#[],wit,[]⟩).memory:=
  laidMet_laidAll _ (by kernel_rfl) (by kernel_rfl)
theorem reads(os:Os){H:Type}(enc:TypeId×Value->H):∃places,DataW.whole enc Tryz.prog ((laidWorld os).forCall (fun _ _=>0) ⟨#[],wit,[]⟩).memory Tryz.f3.params.toList Rows.solutionEstimatesSpec.vars false wit.toList 8=some ([.agg [.agg [.agg [.agg [.lit (.int .i64 0),.lit (.int .i64 0),.lit (.int .i64 0)],.agg [.lit (.int .i64 0),.lit (.int .i64 0),.lit (.int .i64 0)]],.agg [.lit (.int .i64 0),.nil,.nil],.lit (.int .i64 0),.lit (.int .i64 0),.lit (.int .i64 0),.lit (.int .i64 0),.lit (.int .i64 0)],.agg [.agg [.lit (.int .i64 0),.nil,.nil],.lit (.int .i64 0),.lit (.int .i64 0)],.lit (.int .i64 0)],.agg [.nil],.nil,.agg [.agg [.lit (.int .i64 0),.lit (.int .i64 0),.lit (.int .i64 0)],.agg [.lit (.int .i64 0),.lit (.int .i64 0),.lit (.int .i64 0)]],.nil],[],places):=
  ⟨[],by kernel_rfl⟩
theorem lifted(os:Os)(started:os.Started)(H:Type)(enc:TypeId×Value->H)(F:Stop.Interp):
    ReturnsInHanded {} Tryz.checked os 3 .any ((OpenSpec.ofChange Rows.solutionEstimatesSpec).preRow enc Tryz.prog Tryz.f3 Rows.solutionEstimatesRow.domain false Rows.solutionEstimatesRow.laid) (((OpenSpec.ofChange Rows.solutionEstimatesSpec).at F).post enc Tryz.prog Tryz.f3 false true false false):=by
  obtain⟨b,f⟩:=reads os enc
  refine returnsInHanded_of_row (C:=Tryz.checked) (s:=OpenSpec.ofChange Rows.solutionEstimatesSpec) own started (by kernel_rfl) Tryz.func3
    (witness_row_at (enc := enc) (C := Tryz.checked) false (laidWorld os) wit (World.laidAll_os _ _ _) (by kernel_rfl) (by kernel_rfl) (by kernel_rfl)
      (OpenSpec.preRow_of_cond 8 f (by kernel_rfl) (fun k hk=>by cases hk) (by kernel_rfl) (laid_met os))) ?_
  intro W base args c gs before a e _ _ _ g hS _
  exact contract H enc W base args c gs before a e
theorem fact2:laidOutB Tryz.prog=true:=by kernel_rfl
theorem fact3:mapsRowed Tryz.prog=true:=by kernel_rfl
theorem fact10:(Rows.solutionEstimatesRow.inPlace==Tryz.prog.inPlace 3)=true:=by kernel_rfl
theorem fact11:(Rows.solutionEstimatesRow.unfollowed==Tryz.prog.unfollowed 3)=true:=by kernel_rfl
theorem fact12:(Rows.solutionEstimatesRow.recurses==Tryz.prog.recurses 3)=true:=by kernel_rfl
theorem fact13:(Rows.solutionEstimatesRow.named==Tryz.prog.varsNamed 3)=true:=by kernel_rfl
theorem fW{a b:Bool}(h:a=true)(k:b=true):(a&&b)=true:=by rw [h,k];rfl
theorem facts:joinedFacts Tryz.prog 3 Tryz.f3 Rows.solutionEstimatesSpec Rows.solutionEstimatesRow=true:=
  (fW (fW (fW (fW (fW (fW (fW (fW (fW (fW (fW (fW (fW (fW (fW (fW (fW (fW (fW (fW (fW (fW (fW (fW (fW (fW (fW (fW (fW (fW (fW (by kernel_rfl) fact2) fact3) (by kernel_rfl)) (by kernel_rfl)) (by kernel_rfl)) (by kernel_rfl)) (by kernel_rfl)) (by kernel_rfl)) fact10) fact11) fact12) fact13) (by kernel_rfl)) (by kernel_rfl)) (by kernel_rfl)) (by kernel_rfl)) (by kernel_rfl)) (by kernel_rfl)) (by kernel_rfl)) (by kernel_rfl)) (by kernel_rfl)) (by kernel_rfl)) (by kernel_rfl)) (by kernel_rfl)) (by kernel_rfl)) (by kernel_rfl)) (by kernel_rfl)) (by kernel_rfl)) (by kernel_rfl)) (by kernel_rfl)) (by kernel_rfl))
theorem said:Rows.SolutionEstimatesSaid:=
  OpenClaim.holds_of_cond 3 Tryz.f3 rfl rfl rfl rfl rfl rfl rfl ⟨rfl,rfl,rfl,rfl,rfl⟩ rfl rfl rfl rfl rfl (by kernel_rfl) Tryz.func3 facts
    (of_decide_eq_true (by kernel_rfl)) (by unfold Func.isWrapper;first|(rw [if_pos (by decide+kernel)];kernel_rfl)|(rw [if_neg (by decide+kernel)];exact⟨rfl,rfl⟩))
    (fun os started H enc _ F=>by rw [OpenClaim.pre_eq_preRow];exact lifted os started H enc F)
end YtomapcboiinfdaaGreat
end Go.Proofs
