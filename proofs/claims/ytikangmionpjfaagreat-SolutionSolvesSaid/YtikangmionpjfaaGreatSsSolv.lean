/- SolutionSolves holds: for any settings, inventory, picks and numbers the law returns true, and all that was handed in reads as it did. Its conditions: none but the row's own. -/
import Derived.Test.YtikangmionpjfaaGreatSsEv
import Derived.Test.YtikangmionpjfaaGreatSsSh
import Derived.Test.YtikangmionpjfaaGreatDwFun
import Derived.Test.YtikangmionpjfaaGreatSsBen
import Derived.Test.YtikangmionpjfaaGreatDwArg
import Derived.Test.YtikangmionpjfaaGreatDwSort
import Derived.Test.YtikangmionpjfaaGreatDwClone
import Derived.Test.YtikangmionpjfaaGreatDwSortI
import Derived.Test.YtikangmionpjfaaGreatShelfP
import Derived.Test.YtikangmionpjfaaGreatDwConst
import Derived.Test.YtikangmionpjfaaGreatRows
import Derived.WalkKit
import Derived.ProofKit
import Derived.OpenShut
import Derived.Deep.DeepHandedRow
import Derived.Lay
import Derived.Lib.LaidTab
set_option linter.unusedVariables false
set_option linter.unusedSimpArgs false
open Option renaming some_get->Fg

namespace Go.Proofs
namespace YtikangmionpjfaaGreat
open Go.ChangeShapes Go.WideShapes Go.ChangeAt Go.RowKit Go.Dw
set_option maxRecDepth 100000
theorem own:ownKnob Tryz.prog.godebug=none:=by kernel_rfl
theorem mixed:Tryz.prog.follows .mixedOrders=true:=by kernel_rfl
theorem entersLaw:Dw.Enters Tryz.prog 3:=⟨Tryz.f3,Tryz.func3,by decide+kernel,by kernel_rfl⟩
theorem enters123:Dw.Enters Tryz.prog 123:=⟨Tryz.f123,Tryz.func123,by decide+kernel,by kernel_rfl⟩
theorem enters124:Dw.Enters Tryz.prog 124:=⟨Tryz.f124,Tryz.func124,by decide+kernel,by kernel_rfl⟩
theorem sort_nil123(base:tR):qI Tryz.prog base 123 [.ref 0 0,.d (.raw (.func (.func 124) #[] #[]))] [.arr 0 67 []] (.tup []) [.arr 0 67 []]:=
  tK (H:={ at_:=fun _ _ _=>[],mt:=fun _ _=>false,by_:=fun _ i=>i==0,own:=fun _ _=>false }) (yk _ _) mixed 60 _ _ _ _ _ (by kernel_rfl)
theorem enters205:Dw.Enters Tryz.prog 205:=⟨Tryz.f205,Tryz.func205,by decide+kernel,by kernel_rfl⟩
theorem info89:∃i0 z,Tryz.prog.info? 89=some i0∧i0.zero=some z∧i0.size=8∧i0.bytes=80∧z.cells.size=8:=
  ⟨(Tryz.prog.info? 89).get (by kernel_rfl),((Tryz.prog.info? 89).get (by kernel_rfl)).zero.getD (.bool false),(Fg _).symm,by kernel_rfl,by kernel_rfl,by kernel_rfl,by kernel_rfl⟩
theorem enters254:Dw.Enters Tryz.prog 254:=⟨Tryz.f254,Tryz.func254,by decide+kernel,by kernel_rfl⟩
theorem info134:∃i0 z,Tryz.prog.info? 134=some i0∧i0.zero=some z∧i0.size=10∧i0.bytes=96∧z.cells.size=10:=
  ⟨(Tryz.prog.info? 134).get (by kernel_rfl),((Tryz.prog.info? 134).get (by kernel_rfl)).zero.getD (.bool false),(Fg _).symm,by kernel_rfl,by kernel_rfl,by kernel_rfl,by kernel_rfl⟩
theorem enters83:Dw.Enters Tryz.prog 83:=⟨Tryz.f83,Tryz.func83,by decide+kernel,by kernel_rfl⟩
theorem info3:∃i0 z,Tryz.prog.info? 3=some i0∧i0.zero=some z∧i0.size=1∧i0.bytes=8∧z.cells.size=1:=
  ⟨(Tryz.prog.info? 3).get (by kernel_rfl),((Tryz.prog.info? 3).get (by kernel_rfl)).zero.getD (.bool false),(Fg _).symm,by kernel_rfl,by kernel_rfl,by kernel_rfl,by kernel_rfl⟩
theorem enters122:Dw.Enters Tryz.prog 122:=⟨Tryz.f122,Tryz.func122,by decide+kernel,by kernel_rfl⟩
theorem info67:∃i0 z,Tryz.prog.info? 67=some i0∧i0.zero=some z∧i0.size=9∧i0.bytes=104∧z.cells.size=9:=
  ⟨(Tryz.prog.info? 67).get (by kernel_rfl),((Tryz.prog.info? 67).get (by kernel_rfl)).zero.getD (.bool false),(Fg _).symm,by kernel_rfl,by kernel_rfl,by kernel_rfl,by kernel_rfl⟩
theorem enters144:Dw.Enters Tryz.prog 144:=⟨Tryz.f144,Tryz.func144,by decide+kernel,by kernel_rfl⟩
theorem sort_nil144(base:tR):qI Tryz.prog base 144 [.ref 0 0] [.arr 0 3 []] (.tup []) [.arr 0 3 []]:=
  tK (H:={ at_:=fun _ _ _=>[],mt:=fun _ _=>false,by_:=fun _ i=>i==0,own:=fun _ _=>false }) (yk _ _) mixed 60 _ _ _ _ _ (by kernel_rfl)
def base0:tR:=⟨fun _=>none,False,[]⟩
def extC:FuncId->Option pA:=fun f=>if f=122 then some (sW 67 9 104)else if f=205 then some (sW 89 8 80)else if f=254 then some (sW 134 10 96)else if f=83 then some (sW 3 1 8)else none
def hintAtC:FuncId->Nat->Nat->List vU:=fun f a id=>
  if f=9 then(if a=1 then(if id=3 then [.ownp (.cell 80 0) 1104 81,.cI [0,1,4,5,6] [0,64,80,1104]]else if id=16 then [.cI [4,5] [0,64,80,1104]]else [])else [])else if f=28 then(if a=1 then(if id=3 then [.cI [2,3,16,17] [0,32,48,96,97]]else if id=7 then [.cI [2,3] [0,32,48,96,97]]else [])else [])else if f=31 then(if a=1 then(if id=3 then [.ownp (.cell 48 0) 1040 134,.cI [0,2,3,4] [0,32,48,1040]]else if id=13 then [.cI [2,3] [0,32,48,1040]]else [])else [])else if f=38 then(if a=0 then(if id=6 then [.cI [2,52,53,54] [32]]else if id=12 then [.cI [] []]else [])else [])else if f=42 then(if a=0 then(if id=2 then [.cI [1,6,7,8] [16]]else if id=7 then [.cI [1] [16]]else [])else [])else if f=47 then(if a=0 then(if id=7 then [.ownp (.cell 128 0) 704 67,.ownp (.cell 128 1) 784 61,.ownp (.cell 128 2) 864 89,.cI [3,4,6,8,25,26,27] [48,64,96,128,704,784,864]]else if id=13 then [.cI [6,8] [96,128,704,784,864]]else [])else [])else if f=51 then(if a=0 then(if id=7 then [.cI [4,8,37,38,39] [64,128]]else if id=13 then [.cI [4,8] [64,128]]else [])else [])else if f=52 then(if a=0 then(if id=3 then [.own 7 816 52,.cI [3,4,5,7,13,14,15] [48,64,80,816]]else if id=9 then [.cI [7] [816]]else [])else [])else if f=61 then(if a=1 then(if id=4 then [.ownp (.cell 48 1) 432 3,.ownp (.cell 48 2) 512 3,.cI [0,2,3,4,5,6] [0,32,48,432,512]]else if id=9 then [.cI [2,3] [0,32,48,432,512]]else [])else [])else if f=65 then(if a=0 then(if id=6 then [.cI [1,4,5,33,34] [16]]else if id=12 then [.cI [] []]else [])else [])else if f=71 then(if a=0 then(if id=2 then [.cI [0,5,6,7] []]else if id=7 then [.cI [0] []]else [])else [])else if f=87 then(if a=0 then(if id=10 then [.cI [1,7] [304,368]]else if id=14 then [.frz (.cell 304 11),.cI [7] [304]]else [])else [])else if f=88 then(if a=0 then(if id=5 then [.cI [4,5,6,7,8,31] [64,80,96,112,128]]else [])else [])else if f=94 then(if a=0 then(if id=3 then [.own 5 304 3,.cI [1,5,8,9,10] [304]]else if id=7 then [.cI [5] [304]]else [])else [])else if f=104 then(if a=0 then(if id=2 then [.cI [0,1,2,9,10] []]else if id=7 then [.cI [0,1,2] []]else [])else [])else if f=107 then(if a=0 then(if id=3 then [.cI [3,6,7,8] []]else if id=8 then [.cI [3] []]else [])else [])else if f=110 then(if a=0 then(if id=2 then [.cI [3,4,9,10,11] [48,64]]else if id=7 then [.cI [4] [64]]else [])else [])else if f=111 then(if a=0 then(if id=2 then [.cI [1,4,9,10,11] [64]]else if id=7 then [.cI [4] [64]]else [])else [])else if f=125 then(if a=1 then(if id=4 then [.cI [0,3] [0]]else if id=9 then [.cI [0,3,4,5] [0]]else if id=14 then [.cI [0,3] [0]]else if id=16 then [.cI [0] [0]]else [])else [])else if f=130 then(if a=0 then(if id=14 then [.cI [1,38,39,40] [16]]else if id=20 then [.cI [] []]else [])else [])else if f=131 then(if a=1 then(if id=5 then [.ownp (.cell 0 11) 80176 166,.mv (.cell 0 11) 90081,.cI [6] [0,90081]]else [])else if a=2 then(if id=5 then [.ownp (.cell 0 11) 80176 166,.bumpp (.cell 0 11),.cI [6] [0,1]]else [])else [])else if f=133 then(if a=2 then(if id=2 then [.bumpp (.cell 0 11),.cI [] [0,1]]else [])else [])else if f=140 then(if a=0 then(if id=5 then [.cI [2,7,8,9,28,29] [128,144]]else [])else [])else if f=143 then(if a=0 then(if id=2 then [.cI [0,1,7,8] []]else if id=7 then [.cI [] []]else [])else [])else if f=165 then(if a=0 then(if id=3 then [.cI [1,2,10,11,12] [16,32,112]]else if id=7 then [.cI [1,2] [16,32,112]]else [])else [])else if f=167 then(if a=1 then(if id=2 then [.cI [0,1,2,3,4,10,11] [0]]else [])else [])else if f=177 then(if a=0 then(if id=7 then [.cI [1,2,6,8,31,32,33] [96,128]]else if id=17 then [.cI [6,8] [96,128]]else [])else [])else if f=182 then(if a=2 then(if id=2 then [.cI [1,5,6] [0,1]]else if id=7 then [.cI [5] [0,1]]else [])else [])else if f=184 then(if a=0 then(if id=5 then [.cI [0,3,4] []]else if id=10 then [.cI [3] []]else [])else [])else if f=186 then(if a=1 then(if id=2 then [.cI [0,1,2,3,8,9] [0]]else [])else [])else if f=200 then(if a=0 then(if id=1 then [.cI [0,1] []]else if id=3 then [.cI [0] []]else [])else [])else if f=203 then(if a=0 then(if id=6 then [.fixv 16,.cI [1,3] []]else [])else [])else if f=204 then(if a=0 then(if id=3 then [.cI [3,6,7,8] []]else if id=10 then [.cI [3] []]else [])else [])else if f=206 then(if a=0 then(if id=3 then [.cI [1,2,13,14] [16,32,112]]else if id=7 then [.cI [1,2] [16,32,112]]else [])else [])else if f=208 then(if a=1 then(if id=1 then [.cI [0,1,2,3,8] [0]]else if id=2 then [.cI [0,1,2,3,8] [0]]else if id=4 then [.cI [0,1,2,3,8,9] [0]]else [])else [])else if f=217 then(if a=0 then(if id=4 then [.cI [0,2] []]else if id=7 then [.cI [0,2] []]else [])else [])else if f=222 then(if a=0 then(if id=3 then [.cI [1,2,6,18,19,20] [32,272]]else if id=7 then [.cI [1,2,6] [32,272]]else if id=11 then [.cI [1,2,9,10,45,46,47] [32,272]]else if id=17 then [.cI [9,10] []]else [])else [])else if f=223 then(if a=2 then(if id=0 then [.cI [0,1] [0,1]]else [])else [])else if f=224 then(if a=2 then(if id=2 then [.cI [0,1,2,7] [0,1]]else if id=8 then [.cI [0,1,2,7,9] [0,1]]else if id=11 then [.cI [1,7] [0,1]]else [])else [])else if f=225 then(if a=0 then(if id=5 then [.cI [2,3,4,16] [32,48,64]]else [])else [])else if f=234 then(if a=0 then(if id=9 then [.cI [0,1,5,6] []]else [])else [])else if f=235 then(if a=1 then(if id=1 then [.cI [0,1,2,6] [0]]else if id=2 then [.cI [0,1,2,6] [0]]else if id=4 then [.cI [0,1,2,6,7] [0]]else [])else [])else if f=251 then(if a=0 then(if id=2 then [.cI [0,1,7,8] []]else if id=7 then [.cI [] []]else [])else [])else if f=253 then(if a=0 then(if id=3 then [.cI [3,6,7,8] []]else if id=7 then [.cI [3] []]else [])else [])else if f=261 then(if a=0 then(if id=3 then [.cI [2,3,6,16,17,18] [32,48,224]]else if id=10 then [.cI [6] [224]]else [])else [])else if f=262 then(if a=0 then(if id=3 then [.cI [1,2,3,7,11,12,13] [48]]else if id=8 then [.cI [7] []]else [])else [])else if f=267 then(if a=0 then(if id=3 then [.cI [1,5,16,17,18] [240]]else if id=7 then [.cI [1,5,6,7,8,16,17,18,25,26] [240]]else if id=14 then [.cI [1,5,16,17,18] [240]]else if id=15 then [.cI [5] [240]]else [])else [])else if f=284 then(if a=0 then(if id=4 then [.own 4 240 3,.cI [0,4] [240]]else if id=7 then [.cI [4] [240]]else [])else [])else if f=286 then(if a=0 then(if id=6 then [.own 6 560 3,.cI [0,1,6,7,18,19] [560]]else if id=12 then [.cI [6] [560]]else [])else [])else if f=287 then(if a=0 then(if id=1 then [.cI [0] []]else if id=3 then [.cI [0] []]else [])else [])else if f=289 then(if a=0 then(if id=2 then [.cI [0,1,7,8] []]else if id=7 then [.cI [] []]else [])else [])else if f=292 then(if a=0 then(if id=2 then [.cI [0,1,7,8] []]else if id=7 then [.cI [] []]else [])else [])else []
def hintsC:Hints:={ at_:=hintAtC,mt:=fun f i=>(f==9&&i==28)||(f==314&&i==19),by_:=fun f i=>(f==123&&i==0)||(f==125&&i==0)||(f==144&&i==0)||(f==167&&i==0)||(f==186&&i==0)||(f==208&&i==0)||(f==235&&i==0)||(f==313&&i==0),own:=fun f i=>(f==61&&i==0)||(f==83&&i==0)||(f==122&&i==0)||(f==165&&i==0)||(f==205&&i==0)||(f==254&&i==0) }
theorem extC_ok:xO Tryz.prog base0 extC:=by
  intro f g hf args bs r c h
  unfold extC at hf
  split at hf
  · rename_i a
    cases hf
    subst a
    obtain⟨i0,z,g0,g1,g2,g3,g4⟩:=info67
    exact sw Tryz.laysClone122 (fun h=>h) rfl rfl enters122 g0 g1 g2 g3 g4 za za Tryz.sizeOf67 args bs r c h
  split at hf
  · rename_i a
    cases hf
    subst a
    obtain⟨i0,z,g0,g1,g2,g3,g4⟩:=info89
    exact sw Tryz.laysClone205 (fun h=>h) rfl rfl enters205 g0 g1 g2 g3 g4 za za Tryz.sizeOf89 args bs r c h
  split at hf
  · rename_i a
    cases hf
    subst a
    obtain⟨i0,z,g0,g1,g2,g3,g4⟩:=info134
    exact sw Tryz.laysClone254 (fun h=>h) rfl rfl enters254 g0 g1 g2 g3 g4 za za Tryz.sizeOf134 args bs r c h
  split at hf
  · rename_i a
    cases hf
    subst a
    obtain⟨i0,z,g0,g1,g2,g3,g4⟩:=info3
    exact sw Tryz.laysClone83 (fun h=>h) rfl rfl enters83 g0 g1 g2 g3 g4 za za Tryz.sizeOf3 args bs r c h
  cases hf
theorem const6(base:tR)(a:xO Tryz.prog base extC):qI Tryz.prog base 6 [] [] (.d (.bool true)) []:=
  tK (H:=hintsC) (ext:=extC) a mixed 300 _ _ _ _ _ (by kernel_rfl)
theorem ext_ok:xO Tryz.prog base0 Ss.ext:=by
  intro f g hf args bs r j h
  unfold Ss.ext at hf
  split at hf
  · rename_i a
    cases hf
    subst a
    exact Ss.bentD_ok _ args bs r j h
  split at hf
  · rename_i a
    cases hf
    subst a
    exact sort_ok (α:=Ss.ak) (pd:=Ss.ak.pd) (cmp:=Ss.cC) (g:=124) (e:=67) (k:=9) Tryz.laysSort123 rfl rfl enters123 enters124 (enters_of Tryz.func124 (by kernel_rfl) rfl) Tryz.isAgg67 Tryz.sizeOf67 (by kernel_rfl) (fun _=>rfl) (fun _=>⟨_,rfl⟩) (fun _=>rfl)
      (fun x y c hc=>(Ss.oB hc).zr (yk _ _) mixed) (sort_nil123 _) args bs r j h
  split at hf
  · rename_i a
    cases hf
    subst a
    obtain⟨i0,z,g0,g1,g2,g3,g4⟩:=info89
    exact sw Tryz.laysClone205 (fun h=>h) rfl rfl enters205 g0 g1 g2 g3 g4 za za Tryz.sizeOf89 args bs r j h
  split at hf
  · rename_i a
    cases hf
    subst a
    obtain⟨i0,z,g0,g1,g2,g3,g4⟩:=info134
    exact sw Tryz.laysClone254 (fun h=>h) rfl rfl enters254 g0 g1 g2 g3 g4 za za Tryz.sizeOf134 args bs r j h
  split at hf
  · rename_i a
    cases hf
    subst a
    obtain⟨i0,z,g0,g1,g2,g3,g4⟩:=info3
    exact sw Tryz.laysClone83 (fun h=>h) rfl rfl enters83 g0 g1 g2 g3 g4 za za Tryz.sizeOf3 args bs r j h
  split at hf
  · rename_i a
    cases hf
    subst a
    obtain⟨i0,z,g0,g1,g2,g3,g4⟩:=info67
    exact sw Tryz.laysClone122 (fun h=>h) rfl rfl enters122 g0 g1 g2 g3 g4 za za Tryz.sizeOf67 args bs r j h
  split at hf
  · rename_i a
    cases hf
    subst a
    exact sortI_ok Tryz.lays189 rfl enters144 (by kernel_rfl) (sort_nil144 _) args bs r j h
  split at hf
  · rename_i a
    cases hf
    subst a
    exact const_ok (const6 _ extC_ok) args bs r j h
  cases hf
theorem contract(H:Type)(enc:TypeId×Value->H)(W:World)(base:Nat)(args:Array Value)(f gs:List (DataW H))(before:List MemPlace)
    (c:∀(j:Nat)t v,Tryz.f3.params[j]? =some t->args[j]? =some v->Value.okWide Tryz.prog W .any base t v)
    (p:DataW.Whole enc Tryz.prog Tryz.f3.params.toList Rows.solutionSolvesSpec.vars false W args.toList f gs before):
    Calls Tryz.prog 3 args W fun e k=>∃v,e= .returned v∧Rows.solutionSolvesSpec.post enc Tryz.prog Tryz.f3 false true false false W args v k:=by
  refine BO (base:=base0) (d:=10) (tb:=4) entersLaw c p (by kernel_rfl) rfl (fun f h=>?_) (by kernel_rfl) Tryz.underlying4 (fun a v h=>by cases h) (fun x q=>by cases q) (fun g h=>?_)
  · have h1:Tryz.f3.params.size=4:=by kernel_rfl
    rw [h1]at h
    match f,h with
    | [d1,d2,d3,d4],_=>rfl
  · obtain⟨s,v,a,l,rfl,r,u⟩:=Ss.args_of (show zZ Tryz.prog 10 [34,37,38,26] g from h)
    exact(Ss.mO (Ss.holds_of s l r u)).zr ext_ok mixed
def wit:Array Value:= #[.agg #[.int .i64 0,.int .i64 0,.int .i64 0,.int .i64 0,.int .i64 0,.int .i64 0,.int .i64 0,.slice none 0 0,.slice none 0 0,.int .i64 0,.int .i64 0,.int .i64 0,.int .i64 0,.int .i64 0,.int .i64 0,.slice none 0 0,.slice none 0 0,.int .i64 0,.int .i64 0,.int .i64 0],.agg #[.slice none 0 0],.slice none 0 0,.slice none 0 0]
noncomputable def laidWorld (os:Os):World:=World.laidAll Tryz.prog os Rows.solutionSolvesRow.laid
theorem laid_met(os:Os):laidMet Tryz.prog Rows.solutionSolvesRow.laid ((laidWorld os).forCall (fun _ _=>0) ⟨#[],wit,[]⟩).memory:=
  laidMet_laidAll _ (by kernel_rfl) (by kernel_rfl)
theorem reads(os:Os){H:Type}(enc:TypeId×Value->H):∃places,DataW.whole enc Tryz.prog ((laidWorld os).forCall (fun _ _=>0) ⟨#[],wit,[]⟩).memory Tryz.f3.params.toList Rows.solutionSolvesSpec.vars false wit.toList 8=some ([.agg [.agg [.agg [.agg [.lit (.int .i64 0),.lit (.int .i64 0),.lit (.int .i64 0)],.agg [.lit (.int .i64 0),.lit (.int .i64 0),.lit (.int .i64 0)]],.agg [.lit (.int .i64 0),.nil,.nil],.lit (.int .i64 0),.lit (.int .i64 0),.lit (.int .i64 0),.lit (.int .i64 0),.lit (.int .i64 0)],.agg [.agg [.lit (.int .i64 0),.nil,.nil],.lit (.int .i64 0),.lit (.int .i64 0)],.lit (.int .i64 0)],.agg [.nil],.nil,.nil],[],places):=
  ⟨[],by kernel_rfl⟩
theorem lifted(os:Os)(started:os.Started)(H:Type)(enc:TypeId×Value->H)(F:Stop.Interp):
    ReturnsInHanded {} Tryz.checked os 3 .any ((OpenSpec.ofChange Rows.solutionSolvesSpec).preRow enc Tryz.prog Tryz.f3 Rows.solutionSolvesRow.domain false Rows.solutionSolvesRow.laid) (((OpenSpec.ofChange Rows.solutionSolvesSpec).at F).post enc Tryz.prog Tryz.f3 false true false false):=by
  obtain⟨c,j⟩:=reads os enc
  refine returnsInHanded_of_row (C:=Tryz.checked) (s:=OpenSpec.ofChange Rows.solutionSolvesSpec) own started (by kernel_rfl) Tryz.func3
    (witness_row_at (enc := enc) (C := Tryz.checked) false (laidWorld os) wit (World.laidAll_os _ _ _) (by kernel_rfl) (by kernel_rfl) (by kernel_rfl)
      (OpenSpec.preRow_of_cond 8 j (by kernel_rfl) (fun k hk=>by cases hk) (by kernel_rfl) (laid_met os))) ?_
  intro W base args f gs before a g _ _ _ l hS _
  exact contract H enc W base args f gs before a g
theorem fact2:laidOutB Tryz.prog=true:=by kernel_rfl
theorem fact3:mapsRowed Tryz.prog=true:=by kernel_rfl
theorem fact10:(Rows.solutionSolvesRow.inPlace==Tryz.prog.inPlace 3)=true:=by kernel_rfl
theorem fact11:(Rows.solutionSolvesRow.unfollowed==Tryz.prog.unfollowed 3)=true:=by kernel_rfl
theorem fact12:(Rows.solutionSolvesRow.recurses==Tryz.prog.recurses 3)=true:=by kernel_rfl
theorem fact13:(Rows.solutionSolvesRow.named==Tryz.prog.varsNamed 3)=true:=by kernel_rfl
theorem jI{a b:Bool}(h:a=true)(k:b=true):(a&&b)=true:=by rw [h,k];rfl
theorem facts:joinedFacts Tryz.prog 3 Tryz.f3 Rows.solutionSolvesSpec Rows.solutionSolvesRow=true:=
  (jI (jI (jI (jI (jI (jI (jI (jI (jI (jI (jI (jI (jI (jI (jI (jI (jI (jI (jI (jI (jI (jI (jI (jI (jI (jI (jI (jI (jI (jI (jI (by kernel_rfl) fact2) fact3) (by kernel_rfl)) (by kernel_rfl)) (by kernel_rfl)) (by kernel_rfl)) (by kernel_rfl)) (by kernel_rfl)) fact10) fact11) fact12) fact13) (by kernel_rfl)) (by kernel_rfl)) (by kernel_rfl)) (by kernel_rfl)) (by kernel_rfl)) (by kernel_rfl)) (by kernel_rfl)) (by kernel_rfl)) (by kernel_rfl)) (by kernel_rfl)) (by kernel_rfl)) (by kernel_rfl)) (by kernel_rfl)) (by kernel_rfl)) (by kernel_rfl)) (by kernel_rfl)) (by kernel_rfl)) (by kernel_rfl)) (by kernel_rfl))
theorem said:Rows.SolutionSolvesSaid:=
  OpenClaim.holds_of_cond 3 Tryz.f3 rfl rfl rfl rfl rfl rfl rfl ⟨rfl,rfl,rfl,rfl,rfl⟩ rfl rfl rfl rfl rfl (by kernel_rfl) Tryz.func3 facts
    (of_decide_eq_true (by kernel_rfl)) (by unfold Func.isWrapper;first|(rw [if_pos (by decide+kernel)];kernel_rfl)|(rw [if_neg (by decide+kernel)];exact⟨rfl,rfl⟩))
    (fun os started H enc _ F=>by rw [OpenClaim.pre_eq_preRow];exact lifted os started H enc F)
end YtikangmionpjfaaGreat
end Go.Proofs
