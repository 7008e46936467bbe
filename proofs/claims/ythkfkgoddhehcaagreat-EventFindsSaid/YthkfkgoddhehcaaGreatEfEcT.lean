
import Derived.Test.YthkfkgoddhehcaaGreatDwSort
import Derived.Test.YthkfkgoddhehcaaGreatDwClone
import Derived.Test.YthkfkgoddhehcaaGreatDwFun
import Derived.Test.YthkfkgoddhehcaaGreatDwAt
import Derived.Test.YthkfkgoddhehcaaGreatEfEvA
import Derived.Test.YthkfkgoddhehcaaGreatProg
import Derived.KernelRfl

set_option maxRecDepth 100000
set_option maxHeartbeats 4000000
namespace Go.Dw.Ec
open Go.Proofs Go.Dw Go.Dw.Ef
def extC:FuncId->Option tI:=λf=>if f=105 then some (wN 78 9 104)else if f=321 then some (wN 75 8 80)else if f=338 then some (wN 129 10 96)else if f=141 then some (wN 3 1 8)else none
def hintAtC:FuncId->Nat->Nat->List yk:=λf a id=>
  if f=53 then(if a=1 then(if id=2 then [.j0 [0,1,7,8] [0]]else if id=7 then [.j0 [] [0]]else [])else [])else if f=66 then(if a=1 then(if id=2 then [.j0 [0,1,2,3,4,10,11] [0]]else [])else [])else if f=110 then(if a=1 then(if id=1 then [.j0 [0,1,2,3,8] [0]]else if id=2 then [.j0 [0,1,2,3,8] [0]]else if id=4 then [.j0 [0,1,2,3,8,9] [0]]else [])else [])else if f=140 then(if a=1 then(if id=2 then [.j0 [0,1,2,3,8,9] [0]]else [])else [])else if f=201 then(if a=1 then(if id=1 then [.j0 [0,1,2,6] [0]]else if id=2 then [.j0 [0,1,2,6] [0]]else if id=4 then [.j0 [0,1,2,6,7] [0]]else [])else [])else hintAt f a id
def hintsC:Hints:={ at_:=hintAtC,mt:=bj.mt,by_:=λf i=>bj.by_ f i||(f==66&&i==0)||(f==110&&i==0)||(f==140&&i==0)||(f==201&&i==0),own:=bj.own }
def tb(l h:List Int):bc:=⟨20,l,h⟩
def t1:List Int:=(List.range 21).map λi:Nat=>5*(i:Int)
def t2:List Int:=[0,1,3,5,6,8,10,11,13,15,16,18,20,21,23,25,26,28,30,31,33]
def BA:ai:=⟨⟨⟨⟨-20, -20,0⟩,⟨-20, -20,0⟩⟩,tb t1 t1,10,0,0,0,2⟩,⟨tb t2 t2,0,1⟩,0⟩
def sd(k:UInt8):bn:=⟨[65,66],[83,k],[48,48],[66,72,90]⟩
def ep(a b:Int):bi:=⟨a,b,⟨100,1⟩,⟨-60, -60,0⟩,⟨[]⟩⟩
def ch(k:UInt8):av:=⟨sd k,[ep 0 1500,ep 1500 100000]⟩
def inv1:ag:=⟨[ch 49,ch 50,ch 51]⟩
def pk(a:Int):ac:=⟨sd 50,2500,2500,2500,a,0⟩
def ph1:al:=⟨⟨-60, -60,0⟩,2500,2500,1⟩
def pp(l:List ac):PD:= .lst (l.map ac.pd)
def loc1:ap:=⟨⟨-20, -20,0⟩,2485,0,0,⟨⟨-20, -20,0⟩,⟨-20, -20,0⟩⟩⟩
def sol1:bQ:=⟨[pk 10,pk 11],loc1,⟨102,106⟩,2⟩
def argU(l:List ac):List PD:=[BA.pd,inv1.pd,pp l]
def resU(l:List ac)(n:Nat):RV:= .tup [.d (pp l),.d (.lst (List.replicate n ph1.pd)),.d (.int .i64 0)]
def lU:List (List PD×RV):=[(argU [pk 11,pk 10],resU [pk 10,pk 11] 2),(argU [],resU [] 0)]
def lA:List (List PD×RV):=[([BA.ae.pd,.lst (List.replicate 2 ph1.pd)],.tup [.d (.lst [bz.pd ⟨[0,1],⟨-20, -20,0⟩,2485⟩]),.d (.lst []),.d (.int .i64 0)]),([BA.ae.pd,.lst []],.tup [.d (.lst []),.d (.lst []),.d (.int .i64 0)])]
def lS:List (List PD×RV):=[(argU [pk 10,pk 11],.tup [.d sol1.pd,.d (.int .i64 0)])]
theorem mixed:Tryz.prog.follows .mixedOrders=true:=by kernel_rfl
theorem u2:ub Tryz.prog hintsC extC 300 35 ((argU [pk 11,pk 10]).map RV.d) []=some (resU [pk 10,pk 11] 2,[]):=by kernel_rfl
theorem u0:ub Tryz.prog hintsC extC 300 35 ((argU []).map RV.d) []=some (resU [] 0,[]):=by kernel_rfl
theorem a2:ub Tryz.prog hintsC extC 300 42 [.d BA.ae.pd,.d (.lst (List.replicate 2 ph1.pd))] []=some (.tup [.d (.lst [bz.pd ⟨[0,1],⟨-20, -20,0⟩,2485⟩]),.d (.lst []),.d (.int .i64 0)],[]):=by kernel_rfl
theorem a0:ub Tryz.prog hintsC extC 300 42 [.d BA.ae.pd,.d (.lst [])] []=some (.tup [.d (.lst []),.d (.lst []),.d (.int .i64 0)],[]):=by kernel_rfl
theorem s2:ub Tryz.prog hintsC extC 300 43 ((argU [pk 10,pk 11]).map RV.d) []=some (.tup [.d sol1.pd,.d (.int .i64 0)],[]):=by kernel_rfl
def extF:FuncId->Option tI:=λf=>if f=35 then some (atD lU)else if f=42 then some (atD lA)else if f=43 then some (atD lS)else extC f
theorem extF_ok{base:wX}(j:zJ Tryz.prog base extC):zJ Tryz.prog base extF:=by
  intro f g hf args bs r c h
  unfold extF at hf
  split at hf
  · rename_i a
    cases hf
    subst a
    refine at_ok (λx hm=>?_) args bs r c h
    rcases List.mem_cons.1 hm with rfl|hm
    · exact uL j mixed 300 _ _ _ _ _ u2
    · rw [List.mem_singleton.1 hm];exact uL j mixed 300 _ _ _ _ _ u0
  split at hf
  · rename_i a
    cases hf
    subst a
    refine at_ok (λx hm=>?_) args bs r c h
    rcases List.mem_cons.1 hm with rfl|hm
    · exact uL j mixed 300 _ _ _ _ _ a2
    · rw [List.mem_singleton.1 hm];exact uL j mixed 300 _ _ _ _ _ a0
  split at hf
  · rename_i a
    cases hf
    subst a
    refine at_ok (λx hm=>?_) args bs r c h
    rw [List.mem_singleton.1 hm]
    exact uL j mixed 300 _ _ _ _ _ s2
  exact j f g hf args bs r c h
theorem awake6(base:wX)(a:zJ Tryz.prog base extC):uM Tryz.prog base 6 [] [] (.d (.bool true)) []:=
  uL (H:=hintsC) (ext:=extF) (extF_ok a) mixed 300 _ _ _ _ _ (by kernel_rfl)
end Go.Dw.Ec
