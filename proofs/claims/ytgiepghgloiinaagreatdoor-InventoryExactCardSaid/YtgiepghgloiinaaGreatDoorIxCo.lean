
import Derived.Test.YtgiepghgloiinaaGreatDoorIxFn
import Derived.Test.YtgiepghgloiinaaGreatDoorDwLe
open Go.IntKind renaming wrap->CH

set_option maxRecDepth 100000
set_option maxHeartbeats 4000000
namespace Go.Dw.Ix
open Go.Dw
noncomputable section
def il:Nat:=600
def dT(a0:(List UInt8))(a1:Int)(a2:Int):Option (Bool):=
  (lv (cv a0) il 0).bind fun b=>match b with| .inl _=>(if(decide ((a0.length:Int)>=a1))=true then(some (decide ((a0.length:Int)<=a2)))else(some false))| .inr a=>(some a)
def gZ(a0:ac):Option (Bool):=
  (dT a0.aD 1 2).bind fun a=>if a=true then((dT a0.aC 1 5).bind fun b=>if b=true then((dT a0.au 0 2).bind fun c=>if c=true then(if((a0.au.length:Int) != 1)=true then((dT a0.aF 3 3).bind fun e=>some e)else(some false))else(some false))else(some false))else(some false)
def jz(a0:Int)(a1:Int):Option (Int):=
  (lv (hJ) il (a0,a1)).bind fun a=>some a
def iC(a0:av):Option (Bool):=
  (iD a0.aI 1 4096).bind fun a=>if a=true then((iD a0.aH 1 4096).bind fun b=>if b=true then((jz a0.aI a0.aH).bind fun c=>some (c==1))else(some false))else(some false)
def cB(a0:(List Int)):Option (Int):=
  (lv (bu a0) il 0).bind fun b=>match b with| .inl _=>(some (-1))| .inr a=>(some a)
def cj(a0:(List Int)):Option (Bool):=
  (cB a0).bind fun a=>some (decide (a>=0))
def ci(a0:(List Int)):Option (Bool):=
  (cj a0).bind fun a=>some (!a)
def ei(a0:(List Int)):Option (Int):=
  (lv (eT a0) il (0,0)).bind fun a=>some a
def dV(a0:ak):Option (Bool):=
  if((a0.aO.length:Int)==0)=true then(if(a0.aJ==0)=true then(if(a0.aQ==0)=true then(if(a0.aS==0)=true then(if((a0.aI.a0==a0.aI.a0)&&((a0.aI.a1==0)&&((a0.aI.a2==0)&&true)))=true then(if((a0.aH.a0==a0.aH.a0)&&((a0.aH.a1==0)&&((a0.aH.a2==0)&&true)))=true then((aU a0.aI.a0 1 1048576).bind fun t=>if t=true then((aU a0.aH.a0 1 1048576).bind fun u=>some u)else(some false))else(some false))else(some false))else(some false))else(if(a0.aQ==1)=true then(if(a0.aS==0)=true then((ci [a0.aI.a0,a0.aI.a1,a0.aI.a2]).bind fun a=>if a=true then((ci [a0.aH.a0,a0.aH.a1,a0.aH.a2]).bind fun b=>if b=true then(some (a0.aH.a0 != 0))else(some false))else(some false))else(some false))else(if(a0.aQ==2)=true then(if((a0.aI.a0==0)&&((a0.aI.a1==0)&&((a0.aI.a2==0)&&true)))=true then(if((a0.aH.a0==0)&&((a0.aH.a1==0)&&((a0.aH.a2==0)&&true)))=true then((aU (a0.aO.length:Int) 1 128).bind fun c=>if c=true then((ci a0.aO).bind fun e=>if e=true then((ei a0.aO).bind fun f=>if(f != 0)=true then((aU a0.aJ 1 64).bind fun g=>if g=true then((aU a0.aS 0 40).bind fun i=>some i)else(some false))else(some false))else(some false))else(some false))else(some false))else(some false))else(some false))))else(if(a0.aQ==0)=true then(some false)else(if(a0.aQ==1)=true then(some false)else(if(a0.aQ==2)=true then(if((a0.aI.a0==0)&&((a0.aI.a1==0)&&((a0.aI.a2==0)&&true)))=true then(if((a0.aH.a0==0)&&((a0.aH.a1==0)&&((a0.aH.a2==0)&&true)))=true then((aU (a0.aO.length:Int) 1 128).bind fun j=>if j=true then((ci a0.aO).bind fun k=>if k=true then((ei a0.aO).bind fun l=>if(l != 0)=true then((aU a0.aJ 1 64).bind fun m=>if m=true then((aU a0.aS 0 40).bind fun n=>some n)else(some false))else(some false))else(some false))else(some false))else(some false))else(some false))else(some false)))))else(if(a0.aQ==0)=true then(some false)else(if(a0.aQ==1)=true then(some false)else(if(a0.aQ==2)=true then(if((a0.aI.a0==0)&&((a0.aI.a1==0)&&((a0.aI.a2==0)&&true)))=true then(if((a0.aH.a0==0)&&((a0.aH.a1==0)&&((a0.aH.a2==0)&&true)))=true then((aU (a0.aO.length:Int) 1 128).bind fun o=>if o=true then((ci a0.aO).bind fun p=>if p=true then((ei a0.aO).bind fun q=>if(q != 0)=true then((aU a0.aJ 1 64).bind fun r=>if r=true then((aU a0.aS 0 40).bind fun s=>some s)else(some false))else(some false))else(some false))else(some false))else(some false))else(some false))else(some false))))
def dW(a0:ak):Option (Bool):=
  (dV a0).bind fun a=>some (!a)
def b7(a0:(List ak)):Int->Option (jY (Int) ((Unit)⊕(Int))):=fun s1=>
  if(decide (s1<(a0.length:Int)))=true then((jB a0 s1).bind fun a=>(dW a).bind fun b=>if b=true then(some (.stop (.inr s1)))else(some (.next (CH .i64 (s1+1)))))else(some (.stop (.inl ())))
def ct(a0:(List ak)):Option (Int):=
  (lv (b7 a0) il 0).bind fun b=>match b with| .inl _=>(some (-1))| .inr a=>(some a)
def bZ(a0:(List ak)):Option (Bool):=
  (ct a0).bind fun a=>some (decide (a>=0))
def fB(a0:(List ak)):Option (Int):=
  (lv (dE a0) il (1,0)).bind fun a=>match a with| .inl c=>(some c)| .inr b=>(some b)
def fS(a0:ar):Option (Bool):=
  if(decide ((a0.aA.length:Int)>8))=true then(some false)else((bZ a0.aA).bind fun x2=>if x2=true then(some false)else((fB a0.aA).bind fun a=>some (decide (a>0))))
def dy(a0:ah):Option (Bool):=
  if(decide (a0.az>=0))=true then(if(decide (a0.az<a0.fTo))=true then(if(decide (a0.fTo<=9007199254740992))=true then((iC a0.aM).bind fun c=>if c=true then((fS a0.aB).bind fun e=>if e=true then((cm a0.aq.fX (-1048576) 1048576).bind fun f=>if f=true then((cm a0.aq.fY (-1048576) 1048576).bind fun a=>if a=true then((cm a0.aq.fZ (-16384) 1048576).bind fun b=>some b)else(some false))else(some false))else(some false))else(some false))else(some false))else(some false))else(some false)
def dz(a0:(List ah)):Int->Option (jY (Int) ((Unit)⊕(Bool))):=fun s1=>
  if(decide (s1<(a0.length:Int)))=true then((jB a0 s1).bind fun a=>(dy a).bind fun b=>if(!b)=true then(some (.stop (.inr false)))else(if(decide (s1>0))=true then((jB a0 (CH .i64 (s1-1))).bind fun c=>if(decide (a.az<c.fTo))=true then(some (.stop (.inr false)))else(some (.next (CH .i64 (s1+1)))))else(some (.next (CH .i64 (s1+1))))))else(some (.stop (.inl ())))
def eW(a0:(List ah)):Option (Bool):=
  (lv (dz a0) il 0).bind fun a=>match a with| .inl _=>((cm (a0.length:Int) 1 32).bind fun c=>some c)| .inr b=>(some b)
def ix(a0:(List Int)):Option (Int):=
  (lv (a7 a0) il 0).bind fun a=>match a with| .inl _=>(some 0)| .inr b=>(some b)
def fW(a0:ac)(a1:ac):Option (Int):=
  (aW a0.aD a1.aD).bind fun a=>(aW a0.aC a1.aC).bind fun x2=>(aW a0.au a1.au).bind fun b=>(aW a0.aF a1.aF).bind fun c=>(ix [a,x2,b,c]).bind fun e=>some e
def dU(a0:ai):Int->Option (jY (Int) ((Unit)⊕(Bool))):=fun s1=>
  if(decide (s1<(a0.am.length:Int)))=true then((jB a0.am s1).bind fun c=>(gZ c.aj).bind fun e=>if(!e)=true then(some (.stop (.inr false)))else((eW c.al).bind fun f=>if(!f)=true then(some (.stop (.inr false)))else(if(decide (s1>0))=true then((jB a0.am (CH .i64 (s1-1))).bind fun a=>(fW a.aj c.aj).bind fun b=>if(decide (b>=0))=true then(some (.stop (.inr false)))else(some (.next (CH .i64 (s1+1)))))else(some (.next (CH .i64 (s1+1)))))))else(some (.stop (.inl ())))
def fo(a0:ai):Option (Bool):=
  (lv (dU a0) il 0).bind fun a=>match a with| .inl _=>(some (decide ((a0.am.length:Int)<=128)))| .inr b=>(some b)
def iX(a0:Int)(a1:Int):Option (Int):=
  (lv (jP) il (a0,a1)).bind fun a=>some a
def hP(a0:Int)(a1:Int):Option (av×Int):=
  (bn a0 1 4096).bind fun b=>if(!b)=true then(some ((av.mk 0 0),2))else((bn a1 1 4096).bind fun c=>if(!c)=true then(some ((av.mk 0 0),2))else((iX a0 a1).bind fun a=>(quoO .i64 a0 a).bind fun e=>(quoO .i64 a1 a).bind fun f=>some ((av.mk e f),0)))
instance :∀a0 a1 a2,LeC (dT a0 a1 a2) (cu a0 a1 a2):=fun _ _ _=>⟨by unfold dT cu;exact lb⟩
instance :∀a0,LeC (gZ a0) (cC a0):=fun _=>⟨by unfold gZ cC;exact lb⟩
instance :∀a0 a1,LeC (jz a0 a1) (gO a0 a1):=fun _ _=>⟨by unfold jz gO;exact lb⟩
instance :∀a0,LeC (iC a0) (fM a0):=fun _=>⟨by unfold iC fM;exact lb⟩
instance :∀a0,LeC (cB a0) (bI a0):=fun _=>⟨by unfold cB bI;exact lb⟩
instance :∀a0,LeC (cj a0) (bt a0):=fun _=>⟨by unfold cj bt;exact lb⟩
instance :∀a0,LeC (ci a0) (bM a0):=fun _=>⟨by unfold ci bM;exact lb⟩
instance :∀a0,LeC (ei a0) (co a0):=fun _=>⟨by unfold ei co;exact lb⟩
instance :∀a0,LeC (dV a0) (b9 a0):=fun _=>⟨by unfold dV b9;exact lb⟩
instance :∀a0,LeC (dW a0) (cz a0):=fun _=>⟨by unfold dW cz;exact lb⟩
instance :∀a0 s,LeC (b7 a0 s) (a6 a0 s):=fun _ _=>⟨by unfold b7 a6;(try dsimp only);exact lb⟩
instance :∀a0,LeC (ct a0) (bC a0):=fun _=>⟨by unfold ct bC;exact lb⟩
instance :∀a0,LeC (bZ a0) (aZ a0):=fun _=>⟨by unfold bZ aZ;exact lb⟩
instance :∀a0,LeC (fB a0) (cX a0):=fun _=>⟨by unfold fB cX;exact lb⟩
instance :∀a0,LeC (fS a0) (dt a0):=fun _=>⟨by unfold fS dt;exact lb⟩
instance :∀a0,LeC (dy a0) (bD a0):=fun _=>⟨by unfold dy bD;exact lb⟩
instance :∀a0 s,LeC (dz a0 s) (bQ a0 s):=fun _ _=>⟨by unfold dz bQ;(try dsimp only);exact lb⟩
instance :∀a0,LeC (eW a0) (cG a0):=fun _=>⟨by unfold eW cG;exact lb⟩
instance :∀a0,LeC (ix a0) (fJ a0):=fun _=>⟨by unfold ix fJ;exact lb⟩
instance :∀a0 a1,LeC (fW a0 a1) (bv a0 a1):=fun _ _=>⟨by unfold fW bv;exact lb⟩
instance :∀a0 s,LeC (dU a0 s) (b8 a0 s):=fun _ _=>⟨by unfold dU b8;(try dsimp only);exact lb⟩
instance :∀a0,LeC (fo a0) (bg a0):=fun _=>⟨by unfold fo bg;exact lb⟩
theorem jw(a0:ai):Le (fo a0) (bg a0):=LeC.le
instance :∀a0 a1,LeC (iX a0 a1) (ip a0 a1):=fun _ _=>⟨by unfold iX ip;exact lb⟩
instance :∀a0 a1,LeC (hP a0 a1) (gH a0 a1):=fun _ _=>⟨by unfold hP gH;exact lb⟩
theorem ref02_New_le(a0:Int)(a1:Int):Le (hP a0 a1) (gH a0 a1):=LeC.le
theorem gu:∀n a b,Le (bh n a b) (bh (n+1) a b):=by
  intro n;induction n with
  |zero=>intros;exact Le.none _
  |succ n c=>intros;unfold bh;repeat' (first|with_reducible exact c _ _|with_reducible exact Le.refl _|with_reducible refine Le.bind ?_ (fun _=>?_)|with_reducible refine Le.ite ?_ ?_|with_reducible refine Le.loop (fun _=>?_) _ _|with_reducible refine Le.cI (fun _=>?_) _|(split<;>dsimp only))
theorem jC{a b:(List UInt8)->(List UInt8)->Option (Bool)}(c:∀e f,Le (a e f) (b e f))(a1:(List UInt8))(a0:(List UInt8))(s:_):Le (bY a1 a0 a s) (bY a1 a0 b s):=by
  unfold bY;(try dsimp only);repeat' (first|with_reducible exact c _ _|with_reducible exact Le.refl _|with_reducible refine Le.bind ?_ (fun _=>?_)|with_reducible refine Le.ite ?_ ?_|with_reducible refine Le.loop (fun _=>?_) _ _|with_reducible refine Le.cI (fun _=>?_) _|(split<;>dsimp only))
theorem iY:∀n b c,Le (bR n b c) (bR (n+1) b c):=by
  intro n;induction n with
  |zero=>intros;exact Le.none _
  |succ n a=>intros;unfold bR;repeat' (first|with_reducible exact a _ _|with_reducible exact jC a _ _ _|with_reducible exact Le.refl _|with_reducible refine Le.bind ?_ (fun _=>?_)|with_reducible refine Le.ite ?_ ?_|with_reducible refine Le.loop (fun _=>?_) _ _|with_reducible refine Le.cI (fun _=>?_) _|(split<;>dsimp only))
end
end Go.Dw.Ix
